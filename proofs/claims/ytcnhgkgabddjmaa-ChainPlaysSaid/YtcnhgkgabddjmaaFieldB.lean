/-
  Powers by a range over a function: what the iterator of squares does for any loop body, and what Pow and Inv return.
-/
import Derived.Test.YtcnhgkgabddjmaaFieldA
import Derived.Test.YtcnhgkgabddjmaaRange
import Derived.RangeFuncNested
import Derived.RangeFuncBound
import Derived.RangeFuncCalls
import Derived.RangeFuncLeaves
import Derived.Shelf.Abstract
import Derived.Shelf.RegionOpen
import Derived.OwnWalkIn
import Derived.TacticsInMore
import Derived.LoopNIn
import Derived.LoopIn
import Derived.Outline
import Derived.OneCell
namespace Go.Proofs.Ytcnhgkgabddjmaa
open Go.RowKit Go.Shelf
attribute [local go_sem] Oper.semAt_some

set_option maxRecDepth 100000 in
theorem squares_any (x n : Int) (w : World) :
    Calls Try.prog 88 #[.int .u64 x, .int .u64 n] w fun e w' =>
      e = .returned (.func (.func 96) #[] #[.pointer (some ⟨w.heap.size, 0, none⟩), .pointer (some ⟨w.heap.size + 1, 0, none⟩)]) ∧
      (w.alloc (.cells #[.int .u64 x] 22)).alloc (.cells #[.int .u64 n] 22) = w' := by
  go_enter Try.func88, Try.ntmps88
  go_wp2
  go_ret
  exact ⟨rfl, rfl⟩

set_option maxRecDepth 100000 in
theorem sq_in (l Ba Bn : Nat) (x : Int) (hx0 : 0 ≤ x) (hx1 : x < 18446744073709551616) (J J' : Nat → F → World → Prop)
    (hJ : ∀ k b W, J k b W → W.cell? ⟨Bn, 0, none⟩ = some (.int .u64 k) ∧ k < 18446744073709551616)
    (hJ' : ∀ k b W, J' k b W → W.cell? ⟨Bn, 0, none⟩ = some (.int .u64 k) ∧ W.frozen? ⟨Bn, 0, none⟩ = false)
    (hY : ∀ k b W, 0 < k → J k b W → YieldAt Fence.wide 3 Try.prog l #[.int .u64 (V b), .bool (bits .and .u64 k 1 == 1)] W fun e W' => e = .returned (.bool true) ∧ J' k b W')
    (hS : ∀ k b W, J' k b W → J (k / 2) (b * b) (W.setCell ⟨Bn, 0, none⟩ (.int .u64 ((k : Int) / 2))))
    (n : Nat) (W : World) (hBa : W.cell? ⟨Ba, 0, none⟩ = some (.int .u64 x)) (h0 : J n (T x) W) :
    CallsIn Fence.wide 4 Try.prog 96 #[.func (.yield l) #[] #[], .pointer (some ⟨Ba, 0, none⟩), .pointer (some ⟨Bn, 0, none⟩)] W fun e W' => (∃ v, e = .returned v) ∧ ∃ b, J 0 b W' := by
  refine callsIn_of_wp Try.func96 rfl trivial ?_ rfl
  simp only [Try.ntmps96, List.size_toArray, List.length_cons, List.length_nil, Nat.reduceAdd, Nat.reduceSub, Array.replicate_succ, Array.replicate_zero, List.push_toArray, List.append_toArray, List.nil_append, List.cons_append]
  gi_wp2_with (refine ⟨trivial, ?_⟩; gi_at_call 62; refine (callsIn_wide.2 (num_any x _ hx0 hx1)).mono ?_; rintro e w' ⟨rfl, rfl⟩)
  gi_loopw [4] (fun p wr => ∃ (k : Nat) (b : F), p = .int .u64 (V b) ∧ J k b wr)
    (fun _ wr => match wr.cell? ⟨Bn, 0, none⟩ with | some (.int _ k) => k.toNat | _ => 0)
  case atStart =>
    exact ⟨n, T x, rfl, h0⟩
  case round =>
    obtain ⟨k, b, rfl, hj⟩ := hrel
    obtain ⟨hc, hk⟩ := hJ k b _ hj
    have b1 := V_lo b
    have b2 := V_hi b
    by_cases hk0 : 0 < k
    · obtain ⟨fn, tmps, assign, body, hy, hR⟩ := hY k b wr hk0 hj
      gi_wp2
      refine hR.mono ?_
      rintro e W3 ⟨rfl, hj3⟩
      obtain ⟨hc3, hf3⟩ := hJ' k b _ hj3
      gi_wp2_with (refine ⟨trivial, ?_⟩; gi_at_call 71; refine (callsIn_wide.2 (mul_any _ _ _ (by omega) (by omega) (by omega) (by omega))).mono ?_; rintro e w' ⟨rfl, rfl⟩)
      go_roundw
      case rel => exact ⟨k / 2, b * b, by rw [T_V], hS k b _ hj3⟩
      case measure => rw [World.cell?_setCell_same' _ _ _ (by rw [hc3]; rfl), hc]; simp; omega
    · obtain rfl : k = 0 := by omega
      have hc0 : wr.cell? ⟨Bn, 0, none⟩ = some (.int .u64 0) := hc
      have hd : decide ((0 : Int) < 0) = false := by decide
      clear hc hk hk0 hJ hJ' hY hS
      repeat gi_step
      refine ⟨fun _ h => (by cases h), ?_⟩
      repeat gi_step
      go_end0
      exact ⟨⟨_, rfl⟩, b, hj⟩

/-- Where Pow stands between two rounds: its number, the iterator's number, the loop's record. -/
structure PowJ (w : World) (r : LoopState → Option Code → Loop) (st : LoopState) (k : Nat) (o : F) (W : World) : Prop where
  co : W.heap[w.heap.size]? = some (.cells #[.int .u64 (V o)] 22 (0, 0))
  cn : W.heap[w.heap.size + 2]? = some (.cells #[.int .u64 k] 22 (0, 0))
  lt : k < 18446744073709551616
  lp : W.heap[w.heap.size + 4]? = some (.loop (r st none))
  df : W.heap[w.heap.size + 3]? = some (.deferred (some []))
  bl : Below w.heap.size w W

theorem PowJ.half {w : World} {r : LoopState → Option Code → Loop} {st : LoopState} {k : Nat} {o : F} {W : World} (h : PowJ w r st k o W) :
    PowJ w r st (k / 2) o (W.setCell ⟨w.heap.size + 2, 0, none⟩ (.int .u64 ((k : Int) / 2))) where
  co := (Below.heap_setCell _ _ _ _ (by simp)).trans h.co
  cn := by have := one_setCell (u := .int .u64 ((k : Int) / 2)) h.cn; rw [this]; rfl
  lt := by have := h.lt; omega
  lp := (Below.heap_setCell _ _ _ _ (by simp)).trans h.lp
  df := (Below.heap_setCell _ _ _ _ (by simp)).trans h.df
  bl := h.bl.setCell (by simp) _
theorem PowJ.store {w : World} {r : LoopState → Option Code → Loop} {st : LoopState} {k : Nat} {o : F} {W : World} (h : PowJ w r st k o W) (o' : F) :
    PowJ w r st k o' (W.setCell ⟨w.heap.size, 0, none⟩ (.int .u64 (V o'))) where
  co := one_setCell h.co
  cn := (Below.heap_setCell _ _ _ _ (by simp)).trans h.cn
  lt := h.lt
  lp := (Below.heap_setCell _ _ _ _ (by simp)).trans h.lp
  df := (Below.heap_setCell _ _ _ _ (by simp)).trans h.df
  bl := h.bl.setCell (by simp) _
theorem PowJ.turn {w : World} {r : LoopState → Option Code → Loop} {st : LoopState} {k : Nat} {o : F} {W : World} (h : PowJ w r st k o W) (st' : LoopState) :
    PowJ w r st' k o (W.putObj (w.heap.size + 4) (.loop (r st' none))) where
  co := (World.putObj_heap_other (by omega)).trans h.co
  cn := (World.putObj_heap_other (by omega)).trans h.cn
  lt := h.lt
  lp := World.putObj_heap_same (Array.getElem?_eq_some_iff.1 h.lp).1
  df := (World.putObj_heap_other (by omega)).trans h.df
  bl := h.bl.grown (grownBy_putObj' W _ _) h.bl.size (fun k e => by cases e; omega)

set_option maxRecDepth 100000 in
theorem pow_in (x : Int) (n : Nat) (w : World) (hx0 : 0 ≤ x) (hx1 : x < 18446744073709551616) (hn1 : n < 18446744073709551616) :
    CallsIn Fence.wide 5 Try.prog 69 #[.int .u64 x, .int .u64 n] w fun e w' => e = .returned (.int .u64 (V (T x ^ n))) ∧ Below w.heap.size w w' := by
  refine callsIn_of_wp_marks Try.func69 rfl trivial ?_ rfl
  simp only [Try.ntmps69, List.size_toArray, List.length_cons, List.length_nil, Nat.reduceAdd, Nat.reduceSub, Array.replicate_succ, Array.replicate_zero, List.push_toArray, List.append_toArray, List.nil_append, List.cons_append]
  gi_wp2_with (refine ⟨trivial, ?_⟩; gi_at_call 88; refine (callsIn_wide.2 (squares_any x n _)).mono ?_; rintro e w' ⟨rfl, rfl⟩)
  obtain ⟨W0, hW0⟩ : ∃ W0, ((w.alloc (.cells #[.int .u64 1] 22)).alloc (.cells #[.int .u64 x] 22)).alloc (.cells #[.int .u64 n] 22) = W0 := ⟨_, rfl⟩
  have hs : W0.heap.size = w.heap.size + 3 := by rw [← hW0]; simp
  have hb : Below w.heap.size w W0 := by rw [← hW0]; exact (((Below.refl _ _).alloc (Nat.le_refl _) _).alloc (by simp) _).alloc (by simp; omega) _
  have c0 : W0.heap[w.heap.size]? = some (.cells #[.int .u64 (V 1)] 22 (0, 0)) := by
    rw [← hW0, Below.heap_alloc _ _ _ (by simp; omega), Below.heap_alloc _ _ _ (by simp), World.alloc_heap_new]; rfl
  have c1 : W0.heap[w.heap.size + 1]? = some (.cells #[.int .u64 x] 22 (0, 0)) := by
    rw [← hW0, Below.heap_alloc _ _ _ (by simp)]; have := World.alloc_heap_new (w.alloc (.cells #[.int .u64 1] 22)) (.cells #[.int .u64 x] 22); rwa [World.size_alloc] at this
  have c2 : W0.heap[w.heap.size + 2]? = some (.cells #[.int .u64 n] 22 (0, 0)) := by
    rw [← hW0]; have := World.alloc_heap_new ((w.alloc (.cells #[.int .u64 1] 22)).alloc (.cells #[.int .u64 x] 22)) (.cells #[.int .u64 n] 22); rwa [World.size_alloc, World.size_alloc] at this
  rw [hW0]
  refine range_enter rfl (by omega) 96 #[.pointer (some ⟨w.heap.size + 1, 0, none⟩), .pointer (some ⟨w.heap.size + 1 + 1, 0, none⟩)] rfl trivial (enters_of Try.func96 (by kernel_rfl) rfl) ?_
  intro fn hfn
  rw [hs]
  generalize hr : lrec fn _ _ _ _ _ = r
  have hJ0 : PowJ w r .ready n 1 ((W0.alloc (.deferred (some []))).alloc (.loop (r .ready none))) := by
    refine ⟨?_, ?_, hn1, ?_, ?_, ?_⟩
    · rw [Below.heap_alloc _ _ _ (by simp; omega), Below.heap_alloc _ _ _ (by omega)]; exact c0
    · rw [Below.heap_alloc _ _ _ (by simp; omega), Below.heap_alloc _ _ _ (by omega)]; exact c2
    · have := World.alloc_heap_new (W0.alloc (.deferred (some []))) (.loop (r .ready none)); rwa [World.size_alloc, hs] at this
    · rw [Below.heap_alloc _ _ _ (by simp; omega)]; have := World.alloc_heap_new W0 (.deferred (some [])); rwa [hs] at this
    · exact (hb.alloc (by omega) _).alloc (by simp; omega) _
  have hx : ((W0.alloc (.deferred (some []))).alloc (.loop (r .ready none))).cell? ⟨w.heap.size + 1, 0, none⟩ = some (.int .u64 x) :=
    cell_of_one (t := 22) (by rw [Below.heap_alloc _ _ _ (by simp; omega), Below.heap_alloc _ _ _ (by omega)]; exact c1)
  refine (sq_in (w.heap.size + 4) (w.heap.size + 1) (w.heap.size + 1 + 1) x hx0 hx1
    (fun k b W => ∃ o, PowJ w r .ready k o W ∧ o * b ^ k = T x ^ n)
    (fun k b W => ∃ o, PowJ w r .ready k o W ∧ o * (b * b) ^ (k / 2) = T x ^ n)
    (fun k b W ⟨o, h, _⟩ => ⟨cell_of_one h.cn, h.lt⟩) (fun k b W ⟨o, h, _⟩ => ⟨cell_of_one h.cn, free_of_one h.cn⟩)
    ?round (fun k b W ⟨o, h, ho⟩ => ⟨o, h.half, ho⟩) n _ hx ⟨1, hJ0, by grind⟩).mono ?_
  case round =>
    rintro k b W hk ⟨o, h, ho⟩
    have hh := h.turn .busy
    have o1 := V_lo o
    have o2 := V_hi o
    have b1 := V_lo b
    have b2 := V_hi b
    have hc := cell_of_one hh.co
    have hf := free_of_one hh.co
    have hlp := h.lp
    have hlb := hh.lp
    have hlt := h.lt
    rw [← hr] at hlp
    refine yield_round trivial hlp rfl { tmps := #[.int .u64 x, .int .u64 n, undef, undef, .int .u64 0, .pointer (some ⟨w.heap.size, 0, none⟩), .int .u64 (V b), .bool (bits .and .u64 k 1 == 1), .int .u64 x,
                    .int .u64 n, .func (.func 96) #[] #[.pointer (some ⟨w.heap.size + 1, 0, none⟩), .pointer (some ⟨w.heap.size + 1 + 1, 0, none⟩)],
                    .int .u64 (V b), .bool (bits .and .u64 k 1 == 1), undef, undef, undef, undef, undef], defers := [] } ?assign ?body
    case assign =>
      intro K hK
      gi_wp2
      exact hK
    case body =>
      rw [hr]
      by_cases hodd : k % 2 = 1
      · have hs := Lib.hid ((pow_step_odd o b k hodd).trans ho)
        have t1 : (bits .and .u64 k 1 == 1) = true := by rw [mask1 _ (by omega) (by omega), beq_iff_eq]; omega
        rw [t1]
        clear ho hodd t1 hlp hlb
        gi_wp2_with (refine ⟨trivial, ?_⟩; gi_at_call 71; refine (CallsIn.inRound _ (callsIn_wide.2 (mul_any _ _ _ (by omega) (by omega) (by omega) (by omega)))).mono ?_; rintro e w' ⟨rfl, rfl⟩)
        rw [T_V, T_V]
        exact ⟨(hh.store _).lp, rfl, o * b, (hh.store _).turn .ready, hs.out⟩
      · have hs := Lib.hid ((pow_step_even o b k (by omega)).trans ho)
        have t1 : (bits .and .u64 k 1 == 1) = false := by rw [mask1 _ (by omega) (by omega), beq_eq_false_iff_ne]; omega
        rw [t1]
        clear ho hodd t1 hlp hlb
        gi_wp2
        exact ⟨hh.lp, rfl, o, hh.turn .ready, hs.out⟩
  · rintro e W ⟨hv, b, o, h, ho⟩
    have hh := h.turn .exhausted
    have hc := cell_of_one hh.co
    have hdf := hh.df
    have hbl := hh.bl
    have hs : Hid (o = T x ^ n) := Lib.hid (by rw [← ho]; grind)
    refine ⟨hv, .inl ⟨h.lp, ?_⟩⟩
    clear ho h hr hb c0 c1 c2 hJ0 hx hv
    generalize W.putObj (w.heap.size + 4) (.loop (r .exhausted none)) = W2 at *
    gi_wp2
    refine ⟨by simp, .inl ⟨_, _, rfl, run_takeDeferred hdf, ?_⟩⟩
    rw [hs.out]
    exact ⟨_, results_tmp rfl _ _ _, rfl, hbl.grown (grownBy_putObj' W2 _ _) hbl.size (fun k e => by cases e; omega)⟩

theorem pow_any (x n : Int) (w : World) (hx0 : 0 ≤ x) (hx1 : x < 18446744073709551616) (hn0 : 0 ≤ n) (hn1 : n < 18446744073709551616) :
    Calls Try.prog 69 #[.int .u64 x, .int .u64 n] w fun e w' => e = .returned (.int .u64 (V (T x ^ n.toNat))) ∧ Below w.heap.size w w' := by
  have h := callsIn_wide.1 (pow_in x n.toNat w hx0 hx1 (by omega))
  rwa [Int.toNat_of_nonneg hn0] at h
end Go.Proofs.Ytcnhgkgabddjmaa
