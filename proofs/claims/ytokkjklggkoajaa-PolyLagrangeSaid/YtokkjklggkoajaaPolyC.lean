/-
  The contracts of the program's polynomials (3): values, by a range over a slice from its end.
-/
import Derived.Test.YtokkjklggkoajaaPolyB
import Derived.Test.YtokkjklggkoajaaRange
import Derived.Shelf.Abstract
import Derived.Shelf.RegionOpen
import Derived.OwnWalkIn
import Derived.TacticsInMore
import Derived.LoopNIn
import Derived.LoopIn
import Derived.OneCell
namespace Go.Proofs.Ytokkjklggkoajaa
open Go.RowKit Go.Shelf
attribute [local go_sem] T_V Oper.semAt_some

set_option maxRecDepth 100000 in
theorem back_any (p : Option Addr) (n c : Nat) (w : World) :
    Calls Try.prog 50 #[.slice p n c] w fun e w' =>
      e = .returned (.func (.func 63) #[] #[.pointer (some ⟨w.heap.size, 0, none⟩)]) ∧ w.alloc (.cells #[.slice p n c] 22) = w' := by
  go_enter Try.func50, Try.ntmps50
  go_wp2
  go_ret
  exact ⟨rfl, rfl⟩

set_option maxRecDepth 100000 in
theorem back_in (l Bs : Nat) (p : Option Addr) (n : Nat) (xs : List Int) (c : Nat) (hn : n ≤ 9223372036854775807) (J : Nat → World → Prop)
    (hJ : ∀ k W, J k W → W.cell? ⟨Bs, 0, none⟩ = some (.slice p n c) ∧ U W p n xs)
    (hY : ∀ k W, k < n → J (k + 1) W → YieldAt Fence.wide 3 Try.prog l #[.int .i64 k, .int .u64 (nth xs k)] W fun e W' => e = .returned (.bool true) ∧ J k W')
    (W : World) (h0 : J n W) :
    CallsIn Fence.wide 4 Try.prog 63 #[.func (.yield l) #[] #[], .pointer (some ⟨Bs, 0, none⟩)] W fun e W' => (∃ v, e = .returned v) ∧ J 0 W' := by
  have hs := (hJ _ _ h0).1
  refine callsIn_of_wp Try.func63 rfl trivial ?_ rfl
  simp only [Try.ntmps63, List.size_toArray, List.length_cons, List.length_nil, Nat.reduceAdd, Nat.reduceSub, Array.replicate_succ, Array.replicate_zero, List.push_toArray, List.append_toArray, List.nil_append, List.cons_append]
  replace hJ := Lib.hid hJ
  replace hY := Lib.hid hY
  gi_wp2
  gi_loopw [3] (fun i wr => ∃ k : Nat, k ≤ n ∧ i = .int .i64 ((k : Int) - 1) ∧ J k wr)
    (fun i _ => (intOf i + 1).toNat)
  case atStart =>
    exact ⟨n, Nat.le_refl _, rfl, h0⟩
  case round =>
    clear hs h0
    obtain ⟨k, hk, rfl, hj⟩ := hrel
    obtain ⟨hs, hU⟩ := hJ.out k _ hj
    by_cases hk0 : 0 < k
    · obtain ⟨j, rfl⟩ : ∃ j, k = j + 1 := ⟨k - 1, by omega⟩
      obtain ⟨b, off, rfl, hb, hcell, _, _⟩ := hU.look (i := j) (by omega)
      obtain ⟨fn, tmps, assign, body, hy, hR⟩ := hY.out j wr (by omega) hj
      have e1 : ((j + 1 : Nat) : Int) - 1 = (j : Int) := by omega
      rw [e1]
      gi_wp2
      refine hR.mono ?_
      rintro e W3 ⟨rfl, hj3⟩
      gi_wp2
      go_roundw
      case rel => exact ⟨j, by omega, rfl, hj3⟩
      case measure => simp [intOf]
    · obtain rfl : k = 0 := by omega
      have e1 : ((0 : Nat) : Int) - 1 = -1 := by omega
      rw [e1]
      gi_wp2
      go_end0
      exact ⟨⟨_, rfl⟩, hj⟩

/-- Where Eval stands between two rounds. -/
structure EvalJ (w : World) (p : Option Addr) (n c : Nat) (x : Int) (r : LoopState → Option Code → Loop) (st : LoopState) (o : F) (W : World) : Prop where
  cx : W.heap[w.heap.size]? = some (.cells #[.int .u64 x] 23 (0, 0))
  co : W.heap[w.heap.size + 1]? = some (.cells #[.int .u64 (V o)] 23 (0, 0))
  cs : W.heap[w.heap.size + 2]? = some (.cells #[.slice p n c] 22 (0, 0))
  lp : W.heap[w.heap.size + 4]? = some (.loop (r st none))
  df : W.heap[w.heap.size + 3]? = some (.deferred (some []))
  bl : Below w.heap.size w W
theorem EvalJ.store {w : World} {p : Option Addr} {n c : Nat} {x : Int} {r : LoopState → Option Code → Loop} {st : LoopState} {o : F} {W : World} (h : EvalJ w p n c x r st o W) (o' : F) :
    EvalJ w p n c x r st o' (W.setCell ⟨w.heap.size + 1, 0, none⟩ (.int .u64 (V o'))) where
  cx := (Below.heap_setCell _ _ _ _ (by simp)).trans h.cx
  co := one_setCell h.co
  cs := (Below.heap_setCell _ _ _ _ (by simp)).trans h.cs
  lp := (Below.heap_setCell _ _ _ _ (by simp)).trans h.lp
  df := (Below.heap_setCell _ _ _ _ (by simp)).trans h.df
  bl := h.bl.setCell (by simp) _
theorem EvalJ.turn {w : World} {p : Option Addr} {n c : Nat} {x : Int} {r : LoopState → Option Code → Loop} {st : LoopState} {o : F} {W : World} (h : EvalJ w p n c x r st o W) (st' : LoopState) :
    EvalJ w p n c x r st' o (W.putObj (w.heap.size + 4) (.loop (r st' none))) where
  cx := (World.putObj_heap_other (by omega)).trans h.cx
  co := (World.putObj_heap_other (by omega)).trans h.co
  cs := (World.putObj_heap_other (by omega)).trans h.cs
  lp := World.putObj_heap_same (Array.getElem?_eq_some_iff.1 h.lp).1
  df := (World.putObj_heap_other (by omega)).trans h.df
  bl := h.bl.grown (grownBy_putObj' W _ _) h.bl.size (fun k e => by cases e; omega)

theorem ev_step (xs : List Int) (x : F) (k : Nat) (h : k < xs.length) : ev ((xs.map T).drop k) x = ev ((xs.map T).drop (k + 1)) x * x + T (nth xs k) := by
  rw [ev_drop _ _ _ (by simpa using h), coef_lt (by simpa using h), List.getElem_map, nth_eq h]

set_option maxRecDepth 100000 in
theorem eval_in (p : Option Addr) (n : Nat) (xs : List Int) (c : Nat) (x : Int) (w : World) (hU : U w p n xs) (hn : n ≤ 9223372036854775807) (hx0 : 0 ≤ x) (hx1 : x < 18446744073709551616) :
    CallsIn Fence.wide 5 Try.prog 20 #[.slice p n c, .int .u64 x] w fun e w' => e = .returned (.int .u64 (V (ev (xs.map T) (T x)))) ∧ Below w.heap.size w w' := by
  refine callsIn_of_wp_marks Try.func20 rfl trivial ?_ rfl
  simp only [Try.ntmps20, List.size_toArray, List.length_cons, List.length_nil, Nat.reduceAdd, Nat.reduceSub, Array.replicate_succ, Array.replicate_zero, List.push_toArray, List.append_toArray, List.nil_append, List.cons_append]
  gi_wp2_with (refine ⟨trivial, ?_⟩; gi_at_call 50; refine (callsIn_wide.2 (back_any p n c _)).mono ?_; rintro e w' ⟨rfl, rfl⟩)
  obtain ⟨W0, hW0⟩ : ∃ W0, ((w.alloc (.cells #[.int .u64 x] 23)).alloc (.cells #[.int .u64 0] 23)).alloc (.cells #[.slice p n c] 22) = W0 := ⟨_, rfl⟩
  have hs : W0.heap.size = w.heap.size + 3 := by rw [← hW0]; simp
  have hb : Below w.heap.size w W0 := by rw [← hW0]; exact (((Below.refl _ _).alloc (Nat.le_refl _) _).alloc (by simp) _).alloc (by simp; omega) _
  have c0 : W0.heap[w.heap.size]? = some (.cells #[.int .u64 x] 23 (0, 0)) := by
    rw [← hW0, Below.heap_alloc _ _ _ (by simp; omega), Below.heap_alloc _ _ _ (by simp), World.alloc_heap_new]
  have c1 : W0.heap[w.heap.size + 1]? = some (.cells #[.int .u64 (V 0)] 23 (0, 0)) := by
    rw [← hW0, Below.heap_alloc _ _ _ (by simp)]; have := World.alloc_heap_new (w.alloc (.cells #[.int .u64 x] 23)) (.cells #[.int .u64 0] 23); rwa [World.size_alloc] at this
  have c2 : W0.heap[w.heap.size + 2]? = some (.cells #[.slice p n c] 22 (0, 0)) := by
    rw [← hW0]; have := World.alloc_heap_new ((w.alloc (.cells #[.int .u64 x] 23)).alloc (.cells #[.int .u64 0] 23)) (.cells #[.slice p n c] 22); rwa [World.size_alloc, World.size_alloc] at this
  rw [hW0]
  refine range_enter rfl (by omega) 63 #[.pointer (some ⟨w.heap.size + 1 + 1, 0, none⟩)] rfl trivial (enters_of Try.func63 (by kernel_rfl) rfl) ?_
  intro fn hfn
  rw [hs]
  generalize hr : lrec fn _ _ _ _ _ = r
  have hJ0 : EvalJ w p n c x r .ready 0 ((W0.alloc (.deferred (some []))).alloc (.loop (r .ready none))) := by
    refine ⟨?_, ?_, ?_, ?_, ?_, ?_⟩
    · rw [Below.heap_alloc _ _ _ (by simp; omega), Below.heap_alloc _ _ _ (by omega)]; exact c0
    · rw [Below.heap_alloc _ _ _ (by simp; omega), Below.heap_alloc _ _ _ (by omega)]; exact c1
    · rw [Below.heap_alloc _ _ _ (by simp; omega), Below.heap_alloc _ _ _ (by omega)]; exact c2
    · have := World.alloc_heap_new (W0.alloc (.deferred (some []))) (.loop (r .ready none)); rwa [World.size_alloc, hs] at this
    · rw [Below.heap_alloc _ _ _ (by simp; omega)]; have := World.alloc_heap_new W0 (.deferred (some [])); rwa [hs] at this
    · exact (hb.alloc (by omega) _).alloc (by simp; omega) _
  refine (back_in (w.heap.size + 4) (w.heap.size + 1 + 1) p n xs c hn
    (fun k W => EvalJ w p n c x r .ready (ev ((xs.map T).drop k) (T x)) W)
    (fun k W h => ⟨cell_of_one h.cs, hU.below h.bl⟩)
    ?round _ (by rw [List.drop_of_length_le (by simp [hU.len])]; exact hJ0)).mono ?_
  case round =>
    rintro k W hk h
    have hh := h.turn .busy
    have hxk := hU.look_bd hk
    have hxc := cell_of_one hh.cx
    have hc := cell_of_one hh.co
    have hf := free_of_one hh.co
    have hlp := h.lp
    have hstep := Lib.hid (ev_step xs (T x) k (by rw [hU.len]; exact hk))
    rw [← hr] at hlp
    refine yield_round trivial hlp rfl { tmps := #[.slice p n c, .int .u64 x, undef, .pointer (some ⟨w.heap.size, 0, none⟩), .int .u64 0, .pointer (some ⟨w.heap.size + 1, 0, none⟩), undef, .int .u64 (nth xs k), .slice p n c,
                    .func (.func 63) #[] #[.pointer (some ⟨w.heap.size + 1 + 1, 0, none⟩)], .int .i64 k, .int .u64 (nth xs k), undef, undef, undef, undef, undef, undef], defers := [] } ?assign ?body
    case assign =>
      intro K hK
      gi_wp2
      exact hK
    case body =>
      rw [hr]
      clear hlp
      generalize ev ((xs.map T).drop (k + 1)) (T x) = o at *
      gi_wp2_with (first
        | (refine ⟨trivial, ?_⟩; gi_at_call 39; refine (CallsIn.inRound _ (callsIn_wide.2 (mul_any _ _ _ (V_lo _) (V_64 _) hx0 hx1))).mono ?_; rintro e w' ⟨rfl, rfl⟩)
        | (refine ⟨trivial, ?_⟩; gi_at_call 38; refine (CallsIn.inRound _ (callsIn_wide.2 (add_any _ _ _ (V_lo _) (V_64 _) hxk.1 hxk.2))).mono ?_; rintro e w' ⟨rfl, rfl⟩))
      refine ⟨(hh.store _).lp, rfl, ?_⟩
      rw [hstep.out]
      exact (hh.store _).turn .ready
  · rintro e W ⟨hv, h⟩
    have hh := h.turn .exhausted
    have hc := cell_of_one hh.co
    have hdf := hh.df
    have hbl := hh.bl
    refine ⟨hv, .inl ⟨h.lp, ?_⟩⟩
    clear h hr hb c0 c1 c2 hJ0 hv
    generalize W.putObj (w.heap.size + 4) (.loop (r .exhausted none)) = W2 at *
    gi_wp2
    refine ⟨by simp, .inl ⟨_, _, rfl, run_takeDeferred hdf, ?_⟩⟩
    exact ⟨_, results_tmp rfl _ _ _, rfl, hbl.grown (grownBy_putObj' W2 _ _) hbl.size (fun k e => by cases e; omega)⟩

theorem Eval_any (p : Option Addr) (n : Nat) (xs : List Int) (c : Nat) (x : Int) (w : World) (hU : U w p n xs) (hn : n ≤ 9223372036854775807) (hx0 : 0 ≤ x) (hx1 : x < 18446744073709551616) :
    Calls Try.prog 20 #[.slice p n c, .int .u64 x] w fun e w' => e = .returned (.int .u64 (V (ev (xs.map T) (T x)))) ∧ Below w.heap.size w w' :=
  callsIn_wide.1 (eval_in p n xs c x w hU hn hx0 hx1)
end Go.Proofs.Ytokkjklggkoajaa
