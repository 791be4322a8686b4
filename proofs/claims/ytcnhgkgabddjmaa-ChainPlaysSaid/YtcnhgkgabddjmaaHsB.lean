/-
  Sums (2): the iterator over words, where there is one word alone.
-/
import Derived.Test.YtcnhgkgabddjmaaHsA
namespace Go.Proofs.Ytcnhgkgabddjmaa
open Go.RowKit Go.Shelf
attribute [local go_sem] Oper.semAt_some

theorem ChunkF_any (p : Option Addr) (n c : Nat) (w : World) :
    Calls Try.prog 68 #[.slice p n c, .int .i64 7] w fun e w' =>
      e = .returned (.func (.func 87) #[] #[.pointer (some ⟨w.heap.size, 0, none⟩), .pointer (some ⟨w.heap.size + 1, 0, none⟩)]) ∧
      (w.alloc (.cells #[.slice p n c] 37)).alloc (.cells #[.int .i64 7] 3) = w' := by
  go_enter Try.func68, Try.ntmps68
  go_wp2
  go_ret
  exact ⟨rfl, rfl⟩
/-- What the iterator over words holds of its own. -/
structure WdS (B l1 : Nat) (v : Value) (r : LoopState → Option Code → Loop) (st : LoopState) (X : World) : Prop where
  cy : X.heap[B]? = some (.cells #[.func (.yield l1) #[] #[]] 90 (0, 0))
  cs : X.heap[B + 1]? = some (.cells #[v] 37 (0, 0))
  ck : X.heap[B + 2]? = some (.cells #[.int .i64 7] 3 (0, 0))
  df : X.heap[B + 3]? = some (.deferred (some []))
  lp : X.heap[B + 4]? = some (.loop (r st none))
theorem WdS.keep {B l1 : Nat} {v : Value} {r : LoopState → Option Code → Loop} {st : LoopState} {X Y : World} (h : WdS B l1 v r st X) (hk : ∀ k, B ≤ k → k < B + 5 → Y.heap[k]? = X.heap[k]?) : WdS B l1 v r st Y :=
  ⟨(hk _ (by omega) (by omega)).trans h.cy, (hk _ (by omega) (by omega)).trans h.cs, (hk _ (by omega) (by omega)).trans h.ck, (hk _ (by omega) (by omega)).trans h.df, (hk _ (by omega) (by omega)).trans h.lp⟩
theorem WdS.turn {B l1 : Nat} {v : Value} {r : LoopState → Option Code → Loop} {st : LoopState} {X : World} (h : WdS B l1 v r st X) (st' : LoopState) : WdS B l1 v r st' (X.putObj (B + 4) (.loop (r st' none))) :=
  ⟨(World.putObj_heap_other (by omega)).trans h.cy, (World.putObj_heap_other (by omega)).trans h.cs, (World.putObj_heap_other (by omega)).trans h.ck, (World.putObj_heap_other (by omega)).trans h.df, World.putObj_heap_same (Array.getElem?_eq_some_iff.1 h.lp).1⟩
theorem below_put {B : Nat} {w X : World} (h : Below B w X) {k : Nat} (hk : B ≤ k) (hB : B ≤ X.heap.size) (o : Obj) : Below B w (X.putObj k o) :=
  h.grown (grownBy_putObj' X _ _) hB (fun j e => by cases e; exact hk)

set_option maxRecDepth 100000 in
set_option maxHeartbeats 2000000 in
theorem words_in (l1 Bb g n cap : Nat) (bs : List Int) (hn0 : 0 < n) (hn7 : n ≤ 7) (hcap : n ≤ cap) (W : World) (J : World → Prop)
    (hb : W.cell? ⟨Bb, 0, none⟩ = some (.slice (some ⟨g, 0, none⟩) n cap)) (hB : B8 W (some ⟨g, 0, none⟩) n bs)
    (hY : ∀ Y, Below W.heap.size W Y → YieldAt Fence.wide 2 Try.prog l1 #[.int .u64 (wordI bs)] Y fun e Z => e = .returned (.bool true) ∧ J Z ∧ Y.heap.size ≤ Z.heap.size ∧ ∀ k, W.heap.size ≤ k → k < Y.heap.size → Z.heap[k]? = Y.heap[k]?)
    (hJ : ∀ X Y, J X → W.heap.size ≤ X.heap.size → Below W.heap.size X Y → J Y) :
    CallsIn Fence.wide 5 Try.prog 67 #[.func (.yield l1) #[] #[], .pointer (some ⟨Bb, 0, none⟩)] W fun e W' => (∃ v, e = .returned v) ∧ J W' := by
  have hBl : Bb < W.heap.size := cell_lt hb
  refine callsIn_of_wp_marks Try.func67 rfl trivial ?_ rfl
  simp only [Try.ntmps67, List.size_toArray, List.length_cons, List.length_nil, Nat.reduceAdd, Nat.reduceSub, Array.replicate_succ, Array.replicate_zero, List.push_toArray, List.append_toArray, List.nil_append, List.cons_append]
  have hb1 : (W.alloc (.cells #[.func (.yield l1) #[] #[]] 90)).cell? ⟨Bb, 0, none⟩ = some (.slice (some ⟨g, 0, none⟩) n cap) := ((Below.lit W _).cell hBl).trans hb
  gi_wp2_with (refine ⟨trivial, ?_⟩; gi_at_call 68; refine (callsIn_wide.2 (ChunkF_any (some ⟨g, 0, none⟩) n cap _)).mono ?_; rintro e w' ⟨rfl, rfl⟩)
  obtain ⟨W0, hW0⟩ : ∃ W0, ((W.alloc (.cells #[.func (.yield l1) #[] #[]] 90)).alloc (.cells #[.slice (some ⟨g, 0, none⟩) n cap] 37)).alloc (.cells #[.int .i64 7] 3) = W0 := ⟨_, rfl⟩
  have hs : W0.heap.size = W.heap.size + 3 := by rw [← hW0]; simp
  have hbl : Below W.heap.size W W0 := by rw [← hW0]; exact (((Below.refl _ _).alloc (Nat.le_refl _) _).alloc (by simp) _).alloc (by simp; omega) _
  have c0 : W0.heap[W.heap.size]? = some (.cells #[.func (.yield l1) #[] #[]] 90 (0, 0)) := by
    rw [← hW0, Below.heap_alloc _ _ _ (by simp; omega), Below.heap_alloc _ _ _ (by simp), World.alloc_heap_new]
  have c1 : W0.heap[W.heap.size + 1]? = some (.cells #[.slice (some ⟨g, 0, none⟩) n cap] 37 (0, 0)) := by
    rw [← hW0, Below.heap_alloc _ _ _ (by simp)]; have := World.alloc_heap_new (W.alloc (.cells #[.func (.yield l1) #[] #[]] 90)) (.cells #[.slice (some ⟨g, 0, none⟩) n cap] 37); rwa [World.size_alloc] at this
  have c2 : W0.heap[W.heap.size + 2]? = some (.cells #[.int .i64 7] 3 (0, 0)) := by
    rw [← hW0]; have := World.alloc_heap_new ((W.alloc (.cells #[.func (.yield l1) #[] #[]] 90)).alloc (.cells #[.slice (some ⟨g, 0, none⟩) n cap] 37)) (.cells #[.int .i64 7] 3); rwa [World.size_alloc, World.size_alloc] at this
  rw [hW0]
  clear hb1
  refine range_enter rfl (by omega) 87 #[.pointer (some ⟨W.heap.size + 1, 0, none⟩), .pointer (some ⟨W.heap.size + 1 + 1, 0, none⟩)] rfl trivial (enters_of Try.func87 (by kernel_rfl) rfl) ?_
  intro fn hfn
  rw [hs]
  generalize hr : lrec fn _ _ _ _ _ = r
  obtain ⟨W1, hW1⟩ : ∃ W1, ((W0.alloc (.deferred (some []))).alloc (.loop (r .ready none))) = W1 := ⟨_, rfl⟩
  have hD : WdS W.heap.size l1 (.slice (some ⟨g, 0, none⟩) n cap) r .ready W1 := by
    rw [← hW1]
    refine ⟨?_, ?_, ?_, ?_, ?_⟩
    · rw [Below.heap_alloc _ _ _ (by simp; omega), Below.heap_alloc _ _ _ (by omega)]; exact c0
    · rw [Below.heap_alloc _ _ _ (by simp; omega), Below.heap_alloc _ _ _ (by omega)]; exact c1
    · rw [Below.heap_alloc _ _ _ (by simp; omega), Below.heap_alloc _ _ _ (by omega)]; exact c2
    · rw [Below.heap_alloc _ _ _ (by simp; omega)]; have := World.alloc_heap_new W0 (.deferred (some [])); rwa [hs] at this
    · have := World.alloc_heap_new (W0.alloc (.deferred (some []))) (.loop (r .ready none)); rwa [World.size_alloc, hs] at this
  have hbl1 : Below W.heap.size W W1 := by rw [← hW1]; exact (hbl.alloc (by omega) _).alloc (by simp; omega) _
  have hz1 : W.heap.size + 5 ≤ W1.heap.size := (Array.getElem?_eq_some_iff.1 hD.lp).1
  rw [hW1]
  clear hW1 hW0 c0 c1 c2 hbl hs hb
  refine (chunk_in (W.heap.size + 4) (W.heap.size + 1) (W.heap.size + 1 + 1) g n cap hn0 hn7 hcap W1 (fun X => WdS W.heap.size l1 (.slice (some ⟨g, 0, none⟩) n cap) r .ready X ∧ J X ∧ W.heap.size ≤ X.heap.size) (cell_of_one hD.cs) (cell_of_one hD.ck) (fun d => ?round) (fun X hX => ⟨cell_of_one hX.1.cs, cell_of_one hX.1.ck⟩)).mono ?fin
  case round =>
    obtain ⟨X, hX⟩ : ∃ X, Hid (W1.drewN d = X) := ⟨_, Lib.hid rfl⟩
    have hDX : WdS W.heap.size l1 (.slice (some ⟨g, 0, none⟩) n cap) r .ready X := by rw [← hX.out]; exact ⟨hD.cy, hD.cs, hD.ck, hD.df, hD.lp⟩
    have hbX : Below W.heap.size W X := by rw [← hX.out]; exact below_drewN hbl1 d
    have hzX : W.heap.size + 5 ≤ X.heap.size := by rw [← hX.out]; exact hz1
    rw [hX.out]
    have hlp := hDX.lp
    rw [← hr] at hlp
    refine yield_round trivial hlp rfl { tmps := #[.func (.yield l1) #[] #[], .pointer (some ⟨Bb, 0, none⟩), .pointer (some ⟨W.heap.size, 0, none⟩), .slice (some ⟨g, 0, none⟩) n n, undef, undef, undef, .slice (some ⟨g, 0, none⟩) n cap,
                    .func (.func 87) #[] #[.pointer (some ⟨W.heap.size + 1, 0, none⟩), .pointer (some ⟨W.heap.size + 1 + 1, 0, none⟩)],
                    .slice (some ⟨g, 0, none⟩) n n, undef, undef, undef, undef, undef, undef, undef, undef, undef, undef, undef, undef, undef, undef, undef, undef, undef, undef, undef], defers := [] } ?assign ?body
    case assign =>
      intro K hK
      gi_wp2
      exact hK
    case body =>
      rw [hr]
      have hDb := hDX.turn .busy
      have hbb : Below W.heap.size W (X.putObj (W.heap.size + 4) (.loop (r .busy none))) := below_put hbX (by omega) (by omega) _
      have hzb : W.heap.size + 5 ≤ (X.putObj (W.heap.size + 4) (.loop (r .busy none))).heap.size := by simp [World.putObj]; omega
      generalize X.putObj (W.heap.size + 4) (.loop (r .busy none)) = Y at *
      have hBY := hB.below hbb
      gi_wp2
      gi_loopw [4, 12] (fun wv iv wr => ∃ i : Nat, i ≤ n ∧ wv = .int .u64 (wordI (bs.take i)) ∧ iv = .int .i64 i ∧ wr = Y) (fun _ iv _ => n - (intOf iv).toNat)
      case atStart => exact ⟨0, Nat.zero_le _, by rw [List.take_zero]; rfl, rfl, rfl⟩
      case round =>
        obtain ⟨i, hi, rfl, rfl, rfl⟩ := hrel
        by_cases hlt : i < n
        · obtain ⟨hc, hx0, hx1⟩ := hBY.cell hlt
          have it0 : (0 : Int) ≤ (i : Int) := by omega
          have it1 : (i : Int) < (n : Int) := by omega
          have hst := word_take (bs := bs) (i := i) (by rw [hBY.len]; exact hlt)
          have hub := word_bd (bs := bs.take i) fun x hx => hBY.bd x (List.mem_of_mem_take hx)
          rw [List.length_take, Nat.min_eq_left (by rw [hBY.len]; omega)] at hub
          generalize wordI (bs.take i) = u at *
          generalize nth bs i = x at *
          replace hst := Lib.hid (hst.trans (or_word (by omega) hub.1 hub.2 hx0 hx1).symm)
          clear hub
          gi_wp2
          go_roundw
          case rel => exact ⟨i + 1, by omega, by rw [hst.out], by go_num, trivial⟩
          case measure => simp [intOf]; omega
        · obtain rfl : i = n := by omega
          have hfin : Hid (bs.take i = bs) := Lib.hid (List.take_of_length_le (by rw [hBY.len]; omega))
          rw [hfin.out]
          have hcy := cell_of_one hDb.cy
          obtain ⟨fn2, tmps2, assign2, body2, hy, hR⟩ := hY wr hbb
          gi_wp2
          refine RoundIn.mono (F := Fence.wide) hR ?_
          rintro e Z ⟨rfl, hJZ, hsz, hkZ⟩
          have hDZ := hDb.keep (Y := Z) fun k h1 h2 => hkZ k h1 (by omega)
          gi_wp2
          refine ⟨hDZ.lp, rfl, hDZ.turn .ready, hJ _ _ hJZ (by omega) (below_put (Below.refl _ _) (by omega) (by omega) _), by simp [World.putObj]; omega⟩
  case fin =>
    rintro e X ⟨hv, hDX, hJX, hzX⟩
    refine ⟨hv, .inl ⟨hDX.lp, ?_⟩⟩
    have hDe := hDX.turn .exhausted
    have hJe := hJ _ _ hJX hzX (below_put (Below.refl _ _) (k := W.heap.size + 4) (by omega) hzX (.loop (r .exhausted none)))
    have hdf := hDe.df
    have hJ2 := hJ _ _ hJe (by simp [World.putObj]; omega) (below_put (Below.refl _ _) (k := W.heap.size + 3) (by omega) (by simp [World.putObj]; omega) (.deferred none))
    clear hDX hJX hr hD hY hJ hv
    generalize X.putObj (W.heap.size + 4) (.loop (r .exhausted none)) = X2 at *
    gi_wp2
    refine ⟨by simp, .inl ⟨_, _, rfl, run_takeDeferred hdf, ?_⟩⟩
    exact ⟨_, results_none rfl _ _ _, ⟨_, rfl⟩, hJ2⟩
end Go.Proofs.Ytcnhgkgabddjmaa
