/-
  Sums (4): the sum of a label and some numbers, as the program makes it.
-/
import Derived.Test.YtcnhgkgabddjmaaHsC
namespace Go.Proofs.Ytcnhgkgabddjmaa
open Go.RowKit Go.Shelf
attribute [local go_sem] Oper.semAt_some

/-- A state that takes words. -/
def hrun : F → Nat → List Int → F
  | s, _, [] => s
  | s, k, x :: xs => hrun (stepF s k x) (k + 1) xs
theorem hrun_snoc (s : F) (k : Nat) (xs : List Int) (x : Int) : hrun s k (xs ++ [x]) = stepF (hrun s k xs) (k + xs.length) x := by
  induction xs generalizing s k with
  | nil => rfl
  | cons y ys ih => rw [List.cons_append, hrun, hrun, ih, List.length_cons, show k + 1 + ys.length = k + (ys.length + 1) by omega]
/-- What is taken in, of a label's bytes and some numbers. -/
def hwords (bs xs : List Int) : List Int := [wordI bs, (xs.length : Int)] ++ xs.map (fun x => V (T x)) ++ [0]
/-- The sum. -/
def hashF (bs xs : List Int) : F := hrun (T bs.length) 0 (hwords bs xs)
theorem wordsF_any (p : Option Addr) (n c : Nat) (w : World) :
    Calls Try.prog 60 #[.slice p n c] w fun e w' =>
      e = .returned (.func (.func 67) #[] #[.pointer (some ⟨w.heap.size, 0, none⟩)]) ∧ w.alloc (.cells #[.slice p n c] 37) = w' := by
  go_enter Try.func60, Try.ntmps60
  go_wp2
  go_ret
  exact ⟨rfl, rfl⟩
/-- Where Of stands. -/
structure OfJ (w : World) (r : LoopState → Option Code → Loop) (st : LoopState) (s : F) (k : Nat) (X : World) : Prop where
  sb : StB X w.heap.size s k
  df : X.heap[w.heap.size + 3]? = some (.deferred (some []))
  lp : X.heap[w.heap.size + 4]? = some (.loop (r st none))
  bl : Below w.heap.size w X
theorem OfJ.keep {w : World} {r : LoopState → Option Code → Loop} {st : LoopState} {s : F} {k : Nat} {X Y : World} (h : OfJ w r st s k X) (hb : Below (w.heap.size + 5) X Y) : OfJ w r st s k Y :=
  ⟨h.sb.keep (hb.block _ (by omega)), (hb.block _ (by omega)).trans h.df, (hb.block _ (by omega)).trans h.lp, h.bl.trans (hb.mono (by omega))⟩
theorem OfJ.turn {w : World} {r : LoopState → Option Code → Loop} {st : LoopState} {s : F} {k : Nat} {X : World} (h : OfJ w r st s k X) (st' : LoopState) : OfJ w r st' s k (X.putObj (w.heap.size + 4) (.loop (r st' none))) :=
  ⟨h.sb.keep (World.putObj_heap_other (by omega)), (World.putObj_heap_other (by omega)).trans h.df, World.putObj_heap_same (Array.getElem?_eq_some_iff.1 h.lp).1, below_put h.bl (by omega) h.bl.size _⟩
theorem OfJ.took {w : World} {r : LoopState → Option Code → Loop} {st : LoopState} {s s' : F} {k k' : Nat} {X Y : World} (h : OfJ w r st s k X) (hS : StB Y w.heap.size s' k') (hg : X.grownBy Y (some w.heap.size)) : OfJ w r st s' k' Y :=
  have hlt := (Array.getElem?_eq_some_iff.1 h.lp).1
  have hs := h.bl.size
  ⟨hS, (hg.block _ (by omega) (fun e => by injection e with e; omega)).trans h.df, (hg.block _ hlt (fun e => by injection e with e; omega)).trans h.lp, h.bl.grown hg hs (fun k e => by cases e; omega)⟩

set_option maxRecDepth 100000 in
set_option maxHeartbeats 4000000 in
theorem hOf_in (lab : ByteArray) (p : Option Addr) (n c : Nat) (xs : List Int) (w : World) (hl0 : 0 < lab.size) (hl7 : lab.size ≤ 7) (hX : U w p n xs) (hn : n ≤ 1000000) :
    CallsIn Fence.wide 6 Try.prog 49 #[.string lab, .slice p n c] w fun e w' => e = .returned (.int .u64 (V (hashF (bytesI lab) xs))) ∧ Below w.heap.size w w' := by
  have hconv : ∀ W, (convert 9 37 (.string lab)).run Try.prog W = .ok (.slice (some ⟨W.heap.size, 0, none⟩) lab.size (grownCap W lab.size 0 5)) (Lib.bytesWorld W 5 lab) := fun W =>
    Lib.run_convert_string_bytes W 9 37 5 lab Try.underlying9 Try.underlying37 Try.underlying5
  refine callsIn_of_wp_marks Try.func49 rfl trivial ?_ rfl
  simp only [Try.ntmps49, List.size_toArray, List.length_cons, List.length_nil, Nat.reduceAdd, Nat.reduceSub, Array.replicate_succ, Array.replicate_zero, List.push_toArray, List.append_toArray, List.nil_append, List.cons_append]
  gi_wp2_with (refine ⟨trivial, ?_⟩; gi_at_call 60; refine (callsIn_wide.2 (wordsF_any _ _ _ _)).mono ?_; rintro e w' ⟨rfl, rfl⟩)
  have hSa : StB (w.alloc (.cells #[.int .u64 lab.size, .int .u64 0] 105)) w.heap.size (T lab.size) 0 := by
    unfold StB
    rw [World.alloc_heap_new, T_small _ (by omega) (by omega)]; rfl
  have hba := Below.lit w (.cells #[.int .u64 lab.size, .int .u64 0] 105)
  have hza : (w.alloc (.cells #[.int .u64 lab.size, .int .u64 0] 105)).heap.size = w.heap.size + 1 := World.size_alloc _ _
  generalize w.alloc (.cells #[.int .u64 lab.size, .int .u64 0] 105) = Wa at *
  have hbb := bytesI_below Wa lab
  have hB := bytesI_new Wa lab
  have hzb := Lib.bytesWorld_size Wa 5 lab
  have hcap := grownCap_ge Wa lab.size 0 5
  generalize grownCap Wa lab.size 0 5 = cap at *
  clear hconv
  generalize Lib.bytesWorld Wa 5 lab = Wb at *
  rw [hza] at hB hzb hbb
  rw [hzb]
  have hSb := hSa.keep (hbb.block w.heap.size (by omega))
  have hbw := hba.trans (hbb.mono (by omega))
  obtain ⟨W0, hW0⟩ : ∃ W0, Wb.alloc (.cells #[.slice (some ⟨w.heap.size + 1, 0, none⟩) lab.size cap] 37) = W0 := ⟨_, rfl⟩
  have hs : W0.heap.size = w.heap.size + 3 := by rw [← hW0, World.size_alloc, hzb]
  have hb0 := Below.lit Wb (.cells #[.slice (some ⟨w.heap.size + 1, 0, none⟩) lab.size cap] 37)
  have c2 : W0.heap[w.heap.size + 2]? = some (.cells #[.slice (some ⟨w.heap.size + 1, 0, none⟩) lab.size cap] 37 (0, 0)) := by
    rw [← hW0]; have := World.alloc_heap_new Wb (.cells #[.slice (some ⟨w.heap.size + 1, 0, none⟩) lab.size cap] 37); rwa [hzb] at this
  rw [hW0] at hb0 ⊢
  have hS0 := hSb.keep (hb0.block w.heap.size (by omega))
  have hB0 := hB.below hb0
  have hbw0 := hbw.trans (hb0.mono (by omega))
  clear hW0 hSa hSb hB hbw hba hbb hb0 hza hzb
  refine range_enter rfl (by omega) 67 #[.pointer (some ⟨w.heap.size + 1 + 1, 0, none⟩)] rfl trivial (enters_of Try.func67 (by kernel_rfl) rfl) ?_
  intro fn hfn
  rw [hs]
  generalize hr : lrec fn _ _ _ _ _ = r
  obtain ⟨W1, hW1⟩ : ∃ W1, ((W0.alloc (.deferred (some []))).alloc (.loop (r .ready none))) = W1 := ⟨_, rfl⟩
  have hz1 : W1.heap.size = w.heap.size + 5 := by rw [← hW1]; simp; omega
  have hb01 : Below W0.heap.size W0 W1 := by rw [← hW1]; exact (Below.lit W0 _).alloc (by simp) _
  have hO : OfJ w r .ready (T lab.size) 0 W1 := by
    refine ⟨hS0.keep (hb01.block _ (by omega)), ?_, ?_, hbw0.trans (hb01.mono (by omega))⟩
    · rw [← hW1, Below.heap_alloc _ _ _ (by simp; omega)]; have := World.alloc_heap_new W0 (.deferred (some [])); rwa [hs] at this
    · rw [← hW1]; have := World.alloc_heap_new (W0.alloc (.deferred (some []))) (.loop (r .ready none)); rwa [World.size_alloc, hs] at this
  have hc1 : W1.cell? ⟨w.heap.size + 1 + 1, 0, none⟩ = some (.slice (some ⟨w.heap.size + 1, 0, none⟩) lab.size cap) := cell_of_one (t := 37) ((hb01.block (w.heap.size + 2) (by omega)).trans c2)
  have hB1 := hB0.below hb01
  rw [hW1]
  clear hW1 c2 hB0 hS0 hb01 hbw0 hs
  refine (words_in (w.heap.size + 4) (w.heap.size + 1 + 1) (w.heap.size + 1) lab.size cap (bytesI lab) hl0 hl7 hcap W1 (fun X => OfJ w r .ready (stepF (T lab.size) 0 (wordI (bytesI lab))) 1 X) hc1 hB1 (fun Y hYb => ?round) (fun X Y hX hz hb => hX.keep (by rw [hz1] at hb; exact hb))).mono ?fin
  case round =>
    have hOY := hO.keep (Y := Y) (by rw [hz1] at hYb; exact hYb)
    have hzY := hYb.size
    have hlp := hOY.lp
    rw [← hr] at hlp
    refine yield_round trivial hlp rfl { tmps := #[.string lab, .slice p n c, undef, undef, .int .u64 0, .pointer (some ⟨w.heap.size, 0, none⟩), .int .u64 (wordI (bytesI lab)), undef, undef, .string lab, .int .i64 lab.size, .int .u64 lab.size, .agg #[.int .u64 lab.size, .int .u64 0], .string lab, .slice (some ⟨w.heap.size + 1, 0, none⟩) lab.size cap,
                    .func (.func 67) #[] #[.pointer (some ⟨w.heap.size + 1 + 1, 0, none⟩)], .int .u64 (wordI (bytesI lab)),
                    undef, undef, undef, undef, undef, undef, undef, undef, undef, undef, undef, undef, undef, undef, undef, undef, undef, undef, undef, undef, undef, undef, undef], defers := [] } ?assign ?body
    case assign =>
      intro K hK
      gi_wp2
      exact hK
    case body =>
      rw [hr]
      have hOb := hOY.turn .busy
      have hkb : ∀ k, w.heap.size + 5 ≤ k → k < Y.heap.size → (Y.putObj (w.heap.size + 4) (.loop (r .busy none))).heap[k]? = Y.heap[k]? := fun k h1 h2 => World.putObj_heap_other (by omega)
      have hzb : (Y.putObj (w.heap.size + 4) (.loop (r .busy none))).heap.size = Y.heap.size := by simp [World.putObj]
      generalize Y.putObj (w.heap.size + 4) (.loop (r .busy none)) = Y2 at *
      have hz5 : w.heap.size + 5 ≤ Y2.heap.size := by omega
      replace hzb := Lib.hid hzb
      have hwd := word_bd (bytesI_bd lab)
      rw [bytesI_len] at hwd
      have hw7 : (256 : Int) ^ lab.size ≤ 72057594037927936 := by
        rcases (by omega : lab.size = 1 ∨ lab.size = 2 ∨ lab.size = 3 ∨ lab.size = 4 ∨ lab.size = 5 ∨ lab.size = 6 ∨ lab.size = 7) with h | h | h | h | h | h | h <;> rw [h] <;> decide
      have hx1 : wordI (bytesI lab) + ((0 : Nat) + 1) < 18446744073709551616 := by omega
      have hbl := Below.lit Y2 (.cells #[.int .u64 (wordI (bytesI lab))] 22)
      have hOl := hOb.keep (hbl.mono hz5)
      have hcl : (Y2.alloc (.cells #[.int .u64 (wordI (bytesI lab))] 22)).cell? ⟨Y2.heap.size, 0, none⟩ = some (.int .u64 (wordI (bytesI lab))) := (Arr.new Y2 22 [.int .u64 (wordI (bytesI lab))]).cell (i := 0) (by simp)
      have hzl := hbl.size
      gi_wp2_with (refine ⟨trivial, ?_⟩; gi_at_call 61; refine (CallsIn.inRound _ (callsIn_wide.2 (take_any w.heap.size Y2.heap.size 0 (T lab.size) (wordI (bytesI lab)) _ hOl.sb hcl hwd.1 hx1))).mono ?_; rintro e Z ⟨⟨v, rfl⟩, hSZ, hgZ⟩)
      have hOZ := hOl.took hSZ hgZ
      have hzZ := hgZ.size
      have hzb' := hzb.out
      have hzl' : Y2.heap.size ≤ Z.heap.size := by omega
      have hzf : (Z.putObj (w.heap.size + 4) (.loop (r .ready none))).heap.size = Z.heap.size := by simp [World.putObj]
      refine ⟨hOZ.lp, rfl, hOZ.turn .ready, by omega, fun k h1 h2 => ?_⟩
      rw [hz1] at h1
      exact (World.putObj_heap_other (by omega)).trans ((hgZ.block k (by omega) (fun e => by injection e with e; omega)).trans ((hbl.block k (by omega)).trans (hkb k h1 h2)))
  case fin =>
    rintro e X ⟨hv, hOX⟩
    refine ⟨hv, .inl ⟨hOX.lp, ?_⟩⟩
    have hOe := hOX.turn .exhausted
    clear hOX hr hO hv
    generalize X.putObj (w.heap.size + 4) (.loop (r .exhausted none)) = X2 at *
    have hX2 := hX.below hOe.bl
    have hz2 : w.heap.size + 5 ≤ X2.heap.size := (Array.getElem?_eq_some_iff.1 hOe.lp).1
    have hba := Below.lit X2 (.cells #[.int .u64 n] 22)
    have hOa := hOe.keep (hba.mono hz2)
    have hca : (X2.alloc (.cells #[.int .u64 n] 22)).cell? ⟨X2.heap.size, 0, none⟩ = some (.int .u64 n) := (Arr.new X2 22 [.int .u64 n]).cell (i := 0) (by simp)
    have hn0 : (0 : Int) ≤ (n : Int) := by omega
    have hn1 : (n : Int) + ((1 : Nat) + 1) < 18446744073709551616 := by omega
    gi_wp2_with (refine ⟨trivial, ?_⟩; gi_at_call 61; refine (callsIn_wide.2 (take_any w.heap.size X2.heap.size 1 _ (n : Int) _ hOa.sb hca hn0 hn1)).mono ?_; rintro e Z ⟨⟨v, rfl⟩, hSZ, hgZ⟩)
    have hOZ := hOa.took hSZ hgZ
    clear hOa hSZ hgZ hca hba hOe hX2
    have hs2 : Hid (stepF (stepF (T lab.size) 0 (wordI (bytesI lab))) 1 n = hrun (T (bytesI lab).length) 0 ([wordI (bytesI lab), (xs.length : Int)] ++ (xs.map fun x => V (T x)).take 0)) := Lib.hid (by
      rw [hX.len, bytesI_len]; rfl)
    rw [hs2.out] at hOZ
    gi_loopw [27] (fun iv wr => ∃ i : Nat, i ≤ n ∧ iv = .int .i64 i ∧ OfJ w r .exhausted (hrun (T (bytesI lab).length) 0 ([wordI (bytesI lab), (xs.length : Int)] ++ (xs.map fun x => V (T x)).take i)) (i + 2) wr) (fun iv _ => n - (intOf iv).toNat)
    case atStart => exact ⟨0, Nat.zero_le _, rfl, hOZ⟩
    case round =>
      clear hOZ hs2
      obtain ⟨i, hi, rfl, hO⟩ := hrel
      have hzr : w.heap.size + 5 ≤ wr.heap.size := (Array.getElem?_eq_some_iff.1 hO.lp).1
      by_cases hlt : i < n
      · obtain ⟨bb, off, rfl, _, hcell, hx0, hx1⟩ := (hX.below hO.bl).look hlt
        have hst : Hid (hrun (T (bytesI lab).length) 0 ([wordI (bytesI lab), (xs.length : Int)] ++ (xs.map fun x => V (T x)).take (i + 1)) = stepF (hrun (T (bytesI lab).length) 0 ([wordI (bytesI lab), (xs.length : Int)] ++ (xs.map fun x => V (T x)).take i)) (i + 2) (V (T (nth xs i)))) := Lib.hid (by
          have hil : i < xs.length := by rw [hX.len]; exact hlt
          rw [List.take_succ_eq_append_getElem (by simpa using hil), ← List.append_assoc, hrun_snoc, List.getElem_map, nth_eq hil]
          congr 1
          rw [List.length_append, List.length_take, List.length_map, Nat.min_eq_left (by omega)]
          show 0 + (2 + i) = i + 2
          omega)
        generalize hrun (T (bytesI lab).length) 0 ([wordI (bytesI lab), (xs.length : Int)] ++ (xs.map fun x => V (T x)).take i) = s at *
        obtain ⟨y, hy⟩ : ∃ y : F, Hid (T (nth xs i) = y) := ⟨_, Lib.hid rfl⟩
        rw [hy.out] at hst
        have hba := Below.lit wr (.cells #[.int .u64 (V y)] 22)
        have hOa := hO.keep (hba.mono hzr)
        have hca : (wr.alloc (.cells #[.int .u64 (V y)] 22)).cell? ⟨wr.heap.size, 0, none⟩ = some (.int .u64 (V y)) := (Arr.new wr 22 [.int .u64 (V y)]).cell (i := 0) (by simp)
        have hy1 : V y + ((i + 2 : Nat) + 1) < 18446744073709551616 := by have := V_hi y; omega
        gi_wp2_with (first
          | (refine ⟨trivial, ?_⟩; gi_at_call 62; refine (callsIn_wide.2 (num_any _ _ hx0 hx1)).mono ?_; rintro e w' ⟨rfl, rfl⟩; rw [hy.out])
          | (refine ⟨trivial, ?_⟩; gi_at_call 61; refine (callsIn_wide.2 (take_any w.heap.size wr.heap.size (i + 2) s (V y) _ hOa.sb hca (V_lo y) hy1)).mono ?_; rintro e Z2 ⟨⟨v, rfl⟩, hSZ, hgZ⟩))
        have hO2 := hOa.took hSZ hgZ
        go_roundw
        case rel => exact ⟨i + 1, by omega, by go_num, by rw [hst.out]; exact hO2⟩
        case measure => simp [intOf]; omega
      · obtain rfl : i = n := by omega
        have hfin : Hid (hashF (bytesI lab) xs = stepF (hrun (T (bytesI lab).length) 0 ([wordI (bytesI lab), (xs.length : Int)] ++ (xs.map fun x => V (T x)).take i)) (i + 2) 0) := Lib.hid (by
          unfold hashF hwords
          rw [hrun_snoc, List.take_of_length_le (by rw [List.length_map, hX.len]; omega)]
          congr 1
          rw [List.length_append, List.length_map, hX.len]
          show 0 + (2 + i) = i + 2
          omega)
        generalize hrun (T (bytesI lab).length) 0 ([wordI (bytesI lab), (xs.length : Int)] ++ (xs.map fun x => V (T x)).take i) = s at *
        have hba := Below.lit wr (.cells #[.int .u64 0] 22)
        have hOa := hO.keep (hba.mono hzr)
        have hca : (wr.alloc (.cells #[.int .u64 0] 22)).cell? ⟨wr.heap.size, 0, none⟩ = some (.int .u64 0) := (Arr.new wr 22 [.int .u64 0]).cell (i := 0) (by simp)
        have hy1 : (0 : Int) + ((i + 2 : Nat) + 1) < 18446744073709551616 := by omega
        gi_wp2_with (refine ⟨trivial, ?_⟩; gi_at_call 61; refine (callsIn_wide.2 (take_any w.heap.size wr.heap.size (i + 2) s 0 _ hOa.sb hca (by omega) hy1)).mono ?_; rintro e Z2 ⟨⟨v, rfl⟩, hSZ, hgZ⟩; have hO2 := hOa.took hSZ hgZ; have hc2 := hO2.sb.c0)
        have hdf := hO2.df
        have hbl := hO2.bl
        refine ⟨by simp, .inl ⟨_, _, rfl, run_takeDeferred hdf, ?_⟩⟩
        rw [hfin.out]
        exact ⟨_, results_tmp rfl _ _ _, rfl, hbl.grown (grownBy_putObj' Z2 _ _) hbl.size (fun k e => by cases e; omega)⟩
end Go.Proofs.Ytcnhgkgabddjmaa
