/-
  The contracts of the program's polynomials (2): products.
-/
import Derived.Test.YtelnhpcehmdffaaPolyA
import Derived.StillTailTactics
import Derived.Deep.DeepCutAuto
namespace Go.Proofs.Ytelnhpcehmdffaa
open Go.RowKit
attribute [local go_sem] T_V

theorem still_of {P : Program} {f : FuncId} {args : Array Value} {w : World} {v : Value} (h : Calls P f args w fun e w' => e = .returned v ∧ w = w') : Calls P f args w fun e w' => e = .returned v ∧ w' = w :=
  h.mono fun _ _ ⟨he, hw⟩ => ⟨he, hw.symm⟩

/-- An array of field numbers, place by place. -/
def arrF (L : Nat) (f : Nat → F) : List Value := (List.range L).map fun j => .int .u64 (V (f j))
theorem arrF_length (L : Nat) (f : Nat → F) : (arrF L f).length = L := by simp [arrF]
theorem arrF_get (L : Nat) (f : Nat → F) (j : Nat) (h : j < (arrF L f).length) : (arrF L f)[j] = .int .u64 (V (f j)) := by simp [arrF]
theorem arrF_set (L : Nat) (f g : Nat → F) (k : Nat) (x : F) (h : ∀ j, g j = if j = k then x else f j) : (arrF L f).set k (.int .u64 (V x)) = arrF L g := by
  apply List.ext_getElem
  · simp [arrF]
  · intro i h1 h2
    rw [List.getElem_set, arrF_get, arrF_get, h]
    by_cases h : k = i
    · subst h; simp
    · rw [if_neg h, if_neg (fun e => h e.symm)]
theorem arrF_zero (L : Nat) (f : Nat → F) (h : ∀ j, f j = 0) : arrF L f = List.replicate L (.int .u64 0) := by
  unfold arrF
  rw [show (fun j => Value.int .u64 (V (f j))) = fun _ => Value.int .u64 0 from funext fun j => by rw [h]; rfl, List.map_const', List.length_range]
theorem arrF_congr (L : Nat) (f g : Nat → F) (h : ∀ j, f j = g j) : arrF L f = arrF L g := by rw [show f = g from funext h]
theorem Arr.at_ {w : World} {b : Nat} {t : TypeId} {L : Nat} {f : Nat → F} (h : Arr w b t (arrF L f)) {j : Nat} (hj : j < L) : w.cell? ⟨b, j, none⟩ = some (.int .u64 (V (f j))) := by
  have := h.cell (i := j) (by rw [arrF_length]; exact hj)
  rwa [arrF_get] at this
theorem Arr.fs {w : World} {b : Nat} {t : TypeId} {L : Nat} {f : Nat → F} (h : Arr w b t (arrF L f)) : U w (some ⟨b, 0, none⟩) L (((List.range L).map f).map V) := by
  refine ⟨by simp, ?_, ?_⟩
  · have : (((List.range L).map f).map V).map (Value.int .u64) = arrF L f := by unfold arrF; rw [List.map_map, List.map_map]; rfl
    rw [this]; exact h.rd
  · intro x hx
    obtain ⟨y, _, rfl⟩ := List.mem_map.1 hx
    exact ⟨V_lo _, V_64 _⟩
theorem Fs.len {w : World} {p : Option Addr} {n : Nat} {fs : List F} (h : U w p n (fs.map V)) : fs.length = n := by simpa using h.len
theorem coef_nth {fs : List F} {i : Nat} (h : i < fs.length) : nth (fs.map V) i = V (coef fs i) := by rw [nth_V h, coef_lt h]

theorem trimF_mulL_nil (p : List F) : trimF (mulL p []) = [] := by
  induction p with
  | nil => rfl
  | cons a p ih => rw [mulL, List.map_nil, addL, trimF, ih]; simp

set_option maxRecDepth 100000 in
set_option maxHeartbeats 1000000 in
theorem Mul_any (p q : Option Addr) (n m : Nat) (xs ys : List Int) (c d : Nat) (w : World) (hX : U w p n xs) (hY : U w q m ys) (hn : n ≤ 17592186044416) (hm : m ≤ 17592186044416) :
    Calls Try.prog 72 #[.slice p n c, .slice q m d] w fun e w' => ∃ v, e = .returned v ∧ Fs w' v (trimF (mulL (trimF (xs.map T)) (trimF (ys.map T)))) ∧ Below w.heap.size w w' := by
  have hX' := Lib.hid hX.len
  have hY' := Lib.hid hY.len
  go_enter Try.func72, Try.ntmps72
  go_wp2_with fail
  refine (Trim_any p n xs c _ hX (by omega)).mono ?_
  rintro e w1 ⟨v, rfl, ⟨p1, n1, c1, rfl, hc1, hP⟩, hb1⟩
  go_wp2_with fail
  refine (Trim_any q m ys d _ (hY.below hb1) (by omega)).mono ?_
  rintro e w2 ⟨v, rfl, ⟨q1, m1, d1, rfl, hd1, hQ⟩, hb2⟩
  replace hP := hP.below hb2
  have hn1 : n1 ≤ n := by have := Fs.len hP; have := trimF_length (xs.map T); rw [List.length_map, hX'.out] at this; omega
  have hm1 : m1 ≤ m := by have := Fs.len hQ; have := trimF_length (ys.map T); rw [List.length_map, hY'.out] at this; omega
  have hb := hb1.trans (hb2.mono hb1.size)
  obtain ⟨P, hPe⟩ : ∃ P, trimF (xs.map T) = P := ⟨_, rfl⟩
  obtain ⟨Q, hQe⟩ : ∃ Q, trimF (ys.map T) = Q := ⟨_, rfl⟩
  rw [hPe] at hP
  rw [hQe] at hQ
  replace hPe := Lib.hid hPe
  replace hQe := Lib.hid hQe
  by_cases h0 : n1 = 0 ∨ m1 = 0
  · have hfin : Fs w2 (.slice none 0 0) (trimF (mulL (trimF (xs.map T)) (trimF (ys.map T)))) := by
      rw [hPe.out, hQe.out]
      have : trimF (mulL P Q) = [] := by
        rcases h0 with rfl | rfl
        · rw [List.eq_nil_of_length_eq_zero (Fs.len hP)]; rfl
        · rw [List.eq_nil_of_length_eq_zero (Fs.len hQ)]; exact trimF_mulL_nil P
      rw [this]
      exact ⟨none, 0, 0, rfl, Nat.le_refl _, U.nil⟩
    by_cases h1 : n1 = 0
    · subst h1
      clear h0
      go_wp2
      go_ret
      exact ⟨_, rfl, hfin, hb⟩
    · obtain rfl : m1 = 0 := by omega
      have h2 : ((n1 : Int) == 0) = false := by rw [beq_eq_false_iff_ne]; omega
      clear h0 h1
      go_wp2
      go_ret
      exact ⟨_, rfl, hfin, hb⟩
  · have h1 : ((n1 : Int) == 0) = false := by rw [beq_eq_false_iff_ne]; omega
    have h2 : ((m1 : Int) == 0) = false := by rw [beq_eq_false_iff_ne]; omega
    have h3 : 0 < n1 := by omega
    have h4 : 0 < m1 := by omega
    clear h0
    obtain ⟨L, hL⟩ : ∃ L : Nat, n1 + m1 - 1 = L := ⟨_, rfl⟩
    have hmk : ∀ W, (Instr.makeSlice 22 (.int .i64 ((n1 : Int) + m1 - 1)) (.int .i64 ((n1 : Int) + m1 - 1))).run Try.prog W = .ok (.slice (some ⟨W.heap.size, 0, none⟩) L L) (W.alloc (.cells (Array.replicate L (.int .u64 0)) 40)) := by
      intro W
      have := make_row Try.prog 22 40 _ _ Try.underlying22 rfl rfl rfl rfl rfl ((n1 : Int) + m1 - 1) (by omega) (by omega) W
      rw [this, show ((n1 : Int) + m1 - 1).toNat = L by omega, List.toArray_replicate]
    have ha0 : Arr (w2.alloc (.cells (Array.replicate L (.int .u64 0)) 40)) w2.heap.size 40 (arrF L (mulAt P Q 0 0)) := by
      rw [arrF_zero L _ (mulAt_zero P Q), ← List.toArray_replicate]; exact Arr.new _ _ _
    have hb0 : Below w2.heap.size w2 (w2.alloc (.cells (Array.replicate L (.int .u64 0)) 40)) := (Below.refl _ _).alloc (Nat.le_refl _) _
    have hPl := Lib.hid (Fs.len hP)
    have hQl := Lib.hid (Fs.len hQ)
    have hLl : n1 + m1 ≤ L + 1 := by omega
    have hLl2 : L + 1 ≤ n1 + m1 := by omega
    have hL := Lib.hid hL
    clear hX' hY'
    go_wp2
    go_loopw [6, 7, 31] (fun _ _ i wr => ∃ k : Nat, k ≤ n1 ∧ i = .int .i64 k ∧ Arr wr w2.heap.size 40 (arrF L (mulAt P Q k 0)) ∧ Below w2.heap.size w2 wr)
      (fun _ _ i _ => n1 - (intOf i).toNat)
    case atStart => exact ⟨0, Nat.zero_le _, rfl, ha0, hb0⟩
    case round =>
      obtain ⟨i, hi, rfl, ha, hbr⟩ := hrel
      clear ha0 hb0 hmk
      obtain ⟨wo, rfl⟩ : ∃ wo : World, wo = wr := ⟨_, rfl⟩
      by_cases hlt : i < n1
      · obtain ⟨b, off, rfl, hbb, hcell, _, _⟩ := (hP.below hbr).look hlt
        rw [coef_nth (by rw [hPl.out]; exact hlt)] at hcell
        go_wp2
        go_loopw [8, 9, 38] (fun _ _ j wr => ∃ k : Nat, k ≤ m1 ∧ j = .int .i64 k ∧ Arr wr w2.heap.size 40 (arrF L (mulAt P Q i k)) ∧ Below w2.heap.size w2 wr)
          (fun _ _ j _ => m1 - (intOf j).toNat)
        case atStart => exact ⟨0, Nat.zero_le _, rfl, ha, hbr⟩
        case round =>
          clear ha hbr hcell
          obtain ⟨k, hk, rfl, ha, hbr⟩ := hrel
          by_cases hlt2 : k < m1
          · obtain ⟨b', off', rfl, _, hcell, _, _⟩ := (hQ.below hbr).look hlt2
            rw [coef_nth (by rw [hQl.out]; exact hlt2)] at hcell
            have hat := ha.at_ (j := i + k) (by omega)
            have hfr := ha.free (i + k)
            go_wp2
            have hw1 : IntKind.i64.wrap ((i : Int) + k) = (i : Int) + k := IntWalk.i64_in _ (by omega)
            have hw2 : (0 : Int) ≤ (i : Int) + k := by omega
            have hw3 : (i : Int) + k < (L : Int) := by omega
            have hw4 : ((i : Int) + k).toNat = i + k := by omega
            refine wp_region_still_tail 15 (by kernel_rfl) (by kernel_rfl) ?_
            simp only [List.take_succ_cons, List.take_zero, List.drop_succ_cons, List.drop_zero]
            repeat (first
              | still_step
              | (still_call (still_of (mul_any _ _ _ (V_lo _) (V_64 _) (V_lo _) (V_64 _))))
              | (still_call (still_of (add_any _ _ _ (V_lo _) (V_64 _) (V_lo _) (V_64 _)))))
            refine wpStill_nil ?_
            clear hw1 hw2 hw3 hw4
            change wpList _ _ _ _ _ wr.drew
            have ha2 : Arr (wr.drew.setCell ⟨w2.heap.size, i + k, none⟩ (.int .u64 (V (mulAt P Q i k (i + k) + coef P i * coef Q k)))) w2.heap.size 40 (arrF L (mulAt P Q i (k + 1))) := by
              have := Arr.set (w := wr.drew) ha (i + k) (.int .u64 (V (mulAt P Q i k (i + k) + coef P i * coef Q k)))
              rwa [arrF_set L _ (mulAt P Q i (k + 1)) (i + k) _ (mulAt_step P Q i k)] at this
            have hb2 : Below w2.heap.size w2 (wr.drew.setCell ⟨w2.heap.size, i + k, none⟩ (.int .u64 (V (mulAt P Q i k (i + k) + coef P i * coef Q k)))) := hbr.drew.setCell (Nat.le_refl _) _
            go_wp2
            go_roundw
            case rel => exact ⟨k + 1, by omega, by go_num, ha2, hb2⟩
            case measure => simp [intOf]; omega
          · have hk' : k = m1 := by omega
            have ha2 : Arr wr w2.heap.size 40 (arrF L (mulAt P Q (i + 1) 0)) := by
              subst hk'
              rwa [arrF_congr L _ (mulAt P Q (i + 1) 0) (fun j => by rw [← mulAt_row P Q i j (by rw [hPl.out]; exact hlt), hQl.out])] at ha
            clear hk'
            go_wp2
            go_roundw
            case rel => exact ⟨i + 1, by omega, by go_num, ha2, hbr⟩
            case measure => simp [intOf]; omega
      · have hi' : i = n1 := by omega
        have hU : U wo (some ⟨w2.heap.size, 0, none⟩) L ((mulL P Q).map V) := by
          subst hi'
          have := ha.fs
          rw [← hPl.out] at this
          have e : P.length + Q.length - 1 = L := by rw [hPl.out, hQl.out]; exact hL.out
          rw [← mulL_eq P Q (by intro h; rw [h] at hPl; have := hPl.out; simp at this; omega) (by intro h; rw [h] at hQl; have := hQl.out; simp at this; omega), e]
          exact this
        clear hi'
        go_wp2_with fail
        refine (trim_any _ L (mulL P Q) L wo hU (Nat.le_refl _) (by omega)).mono ?_
        rintro e w3 ⟨v, rfl, hv, rfl⟩
        go_wp2_with fail
        go_ret
        refine ⟨v, rfl, ?_, hb.trans (hbr.mono hb.size)⟩
        rw [hPe.out, hQe.out]
        exact hv
end Go.Proofs.Ytelnhpcehmdffaa
