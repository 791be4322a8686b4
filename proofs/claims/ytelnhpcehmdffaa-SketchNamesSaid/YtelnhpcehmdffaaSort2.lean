/-
  The sort by insertion of the library, at numbers without a sign.
-/
import Derived.Test.YtelnhpcehmdffaaSort
import Derived.Deep.QuietTactic
import Derived.BigQuiet
namespace Go.Proofs.Ytelnhpcehmdffaa
open Go.RowKit

/-- Two neighbours change places. -/
def swp (xs : List Int) (j : Nat) : List Int := (xs.set j (nth xs (j - 1))).set (j - 1) (nth xs j)
theorem swp_length (xs : List Int) (j : Nat) : (swp xs j).length = xs.length := by simp [swp]
theorem nth_swp {xs : List Int} {j : Nat} (h0 : 0 < j) (hj : j < xs.length) (k : Nat) : nth (swp xs j) k = if k = j - 1 then nth xs j else if k = j then nth xs (j - 1) else nth xs k := by
  unfold swp nth
  simp only [List.getD_eq_getElem?_getD, List.getElem?_set, List.length_set]
  by_cases h1 : k = j - 1
  · subst h1
    simp [show j - 1 < xs.length by omega]
  · rw [if_neg (fun e => h1 e.symm), if_neg h1]
    by_cases h2 : k = j
    · subst h2
      simp [hj]
    · rw [if_neg (fun e => h2 e.symm), if_neg h2]
theorem swp_perm {xs : List Int} {j : Nat} (h0 : 0 < j) (hj : j < xs.length) : (swp xs j).Perm xs := by
  have h := Array.swap_perm (xs := xs.toArray) (i := j) (j := j - 1) (by simpa using hj) (by simp; omega)
  have e : (xs.toArray.swap j (j - 1) (by simpa using hj) (by simp; omega)).toList = swp xs j := by
    unfold swp
    rw [nth_eq hj, nth_eq (show j - 1 < xs.length by omega)]
    simp [Array.swap]
  have h2 := Array.perm_iff_toList_perm.1 h
  rw [e] at h2
  simpa using h2
def SortSt (xs : List Int) (i : Nat) : Prop := ∀ a b, a < b → b < i → nth xs a ≤ nth xs b
def InsSt (xs : List Int) (i j : Nat) : Prop := ∀ a b, a < b → b ≤ i → b ≠ j → nth xs a ≤ nth xs b
theorem InsSt.start {xs : List Int} {i : Nat} (h : SortSt xs i) : InsSt xs i i := fun a b h1 h2 h3 => h a b h1 (by omega)
theorem InsSt.stop {xs : List Int} {i j : Nat} (h : InsSt xs i j) (hj : j ≤ i) (hs : j = 0 ∨ nth xs (j - 1) ≤ nth xs j) : SortSt xs (i + 1) := fun a b h1 h2 => by
  by_cases hb : b = j
  · subst hb
    rcases hs with h0 | hs
    · omega
    · by_cases ha : a = b - 1
      · rw [ha]; exact hs
      · exact Int.le_trans (h a (b - 1) (by omega) (by omega) (by omega)) hs
  · exact h a b h1 (by omega) hb
theorem InsSt.step {xs : List Int} {i j : Nat} (h : InsSt xs i j) (h0 : 0 < j) (hj : j ≤ i) (hi : i < xs.length) (hlt : nth xs j < nth xs (j - 1)) : InsSt (swp xs j) i (j - 1) := fun a b h1 h2 h3 => by
  rw [nth_swp h0 (by omega), nth_swp h0 (by omega), if_neg h3]
  by_cases hb : b = j
  · rw [if_pos hb]
    by_cases ha : a = j - 1
    · rw [if_pos ha]; omega
    · rw [if_neg ha, if_neg (by omega)]; exact h a (j - 1) (by omega) (by omega) (by omega)
  · rw [if_neg hb]
    by_cases ha : a = j - 1
    · rw [if_pos ha]; exact h j b (by omega) h2 hb
    · rw [if_neg ha]
      by_cases ha2 : a = j
      · rw [if_pos ha2]; exact h (j - 1) b (by omega) h2 hb
      · rw [if_neg ha2]; exact h a b h1 h2 hb

theorem less_same (x y : Int) (w : World) : Calls Try.prog 83 #[.int .u64 x, .int .u64 y] w fun e w' => e = .returned (.bool (decide (x < y))) ∧ w' = w := (less_any x y w).mono fun _ _ ⟨he, hw⟩ => ⟨he, hw.symm⟩
theorem grown_put {w w' : World} {g : Nat} (h : w.grownBy w' (some g)) (k : Nat) (v : Value) : w.grownBy (w'.setCell ⟨g, k, none⟩ v) (some g) :=
  ⟨h.os, h.tape, h.output, Nat.le_trans h.size (by simp [World.setCell]), fun i hi hne => (Below.heap_setCell _ _ _ _ (fun e => hne (by rw [e]))).trans (h.block i hi hne)⟩
theorem grown_drawn {w w' : World} {g : Nat} (h : w.grownBy w' (some g)) (m : Nat) : w.grownBy (w'.drewN m) (some g) := ⟨h.os, h.tape, h.output, h.size, h.block⟩
theorem Own.drawn {w : World} {base n : Nat} {v : Value} {xs : List Int} (h : Own w base v n xs) (m : Nat) : Own (w.drewN m) base v n xs := ⟨h.len, h.row, h.bd⟩

set_option maxRecDepth 100000 in
set_option maxHeartbeats 2000000 in
theorem ins_any (g n cap : Nat) (base : Nat) (xs : List Int) (w : World) (hX : Own w base (.slice (some ⟨g, 0, none⟩) n cap) n xs) (hn : n ≤ 100000) :
    Calls Try.prog 77 #[.slice (some ⟨g, 0, none⟩) n cap, .int .i64 0, .int .i64 n] w fun e w' => e = .returned (.tuple #[]) ∧ ∃ ys, ys.Perm xs ∧ SortSt ys n ∧ Own w' base (.slice (some ⟨g, 0, none⟩) n cap) n ys ∧ w.grownBy w' (some g) := by
  go_enter Try.func77, Try.ntmps77
  go_wp2
  go_loopw [6, 7] (fun iv _ wr => ∃ (i : Nat) (ys : List Int), 1 ≤ i ∧ (i ≤ n ∨ i = 1) ∧ iv = .int .i64 i ∧ Hid (ys.Perm xs ∧ SortSt ys i) ∧ Own wr base (.slice (some ⟨g, 0, none⟩) n cap) n ys ∧ w.grownBy wr (some g))
    (fun iv _ _ => n + 1 - (intOf iv).toNat)
  case atStart => exact ⟨1, xs, by omega, .inr rfl, rfl, Lib.hid ⟨List.Perm.refl _, fun a b h1 h2 => by omega⟩, hX, ⟨rfl, rfl, rfl, Nat.le_refl _, fun _ _ _ => rfl⟩⟩
  case round =>
    obtain ⟨i, ys, hi1, hi2, rfl, hst, hO, hg⟩ := hrel
    by_cases hlt : i < n
    · go_wp2_with fail
      go_loopw [7] (fun jv wy => ∃ (j : Nat) (zs : List Int), j ≤ i ∧ jv = .int .i64 j ∧ Hid (zs.Perm xs ∧ InsSt zs i j) ∧ Own wy base (.slice (some ⟨g, 0, none⟩) n cap) n zs ∧ w.grownBy wy (some g))
        (fun jv _ => (intOf jv).toNat)
      case atStart => exact ⟨i, ys, Nat.le_refl _, rfl, Lib.hid ⟨hst.out.1, InsSt.start hst.out.2⟩, hO, hg⟩
      case round =>
        clear hst hO hg
        obtain ⟨j, zs, hj, rfl, hst, hO, hg⟩ := hrel
        by_cases h0 : 0 < j
        · obtain ⟨c1, k1, k2⟩ := hO.at_ (k := j) (by omega)
          obtain ⟨c2, k3, k4⟩ := hO.at_ (k := j - 1) (by omega)
          have hf1 := hO.free j
          have hf2 := hO.free (j - 1)
          have d0 : decide ((0 : Int) < (j : Int)) = true := by rw [decide_eq_true_eq]; omega
          have w1 : IntKind.i64.wrap ((j : Int) - 1) = (j : Int) - 1 := IntWalk.i64_in _ (by omega)
          have w2 : (0 : Int) ≤ (j : Int) - 1 := by omega
          have w3 : (j : Int) - 1 < (n : Int) := by omega
          have w4 : ((j : Int) - 1).toNat = j - 1 := by omega
          have w5 : (0 : Int) ≤ (j : Int) := by omega
          have w6 : (j : Int) < (n : Int) := by omega
          by_cases hl : nth zs j < nth zs (j - 1)
          · have d1 : decide (nth zs j < nth zs (j - 1)) = true := decide_eq_true hl
            go_wp2_with fail
            go_quiet ((go_at_call 83; exact Calls.quiet_of_same (less_same _ _ _)))
            go_wp2_with fail
            have hO1 := (hO.drawn nq).drawn 1
            have hO2 := (hO1.put (k := j) (by omega) (y := nth zs (j - 1)) ⟨k3, k4⟩).put (k := j - 1) (by omega) (y := nth zs j) ⟨k1, k2⟩
            have hg2 := grown_put (grown_put (grown_drawn (grown_drawn hg nq) 1) j (.int .u64 (nth zs (j - 1)))) (j - 1) (.int .u64 (nth zs j))
            have hfin : Hid ((swp zs j).Perm xs ∧ InsSt (swp zs j) i (j - 1)) := Lib.hid ⟨(swp_perm h0 (by rw [hO.len]; omega)).trans hst.out.1, InsSt.step hst.out.2 h0 hj (by rw [hO.len]; omega) hl⟩
            have hj1 : Hid ((j : Int) - 1 = ((j - 1 : Nat) : Int)) := Lib.hid (by omega)
            go_region
            all_goals
              clear w1 w2 w3 w4 w5 w6 hl
              go_wp2
              go_roundw
              case rel => exact ⟨j - 1, swp zs j, by omega, by rw [← hj1.out], hfin, hO2, hg2⟩
              case measure => simp [intOf]; omega
          · have d1 : decide (nth zs j < nth zs (j - 1)) = false := decide_eq_false hl
            go_wp2_with fail
            go_quiet ((go_at_call 83; exact Calls.quiet_of_same (less_same _ _ _)))
            have hfin : Hid (zs.Perm xs ∧ SortSt zs (i + 1)) := Lib.hid ⟨hst.out.1, InsSt.stop hst.out.2 hj (.inr (by omega))⟩
            clear w1 w2 w3 w4 w5 w6 hl
            go_wp2
            go_roundw
            case rel => exact ⟨i + 1, zs, by omega, .inl (by omega), by go_num, hfin, hO.drawn _, grown_drawn hg _⟩
            case measure => simp [intOf]; omega
        · have d0 : decide ((0 : Int) < (j : Int)) = false := by rw [decide_eq_false_iff_not]; omega
          have hfin : Hid (zs.Perm xs ∧ SortSt zs (i + 1)) := Lib.hid ⟨hst.out.1, InsSt.stop hst.out.2 hj (.inl (by omega))⟩
          obtain rfl : j = 0 := by omega
          clear h0
          go_wp2_with fail
          go_quiet (fail)
          go_wp2
          go_roundw
          case rel => exact ⟨i + 1, zs, by omega, .inl (by omega), by go_num, hfin, hO.drawn _, grown_drawn hg _⟩
          case measure => simp [intOf]; omega
    · have hfin : Hid (∃ ys, ys.Perm xs ∧ SortSt ys n ∧ Own wr base (.slice (some ⟨g, 0, none⟩) n cap) n ys ∧ w.grownBy wr (some g)) := Lib.hid ⟨ys, hst.out.1, fun a b h1 h2 => hst.out.2 a b h1 (by omega), hO, hg⟩
      go_wp2
      go_returns
      exact ⟨rfl, hfin.out⟩

/-- What a sort does to a list of the call's own. -/
def SortTo (base g n cap : Nat) (xs : List Int) (w : World) (e : Ending) (w' : World) : Prop :=
  e = .returned (.tuple #[]) ∧ ∃ ys, ys.Perm xs ∧ SortSt ys n ∧ Own w' base (.slice (some ⟨g, 0, none⟩) n cap) n ys ∧ w.grownBy w' (some g)
set_option maxRecDepth 100000 in
theorem pdq_small (g n cap : Nat) (base : Nat) (xs : List Int) (k : Int) (w : World) (hX : Own w base (.slice (some ⟨g, 0, none⟩) n cap) n xs) (hn : n ≤ 12) :
    Calls Try.prog 73 #[.slice (some ⟨g, 0, none⟩) n cap, .int .i64 0, .int .i64 n, .int .i64 k] w (SortTo base g n cap xs w) := by
  go_enter Try.func73, Try.ntmps73
  go_wp2
  go_loopw [1, 2, 10] (fun av bv _ wr => av = .int .i64 0 ∧ bv = .int .i64 n ∧ w = wr) (fun _ _ _ _ => 0)
  case atStart => exact ⟨rfl, rfl, rfl⟩
  case round =>
    obtain ⟨rfl, rfl, rfl⟩ := hrel
    have h12 : (n : Int) ≤ 12 := by omega
    go_wp2_with fail
    refine (ins_any g n cap base xs _ hX (by omega)).mono ?_
    rintro e w1 ⟨rfl, hfin⟩
    have hF := Lib.hid hfin
    clear hfin
    go_wp2_with fail
    go_returns
    exact ⟨rfl, hF.out⟩
set_option maxRecDepth 100000 in
theorem Sort_small (g n cap : Nat) (base : Nat) (xs : List Int) (w : World) (hX : Own w base (.slice (some ⟨g, 0, none⟩) n cap) n xs) (hn : n ≤ 12) :
    Calls Try.prog 66 #[.slice (some ⟨g, 0, none⟩) n cap] w (SortTo base g n cap xs w) := by
  have hn' : (n : Int) ≤ 12 := by omega
  go_enter Try.func66, Try.ntmps66
  go_wp2_with fail
  refine (len_small n hn _).mono ?_
  rintro e w1 ⟨⟨k, rfl⟩, rfl⟩
  go_wp2_with fail
  refine (pdq_small g n cap base xs k _ hX hn).mono ?_
  rintro e w1 ⟨rfl, hfin⟩
  have hF := Lib.hid hfin
  clear hfin
  go_wp2_with fail
  go_returns
  exact ⟨rfl, hF.out⟩
end Go.Proofs.Ytelnhpcehmdffaa
