/-
  The helpers of all references (2): small numbers; is a number among some.
-/
import Derived.Test.YtokkjklggkoajaaNums
import Derived.Test.YtokkjklggkoajaaUI
namespace Go.Proofs.Ytokkjklggkoajaa
open Go.RowKit
attribute [local go_sem] T_V

/-- A small number of the field. -/
def small (z : Int) : Int := if around z 80 < 40 then around z 80 else 2305843009213693951 - (around z 80 - 39)
theorem small_bd (z : Int) : 0 ≤ small z ∧ small z < 18446744073709551616 := by
  have := around_bd z 80 (by omega)
  unfold small
  split <;> omega

set_option maxRecDepth 100000 in
set_option maxHeartbeats 1000000 in
theorem Small_any (p : Option Addr) (n : Nat) (xs : List Int) (c most : Nat) (w : World) (hX : UI w p n xs) (hn : n ≤ 9223372036854775807) (hm : most ≤ 1000000) :
    Calls Try.prog 28 #[.slice p n c, .int .i64 most] w fun e w' => ∃ v, e = .returned v ∧ Own w' w.heap.size v (min n most) ((xs.map small).take (min n most)) ∧ Below w.heap.size w w' := by
  have hXl := Lib.hid hX.len
  go_enter Try.func28, Try.ntmps28
  go_wp2
  go_loopw [5, 6] (fun v i wr => ∃ k : Nat, k ≤ min n most ∧ i = .int .i64 k ∧ Own wr w.heap.size v k ((xs.map small).take k) ∧ Below w.heap.size w wr)
    (fun _ i _ => min n most - (intOf i).toNat)
  case atStart => exact ⟨0, Nat.zero_le _, rfl, by rw [List.take_zero]; exact Own.nil _ _, Below.refl _ _⟩
  case round =>
    obtain ⟨k, hk, rfl, hown, hb⟩ := hrel
    by_cases hlt : k < min n most
    · obtain ⟨b, off, rfl, _, hc1, hz0, hz1⟩ := (hX.below hb).look (i := k) (by omega)
      have hst : Hid ((xs.map small).take (k + 1) = (xs.map small).take k ++ [small (nth xs k)]) := Lib.hid (by
        have hkl : k < xs.length := by rw [hXl.out]; omega
        rw [List.take_succ_eq_append_getElem (by rw [List.length_map]; exact hkl), List.getElem_map, nth_eq hkl])
      have hbd := small_bd (nth xs k)
      have ha := around_bd (nth xs k) 80 (by omega)
      have d1 : decide ((k : Int) < (n : Int)) = true := by rw [decide_eq_true_eq]; omega
      have d2 : decide ((k : Int) < (most : Int)) = true := by rw [decide_eq_true_eq]; omega
      obtain ⟨y, hy⟩ : ∃ y, Hid (around (nth xs k) 80 = y) := ⟨_, Lib.hid rfl⟩
      rw [hy.out] at ha
      by_cases h40 : y < 40
      · have hst2 : Hid ((xs.map small).take (k + 1) = (xs.map small).take k ++ [y]) := Lib.hid (by rw [hst.out]; unfold small; rw [hy.out, if_pos h40])
        clear hst
        go_wp2_with fail
        refine (Around_any _ 80 _ hz0 hz1 (by omega) (by omega)).mono ?_
        rintro e w1 ⟨rfl, rfl⟩
        rw [hy.out]
        go_wp2_with (at_builtin; refine app_one (y := y) rfl _ _ rfl hown rfl rfl (by omega) (by omega) hb.size ?_; intro v' w1 hown1 hb1)
        go_roundw
        case rel => exact ⟨k + 1, by omega, by go_num, by rw [hst2.out]; exact hown1, hb.trans hb1⟩
        case measure => simp [intOf]; omega
      · have hst2 : Hid ((xs.map small).take (k + 1) = (xs.map small).take k ++ [2305843009213693951 - (y - 39)]) := Lib.hid (by rw [hst.out]; unfold small; rw [hy.out, if_neg h40])
        clear hst
        go_wp2_with fail
        refine (Around_any _ 80 _ hz0 hz1 (by omega) (by omega)).mono ?_
        rintro e w1 ⟨rfl, rfl⟩
        rw [hy.out]
        go_wp2_with (at_builtin; refine app_one (y := 2305843009213693951 - (y - 39)) rfl _ _ rfl hown rfl rfl (by omega) (by omega) hb.size ?_; intro v' w1 hown1 hb1)
        go_roundw
        case rel => exact ⟨k + 1, by omega, by go_num, by rw [hst2.out]; exact hown1, hb.trans hb1⟩
        case measure => simp [intOf]; omega
    · have hk' : k = min n most := by omega
      rw [hk'] at hown
      have hd : decide (k < n) = false ∨ (decide (k < n) = true ∧ decide (k < most) = false) := by
        by_cases h : k < n
        · exact .inr ⟨by simpa using h, by rw [decide_eq_false_iff_not]; omega⟩
        · exact .inl (by simpa using h)
      clear hk'
      rcases hd with hd | ⟨hd, hd2⟩
      all_goals
        go_wp2_with fail
        go_ret
        exact ⟨_, rfl, hown, hb⟩
end Go.Proofs.Ytokkjklggkoajaa
