/-
  The contracts of the references' polynomials (5): numbers rising, each once.
-/
import Derived.Test.YtokkjklggkoajaaRefD
namespace Go.Proofs.Ytokkjklggkoajaa
open Go.RowKit
attribute [local go_sem] T_V

/-- All ahead are less. -/
def Less (S : List F) (x : F) (k : Nat) : Prop := ∀ j, j < k → V (coef S j) < V x
theorem Less.step {S : List F} {x : F} {k : Nat} (h : Less S x k) (hk : V (coef S k) < V x) : Less S x (k + 1) := fun j hj => by
  by_cases e : j = k
  · rw [e]; exact hk
  · exact h j (by omega)

set_option maxRecDepth 100000 in
set_option maxHeartbeats 2000000 in
theorem Sorted_any (p : Option Addr) (n : Nat) (xs : List Int) (c : Nat) (w : World) (hX : U w p n xs) (hn : n ≤ 1000000) :
    Calls Try.prog 37 #[.slice p n c] w fun e w' => ∃ v S, e = .returned v ∧ Own w' w.heap.size v S.length (S.map V) ∧ SortedOf (xs.map T) S ∧ Below w.heap.size w w' := by
  have hXl := Lib.hid hX.len
  go_enter Try.func37, Try.ntmps37
  go_wp2
  go_loopw [3, 4] (fun ov iv wr => ∃ (i m : Nat) (S : List F), i ≤ n ∧ iv = .int .i64 i ∧ Own wr w.heap.size ov m (S.map V) ∧ Hid (SortedSt (xs.map T) i S) ∧ Hid (S.length = m) ∧ m ≤ i ∧ Below w.heap.size w wr)
    (fun _ iv _ => n - (intOf iv).toNat)
  case atStart => exact ⟨0, 0, [], Nat.zero_le _, rfl, Own.nil _ _, Lib.hid (SortedSt.start _), Lib.hid rfl, Nat.le_refl _, Below.refl _ _⟩
  case round =>
    obtain ⟨i, m, S, hi, rfl, hO, hst, hSl, hmi, hb⟩ := hrel
    obtain ⟨po, co, rfl, hco, hUo, hpo⟩ := hO.u'
    by_cases hlt : i < n
    · obtain ⟨b, off, rfl, _, hcell, hx0, hx1⟩ := (hX.below hb).look hlt
      obtain ⟨x, hx⟩ : ∃ x : F, Hid (T (nth xs i) = x) := ⟨_, Lib.hid rfl⟩
      have hxc : Hid (coef (xs.map T) i = x) := Lib.hid (by rw [coef_T (by rw [hXl.out]; exact hlt)]; exact hx.out)
      go_wp2_with fail
      refine (rnum_any _ _ hx0 hx1).mono ?_
      rintro e w1 ⟨rfl, rfl⟩
      rw [hx.out]
      go_wp2_with fail
      go_loop [6] (fun kv => ∃ k : Nat, k ≤ m ∧ kv = .int .i64 k ∧ Hid (Less S x k)) (fun kv => m - (intOf kv).toNat)
      case atStart => exact ⟨0, Nat.zero_le _, rfl, Lib.hid fun j hj => absurd hj (by omega)⟩
      case round =>
        obtain ⟨k, hk, rfl, hls⟩ := hrel
        by_cases hkm : k < m
        · obtain ⟨b2, off2, rfl, _, hck, _, _⟩ := hUo.look hkm
          rw [coef_nth (show k < S.length by rw [hSl.out]; exact hkm)] at hck
          by_cases hl : V (coef S k) < V x
          · have hl' : decide (V (coef S k) < V x) = true := decide_eq_true hl
            have hls2 : Hid (Less S x (k + 1)) := Lib.hid (hls.out.step hl)
            clear hl hls
            go_wp2_with fail
            go_round
            case rel => exact ⟨k + 1, by omega, by go_num, hls2⟩
            case measure => simp [intOf]; omega
          · have hl' : decide (V (coef S k) < V x) = false := decide_eq_false hl
            by_cases he : V (coef S k) = V x
            · have he' : (V (coef S k) == V x) = true := by rw [beq_iff_eq]; exact he
              have hst2 : Hid (SortedSt (xs.map T) (i + 1) S) := Lib.hid (hst.out.same (by rw [List.length_map, hXl.out]; exact hlt) (k := k) (by rw [hSl.out]; exact hkm) (by rw [hxc.out]; exact V_inj he))
              clear he hl hls
              go_wp2_with fail
              go_roundw
              case rel => exact ⟨i + 1, m, S, by omega, by go_num, hO, hst2, hSl, by omega, hb⟩
              case measure => simp [intOf]; omega
            · have he' : (V (coef S k) == V x) = false := beq_eq_false_iff_ne.2 he
              have hst2 : Hid (SortedSt (xs.map T) (i + 1) (S.take k ++ x :: S.drop k)) := Lib.hid (by
                have h := hst.out.more (i := i) (k := k) (by rw [List.length_map, hXl.out]; exact hlt) (by rw [hSl.out]; exact hk)
                rw [hxc.out] at h
                exact h hls.out fun _ => by omega)
              have hSl2 : Hid ((S.take k ++ x :: S.drop k).length = m + 1) := Lib.hid (by rw [List.length_append, List.length_cons, List.length_take, List.length_drop, hSl.out]; omega)
              have hT1 := hUo.take hk
              clear he hl hls
              go_wp2_with (first
                | (at_builtin; (with_reducible refine app_many rfl _ _ rfl (Own.nil _ wr.heap.size) rfl rfl hT1 (fun h => by cases h) (by omega) (Nat.le_refl _) ?_); (intro v1 w1 hO1 hb1; rw [Nat.zero_add, List.nil_append] at hO1; clear hT1))
                | (at_builtin; (with_reducible refine app_one (y := V x) rfl _ _ rfl hO1 rfl rfl ⟨V_lo _, V_64 _⟩ (by omega) hb1.size ?_); (intro v2 w2 hO2 hb2; have hb12 := hb1.trans hb2; clear hO1))
                | (at_builtin; (with_reducible refine app_many rfl _ _ rfl hO2 rfl rfl ((hUo.below hb12).drop k) (fun h => by cases h) (by omega) hb12.size ?_); (intro v3 w3 hO3 hb3)))
              have hO4 : Own w3 w.heap.size v3 (m + 1) ((S.take k ++ x :: S.drop k).map V) := by
                have h := hO3.base hb.size
                have e1 : k + 1 + (m - k) = m + 1 := by omega
                have e2 : ((S.map V).take k ++ [V x]) ++ (S.map V).drop k = (S.take k ++ x :: S.drop k).map V := by rw [List.map_append, List.map_cons, List.map_take, List.map_drop, List.append_assoc]; rfl
                rw [e1, e2] at h
                exact h
              have hb03 := hb.trans ((hb12.trans hb3).mono hb.size)
              clear hO2 hO3
              go_wp2
              go_roundw
              case rel => exact ⟨i + 1, m + 1, _, by omega, by go_num, hO4, hst2, hSl2, by omega, hb03⟩
              case measure => simp [intOf]; omega
        · obtain rfl : k = m := by omega
          have hd' : decide (k < k) = false := by rw [decide_eq_false_iff_not]; omega
          have hst2 : Hid (SortedSt (xs.map T) (i + 1) (S.take k ++ x :: S.drop k)) := Lib.hid (by
            have h := hst.out.more (i := i) (k := k) (by rw [List.length_map, hXl.out]; exact hlt) (by rw [hSl.out]; exact hk)
            rw [hxc.out] at h
            exact h hls.out fun h => by rw [hSl.out] at h; omega)
          have hSl2 : Hid ((S.take k ++ x :: S.drop k).length = k + 1) := Lib.hid (by rw [List.length_append, List.length_cons, List.length_take, List.length_drop, hSl.out]; omega)
          have hT1 := hUo.take hk
          clear hls
          rcases hO.row.2 with ⟨hv, h0⟩ | ⟨g, cap, cur, hv, _⟩
          · injection hv with e1 _ e3
            subst e1
            subst e3
            have h0' : k = 0 := h0
            clear h0
            · subst h0'
              go_wp2_with (first
                | (at_builtin; (with_reducible refine app_many rfl _ _ rfl (Own.nil _ wr.heap.size) rfl rfl hT1 (fun _ => rfl) (by omega) (Nat.le_refl _) ?_); (intro v1 w1 hO1 hb1; rw [Nat.zero_add, List.nil_append] at hO1; clear hT1))
                | (at_builtin; (with_reducible refine app_one (y := V x) rfl _ _ rfl hO1 rfl rfl ⟨V_lo _, V_64 _⟩ (by omega) hb1.size ?_); (intro v2 w2 hO2 hb2; have hb12 := hb1.trans hb2; clear hO1))
                | (at_builtin; (with_reducible refine app_many rfl _ _ rfl hO2 rfl rfl U.nil (fun _ => rfl) (by omega) hb12.size ?_); (intro v3 w3 hO3 hb3)))
              have hO4 : Own w3 w.heap.size v3 (0 + 1) ((S.take 0 ++ x :: S.drop 0).map V) := by
                have h := hO3.base hb.size
                have e2 : ((S.map V).take 0 ++ [V x]) ++ [] = (S.take 0 ++ x :: S.drop 0).map V := by
                  rw [List.drop_of_length_le (by rw [hSl.out]; exact Nat.le_refl _), List.append_nil, List.map_append, List.map_take]; rfl
                rw [Nat.add_zero, e2] at h
                exact h
              have hb03 := hb.trans ((hb12.trans hb3).mono hb.size)
              clear hO2 hO3
              go_wp2
              go_roundw
              case rel => exact ⟨i + 1, 1, _, by omega, by go_num, hO4, hst2, hSl2, by omega, hb03⟩
              case measure => simp [intOf]; omega
          · injection hv with e1 _ e3
            subst e1
            subst e3
            by_cases hkc : k = co
            · obtain rfl : co = k := hkc.symm
              go_wp2_with (first
                | (at_builtin; (with_reducible refine app_many rfl _ _ rfl (Own.nil _ wr.heap.size) rfl rfl hT1 (fun h => by cases h) (by omega) (Nat.le_refl _) ?_); (intro v1 w1 hO1 hb1; rw [Nat.zero_add, List.nil_append] at hO1; clear hT1))
                | (at_builtin; (with_reducible refine app_one (y := V x) rfl _ _ rfl hO1 rfl rfl ⟨V_lo _, V_64 _⟩ (by omega) hb1.size ?_); (intro v2 w2 hO2 hb2; have hb12 := hb1.trans hb2; clear hO1))
                | (at_builtin; (with_reducible refine app_many rfl _ _ rfl hO2 rfl rfl U.nil (fun h => by cases h) (by omega) hb12.size ?_); (intro v3 w3 hO3 hb3)))
              have hO4 : Own w3 w.heap.size v3 (co + 1) ((S.take co ++ x :: S.drop co).map V) := by
                have h := hO3.base hb.size
                have e2 : ((S.map V).take co ++ [V x]) ++ [] = (S.take co ++ x :: S.drop co).map V := by
                  rw [List.drop_of_length_le (by rw [hSl.out]; exact Nat.le_refl _), List.append_nil, List.map_append, List.map_take]; rfl
                rw [Nat.add_zero, e2] at h
                exact h
              have hb03 := hb.trans ((hb12.trans hb3).mono hb.size)
              clear hO2 hO3
              go_wp2
              go_roundw
              case rel => exact ⟨i + 1, co + 1, _, by omega, by go_num, hO4, hst2, hSl2, by omega, hb03⟩
              case measure => simp [intOf]; omega
            · have hkc' : k < co := by omega
              clear hkc
              go_wp2_with (first
                | (at_builtin; (with_reducible refine app_many rfl _ _ rfl (Own.nil _ wr.heap.size) rfl rfl hT1 (fun h => by cases h) (by omega) (Nat.le_refl _) ?_); (intro v1 w1 hO1 hb1; rw [Nat.zero_add, List.nil_append] at hO1; clear hT1))
                | (at_builtin; (with_reducible refine app_one (y := V x) rfl _ _ rfl hO1 rfl rfl ⟨V_lo _, V_64 _⟩ (by omega) hb1.size ?_); (intro v2 w2 hO2 hb2; have hb12 := hb1.trans hb2; clear hO1))
                | (at_builtin; (with_reducible refine app_many rfl _ _ rfl hO2 rfl rfl U.nil (fun h => by cases h) (by omega) hb12.size ?_); (intro v3 w3 hO3 hb3)))
              have hO4 : Own w3 w.heap.size v3 (k + 1) ((S.take k ++ x :: S.drop k).map V) := by
                have h := hO3.base hb.size
                have e2 : ((S.map V).take k ++ [V x]) ++ [] = (S.take k ++ x :: S.drop k).map V := by
                  rw [List.drop_of_length_le (by rw [hSl.out]; exact Nat.le_refl _), List.append_nil, List.map_append, List.map_take]; rfl
                rw [Nat.add_zero, e2] at h
                exact h
              have hb03 := hb.trans ((hb12.trans hb3).mono hb.size)
              clear hO2 hO3
              go_wp2
              go_roundw
              case rel => exact ⟨i + 1, k + 1, _, by omega, by go_num, hO4, hst2, hSl2, by omega, hb03⟩
              case measure => simp [intOf]; omega
    · have hfin : Hid (SortedOf (xs.map T) S) := Lib.hid (hst.out.done (by rw [List.length_map, hXl.out]; omega))
      have hO' : Hid (Own wr w.heap.size (.slice po m co) S.length (S.map V)) := Lib.hid (by rw [hSl.out]; exact hO)
      go_wp2_with fail
      go_ret
      exact ⟨_, S, rfl, hO'.out, hfin.out, hb⟩
end Go.Proofs.Ytokkjklggkoajaa
