/-
  The contracts of the references' polynomials (1): what is trimmed, a coefficient, a multiple, sums, products, values.
-/
import Derived.Test.YtelnhpcehmdffaaPolyD
import Derived.Test.YtelnhpcehmdffaaApp
namespace Go.Proofs.Ytelnhpcehmdffaa
open Go.RowKit
attribute [local go_sem] T_V

theorem take_T {xs : List Int} {k : Nat} (h : k < xs.length) : ((xs.map T).take (k + 1)).map V = ((xs.map T).take k).map V ++ [V (T (nth xs k))] := by
  rw [List.take_succ_eq_append_getElem (by simpa using h), List.map_append, List.getElem_map, nth_eq h]; rfl


theorem nth_out {xs : List Int} {i : Nat} (h : xs.length ≤ i) : nth xs i = 0 := by simp [nth, List.getElem?_eq_none h]
theorem coef_T' (xs : List Int) (i : Nat) : coef (xs.map T) i = T (nth xs i) := by
  by_cases h : i < xs.length
  · exact coef_T h
  · rw [coef_ge (by rw [List.length_map]; omega), nth_out (by omega)]; rfl
theorem U.all_bd {w : World} {p : Option Addr} {n : Nat} {xs : List Int} (h : U w p n xs) (i : Nat) : 0 ≤ nth xs i ∧ nth xs i < 18446744073709551616 := by
  by_cases hi : i < n
  · exact h.look_bd hi
  · rw [nth_out (by rw [h.len]; omega)]; omega


/-- One more of a list that is made place by place. -/
theorem range_snoc (f : Nat → F) (k : Nat) : ((List.range (k + 1)).map f).map V = ((List.range k).map f).map V ++ [V (f k)] := by
  rw [List.range_succ, List.map_append, List.map_append]; rfl




end Go.Proofs.Ytelnhpcehmdffaa
