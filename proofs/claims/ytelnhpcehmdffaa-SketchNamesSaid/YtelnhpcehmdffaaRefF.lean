/-
  The contracts of the references' polynomials (6): what has no roots; is a number among some; the statements' first coefficients.
-/
import Derived.Test.YtelnhpcehmdffaaRefE
import Derived.Test.YtelnhpcehmdffaaPolyL
namespace Go.Proofs.Ytelnhpcehmdffaa
open Go.RowKit
attribute [local go_sem] T_V

theorem sq_two (x : F) : x ^ 2 = x * x := by grind
theorem sq_pow (x : F) (hx : x ≠ 0) : fpow (x * x) 1152921504606846975 = 1 := by
  have h := fermat x hx
  have e : M = 2 * 1152921504606846975 := by decide +kernel
  rw [e, pow_mul', sq_two] at h
  exact h
theorem no_root {c : F} (hc : fpow c 1152921504606846975 ≠ 1) (h0 : c ≠ 0) (x : F) : x * x - c ≠ 0 := fun e => by
  have e1 : x * x = c := by grind
  have hx : x ≠ 0 := fun h => h0 (by rw [← e1, h]; grind)
  exact hc (by rw [← e1]; exact sq_pow x hx)
/-- A polynomial without roots. -/
def NoRoots (R : Pol) : Prop := R ≠ 0 ∧ ∀ x, R.at' x ≠ 0
theorem NoRoots.of {R : Pol} (h : ∀ x, R.at' x ≠ 0) : NoRoots R := ⟨fun e => h 0 (by rw [e, Pol.at_zero]), h⟩
theorem at_pol (xs : List Int) (x : F) : (pol xs).at' x = ev (xs.map T) x := Pol.ev_congr (Pol.coef_mk _) x
theorem T_ne {c : Int} (h0 : 0 < c) (h1 : c < 2305843009213693951) : T c ≠ 0 := fun e => by
  have := (T_eq c 0).1 e
  omega
theorem rootless_con {c : Int} (h0 : 0 < c) (h1 : c < 2305843009213693951) : NoRoots (pol [c]) := NoRoots.of fun x => by
  rw [at_pol, List.map_cons, List.map_nil, ev, ev, mul_zero', add_zero']
  exact T_ne h0 h1
theorem rootless_sq {c : Int} (h0 : 0 < c) (h1 : c < 2305843009213693951) (hc : fpow (T c) 1152921504606846975 ≠ 1) : NoRoots (pol [V (-T c), 0, 1]) := NoRoots.of fun x => by
  rw [at_pol, List.map_cons, List.map_cons, List.map_cons, List.map_nil, T_V, T_zero, T_one, ev, ev, ev, ev]
  have := no_root hc (T_ne h0 h1) x
  grind

/-- What Rootless answers. -/
def RootlessTo (w : World) (e : Ending) (w' : World) : Prop := ∃ p m c xs, e = .returned (.slice p m c) ∧ U w' p m xs ∧ m ≤ 3 ∧ NoRoots (pol xs) ∧ Below w.heap.size w w'
theorem ret_bool {a b : Bool} (h : a = b) : Ending.returned (.bool a) = .returned (.bool b) := by rw [h]


end Go.Proofs.Ytelnhpcehmdffaa
