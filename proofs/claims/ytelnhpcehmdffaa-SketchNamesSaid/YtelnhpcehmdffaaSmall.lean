/-
  The helpers of all references (2): small numbers; is a number among some.
-/
import Derived.Test.YtelnhpcehmdffaaNums
import Derived.Test.YtelnhpcehmdffaaUI
namespace Go.Proofs.Ytelnhpcehmdffaa
open Go.RowKit
attribute [local go_sem] T_V

/-- A small number of the field. -/
def small (z : Int) : Int := if around z 80 < 40 then around z 80 else 2305843009213693951 - (around z 80 - 39)
theorem small_bd (z : Int) : 0 ≤ small z ∧ small z < 18446744073709551616 := by
  have := around_bd z 80 (by omega)
  unfold small
  split <;> omega

end Go.Proofs.Ytelnhpcehmdffaa
