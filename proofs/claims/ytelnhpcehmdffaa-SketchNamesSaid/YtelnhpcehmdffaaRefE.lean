/-
  The contracts of the references' polynomials (5): numbers rising, each once.
-/
import Derived.Test.YtelnhpcehmdffaaRefD
namespace Go.Proofs.Ytelnhpcehmdffaa
open Go.RowKit
attribute [local go_sem] T_V

/-- All ahead are less. -/
def Less (S : List F) (x : F) (k : Nat) : Prop := ∀ j, j < k → V (coef S j) < V x
theorem Less.step {S : List F} {x : F} {k : Nat} (h : Less S x k) (hk : V (coef S k) < V x) : Less S x (k + 1) := fun j hj => by
  by_cases e : j = k
  · rw [e]; exact hk
  · exact h j (by omega)

end Go.Proofs.Ytelnhpcehmdffaa
