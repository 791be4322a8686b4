/-
  The contracts of the references' polynomials (2): values; what has given values (Lagrange's).
-/
import Derived.Test.YtelnhpcehmdffaaRefA
import Derived.Test.YtelnhpcehmdffaaGa
namespace Go.Proofs.Ytelnhpcehmdffaa
open Go.RowKit
attribute [local go_sem] T_V


end Go.Proofs.Ytelnhpcehmdffaa
