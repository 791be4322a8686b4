/-
  Rolls; plain Lean: a quorum of guards.
-/
import Derived.Test.YtkolilbebkkpdaaDoorRmB
namespace Go.Proofs.YtkolilbebkkpdaaDoor

def qG (n t : Int) : OpI := ⟨2, 9, 9, 0, 0, 0, 0, 0, ⟨0, 0, 0⟩, [1, 2, 3], n, t⟩
end Go.Proofs.YtkolilbebkkpdaaDoor

