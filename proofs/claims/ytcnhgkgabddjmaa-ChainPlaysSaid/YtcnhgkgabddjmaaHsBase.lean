/-
  Base of the sums, for a seat without polynomials: slices written out.
-/
import Derived.Test.YtcnhgkgabddjmaaNums
import Derived.Test.YtcnhgkgabddjmaaApp
import Derived.Test.YtcnhgkgabddjmaaFieldC
import Derived.BigQuiet
import Derived.Deep.QuietTactic
import Derived.Deep.RegionHeld3
import Derived.Deep.RegionLaw
import Derived.Handy
import Derived.Laws.EntriesVeiled
import Derived.Lib.BitFns
import Derived.Lib.Slices
import Derived.Lib.Small
import Derived.Lib.Strings
import Derived.Lib.Walk
import Derived.Maps.AppendAt
import Derived.StillTailTactics
import Derived.Deep.DeepCutAuto
import Derived.Outline
namespace Go.Proofs.Ytcnhgkgabddjmaa
open Go.RowKit
theorem U_lit (w : World) (t : TypeId) (xs : List Int) (vs : Array Value) (n : Nat) (hv : vs = (xs.map (Value.int .u64)).toArray) (hn : xs.length = n) (hx : ∀ x ∈ xs, 0 ≤ x ∧ x < 18446744073709551616) : U (w.alloc (.cells vs t)) (some ⟨w.heap.size, 0, none⟩) n xs :=
  ⟨hn, by rw [hv]; exact (Arr.new w t _).rd, hx⟩
theorem Below.lit (w : World) (o : Obj) : Below w.heap.size w (w.alloc o) := (Below.refl _ _).alloc (Nat.le_refl _) _
end Go.Proofs.Ytcnhgkgabddjmaa
