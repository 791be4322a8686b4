/-
  No cell of these rows narrows 'for every input' (looked for: loops, veiled, ifaces, maps, wideKeys, modest, calm, conditions, laid).
  DERIVED. THE GIVEN ROWS OF THIS SEAT. 9 by the template 'for every input the law returns true; each argument reads behind the call as it read before'; 0 by the template 'total and deterministic' (their statements: YtokkjklggkoajaaTotals.lean).
  GIVEN WITH THE SEED: the statements are not yours to turn. If you find one false, say at which input.
  Laid BY PROGRAM, IN A SANDBOX (cutbox-rows.mjs): the forced cells as the released guide's own fill.sh prints them over the translation e8d7815479591451… (all of the seat's roots in one cut). By AI agents, Wed Nov 11 2026. No macro, syntax, notation, axiom, sorry.
-/
import Derived.Test.YtokkjklggkoajaaChecked
import GoSem.Claim
import GoSem.ClaimJoined
import GoSem.ClaimMapViews
import Derived.JoinedTies
import Derived.KernelRfl
namespace Go.Proofs.Ytokkjklggkoajaa
/- THE CELL 'sum', in the pinned program and in every row, IS THE sha256 OF THE DUMP (.gsa) THAT YtokkjklggkoajaaProg.lean LOADS. Nothing in Lean hashes anything: it is a label: what it is worth is what the hold of that sum in a sandbox is worth. -/
noncomputable def Try.pinned : Pinned := { name := "ytokkjklggkoajaa", sum := "e8d78154795914510be8e2fbeec65330e884268894a4ab4d2968cda22320ac8d", checked := Try.checked }
namespace Rows
def none {H : Type} : Left H := { results := [], args := [] }

/-- 'huddlelaw05.PolyTells': WHATEVER THE INPUT: true; the input reads as it did. -/
def polyTellsSpec : ChangeSpec := { name := "polyTells", fn := fun _ => fun
  | [d1, d2, d3] => { results := [.lit (.bool true)], args := [d1, d2, d3] }
  | _ => none }
def polyTellsRow : OpenClaim := { program := "ytokkjklggkoajaa", sum := "e8d78154795914510be8e2fbeec65330e884268894a4ab4d2968cda22320ac8d", func := "huddle/huddlelaw05.PolyTells", spec := "polyTells", unfollowed := true, recurses := true, apart := false }
def PolyTellsSaid : Prop := polyTellsRow.holds Try.pinned (OpenSpec.ofChange polyTellsSpec)

/-- ITS FALSE NEIGHBOUR: 'it returns false'. Refute it at one input. -/
def polyTellsWrong : ChangeSpec := { name := "polyTells", fn := fun _ => fun
  | [d1, d2, d3] => { results := [.lit (.bool false)], args := [d1, d2, d3] }
  | _ => none }
def PolyTellsWrongFalsely : Prop := polyTellsRow.holds Try.pinned (OpenSpec.ofChange polyTellsWrong)

/-- 'huddlelaw05.PolyDivides': WHATEVER THE INPUT: true; the input reads as it did. -/
def polyDividesSpec : ChangeSpec := { name := "polyDivides", fn := fun _ => fun
  | [d1, d2, d3] => { results := [.lit (.bool true)], args := [d1, d2, d3] }
  | _ => none }
def polyDividesRow : OpenClaim := { program := "ytokkjklggkoajaa", sum := "e8d78154795914510be8e2fbeec65330e884268894a4ab4d2968cda22320ac8d", func := "huddle/huddlelaw05.PolyDivides", spec := "polyDivides", unfollowed := true, recurses := true, apart := false }
def PolyDividesSaid : Prop := polyDividesRow.holds Try.pinned (OpenSpec.ofChange polyDividesSpec)

/-- ITS FALSE NEIGHBOUR: 'it returns false'. Refute it at one input. -/
def polyDividesWrong : ChangeSpec := { name := "polyDivides", fn := fun _ => fun
  | [d1, d2, d3] => { results := [.lit (.bool false)], args := [d1, d2, d3] }
  | _ => none }
def PolyDividesWrongFalsely : Prop := polyDividesRow.holds Try.pinned (OpenSpec.ofChange polyDividesWrong)

/-- 'huddlelaw05.PolyFroms': WHATEVER THE INPUT: true; the input reads as it did. -/
def polyFromsSpec : ChangeSpec := { name := "polyFroms", fn := fun _ => fun
  | [d1, d2, d3] => { results := [.lit (.bool true)], args := [d1, d2, d3] }
  | _ => none }
def polyFromsRow : OpenClaim := { program := "ytokkjklggkoajaa", sum := "e8d78154795914510be8e2fbeec65330e884268894a4ab4d2968cda22320ac8d", func := "huddle/huddlelaw05.PolyFroms", spec := "polyFroms", unfollowed := true, recurses := true, apart := false }
def PolyFromsSaid : Prop := polyFromsRow.holds Try.pinned (OpenSpec.ofChange polyFromsSpec)

/-- ITS FALSE NEIGHBOUR: 'it returns false'. Refute it at one input. -/
def polyFromsWrong : ChangeSpec := { name := "polyFroms", fn := fun _ => fun
  | [d1, d2, d3] => { results := [.lit (.bool false)], args := [d1, d2, d3] }
  | _ => none }
def PolyFromsWrongFalsely : Prop := polyFromsRow.holds Try.pinned (OpenSpec.ofChange polyFromsWrong)

/-- 'huddlelaw05.PolyRoots': WHATEVER THE INPUT: true; the input reads as it did. -/
def polyRootsSpec : ChangeSpec := { name := "polyRoots", fn := fun _ => fun
  | [d1, d2, d3, d4] => { results := [.lit (.bool true)], args := [d1, d2, d3, d4] }
  | _ => none }
def polyRootsRow : OpenClaim := { program := "ytokkjklggkoajaa", sum := "e8d78154795914510be8e2fbeec65330e884268894a4ab4d2968cda22320ac8d", func := "huddle/huddlelaw05.PolyRoots", spec := "polyRoots", unfollowed := true, recurses := true, apart := false }
def PolyRootsSaid : Prop := polyRootsRow.holds Try.pinned (OpenSpec.ofChange polyRootsSpec)

/-- ITS FALSE NEIGHBOUR: 'it returns false'. Refute it at one input. -/
def polyRootsWrong : ChangeSpec := { name := "polyRoots", fn := fun _ => fun
  | [d1, d2, d3, d4] => { results := [.lit (.bool false)], args := [d1, d2, d3, d4] }
  | _ => none }
def PolyRootsWrongFalsely : Prop := polyRootsRow.holds Try.pinned (OpenSpec.ofChange polyRootsWrong)

/-- 'huddlelaw05.PolyRing': WHATEVER THE INPUT: true; the input reads as it did. -/
def polyRingSpec : ChangeSpec := { name := "polyRing", fn := fun _ => fun
  | [d1, d2, d3, d4] => { results := [.lit (.bool true)], args := [d1, d2, d3, d4] }
  | _ => none }
def polyRingRow : OpenClaim := { program := "ytokkjklggkoajaa", sum := "e8d78154795914510be8e2fbeec65330e884268894a4ab4d2968cda22320ac8d", func := "huddle/huddlelaw05.PolyRing", spec := "polyRing", unfollowed := true, recurses := true, apart := false }
def PolyRingSaid : Prop := polyRingRow.holds Try.pinned (OpenSpec.ofChange polyRingSpec)

/-- ITS FALSE NEIGHBOUR: 'it returns false'. Refute it at one input. -/
def polyRingWrong : ChangeSpec := { name := "polyRing", fn := fun _ => fun
  | [d1, d2, d3, d4] => { results := [.lit (.bool false)], args := [d1, d2, d3, d4] }
  | _ => none }
def PolyRingWrongFalsely : Prop := polyRingRow.holds Try.pinned (OpenSpec.ofChange polyRingWrong)

/-- 'huddlelaw05.PolyEuclid': WHATEVER THE INPUT: true; the input reads as it did. -/
def polyEuclidSpec : ChangeSpec := { name := "polyEuclid", fn := fun _ => fun
  | [d1, d2, d3] => { results := [.lit (.bool true)], args := [d1, d2, d3] }
  | _ => none }
def polyEuclidRow : OpenClaim := { program := "ytokkjklggkoajaa", sum := "e8d78154795914510be8e2fbeec65330e884268894a4ab4d2968cda22320ac8d", func := "huddle/huddlelaw05.PolyEuclid", spec := "polyEuclid", unfollowed := true, recurses := true, apart := false }
def PolyEuclidSaid : Prop := polyEuclidRow.holds Try.pinned (OpenSpec.ofChange polyEuclidSpec)

/-- ITS FALSE NEIGHBOUR: 'it returns false'. Refute it at one input. -/
def polyEuclidWrong : ChangeSpec := { name := "polyEuclid", fn := fun _ => fun
  | [d1, d2, d3] => { results := [.lit (.bool false)], args := [d1, d2, d3] }
  | _ => none }
def PolyEuclidWrongFalsely : Prop := polyEuclidRow.holds Try.pinned (OpenSpec.ofChange polyEuclidWrong)

/-- 'huddlelaw05.PolyLagrange': WHATEVER THE INPUT: true; the input reads as it did. -/
def polyLagrangeSpec : ChangeSpec := { name := "polyLagrange", fn := fun _ => fun
  | [d1, d2, d3] => { results := [.lit (.bool true)], args := [d1, d2, d3] }
  | _ => none }
def polyLagrangeRow : OpenClaim := { program := "ytokkjklggkoajaa", sum := "e8d78154795914510be8e2fbeec65330e884268894a4ab4d2968cda22320ac8d", func := "huddle/huddlelaw05.PolyLagrange", spec := "polyLagrange", unfollowed := true, recurses := true, apart := false }
def PolyLagrangeSaid : Prop := polyLagrangeRow.holds Try.pinned (OpenSpec.ofChange polyLagrangeSpec)

/-- ITS FALSE NEIGHBOUR: 'it returns false'. Refute it at one input. -/
def polyLagrangeWrong : ChangeSpec := { name := "polyLagrange", fn := fun _ => fun
  | [d1, d2, d3] => { results := [.lit (.bool false)], args := [d1, d2, d3] }
  | _ => none }
def PolyLagrangeWrongFalsely : Prop := polyLagrangeRow.holds Try.pinned (OpenSpec.ofChange polyLagrangeWrong)

/-- 'huddlelaw05.PolyFactors': WHATEVER THE INPUT: true; the input reads as it did. -/
def polyFactorsSpec : ChangeSpec := { name := "polyFactors", fn := fun _ => fun
  | [d1, d2, d3] => { results := [.lit (.bool true)], args := [d1, d2, d3] }
  | _ => none }
def polyFactorsRow : OpenClaim := { program := "ytokkjklggkoajaa", sum := "e8d78154795914510be8e2fbeec65330e884268894a4ab4d2968cda22320ac8d", func := "huddle/huddlelaw05.PolyFactors", spec := "polyFactors", unfollowed := true, recurses := true, apart := false }
def PolyFactorsSaid : Prop := polyFactorsRow.holds Try.pinned (OpenSpec.ofChange polyFactorsSpec)

/-- ITS FALSE NEIGHBOUR: 'it returns false'. Refute it at one input. -/
def polyFactorsWrong : ChangeSpec := { name := "polyFactors", fn := fun _ => fun
  | [d1, d2, d3] => { results := [.lit (.bool false)], args := [d1, d2, d3] }
  | _ => none }
def PolyFactorsWrongFalsely : Prop := polyFactorsRow.holds Try.pinned (OpenSpec.ofChange polyFactorsWrong)

/-- 'huddlelaw05.PolyFermat': WHATEVER THE INPUT: true; the input reads as it did. -/
def polyFermatSpec : ChangeSpec := { name := "polyFermat", fn := fun _ => fun
  | [d] => { results := [.lit (.bool true)], args := [d] }
  | _ => none }
def polyFermatRow : OpenClaim := { program := "ytokkjklggkoajaa", sum := "e8d78154795914510be8e2fbeec65330e884268894a4ab4d2968cda22320ac8d", func := "huddle/huddlelaw05.PolyFermat", spec := "polyFermat", unfollowed := true, recurses := true, apart := false }
def PolyFermatSaid : Prop := polyFermatRow.holds Try.pinned (OpenSpec.ofChange polyFermatSpec)

/-- ITS FALSE NEIGHBOUR: 'it returns false'. Refute it at one input. -/
def polyFermatWrong : ChangeSpec := { name := "polyFermat", fn := fun _ => fun
  | [d] => { results := [.lit (.bool false)], args := [d] }
  | _ => none }
def PolyFermatWrongFalsely : Prop := polyFermatRow.holds Try.pinned (OpenSpec.ofChange polyFermatWrong)

/- THE SECOND FORM. 'bulk': how many values and letters a reading holds, each counted each time it is reached (what is shared counts as often as it is met; a slice's spare places count too). A statement '..UptoSaid' is the law's where the arguments, and the package variables that the reading takes, are together of bulk at most 1048576: NARROWER than '..Said'. Prove '..Said' where nothing that the law and all that it calls make is longer than what came in: it says more and counts as full. Else prove '..UptoSaid'. A law counts once. -/
mutual
def uptoBulk {H : Type} : DataW H → Nat
  | .lit (.string bytes) => bytes.length + 1
  | .lit _ => 1
  | .nil => 1
  | .ptr d => uptoBulk d + 1
  | .slice elems spare => uptoBulkAll elems + uptoBulkAll spare + 1
  | .agg parts => uptoBulkAll parts + 1
  | .iface _ d => uptoBulk d + 1
  | .map entries => uptoBulkEntries entries + 1
  | .held _ => 1
def uptoBulkAll {H : Type} : List (DataW H) → Nat
  | [] => 0
  | d :: r => uptoBulk d + uptoBulkAll r
def uptoBulkEntries {H : Type} : List (Lit × DataW H) → Nat
  | [] => 0
  | x :: r => uptoBulkEntry x + uptoBulkEntries r
def uptoBulkEntry {H : Type} : Lit × DataW H → Nat
  | (.string bytes, d) => bytes.length + uptoBulk d + 1
  | (_, d) => uptoBulk d + 1
 end
def uptoSmall : (H : Type) → List (DataW H) → Bool := fun _ ds => decide (uptoBulkAll ds ≤ 1048576)
def OpenSpec.upto (s : _root_.Go.ChangeSpec) : _root_.Go.OpenSpec := { _root_.Go.OpenSpec.ofChange s with cond := some uptoSmall }

/-- 'huddlelaw05.PolyTells', WHERE WHAT IT READS IS OF BULK AT MOST 1048576: true; the input reads as it did. -/
def polyTellsUptoRow : OpenClaim := { program := "ytokkjklggkoajaa", sum := "e8d78154795914510be8e2fbeec65330e884268894a4ab4d2968cda22320ac8d", func := "huddle/huddlelaw05.PolyTells", spec := "polyTells", unfollowed := true, recurses := true, apart := false, narrowed := true }
def PolyTellsUptoSaid : Prop := polyTellsUptoRow.holds Try.pinned (OpenSpec.upto polyTellsSpec)

/-- 'huddlelaw05.PolyDivides', WHERE WHAT IT READS IS OF BULK AT MOST 1048576: true; the input reads as it did. -/
def polyDividesUptoRow : OpenClaim := { program := "ytokkjklggkoajaa", sum := "e8d78154795914510be8e2fbeec65330e884268894a4ab4d2968cda22320ac8d", func := "huddle/huddlelaw05.PolyDivides", spec := "polyDivides", unfollowed := true, recurses := true, apart := false, narrowed := true }
def PolyDividesUptoSaid : Prop := polyDividesUptoRow.holds Try.pinned (OpenSpec.upto polyDividesSpec)

/-- 'huddlelaw05.PolyFroms', WHERE WHAT IT READS IS OF BULK AT MOST 1048576: true; the input reads as it did. -/
def polyFromsUptoRow : OpenClaim := { program := "ytokkjklggkoajaa", sum := "e8d78154795914510be8e2fbeec65330e884268894a4ab4d2968cda22320ac8d", func := "huddle/huddlelaw05.PolyFroms", spec := "polyFroms", unfollowed := true, recurses := true, apart := false, narrowed := true }
def PolyFromsUptoSaid : Prop := polyFromsUptoRow.holds Try.pinned (OpenSpec.upto polyFromsSpec)

/-- 'huddlelaw05.PolyRoots', WHERE WHAT IT READS IS OF BULK AT MOST 1048576: true; the input reads as it did. -/
def polyRootsUptoRow : OpenClaim := { program := "ytokkjklggkoajaa", sum := "e8d78154795914510be8e2fbeec65330e884268894a4ab4d2968cda22320ac8d", func := "huddle/huddlelaw05.PolyRoots", spec := "polyRoots", unfollowed := true, recurses := true, apart := false, narrowed := true }
def PolyRootsUptoSaid : Prop := polyRootsUptoRow.holds Try.pinned (OpenSpec.upto polyRootsSpec)

/-- 'huddlelaw05.PolyRing', WHERE WHAT IT READS IS OF BULK AT MOST 1048576: true; the input reads as it did. -/
def polyRingUptoRow : OpenClaim := { program := "ytokkjklggkoajaa", sum := "e8d78154795914510be8e2fbeec65330e884268894a4ab4d2968cda22320ac8d", func := "huddle/huddlelaw05.PolyRing", spec := "polyRing", unfollowed := true, recurses := true, apart := false, narrowed := true }
def PolyRingUptoSaid : Prop := polyRingUptoRow.holds Try.pinned (OpenSpec.upto polyRingSpec)

/-- 'huddlelaw05.PolyEuclid', WHERE WHAT IT READS IS OF BULK AT MOST 1048576: true; the input reads as it did. -/
def polyEuclidUptoRow : OpenClaim := { program := "ytokkjklggkoajaa", sum := "e8d78154795914510be8e2fbeec65330e884268894a4ab4d2968cda22320ac8d", func := "huddle/huddlelaw05.PolyEuclid", spec := "polyEuclid", unfollowed := true, recurses := true, apart := false, narrowed := true }
def PolyEuclidUptoSaid : Prop := polyEuclidUptoRow.holds Try.pinned (OpenSpec.upto polyEuclidSpec)

/-- 'huddlelaw05.PolyLagrange', WHERE WHAT IT READS IS OF BULK AT MOST 1048576: true; the input reads as it did. -/
def polyLagrangeUptoRow : OpenClaim := { program := "ytokkjklggkoajaa", sum := "e8d78154795914510be8e2fbeec65330e884268894a4ab4d2968cda22320ac8d", func := "huddle/huddlelaw05.PolyLagrange", spec := "polyLagrange", unfollowed := true, recurses := true, apart := false, narrowed := true }
def PolyLagrangeUptoSaid : Prop := polyLagrangeUptoRow.holds Try.pinned (OpenSpec.upto polyLagrangeSpec)

/-- 'huddlelaw05.PolyFactors', WHERE WHAT IT READS IS OF BULK AT MOST 1048576: true; the input reads as it did. -/
def polyFactorsUptoRow : OpenClaim := { program := "ytokkjklggkoajaa", sum := "e8d78154795914510be8e2fbeec65330e884268894a4ab4d2968cda22320ac8d", func := "huddle/huddlelaw05.PolyFactors", spec := "polyFactors", unfollowed := true, recurses := true, apart := false, narrowed := true }
def PolyFactorsUptoSaid : Prop := polyFactorsUptoRow.holds Try.pinned (OpenSpec.upto polyFactorsSpec)

/-- 'huddlelaw05.PolyFermat', WHERE WHAT IT READS IS OF BULK AT MOST 1048576: true; the input reads as it did. -/
def polyFermatUptoRow : OpenClaim := { program := "ytokkjklggkoajaa", sum := "e8d78154795914510be8e2fbeec65330e884268894a4ab4d2968cda22320ac8d", func := "huddle/huddlelaw05.PolyFermat", spec := "polyFermat", unfollowed := true, recurses := true, apart := false, narrowed := true }
def PolyFermatUptoSaid : Prop := polyFermatUptoRow.holds Try.pinned (OpenSpec.upto polyFermatSpec)

end Rows
end Go.Proofs.Ytokkjklggkoajaa
