/-
  No cell of these rows narrows 'for every input' (looked for: loops, veiled, ifaces, maps, wideKeys, modest, calm, conditions, laid).
  DERIVED. THE GIVEN ROWS OF THIS SEAT. 8 by the template 'for every input the law returns true; each argument reads behind the call as it read before'; 0 by the template 'total and deterministic' (their statements: YtelnhpcehmdffaaTotals.lean).
  GIVEN WITH THE SEED: the statements are not yours to turn. If you find one false, say at which input.
  Laid BY PROGRAM, IN A SANDBOX (cutbox-rows.mjs): the forced cells as the released guide's own fill.sh prints them over the translation 00cbe0deec12601b… (all of the seat's roots in one cut). By AI agents, Wed Nov 11 2026. No macro, syntax, notation, axiom, sorry.
-/
import Derived.Test.YtelnhpcehmdffaaChecked
import GoSem.Claim
import GoSem.ClaimJoined
import GoSem.ClaimMapViews
import Derived.JoinedTies
import Derived.KernelRfl
namespace Go.Proofs.Ytelnhpcehmdffaa
/- THE CELL 'sum', in the pinned program and in every row, IS THE sha256 OF THE DUMP (.gsa) THAT YtelnhpcehmdffaaProg.lean LOADS. Nothing in Lean hashes anything: it is a label: what it is worth is what the hold of that sum in a sandbox is worth. -/
noncomputable def Try.pinned : Pinned := { name := "ytelnhpcehmdffaa", sum := "00cbe0deec12601b6cb47bcffe04df3f28d0e707461bdbe92c735259af161fdc", checked := Try.checked }
namespace Rows
def none {H : Type} : Left H := { results := [], args := [] }

/-- 'huddlelaw10.SketchDiffs': WHATEVER THE INPUT: true; the input reads as it did. -/
def sketchDiffsSpec : ChangeSpec := { name := "sketchDiffs", fn := fun _ => fun
  | [d1, d2, d3, d4] => { results := [.lit (.bool true)], args := [d1, d2, d3, d4] }
  | _ => none }
def sketchDiffsRow : OpenClaim := { program := "ytelnhpcehmdffaa", sum := "00cbe0deec12601b6cb47bcffe04df3f28d0e707461bdbe92c735259af161fdc", func := "huddle/huddlelaw10.SketchDiffs", spec := "sketchDiffs", unfollowed := true, recurses := true, apart := false }
def SketchDiffsSaid : Prop := sketchDiffsRow.holds Try.pinned (OpenSpec.ofChange sketchDiffsSpec)

/-- ITS FALSE NEIGHBOUR: 'it returns false'. Refute it at one input. -/
def sketchDiffsWrong : ChangeSpec := { name := "sketchDiffs", fn := fun _ => fun
  | [d1, d2, d3, d4] => { results := [.lit (.bool false)], args := [d1, d2, d3, d4] }
  | _ => none }
def SketchDiffsWrongFalsely : Prop := sketchDiffsRow.holds Try.pinned (OpenSpec.ofChange sketchDiffsWrong)

/-- 'huddlelaw10.SketchBeyond': WHATEVER THE INPUT: true; the input reads as it did. -/
def sketchBeyondSpec : ChangeSpec := { name := "sketchBeyond", fn := fun _ => fun
  | [d1, d2, d3, d4] => { results := [.lit (.bool true)], args := [d1, d2, d3, d4] }
  | _ => none }
def sketchBeyondRow : OpenClaim := { program := "ytelnhpcehmdffaa", sum := "00cbe0deec12601b6cb47bcffe04df3f28d0e707461bdbe92c735259af161fdc", func := "huddle/huddlelaw10.SketchBeyond", spec := "sketchBeyond", unfollowed := true, recurses := true, apart := false }
def SketchBeyondSaid : Prop := sketchBeyondRow.holds Try.pinned (OpenSpec.ofChange sketchBeyondSpec)

/-- ITS FALSE NEIGHBOUR: 'it returns false'. Refute it at one input. -/
def sketchBeyondWrong : ChangeSpec := { name := "sketchBeyond", fn := fun _ => fun
  | [d1, d2, d3, d4] => { results := [.lit (.bool false)], args := [d1, d2, d3, d4] }
  | _ => none }
def SketchBeyondWrongFalsely : Prop := sketchBeyondRow.holds Try.pinned (OpenSpec.ofChange sketchBeyondWrong)

/-- 'huddlelaw10.SketchTurned': WHATEVER THE INPUT: true; the input reads as it did. -/
def sketchTurnedSpec : ChangeSpec := { name := "sketchTurned", fn := fun _ => fun
  | [d1, d2, d3] => { results := [.lit (.bool true)], args := [d1, d2, d3] }
  | _ => none }
def sketchTurnedRow : OpenClaim := { program := "ytelnhpcehmdffaa", sum := "00cbe0deec12601b6cb47bcffe04df3f28d0e707461bdbe92c735259af161fdc", func := "huddle/huddlelaw10.SketchTurned", spec := "sketchTurned", unfollowed := true, recurses := true, apart := false }
def SketchTurnedSaid : Prop := sketchTurnedRow.holds Try.pinned (OpenSpec.ofChange sketchTurnedSpec)

/-- ITS FALSE NEIGHBOUR: 'it returns false'. Refute it at one input. -/
def sketchTurnedWrong : ChangeSpec := { name := "sketchTurned", fn := fun _ => fun
  | [d1, d2, d3] => { results := [.lit (.bool false)], args := [d1, d2, d3] }
  | _ => none }
def SketchTurnedWrongFalsely : Prop := sketchTurnedRow.holds Try.pinned (OpenSpec.ofChange sketchTurnedWrong)

/-- 'huddlelaw10.SketchShort': WHATEVER THE INPUT: true; the input reads as it did. -/
def sketchShortSpec : ChangeSpec := { name := "sketchShort", fn := fun _ => fun
  | [d1, d2, d3, d4] => { results := [.lit (.bool true)], args := [d1, d2, d3, d4] }
  | _ => none }
def sketchShortRow : OpenClaim := { program := "ytelnhpcehmdffaa", sum := "00cbe0deec12601b6cb47bcffe04df3f28d0e707461bdbe92c735259af161fdc", func := "huddle/huddlelaw10.SketchShort", spec := "sketchShort", unfollowed := true, recurses := true, apart := false }
def SketchShortSaid : Prop := sketchShortRow.holds Try.pinned (OpenSpec.ofChange sketchShortSpec)

/-- ITS FALSE NEIGHBOUR: 'it returns false'. Refute it at one input. -/
def sketchShortWrong : ChangeSpec := { name := "sketchShort", fn := fun _ => fun
  | [d1, d2, d3, d4] => { results := [.lit (.bool false)], args := [d1, d2, d3, d4] }
  | _ => none }
def SketchShortWrongFalsely : Prop := sketchShortRow.holds Try.pinned (OpenSpec.ofChange sketchShortWrong)

/-- 'huddlelaw10.SketchTimes': WHATEVER THE INPUT: true; the input reads as it did. -/
def sketchTimesSpec : ChangeSpec := { name := "sketchTimes", fn := fun _ => fun
  | [d1, d2, d3] => { results := [.lit (.bool true)], args := [d1, d2, d3] }
  | _ => none }
def sketchTimesRow : OpenClaim := { program := "ytelnhpcehmdffaa", sum := "00cbe0deec12601b6cb47bcffe04df3f28d0e707461bdbe92c735259af161fdc", func := "huddle/huddlelaw10.SketchTimes", spec := "sketchTimes", unfollowed := true, recurses := true, apart := false }
def SketchTimesSaid : Prop := sketchTimesRow.holds Try.pinned (OpenSpec.ofChange sketchTimesSpec)

/-- ITS FALSE NEIGHBOUR: 'it returns false'. Refute it at one input. -/
def sketchTimesWrong : ChangeSpec := { name := "sketchTimes", fn := fun _ => fun
  | [d1, d2, d3] => { results := [.lit (.bool false)], args := [d1, d2, d3] }
  | _ => none }
def SketchTimesWrongFalsely : Prop := sketchTimesRow.holds Try.pinned (OpenSpec.ofChange sketchTimesWrong)

/-- 'huddlelaw10.SketchOwn': WHATEVER THE INPUT: true; the input reads as it did. -/
def sketchOwnSpec : ChangeSpec := { name := "sketchOwn", fn := fun _ => fun
  | [d1, d2] => { results := [.lit (.bool true)], args := [d1, d2] }
  | _ => none }
def sketchOwnRow : OpenClaim := { program := "ytelnhpcehmdffaa", sum := "00cbe0deec12601b6cb47bcffe04df3f28d0e707461bdbe92c735259af161fdc", func := "huddle/huddlelaw10.SketchOwn", spec := "sketchOwn", unfollowed := true, recurses := true, apart := false }
def SketchOwnSaid : Prop := sketchOwnRow.holds Try.pinned (OpenSpec.ofChange sketchOwnSpec)

/-- ITS FALSE NEIGHBOUR: 'it returns false'. Refute it at one input. -/
def sketchOwnWrong : ChangeSpec := { name := "sketchOwn", fn := fun _ => fun
  | [d1, d2] => { results := [.lit (.bool false)], args := [d1, d2] }
  | _ => none }
def SketchOwnWrongFalsely : Prop := sketchOwnRow.holds Try.pinned (OpenSpec.ofChange sketchOwnWrong)

/-- 'huddlelaw10.SketchOf': WHATEVER THE INPUT: true; the input reads as it did. -/
def sketchOfSpec : ChangeSpec := { name := "sketchOf", fn := fun _ => fun
  | [d1, d2, d3] => { results := [.lit (.bool true)], args := [d1, d2, d3] }
  | _ => none }
def sketchOfRow : OpenClaim := { program := "ytelnhpcehmdffaa", sum := "00cbe0deec12601b6cb47bcffe04df3f28d0e707461bdbe92c735259af161fdc", func := "huddle/huddlelaw10.SketchOf", spec := "sketchOf", unfollowed := true, recurses := true, apart := false }
def SketchOfSaid : Prop := sketchOfRow.holds Try.pinned (OpenSpec.ofChange sketchOfSpec)

/-- ITS FALSE NEIGHBOUR: 'it returns false'. Refute it at one input. -/
def sketchOfWrong : ChangeSpec := { name := "sketchOf", fn := fun _ => fun
  | [d1, d2, d3] => { results := [.lit (.bool false)], args := [d1, d2, d3] }
  | _ => none }
def SketchOfWrongFalsely : Prop := sketchOfRow.holds Try.pinned (OpenSpec.ofChange sketchOfWrong)

/-- 'huddlelaw10.SketchNames': WHATEVER THE INPUT: true; the input reads as it did. -/
def sketchNamesSpec : ChangeSpec := { name := "sketchNames", fn := fun _ => fun
  | [d1, d2] => { results := [.lit (.bool true)], args := [d1, d2] }
  | _ => none }
def sketchNamesRow : OpenClaim := { program := "ytelnhpcehmdffaa", sum := "00cbe0deec12601b6cb47bcffe04df3f28d0e707461bdbe92c735259af161fdc", func := "huddle/huddlelaw10.SketchNames", spec := "sketchNames", unfollowed := true, recurses := true, apart := false }
def SketchNamesSaid : Prop := sketchNamesRow.holds Try.pinned (OpenSpec.ofChange sketchNamesSpec)

/-- ITS FALSE NEIGHBOUR: 'it returns false'. Refute it at one input. -/
def sketchNamesWrong : ChangeSpec := { name := "sketchNames", fn := fun _ => fun
  | [d1, d2] => { results := [.lit (.bool false)], args := [d1, d2] }
  | _ => none }
def SketchNamesWrongFalsely : Prop := sketchNamesRow.holds Try.pinned (OpenSpec.ofChange sketchNamesWrong)

/- THE SECOND FORM. 'bulk': how many values and letters a reading holds, each counted each time it is reached (what is shared counts as often as it is met; a slice's spare places count too). A statement '..UptoSaid' is the law's where the arguments, and the package variables that the reading takes, are together of bulk at most 1048576: NARROWER than '..Said'. Prove '..Said' where nothing that the law and all that it calls make is longer than what came in: it says more and counts as full. Else prove '..UptoSaid'. A law counts once. -/
mutual
def uptoBulk {H : Type} : DataW H → Nat
  | .lit (.string bytes) => bytes.length + 1
  | .lit _ => 1
  | .nil => 1
  | .ptr d => uptoBulk d + 1
  | .slice elems spare => uptoBulkAll elems + uptoBulkAll spare + 1
  | .agg parts => uptoBulkAll parts + 1
  | .iface _ d => uptoBulk d + 1
  | .map entries => uptoBulkEntries entries + 1
  | .held _ => 1
def uptoBulkAll {H : Type} : List (DataW H) → Nat
  | [] => 0
  | d :: r => uptoBulk d + uptoBulkAll r
def uptoBulkEntries {H : Type} : List (Lit × DataW H) → Nat
  | [] => 0
  | x :: r => uptoBulkEntry x + uptoBulkEntries r
def uptoBulkEntry {H : Type} : Lit × DataW H → Nat
  | (.string bytes, d) => bytes.length + uptoBulk d + 1
  | (_, d) => uptoBulk d + 1
 end
def uptoSmall : (H : Type) → List (DataW H) → Bool := fun _ ds => decide (uptoBulkAll ds ≤ 1048576)
def OpenSpec.upto (s : _root_.Go.ChangeSpec) : _root_.Go.OpenSpec := { _root_.Go.OpenSpec.ofChange s with cond := some uptoSmall }

/-- 'huddlelaw10.SketchDiffs', WHERE WHAT IT READS IS OF BULK AT MOST 1048576: true; the input reads as it did. -/
def sketchDiffsUptoRow : OpenClaim := { program := "ytelnhpcehmdffaa", sum := "00cbe0deec12601b6cb47bcffe04df3f28d0e707461bdbe92c735259af161fdc", func := "huddle/huddlelaw10.SketchDiffs", spec := "sketchDiffs", unfollowed := true, recurses := true, apart := false, narrowed := true }
def SketchDiffsUptoSaid : Prop := sketchDiffsUptoRow.holds Try.pinned (OpenSpec.upto sketchDiffsSpec)

/-- 'huddlelaw10.SketchBeyond', WHERE WHAT IT READS IS OF BULK AT MOST 1048576: true; the input reads as it did. -/
def sketchBeyondUptoRow : OpenClaim := { program := "ytelnhpcehmdffaa", sum := "00cbe0deec12601b6cb47bcffe04df3f28d0e707461bdbe92c735259af161fdc", func := "huddle/huddlelaw10.SketchBeyond", spec := "sketchBeyond", unfollowed := true, recurses := true, apart := false, narrowed := true }
def SketchBeyondUptoSaid : Prop := sketchBeyondUptoRow.holds Try.pinned (OpenSpec.upto sketchBeyondSpec)

/-- 'huddlelaw10.SketchTurned', WHERE WHAT IT READS IS OF BULK AT MOST 1048576: true; the input reads as it did. -/
def sketchTurnedUptoRow : OpenClaim := { program := "ytelnhpcehmdffaa", sum := "00cbe0deec12601b6cb47bcffe04df3f28d0e707461bdbe92c735259af161fdc", func := "huddle/huddlelaw10.SketchTurned", spec := "sketchTurned", unfollowed := true, recurses := true, apart := false, narrowed := true }
def SketchTurnedUptoSaid : Prop := sketchTurnedUptoRow.holds Try.pinned (OpenSpec.upto sketchTurnedSpec)

/-- 'huddlelaw10.SketchShort', WHERE WHAT IT READS IS OF BULK AT MOST 1048576: true; the input reads as it did. -/
def sketchShortUptoRow : OpenClaim := { program := "ytelnhpcehmdffaa", sum := "00cbe0deec12601b6cb47bcffe04df3f28d0e707461bdbe92c735259af161fdc", func := "huddle/huddlelaw10.SketchShort", spec := "sketchShort", unfollowed := true, recurses := true, apart := false, narrowed := true }
def SketchShortUptoSaid : Prop := sketchShortUptoRow.holds Try.pinned (OpenSpec.upto sketchShortSpec)

/-- 'huddlelaw10.SketchTimes', WHERE WHAT IT READS IS OF BULK AT MOST 1048576: true; the input reads as it did. -/
def sketchTimesUptoRow : OpenClaim := { program := "ytelnhpcehmdffaa", sum := "00cbe0deec12601b6cb47bcffe04df3f28d0e707461bdbe92c735259af161fdc", func := "huddle/huddlelaw10.SketchTimes", spec := "sketchTimes", unfollowed := true, recurses := true, apart := false, narrowed := true }
def SketchTimesUptoSaid : Prop := sketchTimesUptoRow.holds Try.pinned (OpenSpec.upto sketchTimesSpec)

/-- 'huddlelaw10.SketchOwn', WHERE WHAT IT READS IS OF BULK AT MOST 1048576: true; the input reads as it did. -/
def sketchOwnUptoRow : OpenClaim := { program := "ytelnhpcehmdffaa", sum := "00cbe0deec12601b6cb47bcffe04df3f28d0e707461bdbe92c735259af161fdc", func := "huddle/huddlelaw10.SketchOwn", spec := "sketchOwn", unfollowed := true, recurses := true, apart := false, narrowed := true }
def SketchOwnUptoSaid : Prop := sketchOwnUptoRow.holds Try.pinned (OpenSpec.upto sketchOwnSpec)

/-- 'huddlelaw10.SketchOf', WHERE WHAT IT READS IS OF BULK AT MOST 1048576: true; the input reads as it did. -/
def sketchOfUptoRow : OpenClaim := { program := "ytelnhpcehmdffaa", sum := "00cbe0deec12601b6cb47bcffe04df3f28d0e707461bdbe92c735259af161fdc", func := "huddle/huddlelaw10.SketchOf", spec := "sketchOf", unfollowed := true, recurses := true, apart := false, narrowed := true }
def SketchOfUptoSaid : Prop := sketchOfUptoRow.holds Try.pinned (OpenSpec.upto sketchOfSpec)

/-- 'huddlelaw10.SketchNames', WHERE WHAT IT READS IS OF BULK AT MOST 1048576: true; the input reads as it did. -/
def sketchNamesUptoRow : OpenClaim := { program := "ytelnhpcehmdffaa", sum := "00cbe0deec12601b6cb47bcffe04df3f28d0e707461bdbe92c735259af161fdc", func := "huddle/huddlelaw10.SketchNames", spec := "sketchNames", unfollowed := true, recurses := true, apart := false, narrowed := true }
def SketchNamesUptoSaid : Prop := sketchNamesUptoRow.holds Try.pinned (OpenSpec.upto sketchNamesSpec)

end Rows
end Go.Proofs.Ytelnhpcehmdffaa
