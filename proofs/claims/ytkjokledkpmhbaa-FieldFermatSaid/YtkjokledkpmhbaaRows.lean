/-
  No cell of these rows narrows 'for every input' (looked for: loops, veiled, ifaces, maps, wideKeys, modest, calm, conditions, laid).
  DERIVED. THE GIVEN ROWS OF THIS SEAT. 7 by the template 'for every input the law returns true; each argument reads behind the call as it read before'; 0 by the template 'total and deterministic' (their statements: YtkjokledkpmhbaaTotals.lean).
  GIVEN WITH THE SEED: the statements are not yours to turn. If you find one false, say at which input.
  Laid BY PROGRAM, IN A SANDBOX (cutbox-rows.mjs): the forced cells as the released guide's own fill.sh prints them over the translation 4581bdd3b3da1ad8… (all of the seat's roots in one cut). By AI agents, Wed Nov 11 2026. No macro, syntax, notation, axiom, sorry.
-/
import Derived.Test.YtkjokledkpmhbaaChecked
import GoSem.Claim
import GoSem.ClaimJoined
import GoSem.ClaimMapViews
import Derived.JoinedTies
import Derived.KernelRfl
namespace Go.Proofs.Ytkjokledkpmhbaa
/- THE CELL 'sum', in the pinned program and in every row, IS THE sha256 OF THE DUMP (.gsa) THAT YtkjokledkpmhbaaProg.lean LOADS. Nothing in Lean hashes anything: it is a label: what it is worth is what the hold of that sum in a sandbox is worth. -/
noncomputable def Try.pinned : Pinned := { name := "ytkjokledkpmhbaa", sum := "4581bdd3b3da1ad85cd2e5598e70bca11169ce098f759d86cc21e05672d3c61f", checked := Try.checked }
namespace Rows
def none {H : Type} : Left H := { results := [], args := [] }

/-- 'huddlelaw01.FieldPowers': WHATEVER THE INPUT: true; the input reads as it did. -/
def fieldPowersSpec : ChangeSpec := { name := "fieldPowers", fn := fun _ => fun
  | [d1, d2] => { results := [.lit (.bool true)], args := [d1, d2] }
  | _ => none }
def fieldPowersRow : OpenClaim := { program := "ytkjokledkpmhbaa", sum := "4581bdd3b3da1ad85cd2e5598e70bca11169ce098f759d86cc21e05672d3c61f", func := "huddle/huddlelaw01.FieldPowers", spec := "fieldPowers", unfollowed := true, recurses := true, apart := false }
def FieldPowersSaid : Prop := fieldPowersRow.holds Try.pinned (OpenSpec.ofChange fieldPowersSpec)

/-- ITS FALSE NEIGHBOUR: 'it returns false'. Refute it at one input. -/
def fieldPowersWrong : ChangeSpec := { name := "fieldPowers", fn := fun _ => fun
  | [d1, d2] => { results := [.lit (.bool false)], args := [d1, d2] }
  | _ => none }
def FieldPowersWrongFalsely : Prop := fieldPowersRow.holds Try.pinned (OpenSpec.ofChange fieldPowersWrong)

/-- 'huddlelaw01.FieldFermat': WHATEVER THE INPUT: true; the input reads as it did. -/
def fieldFermatSpec : ChangeSpec := { name := "fieldFermat", fn := fun _ => fun
  | [d] => { results := [.lit (.bool true)], args := [d] }
  | _ => none }
def fieldFermatRow : OpenClaim := { program := "ytkjokledkpmhbaa", sum := "4581bdd3b3da1ad85cd2e5598e70bca11169ce098f759d86cc21e05672d3c61f", func := "huddle/huddlelaw01.FieldFermat", spec := "fieldFermat", unfollowed := true, recurses := true, apart := false }
def FieldFermatSaid : Prop := fieldFermatRow.holds Try.pinned (OpenSpec.ofChange fieldFermatSpec)

/-- ITS FALSE NEIGHBOUR: 'it returns false'. Refute it at one input. -/
def fieldFermatWrong : ChangeSpec := { name := "fieldFermat", fn := fun _ => fun
  | [d] => { results := [.lit (.bool false)], args := [d] }
  | _ => none }
def FieldFermatWrongFalsely : Prop := fieldFermatRow.holds Try.pinned (OpenSpec.ofChange fieldFermatWrong)

/-- 'huddlelaw01.FieldAdds': WHATEVER THE INPUT: true; the input reads as it did. -/
def fieldAddsSpec : ChangeSpec := { name := "fieldAdds", fn := fun _ => fun
  | [d1, d2, d3, d4] => { results := [.lit (.bool true)], args := [d1, d2, d3, d4] }
  | _ => none }
def fieldAddsRow : OpenClaim := { program := "ytkjokledkpmhbaa", sum := "4581bdd3b3da1ad85cd2e5598e70bca11169ce098f759d86cc21e05672d3c61f", func := "huddle/huddlelaw01.FieldAdds", spec := "fieldAdds", unfollowed := true, recurses := true, apart := false }
def FieldAddsSaid : Prop := fieldAddsRow.holds Try.pinned (OpenSpec.ofChange fieldAddsSpec)

/-- ITS FALSE NEIGHBOUR: 'it returns false'. Refute it at one input. -/
def fieldAddsWrong : ChangeSpec := { name := "fieldAdds", fn := fun _ => fun
  | [d1, d2, d3, d4] => { results := [.lit (.bool false)], args := [d1, d2, d3, d4] }
  | _ => none }
def FieldAddsWrongFalsely : Prop := fieldAddsRow.holds Try.pinned (OpenSpec.ofChange fieldAddsWrong)

/-- 'huddlelaw01.FieldSquares': WHATEVER THE INPUT: true; the input reads as it did. -/
def fieldSquaresSpec : ChangeSpec := { name := "fieldSquares", fn := fun _ => fun
  | [d1, d2] => { results := [.lit (.bool true)], args := [d1, d2] }
  | _ => none }
def fieldSquaresRow : OpenClaim := { program := "ytkjokledkpmhbaa", sum := "4581bdd3b3da1ad85cd2e5598e70bca11169ce098f759d86cc21e05672d3c61f", func := "huddle/huddlelaw01.FieldSquares", spec := "fieldSquares", unfollowed := true, recurses := true, apart := false }
def FieldSquaresSaid : Prop := fieldSquaresRow.holds Try.pinned (OpenSpec.ofChange fieldSquaresSpec)

/-- ITS FALSE NEIGHBOUR: 'it returns false'. Refute it at one input. -/
def fieldSquaresWrong : ChangeSpec := { name := "fieldSquares", fn := fun _ => fun
  | [d1, d2] => { results := [.lit (.bool false)], args := [d1, d2] }
  | _ => none }
def FieldSquaresWrongFalsely : Prop := fieldSquaresRow.holds Try.pinned (OpenSpec.ofChange fieldSquaresWrong)

/-- 'huddlelaw01.FieldRing': WHATEVER THE INPUT: true; the input reads as it did. -/
def fieldRingSpec : ChangeSpec := { name := "fieldRing", fn := fun _ => fun
  | [d1, d2, d3] => { results := [.lit (.bool true)], args := [d1, d2, d3] }
  | _ => none }
def fieldRingRow : OpenClaim := { program := "ytkjokledkpmhbaa", sum := "4581bdd3b3da1ad85cd2e5598e70bca11169ce098f759d86cc21e05672d3c61f", func := "huddle/huddlelaw01.FieldRing", spec := "fieldRing", unfollowed := true, recurses := true, apart := false }
def FieldRingSaid : Prop := fieldRingRow.holds Try.pinned (OpenSpec.ofChange fieldRingSpec)

/-- ITS FALSE NEIGHBOUR: 'it returns false'. Refute it at one input. -/
def fieldRingWrong : ChangeSpec := { name := "fieldRing", fn := fun _ => fun
  | [d1, d2, d3] => { results := [.lit (.bool false)], args := [d1, d2, d3] }
  | _ => none }
def FieldRingWrongFalsely : Prop := fieldRingRow.holds Try.pinned (OpenSpec.ofChange fieldRingWrong)

/-- 'huddlelaw01.FieldBack': WHATEVER THE INPUT: true; the input reads as it did. -/
def fieldBackSpec : ChangeSpec := { name := "fieldBack", fn := fun _ => fun
  | [d1, d2] => { results := [.lit (.bool true)], args := [d1, d2] }
  | _ => none }
def fieldBackRow : OpenClaim := { program := "ytkjokledkpmhbaa", sum := "4581bdd3b3da1ad85cd2e5598e70bca11169ce098f759d86cc21e05672d3c61f", func := "huddle/huddlelaw01.FieldBack", spec := "fieldBack", unfollowed := true, recurses := true, apart := false }
def FieldBackSaid : Prop := fieldBackRow.holds Try.pinned (OpenSpec.ofChange fieldBackSpec)

/-- ITS FALSE NEIGHBOUR: 'it returns false'. Refute it at one input. -/
def fieldBackWrong : ChangeSpec := { name := "fieldBack", fn := fun _ => fun
  | [d1, d2] => { results := [.lit (.bool false)], args := [d1, d2] }
  | _ => none }
def FieldBackWrongFalsely : Prop := fieldBackRow.holds Try.pinned (OpenSpec.ofChange fieldBackWrong)

/-- 'huddlelaw01.FieldTells': WHATEVER THE INPUT: true; the input reads as it did. -/
def fieldTellsSpec : ChangeSpec := { name := "fieldTells", fn := fun _ => fun
  | [d1, d2] => { results := [.lit (.bool true)], args := [d1, d2] }
  | _ => none }
def fieldTellsRow : OpenClaim := { program := "ytkjokledkpmhbaa", sum := "4581bdd3b3da1ad85cd2e5598e70bca11169ce098f759d86cc21e05672d3c61f", func := "huddle/huddlelaw01.FieldTells", spec := "fieldTells", unfollowed := true, recurses := true, apart := false }
def FieldTellsSaid : Prop := fieldTellsRow.holds Try.pinned (OpenSpec.ofChange fieldTellsSpec)

/-- ITS FALSE NEIGHBOUR: 'it returns false'. Refute it at one input. -/
def fieldTellsWrong : ChangeSpec := { name := "fieldTells", fn := fun _ => fun
  | [d1, d2] => { results := [.lit (.bool false)], args := [d1, d2] }
  | _ => none }
def FieldTellsWrongFalsely : Prop := fieldTellsRow.holds Try.pinned (OpenSpec.ofChange fieldTellsWrong)

/- THE SECOND FORM. 'bulk': how many values and letters a reading holds, each counted each time it is reached (what is shared counts as often as it is met; a slice's spare places count too). A statement '..UptoSaid' is the law's where the arguments, and the package variables that the reading takes, are together of bulk at most 1048576: NARROWER than '..Said'. Prove '..Said' where nothing that the law and all that it calls make is longer than what came in: it says more and counts as full. Else prove '..UptoSaid'. A law counts once. -/
mutual
def uptoBulk {H : Type} : DataW H → Nat
  | .lit (.string bytes) => bytes.length + 1
  | .lit _ => 1
  | .nil => 1
  | .ptr d => uptoBulk d + 1
  | .slice elems spare => uptoBulkAll elems + uptoBulkAll spare + 1
  | .agg parts => uptoBulkAll parts + 1
  | .iface _ d => uptoBulk d + 1
  | .map entries => uptoBulkEntries entries + 1
  | .held _ => 1
def uptoBulkAll {H : Type} : List (DataW H) → Nat
  | [] => 0
  | d :: r => uptoBulk d + uptoBulkAll r
def uptoBulkEntries {H : Type} : List (Lit × DataW H) → Nat
  | [] => 0
  | x :: r => uptoBulkEntry x + uptoBulkEntries r
def uptoBulkEntry {H : Type} : Lit × DataW H → Nat
  | (.string bytes, d) => bytes.length + uptoBulk d + 1
  | (_, d) => uptoBulk d + 1
 end
def uptoSmall : (H : Type) → List (DataW H) → Bool := fun _ ds => decide (uptoBulkAll ds ≤ 1048576)
def OpenSpec.upto (s : _root_.Go.ChangeSpec) : _root_.Go.OpenSpec := { _root_.Go.OpenSpec.ofChange s with cond := some uptoSmall }

/-- 'huddlelaw01.FieldPowers', WHERE WHAT IT READS IS OF BULK AT MOST 1048576: true; the input reads as it did. -/
def fieldPowersUptoRow : OpenClaim := { program := "ytkjokledkpmhbaa", sum := "4581bdd3b3da1ad85cd2e5598e70bca11169ce098f759d86cc21e05672d3c61f", func := "huddle/huddlelaw01.FieldPowers", spec := "fieldPowers", unfollowed := true, recurses := true, apart := false, narrowed := true }
def FieldPowersUptoSaid : Prop := fieldPowersUptoRow.holds Try.pinned (OpenSpec.upto fieldPowersSpec)

/-- 'huddlelaw01.FieldFermat', WHERE WHAT IT READS IS OF BULK AT MOST 1048576: true; the input reads as it did. -/
def fieldFermatUptoRow : OpenClaim := { program := "ytkjokledkpmhbaa", sum := "4581bdd3b3da1ad85cd2e5598e70bca11169ce098f759d86cc21e05672d3c61f", func := "huddle/huddlelaw01.FieldFermat", spec := "fieldFermat", unfollowed := true, recurses := true, apart := false, narrowed := true }
def FieldFermatUptoSaid : Prop := fieldFermatUptoRow.holds Try.pinned (OpenSpec.upto fieldFermatSpec)

/-- 'huddlelaw01.FieldAdds', WHERE WHAT IT READS IS OF BULK AT MOST 1048576: true; the input reads as it did. -/
def fieldAddsUptoRow : OpenClaim := { program := "ytkjokledkpmhbaa", sum := "4581bdd3b3da1ad85cd2e5598e70bca11169ce098f759d86cc21e05672d3c61f", func := "huddle/huddlelaw01.FieldAdds", spec := "fieldAdds", unfollowed := true, recurses := true, apart := false, narrowed := true }
def FieldAddsUptoSaid : Prop := fieldAddsUptoRow.holds Try.pinned (OpenSpec.upto fieldAddsSpec)

/-- 'huddlelaw01.FieldSquares', WHERE WHAT IT READS IS OF BULK AT MOST 1048576: true; the input reads as it did. -/
def fieldSquaresUptoRow : OpenClaim := { program := "ytkjokledkpmhbaa", sum := "4581bdd3b3da1ad85cd2e5598e70bca11169ce098f759d86cc21e05672d3c61f", func := "huddle/huddlelaw01.FieldSquares", spec := "fieldSquares", unfollowed := true, recurses := true, apart := false, narrowed := true }
def FieldSquaresUptoSaid : Prop := fieldSquaresUptoRow.holds Try.pinned (OpenSpec.upto fieldSquaresSpec)

/-- 'huddlelaw01.FieldRing', WHERE WHAT IT READS IS OF BULK AT MOST 1048576: true; the input reads as it did. -/
def fieldRingUptoRow : OpenClaim := { program := "ytkjokledkpmhbaa", sum := "4581bdd3b3da1ad85cd2e5598e70bca11169ce098f759d86cc21e05672d3c61f", func := "huddle/huddlelaw01.FieldRing", spec := "fieldRing", unfollowed := true, recurses := true, apart := false, narrowed := true }
def FieldRingUptoSaid : Prop := fieldRingUptoRow.holds Try.pinned (OpenSpec.upto fieldRingSpec)

/-- 'huddlelaw01.FieldBack', WHERE WHAT IT READS IS OF BULK AT MOST 1048576: true; the input reads as it did. -/
def fieldBackUptoRow : OpenClaim := { program := "ytkjokledkpmhbaa", sum := "4581bdd3b3da1ad85cd2e5598e70bca11169ce098f759d86cc21e05672d3c61f", func := "huddle/huddlelaw01.FieldBack", spec := "fieldBack", unfollowed := true, recurses := true, apart := false, narrowed := true }
def FieldBackUptoSaid : Prop := fieldBackUptoRow.holds Try.pinned (OpenSpec.upto fieldBackSpec)

/-- 'huddlelaw01.FieldTells', WHERE WHAT IT READS IS OF BULK AT MOST 1048576: true; the input reads as it did. -/
def fieldTellsUptoRow : OpenClaim := { program := "ytkjokledkpmhbaa", sum := "4581bdd3b3da1ad85cd2e5598e70bca11169ce098f759d86cc21e05672d3c61f", func := "huddle/huddlelaw01.FieldTells", spec := "fieldTells", unfollowed := true, recurses := true, apart := false, narrowed := true }
def FieldTellsUptoSaid : Prop := fieldTellsUptoRow.holds Try.pinned (OpenSpec.upto fieldTellsSpec)

end Rows
end Go.Proofs.Ytkjokledkpmhbaa
