/-
  No cell of these rows narrows 'for every input' (looked for: loops, veiled, ifaces, maps, wideKeys, modest, calm, conditions, laid).
  DERIVED. THE GIVEN ROWS OF THIS SEAT. 7 by the template 'for every input the law returns true; each argument reads behind the call as it read before'; 0 by the template 'total and deterministic' (their statements: YtpngkdhfjginlaaTotals.lean).
  GIVEN WITH THE SEED: the statements are not yours to turn. If you find one false, say at which input.
  Laid BY PROGRAM, IN A SANDBOX (cutbox-rows.mjs): the forced cells as the released guide's own fill.sh prints them over the translation 8be433bbf4e2914f… (all of the seat's roots in one cut). By AI agents, Wed Nov 11 2026. No macro, syntax, notation, axiom, sorry.
-/
import Derived.Test.YtpngkdhfjginlaaChecked
import GoSem.Claim
import GoSem.ClaimJoined
import GoSem.ClaimMapViews
import Derived.JoinedTies
import Derived.KernelRfl
namespace Go.Proofs.Ytpngkdhfjginlaa
/- THE CELL 'sum', in the pinned program and in every row, IS THE sha256 OF THE DUMP (.gsa) THAT YtpngkdhfjginlaaProg.lean LOADS. Nothing in Lean hashes anything: it is a label: what it is worth is what the hold of that sum in a sandbox is worth. -/
noncomputable def Try.pinned : Pinned := { name := "ytpngkdhfjginlaa", sum := "8be433bbf4e2914f6cdfc6c5b04f451b0c322f06f53f9ba0492e55298d08658c", checked := Try.checked }
namespace Rows
def none {H : Type} : Left H := { results := [], args := [] }

/-- 'huddlelaw09.ShareSplits': WHATEVER THE INPUT: true; the input reads as it did. -/
def shareSplitsSpec : ChangeSpec := { name := "shareSplits", fn := fun _ => fun
  | [d1, d2, d3] => { results := [.lit (.bool true)], args := [d1, d2, d3] }
  | _ => none }
def shareSplitsRow : OpenClaim := { program := "ytpngkdhfjginlaa", sum := "8be433bbf4e2914f6cdfc6c5b04f451b0c322f06f53f9ba0492e55298d08658c", func := "huddle/huddlelaw09.ShareSplits", spec := "shareSplits", unfollowed := true, recurses := true, apart := false }
def ShareSplitsSaid : Prop := shareSplitsRow.holds Try.pinned (OpenSpec.ofChange shareSplitsSpec)

/-- ITS FALSE NEIGHBOUR: 'it returns false'. Refute it at one input. -/
def shareSplitsWrong : ChangeSpec := { name := "shareSplits", fn := fun _ => fun
  | [d1, d2, d3] => { results := [.lit (.bool false)], args := [d1, d2, d3] }
  | _ => none }
def ShareSplitsWrongFalsely : Prop := shareSplitsRow.holds Try.pinned (OpenSpec.ofChange shareSplitsWrong)

/-- 'huddlelaw09.ShareTells': WHATEVER THE INPUT: true; the input reads as it did. -/
def shareTellsSpec : ChangeSpec := { name := "shareTells", fn := fun _ => fun
  | [d1, d2, d3, d4] => { results := [.lit (.bool true)], args := [d1, d2, d3, d4] }
  | _ => none }
def shareTellsRow : OpenClaim := { program := "ytpngkdhfjginlaa", sum := "8be433bbf4e2914f6cdfc6c5b04f451b0c322f06f53f9ba0492e55298d08658c", func := "huddle/huddlelaw09.ShareTells", spec := "shareTells", unfollowed := true, recurses := true, apart := false }
def ShareTellsSaid : Prop := shareTellsRow.holds Try.pinned (OpenSpec.ofChange shareTellsSpec)

/-- ITS FALSE NEIGHBOUR: 'it returns false'. Refute it at one input. -/
def shareTellsWrong : ChangeSpec := { name := "shareTells", fn := fun _ => fun
  | [d1, d2, d3, d4] => { results := [.lit (.bool false)], args := [d1, d2, d3, d4] }
  | _ => none }
def ShareTellsWrongFalsely : Prop := shareTellsRow.holds Try.pinned (OpenSpec.ofChange shareTellsWrong)

/-- 'huddlelaw09.ShareEnough': WHATEVER THE INPUT: true; the input reads as it did. -/
def shareEnoughSpec : ChangeSpec := { name := "shareEnough", fn := fun _ => fun
  | [d1, d2, d3, d4] => { results := [.lit (.bool true)], args := [d1, d2, d3, d4] }
  | _ => none }
def shareEnoughRow : OpenClaim := { program := "ytpngkdhfjginlaa", sum := "8be433bbf4e2914f6cdfc6c5b04f451b0c322f06f53f9ba0492e55298d08658c", func := "huddle/huddlelaw09.ShareEnough", spec := "shareEnough", unfollowed := true, recurses := true, apart := false }
def ShareEnoughSaid : Prop := shareEnoughRow.holds Try.pinned (OpenSpec.ofChange shareEnoughSpec)

/-- ITS FALSE NEIGHBOUR: 'it returns false'. Refute it at one input. -/
def shareEnoughWrong : ChangeSpec := { name := "shareEnough", fn := fun _ => fun
  | [d1, d2, d3, d4] => { results := [.lit (.bool false)], args := [d1, d2, d3, d4] }
  | _ => none }
def ShareEnoughWrongFalsely : Prop := shareEnoughRow.holds Try.pinned (OpenSpec.ofChange shareEnoughWrong)

/-- 'huddlelaw09.ShareNothing': WHATEVER THE INPUT: true; the input reads as it did. -/
def shareNothingSpec : ChangeSpec := { name := "shareNothing", fn := fun _ => fun
  | [d1, d2, d3, d4] => { results := [.lit (.bool true)], args := [d1, d2, d3, d4] }
  | _ => none }
def shareNothingRow : OpenClaim := { program := "ytpngkdhfjginlaa", sum := "8be433bbf4e2914f6cdfc6c5b04f451b0c322f06f53f9ba0492e55298d08658c", func := "huddle/huddlelaw09.ShareNothing", spec := "shareNothing", unfollowed := true, recurses := true, apart := false }
def ShareNothingSaid : Prop := shareNothingRow.holds Try.pinned (OpenSpec.ofChange shareNothingSpec)

/-- ITS FALSE NEIGHBOUR: 'it returns false'. Refute it at one input. -/
def shareNothingWrong : ChangeSpec := { name := "shareNothing", fn := fun _ => fun
  | [d1, d2, d3, d4] => { results := [.lit (.bool false)], args := [d1, d2, d3, d4] }
  | _ => none }
def ShareNothingWrongFalsely : Prop := shareNothingRow.holds Try.pinned (OpenSpec.ofChange shareNothingWrong)

/-- 'huddlelaw09.ShareRow': WHATEVER THE INPUT: true; the input reads as it did. -/
def shareRowSpec : ChangeSpec := { name := "shareRow", fn := fun _ => fun
  | [d1, d2, d3, d4] => { results := [.lit (.bool true)], args := [d1, d2, d3, d4] }
  | _ => none }
def shareRowRow : OpenClaim := { program := "ytpngkdhfjginlaa", sum := "8be433bbf4e2914f6cdfc6c5b04f451b0c322f06f53f9ba0492e55298d08658c", func := "huddle/huddlelaw09.ShareRow", spec := "shareRow", unfollowed := true, recurses := true, apart := false }
def ShareRowSaid : Prop := shareRowRow.holds Try.pinned (OpenSpec.ofChange shareRowSpec)

/-- ITS FALSE NEIGHBOUR: 'it returns false'. Refute it at one input. -/
def shareRowWrong : ChangeSpec := { name := "shareRow", fn := fun _ => fun
  | [d1, d2, d3, d4] => { results := [.lit (.bool false)], args := [d1, d2, d3, d4] }
  | _ => none }
def ShareRowWrongFalsely : Prop := shareRowRow.holds Try.pinned (OpenSpec.ofChange shareRowWrong)

/-- 'huddlelaw09.ShareAdds': WHATEVER THE INPUT: true; the input reads as it did. -/
def shareAddsSpec : ChangeSpec := { name := "shareAdds", fn := fun _ => fun
  | [d1, d2] => { results := [.lit (.bool true)], args := [d1, d2] }
  | _ => none }
def shareAddsRow : OpenClaim := { program := "ytpngkdhfjginlaa", sum := "8be433bbf4e2914f6cdfc6c5b04f451b0c322f06f53f9ba0492e55298d08658c", func := "huddle/huddlelaw09.ShareAdds", spec := "shareAdds", unfollowed := true, recurses := true, apart := false }
def ShareAddsSaid : Prop := shareAddsRow.holds Try.pinned (OpenSpec.ofChange shareAddsSpec)

/-- ITS FALSE NEIGHBOUR: 'it returns false'. Refute it at one input. -/
def shareAddsWrong : ChangeSpec := { name := "shareAdds", fn := fun _ => fun
  | [d1, d2] => { results := [.lit (.bool false)], args := [d1, d2] }
  | _ => none }
def ShareAddsWrongFalsely : Prop := shareAddsRow.holds Try.pinned (OpenSpec.ofChange shareAddsWrong)

/-- 'huddlelaw09.ShareFresh': WHATEVER THE INPUT: true; the input reads as it did. -/
def shareFreshSpec : ChangeSpec := { name := "shareFresh", fn := fun _ => fun
  | [d1, d2, d3, d4, d5] => { results := [.lit (.bool true)], args := [d1, d2, d3, d4, d5] }
  | _ => none }
def shareFreshRow : OpenClaim := { program := "ytpngkdhfjginlaa", sum := "8be433bbf4e2914f6cdfc6c5b04f451b0c322f06f53f9ba0492e55298d08658c", func := "huddle/huddlelaw09.ShareFresh", spec := "shareFresh", unfollowed := true, recurses := true, apart := false }
def ShareFreshSaid : Prop := shareFreshRow.holds Try.pinned (OpenSpec.ofChange shareFreshSpec)

/-- ITS FALSE NEIGHBOUR: 'it returns false'. Refute it at one input. -/
def shareFreshWrong : ChangeSpec := { name := "shareFresh", fn := fun _ => fun
  | [d1, d2, d3, d4, d5] => { results := [.lit (.bool false)], args := [d1, d2, d3, d4, d5] }
  | _ => none }
def ShareFreshWrongFalsely : Prop := shareFreshRow.holds Try.pinned (OpenSpec.ofChange shareFreshWrong)

/- THE SECOND FORM. 'bulk': how many values and letters a reading holds, each counted each time it is reached (what is shared counts as often as it is met; a slice's spare places count too). A statement '..UptoSaid' is the law's where the arguments, and the package variables that the reading takes, are together of bulk at most 1048576: NARROWER than '..Said'. Prove '..Said' where nothing that the law and all that it calls make is longer than what came in: it says more and counts as full. Else prove '..UptoSaid'. A law counts once. -/
mutual
def uptoBulk {H : Type} : DataW H → Nat
  | .lit (.string bytes) => bytes.length + 1
  | .lit _ => 1
  | .nil => 1
  | .ptr d => uptoBulk d + 1
  | .slice elems spare => uptoBulkAll elems + uptoBulkAll spare + 1
  | .agg parts => uptoBulkAll parts + 1
  | .iface _ d => uptoBulk d + 1
  | .map entries => uptoBulkEntries entries + 1
  | .held _ => 1
def uptoBulkAll {H : Type} : List (DataW H) → Nat
  | [] => 0
  | d :: r => uptoBulk d + uptoBulkAll r
def uptoBulkEntries {H : Type} : List (Lit × DataW H) → Nat
  | [] => 0
  | x :: r => uptoBulkEntry x + uptoBulkEntries r
def uptoBulkEntry {H : Type} : Lit × DataW H → Nat
  | (.string bytes, d) => bytes.length + uptoBulk d + 1
  | (_, d) => uptoBulk d + 1
 end
def uptoSmall : (H : Type) → List (DataW H) → Bool := fun _ ds => decide (uptoBulkAll ds ≤ 1048576)
def OpenSpec.upto (s : _root_.Go.ChangeSpec) : _root_.Go.OpenSpec := { _root_.Go.OpenSpec.ofChange s with cond := some uptoSmall }

/-- 'huddlelaw09.ShareSplits', WHERE WHAT IT READS IS OF BULK AT MOST 1048576: true; the input reads as it did. -/
def shareSplitsUptoRow : OpenClaim := { program := "ytpngkdhfjginlaa", sum := "8be433bbf4e2914f6cdfc6c5b04f451b0c322f06f53f9ba0492e55298d08658c", func := "huddle/huddlelaw09.ShareSplits", spec := "shareSplits", unfollowed := true, recurses := true, apart := false, narrowed := true }
def ShareSplitsUptoSaid : Prop := shareSplitsUptoRow.holds Try.pinned (OpenSpec.upto shareSplitsSpec)

/-- 'huddlelaw09.ShareTells', WHERE WHAT IT READS IS OF BULK AT MOST 1048576: true; the input reads as it did. -/
def shareTellsUptoRow : OpenClaim := { program := "ytpngkdhfjginlaa", sum := "8be433bbf4e2914f6cdfc6c5b04f451b0c322f06f53f9ba0492e55298d08658c", func := "huddle/huddlelaw09.ShareTells", spec := "shareTells", unfollowed := true, recurses := true, apart := false, narrowed := true }
def ShareTellsUptoSaid : Prop := shareTellsUptoRow.holds Try.pinned (OpenSpec.upto shareTellsSpec)

/-- 'huddlelaw09.ShareEnough', WHERE WHAT IT READS IS OF BULK AT MOST 1048576: true; the input reads as it did. -/
def shareEnoughUptoRow : OpenClaim := { program := "ytpngkdhfjginlaa", sum := "8be433bbf4e2914f6cdfc6c5b04f451b0c322f06f53f9ba0492e55298d08658c", func := "huddle/huddlelaw09.ShareEnough", spec := "shareEnough", unfollowed := true, recurses := true, apart := false, narrowed := true }
def ShareEnoughUptoSaid : Prop := shareEnoughUptoRow.holds Try.pinned (OpenSpec.upto shareEnoughSpec)

/-- 'huddlelaw09.ShareNothing', WHERE WHAT IT READS IS OF BULK AT MOST 1048576: true; the input reads as it did. -/
def shareNothingUptoRow : OpenClaim := { program := "ytpngkdhfjginlaa", sum := "8be433bbf4e2914f6cdfc6c5b04f451b0c322f06f53f9ba0492e55298d08658c", func := "huddle/huddlelaw09.ShareNothing", spec := "shareNothing", unfollowed := true, recurses := true, apart := false, narrowed := true }
def ShareNothingUptoSaid : Prop := shareNothingUptoRow.holds Try.pinned (OpenSpec.upto shareNothingSpec)

/-- 'huddlelaw09.ShareRow', WHERE WHAT IT READS IS OF BULK AT MOST 1048576: true; the input reads as it did. -/
def shareRowUptoRow : OpenClaim := { program := "ytpngkdhfjginlaa", sum := "8be433bbf4e2914f6cdfc6c5b04f451b0c322f06f53f9ba0492e55298d08658c", func := "huddle/huddlelaw09.ShareRow", spec := "shareRow", unfollowed := true, recurses := true, apart := false, narrowed := true }
def ShareRowUptoSaid : Prop := shareRowUptoRow.holds Try.pinned (OpenSpec.upto shareRowSpec)

/-- 'huddlelaw09.ShareAdds', WHERE WHAT IT READS IS OF BULK AT MOST 1048576: true; the input reads as it did. -/
def shareAddsUptoRow : OpenClaim := { program := "ytpngkdhfjginlaa", sum := "8be433bbf4e2914f6cdfc6c5b04f451b0c322f06f53f9ba0492e55298d08658c", func := "huddle/huddlelaw09.ShareAdds", spec := "shareAdds", unfollowed := true, recurses := true, apart := false, narrowed := true }
def ShareAddsUptoSaid : Prop := shareAddsUptoRow.holds Try.pinned (OpenSpec.upto shareAddsSpec)

/-- 'huddlelaw09.ShareFresh', WHERE WHAT IT READS IS OF BULK AT MOST 1048576: true; the input reads as it did. -/
def shareFreshUptoRow : OpenClaim := { program := "ytpngkdhfjginlaa", sum := "8be433bbf4e2914f6cdfc6c5b04f451b0c322f06f53f9ba0492e55298d08658c", func := "huddle/huddlelaw09.ShareFresh", spec := "shareFresh", unfollowed := true, recurses := true, apart := false, narrowed := true }
def ShareFreshUptoSaid : Prop := shareFreshUptoRow.holds Try.pinned (OpenSpec.upto shareFreshSpec)

end Rows
end Go.Proofs.Ytpngkdhfjginlaa
