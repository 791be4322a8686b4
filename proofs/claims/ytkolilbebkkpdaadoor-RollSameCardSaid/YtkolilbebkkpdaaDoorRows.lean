/-
  NARROWER THAN 'FOR EVERY INPUT', by the rows' own cells (each row's printed sentence says how): RollQuorum: laid · RollForms: laid · RollPlays: laid · RollMays: laid · RollPower: laid · RollRow: laid · RollSame: laid.
  DERIVED. THE GIVEN ROWS OF THIS SEAT. 7 by the template 'for every input the law returns true; each argument reads behind the call as it read before'; 0 by the template 'total and deterministic' (their statements: YtkolilbebkkpdaaDoorTotals.lean).
  GIVEN WITH THE SEED: the statements are not yours to turn. If you find one false, say at which input.
  Laid BY PROGRAM, IN A SANDBOX (cutbox-rows.mjs): the forced cells as the released guide's own fill.sh prints them over the translation 81cf2749d09ed92c… (all of the seat's roots in one cut). By AI agents, Wed Nov 11 2026. No macro, syntax, notation, axiom, sorry.
-/
import Derived.Test.YtkolilbebkkpdaaDoorChecked
import GoSem.Claim
import GoSem.ClaimJoined
import GoSem.ClaimMapViews
import Derived.JoinedTies
import Derived.KernelRfl
namespace Go.Proofs.YtkolilbebkkpdaaDoor
/- THE CELL 'sum', in the pinned program and in every row, IS THE sha256 OF THE DUMP (.gsa) THAT YtkolilbebkkpdaaDoorProg.lean LOADS. Nothing in Lean hashes anything: it is a label: what it is worth is what the hold of that sum in a sandbox is worth. -/
noncomputable def Tryd.pinned : Pinned := { name := "ytkolilbebkkpdaadoor", sum := "81cf2749d09ed92c4312e30046ede42f9e6300adeac3664c306a9547e115f12c", checked := Tryd.checked }
namespace Rows
def none {H : Type} : Left H := { results := [], args := [] }

/- WHAT THE LISTED PACKAGE-LEVEL VARIABLES READ AS WHEN THE CALL BEGINS. Each datum BY PROGRAM (the guide's laid-datum.mjs) off the statement by which the dump's own 'gosem.cut.vars' lays the variable. In a bare row this is a premise. The card (YtkolilbebkkpdaaDoorCards.lean) ties it to the program's text. -/
def laid_huddle_roll_asks {H : Type} : DataW H := .iface "func table" (.agg [.nil, .nil, .iface "func" (.lit (.string [104, 117, 100, 100, 108, 101, 47, 114, 111, 108, 108, 46, 97, 115, 107, 115, 36, 49])), .iface "func" (.lit (.string [104, 117, 100, 100, 108, 101, 47, 114, 111, 108, 108, 46, 97, 115, 107, 115, 36, 50])), .nil, .iface "func" (.lit (.string [104, 117, 100, 100, 108, 101, 47, 114, 111, 108, 108, 46, 97, 115, 107, 115, 36, 51])), .iface "func" (.lit (.string [104, 117, 100, 100, 108, 101, 47, 114, 111, 108, 108, 46, 97, 115, 107, 115, 36, 52])), .nil, .iface "func" (.lit (.string [104, 117, 100, 100, 108, 101, 47, 114, 111, 108, 108, 46, 97, 115, 107, 115, 36, 53])), .iface "func" (.lit (.string [104, 117, 100, 100, 108, 101, 47, 114, 111, 108, 108, 46, 97, 115, 107, 115, 36, 54])), .iface "func" (.lit (.string [40, 42, 104, 117, 100, 100, 108, 101, 47, 114, 111, 108, 108, 46, 82, 111, 108, 108, 41, 46, 111, 119, 110])), .iface "func" (.lit (.string [104, 117, 100, 100, 108, 101, 47, 114, 111, 108, 108, 46, 97, 115, 107, 115, 36, 55])), .iface "func" (.lit (.string [40, 42, 104, 117, 100, 100, 108, 101, 47, 114, 111, 108, 108, 46, 82, 111, 108, 108, 41, 46, 111, 119, 110])), .iface "func" (.lit (.string [104, 117, 100, 100, 108, 101, 47, 114, 111, 108, 108, 46, 97, 115, 107, 115, 36, 56]))])
def laid_huddle_op_kinds {H : Type} : DataW H := .agg [.lit (.int .i64 0), .lit (.int .i64 2064), .lit (.int .i64 32793), .lit (.int .i64 21), .lit (.int .i64 16), .lit (.int .i64 12), .lit (.int .i64 480), .lit (.int .i64 640), .lit (.int .i64 512), .lit (.int .i64 31744), .lit (.int .i64 8704), .lit (.int .i64 8705), .lit (.int .i64 512), .lit (.int .i64 33299)]

/-- 'huddlelaw15.RollQuorum': WHATEVER THE INPUT: true; the input reads as it did. -/
def rollQuorumSpec : ChangeSpec := { name := "rollQuorum", fn := fun _ => fun
  | [d1, d2, d3, d4, d5, d6] => { results := [.lit (.bool true)], args := [d1, d2, d3, d4, d5, d6] }
  | _ => none }
def rollQuorumRow : OpenClaim := { program := "ytkolilbebkkpdaadoor", sum := "81cf2749d09ed92c4312e30046ede42f9e6300adeac3664c306a9547e115f12c", func := "huddle/huddlelaw15.RollQuorum", spec := "rollQuorum", unfollowed := true, recurses := true, named := ["huddle/roll.asks"], plainKeys := false, apart := false, laid := [("huddle/roll.asks", laid_huddle_roll_asks)] }
def RollQuorumSaid : Prop := rollQuorumRow.holds Tryd.pinned (OpenSpec.ofChange rollQuorumSpec)

/-- ITS FALSE NEIGHBOUR: 'it returns false'. Refute it at one input. -/
def rollQuorumWrong : ChangeSpec := { name := "rollQuorum", fn := fun _ => fun
  | [d1, d2, d3, d4, d5, d6] => { results := [.lit (.bool false)], args := [d1, d2, d3, d4, d5, d6] }
  | _ => none }
def RollQuorumWrongFalsely : Prop := rollQuorumRow.holds Tryd.pinned (OpenSpec.ofChange rollQuorumWrong)

/-- 'huddlelaw15.RollForms': WHATEVER THE INPUT: true; the input reads as it did. -/
def rollFormsSpec : ChangeSpec := { name := "rollForms", fn := fun _ => fun
  | [d1, d2] => { results := [.lit (.bool true)], args := [d1, d2] }
  | _ => none }
def rollFormsRow : OpenClaim := { program := "ytkolilbebkkpdaadoor", sum := "81cf2749d09ed92c4312e30046ede42f9e6300adeac3664c306a9547e115f12c", func := "huddle/huddlelaw15.RollForms", spec := "rollForms", unfollowed := true, recurses := true, named := ["huddle/roll.asks", "huddle/op.kinds"], plainKeys := false, apart := false, laid := [("huddle/roll.asks", laid_huddle_roll_asks), ("huddle/op.kinds", laid_huddle_op_kinds)] }
def RollFormsSaid : Prop := rollFormsRow.holds Tryd.pinned (OpenSpec.ofChange rollFormsSpec)

/-- ITS FALSE NEIGHBOUR: 'it returns false'. Refute it at one input. -/
def rollFormsWrong : ChangeSpec := { name := "rollForms", fn := fun _ => fun
  | [d1, d2] => { results := [.lit (.bool false)], args := [d1, d2] }
  | _ => none }
def RollFormsWrongFalsely : Prop := rollFormsRow.holds Tryd.pinned (OpenSpec.ofChange rollFormsWrong)

/-- 'huddlelaw15.RollPlays': WHATEVER THE INPUT: true; the input reads as it did. -/
def rollPlaysSpec : ChangeSpec := { name := "rollPlays", fn := fun _ => fun
  | [d1, d2] => { results := [.lit (.bool true)], args := [d1, d2] }
  | _ => none }
def rollPlaysRow : OpenClaim := { program := "ytkolilbebkkpdaadoor", sum := "81cf2749d09ed92c4312e30046ede42f9e6300adeac3664c306a9547e115f12c", func := "huddle/huddlelaw15.RollPlays", spec := "rollPlays", unfollowed := true, recurses := true, named := ["huddle/roll.asks"], plainKeys := false, apart := false, laid := [("huddle/roll.asks", laid_huddle_roll_asks)] }
def RollPlaysSaid : Prop := rollPlaysRow.holds Tryd.pinned (OpenSpec.ofChange rollPlaysSpec)

/-- ITS FALSE NEIGHBOUR: 'it returns false'. Refute it at one input. -/
def rollPlaysWrong : ChangeSpec := { name := "rollPlays", fn := fun _ => fun
  | [d1, d2] => { results := [.lit (.bool false)], args := [d1, d2] }
  | _ => none }
def RollPlaysWrongFalsely : Prop := rollPlaysRow.holds Tryd.pinned (OpenSpec.ofChange rollPlaysWrong)

/-- 'huddlelaw15.RollMays': WHATEVER THE INPUT: true; the input reads as it did. -/
def rollMaysSpec : ChangeSpec := { name := "rollMays", fn := fun _ => fun
  | [d1, d2] => { results := [.lit (.bool true)], args := [d1, d2] }
  | _ => none }
def rollMaysRow : OpenClaim := { program := "ytkolilbebkkpdaadoor", sum := "81cf2749d09ed92c4312e30046ede42f9e6300adeac3664c306a9547e115f12c", func := "huddle/huddlelaw15.RollMays", spec := "rollMays", unfollowed := true, recurses := true, named := ["huddle/roll.asks"], plainKeys := false, apart := false, laid := [("huddle/roll.asks", laid_huddle_roll_asks)] }
def RollMaysSaid : Prop := rollMaysRow.holds Tryd.pinned (OpenSpec.ofChange rollMaysSpec)

/-- ITS FALSE NEIGHBOUR: 'it returns false'. Refute it at one input. -/
def rollMaysWrong : ChangeSpec := { name := "rollMays", fn := fun _ => fun
  | [d1, d2] => { results := [.lit (.bool false)], args := [d1, d2] }
  | _ => none }
def RollMaysWrongFalsely : Prop := rollMaysRow.holds Tryd.pinned (OpenSpec.ofChange rollMaysWrong)

/-- 'huddlelaw15.RollPower': WHATEVER THE INPUT: true; the input reads as it did. -/
def rollPowerSpec : ChangeSpec := { name := "rollPower", fn := fun _ => fun
  | [d] => { results := [.lit (.bool true)], args := [d] }
  | _ => none }
def rollPowerRow : OpenClaim := { program := "ytkolilbebkkpdaadoor", sum := "81cf2749d09ed92c4312e30046ede42f9e6300adeac3664c306a9547e115f12c", func := "huddle/huddlelaw15.RollPower", spec := "rollPower", inPlace := ["maps.clone"], unfollowed := true, recurses := true, named := ["huddle/roll.asks"], plainKeys := false, apart := false, laid := [("huddle/roll.asks", laid_huddle_roll_asks)] }
def RollPowerSaid : Prop := rollPowerRow.holds Tryd.pinned (OpenSpec.ofChange rollPowerSpec)

/-- ITS FALSE NEIGHBOUR: 'it returns false'. Refute it at one input. -/
def rollPowerWrong : ChangeSpec := { name := "rollPower", fn := fun _ => fun
  | [d] => { results := [.lit (.bool false)], args := [d] }
  | _ => none }
def RollPowerWrongFalsely : Prop := rollPowerRow.holds Tryd.pinned (OpenSpec.ofChange rollPowerWrong)

/-- 'huddlelaw15.RollRow': WHATEVER THE INPUT: true; the input reads as it did. -/
def rollRowSpec : ChangeSpec := { name := "rollRow", fn := fun _ => fun
  | [d] => { results := [.lit (.bool true)], args := [d] }
  | _ => none }
def rollRowRow : OpenClaim := { program := "ytkolilbebkkpdaadoor", sum := "81cf2749d09ed92c4312e30046ede42f9e6300adeac3664c306a9547e115f12c", func := "huddle/huddlelaw15.RollRow", spec := "rollRow", unfollowed := true, recurses := true, named := ["huddle/roll.asks"], plainKeys := false, apart := false, laid := [("huddle/roll.asks", laid_huddle_roll_asks)] }
def RollRowSaid : Prop := rollRowRow.holds Tryd.pinned (OpenSpec.ofChange rollRowSpec)

/-- ITS FALSE NEIGHBOUR: 'it returns false'. Refute it at one input. -/
def rollRowWrong : ChangeSpec := { name := "rollRow", fn := fun _ => fun
  | [d] => { results := [.lit (.bool false)], args := [d] }
  | _ => none }
def RollRowWrongFalsely : Prop := rollRowRow.holds Tryd.pinned (OpenSpec.ofChange rollRowWrong)

/-- 'huddlelaw15.RollSame': WHATEVER THE INPUT: true; the input reads as it did. -/
def rollSameSpec : ChangeSpec := { name := "rollSame", fn := fun _ => fun
  | [d1, d2, d3] => { results := [.lit (.bool true)], args := [d1, d2, d3] }
  | _ => none }
def rollSameRow : OpenClaim := { program := "ytkolilbebkkpdaadoor", sum := "81cf2749d09ed92c4312e30046ede42f9e6300adeac3664c306a9547e115f12c", func := "huddle/huddlelaw15.RollSame", spec := "rollSame", inPlace := ["maps.clone"], unfollowed := true, recurses := true, named := ["huddle/roll.asks"], plainKeys := false, apart := false, laid := [("huddle/roll.asks", laid_huddle_roll_asks)] }
def RollSameSaid : Prop := rollSameRow.holds Tryd.pinned (OpenSpec.ofChange rollSameSpec)

/-- ITS FALSE NEIGHBOUR: 'it returns false'. Refute it at one input. -/
def rollSameWrong : ChangeSpec := { name := "rollSame", fn := fun _ => fun
  | [d1, d2, d3] => { results := [.lit (.bool false)], args := [d1, d2, d3] }
  | _ => none }
def RollSameWrongFalsely : Prop := rollSameRow.holds Tryd.pinned (OpenSpec.ofChange rollSameWrong)

/- THE SECOND FORM. 'bulk': how many values and letters a reading holds, each counted each time it is reached (what is shared counts as often as it is met; a slice's spare places count too). A statement '..UptoSaid' is the law's where the arguments, and the package variables that the reading takes, are together of bulk at most 1048576: NARROWER than '..Said'. Prove '..Said' where nothing that the law and all that it calls make is longer than what came in: it says more and counts as full. Else prove '..UptoSaid'. A law counts once. -/
mutual
def uptoBulk {H : Type} : DataW H → Nat
  | .lit (.string bytes) => bytes.length + 1
  | .lit _ => 1
  | .nil => 1
  | .ptr d => uptoBulk d + 1
  | .slice elems spare => uptoBulkAll elems + uptoBulkAll spare + 1
  | .agg parts => uptoBulkAll parts + 1
  | .iface _ d => uptoBulk d + 1
  | .map entries => uptoBulkEntries entries + 1
  | .held _ => 1
def uptoBulkAll {H : Type} : List (DataW H) → Nat
  | [] => 0
  | d :: r => uptoBulk d + uptoBulkAll r
def uptoBulkEntries {H : Type} : List (Lit × DataW H) → Nat
  | [] => 0
  | x :: r => uptoBulkEntry x + uptoBulkEntries r
def uptoBulkEntry {H : Type} : Lit × DataW H → Nat
  | (.string bytes, d) => bytes.length + uptoBulk d + 1
  | (_, d) => uptoBulk d + 1
 end
def uptoSmall : (H : Type) → List (DataW H) → Bool := fun _ ds => decide (uptoBulkAll ds ≤ 1048576)
def OpenSpec.upto (s : _root_.Go.ChangeSpec) : _root_.Go.OpenSpec := { _root_.Go.OpenSpec.ofChange s with cond := some uptoSmall }

/-- 'huddlelaw15.RollQuorum', WHERE WHAT IT READS IS OF BULK AT MOST 1048576: true; the input reads as it did. -/
def rollQuorumUptoRow : OpenClaim := { program := "ytkolilbebkkpdaadoor", sum := "81cf2749d09ed92c4312e30046ede42f9e6300adeac3664c306a9547e115f12c", func := "huddle/huddlelaw15.RollQuorum", spec := "rollQuorum", unfollowed := true, recurses := true, named := ["huddle/roll.asks"], plainKeys := false, apart := false, laid := [("huddle/roll.asks", laid_huddle_roll_asks)], narrowed := true }
def RollQuorumUptoSaid : Prop := rollQuorumUptoRow.holds Tryd.pinned (OpenSpec.upto rollQuorumSpec)

/-- 'huddlelaw15.RollForms', WHERE WHAT IT READS IS OF BULK AT MOST 1048576: true; the input reads as it did. -/
def rollFormsUptoRow : OpenClaim := { program := "ytkolilbebkkpdaadoor", sum := "81cf2749d09ed92c4312e30046ede42f9e6300adeac3664c306a9547e115f12c", func := "huddle/huddlelaw15.RollForms", spec := "rollForms", unfollowed := true, recurses := true, named := ["huddle/roll.asks", "huddle/op.kinds"], plainKeys := false, apart := false, laid := [("huddle/roll.asks", laid_huddle_roll_asks), ("huddle/op.kinds", laid_huddle_op_kinds)], narrowed := true }
def RollFormsUptoSaid : Prop := rollFormsUptoRow.holds Tryd.pinned (OpenSpec.upto rollFormsSpec)

/-- 'huddlelaw15.RollPlays', WHERE WHAT IT READS IS OF BULK AT MOST 1048576: true; the input reads as it did. -/
def rollPlaysUptoRow : OpenClaim := { program := "ytkolilbebkkpdaadoor", sum := "81cf2749d09ed92c4312e30046ede42f9e6300adeac3664c306a9547e115f12c", func := "huddle/huddlelaw15.RollPlays", spec := "rollPlays", unfollowed := true, recurses := true, named := ["huddle/roll.asks"], plainKeys := false, apart := false, laid := [("huddle/roll.asks", laid_huddle_roll_asks)], narrowed := true }
def RollPlaysUptoSaid : Prop := rollPlaysUptoRow.holds Tryd.pinned (OpenSpec.upto rollPlaysSpec)

/-- 'huddlelaw15.RollMays', WHERE WHAT IT READS IS OF BULK AT MOST 1048576: true; the input reads as it did. -/
def rollMaysUptoRow : OpenClaim := { program := "ytkolilbebkkpdaadoor", sum := "81cf2749d09ed92c4312e30046ede42f9e6300adeac3664c306a9547e115f12c", func := "huddle/huddlelaw15.RollMays", spec := "rollMays", unfollowed := true, recurses := true, named := ["huddle/roll.asks"], plainKeys := false, apart := false, laid := [("huddle/roll.asks", laid_huddle_roll_asks)], narrowed := true }
def RollMaysUptoSaid : Prop := rollMaysUptoRow.holds Tryd.pinned (OpenSpec.upto rollMaysSpec)

/-- 'huddlelaw15.RollPower', WHERE WHAT IT READS IS OF BULK AT MOST 1048576: true; the input reads as it did. -/
def rollPowerUptoRow : OpenClaim := { program := "ytkolilbebkkpdaadoor", sum := "81cf2749d09ed92c4312e30046ede42f9e6300adeac3664c306a9547e115f12c", func := "huddle/huddlelaw15.RollPower", spec := "rollPower", inPlace := ["maps.clone"], unfollowed := true, recurses := true, named := ["huddle/roll.asks"], plainKeys := false, apart := false, laid := [("huddle/roll.asks", laid_huddle_roll_asks)], narrowed := true }
def RollPowerUptoSaid : Prop := rollPowerUptoRow.holds Tryd.pinned (OpenSpec.upto rollPowerSpec)

/-- 'huddlelaw15.RollRow', WHERE WHAT IT READS IS OF BULK AT MOST 1048576: true; the input reads as it did. -/
def rollRowUptoRow : OpenClaim := { program := "ytkolilbebkkpdaadoor", sum := "81cf2749d09ed92c4312e30046ede42f9e6300adeac3664c306a9547e115f12c", func := "huddle/huddlelaw15.RollRow", spec := "rollRow", unfollowed := true, recurses := true, named := ["huddle/roll.asks"], plainKeys := false, apart := false, laid := [("huddle/roll.asks", laid_huddle_roll_asks)], narrowed := true }
def RollRowUptoSaid : Prop := rollRowUptoRow.holds Tryd.pinned (OpenSpec.upto rollRowSpec)

/-- 'huddlelaw15.RollSame', WHERE WHAT IT READS IS OF BULK AT MOST 1048576: true; the input reads as it did. -/
def rollSameUptoRow : OpenClaim := { program := "ytkolilbebkkpdaadoor", sum := "81cf2749d09ed92c4312e30046ede42f9e6300adeac3664c306a9547e115f12c", func := "huddle/huddlelaw15.RollSame", spec := "rollSame", inPlace := ["maps.clone"], unfollowed := true, recurses := true, named := ["huddle/roll.asks"], plainKeys := false, apart := false, laid := [("huddle/roll.asks", laid_huddle_roll_asks)], narrowed := true }
def RollSameUptoSaid : Prop := rollSameUptoRow.holds Tryd.pinned (OpenSpec.upto rollSameSpec)

end Rows
end Go.Proofs.YtkolilbebkkpdaaDoor
