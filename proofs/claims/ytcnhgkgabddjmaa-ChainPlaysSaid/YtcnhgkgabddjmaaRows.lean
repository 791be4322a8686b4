/-
  No cell of these rows narrows 'for every input' (looked for: loops, veiled, ifaces, maps, wideKeys, modest, calm, conditions, laid).
  DERIVED. THE GIVEN ROWS OF THIS SEAT. 8 by the template 'for every input the law returns true; each argument reads behind the call as it read before'; 0 by the template 'total and deterministic' (their statements: YtcnhgkgabddjmaaTotals.lean).
  GIVEN WITH THE SEED: the statements are not yours to turn. If you find one false, say at which input.
  Laid BY PROGRAM, IN A SANDBOX (cutbox-rows.mjs): the forced cells as the released guide's own fill.sh prints them over the translation 793140890c6b8d7e… (all of the seat's roots in one cut). By AI agents, Wed Nov 11 2026. No macro, syntax, notation, axiom, sorry.
-/
import Derived.Test.YtcnhgkgabddjmaaChecked
import GoSem.Claim
import GoSem.ClaimJoined
import GoSem.ClaimMapViews
import Derived.JoinedTies
import Derived.KernelRfl
namespace Go.Proofs.Ytcnhgkgabddjmaa
/- THE CELL 'sum', in the pinned program and in every row, IS THE sha256 OF THE DUMP (.gsa) THAT YtcnhgkgabddjmaaProg.lean LOADS. Nothing in Lean hashes anything: it is a label: what it is worth is what the hold of that sum in a sandbox is worth. -/
noncomputable def Try.pinned : Pinned := { name := "ytcnhgkgabddjmaa", sum := "793140890c6b8d7e08a3e0f8a4d2f124ab40da80d8aa3648d2171e33a5e288d2", checked := Try.checked }
namespace Rows
def none {H : Type} : Left H := { results := [], args := [] }

/-- 'huddlelaw22.ChainOnce': WHATEVER THE INPUT: true; the input reads as it did. -/
def chainOnceSpec : ChangeSpec := { name := "chainOnce", fn := fun _ => fun
  | [d1, d2, d3] => { results := [.lit (.bool true)], args := [d1, d2, d3] }
  | _ => none }
def chainOnceRow : OpenClaim := { program := "ytcnhgkgabddjmaa", sum := "793140890c6b8d7e08a3e0f8a4d2f124ab40da80d8aa3648d2171e33a5e288d2", func := "huddle/huddlelaw22.ChainOnce", spec := "chainOnce", unfollowed := true, recurses := true, apart := false }
def ChainOnceSaid : Prop := chainOnceRow.holds Try.pinned (OpenSpec.ofChange chainOnceSpec)

/-- ITS FALSE NEIGHBOUR: 'it returns false'. Refute it at one input. -/
def chainOnceWrong : ChangeSpec := { name := "chainOnce", fn := fun _ => fun
  | [d1, d2, d3] => { results := [.lit (.bool false)], args := [d1, d2, d3] }
  | _ => none }
def ChainOnceWrongFalsely : Prop := chainOnceRow.holds Try.pinned (OpenSpec.ofChange chainOnceWrong)

/-- 'huddlelaw22.ChainTrace': WHATEVER THE INPUT: true; the input reads as it did. -/
def chainTraceSpec : ChangeSpec := { name := "chainTrace", fn := fun _ => fun
  | [d1, d2, d3, d4] => { results := [.lit (.bool true)], args := [d1, d2, d3, d4] }
  | _ => none }
def chainTraceRow : OpenClaim := { program := "ytcnhgkgabddjmaa", sum := "793140890c6b8d7e08a3e0f8a4d2f124ab40da80d8aa3648d2171e33a5e288d2", func := "huddle/huddlelaw22.ChainTrace", spec := "chainTrace", unfollowed := true, recurses := true, apart := false }
def ChainTraceSaid : Prop := chainTraceRow.holds Try.pinned (OpenSpec.ofChange chainTraceSpec)

/-- ITS FALSE NEIGHBOUR: 'it returns false'. Refute it at one input. -/
def chainTraceWrong : ChangeSpec := { name := "chainTrace", fn := fun _ => fun
  | [d1, d2, d3, d4] => { results := [.lit (.bool false)], args := [d1, d2, d3, d4] }
  | _ => none }
def ChainTraceWrongFalsely : Prop := chainTraceRow.holds Try.pinned (OpenSpec.ofChange chainTraceWrong)

/-- 'huddlelaw22.ChainFull': WHATEVER THE INPUT: true; the input reads as it did. -/
def chainFullSpec : ChangeSpec := { name := "chainFull", fn := fun _ => fun
  | [d1, d2, d3, d4] => { results := [.lit (.bool true)], args := [d1, d2, d3, d4] }
  | _ => none }
def chainFullRow : OpenClaim := { program := "ytcnhgkgabddjmaa", sum := "793140890c6b8d7e08a3e0f8a4d2f124ab40da80d8aa3648d2171e33a5e288d2", func := "huddle/huddlelaw22.ChainFull", spec := "chainFull", unfollowed := true, recurses := true, apart := false }
def ChainFullSaid : Prop := chainFullRow.holds Try.pinned (OpenSpec.ofChange chainFullSpec)

/-- ITS FALSE NEIGHBOUR: 'it returns false'. Refute it at one input. -/
def chainFullWrong : ChangeSpec := { name := "chainFull", fn := fun _ => fun
  | [d1, d2, d3, d4] => { results := [.lit (.bool false)], args := [d1, d2, d3, d4] }
  | _ => none }
def ChainFullWrongFalsely : Prop := chainFullRow.holds Try.pinned (OpenSpec.ofChange chainFullWrong)

/-- 'huddlelaw22.ChainSends': WHATEVER THE INPUT: true; the input reads as it did. -/
def chainSendsSpec : ChangeSpec := { name := "chainSends", fn := fun _ => fun
  | [d1, d2, d3] => { results := [.lit (.bool true)], args := [d1, d2, d3] }
  | _ => none }
def chainSendsRow : OpenClaim := { program := "ytcnhgkgabddjmaa", sum := "793140890c6b8d7e08a3e0f8a4d2f124ab40da80d8aa3648d2171e33a5e288d2", func := "huddle/huddlelaw22.ChainSends", spec := "chainSends", unfollowed := true, recurses := true, apart := false }
def ChainSendsSaid : Prop := chainSendsRow.holds Try.pinned (OpenSpec.ofChange chainSendsSpec)

/-- ITS FALSE NEIGHBOUR: 'it returns false'. Refute it at one input. -/
def chainSendsWrong : ChangeSpec := { name := "chainSends", fn := fun _ => fun
  | [d1, d2, d3] => { results := [.lit (.bool false)], args := [d1, d2, d3] }
  | _ => none }
def ChainSendsWrongFalsely : Prop := chainSendsRow.holds Try.pinned (OpenSpec.ofChange chainSendsWrong)

/-- 'huddlelaw22.ChainPlays': WHATEVER THE INPUT: true; the input reads as it did. -/
def chainPlaysSpec : ChangeSpec := { name := "chainPlays", fn := fun _ => fun
  | [d1, d2, d3] => { results := [.lit (.bool true)], args := [d1, d2, d3] }
  | _ => none }
def chainPlaysRow : OpenClaim := { program := "ytcnhgkgabddjmaa", sum := "793140890c6b8d7e08a3e0f8a4d2f124ab40da80d8aa3648d2171e33a5e288d2", func := "huddle/huddlelaw22.ChainPlays", spec := "chainPlays", unfollowed := true, recurses := true, apart := false }
def ChainPlaysSaid : Prop := chainPlaysRow.holds Try.pinned (OpenSpec.ofChange chainPlaysSpec)

/-- ITS FALSE NEIGHBOUR: 'it returns false'. Refute it at one input. -/
def chainPlaysWrong : ChangeSpec := { name := "chainPlays", fn := fun _ => fun
  | [d1, d2, d3] => { results := [.lit (.bool false)], args := [d1, d2, d3] }
  | _ => none }
def ChainPlaysWrongFalsely : Prop := chainPlaysRow.holds Try.pinned (OpenSpec.ofChange chainPlaysWrong)

/-- 'huddlelaw22.ChainRound': WHATEVER THE INPUT: true; the input reads as it did. -/
def chainRoundSpec : ChangeSpec := { name := "chainRound", fn := fun _ => fun
  | [d1, d2, d3, d4] => { results := [.lit (.bool true)], args := [d1, d2, d3, d4] }
  | _ => none }
def chainRoundRow : OpenClaim := { program := "ytcnhgkgabddjmaa", sum := "793140890c6b8d7e08a3e0f8a4d2f124ab40da80d8aa3648d2171e33a5e288d2", func := "huddle/huddlelaw22.ChainRound", spec := "chainRound", unfollowed := true, recurses := true, apart := false }
def ChainRoundSaid : Prop := chainRoundRow.holds Try.pinned (OpenSpec.ofChange chainRoundSpec)

/-- ITS FALSE NEIGHBOUR: 'it returns false'. Refute it at one input. -/
def chainRoundWrong : ChangeSpec := { name := "chainRound", fn := fun _ => fun
  | [d1, d2, d3, d4] => { results := [.lit (.bool false)], args := [d1, d2, d3, d4] }
  | _ => none }
def ChainRoundWrongFalsely : Prop := chainRoundRow.holds Try.pinned (OpenSpec.ofChange chainRoundWrong)

/-- 'huddlelaw22.ChainForms': WHATEVER THE INPUT: true; the input reads as it did. -/
def chainFormsSpec : ChangeSpec := { name := "chainForms", fn := fun _ => fun
  | [d1, d2, d3, d4, d5, d6] => { results := [.lit (.bool true)], args := [d1, d2, d3, d4, d5, d6] }
  | _ => none }
def chainFormsRow : OpenClaim := { program := "ytcnhgkgabddjmaa", sum := "793140890c6b8d7e08a3e0f8a4d2f124ab40da80d8aa3648d2171e33a5e288d2", func := "huddle/huddlelaw22.ChainForms", spec := "chainForms", unfollowed := true, recurses := true, apart := false }
def ChainFormsSaid : Prop := chainFormsRow.holds Try.pinned (OpenSpec.ofChange chainFormsSpec)

/-- ITS FALSE NEIGHBOUR: 'it returns false'. Refute it at one input. -/
def chainFormsWrong : ChangeSpec := { name := "chainForms", fn := fun _ => fun
  | [d1, d2, d3, d4, d5, d6] => { results := [.lit (.bool false)], args := [d1, d2, d3, d4, d5, d6] }
  | _ => none }
def ChainFormsWrongFalsely : Prop := chainFormsRow.holds Try.pinned (OpenSpec.ofChange chainFormsWrong)

/-- 'huddlelaw22.ChainShut': WHATEVER THE INPUT: true; the input reads as it did. -/
def chainShutSpec : ChangeSpec := { name := "chainShut", fn := fun _ => fun
  | [d1, d2, d3, d4, d5] => { results := [.lit (.bool true)], args := [d1, d2, d3, d4, d5] }
  | _ => none }
def chainShutRow : OpenClaim := { program := "ytcnhgkgabddjmaa", sum := "793140890c6b8d7e08a3e0f8a4d2f124ab40da80d8aa3648d2171e33a5e288d2", func := "huddle/huddlelaw22.ChainShut", spec := "chainShut", unfollowed := true, recurses := true, apart := false }
def ChainShutSaid : Prop := chainShutRow.holds Try.pinned (OpenSpec.ofChange chainShutSpec)

/-- ITS FALSE NEIGHBOUR: 'it returns false'. Refute it at one input. -/
def chainShutWrong : ChangeSpec := { name := "chainShut", fn := fun _ => fun
  | [d1, d2, d3, d4, d5] => { results := [.lit (.bool false)], args := [d1, d2, d3, d4, d5] }
  | _ => none }
def ChainShutWrongFalsely : Prop := chainShutRow.holds Try.pinned (OpenSpec.ofChange chainShutWrong)

/- THE SECOND FORM. 'bulk': how many values and letters a reading holds, each counted each time it is reached (what is shared counts as often as it is met; a slice's spare places count too). A statement '..UptoSaid' is the law's where the arguments, and the package variables that the reading takes, are together of bulk at most 1048576: NARROWER than '..Said'. Prove '..Said' where nothing that the law and all that it calls make is longer than what came in: it says more and counts as full. Else prove '..UptoSaid'. A law counts once. -/
mutual
def uptoBulk {H : Type} : DataW H → Nat
  | .lit (.string bytes) => bytes.length + 1
  | .lit _ => 1
  | .nil => 1
  | .ptr d => uptoBulk d + 1
  | .slice elems spare => uptoBulkAll elems + uptoBulkAll spare + 1
  | .agg parts => uptoBulkAll parts + 1
  | .iface _ d => uptoBulk d + 1
  | .map entries => uptoBulkEntries entries + 1
  | .held _ => 1
def uptoBulkAll {H : Type} : List (DataW H) → Nat
  | [] => 0
  | d :: r => uptoBulk d + uptoBulkAll r
def uptoBulkEntries {H : Type} : List (Lit × DataW H) → Nat
  | [] => 0
  | x :: r => uptoBulkEntry x + uptoBulkEntries r
def uptoBulkEntry {H : Type} : Lit × DataW H → Nat
  | (.string bytes, d) => bytes.length + uptoBulk d + 1
  | (_, d) => uptoBulk d + 1
 end
def uptoSmall : (H : Type) → List (DataW H) → Bool := fun _ ds => decide (uptoBulkAll ds ≤ 1048576)
def OpenSpec.upto (s : _root_.Go.ChangeSpec) : _root_.Go.OpenSpec := { _root_.Go.OpenSpec.ofChange s with cond := some uptoSmall }

/-- 'huddlelaw22.ChainOnce', WHERE WHAT IT READS IS OF BULK AT MOST 1048576: true; the input reads as it did. -/
def chainOnceUptoRow : OpenClaim := { program := "ytcnhgkgabddjmaa", sum := "793140890c6b8d7e08a3e0f8a4d2f124ab40da80d8aa3648d2171e33a5e288d2", func := "huddle/huddlelaw22.ChainOnce", spec := "chainOnce", unfollowed := true, recurses := true, apart := false, narrowed := true }
def ChainOnceUptoSaid : Prop := chainOnceUptoRow.holds Try.pinned (OpenSpec.upto chainOnceSpec)

/-- 'huddlelaw22.ChainTrace', WHERE WHAT IT READS IS OF BULK AT MOST 1048576: true; the input reads as it did. -/
def chainTraceUptoRow : OpenClaim := { program := "ytcnhgkgabddjmaa", sum := "793140890c6b8d7e08a3e0f8a4d2f124ab40da80d8aa3648d2171e33a5e288d2", func := "huddle/huddlelaw22.ChainTrace", spec := "chainTrace", unfollowed := true, recurses := true, apart := false, narrowed := true }
def ChainTraceUptoSaid : Prop := chainTraceUptoRow.holds Try.pinned (OpenSpec.upto chainTraceSpec)

/-- 'huddlelaw22.ChainFull', WHERE WHAT IT READS IS OF BULK AT MOST 1048576: true; the input reads as it did. -/
def chainFullUptoRow : OpenClaim := { program := "ytcnhgkgabddjmaa", sum := "793140890c6b8d7e08a3e0f8a4d2f124ab40da80d8aa3648d2171e33a5e288d2", func := "huddle/huddlelaw22.ChainFull", spec := "chainFull", unfollowed := true, recurses := true, apart := false, narrowed := true }
def ChainFullUptoSaid : Prop := chainFullUptoRow.holds Try.pinned (OpenSpec.upto chainFullSpec)

/-- 'huddlelaw22.ChainSends', WHERE WHAT IT READS IS OF BULK AT MOST 1048576: true; the input reads as it did. -/
def chainSendsUptoRow : OpenClaim := { program := "ytcnhgkgabddjmaa", sum := "793140890c6b8d7e08a3e0f8a4d2f124ab40da80d8aa3648d2171e33a5e288d2", func := "huddle/huddlelaw22.ChainSends", spec := "chainSends", unfollowed := true, recurses := true, apart := false, narrowed := true }
def ChainSendsUptoSaid : Prop := chainSendsUptoRow.holds Try.pinned (OpenSpec.upto chainSendsSpec)

/-- 'huddlelaw22.ChainPlays', WHERE WHAT IT READS IS OF BULK AT MOST 1048576: true; the input reads as it did. -/
def chainPlaysUptoRow : OpenClaim := { program := "ytcnhgkgabddjmaa", sum := "793140890c6b8d7e08a3e0f8a4d2f124ab40da80d8aa3648d2171e33a5e288d2", func := "huddle/huddlelaw22.ChainPlays", spec := "chainPlays", unfollowed := true, recurses := true, apart := false, narrowed := true }
def ChainPlaysUptoSaid : Prop := chainPlaysUptoRow.holds Try.pinned (OpenSpec.upto chainPlaysSpec)

/-- 'huddlelaw22.ChainRound', WHERE WHAT IT READS IS OF BULK AT MOST 1048576: true; the input reads as it did. -/
def chainRoundUptoRow : OpenClaim := { program := "ytcnhgkgabddjmaa", sum := "793140890c6b8d7e08a3e0f8a4d2f124ab40da80d8aa3648d2171e33a5e288d2", func := "huddle/huddlelaw22.ChainRound", spec := "chainRound", unfollowed := true, recurses := true, apart := false, narrowed := true }
def ChainRoundUptoSaid : Prop := chainRoundUptoRow.holds Try.pinned (OpenSpec.upto chainRoundSpec)

/-- 'huddlelaw22.ChainForms', WHERE WHAT IT READS IS OF BULK AT MOST 1048576: true; the input reads as it did. -/
def chainFormsUptoRow : OpenClaim := { program := "ytcnhgkgabddjmaa", sum := "793140890c6b8d7e08a3e0f8a4d2f124ab40da80d8aa3648d2171e33a5e288d2", func := "huddle/huddlelaw22.ChainForms", spec := "chainForms", unfollowed := true, recurses := true, apart := false, narrowed := true }
def ChainFormsUptoSaid : Prop := chainFormsUptoRow.holds Try.pinned (OpenSpec.upto chainFormsSpec)

/-- 'huddlelaw22.ChainShut', WHERE WHAT IT READS IS OF BULK AT MOST 1048576: true; the input reads as it did. -/
def chainShutUptoRow : OpenClaim := { program := "ytcnhgkgabddjmaa", sum := "793140890c6b8d7e08a3e0f8a4d2f124ab40da80d8aa3648d2171e33a5e288d2", func := "huddle/huddlelaw22.ChainShut", spec := "chainShut", unfollowed := true, recurses := true, apart := false, narrowed := true }
def ChainShutUptoSaid : Prop := chainShutUptoRow.holds Try.pinned (OpenSpec.upto chainShutSpec)

end Rows
end Go.Proofs.Ytcnhgkgabddjmaa
