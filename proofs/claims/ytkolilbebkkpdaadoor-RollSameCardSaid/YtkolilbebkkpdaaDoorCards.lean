/-
  DERIVED. GIVEN WITH THE SEED: THE CARDS: each row of YtkolilbebkkpdaaDoorRows.lean that lists a variable, with what it lists TIED to the program's text (the seventh form; the later family's looks); each row that meets fmt, with fmt's text TOLD by the authors' own Lean function (tested against real Go, not proved from fmt's source: count such statements apart). THE CARD IS WHAT COUNTS. Prove the row's statement (the work); the ties are given (YtkolilbebkkpdaaDoorTie.lean); close each card by the builder's one call (the guide's Derived/Test/ToyasCard.lean, 'card_holds'). Laid BY PROGRAM, IN A SANDBOX (cutbox-door.mjs). By AI agents, Wed Nov 11 2026. No macro, syntax, notation, axiom, sorry.
-/
import Derived.Test.YtkolilbebkkpdaaDoorRows
import GoSem.ClaimSeven
namespace Go.Proofs.YtkolilbebkkpdaaDoor
namespace Rows

/-- THE TIED CARD OF 'huddlelaw15.RollQuorum'. -/
def rollQuorumCard : Claim7 := { stood := { row := rollQuorumRow, standIns := [], harness := (true, "4b1f993ca50e3b1ffc2bb52cd0fd1af28b47ff8ce4e264e25b7a2897d97b9bf0"), looks := true }, kinds := [], alts := [], laidByText := true, laidKinds := [.funcs], laidTests := true, laidLooks := .later }
def RollQuorumCardSaid : Prop := Claim7.holds Tryd.pinned (.plain (OpenSpec.ofChange rollQuorumSpec)) rollQuorumCard

/-- THE TIED CARD OF 'huddlelaw15.RollForms'. -/
def rollFormsCard : Claim7 := { stood := { row := rollFormsRow, standIns := [], harness := (true, "4b1f993ca50e3b1ffc2bb52cd0fd1af28b47ff8ce4e264e25b7a2897d97b9bf0"), looks := true }, kinds := [], alts := [], laidByText := true, laidKinds := [.funcs, .data], laidTests := true, laidLooks := .later }
def RollFormsCardSaid : Prop := Claim7.holds Tryd.pinned (.plain (OpenSpec.ofChange rollFormsSpec)) rollFormsCard

/-- THE TIED CARD OF 'huddlelaw15.RollPlays'. -/
def rollPlaysCard : Claim7 := { stood := { row := rollPlaysRow, standIns := [], harness := (true, "4b1f993ca50e3b1ffc2bb52cd0fd1af28b47ff8ce4e264e25b7a2897d97b9bf0"), looks := true }, kinds := [], alts := [], laidByText := true, laidKinds := [.funcs], laidTests := true, laidLooks := .later }
def RollPlaysCardSaid : Prop := Claim7.holds Tryd.pinned (.plain (OpenSpec.ofChange rollPlaysSpec)) rollPlaysCard

/-- THE TIED CARD OF 'huddlelaw15.RollMays'. -/
def rollMaysCard : Claim7 := { stood := { row := rollMaysRow, standIns := [], harness := (true, "4b1f993ca50e3b1ffc2bb52cd0fd1af28b47ff8ce4e264e25b7a2897d97b9bf0"), looks := true }, kinds := [], alts := [], laidByText := true, laidKinds := [.funcs], laidTests := true, laidLooks := .later }
def RollMaysCardSaid : Prop := Claim7.holds Tryd.pinned (.plain (OpenSpec.ofChange rollMaysSpec)) rollMaysCard

/-- THE TIED CARD OF 'huddlelaw15.RollPower'. -/
def rollPowerCard : Claim7 := { stood := { row := rollPowerRow, standIns := [], harness := (true, "4b1f993ca50e3b1ffc2bb52cd0fd1af28b47ff8ce4e264e25b7a2897d97b9bf0"), looks := true }, kinds := [], alts := [], laidByText := true, laidKinds := [.funcs], laidTests := true, laidLooks := .later }
def RollPowerCardSaid : Prop := Claim7.holds Tryd.pinned (.plain (OpenSpec.ofChange rollPowerSpec)) rollPowerCard

/-- THE TIED CARD OF 'huddlelaw15.RollRow'. -/
def rollRowCard : Claim7 := { stood := { row := rollRowRow, standIns := [], harness := (true, "4b1f993ca50e3b1ffc2bb52cd0fd1af28b47ff8ce4e264e25b7a2897d97b9bf0"), looks := true }, kinds := [], alts := [], laidByText := true, laidKinds := [.funcs], laidTests := true, laidLooks := .later }
def RollRowCardSaid : Prop := Claim7.holds Tryd.pinned (.plain (OpenSpec.ofChange rollRowSpec)) rollRowCard

/-- THE TIED CARD OF 'huddlelaw15.RollSame'. -/
def rollSameCard : Claim7 := { stood := { row := rollSameRow, standIns := [], harness := (true, "4b1f993ca50e3b1ffc2bb52cd0fd1af28b47ff8ce4e264e25b7a2897d97b9bf0"), looks := true }, kinds := [], alts := [], laidByText := true, laidKinds := [.funcs], laidTests := true, laidLooks := .later }
def RollSameCardSaid : Prop := Claim7.holds Tryd.pinned (.plain (OpenSpec.ofChange rollSameSpec)) rollSameCard

/-- THE SECOND FORM's CARD OF 'huddlelaw15.RollQuorum'. -/
def rollQuorumUptoCard : Claim7 := { stood := { row := rollQuorumUptoRow, standIns := [], harness := (true, "4b1f993ca50e3b1ffc2bb52cd0fd1af28b47ff8ce4e264e25b7a2897d97b9bf0"), looks := true }, kinds := [], alts := [], laidByText := true, laidKinds := [.funcs], laidTests := true, laidLooks := .later }
def RollQuorumUptoCardSaid : Prop := Claim7.holds Tryd.pinned (.plain (OpenSpec.upto rollQuorumSpec)) rollQuorumUptoCard

/-- THE SECOND FORM's CARD OF 'huddlelaw15.RollForms'. -/
def rollFormsUptoCard : Claim7 := { stood := { row := rollFormsUptoRow, standIns := [], harness := (true, "4b1f993ca50e3b1ffc2bb52cd0fd1af28b47ff8ce4e264e25b7a2897d97b9bf0"), looks := true }, kinds := [], alts := [], laidByText := true, laidKinds := [.funcs, .data], laidTests := true, laidLooks := .later }
def RollFormsUptoCardSaid : Prop := Claim7.holds Tryd.pinned (.plain (OpenSpec.upto rollFormsSpec)) rollFormsUptoCard

/-- THE SECOND FORM's CARD OF 'huddlelaw15.RollPlays'. -/
def rollPlaysUptoCard : Claim7 := { stood := { row := rollPlaysUptoRow, standIns := [], harness := (true, "4b1f993ca50e3b1ffc2bb52cd0fd1af28b47ff8ce4e264e25b7a2897d97b9bf0"), looks := true }, kinds := [], alts := [], laidByText := true, laidKinds := [.funcs], laidTests := true, laidLooks := .later }
def RollPlaysUptoCardSaid : Prop := Claim7.holds Tryd.pinned (.plain (OpenSpec.upto rollPlaysSpec)) rollPlaysUptoCard

/-- THE SECOND FORM's CARD OF 'huddlelaw15.RollMays'. -/
def rollMaysUptoCard : Claim7 := { stood := { row := rollMaysUptoRow, standIns := [], harness := (true, "4b1f993ca50e3b1ffc2bb52cd0fd1af28b47ff8ce4e264e25b7a2897d97b9bf0"), looks := true }, kinds := [], alts := [], laidByText := true, laidKinds := [.funcs], laidTests := true, laidLooks := .later }
def RollMaysUptoCardSaid : Prop := Claim7.holds Tryd.pinned (.plain (OpenSpec.upto rollMaysSpec)) rollMaysUptoCard

/-- THE SECOND FORM's CARD OF 'huddlelaw15.RollPower'. -/
def rollPowerUptoCard : Claim7 := { stood := { row := rollPowerUptoRow, standIns := [], harness := (true, "4b1f993ca50e3b1ffc2bb52cd0fd1af28b47ff8ce4e264e25b7a2897d97b9bf0"), looks := true }, kinds := [], alts := [], laidByText := true, laidKinds := [.funcs], laidTests := true, laidLooks := .later }
def RollPowerUptoCardSaid : Prop := Claim7.holds Tryd.pinned (.plain (OpenSpec.upto rollPowerSpec)) rollPowerUptoCard

/-- THE SECOND FORM's CARD OF 'huddlelaw15.RollRow'. -/
def rollRowUptoCard : Claim7 := { stood := { row := rollRowUptoRow, standIns := [], harness := (true, "4b1f993ca50e3b1ffc2bb52cd0fd1af28b47ff8ce4e264e25b7a2897d97b9bf0"), looks := true }, kinds := [], alts := [], laidByText := true, laidKinds := [.funcs], laidTests := true, laidLooks := .later }
def RollRowUptoCardSaid : Prop := Claim7.holds Tryd.pinned (.plain (OpenSpec.upto rollRowSpec)) rollRowUptoCard

/-- THE SECOND FORM's CARD OF 'huddlelaw15.RollSame'. -/
def rollSameUptoCard : Claim7 := { stood := { row := rollSameUptoRow, standIns := [], harness := (true, "4b1f993ca50e3b1ffc2bb52cd0fd1af28b47ff8ce4e264e25b7a2897d97b9bf0"), looks := true }, kinds := [], alts := [], laidByText := true, laidKinds := [.funcs], laidTests := true, laidLooks := .later }
def RollSameUptoCardSaid : Prop := Claim7.holds Tryd.pinned (.plain (OpenSpec.upto rollSameSpec)) rollSameUptoCard
end Rows
end Go.Proofs.YtkolilbebkkpdaaDoor
