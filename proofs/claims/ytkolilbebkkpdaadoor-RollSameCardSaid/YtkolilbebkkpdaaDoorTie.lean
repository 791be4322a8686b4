/-
  DERIVED. GIVEN WITH THE SEED: THE PROGRAM's TIES (one call each: nine closed facts by the kernel) AND EACH ROW's TIE, after the 31st guide's Derived/Test/Toyas{Tie, Card}.lean. No idea stands in it: it is a product of the set-up. Laid BY PROGRAM, IN A SANDBOX (cutbox-door.mjs). By AI agents, Wed Nov 11 2026. No macro, syntax, notation, axiom, sorry.
-/
import Derived.Test.YtkolilbebkkpdaaDoorRows
import Derived.LaidByTextLater
import Derived.SevenTiedAt
import Derived.LaidSub
import Derived.LaidOnce
namespace Go.Proofs.YtkolilbebkkpdaaDoor
open Go
set_option maxRecDepth 100000
theorem seatTie1 : Tryd.prog.laidByTextLater [("huddle/roll.asks", Rows.laid_huddle_roll_asks), ("huddle/op.kinds", Rows.laid_huddle_op_kinds)] [.funcs, .data] true :=
  Program.laidByTextLater_by_one 19 8 15 (by kernel_rfl) (by kernel_rfl) (by kernel_rfl) (by kernel_rfl) (by kernel_rfl) (by kernel_rfl) (fun _ _ => by kernel_rfl)
theorem noOwnUnsafe : Tryd.pinned.checked.prog.headLifts.contains "ownunsafe" = false := by kernel_rfl
theorem tie : Tryd.prog.laidByTextLater [("huddle/roll.asks", Rows.laid_huddle_roll_asks)] [.funcs] true :=
  Program.laidByTextLater.sub seatTie1 ["huddle/roll.asks"] (by kernel_rfl) (by kernel_rfl)
theorem rollQuorum_row_tie : Rows.rollQuorumRow.laidByTextAt .later Tryd.pinned [.funcs] true :=
  OpenClaim.laidByTextAt_later rfl rfl tie noOwnUnsafe
theorem rollPlays_row_tie : Rows.rollPlaysRow.laidByTextAt .later Tryd.pinned [.funcs] true :=
  OpenClaim.laidByTextAt_later rfl rfl tie noOwnUnsafe
theorem rollMays_row_tie : Rows.rollMaysRow.laidByTextAt .later Tryd.pinned [.funcs] true :=
  OpenClaim.laidByTextAt_later rfl rfl tie noOwnUnsafe
theorem rollPower_row_tie : Rows.rollPowerRow.laidByTextAt .later Tryd.pinned [.funcs] true :=
  OpenClaim.laidByTextAt_later rfl rfl tie noOwnUnsafe
theorem rollRow_row_tie : Rows.rollRowRow.laidByTextAt .later Tryd.pinned [.funcs] true :=
  OpenClaim.laidByTextAt_later rfl rfl tie noOwnUnsafe
theorem rollSame_row_tie : Rows.rollSameRow.laidByTextAt .later Tryd.pinned [.funcs] true :=
  OpenClaim.laidByTextAt_later rfl rfl tie noOwnUnsafe
theorem tie2 : Tryd.prog.laidByTextLater [("huddle/roll.asks", Rows.laid_huddle_roll_asks), ("huddle/op.kinds", Rows.laid_huddle_op_kinds)] [.funcs, .data] true :=
  Program.laidByTextLater.sub seatTie1 ["huddle/roll.asks", "huddle/op.kinds"] (by kernel_rfl) (by kernel_rfl)
theorem rollForms_row_tie : Rows.rollFormsRow.laidByTextAt .later Tryd.pinned [.funcs, .data] true :=
  OpenClaim.laidByTextAt_later rfl rfl tie2 noOwnUnsafe
theorem rollQuorumUpto_row_tie : Rows.rollQuorumUptoRow.laidByTextAt .later Tryd.pinned [.funcs] true :=
  OpenClaim.laidByTextAt_later rfl rfl tie noOwnUnsafe
theorem rollFormsUpto_row_tie : Rows.rollFormsUptoRow.laidByTextAt .later Tryd.pinned [.funcs, .data] true :=
  OpenClaim.laidByTextAt_later rfl rfl tie2 noOwnUnsafe
theorem rollPlaysUpto_row_tie : Rows.rollPlaysUptoRow.laidByTextAt .later Tryd.pinned [.funcs] true :=
  OpenClaim.laidByTextAt_later rfl rfl tie noOwnUnsafe
theorem rollMaysUpto_row_tie : Rows.rollMaysUptoRow.laidByTextAt .later Tryd.pinned [.funcs] true :=
  OpenClaim.laidByTextAt_later rfl rfl tie noOwnUnsafe
theorem rollPowerUpto_row_tie : Rows.rollPowerUptoRow.laidByTextAt .later Tryd.pinned [.funcs] true :=
  OpenClaim.laidByTextAt_later rfl rfl tie noOwnUnsafe
theorem rollRowUpto_row_tie : Rows.rollRowUptoRow.laidByTextAt .later Tryd.pinned [.funcs] true :=
  OpenClaim.laidByTextAt_later rfl rfl tie noOwnUnsafe
theorem rollSameUpto_row_tie : Rows.rollSameUptoRow.laidByTextAt .later Tryd.pinned [.funcs] true :=
  OpenClaim.laidByTextAt_later rfl rfl tie noOwnUnsafe
end Go.Proofs.YtkolilbebkkpdaaDoor
