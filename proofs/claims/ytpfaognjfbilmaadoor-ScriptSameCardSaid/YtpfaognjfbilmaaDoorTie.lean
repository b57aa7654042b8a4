/-
  DERIVED. GIVEN WITH THE SEED: THE PROGRAM's TIES (one call each: nine closed facts by the kernel) AND EACH ROW's TIE, after the 31st guide's Derived/Test/Toyas{Tie, Card}.lean. No idea stands in it: it is a product of the set-up. Laid BY PROGRAM, IN A SANDBOX (cutbox-door.mjs). By AI agents, Wed Nov 11 2026. No macro, syntax, notation, axiom, sorry.
-/
import Derived.Test.YtpfaognjfbilmaaDoorRows
import Derived.LaidByTextLater
import Derived.SevenTiedAt
import Derived.LaidSub
import Derived.LaidOnce
namespace Go.Proofs.YtpfaognjfbilmaaDoor
open Go
set_option maxRecDepth 100000
theorem seatTie1 : Tryd.prog.laidByTextLater [("millwright/api.ErrRange", Rows.laid_millwright_api_ErrRange), ("millwright/api.ErrLong", Rows.laid_millwright_api_ErrLong), ("millwright/api.ErrForm", Rows.laid_millwright_api_ErrForm), ("millwright/api.ErrName", Rows.laid_millwright_api_ErrName), ("millwright/api.ErrFull", Rows.laid_millwright_api_ErrFull)] [.sentinel, .sentinel, .sentinel, .sentinel, .sentinel] true :=
  Program.laidByTextLater_by_one 104 8 2 (by kernel_rfl) (by kernel_rfl) (by kernel_rfl) (by kernel_rfl) (by kernel_rfl) (by kernel_rfl) (fun _ _ => by kernel_rfl)
theorem noOwnUnsafe : Tryd.pinned.checked.prog.headLifts.contains "ownunsafe" = false := by kernel_rfl
theorem tie : Tryd.prog.laidByTextLater [("millwright/api.ErrForm", Rows.laid_millwright_api_ErrForm)] [.sentinel] true :=
  Program.laidByTextLater.sub seatTie1 ["millwright/api.ErrForm"] (by kernel_rfl) (by kernel_rfl)
theorem scriptDecodes_row_tie : Rows.scriptDecodesRow.laidByTextAt .later Tryd.pinned [.sentinel] true :=
  OpenClaim.laidByTextAt_later rfl rfl tie noOwnUnsafe
theorem tie2 : Tryd.prog.laidByTextLater [("millwright/api.ErrRange", Rows.laid_millwright_api_ErrRange), ("millwright/api.ErrLong", Rows.laid_millwright_api_ErrLong), ("millwright/api.ErrForm", Rows.laid_millwright_api_ErrForm), ("millwright/api.ErrName", Rows.laid_millwright_api_ErrName), ("millwright/api.ErrFull", Rows.laid_millwright_api_ErrFull)] [.sentinel, .sentinel, .sentinel, .sentinel, .sentinel] true :=
  Program.laidByTextLater.sub seatTie1 ["millwright/api.ErrRange", "millwright/api.ErrLong", "millwright/api.ErrForm", "millwright/api.ErrName", "millwright/api.ErrFull"] (by kernel_rfl) (by kernel_rfl)
theorem scriptSame_row_tie : Rows.scriptSameRow.laidByTextAt .later Tryd.pinned [.sentinel, .sentinel, .sentinel, .sentinel, .sentinel] true :=
  OpenClaim.laidByTextAt_later rfl rfl tie2 noOwnUnsafe
theorem scriptDecodesUpto_row_tie : Rows.scriptDecodesUptoRow.laidByTextAt .later Tryd.pinned [.sentinel] true :=
  OpenClaim.laidByTextAt_later rfl rfl tie noOwnUnsafe
theorem scriptSameUpto_row_tie : Rows.scriptSameUptoRow.laidByTextAt .later Tryd.pinned [.sentinel, .sentinel, .sentinel, .sentinel, .sentinel] true :=
  OpenClaim.laidByTextAt_later rfl rfl tie2 noOwnUnsafe
end Go.Proofs.YtpfaognjfbilmaaDoor
