/-
  DERIVED. GIVEN WITH THE SEED: THE PROGRAM's TIES (one call each: nine closed facts by the kernel) AND EACH ROW's TIE, after the 31st guide's Derived/Test/Toyas{Tie, Card}.lean. No idea stands in it: it is a product of the set-up. Laid BY PROGRAM, IN A SANDBOX (cutbox-door.mjs). By AI agents, Wed Nov 11 2026. No macro, syntax, notation, axiom, sorry.
-/
import Derived.Test.YtjihcgcbnbaclaaDoorRows
import Derived.LaidByTextLater
import Derived.SevenTiedAt
import Derived.LaidSub
import Derived.LaidOnce
namespace Go.Proofs.YtjihcgcbnbaclaaDoor
open Go
set_option maxRecDepth 100000
theorem seatTie1 : Tryd.prog.laidByTextLater [("putlog/yard.changes", Rows.laid_putlog_yard_changes), ("putlog/yard.repairs", Rows.laid_putlog_yard_repairs)] [.widerDeep, .widerDeep] true :=
  Program.laidByTextLater_by_one 27 8 11 (by kernel_rfl) (by kernel_rfl) (by kernel_rfl) (by kernel_rfl) (by kernel_rfl) (by kernel_rfl) (fun _ _ => by kernel_rfl)
theorem noOwnUnsafe : Tryd.pinned.checked.prog.headLifts.contains "ownunsafe" = false := by kernel_rfl
theorem tie : Tryd.prog.laidByTextLater [("putlog/yard.changes", Rows.laid_putlog_yard_changes), ("putlog/yard.repairs", Rows.laid_putlog_yard_repairs)] [.widerDeep, .widerDeep] true :=
  Program.laidByTextLater.sub seatTie1 ["putlog/yard.changes", "putlog/yard.repairs"] (by kernel_rfl) (by kernel_rfl)
theorem topPartsConserved_row_tie : Rows.topPartsConservedRow.laidByTextAt .later Tryd.pinned [.widerDeep, .widerDeep] true :=
  OpenClaim.laidByTextAt_later rfl rfl tie noOwnUnsafe
theorem topReleasedOnlyChecked_row_tie : Rows.topReleasedOnlyCheckedRow.laidByTextAt .later Tryd.pinned [.widerDeep, .widerDeep] true :=
  OpenClaim.laidByTextAt_later rfl rfl tie noOwnUnsafe
theorem topPartsConservedUpto_row_tie : Rows.topPartsConservedUptoRow.laidByTextAt .later Tryd.pinned [.widerDeep, .widerDeep] true :=
  OpenClaim.laidByTextAt_later rfl rfl tie noOwnUnsafe
theorem topReleasedOnlyCheckedUpto_row_tie : Rows.topReleasedOnlyCheckedUptoRow.laidByTextAt .later Tryd.pinned [.widerDeep, .widerDeep] true :=
  OpenClaim.laidByTextAt_later rfl rfl tie noOwnUnsafe
end Go.Proofs.YtjihcgcbnbaclaaDoor
