/-
  DERIVED. GIVEN WITH THE SEED: THE PROGRAM's TIES (one call each: nine closed facts by the kernel) AND EACH ROW's TIE, after the 31st guide's Derived/Test/Toyas{Tie, Card}.lean. No idea stands in it: it is a product of the set-up. Laid BY PROGRAM, IN A SANDBOX (cutbox-door.mjs). By AI agents, Wed Nov 11 2026. No macro, syntax, notation, axiom, sorry.
-/
import Derived.Test.YtjihcgcbnbaclaaGreatDoorRows
import Derived.LaidByTextLater
import Derived.SevenTiedAt
import Derived.LaidSub
import Derived.LaidOnce
namespace Go.Proofs.YtjihcgcbnbaclaaGreatDoor
open Go
set_option maxRecDepth 100000
theorem seatTie1 : Tryz.prog.laidByTextLater [("putlog/yard.changes", Rows.laid_putlog_yard_changes), ("putlog/yard.repairs", Rows.laid_putlog_yard_repairs)] [.widerDeep, .widerDeep] true :=
  Program.laidByTextLater_by_one 27 8 11 (by kernel_rfl) (by kernel_rfl) (by kernel_rfl) (by kernel_rfl) (by kernel_rfl) (by kernel_rfl) (fun _ _ => by kernel_rfl)
theorem noOwnUnsafe : Tryz.pinned.checked.prog.headLifts.contains "ownunsafe" = false := by kernel_rfl
theorem tie : Tryz.prog.laidByTextLater [("putlog/yard.changes", Rows.laid_putlog_yard_changes), ("putlog/yard.repairs", Rows.laid_putlog_yard_repairs)] [.widerDeep, .widerDeep] true :=
  Program.laidByTextLater.sub seatTie1 ["putlog/yard.changes", "putlog/yard.repairs"] (by kernel_rfl) (by kernel_rfl)
theorem topTwoAccounts_row_tie : Rows.topTwoAccountsRow.laidByTextAt .later Tryz.pinned [.widerDeep, .widerDeep] true :=
  OpenClaim.laidByTextAt_later rfl rfl tie noOwnUnsafe
theorem topAccountsReconcile_row_tie : Rows.topAccountsReconcileRow.laidByTextAt .later Tryz.pinned [.widerDeep, .widerDeep] true :=
  OpenClaim.laidByTextAt_later rfl rfl tie noOwnUnsafe
theorem topTwoAccountsUpto_row_tie : Rows.topTwoAccountsUptoRow.laidByTextAt .later Tryz.pinned [.widerDeep, .widerDeep] true :=
  OpenClaim.laidByTextAt_later rfl rfl tie noOwnUnsafe
theorem topAccountsReconcileUpto_row_tie : Rows.topAccountsReconcileUptoRow.laidByTextAt .later Tryz.pinned [.widerDeep, .widerDeep] true :=
  OpenClaim.laidByTextAt_later rfl rfl tie noOwnUnsafe
end Go.Proofs.YtjihcgcbnbaclaaGreatDoor
