/-
  DERIVED. GIVEN WITH THE SEED: THE CARDS: each row of YtjihcgcbnbaclaaGreatDoorRows.lean that lists a variable, with what it lists TIED to the program's text (the seventh form; the later family's looks); each row that meets fmt, with fmt's text TOLD by the authors' own Lean function (tested against real Go, not proved from fmt's source: count such statements apart). THE CARD IS WHAT COUNTS. Prove the row's statement (the work); the ties are given (YtjihcgcbnbaclaaGreatDoorTie.lean); close each card by the builder's one call (the guide's Derived/Test/ToyasCard.lean, 'card_holds'). Laid BY PROGRAM, IN A SANDBOX (cutbox-door.mjs). By AI agents, Wed Nov 11 2026. No macro, syntax, notation, axiom, sorry.
-/
import Derived.Test.YtjihcgcbnbaclaaGreatDoorRows
import GoSem.ClaimSeven
namespace Go.Proofs.YtjihcgcbnbaclaaGreatDoor
namespace Rows

/-- THE TIED CARD OF 'putlogtop.TopTwoAccounts'. -/
def topTwoAccountsCard : Claim7 := { stood := { row := topTwoAccountsRow, standIns := [], harness := (true, "4448379288fa27becfd10fbea6c6ffb6a53c34b1a3dbb65a3b1b107d02839271"), looks := false }, kinds := [], alts := [], laidByText := true, laidKinds := [.widerDeep, .widerDeep], laidTests := true, laidLooks := .later }
def TopTwoAccountsCardSaid : Prop := Claim7.holds Tryz.pinned (.plain (OpenSpec.ofChange topTwoAccountsSpec)) topTwoAccountsCard

/-- THE TIED CARD OF 'putlogtop.TopAccountsReconcile'. -/
def topAccountsReconcileCard : Claim7 := { stood := { row := topAccountsReconcileRow, standIns := [], harness := (true, "4448379288fa27becfd10fbea6c6ffb6a53c34b1a3dbb65a3b1b107d02839271"), looks := false }, kinds := [], alts := [], laidByText := true, laidKinds := [.widerDeep, .widerDeep], laidTests := true, laidLooks := .later }
def TopAccountsReconcileCardSaid : Prop := Claim7.holds Tryz.pinned (.plain (OpenSpec.ofChange topAccountsReconcileSpec)) topAccountsReconcileCard

/-- THE SECOND FORM's CARD OF 'putlogtop.TopTwoAccounts'. -/
def topTwoAccountsUptoCard : Claim7 := { stood := { row := topTwoAccountsUptoRow, standIns := [], harness := (true, "4448379288fa27becfd10fbea6c6ffb6a53c34b1a3dbb65a3b1b107d02839271"), looks := false }, kinds := [], alts := [], laidByText := true, laidKinds := [.widerDeep, .widerDeep], laidTests := true, laidLooks := .later }
def TopTwoAccountsUptoCardSaid : Prop := Claim7.holds Tryz.pinned (.plain (OpenSpec.upto topTwoAccountsSpec)) topTwoAccountsUptoCard

/-- THE SECOND FORM's CARD OF 'putlogtop.TopAccountsReconcile'. -/
def topAccountsReconcileUptoCard : Claim7 := { stood := { row := topAccountsReconcileUptoRow, standIns := [], harness := (true, "4448379288fa27becfd10fbea6c6ffb6a53c34b1a3dbb65a3b1b107d02839271"), looks := false }, kinds := [], alts := [], laidByText := true, laidKinds := [.widerDeep, .widerDeep], laidTests := true, laidLooks := .later }
def TopAccountsReconcileUptoCardSaid : Prop := Claim7.holds Tryz.pinned (.plain (OpenSpec.upto topAccountsReconcileSpec)) topAccountsReconcileUptoCard
end Rows
end Go.Proofs.YtjihcgcbnbaclaaGreatDoor
