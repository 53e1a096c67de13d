/-
  DERIVED. GIVEN WITH THE SEED: THE CARDS: each row of YtindehoegfiiaaaGreatDoorRows.lean that lists a variable, with what it lists TIED to the program's text (the seventh form; the later family's looks); each row that meets fmt, with fmt's text TOLD by the authors' own Lean function (tested against real Go, not proved from fmt's source: count such statements apart). THE CARD IS WHAT COUNTS. Prove the row's statement (the work); the ties are given (YtindehoegfiiaaaGreatDoorTie.lean); close each card by the builder's one call (the guide's Derived/Test/ToyasCard.lean, 'card_holds'). Laid BY PROGRAM, IN A SANDBOX (cutbox-door.mjs). By AI agents, Wed Nov 11 2026. No macro, syntax, notation, axiom, sorry.
-/
import Derived.Test.YtindehoegfiiaaaGreatDoorRows
import GoSem.ClaimSeven
namespace Go.Proofs.YtindehoegfiiaaaGreatDoor
namespace Rows

/-- THE TIED CARD OF 'putloglaw06.HoldingGrids'. -/
def holdingGridsCard : Claim7 := { stood := { row := holdingGridsRow, standIns := [], harness := (true, "37dc0fe45541eb8af0a83ae76d1da2e980cc147a50d9bb090c3ae6f3f207150d"), looks := false }, kinds := [], alts := [], laidByText := true, laidKinds := [.data, .data, .data], laidTests := true, laidLooks := .later }
def HoldingGridsCardSaid : Prop := Claim7.holds Tryz.pinned (.plain (OpenSpec.ofChange holdingGridsSpec)) holdingGridsCard

/-- THE TIED CARD OF 'putloglaw06.HoldingChooses'. -/
def holdingChoosesCard : Claim7 := { stood := { row := holdingChoosesRow, standIns := [], harness := (true, "37dc0fe45541eb8af0a83ae76d1da2e980cc147a50d9bb090c3ae6f3f207150d"), looks := false }, kinds := [], alts := [], laidByText := true, laidKinds := [.data, .data, .data], laidTests := true, laidLooks := .later }
def HoldingChoosesCardSaid : Prop := Claim7.holds Tryz.pinned (.plain (OpenSpec.ofChange holdingChoosesSpec)) holdingChoosesCard

/-- THE TIED CARD OF 'putloglaw06.HoldingDemands'. -/
def holdingDemandsCard : Claim7 := { stood := { row := holdingDemandsRow, standIns := [], harness := (true, "37dc0fe45541eb8af0a83ae76d1da2e980cc147a50d9bb090c3ae6f3f207150d"), looks := false }, kinds := [], alts := [], laidByText := true, laidKinds := [.data, .data, .data], laidTests := true, laidLooks := .later }
def HoldingDemandsCardSaid : Prop := Claim7.holds Tryz.pinned (.plain (OpenSpec.ofChange holdingDemandsSpec)) holdingDemandsCard

/-- THE TIED CARD OF 'putloglaw06.HoldingGaps'. -/
def holdingGapsCard : Claim7 := { stood := { row := holdingGapsRow, standIns := [], harness := (true, "37dc0fe45541eb8af0a83ae76d1da2e980cc147a50d9bb090c3ae6f3f207150d"), looks := false }, kinds := [], alts := [], laidByText := true, laidKinds := [.data, .data, .data], laidTests := true, laidLooks := .later }
def HoldingGapsCardSaid : Prop := Claim7.holds Tryz.pinned (.plain (OpenSpec.ofChange holdingGapsSpec)) holdingGapsCard

/-- THE TIED CARD OF 'putloglaw06.HoldingSelect'. -/
def holdingSelectCard : Claim7 := { stood := { row := holdingSelectRow, standIns := [], harness := (true, "37dc0fe45541eb8af0a83ae76d1da2e980cc147a50d9bb090c3ae6f3f207150d"), looks := false }, kinds := [], alts := [], laidByText := true, laidKinds := [.data, .data, .data], laidTests := true, laidLooks := .later }
def HoldingSelectCardSaid : Prop := Claim7.holds Tryz.pinned (.plain (OpenSpec.ofChange holdingSelectSpec)) holdingSelectCard

/-- THE TIED CARD OF 'putloglaw06.HoldingEssential'. -/
def holdingEssentialCard : Claim7 := { stood := { row := holdingEssentialRow, standIns := [], harness := (true, "37dc0fe45541eb8af0a83ae76d1da2e980cc147a50d9bb090c3ae6f3f207150d"), looks := false }, kinds := [], alts := [], laidByText := true, laidKinds := [.data, .data, .data], laidTests := true, laidLooks := .later }
def HoldingEssentialCardSaid : Prop := Claim7.holds Tryz.pinned (.plain (OpenSpec.ofChange holdingEssentialSpec)) holdingEssentialCard

/-- THE TIED CARD OF 'putloglaw06.HoldingSums'. -/
def holdingSumsCard : Claim7 := { stood := { row := holdingSumsRow, standIns := [], harness := (true, "37dc0fe45541eb8af0a83ae76d1da2e980cc147a50d9bb090c3ae6f3f207150d"), looks := false }, kinds := [], alts := [], laidByText := true, laidKinds := [.data, .data, .data], laidTests := true, laidLooks := .later }
def HoldingSumsCardSaid : Prop := Claim7.holds Tryz.pinned (.plain (OpenSpec.ofChange holdingSumsSpec)) holdingSumsCard

/-- THE TIED CARD OF 'putloglaw06.HoldingGround'. -/
def holdingGroundCard : Claim7 := { stood := { row := holdingGroundRow, standIns := [], harness := (true, "37dc0fe45541eb8af0a83ae76d1da2e980cc147a50d9bb090c3ae6f3f207150d"), looks := false }, kinds := [], alts := [], laidByText := true, laidKinds := [.data, .data, .data], laidTests := true, laidLooks := .later }
def HoldingGroundCardSaid : Prop := Claim7.holds Tryz.pinned (.plain (OpenSpec.ofChange holdingGroundSpec)) holdingGroundCard

/-- THE TIED CARD OF 'putloglaw06.HoldingShares'. -/
def holdingSharesCard : Claim7 := { stood := { row := holdingSharesRow, standIns := [], harness := (true, "37dc0fe45541eb8af0a83ae76d1da2e980cc147a50d9bb090c3ae6f3f207150d"), looks := false }, kinds := [], alts := [], laidByText := true, laidKinds := [.data, .data, .data], laidTests := true, laidLooks := .later }
def HoldingSharesCardSaid : Prop := Claim7.holds Tryz.pinned (.plain (OpenSpec.ofChange holdingSharesSpec)) holdingSharesCard

/-- THE TIED CARD OF 'putloglaw06.HoldingSoles'. -/
def holdingSolesCard : Claim7 := { stood := { row := holdingSolesRow, standIns := [], harness := (true, "37dc0fe45541eb8af0a83ae76d1da2e980cc147a50d9bb090c3ae6f3f207150d"), looks := false }, kinds := [], alts := [], laidByText := true, laidKinds := [.data, .data, .data], laidTests := true, laidLooks := .later }
def HoldingSolesCardSaid : Prop := Claim7.holds Tryz.pinned (.plain (OpenSpec.ofChange holdingSolesSpec)) holdingSolesCard

/-- THE TIED CARD OF 'putloglaw06.HoldingJacks'. -/
def holdingJacksCard : Claim7 := { stood := { row := holdingJacksRow, standIns := [], harness := (true, "37dc0fe45541eb8af0a83ae76d1da2e980cc147a50d9bb090c3ae6f3f207150d"), looks := false }, kinds := [], alts := [], laidByText := true, laidKinds := [.data, .data, .data], laidTests := true, laidLooks := .later }
def HoldingJacksCardSaid : Prop := Claim7.holds Tryz.pinned (.plain (OpenSpec.ofChange holdingJacksSpec)) holdingJacksCard

/-- THE SECOND FORM's CARD OF 'putloglaw06.HoldingGrids'. -/
def holdingGridsUptoCard : Claim7 := { stood := { row := holdingGridsUptoRow, standIns := [], harness := (true, "37dc0fe45541eb8af0a83ae76d1da2e980cc147a50d9bb090c3ae6f3f207150d"), looks := false }, kinds := [], alts := [], laidByText := true, laidKinds := [.data, .data, .data], laidTests := true, laidLooks := .later }
def HoldingGridsUptoCardSaid : Prop := Claim7.holds Tryz.pinned (.plain (OpenSpec.upto holdingGridsSpec)) holdingGridsUptoCard

/-- THE SECOND FORM's CARD OF 'putloglaw06.HoldingChooses'. -/
def holdingChoosesUptoCard : Claim7 := { stood := { row := holdingChoosesUptoRow, standIns := [], harness := (true, "37dc0fe45541eb8af0a83ae76d1da2e980cc147a50d9bb090c3ae6f3f207150d"), looks := false }, kinds := [], alts := [], laidByText := true, laidKinds := [.data, .data, .data], laidTests := true, laidLooks := .later }
def HoldingChoosesUptoCardSaid : Prop := Claim7.holds Tryz.pinned (.plain (OpenSpec.upto holdingChoosesSpec)) holdingChoosesUptoCard

/-- THE SECOND FORM's CARD OF 'putloglaw06.HoldingDemands'. -/
def holdingDemandsUptoCard : Claim7 := { stood := { row := holdingDemandsUptoRow, standIns := [], harness := (true, "37dc0fe45541eb8af0a83ae76d1da2e980cc147a50d9bb090c3ae6f3f207150d"), looks := false }, kinds := [], alts := [], laidByText := true, laidKinds := [.data, .data, .data], laidTests := true, laidLooks := .later }
def HoldingDemandsUptoCardSaid : Prop := Claim7.holds Tryz.pinned (.plain (OpenSpec.upto holdingDemandsSpec)) holdingDemandsUptoCard

/-- THE SECOND FORM's CARD OF 'putloglaw06.HoldingGaps'. -/
def holdingGapsUptoCard : Claim7 := { stood := { row := holdingGapsUptoRow, standIns := [], harness := (true, "37dc0fe45541eb8af0a83ae76d1da2e980cc147a50d9bb090c3ae6f3f207150d"), looks := false }, kinds := [], alts := [], laidByText := true, laidKinds := [.data, .data, .data], laidTests := true, laidLooks := .later }
def HoldingGapsUptoCardSaid : Prop := Claim7.holds Tryz.pinned (.plain (OpenSpec.upto holdingGapsSpec)) holdingGapsUptoCard

/-- THE SECOND FORM's CARD OF 'putloglaw06.HoldingSelect'. -/
def holdingSelectUptoCard : Claim7 := { stood := { row := holdingSelectUptoRow, standIns := [], harness := (true, "37dc0fe45541eb8af0a83ae76d1da2e980cc147a50d9bb090c3ae6f3f207150d"), looks := false }, kinds := [], alts := [], laidByText := true, laidKinds := [.data, .data, .data], laidTests := true, laidLooks := .later }
def HoldingSelectUptoCardSaid : Prop := Claim7.holds Tryz.pinned (.plain (OpenSpec.upto holdingSelectSpec)) holdingSelectUptoCard

/-- THE SECOND FORM's CARD OF 'putloglaw06.HoldingEssential'. -/
def holdingEssentialUptoCard : Claim7 := { stood := { row := holdingEssentialUptoRow, standIns := [], harness := (true, "37dc0fe45541eb8af0a83ae76d1da2e980cc147a50d9bb090c3ae6f3f207150d"), looks := false }, kinds := [], alts := [], laidByText := true, laidKinds := [.data, .data, .data], laidTests := true, laidLooks := .later }
def HoldingEssentialUptoCardSaid : Prop := Claim7.holds Tryz.pinned (.plain (OpenSpec.upto holdingEssentialSpec)) holdingEssentialUptoCard

/-- THE SECOND FORM's CARD OF 'putloglaw06.HoldingSums'. -/
def holdingSumsUptoCard : Claim7 := { stood := { row := holdingSumsUptoRow, standIns := [], harness := (true, "37dc0fe45541eb8af0a83ae76d1da2e980cc147a50d9bb090c3ae6f3f207150d"), looks := false }, kinds := [], alts := [], laidByText := true, laidKinds := [.data, .data, .data], laidTests := true, laidLooks := .later }
def HoldingSumsUptoCardSaid : Prop := Claim7.holds Tryz.pinned (.plain (OpenSpec.upto holdingSumsSpec)) holdingSumsUptoCard

/-- THE SECOND FORM's CARD OF 'putloglaw06.HoldingGround'. -/
def holdingGroundUptoCard : Claim7 := { stood := { row := holdingGroundUptoRow, standIns := [], harness := (true, "37dc0fe45541eb8af0a83ae76d1da2e980cc147a50d9bb090c3ae6f3f207150d"), looks := false }, kinds := [], alts := [], laidByText := true, laidKinds := [.data, .data, .data], laidTests := true, laidLooks := .later }
def HoldingGroundUptoCardSaid : Prop := Claim7.holds Tryz.pinned (.plain (OpenSpec.upto holdingGroundSpec)) holdingGroundUptoCard

/-- THE SECOND FORM's CARD OF 'putloglaw06.HoldingShares'. -/
def holdingSharesUptoCard : Claim7 := { stood := { row := holdingSharesUptoRow, standIns := [], harness := (true, "37dc0fe45541eb8af0a83ae76d1da2e980cc147a50d9bb090c3ae6f3f207150d"), looks := false }, kinds := [], alts := [], laidByText := true, laidKinds := [.data, .data, .data], laidTests := true, laidLooks := .later }
def HoldingSharesUptoCardSaid : Prop := Claim7.holds Tryz.pinned (.plain (OpenSpec.upto holdingSharesSpec)) holdingSharesUptoCard

/-- THE SECOND FORM's CARD OF 'putloglaw06.HoldingSoles'. -/
def holdingSolesUptoCard : Claim7 := { stood := { row := holdingSolesUptoRow, standIns := [], harness := (true, "37dc0fe45541eb8af0a83ae76d1da2e980cc147a50d9bb090c3ae6f3f207150d"), looks := false }, kinds := [], alts := [], laidByText := true, laidKinds := [.data, .data, .data], laidTests := true, laidLooks := .later }
def HoldingSolesUptoCardSaid : Prop := Claim7.holds Tryz.pinned (.plain (OpenSpec.upto holdingSolesSpec)) holdingSolesUptoCard

/-- THE SECOND FORM's CARD OF 'putloglaw06.HoldingJacks'. -/
def holdingJacksUptoCard : Claim7 := { stood := { row := holdingJacksUptoRow, standIns := [], harness := (true, "37dc0fe45541eb8af0a83ae76d1da2e980cc147a50d9bb090c3ae6f3f207150d"), looks := false }, kinds := [], alts := [], laidByText := true, laidKinds := [.data, .data, .data], laidTests := true, laidLooks := .later }
def HoldingJacksUptoCardSaid : Prop := Claim7.holds Tryz.pinned (.plain (OpenSpec.upto holdingJacksSpec)) holdingJacksUptoCard
end Rows
end Go.Proofs.YtindehoegfiiaaaGreatDoor
