/-
  DERIVED. GIVEN WITH THE SEED: THE CARDS: each row of YtmlhhdiomijpfaaGreatDoorRows.lean that lists a variable, with what it lists TIED to the program's text (the seventh form; the later family's looks); each row that meets fmt, with fmt's text TOLD by the authors' own Lean function (tested against real Go, not proved from fmt's source: count such statements apart). THE CARD IS WHAT COUNTS. Prove the row's statement (the work); the ties are given (YtmlhhdiomijpfaaGreatDoorTie.lean); close each card by the builder's one call (the guide's Derived/Test/ToyasCard.lean, 'card_holds'). Laid BY PROGRAM, IN A SANDBOX (cutbox-door.mjs). By AI agents, Wed Nov 11 2026. No macro, syntax, notation, axiom, sorry.
-/
import Derived.Test.YtmlhhdiomijpfaaGreatDoorRows
import GoSem.ClaimSeven
namespace Go.Proofs.YtmlhhdiomijpfaaGreatDoor
namespace Rows

/-- THE TIED CARD OF 'putloglaw06.HoldingTexts'. -/
def holdingTextsCard : Claim7 := { stood := { row := holdingTextsRow, standIns := [], harness := (true, "2bd43ad6af1ac61eb3c042fb0c837ccd145afceb81218271fa8cab29554a09b8"), looks := true }, kinds := [], alts := [], laidByText := true, laidKinds := [.data, .data, .data, .data, .sentinel, .sentinel, .pinned], laidTests := true, laidLooks := .later }
def HoldingTextsCardSaid : Prop := Claim7.holds Tryz.pinned (.plain (OpenSpec.ofChange holdingTextsSpec)) holdingTextsCard

/-- THE TIED CARD OF 'putloglaw07.ErectionTexts'. -/
def erectionTextsCard : Claim7 := { stood := { row := erectionTextsRow, standIns := [], harness := (true, "2bd43ad6af1ac61eb3c042fb0c837ccd145afceb81218271fa8cab29554a09b8"), looks := true }, kinds := [], alts := [], laidByText := true, laidKinds := [.data, .data, .data, .data, .sentinel, .sentinel, .pinned], laidTests := true, laidLooks := .later }
def ErectionTextsCardSaid : Prop := Claim7.holds Tryz.pinned (.plain (OpenSpec.ofChange erectionTextsSpec)) erectionTextsCard

/-- THE SECOND FORM's CARD OF 'putloglaw06.HoldingTexts'. -/
def holdingTextsUptoCard : Claim7 := { stood := { row := holdingTextsUptoRow, standIns := [], harness := (true, "2bd43ad6af1ac61eb3c042fb0c837ccd145afceb81218271fa8cab29554a09b8"), looks := true }, kinds := [], alts := [], laidByText := true, laidKinds := [.data, .data, .data, .data, .sentinel, .sentinel, .pinned], laidTests := true, laidLooks := .later }
def HoldingTextsUptoCardSaid : Prop := Claim7.holds Tryz.pinned (.plain (OpenSpec.upto holdingTextsSpec)) holdingTextsUptoCard

/-- THE SECOND FORM's CARD OF 'putloglaw07.ErectionTexts'. -/
def erectionTextsUptoCard : Claim7 := { stood := { row := erectionTextsUptoRow, standIns := [], harness := (true, "2bd43ad6af1ac61eb3c042fb0c837ccd145afceb81218271fa8cab29554a09b8"), looks := true }, kinds := [], alts := [], laidByText := true, laidKinds := [.data, .data, .data, .data, .sentinel, .sentinel, .pinned], laidTests := true, laidLooks := .later }
def ErectionTextsUptoCardSaid : Prop := Claim7.holds Tryz.pinned (.plain (OpenSpec.upto erectionTextsSpec)) erectionTextsUptoCard
end Rows
end Go.Proofs.YtmlhhdiomijpfaaGreatDoor
