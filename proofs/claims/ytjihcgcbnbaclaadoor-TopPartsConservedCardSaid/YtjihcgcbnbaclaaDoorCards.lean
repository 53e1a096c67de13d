/-
  DERIVED. GIVEN WITH THE SEED: THE CARDS: each row of YtjihcgcbnbaclaaDoorRows.lean that lists a variable, with what it lists TIED to the program's text (the seventh form; the later family's looks); each row that meets fmt, with fmt's text TOLD by the authors' own Lean function (tested against real Go, not proved from fmt's source: count such statements apart). THE CARD IS WHAT COUNTS. Prove the row's statement (the work); the ties are given (YtjihcgcbnbaclaaDoorTie.lean); close each card by the builder's one call (the guide's Derived/Test/ToyasCard.lean, 'card_holds'). Laid BY PROGRAM, IN A SANDBOX (cutbox-door.mjs). By AI agents, Wed Nov 11 2026. No macro, syntax, notation, axiom, sorry.
-/
import Derived.Test.YtjihcgcbnbaclaaDoorRows
import GoSem.ClaimSeven
namespace Go.Proofs.YtjihcgcbnbaclaaDoor
namespace Rows

/-- THE TIED CARD OF 'putlogtop.TopPartsConserved'. -/
def topPartsConservedCard : Claim7 := { stood := { row := topPartsConservedRow, standIns := [], harness := (true, "3c34a31089346d624674b483a5db051e295259c70c560db9632ddeb54a973886"), looks := false }, kinds := [], alts := [], laidByText := true, laidKinds := [.widerDeep, .widerDeep], laidTests := true, laidLooks := .later }
def TopPartsConservedCardSaid : Prop := Claim7.holds Tryd.pinned (.plain (OpenSpec.ofChange topPartsConservedSpec)) topPartsConservedCard

/-- THE TIED CARD OF 'putlogtop.TopReleasedOnlyChecked'. -/
def topReleasedOnlyCheckedCard : Claim7 := { stood := { row := topReleasedOnlyCheckedRow, standIns := [], harness := (true, "3c34a31089346d624674b483a5db051e295259c70c560db9632ddeb54a973886"), looks := false }, kinds := [], alts := [], laidByText := true, laidKinds := [.widerDeep, .widerDeep], laidTests := true, laidLooks := .later }
def TopReleasedOnlyCheckedCardSaid : Prop := Claim7.holds Tryd.pinned (.plain (OpenSpec.ofChange topReleasedOnlyCheckedSpec)) topReleasedOnlyCheckedCard

/-- THE SECOND FORM's CARD OF 'putlogtop.TopPartsConserved'. -/
def topPartsConservedUptoCard : Claim7 := { stood := { row := topPartsConservedUptoRow, standIns := [], harness := (true, "3c34a31089346d624674b483a5db051e295259c70c560db9632ddeb54a973886"), looks := false }, kinds := [], alts := [], laidByText := true, laidKinds := [.widerDeep, .widerDeep], laidTests := true, laidLooks := .later }
def TopPartsConservedUptoCardSaid : Prop := Claim7.holds Tryd.pinned (.plain (OpenSpec.upto topPartsConservedSpec)) topPartsConservedUptoCard

/-- THE SECOND FORM's CARD OF 'putlogtop.TopReleasedOnlyChecked'. -/
def topReleasedOnlyCheckedUptoCard : Claim7 := { stood := { row := topReleasedOnlyCheckedUptoRow, standIns := [], harness := (true, "3c34a31089346d624674b483a5db051e295259c70c560db9632ddeb54a973886"), looks := false }, kinds := [], alts := [], laidByText := true, laidKinds := [.widerDeep, .widerDeep], laidTests := true, laidLooks := .later }
def TopReleasedOnlyCheckedUptoCardSaid : Prop := Claim7.holds Tryd.pinned (.plain (OpenSpec.upto topReleasedOnlyCheckedSpec)) topReleasedOnlyCheckedUptoCard
end Rows
end Go.Proofs.YtjihcgcbnbaclaaDoor
