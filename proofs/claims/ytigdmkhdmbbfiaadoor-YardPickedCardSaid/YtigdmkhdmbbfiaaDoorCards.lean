/-
  DERIVED. GIVEN WITH THE SEED: THE CARDS: each row of YtigdmkhdmbbfiaaDoorRows.lean that lists a variable, with what it lists TIED to the program's text (the seventh form; the later family's looks); each row that meets fmt, with fmt's text TOLD by the authors' own Lean function (tested against real Go, not proved from fmt's source: count such statements apart). THE CARD IS WHAT COUNTS. Prove the row's statement (the work); the ties are given (YtigdmkhdmbbfiaaDoorTie.lean); close each card by the builder's one call (the guide's Derived/Test/ToyasCard.lean, 'card_holds'). Laid BY PROGRAM, IN A SANDBOX (cutbox-door.mjs). By AI agents, Wed Nov 11 2026. No macro, syntax, notation, axiom, sorry.
-/
import Derived.Test.YtigdmkhdmbbfiaaDoorRows
import GoSem.ClaimSeven
namespace Go.Proofs.YtigdmkhdmbbfiaaDoor
namespace Rows

/-- THE TIED CARD OF 'putloglaw08.YardMoves'. -/
def yardMovesCard : Claim7 := { stood := { row := yardMovesRow, standIns := [], harness := (true, "cdd119b454f30293dc17d3b460e98475e52e784d4130ba1d5e56694adfb0fdc4"), looks := false }, kinds := [], alts := [], laidByText := true, laidKinds := [.widerDeep, .widerDeep], laidTests := true, laidLooks := .later }
def YardMovesCardSaid : Prop := Claim7.holds Tryd.pinned (.plain (OpenSpec.ofChange yardMovesSpec)) yardMovesCard

/-- THE TIED CARD OF 'putloglaw08.YardRows'. -/
def yardRowsCard : Claim7 := { stood := { row := yardRowsRow, standIns := [], harness := (true, "cdd119b454f30293dc17d3b460e98475e52e784d4130ba1d5e56694adfb0fdc4"), looks := false }, kinds := [], alts := [], laidByText := true, laidKinds := [.widerDeep, .widerDeep], laidTests := true, laidLooks := .later }
def YardRowsCardSaid : Prop := Claim7.holds Tryd.pinned (.plain (OpenSpec.ofChange yardRowsSpec)) yardRowsCard

/-- THE TIED CARD OF 'putloglaw08.YardConserves'. -/
def yardConservesCard : Claim7 := { stood := { row := yardConservesRow, standIns := [], harness := (true, "cdd119b454f30293dc17d3b460e98475e52e784d4130ba1d5e56694adfb0fdc4"), looks := false }, kinds := [], alts := [], laidByText := true, laidKinds := [.widerDeep, .widerDeep], laidTests := true, laidLooks := .later }
def YardConservesCardSaid : Prop := Claim7.holds Tryd.pinned (.plain (OpenSpec.ofChange yardConservesSpec)) yardConservesCard

/-- THE TIED CARD OF 'putloglaw08.YardPicked'. -/
def yardPickedCard : Claim7 := { stood := { row := yardPickedRow, standIns := [], harness := (true, "cdd119b454f30293dc17d3b460e98475e52e784d4130ba1d5e56694adfb0fdc4"), looks := false }, kinds := [], alts := [], laidByText := true, laidKinds := [.widerDeep, .widerDeep], laidTests := true, laidLooks := .later }
def YardPickedCardSaid : Prop := Claim7.holds Tryd.pinned (.plain (OpenSpec.ofChange yardPickedSpec)) yardPickedCard

/-- THE SECOND FORM's CARD OF 'putloglaw08.YardMoves'. -/
def yardMovesUptoCard : Claim7 := { stood := { row := yardMovesUptoRow, standIns := [], harness := (true, "cdd119b454f30293dc17d3b460e98475e52e784d4130ba1d5e56694adfb0fdc4"), looks := false }, kinds := [], alts := [], laidByText := true, laidKinds := [.widerDeep, .widerDeep], laidTests := true, laidLooks := .later }
def YardMovesUptoCardSaid : Prop := Claim7.holds Tryd.pinned (.plain (OpenSpec.upto yardMovesSpec)) yardMovesUptoCard

/-- THE SECOND FORM's CARD OF 'putloglaw08.YardRows'. -/
def yardRowsUptoCard : Claim7 := { stood := { row := yardRowsUptoRow, standIns := [], harness := (true, "cdd119b454f30293dc17d3b460e98475e52e784d4130ba1d5e56694adfb0fdc4"), looks := false }, kinds := [], alts := [], laidByText := true, laidKinds := [.widerDeep, .widerDeep], laidTests := true, laidLooks := .later }
def YardRowsUptoCardSaid : Prop := Claim7.holds Tryd.pinned (.plain (OpenSpec.upto yardRowsSpec)) yardRowsUptoCard

/-- THE SECOND FORM's CARD OF 'putloglaw08.YardConserves'. -/
def yardConservesUptoCard : Claim7 := { stood := { row := yardConservesUptoRow, standIns := [], harness := (true, "cdd119b454f30293dc17d3b460e98475e52e784d4130ba1d5e56694adfb0fdc4"), looks := false }, kinds := [], alts := [], laidByText := true, laidKinds := [.widerDeep, .widerDeep], laidTests := true, laidLooks := .later }
def YardConservesUptoCardSaid : Prop := Claim7.holds Tryd.pinned (.plain (OpenSpec.upto yardConservesSpec)) yardConservesUptoCard

/-- THE SECOND FORM's CARD OF 'putloglaw08.YardPicked'. -/
def yardPickedUptoCard : Claim7 := { stood := { row := yardPickedUptoRow, standIns := [], harness := (true, "cdd119b454f30293dc17d3b460e98475e52e784d4130ba1d5e56694adfb0fdc4"), looks := false }, kinds := [], alts := [], laidByText := true, laidKinds := [.widerDeep, .widerDeep], laidTests := true, laidLooks := .later }
def YardPickedUptoCardSaid : Prop := Claim7.holds Tryd.pinned (.plain (OpenSpec.upto yardPickedSpec)) yardPickedUptoCard
end Rows
end Go.Proofs.YtigdmkhdmbbfiaaDoor
