/-
  DERIVED. GIVEN WITH THE SEED: THE CARDS: each row of YtnbcmoaofmkjhaaGreatDoorRows.lean that lists a variable, with what it lists TIED to the program's text (the seventh form; the later family's looks); each row that meets fmt, with fmt's text TOLD by the authors' own Lean function (tested against real Go, not proved from fmt's source: count such statements apart). THE CARD IS WHAT COUNTS. Prove the row's statement (the work); the ties are given (YtnbcmoaofmkjhaaGreatDoorTie.lean); close each card by the builder's one call (the guide's Derived/Test/ToyasCard.lean, 'card_holds'). Laid BY PROGRAM, IN A SANDBOX (cutbox-door.mjs). By AI agents, Wed Nov 11 2026. No macro, syntax, notation, axiom, sorry.
-/
import Derived.Test.YtnbcmoaofmkjhaaGreatDoorRows
import GoSem.ClaimSeven
namespace Go.Proofs.YtnbcmoaofmkjhaaGreatDoor
namespace Rows

/-- THE TIED CARD OF 'putloglaw07.ErectionScaffolds'. -/
def erectionScaffoldsCard : Claim7 := { stood := { row := erectionScaffoldsRow, standIns := [], harness := (true, "20b49f3d8925777694365d5ae3c651f1a91c56cc02fc5c710fac7eec50368d41"), looks := false }, kinds := [], alts := [], laidByText := true, laidKinds := [.data, .data, .data], laidTests := true, laidLooks := .later }
def ErectionScaffoldsCardSaid : Prop := Claim7.holds Tryz.pinned (.plain (OpenSpec.ofChange erectionScaffoldsSpec)) erectionScaffoldsCard

/-- THE TIED CARD OF 'putloglaw07.ErectionLoose'. -/
def erectionLooseCard : Claim7 := { stood := { row := erectionLooseRow, standIns := [], harness := (true, "20b49f3d8925777694365d5ae3c651f1a91c56cc02fc5c710fac7eec50368d41"), looks := false }, kinds := [], alts := [], laidByText := true, laidKinds := [.data, .data, .data], laidTests := true, laidLooks := .later }
def ErectionLooseCardSaid : Prop := Claim7.holds Tryz.pinned (.plain (OpenSpec.ofChange erectionLooseSpec)) erectionLooseCard

/-- THE SECOND FORM's CARD OF 'putloglaw07.ErectionScaffolds'. -/
def erectionScaffoldsUptoCard : Claim7 := { stood := { row := erectionScaffoldsUptoRow, standIns := [], harness := (true, "20b49f3d8925777694365d5ae3c651f1a91c56cc02fc5c710fac7eec50368d41"), looks := false }, kinds := [], alts := [], laidByText := true, laidKinds := [.data, .data, .data], laidTests := true, laidLooks := .later }
def ErectionScaffoldsUptoCardSaid : Prop := Claim7.holds Tryz.pinned (.plain (OpenSpec.upto erectionScaffoldsSpec)) erectionScaffoldsUptoCard

/-- THE SECOND FORM's CARD OF 'putloglaw07.ErectionLoose'. -/
def erectionLooseUptoCard : Claim7 := { stood := { row := erectionLooseUptoRow, standIns := [], harness := (true, "20b49f3d8925777694365d5ae3c651f1a91c56cc02fc5c710fac7eec50368d41"), looks := false }, kinds := [], alts := [], laidByText := true, laidKinds := [.data, .data, .data], laidTests := true, laidLooks := .later }
def ErectionLooseUptoCardSaid : Prop := Claim7.holds Tryz.pinned (.plain (OpenSpec.upto erectionLooseSpec)) erectionLooseUptoCard
end Rows
end Go.Proofs.YtnbcmoaofmkjhaaGreatDoor
