/-
  NARROWER THAN 'FOR EVERY INPUT', by the rows' own cells (each row's printed sentence says how): TopPartsConserved: laid · TopReleasedOnlyChecked: laid.
  DERIVED. THE GIVEN ROWS OF THIS SEAT. 2 by the template 'for every input the law returns true; each argument reads behind the call as it read before'; 0 by the template 'total and deterministic' (their statements: YtjihcgcbnbaclaaDoorTotals.lean).
  GIVEN WITH THE SEED: the statements are not yours to turn. If you find one false, say at which input.
  Laid BY PROGRAM, IN A SANDBOX (cutbox-rows.mjs): the forced cells as the released guide's own fill.sh prints them over the translation e1037ecc50e026cd… (all of the seat's roots in one cut). By AI agents, Wed Nov 11 2026. No macro, syntax, notation, axiom, sorry.
-/
import Derived.Test.YtjihcgcbnbaclaaDoorChecked
import GoSem.Claim
import GoSem.ClaimJoined
import GoSem.ClaimMapViews
import Derived.JoinedTies
import Derived.KernelRfl
namespace Go.Proofs.YtjihcgcbnbaclaaDoor
/- THE CELL 'sum', in the pinned program and in every row, IS THE sha256 OF THE DUMP (.gsa) THAT YtjihcgcbnbaclaaDoorProg.lean LOADS. Nothing in Lean hashes anything: it is a label: what it is worth is what the hold of that sum in a sandbox is worth. -/
noncomputable def Tryd.pinned : Pinned := { name := "ytjihcgcbnbaclaadoor", sum := "e1037ecc50e026cd52637a1ca456b4b9478d7b286abbd54886cfcfe5b8b95d52", checked := Tryd.checked }
namespace Rows
def none {H : Type} : Left H := { results := [], args := [] }

/- WHAT THE LISTED PACKAGE-LEVEL VARIABLES READ AS WHEN THE CALL BEGINS. Each datum BY PROGRAM (the guide's laid-datum.mjs) off the statement by which the dump's own 'gosem.cut.vars' lays the variable. In a bare row this is a premise. The card (YtjihcgcbnbaclaaDoorCards.lean) ties it to the program's text. -/
def laid_putlog_yard_changes {H : Type} : DataW H := .slice [.agg [.lit (.int .i64 0), .lit (.int .i64 1)], .agg [.lit (.int .i64 0), .lit (.int .i64 3)], .agg [.lit (.int .i64 1), .lit (.int .i64 3)]] []
def laid_putlog_yard_repairs {H : Type} : DataW H := .slice [.agg [.lit (.int .i64 1), .lit (.int .i64 2)], .agg [.lit (.int .i64 2), .lit (.int .i64 0)], .agg [.lit (.int .i64 2), .lit (.int .i64 1)], .agg [.lit (.int .i64 3), .lit (.int .i64 0)], .agg [.lit (.int .i64 3), .lit (.int .i64 1)]] []

/-- 'putlogtop.TopPartsConserved': WHATEVER THE INPUT: true; the input reads as it did. -/
def topPartsConservedSpec : ChangeSpec := { name := "topPartsConserved", fn := fun _ => fun
  | [d] => { results := [.lit (.bool true)], args := [d] }
  | _ => none }
def topPartsConservedRow : OpenClaim := { program := "ytjihcgcbnbaclaadoor", sum := "e1037ecc50e026cd52637a1ca456b4b9478d7b286abbd54886cfcfe5b8b95d52", func := "putlog/putlogtop.TopPartsConserved", spec := "topPartsConserved", inPlace := ["internal/bytealg.abigen_runtime_cmpstring"], unfollowed := true, recurses := true, named := ["putlog/yard.changes", "putlog/yard.repairs"], plainKeys := false, apart := false, laid := [("putlog/yard.changes", laid_putlog_yard_changes), ("putlog/yard.repairs", laid_putlog_yard_repairs)] }
def TopPartsConservedSaid : Prop := topPartsConservedRow.holds Tryd.pinned (OpenSpec.ofChange topPartsConservedSpec)

/-- ITS FALSE NEIGHBOUR: 'it returns false'. Refute it at one input. -/
def topPartsConservedWrong : ChangeSpec := { name := "topPartsConserved", fn := fun _ => fun
  | [d] => { results := [.lit (.bool false)], args := [d] }
  | _ => none }
def TopPartsConservedWrongFalsely : Prop := topPartsConservedRow.holds Tryd.pinned (OpenSpec.ofChange topPartsConservedWrong)

/-- 'putlogtop.TopReleasedOnlyChecked': WHATEVER THE INPUT: true; the input reads as it did. -/
def topReleasedOnlyCheckedSpec : ChangeSpec := { name := "topReleasedOnlyChecked", fn := fun _ => fun
  | [d1, d2, d3] => { results := [.lit (.bool true)], args := [d1, d2, d3] }
  | _ => none }
def topReleasedOnlyCheckedRow : OpenClaim := { program := "ytjihcgcbnbaclaadoor", sum := "e1037ecc50e026cd52637a1ca456b4b9478d7b286abbd54886cfcfe5b8b95d52", func := "putlog/putlogtop.TopReleasedOnlyChecked", spec := "topReleasedOnlyChecked", inPlace := ["internal/bytealg.abigen_runtime_cmpstring"], unfollowed := true, recurses := true, named := ["putlog/yard.changes", "putlog/yard.repairs"], plainKeys := false, apart := false, laid := [("putlog/yard.changes", laid_putlog_yard_changes), ("putlog/yard.repairs", laid_putlog_yard_repairs)] }
def TopReleasedOnlyCheckedSaid : Prop := topReleasedOnlyCheckedRow.holds Tryd.pinned (OpenSpec.ofChange topReleasedOnlyCheckedSpec)

/-- ITS FALSE NEIGHBOUR: 'it returns false'. Refute it at one input. -/
def topReleasedOnlyCheckedWrong : ChangeSpec := { name := "topReleasedOnlyChecked", fn := fun _ => fun
  | [d1, d2, d3] => { results := [.lit (.bool false)], args := [d1, d2, d3] }
  | _ => none }
def TopReleasedOnlyCheckedWrongFalsely : Prop := topReleasedOnlyCheckedRow.holds Tryd.pinned (OpenSpec.ofChange topReleasedOnlyCheckedWrong)

/- THE SECOND FORM. 'bulk': how many values and letters a reading holds, each counted each time it is reached (what is shared counts as often as it is met; a slice's spare places count too). A statement '..UptoSaid' is the law's where the arguments, and the package variables that the reading takes, are together of bulk at most 1048576: NARROWER than '..Said'. Prove '..Said' where nothing that the law and all that it calls make is longer than what came in: it says more and counts as full. Else prove '..UptoSaid'. A law counts once. -/
mutual
def uptoBulk {H : Type} : DataW H → Nat
  | .lit (.string bytes) => bytes.length + 1
  | .lit _ => 1
  | .nil => 1
  | .ptr d => uptoBulk d + 1
  | .slice elems spare => uptoBulkAll elems + uptoBulkAll spare + 1
  | .agg parts => uptoBulkAll parts + 1
  | .iface _ d => uptoBulk d + 1
  | .map entries => uptoBulkEntries entries + 1
  | .held _ => 1
def uptoBulkAll {H : Type} : List (DataW H) → Nat
  | [] => 0
  | d :: r => uptoBulk d + uptoBulkAll r
def uptoBulkEntries {H : Type} : List (Lit × DataW H) → Nat
  | [] => 0
  | x :: r => uptoBulkEntry x + uptoBulkEntries r
def uptoBulkEntry {H : Type} : Lit × DataW H → Nat
  | (.string bytes, d) => bytes.length + uptoBulk d + 1
  | (_, d) => uptoBulk d + 1
 end
def uptoSmall : (H : Type) → List (DataW H) → Bool := fun _ ds => decide (uptoBulkAll ds ≤ 1048576)
def OpenSpec.upto (s : _root_.Go.ChangeSpec) : _root_.Go.OpenSpec := { _root_.Go.OpenSpec.ofChange s with cond := some uptoSmall }

/-- 'putlogtop.TopPartsConserved', WHERE WHAT IT READS IS OF BULK AT MOST 1048576: true; the input reads as it did. -/
def topPartsConservedUptoRow : OpenClaim := { program := "ytjihcgcbnbaclaadoor", sum := "e1037ecc50e026cd52637a1ca456b4b9478d7b286abbd54886cfcfe5b8b95d52", func := "putlog/putlogtop.TopPartsConserved", spec := "topPartsConserved", inPlace := ["internal/bytealg.abigen_runtime_cmpstring"], unfollowed := true, recurses := true, named := ["putlog/yard.changes", "putlog/yard.repairs"], plainKeys := false, apart := false, laid := [("putlog/yard.changes", laid_putlog_yard_changes), ("putlog/yard.repairs", laid_putlog_yard_repairs)], narrowed := true }
def TopPartsConservedUptoSaid : Prop := topPartsConservedUptoRow.holds Tryd.pinned (OpenSpec.upto topPartsConservedSpec)

/-- 'putlogtop.TopReleasedOnlyChecked', WHERE WHAT IT READS IS OF BULK AT MOST 1048576: true; the input reads as it did. -/
def topReleasedOnlyCheckedUptoRow : OpenClaim := { program := "ytjihcgcbnbaclaadoor", sum := "e1037ecc50e026cd52637a1ca456b4b9478d7b286abbd54886cfcfe5b8b95d52", func := "putlog/putlogtop.TopReleasedOnlyChecked", spec := "topReleasedOnlyChecked", inPlace := ["internal/bytealg.abigen_runtime_cmpstring"], unfollowed := true, recurses := true, named := ["putlog/yard.changes", "putlog/yard.repairs"], plainKeys := false, apart := false, laid := [("putlog/yard.changes", laid_putlog_yard_changes), ("putlog/yard.repairs", laid_putlog_yard_repairs)], narrowed := true }
def TopReleasedOnlyCheckedUptoSaid : Prop := topReleasedOnlyCheckedUptoRow.holds Tryd.pinned (OpenSpec.upto topReleasedOnlyCheckedSpec)

end Rows
end Go.Proofs.YtjihcgcbnbaclaaDoor
