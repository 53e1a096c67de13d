/-
  NARROWER THAN 'FOR EVERY INPUT', by the rows' own cells (each row's printed sentence says how): YardMoves: laid · YardRows: laid · YardConserves: laid · YardPicked: laid.
  DERIVED. THE GIVEN ROWS OF THIS SEAT. 4 by the template 'for every input the law returns true; each argument reads behind the call as it read before'; 0 by the template 'total and deterministic' (their statements: YtigdmkhdmbbfiaaDoorTotals.lean).
  GIVEN WITH THE SEED: the statements are not yours to turn. If you find one false, say at which input.
  Laid BY PROGRAM, IN A SANDBOX (cutbox-rows.mjs): the forced cells as the released guide's own fill.sh prints them over the translation 53718d912effd00d… (all of the seat's roots in one cut). By AI agents, Wed Nov 11 2026. No macro, syntax, notation, axiom, sorry.
-/
import Derived.Test.YtigdmkhdmbbfiaaDoorChecked
import GoSem.Claim
import GoSem.ClaimJoined
import GoSem.ClaimMapViews
import Derived.JoinedTies
import Derived.KernelRfl
namespace Go.Proofs.YtigdmkhdmbbfiaaDoor
/- THE CELL 'sum', in the pinned program and in every row, IS THE sha256 OF THE DUMP (.gsa) THAT YtigdmkhdmbbfiaaDoorProg.lean LOADS. Nothing in Lean hashes anything: it is a label: what it is worth is what the hold of that sum in a sandbox is worth. -/
noncomputable def Tryd.pinned : Pinned := { name := "ytigdmkhdmbbfiaadoor", sum := "53718d912effd00d4864dfe807c49af0a9c9a1171305b6da111cd3202236abbd", checked := Tryd.checked }
namespace Rows
def none {H : Type} : Left H := { results := [], args := [] }

/- WHAT THE LISTED PACKAGE-LEVEL VARIABLES READ AS WHEN THE CALL BEGINS. Each datum BY PROGRAM (the guide's laid-datum.mjs) off the statement by which the dump's own 'gosem.cut.vars' lays the variable. In a bare row this is a premise. The card (YtigdmkhdmbbfiaaDoorCards.lean) ties it to the program's text. -/
def laid_putlog_yard_changes {H : Type} : DataW H := .slice [.agg [.lit (.int .i64 0), .lit (.int .i64 1)], .agg [.lit (.int .i64 0), .lit (.int .i64 3)], .agg [.lit (.int .i64 1), .lit (.int .i64 3)]] []
def laid_putlog_yard_repairs {H : Type} : DataW H := .slice [.agg [.lit (.int .i64 1), .lit (.int .i64 2)], .agg [.lit (.int .i64 2), .lit (.int .i64 0)], .agg [.lit (.int .i64 2), .lit (.int .i64 1)], .agg [.lit (.int .i64 3), .lit (.int .i64 0)], .agg [.lit (.int .i64 3), .lit (.int .i64 1)]] []

/-- 'putloglaw08.YardMoves': WHATEVER THE INPUT: true; the input reads as it did. -/
def yardMovesSpec : ChangeSpec := { name := "yardMoves", fn := fun _ => fun
  | [d1, d2] => { results := [.lit (.bool true)], args := [d1, d2] }
  | _ => none }
def yardMovesRow : OpenClaim := { program := "ytigdmkhdmbbfiaadoor", sum := "53718d912effd00d4864dfe807c49af0a9c9a1171305b6da111cd3202236abbd", func := "putlog/putloglaw08.YardMoves", spec := "yardMoves", inPlace := ["internal/bytealg.abigen_runtime_cmpstring"], unfollowed := true, recurses := true, named := ["putlog/yard.changes", "putlog/yard.repairs"], plainKeys := false, apart := false, laid := [("putlog/yard.changes", laid_putlog_yard_changes), ("putlog/yard.repairs", laid_putlog_yard_repairs)] }
def YardMovesSaid : Prop := yardMovesRow.holds Tryd.pinned (OpenSpec.ofChange yardMovesSpec)

/-- ITS FALSE NEIGHBOUR: 'it returns false'. Refute it at one input. -/
def yardMovesWrong : ChangeSpec := { name := "yardMoves", fn := fun _ => fun
  | [d1, d2] => { results := [.lit (.bool false)], args := [d1, d2] }
  | _ => none }
def YardMovesWrongFalsely : Prop := yardMovesRow.holds Tryd.pinned (OpenSpec.ofChange yardMovesWrong)

/-- 'putloglaw08.YardRows': WHATEVER THE INPUT: true; the input reads as it did. -/
def yardRowsSpec : ChangeSpec := { name := "yardRows", fn := fun _ => fun
  | [d1, d2] => { results := [.lit (.bool true)], args := [d1, d2] }
  | _ => none }
def yardRowsRow : OpenClaim := { program := "ytigdmkhdmbbfiaadoor", sum := "53718d912effd00d4864dfe807c49af0a9c9a1171305b6da111cd3202236abbd", func := "putlog/putloglaw08.YardRows", spec := "yardRows", inPlace := ["internal/bytealg.abigen_runtime_cmpstring"], unfollowed := true, recurses := true, named := ["putlog/yard.changes", "putlog/yard.repairs"], plainKeys := false, apart := false, laid := [("putlog/yard.changes", laid_putlog_yard_changes), ("putlog/yard.repairs", laid_putlog_yard_repairs)] }
def YardRowsSaid : Prop := yardRowsRow.holds Tryd.pinned (OpenSpec.ofChange yardRowsSpec)

/-- ITS FALSE NEIGHBOUR: 'it returns false'. Refute it at one input. -/
def yardRowsWrong : ChangeSpec := { name := "yardRows", fn := fun _ => fun
  | [d1, d2] => { results := [.lit (.bool false)], args := [d1, d2] }
  | _ => none }
def YardRowsWrongFalsely : Prop := yardRowsRow.holds Tryd.pinned (OpenSpec.ofChange yardRowsWrong)

/-- 'putloglaw08.YardConserves': WHATEVER THE INPUT: true; the input reads as it did. -/
def yardConservesSpec : ChangeSpec := { name := "yardConserves", fn := fun _ => fun
  | [d1, d2, d3] => { results := [.lit (.bool true)], args := [d1, d2, d3] }
  | _ => none }
def yardConservesRow : OpenClaim := { program := "ytigdmkhdmbbfiaadoor", sum := "53718d912effd00d4864dfe807c49af0a9c9a1171305b6da111cd3202236abbd", func := "putlog/putloglaw08.YardConserves", spec := "yardConserves", inPlace := ["internal/bytealg.abigen_runtime_cmpstring"], unfollowed := true, recurses := true, named := ["putlog/yard.changes", "putlog/yard.repairs"], plainKeys := false, apart := false, laid := [("putlog/yard.changes", laid_putlog_yard_changes), ("putlog/yard.repairs", laid_putlog_yard_repairs)] }
def YardConservesSaid : Prop := yardConservesRow.holds Tryd.pinned (OpenSpec.ofChange yardConservesSpec)

/-- ITS FALSE NEIGHBOUR: 'it returns false'. Refute it at one input. -/
def yardConservesWrong : ChangeSpec := { name := "yardConserves", fn := fun _ => fun
  | [d1, d2, d3] => { results := [.lit (.bool false)], args := [d1, d2, d3] }
  | _ => none }
def YardConservesWrongFalsely : Prop := yardConservesRow.holds Tryd.pinned (OpenSpec.ofChange yardConservesWrong)

/-- 'putloglaw08.YardPicked': WHATEVER THE INPUT: true; the input reads as it did. -/
def yardPickedSpec : ChangeSpec := { name := "yardPicked", fn := fun _ => fun
  | [d1, d2, d3] => { results := [.lit (.bool true)], args := [d1, d2, d3] }
  | _ => none }
def yardPickedRow : OpenClaim := { program := "ytigdmkhdmbbfiaadoor", sum := "53718d912effd00d4864dfe807c49af0a9c9a1171305b6da111cd3202236abbd", func := "putlog/putloglaw08.YardPicked", spec := "yardPicked", inPlace := ["internal/bytealg.abigen_runtime_cmpstring"], unfollowed := true, recurses := true, named := ["putlog/yard.changes", "putlog/yard.repairs"], plainKeys := false, apart := false, laid := [("putlog/yard.changes", laid_putlog_yard_changes), ("putlog/yard.repairs", laid_putlog_yard_repairs)] }
def YardPickedSaid : Prop := yardPickedRow.holds Tryd.pinned (OpenSpec.ofChange yardPickedSpec)

/-- ITS FALSE NEIGHBOUR: 'it returns false'. Refute it at one input. -/
def yardPickedWrong : ChangeSpec := { name := "yardPicked", fn := fun _ => fun
  | [d1, d2, d3] => { results := [.lit (.bool false)], args := [d1, d2, d3] }
  | _ => none }
def YardPickedWrongFalsely : Prop := yardPickedRow.holds Tryd.pinned (OpenSpec.ofChange yardPickedWrong)

/- THE SECOND FORM. 'bulk': how many values and letters a reading holds, each counted each time it is reached (what is shared counts as often as it is met; a slice's spare places count too). A statement '..UptoSaid' is the law's where the arguments, and the package variables that the reading takes, are together of bulk at most 1048576: NARROWER than '..Said'. Prove '..Said' where nothing that the law and all that it calls make is longer than what came in: it says more and counts as full. Else prove '..UptoSaid'. A law counts once. -/
mutual
def uptoBulk {H : Type} : DataW H → Nat
  | .lit (.string bytes) => bytes.length + 1
  | .lit _ => 1
  | .nil => 1
  | .ptr d => uptoBulk d + 1
  | .slice elems spare => uptoBulkAll elems + uptoBulkAll spare + 1
  | .agg parts => uptoBulkAll parts + 1
  | .iface _ d => uptoBulk d + 1
  | .map entries => uptoBulkEntries entries + 1
  | .held _ => 1
def uptoBulkAll {H : Type} : List (DataW H) → Nat
  | [] => 0
  | d :: r => uptoBulk d + uptoBulkAll r
def uptoBulkEntries {H : Type} : List (Lit × DataW H) → Nat
  | [] => 0
  | x :: r => uptoBulkEntry x + uptoBulkEntries r
def uptoBulkEntry {H : Type} : Lit × DataW H → Nat
  | (.string bytes, d) => bytes.length + uptoBulk d + 1
  | (_, d) => uptoBulk d + 1
 end
def uptoSmall : (H : Type) → List (DataW H) → Bool := fun _ ds => decide (uptoBulkAll ds ≤ 1048576)
def OpenSpec.upto (s : _root_.Go.ChangeSpec) : _root_.Go.OpenSpec := { _root_.Go.OpenSpec.ofChange s with cond := some uptoSmall }

/-- 'putloglaw08.YardMoves', WHERE WHAT IT READS IS OF BULK AT MOST 1048576: true; the input reads as it did. -/
def yardMovesUptoRow : OpenClaim := { program := "ytigdmkhdmbbfiaadoor", sum := "53718d912effd00d4864dfe807c49af0a9c9a1171305b6da111cd3202236abbd", func := "putlog/putloglaw08.YardMoves", spec := "yardMoves", inPlace := ["internal/bytealg.abigen_runtime_cmpstring"], unfollowed := true, recurses := true, named := ["putlog/yard.changes", "putlog/yard.repairs"], plainKeys := false, apart := false, laid := [("putlog/yard.changes", laid_putlog_yard_changes), ("putlog/yard.repairs", laid_putlog_yard_repairs)], narrowed := true }
def YardMovesUptoSaid : Prop := yardMovesUptoRow.holds Tryd.pinned (OpenSpec.upto yardMovesSpec)

/-- 'putloglaw08.YardRows', WHERE WHAT IT READS IS OF BULK AT MOST 1048576: true; the input reads as it did. -/
def yardRowsUptoRow : OpenClaim := { program := "ytigdmkhdmbbfiaadoor", sum := "53718d912effd00d4864dfe807c49af0a9c9a1171305b6da111cd3202236abbd", func := "putlog/putloglaw08.YardRows", spec := "yardRows", inPlace := ["internal/bytealg.abigen_runtime_cmpstring"], unfollowed := true, recurses := true, named := ["putlog/yard.changes", "putlog/yard.repairs"], plainKeys := false, apart := false, laid := [("putlog/yard.changes", laid_putlog_yard_changes), ("putlog/yard.repairs", laid_putlog_yard_repairs)], narrowed := true }
def YardRowsUptoSaid : Prop := yardRowsUptoRow.holds Tryd.pinned (OpenSpec.upto yardRowsSpec)

/-- 'putloglaw08.YardConserves', WHERE WHAT IT READS IS OF BULK AT MOST 1048576: true; the input reads as it did. -/
def yardConservesUptoRow : OpenClaim := { program := "ytigdmkhdmbbfiaadoor", sum := "53718d912effd00d4864dfe807c49af0a9c9a1171305b6da111cd3202236abbd", func := "putlog/putloglaw08.YardConserves", spec := "yardConserves", inPlace := ["internal/bytealg.abigen_runtime_cmpstring"], unfollowed := true, recurses := true, named := ["putlog/yard.changes", "putlog/yard.repairs"], plainKeys := false, apart := false, laid := [("putlog/yard.changes", laid_putlog_yard_changes), ("putlog/yard.repairs", laid_putlog_yard_repairs)], narrowed := true }
def YardConservesUptoSaid : Prop := yardConservesUptoRow.holds Tryd.pinned (OpenSpec.upto yardConservesSpec)

/-- 'putloglaw08.YardPicked', WHERE WHAT IT READS IS OF BULK AT MOST 1048576: true; the input reads as it did. -/
def yardPickedUptoRow : OpenClaim := { program := "ytigdmkhdmbbfiaadoor", sum := "53718d912effd00d4864dfe807c49af0a9c9a1171305b6da111cd3202236abbd", func := "putlog/putloglaw08.YardPicked", spec := "yardPicked", inPlace := ["internal/bytealg.abigen_runtime_cmpstring"], unfollowed := true, recurses := true, named := ["putlog/yard.changes", "putlog/yard.repairs"], plainKeys := false, apart := false, laid := [("putlog/yard.changes", laid_putlog_yard_changes), ("putlog/yard.repairs", laid_putlog_yard_repairs)], narrowed := true }
def YardPickedUptoSaid : Prop := yardPickedUptoRow.holds Tryd.pinned (OpenSpec.upto yardPickedSpec)

end Rows
end Go.Proofs.YtigdmkhdmbbfiaaDoor
