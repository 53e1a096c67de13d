/-
  NARROWER THAN 'FOR EVERY INPUT', by the rows' own cells (each row's printed sentence says how): TopTwoAccounts: laid · TopAccountsReconcile: laid.
  DERIVED. THE GIVEN ROWS OF THIS SEAT. 2 by the template 'for every input the law returns true; each argument reads behind the call as it read before'; 0 by the template 'total and deterministic' (their statements: YtjihcgcbnbaclaaGreatDoorTotals.lean).
  GIVEN WITH THE SEED: the statements are not yours to turn. If you find one false, say at which input.
  Laid BY PROGRAM, IN A SANDBOX (cutbox-rows.mjs): the forced cells as the released guide's own fill.sh prints them over the translation 248e9456788571c9… (all of the seat's roots in one cut). By AI agents, Wed Nov 11 2026. No macro, syntax, notation, axiom, sorry.
-/
import Derived.Test.YtjihcgcbnbaclaaGreatDoorChecked
import GoSem.Claim
import GoSem.ClaimJoined
import GoSem.ClaimMapViews
import Derived.JoinedTies
import Derived.KernelRfl
namespace Go.Proofs.YtjihcgcbnbaclaaGreatDoor
/- THE CELL 'sum', in the pinned program and in every row, IS THE sha256 OF THE DUMP (.gsa) THAT YtjihcgcbnbaclaaGreatDoorProg.lean LOADS. Nothing in Lean hashes anything: it is a label: what it is worth is what the hold of that sum in a sandbox is worth. -/
noncomputable def Tryz.pinned : Pinned := { name := "ytjihcgcbnbaclaagreatdoor", sum := "248e9456788571c98f3c4e73e5f98db798a8c7aa8eec3f4c31b0aca2b68aec3d", checked := Tryz.checked }
namespace Rows
def none {H : Type} : Left H := { results := [], args := [] }

/- WHAT THE LISTED PACKAGE-LEVEL VARIABLES READ AS WHEN THE CALL BEGINS. Each datum BY PROGRAM (the guide's laid-datum.mjs) off the statement by which the dump's own 'gosem.cut.vars' lays the variable. In a bare row this is a premise. The card (YtjihcgcbnbaclaaGreatDoorCards.lean) ties it to the program's text. -/
def laid_putlog_yard_changes {H : Type} : DataW H := .slice [.agg [.lit (.int .i64 0), .lit (.int .i64 1)], .agg [.lit (.int .i64 0), .lit (.int .i64 3)], .agg [.lit (.int .i64 1), .lit (.int .i64 3)]] []
def laid_putlog_yard_repairs {H : Type} : DataW H := .slice [.agg [.lit (.int .i64 1), .lit (.int .i64 2)], .agg [.lit (.int .i64 2), .lit (.int .i64 0)], .agg [.lit (.int .i64 2), .lit (.int .i64 1)], .agg [.lit (.int .i64 3), .lit (.int .i64 0)], .agg [.lit (.int .i64 3), .lit (.int .i64 1)]] []

/-- 'putlogtop.TopTwoAccounts': WHATEVER THE INPUT: true; the input reads as it did. -/
def topTwoAccountsSpec : ChangeSpec := { name := "topTwoAccounts", fn := fun _ => fun
  | [d] => { results := [.lit (.bool true)], args := [d] }
  | _ => none }
def topTwoAccountsRow : OpenClaim := { program := "ytjihcgcbnbaclaagreatdoor", sum := "248e9456788571c98f3c4e73e5f98db798a8c7aa8eec3f4c31b0aca2b68aec3d", func := "putlog/putlogtop.TopTwoAccounts", spec := "topTwoAccounts", inPlace := ["internal/bytealg.abigen_runtime_cmpstring"], unfollowed := true, recurses := true, named := ["putlog/yard.changes", "putlog/yard.repairs"], plainKeys := false, apart := false, laid := [("putlog/yard.changes", laid_putlog_yard_changes), ("putlog/yard.repairs", laid_putlog_yard_repairs)] }
def TopTwoAccountsSaid : Prop := topTwoAccountsRow.holds Tryz.pinned (OpenSpec.ofChange topTwoAccountsSpec)

/-- ITS FALSE NEIGHBOUR: 'it returns false'. Refute it at one input. -/
def topTwoAccountsWrong : ChangeSpec := { name := "topTwoAccounts", fn := fun _ => fun
  | [d] => { results := [.lit (.bool false)], args := [d] }
  | _ => none }
def TopTwoAccountsWrongFalsely : Prop := topTwoAccountsRow.holds Tryz.pinned (OpenSpec.ofChange topTwoAccountsWrong)

/-- 'putlogtop.TopAccountsReconcile': WHATEVER THE INPUT: true; the input reads as it did. -/
def topAccountsReconcileSpec : ChangeSpec := { name := "topAccountsReconcile", fn := fun _ => fun
  | [d1, d2] => { results := [.lit (.bool true)], args := [d1, d2] }
  | _ => none }
def topAccountsReconcileRow : OpenClaim := { program := "ytjihcgcbnbaclaagreatdoor", sum := "248e9456788571c98f3c4e73e5f98db798a8c7aa8eec3f4c31b0aca2b68aec3d", func := "putlog/putlogtop.TopAccountsReconcile", spec := "topAccountsReconcile", inPlace := ["internal/bytealg.abigen_runtime_cmpstring"], unfollowed := true, recurses := true, named := ["putlog/yard.changes", "putlog/yard.repairs"], plainKeys := false, apart := false, laid := [("putlog/yard.changes", laid_putlog_yard_changes), ("putlog/yard.repairs", laid_putlog_yard_repairs)] }
def TopAccountsReconcileSaid : Prop := topAccountsReconcileRow.holds Tryz.pinned (OpenSpec.ofChange topAccountsReconcileSpec)

/-- ITS FALSE NEIGHBOUR: 'it returns false'. Refute it at one input. -/
def topAccountsReconcileWrong : ChangeSpec := { name := "topAccountsReconcile", fn := fun _ => fun
  | [d1, d2] => { results := [.lit (.bool false)], args := [d1, d2] }
  | _ => none }
def TopAccountsReconcileWrongFalsely : Prop := topAccountsReconcileRow.holds Tryz.pinned (OpenSpec.ofChange topAccountsReconcileWrong)

/- THE SECOND FORM. 'bulk': how many values and letters a reading holds, each counted each time it is reached (what is shared counts as often as it is met; a slice's spare places count too). A statement '..UptoSaid' is the law's where the arguments, and the package variables that the reading takes, are together of bulk at most 1048576: NARROWER than '..Said'. Prove '..Said' where nothing that the law and all that it calls make is longer than what came in: it says more and counts as full. Else prove '..UptoSaid'. A law counts once. -/
mutual
def uptoBulk {H : Type} : DataW H → Nat
  | .lit (.string bytes) => bytes.length + 1
  | .lit _ => 1
  | .nil => 1
  | .ptr d => uptoBulk d + 1
  | .slice elems spare => uptoBulkAll elems + uptoBulkAll spare + 1
  | .agg parts => uptoBulkAll parts + 1
  | .iface _ d => uptoBulk d + 1
  | .map entries => uptoBulkEntries entries + 1
  | .held _ => 1
def uptoBulkAll {H : Type} : List (DataW H) → Nat
  | [] => 0
  | d :: r => uptoBulk d + uptoBulkAll r
def uptoBulkEntries {H : Type} : List (Lit × DataW H) → Nat
  | [] => 0
  | x :: r => uptoBulkEntry x + uptoBulkEntries r
def uptoBulkEntry {H : Type} : Lit × DataW H → Nat
  | (.string bytes, d) => bytes.length + uptoBulk d + 1
  | (_, d) => uptoBulk d + 1
 end
def uptoSmall : (H : Type) → List (DataW H) → Bool := fun _ ds => decide (uptoBulkAll ds ≤ 1048576)
def OpenSpec.upto (s : _root_.Go.ChangeSpec) : _root_.Go.OpenSpec := { _root_.Go.OpenSpec.ofChange s with cond := some uptoSmall }

/-- 'putlogtop.TopTwoAccounts', WHERE WHAT IT READS IS OF BULK AT MOST 1048576: true; the input reads as it did. -/
def topTwoAccountsUptoRow : OpenClaim := { program := "ytjihcgcbnbaclaagreatdoor", sum := "248e9456788571c98f3c4e73e5f98db798a8c7aa8eec3f4c31b0aca2b68aec3d", func := "putlog/putlogtop.TopTwoAccounts", spec := "topTwoAccounts", inPlace := ["internal/bytealg.abigen_runtime_cmpstring"], unfollowed := true, recurses := true, named := ["putlog/yard.changes", "putlog/yard.repairs"], plainKeys := false, apart := false, laid := [("putlog/yard.changes", laid_putlog_yard_changes), ("putlog/yard.repairs", laid_putlog_yard_repairs)], narrowed := true }
def TopTwoAccountsUptoSaid : Prop := topTwoAccountsUptoRow.holds Tryz.pinned (OpenSpec.upto topTwoAccountsSpec)

/-- 'putlogtop.TopAccountsReconcile', WHERE WHAT IT READS IS OF BULK AT MOST 1048576: true; the input reads as it did. -/
def topAccountsReconcileUptoRow : OpenClaim := { program := "ytjihcgcbnbaclaagreatdoor", sum := "248e9456788571c98f3c4e73e5f98db798a8c7aa8eec3f4c31b0aca2b68aec3d", func := "putlog/putlogtop.TopAccountsReconcile", spec := "topAccountsReconcile", inPlace := ["internal/bytealg.abigen_runtime_cmpstring"], unfollowed := true, recurses := true, named := ["putlog/yard.changes", "putlog/yard.repairs"], plainKeys := false, apart := false, laid := [("putlog/yard.changes", laid_putlog_yard_changes), ("putlog/yard.repairs", laid_putlog_yard_repairs)], narrowed := true }
def TopAccountsReconcileUptoSaid : Prop := topAccountsReconcileUptoRow.holds Tryz.pinned (OpenSpec.upto topAccountsReconcileSpec)

end Rows
end Go.Proofs.YtjihcgcbnbaclaaGreatDoor
