/-
  No cell of these rows narrows 'for every input' (looked for: loops, veiled, ifaces, maps, wideKeys, modest, calm, conditions, laid).
  DERIVED. THE GIVEN ROWS OF THIS SEAT. 13 by the template 'for every input the law returns true; each argument reads behind the call as it read before'; 0 by the template 'total and deterministic' (their statements: YtdbpfhbppcpbbaaTotals.lean).
  GIVEN WITH THE SEED: the statements are not yours to turn. If you find one false, say at which input.
  Laid BY PROGRAM, IN A SANDBOX (cutbox-rows.mjs): the forced cells as the released guide's own fill.sh prints them over the translation 2e168b670b962058… (all of the seat's roots in one cut). By AI agents, Wed Nov 11 2026. No macro, syntax, notation, axiom, sorry.
-/
import Derived.Test.YtdbpfhbppcpbbaaChecked
import GoSem.Claim
import GoSem.ClaimJoined
import GoSem.ClaimMapViews
import Derived.JoinedTies
import Derived.KernelRfl
namespace Go.Proofs.Ytdbpfhbppcpbbaa
/- THE CELL 'sum', in the pinned program and in every row, IS THE sha256 OF THE DUMP (.gsa) THAT YtdbpfhbppcpbbaaProg.lean LOADS. Nothing in Lean hashes anything: it is a label: what it is worth is what the hold of that sum in a sandbox is worth. -/
noncomputable def Try.pinned : Pinned := { name := "ytdbpfhbppcpbbaa", sum := "2e168b670b962058da8f54864d49ce630e87f9e6e78f70f463c1ccfb40e53f75", checked := Try.checked }
namespace Rows
def none {H : Type} : Left H := { results := [], args := [] }

/-- 'putloglaw09.RecordHistories': WHATEVER THE INPUT: true; the input reads as it did. -/
def recordHistoriesSpec : ChangeSpec := { name := "recordHistories", fn := fun _ => fun
  | [d1, d2] => { results := [.lit (.bool true)], args := [d1, d2] }
  | _ => none }
def recordHistoriesRow : OpenClaim := { program := "ytdbpfhbppcpbbaa", sum := "2e168b670b962058da8f54864d49ce630e87f9e6e78f70f463c1ccfb40e53f75", func := "putlog/putloglaw09.RecordHistories", spec := "recordHistories", unfollowed := true, recurses := true, plainKeys := false, apart := false }
def RecordHistoriesSaid : Prop := recordHistoriesRow.holds Try.pinned (OpenSpec.ofChange recordHistoriesSpec)

/-- ITS FALSE NEIGHBOUR: 'it returns false'. Refute it at one input. -/
def recordHistoriesWrong : ChangeSpec := { name := "recordHistories", fn := fun _ => fun
  | [d1, d2] => { results := [.lit (.bool false)], args := [d1, d2] }
  | _ => none }
def RecordHistoriesWrongFalsely : Prop := recordHistoriesRow.holds Try.pinned (OpenSpec.ofChange recordHistoriesWrong)

/-- 'putloglaw09.RecordInvoices': WHATEVER THE INPUT: true; the input reads as it did. -/
def recordInvoicesSpec : ChangeSpec := { name := "recordInvoices", fn := fun _ => fun
  | [d1, d2, d3] => { results := [.lit (.bool true)], args := [d1, d2, d3] }
  | _ => none }
def recordInvoicesRow : OpenClaim := { program := "ytdbpfhbppcpbbaa", sum := "2e168b670b962058da8f54864d49ce630e87f9e6e78f70f463c1ccfb40e53f75", func := "putlog/putloglaw09.RecordInvoices", spec := "recordInvoices", unfollowed := true, recurses := true, plainKeys := false, apart := false }
def RecordInvoicesSaid : Prop := recordInvoicesRow.holds Try.pinned (OpenSpec.ofChange recordInvoicesSpec)

/-- ITS FALSE NEIGHBOUR: 'it returns false'. Refute it at one input. -/
def recordInvoicesWrong : ChangeSpec := { name := "recordInvoices", fn := fun _ => fun
  | [d1, d2, d3] => { results := [.lit (.bool false)], args := [d1, d2, d3] }
  | _ => none }
def RecordInvoicesWrongFalsely : Prop := recordInvoicesRow.holds Try.pinned (OpenSpec.ofChange recordInvoicesWrong)

/-- 'putloglaw09.RecordReleases': WHATEVER THE INPUT: true; the input reads as it did. -/
def recordReleasesSpec : ChangeSpec := { name := "recordReleases", fn := fun _ => fun
  | [d1, d2, d3] => { results := [.lit (.bool true)], args := [d1, d2, d3] }
  | _ => none }
def recordReleasesRow : OpenClaim := { program := "ytdbpfhbppcpbbaa", sum := "2e168b670b962058da8f54864d49ce630e87f9e6e78f70f463c1ccfb40e53f75", func := "putlog/putloglaw09.RecordReleases", spec := "recordReleases", unfollowed := true, recurses := true, plainKeys := false, apart := false }
def RecordReleasesSaid : Prop := recordReleasesRow.holds Try.pinned (OpenSpec.ofChange recordReleasesSpec)

/-- ITS FALSE NEIGHBOUR: 'it returns false'. Refute it at one input. -/
def recordReleasesWrong : ChangeSpec := { name := "recordReleases", fn := fun _ => fun
  | [d1, d2, d3] => { results := [.lit (.bool false)], args := [d1, d2, d3] }
  | _ => none }
def RecordReleasesWrongFalsely : Prop := recordReleasesRow.holds Try.pinned (OpenSpec.ofChange recordReleasesWrong)

/-- 'putloglaw09.RecordMoves': WHATEVER THE INPUT: true; the input reads as it did. -/
def recordMovesSpec : ChangeSpec := { name := "recordMoves", fn := fun _ => fun
  | [d1, d2] => { results := [.lit (.bool true)], args := [d1, d2] }
  | _ => none }
def recordMovesRow : OpenClaim := { program := "ytdbpfhbppcpbbaa", sum := "2e168b670b962058da8f54864d49ce630e87f9e6e78f70f463c1ccfb40e53f75", func := "putlog/putloglaw09.RecordMoves", spec := "recordMoves", unfollowed := true, recurses := true, plainKeys := false, apart := false }
def RecordMovesSaid : Prop := recordMovesRow.holds Try.pinned (OpenSpec.ofChange recordMovesSpec)

/-- ITS FALSE NEIGHBOUR: 'it returns false'. Refute it at one input. -/
def recordMovesWrong : ChangeSpec := { name := "recordMoves", fn := fun _ => fun
  | [d1, d2] => { results := [.lit (.bool false)], args := [d1, d2] }
  | _ => none }
def RecordMovesWrongFalsely : Prop := recordMovesRow.holds Try.pinned (OpenSpec.ofChange recordMovesWrong)

/-- 'putloglaw09.RecordWeeks': WHATEVER THE INPUT: true; the input reads as it did. -/
def recordWeeksSpec : ChangeSpec := { name := "recordWeeks", fn := fun _ => fun
  | [d1, d2, d3] => { results := [.lit (.bool true)], args := [d1, d2, d3] }
  | _ => none }
def recordWeeksRow : OpenClaim := { program := "ytdbpfhbppcpbbaa", sum := "2e168b670b962058da8f54864d49ce630e87f9e6e78f70f463c1ccfb40e53f75", func := "putlog/putloglaw09.RecordWeeks", spec := "recordWeeks", unfollowed := true, recurses := true, plainKeys := false, apart := false }
def RecordWeeksSaid : Prop := recordWeeksRow.holds Try.pinned (OpenSpec.ofChange recordWeeksSpec)

/-- ITS FALSE NEIGHBOUR: 'it returns false'. Refute it at one input. -/
def recordWeeksWrong : ChangeSpec := { name := "recordWeeks", fn := fun _ => fun
  | [d1, d2, d3] => { results := [.lit (.bool false)], args := [d1, d2, d3] }
  | _ => none }
def RecordWeeksWrongFalsely : Prop := recordWeeksRow.holds Try.pinned (OpenSpec.ofChange recordWeeksWrong)

/-- 'putloglaw09.RecordTotals': WHATEVER THE INPUT: true; the input reads as it did. -/
def recordTotalsSpec : ChangeSpec := { name := "recordTotals", fn := fun _ => fun
  | [d] => { results := [.lit (.bool true)], args := [d] }
  | _ => none }
def recordTotalsRow : OpenClaim := { program := "ytdbpfhbppcpbbaa", sum := "2e168b670b962058da8f54864d49ce630e87f9e6e78f70f463c1ccfb40e53f75", func := "putlog/putloglaw09.RecordTotals", spec := "recordTotals", unfollowed := true, recurses := true, plainKeys := false, apart := false }
def RecordTotalsSaid : Prop := recordTotalsRow.holds Try.pinned (OpenSpec.ofChange recordTotalsSpec)

/-- ITS FALSE NEIGHBOUR: 'it returns false'. Refute it at one input. -/
def recordTotalsWrong : ChangeSpec := { name := "recordTotals", fn := fun _ => fun
  | [d] => { results := [.lit (.bool false)], args := [d] }
  | _ => none }
def RecordTotalsWrongFalsely : Prop := recordTotalsRow.holds Try.pinned (OpenSpec.ofChange recordTotalsWrong)

/-- 'putloglaw09.RecordTags': WHATEVER THE INPUT: true; the input reads as it did. -/
def recordTagsSpec : ChangeSpec := { name := "recordTags", fn := fun _ => fun
  | [d1, d2, d3] => { results := [.lit (.bool true)], args := [d1, d2, d3] }
  | _ => none }
def recordTagsRow : OpenClaim := { program := "ytdbpfhbppcpbbaa", sum := "2e168b670b962058da8f54864d49ce630e87f9e6e78f70f463c1ccfb40e53f75", func := "putlog/putloglaw09.RecordTags", spec := "recordTags", unfollowed := true, recurses := true, plainKeys := false, apart := false }
def RecordTagsSaid : Prop := recordTagsRow.holds Try.pinned (OpenSpec.ofChange recordTagsSpec)

/-- ITS FALSE NEIGHBOUR: 'it returns false'. Refute it at one input. -/
def recordTagsWrong : ChangeSpec := { name := "recordTags", fn := fun _ => fun
  | [d1, d2, d3] => { results := [.lit (.bool false)], args := [d1, d2, d3] }
  | _ => none }
def RecordTagsWrongFalsely : Prop := recordTagsRow.holds Try.pinned (OpenSpec.ofChange recordTagsWrong)

/-- 'putloglaw09.RecordDays': WHATEVER THE INPUT: true; the input reads as it did. -/
def recordDaysSpec : ChangeSpec := { name := "recordDays", fn := fun _ => fun
  | [d1, d2, d3] => { results := [.lit (.bool true)], args := [d1, d2, d3] }
  | _ => none }
def recordDaysRow : OpenClaim := { program := "ytdbpfhbppcpbbaa", sum := "2e168b670b962058da8f54864d49ce630e87f9e6e78f70f463c1ccfb40e53f75", func := "putlog/putloglaw09.RecordDays", spec := "recordDays", unfollowed := true, recurses := true, plainKeys := false, apart := false }
def RecordDaysSaid : Prop := recordDaysRow.holds Try.pinned (OpenSpec.ofChange recordDaysSpec)

/-- ITS FALSE NEIGHBOUR: 'it returns false'. Refute it at one input. -/
def recordDaysWrong : ChangeSpec := { name := "recordDays", fn := fun _ => fun
  | [d1, d2, d3] => { results := [.lit (.bool false)], args := [d1, d2, d3] }
  | _ => none }
def RecordDaysWrongFalsely : Prop := recordDaysRow.holds Try.pinned (OpenSpec.ofChange recordDaysWrong)

/-- 'putloglaw09.RecordCorrects': WHATEVER THE INPUT: true; the input reads as it did. -/
def recordCorrectsSpec : ChangeSpec := { name := "recordCorrects", fn := fun _ => fun
  | [d1, d2, d3] => { results := [.lit (.bool true)], args := [d1, d2, d3] }
  | _ => none }
def recordCorrectsRow : OpenClaim := { program := "ytdbpfhbppcpbbaa", sum := "2e168b670b962058da8f54864d49ce630e87f9e6e78f70f463c1ccfb40e53f75", func := "putlog/putloglaw09.RecordCorrects", spec := "recordCorrects", unfollowed := true, recurses := true, plainKeys := false, apart := false }
def RecordCorrectsSaid : Prop := recordCorrectsRow.holds Try.pinned (OpenSpec.ofChange recordCorrectsSpec)

/-- ITS FALSE NEIGHBOUR: 'it returns false'. Refute it at one input. -/
def recordCorrectsWrong : ChangeSpec := { name := "recordCorrects", fn := fun _ => fun
  | [d1, d2, d3] => { results := [.lit (.bool false)], args := [d1, d2, d3] }
  | _ => none }
def RecordCorrectsWrongFalsely : Prop := recordCorrectsRow.holds Try.pinned (OpenSpec.ofChange recordCorrectsWrong)

/-- 'putloglaw09.RecordDue': WHATEVER THE INPUT: true; the input reads as it did. -/
def recordDueSpec : ChangeSpec := { name := "recordDue", fn := fun _ => fun
  | [d1, d2] => { results := [.lit (.bool true)], args := [d1, d2] }
  | _ => none }
def recordDueRow : OpenClaim := { program := "ytdbpfhbppcpbbaa", sum := "2e168b670b962058da8f54864d49ce630e87f9e6e78f70f463c1ccfb40e53f75", func := "putlog/putloglaw09.RecordDue", spec := "recordDue", unfollowed := true, recurses := true, plainKeys := false, apart := false }
def RecordDueSaid : Prop := recordDueRow.holds Try.pinned (OpenSpec.ofChange recordDueSpec)

/-- ITS FALSE NEIGHBOUR: 'it returns false'. Refute it at one input. -/
def recordDueWrong : ChangeSpec := { name := "recordDue", fn := fun _ => fun
  | [d1, d2] => { results := [.lit (.bool false)], args := [d1, d2] }
  | _ => none }
def RecordDueWrongFalsely : Prop := recordDueRow.holds Try.pinned (OpenSpec.ofChange recordDueWrong)

/-- 'putloglaw09.RecordAccounts': WHATEVER THE INPUT: true; the input reads as it did. -/
def recordAccountsSpec : ChangeSpec := { name := "recordAccounts", fn := fun _ => fun
  | [d1, d2, d3] => { results := [.lit (.bool true)], args := [d1, d2, d3] }
  | _ => none }
def recordAccountsRow : OpenClaim := { program := "ytdbpfhbppcpbbaa", sum := "2e168b670b962058da8f54864d49ce630e87f9e6e78f70f463c1ccfb40e53f75", func := "putlog/putloglaw09.RecordAccounts", spec := "recordAccounts", unfollowed := true, recurses := true, plainKeys := false, apart := false }
def RecordAccountsSaid : Prop := recordAccountsRow.holds Try.pinned (OpenSpec.ofChange recordAccountsSpec)

/-- ITS FALSE NEIGHBOUR: 'it returns false'. Refute it at one input. -/
def recordAccountsWrong : ChangeSpec := { name := "recordAccounts", fn := fun _ => fun
  | [d1, d2, d3] => { results := [.lit (.bool false)], args := [d1, d2, d3] }
  | _ => none }
def RecordAccountsWrongFalsely : Prop := recordAccountsRow.holds Try.pinned (OpenSpec.ofChange recordAccountsWrong)

/-- 'putloglaw09.RecordChecks': WHATEVER THE INPUT: true; the input reads as it did. -/
def recordChecksSpec : ChangeSpec := { name := "recordChecks", fn := fun _ => fun
  | [d1, d2] => { results := [.lit (.bool true)], args := [d1, d2] }
  | _ => none }
def recordChecksRow : OpenClaim := { program := "ytdbpfhbppcpbbaa", sum := "2e168b670b962058da8f54864d49ce630e87f9e6e78f70f463c1ccfb40e53f75", func := "putlog/putloglaw09.RecordChecks", spec := "recordChecks", unfollowed := true, recurses := true, plainKeys := false, apart := false }
def RecordChecksSaid : Prop := recordChecksRow.holds Try.pinned (OpenSpec.ofChange recordChecksSpec)

/-- ITS FALSE NEIGHBOUR: 'it returns false'. Refute it at one input. -/
def recordChecksWrong : ChangeSpec := { name := "recordChecks", fn := fun _ => fun
  | [d1, d2] => { results := [.lit (.bool false)], args := [d1, d2] }
  | _ => none }
def RecordChecksWrongFalsely : Prop := recordChecksRow.holds Try.pinned (OpenSpec.ofChange recordChecksWrong)

/-- 'putloglaw09.RecordForgets': WHATEVER THE INPUT: true; the input reads as it did. -/
def recordForgetsSpec : ChangeSpec := { name := "recordForgets", fn := fun _ => fun
  | [d1, d2, d3] => { results := [.lit (.bool true)], args := [d1, d2, d3] }
  | _ => none }
def recordForgetsRow : OpenClaim := { program := "ytdbpfhbppcpbbaa", sum := "2e168b670b962058da8f54864d49ce630e87f9e6e78f70f463c1ccfb40e53f75", func := "putlog/putloglaw09.RecordForgets", spec := "recordForgets", unfollowed := true, recurses := true, plainKeys := false, apart := false }
def RecordForgetsSaid : Prop := recordForgetsRow.holds Try.pinned (OpenSpec.ofChange recordForgetsSpec)

/-- ITS FALSE NEIGHBOUR: 'it returns false'. Refute it at one input. -/
def recordForgetsWrong : ChangeSpec := { name := "recordForgets", fn := fun _ => fun
  | [d1, d2, d3] => { results := [.lit (.bool false)], args := [d1, d2, d3] }
  | _ => none }
def RecordForgetsWrongFalsely : Prop := recordForgetsRow.holds Try.pinned (OpenSpec.ofChange recordForgetsWrong)

/- THE SECOND FORM. 'bulk': how many values and letters a reading holds, each counted each time it is reached (what is shared counts as often as it is met; a slice's spare places count too). A statement '..UptoSaid' is the law's where the arguments, and the package variables that the reading takes, are together of bulk at most 1048576: NARROWER than '..Said'. Prove '..Said' where nothing that the law and all that it calls make is longer than what came in: it says more and counts as full. Else prove '..UptoSaid'. A law counts once. -/
mutual
def uptoBulk {H : Type} : DataW H → Nat
  | .lit (.string bytes) => bytes.length + 1
  | .lit _ => 1
  | .nil => 1
  | .ptr d => uptoBulk d + 1
  | .slice elems spare => uptoBulkAll elems + uptoBulkAll spare + 1
  | .agg parts => uptoBulkAll parts + 1
  | .iface _ d => uptoBulk d + 1
  | .map entries => uptoBulkEntries entries + 1
  | .held _ => 1
def uptoBulkAll {H : Type} : List (DataW H) → Nat
  | [] => 0
  | d :: r => uptoBulk d + uptoBulkAll r
def uptoBulkEntries {H : Type} : List (Lit × DataW H) → Nat
  | [] => 0
  | x :: r => uptoBulkEntry x + uptoBulkEntries r
def uptoBulkEntry {H : Type} : Lit × DataW H → Nat
  | (.string bytes, d) => bytes.length + uptoBulk d + 1
  | (_, d) => uptoBulk d + 1
 end
def uptoSmall : (H : Type) → List (DataW H) → Bool := fun _ ds => decide (uptoBulkAll ds ≤ 1048576)
def OpenSpec.upto (s : _root_.Go.ChangeSpec) : _root_.Go.OpenSpec := { _root_.Go.OpenSpec.ofChange s with cond := some uptoSmall }

/-- 'putloglaw09.RecordHistories', WHERE WHAT IT READS IS OF BULK AT MOST 1048576: true; the input reads as it did. -/
def recordHistoriesUptoRow : OpenClaim := { program := "ytdbpfhbppcpbbaa", sum := "2e168b670b962058da8f54864d49ce630e87f9e6e78f70f463c1ccfb40e53f75", func := "putlog/putloglaw09.RecordHistories", spec := "recordHistories", unfollowed := true, recurses := true, plainKeys := false, apart := false, narrowed := true }
def RecordHistoriesUptoSaid : Prop := recordHistoriesUptoRow.holds Try.pinned (OpenSpec.upto recordHistoriesSpec)

/-- 'putloglaw09.RecordInvoices', WHERE WHAT IT READS IS OF BULK AT MOST 1048576: true; the input reads as it did. -/
def recordInvoicesUptoRow : OpenClaim := { program := "ytdbpfhbppcpbbaa", sum := "2e168b670b962058da8f54864d49ce630e87f9e6e78f70f463c1ccfb40e53f75", func := "putlog/putloglaw09.RecordInvoices", spec := "recordInvoices", unfollowed := true, recurses := true, plainKeys := false, apart := false, narrowed := true }
def RecordInvoicesUptoSaid : Prop := recordInvoicesUptoRow.holds Try.pinned (OpenSpec.upto recordInvoicesSpec)

/-- 'putloglaw09.RecordReleases', WHERE WHAT IT READS IS OF BULK AT MOST 1048576: true; the input reads as it did. -/
def recordReleasesUptoRow : OpenClaim := { program := "ytdbpfhbppcpbbaa", sum := "2e168b670b962058da8f54864d49ce630e87f9e6e78f70f463c1ccfb40e53f75", func := "putlog/putloglaw09.RecordReleases", spec := "recordReleases", unfollowed := true, recurses := true, plainKeys := false, apart := false, narrowed := true }
def RecordReleasesUptoSaid : Prop := recordReleasesUptoRow.holds Try.pinned (OpenSpec.upto recordReleasesSpec)

/-- 'putloglaw09.RecordMoves', WHERE WHAT IT READS IS OF BULK AT MOST 1048576: true; the input reads as it did. -/
def recordMovesUptoRow : OpenClaim := { program := "ytdbpfhbppcpbbaa", sum := "2e168b670b962058da8f54864d49ce630e87f9e6e78f70f463c1ccfb40e53f75", func := "putlog/putloglaw09.RecordMoves", spec := "recordMoves", unfollowed := true, recurses := true, plainKeys := false, apart := false, narrowed := true }
def RecordMovesUptoSaid : Prop := recordMovesUptoRow.holds Try.pinned (OpenSpec.upto recordMovesSpec)

/-- 'putloglaw09.RecordWeeks', WHERE WHAT IT READS IS OF BULK AT MOST 1048576: true; the input reads as it did. -/
def recordWeeksUptoRow : OpenClaim := { program := "ytdbpfhbppcpbbaa", sum := "2e168b670b962058da8f54864d49ce630e87f9e6e78f70f463c1ccfb40e53f75", func := "putlog/putloglaw09.RecordWeeks", spec := "recordWeeks", unfollowed := true, recurses := true, plainKeys := false, apart := false, narrowed := true }
def RecordWeeksUptoSaid : Prop := recordWeeksUptoRow.holds Try.pinned (OpenSpec.upto recordWeeksSpec)

/-- 'putloglaw09.RecordTotals', WHERE WHAT IT READS IS OF BULK AT MOST 1048576: true; the input reads as it did. -/
def recordTotalsUptoRow : OpenClaim := { program := "ytdbpfhbppcpbbaa", sum := "2e168b670b962058da8f54864d49ce630e87f9e6e78f70f463c1ccfb40e53f75", func := "putlog/putloglaw09.RecordTotals", spec := "recordTotals", unfollowed := true, recurses := true, plainKeys := false, apart := false, narrowed := true }
def RecordTotalsUptoSaid : Prop := recordTotalsUptoRow.holds Try.pinned (OpenSpec.upto recordTotalsSpec)

/-- 'putloglaw09.RecordTags', WHERE WHAT IT READS IS OF BULK AT MOST 1048576: true; the input reads as it did. -/
def recordTagsUptoRow : OpenClaim := { program := "ytdbpfhbppcpbbaa", sum := "2e168b670b962058da8f54864d49ce630e87f9e6e78f70f463c1ccfb40e53f75", func := "putlog/putloglaw09.RecordTags", spec := "recordTags", unfollowed := true, recurses := true, plainKeys := false, apart := false, narrowed := true }
def RecordTagsUptoSaid : Prop := recordTagsUptoRow.holds Try.pinned (OpenSpec.upto recordTagsSpec)

/-- 'putloglaw09.RecordDays', WHERE WHAT IT READS IS OF BULK AT MOST 1048576: true; the input reads as it did. -/
def recordDaysUptoRow : OpenClaim := { program := "ytdbpfhbppcpbbaa", sum := "2e168b670b962058da8f54864d49ce630e87f9e6e78f70f463c1ccfb40e53f75", func := "putlog/putloglaw09.RecordDays", spec := "recordDays", unfollowed := true, recurses := true, plainKeys := false, apart := false, narrowed := true }
def RecordDaysUptoSaid : Prop := recordDaysUptoRow.holds Try.pinned (OpenSpec.upto recordDaysSpec)

/-- 'putloglaw09.RecordCorrects', WHERE WHAT IT READS IS OF BULK AT MOST 1048576: true; the input reads as it did. -/
def recordCorrectsUptoRow : OpenClaim := { program := "ytdbpfhbppcpbbaa", sum := "2e168b670b962058da8f54864d49ce630e87f9e6e78f70f463c1ccfb40e53f75", func := "putlog/putloglaw09.RecordCorrects", spec := "recordCorrects", unfollowed := true, recurses := true, plainKeys := false, apart := false, narrowed := true }
def RecordCorrectsUptoSaid : Prop := recordCorrectsUptoRow.holds Try.pinned (OpenSpec.upto recordCorrectsSpec)

/-- 'putloglaw09.RecordDue', WHERE WHAT IT READS IS OF BULK AT MOST 1048576: true; the input reads as it did. -/
def recordDueUptoRow : OpenClaim := { program := "ytdbpfhbppcpbbaa", sum := "2e168b670b962058da8f54864d49ce630e87f9e6e78f70f463c1ccfb40e53f75", func := "putlog/putloglaw09.RecordDue", spec := "recordDue", unfollowed := true, recurses := true, plainKeys := false, apart := false, narrowed := true }
def RecordDueUptoSaid : Prop := recordDueUptoRow.holds Try.pinned (OpenSpec.upto recordDueSpec)

/-- 'putloglaw09.RecordAccounts', WHERE WHAT IT READS IS OF BULK AT MOST 1048576: true; the input reads as it did. -/
def recordAccountsUptoRow : OpenClaim := { program := "ytdbpfhbppcpbbaa", sum := "2e168b670b962058da8f54864d49ce630e87f9e6e78f70f463c1ccfb40e53f75", func := "putlog/putloglaw09.RecordAccounts", spec := "recordAccounts", unfollowed := true, recurses := true, plainKeys := false, apart := false, narrowed := true }
def RecordAccountsUptoSaid : Prop := recordAccountsUptoRow.holds Try.pinned (OpenSpec.upto recordAccountsSpec)

/-- 'putloglaw09.RecordChecks', WHERE WHAT IT READS IS OF BULK AT MOST 1048576: true; the input reads as it did. -/
def recordChecksUptoRow : OpenClaim := { program := "ytdbpfhbppcpbbaa", sum := "2e168b670b962058da8f54864d49ce630e87f9e6e78f70f463c1ccfb40e53f75", func := "putlog/putloglaw09.RecordChecks", spec := "recordChecks", unfollowed := true, recurses := true, plainKeys := false, apart := false, narrowed := true }
def RecordChecksUptoSaid : Prop := recordChecksUptoRow.holds Try.pinned (OpenSpec.upto recordChecksSpec)

/-- 'putloglaw09.RecordForgets', WHERE WHAT IT READS IS OF BULK AT MOST 1048576: true; the input reads as it did. -/
def recordForgetsUptoRow : OpenClaim := { program := "ytdbpfhbppcpbbaa", sum := "2e168b670b962058da8f54864d49ce630e87f9e6e78f70f463c1ccfb40e53f75", func := "putlog/putloglaw09.RecordForgets", spec := "recordForgets", unfollowed := true, recurses := true, plainKeys := false, apart := false, narrowed := true }
def RecordForgetsUptoSaid : Prop := recordForgetsUptoRow.holds Try.pinned (OpenSpec.upto recordForgetsSpec)

end Rows
end Go.Proofs.Ytdbpfhbppcpbbaa
