/-
  No cell of these rows narrows 'for every input' (looked for: loops, veiled, ifaces, maps, wideKeys, modest, calm, conditions, laid).
  DERIVED. THE GIVEN ROWS OF THIS SEAT. 11 by the template 'for every input the law returns true; each argument reads behind the call as it read before'; 0 by the template 'total and deterministic' (their statements: YtjmjiegplnfiiaaTotals.lean).
  GIVEN WITH THE SEED: the statements are not yours to turn. If you find one false, say at which input.
  Laid BY PROGRAM, IN A SANDBOX (cutbox-rows.mjs): the forced cells as the released guide's own fill.sh prints them over the translation 127d476b0870d99c… (all of the seat's roots in one cut). By AI agents, Wed Nov 11 2026. No macro, syntax, notation, axiom, sorry.
-/
import Derived.Test.YtjmjiegplnfiiaaChecked
import GoSem.Claim
import GoSem.ClaimJoined
import GoSem.ClaimMapViews
import Derived.JoinedTies
import Derived.KernelRfl
namespace Go.Proofs.Ytjmjiegplnfiiaa
/- THE CELL 'sum', in the pinned program and in every row, IS THE sha256 OF THE DUMP (.gsa) THAT YtjmjiegplnfiiaaProg.lean LOADS. Nothing in Lean hashes anything: it is a label: what it is worth is what the hold of that sum in a sandbox is worth. -/
noncomputable def Try.pinned : Pinned := { name := "ytjmjiegplnfiiaa", sum := "127d476b0870d99c31e417bc0693862770a5fba70592ae7bad98a2d7128847f3", checked := Try.checked }
namespace Rows
def none {H : Type} : Left H := { results := [], args := [] }

/-- 'putloglaw07.ErectionFewest': WHATEVER THE INPUT: true; the input reads as it did. -/
def erectionFewestSpec : ChangeSpec := { name := "erectionFewest", fn := fun _ => fun
  | [d] => { results := [.lit (.bool true)], args := [d] }
  | _ => none }
def erectionFewestRow : OpenClaim := { program := "ytjmjiegplnfiiaa", sum := "127d476b0870d99c31e417bc0693862770a5fba70592ae7bad98a2d7128847f3", func := "putlog/putloglaw07.ErectionFewest", spec := "erectionFewest", unfollowed := true, recurses := true, plainKeys := false, apart := false }
def ErectionFewestSaid : Prop := erectionFewestRow.holds Try.pinned (OpenSpec.ofChange erectionFewestSpec)

/-- ITS FALSE NEIGHBOUR: 'it returns false'. Refute it at one input. -/
def erectionFewestWrong : ChangeSpec := { name := "erectionFewest", fn := fun _ => fun
  | [d] => { results := [.lit (.bool false)], args := [d] }
  | _ => none }
def ErectionFewestWrongFalsely : Prop := erectionFewestRow.holds Try.pinned (OpenSpec.ofChange erectionFewestWrong)

/-- 'putloglaw07.ErectionEnds': WHATEVER THE INPUT: true; the input reads as it did. -/
def erectionEndsSpec : ChangeSpec := { name := "erectionEnds", fn := fun _ => fun
  | [d1, d2] => { results := [.lit (.bool true)], args := [d1, d2] }
  | _ => none }
def erectionEndsRow : OpenClaim := { program := "ytjmjiegplnfiiaa", sum := "127d476b0870d99c31e417bc0693862770a5fba70592ae7bad98a2d7128847f3", func := "putlog/putloglaw07.ErectionEnds", spec := "erectionEnds", unfollowed := true, recurses := true, plainKeys := false, apart := false }
def ErectionEndsSaid : Prop := erectionEndsRow.holds Try.pinned (OpenSpec.ofChange erectionEndsSpec)

/-- ITS FALSE NEIGHBOUR: 'it returns false'. Refute it at one input. -/
def erectionEndsWrong : ChangeSpec := { name := "erectionEnds", fn := fun _ => fun
  | [d1, d2] => { results := [.lit (.bool false)], args := [d1, d2] }
  | _ => none }
def ErectionEndsWrongFalsely : Prop := erectionEndsRow.holds Try.pinned (OpenSpec.ofChange erectionEndsWrong)

/-- 'putloglaw07.ErectionPlans': WHATEVER THE INPUT: true; the input reads as it did. -/
def erectionPlansSpec : ChangeSpec := { name := "erectionPlans", fn := fun _ => fun
  | [d] => { results := [.lit (.bool true)], args := [d] }
  | _ => none }
def erectionPlansRow : OpenClaim := { program := "ytjmjiegplnfiiaa", sum := "127d476b0870d99c31e417bc0693862770a5fba70592ae7bad98a2d7128847f3", func := "putlog/putloglaw07.ErectionPlans", spec := "erectionPlans", unfollowed := true, recurses := true, plainKeys := false, apart := false }
def ErectionPlansSaid : Prop := erectionPlansRow.holds Try.pinned (OpenSpec.ofChange erectionPlansSpec)

/-- ITS FALSE NEIGHBOUR: 'it returns false'. Refute it at one input. -/
def erectionPlansWrong : ChangeSpec := { name := "erectionPlans", fn := fun _ => fun
  | [d] => { results := [.lit (.bool false)], args := [d] }
  | _ => none }
def ErectionPlansWrongFalsely : Prop := erectionPlansRow.holds Try.pinned (OpenSpec.ofChange erectionPlansWrong)

/-- 'putloglaw07.ErectionStages': WHATEVER THE INPUT: true; the input reads as it did. -/
def erectionStagesSpec : ChangeSpec := { name := "erectionStages", fn := fun _ => fun
  | [d1, d2] => { results := [.lit (.bool true)], args := [d1, d2] }
  | _ => none }
def erectionStagesRow : OpenClaim := { program := "ytjmjiegplnfiiaa", sum := "127d476b0870d99c31e417bc0693862770a5fba70592ae7bad98a2d7128847f3", func := "putlog/putloglaw07.ErectionStages", spec := "erectionStages", unfollowed := true, recurses := true, plainKeys := false, apart := false }
def ErectionStagesSaid : Prop := erectionStagesRow.holds Try.pinned (OpenSpec.ofChange erectionStagesSpec)

/-- ITS FALSE NEIGHBOUR: 'it returns false'. Refute it at one input. -/
def erectionStagesWrong : ChangeSpec := { name := "erectionStages", fn := fun _ => fun
  | [d1, d2] => { results := [.lit (.bool false)], args := [d1, d2] }
  | _ => none }
def ErectionStagesWrongFalsely : Prop := erectionStagesRow.holds Try.pinned (OpenSpec.ofChange erectionStagesWrong)

/-- 'putloglaw07.ErectionTurned': WHATEVER THE INPUT: true; the input reads as it did. -/
def erectionTurnedSpec : ChangeSpec := { name := "erectionTurned", fn := fun _ => fun
  | [d1, d2] => { results := [.lit (.bool true)], args := [d1, d2] }
  | _ => none }
def erectionTurnedRow : OpenClaim := { program := "ytjmjiegplnfiiaa", sum := "127d476b0870d99c31e417bc0693862770a5fba70592ae7bad98a2d7128847f3", func := "putlog/putloglaw07.ErectionTurned", spec := "erectionTurned", unfollowed := true, recurses := true, plainKeys := false, apart := false }
def ErectionTurnedSaid : Prop := erectionTurnedRow.holds Try.pinned (OpenSpec.ofChange erectionTurnedSpec)

/-- ITS FALSE NEIGHBOUR: 'it returns false'. Refute it at one input. -/
def erectionTurnedWrong : ChangeSpec := { name := "erectionTurned", fn := fun _ => fun
  | [d1, d2] => { results := [.lit (.bool false)], args := [d1, d2] }
  | _ => none }
def ErectionTurnedWrongFalsely : Prop := erectionTurnedRow.holds Try.pinned (OpenSpec.ofChange erectionTurnedWrong)

/-- 'putloglaw07.ErectionAccepts': WHATEVER THE INPUT: true; the input reads as it did. -/
def erectionAcceptsSpec : ChangeSpec := { name := "erectionAccepts", fn := fun _ => fun
  | [d1, d2] => { results := [.lit (.bool true)], args := [d1, d2] }
  | _ => none }
def erectionAcceptsRow : OpenClaim := { program := "ytjmjiegplnfiiaa", sum := "127d476b0870d99c31e417bc0693862770a5fba70592ae7bad98a2d7128847f3", func := "putlog/putloglaw07.ErectionAccepts", spec := "erectionAccepts", unfollowed := true, recurses := true, plainKeys := false, apart := false }
def ErectionAcceptsSaid : Prop := erectionAcceptsRow.holds Try.pinned (OpenSpec.ofChange erectionAcceptsSpec)

/-- ITS FALSE NEIGHBOUR: 'it returns false'. Refute it at one input. -/
def erectionAcceptsWrong : ChangeSpec := { name := "erectionAccepts", fn := fun _ => fun
  | [d1, d2] => { results := [.lit (.bool false)], args := [d1, d2] }
  | _ => none }
def ErectionAcceptsWrongFalsely : Prop := erectionAcceptsRow.holds Try.pinned (OpenSpec.ofChange erectionAcceptsWrong)

/-- 'putloglaw07.ErectionScheduleChecks': WHATEVER THE INPUT: true; the input reads as it did. -/
def erectionScheduleChecksSpec : ChangeSpec := { name := "erectionScheduleChecks", fn := fun _ => fun
  | [d1, d2, d3] => { results := [.lit (.bool true)], args := [d1, d2, d3] }
  | _ => none }
def erectionScheduleChecksRow : OpenClaim := { program := "ytjmjiegplnfiiaa", sum := "127d476b0870d99c31e417bc0693862770a5fba70592ae7bad98a2d7128847f3", func := "putlog/putloglaw07.ErectionScheduleChecks", spec := "erectionScheduleChecks", unfollowed := true, recurses := true, plainKeys := false, apart := false }
def ErectionScheduleChecksSaid : Prop := erectionScheduleChecksRow.holds Try.pinned (OpenSpec.ofChange erectionScheduleChecksSpec)

/-- ITS FALSE NEIGHBOUR: 'it returns false'. Refute it at one input. -/
def erectionScheduleChecksWrong : ChangeSpec := { name := "erectionScheduleChecks", fn := fun _ => fun
  | [d1, d2, d3] => { results := [.lit (.bool false)], args := [d1, d2, d3] }
  | _ => none }
def ErectionScheduleChecksWrongFalsely : Prop := erectionScheduleChecksRow.holds Try.pinned (OpenSpec.ofChange erectionScheduleChecksWrong)

/-- 'putloglaw07.ErectionStage': WHATEVER THE INPUT: true; the input reads as it did. -/
def erectionStageSpec : ChangeSpec := { name := "erectionStage", fn := fun _ => fun
  | [d1, d2, d3] => { results := [.lit (.bool true)], args := [d1, d2, d3] }
  | _ => none }
def erectionStageRow : OpenClaim := { program := "ytjmjiegplnfiiaa", sum := "127d476b0870d99c31e417bc0693862770a5fba70592ae7bad98a2d7128847f3", func := "putlog/putloglaw07.ErectionStage", spec := "erectionStage", unfollowed := true, recurses := true, plainKeys := false, apart := false }
def ErectionStageSaid : Prop := erectionStageRow.holds Try.pinned (OpenSpec.ofChange erectionStageSpec)

/-- ITS FALSE NEIGHBOUR: 'it returns false'. Refute it at one input. -/
def erectionStageWrong : ChangeSpec := { name := "erectionStage", fn := fun _ => fun
  | [d1, d2, d3] => { results := [.lit (.bool false)], args := [d1, d2, d3] }
  | _ => none }
def ErectionStageWrongFalsely : Prop := erectionStageRow.holds Try.pinned (OpenSpec.ofChange erectionStageWrong)

/-- 'putloglaw07.ErectionSchedules': WHATEVER THE INPUT: true; the input reads as it did. -/
def erectionSchedulesSpec : ChangeSpec := { name := "erectionSchedules", fn := fun _ => fun
  | [d1, d2] => { results := [.lit (.bool true)], args := [d1, d2] }
  | _ => none }
def erectionSchedulesRow : OpenClaim := { program := "ytjmjiegplnfiiaa", sum := "127d476b0870d99c31e417bc0693862770a5fba70592ae7bad98a2d7128847f3", func := "putlog/putloglaw07.ErectionSchedules", spec := "erectionSchedules", unfollowed := true, recurses := true, plainKeys := false, apart := false }
def ErectionSchedulesSaid : Prop := erectionSchedulesRow.holds Try.pinned (OpenSpec.ofChange erectionSchedulesSpec)

/-- ITS FALSE NEIGHBOUR: 'it returns false'. Refute it at one input. -/
def erectionSchedulesWrong : ChangeSpec := { name := "erectionSchedules", fn := fun _ => fun
  | [d1, d2] => { results := [.lit (.bool false)], args := [d1, d2] }
  | _ => none }
def ErectionSchedulesWrongFalsely : Prop := erectionSchedulesRow.holds Try.pinned (OpenSpec.ofChange erectionSchedulesWrong)

/-- 'putloglaw07.ErectionStable': WHATEVER THE INPUT: true; the input reads as it did. -/
def erectionStableSpec : ChangeSpec := { name := "erectionStable", fn := fun _ => fun
  | [d1, d2] => { results := [.lit (.bool true)], args := [d1, d2] }
  | _ => none }
def erectionStableRow : OpenClaim := { program := "ytjmjiegplnfiiaa", sum := "127d476b0870d99c31e417bc0693862770a5fba70592ae7bad98a2d7128847f3", func := "putlog/putloglaw07.ErectionStable", spec := "erectionStable", unfollowed := true, recurses := true, plainKeys := false, apart := false }
def ErectionStableSaid : Prop := erectionStableRow.holds Try.pinned (OpenSpec.ofChange erectionStableSpec)

/-- ITS FALSE NEIGHBOUR: 'it returns false'. Refute it at one input. -/
def erectionStableWrong : ChangeSpec := { name := "erectionStable", fn := fun _ => fun
  | [d1, d2] => { results := [.lit (.bool false)], args := [d1, d2] }
  | _ => none }
def ErectionStableWrongFalsely : Prop := erectionStableRow.holds Try.pinned (OpenSpec.ofChange erectionStableWrong)

/-- 'putloglaw07.ErectionBounds': WHATEVER THE INPUT: true; the input reads as it did. -/
def erectionBoundsSpec : ChangeSpec := { name := "erectionBounds", fn := fun _ => fun
  | [d1, d2] => { results := [.lit (.bool true)], args := [d1, d2] }
  | _ => none }
def erectionBoundsRow : OpenClaim := { program := "ytjmjiegplnfiiaa", sum := "127d476b0870d99c31e417bc0693862770a5fba70592ae7bad98a2d7128847f3", func := "putlog/putloglaw07.ErectionBounds", spec := "erectionBounds", unfollowed := true, recurses := true, plainKeys := false, apart := false }
def ErectionBoundsSaid : Prop := erectionBoundsRow.holds Try.pinned (OpenSpec.ofChange erectionBoundsSpec)

/-- ITS FALSE NEIGHBOUR: 'it returns false'. Refute it at one input. -/
def erectionBoundsWrong : ChangeSpec := { name := "erectionBounds", fn := fun _ => fun
  | [d1, d2] => { results := [.lit (.bool false)], args := [d1, d2] }
  | _ => none }
def ErectionBoundsWrongFalsely : Prop := erectionBoundsRow.holds Try.pinned (OpenSpec.ofChange erectionBoundsWrong)

/- THE SECOND FORM. 'bulk': how many values and letters a reading holds, each counted each time it is reached (what is shared counts as often as it is met; a slice's spare places count too). A statement '..UptoSaid' is the law's where the arguments, and the package variables that the reading takes, are together of bulk at most 1048576: NARROWER than '..Said'. Prove '..Said' where nothing that the law and all that it calls make is longer than what came in: it says more and counts as full. Else prove '..UptoSaid'. A law counts once. -/
mutual
def uptoBulk {H : Type} : DataW H → Nat
  | .lit (.string bytes) => bytes.length + 1
  | .lit _ => 1
  | .nil => 1
  | .ptr d => uptoBulk d + 1
  | .slice elems spare => uptoBulkAll elems + uptoBulkAll spare + 1
  | .agg parts => uptoBulkAll parts + 1
  | .iface _ d => uptoBulk d + 1
  | .map entries => uptoBulkEntries entries + 1
  | .held _ => 1
def uptoBulkAll {H : Type} : List (DataW H) → Nat
  | [] => 0
  | d :: r => uptoBulk d + uptoBulkAll r
def uptoBulkEntries {H : Type} : List (Lit × DataW H) → Nat
  | [] => 0
  | x :: r => uptoBulkEntry x + uptoBulkEntries r
def uptoBulkEntry {H : Type} : Lit × DataW H → Nat
  | (.string bytes, d) => bytes.length + uptoBulk d + 1
  | (_, d) => uptoBulk d + 1
 end
def uptoSmall : (H : Type) → List (DataW H) → Bool := fun _ ds => decide (uptoBulkAll ds ≤ 1048576)
def OpenSpec.upto (s : _root_.Go.ChangeSpec) : _root_.Go.OpenSpec := { _root_.Go.OpenSpec.ofChange s with cond := some uptoSmall }

/-- 'putloglaw07.ErectionFewest', WHERE WHAT IT READS IS OF BULK AT MOST 1048576: true; the input reads as it did. -/
def erectionFewestUptoRow : OpenClaim := { program := "ytjmjiegplnfiiaa", sum := "127d476b0870d99c31e417bc0693862770a5fba70592ae7bad98a2d7128847f3", func := "putlog/putloglaw07.ErectionFewest", spec := "erectionFewest", unfollowed := true, recurses := true, plainKeys := false, apart := false, narrowed := true }
def ErectionFewestUptoSaid : Prop := erectionFewestUptoRow.holds Try.pinned (OpenSpec.upto erectionFewestSpec)

/-- 'putloglaw07.ErectionEnds', WHERE WHAT IT READS IS OF BULK AT MOST 1048576: true; the input reads as it did. -/
def erectionEndsUptoRow : OpenClaim := { program := "ytjmjiegplnfiiaa", sum := "127d476b0870d99c31e417bc0693862770a5fba70592ae7bad98a2d7128847f3", func := "putlog/putloglaw07.ErectionEnds", spec := "erectionEnds", unfollowed := true, recurses := true, plainKeys := false, apart := false, narrowed := true }
def ErectionEndsUptoSaid : Prop := erectionEndsUptoRow.holds Try.pinned (OpenSpec.upto erectionEndsSpec)

/-- 'putloglaw07.ErectionPlans', WHERE WHAT IT READS IS OF BULK AT MOST 1048576: true; the input reads as it did. -/
def erectionPlansUptoRow : OpenClaim := { program := "ytjmjiegplnfiiaa", sum := "127d476b0870d99c31e417bc0693862770a5fba70592ae7bad98a2d7128847f3", func := "putlog/putloglaw07.ErectionPlans", spec := "erectionPlans", unfollowed := true, recurses := true, plainKeys := false, apart := false, narrowed := true }
def ErectionPlansUptoSaid : Prop := erectionPlansUptoRow.holds Try.pinned (OpenSpec.upto erectionPlansSpec)

/-- 'putloglaw07.ErectionStages', WHERE WHAT IT READS IS OF BULK AT MOST 1048576: true; the input reads as it did. -/
def erectionStagesUptoRow : OpenClaim := { program := "ytjmjiegplnfiiaa", sum := "127d476b0870d99c31e417bc0693862770a5fba70592ae7bad98a2d7128847f3", func := "putlog/putloglaw07.ErectionStages", spec := "erectionStages", unfollowed := true, recurses := true, plainKeys := false, apart := false, narrowed := true }
def ErectionStagesUptoSaid : Prop := erectionStagesUptoRow.holds Try.pinned (OpenSpec.upto erectionStagesSpec)

/-- 'putloglaw07.ErectionTurned', WHERE WHAT IT READS IS OF BULK AT MOST 1048576: true; the input reads as it did. -/
def erectionTurnedUptoRow : OpenClaim := { program := "ytjmjiegplnfiiaa", sum := "127d476b0870d99c31e417bc0693862770a5fba70592ae7bad98a2d7128847f3", func := "putlog/putloglaw07.ErectionTurned", spec := "erectionTurned", unfollowed := true, recurses := true, plainKeys := false, apart := false, narrowed := true }
def ErectionTurnedUptoSaid : Prop := erectionTurnedUptoRow.holds Try.pinned (OpenSpec.upto erectionTurnedSpec)

/-- 'putloglaw07.ErectionAccepts', WHERE WHAT IT READS IS OF BULK AT MOST 1048576: true; the input reads as it did. -/
def erectionAcceptsUptoRow : OpenClaim := { program := "ytjmjiegplnfiiaa", sum := "127d476b0870d99c31e417bc0693862770a5fba70592ae7bad98a2d7128847f3", func := "putlog/putloglaw07.ErectionAccepts", spec := "erectionAccepts", unfollowed := true, recurses := true, plainKeys := false, apart := false, narrowed := true }
def ErectionAcceptsUptoSaid : Prop := erectionAcceptsUptoRow.holds Try.pinned (OpenSpec.upto erectionAcceptsSpec)

/-- 'putloglaw07.ErectionScheduleChecks', WHERE WHAT IT READS IS OF BULK AT MOST 1048576: true; the input reads as it did. -/
def erectionScheduleChecksUptoRow : OpenClaim := { program := "ytjmjiegplnfiiaa", sum := "127d476b0870d99c31e417bc0693862770a5fba70592ae7bad98a2d7128847f3", func := "putlog/putloglaw07.ErectionScheduleChecks", spec := "erectionScheduleChecks", unfollowed := true, recurses := true, plainKeys := false, apart := false, narrowed := true }
def ErectionScheduleChecksUptoSaid : Prop := erectionScheduleChecksUptoRow.holds Try.pinned (OpenSpec.upto erectionScheduleChecksSpec)

/-- 'putloglaw07.ErectionStage', WHERE WHAT IT READS IS OF BULK AT MOST 1048576: true; the input reads as it did. -/
def erectionStageUptoRow : OpenClaim := { program := "ytjmjiegplnfiiaa", sum := "127d476b0870d99c31e417bc0693862770a5fba70592ae7bad98a2d7128847f3", func := "putlog/putloglaw07.ErectionStage", spec := "erectionStage", unfollowed := true, recurses := true, plainKeys := false, apart := false, narrowed := true }
def ErectionStageUptoSaid : Prop := erectionStageUptoRow.holds Try.pinned (OpenSpec.upto erectionStageSpec)

/-- 'putloglaw07.ErectionSchedules', WHERE WHAT IT READS IS OF BULK AT MOST 1048576: true; the input reads as it did. -/
def erectionSchedulesUptoRow : OpenClaim := { program := "ytjmjiegplnfiiaa", sum := "127d476b0870d99c31e417bc0693862770a5fba70592ae7bad98a2d7128847f3", func := "putlog/putloglaw07.ErectionSchedules", spec := "erectionSchedules", unfollowed := true, recurses := true, plainKeys := false, apart := false, narrowed := true }
def ErectionSchedulesUptoSaid : Prop := erectionSchedulesUptoRow.holds Try.pinned (OpenSpec.upto erectionSchedulesSpec)

/-- 'putloglaw07.ErectionStable', WHERE WHAT IT READS IS OF BULK AT MOST 1048576: true; the input reads as it did. -/
def erectionStableUptoRow : OpenClaim := { program := "ytjmjiegplnfiiaa", sum := "127d476b0870d99c31e417bc0693862770a5fba70592ae7bad98a2d7128847f3", func := "putlog/putloglaw07.ErectionStable", spec := "erectionStable", unfollowed := true, recurses := true, plainKeys := false, apart := false, narrowed := true }
def ErectionStableUptoSaid : Prop := erectionStableUptoRow.holds Try.pinned (OpenSpec.upto erectionStableSpec)

/-- 'putloglaw07.ErectionBounds', WHERE WHAT IT READS IS OF BULK AT MOST 1048576: true; the input reads as it did. -/
def erectionBoundsUptoRow : OpenClaim := { program := "ytjmjiegplnfiiaa", sum := "127d476b0870d99c31e417bc0693862770a5fba70592ae7bad98a2d7128847f3", func := "putlog/putloglaw07.ErectionBounds", spec := "erectionBounds", unfollowed := true, recurses := true, plainKeys := false, apart := false, narrowed := true }
def ErectionBoundsUptoSaid : Prop := erectionBoundsUptoRow.holds Try.pinned (OpenSpec.upto erectionBoundsSpec)

end Rows
end Go.Proofs.Ytjmjiegplnfiiaa
