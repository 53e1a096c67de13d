import Derived.Test.YtjihcgcbnbaclaaGreatDoorRMov14
set_option linter.unusedSimpArgs false
set_option linter.unusedVariables false
set_option maxRecDepth 100000
namespace Go.Proofs.YtjihcgcbnbaclaaGreatDoor.Y9
open Go Go.Pv Go.Proofs.YtjihcgcbnbaclaaGreatDoor
def tOk (t : Term) : Prop := (0 ≤ t.week ∧ t.week ≤ 1000000) ∧ (0 ≤ t.price ∧ t.price ≤ 1000000) ∧ (0 ≤ t.least ∧ t.least ≤ 520)
end Go.Proofs.YtjihcgcbnbaclaaGreatDoor.Y9
