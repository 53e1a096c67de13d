/- Held by the reference; lists of demands that are the same. No conditions. -/
import Derived.Test.YtindehoegfiiaaaGreatDoorRdm
set_option linter.unusedSimpArgs false
set_option linter.unusedVariables false
set_option maxRecDepth 100000
namespace Go.Proofs.YtindehoegfiiaaaGreatDoor
open Go Go.Pv
section
variable {g : Grid} {r : Rule} {l : List Tie} {k : Nat} {y : Demand} {h : Heap}
end

end Go.Proofs.YtindehoegfiiaaaGreatDoor
