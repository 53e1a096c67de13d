/- Ties, and what is checked. No conditions. -/
import Derived.Test.YtindehoegfiiaaaGreatDoorJak
import Derived.Test.YtindehoegfiiaaaGreatDoorPvGh
set_option linter.unusedSimpArgs false
set_option linter.unusedVariables false
set_option maxRecDepth 100000
namespace Go.Proofs.YtindehoegfiiaaaGreatDoor
open Go Go.Pv
/-! ### Three ways to compare -/
/-! ### Ties in their order -/
section
variable {l : List Tie} {k : Nat} {x y : Tie} {g : Grid}
end
end Go.Proofs.YtindehoegfiiaaaGreatDoor
