/- Demands. No conditions. -/
import Derived.Test.YtindehoegfiiaaaGreatDoorHdm
set_option linter.unusedSimpArgs false
set_option linter.unusedVariables false
set_option maxRecDepth 100000
namespace Go.Proofs.YtindehoegfiiaaaGreatDoor
open Go Go.Pv
section
variable {g : Grid} {r : Rule} {l : List Tie}
end

end Go.Proofs.YtindehoegfiiaaaGreatDoor
