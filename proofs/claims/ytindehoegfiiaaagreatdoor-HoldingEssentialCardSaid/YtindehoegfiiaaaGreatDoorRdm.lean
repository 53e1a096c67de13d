/- The demands of the reference. No conditions. -/
import Derived.Test.YtindehoegfiiaaaGreatDoorDmn
set_option linter.unusedSimpArgs false
set_option linter.unusedVariables false
set_option maxRecDepth 100000
namespace Go.Proofs.YtindehoegfiiaaaGreatDoor
open Go Go.Pv
end Go.Proofs.YtindehoegfiiaaaGreatDoor
