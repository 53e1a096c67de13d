/- Pipes are added, told in full. No conditions. -/
import Derived.Test.YtigdmkhdmbbfiaaFi0
set_option linter.unusedSimpArgs false
set_option linter.unusedVariables false
set_option maxRecDepth 100000
namespace Go.Proofs.Ytigdmkhdmbbfiaa
open Go Go.Pv
end Go.Proofs.Ytigdmkhdmbbfiaa
