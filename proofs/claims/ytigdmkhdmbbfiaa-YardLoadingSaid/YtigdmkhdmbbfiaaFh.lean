/- Nodes and pipes of the network, as the program makes them. No conditions. -/
import Derived.Test.YtigdmkhdmbbfiaaFg
set_option linter.unusedSimpArgs false
set_option linter.unusedVariables false
set_option maxRecDepth 100000
namespace Go.Proofs.Ytigdmkhdmbbfiaa
open Go Go.Pv
end Go.Proofs.Ytigdmkhdmbbfiaa
