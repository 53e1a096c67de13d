/- The network of a traffic, as the program makes it. No conditions. -/
import Derived.Test.YtigdmkhdmbbfiaaFi
set_option linter.unusedSimpArgs false
set_option linter.unusedVariables false
set_option maxRecDepth 100000
namespace Go.Proofs.Ytigdmkhdmbbfiaa
open Go Go.Pv
end Go.Proofs.Ytigdmkhdmbbfiaa
