/- What needs can take, as the document tells it. No conditions. -/
import Derived.Test.YtigdmkhdmbbfiaaTp2
set_option linter.unusedSimpArgs false
set_option linter.unusedVariables false
set_option maxRecDepth 100000
namespace Go.Proofs.Ytigdmkhdmbbfiaa
open Go Go.Pv
end Go.Proofs.Ytigdmkhdmbbfiaa
