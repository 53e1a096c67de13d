/- What a cut is worth, as the program tells it. No conditions. -/
import Derived.Test.YtigdmkhdmbbfiaaCu1
set_option linter.unusedSimpArgs false
set_option linter.unusedVariables false
set_option maxRecDepth 100000
namespace Go.Proofs.Ytigdmkhdmbbfiaa
open Go Go.Pv
end Go.Proofs.Ytigdmkhdmbbfiaa
