/- Ready and closed stages. No conditions. -/
import Derived.Test.YtjmjiegplnfiiaaStg
set_option linter.unusedSimpArgs false
set_option linter.unusedVariables false
set_option maxRecDepth 100000
namespace Go.Proofs.Ytjmjiegplnfiiaa
open Go Go.Pv
end Go.Proofs.Ytjmjiegplnfiiaa
