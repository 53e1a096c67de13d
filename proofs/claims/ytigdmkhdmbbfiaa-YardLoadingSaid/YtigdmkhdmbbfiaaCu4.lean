/- What a cut is worth, as the document tells it. No conditions. -/
import Derived.Test.YtigdmkhdmbbfiaaCu2
import Derived.Test.YtigdmkhdmbbfiaaMa1
set_option linter.unusedSimpArgs false
set_option linter.unusedVariables false
set_option maxRecDepth 100000
namespace Go.Proofs.Ytigdmkhdmbbfiaa
open Go Go.Pv
/-! ### The table of a cut -/
section
variable {t : Traffic} {l : List At} {k p d : Nat} {x : At} {a b : Int}
end

end Go.Proofs.Ytigdmkhdmbbfiaa
