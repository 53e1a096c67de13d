/- What needs can take, as the program tells it. No conditions. -/
import Derived.Test.YtigdmkhdmbbfiaaTp1
set_option linter.unusedSimpArgs false
set_option linter.unusedVariables false
set_option maxRecDepth 100000
namespace Go.Proofs.Ytigdmkhdmbbfiaa
open Go Go.Pv
theorem mcell1 {α : Type} {f : Nat → α} {D j : Nat} (hj : j < D) : ((List.range D).map f)[j]? = some (f j) := by rw [List.getElem?_map, List.getElem?_range hj]; rfl
end Go.Proofs.Ytigdmkhdmbbfiaa
