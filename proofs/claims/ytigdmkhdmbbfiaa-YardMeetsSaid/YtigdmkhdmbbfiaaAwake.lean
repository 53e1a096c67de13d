import Derived.Test.YtigdmkhdmbbfiaaSrtB
import Derived.Test.YtigdmkhdmbbfiaaData
import Derived.KernelRfl
set_option linter.unusedSimpArgs false
set_option linter.unusedVariables false
namespace Go.Proofs.Ytigdmkhdmbbfiaa
open Go Go.Pv
set_option maxRecDepth 100000
theorem frames_all : zHd Try.prog 3 126 = true := by kernel_rfl
def goods : Goods := { ok := zH2 3 126, orc := zIm 94 111 96 }
theorem goods_ok : GoodsOK Try.prog goods := ⟨zGD frames_all, sortedF_orc, fun _ _ _ _ _ h => by cases h⟩
theorem awake_run : zKu Try.prog goods 200 13 [] = some (.bool true) := by kernel_rfl
theorem awake : PCalls Try.prog 13 [] (.bool true) := closed_calls mixed goods_ok awake_run
end Go.Proofs.Ytigdmkhdmbbfiaa
