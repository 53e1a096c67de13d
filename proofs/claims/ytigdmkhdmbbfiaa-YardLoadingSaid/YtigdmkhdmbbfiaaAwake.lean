/- The examples with which each law of the chapter begins come out true: run by the machine of the P level. No conditions. -/
import Derived.Test.YtigdmkhdmbbfiaaSrtB
import Derived.Test.YtigdmkhdmbbfiaaData
import Derived.KernelRfl
namespace Go.Proofs.Ytigdmkhdmbbfiaa
open Go Go.Pv
set_option maxRecDepth 100000
theorem frames_all : framesIn Try.prog 3 126 = true := by kernel_rfl
def goods : Goods := { ok := inRange 3 126, orc := sortedFO 94 111 96 }
theorem goods_ok : GoodsOK Try.prog goods := ⟨framesIn_ok frames_all, sortedF_orc, fun _ _ _ _ _ h => by cases h⟩
theorem awake_run : closedI Try.prog goods 200 13 [] = some (.bool true) := by kernel_rfl
theorem awake : PCalls Try.prog 13 [] (.bool true) := closed_calls mixed goods_ok awake_run
end Go.Proofs.Ytigdmkhdmbbfiaa
