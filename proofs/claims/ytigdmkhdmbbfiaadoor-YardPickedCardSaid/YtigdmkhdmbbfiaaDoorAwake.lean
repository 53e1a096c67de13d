/- The examples with which each law of the chapter begins come out true: run by the machine of the P level. No conditions. -/
import Derived.Test.YtigdmkhdmbbfiaaDoorSrtA
import Derived.Test.YtigdmkhdmbbfiaaDoorData
import Derived.KernelRfl
namespace Go.Proofs.YtigdmkhdmbbfiaaDoor
open Go Go.Pv
set_option maxRecDepth 100000
theorem frames_all : frames Tryd.prog [7, 17, 21, 25, 26, 27, 30, 31, 33, 34, 36, 43, 44, 45, 46, 49, 56, 57, 58, 59, 66, 71, 82, 83] = true := by kernel_rfl
def goods : Goods := { ok := fun f => ([7, 17, 21, 25, 26, 27, 30, 31, 33, 34, 36, 43, 44, 45, 46, 49, 56, 57, 58, 59, 66, 71, 82, 83] : List FuncId).contains f, orc := sortedFO 48 63 50 }
theorem goods_ok : GoodsOK Tryd.prog goods := ⟨frames_ok frames_all, sortedF_orc⟩
theorem awake_run : closedI Tryd.prog goods 200 7 [] = some (.bool true) := by kernel_rfl
theorem awake : PCalls Tryd.prog 7 [] (.bool true) := closed_calls mixed goods_ok awake_run
end Go.Proofs.YtigdmkhdmbbfiaaDoor
