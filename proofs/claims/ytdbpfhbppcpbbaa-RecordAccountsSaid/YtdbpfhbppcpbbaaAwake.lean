/- The examples with which each law of the chapter begins come out true: run by the machine of the P level. No conditions. -/
import Derived.Test.YtdbpfhbppcpbbaaOrc
import Derived.KernelRfl
namespace Go.Proofs.Ytdbpfhbppcpbbaa
open Go Go.Pv
set_option maxRecDepth 100000
theorem mixed : Try.prog.follows .mixedOrders = true := by kernel_rfl
theorem frames_all : framesIn Try.prog 2 161 = true := by kernel_rfl
def goods : Goods := { ok := inRange 2 161, orc := sortedO 116 128 }
theorem goods_ok : GoodsOK Try.prog goods := ⟨framesIn_ok frames_all, sorted_orc⟩
theorem awake_run : closedI Try.prog goods 200 16 [] = some (.bool true) := by kernel_rfl
theorem awake : PCalls Try.prog 16 [] (.bool true) := closed_calls mixed goods_ok awake_run
end Go.Proofs.Ytdbpfhbppcpbbaa
