/- The examples with which each law of the chapter begins come out true: run by the machine of the P level. No conditions. -/
import Derived.Test.YtmlhhdiomijpfaaGreatDoorOrc
import Derived.KernelRfl
namespace Go.Proofs.YtmlhhdiomijpfaaGreatDoor
open Go Go.Pv
set_option maxRecDepth 100000
def gl : List FuncId := [5, 6, 10, 19, 20, 21, 22, 23, 24, 25, 26, 49, 50, 51, 52, 53, 54, 55, 56, 57, 58, 59, 83, 84, 85, 86, 87, 88, 89, 90, 91, 92, 93, 94, 95, 96, 97, 98, 99, 110, 114, 115, 116, 117, 118, 119, 120, 121, 122, 123, 124, 125, 126, 127, 128, 129, 130, 131, 132, 133, 134, 135, 136, 137, 151, 152, 153, 154, 155, 156, 157, 158, 159, 160, 161, 162, 163, 164, 165, 166, 167, 168, 175, 176, 177, 178, 179, 182, 183, 184, 185]
theorem frames_all : gl.all (frameOK Tryz.prog) = true := by kernel_rfl
theorem frames_ok (h : gl.all (frameOK Tryz.prog) = true) : ∀ f, gl.contains f = true → frameOK Tryz.prog f = true := fun f hf => List.all_eq_true.1 h f (List.contains_iff_mem.1 hf)
def goods : Goods := { ok := fun f => gl.contains f, orc := joinO }
theorem goods_ok : GoodsOK Tryz.prog goods := ⟨frames_ok frames_all, join_orc, fun _ _ _ _ _ h => by cases h⟩
theorem awake_run : closedI Tryz.prog goods 200 5 [] = some (.bool true) := by kernel_rfl
theorem awake6 : PCalls Tryz.prog 5 [] (.bool true) := closed_calls (by kernel_rfl) goods_ok awake_run
end Go.Proofs.YtmlhhdiomijpfaaGreatDoor
