/- The examples with which each law of the chapter begins come out true: run by the machine of the P level. No conditions. -/
import Derived.Test.YtindehoegfiiaaaGreatDoorOrc
import Derived.KernelRfl
namespace Go.Proofs.YtindehoegfiiaaaGreatDoor
open Go Go.Pv
set_option maxRecDepth 100000
def gl : List FuncId := [14, 15, 17, 20, 23, 24, 44, 48, 51, 54, 64, 65, 66, 67, 68, 69, 70, 72, 73, 74, 75, 78, 79, 80, 86, 90, 93, 94, 96, 97, 98, 110, 112, 113, 114, 118, 121, 124, 125, 126, 127, 128, 129, 130, 131, 132, 133, 139, 143, 144, 145, 146, 147, 148, 149, 150, 151, 152, 153, 154, 155, 156, 157, 158, 159, 160, 163, 166, 167, 168, 169, 170, 171, 172, 173, 174, 175, 176, 177, 178, 181, 182, 183, 184, 185, 186, 187, 188, 189, 190, 191]
theorem frames_all : gl.all (frameOK Tryz.prog) = true := by kernel_rfl
theorem frames_ok (h : gl.all (frameOK Tryz.prog) = true) : ∀ f, gl.contains f = true → frameOK Tryz.prog f = true := fun f hf => List.all_eq_true.1 h f (List.contains_iff_mem.1 hf)
def goods : Goods := { ok := fun f => gl.contains f, orc := joinO }
theorem goods_ok : GoodsOK Tryz.prog goods := ⟨frames_ok frames_all, join_orc, fun _ _ _ _ _ h => by cases h⟩
theorem awake_run : closedI Tryz.prog goods 200 14 [] = some (.bool true) := by kernel_rfl
theorem awake : PCalls Tryz.prog 14 [] (.bool true) := closed_calls (by kernel_rfl) goods_ok awake_run
end Go.Proofs.YtindehoegfiiaaaGreatDoor
