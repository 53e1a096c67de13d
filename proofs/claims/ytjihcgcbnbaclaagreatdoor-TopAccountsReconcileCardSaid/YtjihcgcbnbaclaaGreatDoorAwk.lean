import Derived.Test.YtjihcgcbnbaclaaGreatDoorESrt6
import Derived.Test.YtjihcgcbnbaclaaGreatDoorRKey
import Derived.Test.YtjihcgcbnbaclaaGreatDoorRDayA
import Derived.KernelRfl
set_option linter.unusedSimpArgs false
set_option linter.unusedVariables false
namespace Go.Proofs.YtjihcgcbnbaclaaGreatDoor.Y9
open Go Go.Pv Go.Proofs.YtjihcgcbnbaclaaGreatDoor
set_option maxRecDepth 100000
theorem frames_all : frames Tryz.prog [5, 14, 18, 20, 27, 28, 29, 30, 31, 35, 36, 37, 42, 43, 44, 45, 46, 48, 55, 56, 57, 58, 59, 61, 62, 65, 68, 69, 71, 72, 73, 78, 81, 82] = true := by kernel_rfl
def bothO (f : FuncId) (args : List PV) (h : HL) (c : CL) : Option (PV × HL × CL) := bif Nat.beq f 70 then sortedO 70 81 f args h c else sortedFO 47 65 49 f args h c
theorem both_orc (f : FuncId) (args : List PV) (h : HL) (c : CL) (v : PV) (h' : HL) (c' : CL) (ho : bothO f args h c = some (v, h', c')) (R : PV → Heap → (Nat → Nat) → Prop) (hR : R v (hGet h') (cGet c')) : HCallsR Tryz.prog f args (hGet h) (cGet c) R := by
 unfold bothO at ho;cases hb : Nat.beq f 70 with
 | true => rw [hb] at ho; exact sorted_orc f args h c v h' c' ho R hR
 | false => rw [hb] at ho; exact Y8.sortedF_orc f args h c v h' c' ho R hR
def goods : Goods := { ok := fun f => ([5, 14, 18, 20, 27, 28, 29, 30, 31, 35, 36, 37, 42, 43, 44, 45, 46, 48, 55, 56, 57, 58, 59, 61, 62, 65, 68, 69, 71, 72, 73, 78, 81, 82] : List FuncId).contains f, orc := bothO }
theorem goods_ok : GoodsOK Tryz.prog goods := ⟨frames_ok frames_all, both_orc, fun _ _ _ _ _ h => by cases h⟩
theorem kept_run : closedI Tryz.prog goods 200 5 [] = some (.bool true) := by kernel_rfl
theorem kept : PCalls Tryz.prog 5 [] (.bool true) := closed_calls mixed goods_ok kept_run
end Go.Proofs.YtjihcgcbnbaclaaGreatDoor.Y9
