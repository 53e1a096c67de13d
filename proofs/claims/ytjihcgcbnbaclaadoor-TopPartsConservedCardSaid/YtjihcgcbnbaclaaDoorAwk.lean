import Derived.Test.YtjihcgcbnbaclaaDoorESrt6
import Derived.Test.YtjihcgcbnbaclaaDoorRKey
import Derived.Test.YtjihcgcbnbaclaaDoorRDayA
import Derived.KernelRfl
set_option linter.unusedSimpArgs false
set_option linter.unusedVariables false
namespace Go.Proofs.YtjihcgcbnbaclaaDoor.Y9
open Go Go.Pv Go.Proofs.YtjihcgcbnbaclaaDoor
set_option maxRecDepth 100000
theorem frames_all : frames Tryd.prog [5, 7, 11, 13, 17, 18, 19, 20, 21, 22, 23, 34, 35, 36, 37, 38, 39, 40, 41, 43, 52, 53, 54, 55, 56, 57, 60, 63, 64, 65, 67, 68, 69, 74, 77, 78] = true := by kernel_rfl
def bothO (f : FuncId) (args : List PV) (h : HL) (c : CL) : Option (PV × HL × CL) := bif Nat.beq f 66 then sortedO 66 77 f args h c else sortedFO 42 60 44 f args h c
theorem both_orc (f : FuncId) (args : List PV) (h : HL) (c : CL) (v : PV) (h' : HL) (c' : CL) (ho : bothO f args h c = some (v, h', c')) (R : PV → Heap → (Nat → Nat) → Prop) (hR : R v (hGet h') (cGet c')) : HCallsR Tryd.prog f args (hGet h) (cGet c) R := by
 unfold bothO at ho;cases hb : Nat.beq f 66 with
 | true => rw [hb] at ho; exact sorted_orc f args h c v h' c' ho R hR
 | false => rw [hb] at ho; exact Y8.sortedF_orc f args h c v h' c' ho R hR
def goods : Goods := { ok := fun f => ([5, 7, 11, 13, 17, 18, 19, 20, 21, 22, 23, 34, 35, 36, 37, 38, 39, 40, 41, 43, 52, 53, 54, 55, 56, 57, 60, 63, 64, 65, 67, 68, 69, 74, 77, 78] : List FuncId).contains f, orc := bothO }
theorem goods_ok : GoodsOK Tryd.prog goods := ⟨frames_ok frames_all, both_orc, fun _ _ _ _ _ h => by cases h⟩
theorem hired_run : closedI Tryd.prog goods 200 5 [] = some (.bool true) := by kernel_rfl
theorem hired : PCalls Tryd.prog 5 [] (.bool true) := closed_calls mixed goods_ok hired_run
end Go.Proofs.YtjihcgcbnbaclaaDoor.Y9
