import Derived.Shelf.SlSortCmp.NoneTotal
import Derived.Shelf.Small.Strs
import Derived.Shelf.SlicesG.Cmp
import Derived.Ground.SlsfProg
import Derived.Ground.NamesProg
import Derived.Ground.SlgcProg
import Derived.Test.YtjihcgcbnbaclaaGreatDoorProg
set_option linter.unusedSimpArgs false
set_option linter.unusedVariables false
namespace Go.Proofs
open Go.Shelf
def Tryz.sortF_ren : Go.Shelf.Ren := ⟨fun | 6 => 64 | 15 => 76 | 14 => 75 | 28 => 91 | 29 => 92 | 20 => 83 | 21 => 84 | 22 => 85 | 23 => 86 | 24 => 87 | 25 => 88 | 26 => 89 | 27 => 90 | 46 => 95 | 47 => 96 | 48 => 97 | 49 => 98 | 50 => 99 | 57 => 109 | n => n, fun | 22 => 106 | 24 => 91 | 25 => 114 | 3 => 3 | 39 => 147 | 0 => 0 | 53 => 161 | 55 => 163 | 4 => 4 | 46 => 154 | 45 => 153 | 50 => 158 | 5 => 5 | 9 => 9 | 66 => 166 | 70 => 170 | 76 => 178 | 77 => 179 | n => n, fun | n => n⟩
theorem Tryz.sortF : Go.Proofs.SlLaysF0.n6 Tryz.prog Tryz.sortF_ren := {
 mixed := by kernel_rfl
 f6 := ⟨Tryz.f64.name, by decide, Tryz.func64.trans (congrArg some (by kernel_rfl))⟩
 f14 := ⟨Tryz.f75.name, by decide, Tryz.func75.trans (congrArg some (by kernel_rfl))⟩
 f15 := Tryz.func76.trans (congrArg some (by kernel_rfl))
 f20 := ⟨Tryz.f83.name, by decide, Tryz.func83.trans (congrArg some (by kernel_rfl))⟩
 f21 := ⟨Tryz.f84.name, by decide, Tryz.func84.trans (congrArg some (by kernel_rfl))⟩
 f22 := ⟨Tryz.f85.name, by decide, Tryz.func85.trans (congrArg some (by kernel_rfl))⟩
 f23 := ⟨Tryz.f86.name, by decide, Tryz.func86.trans (congrArg some (by kernel_rfl))⟩
 f24 := ⟨Tryz.f87.name, by decide, Tryz.func87.trans (congrArg some (by kernel_rfl))⟩
 f25 := ⟨Tryz.f88.name, by decide, Tryz.func88.trans (congrArg some (by kernel_rfl))⟩
 f26 := ⟨Tryz.f89.name, by decide, Tryz.func89.trans (congrArg some (by kernel_rfl))⟩
 f27 := ⟨Tryz.f90.name, by decide, Tryz.func90.trans (congrArg some (by kernel_rfl))⟩
 f28 := Tryz.func91.trans (congrArg some (by kernel_rfl))
 f29 := Tryz.func92.trans (congrArg some (by kernel_rfl))
 f46 := ⟨Tryz.f95.name, by decide, Tryz.func95.trans (congrArg some (by kernel_rfl))⟩
 f47 := Tryz.func96.trans (congrArg some (by kernel_rfl))
 f48 := Tryz.func97.trans (congrArg some (by kernel_rfl))
 f49 := ⟨Tryz.f98.name, by decide, Tryz.func98.trans (congrArg some (by kernel_rfl))⟩
 f50 := ⟨Tryz.f99.name, by decide, Tryz.func99.trans (congrArg some (by kernel_rfl))⟩
 f57 := ⟨Tryz.f109.name, by decide, Tryz.func109.trans (congrArg some (by kernel_rfl))⟩
 t0 := Tryz.underlying0
 a0 := Tryz.isAgg0
 z0 := Tryz.sizeOf0
 v0 := Tryz.zeroValue0
 t3 := Tryz.underlying3
 a3 := Tryz.isAgg3
 z3 := Tryz.sizeOf3
 v3 := Tryz.zeroValue3
 t4 := Tryz.underlying4
 a4 := Tryz.isAgg4
 z4 := Tryz.sizeOf4
 v4 := Tryz.zeroValue4
 t5 := Tryz.underlying5
 a5 := Tryz.isAgg5
 z5 := Tryz.sizeOf5
 v5 := Tryz.zeroValue5
 t9 := Tryz.underlying9
 a9 := Tryz.isAgg9
 z9 := Tryz.sizeOf9
 v9 := Tryz.zeroValue9
 t22 := Tryz.underlying106
 a22 := Tryz.isAgg106
 z22 := Tryz.sizeOf106
 v22 := Tryz.zeroValue106
 t25 := Tryz.underlying114
 a25 := Tryz.isAgg114
 z25 := Tryz.sizeOf114
 v25 := Tryz.zeroValue114
 t39 := Tryz.underlying147
 a39 := Tryz.isAgg147
 z39 := Tryz.sizeOf147
 v39 := Tryz.zeroValue147
 t45 := Tryz.underlying153
 a45 := Tryz.isAgg153
 z45 := Tryz.sizeOf153
 v45 := Tryz.zeroValue153
 t46 := Tryz.underlying154
 a46 := Tryz.isAgg154
 z46 := Tryz.sizeOf154
 v46 := Tryz.zeroValue154
 t50 := Tryz.underlying158
 a50 := Tryz.isAgg158
 z50 := Tryz.sizeOf158
 v50 := Tryz.zeroValue158
 t53 := Tryz.underlying161
 a53 := Tryz.isAgg161
 z53 := Tryz.sizeOf161
 v53 := Tryz.zeroValue161
 t55 := Tryz.underlying163
 a55 := Tryz.isAgg163
 z55 := Tryz.sizeOf163
 v55 := Tryz.zeroValue163
 t66 := Tryz.underlying166
 a66 := Tryz.isAgg166
 z66 := Tryz.sizeOf166
 v66 := Tryz.zeroValue166
 t70 := Tryz.underlying170
 a70 := Tryz.isAgg170
 z70 := Tryz.sizeOf170
 v70 := Tryz.zeroValue170
 t76 := Tryz.underlying178
 a76 := Tryz.isAgg178
 z76 := Tryz.sizeOf178
 v76 := Tryz.zeroValue178
 t77 := Tryz.underlying179
 a77 := Tryz.isAgg179
 z77 := Tryz.sizeOf179
 v77 := Tryz.zeroValue179 }
def Tryz.cmpStr_ren : Go.Shelf.Ren := ⟨fun | 106 => 51 | 213 => 66 | 265 => 77 | n => n, fun | 9 => 9 | 3 => 3 | n => n, fun | n => n⟩
theorem Tryz.cmpStr : Go.Proofs.Lays.n106 Tryz.prog Tryz.cmpStr_ren := {
 mixed := by kernel_rfl
 f106 := Tryz.func51.trans (congrArg some (by kernel_rfl))
 f213 := Tryz.func66.trans (congrArg some (by kernel_rfl))
 f265 := Tryz.func77.trans (congrArg some (by kernel_rfl))
 t3 := Tryz.underlying3
 a3 := Tryz.isAgg3
 z3 := Tryz.sizeOf3
 v3 := Tryz.zeroValue3
 t9 := Tryz.underlying9
 a9 := Tryz.isAgg9
 z9 := Tryz.sizeOf9
 v9 := Tryz.zeroValue9 }
def Tryz.cmpInt_ren : Go.Shelf.Ren := ⟨fun | 5 => 52 | 7 => 67 | n => n, fun | 22 => 3 | 3 => 3 | 4 => 4 | n => n, fun | n => n⟩
theorem Tryz.cmpInt : Go.Proofs.SlLaysC2.n5 Tryz.prog Tryz.cmpInt_ren := {
 mixed := by kernel_rfl
 f5 := ⟨Tryz.f52.name, by decide, Tryz.func52.trans (congrArg some (by kernel_rfl))⟩
 f7 := ⟨Tryz.f67.name, by decide, Tryz.func67.trans (congrArg some (by kernel_rfl))⟩
 t3 := Tryz.underlying3
 a3 := Tryz.isAgg3
 z3 := Tryz.sizeOf3
 v3 := Tryz.zeroValue3
 t4 := Tryz.underlying4
 a4 := Tryz.isAgg4
 z4 := Tryz.sizeOf4
 v4 := Tryz.zeroValue4
 t22 := Tryz.underlying3
 a22 := Tryz.isAgg3
 z22 := Tryz.sizeOf3
 v22 := Tryz.zeroValue3 }
end Go.Proofs
