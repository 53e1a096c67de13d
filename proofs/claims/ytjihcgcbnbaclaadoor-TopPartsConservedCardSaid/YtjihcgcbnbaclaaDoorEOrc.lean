import Derived.Shelf.SlSortCmp.NoneTotal
import Derived.Shelf.Small.Strs
import Derived.Shelf.SlicesG.Cmp
import Derived.Ground.SlsfProg
import Derived.Ground.NamesProg
import Derived.Ground.SlgcProg
import Derived.Test.YtjihcgcbnbaclaaDoorProg
set_option linter.unusedSimpArgs false
set_option linter.unusedVariables false
namespace Go.Proofs
open Go.Shelf
def Tryd.sortF_ren : Go.Shelf.Ren := ⟨fun | 6 => 59 | 15 => 72 | 14 => 71 | 28 => 87 | 29 => 88 | 20 => 79 | 21 => 80 | 22 => 81 | 23 => 82 | 24 => 83 | 25 => 84 | 26 => 85 | 27 => 86 | 46 => 91 | 47 => 92 | 48 => 93 | 49 => 94 | 50 => 95 | 57 => 105 | n => n, fun | 22 => 90 | 24 => 78 | 25 => 98 | 3 => 3 | 39 => 135 | 0 => 0 | 53 => 149 | 55 => 151 | 4 => 4 | 46 => 142 | 45 => 141 | 50 => 146 | 5 => 5 | 9 => 9 | 66 => 154 | 70 => 158 | 76 => 166 | 77 => 167 | n => n, fun | n => n⟩
theorem Tryd.sortF : Go.Proofs.SlLaysF0.n6 Tryd.prog Tryd.sortF_ren := {
 mixed := by kernel_rfl
 f6 := ⟨Tryd.f59.name, by decide, Tryd.func59.trans (congrArg some (by kernel_rfl))⟩
 f14 := ⟨Tryd.f71.name, by decide, Tryd.func71.trans (congrArg some (by kernel_rfl))⟩
 f15 := Tryd.func72.trans (congrArg some (by kernel_rfl))
 f20 := ⟨Tryd.f79.name, by decide, Tryd.func79.trans (congrArg some (by kernel_rfl))⟩
 f21 := ⟨Tryd.f80.name, by decide, Tryd.func80.trans (congrArg some (by kernel_rfl))⟩
 f22 := ⟨Tryd.f81.name, by decide, Tryd.func81.trans (congrArg some (by kernel_rfl))⟩
 f23 := ⟨Tryd.f82.name, by decide, Tryd.func82.trans (congrArg some (by kernel_rfl))⟩
 f24 := ⟨Tryd.f83.name, by decide, Tryd.func83.trans (congrArg some (by kernel_rfl))⟩
 f25 := ⟨Tryd.f84.name, by decide, Tryd.func84.trans (congrArg some (by kernel_rfl))⟩
 f26 := ⟨Tryd.f85.name, by decide, Tryd.func85.trans (congrArg some (by kernel_rfl))⟩
 f27 := ⟨Tryd.f86.name, by decide, Tryd.func86.trans (congrArg some (by kernel_rfl))⟩
 f28 := Tryd.func87.trans (congrArg some (by kernel_rfl))
 f29 := Tryd.func88.trans (congrArg some (by kernel_rfl))
 f46 := ⟨Tryd.f91.name, by decide, Tryd.func91.trans (congrArg some (by kernel_rfl))⟩
 f47 := Tryd.func92.trans (congrArg some (by kernel_rfl))
 f48 := Tryd.func93.trans (congrArg some (by kernel_rfl))
 f49 := ⟨Tryd.f94.name, by decide, Tryd.func94.trans (congrArg some (by kernel_rfl))⟩
 f50 := ⟨Tryd.f95.name, by decide, Tryd.func95.trans (congrArg some (by kernel_rfl))⟩
 f57 := ⟨Tryd.f105.name, by decide, Tryd.func105.trans (congrArg some (by kernel_rfl))⟩
 t0 := Tryd.underlying0
 a0 := Tryd.isAgg0
 z0 := Tryd.sizeOf0
 v0 := Tryd.zeroValue0
 t3 := Tryd.underlying3
 a3 := Tryd.isAgg3
 z3 := Tryd.sizeOf3
 v3 := Tryd.zeroValue3
 t4 := Tryd.underlying4
 a4 := Tryd.isAgg4
 z4 := Tryd.sizeOf4
 v4 := Tryd.zeroValue4
 t5 := Tryd.underlying5
 a5 := Tryd.isAgg5
 z5 := Tryd.sizeOf5
 v5 := Tryd.zeroValue5
 t9 := Tryd.underlying9
 a9 := Tryd.isAgg9
 z9 := Tryd.sizeOf9
 v9 := Tryd.zeroValue9
 t22 := Tryd.underlying90
 a22 := Tryd.isAgg90
 z22 := Tryd.sizeOf90
 v22 := Tryd.zeroValue90
 t25 := Tryd.underlying98
 a25 := Tryd.isAgg98
 z25 := Tryd.sizeOf98
 v25 := Tryd.zeroValue98
 t39 := Tryd.underlying135
 a39 := Tryd.isAgg135
 z39 := Tryd.sizeOf135
 v39 := Tryd.zeroValue135
 t45 := Tryd.underlying141
 a45 := Tryd.isAgg141
 z45 := Tryd.sizeOf141
 v45 := Tryd.zeroValue141
 t46 := Tryd.underlying142
 a46 := Tryd.isAgg142
 z46 := Tryd.sizeOf142
 v46 := Tryd.zeroValue142
 t50 := Tryd.underlying146
 a50 := Tryd.isAgg146
 z50 := Tryd.sizeOf146
 v50 := Tryd.zeroValue146
 t53 := Tryd.underlying149
 a53 := Tryd.isAgg149
 z53 := Tryd.sizeOf149
 v53 := Tryd.zeroValue149
 t55 := Tryd.underlying151
 a55 := Tryd.isAgg151
 z55 := Tryd.sizeOf151
 v55 := Tryd.zeroValue151
 t66 := Tryd.underlying154
 a66 := Tryd.isAgg154
 z66 := Tryd.sizeOf154
 v66 := Tryd.zeroValue154
 t70 := Tryd.underlying158
 a70 := Tryd.isAgg158
 z70 := Tryd.sizeOf158
 v70 := Tryd.zeroValue158
 t76 := Tryd.underlying166
 a76 := Tryd.isAgg166
 z76 := Tryd.sizeOf166
 v76 := Tryd.zeroValue166
 t77 := Tryd.underlying167
 a77 := Tryd.isAgg167
 z77 := Tryd.sizeOf167
 v77 := Tryd.zeroValue167 }
def Tryd.cmpStr_ren : Go.Shelf.Ren := ⟨fun | 106 => 46 | 213 => 61 | 265 => 73 | n => n, fun | 9 => 9 | 3 => 3 | n => n, fun | n => n⟩
theorem Tryd.cmpStr : Go.Proofs.Lays.n106 Tryd.prog Tryd.cmpStr_ren := {
 mixed := by kernel_rfl
 f106 := Tryd.func46.trans (congrArg some (by kernel_rfl))
 f213 := Tryd.func61.trans (congrArg some (by kernel_rfl))
 f265 := Tryd.func73.trans (congrArg some (by kernel_rfl))
 t3 := Tryd.underlying3
 a3 := Tryd.isAgg3
 z3 := Tryd.sizeOf3
 v3 := Tryd.zeroValue3
 t9 := Tryd.underlying9
 a9 := Tryd.isAgg9
 z9 := Tryd.sizeOf9
 v9 := Tryd.zeroValue9 }
def Tryd.cmpInt_ren : Go.Shelf.Ren := ⟨fun | 5 => 47 | 7 => 62 | n => n, fun | 22 => 3 | 3 => 3 | 4 => 4 | n => n, fun | n => n⟩
theorem Tryd.cmpInt : Go.Proofs.SlLaysC2.n5 Tryd.prog Tryd.cmpInt_ren := {
 mixed := by kernel_rfl
 f5 := ⟨Tryd.f47.name, by decide, Tryd.func47.trans (congrArg some (by kernel_rfl))⟩
 f7 := ⟨Tryd.f62.name, by decide, Tryd.func62.trans (congrArg some (by kernel_rfl))⟩
 t3 := Tryd.underlying3
 a3 := Tryd.isAgg3
 z3 := Tryd.sizeOf3
 v3 := Tryd.zeroValue3
 t4 := Tryd.underlying4
 a4 := Tryd.isAgg4
 z4 := Tryd.sizeOf4
 v4 := Tryd.zeroValue4
 t22 := Tryd.underlying3
 a22 := Tryd.isAgg3
 z22 := Tryd.sizeOf3
 v22 := Tryd.zeroValue3 }
end Go.Proofs
