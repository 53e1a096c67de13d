/- 'slices.SortedFunc(maps.Keys(s), cmp)' at this program, 1: the layings of the library's contracts (by the kit's tool), the function that compares. No conditions. -/
import Derived.Shelf.SlSortCmp.NoneTotal
import Derived.Shelf.Small.Strs
import Derived.Shelf.SlicesG.Cmp
import Derived.Ground.SlsfProg
import Derived.Ground.NamesProg
import Derived.Ground.SlgcProg
import Derived.Test.YtigdmkhdmbbfiaaProg
namespace Go.Proofs
open Go.Shelf
def Try.sortF_ren : Go.Shelf.Ren := ⟨fun | 6 => 110 | 15 => 107 | 14 => 128 | 28 => 123 | 29 => 124 | 20 => 135 | 21 => 136 | 22 => 137 | 23 => 138 | 24 => 139 | 25 => 140 | 26 => 141 | 27 => 142 | 46 => 144 | 47 => 131 | 48 => 132 | 49 => 145 | 50 => 146 | 57 => 147 | n => n, fun | 22 => 175 | 24 => 124 | 25 => 182 | 3 => 3 | 39 => 194 | 0 => 0 | 53 => 210 | 55 => 212 | 4 => 4 | 46 => 203 | 45 => 202 | 50 => 152 | 5 => 5 | 9 => 9 | 66 => 219 | 70 => 223 | 76 => 230 | 77 => 61 | n => n, fun | n => n⟩
theorem Try.sortF : Go.Proofs.SlLaysF0.n6 Try.prog Try.sortF_ren := {
 mixed := by kernel_rfl
 f6 := ⟨Try.f110.name, by decide, Try.func110.trans (congrArg some (by kernel_rfl))⟩
 f14 := ⟨Try.f128.name, by decide, Try.func128.trans (congrArg some (by kernel_rfl))⟩
 f15 := Try.func107.trans (congrArg some (by kernel_rfl))
 f20 := ⟨Try.f135.name, by decide, Try.func135.trans (congrArg some (by kernel_rfl))⟩
 f21 := ⟨Try.f136.name, by decide, Try.func136.trans (congrArg some (by kernel_rfl))⟩
 f22 := ⟨Try.f137.name, by decide, Try.func137.trans (congrArg some (by kernel_rfl))⟩
 f23 := ⟨Try.f138.name, by decide, Try.func138.trans (congrArg some (by kernel_rfl))⟩
 f24 := ⟨Try.f139.name, by decide, Try.func139.trans (congrArg some (by kernel_rfl))⟩
 f25 := ⟨Try.f140.name, by decide, Try.func140.trans (congrArg some (by kernel_rfl))⟩
 f26 := ⟨Try.f141.name, by decide, Try.func141.trans (congrArg some (by kernel_rfl))⟩
 f27 := ⟨Try.f142.name, by decide, Try.func142.trans (congrArg some (by kernel_rfl))⟩
 f28 := Try.func123.trans (congrArg some (by kernel_rfl))
 f29 := Try.func124.trans (congrArg some (by kernel_rfl))
 f46 := ⟨Try.f144.name, by decide, Try.func144.trans (congrArg some (by kernel_rfl))⟩
 f47 := Try.func131.trans (congrArg some (by kernel_rfl))
 f48 := Try.func132.trans (congrArg some (by kernel_rfl))
 f49 := ⟨Try.f145.name, by decide, Try.func145.trans (congrArg some (by kernel_rfl))⟩
 f50 := ⟨Try.f146.name, by decide, Try.func146.trans (congrArg some (by kernel_rfl))⟩
 f57 := ⟨Try.f147.name, by decide, Try.func147.trans (congrArg some (by kernel_rfl))⟩
 t0 := Try.underlying0
 a0 := Try.isAgg0
 z0 := Try.sizeOf0
 v0 := Try.zeroValue0
 t3 := Try.underlying3
 a3 := Try.isAgg3
 z3 := Try.sizeOf3
 v3 := Try.zeroValue3
 t4 := Try.underlying4
 a4 := Try.isAgg4
 z4 := Try.sizeOf4
 v4 := Try.zeroValue4
 t5 := Try.underlying5
 a5 := Try.isAgg5
 z5 := Try.sizeOf5
 v5 := Try.zeroValue5
 t9 := Try.underlying9
 a9 := Try.isAgg9
 z9 := Try.sizeOf9
 v9 := Try.zeroValue9
 t22 := Try.underlying175
 a22 := Try.isAgg175
 z22 := Try.sizeOf175
 v22 := Try.zeroValue175
 t25 := Try.underlying182
 a25 := Try.isAgg182
 z25 := Try.sizeOf182
 v25 := Try.zeroValue182
 t39 := Try.underlying194
 a39 := Try.isAgg194
 z39 := Try.sizeOf194
 v39 := Try.zeroValue194
 t45 := Try.underlying202
 a45 := Try.isAgg202
 z45 := Try.sizeOf202
 v45 := Try.zeroValue202
 t46 := Try.underlying203
 a46 := Try.isAgg203
 z46 := Try.sizeOf203
 v46 := Try.zeroValue203
 t50 := Try.underlying152
 a50 := Try.isAgg152
 z50 := Try.sizeOf152
 v50 := Try.zeroValue152
 t53 := Try.underlying210
 a53 := Try.isAgg210
 z53 := Try.sizeOf210
 v53 := Try.zeroValue210
 t55 := Try.underlying212
 a55 := Try.isAgg212
 z55 := Try.sizeOf212
 v55 := Try.zeroValue212
 t66 := Try.underlying219
 a66 := Try.isAgg219
 z66 := Try.sizeOf219
 v66 := Try.zeroValue219
 t70 := Try.underlying223
 a70 := Try.isAgg223
 z70 := Try.sizeOf223
 v70 := Try.zeroValue223
 t76 := Try.underlying230
 a76 := Try.isAgg230
 z76 := Try.sizeOf230
 v76 := Try.zeroValue230
 t77 := Try.underlying61
 a77 := Try.isAgg61
 z77 := Try.sizeOf61
 v77 := Try.zeroValue61 }
def Try.cmpStr_ren : Go.Shelf.Ren := ⟨fun | 106 => 98 | 213 => 112 | 265 => 129 | n => n, fun | 9 => 9 | 3 => 3 | n => n, fun | n => n⟩
theorem Try.cmpStr : Go.Proofs.Lays.n106 Try.prog Try.cmpStr_ren := {
 mixed := by kernel_rfl
 f106 := Try.func98.trans (congrArg some (by kernel_rfl))
 f213 := Try.func112.trans (congrArg some (by kernel_rfl))
 f265 := Try.func129.trans (congrArg some (by kernel_rfl))
 t3 := Try.underlying3
 a3 := Try.isAgg3
 z3 := Try.sizeOf3
 v3 := Try.zeroValue3
 t9 := Try.underlying9
 a9 := Try.isAgg9
 z9 := Try.sizeOf9
 v9 := Try.zeroValue9 }
def Try.cmpInt_ren : Go.Shelf.Ren := ⟨fun | 5 => 99 | 7 => 113 | n => n, fun | 22 => 3 | 3 => 3 | 4 => 4 | n => n, fun | n => n⟩
theorem Try.cmpInt : Go.Proofs.SlLaysC2.n5 Try.prog Try.cmpInt_ren := {
 mixed := by kernel_rfl
 f5 := ⟨Try.f99.name, by decide, Try.func99.trans (congrArg some (by kernel_rfl))⟩
 f7 := ⟨Try.f113.name, by decide, Try.func113.trans (congrArg some (by kernel_rfl))⟩
 t3 := Try.underlying3
 a3 := Try.isAgg3
 z3 := Try.sizeOf3
 v3 := Try.zeroValue3
 t4 := Try.underlying4
 a4 := Try.isAgg4
 z4 := Try.sizeOf4
 v4 := Try.zeroValue4
 t22 := Try.underlying3
 a22 := Try.isAgg3
 z22 := Try.sizeOf3
 v22 := Try.zeroValue3 }
end Go.Proofs
