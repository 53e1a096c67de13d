/- 'slices.SortedFunc(maps.Keys(s), cmp)' at this program, 1: the layings of the library's contracts (by the kit's tool), the function that compares. No conditions. -/
import Derived.Shelf.SlSortCmp.NoneTotal
import Derived.Shelf.Small.Strs
import Derived.Shelf.SlicesG.Cmp
import Derived.Ground.SlsfProg
import Derived.Ground.NamesProg
import Derived.Ground.SlgcProg
import Derived.Test.YtigdmkhdmbbfiaaDoorProg
namespace Go.Proofs
open Go.Shelf
def Tryd.sortF_ren : Go.Shelf.Ren := ⟨fun | 6 => 62 | 15 => 69 | 14 => 68 | 28 => 80 | 29 => 81 | 20 => 72 | 21 => 73 | 22 => 74 | 23 => 75 | 24 => 76 | 25 => 77 | 26 => 78 | 27 => 79 | 46 => 84 | 47 => 85 | 48 => 86 | 49 => 87 | 50 => 88 | 57 => 89 | n => n, fun | 22 => 119 | 24 => 93 | 25 => 126 | 3 => 3 | 39 => 143 | 0 => 0 | 53 => 155 | 55 => 157 | 4 => 4 | 46 => 148 | 45 => 147 | 50 => 152 | 5 => 5 | 9 => 9 | 66 => 162 | 70 => 166 | 76 => 168 | 77 => 169 | n => n, fun | n => n⟩
theorem Tryd.sortF : Go.Proofs.SlLaysF0.n6 Tryd.prog Tryd.sortF_ren := {
  mixed := by kernel_rfl
  f6 := ⟨Tryd.f62.name, by decide, Tryd.func62.trans (congrArg some (by kernel_rfl))⟩
  f14 := ⟨Tryd.f68.name, by decide, Tryd.func68.trans (congrArg some (by kernel_rfl))⟩
  f15 := Tryd.func69.trans (congrArg some (by kernel_rfl))
  f20 := ⟨Tryd.f72.name, by decide, Tryd.func72.trans (congrArg some (by kernel_rfl))⟩
  f21 := ⟨Tryd.f73.name, by decide, Tryd.func73.trans (congrArg some (by kernel_rfl))⟩
  f22 := ⟨Tryd.f74.name, by decide, Tryd.func74.trans (congrArg some (by kernel_rfl))⟩
  f23 := ⟨Tryd.f75.name, by decide, Tryd.func75.trans (congrArg some (by kernel_rfl))⟩
  f24 := ⟨Tryd.f76.name, by decide, Tryd.func76.trans (congrArg some (by kernel_rfl))⟩
  f25 := ⟨Tryd.f77.name, by decide, Tryd.func77.trans (congrArg some (by kernel_rfl))⟩
  f26 := ⟨Tryd.f78.name, by decide, Tryd.func78.trans (congrArg some (by kernel_rfl))⟩
  f27 := ⟨Tryd.f79.name, by decide, Tryd.func79.trans (congrArg some (by kernel_rfl))⟩
  f28 := Tryd.func80.trans (congrArg some (by kernel_rfl))
  f29 := Tryd.func81.trans (congrArg some (by kernel_rfl))
  f46 := ⟨Tryd.f84.name, by decide, Tryd.func84.trans (congrArg some (by kernel_rfl))⟩
  f47 := Tryd.func85.trans (congrArg some (by kernel_rfl))
  f48 := Tryd.func86.trans (congrArg some (by kernel_rfl))
  f49 := ⟨Tryd.f87.name, by decide, Tryd.func87.trans (congrArg some (by kernel_rfl))⟩
  f50 := ⟨Tryd.f88.name, by decide, Tryd.func88.trans (congrArg some (by kernel_rfl))⟩
  f57 := ⟨Tryd.f89.name, by decide, Tryd.func89.trans (congrArg some (by kernel_rfl))⟩
  t0 := Tryd.underlying0
  a0 := Tryd.isAgg0
  z0 := Tryd.sizeOf0
  v0 := Tryd.zeroValue0
  t3 := Tryd.underlying3
  a3 := Tryd.isAgg3
  z3 := Tryd.sizeOf3
  v3 := Tryd.zeroValue3
  t4 := Tryd.underlying4
  a4 := Tryd.isAgg4
  z4 := Tryd.sizeOf4
  v4 := Tryd.zeroValue4
  t5 := Tryd.underlying5
  a5 := Tryd.isAgg5
  z5 := Tryd.sizeOf5
  v5 := Tryd.zeroValue5
  t9 := Tryd.underlying9
  a9 := Tryd.isAgg9
  z9 := Tryd.sizeOf9
  v9 := Tryd.zeroValue9
  t22 := Tryd.underlying119
  a22 := Tryd.isAgg119
  z22 := Tryd.sizeOf119
  v22 := Tryd.zeroValue119
  t25 := Tryd.underlying126
  a25 := Tryd.isAgg126
  z25 := Tryd.sizeOf126
  v25 := Tryd.zeroValue126
  t39 := Tryd.underlying143
  a39 := Tryd.isAgg143
  z39 := Tryd.sizeOf143
  v39 := Tryd.zeroValue143
  t45 := Tryd.underlying147
  a45 := Tryd.isAgg147
  z45 := Tryd.sizeOf147
  v45 := Tryd.zeroValue147
  t46 := Tryd.underlying148
  a46 := Tryd.isAgg148
  z46 := Tryd.sizeOf148
  v46 := Tryd.zeroValue148
  t50 := Tryd.underlying152
  a50 := Tryd.isAgg152
  z50 := Tryd.sizeOf152
  v50 := Tryd.zeroValue152
  t53 := Tryd.underlying155
  a53 := Tryd.isAgg155
  z53 := Tryd.sizeOf155
  v53 := Tryd.zeroValue155
  t55 := Tryd.underlying157
  a55 := Tryd.isAgg157
  z55 := Tryd.sizeOf157
  v55 := Tryd.zeroValue157
  t66 := Tryd.underlying162
  a66 := Tryd.isAgg162
  z66 := Tryd.sizeOf162
  v66 := Tryd.zeroValue162
  t70 := Tryd.underlying166
  a70 := Tryd.isAgg166
  z70 := Tryd.sizeOf166
  v70 := Tryd.zeroValue166
  t76 := Tryd.underlying168
  a76 := Tryd.isAgg168
  z76 := Tryd.sizeOf168
  v76 := Tryd.zeroValue168
  t77 := Tryd.underlying169
  a77 := Tryd.isAgg169
  z77 := Tryd.sizeOf169
  v77 := Tryd.zeroValue169 }
def Tryd.cmpStr_ren : Go.Shelf.Ren := ⟨fun | 106 => 52 | 213 => 64 | 265 => 70 | n => n, fun | 9 => 9 | 3 => 3 | n => n, fun | n => n⟩
theorem Tryd.cmpStr : Go.Proofs.Lays.n106 Tryd.prog Tryd.cmpStr_ren := {
  mixed := by kernel_rfl
  f106 := Tryd.func52.trans (congrArg some (by kernel_rfl))
  f213 := Tryd.func64.trans (congrArg some (by kernel_rfl))
  f265 := Tryd.func70.trans (congrArg some (by kernel_rfl))
  t3 := Tryd.underlying3
  a3 := Tryd.isAgg3
  z3 := Tryd.sizeOf3
  v3 := Tryd.zeroValue3
  t9 := Tryd.underlying9
  a9 := Tryd.isAgg9
  z9 := Tryd.sizeOf9
  v9 := Tryd.zeroValue9 }
def Tryd.cmpInt_ren : Go.Shelf.Ren := ⟨fun | 5 => 53 | 7 => 65 | n => n, fun | 22 => 3 | 3 => 3 | 4 => 4 | n => n, fun | n => n⟩
theorem Tryd.cmpInt : Go.Proofs.SlLaysC2.n5 Tryd.prog Tryd.cmpInt_ren := {
  mixed := by kernel_rfl
  f5 := ⟨Tryd.f53.name, by decide, Tryd.func53.trans (congrArg some (by kernel_rfl))⟩
  f7 := ⟨Tryd.f65.name, by decide, Tryd.func65.trans (congrArg some (by kernel_rfl))⟩
  t3 := Tryd.underlying3
  a3 := Tryd.isAgg3
  z3 := Tryd.sizeOf3
  v3 := Tryd.zeroValue3
  t4 := Tryd.underlying4
  a4 := Tryd.isAgg4
  z4 := Tryd.sizeOf4
  v4 := Tryd.zeroValue4
  t22 := Tryd.underlying3
  a22 := Tryd.isAgg3
  z22 := Tryd.sizeOf3
  v22 := Tryd.zeroValue3 }
end Go.Proofs
