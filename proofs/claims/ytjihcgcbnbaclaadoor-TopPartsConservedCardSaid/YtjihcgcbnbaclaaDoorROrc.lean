import Derived.Shelf.SlIter.Nil
import Derived.Shelf.SortM.Plain
import Derived.Shelf.SortM.SortNone
import Derived.Ground.GgzProg
import Derived.Ground.SlgmProg
import Derived.Test.YtjihcgcbnbaclaaDoorProg
import Derived.Test.YtjihcgcbnbaclaaDoorPvGu
set_option linter.unusedSimpArgs false
set_option linter.unusedVariables false
namespace Go.Proofs
open Go.Shelf
def Tryd.sortedA_ren : Go.Shelf.Ren := ⟨fun | 6 => 66 | 8 => 75 | 9 => 76 | 11 => 89 | 13 => 72 | 12 => 90 | 23 => 87 | 24 => 88 | 14 => 96 | 15 => 97 | 16 => 98 | 17 => 99 | 18 => 100 | 19 => 101 | 20 => 102 | 21 => 103 | 22 => 104 | 25 => 106 | 26 => 92 | 27 => 93 | 28 => 107 | 29 => 108 | 30 => 109 | 31 => 110 | n => n, fun | 26 => 9 | 28 => 126 | 24 => 58 | 0 => 0 | 3 => 3 | 37 => 135 | 48 => 149 | 50 => 151 | 4 => 4 | 40 => 142 | 39 => 141 | 45 => 146 | 5 => 5 | 9 => 9 | 51 => 154 | 55 => 158 | 57 => 166 | 58 => 167 | 33 => 79 | n => n, fun | n => n⟩
theorem Tryd.sortedA : Go.Proofs.SlLaysZ.n6 Tryd.prog Tryd.sortedA_ren := {
 mixed := by kernel_rfl
 f6 := ⟨Tryd.f66.name, by decide, Tryd.func66.trans (congrArg some (by kernel_rfl))⟩
 f8 := ⟨Tryd.f75.name, by decide, Tryd.func75.trans (congrArg some (by kernel_rfl))⟩
 f11 := ⟨Tryd.f89.name, by decide, Tryd.func89.trans (congrArg some (by kernel_rfl))⟩
 t0 := Tryd.underlying0
 a0 := Tryd.isAgg0
 z0 := Tryd.sizeOf0
 v0 := Tryd.zeroValue0
 t24 := Tryd.underlying58
 a24 := Tryd.isAgg58
 z24 := Tryd.sizeOf58
 v24 := Tryd.zeroValue58
 t26 := Tryd.underlying9
 a26 := Tryd.isAgg9
 z26 := Tryd.sizeOf9
 v26 := Tryd.zeroValue9
 t28 := Tryd.underlying126
 a28 := Tryd.isAgg126
 z28 := Tryd.sizeOf126
 v28 := Tryd.zeroValue126
 i26 := by kernel_rfl }
def Tryd.sortA_ren : Go.Shelf.Ren := ⟨fun | 6 => 76 | 8 => 72 | 9 => 90 | 19 => 87 | 20 => 88 | 21 => 96 | 22 => 97 | 23 => 98 | 24 => 99 | 25 => 100 | 26 => 101 | 27 => 102 | 28 => 103 | 29 => 104 | 36 => 106 | 31 => 92 | 32 => 93 | 37 => 107 | 38 => 108 | 39 => 109 | 41 => 110 | n => n, fun | 27 => 58 | 29 => 9 | 3 => 3 | 32 => 135 | 26 => 58 | 0 => 0 | 44 => 149 | 46 => 151 | 4 => 4 | 36 => 142 | 35 => 141 | 41 => 146 | 5 => 5 | 9 => 9 | 53 => 154 | 57 => 158 | 63 => 166 | 64 => 167 | n => n, fun | n => n⟩
theorem Tryd.sortA : Go.Proofs.SlLaysM.n6 Tryd.prog Tryd.sortA_ren := {
 mixed := by kernel_rfl
 f6 := ⟨Tryd.f76.name, by decide, Tryd.func76.trans (congrArg some (by kernel_rfl))⟩
 f8 := Tryd.func72.trans (congrArg some (by kernel_rfl))
 f9 := ⟨Tryd.f90.name, by decide, Tryd.func90.trans (congrArg some (by kernel_rfl))⟩
 f19 := Tryd.func87.trans (congrArg some (by kernel_rfl))
 f20 := Tryd.func88.trans (congrArg some (by kernel_rfl))
 f21 := ⟨Tryd.f96.name, by decide, Tryd.func96.trans (congrArg some (by kernel_rfl))⟩
 f22 := ⟨Tryd.f97.name, by decide, Tryd.func97.trans (congrArg some (by kernel_rfl))⟩
 f23 := ⟨Tryd.f98.name, by decide, Tryd.func98.trans (congrArg some (by kernel_rfl))⟩
 f24 := ⟨Tryd.f99.name, by decide, Tryd.func99.trans (congrArg some (by kernel_rfl))⟩
 f25 := ⟨Tryd.f100.name, by decide, Tryd.func100.trans (congrArg some (by kernel_rfl))⟩
 f26 := ⟨Tryd.f101.name, by decide, Tryd.func101.trans (congrArg some (by kernel_rfl))⟩
 f27 := ⟨Tryd.f102.name, by decide, Tryd.func102.trans (congrArg some (by kernel_rfl))⟩
 f28 := ⟨Tryd.f103.name, by decide, Tryd.func103.trans (congrArg some (by kernel_rfl))⟩
 f29 := ⟨Tryd.f104.name, by decide, Tryd.func104.trans (congrArg some (by kernel_rfl))⟩
 f31 := Tryd.func92.trans (congrArg some (by kernel_rfl))
 f32 := Tryd.func93.trans (congrArg some (by kernel_rfl))
 f36 := ⟨Tryd.f106.name, by decide, Tryd.func106.trans (congrArg some (by kernel_rfl))⟩
 f37 := ⟨Tryd.f107.name, by decide, Tryd.func107.trans (congrArg some (by kernel_rfl))⟩
 f38 := ⟨Tryd.f108.name, by decide, Tryd.func108.trans (congrArg some (by kernel_rfl))⟩
 f39 := ⟨Tryd.f109.name, by decide, Tryd.func109.trans (congrArg some (by kernel_rfl))⟩
 f41 := ⟨Tryd.f110.name, by decide, Tryd.func110.trans (congrArg some (by kernel_rfl))⟩
 t0 := Tryd.underlying0
 a0 := Tryd.isAgg0
 z0 := Tryd.sizeOf0
 v0 := Tryd.zeroValue0
 t3 := Tryd.underlying3
 a3 := Tryd.isAgg3
 z3 := Tryd.sizeOf3
 v3 := Tryd.zeroValue3
 t4 := Tryd.underlying4
 a4 := Tryd.isAgg4
 z4 := Tryd.sizeOf4
 v4 := Tryd.zeroValue4
 t5 := Tryd.underlying5
 a5 := Tryd.isAgg5
 z5 := Tryd.sizeOf5
 v5 := Tryd.zeroValue5
 t9 := Tryd.underlying9
 a9 := Tryd.isAgg9
 z9 := Tryd.sizeOf9
 v9 := Tryd.zeroValue9
 t26 := Tryd.underlying58
 a26 := Tryd.isAgg58
 z26 := Tryd.sizeOf58
 v26 := Tryd.zeroValue58
 t27 := Tryd.underlying58
 a27 := Tryd.isAgg58
 z27 := Tryd.sizeOf58
 v27 := Tryd.zeroValue58
 t29 := Tryd.underlying9
 a29 := Tryd.isAgg9
 z29 := Tryd.sizeOf9
 v29 := Tryd.zeroValue9
 t32 := Tryd.underlying135
 a32 := Tryd.isAgg135
 z32 := Tryd.sizeOf135
 v32 := Tryd.zeroValue135
 t35 := Tryd.underlying141
 a35 := Tryd.isAgg141
 z35 := Tryd.sizeOf141
 v35 := Tryd.zeroValue141
 t36 := Tryd.underlying142
 a36 := Tryd.isAgg142
 z36 := Tryd.sizeOf142
 v36 := Tryd.zeroValue142
 t41 := Tryd.underlying146
 a41 := Tryd.isAgg146
 z41 := Tryd.sizeOf146
 v41 := Tryd.zeroValue146
 t44 := Tryd.underlying149
 a44 := Tryd.isAgg149
 z44 := Tryd.sizeOf149
 v44 := Tryd.zeroValue149
 t46 := Tryd.underlying151
 a46 := Tryd.isAgg151
 z46 := Tryd.sizeOf151
 v46 := Tryd.zeroValue151
 t53 := Tryd.underlying154
 a53 := Tryd.isAgg154
 z53 := Tryd.sizeOf154
 v53 := Tryd.zeroValue154
 t57 := Tryd.underlying158
 a57 := Tryd.isAgg158
 z57 := Tryd.sizeOf158
 v57 := Tryd.zeroValue158
 t63 := Tryd.underlying166
 a63 := Tryd.isAgg166
 z63 := Tryd.sizeOf166
 v63 := Tryd.zeroValue166
 t64 := Tryd.underlying167
 a64 := Tryd.isAgg167
 z64 := Tryd.sizeOf167
 v64 := Tryd.zeroValue167 }
end Go.Proofs
namespace Go.Proofs.YtjihcgcbnbaclaaDoor.Y9
open Go Go.Proofs Go.RowKit Go.Maps Go.Sort Go.Shelf Go.Pv
theorem sortsA (m : Nat) : AnyZ.SortsIn Tryd.prog Tryd.sortedA_ren Fence.wide m :=
 ⟨fun blk off cap ss W hH hblk hsz => callsIn_wide.2 (AnyM.slices_Sort_string Tryd.sortA blk off cap ss W hH hblk hsz),
  fun p cap W => callsIn_wide.2 (AnyM.slices_Sort_string_none Tryd.sortA p cap W)⟩
end Go.Proofs.YtjihcgcbnbaclaaDoor.Y9
