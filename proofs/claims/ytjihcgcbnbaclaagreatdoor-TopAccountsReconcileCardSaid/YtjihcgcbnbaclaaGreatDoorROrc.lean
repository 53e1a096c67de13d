import Derived.Shelf.SlIter.Nil
import Derived.Shelf.SortM.Plain
import Derived.Shelf.SortM.SortNone
import Derived.Ground.GgzProg
import Derived.Ground.SlgmProg
import Derived.Test.YtjihcgcbnbaclaaGreatDoorProg
import Derived.Test.YtjihcgcbnbaclaaGreatDoorPvGu
set_option linter.unusedSimpArgs false
set_option linter.unusedVariables false
namespace Go.Proofs
open Go.Shelf
def Tryz.sortedA_ren : Go.Shelf.Ren := ⟨fun | 6 => 70 | 8 => 79 | 9 => 80 | 11 => 93 | 13 => 76 | 12 => 94 | 23 => 91 | 24 => 92 | 14 => 100 | 15 => 101 | 16 => 102 | 17 => 103 | 18 => 104 | 19 => 105 | 20 => 106 | 21 => 107 | 22 => 108 | 25 => 110 | 26 => 96 | 27 => 97 | 28 => 111 | 29 => 112 | 30 => 113 | 31 => 114 | n => n, fun | 26 => 9 | 28 => 138 | 24 => 119 | 0 => 0 | 3 => 3 | 37 => 147 | 48 => 161 | 50 => 163 | 4 => 4 | 40 => 154 | 39 => 153 | 45 => 158 | 5 => 5 | 9 => 9 | 51 => 166 | 55 => 170 | 57 => 178 | 58 => 179 | 33 => 104 | n => n, fun | n => n⟩
theorem Tryz.sortedA : Go.Proofs.SlLaysZ.n6 Tryz.prog Tryz.sortedA_ren := {
 mixed := by kernel_rfl
 f6 := ⟨Tryz.f70.name, by decide, Tryz.func70.trans (congrArg some (by kernel_rfl))⟩
 f8 := ⟨Tryz.f79.name, by decide, Tryz.func79.trans (congrArg some (by kernel_rfl))⟩
 f11 := ⟨Tryz.f93.name, by decide, Tryz.func93.trans (congrArg some (by kernel_rfl))⟩
 t0 := Tryz.underlying0
 a0 := Tryz.isAgg0
 z0 := Tryz.sizeOf0
 v0 := Tryz.zeroValue0
 t24 := Tryz.underlying119
 a24 := Tryz.isAgg119
 z24 := Tryz.sizeOf119
 v24 := Tryz.zeroValue119
 t26 := Tryz.underlying9
 a26 := Tryz.isAgg9
 z26 := Tryz.sizeOf9
 v26 := Tryz.zeroValue9
 t28 := Tryz.underlying138
 a28 := Tryz.isAgg138
 z28 := Tryz.sizeOf138
 v28 := Tryz.zeroValue138
 i26 := by kernel_rfl }
def Tryz.sortA_ren : Go.Shelf.Ren := ⟨fun | 6 => 80 | 8 => 76 | 9 => 94 | 19 => 91 | 20 => 92 | 21 => 100 | 22 => 101 | 23 => 102 | 24 => 103 | 25 => 104 | 26 => 105 | 27 => 106 | 28 => 107 | 29 => 108 | 36 => 110 | 31 => 96 | 32 => 97 | 37 => 111 | 38 => 112 | 39 => 113 | 41 => 114 | n => n, fun | 27 => 119 | 29 => 9 | 3 => 3 | 32 => 147 | 26 => 119 | 0 => 0 | 44 => 161 | 46 => 163 | 4 => 4 | 36 => 154 | 35 => 153 | 41 => 158 | 5 => 5 | 9 => 9 | 53 => 166 | 57 => 170 | 63 => 178 | 64 => 179 | n => n, fun | n => n⟩
theorem Tryz.sortA : Go.Proofs.SlLaysM.n6 Tryz.prog Tryz.sortA_ren := {
 mixed := by kernel_rfl
 f6 := ⟨Tryz.f80.name, by decide, Tryz.func80.trans (congrArg some (by kernel_rfl))⟩
 f8 := Tryz.func76.trans (congrArg some (by kernel_rfl))
 f9 := ⟨Tryz.f94.name, by decide, Tryz.func94.trans (congrArg some (by kernel_rfl))⟩
 f19 := Tryz.func91.trans (congrArg some (by kernel_rfl))
 f20 := Tryz.func92.trans (congrArg some (by kernel_rfl))
 f21 := ⟨Tryz.f100.name, by decide, Tryz.func100.trans (congrArg some (by kernel_rfl))⟩
 f22 := ⟨Tryz.f101.name, by decide, Tryz.func101.trans (congrArg some (by kernel_rfl))⟩
 f23 := ⟨Tryz.f102.name, by decide, Tryz.func102.trans (congrArg some (by kernel_rfl))⟩
 f24 := ⟨Tryz.f103.name, by decide, Tryz.func103.trans (congrArg some (by kernel_rfl))⟩
 f25 := ⟨Tryz.f104.name, by decide, Tryz.func104.trans (congrArg some (by kernel_rfl))⟩
 f26 := ⟨Tryz.f105.name, by decide, Tryz.func105.trans (congrArg some (by kernel_rfl))⟩
 f27 := ⟨Tryz.f106.name, by decide, Tryz.func106.trans (congrArg some (by kernel_rfl))⟩
 f28 := ⟨Tryz.f107.name, by decide, Tryz.func107.trans (congrArg some (by kernel_rfl))⟩
 f29 := ⟨Tryz.f108.name, by decide, Tryz.func108.trans (congrArg some (by kernel_rfl))⟩
 f31 := Tryz.func96.trans (congrArg some (by kernel_rfl))
 f32 := Tryz.func97.trans (congrArg some (by kernel_rfl))
 f36 := ⟨Tryz.f110.name, by decide, Tryz.func110.trans (congrArg some (by kernel_rfl))⟩
 f37 := ⟨Tryz.f111.name, by decide, Tryz.func111.trans (congrArg some (by kernel_rfl))⟩
 f38 := ⟨Tryz.f112.name, by decide, Tryz.func112.trans (congrArg some (by kernel_rfl))⟩
 f39 := ⟨Tryz.f113.name, by decide, Tryz.func113.trans (congrArg some (by kernel_rfl))⟩
 f41 := ⟨Tryz.f114.name, by decide, Tryz.func114.trans (congrArg some (by kernel_rfl))⟩
 t0 := Tryz.underlying0
 a0 := Tryz.isAgg0
 z0 := Tryz.sizeOf0
 v0 := Tryz.zeroValue0
 t3 := Tryz.underlying3
 a3 := Tryz.isAgg3
 z3 := Tryz.sizeOf3
 v3 := Tryz.zeroValue3
 t4 := Tryz.underlying4
 a4 := Tryz.isAgg4
 z4 := Tryz.sizeOf4
 v4 := Tryz.zeroValue4
 t5 := Tryz.underlying5
 a5 := Tryz.isAgg5
 z5 := Tryz.sizeOf5
 v5 := Tryz.zeroValue5
 t9 := Tryz.underlying9
 a9 := Tryz.isAgg9
 z9 := Tryz.sizeOf9
 v9 := Tryz.zeroValue9
 t26 := Tryz.underlying119
 a26 := Tryz.isAgg119
 z26 := Tryz.sizeOf119
 v26 := Tryz.zeroValue119
 t27 := Tryz.underlying119
 a27 := Tryz.isAgg119
 z27 := Tryz.sizeOf119
 v27 := Tryz.zeroValue119
 t29 := Tryz.underlying9
 a29 := Tryz.isAgg9
 z29 := Tryz.sizeOf9
 v29 := Tryz.zeroValue9
 t32 := Tryz.underlying147
 a32 := Tryz.isAgg147
 z32 := Tryz.sizeOf147
 v32 := Tryz.zeroValue147
 t35 := Tryz.underlying153
 a35 := Tryz.isAgg153
 z35 := Tryz.sizeOf153
 v35 := Tryz.zeroValue153
 t36 := Tryz.underlying154
 a36 := Tryz.isAgg154
 z36 := Tryz.sizeOf154
 v36 := Tryz.zeroValue154
 t41 := Tryz.underlying158
 a41 := Tryz.isAgg158
 z41 := Tryz.sizeOf158
 v41 := Tryz.zeroValue158
 t44 := Tryz.underlying161
 a44 := Tryz.isAgg161
 z44 := Tryz.sizeOf161
 v44 := Tryz.zeroValue161
 t46 := Tryz.underlying163
 a46 := Tryz.isAgg163
 z46 := Tryz.sizeOf163
 v46 := Tryz.zeroValue163
 t53 := Tryz.underlying166
 a53 := Tryz.isAgg166
 z53 := Tryz.sizeOf166
 v53 := Tryz.zeroValue166
 t57 := Tryz.underlying170
 a57 := Tryz.isAgg170
 z57 := Tryz.sizeOf170
 v57 := Tryz.zeroValue170
 t63 := Tryz.underlying178
 a63 := Tryz.isAgg178
 z63 := Tryz.sizeOf178
 v63 := Tryz.zeroValue178
 t64 := Tryz.underlying179
 a64 := Tryz.isAgg179
 z64 := Tryz.sizeOf179
 v64 := Tryz.zeroValue179 }
end Go.Proofs
namespace Go.Proofs.YtjihcgcbnbaclaaGreatDoor.Y9
open Go Go.Proofs Go.RowKit Go.Maps Go.Sort Go.Shelf Go.Pv
theorem sortsA (m : Nat) : AnyZ.SortsIn Tryz.prog Tryz.sortedA_ren Fence.wide m :=
 ⟨fun blk off cap ss W hH hblk hsz => callsIn_wide.2 (AnyM.slices_Sort_string Tryz.sortA blk off cap ss W hH hblk hsz),
  fun p cap W => callsIn_wide.2 (AnyM.slices_Sort_string_none Tryz.sortA p cap W)⟩
end Go.Proofs.YtjihcgcbnbaclaaGreatDoor.Y9
