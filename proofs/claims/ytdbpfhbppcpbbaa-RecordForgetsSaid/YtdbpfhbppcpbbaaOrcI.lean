/- The sorted keys of an own map of integers at this program: 'slices.Sorted(maps.Keys(m))' told from the library's contracts. No conditions. -/
import Derived.Shelf.SlIterI.Nil
import Derived.Shelf.SortM.Plain
import Derived.Shelf.SortM.SortNone
import Derived.Ground.GgzProg
import Derived.Ground.SlgmProg
import Derived.Test.YtdbpfhbppcpbbaaProg
import Derived.Test.YtdbpfhbppcpbbaaPvU2
namespace Go.Proofs
open Go.Shelf
def Try.keysI_ren : Go.Shelf.Ren := ⟨fun | 7 => 88 | 10 => 111 | n => n, fun | 23 => 126 | 26 => 3 | 3 => 4 | 28 => 124 | 0 => 0 | 27 => 123 | 33 => 27 | 4 => 4 | n => n, fun | n => n⟩
theorem Try.keysI : Go.Proofs.SlLaysZI.n7 Try.prog Try.keysI_ren := {
  mixed := by kernel_rfl
  f7 := ⟨Try.f88.name, by decide, Try.func88.trans (congrArg some (by kernel_rfl))⟩
  f10 := ⟨Try.f111.name, by decide, Try.func111.trans (congrArg some (by kernel_rfl))⟩
  t0 := Try.underlying0
  a0 := Try.isAgg0
  z0 := Try.sizeOf0
  v0 := Try.zeroValue0
  t4 := Try.underlying4
  a4 := Try.isAgg4
  z4 := Try.sizeOf4
  v4 := Try.zeroValue4
  t23 := Try.underlying126
  a23 := Try.isAgg126
  z23 := Try.sizeOf126
  v23 := Try.zeroValue126
  t26 := Try.underlying3
  a26 := Try.isAgg3
  z26 := Try.sizeOf3
  v26 := Try.zeroValue3
  t27 := Try.underlying123
  a27 := Try.isAgg123
  z27 := Try.sizeOf123
  v27 := Try.zeroValue123
  t28 := Try.underlying124
  a28 := Try.isAgg124
  z28 := Try.sizeOf124
  v28 := Try.zeroValue124
  t33 := Try.underlying27
  a33 := Try.isAgg27
  z33 := Try.sizeOf27
  v33 := Try.zeroValue27 }
def Try.sortedI_ren : Go.Shelf.Ren := ⟨fun | 6 => 87 | 8 => 109 | 9 => 110 | 11 => 121 | 13 => 123 | 12 => 122 | 23 => 138 | 24 => 139 | 14 => 129 | 15 => 130 | 16 => 131 | 17 => 132 | 18 => 133 | 19 => 134 | 20 => 135 | 21 => 136 | 22 => 137 | 25 => 142 | 26 => 143 | 27 => 144 | 28 => 145 | 29 => 146 | 30 => 147 | 31 => 157 | n => n, fun | 26 => 3 | 28 => 124 | 24 => 55 | 0 => 0 | 3 => 3 | 37 => 167 | 48 => 180 | 50 => 182 | 4 => 4 | 40 => 172 | 39 => 171 | 45 => 177 | 5 => 5 | 9 => 9 | 51 => 185 | 55 => 189 | 57 => 197 | 58 => 198 | 33 => 27 | n => n, fun | n => n⟩
theorem Try.sortedI : Go.Proofs.SlLaysZI.n6 Try.prog Try.sortedI_ren := {
  mixed := by kernel_rfl
  f6 := ⟨Try.f87.name, by decide, Try.func87.trans (congrArg some (by kernel_rfl))⟩
  f8 := ⟨Try.f109.name, by decide, Try.func109.trans (congrArg some (by kernel_rfl))⟩
  f11 := ⟨Try.f121.name, by decide, Try.func121.trans (congrArg some (by kernel_rfl))⟩
  t0 := Try.underlying0
  a0 := Try.isAgg0
  z0 := Try.sizeOf0
  v0 := Try.zeroValue0
  t24 := Try.underlying55
  a24 := Try.isAgg55
  z24 := Try.sizeOf55
  v24 := Try.zeroValue55
  t26 := Try.underlying3
  a26 := Try.isAgg3
  z26 := Try.sizeOf3
  v26 := Try.zeroValue3
  t28 := Try.underlying124
  a28 := Try.isAgg124
  z28 := Try.sizeOf124
  v28 := Try.zeroValue124
  i26 := by kernel_rfl }
def Try.sortI_ren : Go.Shelf.Ren := ⟨fun | 5 => 110 | 8 => 123 | 7 => 122 | 19 => 138 | 20 => 139 | 10 => 129 | 11 => 130 | 12 => 131 | 13 => 132 | 14 => 133 | 15 => 134 | 16 => 135 | 17 => 136 | 18 => 137 | 30 => 142 | 31 => 143 | 32 => 144 | 33 => 145 | 34 => 146 | 35 => 147 | 40 => 157 | n => n, fun | 23 => 55 | 25 => 3 | 3 => 3 | 32 => 167 | 22 => 55 | 0 => 0 | 44 => 180 | 46 => 182 | 4 => 4 | 36 => 172 | 35 => 171 | 41 => 177 | 5 => 5 | 9 => 9 | 53 => 185 | 57 => 189 | 63 => 197 | 64 => 198 | n => n, fun | n => n⟩
theorem Try.sortI : Go.Proofs.SlLaysM.n5 Try.prog Try.sortI_ren := {
  mixed := by kernel_rfl
  f5 := ⟨Try.f110.name, by decide, Try.func110.trans (congrArg some (by kernel_rfl))⟩
  f7 := ⟨Try.f122.name, by decide, Try.func122.trans (congrArg some (by kernel_rfl))⟩
  f8 := Try.func123.trans (congrArg some (by kernel_rfl))
  f10 := ⟨Try.f129.name, by decide, Try.func129.trans (congrArg some (by kernel_rfl))⟩
  f11 := ⟨Try.f130.name, by decide, Try.func130.trans (congrArg some (by kernel_rfl))⟩
  f12 := ⟨Try.f131.name, by decide, Try.func131.trans (congrArg some (by kernel_rfl))⟩
  f13 := ⟨Try.f132.name, by decide, Try.func132.trans (congrArg some (by kernel_rfl))⟩
  f14 := ⟨Try.f133.name, by decide, Try.func133.trans (congrArg some (by kernel_rfl))⟩
  f15 := ⟨Try.f134.name, by decide, Try.func134.trans (congrArg some (by kernel_rfl))⟩
  f16 := ⟨Try.f135.name, by decide, Try.func135.trans (congrArg some (by kernel_rfl))⟩
  f17 := ⟨Try.f136.name, by decide, Try.func136.trans (congrArg some (by kernel_rfl))⟩
  f18 := ⟨Try.f137.name, by decide, Try.func137.trans (congrArg some (by kernel_rfl))⟩
  f19 := Try.func138.trans (congrArg some (by kernel_rfl))
  f20 := Try.func139.trans (congrArg some (by kernel_rfl))
  f30 := ⟨Try.f142.name, by decide, Try.func142.trans (congrArg some (by kernel_rfl))⟩
  f31 := Try.func143.trans (congrArg some (by kernel_rfl))
  f32 := Try.func144.trans (congrArg some (by kernel_rfl))
  f33 := ⟨Try.f145.name, by decide, Try.func145.trans (congrArg some (by kernel_rfl))⟩
  f34 := ⟨Try.f146.name, by decide, Try.func146.trans (congrArg some (by kernel_rfl))⟩
  f35 := ⟨Try.f147.name, by decide, Try.func147.trans (congrArg some (by kernel_rfl))⟩
  f40 := ⟨Try.f157.name, by decide, Try.func157.trans (congrArg some (by kernel_rfl))⟩
  t0 := Try.underlying0
  a0 := Try.isAgg0
  z0 := Try.sizeOf0
  v0 := Try.zeroValue0
  t3 := Try.underlying3
  a3 := Try.isAgg3
  z3 := Try.sizeOf3
  v3 := Try.zeroValue3
  t4 := Try.underlying4
  a4 := Try.isAgg4
  z4 := Try.sizeOf4
  v4 := Try.zeroValue4
  t5 := Try.underlying5
  a5 := Try.isAgg5
  z5 := Try.sizeOf5
  v5 := Try.zeroValue5
  t9 := Try.underlying9
  a9 := Try.isAgg9
  z9 := Try.sizeOf9
  v9 := Try.zeroValue9
  t22 := Try.underlying55
  a22 := Try.isAgg55
  z22 := Try.sizeOf55
  v22 := Try.zeroValue55
  t23 := Try.underlying55
  a23 := Try.isAgg55
  z23 := Try.sizeOf55
  v23 := Try.zeroValue55
  t25 := Try.underlying3
  a25 := Try.isAgg3
  z25 := Try.sizeOf3
  v25 := Try.zeroValue3
  t32 := Try.underlying167
  a32 := Try.isAgg167
  z32 := Try.sizeOf167
  v32 := Try.zeroValue167
  t35 := Try.underlying171
  a35 := Try.isAgg171
  z35 := Try.sizeOf171
  v35 := Try.zeroValue171
  t36 := Try.underlying172
  a36 := Try.isAgg172
  z36 := Try.sizeOf172
  v36 := Try.zeroValue172
  t41 := Try.underlying177
  a41 := Try.isAgg177
  z41 := Try.sizeOf177
  v41 := Try.zeroValue177
  t44 := Try.underlying180
  a44 := Try.isAgg180
  z44 := Try.sizeOf180
  v44 := Try.zeroValue180
  t46 := Try.underlying182
  a46 := Try.isAgg182
  z46 := Try.sizeOf182
  v46 := Try.zeroValue182
  t53 := Try.underlying185
  a53 := Try.isAgg185
  z53 := Try.sizeOf185
  v53 := Try.zeroValue185
  t57 := Try.underlying189
  a57 := Try.isAgg189
  z57 := Try.sizeOf189
  v57 := Try.zeroValue189
  t63 := Try.underlying197
  a63 := Try.isAgg197
  z63 := Try.sizeOf197
  v63 := Try.zeroValue197
  t64 := Try.underlying198
  a64 := Try.isAgg198
  z64 := Try.sizeOf198
  v64 := Try.zeroValue198 }
end Go.Proofs
namespace Go.Proofs.Ytdbpfhbppcpbbaa
open Go Go.Proofs Go.RowKit Go.Maps Go.Sort Go.Shelf Go.Pv

/-- slices.Sort's two contracts at this dump, at the fence that asks nothing. -/
theorem sortsI (m : Nat) : AnyZI.SortsIn Try.prog Try.sortedI_ren Fence.wide m :=
  ⟨fun blk off cap ss W hH hblk hsz => callsIn_wide.2 (AnyM.slices_Sort_int Try.sortI blk off cap ss W hH hblk hsz),
   fun p cap W => callsIn_wide.2 (AnyM.slices_Sort_int_none Try.sortI p cap W)⟩

theorem sortedKeysI (Bm b nn : Nat) (D0 : DataW Unit) (w : World) (hBm : Bm < w.heap.size) (hc : w.cell? ⟨Bm, 0, none⟩ = some (.map (some b))) (hown : w.ownsMap Try.prog 3 (fun _ => some (.nil, [])) b nn D0) (hmax : Maps.size D0 ≤ maxLen) (hbytes : Maps.size D0 * 8 ≤ 140737488355328) :
    Calls Try.prog 87 #[.func (.func 111) #[] #[.pointer (some ⟨Bm, 0, none⟩)]] w fun e w' => ∃ (v : Value) (ss : List Int), e = .returned v ∧ ss.Perm (intKeys D0) ∧
      w'.ownsRow w.heap.size 3 1 v ss.length ((ss.mergeSort (fun x y => decide (x ≤ y))).map encZ) ∧ Below w.heap.size w w' := by
  refine (callsIn_wide (n := 5)).1 ?_
  have hseq : SeqGives Fence.wide 2 Try.prog 111 #[.pointer (some ⟨Bm, 0, none⟩)] encZ (fun ss => ss.Perm (intKeys D0)) (Maps.size D0) w :=
    AnyZI.keys_gives (ρ := Try.keysI_ren) { Try.keysI with } Fence.wide _ trivial rfl (by omega) Bm b nn D0 _ hBm hc hown
  have cS := AnyZI.sorted_in Try.sortedI Fence.wide 5 trivial trivial trivial trivial rfl (by omega) (sortsI _) (enters_of Try.func110 (by kernel_rfl) rfl) 111 #[.pointer (some ⟨Bm, 0, none⟩)] trivial (enters_of Try.func111 (by kernel_rfl) rfl) _ _ hmax hbytes _ hseq
  change CallsIn _ _ Try.prog 87 _ _ _ at cS
  exact cS.mono fun e w' ⟨v, ss, h1, h2, h3, _, h5⟩ => ⟨v, ss, h1, h2, h3, h5⟩
end Go.Proofs.Ytdbpfhbppcpbbaa
