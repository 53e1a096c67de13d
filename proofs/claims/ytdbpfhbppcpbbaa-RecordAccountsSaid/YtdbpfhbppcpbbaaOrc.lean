/- The sorted keys of an own map at this program: 'slices.Sorted(maps.Keys(m))' told from the library's contracts. No conditions. -/
import Derived.Shelf.SlIter.Nil
import Derived.Shelf.SortM.Plain
import Derived.Shelf.SortM.SortNone
import Derived.Ground.GgzProg
import Derived.Ground.SlgmProg
import Derived.Test.YtdbpfhbppcpbbaaProg
import Derived.Test.YtdbpfhbppcpbbaaPvU1
namespace Go.Proofs
open Go.Shelf
def Try.keysA_ren : Go.Shelf.Ren := ⟨fun | 7 => 117 | 10 => 128 | n => n, fun | 23 => 152 | 26 => 9 | 3 => 4 | 28 => 155 | 0 => 0 | 27 => 154 | 33 => 117 | 4 => 4 | n => n, fun | n => n⟩
theorem Try.keysA : Go.Proofs.SlLaysZ.n7 Try.prog Try.keysA_ren := {
  mixed := by kernel_rfl
  f7 := ⟨Try.f117.name, by decide, Try.func117.trans (congrArg some (by kernel_rfl))⟩
  f10 := ⟨Try.f128.name, by decide, Try.func128.trans (congrArg some (by kernel_rfl))⟩
  t0 := Try.underlying0
  a0 := Try.isAgg0
  z0 := Try.sizeOf0
  v0 := Try.zeroValue0
  t4 := Try.underlying4
  a4 := Try.isAgg4
  z4 := Try.sizeOf4
  v4 := Try.zeroValue4
  t23 := Try.underlying152
  a23 := Try.isAgg152
  z23 := Try.sizeOf152
  v23 := Try.zeroValue152
  t26 := Try.underlying9
  a26 := Try.isAgg9
  z26 := Try.sizeOf9
  v26 := Try.zeroValue9
  t27 := Try.underlying154
  a27 := Try.isAgg154
  z27 := Try.sizeOf154
  v27 := Try.zeroValue154
  t28 := Try.underlying155
  a28 := Try.isAgg155
  z28 := Try.sizeOf155
  v28 := Try.zeroValue155
  t33 := Try.underlying117
  a33 := Try.isAgg117
  z33 := Try.sizeOf117
  v33 := Try.zeroValue117 }
def Try.sortedA_ren : Go.Shelf.Ren := ⟨fun | 6 => 116 | 8 => 126 | 9 => 127 | 11 => 140 | 13 => 123 | 12 => 141 | 23 => 138 | 24 => 139 | 14 => 148 | 15 => 149 | 16 => 150 | 17 => 151 | 18 => 152 | 19 => 153 | 20 => 154 | 21 => 155 | 22 => 156 | 25 => 158 | 26 => 143 | 27 => 144 | 28 => 159 | 29 => 160 | 30 => 161 | 31 => 162 | n => n, fun | 26 => 9 | 28 => 155 | 24 => 35 | 0 => 0 | 3 => 3 | 37 => 167 | 48 => 180 | 50 => 182 | 4 => 4 | 40 => 172 | 39 => 171 | 45 => 177 | 5 => 5 | 9 => 9 | 51 => 185 | 55 => 189 | 57 => 197 | 58 => 198 | 33 => 117 | n => n, fun | n => n⟩
theorem Try.sortedA : Go.Proofs.SlLaysZ.n6 Try.prog Try.sortedA_ren := {
  mixed := by kernel_rfl
  f6 := ⟨Try.f116.name, by decide, Try.func116.trans (congrArg some (by kernel_rfl))⟩
  f8 := ⟨Try.f126.name, by decide, Try.func126.trans (congrArg some (by kernel_rfl))⟩
  f11 := ⟨Try.f140.name, by decide, Try.func140.trans (congrArg some (by kernel_rfl))⟩
  t0 := Try.underlying0
  a0 := Try.isAgg0
  z0 := Try.sizeOf0
  v0 := Try.zeroValue0
  t24 := Try.underlying35
  a24 := Try.isAgg35
  z24 := Try.sizeOf35
  v24 := Try.zeroValue35
  t26 := Try.underlying9
  a26 := Try.isAgg9
  z26 := Try.sizeOf9
  v26 := Try.zeroValue9
  t28 := Try.underlying155
  a28 := Try.isAgg155
  z28 := Try.sizeOf155
  v28 := Try.zeroValue155
  i26 := by kernel_rfl }
def Try.sortA_ren : Go.Shelf.Ren := ⟨fun | 6 => 127 | 8 => 123 | 9 => 141 | 19 => 138 | 20 => 139 | 21 => 148 | 22 => 149 | 23 => 150 | 24 => 151 | 25 => 152 | 26 => 153 | 27 => 154 | 28 => 155 | 29 => 156 | 36 => 158 | 31 => 143 | 32 => 144 | 37 => 159 | 38 => 160 | 39 => 161 | 41 => 162 | n => n, fun | 27 => 35 | 29 => 9 | 3 => 3 | 32 => 167 | 26 => 35 | 0 => 0 | 44 => 180 | 46 => 182 | 4 => 4 | 36 => 172 | 35 => 171 | 41 => 177 | 5 => 5 | 9 => 9 | 53 => 185 | 57 => 189 | 63 => 197 | 64 => 198 | n => n, fun | n => n⟩
theorem Try.sortA : Go.Proofs.SlLaysM.n6 Try.prog Try.sortA_ren := {
  mixed := by kernel_rfl
  f6 := ⟨Try.f127.name, by decide, Try.func127.trans (congrArg some (by kernel_rfl))⟩
  f8 := Try.func123.trans (congrArg some (by kernel_rfl))
  f9 := ⟨Try.f141.name, by decide, Try.func141.trans (congrArg some (by kernel_rfl))⟩
  f19 := Try.func138.trans (congrArg some (by kernel_rfl))
  f20 := Try.func139.trans (congrArg some (by kernel_rfl))
  f21 := ⟨Try.f148.name, by decide, Try.func148.trans (congrArg some (by kernel_rfl))⟩
  f22 := ⟨Try.f149.name, by decide, Try.func149.trans (congrArg some (by kernel_rfl))⟩
  f23 := ⟨Try.f150.name, by decide, Try.func150.trans (congrArg some (by kernel_rfl))⟩
  f24 := ⟨Try.f151.name, by decide, Try.func151.trans (congrArg some (by kernel_rfl))⟩
  f25 := ⟨Try.f152.name, by decide, Try.func152.trans (congrArg some (by kernel_rfl))⟩
  f26 := ⟨Try.f153.name, by decide, Try.func153.trans (congrArg some (by kernel_rfl))⟩
  f27 := ⟨Try.f154.name, by decide, Try.func154.trans (congrArg some (by kernel_rfl))⟩
  f28 := ⟨Try.f155.name, by decide, Try.func155.trans (congrArg some (by kernel_rfl))⟩
  f29 := ⟨Try.f156.name, by decide, Try.func156.trans (congrArg some (by kernel_rfl))⟩
  f31 := Try.func143.trans (congrArg some (by kernel_rfl))
  f32 := Try.func144.trans (congrArg some (by kernel_rfl))
  f36 := ⟨Try.f158.name, by decide, Try.func158.trans (congrArg some (by kernel_rfl))⟩
  f37 := ⟨Try.f159.name, by decide, Try.func159.trans (congrArg some (by kernel_rfl))⟩
  f38 := ⟨Try.f160.name, by decide, Try.func160.trans (congrArg some (by kernel_rfl))⟩
  f39 := ⟨Try.f161.name, by decide, Try.func161.trans (congrArg some (by kernel_rfl))⟩
  f41 := ⟨Try.f162.name, by decide, Try.func162.trans (congrArg some (by kernel_rfl))⟩
  t0 := Try.underlying0
  a0 := Try.isAgg0
  z0 := Try.sizeOf0
  v0 := Try.zeroValue0
  t3 := Try.underlying3
  a3 := Try.isAgg3
  z3 := Try.sizeOf3
  v3 := Try.zeroValue3
  t4 := Try.underlying4
  a4 := Try.isAgg4
  z4 := Try.sizeOf4
  v4 := Try.zeroValue4
  t5 := Try.underlying5
  a5 := Try.isAgg5
  z5 := Try.sizeOf5
  v5 := Try.zeroValue5
  t9 := Try.underlying9
  a9 := Try.isAgg9
  z9 := Try.sizeOf9
  v9 := Try.zeroValue9
  t26 := Try.underlying35
  a26 := Try.isAgg35
  z26 := Try.sizeOf35
  v26 := Try.zeroValue35
  t27 := Try.underlying35
  a27 := Try.isAgg35
  z27 := Try.sizeOf35
  v27 := Try.zeroValue35
  t29 := Try.underlying9
  a29 := Try.isAgg9
  z29 := Try.sizeOf9
  v29 := Try.zeroValue9
  t32 := Try.underlying167
  a32 := Try.isAgg167
  z32 := Try.sizeOf167
  v32 := Try.zeroValue167
  t35 := Try.underlying171
  a35 := Try.isAgg171
  z35 := Try.sizeOf171
  v35 := Try.zeroValue171
  t36 := Try.underlying172
  a36 := Try.isAgg172
  z36 := Try.sizeOf172
  v36 := Try.zeroValue172
  t41 := Try.underlying177
  a41 := Try.isAgg177
  z41 := Try.sizeOf177
  v41 := Try.zeroValue177
  t44 := Try.underlying180
  a44 := Try.isAgg180
  z44 := Try.sizeOf180
  v44 := Try.zeroValue180
  t46 := Try.underlying182
  a46 := Try.isAgg182
  z46 := Try.sizeOf182
  v46 := Try.zeroValue182
  t53 := Try.underlying185
  a53 := Try.isAgg185
  z53 := Try.sizeOf185
  v53 := Try.zeroValue185
  t57 := Try.underlying189
  a57 := Try.isAgg189
  z57 := Try.sizeOf189
  v57 := Try.zeroValue189
  t63 := Try.underlying197
  a63 := Try.isAgg197
  z63 := Try.sizeOf197
  v63 := Try.zeroValue197
  t64 := Try.underlying198
  a64 := Try.isAgg198
  z64 := Try.sizeOf198
  v64 := Try.zeroValue198 }
end Go.Proofs
namespace Go.Proofs.Ytdbpfhbppcpbbaa
open Go Go.Proofs Go.RowKit Go.Maps Go.Sort Go.Shelf Go.Pv

/-- slices.Sort's two contracts at this dump, at the fence that asks nothing. -/
theorem sortsA (m : Nat) : AnyZ.SortsIn Try.prog Try.sortedA_ren Fence.wide m :=
  ⟨fun blk off cap ss W hH hblk hsz => callsIn_wide.2 (AnyM.slices_Sort_string Try.sortA blk off cap ss W hH hblk hsz),
   fun p cap W => callsIn_wide.2 (AnyM.slices_Sort_string_none Try.sortA p cap W)⟩

theorem sortedKeys (Bm b nn : Nat) (D0 : DataW Unit) (w : World) (hBm : Bm < w.heap.size) (hc : w.cell? ⟨Bm, 0, none⟩ = some (.map (some b))) (hown : w.ownsMap Try.prog 9 (fun _ => some (.nil, [])) b nn D0) (hmax : Maps.size D0 ≤ maxLen) (hbytes : Maps.size D0 * 16 ≤ 140737488355328) :
    Calls Try.prog 116 #[.func (.func 128) #[] #[.pointer (some ⟨Bm, 0, none⟩)]] w fun e w' => ∃ (v : Value) (ss : List (List UInt8)), e = .returned v ∧ ss.Perm (strKeys D0) ∧
      w'.ownsRow w.heap.size 9 1 v ss.length ((ss.mergeSort (fun x y => decide (x ≤ y))).map encStr) ∧ Below w.heap.size w w' := by
  refine (callsIn_wide (n := 5)).1 ?_
  have hseq : SeqGives Fence.wide 2 Try.prog 128 #[.pointer (some ⟨Bm, 0, none⟩)] encStr (fun ss => ss.Perm (strKeys D0)) (Maps.size D0) w :=
    AnyZ.keys_gives (ρ := Try.keysA_ren) { Try.keysA with } Fence.wide _ trivial rfl (by omega) Bm b nn D0 _ hBm hc hown
  have cS := AnyZ.sorted_in Try.sortedA Fence.wide 5 trivial trivial trivial trivial rfl (by omega) (sortsA _) (enters_of Try.func127 (by kernel_rfl) rfl) 128 #[.pointer (some ⟨Bm, 0, none⟩)] trivial (enters_of Try.func128 (by kernel_rfl) rfl) _ _ hmax hbytes _ hseq
  change CallsIn _ _ Try.prog 116 _ _ _ at cS
  exact cS.mono fun e w' ⟨v, ss, h1, h2, h3, _, h5⟩ => ⟨v, ss, h1, h2, h3, h5⟩

theorem sorted_orc : ∀ (f : FuncId) (args : List PV) (h : HL) (c : CL) (v : PV) (h' : HL) (c' : CL), sortedO 116 128 f args h c = some (v, h', c') → ∀ R : PV → Heap → (Nat → Nat) → Prop, R v (hGet h') (cGet c') → HCallsR Try.prog f args (hGet h) (cGet c) R :=
  sorted_oracle (kt := 9) (by kernel_rfl) (by kernel_rfl) sortedKeys
end Go.Proofs.Ytdbpfhbppcpbbaa
