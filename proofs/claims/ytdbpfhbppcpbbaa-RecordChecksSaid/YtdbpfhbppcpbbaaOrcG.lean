/- 'slices.Grow' of nothing at this program, told from the library's contract. No conditions. -/
import Derived.Shelf.Spec.SlicesGrow
import Derived.Ground.Names8Prog
import Derived.Test.YtdbpfhbppcpbbaaProg
import Derived.Test.YtdbpfhbppcpbbaaPvZ7
namespace Go.Proofs
open Go.Shelf
def Try.growG_ren : Go.Shelf.Ren := ⟨fun | 4 => 118 | n => n, fun | 22 => 22 | 25 => 57 | 3 => 3 | 4 => 4 | 9 => 9 | 20 => 20 | 0 => 0 | n => n, fun | n => n⟩
theorem Try.growG : Go.Proofs.Lays8.n4 Try.prog Try.growG_ren := {
  mixed := by kernel_rfl
  f4 := ⟨Try.f118.name, by decide, Try.func118.trans (congrArg some (by kernel_rfl))⟩
  t0 := Try.underlying0
  a0 := Try.isAgg0
  z0 := Try.sizeOf0
  v0 := Try.zeroValue0
  t3 := Try.underlying3
  a3 := Try.isAgg3
  z3 := Try.sizeOf3
  v3 := Try.zeroValue3
  t4 := Try.underlying4
  a4 := Try.isAgg4
  z4 := Try.sizeOf4
  v4 := Try.zeroValue4
  t9 := Try.underlying9
  a9 := Try.isAgg9
  z9 := Try.sizeOf9
  v9 := Try.zeroValue9
  t20 := Try.underlying20
  a20 := Try.isAgg20
  z20 := Try.sizeOf20
  v20 := Try.zeroValue20
  t22 := Try.underlying22
  a22 := Try.isAgg22
  z22 := Try.sizeOf22
  v22 := Try.zeroValue22 }
end Go.Proofs
namespace Go.Proofs.Ytdbpfhbppcpbbaa
open Go Go.Proofs Go.RowKit Go.Shelf Go.Pv
theorem growP (base : Option Addr) (n : Nat) (h0 : 0 < n) (h1 : n ≤ 1000000) (w : World) : Calls Try.prog 118 #[.slice base 0 0, .int .i64 n] w fun e w' => ∃ (c : Nat) (cells : Array Value) (T : TypeId), e = .returned (.slice (some ⟨w.heap.size, 0, none⟩) 0 c) ∧ w' = w.drew.alloc (.cells cells T) ∧ cells.size = c * 6 := by
  obtain ⟨z, hz, hzs⟩ := zeroOk_spec (P := Try.prog) (t := 57) (by kernel_rfl)
  obtain ⟨v, i, hi, hv, _, hlen⟩ := zero_rep (E := pureEnv w (fun _ => False) true) hz
  have ht : tySize Try.prog 57 = 6 := by kernel_rfl
  have hsz : i.size = 6 := by rw [← ht]; unfold tySize Program.cellsOf; rw [hi]; rfl
  have hby : i.bytes ≤ 100000 := by
    have h2 : Nat.ble (Try.prog.bytesOf 57) 100000 = true := by kernel_rfl
    have h3 := Nat.le_of_ble_eq_true h2
    have h4 : Try.prog.bytesOf 57 = i.bytes := by unfold Program.bytesOf; rw [hi]; rfl
    omega
  have hbig : (0 + n) * i.bytes ≤ 140737488355328 := by
    have := Nat.mul_le_mul h1 hby
    rw [Nat.zero_add]; omega
  refine (Any8.slices_Grow_grow Try.growG i v hi hv (by omega) base 0 0 n [] w (Nat.le_refl _) (by omega) hbig (by omega) (by simp) (fun _ => rfl) (fun _ _ _ _ h => by simp at h)).mono ?_
  rintro e w' ⟨rfl, rfl⟩
  refine ⟨_, _, _, rfl, rfl, ?_⟩
  have hc : v.cells.size = 6 := by rw [← hlen, hzs, ht]
  have hge := grownCap_ge w (0 + n) 0 (Try.growG_ren.t 25)
  generalize grownCap w (0 + n) 0 (Try.growG_ren.t 25) = gc at hge
  simp only [Array.size_append, List.size_toArray, List.length_nil, size_zeroCells, hc, ← Nat.add_mul, Nat.zero_add, Nat.sub_zero]
  have e : n + (gc - n) = gc := by omega
  rw [e]
theorem growH {h : Heap} {c : Nat → Nat} {R : PV → Heap → (Nat → Nat) → Prop} (site n : Nat) (h0 : 0 < n) (h1 : n ≤ 1000000) (hR : R (.ref (site, c site) 6 0 0) (hset h (site, c site) (some (.rows 6 []))) (cset c site)) : HCallsR Try.prog 118 [.nil, .int n] h c R :=
  grow_core (by kernel_rfl) (by omega) (fun b w => growP b n h0 h1 w) hR
theorem growH1 {h : Heap} {c : Nat → Nat} (site n : Nat) (h0 : 0 < n) (h1 : n ≤ 1000000) : HCallsR Try.prog 118 [.nil, .int n] h c fun v h' _ => SliceAt h' site v 6 [] ∧ ∀ a b, Nat.beq a site = false → h' (a, b) = h (a, b) :=
  growH site n h0 h1 ⟨.ofRef (hset_self _ _ _) rfl, fun a b hab => hset_ne (key_ne hab)⟩
end Go.Proofs.Ytdbpfhbppcpbbaa
