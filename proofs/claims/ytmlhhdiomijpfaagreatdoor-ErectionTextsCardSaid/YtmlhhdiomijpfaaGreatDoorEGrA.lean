import Derived.Shelf.Spec.SlicesGrow
import Derived.Ground.Names8Prog
import Derived.Test.YtmlhhdiomijpfaaGreatDoorProg
import Derived.Test.YtmlhhdiomijpfaaGreatDoorPvGh
import Derived.Test.YtmlhhdiomijpfaaGreatDoorNumA
set_option linter.unusedSimpArgs false
set_option linter.unusedVariables false
namespace Go.Proofs
open Go.Shelf
def Tryz.growG_ren : Go.Shelf.Ren := ⟨fun | 4 => 78 | n => n, fun | 22 => 47 | 25 => 3 | 3 => 3 | 4 => 4 | 9 => 9 | 20 => 20 | 0 => 0 | n => n, fun | n => n⟩
theorem Tryz.growG : Go.Proofs.Lays8.n4 Tryz.prog Tryz.growG_ren := {
 mixed := by kernel_rfl
 f4 := ⟨Tryz.f78.name, by decide, Tryz.func78.trans (congrArg some (by kernel_rfl))⟩
 t0 := Tryz.underlying0
 a0 := Tryz.isAgg0
 z0 := Tryz.sizeOf0
 v0 := Tryz.zeroValue0
 t3 := Tryz.underlying3
 a3 := Tryz.isAgg3
 z3 := Tryz.sizeOf3
 v3 := Tryz.zeroValue3
 t4 := Tryz.underlying4
 a4 := Tryz.isAgg4
 z4 := Tryz.sizeOf4
 v4 := Tryz.zeroValue4
 t9 := Tryz.underlying9
 a9 := Tryz.isAgg9
 z9 := Tryz.sizeOf9
 v9 := Tryz.zeroValue9
 t20 := Tryz.underlying20
 a20 := Tryz.isAgg20
 z20 := Tryz.sizeOf20
 v20 := Tryz.zeroValue20
 t22 := Tryz.underlying47
 a22 := Tryz.isAgg47
 z22 := Tryz.sizeOf47
 v22 := Tryz.zeroValue47 }
end Go.Proofs
namespace Go.Proofs.YtmlhhdiomijpfaaGreatDoor
open Go Go.Proofs Go.RowKit Go.Shelf Go.Pv
theorem growP (base : Option Addr) (n : Nat) (h0 : 0 < n) (h1 : n ≤ 1000000) (w : World) : Calls Tryz.prog 78 #[.slice base 0 0, .int .i64 n] w fun e w' => ∃ (c : Nat) (cells : Array Value) (T : TypeId), e = .returned (.slice (some ⟨w.heap.size, 0, none⟩) 0 c) ∧ w' = w.drew.alloc (.cells cells T) ∧ cells.size = c * 1 := by
 obtain ⟨z, hz, hzs⟩ := zeroOk_spec (P := Tryz.prog) (t := 3) (by kernel_rfl);obtain ⟨v, i, hi, hv, _, hlen⟩ := zero_rep (E := pureEnv w (fun _ => False) true) hz;have ht : tySize Tryz.prog 3 = 1 := by kernel_rfl
 have hsz : i.size = 1 := by rw [← ht]; unfold tySize Program.cellsOf; rw [hi]; rfl
 have hby : i.bytes ≤ 100000 := by
   have h2 : Nat.ble (Tryz.prog.bytesOf 3) 100000 = true := by kernel_rfl
   have h3 := Nat.le_of_ble_eq_true h2;have h4 : Tryz.prog.bytesOf 3 = i.bytes := by unfold Program.bytesOf; rw [hi]; rfl
   omega
 have hbig : (0 + n) * i.bytes ≤ 140737488355328 := by
   have := Nat.mul_le_mul h1 hby;rw [Nat.zero_add]; omega
 refine (Any8.slices_Grow_grow Tryz.growG i v hi hv (by omega) base 0 0 n [] w (Nat.le_refl _) (by omega) hbig (by omega) (by simp) (fun _ => rfl) (fun _ _ _ _ h => by simp at h)).mono ?_
 rintro e w' ⟨rfl, rfl⟩
 refine ⟨_, _, _, rfl, rfl, ?_⟩;have hc : v.cells.size = 1 := by rw [← hlen, hzs, ht]
 have hge := grownCap_ge w (0 + n) 0 (Tryz.growG_ren.t 25);generalize grownCap w (0 + n) 0 (Tryz.growG_ren.t 25) = gc at hge;simp only [Array.size_append, List.size_toArray, List.length_nil, size_zeroCells, hc, ← Nat.add_mul, Nat.zero_add, Nat.sub_zero];have e : n + (gc - n) = gc := by omega
 rw [e]
theorem growH {h : Heap} {c : Nat → Nat} {R : PV → Heap → (Nat → Nat) → Prop} (site n : Nat) (h0 : 0 < n) (h1 : n ≤ 1000000) (hR : R (.ref (site, c site) 1 0 0) (hset h (site, c site) (some (.rows 1 []))) (cset c site)) : HCallsR Tryz.prog 78 [.nil, .int n] h c R :=
 grow_core (by kernel_rfl) (by omega) (fun b w => growP b n h0 h1 w) hR
theorem growP0 (base : Option Addr) (w : World) : Calls Tryz.prog 78 #[.slice base 0 0, .int .i64 0] w fun e w' => e = .returned (.slice base 0 0) ∧ w' = w :=
 Any8.slices_Grow_room Tryz.growG base 0 0 0 w (by omega) (by omega) (by omega) (by omega)
theorem grow0 {h : Heap} {c : Nat → Nat} {R : PV → Heap → (Nat → Nat) → Prop} (hR : R .nil h c) : HCallsR Tryz.prog 78 [.nil, .int 0] h c R := by
 refine ⟨by kernel_rfl, fun E vs gE hh hcn htt hvs hrep => ?_⟩;subst hh;subst hcn;obtain ⟨v0, v1, rfl⟩ := arr2' hvs;have h0 := hrep 0 v0 _ rfl rfl;have h1 := hrep 1 v1 _ rfl rfl;cases h0 with
 | nil =>
 have hv1 : v1 = .int .i64 0 := h1.sc_inv;subst hv1;refine (growP0 _ E.w).mono ?_
 rintro e w' ⟨rfl, rfl⟩
 exact ⟨_, .nil, E, rfl, hR, rfl, gE, EnvLe.refl E, Below.refl _ _, .nil⟩
theorem growC {h : Heap} {c : Nat → Nat} (n : Nat) (h1 : n ≤ 1000000) : HCallsR Tryz.prog 78 [.nil, .int n] h c fun v h' _ => SliceAt h' 33 v 1 [] := by
 by_cases h0 : n = 0
 · subst h0; exact grow0 .nil
 · exact growH 33 n (by omega) h1 (.ofRef (hset_self _ _ _) rfl)
end Go.Proofs.YtmlhhdiomijpfaaGreatDoor

set_option linter.unusedSimpArgs false
set_option linter.unusedVariables false
set_option maxRecDepth 100000
namespace Go.Proofs.YtmlhhdiomijpfaaGreatDoor
open Go Go.Pv Go.Tx
theorem flat_snoc {ls : List (List Int)} {k : Nat} {l : List Int} (ht : ls.take (k + 1) = ls.take k ++ [l]) : (ls.take (k + 1)).flatten = (ls.take k).flatten ++ l := by rw [ht]; simp
theorem flat_le {ls : List (List Int)} {k : Nat} : (ls.take k).flatten.length ≤ ls.flatten.length := by
 have : ls.flatten = (ls.take k).flatten ++ (ls.drop k).flatten := by rw [← List.flatten_append, List.take_append_drop]
 rw [this, List.length_append]; omega
theorem concat_out {h : Heap} {v : PV} {ls : List (List Int)} (hv : SliceAt h 33 v 1 ((ls.take ls.length).flatten.map ci)) : Out h v (.lit false 1 (ls.flatten.map ci)) := by
 rw [List.take_length] at hv;refine out_slice hv rfl (fun _ => rfl) fun a p hp => ?_;simp only [ci, List.mem_cons, List.not_mem_nil, or_false] at hp;subst hp;exact ⟨.sc _, rfl⟩
theorem fr42 : (inFrame Tryz.f42.ntmps (Tryz.f42.body.getD .skip) && Tryz.f42.results.toList.all (resScope Tryz.f42.ntmps)) = true := by kernel_rfl
theorem concatC (ls : List (List Int)) (hll : ls.length ≤ 1000000) (hl : ls.flatten.length ≤ 1000000) : PCalls Tryz.prog 42 [.lit true 1 (ls.map cl)] (.lit false 1 (ls.flatten.map ci)) := by
 refine PCalls.of_code Tryz.func42 rfl rfl (by kernel_rfl) mixed fr42 (by show _ ≤ 36; simp) (.lit _ _ _ fun row hr => pure_map ci_pure row hr) (pwp_seq_plain rfl fun K1 hK1 => p_e rfl (e_assign (v := .nil) rfl) (p_end (hK1 _ ?_))); clear hK1 K1;refine pwp_seq_plain rfl fun K2 hK2 => p_aS rfl (p_end (hK2 _ ?_)); clear hK2 K2;refine pwp_seq_seq (pwp_seq_plain rfl fun K3 hK3 => p_e rfl (e_move (v := .lit _ _ _) rfl) (p_e rfl (e_len rfl (by kernel_rfl)) (p_mS rfl (p_end (hK3 _ ?_))))); clear hK3 K3;refine pwp_seq_block fun K4 hK4 => pwp_loopR (α := Nat × Int) [0, 9, 10] (fun (a5 : Nat × Int) => [(3, .int (a5.2)), (11, .int (a5.1))]) (fun (a5 : Nat × Int) (h : Heap) (_ : Nat → Nat) => ((a5.1) ≤ ls.length) ∧ ((a5.2) = (((ls.take (a5.1)).flatten.length : Nat) : Int))) (fun (a5 : Nat × Int) => ls.length - (a5.1)) (0, 0) (by exact ⟨rfl, rfl, trivial⟩) (by exact ⟨by exact Nat.zero_le _, by exact rfl⟩) fun a5 r6 h7 c8 hj9 => ?_;obtain ⟨k, n⟩ := a5;obtain ⟨hk, hnn⟩ := hj9;try dsimp only at hk
 try dsimp only at hnn
 show pwp _ _ (loopQ _ _ _) ⟨sets (mix _ _ _) [(3, .int n), (11, .int k)], _, _⟩;refine pwp_seq_plain rfl fun K10 hK10 => p_e rfl (e_lt rfl rfl) (p_end (hK10 _ ?_)); clear hK10 K10;refine pwp_seq_cond rfl fun K11 hK11 => ⟨fun hb12 => ?_, fun hb12 => ?_⟩
 ·have hb12R := hb12; try simp only [zz] at hb12
  obtain ⟨l, hx, hd, ht⟩ := get_lt (xs := ls) (i := k) (by omega);have hf0 := flat_snoc ht;have hf1 := flat_le (ls := ls) (k := k + 1);rw [hf0, List.length_append] at hf1;refine pwp_skip (seq_norm (hK11 _ ?_)); clear hK11 K11;refine pwp_seq_block fun K13 hK13 => pwp_seq_plain rfl fun K14 hK14 => p_e rfl (e_ixL rfl rfl) (p_e rfl (e_lL (v := .lit _ _ _) rfl ((cell_map hx _).trans rfl)) (p_e rfl (e_assign (v := .lit _ _ _) rfl) (p_end (hK14 _ ?_)))); clear hK14 K14;refine pwp_seq_plain rfl fun K15 hK15 => p_mS rfl (p_e rfl (e_move (v := .lit _ _ _) rfl) (p_e rfl (e_len rfl (by kernel_rfl)) (p_e rfl (e_adL rfl rfl) (p_aS rfl (p_end (hK15 _ ?_)))))); clear hK15 K15;refine pwp_seq_plain rfl fun K16 hK16 => p_mS rfl (p_e rfl (e_lt rfl rfl) (p_end (hK16 _ ?_))); clear hK16 K16;refine pwp_cond rfl (fun hb17 => ?_) (fun hb17 => ?_)
  ·have hb17R := hb17; try simp only [zz] at hb17
   exfalso; omega
  ·have hb17R := hb17; try simp only [zz] at hb17
   refine pwp_skip (block_norm (seq_norm (hK13 _ ?_))); clear hK13 K13;refine pwp_plain rfl fun K18 hK18 => p_e rfl (e_adL rfl rfl) (p_mS rfl (p_end (hK18 _ ?_))); clear hK18 K18;exact loop_again ((k + 1, (n + ((((l).map ci).length : Nat) : Int)))) (by show _ < _; simp only; omega) ⟨rfl, rfl, rfl, trivial⟩ ⟨rfl, rfl, trivial⟩ (by exact ⟨by show _ + 1 ≤ _; simp only [lM] at *; omega, by (rw [hf0, List.length_append]; simp only [lM] at *; omega)⟩)
 ·have hb12R := hb12; try simp only [zz] at hb12
  obtain rfl : k = ls.length := by simp only [lM] at *; omega
  have hfl : (ls.take ls.length).flatten.length ≤ 1000000 := by rw [List.take_length]; exact hl
  subst hnn;refine pwp_exit (exit_seq ?_);clear hK11 K11;refine exit_loop (exit_here (seq_norm (hK4 _ ?_))); clear hK4 K4;refine pwp_seq_plain rfl fun K19 hK19 => p_mS rfl (p_hcall rfl (growC _ hfl) fun v24 h24 c24 hs24 => p_e rfl (e_assign (v := _) rfl) (p_end (hK19 _ ?_))); clear hK19 K19;refine pwp_seq_seq (pwp_seq_plain rfl fun K20 hK20 => p_e rfl (e_move (v := .lit _ _ _) rfl) (p_e rfl (e_len rfl (by kernel_rfl)) (p_mS rfl (p_end (hK20 _ ?_))))); clear hK20 K20;refine pwp_seq_block fun K21 hK21 => pwp_loopR (α := Nat × PV) [25, 26] (fun (a22 : Nat × PV) => [(6, (a22.2)), (27, .int (a22.1))]) (fun (a22 : Nat × PV) (h : Heap) (_ : Nat → Nat) => ((a22.1) ≤ ls.length) ∧ (SliceAt h 33 (a22.2) 1 ((ls.take (a22.1)).flatten.map ci))) (fun (a22 : Nat × PV) => ls.length - (a22.1)) (0, v24) (by exact ⟨rfl, rfl, trivial⟩) (by exact ⟨by exact Nat.zero_le _, hs24⟩) fun a22 r23 h24 c25 hj26 => ?_;obtain ⟨k, v⟩ := a22;obtain ⟨hk, hihj26_0⟩ := hj26;try dsimp only at hk
  try dsimp only at hihj26_0
  show pwp _ _ (loopQ _ _ _) ⟨sets (mix _ _ _) [(6, v), (27, .int k)], _, _⟩;refine pwp_seq_plain rfl fun K27 hK27 => p_e rfl (e_lt rfl rfl) (p_end (hK27 _ ?_)); clear hK27 K27;refine pwp_seq_cond rfl fun K28 hK28 => ⟨fun hb29 => ?_, fun hb29 => ?_⟩
  ·have hb29R := hb29; try simp only [zz] at hb29
   obtain ⟨l, hx, hd, ht⟩ := get_lt (xs := ls) (i := k) (by omega);have hf0 := flat_snoc ht;have hf1 := flat_le (ls := ls) (k := k + 1);rw [hf0, List.length_append] at hf1;refine pwp_skip (seq_norm (hK28 _ ?_)); clear hK28 K28;refine pwp_seq_block fun K30 hK30 => pwp_seq_plain rfl fun K31 hK31 => p_e rfl (e_ixL rfl rfl) (p_e rfl (e_lL (v := .lit _ _ _) rfl ((cell_map hx _).trans rfl)) (p_e rfl (e_assign (v := .lit _ _ _) rfl) (p_end (hK31 _ ?_)))); clear hK31 K31;refine pwp_plain rfl fun K32 hK32 => p_e rfl (e_move (v := _) rfl) (p_e rfl (e_move (v := .lit _ _ _) rfl) (p_app rfl rfl rfl hihj26_0 src_lit (by kernel_rfl) (by simp only [List.length_append, lM, List.length_nil, List.length_cons]; omega) fun v33 h34 c35 hs36 hf37 => p_e rfl (e_assign (v := _) rfl) (p_end (hK32 _ ?_)))); clear hK32 K32;refine block_norm (seq_norm (hK30 _ ?_)); clear hK30 K30;refine pwp_plain rfl fun K38 hK38 => p_e rfl (e_adL rfl rfl) (p_mS rfl (p_end (hK38 _ ?_))); clear hK38 K38;exact loop_again ((k + 1, v33)) (by show _ < _; simp only; omega) ⟨rfl, rfl, trivial⟩ ⟨rfl, rfl, trivial⟩ (by exact ⟨by show _ + 1 ≤ _; simp only [lM] at *; omega, (SliceAt.to hs36 (by (rw [← List.map_append, ← hf0])))⟩)
  ·have hb29R := hb29; try simp only [zz] at hb29
   obtain rfl : k = ls.length := by simp only [lM] at *; omega
   refine pwp_exit (exit_seq ?_);clear hK28 K28;refine exit_loop (exit_here (seq_norm (hK21 _ ?_))); clear hK21 K21;refine pwp_seq_plain rfl fun K39 hK39 => p_e rfl (e_move (v := _) rfl) (p_e rfl (e_assign (v := _) rfl) (p_end (hK39 _ ?_))); clear hK39 K39;refine pwp_ret (end1 (v := _) rfl ?_);exact concat_out hihj26_0
end Go.Proofs.YtmlhhdiomijpfaaGreatDoor
