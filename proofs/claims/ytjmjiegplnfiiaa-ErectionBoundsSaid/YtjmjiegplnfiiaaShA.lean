import Derived.Shelf.Spec.SlicesGrow
import Derived.Ground.Names8Prog
import Derived.Test.YtjmjiegplnfiiaaProg
import Derived.Test.YtjmjiegplnfiiaaPvGh
import Derived.Test.YtjmjiegplnfiiaaSchA
/- 'slices.Grow' of nothing at this program, told from the library's contract. No conditions. -/
namespace Go.Proofs
open Go.Shelf
def Try.growG_ren : Go.Shelf.Ren := ⟨fun | 4 => 123 | n => n, fun | 22 => 135 | 25 => 133 | 3 => 3 | 4 => 4 | 9 => 9 | 20 => 20 | 0 => 0 | n => n, fun | n => n⟩
theorem Try.growG : Go.Proofs.Lays8.n4 Try.prog Try.growG_ren := {
 mixed := by kernel_rfl
 f4 := ⟨Try.f123.name, by decide, Try.func123.trans (congrArg some (by kernel_rfl))⟩
 t0 := Try.underlying0
 a0 := Try.isAgg0
 z0 := Try.sizeOf0
 v0 := Try.zeroValue0
 t3 := Try.underlying3
 a3 := Try.isAgg3
 z3 := Try.sizeOf3
 v3 := Try.zeroValue3
 t4 := Try.underlying4
 a4 := Try.isAgg4
 z4 := Try.sizeOf4
 v4 := Try.zeroValue4
 t9 := Try.underlying9
 a9 := Try.isAgg9
 z9 := Try.sizeOf9
 v9 := Try.zeroValue9
 t20 := Try.underlying20
 a20 := Try.isAgg20
 z20 := Try.sizeOf20
 v20 := Try.zeroValue20
 t22 := Try.underlying135
 a22 := Try.isAgg135
 z22 := Try.sizeOf135
 v22 := Try.zeroValue135 }
end Go.Proofs
namespace Go.Proofs.Ytjmjiegplnfiiaa
open Go Go.Proofs Go.RowKit Go.Shelf Go.Pv
theorem growP (base : Option Addr) (n : Nat) (h0 : 0 < n) (h1 : n ≤ 1000000) (w : World) : Calls Try.prog 123 #[.slice base 0 0, .int .i64 n] w fun e w' => ∃ (c : Nat) (cells : Array Value) (T : TypeId), e = .returned (.slice (some ⟨w.heap.size, 0, none⟩) 0 c) ∧ w' = w.drew.alloc (.cells cells T) ∧ cells.size = c * 2 := by
 obtain ⟨z, hz, hzs⟩ := zeroOk_spec (P := Try.prog) (t := 133) (by kernel_rfl)
 obtain ⟨v, i, hi, hv, _, hlen⟩ := zero_rep (E := pureEnv w (fun _ => False) true) hz
 have ht : tySize Try.prog 133 = 2 := by kernel_rfl
 have hsz : i.size = 2 := by rw [← ht]; unfold tySize Program.cellsOf; rw [hi]; rfl
 have hby : i.bytes ≤ 100000 := by
   have h2 : Nat.ble (Try.prog.bytesOf 133) 100000 = true := by kernel_rfl
   have h3 := Nat.le_of_ble_eq_true h2
   have h4 : Try.prog.bytesOf 133 = i.bytes := by unfold Program.bytesOf; rw [hi]; rfl
   omega
 have hbig : (0 + n) * i.bytes ≤ 140737488355328 := by
   have := Nat.mul_le_mul h1 hby
   rw [Nat.zero_add]; omega
 refine (Any8.slices_Grow_grow Try.growG i v hi hv (by omega) base 0 0 n [] w (Nat.le_refl _) (by omega) hbig (by omega) (by simp) (fun _ => rfl) (fun _ _ _ _ h => by simp at h)).mono ?_
 rintro e w' ⟨rfl, rfl⟩
 refine ⟨_, _, _, rfl, rfl, ?_⟩
 have hc : v.cells.size = 2 := by rw [← hlen, hzs, ht]
 have hge := grownCap_ge w (0 + n) 0 (Try.growG_ren.t 25)
 generalize grownCap w (0 + n) 0 (Try.growG_ren.t 25) = gc at hge
 simp only [Array.size_append, List.size_toArray, List.length_nil, size_zeroCells, hc, ← Nat.add_mul, Nat.zero_add, Nat.sub_zero]
 have e : n + (gc - n) = gc := by omega
 rw [e]
theorem growH {h : Heap} {c : Nat → Nat} {R : PV → Heap → (Nat → Nat) → Prop} (site n : Nat) (h0 : 0 < n) (h1 : n ≤ 1000000) (hR : R (.ref (site, c site) 2 0 0) (hset h (site, c site) (some (.rows 2 []))) (cset c site)) : HCallsR Try.prog 123 [.nil, .int n] h c R :=
 grow_core (by kernel_rfl) (by omega) (fun b w => growP b n h0 h1 w) hR
theorem growP0 (base : Option Addr) (w : World) : Calls Try.prog 123 #[.slice base 0 0, .int .i64 0] w fun e w' => e = .returned (.slice base 0 0) ∧ w' = w :=
 Any8.slices_Grow_room Try.growG base 0 0 0 w (by omega) (by omega) (by omega) (by omega)
theorem grow0 {h : Heap} {c : Nat → Nat} {R : PV → Heap → (Nat → Nat) → Prop} (hR : R .nil h c) : HCallsR Try.prog 123 [.nil, .int 0] h c R := by
 refine ⟨by kernel_rfl, fun E vs gE hh hcn htt hvs hrep => ?_⟩
 subst hh
 subst hcn
 obtain ⟨v0, v1, rfl⟩ := arr2' hvs
 have h0 := hrep 0 v0 _ rfl rfl
 have h1 := hrep 1 v1 _ rfl rfl
 cases h0 with
 | nil =>
 have hv1 : v1 = .int .i64 0 := h1.sc_inv
 subst hv1
 refine (growP0 _ E.w).mono ?_
 rintro e w' ⟨rfl, rfl⟩
 exact ⟨_, .nil, E, rfl, hR, rfl, gE, EnvLe.refl E, Below.refl _ _, .nil⟩
theorem growC {h : Heap} {c : Nat → Nat} (n : Nat) (h1 : n ≤ 1000000) : HCallsR Try.prog 123 [.nil, .int n] h c fun v h' _ => SliceAt h' 33 v 2 [] := by
 by_cases h0 : n = 0
 · subst h0; exact grow0 .nil
 · exact growH 33 n (by omega) h1 (.ofRef (hset_self _ _ _) rfl)
end Go.Proofs.Ytjmjiegplnfiiaa

/- Lists of times joined; the earliest time. No conditions. -/
set_option linter.unusedSimpArgs false
set_option linter.unusedVariables false
set_option maxRecDepth 100000
namespace Go.Proofs.Ytjmjiegplnfiiaa
open Go Go.Pv
def clS (l : List Sp) : List PV := [.lit true 2 (l.map Sp.enc)]
theorem flat_snoc {ls : List (List Sp)} {k : Nat} {l : List Sp} (ht : ls.take (k + 1) = ls.take k ++ [l]) : (ls.take (k + 1)).flatten = (ls.take k).flatten ++ l := by rw [ht]; simp
theorem flat_le {ls : List (List Sp)} {k : Nat} : (ls.take k).flatten.length ≤ ls.flatten.length := by
 have : ls.flatten = (ls.take k).flatten ++ (ls.drop k).flatten := by rw [← List.flatten_append, List.take_append_drop]
 rw [this, List.length_append]; omega

/-! ### The earliest time -/
def earL (l : List Sp) (m a : Int) : Int := a + (((List.range 4000000).find? fun n : Nat => !(l.any (mtB ⟨a + n, a + n + m⟩))).getD 0 : Nat)
theorem earL_eq {l : List Sp} {m a r : Int} (h1 : a ≤ r) (h2 : r - a < 4000000) (h3 : l.any (mtB ⟨r, r + m⟩) = false) (h4 : ∀ z, a ≤ z → z < r → l.any (mtB ⟨z, z + m⟩) = true) : r = earL l m a := by
 have h5 : (List.range 4000000).find? (fun n : Nat => !(l.any (mtB ⟨a + n, a + n + m⟩))) = some (r - a).toNat := by
   rw [List.find?_range_eq_some]
   refine ⟨?_, List.mem_range.2 (by omega), fun j hj => ?_⟩
   · rw [show a + ((r - a).toNat : Int) = r by omega, h3]; rfl
   · rw [h4 (a + j) (by omega) (by omega)]; rfl
 rw [earL, h5]; simp only [Option.getD_some]; omega
theorem ear_step {l : List Sp} {m a z0 : Int} {s : Sp} {k : Nat} (hs : l[k]? = some s) (hm : mtB ⟨z0, z0 + m⟩ s = true) (h : ∀ z, a ≤ z → z < z0 → l.any (mtB ⟨z, z + m⟩) = true) : z0 < s.b ∧ ∀ z, a ≤ z → z < s.b → l.any (mtB ⟨z, z + m⟩) = true := by
 simp only [mtB, decide_eq_true_eq] at hm
 refine ⟨by omega, fun z h1 h2 => ?_⟩
 rcases Int.lt_or_le z z0 with h3 | h3
 · exact h z h1 h3
 · refine List.any_eq_true.2 ⟨s, List.mem_of_getElem? hs, ?_⟩
   simp only [mtB, decide_eq_true_eq]; omega
/-- What the earliest time is, without its search. -/
theorem earL_spec {l : List Sp} {m a B : Int} (hB : ∀ s ∈ l, s.b ≤ B) (ha : 0 ≤ a ∧ a ≤ B) (hB2 : B ≤ 3000000) : a ≤ earL l m a ∧ earL l m a ≤ B ∧ l.any (mtB ⟨earL l m a, earL l m a + m⟩) = false ∧ ∀ z, a ≤ z → z < earL l m a → l.any (mtB ⟨z, z + m⟩) = true := by
 have key : ∀ (n : Nat) (z0 : Int), (B - z0).toNat = n → a ≤ z0 → z0 ≤ B → (∀ z, a ≤ z → z < z0 → l.any (mtB ⟨z, z + m⟩) = true) → ∃ r, a ≤ r ∧ r ≤ B ∧ l.any (mtB ⟨r, r + m⟩) = false ∧ ∀ z, a ≤ z → z < r → l.any (mtB ⟨z, z + m⟩) = true := by
   intro n
   induction n using Nat.strongRecOn with
   | ind n ih =>
     intro z0 hn h1 h2 h3
     cases hq : l.any (mtB ⟨z0, z0 + m⟩) with
     | false => exact ⟨z0, h1, h2, hq, h3⟩
     | true =>
       obtain ⟨s, hs, hm⟩ := List.any_eq_true.1 hq
       obtain ⟨k, hk⟩ := List.getElem?_of_mem hs
       obtain ⟨h4, h5⟩ := ear_step hk hm h3
       have h6 := hB s hs
       exact ih (B - s.b).toNat (by omega) s.b rfl (by omega) h6 h5
 obtain ⟨r, h1, h2, h3, h4⟩ := key _ a rfl (Int.le_refl _) ha.2 (fun z h1 h2 => by omega)
 rw [← earL_eq h1 (by omega) h3 h4]
 exact ⟨h1, h2, h3, h4⟩
theorem ixA_some {α : Type} {K : α → Bool} {l : List α} (h : ¬ ixA K l < 0) : ∃ (k : Nat) (x : α), ixA K l = (k : Int) ∧ l[k]? = some x ∧ K x = true := by
 unfold ixA at h ⊢
 cases e : l.findIdx? K with
 | none => rw [e] at h; exact absurd (by decide) h
 | some i =>
   rw [List.findIdx?_eq_some_iff_getElem] at e
   obtain ⟨h1, h2, _⟩ := e
   exact ⟨i, _, rfl, List.getElem?_eq_getElem h1, h2⟩
theorem ixA_nil {α : Type} {K : α → Bool} {l : List α} (h : ixA K l < 0) : l.any K = false := by
 rw [← ixA_any, decide_eq_false (by omega)]

theorem concat_out {h : Heap} {v : PV} {ls : List (List Sp)} (hv : SliceAt h 33 v 2 ((ls.take ls.length).flatten.map Sp.enc)) : Out h v (.lit false 2 (ls.flatten.map Sp.enc)) := by
 rw [List.take_length] at hv
 refine out_slice hv rfl (fun _ => rfl) fun a p hp => ?_
 simp only [Sp.enc, List.mem_cons, List.not_mem_nil, or_false] at hp
 rcases hp with rfl | rfl
 · exact ⟨.sc _, rfl⟩
 · exact ⟨.sc _, rfl⟩

theorem fr99 : (inFrame Try.f99.ntmps (Try.f99.body.getD .skip) && Try.f99.results.toList.all (resScope Try.f99.ntmps)) = true := by kernel_rfl
theorem concatC (ls : List (List Sp)) (hll : ls.length ≤ 1000000) (hl : ls.flatten.length ≤ 1000000) : PCalls Try.prog 99 [.lit true 1 (ls.map clS)] (.lit false 2 (ls.flatten.map Sp.enc)) := by
 refine PCalls.of_code Try.func99 rfl rfl (by kernel_rfl) mixed fr99 (by show _ ≤ 36; simp) (.lit _ _ _ fun row hr => pure_map Sp.pure row hr) (pwp_seq_plain rfl fun K1 hK1 => p_e rfl (e_assign (v := .nil) rfl) (p_end (hK1 _ ?_))); clear hK1 K1
 refine pwp_seq_plain rfl fun K2 hK2 => p_aS rfl (p_end (hK2 _ ?_)); clear hK2 K2
 refine pwp_seq_seq (pwp_seq_plain rfl fun K3 hK3 => p_e rfl (e_move (v := .lit _ _ _) rfl) (p_e rfl (e_len rfl (by kernel_rfl)) (p_mS rfl (p_end (hK3 _ ?_))))); clear hK3 K3
 refine pwp_seq_block fun K4 hK4 => pwp_loopR (α := Nat × Int) [0, 9, 10] (fun (a5 : Nat × Int) => [(3, .int (a5.2)), (11, .int (a5.1))]) (fun (a5 : Nat × Int) (h : Heap) (_ : Nat → Nat) => ((a5.1) ≤ ls.length) ∧ ((a5.2) = (((ls.take (a5.1)).flatten.length : Nat) : Int))) (fun (a5 : Nat × Int) => ls.length - (a5.1)) (0, 0) (by exact ⟨rfl, rfl, trivial⟩) (by exact ⟨by exact Nat.zero_le _, by exact rfl⟩) fun a5 r6 h7 c8 hj9 => ?_
 obtain ⟨k, n⟩ := a5
 obtain ⟨hk, hnn⟩ := hj9
 try dsimp only at hk
 try dsimp only at hnn
 show pwp _ _ (loopQ _ _ _) ⟨sets (mix _ _ _) [(3, .int n), (11, .int k)], _, _⟩
 refine pwp_seq_plain rfl fun K10 hK10 => p_e rfl (e_lt rfl rfl) (p_end (hK10 _ ?_)); clear hK10 K10
 refine pwp_seq_cond rfl fun K11 hK11 => ⟨fun hb12 => ?_, fun hb12 => ?_⟩
 ·have hb12R := hb12; try simp only [zz] at hb12
  obtain ⟨l, hx, hd, ht⟩ := get_lt (xs := ls) (i := k) (by omega)
  have hf0 := flat_snoc ht
  have hf1 := flat_le (ls := ls) (k := k + 1)
  rw [hf0, List.length_append] at hf1
  refine pwp_skip (seq_norm (hK11 _ ?_)); clear hK11 K11
  refine pwp_seq_block fun K13 hK13 => pwp_seq_plain rfl fun K14 hK14 => p_e rfl (e_ixL rfl rfl) (p_e rfl (e_load (v := .lit _ _ _) rfl (by kernel_rfl) (by kernel_rfl) (by kernel_rfl) (by first | omega | (simp only [List.length_map]; omega)) (by decide) ((cell_map hx _).trans rfl)) (p_e rfl (e_assign (v := .lit _ _ _) rfl) (p_end (hK14 _ ?_)))); clear hK14 K14
  refine pwp_seq_plain rfl fun K15 hK15 => p_mS rfl (p_e rfl (e_move (v := .lit _ _ _) rfl) (p_e rfl (e_len rfl (by kernel_rfl)) (p_e rfl (e_adL rfl rfl) (p_aS rfl (p_end (hK15 _ ?_)))))); clear hK15 K15
  refine pwp_seq_plain rfl fun K16 hK16 => p_mS rfl (p_e rfl (e_lt rfl rfl) (p_end (hK16 _ ?_))); clear hK16 K16
  refine pwp_cond rfl (fun hb17 => ?_) (fun hb17 => ?_)
  ·have hb17R := hb17; try simp only [zz] at hb17
   exfalso; omega
  have hb17R := hb17; try simp only [zz] at hb17
  refine pwp_skip (block_norm (seq_norm (hK13 _ ?_))); clear hK13 K13
  refine pwp_plain rfl fun K18 hK18 => p_e rfl (e_adL rfl rfl) (p_mS rfl (p_end (hK18 _ ?_))); clear hK18 K18
  exact loop_again ((k + 1, (n + ((((l).map Sp.enc).length : Nat) : Int)))) (by show _ < _; simp only; omega) ⟨rfl, rfl, rfl, trivial⟩ ⟨rfl, rfl, trivial⟩ (by exact ⟨by show _ + 1 ≤ _; simp only [List.length_map] at *; omega, by (rw [hf0, List.length_append]; simp only [List.length_map] at *; omega)⟩)
 have hb12R := hb12; try simp only [zz] at hb12
 obtain rfl : k = ls.length := by simp only [List.length_map] at *; omega
 have hfl : (ls.take ls.length).flatten.length ≤ 1000000 := by rw [List.take_length]; exact hl
 subst hnn
 refine pwp_exit (exit_seq ?_)
 clear hK11 K11
 refine exit_loop (exit_here (seq_norm (hK4 _ ?_))); clear hK4 K4
 refine pwp_seq_plain rfl fun K19 hK19 => p_mS rfl (p_hcall rfl (growC _ hfl) fun v24 h24 c24 hs24 => p_e rfl (e_assign (v := _) rfl) (p_end (hK19 _ ?_))); clear hK19 K19
 refine pwp_seq_seq (pwp_seq_plain rfl fun K20 hK20 => p_e rfl (e_move (v := .lit _ _ _) rfl) (p_e rfl (e_len rfl (by kernel_rfl)) (p_mS rfl (p_end (hK20 _ ?_))))); clear hK20 K20
 refine pwp_seq_block fun K21 hK21 => pwp_loopR (α := Nat × PV) [25, 26] (fun (a22 : Nat × PV) => [(6, (a22.2)), (27, .int (a22.1))]) (fun (a22 : Nat × PV) (h : Heap) (_ : Nat → Nat) => ((a22.1) ≤ ls.length) ∧ (SliceAt h 33 (a22.2) 2 ((ls.take (a22.1)).flatten.map Sp.enc))) (fun (a22 : Nat × PV) => ls.length - (a22.1)) (0, v24) (by exact ⟨rfl, rfl, trivial⟩) (by exact ⟨by exact Nat.zero_le _, hs24⟩) fun a22 r23 h24 c25 hj26 => ?_
 obtain ⟨k, v⟩ := a22
 obtain ⟨hk, hihj26_0⟩ := hj26
 try dsimp only at hk
 try dsimp only at hihj26_0
 show pwp _ _ (loopQ _ _ _) ⟨sets (mix _ _ _) [(6, v), (27, .int k)], _, _⟩
 refine pwp_seq_plain rfl fun K27 hK27 => p_e rfl (e_lt rfl rfl) (p_end (hK27 _ ?_)); clear hK27 K27
 refine pwp_seq_cond rfl fun K28 hK28 => ⟨fun hb29 => ?_, fun hb29 => ?_⟩
 ·have hb29R := hb29; try simp only [zz] at hb29
  obtain ⟨l, hx, hd, ht⟩ := get_lt (xs := ls) (i := k) (by omega)
  have hf0 := flat_snoc ht
  have hf1 := flat_le (ls := ls) (k := k + 1)
  rw [hf0, List.length_append] at hf1
  refine pwp_skip (seq_norm (hK28 _ ?_)); clear hK28 K28
  refine pwp_seq_block fun K30 hK30 => pwp_seq_plain rfl fun K31 hK31 => p_e rfl (e_ixL rfl rfl) (p_e rfl (e_load (v := .lit _ _ _) rfl (by kernel_rfl) (by kernel_rfl) (by kernel_rfl) (by first | omega | (simp only [List.length_map]; omega)) (by decide) ((cell_map hx _).trans rfl)) (p_e rfl (e_assign (v := .lit _ _ _) rfl) (p_end (hK31 _ ?_)))); clear hK31 K31
  refine pwp_plain rfl fun K32 hK32 => p_e rfl (e_move (v := _) rfl) (p_e rfl (e_move (v := .lit _ _ _) rfl) (p_app rfl rfl rfl hihj26_0 src_lit (by kernel_rfl) (by simp only [List.length_append, List.length_map, List.length_nil, List.length_cons]; omega) fun v33 h34 c35 hs36 hf37 => p_e rfl (e_assign (v := _) rfl) (p_end (hK32 _ ?_)))); clear hK32 K32
  refine block_norm (seq_norm (hK30 _ ?_)); clear hK30 K30
  refine pwp_plain rfl fun K38 hK38 => p_e rfl (e_adL rfl rfl) (p_mS rfl (p_end (hK38 _ ?_))); clear hK38 K38
  exact loop_again ((k + 1, v33)) (by show _ < _; simp only; omega) ⟨rfl, rfl, trivial⟩ ⟨rfl, rfl, trivial⟩ (by exact ⟨by show _ + 1 ≤ _; simp only [List.length_map] at *; omega, (SliceAt.to hs36 (by (rw [← List.map_append, ← hf0])))⟩)
 have hb29R := hb29; try simp only [zz] at hb29
 obtain rfl : k = ls.length := by simp only [List.length_map] at *; omega
 refine pwp_exit (exit_seq ?_)
 clear hK28 K28
 refine exit_loop (exit_here (seq_norm (hK21 _ ?_))); clear hK21 K21
 refine pwp_seq_plain rfl fun K39 hK39 => p_e rfl (e_move (v := _) rfl) (p_e rfl (e_assign (v := _) rfl) (p_end (hK39 _ ?_))); clear hK39 K39
 refine pwp_ret (end1 (v := _) rfl ?_)
 exact concat_out hihj26_0

theorem fr98 : (inFrame Try.f98.ntmps (Try.f98.body.getD .skip) && Try.f98.results.toList.all (resScope Try.f98.ntmps)) = true := by kernel_rfl
theorem earliestC (l : List Sp) (a m B : Int) (hl : l.length ≤ 1000000) (hB : ∀ s ∈ l, s.b ≤ B) (hB2 : B ≤ 3000000) (ha : 0 ≤ a ∧ a ≤ 3000000) (hm : 0 ≤ m ∧ m ≤ 1000000) : PCalls Try.prog 98 [.int a, .int m, .lit true 2 (l.map Sp.enc)] (.int (earL l m a)) := by
 refine PCalls.of_code Try.func98 rfl rfl (by kernel_rfl) mixed fr98 (by show _ ≤ 26; simp) (.sc _) (pwp_seq_plain rfl fun K1 hK1 => p_aS rfl (p_end (hK1 _ ?_))); clear hK1 K1
 refine pwp_block (pwp_loopR (α := Int) [1, 2] (fun (z0 : Int) => [(0, .int (z0))]) (fun (z0 : Int) (h : Heap) (_ : Nat → Nat) => (a ≤ (z0) ∧ (z0) ≤ 3000000) ∧ (∀ z, a ≤ z → z < (z0) → l.any (mtB ⟨z, z + m⟩) = true)) (fun (z0 : Int) => (B - (z0)).toNat) (a) (by exact ⟨rfl, trivial⟩) (by exact ⟨by omega, by exact fun z h1 h2 => by omega⟩) fun z0 r2 h3 c4 hj5 => ?_)
 obtain ⟨hz0, hz1⟩ := hj5
 try dsimp only at hz0
 try dsimp only at hz1
 show pwp _ _ (loopQ _ _ _) ⟨sets (mix _ _ _) [(0, .int z0)], _, _⟩
 refine pwp_block (pwp_seq_plain rfl fun K6 hK6 => p_mS rfl (p_mS rfl (p_mS rfl (p_e rfl (e_adL rfl rfl) (p_e rfl (e_build (cs := Sp.enc (⟨z0, (z0 + m)⟩ : Sp)) (zs := [.int 0, .int 0]) (pl := [(0, 1, false), (1, 1, false)]) (by kernel_rfl) (by kernel_rfl) (by kernel_rfl) rfl rfl (by exact ⟨by decide, rfl, Nat.le_of_ble_eq_true rfl, rfl, ⟨by decide, rfl, Nat.le_of_ble_eq_true rfl, rfl, trivial⟩⟩) rfl) (p_new rfl (e_alloc (cs := [.int 0, .int 0]) (n := 2) (by kernel_rfl) rfl (by decide)) (ob_alloc (by decide)) ?_))))))
 refine p_store rfl (e_storeA rfl (hset_self _ _ _) rfl rfl rfl (by kernel_rfl) rfl (by kernel_rfl)) trivial (p_end (hK6 _ ?_)); clear hK6 K6
 refine pwp_seq_plain rfl fun K7 hK7 => p_e rfl (e_move (v := .lit _ _ _) rfl) (p_e rfl (e_loadHA (cs := Sp.enc ((⟨z0, (z0 + m)⟩ : Sp))) (n := 2) rfl (hset_self _ _ _) (by kernel_rfl) (by kernel_rfl) (by kernel_rfl) (by exact Nat.zero_lt_one) (by decide) rfl) (p_e rfl (e_mkfB (a := .agg (Sp.enc (⟨z0, (z0 + m)⟩ : Sp))) rfl rfl) (p_call rfl (.cons inn_lit (.cons inn_bndF .nil)) (IndexSp l ⟨z0, z0 + m⟩ (by omega)) (p_aS rfl (p_end (hK7 _ ?_)))))); clear hK7 K7
 refine pwp_seq_seq (pwp_seq_plain rfl fun K8 hK8 => p_mS rfl (p_e rfl (e_lt rfl rfl) (p_end (hK8 _ ?_)))); clear hK8 K8
 refine pwp_seq_cond rfl fun K9 hK9 => ⟨fun hb10 => ?_, fun hb10 => ?_⟩
 ·have hb10R := hb10; try simp only [zz] at hb10
  refine pwp_seq_plain rfl fun K11 hK11 => p_mS rfl (p_aS rfl (p_end (hK11 _ ?_))); clear hK11 K11
  refine pwp_ret (ret_seq (ret_block (ret_loop (ret_block (end1 (v := .sc _) rfl ?_)))))
  exact out_i (earL_eq hz0.1 (by omega) (ixA_nil (by omega)) hz1)
 have hb10R := hb10; try simp only [zz] at hb10
 refine pwp_skip (seq_norm (hK9 _ ?_)); clear hK9 K9
 obtain ⟨k, x, hix, hx, hmx⟩ := ixA_some (K := mtB ⟨z0, z0 + m⟩) (l := l) (by omega)
 have hkl := (List.getElem?_eq_some_iff.1 hx).1
 obtain ⟨hlt, hz2⟩ := ear_step hx hmx hz1
 have hxB := hB x (List.mem_of_getElem? hx)
 refine pwp_plain rfl fun K12 hK12 => p_e rfl (e_move (v := .lit _ _ _) rfl) (p_mS rfl (p_e rfl (e_ixa rfl rfl (by kernel_rfl) (by kernel_rfl) (by rw [hix]; simp only [List.length_map]; omega)) (p_e rfl (e_fb pl2 rfl) (p_e rfl (e_load (v := .sc _) rfl (by kernel_rfl) (by kernel_rfl) (by kernel_rfl) (by rw [hix]; simp only [List.length_map]; omega) (by decide) ((cell_map (by rw [hix, Int.toNat_natCast]; exact hx) _).trans rfl)) (p_aS rfl (p_end (hK12 _ ?_))))))); clear hK12 K12
 refine block_norm ?_
 exact loop_again (x.b) (by show _ < _; omega) ⟨rfl, rfl, trivial⟩ ⟨rfl, trivial⟩ (by exact ⟨by show a ≤ x.b ∧ x.b ≤ 3000000; omega, by exact hz2⟩)

end Go.Proofs.Ytjmjiegplnfiiaa

/- The schedule of a crew: plain laws. No conditions. -/
set_option linter.unusedSimpArgs false
set_option linter.unusedVariables false
namespace Go.Proofs.Ytjmjiegplnfiiaa
open Go Go.Pv

/-! ### The time from which a task can be done -/
def endY (xs : List Task) (y : Slot) : Int := y.start + (tsk xs y).minutes
def frmD (xs : List Task) (l : List Int) (D : List Slot) : Int := D.foldl (fun f y => if y.task ∈ l then max f (endY xs y) else f) 0
def slA (D : List Slot) (z : Int) : Slot := (D.find? fun y => decide (y.task = z)).getD ⟨0, 0, 0⟩
def SLx (n : Nat) (D : List Slot) : List Slot := (List.range n).map fun i : Nat => slA D (i : Int)
def frmN (xs : List Task) (D : List Slot) (l : List Int) : Nat → Int
 | 0 => 0
 | j + 1 => max (frmN xs D l j) ((slA D (at0 l j)).start + (xs.getD (at0 l j).toNat default).minutes)
section
variable {xs : List Task} {D : List Slot} {l : List Int} {x y : Slot} {k n : Nat}
theorem frmD_ge : ∀ (E : List Slot) (f : Int), f ≤ E.foldl (fun f y => if y.task ∈ l then max f (endY xs y) else f) f ∧ ∀ y ∈ E, y.task ∈ l → endY xs y ≤ E.foldl (fun f y => if y.task ∈ l then max f (endY xs y) else f) f
 | [], f => ⟨Int.le_refl _, fun y hy => by cases hy⟩
 | x :: E, f => by
   rw [List.foldl_cons]
   by_cases h : x.task ∈ l
   · rw [if_pos h]
     obtain ⟨h1, h2⟩ := frmD_ge E (max f (endY xs x))
     refine ⟨by omega, fun y hy hl => ?_⟩
     rcases List.mem_cons.1 hy with rfl | h3
     · omega
     · exact h2 y h3 hl
   · rw [if_neg h]
     obtain ⟨h1, h2⟩ := frmD_ge E f
     refine ⟨h1, fun y hy hl => ?_⟩
     rcases List.mem_cons.1 hy with rfl | h3
     · exact absurd hl h
     · exact h2 y h3 hl
theorem frmD_is : ∀ (E : List Slot) (f : Int), E.foldl (fun f y => if y.task ∈ l then max f (endY xs y) else f) f = f ∨ ∃ y ∈ E, y.task ∈ l ∧ E.foldl (fun f y => if y.task ∈ l then max f (endY xs y) else f) f = endY xs y
 | [], f => .inl rfl
 | x :: E, f => by
   rw [List.foldl_cons]
   by_cases h : x.task ∈ l
   · rw [if_pos h]
     rcases frmD_is E (max f (endY xs x)) with h1 | ⟨y, h1, h2, h3⟩
     · rcases Int.le_total f (endY xs x) with h4 | h4
       · exact .inr ⟨x, List.mem_cons_self .., h, by rw [h1]; omega⟩
       · exact .inl (by rw [h1]; omega)
     · exact .inr ⟨y, List.mem_cons_of_mem _ h1, h2, h3⟩
   · rw [if_neg h]
     rcases frmD_is E f with h1 | ⟨y, h1, h2, h3⟩
     · exact .inl h1
     · exact .inr ⟨y, List.mem_cons_of_mem _ h1, h2, h3⟩
theorem slA_mem {z : Int} (h : z ∈ D.map (·.task)) : slA D z ∈ D ∧ (slA D z).task = z := by
 obtain ⟨y, hy, e⟩ := List.mem_map.1 h
 unfold slA
 cases q : D.find? fun y => decide (y.task = z) with
 | none => rw [List.find?_eq_none] at q; exact absurd e (by have := q y hy; simpa using this)
 | some u => exact ⟨List.mem_of_find?_eq_some q, by have := List.find?_some q; simpa using this⟩
theorem task_inj : ∀ {D : List Slot}, (D.map (·.task)).Nodup → ∀ {x y : Slot}, x ∈ D → y ∈ D → x.task = y.task → x = y
 | [], _, _, _, hx, _, _ => by cases hx
 | d :: D, hn, x, y, hx, hy, e => by
   rw [List.map_cons, List.nodup_cons] at hn
   rcases List.mem_cons.1 hx with h1 | h1 <;> rcases List.mem_cons.1 hy with h2 | h2
   · rw [h1, h2]
   · exact absurd (List.mem_map.2 ⟨y, h2, by rw [← e, h1]⟩) hn.1
   · exact absurd (List.mem_map.2 ⟨x, h1, by rw [e, h2]⟩) hn.1
   · exact task_inj hn.2 h1 h2 e
theorem slA_eq (hn : (D.map (·.task)).Nodup) (hy : y ∈ D) : slA D y.task = y := by
 obtain ⟨h1, h2⟩ := slA_mem (List.mem_map.2 ⟨y, hy, rfl⟩)
 exact task_inj hn h1 hy h2
theorem frmN_ge : ∀ {j : Nat}, 0 ≤ frmN xs D l j ∧ ∀ i, i < j → (slA D (at0 l i)).start + (xs.getD (at0 l i).toNat default).minutes ≤ frmN xs D l j
 | 0 => ⟨Int.le_refl _, fun i hi => absurd hi (Nat.not_lt_zero _)⟩
 | j + 1 => by
   obtain ⟨h1, h2⟩ := frmN_ge (j := j)
   rw [frmN]
   refine ⟨by omega, fun i hi => ?_⟩
   rcases Nat.lt_succ_iff_lt_or_eq.1 hi with h3 | rfl
   · have := h2 i h3; omega
   · omega
theorem frmN_is : ∀ (j : Nat), frmN xs D l j = 0 ∨ ∃ i, i < j ∧ frmN xs D l j = (slA D (at0 l i)).start + (xs.getD (at0 l i).toNat default).minutes
 | 0 => .inl rfl
 | j + 1 => by
   rw [frmN]
   rcases Int.le_total ((slA D (at0 l j)).start + (xs.getD (at0 l j).toNat default).minutes) (frmN xs D l j) with h1 | h1
   · rcases frmN_is j with h2 | ⟨i, h2, h3⟩
     · exact .inl (by omega)
     · exact .inr ⟨i, by omega, by omega⟩
   · exact .inr ⟨j, by omega, by omega⟩
theorem frm_eq (hn : (D.map (·.task)).Nodup) (hl : ∀ z ∈ l, z ∈ D.map (·.task)) : frmN xs D l l.length = frmD xs l D := by
 have hv : ∀ i, i < l.length → (slA D (at0 l i)).start + (xs.getD (at0 l i).toNat default).minutes = endY xs (slA D (at0 l i)) := fun i hi => by
   rw [endY, tsk, (slA_mem (hl _ (at0_mem hi))).2]
 obtain ⟨g1, g2⟩ := frmD_ge (xs := xs) (l := l) D 0
 obtain ⟨k1, k2⟩ := frmN_ge (xs := xs) (D := D) (l := l) (j := l.length)
 apply Int.le_antisymm
 · rcases frmN_is (xs := xs) (D := D) (l := l) l.length with h | ⟨i, hi, h⟩
   · rw [h]; exact g1
   · rw [h, hv i hi]
     obtain ⟨h1, h2⟩ := slA_mem (hl _ (at0_mem hi))
     exact g2 _ h1 (by rw [h2]; exact at0_mem hi)
 · rcases frmD_is (xs := xs) (l := l) D 0 with h | ⟨y, hy, hyl, h⟩
   · show D.foldl _ 0 ≤ _
     rw [h]; exact k1
   · show D.foldl _ 0 ≤ _
     rw [h]
     obtain ⟨i, hi, e⟩ := mem_at0 hyl
     have := k2 i hi
     rw [hv i hi, e, slA_eq hn hy] at this
     exact this
theorem SLx_len : (SLx n D).length = n := by simp [SLx]
theorem SLx_get {z : Int} (h : 0 ≤ z ∧ z < n) : (SLx n D)[z.toNat]? = some (slA D z) := by
 have : z.toNat < n := by omega
 simp [SLx, List.getElem?_range, this, Int.toNat_of_nonneg h.1]
theorem SLx_nil : SLx n [] = List.replicate n ⟨0, 0, 0⟩ := by
 rw [SLx, show (fun i : Nat => slA [] (i : Int)) = fun _ => (⟨0, 0, 0⟩ : Slot) from rfl, List.map_const', List.length_range]
theorem SLx_snoc (hx : 0 ≤ x.task ∧ x.task < n) (hn : x.task ∉ D.map (·.task)) : (SLx n D).set x.task.toNat x = SLx n (D ++ [x]) := by
 have hf : D.find? (fun y => decide (y.task = x.task)) = none := by
   rw [List.find?_eq_none]
   intro y hy e
   exact hn (List.mem_map.2 ⟨y, hy, by simpa using e⟩)
 refine List.ext_getElem? fun i => ?_
 rw [List.getElem?_set]
 by_cases hi : x.task.toNat = i
 · subst hi
   rw [if_pos rfl, if_pos (by rw [SLx_len]; omega), SLx_get hx, slA, List.find?_append, hf]
   simp
 · rw [if_neg hi]
   rcases Nat.lt_or_ge i n with h | h
   · have h1 := SLx_get (D := D) (n := n) (z := (i : Int)) (by omega)
     have h2 := SLx_get (D := D ++ [x]) (n := n) (z := (i : Int)) (by omega)
     rw [Int.toNat_natCast] at h1 h2
     rw [h1, h2, slA, slA, List.find?_append]
     have h3 : ([x].find? fun y => decide (y.task = (i : Int))) = none := by
       rw [List.find?_eq_none]
       intro y hy e
       rw [List.mem_singleton.1 hy] at e
       have : x.task = (i : Int) := by simpa using e
       omega
     rw [h3, Option.or_none]
   · rw [List.getElem?_eq_none (by rw [SLx_len]; exact h), List.getElem?_eq_none (by rw [SLx_len]; exact h)]
end

/-! ### The first slot that fits -/
structure PkN (xs : List Task) (c : Crew) (D : List Slot) (t f : Int) (n : Int) (x : Slot) : Prop where
 task : x.task = t
 gang : 0 ≤ x.gang ∧ x.gang < n
 fro : f ≤ x.start
 fit : fitsB xs c D x = true
 fst : ∀ y : Slot, y.task = t → 0 ≤ y.gang ∧ y.gang < n → f ≤ y.start → fitsB xs c D y = true → x.start < y.start ∨ x.start = y.start ∧ x.gang ≤ y.gang
def NoN (xs : List Task) (c : Crew) (D : List Slot) (t f : Int) (n : Int) : Prop := ∀ y : Slot, y.task = t → 0 ≤ y.gang ∧ y.gang < n → f ≤ y.start → fitsB xs c D y = false
open Classical in
noncomputable def pk (xs : List Task) (c : Crew) (D : List Slot) (t f : Int) : Option Slot := if h : ∃ x, PkN xs c D t f c.gangs.length x then some h.choose else none
section
variable {xs : List Task} {c : Crew} {D : List Slot} {t f n : Int} {x y : Slot}
theorem PkN.uniq (hx : PkN xs c D t f n x) (hy : PkN xs c D t f n y) : x = y := by
 have h1 := hx.fst y hy.task hy.gang hy.fro hy.fit
 have h2 := hy.fst x hx.task hx.gang hx.fro hx.fit
 have h3 := hx.task; have h4 := hy.task
 cases x; cases y
 simp only at h1 h2 h3 h4
 simp only [Slot.mk.injEq]
 omega
theorem pk_some (h : PkN xs c D t f c.gangs.length x) : pk xs c D t f = some x := by
 have h2 : ∃ x, PkN xs c D t f c.gangs.length x := ⟨x, h⟩
 rw [pk, dif_pos h2, (h2.choose_spec).uniq h]
theorem pk_none (h : NoN xs c D t f c.gangs.length) : pk xs c D t f = none := by
 rw [pk, dif_neg]
 rintro ⟨x, hx⟩
 have := h x hx.task hx.gang hx.fro
 rw [hx.fit] at this; cases this
theorem NoN.zero : NoN xs c D t f 0 := fun y _ h => by omega
/-- One gang more, in which no slot fits. -/
theorem NoN.no (h : NoN xs c D t f n) (h2 : ∀ y : Slot, y.task = t → y.gang = n → f ≤ y.start → fitsB xs c D y = false) : NoN xs c D t f (n + 1) := fun y h3 h4 h5 => by
 by_cases e : y.gang = n
 · exact h2 y h3 e h5
 · exact h y h3 (by omega) h5
theorem PkN.no (h : PkN xs c D t f n x) (h2 : ∀ y : Slot, y.task = t → y.gang = n → f ≤ y.start → fitsB xs c D y = true → x.start ≤ y.start) : PkN xs c D t f (n + 1) x := by
 have hg := h.gang
 refine ⟨h.task, by omega, h.fro, h.fit, fun y h3 h4 h5 h6 => ?_⟩
 by_cases e : y.gang = n
 · have := h2 y h3 e h5 h6; omega
 · exact h.fst y h3 (by omega) h5 h6
theorem NoN.yes (h : NoN xs c D t f n) (hn : 0 ≤ n) (h1 : y.task = t) (h2 : y.gang = n) (h3 : f ≤ y.start) (h4 : fitsB xs c D y = true) (h5 : ∀ z : Slot, z.task = t → z.gang = n → f ≤ z.start → fitsB xs c D z = true → y.start ≤ z.start) : PkN xs c D t f (n + 1) y := by
 refine ⟨h1, by omega, h3, h4, fun z g1 g2 g3 g4 => ?_⟩
 by_cases e : z.gang = n
 · have := h5 z g1 e g3 g4; omega
 · have := h z g1 (by omega) g3
   rw [g4] at this; cases this
theorem PkN.yes (h : PkN xs c D t f n x) (h1 : y.task = t) (h2 : y.gang = n) (h3 : f ≤ y.start) (h4 : fitsB xs c D y = true) (h5 : ∀ z : Slot, z.task = t → z.gang = n → f ≤ z.start → fitsB xs c D z = true → y.start ≤ z.start) (h6 : y.start < x.start) : PkN xs c D t f (n + 1) y := by
 have hg := h.gang
 refine ⟨h1, by omega, h3, h4, fun z g1 g2 g3 g4 => ?_⟩
 by_cases e : z.gang = n
 · have := h5 z g1 e g3 g4; omega
 · have := h.fst z g1 (by omega) g3 g4; omega
end

/-! ### One gang -/
def spL (xs : List Task) (c : Crew) (D : List Slot) (p i : Int) : List Sp := bsG xs D i ++ clL c.closed p
section
variable {xs : List Task} {c : Crew} {D : List Slot} {f i : Int} {x : Task} {g : Gang} {y : Slot} {t : Int}
theorem fits_iff (hx : xs[t.toNat]? = some x) (hg : c.gangs[i.toNat]? = some g) (h1 : y.task = t) (h2 : y.gang = i) : fitsB xs c D y = true ↔ hasT g.trades x.trade = true ∧ g.fro ≤ y.start ∧ y.start + x.minutes ≤ g.til ∧ (spL xs c D x.place i).any (mtB ⟨y.start, y.start + x.minutes⟩) = false := by
 have e1 : tsk xs y = x := tsk_at (by rw [h1]; exact hx)
 have e2 : gng c y = g := gng_at (by rw [h2]; exact hg)
 rw [fitsB, cl_eq, spL, List.any_append, Bool.and_eq_true, Bool.not_eq_true', decide_eq_true_eq, inG, e1, e2, h2, spY, e1]
 constructor
 · rintro ⟨⟨q1, q2, q3⟩, q4⟩; exact ⟨q1, q2, q3, q4⟩
 · rintro ⟨q1, q2, q3, q4⟩; exact ⟨⟨q1, q2, q3⟩, q4⟩
/-- The earliest time of a gang. -/
def eG (xs : List Task) (c : Crew) (D : List Slot) (x : Task) (g : Gang) (f i : Int) : Int := earL (spL xs c D x.place i) x.minutes (max f g.fro)
theorem eG_spec (hB : ∀ s ∈ spL xs c D x.place i, s.b ≤ 1000000) (hf : 0 ≤ f ∧ f ≤ 1000000) (hg : 0 ≤ g.fro ∧ g.fro ≤ 1000000) : f ≤ eG xs c D x g f i ∧ g.fro ≤ eG xs c D x g f i ∧ eG xs c D x g f i ≤ 1000000 ∧ (spL xs c D x.place i).any (mtB ⟨eG xs c D x g f i, eG xs c D x g f i + x.minutes⟩) = false ∧
   ∀ z, f ≤ z → g.fro ≤ z → (spL xs c D x.place i).any (mtB ⟨z, z + x.minutes⟩) = false → eG xs c D x g f i ≤ z := by
 obtain ⟨h1, h2, h3, h4⟩ := earL_spec (l := spL xs c D x.place i) (m := x.minutes) (a := max f g.fro) hB (by omega) (by omega)
 refine ⟨by unfold eG; omega, by unfold eG; omega, h2, h3, fun z q1 q2 q3 => ?_⟩
 rcases Int.lt_or_le z (eG xs c D x g f i) with h5 | h5
 · have := h4 z (by omega) h5
   rw [q3] at this; cases this
 · exact h5
end

/-! ### All tasks -/
noncomputable def goS (xs : List Task) (c : Crew) : List Int → List Slot → Option (List Slot)
 | [], D => some D
 | t :: o, D => match pk xs c D t (frmD xs (xs.getD t.toNat default).needs D) with
   | none => none
   | some x => goS xs c o (D ++ [x])
noncomputable def schO (xs : List Task) (c : Crew) : Option (List Slot) := goS xs c (ordR (ndX xs)) []
noncomputable def schP (xs : List Task) (c : Crew) : List Slot × Int := if planE xs ≠ 0 then ([], planE xs) else if crewE c ≠ 0 then ([], crewE c) else match schO xs c with
 | none => ([], 27)
 | some D => (SLx xs.length D, 0)
structure DInv (xs : List Task) (c : Crew) (O : List Int) (k : Nat) (D : List Slot) : Prop where
 tasks : D.map (·.task) = O.take k
 ok : ∀ y ∈ D, (0 ≤ y.gang ∧ y.gang < c.gangs.length) ∧ 0 ≤ y.start ∧ y.start ≤ 1000000 ∧ endY xs y ≤ 1000000
section
variable {xs : List Task} {c : Crew} {O : List Int} {k : Nat} {D : List Slot} {x : Slot}
theorem DInv.nil : DInv xs c O 0 [] := ⟨by simp, fun y hy => by cases hy⟩
theorem DInv.len (h : DInv xs c O k D) (hk : k ≤ O.length) : D.length = k := by
 have := congrArg List.length h.tasks
 rw [List.length_map, List.length_take] at this; omega
theorem DInv.snoc (h : DInv xs c O k D) (hk : k < O.length) (hx : x.task = at0 O k) (h2 : (0 ≤ x.gang ∧ x.gang < c.gangs.length) ∧ 0 ≤ x.start ∧ x.start ≤ 1000000 ∧ endY xs x ≤ 1000000) : DInv xs c O (k + 1) (D ++ [x]) := by
 refine ⟨?_, fun y hy => ?_⟩
 · rw [List.map_append, h.tasks, List.take_add_one, at0_get hk]; simp [hx]
 · rcases List.mem_append.1 hy with h3 | h3
   · exact h.ok y h3
   · rw [List.mem_singleton.1 h3]; exact h2
theorem DInv.mem (h : DInv xs c O k D) {y : Slot} (hy : y ∈ D) : y.task ∈ O.take k := by
 rw [← h.tasks]; exact List.mem_map.2 ⟨y, hy, rfl⟩
theorem DInv.dok (h : DInv xs c O k D) (hO : ∀ z ∈ O, 0 ≤ z ∧ z < (xs.length : Int)) : DOK xs D := fun y hy => by
 have h1 := hO _ (List.mem_of_mem_take (h.mem hy))
 have h2 := h.ok y hy
 omega
theorem DInv.spb (h : DInv xs c O k D) (hc : ∀ z ∈ c.closed, crng z) {p i : Int} : ∀ s ∈ spL xs c D p i, s.b ≤ 1000000 := fun s hs => by
 rcases List.mem_append.1 hs with h1 | h1
 · obtain ⟨y, hy, rfl⟩ := List.mem_map.1 h1
   exact (h.ok y (List.mem_filter.1 hy).1).2.2.2
 · obtain ⟨z, hz, rfl⟩ := List.mem_map.1 h1
   have := hc z ((List.mem_filter.1 hz).1)
   unfold crng at this
   show z.til ≤ 1000000
   omega
theorem go_some (hd : O.drop k = at0 O k :: O.drop (k + 1)) (hg : goS xs c O [] = goS xs c (O.drop k) D) (hp : pk xs c D (at0 O k) (frmD xs (xs.getD (at0 O k).toNat default).needs D) = some x) : goS xs c O [] = goS xs c (O.drop (k + 1)) (D ++ [x]) := by
 rw [hg, hd, goS, hp]
theorem go_none (hd : O.drop k = at0 O k :: O.drop (k + 1)) (hg : goS xs c O [] = goS xs c (O.drop k) D) (hp : pk xs c D (at0 O k) (frmD xs (xs.getD (at0 O k).toNat default).needs D) = none) : goS xs c O [] = none := by
 rw [hg, hd, goS, hp]
theorem go_end (hg : goS xs c O [] = goS xs c (O.drop k) D) (hk : O.length ≤ k) : goS xs c O [] = some D := by
 rw [hg, List.drop_eq_nil_of_le hk, goS]
theorem drop_at0 (hk : k < O.length) : O.drop k = at0 O k :: O.drop (k + 1) := by
 rw [List.drop_eq_getElem_cons hk]; congr 1
 have := at0_get hk
 rw [List.getElem?_eq_getElem hk] at this
 exact Option.some.inj this
end
end Go.Proofs.Ytjmjiegplnfiiaa
