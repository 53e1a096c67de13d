/- What the reference tells of a platform: parts. No conditions. -/
import Derived.Test.YtdbpfhbppcpbbaaAsk
import Derived.Test.YtdbpfhbppcpbbaaCor1
set_option linter.unusedSimpArgs false
set_option linter.unusedVariables false
set_option maxRecDepth 100000
namespace Go.Proofs.Ytdbpfhbppcpbbaa
open Go Go.Pv

theorem has_hit {S : Bool} {p x : ByteArray} {l : List ByteArray} (h : S = (decide (p = x) || hasS l p)) (hp : x = p) : true = S := by rw [h, hp]; simp
theorem has_miss {S : Bool} {p x : ByteArray} {l : List ByteArray} (h : S = (decide (p = x) || hasS l p)) (hp : ¬ x = p) : S = hasS l p := by rw [h, decide_eq_false (fun e => hp e.symm)]; rfl

theorem fr22 : (inFrame Try.f22.ntmps (Try.f22.body.getD .skip) && Try.f22.results.toList.all (resScope Try.f22.ntmps)) = true := by kernel_rfl
theorem HasText (l : List ByteArray) (p : ByteArray) (hl : l.length ≤ 1000000) : PCalls Try.prog 22 [.lit true 1 (l.map cb), .str p] (.bool (hasS l p)) := by
  refine PCalls.of_code Try.func22 rfl rfl (by kernel_rfl) mixed fr22 (by show _ ≤ 18; simp) (.sc _) ?_
  refine pwp_seq_plain rfl fun K1 hK1 => ?_
  refine p_step rfl (e_assign (v := .sc _) rfl) trivial ?_
  refine p_end (hK1 _ ?_); clear hK1 K1
  refine pwp_seq_seq ?_
  refine pwp_seq_plain rfl fun K2 hK2 => ?_
  refine p_step rfl (e_assign (v := .sc _) rfl) trivial ?_
  refine p_end (hK2 _ ?_); clear hK2 K2
  refine pwp_seq_block fun K3 hK3 => ?_
  refine pwp_loopR (α := Nat) [0, 1] (fun (k : Nat) => [(5, .int (k))]) (fun (k : Nat) (h : Heap) (_ : Nat → Nat) => ((k) ≤ l.length) ∧ (hasS l p = hasS (l.drop (k)) p)) (fun (k : Nat) => l.length - (k)) (0) (by exact ⟨rfl, trivial⟩) (by exact ⟨by exact Nat.zero_le _, by exact rfl⟩) fun k r4 h5 c6 hj7 => ?_
  obtain ⟨hk, hinv⟩ := hj7
  try dsimp only at hk
  try dsimp only at hinv
  show pwp _ _ (loopQ _ _ _) ⟨sets (mix _ _ _) [(5, .int k)], _, _⟩
  refine pwp_seq_seq ?_
  refine pwp_seq_plain rfl fun K8 hK8 => ?_
  refine p_step rfl (e_move (v := .sc _) rfl) trivial ?_
  refine p_step rfl (e_move (v := .lit _ _ _) rfl) trivial ?_
  refine p_step rfl (e_len rfl (by kernel_rfl)) trivial ?_
  refine p_step rfl (e_lt rfl rfl) trivial ?_
  refine p_end (hK8 _ ?_); clear hK8 K8
  refine pwp_seq_cond rfl fun K9 hK9 => ⟨fun hb10 => ?_, fun hb10 => ?_⟩
  ·have hb10R := hb10; try simp only [z1, z2, z3, z4, z5, z6, ne_eq, z7, z8, z9, z10, z11, z12] at hb10
   obtain ⟨x, hx, hd, ht⟩ := get_lt (xs := l) (i := k) (by omega)
   rw [hd] at hinv; simp only [hasS] at hinv
   refine pwp_skip ?_
   refine seq_norm (hK9 _ ?_); clear hK9 K9
   refine pwp_seq_block fun K11 hK11 => ?_
   refine pwp_seq_plain rfl fun K12 hK12 => ?_
   refine p_step rfl (e_move (v := .lit _ _ _) rfl) trivial ?_
   refine p_step rfl (e_move (v := .sc _) rfl) trivial ?_
   refine p_step rfl (e_ixa rfl rfl (by kernel_rfl) (by kernel_rfl) (by simp only [List.length_map]; omega)) trivial ?_
   refine p_step rfl (e_load (v := .sc _) rfl (by kernel_rfl) (by kernel_rfl) (by kernel_rfl) (by simp only [List.length_map]; omega) (by decide) ((cell_map hx _).trans rfl)) trivial ?_
   refine p_step rfl (e_move (v := .sc _) rfl) trivial ?_
   refine p_step rfl (e_seq rfl rfl) trivial ?_
   refine p_end (hK12 _ ?_); clear hK12 K12
   refine pwp_cond rfl (fun hb13 => ?_) (fun hb13 => ?_)
   ·have hb13R := hb13; try simp only [z1, z2, z3, z4, z5, z6, ne_eq, z7, z8, z9, z10, z11, z12] at hb13
    refine pwp_seq_plain rfl fun K14 hK14 => ?_
    refine p_step rfl (e_assign (v := .sc _) rfl) trivial ?_
    refine p_end (hK14 _ ?_); clear hK14 K14
    refine pwp_ret ?_
    refine ret_block ?_
    refine ret_seq ?_
    refine ret_loop ?_
    refine ret_block ?_
    refine ret_seq ?_
    refine end1 (v := .sc _) rfl ?_
    first
      | exact out_b (has_hit hinv (by assumption))
      | exact out_b hinv.symm
   ·have hb13R := hb13; try simp only [z1, z2, z3, z4, z5, z6, ne_eq, z7, z8, z9, z10, z11, z12] at hb13
    refine pwp_skip ?_
    refine block_norm ?_
    refine seq_norm (hK11 _ ?_); clear hK11 K11
    refine pwp_plain rfl fun K15 hK15 => ?_
    refine p_step rfl (e_move (v := .sc _) rfl) trivial ?_
    refine p_step rfl (e_add rfl rfl (by omega)) trivial ?_
    refine p_step rfl (e_assign (v := .sc _) rfl) trivial ?_
    refine p_end (hK15 _ ?_); clear hK15 K15
    exact loop_again (k + 1) (by show _ < _; omega) ⟨rfl, rfl, trivial⟩ ⟨rfl, trivial⟩ (by exact ⟨by show _ + 1 ≤ _; omega, by exact has_miss hinv (by assumption)⟩)
  ·have hb10R := hb10; try simp only [z1, z2, z3, z4, z5, z6, ne_eq, z7, z8, z9, z10, z11, z12] at hb10
   obtain rfl : k = l.length := by omega
   rw [List.drop_length] at hinv; simp only [hasS] at hinv
   refine pwp_exit ?_
   refine exit_seq ?_
   clear hK9 K9
   refine exit_loop ?_
   refine exit_here ?_
   refine seq_norm (hK3 _ ?_); clear hK3 K3
   refine pwp_seq_plain rfl fun K16 hK16 => ?_
   refine p_step rfl (e_assign (v := .sc _) rfl) trivial ?_
   refine p_end (hK16 _ ?_); clear hK16 K16
   refine pwp_ret ?_
   refine end1 (v := .sc _) rfl ?_
   first
     | exact out_b (has_hit hinv (by assumption))
     | exact out_b hinv.symm


def uptoE (evs : List Ev) (day : Int) : List Ev := evs.filter fun e => decide (e.day ≤ day)
theorem upto_len (evs : List Ev) (day : Int) : (uptoE evs day).length ≤ evs.length := List.length_filter_le _ _
theorem fil_in {evs acc : List Ev} {k : Nat} {x : Ev} {f : Ev → Bool} (hx : evs[k]? = some x) (ha : acc = (evs.take k).filter f) (h : f x = true) : acc ++ [x] = (evs.take (k + 1)).filter f := by
  rw [List.take_add_one, hx, List.filter_append, ← ha]; simp [h]
theorem fil_out {evs acc : List Ev} {k : Nat} {x : Ev} {f : Ev → Bool} (hx : evs[k]? = some x) (ha : acc = (evs.take k).filter f) (h : f x = false) : acc = (evs.take (k + 1)).filter f := by
  rw [List.take_add_one, hx, List.filter_append, ← ha]; simp [h]

theorem fr70 : (inFrame Try.f70.ntmps (Try.f70.body.getD .skip) && Try.f70.results.toList.all (resScope Try.f70.ntmps)) = true := by kernel_rfl
theorem Upto (evs : List Ev) (day : Int) (hl : evs.length ≤ 405) : PCalls Try.prog 70 [.lit true 6 (evs.map Ev.enc), .int day] (.lit false 6 ((uptoE evs day).map Ev.enc)) := by
  refine PCalls.of_code Try.func70 rfl rfl (by kernel_rfl) mixed fr70 (by show _ ≤ 28; simp) (ev_lit_pure _) ?_
  refine pwp_seq_plain rfl fun K1 hK1 => ?_
  refine p_step rfl (e_assign (v := .nil) rfl) trivial ?_
  refine p_end (hK1 _ ?_); clear hK1 K1
  refine pwp_seq_plain rfl fun K2 hK2 => ?_
  refine p_step rfl (e_assign (v := .nil) rfl) trivial ?_
  refine p_end (hK2 _ ?_); clear hK2 K2
  refine pwp_seq_seq ?_
  refine pwp_seq_plain rfl fun K3 hK3 => ?_
  refine p_step rfl (e_assign (v := .sc _) rfl) trivial ?_
  refine p_end (hK3 _ ?_); clear hK3 K3
  refine pwp_seq_block fun K4 hK4 => ?_
  refine pwp_loopR (α := Nat × (List Ev) × PV) [0, 1] (fun (a5 : Nat × (List Ev) × PV) => [(5, (a5.2.2)), (6, .int (a5.1))]) (fun (a5 : Nat × (List Ev) × PV) (h : Heap) (_ : Nat → Nat) => ((a5.1) ≤ evs.length) ∧ ((a5.2.1) = (evs.take (a5.1)).filter fun e => decide (e.day ≤ day)) ∧ ((a5.2.1).length ≤ (a5.1)) ∧ (SliceAt h 26 (a5.2.2) 6 ((a5.2.1).map Ev.enc))) (fun (a5 : Nat × (List Ev) × PV) => evs.length - (a5.1)) (0, [], .nil) (by exact ⟨rfl, rfl, trivial⟩) (by exact ⟨by exact Nat.zero_le _, by exact rfl, by exact Nat.le_refl _, .nil⟩) fun a5 r6 h7 c8 hj9 => ?_
  obtain ⟨k, acc, v⟩ := a5
  obtain ⟨hk, hinv, hlen, hihj9_0⟩ := hj9
  try dsimp only at hk
  try dsimp only at hinv
  try dsimp only at hlen
  try dsimp only at hihj9_0
  show pwp _ _ (loopQ _ _ _) ⟨sets (mix _ _ _) [(5, v), (6, .int k)], _, _⟩
  refine pwp_seq_seq ?_
  refine pwp_seq_plain rfl fun K10 hK10 => ?_
  refine p_step rfl (e_move (v := .sc _) rfl) trivial ?_
  refine p_step rfl (e_move (v := .lit _ _ _) rfl) trivial ?_
  refine p_step rfl (e_len rfl (by kernel_rfl)) trivial ?_
  refine p_step rfl (e_lt rfl rfl) trivial ?_
  refine p_end (hK10 _ ?_); clear hK10 K10
  refine pwp_seq_cond rfl fun K11 hK11 => ⟨fun hb12 => ?_, fun hb12 => ?_⟩
  ·have hb12R := hb12; try simp only [z1, z2, z3, z4, z5, z6, ne_eq, z7, z8, z9, z10, z11, z12] at hb12
   obtain ⟨x, hx, hd, ht⟩ := get_lt (xs := evs) (i := k) (by omega)
   refine pwp_skip ?_
   refine seq_norm (hK11 _ ?_); clear hK11 K11
   refine pwp_seq_block fun K13 hK13 => ?_
   refine pwp_seq_plain rfl fun K14 hK14 => ?_
   refine p_step rfl (e_move (v := .lit _ _ _) rfl) trivial ?_
   refine p_step rfl (e_move (v := .sc _) rfl) trivial ?_
   refine p_step rfl (e_ixa rfl rfl (by kernel_rfl) (by kernel_rfl) (by simp only [List.length_map]; omega)) trivial ?_
   refine p_step rfl (e_fa (pl := [(0, 1, false), (1, 1, false), (2, 1, false), (3, 1, false), (4, 1, false), (5, 1, false)]) rfl (by kernel_rfl) (by kernel_rfl) (by decide) rfl) trivial ?_
   refine p_step rfl (e_load (v := .sc _) rfl (by kernel_rfl) (by kernel_rfl) (by kernel_rfl) (by simp only [List.length_map]; omega) (by decide) ((cell_map hx _).trans rfl)) trivial ?_
   refine p_step rfl (e_move (v := .sc _) rfl) trivial ?_
   refine p_step rfl (e_le rfl rfl) trivial ?_
   refine p_end (hK14 _ ?_); clear hK14 K14
   refine pwp_cond rfl (fun hb15 => ?_) (fun hb15 => ?_)
   ·have hb15R := hb15; try simp only [z1, z2, z3, z4, z5, z6, ne_eq, z7, z8, z9, z10, z11, z12] at hb15
    refine pwp_plain rfl fun K16 hK16 => ?_
    refine p_step rfl (e_move (v := _) rfl) trivial ?_
    refine p_step rfl (e_move (v := .lit _ _ _) rfl) trivial ?_
    refine p_step rfl (e_move (v := .sc _) rfl) trivial ?_
    refine p_step rfl (e_ixa rfl rfl (by kernel_rfl) (by kernel_rfl) (by simp only [List.length_map]; omega)) trivial ?_
    refine p_step rfl (e_loadA (n := 6) rfl (by kernel_rfl) (by kernel_rfl) (by kernel_rfl) (by simp only [List.length_map]; omega) (by decide) (by first | exact agg_map hx rfl)) trivial ?_
    refine p_new rfl (e_bslice (rows := [Ev.enc x]) (zs := [.int 0, .int 0, .str ByteArray.empty, .int 0, .bool false, .bool false]) (sz := 6) (by kernel_rfl) (by kernel_rfl) rfl (by kernel_rfl) (by decide) rfl rfl (by exact ⟨by decide, rfl, rfl, trivial⟩) rfl) trivial ?_
    refine p_app rfl rfl rfl (hihj9_0.keep fun _ => (hset_ne (key_ne rfl)).trans (rfl)) (src_ref (hset_self _ _ _) rfl) (by kernel_rfl) (by simp only [List.length_append, List.length_map, List.length_nil, List.length_cons]; omega) fun v17 h18 c19 hs20 hf21 => ?_
    have ho22 := (hf21 (25, _) (key_ne rfl) (fun _ _ => key_ne rfl)).trans (hset_self _ _ _)
    refine p_step rfl (e_assign (v := _) rfl) trivial ?_
    refine p_end (hK16 _ ?_); clear hK16 K16
    refine block_norm ?_
    refine seq_norm (hK13 _ ?_); clear hK13 K13
    refine pwp_plain rfl fun K23 hK23 => ?_
    refine p_step rfl (e_move (v := .sc _) rfl) trivial ?_
    refine p_step rfl (e_add rfl rfl (by omega)) trivial ?_
    refine p_step rfl (e_assign (v := .sc _) rfl) trivial ?_
    refine p_end (hK23 _ ?_); clear hK23 K23
    exact loop_again ((k + 1, (acc ++ [x]), v17)) (by show _ < _; simp only; omega) ⟨rfl, rfl, trivial⟩ ⟨rfl, rfl, trivial⟩ (by exact ⟨by show _ + 1 ≤ _; omega, by first | exact fil_in hx hinv (decide_eq_true (by omega)) | exact fil_out hx hinv (decide_eq_false (by omega)), by show List.length _ ≤ _ + 1; first | omega | (simp only [List.length_append, List.length_cons, List.length_nil]; omega), (SliceAt.to hs20 (by simp))⟩)
   ·have hb15R := hb15; try simp only [z1, z2, z3, z4, z5, z6, ne_eq, z7, z8, z9, z10, z11, z12] at hb15
    refine pwp_skip ?_
    refine block_norm ?_
    refine seq_norm (hK13 _ ?_); clear hK13 K13
    refine pwp_plain rfl fun K24 hK24 => ?_
    refine p_step rfl (e_move (v := .sc _) rfl) trivial ?_
    refine p_step rfl (e_add rfl rfl (by omega)) trivial ?_
    refine p_step rfl (e_assign (v := .sc _) rfl) trivial ?_
    refine p_end (hK24 _ ?_); clear hK24 K24
    exact loop_again ((k + 1, acc, v)) (by show _ < _; simp only; omega) ⟨rfl, rfl, trivial⟩ ⟨rfl, rfl, trivial⟩ (by exact ⟨by show _ + 1 ≤ _; omega, by first | exact fil_in hx hinv (decide_eq_true (by omega)) | exact fil_out hx hinv (decide_eq_false (by omega)), by show List.length _ ≤ _ + 1; first | omega | (simp only [List.length_append, List.length_cons, List.length_nil]; omega), (SliceAt.to hihj9_0 (by simp))⟩)
  ·have hb12R := hb12; try simp only [z1, z2, z3, z4, z5, z6, ne_eq, z7, z8, z9, z10, z11, z12] at hb12
   obtain rfl : k = evs.length := by omega
   rw [List.take_length] at hinv
   refine pwp_exit ?_
   refine exit_seq ?_
   clear hK11 K11
   refine exit_loop ?_
   refine exit_here ?_
   refine seq_norm (hK4 _ ?_); clear hK4 K4
   refine pwp_seq_plain rfl fun K25 hK25 => ?_
   refine p_step rfl (e_move (v := _) rfl) trivial ?_
   refine p_step rfl (e_assign (v := _) rfl) trivial ?_
   refine p_end (hK25 _ ?_); clear hK25 K25
   refine pwp_ret ?_
   refine end1 (v := _) rfl ?_
   exact out_slice (by assumption) (by rw [uptoE, hinv]) (fun _ => rfl) ev_clean


def lastE (k : Int) (p : ByteArray) : Int → Nat → List Ev → Int
  | at', _, [] => at'
  | at', i, x :: l => lastE k p (if x.kind = k ∧ x.platform = p then (i : Int) else at') (i + 1) l
theorem last_bnd (k : Int) (p : ByteArray) : ∀ (l : List Ev) (a : Int) (i : Nat), -1 ≤ a → a < (i : Int) → -1 ≤ lastE k p a i l ∧ lastE k p a i l < (i : Int) + l.length
  | [], a, i, h1, h2 => by simp [lastE]; omega
  | x :: l, a, i, h1, h2 => by
    have := last_bnd k p l (if x.kind = k ∧ x.platform = p then (i : Int) else a) (i + 1) (by split <;> omega) (by split <;> omega)
    unfold lastE
    rw [List.length_cons]; omega
theorem last_bnd0 (k : Int) (p : ByteArray) (l : List Ev) : -1 ≤ lastE k p (-1) 0 l ∧ lastE k p (-1) 0 l < l.length := by
  have := last_bnd k p l (-1) 0 (by omega) (by omega); omega

theorem fr90 : (inFrame Try.f90.ntmps (Try.f90.body.getD .skip) && Try.f90.results.toList.all (resScope Try.f90.ntmps)) = true := by kernel_rfl
theorem lastR (evs : List Ev) (k : Int) (p : ByteArray) (hl : evs.length ≤ 405) : PCalls Try.prog 90 [.lit true 6 (evs.map Ev.enc), .int k, .str p] (.int (lastE k p (-1) 0 evs)) := by
  refine PCalls.of_code Try.func90 rfl rfl (by kernel_rfl) mixed fr90 (by show _ ≤ 33; simp) (.sc _) ?_
  refine pwp_seq_plain rfl fun K1 hK1 => ?_
  refine p_step rfl (e_assign (v := .sc _) rfl) trivial ?_
  refine p_end (hK1 _ ?_); clear hK1 K1
  refine pwp_seq_plain rfl fun K2 hK2 => ?_
  refine p_step rfl (e_assign (v := .sc _) rfl) trivial ?_
  refine p_end (hK2 _ ?_); clear hK2 K2
  refine pwp_seq_seq ?_
  refine pwp_seq_plain rfl fun K3 hK3 => ?_
  refine p_step rfl (e_assign (v := .sc _) rfl) trivial ?_
  refine p_end (hK3 _ ?_); clear hK3 K3
  refine pwp_seq_block fun K4 hK4 => ?_
  refine pwp_loopR (α := Nat × Int) [0, 1, 2] (fun (a5 : Nat × Int) => [(7, .int (a5.2)), (8, .int (a5.1))]) (fun (a5 : Nat × Int) (h : Heap) (_ : Nat → Nat) => ((a5.1) ≤ evs.length) ∧ (lastE k p (-1) 0 evs = lastE k p (a5.2) (a5.1) (evs.drop (a5.1)))) (fun (a5 : Nat × Int) => evs.length - (a5.1)) (0, -1) (by exact ⟨rfl, rfl, trivial⟩) (by exact ⟨by exact Nat.zero_le _, by exact rfl⟩) fun a5 r6 h7 c8 hj9 => ?_
  obtain ⟨i, a⟩ := a5
  obtain ⟨hk, hinv⟩ := hj9
  try dsimp only at hk
  try dsimp only at hinv
  show pwp _ _ (loopQ _ _ _) ⟨sets (mix _ _ _) [(7, .int a), (8, .int i)], _, _⟩
  refine pwp_seq_seq ?_
  refine pwp_seq_plain rfl fun K10 hK10 => ?_
  refine p_step rfl (e_move (v := .sc _) rfl) trivial ?_
  refine p_step rfl (e_move (v := .lit _ _ _) rfl) trivial ?_
  refine p_step rfl (e_len rfl (by kernel_rfl)) trivial ?_
  refine p_step rfl (e_lt rfl rfl) trivial ?_
  refine p_end (hK10 _ ?_); clear hK10 K10
  refine pwp_seq_cond rfl fun K11 hK11 => ⟨fun hb12 => ?_, fun hb12 => ?_⟩
  ·have hb12R := hb12; try simp only [z1, z2, z3, z4, z5, z6, ne_eq, z7, z8, z9, z10, z11, z12] at hb12
   obtain ⟨x, hx, hd, ht⟩ := get_lt (xs := evs) (i := i) (by omega)
   rw [hd] at hinv; simp only [lastE] at hinv
   refine pwp_skip ?_
   refine seq_norm (hK11 _ ?_); clear hK11 K11
   refine pwp_seq_cutG [0, 1, 2, 8] [(7, .int (if ((decide (x.kind = k)) && (decide (x.platform = p))) = true then (i : Int) else a))] (fun K13 hK13 => ?_) (fun r14 => ?_)
   ·skip
    refine pwp_block ?_
    refine pwp_seq_cutG [0, 1, 2, 7, 8] [(30, .bool ((decide (x.kind = k)) && (decide (x.platform = p))))] (fun K15 hK15 => ?_) (fun r16 => ?_)
    ·skip
     refine pwp_gops rfl fun K17 hK17 => ?_
     refine g_begin ?_
     refine g_step rfl rfl rfl rfl (e_move (v := .lit _ _ _) rfl) trivial ?_
     refine g_step rfl rfl rfl rfl (e_move (v := .sc _) rfl) trivial ?_
     refine g_step rfl rfl rfl rfl (e_ixa rfl rfl (by kernel_rfl) (by kernel_rfl) (by simp only [List.length_map]; omega)) trivial ?_
     refine g_step rfl rfl rfl rfl (e_fa (pl := [(0, 1, false), (1, 1, false), (2, 1, false), (3, 1, false), (4, 1, false), (5, 1, false)]) rfl (by kernel_rfl) (by kernel_rfl) (by decide) rfl) trivial ?_
     refine g_step rfl rfl rfl rfl (e_load (v := .sc _) rfl (by kernel_rfl) (by kernel_rfl) (by kernel_rfl) (by simp only [List.length_map]; omega) (by decide) ((cell_map hx _).trans rfl)) trivial ?_
     refine g_step rfl rfl rfl rfl (e_move (v := .sc _) rfl) trivial ?_
     refine g_step rfl rfl rfl rfl (e_eq rfl rfl) trivial ?_
     refine g_step rfl rfl rfl rfl (e_move (v := .sc _) rfl) trivial ?_
     refine g_cases (fun hb18 => ?_) (fun hb18 => ?_)
     ·have hb18R := hb18; try simp only [z1, z2, z3, z4, z5, z6, ne_eq, z7, z8, z9, z10, z11, z12] at hb18
      refine g_step rfl rfl rfl rfl (e_move (v := .lit _ _ _) rfl) trivial ?_
      refine g_step rfl rfl rfl rfl (e_move (v := .sc _) rfl) trivial ?_
      refine g_step rfl rfl rfl rfl (e_ixa rfl rfl (by kernel_rfl) (by kernel_rfl) (by simp only [List.length_map]; omega)) trivial ?_
      refine g_step rfl rfl rfl rfl (e_fa (pl := [(0, 1, false), (1, 1, false), (2, 1, false), (3, 1, false), (4, 1, false), (5, 1, false)]) rfl (by kernel_rfl) (by kernel_rfl) (by decide) rfl) trivial ?_
      refine g_step rfl rfl rfl rfl (e_load (v := .sc _) rfl (by kernel_rfl) (by kernel_rfl) (by kernel_rfl) (by simp only [List.length_map]; omega) (by decide) ((cell_map hx _).trans rfl)) trivial ?_
      refine g_step rfl rfl rfl rfl (e_move (v := .sc _) rfl) trivial ?_
      refine g_step rfl rfl rfl rfl (e_seq rfl rfl) trivial ?_
      refine g_step rfl rfl rfl rfl (e_pickT (v := .sc _) rfl rfl) trivial ?_
      refine g_end (ds := [23, 24, 25, 26, 27, 28, 29]) rfl rfl (hK17 _ ?_); clear hK17 K17
      exact seq_norm (hK15 _ ⟨rfl, rfl, rfl, rfl, rfl, trivial⟩ ⟨(congrArg PV.bool (show ((decide (x.platform = p)) : Bool) = ((decide (x.kind = k)) && (decide (x.platform = p))) by first | rfl | ((try rw [hb18R]) <;> (first | rfl | (simp only [Bool.and_true, Bool.and_false, Bool.true_and, Bool.false_and, Bool.or_true, Bool.or_false, Bool.true_or, Bool.false_or, Bool.not_true, Bool.not_false, if_true, if_false, Bool.false_eq_true, reduceIte] <;> rfl))) | (simp only [hb18R, Bool.and_true, Bool.and_false, Bool.true_and, Bool.false_and, Bool.or_true, Bool.or_false, Bool.true_or, Bool.false_or, Bool.not_true, Bool.not_false, if_true, if_false, Bool.false_eq_true, reduceIte] <;> rfl))), trivial⟩)
     ·have hb18R := hb18; try simp only [z1, z2, z3, z4, z5, z6, ne_eq, z7, z8, z9, z10, z11, z12] at hb18
      refine g_skip rfl rfl rfl ?_
      refine g_skip rfl rfl rfl ?_
      refine g_skip rfl rfl rfl ?_
      refine g_skip rfl rfl rfl ?_
      refine g_skip rfl rfl rfl ?_
      refine g_skip rfl rfl rfl ?_
      refine g_skip rfl rfl rfl ?_
      refine g_step rfl rfl rfl rfl (e_pickF (v := .sc _) rfl rfl) trivial ?_
      refine g_end (ds := [23, 24, 25, 26, 27, 28, 29]) rfl rfl (hK17 _ ?_); clear hK17 K17
      exact seq_norm (hK15 _ ⟨rfl, rfl, rfl, rfl, rfl, trivial⟩ ⟨(congrArg PV.bool (show (false : Bool) = ((decide (x.kind = k)) && (decide (x.platform = p))) by first | rfl | ((try rw [hb18R]) <;> (first | rfl | (simp only [Bool.and_true, Bool.and_false, Bool.true_and, Bool.false_and, Bool.or_true, Bool.or_false, Bool.true_or, Bool.false_or, Bool.not_true, Bool.not_false, if_true, if_false, Bool.false_eq_true, reduceIte] <;> rfl))) | (simp only [hb18R, Bool.and_true, Bool.and_false, Bool.true_and, Bool.false_and, Bool.or_true, Bool.or_false, Bool.true_or, Bool.false_or, Bool.not_true, Bool.not_false, if_true, if_false, Bool.false_eq_true, reduceIte] <;> rfl))), trivial⟩)
    ·skip
     refine pwp_cond rfl (fun hb19 => ?_) (fun hb19 => ?_)
     ·have hb19R := hb19; try simp only [z1, z2, z3, z4, z5, z6, ne_eq, z7, z8, z9, z10, z11, z12] at hb19
      refine pwp_plain rfl fun K20 hK20 => ?_
      refine p_step rfl (e_move (v := .sc _) rfl) trivial ?_
      refine p_step rfl (e_assign (v := .sc _) rfl) trivial ?_
      refine p_end (hK20 _ ?_); clear hK20 K20
      refine block_norm ?_
      exact seq_norm (hK13 _ ⟨rfl, rfl, rfl, rfl, trivial⟩ ⟨(congrArg PV.int (show ((i : Int) : Int) = (if ((decide (x.kind = k)) && (decide (x.platform = p))) = true then (i : Int) else a) by first | rfl | ((try rw [hb19R]) <;> (first | rfl | (simp only [Bool.and_true, Bool.and_false, Bool.true_and, Bool.false_and, Bool.or_true, Bool.or_false, Bool.true_or, Bool.false_or, Bool.not_true, Bool.not_false, if_true, if_false, Bool.false_eq_true, reduceIte] <;> rfl))) | (simp only [hb19R, Bool.and_true, Bool.and_false, Bool.true_and, Bool.false_and, Bool.or_true, Bool.or_false, Bool.true_or, Bool.false_or, Bool.not_true, Bool.not_false, if_true, if_false, Bool.false_eq_true, reduceIte] <;> rfl))), trivial⟩)
     ·have hb19R := hb19; try simp only [z1, z2, z3, z4, z5, z6, ne_eq, z7, z8, z9, z10, z11, z12] at hb19
      refine pwp_skip ?_
      refine block_norm ?_
      exact seq_norm (hK13 _ ⟨rfl, rfl, rfl, rfl, trivial⟩ ⟨(congrArg PV.int (show (a : Int) = (if ((decide (x.kind = k)) && (decide (x.platform = p))) = true then (i : Int) else a) by first | rfl | ((try rw [hb19R]) <;> (first | rfl | (simp only [Bool.and_true, Bool.and_false, Bool.true_and, Bool.false_and, Bool.or_true, Bool.or_false, Bool.true_or, Bool.false_or, Bool.not_true, Bool.not_false, if_true, if_false, Bool.false_eq_true, reduceIte] <;> rfl))) | (simp only [hb19R, Bool.and_true, Bool.and_false, Bool.true_and, Bool.false_and, Bool.or_true, Bool.or_false, Bool.true_or, Bool.false_or, Bool.not_true, Bool.not_false, if_true, if_false, Bool.false_eq_true, reduceIte] <;> rfl))), trivial⟩)
   ·skip
    refine pwp_plain rfl fun K21 hK21 => ?_
    refine p_step rfl (e_move (v := .sc _) rfl) trivial ?_
    refine p_step rfl (e_add rfl rfl (by omega)) trivial ?_
    refine p_step rfl (e_assign (v := .sc _) rfl) trivial ?_
    refine p_end (hK21 _ ?_); clear hK21 K21
    exact loop_again ((i + 1, (if ((decide (x.kind = k)) && (decide (x.platform = p))) = true then (i : Int) else a))) (by show _ < _; simp only; omega) ⟨rfl, rfl, rfl, trivial⟩ ⟨rfl, rfl, trivial⟩ (by exact ⟨by show _ + 1 ≤ _; omega, by show lastE k p (-1) 0 evs = lastE k p (if (decide (x.kind = k) && decide (x.platform = p)) = true then (i : Int) else a) (i + 1) (evs.drop (i + 1)); simp only [Bool.and_eq_true, decide_eq_true_eq]; exact hinv⟩)
  ·have hb12R := hb12; try simp only [z1, z2, z3, z4, z5, z6, ne_eq, z7, z8, z9, z10, z11, z12] at hb12
   obtain rfl : i = evs.length := by omega
   rw [List.drop_length] at hinv; simp only [lastE] at hinv
   refine pwp_exit ?_
   refine exit_seq ?_
   clear hK11 K11
   refine exit_loop ?_
   refine exit_here ?_
   refine seq_norm (hK4 _ ?_); clear hK4 K4
   refine pwp_seq_plain rfl fun K22 hK22 => ?_
   refine p_step rfl (e_move (v := .sc _) rfl) trivial ?_
   refine p_step rfl (e_assign (v := .sc _) rfl) trivial ?_
   refine p_end (hK22 _ ?_); clear hK22 K22
   refine pwp_ret ?_
   refine end1 (v := .sc _) rfl ?_
   exact out_i hinv.symm


def inspB (p : ByteArray) (x : Ev) : Bool := (decide (x.kind = 1) || decide (x.kind = 2)) && decide (x.platform = p)
def freStep (p : ByteArray) (a : Int) (i : Nat) (x : Ev) : Int :=
  let b : Int := if (inspB p x && x.passed) = true then (i : Int) else a
  if ((inspB p x && !x.passed) || decide (x.kind = 3)) = true then -1 else b
def freE (p : ByteArray) : Int → Nat → List Ev → Int
  | a, _, [] => a
  | a, i, x :: l => freE p (freStep p a i x) (i + 1) l
theorem fre_bnd (p : ByteArray) : ∀ (l : List Ev) (a : Int) (i : Nat), -1 ≤ a → a < (i : Int) → -1 ≤ freE p a i l ∧ freE p a i l < (i : Int) + l.length
  | [], a, i, h1, h2 => by simp [freE]; omega
  | x :: l, a, i, h1, h2 => by
    have hb : -1 ≤ freStep p a i x ∧ freStep p a i x < ((i + 1 : Nat) : Int) := by
      unfold freStep
      simp only
      split
      · omega
      · split <;> omega
    have := fre_bnd p l (freStep p a i x) (i + 1) hb.1 hb.2
    unfold freE
    rw [List.length_cons]; omega
def freshE (p : ByteArray) (day : Int) (evs : List Ev) : Bool := decide (0 ≤ freE p (-1) 0 evs) && decide (day - ((evs[(freE p (-1) 0 evs).toNat]?).getD default).day ≤ 7)
theorem fre_get {evs : List Ev} {p : ByteArray} {a : Int} (hinv : freE p (-1) 0 evs = a) (h : 0 ≤ a) : ∃ z, evs[a.toNat]? = some z := by
  have := fre_bnd p evs (-1) 0 (by omega) (by omega)
  exact ⟨_, List.getElem?_eq_getElem (by omega)⟩
theorem fresh_1 {evs : List Ev} {p : ByteArray} {day a : Int} (hinv : freE p (-1) 0 evs = a) (h : ¬ 0 ≤ a) : false = freshE p day evs := by
  unfold freshE; rw [hinv, decide_eq_false h]; rfl
theorem fresh_2 {evs : List Ev} {p : ByteArray} {day a : Int} {z : Ev} (hinv : freE p (-1) 0 evs = a) (h : 0 ≤ a) (hz : evs[a.toNat]? = some z) : decide (day - z.day ≤ 7) = freshE p day evs := by
  unfold freshE; rw [hinv, decide_eq_true h, hz]; rfl

theorem fr91 : (inFrame Try.f91.ntmps (Try.f91.body.getD .skip) && Try.f91.results.toList.all (resScope Try.f91.ntmps)) = true := by kernel_rfl
theorem freshR (evs : List Ev) (p : ByteArray) (day : Int) (hl : evs.length ≤ 405) (hev : ∀ e ∈ evs, 0 ≤ e.day ∧ e.day ≤ 20000) (hday : 0 ≤ day ∧ day ≤ 20000) : PCalls Try.prog 91 [.lit true 6 (evs.map Ev.enc), .str p, .int day] (.bool (freshE p day evs)) := by
  refine PCalls.of_code Try.func91 rfl rfl (by kernel_rfl) mixed fr91 (by show _ ≤ 77; simp) (.sc _) ?_
  refine pwp_seq_plain rfl fun K1 hK1 => ?_
  refine p_step rfl (e_assign (v := .sc _) rfl) trivial ?_
  refine p_end (hK1 _ ?_); clear hK1 K1
  refine pwp_seq_plain rfl fun K2 hK2 => ?_
  refine p_step rfl (e_assign (v := .sc _) rfl) trivial ?_
  refine p_end (hK2 _ ?_); clear hK2 K2
  refine pwp_seq_seq ?_
  refine pwp_seq_plain rfl fun K3 hK3 => ?_
  refine p_step rfl (e_assign (v := .sc _) rfl) trivial ?_
  refine p_end (hK3 _ ?_); clear hK3 K3
  refine pwp_seq_block fun K4 hK4 => ?_
  refine pwp_loopR (α := Nat × Int) [0, 1, 2] (fun (a5 : Nat × Int) => [(7, .int (a5.2)), (8, .int (a5.1))]) (fun (a5 : Nat × Int) (h : Heap) (_ : Nat → Nat) => ((a5.1) ≤ evs.length) ∧ (freE p (-1) 0 evs = freE p (a5.2) (a5.1) (evs.drop (a5.1))) ∧ (-1 ≤ (a5.2) ∧ (a5.2) < (a5.1))) (fun (a5 : Nat × Int) => evs.length - (a5.1)) (0, -1) (by exact ⟨rfl, rfl, trivial⟩) (by exact ⟨by exact Nat.zero_le _, by exact rfl, by exact ⟨by show (-1 : Int) ≤ -1; omega, by show (-1 : Int) < ((0 : Nat) : Int); omega⟩⟩) fun a5 r6 h7 c8 hj9 => ?_
  obtain ⟨i, a⟩ := a5
  obtain ⟨hk, hinv, hab⟩ := hj9
  try dsimp only at hk
  try dsimp only at hinv
  try dsimp only at hab
  show pwp _ _ (loopQ _ _ _) ⟨sets (mix _ _ _) [(7, .int a), (8, .int i)], _, _⟩
  refine pwp_seq_seq ?_
  refine pwp_seq_plain rfl fun K10 hK10 => ?_
  refine p_step rfl (e_move (v := .sc _) rfl) trivial ?_
  refine p_step rfl (e_move (v := .lit _ _ _) rfl) trivial ?_
  refine p_step rfl (e_len rfl (by kernel_rfl)) trivial ?_
  refine p_step rfl (e_lt rfl rfl) trivial ?_
  refine p_end (hK10 _ ?_); clear hK10 K10
  refine pwp_seq_cond rfl fun K11 hK11 => ⟨fun hb12 => ?_, fun hb12 => ?_⟩
  ·have hb12R := hb12; (try simp only [z1, z2, z3, z4, z5, z6, ne_eq, z7, z8, z9, z10, z11, z12] at hb12); (try (have hzz := fre_get hinv hb12; obtain ⟨z, hz⟩ := hzz; have hzd := hev z (List.mem_of_getElem? hz)))
   obtain ⟨x, hx, hd, ht⟩ := get_lt (xs := evs) (i := i) (by omega)
   rw [hd] at hinv; simp only [freE] at hinv
   refine pwp_skip ?_
   refine seq_norm (hK11 _ ?_); clear hK11 K11
   refine pwp_seq_cutG [0, 1, 2, 8] [(7, .int (if (((((decide (x.kind = (1))) || (decide (x.kind = (2)))) && (decide (x.platform = p))) && (!x.passed)) || (decide (x.kind = (3)))) = true then (-1) else (if ((((decide (x.kind = (1))) || (decide (x.kind = (2)))) && (decide (x.platform = p))) && x.passed) = true then (i : Int) else a)))] (fun K13 hK13 => ?_) (fun r14 => ?_)
   ·skip
    refine pwp_block ?_
    refine pwp_seq_cutG [0, 1, 2, 7, 8] [(9, .bool (((decide (x.kind = (1))) || (decide (x.kind = (2)))) && (decide (x.platform = p))))] (fun K15 hK15 => ?_) (fun r16 => ?_)
    ·skip
     refine pwp_gops rfl fun K17 hK17 => ?_
     refine g_begin ?_
     refine g_step rfl rfl rfl rfl (e_move (v := .lit _ _ _) rfl) trivial ?_
     refine g_step rfl rfl rfl rfl (e_move (v := .sc _) rfl) trivial ?_
     refine g_step rfl rfl rfl rfl (e_ixa rfl rfl (by kernel_rfl) (by kernel_rfl) (by first | (simp only [List.length_map]; omega) | (simp only [List.length_map]; have := (List.getElem?_eq_some_iff.1 hz).1; omega))) trivial ?_
     refine g_step rfl rfl rfl rfl (e_fa (pl := [(0, 1, false), (1, 1, false), (2, 1, false), (3, 1, false), (4, 1, false), (5, 1, false)]) rfl (by kernel_rfl) (by kernel_rfl) (by decide) rfl) trivial ?_
     refine g_step rfl rfl rfl rfl (e_load (v := .sc _) rfl (by kernel_rfl) (by kernel_rfl) (by kernel_rfl) (by first | (simp only [List.length_map]; omega) | (simp only [List.length_map]; have := (List.getElem?_eq_some_iff.1 hz).1; omega)) (by decide) ((cell_map hx _).trans rfl)) trivial ?_
     refine g_step rfl rfl rfl rfl (e_eq rfl rfl) trivial ?_
     refine g_step rfl rfl rfl rfl (e_move (v := .sc _) rfl) trivial ?_
     refine g_cases (fun hb18 => ?_) (fun hb18 => ?_)
     ·have hb18R := hb18; (try simp only [z1, z2, z3, z4, z5, z6, ne_eq, z7, z8, z9, z10, z11, z12] at hb18); (try (have hzz := fre_get hinv hb18; obtain ⟨z, hz⟩ := hzz; have hzd := hev z (List.mem_of_getElem? hz)))
      refine g_skip rfl rfl rfl ?_
      refine g_skip rfl rfl rfl ?_
      refine g_skip rfl rfl rfl ?_
      refine g_skip rfl rfl rfl ?_
      refine g_skip rfl rfl rfl ?_
      refine g_skip rfl rfl rfl ?_
      refine g_step rfl rfl rfl rfl (e_pickT (v := .sc _) rfl rfl) trivial ?_
      refine g_step rfl rfl rfl rfl (e_move (v := .sc _) rfl) trivial ?_
      refine g_step rfl rfl rfl rfl (e_move (v := .lit _ _ _) rfl) trivial ?_
      refine g_step rfl rfl rfl rfl (e_move (v := .sc _) rfl) trivial ?_
      refine g_step rfl rfl rfl rfl (e_ixa rfl rfl (by kernel_rfl) (by kernel_rfl) (by first | (simp only [List.length_map]; omega) | (simp only [List.length_map]; have := (List.getElem?_eq_some_iff.1 hz).1; omega))) trivial ?_
      refine g_step rfl rfl rfl rfl (e_fa (pl := [(0, 1, false), (1, 1, false), (2, 1, false), (3, 1, false), (4, 1, false), (5, 1, false)]) rfl (by kernel_rfl) (by kernel_rfl) (by decide) rfl) trivial ?_
      refine g_step rfl rfl rfl rfl (e_load (v := .sc _) rfl (by kernel_rfl) (by kernel_rfl) (by kernel_rfl) (by first | (simp only [List.length_map]; omega) | (simp only [List.length_map]; have := (List.getElem?_eq_some_iff.1 hz).1; omega)) (by decide) ((cell_map hx _).trans rfl)) trivial ?_
      refine g_step rfl rfl rfl rfl (e_move (v := .sc _) rfl) trivial ?_
      refine g_step rfl rfl rfl rfl (e_seq rfl rfl) trivial ?_
      refine g_step rfl rfl rfl rfl (e_pickT (v := .sc _) rfl rfl) trivial ?_
      refine g_step rfl rfl rfl rfl (e_assign (v := .sc _) rfl) trivial ?_
      refine g_end (ds := [23, 24, 25, 26, 27, 28, 31, 32, 33, 34, 35, 36, 37]) rfl rfl (hK17 _ ?_); clear hK17 K17
      exact seq_norm (hK15 _ ⟨rfl, rfl, rfl, rfl, rfl, trivial⟩ ⟨(congrArg PV.bool (show ((decide (x.platform = p)) : Bool) = (((decide (x.kind = (1))) || (decide (x.kind = (2)))) && (decide (x.platform = p))) by first | rfl | ((try rw [hb18R]) <;> (first | rfl | (simp only [Bool.and_true, Bool.and_false, Bool.true_and, Bool.false_and, Bool.or_true, Bool.or_false, Bool.true_or, Bool.false_or, Bool.not_true, Bool.not_false, if_true, if_false, Bool.false_eq_true, reduceIte] <;> rfl))) | (simp only [hb18R, Bool.and_true, Bool.and_false, Bool.true_and, Bool.false_and, Bool.or_true, Bool.or_false, Bool.true_or, Bool.false_or, Bool.not_true, Bool.not_false, if_true, if_false, Bool.false_eq_true, reduceIte] <;> rfl))), trivial⟩)
     ·have hb18R := hb18; (try simp only [z1, z2, z3, z4, z5, z6, ne_eq, z7, z8, z9, z10, z11, z12] at hb18); (try (have hzz := fre_get hinv hb18; obtain ⟨z, hz⟩ := hzz; have hzd := hev z (List.mem_of_getElem? hz)))
      refine g_step rfl rfl rfl rfl (e_move (v := .lit _ _ _) rfl) trivial ?_
      refine g_step rfl rfl rfl rfl (e_move (v := .sc _) rfl) trivial ?_
      refine g_step rfl rfl rfl rfl (e_ixa rfl rfl (by kernel_rfl) (by kernel_rfl) (by first | (simp only [List.length_map]; omega) | (simp only [List.length_map]; have := (List.getElem?_eq_some_iff.1 hz).1; omega))) trivial ?_
      refine g_step rfl rfl rfl rfl (e_fa (pl := [(0, 1, false), (1, 1, false), (2, 1, false), (3, 1, false), (4, 1, false), (5, 1, false)]) rfl (by kernel_rfl) (by kernel_rfl) (by decide) rfl) trivial ?_
      refine g_step rfl rfl rfl rfl (e_load (v := .sc _) rfl (by kernel_rfl) (by kernel_rfl) (by kernel_rfl) (by first | (simp only [List.length_map]; omega) | (simp only [List.length_map]; have := (List.getElem?_eq_some_iff.1 hz).1; omega)) (by decide) ((cell_map hx _).trans rfl)) trivial ?_
      refine g_step rfl rfl rfl rfl (e_eq rfl rfl) trivial ?_
      refine g_step rfl rfl rfl rfl (e_pickF (v := .sc _) rfl rfl) trivial ?_
      refine g_step rfl rfl rfl rfl (e_move (v := .sc _) rfl) trivial ?_
      refine g_cases (fun hb19 => ?_) (fun hb19 => ?_)
      ·have hb19R := hb19; (try simp only [z1, z2, z3, z4, z5, z6, ne_eq, z7, z8, z9, z10, z11, z12] at hb19); (try (have hzz := fre_get hinv hb19; obtain ⟨z, hz⟩ := hzz; have hzd := hev z (List.mem_of_getElem? hz)))
       refine g_step rfl rfl rfl rfl (e_move (v := .lit _ _ _) rfl) trivial ?_
       refine g_step rfl rfl rfl rfl (e_move (v := .sc _) rfl) trivial ?_
       refine g_step rfl rfl rfl rfl (e_ixa rfl rfl (by kernel_rfl) (by kernel_rfl) (by first | (simp only [List.length_map]; omega) | (simp only [List.length_map]; have := (List.getElem?_eq_some_iff.1 hz).1; omega))) trivial ?_
       refine g_step rfl rfl rfl rfl (e_fa (pl := [(0, 1, false), (1, 1, false), (2, 1, false), (3, 1, false), (4, 1, false), (5, 1, false)]) rfl (by kernel_rfl) (by kernel_rfl) (by decide) rfl) trivial ?_
       refine g_step rfl rfl rfl rfl (e_load (v := .sc _) rfl (by kernel_rfl) (by kernel_rfl) (by kernel_rfl) (by first | (simp only [List.length_map]; omega) | (simp only [List.length_map]; have := (List.getElem?_eq_some_iff.1 hz).1; omega)) (by decide) ((cell_map hx _).trans rfl)) trivial ?_
       refine g_step rfl rfl rfl rfl (e_move (v := .sc _) rfl) trivial ?_
       refine g_step rfl rfl rfl rfl (e_seq rfl rfl) trivial ?_
       refine g_step rfl rfl rfl rfl (e_pickT (v := .sc _) rfl rfl) trivial ?_
       refine g_step rfl rfl rfl rfl (e_assign (v := .sc _) rfl) trivial ?_
       refine g_end (ds := [23, 24, 25, 26, 27, 28, 31, 32, 33, 34, 35, 36, 37]) rfl rfl (hK17 _ ?_); clear hK17 K17
       exact seq_norm (hK15 _ ⟨rfl, rfl, rfl, rfl, rfl, trivial⟩ ⟨(congrArg PV.bool (show ((decide (x.platform = p)) : Bool) = (((decide (x.kind = (1))) || (decide (x.kind = (2)))) && (decide (x.platform = p))) by first | rfl | ((try rw [hb19R]) <;> (try rw [hb18R]) <;> (first | rfl | (simp only [Bool.and_true, Bool.and_false, Bool.true_and, Bool.false_and, Bool.or_true, Bool.or_false, Bool.true_or, Bool.false_or, Bool.not_true, Bool.not_false, if_true, if_false, Bool.false_eq_true, reduceIte] <;> rfl))) | (simp only [hb18R, hb19R, Bool.and_true, Bool.and_false, Bool.true_and, Bool.false_and, Bool.or_true, Bool.or_false, Bool.true_or, Bool.false_or, Bool.not_true, Bool.not_false, if_true, if_false, Bool.false_eq_true, reduceIte] <;> rfl))), trivial⟩)
      ·have hb19R := hb19; (try simp only [z1, z2, z3, z4, z5, z6, ne_eq, z7, z8, z9, z10, z11, z12] at hb19); (try (have hzz := fre_get hinv hb19; obtain ⟨z, hz⟩ := hzz; have hzd := hev z (List.mem_of_getElem? hz)))
       refine g_skip rfl rfl rfl ?_
       refine g_skip rfl rfl rfl ?_
       refine g_skip rfl rfl rfl ?_
       refine g_skip rfl rfl rfl ?_
       refine g_skip rfl rfl rfl ?_
       refine g_skip rfl rfl rfl ?_
       refine g_skip rfl rfl rfl ?_
       refine g_step rfl rfl rfl rfl (e_pickF (v := .sc _) rfl rfl) trivial ?_
       refine g_step rfl rfl rfl rfl (e_assign (v := .sc _) rfl) trivial ?_
       refine g_end (ds := [23, 24, 25, 26, 27, 28, 31, 32, 33, 34, 35, 36, 37]) rfl rfl (hK17 _ ?_); clear hK17 K17
       exact seq_norm (hK15 _ ⟨rfl, rfl, rfl, rfl, rfl, trivial⟩ ⟨(congrArg PV.bool (show (false : Bool) = (((decide (x.kind = (1))) || (decide (x.kind = (2)))) && (decide (x.platform = p))) by first | rfl | ((try rw [hb19R]) <;> (try rw [hb18R]) <;> (first | rfl | (simp only [Bool.and_true, Bool.and_false, Bool.true_and, Bool.false_and, Bool.or_true, Bool.or_false, Bool.true_or, Bool.false_or, Bool.not_true, Bool.not_false, if_true, if_false, Bool.false_eq_true, reduceIte] <;> rfl))) | (simp only [hb18R, hb19R, Bool.and_true, Bool.and_false, Bool.true_and, Bool.false_and, Bool.or_true, Bool.or_false, Bool.true_or, Bool.false_or, Bool.not_true, Bool.not_false, if_true, if_false, Bool.false_eq_true, reduceIte] <;> rfl))), trivial⟩)
    ·skip
     refine pwp_seq_seq ?_
     refine pwp_seq_cutG [0, 1, 2, 7, 8, 9] [(46, .bool ((((decide (x.kind = (1))) || (decide (x.kind = (2)))) && (decide (x.platform = p))) && x.passed))] (fun K20 hK20 => ?_) (fun r21 => ?_)
     ·skip
      refine pwp_gops rfl fun K22 hK22 => ?_
      refine g_begin ?_
      refine g_step rfl rfl rfl rfl (e_move (v := .sc _) rfl) trivial ?_
      refine g_step rfl rfl rfl rfl (e_move (v := .sc _) rfl) trivial ?_
      refine g_cases (fun hb23 => ?_) (fun hb23 => ?_)
      ·have hb23R := hb23; (try simp only [z1, z2, z3, z4, z5, z6, ne_eq, z7, z8, z9, z10, z11, z12] at hb23); (try (have hzz := fre_get hinv hb23; obtain ⟨z, hz⟩ := hzz; have hzd := hev z (List.mem_of_getElem? hz)))
       refine g_step rfl rfl rfl rfl (e_move (v := .lit _ _ _) rfl) trivial ?_
       refine g_step rfl rfl rfl rfl (e_move (v := .sc _) rfl) trivial ?_
       refine g_step rfl rfl rfl rfl (e_ixa rfl rfl (by kernel_rfl) (by kernel_rfl) (by first | (simp only [List.length_map]; omega) | (simp only [List.length_map]; have := (List.getElem?_eq_some_iff.1 hz).1; omega))) trivial ?_
       refine g_step rfl rfl rfl rfl (e_fa (pl := [(0, 1, false), (1, 1, false), (2, 1, false), (3, 1, false), (4, 1, false), (5, 1, false)]) rfl (by kernel_rfl) (by kernel_rfl) (by decide) rfl) trivial ?_
       refine g_step rfl rfl rfl rfl (e_load (v := .sc _) rfl (by kernel_rfl) (by kernel_rfl) (by kernel_rfl) (by first | (simp only [List.length_map]; omega) | (simp only [List.length_map]; have := (List.getElem?_eq_some_iff.1 hz).1; omega)) (by decide) ((cell_map hx _).trans rfl)) trivial ?_
       refine g_step rfl rfl rfl rfl (e_pickT (v := .sc _) rfl rfl) trivial ?_
       refine g_end (ds := [41, 42, 43, 44, 45]) rfl rfl (hK22 _ ?_); clear hK22 K22
       exact seq_norm (hK20 _ ⟨rfl, rfl, rfl, rfl, rfl, rfl, trivial⟩ ⟨(congrArg PV.bool (show (x.passed : Bool) = ((((decide (x.kind = (1))) || (decide (x.kind = (2)))) && (decide (x.platform = p))) && x.passed) by first | rfl | ((try rw [hb23R]) <;> (first | rfl | (simp only [Bool.and_true, Bool.and_false, Bool.true_and, Bool.false_and, Bool.or_true, Bool.or_false, Bool.true_or, Bool.false_or, Bool.not_true, Bool.not_false, if_true, if_false, Bool.false_eq_true, reduceIte] <;> rfl))) | (simp only [hb23R, Bool.and_true, Bool.and_false, Bool.true_and, Bool.false_and, Bool.or_true, Bool.or_false, Bool.true_or, Bool.false_or, Bool.not_true, Bool.not_false, if_true, if_false, Bool.false_eq_true, reduceIte] <;> rfl))), trivial⟩)
      ·have hb23R := hb23; (try simp only [z1, z2, z3, z4, z5, z6, ne_eq, z7, z8, z9, z10, z11, z12] at hb23); (try (have hzz := fre_get hinv hb23; obtain ⟨z, hz⟩ := hzz; have hzd := hev z (List.mem_of_getElem? hz)))
       refine g_skip rfl rfl rfl ?_
       refine g_skip rfl rfl rfl ?_
       refine g_skip rfl rfl rfl ?_
       refine g_skip rfl rfl rfl ?_
       refine g_skip rfl rfl rfl ?_
       refine g_step rfl rfl rfl rfl (e_pickF (v := .sc _) rfl rfl) trivial ?_
       refine g_end (ds := [41, 42, 43, 44, 45]) rfl rfl (hK22 _ ?_); clear hK22 K22
       exact seq_norm (hK20 _ ⟨rfl, rfl, rfl, rfl, rfl, rfl, trivial⟩ ⟨(congrArg PV.bool (show (false : Bool) = ((((decide (x.kind = (1))) || (decide (x.kind = (2)))) && (decide (x.platform = p))) && x.passed) by first | rfl | ((try rw [hb23R]) <;> (first | rfl | (simp only [Bool.and_true, Bool.and_false, Bool.true_and, Bool.false_and, Bool.or_true, Bool.or_false, Bool.true_or, Bool.false_or, Bool.not_true, Bool.not_false, if_true, if_false, Bool.false_eq_true, reduceIte] <;> rfl))) | (simp only [hb23R, Bool.and_true, Bool.and_false, Bool.true_and, Bool.false_and, Bool.or_true, Bool.or_false, Bool.true_or, Bool.false_or, Bool.not_true, Bool.not_false, if_true, if_false, Bool.false_eq_true, reduceIte] <;> rfl))), trivial⟩)
     ·skip
      refine pwp_seq_cutG [0, 1, 2, 8, 9] [(7, .int (if ((((decide (x.kind = (1))) || (decide (x.kind = (2)))) && (decide (x.platform = p))) && x.passed) = true then (i : Int) else a))] (fun K24 hK24 => ?_) (fun r25 => ?_)
      ·skip
       refine pwp_cond rfl (fun hb26 => ?_) (fun hb26 => ?_)
       ·have hb26R := hb26; (try simp only [z1, z2, z3, z4, z5, z6, ne_eq, z7, z8, z9, z10, z11, z12] at hb26); (try (have hzz := fre_get hinv hb26; obtain ⟨z, hz⟩ := hzz; have hzd := hev z (List.mem_of_getElem? hz)))
        refine pwp_plain rfl fun K27 hK27 => ?_
        refine p_step rfl (e_move (v := .sc _) rfl) trivial ?_
        refine p_step rfl (e_assign (v := .sc _) rfl) trivial ?_
        refine p_end (hK27 _ ?_); clear hK27 K27
        exact seq_norm (hK24 _ ⟨rfl, rfl, rfl, rfl, rfl, trivial⟩ ⟨(congrArg PV.int (show ((i : Int) : Int) = (if ((((decide (x.kind = (1))) || (decide (x.kind = (2)))) && (decide (x.platform = p))) && x.passed) = true then (i : Int) else a) by first | rfl | ((try rw [hb26R]) <;> (first | rfl | (simp only [Bool.and_true, Bool.and_false, Bool.true_and, Bool.false_and, Bool.or_true, Bool.or_false, Bool.true_or, Bool.false_or, Bool.not_true, Bool.not_false, if_true, if_false, Bool.false_eq_true, reduceIte] <;> rfl))) | (simp only [hb26R, Bool.and_true, Bool.and_false, Bool.true_and, Bool.false_and, Bool.or_true, Bool.or_false, Bool.true_or, Bool.false_or, Bool.not_true, Bool.not_false, if_true, if_false, Bool.false_eq_true, reduceIte] <;> rfl))), trivial⟩)
       ·have hb26R := hb26; (try simp only [z1, z2, z3, z4, z5, z6, ne_eq, z7, z8, z9, z10, z11, z12] at hb26); (try (have hzz := fre_get hinv hb26; obtain ⟨z, hz⟩ := hzz; have hzd := hev z (List.mem_of_getElem? hz)))
        refine pwp_skip ?_
        exact seq_norm (hK24 _ ⟨rfl, rfl, rfl, rfl, rfl, trivial⟩ ⟨(congrArg PV.int (show (a : Int) = (if ((((decide (x.kind = (1))) || (decide (x.kind = (2)))) && (decide (x.platform = p))) && x.passed) = true then (i : Int) else a) by first | rfl | ((try rw [hb26R]) <;> (first | rfl | (simp only [Bool.and_true, Bool.and_false, Bool.true_and, Bool.false_and, Bool.or_true, Bool.or_false, Bool.true_or, Bool.false_or, Bool.not_true, Bool.not_false, if_true, if_false, Bool.false_eq_true, reduceIte] <;> rfl))) | (simp only [hb26R, Bool.and_true, Bool.and_false, Bool.true_and, Bool.false_and, Bool.or_true, Bool.or_false, Bool.true_or, Bool.false_or, Bool.not_true, Bool.not_false, if_true, if_false, Bool.false_eq_true, reduceIte] <;> rfl))), trivial⟩)
      ·skip
       refine pwp_seq_cutG [0, 1, 2, 7, 8] [(64, .bool (((((decide (x.kind = (1))) || (decide (x.kind = (2)))) && (decide (x.platform = p))) && (!x.passed)) || (decide (x.kind = (3)))))] (fun K28 hK28 => ?_) (fun r29 => ?_)
       ·skip
        refine pwp_gops rfl fun K30 hK30 => ?_
        refine g_begin ?_
        refine g_step rfl rfl rfl rfl (e_move (v := .sc _) rfl) trivial ?_
        refine g_step rfl rfl rfl rfl (e_move (v := .sc _) rfl) trivial ?_
        refine g_cases (fun hb31 => ?_) (fun hb31 => ?_)
        ·have hb31R := hb31; (try simp only [z1, z2, z3, z4, z5, z6, ne_eq, z7, z8, z9, z10, z11, z12] at hb31); (try (have hzz := fre_get hinv hb31; obtain ⟨z, hz⟩ := hzz; have hzd := hev z (List.mem_of_getElem? hz)))
         refine g_step rfl rfl rfl rfl (e_move (v := .lit _ _ _) rfl) trivial ?_
         refine g_step rfl rfl rfl rfl (e_move (v := .sc _) rfl) trivial ?_
         refine g_step rfl rfl rfl rfl (e_ixa rfl rfl (by kernel_rfl) (by kernel_rfl) (by first | (simp only [List.length_map]; omega) | (simp only [List.length_map]; have := (List.getElem?_eq_some_iff.1 hz).1; omega))) trivial ?_
         refine g_step rfl rfl rfl rfl (e_fa (pl := [(0, 1, false), (1, 1, false), (2, 1, false), (3, 1, false), (4, 1, false), (5, 1, false)]) rfl (by kernel_rfl) (by kernel_rfl) (by decide) rfl) trivial ?_
         refine g_step rfl rfl rfl rfl (e_load (v := .sc _) rfl (by kernel_rfl) (by kernel_rfl) (by kernel_rfl) (by first | (simp only [List.length_map]; omega) | (simp only [List.length_map]; have := (List.getElem?_eq_some_iff.1 hz).1; omega)) (by decide) ((cell_map hx _).trans rfl)) trivial ?_
         refine g_step rfl rfl rfl rfl (e_not rfl) trivial ?_
         refine g_step rfl rfl rfl rfl (e_pickT (v := .sc _) rfl rfl) trivial ?_
         refine g_step rfl rfl rfl rfl (e_move (v := .sc _) rfl) trivial ?_
         refine g_cases (fun hb32 => ?_) (fun hb32 => ?_)
         ·have hb32R := hb32; (try simp only [z1, z2, z3, z4, z5, z6, ne_eq, z7, z8, z9, z10, z11, z12] at hb32); (try (have hzz := fre_get hinv hb32; obtain ⟨z, hz⟩ := hzz; have hzd := hev z (List.mem_of_getElem? hz)))
          refine g_skip rfl rfl rfl ?_
          refine g_skip rfl rfl rfl ?_
          refine g_skip rfl rfl rfl ?_
          refine g_skip rfl rfl rfl ?_
          refine g_skip rfl rfl rfl ?_
          refine g_skip rfl rfl rfl ?_
          refine g_step rfl rfl rfl rfl (e_pickT (v := .sc _) rfl rfl) trivial ?_
          refine g_end (ds := [50, 51, 52, 53, 54, 55, 58, 59, 60, 61, 62, 63]) rfl rfl (hK30 _ ?_); clear hK30 K30
          exact seq_norm (hK28 _ ⟨rfl, rfl, rfl, rfl, rfl, trivial⟩ ⟨(congrArg PV.bool (show (true : Bool) = (((((decide (x.kind = (1))) || (decide (x.kind = (2)))) && (decide (x.platform = p))) && (!x.passed)) || (decide (x.kind = (3)))) by first | rfl | ((try rw [hb32R]) <;> (try rw [hb31R]) <;> (first | rfl | (simp only [Bool.and_true, Bool.and_false, Bool.true_and, Bool.false_and, Bool.or_true, Bool.or_false, Bool.true_or, Bool.false_or, Bool.not_true, Bool.not_false, if_true, if_false, Bool.false_eq_true, reduceIte] <;> rfl))) | (simp only [hb31R, hb32R, Bool.and_true, Bool.and_false, Bool.true_and, Bool.false_and, Bool.or_true, Bool.or_false, Bool.true_or, Bool.false_or, Bool.not_true, Bool.not_false, if_true, if_false, Bool.false_eq_true, reduceIte] <;> rfl))), trivial⟩)
         ·have hb32R := hb32; (try simp only [z1, z2, z3, z4, z5, z6, ne_eq, z7, z8, z9, z10, z11, z12] at hb32); (try (have hzz := fre_get hinv hb32; obtain ⟨z, hz⟩ := hzz; have hzd := hev z (List.mem_of_getElem? hz)))
          refine g_step rfl rfl rfl rfl (e_move (v := .lit _ _ _) rfl) trivial ?_
          refine g_step rfl rfl rfl rfl (e_move (v := .sc _) rfl) trivial ?_
          refine g_step rfl rfl rfl rfl (e_ixa rfl rfl (by kernel_rfl) (by kernel_rfl) (by first | (simp only [List.length_map]; omega) | (simp only [List.length_map]; have := (List.getElem?_eq_some_iff.1 hz).1; omega))) trivial ?_
          refine g_step rfl rfl rfl rfl (e_fa (pl := [(0, 1, false), (1, 1, false), (2, 1, false), (3, 1, false), (4, 1, false), (5, 1, false)]) rfl (by kernel_rfl) (by kernel_rfl) (by decide) rfl) trivial ?_
          refine g_step rfl rfl rfl rfl (e_load (v := .sc _) rfl (by kernel_rfl) (by kernel_rfl) (by kernel_rfl) (by first | (simp only [List.length_map]; omega) | (simp only [List.length_map]; have := (List.getElem?_eq_some_iff.1 hz).1; omega)) (by decide) ((cell_map hx _).trans rfl)) trivial ?_
          refine g_step rfl rfl rfl rfl (e_eq rfl rfl) trivial ?_
          refine g_step rfl rfl rfl rfl (e_pickF (v := .sc _) rfl rfl) trivial ?_
          refine g_end (ds := [50, 51, 52, 53, 54, 55, 58, 59, 60, 61, 62, 63]) rfl rfl (hK30 _ ?_); clear hK30 K30
          exact seq_norm (hK28 _ ⟨rfl, rfl, rfl, rfl, rfl, trivial⟩ ⟨(congrArg PV.bool (show ((decide (x.kind = (3))) : Bool) = (((((decide (x.kind = (1))) || (decide (x.kind = (2)))) && (decide (x.platform = p))) && (!x.passed)) || (decide (x.kind = (3)))) by first | rfl | ((try rw [hb32R]) <;> (try rw [hb31R]) <;> (first | rfl | (simp only [Bool.and_true, Bool.and_false, Bool.true_and, Bool.false_and, Bool.or_true, Bool.or_false, Bool.true_or, Bool.false_or, Bool.not_true, Bool.not_false, if_true, if_false, Bool.false_eq_true, reduceIte] <;> rfl))) | (simp only [hb31R, hb32R, Bool.and_true, Bool.and_false, Bool.true_and, Bool.false_and, Bool.or_true, Bool.or_false, Bool.true_or, Bool.false_or, Bool.not_true, Bool.not_false, if_true, if_false, Bool.false_eq_true, reduceIte] <;> rfl))), trivial⟩)
        ·have hb31R := hb31; (try simp only [z1, z2, z3, z4, z5, z6, ne_eq, z7, z8, z9, z10, z11, z12] at hb31); (try (have hzz := fre_get hinv hb31; obtain ⟨z, hz⟩ := hzz; have hzd := hev z (List.mem_of_getElem? hz)))
         refine g_skip rfl rfl rfl ?_
         refine g_skip rfl rfl rfl ?_
         refine g_skip rfl rfl rfl ?_
         refine g_skip rfl rfl rfl ?_
         refine g_skip rfl rfl rfl ?_
         refine g_skip rfl rfl rfl ?_
         refine g_step rfl rfl rfl rfl (e_pickF (v := .sc _) rfl rfl) trivial ?_
         refine g_step rfl rfl rfl rfl (e_move (v := .sc _) rfl) trivial ?_
         refine g_step rfl rfl rfl rfl (e_move (v := .lit _ _ _) rfl) trivial ?_
         refine g_step rfl rfl rfl rfl (e_move (v := .sc _) rfl) trivial ?_
         refine g_step rfl rfl rfl rfl (e_ixa rfl rfl (by kernel_rfl) (by kernel_rfl) (by first | (simp only [List.length_map]; omega) | (simp only [List.length_map]; have := (List.getElem?_eq_some_iff.1 hz).1; omega))) trivial ?_
         refine g_step rfl rfl rfl rfl (e_fa (pl := [(0, 1, false), (1, 1, false), (2, 1, false), (3, 1, false), (4, 1, false), (5, 1, false)]) rfl (by kernel_rfl) (by kernel_rfl) (by decide) rfl) trivial ?_
         refine g_step rfl rfl rfl rfl (e_load (v := .sc _) rfl (by kernel_rfl) (by kernel_rfl) (by kernel_rfl) (by first | (simp only [List.length_map]; omega) | (simp only [List.length_map]; have := (List.getElem?_eq_some_iff.1 hz).1; omega)) (by decide) ((cell_map hx _).trans rfl)) trivial ?_
         refine g_step rfl rfl rfl rfl (e_eq rfl rfl) trivial ?_
         refine g_step rfl rfl rfl rfl (e_pickF (v := .sc _) rfl rfl) trivial ?_
         refine g_end (ds := [50, 51, 52, 53, 54, 55, 58, 59, 60, 61, 62, 63]) rfl rfl (hK30 _ ?_); clear hK30 K30
         exact seq_norm (hK28 _ ⟨rfl, rfl, rfl, rfl, rfl, trivial⟩ ⟨(congrArg PV.bool (show ((decide (x.kind = (3))) : Bool) = (((((decide (x.kind = (1))) || (decide (x.kind = (2)))) && (decide (x.platform = p))) && (!x.passed)) || (decide (x.kind = (3)))) by first | rfl | ((try rw [hb31R]) <;> (first | rfl | (simp only [Bool.and_true, Bool.and_false, Bool.true_and, Bool.false_and, Bool.or_true, Bool.or_false, Bool.true_or, Bool.false_or, Bool.not_true, Bool.not_false, if_true, if_false, Bool.false_eq_true, reduceIte] <;> rfl))) | (simp only [hb31R, Bool.and_true, Bool.and_false, Bool.true_and, Bool.false_and, Bool.or_true, Bool.or_false, Bool.true_or, Bool.false_or, Bool.not_true, Bool.not_false, if_true, if_false, Bool.false_eq_true, reduceIte] <;> rfl))), trivial⟩)
       ·skip
        refine pwp_cond rfl (fun hb33 => ?_) (fun hb33 => ?_)
        ·have hb33R := hb33; (try simp only [z1, z2, z3, z4, z5, z6, ne_eq, z7, z8, z9, z10, z11, z12] at hb33); (try (have hzz := fre_get hinv hb33; obtain ⟨z, hz⟩ := hzz; have hzd := hev z (List.mem_of_getElem? hz)))
         refine pwp_plain rfl fun K34 hK34 => ?_
         refine p_step rfl (e_assign (v := .sc _) rfl) trivial ?_
         refine p_end (hK34 _ ?_); clear hK34 K34
         refine block_norm ?_
         exact seq_norm (hK13 _ ⟨rfl, rfl, rfl, rfl, trivial⟩ ⟨(congrArg PV.int (show ((-1) : Int) = (if (((((decide (x.kind = (1))) || (decide (x.kind = (2)))) && (decide (x.platform = p))) && (!x.passed)) || (decide (x.kind = (3)))) = true then (-1) else (if ((((decide (x.kind = (1))) || (decide (x.kind = (2)))) && (decide (x.platform = p))) && x.passed) = true then (i : Int) else a)) by first | rfl | ((try rw [hb33R]) <;> (first | rfl | (simp only [Bool.and_true, Bool.and_false, Bool.true_and, Bool.false_and, Bool.or_true, Bool.or_false, Bool.true_or, Bool.false_or, Bool.not_true, Bool.not_false, if_true, if_false, Bool.false_eq_true, reduceIte] <;> rfl))) | (simp only [hb33R, Bool.and_true, Bool.and_false, Bool.true_and, Bool.false_and, Bool.or_true, Bool.or_false, Bool.true_or, Bool.false_or, Bool.not_true, Bool.not_false, if_true, if_false, Bool.false_eq_true, reduceIte] <;> rfl))), trivial⟩)
        ·have hb33R := hb33; (try simp only [z1, z2, z3, z4, z5, z6, ne_eq, z7, z8, z9, z10, z11, z12] at hb33); (try (have hzz := fre_get hinv hb33; obtain ⟨z, hz⟩ := hzz; have hzd := hev z (List.mem_of_getElem? hz)))
         refine pwp_skip ?_
         refine block_norm ?_
         exact seq_norm (hK13 _ ⟨rfl, rfl, rfl, rfl, trivial⟩ ⟨(congrArg PV.int (show ((if ((((decide (x.kind = (1))) || (decide (x.kind = (2)))) && (decide (x.platform = p))) && x.passed) = true then (i : Int) else a) : Int) = (if (((((decide (x.kind = (1))) || (decide (x.kind = (2)))) && (decide (x.platform = p))) && (!x.passed)) || (decide (x.kind = (3)))) = true then (-1) else (if ((((decide (x.kind = (1))) || (decide (x.kind = (2)))) && (decide (x.platform = p))) && x.passed) = true then (i : Int) else a)) by first | rfl | ((try rw [hb33R]) <;> (first | rfl | (simp only [Bool.and_true, Bool.and_false, Bool.true_and, Bool.false_and, Bool.or_true, Bool.or_false, Bool.true_or, Bool.false_or, Bool.not_true, Bool.not_false, if_true, if_false, Bool.false_eq_true, reduceIte] <;> rfl))) | (simp only [hb33R, Bool.and_true, Bool.and_false, Bool.true_and, Bool.false_and, Bool.or_true, Bool.or_false, Bool.true_or, Bool.false_or, Bool.not_true, Bool.not_false, if_true, if_false, Bool.false_eq_true, reduceIte] <;> rfl))), trivial⟩)
   ·skip
    refine pwp_plain rfl fun K35 hK35 => ?_
    refine p_step rfl (e_move (v := .sc _) rfl) trivial ?_
    refine p_step rfl (e_add rfl rfl (by omega)) trivial ?_
    refine p_step rfl (e_assign (v := .sc _) rfl) trivial ?_
    refine p_end (hK35 _ ?_); clear hK35 K35
    exact loop_again ((i + 1, (if (((((decide (x.kind = (1))) || (decide (x.kind = (2)))) && (decide (x.platform = p))) && (!x.passed)) || (decide (x.kind = (3)))) = true then (-1) else (if ((((decide (x.kind = (1))) || (decide (x.kind = (2)))) && (decide (x.platform = p))) && x.passed) = true then (i : Int) else a)))) (by show _ < _; simp only; omega) ⟨rfl, rfl, rfl, trivial⟩ ⟨rfl, rfl, trivial⟩ (by exact ⟨by show _ + 1 ≤ _; omega, by exact hinv, by show -1 ≤ _ ∧ _ < ((i + 1 : Nat) : Int); (try split) <;> omega⟩)
  ·have hb12R := hb12; (try simp only [z1, z2, z3, z4, z5, z6, ne_eq, z7, z8, z9, z10, z11, z12] at hb12); (try (have hzz := fre_get hinv hb12; obtain ⟨z, hz⟩ := hzz; have hzd := hev z (List.mem_of_getElem? hz)))
   obtain rfl : i = evs.length := by omega
   rw [List.drop_length] at hinv; simp only [freE] at hinv
   refine pwp_exit ?_
   refine exit_seq ?_
   clear hK11 K11
   refine exit_loop ?_
   refine exit_here ?_
   refine seq_norm (hK4 _ ?_); clear hK4 K4
   refine pwp_seq_gops rfl fun K36 hK36 => ?_
   refine g_begin ?_
   refine g_step rfl rfl rfl rfl (e_move (v := .sc _) rfl) trivial ?_
   refine g_step rfl rfl rfl rfl (e_ge rfl rfl) trivial ?_
   refine g_step rfl rfl rfl rfl (e_move (v := .sc _) rfl) trivial ?_
   refine g_cases (fun hb37 => ?_) (fun hb37 => ?_)
   ·have hb37R := hb37; (try simp only [z1, z2, z3, z4, z5, z6, ne_eq, z7, z8, z9, z10, z11, z12] at hb37); (try (have hzz := fre_get hinv hb37; obtain ⟨z, hz⟩ := hzz; have hzd := hev z (List.mem_of_getElem? hz)))
    refine g_step rfl rfl rfl rfl (e_move (v := .sc _) rfl) trivial ?_
    refine g_step rfl rfl rfl rfl (e_move (v := .lit _ _ _) rfl) trivial ?_
    refine g_step rfl rfl rfl rfl (e_move (v := .sc _) rfl) trivial ?_
    refine g_step rfl rfl rfl rfl (e_ixa rfl rfl (by kernel_rfl) (by kernel_rfl) (by first | (simp only [List.length_map]; omega) | (simp only [List.length_map]; have := (List.getElem?_eq_some_iff.1 hz).1; omega))) trivial ?_
    refine g_step rfl rfl rfl rfl (e_fa (pl := [(0, 1, false), (1, 1, false), (2, 1, false), (3, 1, false), (4, 1, false), (5, 1, false)]) rfl (by kernel_rfl) (by kernel_rfl) (by decide) rfl) trivial ?_
    refine g_step rfl rfl rfl rfl (e_load (v := .sc _) rfl (by kernel_rfl) (by kernel_rfl) (by kernel_rfl) (by first | (simp only [List.length_map]; omega) | (simp only [List.length_map]; have := (List.getElem?_eq_some_iff.1 hz).1; omega)) (by decide) ((cell_map hz _).trans rfl)) trivial ?_
    refine g_step rfl rfl rfl rfl (e_sub rfl rfl (by omega)) trivial ?_
    refine g_step rfl rfl rfl rfl (e_le rfl rfl) trivial ?_
    refine g_step rfl rfl rfl rfl (e_pickT (v := .sc _) rfl rfl) trivial ?_
    refine g_step rfl rfl rfl rfl (e_assign (v := .sc _) rfl) trivial ?_
    refine g_end (ds := [68, 69, 70, 71, 72, 73, 74, 75]) rfl rfl (hK36 _ ?_); clear hK36 K36
    refine pwp_ret ?_
    refine end1 (v := .sc _) rfl ?_
    first
      | exact out_b (fresh_1 hinv (by omega))
      | exact out_b (fresh_2 hinv (by omega) hz)
   ·have hb37R := hb37; (try simp only [z1, z2, z3, z4, z5, z6, ne_eq, z7, z8, z9, z10, z11, z12] at hb37); (try (have hzz := fre_get hinv hb37; obtain ⟨z, hz⟩ := hzz; have hzd := hev z (List.mem_of_getElem? hz)))
    refine g_skip rfl rfl rfl ?_
    refine g_skip rfl rfl rfl ?_
    refine g_skip rfl rfl rfl ?_
    refine g_skip rfl rfl rfl ?_
    refine g_skip rfl rfl rfl ?_
    refine g_skip rfl rfl rfl ?_
    refine g_skip rfl rfl rfl ?_
    refine g_skip rfl rfl rfl ?_
    refine g_step rfl rfl rfl rfl (e_pickF (v := .sc _) rfl rfl) trivial ?_
    refine g_step rfl rfl rfl rfl (e_assign (v := .sc _) rfl) trivial ?_
    refine g_end (ds := [68, 69, 70, 71, 72, 73, 74, 75]) rfl rfl (hK36 _ ?_); clear hK36 K36
    refine pwp_ret ?_
    refine end1 (v := .sc _) rfl ?_
    first
      | exact out_b (fresh_1 hinv (by omega))
      | exact out_b (fresh_2 hinv (by omega) hz)


theorem upto_days {evs : List Ev} {day : Int} (h : ∀ e ∈ evs, 0 ≤ e.day ∧ e.day ≤ 20000) : ∀ e ∈ uptoE evs day, 0 ≤ e.day ∧ e.day ≤ 20000 := fun e he => h e (List.mem_filter.1 he).1
/-- The tag of the reference. -/
def tagR : List Int → Int
  | [] => 2
  | [a] => if a = 4 then 1 else 0
  | _ => 0
theorem tagR_nil {l : List Int} (h : ((l.length : Nat) : Int) = 0) : 2 = tagR l := by
  cases l with
  | nil => rfl
  | cons a l => simp at h; omega
theorem tagR_4 {l : List Int} {x : Int} (hx : l[0]? = some x) (hn : ((l.length : Nat) : Int) = 1) (h : x = 4) : 1 = tagR l := by
  match l, hx, hn with
  | [a], hx, _ => cases hx; simp [tagR, h]
  | a :: b :: l, _, hn => simp at hn; omega
theorem tagR_n {l : List Int} {x : Int} (hx : l[0]? = some x) (h : ¬ ((l.length : Nat) : Int) = 1 ∨ ¬ x = 4) : 0 = tagR l := by
  match l, hx, h with
  | [a], hx, h => cases hx; simp at h; simp [tagR, h]
  | a :: b :: l, _, _ => rfl

theorem fr51 : (inFrame Try.f51.ntmps (Try.f51.body.getD .skip) && Try.f51.results.toList.all (resScope Try.f51.ntmps)) = true := by kernel_rfl
theorem TagR (l : List Int) : PCalls Try.prog 51 [.lit true 1 (l.map ci)] (.int (tagR l)) := by
  refine PCalls.of_code Try.func51 rfl rfl (by kernel_rfl) mixed fr51 (by show _ ≤ 15; simp) (.sc _) ?_
  refine pwp_seq_plain rfl fun K1 hK1 => ?_
  refine p_step rfl (e_assign (v := .sc _) rfl) trivial ?_
  refine p_end (hK1 _ ?_); clear hK1 K1
  refine pwp_seq_seq ?_
  refine pwp_seq_plain rfl fun K2 hK2 => ?_
  refine p_step rfl (e_move (v := .lit _ _ _) rfl) trivial ?_
  refine p_step rfl (e_len rfl (by kernel_rfl)) trivial ?_
  refine p_step rfl (e_eq rfl rfl) trivial ?_
  refine p_end (hK2 _ ?_); clear hK2 K2
  refine pwp_seq_cond rfl fun K3 hK3 => ⟨fun hb4 => ?_, fun hb4 => ?_⟩
  ·have hb4R := hb4; (try simp only [z1, z2, z3, z4, z5, z6, ne_eq, z7, z8, z9, z10, z11, z12] at hb4); (try (have hz := head_ex (l := l) hb4; obtain ⟨x, hx⟩ := hz))
   refine pwp_seq_plain rfl fun K5 hK5 => ?_
   refine p_step rfl (e_assign (v := .sc _) rfl) trivial ?_
   refine p_end (hK5 _ ?_); clear hK5 K5
   refine pwp_ret ?_
   refine ret_seq ?_
   refine end1 (v := .sc _) rfl ?_
   first
     | exact out_i (tagR_nil (by assumption))
     | exact out_i (tagR_4 hx (by omega) (by omega))
     | exact out_i (tagR_n hx (by omega))
  ·have hb4R := hb4; (try simp only [z1, z2, z3, z4, z5, z6, ne_eq, z7, z8, z9, z10, z11, z12] at hb4); (try (have hz := head_ex (l := l) hb4; obtain ⟨x, hx⟩ := hz))
   refine pwp_skip ?_
   refine seq_norm (hK3 _ ?_); clear hK3 K3
   refine pwp_seq_seq ?_
   refine pwp_seq_cutG [] [(14, .bool ((decide (((((l).map ci).length : Nat) : Int) = (1))) && (decide (x = (4)))))] (fun K6 hK6 => ?_) (fun r7 => ?_)
   ·skip
    refine pwp_gops rfl fun K8 hK8 => ?_
    refine g_begin ?_
    refine g_step rfl rfl rfl rfl (e_move (v := .lit _ _ _) rfl) trivial ?_
    refine g_step rfl rfl rfl rfl (e_len rfl (by kernel_rfl)) trivial ?_
    refine g_step rfl rfl rfl rfl (e_eq rfl rfl) trivial ?_
    refine g_step rfl rfl rfl rfl (e_move (v := .sc _) rfl) trivial ?_
    refine g_cases (fun hb9 => ?_) (fun hb9 => ?_)
    ·have hb9R := hb9; (try simp only [z1, z2, z3, z4, z5, z6, ne_eq, z7, z8, z9, z10, z11, z12] at hb9); (try (have hz := head_ex (l := l) hb9; obtain ⟨x, hx⟩ := hz))
     refine g_step rfl rfl rfl rfl (e_move (v := .lit _ _ _) rfl) trivial ?_
     refine g_step rfl rfl rfl rfl (e_ixa rfl rfl (by kernel_rfl) (by kernel_rfl) (by (simp only [List.length_map]; have := (List.getElem?_eq_some_iff.1 hx).1; omega))) trivial ?_
     refine g_step rfl rfl rfl rfl (e_load (v := .sc _) rfl (by kernel_rfl) (by kernel_rfl) (by kernel_rfl) (by (simp only [List.length_map]; have := (List.getElem?_eq_some_iff.1 hx).1; omega)) (by decide) ((cell_map hx _).trans rfl)) trivial ?_
     refine g_step rfl rfl rfl rfl (e_eq rfl rfl) trivial ?_
     refine g_step rfl rfl rfl rfl (e_pickT (v := .sc _) rfl rfl) trivial ?_
     refine g_end (ds := [10, 11, 12, 13]) rfl rfl (hK8 _ ?_); clear hK8 K8
     exact seq_norm (hK6 _ trivial ⟨(congrArg PV.bool (show ((decide (x = (4))) : Bool) = ((decide (((((l).map ci).length : Nat) : Int) = (1))) && (decide (x = (4)))) by first | rfl | ((try rw [hb9R]) <;> (first | rfl | (simp only [Bool.and_true, Bool.and_false, Bool.true_and, Bool.false_and, Bool.or_true, Bool.or_false, Bool.true_or, Bool.false_or, Bool.not_true, Bool.not_false, if_true, if_false, Bool.false_eq_true, reduceIte] <;> rfl))) | (simp only [hb9R, Bool.and_true, Bool.and_false, Bool.true_and, Bool.false_and, Bool.or_true, Bool.or_false, Bool.true_or, Bool.false_or, Bool.not_true, Bool.not_false, if_true, if_false, Bool.false_eq_true, reduceIte] <;> rfl))), trivial⟩)
    ·have hb9R := hb9; (try simp only [z1, z2, z3, z4, z5, z6, ne_eq, z7, z8, z9, z10, z11, z12] at hb9); (try (have hz := head_ex (l := l) hb9; obtain ⟨x, hx⟩ := hz))
     refine g_skip rfl rfl rfl ?_
     refine g_skip rfl rfl rfl ?_
     refine g_skip rfl rfl rfl ?_
     refine g_skip rfl rfl rfl ?_
     refine g_step rfl rfl rfl rfl (e_pickF (v := .sc _) rfl rfl) trivial ?_
     refine g_end (ds := [10, 11, 12, 13]) rfl rfl (hK8 _ ?_); clear hK8 K8
     exact seq_norm (hK6 _ trivial ⟨(congrArg PV.bool (show (false : Bool) = ((decide (((((l).map ci).length : Nat) : Int) = (1))) && (decide (x = (4)))) by first | rfl | ((try rw [hb9R]) <;> (first | rfl | (simp only [Bool.and_true, Bool.and_false, Bool.true_and, Bool.false_and, Bool.or_true, Bool.or_false, Bool.true_or, Bool.false_or, Bool.not_true, Bool.not_false, if_true, if_false, Bool.false_eq_true, reduceIte] <;> rfl))) | (simp only [hb9R, Bool.and_true, Bool.and_false, Bool.true_and, Bool.false_and, Bool.or_true, Bool.or_false, Bool.true_or, Bool.false_or, Bool.not_true, Bool.not_false, if_true, if_false, Bool.false_eq_true, reduceIte] <;> rfl))), trivial⟩)
   ·skip
    refine pwp_seq_cond rfl fun K10 hK10 => ⟨fun hb11 => ?_, fun hb11 => ?_⟩
    ·have hb11R := hb11; (try simp only [z1, z2, z3, z4, z5, z6, ne_eq, z7, z8, z9, z10, z11, z12] at hb11); (try (have hz := head_ex (l := l) hb11; obtain ⟨x, hx⟩ := hz))
     refine pwp_seq_plain rfl fun K12 hK12 => ?_
     refine p_step rfl (e_assign (v := .sc _) rfl) trivial ?_
     refine p_end (hK12 _ ?_); clear hK12 K12
     refine pwp_ret ?_
     refine ret_seq ?_
     refine end1 (v := .sc _) rfl ?_
     first
       | exact out_i (tagR_nil (by assumption))
       | exact out_i (tagR_4 hx (by omega) (by omega))
       | exact out_i (tagR_n hx (by omega))
    ·have hb11R := hb11; (try simp only [z1, z2, z3, z4, z5, z6, ne_eq, z7, z8, z9, z10, z11, z12] at hb11); (try (have hz := head_ex (l := l) hb11; obtain ⟨x, hx⟩ := hz))
     refine pwp_skip ?_
     refine seq_norm (hK10 _ ?_); clear hK10 K10
     refine pwp_seq_plain rfl fun K13 hK13 => ?_
     refine p_step rfl (e_assign (v := .sc _) rfl) trivial ?_
     refine p_end (hK13 _ ?_); clear hK13 K13
     refine pwp_ret ?_
     refine end1 (v := .sc _) rfl ?_
     first
       | exact out_i (tagR_nil (by assumption))
       | exact out_i (tagR_4 hx (by omega) (by omega))
       | exact out_i (tagR_n hx (by omega))

end Go.Proofs.Ytdbpfhbppcpbbaa
