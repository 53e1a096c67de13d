/- What the functions behind RecordTotals return, as contracts on pure values. No conditions. -/
import Derived.Test.YtdbpfhbppcpbbaaData
import Derived.Test.YtdbpfhbppcpbbaaWeeks
set_option linter.unusedSimpArgs false
set_option linter.unusedVariables false
namespace Go.Proofs.Ytdbpfhbppcpbbaa
open Go Go.Pv
def sumA (xs : List Charge) : Int := (xs.map (·.amount)).sum
def goodA (x : Charge) : Prop := 0 ≤ x.amount ∧ x.amount ≤ 1000000000000000
instance (x : Charge) : Decidable (goodA x) := inferInstanceAs (Decidable (_ ∧ _))
theorem sumA_take {xs : List Charge} {k : Nat} {x : Charge} (h : xs.take (k + 1) = xs.take k ++ [x]) : sumA (xs.take (k + 1)) = sumA (xs.take k) + x.amount := by
  rw [h]; simp [sumA]
def totalE (xs : List Charge) : Int := if 2000 < xs.length then 8 else if ∀ x ∈ xs, goodA x then 0 else 2
def totalN (xs : List Charge) : Int := if totalE xs = 0 then sumA xs else 0
theorem totalE_big {xs : List Charge} (h : 2000 < xs.length) : totalE xs = 8 := by simp [totalE, h]
theorem totalE_ok {xs : List Charge} (h : xs.length ≤ 2000) (h2 : ∀ x ∈ xs, goodA x) : totalE xs = 0 := by
  rw [totalE, if_neg (by omega), if_pos h2]
theorem totalE_bad {xs : List Charge} {x : Charge} {k : Nat} (h : xs.length ≤ 2000) (hx : xs[k]? = some x) (h2 : ¬ goodA x) : totalE xs = 2 := by
  rw [totalE, if_neg (by omega), if_neg fun hn => h2 (hn x (List.mem_of_getElem? hx))]
theorem all_take {xs : List Charge} {k : Nat} {x : Charge} (h : ∀ y ∈ xs.take k, goodA y) (hx : goodA x) (ht : xs.take (k + 1) = xs.take k ++ [x]) : ∀ y ∈ xs.take (k + 1), goodA y := by
  rw [ht]; intro y hy
  rcases List.mem_append.1 hy with hy | hy
  · exact h y hy
  · simp at hy; subst hy; exact hx

theorem fr79 : (inFrame Try.f79.ntmps (Try.f79.body.getD .skip) && Try.f79.results.toList.all (resScope Try.f79.ntmps)) = true := by kernel_rfl
theorem total (xs : List Charge) (hn : xs.length ≤ 2000) (ha : ∀ x ∈ xs, goodA x) : PCalls Try.prog 79 [.lit true 4 (xs.map Charge.enc)] (.int (sumA xs)) := by
  refine PCalls.of_code Try.func79 rfl rfl (by kernel_rfl) mixed fr79 (by show _ ≤ 18; simp) (.sc _) ?_
  refine pwp_seq_plain rfl fun K1 hK1 => ?_
  refine p_step rfl (e_assign (v := .sc _) rfl) trivial ?_
  refine p_end (hK1 _ ?_); clear hK1 K1
  refine pwp_seq_plain rfl fun K2 hK2 => ?_
  refine p_step rfl (e_assign (v := .sc _) rfl) trivial ?_
  refine p_end (hK2 _ ?_); clear hK2 K2
  refine pwp_seq_seq ?_
  refine pwp_seq_plain rfl fun K3 hK3 => ?_
  refine p_step rfl (e_move (v := .lit _ _ _) rfl) trivial ?_
  refine p_step rfl (e_len rfl (by kernel_rfl)) trivial ?_
  refine p_step rfl (e_move (v := .sc _) rfl) trivial ?_
  refine p_end (hK3 _ ?_); clear hK3 K3
  refine pwp_seq_block fun K4 hK4 => ?_
  refine pwp_loopR (α := Nat × Int) [6, 7] (fun (a5 : Nat × Int) => [(3, .int (a5.2)), (8, .int (a5.1))]) (fun (a5 : Nat × Int) (h : Heap) (_ : Nat → Nat) => ((a5.1) ≤ xs.length) ∧ ((a5.2) = sumA (xs.take (a5.1))) ∧ (0 ≤ (a5.2) ∧ (a5.2) ≤ (a5.1) * 1000000000000000)) (fun (a5 : Nat × Int) => xs.length - (a5.1)) (0, 0) (by exact ⟨rfl, rfl, trivial⟩) (by exact ⟨by exact Nat.zero_le _, by exact rfl, by exact ⟨Int.le_refl _, Int.le_refl _⟩⟩) fun a5 r6 h7 c8 hj9 => ?_
  obtain ⟨k, acc⟩ := a5
  obtain ⟨hk, hacc, hb⟩ := hj9
  try dsimp only at hk
  try dsimp only at hacc
  try dsimp only at hb
  show pwp _ _ (loopQ _ _ _) ⟨sets (mix _ _ _) [(3, .int acc), (8, .int k)], _, _⟩
  refine pwp_seq_plain rfl fun K10 hK10 => ?_
  refine p_step rfl (e_lt rfl rfl) trivial ?_
  refine p_end (hK10 _ ?_); clear hK10 K10
  refine pwp_seq_cond rfl fun K11 hK11 => ⟨fun hb12 => ?_, fun hb12 => ?_⟩
  ·have hb12R := hb12; try simp only [z1, z2, z3, z4, z5, z6, ne_eq, z7, z8, z9, z10, z11, z12] at hb12
   obtain ⟨x, hx, hd, ht⟩ := get_lt (xs := xs) (i := k) (by omega)
   have hg : 0 ≤ x.amount ∧ x.amount ≤ 1000000000000000 := ha x (List.mem_of_getElem? hx)
   refine pwp_skip ?_
   refine seq_norm (hK11 _ ?_); clear hK11 K11
   refine pwp_seq_block fun K13 hK13 => ?_
   refine pwp_seq_plain rfl fun K14 hK14 => ?_
   refine p_step rfl (e_ixa rfl rfl (by kernel_rfl) (by kernel_rfl) (by simp only [List.length_map]; omega)) trivial ?_
   refine p_step rfl (e_loadA (n := 4) rfl (by kernel_rfl) (by kernel_rfl) (by kernel_rfl) (by simp only [List.length_map]; omega) (by decide) (by first | exact agg_map hx rfl)) trivial ?_
   refine p_new rfl (e_alloc (cs := [.str ByteArray.empty, .int 0, .int 0, .int 0]) (n := 4) (by kernel_rfl) rfl (by decide)) (ob_alloc (by decide)) ?_
   refine p_store rfl (e_storeA rfl (hset_self _ _ _) rfl rfl rfl (by kernel_rfl) rfl (by kernel_rfl)) trivial ?_
   refine p_end (hK14 _ ?_); clear hK14 K14
   refine pwp_plain rfl fun K15 hK15 => ?_
   refine p_step rfl (e_move (v := .sc _) rfl) trivial ?_
   refine p_step rfl (e_faP (pl := [(0, 1, false), (1, 1, false), (2, 1, false), (3, 1, false)]) rfl (by kernel_rfl) (by kernel_rfl) (by decide) rfl) trivial ?_
   refine p_step rfl (e_loadH (v := .sc _) rfl (hset_self _ _ _) (by kernel_rfl) (by kernel_rfl) (by kernel_rfl) (by exact Nat.zero_lt_one) (by decide) rfl) trivial ?_
   refine p_step rfl (e_add rfl rfl (by omega)) trivial ?_
   refine p_step rfl (e_assign (v := .sc _) rfl) trivial ?_
   refine p_end (hK15 _ ?_); clear hK15 K15
   refine block_norm ?_
   refine seq_norm (hK13 _ ?_); clear hK13 K13
   refine pwp_plain rfl fun K16 hK16 => ?_
   refine p_step rfl (e_add rfl rfl (by omega)) trivial ?_
   refine p_step rfl (e_move (v := .sc _) rfl) trivial ?_
   refine p_end (hK16 _ ?_); clear hK16 K16
   exact loop_again ((k + 1, acc + x.amount)) (by show _ < _; simp only; omega) ⟨rfl, rfl, trivial⟩ ⟨rfl, rfl, trivial⟩ (by exact ⟨by show _ + 1 ≤ _; omega, by show acc + x.amount = _; rw [sumA_take ht, hacc], by show 0 ≤ acc + x.amount ∧ acc + x.amount ≤ _; simp only; omega⟩)
  ·have hb12R := hb12; try simp only [z1, z2, z3, z4, z5, z6, ne_eq, z7, z8, z9, z10, z11, z12] at hb12
   obtain rfl : k = xs.length := by omega
   rw [List.take_length] at hacc
   refine pwp_exit ?_
   refine exit_seq ?_
   clear hK11 K11
   refine exit_loop ?_
   refine exit_here ?_
   refine seq_norm (hK4 _ ?_); clear hK4 K4
   refine pwp_seq_plain rfl fun K17 hK17 => ?_
   refine p_step rfl (e_move (v := .sc _) rfl) trivial ?_
   refine p_step rfl (e_assign (v := .sc _) rfl) trivial ?_
   refine p_end (hK17 _ ?_); clear hK17 K17
   refine pwp_ret ?_
   refine end1 (v := .sc _) rfl ?_
   exact out_i hacc

theorem fr31 : (inFrame Try.f31.ntmps (Try.f31.body.getD .skip) && Try.f31.results.toList.all (resScope Try.f31.ntmps)) = true := by kernel_rfl
theorem refTotal (xs : List Charge) (hn : xs.length ≤ 2000) (ha : ∀ x ∈ xs, goodA x) : PCalls Try.prog 31 [.lit true 4 (xs.map Charge.enc)] (.int (sumA xs)) := by
  refine PCalls.of_code Try.func31 rfl rfl (by kernel_rfl) mixed fr31 (by show _ ≤ 19; simp) (.sc _) ?_
  refine pwp_seq_plain rfl fun K1 hK1 => ?_
  refine p_step rfl (e_assign (v := .sc _) rfl) trivial ?_
  refine p_end (hK1 _ ?_); clear hK1 K1
  refine pwp_seq_plain rfl fun K2 hK2 => ?_
  refine p_step rfl (e_assign (v := .sc _) rfl) trivial ?_
  refine p_end (hK2 _ ?_); clear hK2 K2
  refine pwp_seq_seq ?_
  refine pwp_seq_plain rfl fun K3 hK3 => ?_
  refine p_step rfl (e_assign (v := .sc _) rfl) trivial ?_
  refine p_end (hK3 _ ?_); clear hK3 K3
  refine pwp_seq_block fun K4 hK4 => ?_
  refine pwp_loopR (α := Nat × Int) [0] (fun (a5 : Nat × Int) => [(3, .int (a5.2)), (4, .int (a5.1))]) (fun (a5 : Nat × Int) (h : Heap) (_ : Nat → Nat) => ((a5.1) ≤ xs.length) ∧ ((a5.2) = sumA (xs.take (a5.1))) ∧ (0 ≤ (a5.2) ∧ (a5.2) ≤ (a5.1) * 1000000000000000)) (fun (a5 : Nat × Int) => xs.length - (a5.1)) (0, 0) (by exact ⟨rfl, rfl, trivial⟩) (by exact ⟨by exact Nat.zero_le _, by exact rfl, by exact ⟨Int.le_refl _, Int.le_refl _⟩⟩) fun a5 r6 h7 c8 hj9 => ?_
  obtain ⟨k, acc⟩ := a5
  obtain ⟨hk, hacc, hb⟩ := hj9
  try dsimp only at hk
  try dsimp only at hacc
  try dsimp only at hb
  show pwp _ _ (loopQ _ _ _) ⟨sets (mix _ _ _) [(3, .int acc), (4, .int k)], _, _⟩
  refine pwp_seq_seq ?_
  refine pwp_seq_plain rfl fun K10 hK10 => ?_
  refine p_step rfl (e_move (v := .sc _) rfl) trivial ?_
  refine p_step rfl (e_move (v := .lit _ _ _) rfl) trivial ?_
  refine p_step rfl (e_len rfl (by kernel_rfl)) trivial ?_
  refine p_step rfl (e_lt rfl rfl) trivial ?_
  refine p_end (hK10 _ ?_); clear hK10 K10
  refine pwp_seq_cond rfl fun K11 hK11 => ⟨fun hb12 => ?_, fun hb12 => ?_⟩
  ·have hb12R := hb12; try simp only [z1, z2, z3, z4, z5, z6, ne_eq, z7, z8, z9, z10, z11, z12] at hb12
   obtain ⟨x, hx, hd, ht⟩ := get_lt (xs := xs) (i := k) (by omega)
   have hg : 0 ≤ x.amount ∧ x.amount ≤ 1000000000000000 := ha x (List.mem_of_getElem? hx)
   refine pwp_skip ?_
   refine seq_norm (hK11 _ ?_); clear hK11 K11
   refine pwp_seq_block fun K13 hK13 => ?_
   refine pwp_plain rfl fun K14 hK14 => ?_
   refine p_step rfl (e_move (v := .sc _) rfl) trivial ?_
   refine p_step rfl (e_move (v := .lit _ _ _) rfl) trivial ?_
   refine p_step rfl (e_move (v := .sc _) rfl) trivial ?_
   refine p_step rfl (e_ixa rfl rfl (by kernel_rfl) (by kernel_rfl) (by simp only [List.length_map]; omega)) trivial ?_
   refine p_step rfl (e_fa (pl := [(0, 1, false), (1, 1, false), (2, 1, false), (3, 1, false)]) rfl (by kernel_rfl) (by kernel_rfl) (by decide) rfl) trivial ?_
   refine p_step rfl (e_load (v := .sc _) rfl (by kernel_rfl) (by kernel_rfl) (by kernel_rfl) (by simp only [List.length_map]; omega) (by decide) ((cell_map hx _).trans rfl)) trivial ?_
   refine p_step rfl (e_add rfl rfl (by omega)) trivial ?_
   refine p_step rfl (e_assign (v := .sc _) rfl) trivial ?_
   refine p_end (hK14 _ ?_); clear hK14 K14
   refine block_norm ?_
   refine seq_norm (hK13 _ ?_); clear hK13 K13
   refine pwp_plain rfl fun K15 hK15 => ?_
   refine p_step rfl (e_move (v := .sc _) rfl) trivial ?_
   refine p_step rfl (e_add rfl rfl (by omega)) trivial ?_
   refine p_step rfl (e_assign (v := .sc _) rfl) trivial ?_
   refine p_end (hK15 _ ?_); clear hK15 K15
   exact loop_again ((k + 1, acc + x.amount)) (by show _ < _; simp only; omega) ⟨rfl, trivial⟩ ⟨rfl, rfl, trivial⟩ (by exact ⟨by show _ + 1 ≤ _; omega, by show acc + x.amount = _; rw [sumA_take ht, hacc], by show 0 ≤ acc + x.amount ∧ acc + x.amount ≤ _; simp only; omega⟩)
  ·have hb12R := hb12; try simp only [z1, z2, z3, z4, z5, z6, ne_eq, z7, z8, z9, z10, z11, z12] at hb12
   obtain rfl : k = xs.length := by omega
   rw [List.take_length] at hacc
   refine pwp_exit ?_
   refine exit_seq ?_
   clear hK11 K11
   refine exit_loop ?_
   refine exit_here ?_
   refine seq_norm (hK4 _ ?_); clear hK4 K4
   refine pwp_seq_plain rfl fun K16 hK16 => ?_
   refine p_step rfl (e_move (v := .sc _) rfl) trivial ?_
   refine p_step rfl (e_assign (v := .sc _) rfl) trivial ?_
   refine p_end (hK16 _ ?_); clear hK16 K16
   refine pwp_ret ?_
   refine end1 (v := .sc _) rfl ?_
   exact out_i hacc

theorem fr45 : (inFrame Try.f45.ntmps (Try.f45.body.getD .skip) && Try.f45.results.toList.all (resScope Try.f45.ntmps)) = true := by kernel_rfl
theorem Total (xs : List Charge) : PCalls Try.prog 45 [.lit true 4 (xs.map Charge.enc)] (.tup [.int (totalN xs), .int (totalE xs)]) := by
  refine PCalls.of_code Try.func45 rfl rfl (by kernel_rfl) mixed fr45 (by show _ ≤ 26; simp) (pure_2 pure_int pure_int) ?_
  refine pwp_seq_plain rfl fun K1 hK1 => ?_
  refine p_step rfl (e_assign (v := .sc _) rfl) trivial ?_
  refine p_step rfl (e_assign (v := .sc _) rfl) trivial ?_
  refine p_end (hK1 _ ?_); clear hK1 K1
  refine pwp_seq_seq ?_
  refine pwp_seq_plain rfl fun K2 hK2 => ?_
  refine p_step rfl (e_move (v := .lit _ _ _) rfl) trivial ?_
  refine p_step rfl (e_len rfl (by kernel_rfl)) trivial ?_
  refine p_step rfl (e_gt rfl rfl) trivial ?_
  refine p_end (hK2 _ ?_); clear hK2 K2
  refine pwp_seq_cond rfl fun K3 hK3 => ⟨fun hb4 => ?_, fun hb4 => ?_⟩
  ·have hb4R := hb4; try simp only [z1, z2, z3, z4, z5, z6, ne_eq, z7, z8, z9, z10, z11, z12] at hb4
   refine pwp_seq_plain rfl fun K5 hK5 => ?_
   refine p_step rfl (e_assign (v := .sc _) rfl) trivial ?_
   refine p_step rfl (e_assign (v := .sc _) rfl) trivial ?_
   refine p_end (hK5 _ ?_); clear hK5 K5
   refine pwp_ret ?_
   refine ret_seq ?_
   refine end2 (v := .sc _) (w := .sc _) rfl rfl ?_
   first
     | (have e := totalE_big (xs := xs) (by omega); exact out_2 (out_i (by simp [totalN, e])) (out_i e.symm))
     | (have e := totalE_bad (xs := xs) (by omega) hx (by unfold goodA; omega); exact out_2 (out_i (by simp [totalN, e])) (out_i e.symm))
     | (have e := totalE_ok (xs := xs) (by omega) (by assumption); exact out_2 (out_i (by simp [totalN, e])) (out_i e.symm))
  ·have hb4R := hb4; try simp only [z1, z2, z3, z4, z5, z6, ne_eq, z7, z8, z9, z10, z11, z12] at hb4
   refine pwp_skip ?_
   refine seq_norm (hK3 _ ?_); clear hK3 K3
   refine pwp_seq_seq ?_
   refine pwp_seq_plain rfl fun K6 hK6 => ?_
   refine p_step rfl (e_move (v := .lit _ _ _) rfl) trivial ?_
   refine p_step rfl (e_len rfl (by kernel_rfl)) trivial ?_
   refine p_step rfl (e_move (v := .sc _) rfl) trivial ?_
   refine p_end (hK6 _ ?_); clear hK6 K6
   refine pwp_seq_block fun K7 hK7 => ?_
   refine pwp_loopR (α := Nat) [0, 9, 10] (fun (k : Nat) => [(11, .int (k))]) (fun (k : Nat) (h : Heap) (_ : Nat → Nat) => ((k) ≤ xs.length) ∧ (∀ y ∈ xs.take (k), goodA y)) (fun (k : Nat) => xs.length - (k)) (0) (by exact ⟨rfl, trivial⟩) (by exact ⟨by exact Nat.zero_le _, by simp⟩) fun k r8 h9 c10 hj11 => ?_
   obtain ⟨hk, ha⟩ := hj11
   try dsimp only at hk
   try dsimp only at ha
   show pwp _ _ (loopQ _ _ _) ⟨sets (mix _ _ _) [(11, .int k)], _, _⟩
   refine pwp_seq_plain rfl fun K12 hK12 => ?_
   refine p_step rfl (e_lt rfl rfl) trivial ?_
   refine p_end (hK12 _ ?_); clear hK12 K12
   refine pwp_seq_cond rfl fun K13 hK13 => ⟨fun hb14 => ?_, fun hb14 => ?_⟩
   ·have hb14R := hb14; try simp only [z1, z2, z3, z4, z5, z6, ne_eq, z7, z8, z9, z10, z11, z12] at hb14
    obtain ⟨x, hx, hd, ht⟩ := get_lt (xs := xs) (i := k) (by omega)
    refine pwp_skip ?_
    refine seq_norm (hK13 _ ?_); clear hK13 K13
    refine pwp_seq_block fun K15 hK15 => ?_
    refine pwp_seq_plain rfl fun K16 hK16 => ?_
    refine p_step rfl (e_ixa rfl rfl (by kernel_rfl) (by kernel_rfl) (by simp only [List.length_map]; omega)) trivial ?_
    refine p_step rfl (e_loadA (n := 4) rfl (by kernel_rfl) (by kernel_rfl) (by kernel_rfl) (by simp only [List.length_map]; omega) (by decide) (by first | exact agg_map hx rfl)) trivial ?_
    refine p_new rfl (e_alloc (cs := [.str ByteArray.empty, .int 0, .int 0, .int 0]) (n := 4) (by kernel_rfl) rfl (by decide)) (ob_alloc (by decide)) ?_
    refine p_store rfl (e_storeA rfl (hset_self _ _ _) rfl rfl rfl (by kernel_rfl) rfl (by kernel_rfl)) trivial ?_
    refine p_end (hK16 _ ?_); clear hK16 K16
    refine pwp_seq_gops rfl fun K17 hK17 => ?_
    refine g_begin ?_
    refine g_step rfl rfl rfl rfl (e_faP (pl := [(0, 1, false), (1, 1, false), (2, 1, false), (3, 1, false)]) rfl (by kernel_rfl) (by kernel_rfl) (by decide) rfl) trivial ?_
    refine g_step rfl rfl rfl rfl (e_loadH (v := .sc _) rfl (hset_self _ _ _) (by kernel_rfl) (by kernel_rfl) (by kernel_rfl) (by exact Nat.zero_lt_one) (by decide) rfl) trivial ?_
    refine g_step rfl rfl rfl rfl (e_lt rfl rfl) trivial ?_
    refine g_step rfl rfl rfl rfl (e_move (v := .sc _) rfl) trivial ?_
    refine g_cases (fun hb18 => ?_) (fun hb18 => ?_)
    ·have hb18R := hb18; try simp only [z1, z2, z3, z4, z5, z6, ne_eq, z7, z8, z9, z10, z11, z12] at hb18
     refine g_skip rfl rfl rfl ?_
     refine g_skip rfl rfl rfl ?_
     refine g_skip rfl rfl rfl ?_
     refine g_step rfl rfl rfl rfl (e_pickT (v := .sc _) rfl rfl) trivial ?_
     refine g_end (ds := [19, 20, 21]) rfl rfl (hK17 _ ?_); clear hK17 K17
     refine pwp_cond (t := true) rfl (fun _ => ?_) nofun
     refine pwp_seq_plain rfl fun K19 hK19 => ?_
     refine p_step rfl (e_assign (v := .sc _) rfl) trivial ?_
     refine p_step rfl (e_assign (v := .sc _) rfl) trivial ?_
     refine p_end (hK19 _ ?_); clear hK19 K19
     refine pwp_ret ?_
     refine ret_block ?_
     refine ret_seq ?_
     refine ret_loop ?_
     refine ret_block ?_
     refine ret_seq ?_
     refine end2 (v := .sc _) (w := .sc _) rfl rfl ?_
     first
       | (have e := totalE_big (xs := xs) (by omega); exact out_2 (out_i (by simp [totalN, e])) (out_i e.symm))
       | (have e := totalE_bad (xs := xs) (by omega) hx (by unfold goodA; omega); exact out_2 (out_i (by simp [totalN, e])) (out_i e.symm))
       | (have e := totalE_ok (xs := xs) (by omega) (by assumption); exact out_2 (out_i (by simp [totalN, e])) (out_i e.symm))
    ·have hb18R := hb18; try simp only [z1, z2, z3, z4, z5, z6, ne_eq, z7, z8, z9, z10, z11, z12] at hb18
     refine g_step rfl rfl rfl rfl (e_faP (pl := [(0, 1, false), (1, 1, false), (2, 1, false), (3, 1, false)]) rfl (by kernel_rfl) (by kernel_rfl) (by decide) rfl) trivial ?_
     refine g_step rfl rfl rfl rfl (e_loadH (v := .sc _) rfl (hset_self _ _ _) (by kernel_rfl) (by kernel_rfl) (by kernel_rfl) (by exact Nat.zero_lt_one) (by decide) rfl) trivial ?_
     refine g_step rfl rfl rfl rfl (e_gt rfl rfl) trivial ?_
     refine g_step rfl rfl rfl rfl (e_pickF (v := .sc _) rfl rfl) trivial ?_
     refine g_end (ds := [19, 20, 21]) rfl rfl (hK17 _ ?_); clear hK17 K17
     refine pwp_cond rfl (fun hb20 => ?_) (fun hb20 => ?_)
     ·have hb20R := hb20; try simp only [z1, z2, z3, z4, z5, z6, ne_eq, z7, z8, z9, z10, z11, z12] at hb20
      refine pwp_seq_plain rfl fun K21 hK21 => ?_
      refine p_step rfl (e_assign (v := .sc _) rfl) trivial ?_
      refine p_step rfl (e_assign (v := .sc _) rfl) trivial ?_
      refine p_end (hK21 _ ?_); clear hK21 K21
      refine pwp_ret ?_
      refine ret_block ?_
      refine ret_seq ?_
      refine ret_loop ?_
      refine ret_block ?_
      refine ret_seq ?_
      refine end2 (v := .sc _) (w := .sc _) rfl rfl ?_
      first
        | (have e := totalE_big (xs := xs) (by omega); exact out_2 (out_i (by simp [totalN, e])) (out_i e.symm))
        | (have e := totalE_bad (xs := xs) (by omega) hx (by unfold goodA; omega); exact out_2 (out_i (by simp [totalN, e])) (out_i e.symm))
        | (have e := totalE_ok (xs := xs) (by omega) (by assumption); exact out_2 (out_i (by simp [totalN, e])) (out_i e.symm))
     ·have hb20R := hb20; try simp only [z1, z2, z3, z4, z5, z6, ne_eq, z7, z8, z9, z10, z11, z12] at hb20
      refine pwp_skip ?_
      refine block_norm ?_
      refine seq_norm (hK15 _ ?_); clear hK15 K15
      refine pwp_plain rfl fun K22 hK22 => ?_
      refine p_step rfl (e_add rfl rfl (by omega)) trivial ?_
      refine p_step rfl (e_move (v := .sc _) rfl) trivial ?_
      refine p_end (hK22 _ ?_); clear hK22 K22
      exact loop_again (k + 1) (by show _ < _; omega) ⟨rfl, rfl, rfl, trivial⟩ ⟨rfl, trivial⟩ (by exact ⟨by show _ + 1 ≤ _; omega, by exact all_take ha (by unfold goodA; omega) ht⟩)
   ·have hb14R := hb14; try simp only [z1, z2, z3, z4, z5, z6, ne_eq, z7, z8, z9, z10, z11, z12] at hb14
    obtain rfl : k = xs.length := by omega
    rw [List.take_length] at ha
    refine pwp_exit ?_
    refine exit_seq ?_
    clear hK13 K13
    refine exit_loop ?_
    refine exit_here ?_
    refine seq_norm (hK7 _ ?_); clear hK7 K7
    refine pwp_seq_plain rfl fun K23 hK23 => ?_
    refine p_step rfl (e_move (v := .lit _ _ _) rfl) trivial ?_
    refine p_call rfl (.cons inn_lit .nil) (total _ (by omega) (by assumption)) ?_
    refine p_step rfl (e_assign (v := .sc _) rfl) trivial ?_
    refine p_step rfl (e_assign (v := .sc _) rfl) trivial ?_
    refine p_end (hK23 _ ?_); clear hK23 K23
    refine pwp_ret ?_
    refine end2 (v := .sc _) (w := .sc _) rfl rfl ?_
    first
      | (have e := totalE_big (xs := xs) (by omega); exact out_2 (out_i (by simp [totalN, e])) (out_i e.symm))
      | (have e := totalE_bad (xs := xs) (by omega) hx (by unfold goodA; omega); exact out_2 (out_i (by simp [totalN, e])) (out_i e.symm))
      | (have e := totalE_ok (xs := xs) (by omega) (by assumption); exact out_2 (out_i (by simp [totalN, e])) (out_i e.symm))

theorem fr46 : (inFrame Try.f46.ntmps (Try.f46.body.getD .skip) && Try.f46.results.toList.all (resScope Try.f46.ntmps)) = true := by kernel_rfl
theorem CheckTotal (xs : List Charge) : PCalls Try.prog 46 [.lit true 4 (xs.map Charge.enc)] (.int (totalE xs)) := by
  refine PCalls.of_code Try.func46 rfl rfl (by kernel_rfl) mixed fr46 (by show _ ≤ 20; simp) (.sc _) ?_
  refine pwp_seq_plain rfl fun K1 hK1 => ?_
  refine p_step rfl (e_assign (v := .sc _) rfl) trivial ?_
  refine p_end (hK1 _ ?_); clear hK1 K1
  refine pwp_seq_seq ?_
  refine pwp_seq_plain rfl fun K2 hK2 => ?_
  refine p_step rfl (e_move (v := .lit _ _ _) rfl) trivial ?_
  refine p_step rfl (e_len rfl (by kernel_rfl)) trivial ?_
  refine p_step rfl (e_gt rfl rfl) trivial ?_
  refine p_end (hK2 _ ?_); clear hK2 K2
  refine pwp_seq_cond rfl fun K3 hK3 => ⟨fun hb4 => ?_, fun hb4 => ?_⟩
  ·have hb4R := hb4; try simp only [z1, z2, z3, z4, z5, z6, ne_eq, z7, z8, z9, z10, z11, z12] at hb4
   refine pwp_seq_plain rfl fun K5 hK5 => ?_
   refine p_step rfl (e_assign (v := .sc _) rfl) trivial ?_
   refine p_end (hK5 _ ?_); clear hK5 K5
   refine pwp_ret ?_
   refine ret_seq ?_
   refine end1 (v := .sc _) rfl ?_
   first
     | (have e := totalE_big (xs := xs) (by omega); exact out_i e.symm)
     | (have e := totalE_bad (xs := xs) (by omega) hx (by unfold goodA; omega); exact out_i e.symm)
     | (have e := totalE_ok (xs := xs) (by omega) (by assumption); exact out_i e.symm)
  ·have hb4R := hb4; try simp only [z1, z2, z3, z4, z5, z6, ne_eq, z7, z8, z9, z10, z11, z12] at hb4
   refine pwp_skip ?_
   refine seq_norm (hK3 _ ?_); clear hK3 K3
   refine pwp_seq_seq ?_
   refine pwp_seq_plain rfl fun K6 hK6 => ?_
   refine p_step rfl (e_assign (v := .sc _) rfl) trivial ?_
   refine p_end (hK6 _ ?_); clear hK6 K6
   refine pwp_seq_block fun K7 hK7 => ?_
   refine pwp_loopR (α := Nat) [0] (fun (k : Nat) => [(3, .int (k))]) (fun (k : Nat) (h : Heap) (_ : Nat → Nat) => ((k) ≤ xs.length) ∧ (∀ y ∈ xs.take (k), goodA y)) (fun (k : Nat) => xs.length - (k)) (0) (by exact ⟨rfl, trivial⟩) (by exact ⟨by exact Nat.zero_le _, by simp⟩) fun k r8 h9 c10 hj11 => ?_
   obtain ⟨hk, ha⟩ := hj11
   try dsimp only at hk
   try dsimp only at ha
   show pwp _ _ (loopQ _ _ _) ⟨sets (mix _ _ _) [(3, .int k)], _, _⟩
   refine pwp_seq_seq ?_
   refine pwp_seq_plain rfl fun K12 hK12 => ?_
   refine p_step rfl (e_move (v := .sc _) rfl) trivial ?_
   refine p_step rfl (e_move (v := .lit _ _ _) rfl) trivial ?_
   refine p_step rfl (e_len rfl (by kernel_rfl)) trivial ?_
   refine p_step rfl (e_lt rfl rfl) trivial ?_
   refine p_end (hK12 _ ?_); clear hK12 K12
   refine pwp_seq_cond rfl fun K13 hK13 => ⟨fun hb14 => ?_, fun hb14 => ?_⟩
   ·have hb14R := hb14; try simp only [z1, z2, z3, z4, z5, z6, ne_eq, z7, z8, z9, z10, z11, z12] at hb14
    obtain ⟨x, hx, hd, ht⟩ := get_lt (xs := xs) (i := k) (by omega)
    refine pwp_skip ?_
    refine seq_norm (hK13 _ ?_); clear hK13 K13
    refine pwp_seq_block fun K15 hK15 => ?_
    refine pwp_seq_plain rfl fun K16 hK16 => ?_
    refine p_step rfl (e_move (v := .lit _ _ _) rfl) trivial ?_
    refine p_step rfl (e_move (v := .sc _) rfl) trivial ?_
    refine p_step rfl (e_ixa rfl rfl (by kernel_rfl) (by kernel_rfl) (by simp only [List.length_map]; omega)) trivial ?_
    refine p_step rfl (e_fa (pl := [(0, 1, false), (1, 1, false), (2, 1, false), (3, 1, false)]) rfl (by kernel_rfl) (by kernel_rfl) (by decide) rfl) trivial ?_
    refine p_step rfl (e_load (v := .sc _) rfl (by kernel_rfl) (by kernel_rfl) (by kernel_rfl) (by simp only [List.length_map]; omega) (by decide) ((cell_map hx _).trans rfl)) trivial ?_
    refine p_call rfl (.cons inn_sc (.cons inn_sc (.cons inn_sc .nil))) (Within _ _ _) ?_
    refine p_step rfl (e_not rfl) trivial ?_
    refine p_end (hK16 _ ?_); clear hK16 K16
    refine pwp_cond rfl (fun hb17 => ?_) (fun hb17 => ?_)
    ·have hb17R := hb17; try simp only [z1, z2, z3, z4, z5, z6, ne_eq, z7, z8, z9, z10, z11, z12] at hb17
     refine pwp_seq_plain rfl fun K18 hK18 => ?_
     refine p_step rfl (e_assign (v := .sc _) rfl) trivial ?_
     refine p_end (hK18 _ ?_); clear hK18 K18
     refine pwp_ret ?_
     refine ret_block ?_
     refine ret_seq ?_
     refine ret_loop ?_
     refine ret_block ?_
     refine ret_seq ?_
     refine end1 (v := .sc _) rfl ?_
     first
       | (have e := totalE_big (xs := xs) (by omega); exact out_i e.symm)
       | (have e := totalE_bad (xs := xs) (by omega) hx (by unfold goodA; omega); exact out_i e.symm)
       | (have e := totalE_ok (xs := xs) (by omega) (by assumption); exact out_i e.symm)
    ·have hb17R := hb17; try simp only [z1, z2, z3, z4, z5, z6, ne_eq, z7, z8, z9, z10, z11, z12] at hb17
     refine pwp_skip ?_
     refine block_norm ?_
     refine seq_norm (hK15 _ ?_); clear hK15 K15
     refine pwp_plain rfl fun K19 hK19 => ?_
     refine p_step rfl (e_move (v := .sc _) rfl) trivial ?_
     refine p_step rfl (e_add rfl rfl (by omega)) trivial ?_
     refine p_step rfl (e_assign (v := .sc _) rfl) trivial ?_
     refine p_end (hK19 _ ?_); clear hK19 K19
     exact loop_again (k + 1) (by show _ < _; omega) ⟨rfl, trivial⟩ ⟨rfl, trivial⟩ (by exact ⟨by show _ + 1 ≤ _; omega, by exact all_take ha (by unfold goodA; omega) ht⟩)
   ·have hb14R := hb14; try simp only [z1, z2, z3, z4, z5, z6, ne_eq, z7, z8, z9, z10, z11, z12] at hb14
    obtain rfl : k = xs.length := by omega
    rw [List.take_length] at ha
    refine pwp_exit ?_
    refine exit_seq ?_
    clear hK13 K13
    refine exit_loop ?_
    refine exit_here ?_
    refine seq_norm (hK7 _ ?_); clear hK7 K7
    refine pwp_seq_plain rfl fun K20 hK20 => ?_
    refine p_step rfl (e_assign (v := .sc _) rfl) trivial ?_
    refine p_end (hK20 _ ?_); clear hK20 K20
    refine pwp_ret ?_
    refine end1 (v := .sc _) rfl ?_
    first
      | (have e := totalE_big (xs := xs) (by omega); exact out_i e.symm)
      | (have e := totalE_bad (xs := xs) (by omega) hx (by unfold goodA; omega); exact out_i e.symm)
      | (have e := totalE_ok (xs := xs) (by omega) (by assumption); exact out_i e.symm)

theorem totalE_cases (xs : List Charge) : (totalE xs = 0 ∧ xs.length ≤ 2000 ∧ (∀ x ∈ xs, goodA x) ∧ totalN xs = sumA xs) ∨ (totalE xs ≠ 0 ∧ totalN xs = 0) := by
  unfold totalN
  by_cases h : totalE xs = 0
  · left
    rw [if_pos h]
    unfold totalE at h
    split at h
    · cases h
    · split at h
      · exact ⟨by rw [totalE_ok (by omega) (by assumption)], by omega, by assumption, rfl⟩
      · cases h
  · right; exact ⟨h, if_neg h⟩
theorem totalE_arith (xs : List Charge) : (totalE xs = 0 ∧ totalN xs = sumA xs) ∨ (totalE xs ≠ 0 ∧ totalN xs = 0) := by
  rcases totalE_cases xs with h1 | h1
  · exact .inl ⟨h1.1, h1.2.2.2⟩
  · exact .inr h1
theorem law_zero {xs : List Charge} (h : totalE xs = 0) : xs.length ≤ 2000 ∧ (∀ x ∈ xs, goodA x) ∧ totalN xs = sumA xs := by
  rcases totalE_cases xs with h1 | h1
  · exact h1.2
  · exact absurd h h1.1

theorem fr8 : (inFrame Try.f8.ntmps (Try.f8.body.getD .skip) && Try.f8.results.toList.all (resScope Try.f8.ntmps)) = true := by kernel_rfl
theorem totals (xs : List Charge) : PCalls Try.prog 8 [.lit true 4 (xs.map Charge.enc)] (.bool true) := by
  refine PCalls.of_code Try.func8 rfl rfl (by kernel_rfl) mixed fr8 (by show _ ≤ 47; simp) (.sc _) ?_
  have hcase := totalE_arith xs
  refine pwp_seq_plain rfl fun K1 hK1 => ?_
  refine p_step rfl (e_assign (v := .sc _) rfl) trivial ?_
  refine p_end (hK1 _ ?_); clear hK1 K1
  refine pwp_seq_seq ?_
  refine pwp_seq_plain rfl fun K2 hK2 => ?_
  refine p_call rfl .nil (awake) ?_
  refine p_step rfl (e_not rfl) trivial ?_
  refine p_end (hK2 _ ?_); clear hK2 K2
  refine pwp_seq_cond (t := false) rfl fun K3 hK3 => ⟨nofun, fun _ => ?_⟩
  refine pwp_skip ?_
  refine seq_norm (hK3 _ ?_); clear hK3 K3
  refine pwp_seq_seq ?_
  refine pwp_seq_cutG [0] [(20, .bool (((decide ((100) < ((((xs).map Charge.enc).length : Nat) : Int))) && (decide (((((xs).map Charge.enc).length : Nat) : Int) ≤ (2000)))) || (decide ((2005) < ((((xs).map Charge.enc).length : Nat) : Int)))))] (fun K4 hK4 => ?_) (fun r5 => ?_)
  ·skip
   refine pwp_gops rfl fun K6 hK6 => ?_
   refine g_begin ?_
   refine g_step rfl rfl rfl rfl (e_move (v := .lit _ _ _) rfl) trivial ?_
   refine g_step rfl rfl rfl rfl (e_len rfl (by kernel_rfl)) trivial ?_
   refine g_step rfl rfl rfl rfl (e_gt rfl rfl) trivial ?_
   refine g_step rfl rfl rfl rfl (e_move (v := .sc _) rfl) trivial ?_
   refine g_cases (fun hb7 => ?_) (fun hb7 => ?_)
   ·have hb7R := hb7; try simp only [z1, z2, z3, z4, z5, z6, ne_eq, z7, z8, z9, z10, z11, z12] at hb7
    refine g_step rfl rfl rfl rfl (e_move (v := .lit _ _ _) rfl) trivial ?_
    refine g_step rfl rfl rfl rfl (e_len rfl (by kernel_rfl)) trivial ?_
    refine g_step rfl rfl rfl rfl (e_le rfl rfl) trivial ?_
    refine g_step rfl rfl rfl rfl (e_pickT (v := .sc _) rfl rfl) trivial ?_
    refine g_step rfl rfl rfl rfl (e_move (v := .sc _) rfl) trivial ?_
    refine g_cases (fun hb8 => ?_) (fun hb8 => ?_)
    ·have hb8R := hb8; try simp only [z1, z2, z3, z4, z5, z6, ne_eq, z7, z8, z9, z10, z11, z12] at hb8
     refine g_skip rfl rfl rfl ?_
     refine g_skip rfl rfl rfl ?_
     refine g_skip rfl rfl rfl ?_
     refine g_step rfl rfl rfl rfl (e_pickT (v := .sc _) rfl rfl) trivial ?_
     refine g_end (ds := [12, 13, 14, 17, 18, 19]) rfl rfl (hK6 _ ?_); clear hK6 K6
     exact seq_norm (hK4 _ ⟨rfl, trivial⟩ ⟨(congrArg PV.bool (show (true : Bool) = (((decide ((100) < ((((xs).map Charge.enc).length : Nat) : Int))) && (decide (((((xs).map Charge.enc).length : Nat) : Int) ≤ (2000)))) || (decide ((2005) < ((((xs).map Charge.enc).length : Nat) : Int)))) by first | rfl | ((try rw [hb8R]) <;> (try rw [hb7R]) <;> (first | rfl | (simp only [Bool.and_true, Bool.and_false, Bool.true_and, Bool.false_and, Bool.or_true, Bool.or_false, Bool.true_or, Bool.false_or, Bool.not_true, Bool.not_false, if_true, if_false, Bool.false_eq_true, reduceIte] <;> rfl))) | (simp only [hb7R, hb8R, Bool.and_true, Bool.and_false, Bool.true_and, Bool.false_and, Bool.or_true, Bool.or_false, Bool.true_or, Bool.false_or, Bool.not_true, Bool.not_false, if_true, if_false, Bool.false_eq_true, reduceIte] <;> rfl))), trivial⟩)
    ·have hb8R := hb8; try simp only [z1, z2, z3, z4, z5, z6, ne_eq, z7, z8, z9, z10, z11, z12] at hb8
     refine g_step rfl rfl rfl rfl (e_move (v := .lit _ _ _) rfl) trivial ?_
     refine g_step rfl rfl rfl rfl (e_len rfl (by kernel_rfl)) trivial ?_
     refine g_step rfl rfl rfl rfl (e_gt rfl rfl) trivial ?_
     refine g_step rfl rfl rfl rfl (e_pickF (v := .sc _) rfl rfl) trivial ?_
     refine g_end (ds := [12, 13, 14, 17, 18, 19]) rfl rfl (hK6 _ ?_); clear hK6 K6
     exact seq_norm (hK4 _ ⟨rfl, trivial⟩ ⟨(congrArg PV.bool (show ((decide ((2005) < ((((xs).map Charge.enc).length : Nat) : Int))) : Bool) = (((decide ((100) < ((((xs).map Charge.enc).length : Nat) : Int))) && (decide (((((xs).map Charge.enc).length : Nat) : Int) ≤ (2000)))) || (decide ((2005) < ((((xs).map Charge.enc).length : Nat) : Int)))) by first | rfl | ((try rw [hb8R]) <;> (try rw [hb7R]) <;> (first | rfl | (simp only [Bool.and_true, Bool.and_false, Bool.true_and, Bool.false_and, Bool.or_true, Bool.or_false, Bool.true_or, Bool.false_or, Bool.not_true, Bool.not_false, if_true, if_false, Bool.false_eq_true, reduceIte] <;> rfl))) | (simp only [hb7R, hb8R, Bool.and_true, Bool.and_false, Bool.true_and, Bool.false_and, Bool.or_true, Bool.or_false, Bool.true_or, Bool.false_or, Bool.not_true, Bool.not_false, if_true, if_false, Bool.false_eq_true, reduceIte] <;> rfl))), trivial⟩)
   ·have hb7R := hb7; try simp only [z1, z2, z3, z4, z5, z6, ne_eq, z7, z8, z9, z10, z11, z12] at hb7
    refine g_skip rfl rfl rfl ?_
    refine g_skip rfl rfl rfl ?_
    refine g_skip rfl rfl rfl ?_
    refine g_step rfl rfl rfl rfl (e_pickF (v := .sc _) rfl rfl) trivial ?_
    refine g_step rfl rfl rfl rfl (e_move (v := .sc _) rfl) trivial ?_
    refine g_step rfl rfl rfl rfl (e_move (v := .lit _ _ _) rfl) trivial ?_
    refine g_step rfl rfl rfl rfl (e_len rfl (by kernel_rfl)) trivial ?_
    refine g_step rfl rfl rfl rfl (e_gt rfl rfl) trivial ?_
    refine g_step rfl rfl rfl rfl (e_pickF (v := .sc _) rfl rfl) trivial ?_
    refine g_end (ds := [12, 13, 14, 17, 18, 19]) rfl rfl (hK6 _ ?_); clear hK6 K6
    exact seq_norm (hK4 _ ⟨rfl, trivial⟩ ⟨(congrArg PV.bool (show ((decide ((2005) < ((((xs).map Charge.enc).length : Nat) : Int))) : Bool) = (((decide ((100) < ((((xs).map Charge.enc).length : Nat) : Int))) && (decide (((((xs).map Charge.enc).length : Nat) : Int) ≤ (2000)))) || (decide ((2005) < ((((xs).map Charge.enc).length : Nat) : Int)))) by first | rfl | ((try rw [hb7R]) <;> (first | rfl | (simp only [Bool.and_true, Bool.and_false, Bool.true_and, Bool.false_and, Bool.or_true, Bool.or_false, Bool.true_or, Bool.false_or, Bool.not_true, Bool.not_false, if_true, if_false, Bool.false_eq_true, reduceIte] <;> rfl))) | (simp only [hb7R, Bool.and_true, Bool.and_false, Bool.true_and, Bool.false_and, Bool.or_true, Bool.or_false, Bool.true_or, Bool.false_or, Bool.not_true, Bool.not_false, if_true, if_false, Bool.false_eq_true, reduceIte] <;> rfl))), trivial⟩)
  ·skip
   refine pwp_seq_cond rfl fun K9 hK9 => ⟨fun hb10 => ?_, fun hb10 => ?_⟩
   ·have hb10R := hb10; try simp only [z1, z2, z3, z4, z5, z6, ne_eq, z7, z8, z9, z10, z11, z12] at hb10
    refine pwp_seq_plain rfl fun K11 hK11 => ?_
    refine p_step rfl (e_assign (v := .sc _) rfl) trivial ?_
    refine p_end (hK11 _ ?_); clear hK11 K11
    refine pwp_ret ?_
    refine ret_seq ?_
    refine end1 (v := .sc _) rfl ?_
    exact out_b (by first | rfl | (rw [Bool.eq_iff_iff]; simp only [decide_eq_true_eq, Bool.false_eq_true, eq_self_iff_true, true_iff, false_iff, iff_true, iff_false]; omega) | (exfalso; revert hcase; simp_all))
   ·have hb10R := hb10; try simp only [z1, z2, z3, z4, z5, z6, ne_eq, z7, z8, z9, z10, z11, z12] at hb10
    refine pwp_skip ?_
    refine seq_norm (hK9 _ ?_); clear hK9 K9
    refine pwp_seq_plain rfl fun K12 hK12 => ?_
    refine p_new rfl (e_bslice (rows := []) (zs := [.str ByteArray.empty, .int 0, .int 0, .int 0]) (sz := 4) (by kernel_rfl) (by kernel_rfl) rfl (by kernel_rfl) (by decide) rfl rfl (by exact trivial) rfl) trivial ?_
    refine p_step rfl (e_move (v := .lit _ _ _) rfl) trivial ?_
    refine p_app rfl rfl rfl (.ofRef (hset_self _ _ _) rfl) src_lit (by kernel_rfl) (by simp only [List.length_map, List.length_nil]; omega) fun v13 h14 c15 hs16 hf17 => ?_
    refine p_call rfl (.cons (SliceAt.inn (rows' := (xs).map Charge.enc) hs16 (by simp) (by exact pure_map Charge.pure)) .nil) (Total _) ?_
    refine p_step rfl (e_move (v := .tup _) rfl) trivial ?_
    refine p_step rfl (e_ext (v := .sc _) rfl (by simp) rfl) trivial ?_
    refine p_step rfl (e_ext (v := .sc _) rfl (by simp) rfl) trivial ?_
    refine p_step rfl (e_assign (v := .sc _) rfl) trivial ?_
    refine p_step rfl (e_assign (v := .sc _) rfl) trivial ?_
    refine p_end (hK12 _ ?_); clear hK12 K12
    refine pwp_seq_seq ?_
    refine pwp_seq_plain rfl fun K18 hK18 => ?_
    refine p_step rfl (e_move (v := .lit _ _ _) rfl) trivial ?_
    refine p_call rfl (.cons inn_lit .nil) (CheckTotal _) ?_
    refine p_step rfl (e_assign (v := .sc _) rfl) trivial ?_
    refine p_end (hK18 _ ?_); clear hK18 K18
    refine pwp_seq_seq ?_
    refine pwp_seq_plain rfl fun K19 hK19 => ?_
    refine p_step rfl (e_move (v := .sc _) rfl) trivial ?_
    refine p_step rfl (e_ne rfl rfl) trivial ?_
    refine p_end (hK19 _ ?_); clear hK19 K19
    refine pwp_seq_cond rfl fun K20 hK20 => ⟨fun hb21 => ?_, fun hb21 => ?_⟩
    ·have hb21R := hb21; try simp only [z1, z2, z3, z4, z5, z6, ne_eq, z7, z8, z9, z10, z11, z12] at hb21
     refine pwp_seq_gops rfl fun K22 hK22 => ?_
     refine g_begin ?_
     refine g_step rfl rfl rfl rfl (e_move (v := .sc _) rfl) trivial ?_
     refine g_step rfl rfl rfl rfl (e_move (v := .sc _) rfl) trivial ?_
     refine g_step rfl rfl rfl rfl (e_eq rfl rfl) trivial ?_
     refine g_step rfl rfl rfl rfl (e_move (v := .sc _) rfl) trivial ?_
     refine g_cases (fun hb23 => ?_) (fun hb23 => ?_)
     ·have hb23R := hb23; try simp only [z1, z2, z3, z4, z5, z6, ne_eq, z7, z8, z9, z10, z11, z12] at hb23
      refine g_step rfl rfl rfl rfl (e_move (v := .sc _) rfl) trivial ?_
      refine g_step rfl rfl rfl rfl (e_eq rfl rfl) trivial ?_
      refine g_step rfl rfl rfl rfl (e_pickT (v := .sc _) rfl rfl) trivial ?_
      refine g_step rfl rfl rfl rfl (e_assign (v := .sc _) rfl) trivial ?_
      refine g_end (ds := [36, 37]) rfl rfl (hK22 _ ?_); clear hK22 K22
      refine pwp_ret ?_
      refine ret_seq ?_
      refine end1 (v := .sc _) rfl ?_
      exact out_b (by first | rfl | (rw [Bool.eq_iff_iff]; simp only [decide_eq_true_eq, Bool.false_eq_true, eq_self_iff_true, true_iff, false_iff, iff_true, iff_false]; omega) | (exfalso; revert hcase; simp_all))
     ·have hb23R := hb23; try simp only [z1, z2, z3, z4, z5, z6, ne_eq, z7, z8, z9, z10, z11, z12] at hb23
      refine g_skip rfl rfl rfl ?_
      refine g_skip rfl rfl rfl ?_
      refine g_step rfl rfl rfl rfl (e_pickF (v := .sc _) rfl rfl) trivial ?_
      refine g_step rfl rfl rfl rfl (e_assign (v := .sc _) rfl) trivial ?_
      refine g_end (ds := [36, 37]) rfl rfl (hK22 _ ?_); clear hK22 K22
      refine pwp_ret ?_
      refine ret_seq ?_
      refine end1 (v := .sc _) rfl ?_
      exact out_b (by first | rfl | (rw [Bool.eq_iff_iff]; simp only [decide_eq_true_eq, Bool.false_eq_true, eq_self_iff_true, true_iff, false_iff, iff_true, iff_false]; omega) | (exfalso; revert hcase; simp_all))
    ·have hb21R := hb21; try simp only [z1, z2, z3, z4, z5, z6, ne_eq, z7, z8, z9, z10, z11, z12] at hb21
     refine pwp_skip ?_
     refine seq_norm (hK20 _ ?_); clear hK20 K20
     refine pwp_seq_gops rfl fun K24 hK24 => ?_
     refine g_begin ?_
     refine g_step rfl rfl rfl rfl (e_move (v := .sc _) rfl) trivial ?_
     refine g_step rfl rfl rfl rfl (e_eq rfl rfl) trivial ?_
     refine g_step rfl rfl rfl rfl (e_move (v := .sc _) rfl) trivial ?_
     refine g_cases (fun hb25 => ?_) (fun hb25 => ?_)
     ·have hb25R := hb25; try simp only [z1, z2, z3, z4, z5, z6, ne_eq, z7, z8, z9, z10, z11, z12] at hb25
      refine g_step rfl rfl rfl rfl (e_move (v := .sc _) rfl) trivial ?_
      refine g_step rfl rfl rfl rfl (e_move (v := .lit _ _ _) rfl) trivial ?_
      refine g_call rfl rfl rfl rfl (.cons inn_lit .nil) (refTotal _ (law_zero (by omega)).1 (law_zero (by omega)).2.1) ?_
      refine g_step rfl rfl rfl rfl (e_eq rfl rfl) trivial ?_
      refine g_step rfl rfl rfl rfl (e_pickT (v := .sc _) rfl rfl) trivial ?_
      refine g_step rfl rfl rfl rfl (e_assign (v := .sc _) rfl) trivial ?_
      refine g_end (ds := [42, 43, 44, 45]) rfl rfl (hK24 _ ?_); clear hK24 K24
      refine pwp_ret ?_
      refine end1 (v := .sc _) rfl ?_
      exact out_b (by first | rfl | (rw [Bool.eq_iff_iff]; simp only [decide_eq_true_eq, Bool.false_eq_true, eq_self_iff_true, true_iff, false_iff, iff_true, iff_false]; omega) | (exfalso; revert hcase; simp_all))
     ·have hb25R := hb25; try simp only [z1, z2, z3, z4, z5, z6, ne_eq, z7, z8, z9, z10, z11, z12] at hb25
      refine g_skip rfl rfl rfl ?_
      refine g_skip rfl rfl rfl ?_
      refine g_nocall rfl rfl rfl ?_
      refine g_skip rfl rfl rfl ?_
      refine g_step rfl rfl rfl rfl (e_pickF (v := .sc _) rfl rfl) trivial ?_
      refine g_step rfl rfl rfl rfl (e_assign (v := .sc _) rfl) trivial ?_
      refine g_end (ds := [42, 43, 44, 45]) rfl rfl (hK24 _ ?_); clear hK24 K24
      refine pwp_ret ?_
      refine end1 (v := .sc _) rfl ?_
      exact out_b (by first | rfl | (rw [Bool.eq_iff_iff]; simp only [decide_eq_true_eq, Bool.false_eq_true, eq_self_iff_true, true_iff, false_iff, iff_true, iff_false]; omega) | (exfalso; revert hcase; simp_all))

end Go.Proofs.Ytdbpfhbppcpbbaa
