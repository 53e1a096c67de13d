/- What the functions behind RecordWeeks return, as contracts on pure values. No conditions. -/
import Derived.Test.YtdbpfhbppcpbbaaDay
set_option linter.unusedSimpArgs false
set_option linter.unusedVariables false
namespace Go.Proofs.Ytdbpfhbppcpbbaa
open Go Go.Pv
theorem fr86 : (inFrame Try.f86.ntmps (Try.f86.body.getD .skip) && Try.f86.results.toList.all (resScope Try.f86.ntmps)) = true := by kernel_rfl
theorem weeks (i o l : Int) (h1 : 0 ≤ i ∧ i ≤ 20000) (h2 : 0 ≤ o ∧ o ≤ 20000) (h3 : i ≤ o) (h4 : 0 ≤ l ∧ l ≤ 520) : PCalls Try.prog 86 [.int i, .int o, .int l] (.int (max l ((o - i + 7) / 7))) := by
  refine PCalls.of_code Try.func86 rfl rfl (by kernel_rfl) mixed fr86 (by show _ ≤ 15; simp) (.sc _) ?_
  refine pwp_seq_plain rfl fun K1 hK1 => ?_
  refine p_step rfl (e_assign (v := .sc _) rfl) trivial ?_
  refine p_end (hK1 _ ?_); clear hK1 K1
  refine pwp_seq_plain rfl fun K2 hK2 => ?_
  refine p_step rfl (e_move (v := .sc _) rfl) trivial ?_
  refine p_step rfl (e_move (v := .sc _) rfl) trivial ?_
  refine p_step rfl (e_move (v := .sc _) rfl) trivial ?_
  refine p_step rfl (e_sub rfl rfl (by omega)) trivial ?_
  refine p_step rfl (e_add rfl rfl (by omega)) trivial ?_
  refine p_step rfl (e_add rfl rfl (by omega)) trivial ?_
  refine p_step rfl (e_quo rfl rfl (by omega) (by omega) (by omega)) trivial ?_
  refine p_step rfl (e_max rfl rfl) trivial ?_
  refine p_step rfl (e_assign (v := .sc _) rfl) trivial ?_
  refine p_end (hK2 _ ?_); clear hK2 K2
  refine pwp_ret ?_
  refine end1 (v := .sc _) rfl ?_
  exact out_i (by omega)

theorem fr44 : (inFrame Try.f44.ntmps (Try.f44.body.getD .skip) && Try.f44.results.toList.all (resScope Try.f44.ntmps)) = true := by kernel_rfl
theorem refWeeks (i o l : Int) (h1 : 0 ≤ i ∧ i ≤ 20000) (h2 : 0 ≤ o ∧ o ≤ 20000) (h3 : i ≤ o) (h4 : 0 ≤ l ∧ l ≤ 520) : PCalls Try.prog 44 [.int i, .int o, .int l] (.int (max l ((o - i + 7) / 7))) := by
  refine PCalls.of_code Try.func44 rfl rfl (by kernel_rfl) mixed fr44 (by show _ ≤ 15; simp) (.sc _) ?_
  refine pwp_seq_plain rfl fun K1 hK1 => ?_
  refine p_step rfl (e_assign (v := .sc _) rfl) trivial ?_
  refine p_end (hK1 _ ?_); clear hK1 K1
  refine pwp_seq_plain rfl fun K2 hK2 => ?_
  refine p_step rfl (e_move (v := .sc _) rfl) trivial ?_
  refine p_step rfl (e_move (v := .sc _) rfl) trivial ?_
  refine p_step rfl (e_sub rfl rfl (by omega)) trivial ?_
  refine p_step rfl (e_add rfl rfl (by omega)) trivial ?_
  refine p_step rfl (e_add rfl rfl (by omega)) trivial ?_
  refine p_step rfl (e_quo rfl rfl (by omega) (by omega) (by omega)) trivial ?_
  refine p_step rfl (e_move (v := .sc _) rfl) trivial ?_
  refine p_step rfl (e_max rfl rfl) trivial ?_
  refine p_step rfl (e_assign (v := .sc _) rfl) trivial ?_
  refine p_end (hK2 _ ?_); clear hK2 K2
  refine pwp_ret ?_
  refine end1 (v := .sc _) rfl ?_
  exact out_i (by omega)

def weeksE (i o l : Int) : Int := if ¬ (0 ≤ i ∧ i ≤ 20000) ∨ ¬ (0 ≤ o ∧ o ≤ 20000) ∨ l < 0 ∨ 520 < l then 2 else if o < i then 10 else 0
def weeksN (i o l : Int) : Int := if weeksE i o l = 0 then max l ((o - i + 7) / 7) else 0

theorem fr42 : (inFrame Try.f42.ntmps (Try.f42.body.getD .skip) && Try.f42.results.toList.all (resScope Try.f42.ntmps)) = true := by kernel_rfl
theorem Weeks (i o l : Int) : PCalls Try.prog 42 [.int i, .int o, .int l] (.tup [.int (weeksN i o l), .int (weeksE i o l)]) := by
  refine PCalls.of_code Try.func42 rfl rfl (by kernel_rfl) mixed fr42 (by show _ ≤ 33; simp) (pure_2 pure_int pure_int) ?_
  refine pwp_seq_plain rfl fun K1 hK1 => ?_
  refine p_step rfl (e_assign (v := .sc _) rfl) trivial ?_
  refine p_step rfl (e_assign (v := .sc _) rfl) trivial ?_
  refine p_end (hK1 _ ?_); clear hK1 K1
  refine pwp_seq_block fun K2 hK2 => ?_
  refine pwp_seq_gops rfl fun K3 hK3 => ?_
  refine g_begin ?_
  refine g_step rfl rfl rfl rfl (e_move (v := .sc _) rfl) trivial ?_
  refine g_call rfl rfl rfl rfl (.cons inn_sc .nil) (isDay _) ?_
  refine g_step rfl rfl rfl rfl (e_not rfl) trivial ?_
  refine g_step rfl rfl rfl rfl (e_move (v := .sc _) rfl) trivial ?_
  refine g_cases (fun hb4 => ?_) (fun hb4 => ?_)
  ·try simp only [z1, z2, z3, z4, z5, z6, ne_eq, z7, z8, z9, z10, z11, z12] at hb4
   refine g_skip rfl rfl rfl ?_
   refine g_nocall rfl rfl rfl ?_
   refine g_skip rfl rfl rfl ?_
   refine g_step rfl rfl rfl rfl (e_pickT (v := .sc _) rfl rfl) trivial ?_
   refine g_step rfl rfl rfl rfl (e_move (v := .sc _) rfl) trivial ?_
   refine g_skip rfl rfl rfl ?_
   refine g_skip rfl rfl rfl ?_
   refine g_step rfl rfl rfl rfl (e_pickT (v := .sc _) rfl rfl) trivial ?_
   refine g_step rfl rfl rfl rfl (e_move (v := .sc _) rfl) trivial ?_
   refine g_skip rfl rfl rfl ?_
   refine g_skip rfl rfl rfl ?_
   refine g_step rfl rfl rfl rfl (e_pickT (v := .sc _) rfl rfl) trivial ?_
   refine g_step rfl rfl rfl rfl (e_assign (v := .sc _) rfl) trivial ?_
   refine g_end (ds := [13, 14, 15, 18, 19, 22, 23]) rfl rfl (hK3 _ ?_); clear hK3 K3
   refine pwp_cond (t := true) rfl (fun _ => ?_) nofun
   refine pwp_seq_plain rfl fun K5 hK5 => ?_
   refine p_step rfl (e_assign (v := .sc _) rfl) trivial ?_
   refine p_step rfl (e_assign (v := .sc _) rfl) trivial ?_
   refine p_end (hK5 _ ?_); clear hK5 K5
   refine pwp_ret ?_
   refine ret_block ?_
   refine ret_seq ?_
   refine end2 (v := .sc _) (w := .sc _) rfl rfl ?_
   exact out_2 (out_i (by unfold weeksN weeksE; (repeat' split) <;> omega)) (out_i (by unfold weeksE; (repeat' split) <;> omega))
  ·try simp only [z1, z2, z3, z4, z5, z6, ne_eq, z7, z8, z9, z10, z11, z12] at hb4
   refine g_step rfl rfl rfl rfl (e_move (v := .sc _) rfl) trivial ?_
   refine g_call rfl rfl rfl rfl (.cons inn_sc .nil) (isDay _) ?_
   refine g_step rfl rfl rfl rfl (e_not rfl) trivial ?_
   refine g_step rfl rfl rfl rfl (e_pickF (v := .sc _) rfl rfl) trivial ?_
   refine g_step rfl rfl rfl rfl (e_move (v := .sc _) rfl) trivial ?_
   refine g_cases (fun hb6 => ?_) (fun hb6 => ?_)
   ·try simp only [z1, z2, z3, z4, z5, z6, ne_eq, z7, z8, z9, z10, z11, z12] at hb6
    refine g_skip rfl rfl rfl ?_
    refine g_skip rfl rfl rfl ?_
    refine g_step rfl rfl rfl rfl (e_pickT (v := .sc _) rfl rfl) trivial ?_
    refine g_step rfl rfl rfl rfl (e_move (v := .sc _) rfl) trivial ?_
    refine g_skip rfl rfl rfl ?_
    refine g_skip rfl rfl rfl ?_
    refine g_step rfl rfl rfl rfl (e_pickT (v := .sc _) rfl rfl) trivial ?_
    refine g_step rfl rfl rfl rfl (e_assign (v := .sc _) rfl) trivial ?_
    refine g_end (ds := [13, 14, 15, 18, 19, 22, 23]) rfl rfl (hK3 _ ?_); clear hK3 K3
    refine pwp_cond (t := true) rfl (fun _ => ?_) nofun
    refine pwp_seq_plain rfl fun K7 hK7 => ?_
    refine p_step rfl (e_assign (v := .sc _) rfl) trivial ?_
    refine p_step rfl (e_assign (v := .sc _) rfl) trivial ?_
    refine p_end (hK7 _ ?_); clear hK7 K7
    refine pwp_ret ?_
    refine ret_block ?_
    refine ret_seq ?_
    refine end2 (v := .sc _) (w := .sc _) rfl rfl ?_
    exact out_2 (out_i (by unfold weeksN weeksE; (repeat' split) <;> omega)) (out_i (by unfold weeksE; (repeat' split) <;> omega))
   ·try simp only [z1, z2, z3, z4, z5, z6, ne_eq, z7, z8, z9, z10, z11, z12] at hb6
    refine g_step rfl rfl rfl rfl (e_move (v := .sc _) rfl) trivial ?_
    refine g_step rfl rfl rfl rfl (e_lt rfl rfl) trivial ?_
    refine g_step rfl rfl rfl rfl (e_pickF (v := .sc _) rfl rfl) trivial ?_
    refine g_step rfl rfl rfl rfl (e_move (v := .sc _) rfl) trivial ?_
    refine g_cases (fun hb8 => ?_) (fun hb8 => ?_)
    ·try simp only [z1, z2, z3, z4, z5, z6, ne_eq, z7, z8, z9, z10, z11, z12] at hb8
     refine g_skip rfl rfl rfl ?_
     refine g_skip rfl rfl rfl ?_
     refine g_step rfl rfl rfl rfl (e_pickT (v := .sc _) rfl rfl) trivial ?_
     refine g_step rfl rfl rfl rfl (e_assign (v := .sc _) rfl) trivial ?_
     refine g_end (ds := [13, 14, 15, 18, 19, 22, 23]) rfl rfl (hK3 _ ?_); clear hK3 K3
     refine pwp_cond (t := true) rfl (fun _ => ?_) nofun
     refine pwp_seq_plain rfl fun K9 hK9 => ?_
     refine p_step rfl (e_assign (v := .sc _) rfl) trivial ?_
     refine p_step rfl (e_assign (v := .sc _) rfl) trivial ?_
     refine p_end (hK9 _ ?_); clear hK9 K9
     refine pwp_ret ?_
     refine ret_block ?_
     refine ret_seq ?_
     refine end2 (v := .sc _) (w := .sc _) rfl rfl ?_
     exact out_2 (out_i (by unfold weeksN weeksE; (repeat' split) <;> omega)) (out_i (by unfold weeksE; (repeat' split) <;> omega))
    ·try simp only [z1, z2, z3, z4, z5, z6, ne_eq, z7, z8, z9, z10, z11, z12] at hb8
     refine g_step rfl rfl rfl rfl (e_move (v := .sc _) rfl) trivial ?_
     refine g_step rfl rfl rfl rfl (e_gt rfl rfl) trivial ?_
     refine g_step rfl rfl rfl rfl (e_pickF (v := .sc _) rfl rfl) trivial ?_
     refine g_step rfl rfl rfl rfl (e_assign (v := .sc _) rfl) trivial ?_
     refine g_end (ds := [13, 14, 15, 18, 19, 22, 23]) rfl rfl (hK3 _ ?_); clear hK3 K3
     refine pwp_cond rfl (fun hb10 => ?_) (fun hb10 => ?_)
     ·try simp only [z1, z2, z3, z4, z5, z6, ne_eq, z7, z8, z9, z10, z11, z12] at hb10
      refine pwp_seq_plain rfl fun K11 hK11 => ?_
      refine p_step rfl (e_assign (v := .sc _) rfl) trivial ?_
      refine p_step rfl (e_assign (v := .sc _) rfl) trivial ?_
      refine p_end (hK11 _ ?_); clear hK11 K11
      refine pwp_ret ?_
      refine ret_block ?_
      refine ret_seq ?_
      refine end2 (v := .sc _) (w := .sc _) rfl rfl ?_
      exact out_2 (out_i (by unfold weeksN weeksE; (repeat' split) <;> omega)) (out_i (by unfold weeksE; (repeat' split) <;> omega))
     ·try simp only [z1, z2, z3, z4, z5, z6, ne_eq, z7, z8, z9, z10, z11, z12] at hb10
      refine pwp_seq_plain rfl fun K12 hK12 => ?_
      refine p_step rfl (e_move (v := .sc _) rfl) trivial ?_
      refine p_step rfl (e_move (v := .sc _) rfl) trivial ?_
      refine p_step rfl (e_lt rfl rfl) trivial ?_
      refine p_step rfl (e_assign (v := .sc _) rfl) trivial ?_
      refine p_end (hK12 _ ?_); clear hK12 K12
      refine pwp_cond rfl (fun hb13 => ?_) (fun hb13 => ?_)
      ·try simp only [z1, z2, z3, z4, z5, z6, ne_eq, z7, z8, z9, z10, z11, z12] at hb13
       refine pwp_seq_plain rfl fun K14 hK14 => ?_
       refine p_step rfl (e_assign (v := .sc _) rfl) trivial ?_
       refine p_step rfl (e_assign (v := .sc _) rfl) trivial ?_
       refine p_end (hK14 _ ?_); clear hK14 K14
       refine pwp_ret ?_
       refine ret_block ?_
       refine ret_seq ?_
       refine end2 (v := .sc _) (w := .sc _) rfl rfl ?_
       exact out_2 (out_i (by unfold weeksN weeksE; (repeat' split) <;> omega)) (out_i (by unfold weeksE; (repeat' split) <;> omega))
      ·try simp only [z1, z2, z3, z4, z5, z6, ne_eq, z7, z8, z9, z10, z11, z12] at hb13
       refine pwp_skip ?_
       refine block_norm ?_
       refine seq_norm (hK2 _ ?_); clear hK2 K2
       refine pwp_seq_plain rfl fun K15 hK15 => ?_
       refine p_step rfl (e_move (v := .sc _) rfl) trivial ?_
       refine p_step rfl (e_move (v := .sc _) rfl) trivial ?_
       refine p_step rfl (e_move (v := .sc _) rfl) trivial ?_
       refine p_call rfl (.cons inn_sc (.cons inn_sc (.cons inn_sc .nil))) (weeks _ _ _ (by omega) (by omega) (by omega) (by omega)) ?_
       refine p_step rfl (e_assign (v := .sc _) rfl) trivial ?_
       refine p_step rfl (e_assign (v := .sc _) rfl) trivial ?_
       refine p_end (hK15 _ ?_); clear hK15 K15
       refine pwp_ret ?_
       refine end2 (v := .sc _) (w := .sc _) rfl rfl ?_
       exact out_2 (out_i (by unfold weeksN weeksE; (repeat' split) <;> omega)) (out_i (by unfold weeksE; (repeat' split) <;> omega))

theorem weeks_spec (i o l : Int) : ((¬ (0 ≤ i ∧ i ≤ 20000) ∨ ¬ (0 ≤ o ∧ o ≤ 20000) ∨ l < 0 ∨ 520 < l) ∧ weeksE i o l = 2 ∧ weeksN i o l = 0) ∨
    ((0 ≤ i ∧ i ≤ 20000) ∧ (0 ≤ o ∧ o ≤ 20000) ∧ 0 ≤ l ∧ l ≤ 520 ∧ o < i ∧ weeksE i o l = 10 ∧ weeksN i o l = 0) ∨
    ((0 ≤ i ∧ i ≤ 20000) ∧ (0 ≤ o ∧ o ≤ 20000) ∧ 0 ≤ l ∧ l ≤ 520 ∧ i ≤ o ∧ weeksE i o l = 0 ∧ weeksN i o l = max l ((o - i + 7) / 7)) := by
  unfold weeksN weeksE
  split
  · left; exact ⟨by assumption, rfl, rfl⟩
  · rename_i h1
    split
    · right; left; refine ⟨by omega, by omega, by omega, by omega, by assumption, rfl, rfl⟩
    · right; right; refine ⟨by omega, by omega, by omega, by omega, by omega, rfl, rfl⟩

theorem fr7 : (inFrame Try.f7.ntmps (Try.f7.body.getD .skip) && Try.f7.results.toList.all (resScope Try.f7.ntmps)) = true := by kernel_rfl
theorem law (i o l : Int) : PCalls Try.prog 7 [.int i, .int o, .int l] (.bool true) := by
  refine PCalls.of_code Try.func7 rfl rfl (by kernel_rfl) mixed fr7 (by show _ ≤ 97; simp) (.sc _) ?_
  have w1 := weeks_spec i o l
  have w2 := weeks_spec i (o + 1) l
  refine pwp_seq_plain rfl fun K1 hK1 => ?_
  refine p_step rfl (e_assign (v := .sc _) rfl) trivial ?_
  refine p_end (hK1 _ ?_); clear hK1 K1
  refine pwp_seq_seq ?_
  refine pwp_seq_plain rfl fun K2 hK2 => ?_
  refine p_call rfl .nil (awake) ?_
  refine p_step rfl (e_not rfl) trivial ?_
  refine p_end (hK2 _ ?_); clear hK2 K2
  refine pwp_seq_cond (t := false) rfl fun K3 hK3 => ⟨nofun, fun _ => ?_⟩
  refine pwp_skip ?_
  refine seq_norm (hK3 _ ?_); clear hK3 K3
  refine pwp_seq_plain rfl fun K4 hK4 => ?_
  refine p_step rfl (e_move (v := .sc _) rfl) trivial ?_
  refine p_step rfl (e_move (v := .sc _) rfl) trivial ?_
  refine p_step rfl (e_move (v := .sc _) rfl) trivial ?_
  refine p_call rfl (.cons inn_sc (.cons inn_sc (.cons inn_sc .nil))) (Weeks _ _ _) ?_
  refine p_step rfl (e_move (v := .tup _) rfl) trivial ?_
  refine p_step rfl (e_ext (v := .sc _) rfl (by simp) rfl) trivial ?_
  refine p_step rfl (e_ext (v := .sc _) rfl (by simp) rfl) trivial ?_
  refine p_step rfl (e_assign (v := .sc _) rfl) trivial ?_
  refine p_step rfl (e_assign (v := .sc _) rfl) trivial ?_
  refine p_end (hK4 _ ?_); clear hK4 K4
  refine pwp_seq_seq ?_
  refine pwp_seq_gops rfl fun K5 hK5 => ?_
  refine g_begin ?_
  refine g_step rfl rfl rfl rfl (e_move (v := .sc _) rfl) trivial ?_
  refine g_call rfl rfl rfl rfl (.cons inn_sc .nil) (IsDay _) ?_
  refine g_step rfl rfl rfl rfl (e_not rfl) trivial ?_
  refine g_step rfl rfl rfl rfl (e_move (v := .sc _) rfl) trivial ?_
  refine g_cases (fun hb6 => ?_) (fun hb6 => ?_)
  ·try simp only [z1, z2, z3, z4, z5, z6, ne_eq, z7, z8, z9, z10, z11, z12] at hb6
   refine g_skip rfl rfl rfl ?_
   refine g_nocall rfl rfl rfl ?_
   refine g_skip rfl rfl rfl ?_
   refine g_step rfl rfl rfl rfl (e_pickT (v := .sc _) rfl rfl) trivial ?_
   refine g_step rfl rfl rfl rfl (e_move (v := .sc _) rfl) trivial ?_
   refine g_skip rfl rfl rfl ?_
   refine g_nocall rfl rfl rfl ?_
   refine g_skip rfl rfl rfl ?_
   refine g_step rfl rfl rfl rfl (e_pickT (v := .sc _) rfl rfl) trivial ?_
   refine g_end (ds := [24, 25, 26, 29, 30, 31]) rfl rfl (hK5 _ ?_); clear hK5 K5
   refine pwp_seq_cond (t := true) rfl fun K7 hK7 => ⟨fun _ => ?_, nofun⟩
   refine pwp_seq_gops rfl fun K8 hK8 => ?_
   refine g_begin ?_
   refine g_step rfl rfl rfl rfl (e_move (v := .sc _) rfl) trivial ?_
   refine g_step rfl rfl rfl rfl (e_eq rfl rfl) trivial ?_
   refine g_step rfl rfl rfl rfl (e_move (v := .sc _) rfl) trivial ?_
   refine g_cases (fun hb9 => ?_) (fun hb9 => ?_)
   ·try simp only [z1, z2, z3, z4, z5, z6, ne_eq, z7, z8, z9, z10, z11, z12] at hb9
    refine g_step rfl rfl rfl rfl (e_move (v := .sc _) rfl) trivial ?_
    refine g_step rfl rfl rfl rfl (e_eq rfl rfl) trivial ?_
    refine g_step rfl rfl rfl rfl (e_pickT (v := .sc _) rfl rfl) trivial ?_
    refine g_step rfl rfl rfl rfl (e_assign (v := .sc _) rfl) trivial ?_
    refine g_end (ds := [36, 37]) rfl rfl (hK8 _ ?_); clear hK8 K8
    refine pwp_ret ?_
    refine ret_seq ?_
    refine end1 (v := .sc _) rfl ?_
    exact out_b (by first | rfl | (rw [Bool.eq_iff_iff]; simp only [decide_eq_true_eq, Bool.false_eq_true, eq_self_iff_true, true_iff, false_iff, iff_true, iff_false]; omega))
   ·try simp only [z1, z2, z3, z4, z5, z6, ne_eq, z7, z8, z9, z10, z11, z12] at hb9
    refine g_skip rfl rfl rfl ?_
    refine g_skip rfl rfl rfl ?_
    refine g_step rfl rfl rfl rfl (e_pickF (v := .sc _) rfl rfl) trivial ?_
    refine g_step rfl rfl rfl rfl (e_assign (v := .sc _) rfl) trivial ?_
    refine g_end (ds := [36, 37]) rfl rfl (hK8 _ ?_); clear hK8 K8
    refine pwp_ret ?_
    refine ret_seq ?_
    refine end1 (v := .sc _) rfl ?_
    exact out_b (by first | rfl | (rw [Bool.eq_iff_iff]; simp only [decide_eq_true_eq, Bool.false_eq_true, eq_self_iff_true, true_iff, false_iff, iff_true, iff_false]; omega))
  ·try simp only [z1, z2, z3, z4, z5, z6, ne_eq, z7, z8, z9, z10, z11, z12] at hb6
   refine g_step rfl rfl rfl rfl (e_move (v := .sc _) rfl) trivial ?_
   refine g_call rfl rfl rfl rfl (.cons inn_sc .nil) (IsDay _) ?_
   refine g_step rfl rfl rfl rfl (e_not rfl) trivial ?_
   refine g_step rfl rfl rfl rfl (e_pickF (v := .sc _) rfl rfl) trivial ?_
   refine g_step rfl rfl rfl rfl (e_move (v := .sc _) rfl) trivial ?_
   refine g_cases (fun hb10 => ?_) (fun hb10 => ?_)
   ·try simp only [z1, z2, z3, z4, z5, z6, ne_eq, z7, z8, z9, z10, z11, z12] at hb10
    refine g_skip rfl rfl rfl ?_
    refine g_nocall rfl rfl rfl ?_
    refine g_skip rfl rfl rfl ?_
    refine g_step rfl rfl rfl rfl (e_pickT (v := .sc _) rfl rfl) trivial ?_
    refine g_end (ds := [24, 25, 26, 29, 30, 31]) rfl rfl (hK5 _ ?_); clear hK5 K5
    refine pwp_seq_cond (t := true) rfl fun K11 hK11 => ⟨fun _ => ?_, nofun⟩
    refine pwp_seq_gops rfl fun K12 hK12 => ?_
    refine g_begin ?_
    refine g_step rfl rfl rfl rfl (e_move (v := .sc _) rfl) trivial ?_
    refine g_step rfl rfl rfl rfl (e_eq rfl rfl) trivial ?_
    refine g_step rfl rfl rfl rfl (e_move (v := .sc _) rfl) trivial ?_
    refine g_cases (fun hb13 => ?_) (fun hb13 => ?_)
    ·try simp only [z1, z2, z3, z4, z5, z6, ne_eq, z7, z8, z9, z10, z11, z12] at hb13
     refine g_step rfl rfl rfl rfl (e_move (v := .sc _) rfl) trivial ?_
     refine g_step rfl rfl rfl rfl (e_eq rfl rfl) trivial ?_
     refine g_step rfl rfl rfl rfl (e_pickT (v := .sc _) rfl rfl) trivial ?_
     refine g_step rfl rfl rfl rfl (e_assign (v := .sc _) rfl) trivial ?_
     refine g_end (ds := [36, 37]) rfl rfl (hK12 _ ?_); clear hK12 K12
     refine pwp_ret ?_
     refine ret_seq ?_
     refine end1 (v := .sc _) rfl ?_
     exact out_b (by first | rfl | (rw [Bool.eq_iff_iff]; simp only [decide_eq_true_eq, Bool.false_eq_true, eq_self_iff_true, true_iff, false_iff, iff_true, iff_false]; omega))
    ·try simp only [z1, z2, z3, z4, z5, z6, ne_eq, z7, z8, z9, z10, z11, z12] at hb13
     refine g_skip rfl rfl rfl ?_
     refine g_skip rfl rfl rfl ?_
     refine g_step rfl rfl rfl rfl (e_pickF (v := .sc _) rfl rfl) trivial ?_
     refine g_step rfl rfl rfl rfl (e_assign (v := .sc _) rfl) trivial ?_
     refine g_end (ds := [36, 37]) rfl rfl (hK12 _ ?_); clear hK12 K12
     refine pwp_ret ?_
     refine ret_seq ?_
     refine end1 (v := .sc _) rfl ?_
     exact out_b (by first | rfl | (rw [Bool.eq_iff_iff]; simp only [decide_eq_true_eq, Bool.false_eq_true, eq_self_iff_true, true_iff, false_iff, iff_true, iff_false]; omega))
   ·try simp only [z1, z2, z3, z4, z5, z6, ne_eq, z7, z8, z9, z10, z11, z12] at hb10
    refine g_step rfl rfl rfl rfl (e_move (v := .sc _) rfl) trivial ?_
    refine g_call rfl rfl rfl rfl (.cons inn_sc (.cons inn_sc (.cons inn_sc .nil))) (Within _ _ _) ?_
    refine g_step rfl rfl rfl rfl (e_not rfl) trivial ?_
    refine g_step rfl rfl rfl rfl (e_pickF (v := .sc _) rfl rfl) trivial ?_
    refine g_end (ds := [24, 25, 26, 29, 30, 31]) rfl rfl (hK5 _ ?_); clear hK5 K5
    refine pwp_seq_cond rfl fun K14 hK14 => ⟨fun hb15 => ?_, fun hb15 => ?_⟩
    ·try simp only [z1, z2, z3, z4, z5, z6, ne_eq, z7, z8, z9, z10, z11, z12] at hb15
     refine pwp_seq_gops rfl fun K16 hK16 => ?_
     refine g_begin ?_
     refine g_step rfl rfl rfl rfl (e_move (v := .sc _) rfl) trivial ?_
     refine g_step rfl rfl rfl rfl (e_eq rfl rfl) trivial ?_
     refine g_step rfl rfl rfl rfl (e_move (v := .sc _) rfl) trivial ?_
     refine g_cases (fun hb17 => ?_) (fun hb17 => ?_)
     ·try simp only [z1, z2, z3, z4, z5, z6, ne_eq, z7, z8, z9, z10, z11, z12] at hb17
      refine g_step rfl rfl rfl rfl (e_move (v := .sc _) rfl) trivial ?_
      refine g_step rfl rfl rfl rfl (e_eq rfl rfl) trivial ?_
      refine g_step rfl rfl rfl rfl (e_pickT (v := .sc _) rfl rfl) trivial ?_
      refine g_step rfl rfl rfl rfl (e_assign (v := .sc _) rfl) trivial ?_
      refine g_end (ds := [36, 37]) rfl rfl (hK16 _ ?_); clear hK16 K16
      refine pwp_ret ?_
      refine ret_seq ?_
      refine end1 (v := .sc _) rfl ?_
      exact out_b (by first | rfl | (rw [Bool.eq_iff_iff]; simp only [decide_eq_true_eq, Bool.false_eq_true, eq_self_iff_true, true_iff, false_iff, iff_true, iff_false]; omega))
     ·try simp only [z1, z2, z3, z4, z5, z6, ne_eq, z7, z8, z9, z10, z11, z12] at hb17
      refine g_skip rfl rfl rfl ?_
      refine g_skip rfl rfl rfl ?_
      refine g_step rfl rfl rfl rfl (e_pickF (v := .sc _) rfl rfl) trivial ?_
      refine g_step rfl rfl rfl rfl (e_assign (v := .sc _) rfl) trivial ?_
      refine g_end (ds := [36, 37]) rfl rfl (hK16 _ ?_); clear hK16 K16
      refine pwp_ret ?_
      refine ret_seq ?_
      refine end1 (v := .sc _) rfl ?_
      exact out_b (by first | rfl | (rw [Bool.eq_iff_iff]; simp only [decide_eq_true_eq, Bool.false_eq_true, eq_self_iff_true, true_iff, false_iff, iff_true, iff_false]; omega))
    ·try simp only [z1, z2, z3, z4, z5, z6, ne_eq, z7, z8, z9, z10, z11, z12] at hb15
     refine pwp_skip ?_
     refine seq_norm (hK14 _ ?_); clear hK14 K14
     refine pwp_seq_seq ?_
     refine pwp_seq_plain rfl fun K18 hK18 => ?_
     refine p_step rfl (e_move (v := .sc _) rfl) trivial ?_
     refine p_step rfl (e_move (v := .sc _) rfl) trivial ?_
     refine p_step rfl (e_lt rfl rfl) trivial ?_
     refine p_end (hK18 _ ?_); clear hK18 K18
     refine pwp_seq_cond rfl fun K19 hK19 => ⟨fun hb20 => ?_, fun hb20 => ?_⟩
     ·try simp only [z1, z2, z3, z4, z5, z6, ne_eq, z7, z8, z9, z10, z11, z12] at hb20
      refine pwp_seq_gops rfl fun K21 hK21 => ?_
      refine g_begin ?_
      refine g_step rfl rfl rfl rfl (e_move (v := .sc _) rfl) trivial ?_
      refine g_step rfl rfl rfl rfl (e_eq rfl rfl) trivial ?_
      refine g_step rfl rfl rfl rfl (e_move (v := .sc _) rfl) trivial ?_
      refine g_cases (fun hb22 => ?_) (fun hb22 => ?_)
      ·try simp only [z1, z2, z3, z4, z5, z6, ne_eq, z7, z8, z9, z10, z11, z12] at hb22
       refine g_step rfl rfl rfl rfl (e_move (v := .sc _) rfl) trivial ?_
       refine g_step rfl rfl rfl rfl (e_eq rfl rfl) trivial ?_
       refine g_step rfl rfl rfl rfl (e_pickT (v := .sc _) rfl rfl) trivial ?_
       refine g_step rfl rfl rfl rfl (e_assign (v := .sc _) rfl) trivial ?_
       refine g_end (ds := [45, 46]) rfl rfl (hK21 _ ?_); clear hK21 K21
       refine pwp_ret ?_
       refine ret_seq ?_
       refine end1 (v := .sc _) rfl ?_
       exact out_b (by first | rfl | (rw [Bool.eq_iff_iff]; simp only [decide_eq_true_eq, Bool.false_eq_true, eq_self_iff_true, true_iff, false_iff, iff_true, iff_false]; omega))
      ·try simp only [z1, z2, z3, z4, z5, z6, ne_eq, z7, z8, z9, z10, z11, z12] at hb22
       refine g_skip rfl rfl rfl ?_
       refine g_skip rfl rfl rfl ?_
       refine g_step rfl rfl rfl rfl (e_pickF (v := .sc _) rfl rfl) trivial ?_
       refine g_step rfl rfl rfl rfl (e_assign (v := .sc _) rfl) trivial ?_
       refine g_end (ds := [45, 46]) rfl rfl (hK21 _ ?_); clear hK21 K21
       refine pwp_ret ?_
       refine ret_seq ?_
       refine end1 (v := .sc _) rfl ?_
       exact out_b (by first | rfl | (rw [Bool.eq_iff_iff]; simp only [decide_eq_true_eq, Bool.false_eq_true, eq_self_iff_true, true_iff, false_iff, iff_true, iff_false]; omega))
     ·try simp only [z1, z2, z3, z4, z5, z6, ne_eq, z7, z8, z9, z10, z11, z12] at hb20
      refine pwp_skip ?_
      refine seq_norm (hK19 _ ?_); clear hK19 K19
      refine pwp_seq_seq ?_
      refine pwp_seq_gops rfl fun K23 hK23 => ?_
      refine g_begin ?_
      refine g_step rfl rfl rfl rfl (e_move (v := .sc _) rfl) trivial ?_
      refine g_step rfl rfl rfl rfl (e_ne rfl rfl) trivial ?_
      refine g_step rfl rfl rfl rfl (e_move (v := .sc _) rfl) trivial ?_
      refine g_cases (fun hb24 => ?_) (fun hb24 => ?_)
      ·try simp only [z1, z2, z3, z4, z5, z6, ne_eq, z7, z8, z9, z10, z11, z12] at hb24
       refine g_skip rfl rfl rfl ?_
       refine g_skip rfl rfl rfl ?_
       refine g_skip rfl rfl rfl ?_
       refine g_skip rfl rfl rfl ?_
       refine g_nocall rfl rfl rfl ?_
       refine g_skip rfl rfl rfl ?_
       refine g_step rfl rfl rfl rfl (e_pickT (v := .sc _) rfl rfl) trivial ?_
       refine g_step rfl rfl rfl rfl (e_move (v := .sc _) rfl) trivial ?_
       refine g_skip rfl rfl rfl ?_
       refine g_skip rfl rfl rfl ?_
       refine g_skip rfl rfl rfl ?_
       refine g_step rfl rfl rfl rfl (e_pickT (v := .sc _) rfl rfl) trivial ?_
       refine g_step rfl rfl rfl rfl (e_move (v := .sc _) rfl) trivial ?_
       refine g_skip rfl rfl rfl ?_
       refine g_skip rfl rfl rfl ?_
       refine g_skip rfl rfl rfl ?_
       refine g_skip rfl rfl rfl ?_
       refine g_skip rfl rfl rfl ?_
       refine g_skip rfl rfl rfl ?_
       refine g_skip rfl rfl rfl ?_
       refine g_step rfl rfl rfl rfl (e_pickT (v := .sc _) rfl rfl) trivial ?_
       refine g_end (ds := [51, 52, 53, 54, 55, 56, 59, 60, 61, 64, 65, 66, 67, 68, 69, 70]) rfl rfl (hK23 _ ?_); clear hK23 K23
       refine pwp_seq_cond (t := true) rfl fun K25 hK25 => ⟨fun _ => ?_, nofun⟩
       refine pwp_seq_plain rfl fun K26 hK26 => ?_
       refine p_step rfl (e_assign (v := .sc _) rfl) trivial ?_
       refine p_end (hK26 _ ?_); clear hK26 K26
       refine pwp_ret ?_
       refine ret_seq ?_
       refine end1 (v := .sc _) rfl ?_
       exact out_b (by first | rfl | (rw [Bool.eq_iff_iff]; simp only [decide_eq_true_eq, Bool.false_eq_true, eq_self_iff_true, true_iff, false_iff, iff_true, iff_false]; omega))
      ·try simp only [z1, z2, z3, z4, z5, z6, ne_eq, z7, z8, z9, z10, z11, z12] at hb24
       refine g_step rfl rfl rfl rfl (e_move (v := .sc _) rfl) trivial ?_
       refine g_step rfl rfl rfl rfl (e_move (v := .sc _) rfl) trivial ?_
       refine g_step rfl rfl rfl rfl (e_move (v := .sc _) rfl) trivial ?_
       refine g_step rfl rfl rfl rfl (e_move (v := .sc _) rfl) trivial ?_
       refine g_call rfl rfl rfl rfl (.cons inn_sc (.cons inn_sc (.cons inn_sc .nil))) (refWeeks _ _ _ (by omega) (by omega) (by omega) (by omega)) ?_
       refine g_step rfl rfl rfl rfl (e_ne rfl rfl) trivial ?_
       refine g_step rfl rfl rfl rfl (e_pickF (v := .sc _) rfl rfl) trivial ?_
       refine g_step rfl rfl rfl rfl (e_move (v := .sc _) rfl) trivial ?_
       refine g_cases (fun hb27 => ?_) (fun hb27 => ?_)
       ·try simp only [z1, z2, z3, z4, z5, z6, ne_eq, z7, z8, z9, z10, z11, z12] at hb27
        refine g_skip rfl rfl rfl ?_
        refine g_skip rfl rfl rfl ?_
        refine g_skip rfl rfl rfl ?_
        refine g_step rfl rfl rfl rfl (e_pickT (v := .sc _) rfl rfl) trivial ?_
        refine g_step rfl rfl rfl rfl (e_move (v := .sc _) rfl) trivial ?_
        refine g_skip rfl rfl rfl ?_
        refine g_skip rfl rfl rfl ?_
        refine g_skip rfl rfl rfl ?_
        refine g_skip rfl rfl rfl ?_
        refine g_skip rfl rfl rfl ?_
        refine g_skip rfl rfl rfl ?_
        refine g_skip rfl rfl rfl ?_
        refine g_step rfl rfl rfl rfl (e_pickT (v := .sc _) rfl rfl) trivial ?_
        refine g_end (ds := [51, 52, 53, 54, 55, 56, 59, 60, 61, 64, 65, 66, 67, 68, 69, 70]) rfl rfl (hK23 _ ?_); clear hK23 K23
        refine pwp_seq_cond (t := true) rfl fun K28 hK28 => ⟨fun _ => ?_, nofun⟩
        refine pwp_seq_plain rfl fun K29 hK29 => ?_
        refine p_step rfl (e_assign (v := .sc _) rfl) trivial ?_
        refine p_end (hK29 _ ?_); clear hK29 K29
        refine pwp_ret ?_
        refine ret_seq ?_
        refine end1 (v := .sc _) rfl ?_
        exact out_b (by first | rfl | (rw [Bool.eq_iff_iff]; simp only [decide_eq_true_eq, Bool.false_eq_true, eq_self_iff_true, true_iff, false_iff, iff_true, iff_false]; omega))
       ·try simp only [z1, z2, z3, z4, z5, z6, ne_eq, z7, z8, z9, z10, z11, z12] at hb27
        refine g_step rfl rfl rfl rfl (e_move (v := .sc _) rfl) trivial ?_
        refine g_step rfl rfl rfl rfl (e_move (v := .sc _) rfl) trivial ?_
        refine g_step rfl rfl rfl rfl (e_lt rfl rfl) trivial ?_
        refine g_step rfl rfl rfl rfl (e_pickF (v := .sc _) rfl rfl) trivial ?_
        refine g_step rfl rfl rfl rfl (e_move (v := .sc _) rfl) trivial ?_
        refine g_cases (fun hb30 => ?_) (fun hb30 => ?_)
        ·try simp only [z1, z2, z3, z4, z5, z6, ne_eq, z7, z8, z9, z10, z11, z12] at hb30
         refine g_skip rfl rfl rfl ?_
         refine g_skip rfl rfl rfl ?_
         refine g_skip rfl rfl rfl ?_
         refine g_skip rfl rfl rfl ?_
         refine g_skip rfl rfl rfl ?_
         refine g_skip rfl rfl rfl ?_
         refine g_skip rfl rfl rfl ?_
         refine g_step rfl rfl rfl rfl (e_pickT (v := .sc _) rfl rfl) trivial ?_
         refine g_end (ds := [51, 52, 53, 54, 55, 56, 59, 60, 61, 64, 65, 66, 67, 68, 69, 70]) rfl rfl (hK23 _ ?_); clear hK23 K23
         refine pwp_seq_cond (t := true) rfl fun K31 hK31 => ⟨fun _ => ?_, nofun⟩
         refine pwp_seq_plain rfl fun K32 hK32 => ?_
         refine p_step rfl (e_assign (v := .sc _) rfl) trivial ?_
         refine p_end (hK32 _ ?_); clear hK32 K32
         refine pwp_ret ?_
         refine ret_seq ?_
         refine end1 (v := .sc _) rfl ?_
         exact out_b (by first | rfl | (rw [Bool.eq_iff_iff]; simp only [decide_eq_true_eq, Bool.false_eq_true, eq_self_iff_true, true_iff, false_iff, iff_true, iff_false]; omega))
        ·try simp only [z1, z2, z3, z4, z5, z6, ne_eq, z7, z8, z9, z10, z11, z12] at hb30
         refine g_step rfl rfl rfl rfl (e_move (v := .sc _) rfl) trivial ?_
         refine g_step rfl rfl rfl rfl (e_mul rfl rfl (by omega)) trivial ?_
         refine g_step rfl rfl rfl rfl (e_move (v := .sc _) rfl) trivial ?_
         refine g_step rfl rfl rfl rfl (e_move (v := .sc _) rfl) trivial ?_
         refine g_step rfl rfl rfl rfl (e_sub rfl rfl (by omega)) trivial ?_
         refine g_step rfl rfl rfl rfl (e_add rfl rfl (by omega)) trivial ?_
         refine g_step rfl rfl rfl rfl (e_lt rfl rfl) trivial ?_
         refine g_step rfl rfl rfl rfl (e_pickF (v := .sc _) rfl rfl) trivial ?_
         refine g_end (ds := [51, 52, 53, 54, 55, 56, 59, 60, 61, 64, 65, 66, 67, 68, 69, 70]) rfl rfl (hK23 _ ?_); clear hK23 K23
         refine pwp_seq_cond rfl fun K33 hK33 => ⟨fun hb34 => ?_, fun hb34 => ?_⟩
         ·try simp only [z1, z2, z3, z4, z5, z6, ne_eq, z7, z8, z9, z10, z11, z12] at hb34
          refine pwp_seq_plain rfl fun K35 hK35 => ?_
          refine p_step rfl (e_assign (v := .sc _) rfl) trivial ?_
          refine p_end (hK35 _ ?_); clear hK35 K35
          refine pwp_ret ?_
          refine ret_seq ?_
          refine end1 (v := .sc _) rfl ?_
          exact out_b (by first | rfl | (rw [Bool.eq_iff_iff]; simp only [decide_eq_true_eq, Bool.false_eq_true, eq_self_iff_true, true_iff, false_iff, iff_true, iff_false]; omega))
         ·try simp only [z1, z2, z3, z4, z5, z6, ne_eq, z7, z8, z9, z10, z11, z12] at hb34
          refine pwp_skip ?_
          refine seq_norm (hK33 _ ?_); clear hK33 K33
          refine pwp_seq_plain rfl fun K36 hK36 => ?_
          refine p_step rfl (e_move (v := .sc _) rfl) trivial ?_
          refine p_step rfl (e_move (v := .sc _) rfl) trivial ?_
          refine p_step rfl (e_add rfl rfl (by omega)) trivial ?_
          refine p_step rfl (e_move (v := .sc _) rfl) trivial ?_
          refine p_call rfl (.cons inn_sc (.cons inn_sc (.cons inn_sc .nil))) (Weeks _ _ _) ?_
          refine p_step rfl (e_move (v := .tup _) rfl) trivial ?_
          refine p_step rfl (e_ext (v := .sc _) rfl (by simp) rfl) trivial ?_
          refine p_step rfl (e_ext (v := .sc _) rfl (by simp) rfl) trivial ?_
          refine p_step rfl (e_assign (v := .sc _) rfl) trivial ?_
          refine p_step rfl (e_assign (v := .sc _) rfl) trivial ?_
          refine p_end (hK36 _ ?_); clear hK36 K36
          refine pwp_seq_gops rfl fun K37 hK37 => ?_
          refine g_begin ?_
          refine g_step rfl rfl rfl rfl (e_move (v := .sc _) rfl) trivial ?_
          refine g_step rfl rfl rfl rfl (e_eq rfl rfl) trivial ?_
          refine g_step rfl rfl rfl rfl (e_move (v := .sc _) rfl) trivial ?_
          refine g_cases (fun hb38 => ?_) (fun hb38 => ?_)
          ·try simp only [z1, z2, z3, z4, z5, z6, ne_eq, z7, z8, z9, z10, z11, z12] at hb38
           refine g_skip rfl rfl rfl ?_
           refine g_skip rfl rfl rfl ?_
           refine g_skip rfl rfl rfl ?_
           refine g_skip rfl rfl rfl ?_
           refine g_skip rfl rfl rfl ?_
           refine g_skip rfl rfl rfl ?_
           refine g_skip rfl rfl rfl ?_
           refine g_skip rfl rfl rfl ?_
           refine g_skip rfl rfl rfl ?_
           refine g_skip rfl rfl rfl ?_
           refine g_skip rfl rfl rfl ?_
           refine g_skip rfl rfl rfl ?_
           refine g_skip rfl rfl rfl ?_
           refine g_step rfl rfl rfl rfl (e_pickT (v := .sc _) rfl rfl) trivial ?_
           refine g_step rfl rfl rfl rfl (e_assign (v := .sc _) rfl) trivial ?_
           refine g_end (ds := [83, 84, 85, 86, 87, 88, 89, 90, 91, 92, 93, 94, 95]) rfl rfl (hK37 _ ?_); clear hK37 K37
           refine pwp_ret ?_
           refine end1 (v := .sc _) rfl ?_
           exact out_b (by first | rfl | (rw [Bool.eq_iff_iff]; simp only [decide_eq_true_eq, Bool.false_eq_true, eq_self_iff_true, true_iff, false_iff, iff_true, iff_false]; omega))
          ·try simp only [z1, z2, z3, z4, z5, z6, ne_eq, z7, z8, z9, z10, z11, z12] at hb38
           refine g_step rfl rfl rfl rfl (e_move (v := .sc _) rfl) trivial ?_
           refine g_step rfl rfl rfl rfl (e_eq rfl rfl) trivial ?_
           refine g_step rfl rfl rfl rfl (e_move (v := .sc _) rfl) trivial ?_
           refine g_cases (fun hb39 => ?_) (fun hb39 => ?_)
           ·try simp only [z1, z2, z3, z4, z5, z6, ne_eq, z7, z8, z9, z10, z11, z12] at hb39
            refine g_step rfl rfl rfl rfl (e_move (v := .sc _) rfl) trivial ?_
            refine g_step rfl rfl rfl rfl (e_move (v := .sc _) rfl) trivial ?_
            refine g_step rfl rfl rfl rfl (e_ge rfl rfl) trivial ?_
            refine g_step rfl rfl rfl rfl (e_pickT (v := .sc _) rfl rfl) trivial ?_
            refine g_step rfl rfl rfl rfl (e_move (v := .sc _) rfl) trivial ?_
            refine g_cases (fun hb40 => ?_) (fun hb40 => ?_)
            ·try simp only [z1, z2, z3, z4, z5, z6, ne_eq, z7, z8, z9, z10, z11, z12] at hb40
             refine g_step rfl rfl rfl rfl (e_move (v := .sc _) rfl) trivial ?_
             refine g_step rfl rfl rfl rfl (e_move (v := .sc _) rfl) trivial ?_
             refine g_step rfl rfl rfl rfl (e_add rfl rfl (by omega)) trivial ?_
             refine g_step rfl rfl rfl rfl (e_le rfl rfl) trivial ?_
             refine g_step rfl rfl rfl rfl (e_pickT (v := .sc _) rfl rfl) trivial ?_
             refine g_step rfl rfl rfl rfl (e_pickF (v := .sc _) rfl rfl) trivial ?_
             refine g_step rfl rfl rfl rfl (e_assign (v := .sc _) rfl) trivial ?_
             refine g_end (ds := [83, 84, 85, 86, 87, 88, 89, 90, 91, 92, 93, 94, 95]) rfl rfl (hK37 _ ?_); clear hK37 K37
             refine pwp_ret ?_
             refine end1 (v := .sc _) rfl ?_
             exact out_b (by first | rfl | (rw [Bool.eq_iff_iff]; simp only [decide_eq_true_eq, Bool.false_eq_true, eq_self_iff_true, true_iff, false_iff, iff_true, iff_false]; omega))
            ·try simp only [z1, z2, z3, z4, z5, z6, ne_eq, z7, z8, z9, z10, z11, z12] at hb40
             refine g_skip rfl rfl rfl ?_
             refine g_skip rfl rfl rfl ?_
             refine g_skip rfl rfl rfl ?_
             refine g_skip rfl rfl rfl ?_
             refine g_step rfl rfl rfl rfl (e_pickF (v := .sc _) rfl rfl) trivial ?_
             refine g_step rfl rfl rfl rfl (e_pickF (v := .sc _) rfl rfl) trivial ?_
             refine g_step rfl rfl rfl rfl (e_assign (v := .sc _) rfl) trivial ?_
             refine g_end (ds := [83, 84, 85, 86, 87, 88, 89, 90, 91, 92, 93, 94, 95]) rfl rfl (hK37 _ ?_); clear hK37 K37
             refine pwp_ret ?_
             refine end1 (v := .sc _) rfl ?_
             exact out_b (by first | rfl | (rw [Bool.eq_iff_iff]; simp only [decide_eq_true_eq, Bool.false_eq_true, eq_self_iff_true, true_iff, false_iff, iff_true, iff_false]; omega))
           ·try simp only [z1, z2, z3, z4, z5, z6, ne_eq, z7, z8, z9, z10, z11, z12] at hb39
            refine g_skip rfl rfl rfl ?_
            refine g_skip rfl rfl rfl ?_
            refine g_skip rfl rfl rfl ?_
            refine g_step rfl rfl rfl rfl (e_pickF (v := .sc _) rfl rfl) trivial ?_
            refine g_step rfl rfl rfl rfl (e_move (v := .sc _) rfl) trivial ?_
            refine g_skip rfl rfl rfl ?_
            refine g_skip rfl rfl rfl ?_
            refine g_skip rfl rfl rfl ?_
            refine g_skip rfl rfl rfl ?_
            refine g_step rfl rfl rfl rfl (e_pickF (v := .sc _) rfl rfl) trivial ?_
            refine g_step rfl rfl rfl rfl (e_pickF (v := .sc _) rfl rfl) trivial ?_
            refine g_step rfl rfl rfl rfl (e_assign (v := .sc _) rfl) trivial ?_
            refine g_end (ds := [83, 84, 85, 86, 87, 88, 89, 90, 91, 92, 93, 94, 95]) rfl rfl (hK37 _ ?_); clear hK37 K37
            refine pwp_ret ?_
            refine end1 (v := .sc _) rfl ?_
            exact out_b (by first | rfl | (rw [Bool.eq_iff_iff]; simp only [decide_eq_true_eq, Bool.false_eq_true, eq_self_iff_true, true_iff, false_iff, iff_true, iff_false]; omega))

end Go.Proofs.Ytdbpfhbppcpbbaa
