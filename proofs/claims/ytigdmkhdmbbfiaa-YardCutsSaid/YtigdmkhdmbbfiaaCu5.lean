/- The law of cuts. No conditions. -/
import Derived.Test.YtigdmkhdmbbfiaaCu4
import Derived.Test.YtigdmkhdmbbfiaaAwake
set_option linter.unusedSimpArgs false
set_option linter.unusedVariables false
set_option maxRecDepth 100000
namespace Go.Proofs.Ytigdmkhdmbbfiaa
open Go Go.Pv
def fewB (t : Traffic) : Bool := decide ((t.routes.length : Int) ≤ 50 ∧ (t.supplies.length : Int) ≤ 50 ∧ (t.needs.length : Int) ≤ 50)
theorem fewB_t {t : Traffic} (h : fewB t = true) : t.routes.length ≤ 50 ∧ t.supplies.length ≤ 50 ∧ t.needs.length ≤ 50 := by
 have := of_decide_eq_true h; omega
theorem cut_e {t : Traffic} {l : List At} (h : ¬ trafE t = 0) : (cutW t l).1 = 0 ∧ (cutW t l).2 = trafE t := by rw [← cw_e h]; exact ⟨rfl, rfl⟩
theorem cut_0 {t : Traffic} {l : List At} (h : trafE t = 0) : (cutW t l).1 = (cutV t l).1 ∧ (cutW t l).2 = (cutV t l).2 := by rw [cw_0 h]; exact ⟨rfl, rfl⟩
theorem fr14 : (inFrame Try.f14.ntmps (Try.f14.body.getD .skip) && Try.f14.results.toList.all (resScope Try.f14.ntmps)) = true := by kernel_rfl
theorem fewC (t : Traffic) (hl1 : t.routes.length ≤ 9223372036854775807) (hl2 : t.supplies.length ≤ 9223372036854775807) (hl3 : t.needs.length ≤ 9223372036854775807) : PCalls Try.prog 14 [.agg t.enc] (.bool (fewB t)) := by
 refine PCalls.of_code Try.func14 rfl rfl (by kernel_rfl) mixed fr14 (by show _ ≤ 19; simp) (.sc _) ?_
 refine pwp_seq_plain rfl fun K1 hK1 => ?_
 refine p_new rfl (e_box (n := 5) rfl rfl) ⟨rfl, by decide⟩ ?_
 refine p_aS rfl ?_
 refine p_end (hK1 _ ?_); clear hK1 K1
 refine pwp_seq_gops rfl fun K2 hK2 => ?_
 refine g_begin ?_
 refine g_e rfl (e_faQ pl5 rfl) ?_
 refine g_e rfl (e_lH (v := .lit _ _ _) rfl (hset_self _ _ _) rfl) ?_
 refine g_e rfl (e_len rfl (by kernel_rfl)) ?_
 refine g_e rfl (e_le rfl rfl) ?_
 refine g_mS rfl rfl ?_
 refine g_cases (fun hb3 => ?_) (fun hb3 => ?_)
 ·have hb3R := hb3; try simp only [zz] at hb3
  refine g_e rfl (e_faQ pl5 rfl) ?_
  refine g_e rfl (e_lH (v := .lit _ _ _) rfl (hset_self _ _ _) rfl) ?_
  refine g_e rfl (e_len rfl (by kernel_rfl)) ?_
  refine g_e rfl (e_le rfl rfl) ?_
  refine g_pT rfl rfl rfl ?_
  refine g_mS rfl rfl ?_
  refine g_cases (fun hb4 => ?_) (fun hb4 => ?_)
  ·have hb4R := hb4; try simp only [zz] at hb4
   refine g_e rfl (e_faQ pl5 rfl) ?_
   refine g_e rfl (e_lH (v := .lit _ _ _) rfl (hset_self _ _ _) rfl) ?_
   refine g_e rfl (e_len rfl (by kernel_rfl)) ?_
   refine g_e rfl (e_le rfl rfl) ?_
   refine g_pT rfl rfl rfl ?_
   refine g_aS rfl rfl ?_
   refine g_end (ds := [8, 9, 10, 11, 14, 15, 16, 17]) rfl rfl (hK2 _ ?_); clear hK2 K2
   refine pwp_ret ?_
   refine end1 (v := .sc _) rfl ?_
   exact out_b (by rw [Bool.eq_iff_iff, fewB]; simp only [decide_eq_true_eq, Bool.false_eq_true, eq_self_iff_true, true_iff, false_iff, iff_true, iff_false, Bool.and_eq_true] <;> first | omega | (simp only [List.length_map] at *; omega))
  ·have hb4R := hb4; try simp only [zz] at hb4
   iterate 4 refine g_skip rfl rfl rfl ?_
   refine g_pF rfl rfl rfl ?_
   refine g_aS rfl rfl ?_
   refine g_end (ds := [8, 9, 10, 11, 14, 15, 16, 17]) rfl rfl (hK2 _ ?_); clear hK2 K2
   refine pwp_ret ?_
   refine end1 (v := .sc _) rfl ?_
   exact out_b (by rw [Bool.eq_iff_iff, fewB]; simp only [decide_eq_true_eq, Bool.false_eq_true, eq_self_iff_true, true_iff, false_iff, iff_true, iff_false, Bool.and_eq_true] <;> first | omega | (simp only [List.length_map] at *; omega))
 ·have hb3R := hb3; try simp only [zz] at hb3
  iterate 4 refine g_skip rfl rfl rfl ?_
  refine g_pF rfl rfl rfl ?_
  refine g_mS rfl rfl ?_
  iterate 4 refine g_skip rfl rfl rfl ?_
  refine g_pF rfl rfl rfl ?_
  refine g_aS rfl rfl ?_
  refine g_end (ds := [8, 9, 10, 11, 14, 15, 16, 17]) rfl rfl (hK2 _ ?_); clear hK2 K2
  refine pwp_ret ?_
  refine end1 (v := .sc _) rfl ?_
  exact out_b (by rw [Bool.eq_iff_iff, fewB]; simp only [decide_eq_true_eq, Bool.false_eq_true, eq_self_iff_true, true_iff, false_iff, iff_true, iff_false, Bool.and_eq_true] <;> first | omega | (simp only [List.length_map] at *; omega))

theorem fr6 : (inFrame Try.f6.ntmps (Try.f6.body.getD .skip) && Try.f6.results.toList.all (resScope Try.f6.ntmps)) = true := by kernel_rfl
theorem hCuts (t : Traffic) (l : List At) (hl1 : t.routes.length ≤ 9223372036854775807) (hl2 : t.supplies.length ≤ 9223372036854775807) (hl3 : t.needs.length ≤ 9223372036854775807) (hl : l.length ≤ 9223372036854775807) : PCalls Try.prog 6 [.agg t.enc, .lit true 2 (l.map At.enc)] (.bool true) := by
 refine PCalls.of_code Try.func6 rfl rfl (by kernel_rfl) mixed fr6 (by show _ ≤ 51; simp) (.sc _) ?_
 refine pwp_seq_plain rfl fun K1 hK1 => ?_
 refine p_new rfl (e_box (n := 5) rfl rfl) ⟨rfl, by decide⟩ ?_
 refine p_aS rfl ?_
 refine p_end (hK1 _ ?_); clear hK1 K1
 refine pwp_seq_seq ?_
 refine pwp_seq_plain rfl fun K2 hK2 => ?_
 refine p_call rfl .nil (awake) ?_
 refine p_e rfl (e_not rfl) ?_
 refine p_end (hK2 _ ?_); clear hK2 K2
 refine pwp_seq_cond (t := false) rfl fun K3 hK3 => ⟨nofun, fun _ => ?_⟩
 refine pwp_skip ?_
 refine seq_norm (hK3 _ ?_); clear hK3 K3
 refine pwp_seq_seq ?_
 refine pwp_seq_gops rfl fun K4 hK4 => ?_
 refine g_begin ?_
 refine g_e rfl (e_loadHA (cs := Traffic.enc (t)) (n := 5) rfl (hset_self _ _ _) (by kernel_rfl) (by kernel_rfl) (by kernel_rfl) (by exact Nat.zero_lt_one) (by decide) rfl) ?_
 refine g_call rfl rfl rfl rfl (.cons (inn_agg (Traffic.pure _)) .nil) (fewC t (by omega) (by omega) (by omega)) ?_
 refine g_e rfl (e_not rfl) ?_
 refine g_mS rfl rfl ?_
 refine g_cases (fun hb5 => ?_) (fun hb5 => ?_)
 ·have hb5R := hb5; try simp only [zz] at hb5
  iterate 3 refine g_skip rfl rfl rfl ?_
  refine g_pT rfl rfl rfl ?_
  refine g_end (ds := [16, 17, 18]) rfl rfl (hK4 _ ?_); clear hK4 K4
  refine pwp_seq_cond (t := true) rfl fun K6 hK6 => ⟨fun _ => ?_, nofun⟩
  refine pwp_seq_plain rfl fun K7 hK7 => ?_
  refine p_aS rfl ?_
  refine p_end (hK7 _ ?_); clear hK7 K7
  refine pwp_ret ?_
  refine ret_seq ?_
  refine end1 (v := .sc _) rfl ?_
  first
    | exact out_b rfl
    | (have q := cut_e (l := l) (t := t) (by omega); exact out_b (by first | rfl | (rw [Bool.eq_iff_iff]; simp only [decide_eq_true_eq, Bool.false_eq_true, false_iff, iff_true, iff_false]; omega) | (exfalso; omega)))
    | (have q := cut_0 (l := l) (t := t) (by omega); exact out_b (by first | rfl | (rw [Bool.eq_iff_iff]; simp only [decide_eq_true_eq, Bool.false_eq_true, false_iff, iff_true, iff_false]; omega) | (exfalso; omega)))
    | exact absurd rfl (by assumption)
 ·have hb5R := hb5; try simp only [zz] at hb5
  refine g_e rfl (e_move (v := .lit _ _ _) rfl) ?_
  refine g_e rfl (e_len rfl (by kernel_rfl)) ?_
  refine g_e rfl (e_gt rfl rfl) ?_
  refine g_pF rfl rfl rfl ?_
  refine g_end (ds := [16, 17, 18]) rfl rfl (hK4 _ ?_); clear hK4 K4
  refine pwp_seq_cond rfl fun K8 hK8 => ⟨fun hb9 => ?_, fun hb9 => ?_⟩
  ·have hb9R := hb9; try simp only [zz] at hb9
   refine pwp_seq_plain rfl fun K10 hK10 => ?_
   refine p_aS rfl ?_
   refine p_end (hK10 _ ?_); clear hK10 K10
   refine pwp_ret ?_
   refine ret_seq ?_
   refine end1 (v := .sc _) rfl ?_
   first
     | exact out_b rfl
     | (have q := cut_e (l := l) (t := t) (by omega); exact out_b (by first | rfl | (rw [Bool.eq_iff_iff]; simp only [decide_eq_true_eq, Bool.false_eq_true, false_iff, iff_true, iff_false]; omega) | (exfalso; omega)))
     | (have q := cut_0 (l := l) (t := t) (by omega); exact out_b (by first | rfl | (rw [Bool.eq_iff_iff]; simp only [decide_eq_true_eq, Bool.false_eq_true, false_iff, iff_true, iff_false]; omega) | (exfalso; omega)))
     | exact absurd rfl (by assumption)
  ·have hb9R := hb9; try simp only [zz] at hb9
   refine pwp_skip ?_
   refine seq_norm (hK8 _ ?_); clear hK8 K8
   have hfw := fewB_t (t := t) (by assumption)
   refine pwp_seq_plain rfl fun K11 hK11 => ?_
   refine p_e rfl (e_loadHA (cs := Traffic.enc (t)) (n := 5) rfl (hset_self _ _ _) (by kernel_rfl) (by kernel_rfl) (by kernel_rfl) (by exact Nat.zero_lt_one) (by decide) rfl) ?_
   refine p_e rfl (e_move (v := .lit _ _ _) rfl) ?_
   refine p_call rfl (.cons (inn_agg (Traffic.pure _)) (.cons inn_lit .nil)) (CheckCutC t l (by omega) (by omega) (by omega) (by omega)) ?_
   refine p_e rfl (e_move (v := .tup _) rfl) ?_
   refine p_e rfl (e_ext (v := .sc _) rfl (by simp) rfl) ?_
   refine p_e rfl (e_ext (v := .sc _) rfl (by simp) rfl) ?_
   refine p_aS rfl ?_
   refine p_aS rfl ?_
   refine p_end (hK11 _ ?_); clear hK11 K11
   refine pwp_seq_seq ?_
   refine pwp_seq_plain rfl fun K12 hK12 => ?_
   refine p_e rfl (e_loadHA (cs := Traffic.enc (t)) (n := 5) rfl (hset_self _ _ _) (by kernel_rfl) (by kernel_rfl) (by kernel_rfl) (by exact Nat.zero_lt_one) (by decide) rfl) ?_
   refine p_call rfl (.cons (inn_agg (Traffic.pure _)) .nil) (refTrafficC t (by omega) (by omega) (by omega)) ?_
   refine p_aS rfl ?_
   refine p_end (hK12 _ ?_); clear hK12 K12
   refine pwp_seq_seq ?_
   refine pwp_seq_plain rfl fun K13 hK13 => ?_
   refine p_mS rfl ?_
   refine p_e rfl (e_ne rfl rfl) ?_
   refine p_end (hK13 _ ?_); clear hK13 K13
   refine pwp_seq_cond rfl fun K14 hK14 => ⟨fun hb15 => ?_, fun hb15 => ?_⟩
   ·have hb15R := hb15; try simp only [zz] at hb15
    refine pwp_seq_gops rfl fun K16 hK16 => ?_
    refine g_begin ?_
    refine g_mS rfl rfl ?_
    refine g_mS rfl rfl ?_
    refine g_e rfl (e_eq rfl rfl) ?_
    refine g_mS rfl rfl ?_
    refine g_cases (fun hb17 => ?_) (fun hb17 => ?_)
    ·have hb17R := hb17; try simp only [zz] at hb17
     refine g_mS rfl rfl ?_
     refine g_e rfl (e_eq rfl rfl) ?_
     refine g_pT rfl rfl rfl ?_
     refine g_aS rfl rfl ?_
     refine g_end (ds := [34, 35]) rfl rfl (hK16 _ ?_); clear hK16 K16
     refine pwp_ret ?_
     refine ret_seq ?_
     refine end1 (v := .sc _) rfl ?_
     first
       | exact out_b rfl
       | (have q := cut_e (l := l) (t := t) (by omega); exact out_b (by first | rfl | (rw [Bool.eq_iff_iff]; simp only [decide_eq_true_eq, Bool.false_eq_true, false_iff, iff_true, iff_false]; omega) | (exfalso; omega)))
       | (have q := cut_0 (l := l) (t := t) (by omega); exact out_b (by first | rfl | (rw [Bool.eq_iff_iff]; simp only [decide_eq_true_eq, Bool.false_eq_true, false_iff, iff_true, iff_false]; omega) | (exfalso; omega)))
       | exact absurd rfl (by assumption)
    ·have hb17R := hb17; try simp only [zz] at hb17
     iterate 2 refine g_skip rfl rfl rfl ?_
     refine g_pF rfl rfl rfl ?_
     refine g_aS rfl rfl ?_
     refine g_end (ds := [34, 35]) rfl rfl (hK16 _ ?_); clear hK16 K16
     refine pwp_ret ?_
     refine ret_seq ?_
     refine end1 (v := .sc _) rfl ?_
     first
       | exact out_b rfl
       | (have q := cut_e (l := l) (t := t) (by omega); exact out_b (by first | rfl | (rw [Bool.eq_iff_iff]; simp only [decide_eq_true_eq, Bool.false_eq_true, false_iff, iff_true, iff_false]; omega) | (exfalso; omega)))
       | (have q := cut_0 (l := l) (t := t) (by omega); exact out_b (by first | rfl | (rw [Bool.eq_iff_iff]; simp only [decide_eq_true_eq, Bool.false_eq_true, false_iff, iff_true, iff_false]; omega) | (exfalso; omega)))
       | exact absurd rfl (by assumption)
   ·have hb15R := hb15; try simp only [zz] at hb15
    refine pwp_skip ?_
    refine seq_norm (hK14 _ ?_); clear hK14 K14
    refine pwp_seq_plain rfl fun K18 hK18 => ?_
    refine p_e rfl (e_loadHA (cs := Traffic.enc (t)) (n := 5) rfl (hset_self _ _ _) (by kernel_rfl) (by kernel_rfl) (by kernel_rfl) (by exact Nat.zero_lt_one) (by decide) rfl) ?_
    refine p_e rfl (e_move (v := .lit _ _ _) rfl) ?_
    refine p_call rfl (.cons (inn_agg (Traffic.pure _)) (.cons inn_lit .nil)) (refCutC t l (by omega) (by omega)) ?_
    refine p_e rfl (e_move (v := .tup _) rfl) ?_
    refine p_e rfl (e_ext (v := .sc _) rfl (by simp) rfl) ?_
    refine p_e rfl (e_ext (v := .sc _) rfl (by simp) rfl) ?_
    refine p_aS rfl ?_
    refine p_aS rfl ?_
    refine p_end (hK18 _ ?_); clear hK18 K18
    refine pwp_seq_gops rfl fun K19 hK19 => ?_
    refine g_begin ?_
    refine g_mS rfl rfl ?_
    refine g_mS rfl rfl ?_
    refine g_e rfl (e_eq rfl rfl) ?_
    refine g_mS rfl rfl ?_
    refine g_cases (fun hb20 => ?_) (fun hb20 => ?_)
    ·have hb20R := hb20; try simp only [zz] at hb20
     refine g_mS rfl rfl ?_
     refine g_mS rfl rfl ?_
     refine g_e rfl (e_eq rfl rfl) ?_
     refine g_pT rfl rfl rfl ?_
     refine g_aS rfl rfl ?_
     refine g_end (ds := [47, 48, 49]) rfl rfl (hK19 _ ?_); clear hK19 K19
     refine pwp_ret ?_
     refine end1 (v := .sc _) rfl ?_
     first
       | exact out_b rfl
       | (have q := cut_e (l := l) (t := t) (by omega); exact out_b (by first | rfl | (rw [Bool.eq_iff_iff]; simp only [decide_eq_true_eq, Bool.false_eq_true, false_iff, iff_true, iff_false]; omega) | (exfalso; omega)))
       | (have q := cut_0 (l := l) (t := t) (by omega); exact out_b (by first | rfl | (rw [Bool.eq_iff_iff]; simp only [decide_eq_true_eq, Bool.false_eq_true, false_iff, iff_true, iff_false]; omega) | (exfalso; omega)))
       | exact absurd rfl (by assumption)
    ·have hb20R := hb20; try simp only [zz] at hb20
     iterate 3 refine g_skip rfl rfl rfl ?_
     refine g_pF rfl rfl rfl ?_
     refine g_aS rfl rfl ?_
     refine g_end (ds := [47, 48, 49]) rfl rfl (hK19 _ ?_); clear hK19 K19
     refine pwp_ret ?_
     refine end1 (v := .sc _) rfl ?_
     first
       | exact out_b rfl
       | (have q := cut_e (l := l) (t := t) (by omega); exact out_b (by first | rfl | (rw [Bool.eq_iff_iff]; simp only [decide_eq_true_eq, Bool.false_eq_true, false_iff, iff_true, iff_false]; omega) | (exfalso; omega)))
       | (have q := cut_0 (l := l) (t := t) (by omega); exact out_b (by first | rfl | (rw [Bool.eq_iff_iff]; simp only [decide_eq_true_eq, Bool.false_eq_true, false_iff, iff_true, iff_false]; omega) | (exfalso; omega)))
       | exact absurd rfl (by assumption)

end Go.Proofs.Ytigdmkhdmbbfiaa
