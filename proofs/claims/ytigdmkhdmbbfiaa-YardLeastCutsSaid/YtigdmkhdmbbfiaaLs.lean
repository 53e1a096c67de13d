/- The law of least cuts. No conditions. -/
import Derived.Test.YtigdmkhdmbbfiaaFn
import Derived.Test.YtigdmkhdmbbfiaaLd
import Derived.Test.YtigdmkhdmbbfiaaCu5
import Derived.Test.YtigdmkhdmbbfiaaAwake
set_option linter.unusedSimpArgs false
set_option linter.unusedVariables false
set_option maxRecDepth 100000
namespace Go.Proofs.Ytigdmkhdmbbfiaa
open Go Go.Pv
theorem fr3 : (inFrame Try.f3.ntmps (Try.f3.body.getD .skip) && Try.f3.results.toList.all (resScope Try.f3.ntmps)) = true := by kernel_rfl
theorem hLeast (t : Traffic) (hl1 : t.routes.length ≤ 9223372036854775807) (hl2 : t.supplies.length ≤ 9223372036854775807) (hl3 : t.needs.length ≤ 9223372036854775807) : PCalls Try.prog 3 [.agg t.enc] (.bool true) := by
 refine PCalls.of_code Try.func3 rfl rfl (by kernel_rfl) mixed fr3 (by show _ ≤ 40; simp) (.sc _) ?_
 refine pwp_seq_plain rfl fun K1 hK1 => ?_
 refine p_new rfl (e_box (n := 5) rfl rfl) ⟨rfl, by decide⟩ ?_
 refine p_aS rfl ?_
 refine p_end (hK1 _ ?_); clear hK1 K1
 refine pwp_seq_seq ?_
 refine pwp_seq_plain rfl fun K2 hK2 => ?_
 refine p_call rfl .nil (awake) ?_
 refine p_e rfl (e_not rfl) ?_
 refine p_end (hK2 _ ?_); clear hK2 K2
 refine pwp_seq_cond (t := false) rfl fun K3 hK3 => ⟨nofun, fun _ => ?_⟩
 refine pwp_skip ?_
 refine seq_norm (hK3 _ ?_); clear hK3 K3
 refine pwp_seq_seq ?_
 refine pwp_seq_gops rfl fun K4 hK4 => ?_
 refine g_begin ?_
 refine g_e rfl (e_loadHA (cs := Traffic.enc (t)) (n := 5) rfl (hset_self _ _ _) (by kernel_rfl) (by kernel_rfl) (by kernel_rfl) (by exact Nat.zero_lt_one) (by decide) rfl) ?_
 refine g_call rfl rfl rfl rfl (.cons (inn_agg (Traffic.pure _)) .nil) (fewC t (by omega) (by omega) (by omega)) ?_
 refine g_e rfl (e_not rfl) ?_
 refine g_mS rfl rfl ?_
 refine g_cases (fun hb5 => ?_) (fun hb5 => ?_)
 ·have hb5R := hb5; try simp only [zz] at hb5
  refine g_skip rfl rfl rfl ?_
  refine g_nocall rfl rfl rfl ?_
  refine g_skip rfl rfl rfl ?_
  refine g_pT rfl rfl rfl ?_
  refine g_mS rfl rfl ?_
  iterate 3 refine g_skip rfl rfl rfl ?_
  refine g_pT rfl rfl rfl ?_
  refine g_mS rfl rfl ?_
  iterate 3 refine g_skip rfl rfl rfl ?_
  refine g_pT rfl rfl rfl ?_
  refine g_end (ds := [12, 13, 14, 17, 18, 19, 22, 23, 24]) rfl rfl (hK4 _ ?_); clear hK4 K4
  refine pwp_seq_cond (t := true) rfl fun K6 hK6 => ⟨fun _ => ?_, nofun⟩
  refine pwp_seq_plain rfl fun K7 hK7 => ?_
  refine p_aS rfl ?_
  refine p_end (hK7 _ ?_); clear hK7 K7
  refine pwp_ret ?_
  refine ret_seq ?_
  refine end1 (v := .sc _) rfl ?_
  first
    | exact out_b rfl
    | exact out_b (decide_eq_true hle.symm)
    | exact out_b (by first | rfl | (exfalso; simp only [List.length_map] at *; omega) | (exfalso; simp_all; done) | (simp_all; done))
 ·have hb5R := hb5; try simp only [zz] at hb5
  refine g_e rfl (e_loadHA (cs := Traffic.enc (t)) (n := 5) rfl (hset_self _ _ _) (by kernel_rfl) (by kernel_rfl) (by kernel_rfl) (by exact Nat.zero_lt_one) (by decide) rfl) ?_
  refine g_call rfl rfl rfl rfl (.cons (inn_agg (Traffic.pure _)) .nil) (refTrafficC t (by omega) (by omega) (by omega)) ?_
  refine g_e rfl (e_ne rfl rfl) ?_
  refine g_pF rfl rfl rfl ?_
  refine g_mS rfl rfl ?_
  refine g_cases (fun hb8 => ?_) (fun hb8 => ?_)
  ·have hb8R := hb8; try simp only [zz] at hb8
   iterate 3 refine g_skip rfl rfl rfl ?_
   refine g_pT rfl rfl rfl ?_
   refine g_mS rfl rfl ?_
   iterate 3 refine g_skip rfl rfl rfl ?_
   refine g_pT rfl rfl rfl ?_
   refine g_end (ds := [12, 13, 14, 17, 18, 19, 22, 23, 24]) rfl rfl (hK4 _ ?_); clear hK4 K4
   refine pwp_seq_cond (t := true) rfl fun K9 hK9 => ⟨fun _ => ?_, nofun⟩
   refine pwp_seq_plain rfl fun K10 hK10 => ?_
   refine p_aS rfl ?_
   refine p_end (hK10 _ ?_); clear hK10 K10
   refine pwp_ret ?_
   refine ret_seq ?_
   refine end1 (v := .sc _) rfl ?_
   first
     | exact out_b rfl
     | exact out_b (decide_eq_true hle.symm)
     | exact out_b (by first | rfl | (exfalso; simp only [List.length_map] at *; omega) | (exfalso; simp_all; done) | (simp_all; done))
  ·have hb8R := hb8; try simp only [zz] at hb8
   refine g_e rfl (e_faQ pl5 rfl) ?_
   refine g_e rfl (e_lH (v := .sc _) rfl (hset_self _ _ _) rfl) ?_
   refine g_e rfl (e_gt rfl rfl) ?_
   refine g_pF rfl rfl rfl ?_
   refine g_mS rfl rfl ?_
   refine g_cases (fun hb11 => ?_) (fun hb11 => ?_)
   ·have hb11R := hb11; try simp only [zz] at hb11
    iterate 3 refine g_skip rfl rfl rfl ?_
    refine g_pT rfl rfl rfl ?_
    refine g_end (ds := [12, 13, 14, 17, 18, 19, 22, 23, 24]) rfl rfl (hK4 _ ?_); clear hK4 K4
    refine pwp_seq_cond (t := true) rfl fun K12 hK12 => ⟨fun _ => ?_, nofun⟩
    refine pwp_seq_plain rfl fun K13 hK13 => ?_
    refine p_aS rfl ?_
    refine p_end (hK13 _ ?_); clear hK13 K13
    refine pwp_ret ?_
    refine ret_seq ?_
    refine end1 (v := .sc _) rfl ?_
    first
      | exact out_b rfl
      | exact out_b (decide_eq_true hle.symm)
      | exact out_b (by first | rfl | (exfalso; simp only [List.length_map] at *; omega) | (exfalso; simp_all; done) | (simp_all; done))
   ·have hb11R := hb11; try simp only [zz] at hb11
    refine g_e rfl (e_faQ pl5 rfl) ?_
    refine g_e rfl (e_lH (v := .sc _) rfl (hset_self _ _ _) rfl) ?_
    refine g_e rfl (e_gt rfl rfl) ?_
    refine g_pF rfl rfl rfl ?_
    refine g_end (ds := [12, 13, 14, 17, 18, 19, 22, 23, 24]) rfl rfl (hK4 _ ?_); clear hK4 K4
    refine pwp_seq_cond rfl fun K14 hK14 => ⟨fun hb15 => ?_, fun hb15 => ?_⟩
    ·have hb15R := hb15; try simp only [zz] at hb15
     refine pwp_seq_plain rfl fun K16 hK16 => ?_
     refine p_aS rfl ?_
     refine p_end (hK16 _ ?_); clear hK16 K16
     refine pwp_ret ?_
     refine ret_seq ?_
     refine end1 (v := .sc _) rfl ?_
     first
       | exact out_b rfl
       | exact out_b (decide_eq_true hle.symm)
       | exact out_b (by first | rfl | (exfalso; simp only [List.length_map] at *; omega) | (exfalso; simp_all; done) | (simp_all; done))
    ·have hb15R := hb15; try simp only [zz] at hb15
     refine pwp_skip ?_
     refine seq_norm (hK14 _ ?_); clear hK14 K14
     refine pwp_seq_plain rfl fun K17 hK17 => ?_
     refine p_e rfl (e_loadHA (cs := Traffic.enc (t)) (n := 5) rfl (hset_self _ _ _) (by kernel_rfl) (by kernel_rfl) (by kernel_rfl) (by exact Nat.zero_lt_one) (by decide) rfl) ?_
     have htz : trafE t = 0 := by omega
     have hT := trafE_inv htz
     have q1 := hT.hA
     refine p_hcall rfl (cutH t (by omega) (by omega) (by omega) _ _) fun v16 h16 c16 hR16 => ?_
     obtain ⟨hO16, hc16⟩ := hR16
     have hbx2 := (hO16.1 (1, 0) rfl (by exact Nat.zero_lt_one)).trans (hset_self _ _ _)
     obtain ⟨_, u2, k, n, rfl, hsk, hkl, hkv, l2, hl2t⟩ := hc16.resolve_left (fun q => q.1 htz)
     have hle := least_n hT hl2t hkv
     refine p_e rfl (e_move (v := .tup _) rfl) ?_
     refine p_e rfl (e_ext (v := _) rfl (by simp) rfl) ?_
     refine p_e rfl (e_ext (v := .sc _) rfl (by simp) rfl) ?_
     refine p_e rfl (e_ext (v := .sc _) rfl (by simp) rfl) ?_
     refine p_e rfl (e_assign (v := _) rfl) ?_
     refine p_aS rfl ?_
     refine p_aS rfl ?_
     refine p_end (hK17 _ ?_); clear hK17 K17
     refine pwp_seq_gops rfl fun K18 hK18 => ?_
     refine g_begin ?_
     refine g_mS rfl rfl ?_
     refine g_e rfl (e_eq rfl rfl) ?_
     refine g_mS rfl rfl ?_
     refine g_cases (fun hb19 => ?_) (fun hb19 => ?_)
     ·have hb19R := hb19; try simp only [zz] at hb19
      refine g_mS rfl rfl ?_
      refine g_e rfl (e_loadHA (cs := Traffic.enc (t)) (n := 5) rfl hbx2 (by kernel_rfl) (by kernel_rfl) (by kernel_rfl) (by exact Nat.zero_lt_one) (by decide) rfl) ?_
      refine g_call rfl rfl rfl rfl (.cons (inn_agg (Traffic.pure _)) (.cons inn_nil .nil)) (leastC t htz t.places.toNat [] (fun x hx => absurd hx List.not_mem_nil) (by rw [List.length_nil]; omega)) ?_
      refine g_e rfl (e_eq rfl rfl) ?_
      refine g_pT rfl rfl rfl ?_
      refine g_aS rfl rfl ?_
      refine g_end (ds := [35, 36, 37, 38]) rfl rfl (hK18 _ ?_); clear hK18 K18
      refine pwp_ret ?_
      refine end1 (v := .sc _) rfl ?_
      first
        | exact out_b rfl
        | exact out_b (decide_eq_true hle.symm)
        | exact out_b (by first | rfl | (exfalso; simp only [List.length_map] at *; omega) | (exfalso; simp_all; done) | (simp_all; done))
     ·have hb19R := hb19; try simp only [zz] at hb19
      iterate 2 refine g_skip rfl rfl rfl ?_
      refine g_nocall rfl rfl rfl ?_
      refine g_skip rfl rfl rfl ?_
      refine g_pF rfl rfl rfl ?_
      refine g_aS rfl rfl ?_
      refine g_end (ds := [35, 36, 37, 38]) rfl rfl (hK18 _ ?_); clear hK18 K18
      refine pwp_ret ?_
      refine end1 (v := .sc _) rfl ?_
      first
        | exact out_b rfl
        | exact out_b (decide_eq_true hle.symm)
        | exact out_b (by first | rfl | (exfalso; simp only [List.length_map] at *; omega) | (exfalso; simp_all; done) | (simp_all; done))

end Go.Proofs.Ytigdmkhdmbbfiaa
