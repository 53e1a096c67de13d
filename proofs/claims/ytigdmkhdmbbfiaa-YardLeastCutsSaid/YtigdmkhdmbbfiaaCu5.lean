/- The law of cuts. No conditions. -/
import Derived.Test.YtigdmkhdmbbfiaaCu4
import Derived.Test.YtigdmkhdmbbfiaaAwake
set_option linter.unusedSimpArgs false
set_option linter.unusedVariables false
set_option maxRecDepth 100000
namespace Go.Proofs.Ytigdmkhdmbbfiaa
open Go Go.Pv
def fewB (t : Traffic) : Bool := decide ((t.routes.length : Int) ≤ 50 ∧ (t.supplies.length : Int) ≤ 50 ∧ (t.needs.length : Int) ≤ 50)
theorem fr14 : (inFrame Try.f14.ntmps (Try.f14.body.getD .skip) && Try.f14.results.toList.all (resScope Try.f14.ntmps)) = true := by kernel_rfl
theorem fewC (t : Traffic) (hl1 : t.routes.length ≤ 9223372036854775807) (hl2 : t.supplies.length ≤ 9223372036854775807) (hl3 : t.needs.length ≤ 9223372036854775807) : PCalls Try.prog 14 [.agg t.enc] (.bool (fewB t)) := by
 refine PCalls.of_code Try.func14 rfl rfl (by kernel_rfl) mixed fr14 (by show _ ≤ 19; simp) (.sc _) ?_
 refine pwp_seq_plain rfl fun K1 hK1 => ?_
 refine p_new rfl (e_box (n := 5) rfl rfl) ⟨rfl, by decide⟩ ?_
 refine p_aS rfl ?_
 refine p_end (hK1 _ ?_); clear hK1 K1
 refine pwp_seq_gops rfl fun K2 hK2 => ?_
 refine g_begin ?_
 refine g_e rfl (e_faQ pl5 rfl) ?_
 refine g_e rfl (e_lH (v := .lit _ _ _) rfl (hset_self _ _ _) rfl) ?_
 refine g_e rfl (e_len rfl (by kernel_rfl)) ?_
 refine g_e rfl (e_le rfl rfl) ?_
 refine g_mS rfl rfl ?_
 refine g_cases (fun hb3 => ?_) (fun hb3 => ?_)
 ·have hb3R := hb3; try simp only [zz] at hb3
  refine g_e rfl (e_faQ pl5 rfl) ?_
  refine g_e rfl (e_lH (v := .lit _ _ _) rfl (hset_self _ _ _) rfl) ?_
  refine g_e rfl (e_len rfl (by kernel_rfl)) ?_
  refine g_e rfl (e_le rfl rfl) ?_
  refine g_pT rfl rfl rfl ?_
  refine g_mS rfl rfl ?_
  refine g_cases (fun hb4 => ?_) (fun hb4 => ?_)
  ·have hb4R := hb4; try simp only [zz] at hb4
   refine g_e rfl (e_faQ pl5 rfl) ?_
   refine g_e rfl (e_lH (v := .lit _ _ _) rfl (hset_self _ _ _) rfl) ?_
   refine g_e rfl (e_len rfl (by kernel_rfl)) ?_
   refine g_e rfl (e_le rfl rfl) ?_
   refine g_pT rfl rfl rfl ?_
   refine g_aS rfl rfl ?_
   refine g_end (ds := [8, 9, 10, 11, 14, 15, 16, 17]) rfl rfl (hK2 _ ?_); clear hK2 K2
   refine pwp_ret ?_
   refine end1 (v := .sc _) rfl ?_
   exact out_b (by rw [Bool.eq_iff_iff, fewB]; simp only [decide_eq_true_eq, Bool.false_eq_true, eq_self_iff_true, true_iff, false_iff, iff_true, iff_false, Bool.and_eq_true] <;> first | omega | (simp only [List.length_map] at *; omega))
  ·have hb4R := hb4; try simp only [zz] at hb4
   iterate 4 refine g_skip rfl rfl rfl ?_
   refine g_pF rfl rfl rfl ?_
   refine g_aS rfl rfl ?_
   refine g_end (ds := [8, 9, 10, 11, 14, 15, 16, 17]) rfl rfl (hK2 _ ?_); clear hK2 K2
   refine pwp_ret ?_
   refine end1 (v := .sc _) rfl ?_
   exact out_b (by rw [Bool.eq_iff_iff, fewB]; simp only [decide_eq_true_eq, Bool.false_eq_true, eq_self_iff_true, true_iff, false_iff, iff_true, iff_false, Bool.and_eq_true] <;> first | omega | (simp only [List.length_map] at *; omega))
 ·have hb3R := hb3; try simp only [zz] at hb3
  iterate 4 refine g_skip rfl rfl rfl ?_
  refine g_pF rfl rfl rfl ?_
  refine g_mS rfl rfl ?_
  iterate 4 refine g_skip rfl rfl rfl ?_
  refine g_pF rfl rfl rfl ?_
  refine g_aS rfl rfl ?_
  refine g_end (ds := [8, 9, 10, 11, 14, 15, 16, 17]) rfl rfl (hK2 _ ?_); clear hK2 K2
  refine pwp_ret ?_
  refine end1 (v := .sc _) rfl ?_
  exact out_b (by rw [Bool.eq_iff_iff, fewB]; simp only [decide_eq_true_eq, Bool.false_eq_true, eq_self_iff_true, true_iff, false_iff, iff_true, iff_false, Bool.and_eq_true] <;> first | omega | (simp only [List.length_map] at *; omega))

end Go.Proofs.Ytigdmkhdmbbfiaa
