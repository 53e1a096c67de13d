/- What a cut is worth, as the program tells it. No conditions. -/
import Derived.Test.YtigdmkhdmbbfiaaCu1
set_option linter.unusedSimpArgs false
set_option linter.unusedVariables false
set_option maxRecDepth 100000
namespace Go.Proofs.Ytigdmkhdmbbfiaa
open Go Go.Pv
theorem fr113 : (inFrame Try.f113.ntmps (Try.f113.body.getD .skip) && Try.f113.results.toList.all (resScope Try.f113.ntmps)) = true := by kernel_rfl
theorem isNaNC (a : Int) : PCalls Try.prog 113 [.int a] (.bool false) := by
 refine PCalls.of_code Try.func113 rfl rfl (by kernel_rfl) mixed fr113 (by show _ ≤ 6; simp) (.sc _) ?_
 refine pwp_seq_plain rfl fun K1 hK1 => ?_
 refine p_aS rfl ?_
 refine p_end (hK1 _ ?_); clear hK1 K1
 refine pwp_seq_plain rfl fun K2 hK2 => ?_
 refine p_mS rfl ?_
 refine p_mS rfl ?_
 refine p_e rfl (e_ne rfl rfl) ?_
 refine p_aS rfl ?_
 refine p_end (hK2 _ ?_); clear hK2 K2
 refine pwp_ret ?_
 refine end1 (v := .sc _) rfl ?_
 exact out_b (by simp)

end Go.Proofs.Ytigdmkhdmbbfiaa
