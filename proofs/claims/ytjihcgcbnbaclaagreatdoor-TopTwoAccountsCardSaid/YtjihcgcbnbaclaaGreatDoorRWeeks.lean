import Derived.Test.YtjihcgcbnbaclaaGreatDoorRDay
set_option linter.unusedSimpArgs false
set_option linter.unusedVariables false
namespace Go.Proofs.YtjihcgcbnbaclaaGreatDoor.Y9
open Go Go.Pv Go.Proofs.YtjihcgcbnbaclaaGreatDoor
theorem fr43 : (inFrame Tryz.f43.ntmps (Tryz.f43.body.getD .skip) && Tryz.f43.results.toList.all (resScope Tryz.f43.ntmps)) = true := by kernel_rfl
theorem weeks (i o l : Int) (h1 : 0 ≤ i ∧ i ≤ 20000) (h2 : 0 ≤ o ∧ o ≤ 20000) (h3 : i ≤ o) (h4 : 0 ≤ l ∧ l ≤ 520) : PCalls Tryz.prog 43 [.int i, .int o, .int l] (.int (max l ((o - i + 7) / 7))) := by
 refine PCalls.of_code Tryz.func43 rfl rfl (by kernel_rfl) mixed fr43 (by show _ ≤ 15; simp) (.sc _) (pwp_seq_plain rfl fun K1 hK1 => p_step rfl (e_assign (v := .sc _) rfl) trivial (p_end (hK1 _ ?_))); clear hK1 K1;refine pwp_seq_plain rfl fun K2 hK2 => p_step rfl (e_move (v := .sc _) rfl) trivial (p_step rfl (e_move (v := .sc _) rfl) trivial (p_step rfl (e_move (v := .sc _) rfl) trivial (p_step rfl (e_sub rfl rfl (by omega)) trivial (p_step rfl (e_add rfl rfl (by omega)) trivial (p_step rfl (e_add rfl rfl (by omega)) trivial (p_step rfl (e_quo rfl rfl (by omega) (by omega) (by omega)) trivial ?_))))));refine p_step rfl (e_max rfl rfl) trivial (p_step rfl (e_assign (v := .sc _) rfl) trivial (p_end (hK2 _ ?_))); clear hK2 K2;refine pwp_ret (end1 (v := .sc _) rfl ?_);exact out_i (by omega)
end Go.Proofs.YtjihcgcbnbaclaaGreatDoor.Y9
