import Derived.Test.YtjihcgcbnbaclaaGreatDoorRKey
import Derived.KernelRfl
import Derived.Test.YtjihcgcbnbaclaaGreatDoorPvGg
set_option linter.unusedSimpArgs false
set_option linter.unusedVariables false
namespace Go.Proofs.YtjihcgcbnbaclaaGreatDoor.Y9
open Go Go.Pv
set_option maxRecDepth 100000
theorem mixed : Tryz.prog.follows .mixedOrders = true := by kernel_rfl
end Go.Proofs.YtjihcgcbnbaclaaGreatDoor.Y9

set_option linter.unusedSimpArgs false
set_option linter.unusedVariables false
set_option maxRecDepth 100000
namespace Go.Proofs.YtjihcgcbnbaclaaGreatDoor.Y9
open Go Go.Pv Go.Proofs.YtjihcgcbnbaclaaGreatDoor
theorem z1 {p : Prop} [Decidable p] : (decide p = true) = p := decide_eq_true_eq
theorem z2 {p : Prop} [Decidable p] : decide p = false ↔ ¬ p := decide_eq_false_iff_not
theorem z3 (b : Bool) : ((!b) = true) = (b = false) := Bool.not_eq_true' b
theorem z4 (b : Bool) : ((!b) = false) = (b = true) := Bool.not_eq_false' b
theorem z5 {a b : Int} : ¬ a < b ↔ b ≤ a := Int.not_lt
theorem z6 {a b : Int} : ¬ a ≤ b ↔ b < a := Int.not_le
theorem z7 {p : Prop} [Decidable p] : ¬ ¬ p ↔ p := Decidable.not_not
theorem z8 {α β : Type _} {l : List α} {f : α → β} : (l.map f).length = l.length := List.length_map f
theorem z9 (a b : Bool) : ((a || b) = true) = (a = true ∨ b = true) := Bool.or_eq_true a b
theorem z10 (a b : Bool) : ((a && b) = true) = (a = true ∧ b = true) := Bool.and_eq_true a b
theorem z11 {a b : Bool} : (a || b) = false ↔ a = false ∧ b = false := Bool.or_eq_false_iff
theorem z12 {a b : Bool} : (a && b) = false ↔ a = false ∨ b = false := Bool.and_eq_false_iff
theorem fr8 : (inFrame Tryz.f8.ntmps (Tryz.f8.body.getD .skip) && Tryz.f8.results.toList.all (resScope Tryz.f8.ntmps)) = true := by kernel_rfl
theorem Within (n lo hi : Int) : PCalls Tryz.prog 8 [.int n, .int lo, .int hi] (.bool (decide (lo ≤ n ∧ n ≤ hi))) := by
 refine PCalls.of_code Tryz.func8 rfl rfl (by kernel_rfl) mixed fr8 (by show _ ≤ 15; simp) (.sc _) (pwp_seq_plain rfl fun K1 hK1 => p_step rfl (e_assign (v := .sc _) rfl) trivial (p_end (hK1 _ ?_))); clear hK1 K1;refine pwp_seq_gops rfl fun K2 hK2 => g_begin (g_step rfl rfl rfl rfl (e_move (v := .sc _) rfl) trivial (g_step rfl rfl rfl rfl (e_move (v := .sc _) rfl) trivial (g_step rfl rfl rfl rfl (e_ge rfl rfl) trivial (g_step rfl rfl rfl rfl (e_move (v := .sc _) rfl) trivial ?_))));refine g_cases (fun hb3 => ?_) (fun hb3 => ?_)
 ·try simp only [z1, z2, z3, z4, z5, z6, ne_eq, z7, z8, z9, z10, z11, z12] at hb3
  refine g_step rfl rfl rfl rfl (e_move (v := .sc _) rfl) trivial (g_step rfl rfl rfl rfl (e_move (v := .sc _) rfl) trivial (g_step rfl rfl rfl rfl (e_le rfl rfl) trivial (g_step rfl rfl rfl rfl (e_pickT (v := .sc _) rfl rfl) trivial (g_step rfl rfl rfl rfl (e_assign (v := .sc _) rfl) trivial (g_end (ds := [11, 12, 13]) rfl rfl (hK2 _ ?_)))))); clear hK2 K2;refine pwp_ret (end1 (v := .sc _) rfl ?_);exact out_b (by first | rfl | (rw [Bool.eq_iff_iff]; simp only [decide_eq_true_eq, Bool.false_eq_true, eq_self_iff_true, true_iff, false_iff, iff_true, iff_false]; omega))
 ·try simp only [z1, z2, z3, z4, z5, z6, ne_eq, z7, z8, z9, z10, z11, z12] at hb3
  refine g_skip rfl rfl rfl (g_skip rfl rfl rfl (g_skip rfl rfl rfl (g_step rfl rfl rfl rfl (e_pickF (v := .sc _) rfl rfl) trivial (g_step rfl rfl rfl rfl (e_assign (v := .sc _) rfl) trivial (g_end (ds := [11, 12, 13]) rfl rfl (hK2 _ ?_)))))); clear hK2 K2;refine pwp_ret (end1 (v := .sc _) rfl ?_);exact out_b (by first | rfl | (rw [Bool.eq_iff_iff]; simp only [decide_eq_true_eq, Bool.false_eq_true, eq_self_iff_true, true_iff, false_iff, iff_true, iff_false]; omega))
theorem fr42 : (inFrame Tryz.f42.ntmps (Tryz.f42.body.getD .skip) && Tryz.f42.results.toList.all (resScope Tryz.f42.ntmps)) = true := by kernel_rfl
theorem isDay (n : Int) : PCalls Tryz.prog 42 [.int n] (.bool (decide (0 ≤ n ∧ n ≤ 20000))) := by
 refine PCalls.of_code Tryz.func42 rfl rfl (by kernel_rfl) mixed fr42 (by show _ ≤ 9; simp) (.sc _) (pwp_seq_plain rfl fun K1 hK1 => p_step rfl (e_assign (v := .sc _) rfl) trivial (p_end (hK1 _ ?_))); clear hK1 K1;refine pwp_seq_gops rfl fun K2 hK2 => g_begin (g_step rfl rfl rfl rfl (e_move (v := .sc _) rfl) trivial (g_step rfl rfl rfl rfl (e_ge rfl rfl) trivial (g_step rfl rfl rfl rfl (e_move (v := .sc _) rfl) trivial ?_)));refine g_cases (fun hb3 => ?_) (fun hb3 => ?_)
 ·try simp only [z1, z2, z3, z4, z5, z6, ne_eq, z7, z8, z9, z10, z11, z12] at hb3
  refine g_step rfl rfl rfl rfl (e_move (v := .sc _) rfl) trivial (g_step rfl rfl rfl rfl (e_le rfl rfl) trivial (g_step rfl rfl rfl rfl (e_pickT (v := .sc _) rfl rfl) trivial (g_step rfl rfl rfl rfl (e_assign (v := .sc _) rfl) trivial (g_end (ds := [6, 7]) rfl rfl (hK2 _ ?_))))); clear hK2 K2;refine pwp_ret (end1 (v := .sc _) rfl ?_);exact out_b (by first | rfl | (rw [Bool.eq_iff_iff]; simp only [decide_eq_true_eq, Bool.false_eq_true, eq_self_iff_true, true_iff, false_iff, iff_true, iff_false]; omega))
 ·try simp only [z1, z2, z3, z4, z5, z6, ne_eq, z7, z8, z9, z10, z11, z12] at hb3
  refine g_skip rfl rfl rfl (g_skip rfl rfl rfl (g_step rfl rfl rfl rfl (e_pickF (v := .sc _) rfl rfl) trivial (g_step rfl rfl rfl rfl (e_assign (v := .sc _) rfl) trivial (g_end (ds := [6, 7]) rfl rfl (hK2 _ ?_))))); clear hK2 K2;refine pwp_ret (end1 (v := .sc _) rfl ?_);exact out_b (by first | rfl | (rw [Bool.eq_iff_iff]; simp only [decide_eq_true_eq, Bool.false_eq_true, eq_self_iff_true, true_iff, false_iff, iff_true, iff_false]; omega))
theorem fr7 : (inFrame Tryz.f7.ntmps (Tryz.f7.body.getD .skip) && Tryz.f7.results.toList.all (resScope Tryz.f7.ntmps)) = true := by kernel_rfl
theorem IsDay (n : Int) : PCalls Tryz.prog 7 [.int n] (.bool (decide (0 ≤ n ∧ n ≤ 20000))) := by
 refine PCalls.of_code Tryz.func7 rfl rfl (by kernel_rfl) mixed fr7 (by show _ ≤ 5; simp) (.sc _) (pwp_seq_plain rfl fun K1 hK1 => p_step rfl (e_assign (v := .sc _) rfl) trivial (p_end (hK1 _ ?_))); clear hK1 K1;refine pwp_seq_plain rfl fun K2 hK2 => p_step rfl (e_move (v := .sc _) rfl) trivial (p_call rfl (.cons inn_sc (.cons inn_sc (.cons inn_sc .nil))) (Within _ _ _) (p_step rfl (e_assign (v := .sc _) rfl) trivial (p_end (hK2 _ ?_)))); clear hK2 K2;refine pwp_ret (end1 (v := .sc _) rfl ?_);exact out_b (by first | rfl | (rw [Bool.eq_iff_iff]; simp only [decide_eq_true_eq, Bool.false_eq_true, eq_self_iff_true, true_iff, false_iff, iff_true, iff_false]; omega))
end Go.Proofs.YtjihcgcbnbaclaaGreatDoor.Y9

set_option linter.unusedSimpArgs false
set_option linter.unusedVariables false
namespace Go.Proofs.YtjihcgcbnbaclaaGreatDoor.Y9
open Go Go.Pv Go.Proofs.YtjihcgcbnbaclaaGreatDoor
theorem fr43 : (inFrame Tryz.f43.ntmps (Tryz.f43.body.getD .skip) && Tryz.f43.results.toList.all (resScope Tryz.f43.ntmps)) = true := by kernel_rfl
theorem weeks (i o l : Int) (h1 : 0 ≤ i ∧ i ≤ 20000) (h2 : 0 ≤ o ∧ o ≤ 20000) (h3 : i ≤ o) (h4 : 0 ≤ l ∧ l ≤ 520) : PCalls Tryz.prog 43 [.int i, .int o, .int l] (.int (max l ((o - i + 7) / 7))) := by
 refine PCalls.of_code Tryz.func43 rfl rfl (by kernel_rfl) mixed fr43 (by show _ ≤ 15; simp) (.sc _) (pwp_seq_plain rfl fun K1 hK1 => p_step rfl (e_assign (v := .sc _) rfl) trivial (p_end (hK1 _ ?_))); clear hK1 K1;refine pwp_seq_plain rfl fun K2 hK2 => p_step rfl (e_move (v := .sc _) rfl) trivial (p_step rfl (e_move (v := .sc _) rfl) trivial (p_step rfl (e_move (v := .sc _) rfl) trivial (p_step rfl (e_sub rfl rfl (by omega)) trivial (p_step rfl (e_add rfl rfl (by omega)) trivial (p_step rfl (e_add rfl rfl (by omega)) trivial (p_step rfl (e_quo rfl rfl (by omega) (by omega) (by omega)) trivial ?_))))));refine p_step rfl (e_max rfl rfl) trivial (p_step rfl (e_assign (v := .sc _) rfl) trivial (p_end (hK2 _ ?_))); clear hK2 K2;refine pwp_ret (end1 (v := .sc _) rfl ?_);exact out_i (by omega)
end Go.Proofs.YtjihcgcbnbaclaaGreatDoor.Y9
