/- Names and ranges, as contracts on pure values. No conditions. -/
import Derived.Test.YtigdmkhdmbbfiaaData
import Derived.Test.YtigdmkhdmbbfiaaPvGh
set_option linter.unusedSimpArgs false
set_option linter.unusedVariables false
set_option maxRecDepth 100000
namespace Go.Proofs.Ytigdmkhdmbbfiaa
open Go Go.Pv
theorem z1 {p : Prop} [Decidable p] : (decide p = true) = p := decide_eq_true_eq
theorem z2 {p : Prop} [Decidable p] : decide p = false ↔ ¬ p := decide_eq_false_iff_not
theorem z3 (b : Bool) : ((!b) = true) = (b = false) := Bool.not_eq_true' b
theorem z4 (b : Bool) : ((!b) = false) = (b = true) := Bool.not_eq_false' b
theorem z5 {a b : Int} : ¬ a < b ↔ b ≤ a := Int.not_lt
theorem z6 {a b : Int} : ¬ a ≤ b ↔ b < a := Int.not_le
theorem z7 {p : Prop} [Decidable p] : ¬ ¬ p ↔ p := Decidable.not_not
theorem z8 {α β : Type _} {l : List α} {f : α → β} : (l.map f).length = l.length := List.length_map f
theorem z9 (a b : Bool) : ((a || b) = true) = (a = true ∨ b = true) := Bool.or_eq_true a b
theorem z10 (a b : Bool) : ((a && b) = true) = (a = true ∧ b = true) := Bool.and_eq_true a b
theorem z11 {a b : Bool} : (a || b) = false ↔ a = false ∧ b = false := Bool.or_eq_false_iff
theorem z12 {a b : Bool} : (a && b) = false ↔ a = false ∨ b = false := Bool.and_eq_false_iff


/-! ### Bytes of a text -/
def chOk (i : Nat) (c : Int) : Prop := (97 ≤ c ∧ c ≤ 122) ∨ (65 ≤ c ∧ c ≤ 90) ∨ (i ≠ 0 ∧ (c = 45 ∨ (48 ≤ c ∧ c ≤ 57)))
instance (i : Nat) (c : Int) : Decidable (chOk i c) := inferInstanceAs (Decidable (_ ∨ _))
theorem fr50 : (inFrame Try.f50.ntmps (Try.f50.body.getD .skip) && Try.f50.results.toList.all (resScope Try.f50.ntmps)) = true := by kernel_rfl
theorem Within (n lo hi : Int) : PCalls Try.prog 50 [.int n, .int lo, .int hi] (.bool (decide (lo ≤ n ∧ n ≤ hi))) := by
 refine PCalls.of_code Try.func50 rfl rfl (by kernel_rfl) mixed fr50 (by show _ ≤ 15; simp) (.sc _) ?_
 refine pwp_seq_plain rfl fun K1 hK1 => ?_
 refine p_step rfl (e_assign (v := .sc _) rfl) trivial ?_
 refine p_end (hK1 _ ?_); clear hK1 K1
 refine pwp_seq_cutG [] [(6, .bool ((decide (lo ≤ n)) && (decide (n ≤ hi))))] (fun K2 hK2 => ?_) (fun r3 => ?_)
 ·skip
  refine pwp_gops rfl fun K4 hK4 => ?_
  refine g_begin ?_
  refine g_step rfl rfl rfl rfl (e_move (v := .sc _) rfl) trivial ?_
  refine g_step rfl rfl rfl rfl (e_move (v := .sc _) rfl) trivial ?_
  refine g_step rfl rfl rfl rfl (e_ge rfl rfl) trivial ?_
  refine g_step rfl rfl rfl rfl (e_move (v := .sc _) rfl) trivial ?_
  refine g_cases (fun hb5 => ?_) (fun hb5 => ?_)
  ·have hb5R := hb5; try simp only [z1, z2, z3, z4, z5, z6, ne_eq, z7, z8, z9, z10, z11, z12] at hb5
   refine g_step rfl rfl rfl rfl (e_move (v := .sc _) rfl) trivial ?_
   refine g_step rfl rfl rfl rfl (e_move (v := .sc _) rfl) trivial ?_
   refine g_step rfl rfl rfl rfl (e_le rfl rfl) trivial ?_
   refine g_step rfl rfl rfl rfl (e_pickT (v := .sc _) rfl rfl) trivial ?_
   refine g_step rfl rfl rfl rfl (e_assign (v := .sc _) rfl) trivial ?_
   refine g_end (ds := [11, 12, 13]) rfl rfl (hK4 _ ?_); clear hK4 K4
   exact seq_norm (hK2 _ trivial ⟨(congrArg PV.bool (show ((decide (n ≤ hi)) : Bool) = ((decide (lo ≤ n)) && (decide (n ≤ hi))) by first | rfl | ((try rw [hb5R]) <;> (first | rfl | (simp only [Bool.and_true, Bool.and_false, Bool.true_and, Bool.false_and, Bool.or_true, Bool.or_false, Bool.true_or, Bool.false_or, Bool.not_true, Bool.not_false, if_true, if_false, Bool.false_eq_true, reduceIte] <;> rfl))) | (simp only [hb5R, Bool.and_true, Bool.and_false, Bool.true_and, Bool.false_and, Bool.or_true, Bool.or_false, Bool.true_or, Bool.false_or, Bool.not_true, Bool.not_false, if_true, if_false, Bool.false_eq_true, reduceIte] <;> rfl))), trivial⟩)
  ·have hb5R := hb5; try simp only [z1, z2, z3, z4, z5, z6, ne_eq, z7, z8, z9, z10, z11, z12] at hb5
   refine g_skip rfl rfl rfl ?_
   refine g_skip rfl rfl rfl ?_
   refine g_skip rfl rfl rfl ?_
   refine g_step rfl rfl rfl rfl (e_pickF (v := .sc _) rfl rfl) trivial ?_
   refine g_step rfl rfl rfl rfl (e_assign (v := .sc _) rfl) trivial ?_
   refine g_end (ds := [11, 12, 13]) rfl rfl (hK4 _ ?_); clear hK4 K4
   exact seq_norm (hK2 _ trivial ⟨(congrArg PV.bool (show (false : Bool) = ((decide (lo ≤ n)) && (decide (n ≤ hi))) by first | rfl | ((try rw [hb5R]) <;> (first | rfl | (simp only [Bool.and_true, Bool.and_false, Bool.true_and, Bool.false_and, Bool.or_true, Bool.or_false, Bool.true_or, Bool.false_or, Bool.not_true, Bool.not_false, if_true, if_false, Bool.false_eq_true, reduceIte] <;> rfl))) | (simp only [hb5R, Bool.and_true, Bool.and_false, Bool.true_and, Bool.false_and, Bool.or_true, Bool.or_false, Bool.true_or, Bool.false_or, Bool.not_true, Bool.not_false, if_true, if_false, Bool.false_eq_true, reduceIte] <;> rfl))), trivial⟩)
 ·skip
  refine pwp_ret ?_
  refine end1 (v := .sc _) rfl ?_
  exact out_b (by first | rfl | (rw [Bool.eq_iff_iff]; simp only [decide_eq_true_eq, Bool.false_eq_true, eq_self_iff_true, true_iff, false_iff, iff_true, iff_false, Bool.and_eq_true] <;> omega))

theorem fr68 : (inFrame Try.f68.ntmps (Try.f68.body.getD .skip) && Try.f68.results.toList.all (resScope Try.f68.ntmps)) = true := by kernel_rfl
theorem within (n lo hi : Int) : PCalls Try.prog 68 [.int n, .int lo, .int hi] (.bool (decide (lo ≤ n ∧ n ≤ hi))) := by
 refine PCalls.of_code Try.func68 rfl rfl (by kernel_rfl) mixed fr68 (by show _ ≤ 15; simp) (.sc _) ?_
 refine pwp_seq_plain rfl fun K1 hK1 => ?_
 refine p_step rfl (e_assign (v := .sc _) rfl) trivial ?_
 refine p_end (hK1 _ ?_); clear hK1 K1
 refine pwp_seq_cutG [] [(6, .bool ((decide (lo ≤ n)) && (decide (n ≤ hi))))] (fun K2 hK2 => ?_) (fun r3 => ?_)
 ·skip
  refine pwp_gops rfl fun K4 hK4 => ?_
  refine g_begin ?_
  refine g_step rfl rfl rfl rfl (e_move (v := .sc _) rfl) trivial ?_
  refine g_step rfl rfl rfl rfl (e_move (v := .sc _) rfl) trivial ?_
  refine g_step rfl rfl rfl rfl (e_ge rfl rfl) trivial ?_
  refine g_step rfl rfl rfl rfl (e_move (v := .sc _) rfl) trivial ?_
  refine g_cases (fun hb5 => ?_) (fun hb5 => ?_)
  ·have hb5R := hb5; try simp only [z1, z2, z3, z4, z5, z6, ne_eq, z7, z8, z9, z10, z11, z12] at hb5
   refine g_step rfl rfl rfl rfl (e_move (v := .sc _) rfl) trivial ?_
   refine g_step rfl rfl rfl rfl (e_move (v := .sc _) rfl) trivial ?_
   refine g_step rfl rfl rfl rfl (e_le rfl rfl) trivial ?_
   refine g_step rfl rfl rfl rfl (e_pickT (v := .sc _) rfl rfl) trivial ?_
   refine g_step rfl rfl rfl rfl (e_assign (v := .sc _) rfl) trivial ?_
   refine g_end (ds := [11, 12, 13]) rfl rfl (hK4 _ ?_); clear hK4 K4
   exact seq_norm (hK2 _ trivial ⟨(congrArg PV.bool (show ((decide (n ≤ hi)) : Bool) = ((decide (lo ≤ n)) && (decide (n ≤ hi))) by first | rfl | ((try rw [hb5R]) <;> (first | rfl | (simp only [Bool.and_true, Bool.and_false, Bool.true_and, Bool.false_and, Bool.or_true, Bool.or_false, Bool.true_or, Bool.false_or, Bool.not_true, Bool.not_false, if_true, if_false, Bool.false_eq_true, reduceIte] <;> rfl))) | (simp only [hb5R, Bool.and_true, Bool.and_false, Bool.true_and, Bool.false_and, Bool.or_true, Bool.or_false, Bool.true_or, Bool.false_or, Bool.not_true, Bool.not_false, if_true, if_false, Bool.false_eq_true, reduceIte] <;> rfl))), trivial⟩)
  ·have hb5R := hb5; try simp only [z1, z2, z3, z4, z5, z6, ne_eq, z7, z8, z9, z10, z11, z12] at hb5
   refine g_skip rfl rfl rfl ?_
   refine g_skip rfl rfl rfl ?_
   refine g_skip rfl rfl rfl ?_
   refine g_step rfl rfl rfl rfl (e_pickF (v := .sc _) rfl rfl) trivial ?_
   refine g_step rfl rfl rfl rfl (e_assign (v := .sc _) rfl) trivial ?_
   refine g_end (ds := [11, 12, 13]) rfl rfl (hK4 _ ?_); clear hK4 K4
   exact seq_norm (hK2 _ trivial ⟨(congrArg PV.bool (show (false : Bool) = ((decide (lo ≤ n)) && (decide (n ≤ hi))) by first | rfl | ((try rw [hb5R]) <;> (first | rfl | (simp only [Bool.and_true, Bool.and_false, Bool.true_and, Bool.false_and, Bool.or_true, Bool.or_false, Bool.true_or, Bool.false_or, Bool.not_true, Bool.not_false, if_true, if_false, Bool.false_eq_true, reduceIte] <;> rfl))) | (simp only [hb5R, Bool.and_true, Bool.and_false, Bool.true_and, Bool.false_and, Bool.or_true, Bool.or_false, Bool.true_or, Bool.false_or, Bool.not_true, Bool.not_false, if_true, if_false, Bool.false_eq_true, reduceIte] <;> rfl))), trivial⟩)
 ·skip
  refine pwp_ret ?_
  refine end1 (v := .sc _) rfl ?_
  exact out_b (by first | rfl | (rw [Bool.eq_iff_iff]; simp only [decide_eq_true_eq, Bool.false_eq_true, eq_self_iff_true, true_iff, false_iff, iff_true, iff_false, Bool.and_eq_true] <;> omega))

end Go.Proofs.Ytigdmkhdmbbfiaa
