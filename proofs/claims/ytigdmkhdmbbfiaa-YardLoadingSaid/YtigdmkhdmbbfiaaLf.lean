/- Filling lorries. No conditions. -/
import Derived.Test.YtigdmkhdmbbfiaaLtA
set_option linter.unusedSimpArgs false
set_option linter.unusedVariables false
set_option maxRecDepth 100000
namespace Go.Proofs.Ytigdmkhdmbbfiaa
open Go Go.Pv
theorem Fil.pure (x : Fil) : ∀ p ∈ x.enc, Pure p := fun p hp => by
 simp only [Fil.enc, List.mem_cons, List.not_mem_nil, or_false] at hp
 rcases hp with rfl | rfl | rfl <;> exact .sc _
theorem fr89 : (inFrame Try.f89.ntmps (Try.f89.body.getD .skip) && Try.f89.results.toList.all (resScope Try.f89.ntmps)) = true := by kernel_rfl
theorem betC (f e : Fil) : PCalls Try.prog 89 [.agg f.enc, .agg e.enc] (.bool (decide (f.bet e))) := by
 refine PCalls.of_code Try.func89 rfl rfl (by kernel_rfl) mixed fr89 (by show _ ≤ 24; simp) (.sc _) ?_
 refine pwp_seq_plain rfl fun K1 hK1 => ?_
 refine p_new rfl (e_box (n := 3) rfl rfl) ⟨rfl, by decide⟩ ?_
 refine p_new rfl (e_box (n := 3) rfl rfl) ⟨rfl, by decide⟩ ?_
 refine p_aS rfl ?_
 refine p_end (hK1 _ ?_); clear hK1 K1
 refine pwp_seq_gops rfl fun K2 hK2 => ?_
 refine g_begin ?_
 refine g_e rfl (e_faQ pl3 rfl) ?_
 refine g_e rfl (e_lH (v := .sc _) rfl ((hset_ne (key_ne rfl)).trans (hset_self _ _ _)) rfl) ?_
 refine g_e rfl (e_faQ pl3 rfl) ?_
 refine g_e rfl (e_lH (v := .sc _) rfl (hset_self _ _ _) rfl) ?_
 refine g_e rfl (e_lt rfl rfl) ?_
 refine g_mS rfl rfl ?_
 refine g_cases (fun hb3 => ?_) (fun hb3 => ?_)
 ·have hb3R := hb3; try simp only [zz] at hb3
  iterate 12 refine g_skip rfl rfl rfl ?_
  refine g_pT rfl rfl rfl ?_
  refine g_aS rfl rfl ?_
  refine g_end (ds := [11, 12, 13, 14, 15, 16, 17, 18, 19, 20, 21, 22]) rfl rfl (hK2 _ ?_); clear hK2 K2
  refine pwp_ret ?_
  refine end1 (v := .sc _) rfl ?_
  first
    | exact out_b (by symm; rw [Bool.eq_iff_iff]; simp only [decide_eq_true_eq, Bool.false_eq_true, eq_self_iff_true, iff_true, iff_false]; unfold Fil.bet; omega)
    | (exfalso; simp only [List.length_map] at *; omega)
 ·have hb3R := hb3; try simp only [zz] at hb3
  refine g_e rfl (e_faQ pl3 rfl) ?_
  refine g_e rfl (e_lH (v := .sc _) rfl ((hset_ne (key_ne rfl)).trans (hset_self _ _ _)) rfl) ?_
  refine g_e rfl (e_faQ pl3 rfl) ?_
  refine g_e rfl (e_lH (v := .sc _) rfl (hset_self _ _ _) rfl) ?_
  refine g_e rfl (e_eq rfl rfl) ?_
  refine g_mS rfl rfl ?_
  refine g_cases (fun hb4 => ?_) (fun hb4 => ?_)
  ·have hb4R := hb4; try simp only [zz] at hb4
   refine g_e rfl (e_faQ pl3 rfl) ?_
   refine g_e rfl (e_lH (v := .sc _) rfl ((hset_ne (key_ne rfl)).trans (hset_self _ _ _)) rfl) ?_
   refine g_e rfl (e_faQ pl3 rfl) ?_
   refine g_e rfl (e_lH (v := .sc _) rfl (hset_self _ _ _) rfl) ?_
   refine g_e rfl (e_lt rfl rfl) ?_
   refine g_pT rfl rfl rfl ?_
   refine g_pF rfl rfl rfl ?_
   refine g_aS rfl rfl ?_
   refine g_end (ds := [11, 12, 13, 14, 15, 16, 17, 18, 19, 20, 21, 22]) rfl rfl (hK2 _ ?_); clear hK2 K2
   refine pwp_ret ?_
   refine end1 (v := .sc _) rfl ?_
   first
     | exact out_b (by symm; rw [Bool.eq_iff_iff]; simp only [decide_eq_true_eq, Bool.false_eq_true, eq_self_iff_true, iff_true, iff_false]; unfold Fil.bet; omega)
     | (exfalso; simp only [List.length_map] at *; omega)
  ·have hb4R := hb4; try simp only [zz] at hb4
   iterate 5 refine g_skip rfl rfl rfl ?_
   refine g_pF rfl rfl rfl ?_
   refine g_pF rfl rfl rfl ?_
   refine g_aS rfl rfl ?_
   refine g_end (ds := [11, 12, 13, 14, 15, 16, 17, 18, 19, 20, 21, 22]) rfl rfl (hK2 _ ?_); clear hK2 K2
   refine pwp_ret ?_
   refine end1 (v := .sc _) rfl ?_
   first
     | exact out_b (by symm; rw [Bool.eq_iff_iff]; simp only [decide_eq_true_eq, Bool.false_eq_true, eq_self_iff_true, iff_true, iff_false]; unfold Fil.bet; omega)
     | (exfalso; simp only [List.length_map] at *; omega)

def bigP (x : Lorry) (y : Item) : Bool := decide (x.length < y.length) || decide (x.mass < y.mass)
/-- The place of the first item that is too big, or -1. -/
def ixG (x : Lorry) : List Item → Int → Int
 | [], _ => -1
 | y :: r, k => if bigP x y = true then k else ixG x r (k + 1)
theorem ixG_big {x : Lorry} : ∀ {its : List Item} {k : Int}, 0 ≤ k → decide (0 ≤ ixG x its k) = bigB its x
 | [], k, _ => by rw [ixG, bigB]; rfl
 | y :: r, k, h => by
   rw [ixG, bigB, List.any_cons]
   by_cases e : bigP x y = true
   · rw [if_pos e, decide_eq_true h]; rw [bigP] at e; rw [e]; rfl
   · have e2 : bigP x y = false := by simpa using e
     rw [if_neg e, ixG_big (its := r) (by omega)]; rw [bigP] at e2; rw [e2]; rfl
theorem bigP_t {x : Lorry} {y : Item} (h : x.length < y.length ∨ x.mass < y.mass) : true = bigP x y := by
 rw [bigP]; symm; rw [Bool.or_eq_true, decide_eq_true_eq, decide_eq_true_eq]; exact h
theorem fr88 : (inFrame Try.f88.ntmps (Try.f88.body.getD .skip) && Try.f88.results.toList.all (resScope Try.f88.ntmps)) = true := by kernel_rfl
theorem bigF (y : Item) (x : Lorry) : PCalls Try.prog 88 [.agg y.enc, .lptr true 2 [Lorry.enc x] 0 0] (.bool (bigP x y)) := by
 refine PCalls.of_code Try.func88 rfl rfl (by kernel_rfl) mixed fr88 (by show _ ≤ 16; simp) (.sc _) ?_
 refine pwp_seq_plain rfl fun K1 hK1 => ?_
 refine p_new rfl (e_box (n := 3) rfl rfl) ⟨rfl, by decide⟩ ?_
 refine p_aS rfl ?_
 refine p_end (hK1 _ ?_); clear hK1 K1
 refine pwp_seq_gops rfl fun K2 hK2 => ?_
 refine g_begin ?_
 refine g_e rfl (e_faQ pl3 rfl) ?_
 refine g_e rfl (e_lH (v := .sc _) rfl (hset_self _ _ _) rfl) ?_
 refine g_e rfl (e_fb pl2 rfl) ?_
 refine g_e rfl (e_load (v := .sc _) rfl (by kernel_rfl) (by kernel_rfl) (by kernel_rfl) (by exact Nat.zero_lt_one) (by decide) rfl) ?_
 refine g_e rfl (e_gt rfl rfl) ?_
 refine g_mS rfl rfl ?_
 refine g_cases (fun hb3 => ?_) (fun hb3 => ?_)
 ·have hb3R := hb3; try simp only [zz] at hb3
  iterate 5 refine g_skip rfl rfl rfl ?_
  refine g_pT rfl rfl rfl ?_
  refine g_aS rfl rfl ?_
  refine g_end (ds := [10, 11, 12, 13, 14]) rfl rfl (hK2 _ ?_); clear hK2 K2
  refine pwp_ret ?_
  refine end1 (v := .sc _) rfl ?_
  first
    | exact out_b (bigP_t (by omega))
    | exact out_b (bigP_f (by omega))
    | exact out_b (by rw [bigP, decide_eq_false (p := x.length < y.length) (by omega), Bool.false_or])
 ·have hb3R := hb3; try simp only [zz] at hb3
  refine g_e rfl (e_faQ pl3 rfl) ?_
  refine g_e rfl (e_lH (v := .sc _) rfl (hset_self _ _ _) rfl) ?_
  refine g_e rfl (e_fb pl2 rfl) ?_
  refine g_e rfl (e_load (v := .sc _) rfl (by kernel_rfl) (by kernel_rfl) (by kernel_rfl) (by exact Nat.zero_lt_one) (by decide) rfl) ?_
  refine g_e rfl (e_gt rfl rfl) ?_
  refine g_pF rfl rfl rfl ?_
  refine g_aS rfl rfl ?_
  refine g_end (ds := [10, 11, 12, 13, 14]) rfl rfl (hK2 _ ?_); clear hK2 K2
  refine pwp_ret ?_
  refine end1 (v := .sc _) rfl ?_
  first
    | exact out_b (bigP_t (by omega))
    | exact out_b (bigP_f (by omega))
    | exact out_b (by rw [bigP, decide_eq_false (p := x.length < y.length) (by omega), Bool.false_or])

theorem fr105 : (inFrame Try.f105.ntmps (Try.f105.body.getD .skip) && Try.f105.results.toList.all (resScope Try.f105.ntmps)) = true := by kernel_rfl
theorem bigIx (its : List Item) (x : Lorry) (hl : its.length ≤ 1000000) : PCalls Try.prog 105 [.lit true 3 (its.map Item.enc), .func (.func 88) [] [.lptr true 2 [Lorry.enc x] 0 0]] (.int (ixG x its 0)) := by
 refine PCalls.of_code Try.func105 rfl rfl (by kernel_rfl) mixed fr105 (by show _ ≤ 19; simp) (.sc _) ?_
 refine pwp_seq_plain rfl fun K1 hK1 => ?_
 refine p_aS rfl ?_
 refine p_end (hK1 _ ?_); clear hK1 K1
 refine pwp_seq_seq ?_
 refine pwp_seq_plain rfl fun K2 hK2 => ?_
 refine p_e rfl (e_move (v := .lit _ _ _) rfl) ?_
 refine p_e rfl (e_len rfl (by kernel_rfl)) ?_
 refine p_mS rfl ?_
 refine p_end (hK2 _ ?_); clear hK2 K2
 refine pwp_seq_block fun K3 hK3 => ?_
 refine pwp_loopR (α := Nat) [0, 1, 7] (fun (k : Nat) => [(8, .int (k))]) (fun (k : Nat) (h : Heap) (_ : Nat → Nat) => ((k) ≤ its.length) ∧ (ixG x its 0 = ixG x (its.drop (k)) (k))) (fun (k : Nat) => its.length - (k)) (0) (by exact ⟨rfl, trivial⟩) (by exact ⟨by exact Nat.zero_le _, by exact rfl⟩) fun k r4 h5 c6 hj7 => ?_
 obtain ⟨hk, hinv⟩ := hj7
 try dsimp only at hk
 try dsimp only at hinv
 show pwp _ _ (loopQ _ _ _) ⟨sets (mix _ _ _) [(8, .int k)], _, _⟩
 refine pwp_seq_plain rfl fun K8 hK8 => ?_
 refine p_e rfl (e_lt rfl rfl) ?_
 refine p_end (hK8 _ ?_); clear hK8 K8
 refine pwp_seq_cond rfl fun K9 hK9 => ⟨fun hb10 => ?_, fun hb10 => ?_⟩
 ·have hb10R := hb10; try simp only [zz] at hb10
  obtain ⟨y, hy, hd, ht⟩ := get_lt (xs := its) (i := k) (by omega)
  rw [hd] at hinv; simp only [ixG] at hinv
  refine pwp_skip ?_
  refine seq_norm (hK9 _ ?_); clear hK9 K9
  refine pwp_seq_block fun K11 hK11 => ?_
  refine pwp_seq_plain rfl fun K12 hK12 => ?_
  refine p_mS rfl ?_
  refine p_aS rfl ?_
  refine p_end (hK12 _ ?_); clear hK12 K12
  refine pwp_seq_plain rfl fun K13 hK13 => ?_
  refine p_e rfl (e_move (v := .func _ _ _) rfl) ?_
  refine p_e rfl (e_move (v := .lit _ _ _) rfl) ?_
  refine p_mS rfl ?_
  refine p_e rfl (e_ixL rfl rfl) ?_
  refine p_e rfl (e_loadA (n := 3) rfl (by kernel_rfl) (by kernel_rfl) (by kernel_rfl) (by first | omega | (simp only [List.length_map]; omega)) (by decide) (by first | exact agg_map hy rfl)) ?_
  refine p_call rfl (.cons (inn_agg (Item.pure _)) (.cons inn_lptr .nil)) (bigF _ x) ?_
  refine p_end (hK13 _ ?_); clear hK13 K13
  refine pwp_cond rfl (fun hb14 => ?_) (fun hb14 => ?_)
  ·have hb14R := hb14; try simp only [zz] at hb14
   refine pwp_seq_plain rfl fun K15 hK15 => ?_
   refine p_mS rfl ?_
   refine p_aS rfl ?_
   refine p_end (hK15 _ ?_); clear hK15 K15
   refine pwp_ret ?_
   refine ret_block ?_
   refine ret_seq ?_
   refine ret_loop ?_
   refine ret_block ?_
   refine ret_seq ?_
   refine end1 (v := .sc _) rfl ?_
   first
     | exact out_i (by rw [hinv, if_pos (by assumption)])
     | exact out_i hinv.symm
  ·have hb14R := hb14; try simp only [zz] at hb14
   refine pwp_skip ?_
   refine block_norm ?_
   refine seq_norm (hK11 _ ?_); clear hK11 K11
   refine pwp_plain rfl fun K16 hK16 => ?_
   refine p_e rfl (e_adL rfl rfl) ?_
   refine p_mS rfl ?_
   refine p_end (hK16 _ ?_); clear hK16 K16
   exact loop_again (k + 1) (by show _ < _; omega) ⟨rfl, rfl, rfl, trivial⟩ ⟨rfl, trivial⟩ (by exact ⟨by show _ + 1 ≤ _; simp only [List.length_map] at *; omega, by rw [if_neg (by simp_all)] at hinv; exact hinv⟩)
 ·have hb10R := hb10; try simp only [zz] at hb10
  obtain rfl : k = its.length := by simp only [List.length_map] at *; omega
  rw [List.drop_length] at hinv; simp only [ixG] at hinv
  refine pwp_exit ?_
  refine exit_seq ?_
  clear hK9 K9
  refine exit_loop ?_
  refine exit_here ?_
  refine seq_norm (hK3 _ ?_); clear hK3 K3
  refine pwp_seq_plain rfl fun K17 hK17 => ?_
  refine p_aS rfl ?_
  refine p_end (hK17 _ ?_); clear hK17 K17
  refine pwp_ret ?_
  refine end1 (v := .sc _) rfl ?_
  first
    | exact out_i (by rw [hinv, if_pos (by assumption)])
    | exact out_i hinv.symm

theorem fr87 : (inFrame Try.f87.ntmps (Try.f87.body.getD .skip) && Try.f87.results.toList.all (resScope Try.f87.ntmps)) = true := by kernel_rfl
theorem bigAny (its : List Item) (x : Lorry) (hl : its.length ≤ 1000000) : PCalls Try.prog 87 [.lit true 3 (its.map Item.enc), .func (.func 88) [] [.lptr true 2 [Lorry.enc x] 0 0]] (.bool (bigB its x)) := by
 refine PCalls.of_code Try.func87 rfl rfl (by kernel_rfl) mixed fr87 (by show _ ≤ 9; simp) (.sc _) ?_
 refine pwp_seq_plain rfl fun K1 hK1 => ?_
 refine p_aS rfl ?_
 refine p_end (hK1 _ ?_); clear hK1 K1
 refine pwp_seq_plain rfl fun K2 hK2 => ?_
 refine p_e rfl (e_move (v := .lit _ _ _) rfl) ?_
 refine p_e rfl (e_move (v := .func _ _ _) rfl) ?_
 refine p_call rfl (.cons inn_lit (.cons (inn_clos1 (.lptr id)) .nil)) (bigIx its x hl) ?_
 refine p_e rfl (e_ge rfl rfl) ?_
 refine p_aS rfl ?_
 refine p_end (hK2 _ ?_); clear hK2 K2
 refine pwp_ret ?_
 refine end1 (v := .sc _) rfl ?_
 exact out_b (ixG_big (Int.le_refl _))

end Go.Proofs.Ytigdmkhdmbbfiaa
