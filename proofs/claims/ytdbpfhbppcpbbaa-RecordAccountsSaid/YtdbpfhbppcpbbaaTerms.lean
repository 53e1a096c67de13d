/- Names, terms and their errors, as contracts on pure values. No conditions. -/
import Derived.Test.YtdbpfhbppcpbbaaNam
import Derived.Test.YtdbpfhbppcpbbaaPvZ3
import Derived.Test.YtdbpfhbppcpbbaaWeeks
set_option linter.unusedSimpArgs false
set_option linter.unusedVariables false
namespace Go.Proofs.Ytdbpfhbppcpbbaa
open Go Go.Pv

def ixFrom (s : ByteArray) : List Term → Int → Int
  | [], _ => -1
  | t :: ts, i => if t.part = s then i else ixFrom s ts (i + 1)
/-- The place of the first term of a part, or -1. -/
def termIx (ts : List Term) (s : ByteArray) : Int := ixFrom s ts 0

theorem fr55 : (inFrame Try.f55.ntmps (Try.f55.body.getD .skip) && Try.f55.results.toList.all (resScope Try.f55.ntmps)) = true := by kernel_rfl
theorem Term55 (ts : List Term) (s : ByteArray) (hl : ts.length ≤ 65) : PCalls Try.prog 55 [.lit true 4 (ts.map Term.enc), .str s] (.int (termIx ts s)) := by
  refine PCalls.of_code Try.func55 rfl rfl (by kernel_rfl) mixed fr55 (by show _ ≤ 20; simp) (.sc _) ?_
  refine pwp_seq_plain rfl fun K1 hK1 => ?_
  refine p_step rfl (e_assign (v := .sc _) rfl) trivial ?_
  refine p_end (hK1 _ ?_); clear hK1 K1
  refine pwp_seq_seq ?_
  refine pwp_seq_plain rfl fun K2 hK2 => ?_
  refine p_step rfl (e_assign (v := .sc _) rfl) trivial ?_
  refine p_end (hK2 _ ?_); clear hK2 K2
  refine pwp_seq_block fun K3 hK3 => ?_
  refine pwp_loopR (α := Nat) [0, 1] (fun (k : Nat) => [(5, .int (k))]) (fun (k : Nat) (h : Heap) (_ : Nat → Nat) => ((k) ≤ ts.length) ∧ (termIx ts s = ixFrom s (ts.drop (k)) (k))) (fun (k : Nat) => ts.length - (k)) (0) (by exact ⟨rfl, trivial⟩) (by exact ⟨by exact Nat.zero_le _, by exact rfl⟩) fun k r4 h5 c6 hj7 => ?_
  obtain ⟨hk, hinv⟩ := hj7
  try dsimp only at hk
  try dsimp only at hinv
  show pwp _ _ (loopQ _ _ _) ⟨sets (mix _ _ _) [(5, .int k)], _, _⟩
  refine pwp_seq_seq ?_
  refine pwp_seq_plain rfl fun K8 hK8 => ?_
  refine p_step rfl (e_move (v := .sc _) rfl) trivial ?_
  refine p_step rfl (e_move (v := .lit _ _ _) rfl) trivial ?_
  refine p_step rfl (e_len rfl (by kernel_rfl)) trivial ?_
  refine p_step rfl (e_lt rfl rfl) trivial ?_
  refine p_end (hK8 _ ?_); clear hK8 K8
  refine pwp_seq_cond rfl fun K9 hK9 => ⟨fun hb10 => ?_, fun hb10 => ?_⟩
  ·have hb10R := hb10; try simp only [z1, z2, z3, z4, z5, z6, ne_eq, z7, z8, z9, z10, z11, z12] at hb10
   obtain ⟨x, hx, hd, ht⟩ := get_lt (xs := ts) (i := k) (by omega)
   rw [hd] at hinv; simp only [ixFrom] at hinv
   refine pwp_skip ?_
   refine seq_norm (hK9 _ ?_); clear hK9 K9
   refine pwp_seq_block fun K11 hK11 => ?_
   refine pwp_seq_plain rfl fun K12 hK12 => ?_
   refine p_step rfl (e_move (v := .lit _ _ _) rfl) trivial ?_
   refine p_step rfl (e_move (v := .sc _) rfl) trivial ?_
   refine p_step rfl (e_ixa rfl rfl (by kernel_rfl) (by kernel_rfl) (by simp only [List.length_map]; omega)) trivial ?_
   refine p_step rfl (e_fa (pl := [(0, 1, false), (1, 1, false), (2, 1, false), (3, 1, false)]) rfl (by kernel_rfl) (by kernel_rfl) (by decide) rfl) trivial ?_
   refine p_step rfl (e_load (v := .sc _) rfl (by kernel_rfl) (by kernel_rfl) (by kernel_rfl) (by simp only [List.length_map]; omega) (by decide) ((cell_map hx _).trans rfl)) trivial ?_
   refine p_step rfl (e_move (v := .sc _) rfl) trivial ?_
   refine p_step rfl (e_seq rfl rfl) trivial ?_
   refine p_end (hK12 _ ?_); clear hK12 K12
   refine pwp_cond rfl (fun hb13 => ?_) (fun hb13 => ?_)
   ·have hb13R := hb13; try simp only [z1, z2, z3, z4, z5, z6, ne_eq, z7, z8, z9, z10, z11, z12] at hb13
    refine pwp_seq_plain rfl fun K14 hK14 => ?_
    refine p_step rfl (e_move (v := .sc _) rfl) trivial ?_
    refine p_step rfl (e_assign (v := .sc _) rfl) trivial ?_
    refine p_end (hK14 _ ?_); clear hK14 K14
    refine pwp_ret ?_
    refine ret_block ?_
    refine ret_seq ?_
    refine ret_loop ?_
    refine ret_block ?_
    refine ret_seq ?_
    refine end1 (v := .sc _) rfl ?_
    first
      | exact out_i (by rw [hinv, if_pos (by assumption)])
      | exact out_i (by rw [hinv]; rfl)
   ·have hb13R := hb13; try simp only [z1, z2, z3, z4, z5, z6, ne_eq, z7, z8, z9, z10, z11, z12] at hb13
    refine pwp_skip ?_
    refine block_norm ?_
    refine seq_norm (hK11 _ ?_); clear hK11 K11
    refine pwp_plain rfl fun K15 hK15 => ?_
    refine p_step rfl (e_move (v := .sc _) rfl) trivial ?_
    refine p_step rfl (e_add rfl rfl (by omega)) trivial ?_
    refine p_step rfl (e_assign (v := .sc _) rfl) trivial ?_
    refine p_end (hK15 _ ?_); clear hK15 K15
    rw [if_neg (by assumption)] at hinv
    exact loop_again (k + 1) (by show _ < _; omega) ⟨rfl, rfl, trivial⟩ ⟨rfl, trivial⟩ (by exact ⟨by show _ + 1 ≤ _; omega, by exact hinv⟩)
  ·have hb10R := hb10; try simp only [z1, z2, z3, z4, z5, z6, ne_eq, z7, z8, z9, z10, z11, z12] at hb10
   obtain rfl : k = ts.length := by omega
   rw [List.drop_length] at hinv
   refine pwp_exit ?_
   refine exit_seq ?_
   clear hK9 K9
   refine exit_loop ?_
   refine exit_here ?_
   refine seq_norm (hK3 _ ?_); clear hK3 K3
   refine pwp_seq_plain rfl fun K16 hK16 => ?_
   refine p_step rfl (e_assign (v := .sc _) rfl) trivial ?_
   refine p_end (hK16 _ ?_); clear hK16 K16
   refine pwp_ret ?_
   refine end1 (v := .sc _) rfl ?_
   first
     | exact out_i (by rw [hinv, if_pos (by assumption)])
     | exact out_i (by rw [hinv]; rfl)

theorem fr107 : (inFrame Try.f107.ntmps (Try.f107.body.getD .skip) && Try.f107.results.toList.all (resScope Try.f107.ntmps)) = true := by kernel_rfl
theorem termOf1 (x : Term) (s : ByteArray) : PCalls Try.prog 107 [.agg x.enc, .lptr true 1 [[.str s]] 0 0] (.bool (decide (x.part = s))) := by
  refine PCalls.of_code Try.func107 rfl rfl (by kernel_rfl) mixed fr107 (by show _ ≤ 8; simp) (.sc _) ?_
  refine pwp_seq_plain rfl fun K1 hK1 => ?_
  refine p_new rfl (e_box (n := 4) rfl rfl) ⟨rfl, by decide⟩ ?_
  refine p_step rfl (e_assign (v := .sc _) rfl) trivial ?_
  refine p_end (hK1 _ ?_); clear hK1 K1
  refine pwp_seq_plain rfl fun K2 hK2 => ?_
  refine p_step rfl (e_faP (pl := [(0, 1, false), (1, 1, false), (2, 1, false), (3, 1, false)]) rfl (by kernel_rfl) (by kernel_rfl) (by decide) rfl) trivial ?_
  refine p_step rfl (e_loadH (v := .sc _) rfl (hset_self _ _ _) (by kernel_rfl) (by kernel_rfl) (by kernel_rfl) (by exact Nat.zero_lt_one) (by decide) rfl) trivial ?_
  refine p_step rfl (e_load (v := .sc _) rfl (by kernel_rfl) (by kernel_rfl) (by kernel_rfl) (by exact Nat.zero_lt_one) (by decide) rfl) trivial ?_
  refine p_step rfl (e_seq rfl rfl) trivial ?_
  refine p_step rfl (e_assign (v := .sc _) rfl) trivial ?_
  refine p_end (hK2 _ ?_); clear hK2 K2
  refine pwp_ret ?_
  refine end1 (v := .sc _) rfl ?_
  exact out_b rfl

theorem fr106 : (inFrame Try.f106.ntmps (Try.f106.body.getD .skip) && Try.f106.results.toList.all (resScope Try.f106.ntmps)) = true := by kernel_rfl
theorem indexFunc (ts : List Term) (s : ByteArray) (hl : ts.length ≤ 65) : PCalls Try.prog 106 [.lit true 4 (ts.map Term.enc), .func (.func 107) [] [.lptr true 1 [[.str s]] 0 0]] (.int (termIx ts s)) := by
  refine PCalls.of_code Try.func106 rfl rfl (by kernel_rfl) mixed fr106 (by show _ ≤ 19; simp) (.sc _) ?_
  refine pwp_seq_plain rfl fun K1 hK1 => ?_
  refine p_step rfl (e_assign (v := .sc _) rfl) trivial ?_
  refine p_end (hK1 _ ?_); clear hK1 K1
  refine pwp_seq_seq ?_
  refine pwp_seq_plain rfl fun K2 hK2 => ?_
  refine p_step rfl (e_move (v := .lit _ _ _) rfl) trivial ?_
  refine p_step rfl (e_len rfl (by kernel_rfl)) trivial ?_
  refine p_step rfl (e_move (v := .sc _) rfl) trivial ?_
  refine p_end (hK2 _ ?_); clear hK2 K2
  refine pwp_seq_block fun K3 hK3 => ?_
  refine pwp_loopR (α := Nat) [0, 1, 7] (fun (k : Nat) => [(8, .int (k))]) (fun (k : Nat) (h : Heap) (_ : Nat → Nat) => ((k) ≤ ts.length) ∧ (termIx ts s = ixFrom s (ts.drop (k)) (k))) (fun (k : Nat) => ts.length - (k)) (0) (by exact ⟨rfl, trivial⟩) (by exact ⟨by exact Nat.zero_le _, by exact rfl⟩) fun k r4 h5 c6 hj7 => ?_
  obtain ⟨hk, hinv⟩ := hj7
  try dsimp only at hk
  try dsimp only at hinv
  show pwp _ _ (loopQ _ _ _) ⟨sets (mix _ _ _) [(8, .int k)], _, _⟩
  refine pwp_seq_plain rfl fun K8 hK8 => ?_
  refine p_step rfl (e_lt rfl rfl) trivial ?_
  refine p_end (hK8 _ ?_); clear hK8 K8
  refine pwp_seq_cond rfl fun K9 hK9 => ⟨fun hb10 => ?_, fun hb10 => ?_⟩
  ·have hb10R := hb10; try simp only [z1, z2, z3, z4, z5, z6, ne_eq, z7, z8, z9, z10, z11, z12] at hb10
   obtain ⟨x, hx, hd, ht⟩ := get_lt (xs := ts) (i := k) (by omega)
   rw [hd] at hinv; simp only [ixFrom] at hinv
   refine pwp_skip ?_
   refine seq_norm (hK9 _ ?_); clear hK9 K9
   refine pwp_seq_block fun K11 hK11 => ?_
   refine pwp_seq_plain rfl fun K12 hK12 => ?_
   refine p_step rfl (e_move (v := .sc _) rfl) trivial ?_
   refine p_step rfl (e_assign (v := .sc _) rfl) trivial ?_
   refine p_end (hK12 _ ?_); clear hK12 K12
   refine pwp_seq_plain rfl fun K13 hK13 => ?_
   refine p_step rfl (e_move (v := .func _ _ _) rfl) trivial ?_
   refine p_step rfl (e_move (v := .lit _ _ _) rfl) trivial ?_
   refine p_step rfl (e_move (v := .sc _) rfl) trivial ?_
   refine p_step rfl (e_ixa rfl rfl (by kernel_rfl) (by kernel_rfl) (by simp only [List.length_map]; omega)) trivial ?_
   refine p_step rfl (e_loadA (n := 4) rfl (by kernel_rfl) (by kernel_rfl) (by kernel_rfl) (by simp only [List.length_map]; omega) (by decide) (by first | exact agg_map hx rfl)) trivial ?_
   refine p_call rfl (.cons (inn_agg (Term.pure _)) (.cons inn_lptr .nil)) (termOf1 _ _) ?_
   refine p_end (hK13 _ ?_); clear hK13 K13
   refine pwp_cond rfl (fun hb14 => ?_) (fun hb14 => ?_)
   ·have hb14R := hb14; try simp only [z1, z2, z3, z4, z5, z6, ne_eq, z7, z8, z9, z10, z11, z12] at hb14
    refine pwp_seq_plain rfl fun K15 hK15 => ?_
    refine p_step rfl (e_move (v := .sc _) rfl) trivial ?_
    refine p_step rfl (e_assign (v := .sc _) rfl) trivial ?_
    refine p_end (hK15 _ ?_); clear hK15 K15
    refine pwp_ret ?_
    refine ret_block ?_
    refine ret_seq ?_
    refine ret_loop ?_
    refine ret_block ?_
    refine ret_seq ?_
    refine end1 (v := .sc _) rfl ?_
    first
      | exact out_i (by rw [hinv, if_pos (by assumption)])
      | exact out_i (by rw [hinv]; rfl)
   ·have hb14R := hb14; try simp only [z1, z2, z3, z4, z5, z6, ne_eq, z7, z8, z9, z10, z11, z12] at hb14
    refine pwp_skip ?_
    refine block_norm ?_
    refine seq_norm (hK11 _ ?_); clear hK11 K11
    refine pwp_plain rfl fun K16 hK16 => ?_
    refine p_step rfl (e_add rfl rfl (by omega)) trivial ?_
    refine p_step rfl (e_move (v := .sc _) rfl) trivial ?_
    refine p_end (hK16 _ ?_); clear hK16 K16
    rw [if_neg (by assumption)] at hinv
    exact loop_again (k + 1) (by show _ < _; omega) ⟨rfl, rfl, rfl, trivial⟩ ⟨rfl, trivial⟩ (by exact ⟨by show _ + 1 ≤ _; omega, by exact hinv⟩)
  ·have hb10R := hb10; try simp only [z1, z2, z3, z4, z5, z6, ne_eq, z7, z8, z9, z10, z11, z12] at hb10
   obtain rfl : k = ts.length := by omega
   rw [List.drop_length] at hinv
   refine pwp_exit ?_
   refine exit_seq ?_
   clear hK9 K9
   refine exit_loop ?_
   refine exit_here ?_
   refine seq_norm (hK3 _ ?_); clear hK3 K3
   refine pwp_seq_plain rfl fun K17 hK17 => ?_
   refine p_step rfl (e_assign (v := .sc _) rfl) trivial ?_
   refine p_end (hK17 _ ?_); clear hK17 K17
   refine pwp_ret ?_
   refine end1 (v := .sc _) rfl ?_
   first
     | exact out_i (by rw [hinv, if_pos (by assumption)])
     | exact out_i (by rw [hinv]; rfl)

theorem fr82 : (inFrame Try.f82.ntmps (Try.f82.body.getD .skip) && Try.f82.results.toList.all (resScope Try.f82.ntmps)) = true := by kernel_rfl
theorem termOf (ts : List Term) (s : ByteArray) (hl : ts.length ≤ 65) : PCalls Try.prog 82 [.lit true 4 (ts.map Term.enc), .str s] (.int (termIx ts s)) := by
  refine PCalls.of_code Try.func82 rfl rfl (by kernel_rfl) mixed fr82 (by show _ ≤ 8; simp) (.sc _) ?_
  refine pwp_seq_plain rfl fun K1 hK1 => ?_
  refine p_new rfl (e_box1 rfl rfl) ⟨rfl, by decide⟩ ?_
  refine p_step rfl (e_assign (v := .sc _) rfl) trivial ?_
  refine p_end (hK1 _ ?_); clear hK1 K1
  refine pwp_seq_plain rfl fun K2 hK2 => ?_
  refine p_step rfl (e_move (v := .lit _ _ _) rfl) trivial ?_
  refine p_step rfl (e_mkf rfl) trivial ?_
  refine p_call rfl (.cons inn_lit (.cons (inn_clos1 (inn_ptr (hset_self _ _ _) (pure_one (.sc _)))) .nil)) (indexFunc _ _ (by first | omega | (simp only [List.length_take]; omega))) ?_
  refine p_step rfl (e_assign (v := .sc _) rfl) trivial ?_
  refine p_end (hK2 _ ?_); clear hK2 K2
  refine pwp_ret ?_
  refine end1 (v := .sc _) rfl ?_
  exact out_i rfl


def badT (t : Term) : Prop := t.week < 0 ∨ 1000000 < t.week ∨ t.price < 0 ∨ 1000000 < t.price ∨ t.least < 0 ∨ 520 < t.least
instance (t : Term) : Decidable (badT t) := inferInstanceAs (Decidable (_ ∨ _))
def goT : List Term → List Term → Int
  | _, [] => 0
  | pre, t :: ts => if isNm t.part = false then 4 else if 0 ≤ termIx pre t.part then 5 else if badT t then 2 else goT (pre ++ [t]) ts
/-- The first error of terms, or 0. -/
def termsE (ts : List Term) : Int := if 60 < ts.length then 8 else goT [] ts
theorem termsE_big {ts : List Term} (h : 60 < ts.length) : 8 = termsE ts := by rw [termsE, if_pos h]
theorem termsE_go {ts : List Term} {z : Int} (h : ts.length ≤ 60) (h2 : goT [] ts = z) : z = termsE ts := by rw [termsE, if_neg (by omega), h2]

theorem fr34 : (inFrame Try.f34.ntmps (Try.f34.body.getD .skip) && Try.f34.results.toList.all (resScope Try.f34.ntmps)) = true := by kernel_rfl
theorem refCheckTerms (ts : List Term) : PCalls Try.prog 34 [.lit true 4 (ts.map Term.enc)] (.int (termsE ts)) := by
  refine PCalls.of_code Try.func34 rfl rfl (by kernel_rfl) mixed fr34 (by show _ ≤ 55; simp) (.sc _) ?_
  refine pwp_seq_plain rfl fun K1 hK1 => ?_
  refine p_step rfl (e_assign (v := .sc _) rfl) trivial ?_
  refine p_end (hK1 _ ?_); clear hK1 K1
  refine pwp_seq_seq ?_
  refine pwp_seq_plain rfl fun K2 hK2 => ?_
  refine p_step rfl (e_move (v := .lit _ _ _) rfl) trivial ?_
  refine p_step rfl (e_len rfl (by kernel_rfl)) trivial ?_
  refine p_step rfl (e_gt rfl rfl) trivial ?_
  refine p_end (hK2 _ ?_); clear hK2 K2
  refine pwp_seq_cond rfl fun K3 hK3 => ⟨fun hb4 => ?_, fun hb4 => ?_⟩
  ·have hb4R := hb4; try simp only [z1, z2, z3, z4, z5, z6, ne_eq, z7, z8, z9, z10, z11, z12] at hb4
   refine pwp_seq_plain rfl fun K5 hK5 => ?_
   refine p_step rfl (e_assign (v := .sc _) rfl) trivial ?_
   refine p_end (hK5 _ ?_); clear hK5 K5
   refine pwp_ret ?_
   refine ret_seq ?_
   refine end1 (v := .sc _) rfl ?_
   first
     | exact out_i (termsE_big (by omega))
     | exact out_i (termsE_go (by omega) (by rw [hinv, if_pos (by assumption)]))
     | exact out_i (termsE_go (by omega) (by rw [hinv, if_neg (by rw [Bool.not_eq_false]; assumption), if_pos (by omega)]))
     | exact out_i (termsE_go (by omega) (by rw [hinv, if_neg (by rw [Bool.not_eq_false]; assumption), if_neg (by omega), if_pos (by unfold badT; omega)]))
     | exact out_i (termsE_go (by omega) hinv)
  ·have hb4R := hb4; try simp only [z1, z2, z3, z4, z5, z6, ne_eq, z7, z8, z9, z10, z11, z12] at hb4
   refine pwp_skip ?_
   refine seq_norm (hK3 _ ?_); clear hK3 K3
   refine pwp_seq_seq ?_
   refine pwp_seq_plain rfl fun K6 hK6 => ?_
   refine p_step rfl (e_assign (v := .sc _) rfl) trivial ?_
   refine p_end (hK6 _ ?_); clear hK6 K6
   refine pwp_seq_block fun K7 hK7 => ?_
   refine pwp_loopR (α := Nat) [0] (fun (k : Nat) => [(3, .int (k))]) (fun (k : Nat) (h : Heap) (_ : Nat → Nat) => ((k) ≤ ts.length) ∧ (goT [] ts = goT (ts.take (k)) (ts.drop (k)))) (fun (k : Nat) => ts.length - (k)) (0) (by exact ⟨rfl, trivial⟩) (by exact ⟨by exact Nat.zero_le _, by exact rfl⟩) fun k r8 h9 c10 hj11 => ?_
   obtain ⟨hk, hinv⟩ := hj11
   try dsimp only at hk
   try dsimp only at hinv
   show pwp _ _ (loopQ _ _ _) ⟨sets (mix _ _ _) [(3, .int k)], _, _⟩
   refine pwp_seq_seq ?_
   refine pwp_seq_plain rfl fun K12 hK12 => ?_
   refine p_step rfl (e_move (v := .sc _) rfl) trivial ?_
   refine p_step rfl (e_move (v := .lit _ _ _) rfl) trivial ?_
   refine p_step rfl (e_len rfl (by kernel_rfl)) trivial ?_
   refine p_step rfl (e_lt rfl rfl) trivial ?_
   refine p_end (hK12 _ ?_); clear hK12 K12
   refine pwp_seq_cond rfl fun K13 hK13 => ⟨fun hb14 => ?_, fun hb14 => ?_⟩
   ·have hb14R := hb14; try simp only [z1, z2, z3, z4, z5, z6, ne_eq, z7, z8, z9, z10, z11, z12] at hb14
    obtain ⟨x, hx, hd, ht⟩ := get_lt (xs := ts) (i := k) (by omega)
    rw [hd] at hinv; simp only [goT] at hinv
    refine pwp_skip ?_
    refine seq_norm (hK13 _ ?_); clear hK13 K13
    refine pwp_seq_block fun K15 hK15 => ?_
    refine pwp_seq_seq ?_
    refine pwp_seq_plain rfl fun K16 hK16 => ?_
    refine p_step rfl (e_move (v := .lit _ _ _) rfl) trivial ?_
    refine p_step rfl (e_move (v := .sc _) rfl) trivial ?_
    refine p_step rfl (e_ixa rfl rfl (by kernel_rfl) (by kernel_rfl) (by simp only [List.length_map]; omega)) trivial ?_
    refine p_step rfl (e_fa (pl := [(0, 1, false), (1, 1, false), (2, 1, false), (3, 1, false)]) rfl (by kernel_rfl) (by kernel_rfl) (by decide) rfl) trivial ?_
    refine p_step rfl (e_load (v := .sc _) rfl (by kernel_rfl) (by kernel_rfl) (by kernel_rfl) (by simp only [List.length_map]; omega) (by decide) ((cell_map hx _).trans rfl)) trivial ?_
    refine p_call rfl (.cons inn_sc .nil) (IsName _) ?_
    refine p_step rfl (e_not rfl) trivial ?_
    refine p_end (hK16 _ ?_); clear hK16 K16
    refine pwp_seq_cond rfl fun K17 hK17 => ⟨fun hb18 => ?_, fun hb18 => ?_⟩
    ·have hb18R := hb18; try simp only [z1, z2, z3, z4, z5, z6, ne_eq, z7, z8, z9, z10, z11, z12] at hb18
     refine pwp_seq_plain rfl fun K19 hK19 => ?_
     refine p_step rfl (e_assign (v := .sc _) rfl) trivial ?_
     refine p_end (hK19 _ ?_); clear hK19 K19
     refine pwp_ret ?_
     refine ret_seq ?_
     refine ret_block ?_
     refine ret_seq ?_
     refine ret_loop ?_
     refine ret_block ?_
     refine ret_seq ?_
     refine end1 (v := .sc _) rfl ?_
     first
       | exact out_i (termsE_big (by omega))
       | exact out_i (termsE_go (by omega) (by rw [hinv, if_pos (by assumption)]))
       | exact out_i (termsE_go (by omega) (by rw [hinv, if_neg (by rw [Bool.not_eq_false]; assumption), if_pos (by omega)]))
       | exact out_i (termsE_go (by omega) (by rw [hinv, if_neg (by rw [Bool.not_eq_false]; assumption), if_neg (by omega), if_pos (by unfold badT; omega)]))
       | exact out_i (termsE_go (by omega) hinv)
    ·have hb18R := hb18; try simp only [z1, z2, z3, z4, z5, z6, ne_eq, z7, z8, z9, z10, z11, z12] at hb18
     refine pwp_skip ?_
     refine seq_norm (hK17 _ ?_); clear hK17 K17
     refine pwp_seq_seq ?_
     refine pwp_seq_gops rfl fun K20 hK20 => ?_
     refine g_begin ?_
     refine g_step rfl rfl rfl rfl (e_move (v := .lit _ _ _) rfl) trivial ?_
     refine g_step rfl rfl rfl rfl (e_move (v := .sc _) rfl) trivial ?_
     refine g_step rfl rfl rfl rfl (e_upto (n := k) rfl rfl rfl (by omega) (by kernel_rfl) (by kernel_rfl)) trivial ?_
     refine g_step rfl rfl rfl rfl (e_move (v := .lit _ _ _) rfl) trivial ?_
     refine g_step rfl rfl rfl rfl (e_move (v := .sc _) rfl) trivial ?_
     refine g_step rfl rfl rfl rfl (e_ixa rfl rfl (by kernel_rfl) (by kernel_rfl) (by simp only [List.length_map]; omega)) trivial ?_
     refine g_step rfl rfl rfl rfl (e_fa (pl := [(0, 1, false), (1, 1, false), (2, 1, false), (3, 1, false)]) rfl (by kernel_rfl) (by kernel_rfl) (by decide) rfl) trivial ?_
     refine g_step rfl rfl rfl rfl (e_load (v := .sc _) rfl (by kernel_rfl) (by kernel_rfl) (by kernel_rfl) (by simp only [List.length_map]; omega) (by decide) ((cell_map hx _).trans rfl)) trivial ?_
     refine g_call rfl rfl rfl rfl (.cons inn_lit (.cons inn_sc .nil)) (Term55 _ _ (by first | omega | (simp only [List.length_take]; omega))) ?_
     refine g_step rfl rfl rfl rfl (e_ge rfl rfl) trivial ?_
     refine g_end (ds := []) (by kernel_rfl) rfl (hK20 _ ?_); clear hK20 K20
     refine pwp_seq_cond rfl fun K21 hK21 => ⟨fun hb22 => ?_, fun hb22 => ?_⟩
     ·have hb22R := hb22; try simp only [z1, z2, z3, z4, z5, z6, ne_eq, z7, z8, z9, z10, z11, z12] at hb22
      refine pwp_seq_plain rfl fun K23 hK23 => ?_
      refine p_step rfl (e_assign (v := .sc _) rfl) trivial ?_
      refine p_end (hK23 _ ?_); clear hK23 K23
      refine pwp_ret ?_
      refine ret_seq ?_
      refine ret_block ?_
      refine ret_seq ?_
      refine ret_loop ?_
      refine ret_block ?_
      refine ret_seq ?_
      refine end1 (v := .sc _) rfl ?_
      first
        | exact out_i (termsE_big (by omega))
        | exact out_i (termsE_go (by omega) (by rw [hinv, if_pos (by assumption)]))
        | exact out_i (termsE_go (by omega) (by rw [hinv, if_neg (by rw [Bool.not_eq_false]; assumption), if_pos (by omega)]))
        | exact out_i (termsE_go (by omega) (by rw [hinv, if_neg (by rw [Bool.not_eq_false]; assumption), if_neg (by omega), if_pos (by unfold badT; omega)]))
        | exact out_i (termsE_go (by omega) hinv)
     ·have hb22R := hb22; try simp only [z1, z2, z3, z4, z5, z6, ne_eq, z7, z8, z9, z10, z11, z12] at hb22
      refine pwp_skip ?_
      refine seq_norm (hK21 _ ?_); clear hK21 K21
      refine pwp_seq_cutG [0, 3] [(54, .bool (((!(decide ((0) ≤ x.week ∧ x.week ≤ (1000000)))) || (!(decide ((0) ≤ x.price ∧ x.price ≤ (1000000))))) || (!(decide ((0) ≤ x.least ∧ x.least ≤ (520))))))] (fun K24 hK24 => ?_) (fun r25 => ?_)
      ·skip
       refine pwp_gops rfl fun K26 hK26 => ?_
       refine g_begin ?_
       refine g_step rfl rfl rfl rfl (e_move (v := .lit _ _ _) rfl) trivial ?_
       refine g_step rfl rfl rfl rfl (e_move (v := .sc _) rfl) trivial ?_
       refine g_step rfl rfl rfl rfl (e_ixa rfl rfl (by kernel_rfl) (by kernel_rfl) (by simp only [List.length_map]; omega)) trivial ?_
       refine g_step rfl rfl rfl rfl (e_fa (pl := [(0, 1, false), (1, 1, false), (2, 1, false), (3, 1, false)]) rfl (by kernel_rfl) (by kernel_rfl) (by decide) rfl) trivial ?_
       refine g_step rfl rfl rfl rfl (e_load (v := .sc _) rfl (by kernel_rfl) (by kernel_rfl) (by kernel_rfl) (by simp only [List.length_map]; omega) (by decide) ((cell_map hx _).trans rfl)) trivial ?_
       refine g_call rfl rfl rfl rfl (.cons inn_sc (.cons inn_sc (.cons inn_sc .nil))) (Within _ _ _) ?_
       refine g_step rfl rfl rfl rfl (e_not rfl) trivial ?_
       refine g_step rfl rfl rfl rfl (e_move (v := .sc _) rfl) trivial ?_
       refine g_cases (fun hb27 => ?_) (fun hb27 => ?_)
       ·have hb27R := hb27; try simp only [z1, z2, z3, z4, z5, z6, ne_eq, z7, z8, z9, z10, z11, z12] at hb27
        refine g_skip rfl rfl rfl ?_
        refine g_skip rfl rfl rfl ?_
        refine g_skip rfl rfl rfl ?_
        refine g_skip rfl rfl rfl ?_
        refine g_skip rfl rfl rfl ?_
        refine g_nocall rfl rfl rfl ?_
        refine g_skip rfl rfl rfl ?_
        refine g_step rfl rfl rfl rfl (e_pickT (v := .sc _) rfl rfl) trivial ?_
        refine g_step rfl rfl rfl rfl (e_move (v := .sc _) rfl) trivial ?_
        refine g_skip rfl rfl rfl ?_
        refine g_skip rfl rfl rfl ?_
        refine g_skip rfl rfl rfl ?_
        refine g_skip rfl rfl rfl ?_
        refine g_skip rfl rfl rfl ?_
        refine g_nocall rfl rfl rfl ?_
        refine g_skip rfl rfl rfl ?_
        refine g_step rfl rfl rfl rfl (e_pickT (v := .sc _) rfl rfl) trivial ?_
        refine g_end (ds := [38, 39, 40, 41, 42, 43, 44, 47, 48, 49, 50, 51, 52, 53]) rfl rfl (hK26 _ ?_); clear hK26 K26
        exact seq_norm (hK24 _ ⟨rfl, rfl, trivial⟩ ⟨(congrArg PV.bool (show (true : Bool) = (((!(decide ((0) ≤ x.week ∧ x.week ≤ (1000000)))) || (!(decide ((0) ≤ x.price ∧ x.price ≤ (1000000))))) || (!(decide ((0) ≤ x.least ∧ x.least ≤ (520))))) by first | rfl | ((try rw [hb27R]) <;> (first | rfl | (simp only [Bool.and_true, Bool.and_false, Bool.true_and, Bool.false_and, Bool.or_true, Bool.or_false, Bool.true_or, Bool.false_or, Bool.not_true, Bool.not_false, if_true, if_false, Bool.false_eq_true, reduceIte] <;> rfl))) | (simp only [hb27R, Bool.and_true, Bool.and_false, Bool.true_and, Bool.false_and, Bool.or_true, Bool.or_false, Bool.true_or, Bool.false_or, Bool.not_true, Bool.not_false, if_true, if_false, Bool.false_eq_true, reduceIte] <;> rfl))), trivial⟩)
       ·have hb27R := hb27; try simp only [z1, z2, z3, z4, z5, z6, ne_eq, z7, z8, z9, z10, z11, z12] at hb27
        refine g_step rfl rfl rfl rfl (e_move (v := .lit _ _ _) rfl) trivial ?_
        refine g_step rfl rfl rfl rfl (e_move (v := .sc _) rfl) trivial ?_
        refine g_step rfl rfl rfl rfl (e_ixa rfl rfl (by kernel_rfl) (by kernel_rfl) (by simp only [List.length_map]; omega)) trivial ?_
        refine g_step rfl rfl rfl rfl (e_fa (pl := [(0, 1, false), (1, 1, false), (2, 1, false), (3, 1, false)]) rfl (by kernel_rfl) (by kernel_rfl) (by decide) rfl) trivial ?_
        refine g_step rfl rfl rfl rfl (e_load (v := .sc _) rfl (by kernel_rfl) (by kernel_rfl) (by kernel_rfl) (by simp only [List.length_map]; omega) (by decide) ((cell_map hx _).trans rfl)) trivial ?_
        refine g_call rfl rfl rfl rfl (.cons inn_sc (.cons inn_sc (.cons inn_sc .nil))) (Within _ _ _) ?_
        refine g_step rfl rfl rfl rfl (e_not rfl) trivial ?_
        refine g_step rfl rfl rfl rfl (e_pickF (v := .sc _) rfl rfl) trivial ?_
        refine g_step rfl rfl rfl rfl (e_move (v := .sc _) rfl) trivial ?_
        refine g_cases (fun hb28 => ?_) (fun hb28 => ?_)
        ·have hb28R := hb28; try simp only [z1, z2, z3, z4, z5, z6, ne_eq, z7, z8, z9, z10, z11, z12] at hb28
         refine g_skip rfl rfl rfl ?_
         refine g_skip rfl rfl rfl ?_
         refine g_skip rfl rfl rfl ?_
         refine g_skip rfl rfl rfl ?_
         refine g_skip rfl rfl rfl ?_
         refine g_nocall rfl rfl rfl ?_
         refine g_skip rfl rfl rfl ?_
         refine g_step rfl rfl rfl rfl (e_pickT (v := .sc _) rfl rfl) trivial ?_
         refine g_end (ds := [38, 39, 40, 41, 42, 43, 44, 47, 48, 49, 50, 51, 52, 53]) rfl rfl (hK26 _ ?_); clear hK26 K26
         exact seq_norm (hK24 _ ⟨rfl, rfl, trivial⟩ ⟨(congrArg PV.bool (show (true : Bool) = (((!(decide ((0) ≤ x.week ∧ x.week ≤ (1000000)))) || (!(decide ((0) ≤ x.price ∧ x.price ≤ (1000000))))) || (!(decide ((0) ≤ x.least ∧ x.least ≤ (520))))) by first | rfl | ((try rw [hb28R]) <;> (try rw [hb27R]) <;> (first | rfl | (simp only [Bool.and_true, Bool.and_false, Bool.true_and, Bool.false_and, Bool.or_true, Bool.or_false, Bool.true_or, Bool.false_or, Bool.not_true, Bool.not_false, if_true, if_false, Bool.false_eq_true, reduceIte] <;> rfl))) | (simp only [hb27R, hb28R, Bool.and_true, Bool.and_false, Bool.true_and, Bool.false_and, Bool.or_true, Bool.or_false, Bool.true_or, Bool.false_or, Bool.not_true, Bool.not_false, if_true, if_false, Bool.false_eq_true, reduceIte] <;> rfl))), trivial⟩)
        ·have hb28R := hb28; try simp only [z1, z2, z3, z4, z5, z6, ne_eq, z7, z8, z9, z10, z11, z12] at hb28
         refine g_step rfl rfl rfl rfl (e_move (v := .lit _ _ _) rfl) trivial ?_
         refine g_step rfl rfl rfl rfl (e_move (v := .sc _) rfl) trivial ?_
         refine g_step rfl rfl rfl rfl (e_ixa rfl rfl (by kernel_rfl) (by kernel_rfl) (by simp only [List.length_map]; omega)) trivial ?_
         refine g_step rfl rfl rfl rfl (e_fa (pl := [(0, 1, false), (1, 1, false), (2, 1, false), (3, 1, false)]) rfl (by kernel_rfl) (by kernel_rfl) (by decide) rfl) trivial ?_
         refine g_step rfl rfl rfl rfl (e_load (v := .sc _) rfl (by kernel_rfl) (by kernel_rfl) (by kernel_rfl) (by simp only [List.length_map]; omega) (by decide) ((cell_map hx _).trans rfl)) trivial ?_
         refine g_call rfl rfl rfl rfl (.cons inn_sc (.cons inn_sc (.cons inn_sc .nil))) (Within _ _ _) ?_
         refine g_step rfl rfl rfl rfl (e_not rfl) trivial ?_
         refine g_step rfl rfl rfl rfl (e_pickF (v := .sc _) rfl rfl) trivial ?_
         refine g_end (ds := [38, 39, 40, 41, 42, 43, 44, 47, 48, 49, 50, 51, 52, 53]) rfl rfl (hK26 _ ?_); clear hK26 K26
         exact seq_norm (hK24 _ ⟨rfl, rfl, trivial⟩ ⟨(congrArg PV.bool (show ((!(decide ((0) ≤ x.least ∧ x.least ≤ (520)))) : Bool) = (((!(decide ((0) ≤ x.week ∧ x.week ≤ (1000000)))) || (!(decide ((0) ≤ x.price ∧ x.price ≤ (1000000))))) || (!(decide ((0) ≤ x.least ∧ x.least ≤ (520))))) by first | rfl | ((try rw [hb28R]) <;> (try rw [hb27R]) <;> (first | rfl | (simp only [Bool.and_true, Bool.and_false, Bool.true_and, Bool.false_and, Bool.or_true, Bool.or_false, Bool.true_or, Bool.false_or, Bool.not_true, Bool.not_false, if_true, if_false, Bool.false_eq_true, reduceIte] <;> rfl))) | (simp only [hb27R, hb28R, Bool.and_true, Bool.and_false, Bool.true_and, Bool.false_and, Bool.or_true, Bool.or_false, Bool.true_or, Bool.false_or, Bool.not_true, Bool.not_false, if_true, if_false, Bool.false_eq_true, reduceIte] <;> rfl))), trivial⟩)
      ·skip
       refine pwp_cond rfl (fun hb29 => ?_) (fun hb29 => ?_)
       ·have hb29R := hb29; try simp only [z1, z2, z3, z4, z5, z6, ne_eq, z7, z8, z9, z10, z11, z12] at hb29
        refine pwp_seq_plain rfl fun K30 hK30 => ?_
        refine p_step rfl (e_assign (v := .sc _) rfl) trivial ?_
        refine p_end (hK30 _ ?_); clear hK30 K30
        refine pwp_ret ?_
        refine ret_block ?_
        refine ret_seq ?_
        refine ret_loop ?_
        refine ret_block ?_
        refine ret_seq ?_
        refine end1 (v := .sc _) rfl ?_
        first
          | exact out_i (termsE_big (by omega))
          | exact out_i (termsE_go (by omega) (by rw [hinv, if_pos (by assumption)]))
          | exact out_i (termsE_go (by omega) (by rw [hinv, if_neg (by rw [Bool.not_eq_false]; assumption), if_pos (by omega)]))
          | exact out_i (termsE_go (by omega) (by rw [hinv, if_neg (by rw [Bool.not_eq_false]; assumption), if_neg (by omega), if_pos (by unfold badT; omega)]))
          | exact out_i (termsE_go (by omega) hinv)
       ·have hb29R := hb29; try simp only [z1, z2, z3, z4, z5, z6, ne_eq, z7, z8, z9, z10, z11, z12] at hb29
        refine pwp_skip ?_
        refine block_norm ?_
        refine seq_norm (hK15 _ ?_); clear hK15 K15
        refine pwp_plain rfl fun K31 hK31 => ?_
        refine p_step rfl (e_move (v := .sc _) rfl) trivial ?_
        refine p_step rfl (e_add rfl rfl (by omega)) trivial ?_
        refine p_step rfl (e_assign (v := .sc _) rfl) trivial ?_
        refine p_end (hK31 _ ?_); clear hK31 K31
        rw [if_neg (by rw [Bool.not_eq_false]; assumption), if_neg (by omega), if_neg (by unfold badT; omega), ← ht] at hinv
        exact loop_again (k + 1) (by show _ < _; omega) ⟨rfl, trivial⟩ ⟨rfl, trivial⟩ (by exact ⟨by show _ + 1 ≤ _; omega, by exact hinv⟩)
   ·have hb14R := hb14; try simp only [z1, z2, z3, z4, z5, z6, ne_eq, z7, z8, z9, z10, z11, z12] at hb14
    obtain rfl : k = ts.length := by omega
    rw [List.drop_length] at hinv; simp only [goT] at hinv
    refine pwp_exit ?_
    refine exit_seq ?_
    clear hK13 K13
    refine exit_loop ?_
    refine exit_here ?_
    refine seq_norm (hK7 _ ?_); clear hK7 K7
    refine pwp_seq_plain rfl fun K32 hK32 => ?_
    refine p_step rfl (e_assign (v := .sc _) rfl) trivial ?_
    refine p_end (hK32 _ ?_); clear hK32 K32
    refine pwp_ret ?_
    refine end1 (v := .sc _) rfl ?_
    first
      | exact out_i (termsE_big (by omega))
      | exact out_i (termsE_go (by omega) (by rw [hinv, if_pos (by assumption)]))
      | exact out_i (termsE_go (by omega) (by rw [hinv, if_neg (by rw [Bool.not_eq_false]; assumption), if_pos (by omega)]))
      | exact out_i (termsE_go (by omega) (by rw [hinv, if_neg (by rw [Bool.not_eq_false]; assumption), if_neg (by omega), if_pos (by unfold badT; omega)]))
      | exact out_i (termsE_go (by omega) hinv)

theorem fr35 : (inFrame Try.f35.ntmps (Try.f35.body.getD .skip) && Try.f35.results.toList.all (resScope Try.f35.ntmps)) = true := by kernel_rfl
theorem CheckTerms (ts : List Term) : PCalls Try.prog 35 [.lit true 4 (ts.map Term.enc)] (.int (termsE ts)) := by
  refine PCalls.of_code Try.func35 rfl rfl (by kernel_rfl) mixed fr35 (by show _ ≤ 58; simp) (.sc _) ?_
  refine pwp_seq_plain rfl fun K1 hK1 => ?_
  refine p_step rfl (e_assign (v := .sc _) rfl) trivial ?_
  refine p_end (hK1 _ ?_); clear hK1 K1
  refine pwp_seq_seq ?_
  refine pwp_seq_plain rfl fun K2 hK2 => ?_
  refine p_step rfl (e_move (v := .lit _ _ _) rfl) trivial ?_
  refine p_step rfl (e_len rfl (by kernel_rfl)) trivial ?_
  refine p_step rfl (e_gt rfl rfl) trivial ?_
  refine p_end (hK2 _ ?_); clear hK2 K2
  refine pwp_seq_cond rfl fun K3 hK3 => ⟨fun hb4 => ?_, fun hb4 => ?_⟩
  ·have hb4R := hb4; try simp only [z1, z2, z3, z4, z5, z6, ne_eq, z7, z8, z9, z10, z11, z12] at hb4
   refine pwp_seq_plain rfl fun K5 hK5 => ?_
   refine p_step rfl (e_assign (v := .sc _) rfl) trivial ?_
   refine p_end (hK5 _ ?_); clear hK5 K5
   refine pwp_ret ?_
   refine ret_seq ?_
   refine end1 (v := .sc _) rfl ?_
   first
     | exact out_i (termsE_big (by omega))
     | exact out_i (termsE_go (by omega) (by rw [hinv, if_pos (by assumption)]))
     | exact out_i (termsE_go (by omega) (by rw [hinv, if_neg (by rw [Bool.not_eq_false]; assumption), if_pos (by omega)]))
     | exact out_i (termsE_go (by omega) (by rw [hinv, if_neg (by rw [Bool.not_eq_false]; assumption), if_neg (by omega), if_pos (by unfold badT; omega)]))
     | exact out_i (termsE_go (by omega) hinv)
  ·have hb4R := hb4; try simp only [z1, z2, z3, z4, z5, z6, ne_eq, z7, z8, z9, z10, z11, z12] at hb4
   refine pwp_skip ?_
   refine seq_norm (hK3 _ ?_); clear hK3 K3
   refine pwp_seq_seq ?_
   refine pwp_seq_plain rfl fun K6 hK6 => ?_
   refine p_step rfl (e_move (v := .lit _ _ _) rfl) trivial ?_
   refine p_step rfl (e_len rfl (by kernel_rfl)) trivial ?_
   refine p_step rfl (e_move (v := .sc _) rfl) trivial ?_
   refine p_end (hK6 _ ?_); clear hK6 K6
   refine pwp_seq_block fun K7 hK7 => ?_
   refine pwp_loopR (α := Nat) [0, 8, 9] (fun (k : Nat) => [(10, .int (k))]) (fun (k : Nat) (h : Heap) (_ : Nat → Nat) => ((k) ≤ ts.length) ∧ (goT [] ts = goT (ts.take (k)) (ts.drop (k)))) (fun (k : Nat) => ts.length - (k)) (0) (by exact ⟨rfl, trivial⟩) (by exact ⟨by exact Nat.zero_le _, by exact rfl⟩) fun k r8 h9 c10 hj11 => ?_
   obtain ⟨hk, hinv⟩ := hj11
   try dsimp only at hk
   try dsimp only at hinv
   show pwp _ _ (loopQ _ _ _) ⟨sets (mix _ _ _) [(10, .int k)], _, _⟩
   refine pwp_seq_plain rfl fun K12 hK12 => ?_
   refine p_step rfl (e_lt rfl rfl) trivial ?_
   refine p_end (hK12 _ ?_); clear hK12 K12
   refine pwp_seq_cond rfl fun K13 hK13 => ⟨fun hb14 => ?_, fun hb14 => ?_⟩
   ·have hb14R := hb14; try simp only [z1, z2, z3, z4, z5, z6, ne_eq, z7, z8, z9, z10, z11, z12] at hb14
    obtain ⟨x, hx, hd, ht⟩ := get_lt (xs := ts) (i := k) (by omega)
    rw [hd] at hinv; simp only [goT] at hinv
    refine pwp_skip ?_
    refine seq_norm (hK13 _ ?_); clear hK13 K13
    refine pwp_seq_block fun K15 hK15 => ?_
    refine pwp_seq_plain rfl fun K16 hK16 => ?_
    refine p_step rfl (e_move (v := .sc _) rfl) trivial ?_
    refine p_step rfl (e_ixa rfl rfl (by kernel_rfl) (by kernel_rfl) (by simp only [List.length_map]; omega)) trivial ?_
    refine p_step rfl (e_loadA (n := 4) rfl (by kernel_rfl) (by kernel_rfl) (by kernel_rfl) (by simp only [List.length_map]; omega) (by decide) (by first | exact agg_map hx rfl)) trivial ?_
    refine p_new rfl (e_alloc (cs := [.str ByteArray.empty, .int 0, .int 0, .int 0]) (n := 4) (by kernel_rfl) rfl (by decide)) (ob_alloc (by decide)) ?_
    refine p_step rfl (e_assign (v := .sc _) rfl) trivial ?_
    refine p_store rfl (e_storeA rfl (hset_self _ _ _) rfl rfl rfl (by kernel_rfl) rfl (by kernel_rfl)) trivial ?_
    refine p_end (hK16 _ ?_); clear hK16 K16
    refine pwp_block ?_
    refine pwp_seq_plain rfl fun K17 hK17 => ?_
    refine p_step rfl (e_faP (pl := [(0, 1, false), (1, 1, false), (2, 1, false), (3, 1, false)]) rfl (by kernel_rfl) (by kernel_rfl) (by decide) rfl) trivial ?_
    refine p_step rfl (e_loadH (v := .sc _) rfl (hset_self _ _ _) (by kernel_rfl) (by kernel_rfl) (by kernel_rfl) (by exact Nat.zero_lt_one) (by decide) rfl) trivial ?_
    refine p_call rfl (.cons inn_sc .nil) (isName _) ?_
    refine p_step rfl (e_not rfl) trivial ?_
    refine p_step rfl (e_assign (v := .sc _) rfl) trivial ?_
    refine p_end (hK17 _ ?_); clear hK17 K17
    refine pwp_cond rfl (fun hb18 => ?_) (fun hb18 => ?_)
    ·have hb18R := hb18; try simp only [z1, z2, z3, z4, z5, z6, ne_eq, z7, z8, z9, z10, z11, z12] at hb18
     refine pwp_seq_plain rfl fun K19 hK19 => ?_
     refine p_step rfl (e_assign (v := .sc _) rfl) trivial ?_
     refine p_end (hK19 _ ?_); clear hK19 K19
     refine pwp_ret ?_
     refine ret_block ?_
     refine ret_block ?_
     refine ret_seq ?_
     refine ret_loop ?_
     refine ret_block ?_
     refine ret_seq ?_
     refine end1 (v := .sc _) rfl ?_
     first
       | exact out_i (termsE_big (by omega))
       | exact out_i (termsE_go (by omega) (by rw [hinv, if_pos (by assumption)]))
       | exact out_i (termsE_go (by omega) (by rw [hinv, if_neg (by rw [Bool.not_eq_false]; assumption), if_pos (by omega)]))
       | exact out_i (termsE_go (by omega) (by rw [hinv, if_neg (by rw [Bool.not_eq_false]; assumption), if_neg (by omega), if_pos (by unfold badT; omega)]))
       | exact out_i (termsE_go (by omega) hinv)
    ·have hb18R := hb18; try simp only [z1, z2, z3, z4, z5, z6, ne_eq, z7, z8, z9, z10, z11, z12] at hb18
     refine pwp_seq_gops rfl fun K20 hK20 => ?_
     refine g_begin ?_
     refine g_step rfl rfl rfl rfl (e_move (v := .lit _ _ _) rfl) trivial ?_
     refine g_step rfl rfl rfl rfl (e_move (v := .sc _) rfl) trivial ?_
     refine g_step rfl rfl rfl rfl (e_upto (n := k) rfl rfl rfl (by omega) (by kernel_rfl) (by kernel_rfl)) trivial ?_
     refine g_step rfl rfl rfl rfl (e_faP (pl := [(0, 1, false), (1, 1, false), (2, 1, false), (3, 1, false)]) rfl (by kernel_rfl) (by kernel_rfl) (by decide) rfl) trivial ?_
     refine g_step rfl rfl rfl rfl (e_loadH (v := .sc _) rfl (hset_self _ _ _) (by kernel_rfl) (by kernel_rfl) (by kernel_rfl) (by exact Nat.zero_lt_one) (by decide) rfl) trivial ?_
     refine g_call rfl rfl rfl rfl (.cons inn_lit (.cons inn_sc .nil)) (termOf _ _ (by first | omega | (simp only [List.length_take]; omega))) ?_
     refine g_step rfl rfl rfl rfl (e_ge rfl rfl) trivial ?_
     refine g_step rfl rfl rfl rfl (e_assign (v := .sc _) rfl) trivial ?_
     refine g_end (ds := []) (by kernel_rfl) rfl (hK20 _ ?_); clear hK20 K20
     refine pwp_cond rfl (fun hb21 => ?_) (fun hb21 => ?_)
     ·have hb21R := hb21; try simp only [z1, z2, z3, z4, z5, z6, ne_eq, z7, z8, z9, z10, z11, z12] at hb21
      refine pwp_seq_plain rfl fun K22 hK22 => ?_
      refine p_step rfl (e_assign (v := .sc _) rfl) trivial ?_
      refine p_end (hK22 _ ?_); clear hK22 K22
      refine pwp_ret ?_
      refine ret_block ?_
      refine ret_block ?_
      refine ret_seq ?_
      refine ret_loop ?_
      refine ret_block ?_
      refine ret_seq ?_
      refine end1 (v := .sc _) rfl ?_
      first
        | exact out_i (termsE_big (by omega))
        | exact out_i (termsE_go (by omega) (by rw [hinv, if_pos (by assumption)]))
        | exact out_i (termsE_go (by omega) (by rw [hinv, if_neg (by rw [Bool.not_eq_false]; assumption), if_pos (by omega)]))
        | exact out_i (termsE_go (by omega) (by rw [hinv, if_neg (by rw [Bool.not_eq_false]; assumption), if_neg (by omega), if_pos (by unfold badT; omega)]))
        | exact out_i (termsE_go (by omega) hinv)
     ·have hb21R := hb21; try simp only [z1, z2, z3, z4, z5, z6, ne_eq, z7, z8, z9, z10, z11, z12] at hb21
      refine pwp_seq_cutG [0, 8, 9, 10] [(28, .bool ((((((decide (x.week < (0))) || (decide ((1000000) < x.week))) || (decide (x.price < (0)))) || (decide ((1000000) < x.price))) || (decide (x.least < (0)))) || (decide ((520) < x.least))))] (fun K23 hK23 => ?_) (fun r24 => ?_)
      ·skip
       refine pwp_gops rfl fun K25 hK25 => ?_
       refine g_begin ?_
       refine g_step rfl rfl rfl rfl (e_faP (pl := [(0, 1, false), (1, 1, false), (2, 1, false), (3, 1, false)]) rfl (by kernel_rfl) (by kernel_rfl) (by decide) rfl) trivial ?_
       refine g_step rfl rfl rfl rfl (e_loadH (v := .sc _) rfl (hset_self _ _ _) (by kernel_rfl) (by kernel_rfl) (by kernel_rfl) (by exact Nat.zero_lt_one) (by decide) rfl) trivial ?_
       refine g_step rfl rfl rfl rfl (e_lt rfl rfl) trivial ?_
       refine g_step rfl rfl rfl rfl (e_move (v := .sc _) rfl) trivial ?_
       refine g_cases (fun hb26 => ?_) (fun hb26 => ?_)
       ·have hb26R := hb26; try simp only [z1, z2, z3, z4, z5, z6, ne_eq, z7, z8, z9, z10, z11, z12] at hb26
        refine g_skip rfl rfl rfl ?_
        refine g_skip rfl rfl rfl ?_
        refine g_skip rfl rfl rfl ?_
        refine g_step rfl rfl rfl rfl (e_pickT (v := .sc _) rfl rfl) trivial ?_
        refine g_step rfl rfl rfl rfl (e_move (v := .sc _) rfl) trivial ?_
        refine g_skip rfl rfl rfl ?_
        refine g_skip rfl rfl rfl ?_
        refine g_skip rfl rfl rfl ?_
        refine g_step rfl rfl rfl rfl (e_pickT (v := .sc _) rfl rfl) trivial ?_
        refine g_step rfl rfl rfl rfl (e_move (v := .sc _) rfl) trivial ?_
        refine g_skip rfl rfl rfl ?_
        refine g_skip rfl rfl rfl ?_
        refine g_skip rfl rfl rfl ?_
        refine g_step rfl rfl rfl rfl (e_pickT (v := .sc _) rfl rfl) trivial ?_
        refine g_step rfl rfl rfl rfl (e_move (v := .sc _) rfl) trivial ?_
        refine g_skip rfl rfl rfl ?_
        refine g_skip rfl rfl rfl ?_
        refine g_skip rfl rfl rfl ?_
        refine g_step rfl rfl rfl rfl (e_pickT (v := .sc _) rfl rfl) trivial ?_
        refine g_step rfl rfl rfl rfl (e_move (v := .sc _) rfl) trivial ?_
        refine g_skip rfl rfl rfl ?_
        refine g_skip rfl rfl rfl ?_
        refine g_skip rfl rfl rfl ?_
        refine g_step rfl rfl rfl rfl (e_pickT (v := .sc _) rfl rfl) trivial ?_
        refine g_step rfl rfl rfl rfl (e_assign (v := .sc _) rfl) trivial ?_
        refine g_end (ds := [33, 34, 35, 38, 39, 40, 43, 44, 45, 48, 49, 50, 53, 54, 55]) rfl rfl (hK25 _ ?_); clear hK25 K25
        exact seq_norm (hK23 _ ⟨rfl, rfl, rfl, rfl, trivial⟩ ⟨(congrArg PV.bool (show (true : Bool) = ((((((decide (x.week < (0))) || (decide ((1000000) < x.week))) || (decide (x.price < (0)))) || (decide ((1000000) < x.price))) || (decide (x.least < (0)))) || (decide ((520) < x.least))) by first | rfl | ((try rw [hb26R]) <;> (first | rfl | (simp only [Bool.and_true, Bool.and_false, Bool.true_and, Bool.false_and, Bool.or_true, Bool.or_false, Bool.true_or, Bool.false_or, Bool.not_true, Bool.not_false, if_true, if_false, Bool.false_eq_true, reduceIte] <;> rfl))) | (simp only [hb26R, Bool.and_true, Bool.and_false, Bool.true_and, Bool.false_and, Bool.or_true, Bool.or_false, Bool.true_or, Bool.false_or, Bool.not_true, Bool.not_false, if_true, if_false, Bool.false_eq_true, reduceIte] <;> rfl))), trivial⟩)
       ·have hb26R := hb26; try simp only [z1, z2, z3, z4, z5, z6, ne_eq, z7, z8, z9, z10, z11, z12] at hb26
        refine g_step rfl rfl rfl rfl (e_faP (pl := [(0, 1, false), (1, 1, false), (2, 1, false), (3, 1, false)]) rfl (by kernel_rfl) (by kernel_rfl) (by decide) rfl) trivial ?_
        refine g_step rfl rfl rfl rfl (e_loadH (v := .sc _) rfl (hset_self _ _ _) (by kernel_rfl) (by kernel_rfl) (by kernel_rfl) (by exact Nat.zero_lt_one) (by decide) rfl) trivial ?_
        refine g_step rfl rfl rfl rfl (e_gt rfl rfl) trivial ?_
        refine g_step rfl rfl rfl rfl (e_pickF (v := .sc _) rfl rfl) trivial ?_
        refine g_step rfl rfl rfl rfl (e_move (v := .sc _) rfl) trivial ?_
        refine g_cases (fun hb27 => ?_) (fun hb27 => ?_)
        ·have hb27R := hb27; try simp only [z1, z2, z3, z4, z5, z6, ne_eq, z7, z8, z9, z10, z11, z12] at hb27
         refine g_skip rfl rfl rfl ?_
         refine g_skip rfl rfl rfl ?_
         refine g_skip rfl rfl rfl ?_
         refine g_step rfl rfl rfl rfl (e_pickT (v := .sc _) rfl rfl) trivial ?_
         refine g_step rfl rfl rfl rfl (e_move (v := .sc _) rfl) trivial ?_
         refine g_skip rfl rfl rfl ?_
         refine g_skip rfl rfl rfl ?_
         refine g_skip rfl rfl rfl ?_
         refine g_step rfl rfl rfl rfl (e_pickT (v := .sc _) rfl rfl) trivial ?_
         refine g_step rfl rfl rfl rfl (e_move (v := .sc _) rfl) trivial ?_
         refine g_skip rfl rfl rfl ?_
         refine g_skip rfl rfl rfl ?_
         refine g_skip rfl rfl rfl ?_
         refine g_step rfl rfl rfl rfl (e_pickT (v := .sc _) rfl rfl) trivial ?_
         refine g_step rfl rfl rfl rfl (e_move (v := .sc _) rfl) trivial ?_
         refine g_skip rfl rfl rfl ?_
         refine g_skip rfl rfl rfl ?_
         refine g_skip rfl rfl rfl ?_
         refine g_step rfl rfl rfl rfl (e_pickT (v := .sc _) rfl rfl) trivial ?_
         refine g_step rfl rfl rfl rfl (e_assign (v := .sc _) rfl) trivial ?_
         refine g_end (ds := [33, 34, 35, 38, 39, 40, 43, 44, 45, 48, 49, 50, 53, 54, 55]) rfl rfl (hK25 _ ?_); clear hK25 K25
         exact seq_norm (hK23 _ ⟨rfl, rfl, rfl, rfl, trivial⟩ ⟨(congrArg PV.bool (show (true : Bool) = ((((((decide (x.week < (0))) || (decide ((1000000) < x.week))) || (decide (x.price < (0)))) || (decide ((1000000) < x.price))) || (decide (x.least < (0)))) || (decide ((520) < x.least))) by first | rfl | ((try rw [hb27R]) <;> (try rw [hb26R]) <;> (first | rfl | (simp only [Bool.and_true, Bool.and_false, Bool.true_and, Bool.false_and, Bool.or_true, Bool.or_false, Bool.true_or, Bool.false_or, Bool.not_true, Bool.not_false, if_true, if_false, Bool.false_eq_true, reduceIte] <;> rfl))) | (simp only [hb26R, hb27R, Bool.and_true, Bool.and_false, Bool.true_and, Bool.false_and, Bool.or_true, Bool.or_false, Bool.true_or, Bool.false_or, Bool.not_true, Bool.not_false, if_true, if_false, Bool.false_eq_true, reduceIte] <;> rfl))), trivial⟩)
        ·have hb27R := hb27; try simp only [z1, z2, z3, z4, z5, z6, ne_eq, z7, z8, z9, z10, z11, z12] at hb27
         refine g_step rfl rfl rfl rfl (e_faP (pl := [(0, 1, false), (1, 1, false), (2, 1, false), (3, 1, false)]) rfl (by kernel_rfl) (by kernel_rfl) (by decide) rfl) trivial ?_
         refine g_step rfl rfl rfl rfl (e_loadH (v := .sc _) rfl (hset_self _ _ _) (by kernel_rfl) (by kernel_rfl) (by kernel_rfl) (by exact Nat.zero_lt_one) (by decide) rfl) trivial ?_
         refine g_step rfl rfl rfl rfl (e_lt rfl rfl) trivial ?_
         refine g_step rfl rfl rfl rfl (e_pickF (v := .sc _) rfl rfl) trivial ?_
         refine g_step rfl rfl rfl rfl (e_move (v := .sc _) rfl) trivial ?_
         refine g_cases (fun hb28 => ?_) (fun hb28 => ?_)
         ·have hb28R := hb28; try simp only [z1, z2, z3, z4, z5, z6, ne_eq, z7, z8, z9, z10, z11, z12] at hb28
          refine g_skip rfl rfl rfl ?_
          refine g_skip rfl rfl rfl ?_
          refine g_skip rfl rfl rfl ?_
          refine g_step rfl rfl rfl rfl (e_pickT (v := .sc _) rfl rfl) trivial ?_
          refine g_step rfl rfl rfl rfl (e_move (v := .sc _) rfl) trivial ?_
          refine g_skip rfl rfl rfl ?_
          refine g_skip rfl rfl rfl ?_
          refine g_skip rfl rfl rfl ?_
          refine g_step rfl rfl rfl rfl (e_pickT (v := .sc _) rfl rfl) trivial ?_
          refine g_step rfl rfl rfl rfl (e_move (v := .sc _) rfl) trivial ?_
          refine g_skip rfl rfl rfl ?_
          refine g_skip rfl rfl rfl ?_
          refine g_skip rfl rfl rfl ?_
          refine g_step rfl rfl rfl rfl (e_pickT (v := .sc _) rfl rfl) trivial ?_
          refine g_step rfl rfl rfl rfl (e_assign (v := .sc _) rfl) trivial ?_
          refine g_end (ds := [33, 34, 35, 38, 39, 40, 43, 44, 45, 48, 49, 50, 53, 54, 55]) rfl rfl (hK25 _ ?_); clear hK25 K25
          exact seq_norm (hK23 _ ⟨rfl, rfl, rfl, rfl, trivial⟩ ⟨(congrArg PV.bool (show (true : Bool) = ((((((decide (x.week < (0))) || (decide ((1000000) < x.week))) || (decide (x.price < (0)))) || (decide ((1000000) < x.price))) || (decide (x.least < (0)))) || (decide ((520) < x.least))) by first | rfl | ((try rw [hb28R]) <;> (try rw [hb27R]) <;> (try rw [hb26R]) <;> (first | rfl | (simp only [Bool.and_true, Bool.and_false, Bool.true_and, Bool.false_and, Bool.or_true, Bool.or_false, Bool.true_or, Bool.false_or, Bool.not_true, Bool.not_false, if_true, if_false, Bool.false_eq_true, reduceIte] <;> rfl))) | (simp only [hb26R, hb27R, hb28R, Bool.and_true, Bool.and_false, Bool.true_and, Bool.false_and, Bool.or_true, Bool.or_false, Bool.true_or, Bool.false_or, Bool.not_true, Bool.not_false, if_true, if_false, Bool.false_eq_true, reduceIte] <;> rfl))), trivial⟩)
         ·have hb28R := hb28; try simp only [z1, z2, z3, z4, z5, z6, ne_eq, z7, z8, z9, z10, z11, z12] at hb28
          refine g_step rfl rfl rfl rfl (e_faP (pl := [(0, 1, false), (1, 1, false), (2, 1, false), (3, 1, false)]) rfl (by kernel_rfl) (by kernel_rfl) (by decide) rfl) trivial ?_
          refine g_step rfl rfl rfl rfl (e_loadH (v := .sc _) rfl (hset_self _ _ _) (by kernel_rfl) (by kernel_rfl) (by kernel_rfl) (by exact Nat.zero_lt_one) (by decide) rfl) trivial ?_
          refine g_step rfl rfl rfl rfl (e_gt rfl rfl) trivial ?_
          refine g_step rfl rfl rfl rfl (e_pickF (v := .sc _) rfl rfl) trivial ?_
          refine g_step rfl rfl rfl rfl (e_move (v := .sc _) rfl) trivial ?_
          refine g_cases (fun hb29 => ?_) (fun hb29 => ?_)
          ·have hb29R := hb29; try simp only [z1, z2, z3, z4, z5, z6, ne_eq, z7, z8, z9, z10, z11, z12] at hb29
           refine g_skip rfl rfl rfl ?_
           refine g_skip rfl rfl rfl ?_
           refine g_skip rfl rfl rfl ?_
           refine g_step rfl rfl rfl rfl (e_pickT (v := .sc _) rfl rfl) trivial ?_
           refine g_step rfl rfl rfl rfl (e_move (v := .sc _) rfl) trivial ?_
           refine g_skip rfl rfl rfl ?_
           refine g_skip rfl rfl rfl ?_
           refine g_skip rfl rfl rfl ?_
           refine g_step rfl rfl rfl rfl (e_pickT (v := .sc _) rfl rfl) trivial ?_
           refine g_step rfl rfl rfl rfl (e_assign (v := .sc _) rfl) trivial ?_
           refine g_end (ds := [33, 34, 35, 38, 39, 40, 43, 44, 45, 48, 49, 50, 53, 54, 55]) rfl rfl (hK25 _ ?_); clear hK25 K25
           exact seq_norm (hK23 _ ⟨rfl, rfl, rfl, rfl, trivial⟩ ⟨(congrArg PV.bool (show (true : Bool) = ((((((decide (x.week < (0))) || (decide ((1000000) < x.week))) || (decide (x.price < (0)))) || (decide ((1000000) < x.price))) || (decide (x.least < (0)))) || (decide ((520) < x.least))) by first | rfl | ((try rw [hb29R]) <;> (try rw [hb28R]) <;> (try rw [hb27R]) <;> (try rw [hb26R]) <;> (first | rfl | (simp only [Bool.and_true, Bool.and_false, Bool.true_and, Bool.false_and, Bool.or_true, Bool.or_false, Bool.true_or, Bool.false_or, Bool.not_true, Bool.not_false, if_true, if_false, Bool.false_eq_true, reduceIte] <;> rfl))) | (simp only [hb26R, hb27R, hb28R, hb29R, Bool.and_true, Bool.and_false, Bool.true_and, Bool.false_and, Bool.or_true, Bool.or_false, Bool.true_or, Bool.false_or, Bool.not_true, Bool.not_false, if_true, if_false, Bool.false_eq_true, reduceIte] <;> rfl))), trivial⟩)
          ·have hb29R := hb29; try simp only [z1, z2, z3, z4, z5, z6, ne_eq, z7, z8, z9, z10, z11, z12] at hb29
           refine g_step rfl rfl rfl rfl (e_faP (pl := [(0, 1, false), (1, 1, false), (2, 1, false), (3, 1, false)]) rfl (by kernel_rfl) (by kernel_rfl) (by decide) rfl) trivial ?_
           refine g_step rfl rfl rfl rfl (e_loadH (v := .sc _) rfl (hset_self _ _ _) (by kernel_rfl) (by kernel_rfl) (by kernel_rfl) (by exact Nat.zero_lt_one) (by decide) rfl) trivial ?_
           refine g_step rfl rfl rfl rfl (e_lt rfl rfl) trivial ?_
           refine g_step rfl rfl rfl rfl (e_pickF (v := .sc _) rfl rfl) trivial ?_
           refine g_step rfl rfl rfl rfl (e_move (v := .sc _) rfl) trivial ?_
           refine g_cases (fun hb30 => ?_) (fun hb30 => ?_)
           ·have hb30R := hb30; try simp only [z1, z2, z3, z4, z5, z6, ne_eq, z7, z8, z9, z10, z11, z12] at hb30
            refine g_skip rfl rfl rfl ?_
            refine g_skip rfl rfl rfl ?_
            refine g_skip rfl rfl rfl ?_
            refine g_step rfl rfl rfl rfl (e_pickT (v := .sc _) rfl rfl) trivial ?_
            refine g_step rfl rfl rfl rfl (e_assign (v := .sc _) rfl) trivial ?_
            refine g_end (ds := [33, 34, 35, 38, 39, 40, 43, 44, 45, 48, 49, 50, 53, 54, 55]) rfl rfl (hK25 _ ?_); clear hK25 K25
            exact seq_norm (hK23 _ ⟨rfl, rfl, rfl, rfl, trivial⟩ ⟨(congrArg PV.bool (show (true : Bool) = ((((((decide (x.week < (0))) || (decide ((1000000) < x.week))) || (decide (x.price < (0)))) || (decide ((1000000) < x.price))) || (decide (x.least < (0)))) || (decide ((520) < x.least))) by first | rfl | ((try rw [hb30R]) <;> (try rw [hb29R]) <;> (try rw [hb28R]) <;> (try rw [hb27R]) <;> (try rw [hb26R]) <;> (first | rfl | (simp only [Bool.and_true, Bool.and_false, Bool.true_and, Bool.false_and, Bool.or_true, Bool.or_false, Bool.true_or, Bool.false_or, Bool.not_true, Bool.not_false, if_true, if_false, Bool.false_eq_true, reduceIte] <;> rfl))) | (simp only [hb26R, hb27R, hb28R, hb29R, hb30R, Bool.and_true, Bool.and_false, Bool.true_and, Bool.false_and, Bool.or_true, Bool.or_false, Bool.true_or, Bool.false_or, Bool.not_true, Bool.not_false, if_true, if_false, Bool.false_eq_true, reduceIte] <;> rfl))), trivial⟩)
           ·have hb30R := hb30; try simp only [z1, z2, z3, z4, z5, z6, ne_eq, z7, z8, z9, z10, z11, z12] at hb30
            refine g_step rfl rfl rfl rfl (e_faP (pl := [(0, 1, false), (1, 1, false), (2, 1, false), (3, 1, false)]) rfl (by kernel_rfl) (by kernel_rfl) (by decide) rfl) trivial ?_
            refine g_step rfl rfl rfl rfl (e_loadH (v := .sc _) rfl (hset_self _ _ _) (by kernel_rfl) (by kernel_rfl) (by kernel_rfl) (by exact Nat.zero_lt_one) (by decide) rfl) trivial ?_
            refine g_step rfl rfl rfl rfl (e_gt rfl rfl) trivial ?_
            refine g_step rfl rfl rfl rfl (e_pickF (v := .sc _) rfl rfl) trivial ?_
            refine g_step rfl rfl rfl rfl (e_assign (v := .sc _) rfl) trivial ?_
            refine g_end (ds := [33, 34, 35, 38, 39, 40, 43, 44, 45, 48, 49, 50, 53, 54, 55]) rfl rfl (hK25 _ ?_); clear hK25 K25
            exact seq_norm (hK23 _ ⟨rfl, rfl, rfl, rfl, trivial⟩ ⟨(congrArg PV.bool (show ((decide ((520) < x.least)) : Bool) = ((((((decide (x.week < (0))) || (decide ((1000000) < x.week))) || (decide (x.price < (0)))) || (decide ((1000000) < x.price))) || (decide (x.least < (0)))) || (decide ((520) < x.least))) by first | rfl | ((try rw [hb30R]) <;> (try rw [hb29R]) <;> (try rw [hb28R]) <;> (try rw [hb27R]) <;> (try rw [hb26R]) <;> (first | rfl | (simp only [Bool.and_true, Bool.and_false, Bool.true_and, Bool.false_and, Bool.or_true, Bool.or_false, Bool.true_or, Bool.false_or, Bool.not_true, Bool.not_false, if_true, if_false, Bool.false_eq_true, reduceIte] <;> rfl))) | (simp only [hb26R, hb27R, hb28R, hb29R, hb30R, Bool.and_true, Bool.and_false, Bool.true_and, Bool.false_and, Bool.or_true, Bool.or_false, Bool.true_or, Bool.false_or, Bool.not_true, Bool.not_false, if_true, if_false, Bool.false_eq_true, reduceIte] <;> rfl))), trivial⟩)
      ·skip
       refine pwp_cond rfl (fun hb31 => ?_) (fun hb31 => ?_)
       ·have hb31R := hb31; try simp only [z1, z2, z3, z4, z5, z6, ne_eq, z7, z8, z9, z10, z11, z12] at hb31
        refine pwp_seq_plain rfl fun K32 hK32 => ?_
        refine p_step rfl (e_assign (v := .sc _) rfl) trivial ?_
        refine p_end (hK32 _ ?_); clear hK32 K32
        refine pwp_ret ?_
        refine ret_block ?_
        refine ret_block ?_
        refine ret_seq ?_
        refine ret_loop ?_
        refine ret_block ?_
        refine ret_seq ?_
        refine end1 (v := .sc _) rfl ?_
        first
          | exact out_i (termsE_big (by omega))
          | exact out_i (termsE_go (by omega) (by rw [hinv, if_pos (by assumption)]))
          | exact out_i (termsE_go (by omega) (by rw [hinv, if_neg (by rw [Bool.not_eq_false]; assumption), if_pos (by omega)]))
          | exact out_i (termsE_go (by omega) (by rw [hinv, if_neg (by rw [Bool.not_eq_false]; assumption), if_neg (by omega), if_pos (by unfold badT; omega)]))
          | exact out_i (termsE_go (by omega) hinv)
       ·have hb31R := hb31; try simp only [z1, z2, z3, z4, z5, z6, ne_eq, z7, z8, z9, z10, z11, z12] at hb31
        refine pwp_skip ?_
        refine block_norm ?_
        refine block_norm ?_
        refine seq_norm (hK15 _ ?_); clear hK15 K15
        refine pwp_plain rfl fun K33 hK33 => ?_
        refine p_step rfl (e_add rfl rfl (by omega)) trivial ?_
        refine p_step rfl (e_move (v := .sc _) rfl) trivial ?_
        refine p_end (hK33 _ ?_); clear hK33 K33
        rw [if_neg (by rw [Bool.not_eq_false]; assumption), if_neg (by omega), if_neg (by unfold badT; omega), ← ht] at hinv
        exact loop_again (k + 1) (by show _ < _; omega) ⟨rfl, rfl, rfl, trivial⟩ ⟨rfl, trivial⟩ (by exact ⟨by show _ + 1 ≤ _; omega, by exact hinv⟩)
   ·have hb14R := hb14; try simp only [z1, z2, z3, z4, z5, z6, ne_eq, z7, z8, z9, z10, z11, z12] at hb14
    obtain rfl : k = ts.length := by omega
    rw [List.drop_length] at hinv; simp only [goT] at hinv
    refine pwp_exit ?_
    refine exit_seq ?_
    clear hK13 K13
    refine exit_loop ?_
    refine exit_here ?_
    refine seq_norm (hK7 _ ?_); clear hK7 K7
    refine pwp_seq_plain rfl fun K34 hK34 => ?_
    refine p_step rfl (e_assign (v := .sc _) rfl) trivial ?_
    refine p_end (hK34 _ ?_); clear hK34 K34
    refine pwp_ret ?_
    refine end1 (v := .sc _) rfl ?_
    first
      | exact out_i (termsE_big (by omega))
      | exact out_i (termsE_go (by omega) (by rw [hinv, if_pos (by assumption)]))
      | exact out_i (termsE_go (by omega) (by rw [hinv, if_neg (by rw [Bool.not_eq_false]; assumption), if_pos (by omega)]))
      | exact out_i (termsE_go (by omega) (by rw [hinv, if_neg (by rw [Bool.not_eq_false]; assumption), if_neg (by omega), if_pos (by unfold badT; omega)]))
      | exact out_i (termsE_go (by omega) hinv)

end Go.Proofs.Ytdbpfhbppcpbbaa
