import Derived.Test.YtjihcgcbnbaclaaGreatDoorRMov16
set_option linter.unusedSimpArgs false
set_option linter.unusedVariables false
set_option maxRecDepth 100000
namespace Go.Proofs.YtjihcgcbnbaclaaGreatDoor.Y9
open Go Go.Pv Go.Proofs.YtjihcgcbnbaclaaGreatDoor
structure Tms where
 a : Int
 b : Int
 c : Int
 deriving Inhabited
def chD (a b : Int) : Int := if ¬ (0 ≤ a ∧ a ≤ 20000) ∨ ¬ (0 ≤ b ∧ b ≤ 20000) then 2 else if b < a then 10 else 0
theorem chD_inv {a b : Int} (h : chD a b = 0) : (0 ≤ a ∧ a ≤ 20000) ∧ (0 ≤ b ∧ b ≤ 20000) ∧ a ≤ b := by
 unfold chD at h;split at h
 · cases h
 · split at h
   · cases h
   · omega
theorem chD_ok {a b : Int} (h : (0 ≤ a ∧ a ≤ 20000) ∧ (0 ≤ b ∧ b ≤ 20000) ∧ a ≤ b) : chD a b = 0 := by
 unfold chD; rw [if_neg (by omega), if_neg (by omega)]
def invE (ts : List Term) (ms : List Move) (a b : Int) : Int := if tmE ts ms ≠ 0 then tmE ts ms else chD a b
def invN (ts : List Term) (ms : List Move) (a b : Int) : Int := if invE ts ms a b = 0 then sumA (accT ts ms b) - sumA (accT ts ms a) else 0
section
variable {ts : List Term} {ms : List Move} {a b c : Int}
theorem inv_1 (h : ¬ tmE ts ms = 0) : tmE ts ms = invE ts ms a b ∧ 0 = invN ts ms a b := by
 have e : invE ts ms a b = tmE ts ms := by rw [invE, if_pos h]
 exact ⟨e.symm, by rw [invN, e, if_neg h]⟩
theorem inv_2 (h : tmE ts ms = 0) (h2 : ¬ chD a b = 0) : chD a b = invE ts ms a b ∧ 0 = invN ts ms a b := by
 have e : invE ts ms a b = chD a b := by rw [invE, if_neg (by simpa using h)]
 exact ⟨e.symm, by rw [invN, e, if_neg h2]⟩
theorem inv_0 (h : tmE ts ms = 0) (h2 : chD a b = 0) : 0 = invE ts ms a b ∧ sumA (accT ts ms b) - sumA (accT ts ms a) = invN ts ms a b := by
 have e : invE ts ms a b = 0 := by rw [invE, if_neg (by simpa using h), h2]
 exact ⟨e.symm, by rw [invN, e, if_pos rfl]⟩
theorem sum_all {xs : List Charge} (h : SmallA xs) : 0 ≤ sumA xs ∧ sumA xs ≤ 9000000000000000000 := by
 have := sum_take h xs.length;rw [List.take_length] at this; exact this
end
theorem frB79 : (inFrame Tryz.f25.ntmps (Tryz.f25.body.getD .skip) && Tryz.f25.results.toList.all (resScope Tryz.f25.ntmps)) = true := by kernel_rfl
theorem total2 (xs : List Charge) (hS : SmallA xs) : PCalls Tryz.prog 25 [.lit true 4 (xs.map Charge.enc)] (.int (sumA xs)) := by
 refine PCalls.of_code Tryz.func25 rfl rfl (by kernel_rfl) mixed frB79 (by show _ ≤ 18; simp) (.sc _) (pwp_seq_plain rfl fun K1 hK1 => p_step rfl (e_assign (v := .sc _) rfl) trivial (p_end (hK1 _ ?_))); clear hK1 K1;refine pwp_seq_plain rfl fun K2 hK2 => p_step rfl (e_assign (v := .sc _) rfl) trivial (p_end (hK2 _ ?_)); clear hK2 K2;refine pwp_seq_seq (pwp_seq_plain rfl fun K3 hK3 => p_step rfl (e_move (v := .lit _ _ _) rfl) trivial (p_step rfl (e_len rfl (by kernel_rfl)) trivial (p_step rfl (e_move (v := .sc _) rfl) trivial (p_end (hK3 _ ?_))))); clear hK3 K3;refine pwp_seq_block fun K4 hK4 => pwp_loopR (α := Nat × Int) [6, 7] (fun (a5 : Nat × Int) => [(3, .int (a5.2)), (8, .int (a5.1))]) (fun (a5 : Nat × Int) (h : Heap) (_ : Nat → Nat) => ((a5.1) ≤ xs.length) ∧ ((a5.2) = sumA (xs.take (a5.1)))) (fun (a5 : Nat × Int) => xs.length - (a5.1)) (0, 0) (by exact ⟨rfl, rfl, trivial⟩) (by exact ⟨by exact Nat.zero_le _, by exact rfl⟩) fun a5 r6 h7 c8 hj9 => ?_;obtain ⟨k, acc⟩ := a5;obtain ⟨hk, hacc⟩ := hj9;try dsimp only at hk
 try dsimp only at hacc
 show pwp _ _ (loopQ _ _ _) ⟨sets (mix _ _ _) [(3, .int acc), (8, .int k)], _, _⟩;refine pwp_seq_plain rfl fun K10 hK10 => p_step rfl (e_lt rfl rfl) trivial (p_end (hK10 _ ?_)); clear hK10 K10;refine pwp_seq_cond rfl fun K11 hK11 => ⟨fun hb12 => ?_, fun hb12 => ?_⟩
 ·have hb12R := hb12; try simp only [z1, z2, z3, z4, z5, z6, ne_eq, z7, z8, z9, z10, z11, z12] at hb12
  obtain ⟨x, hx, hd, ht⟩ := get_lt (xs := xs) (i := k) (by omega);have hlen9 := hS.len;have hb1 := sum_take hS k;have hb2 := sum_take hS (k + 1);rw [sumA_take ht, ← hacc] at hb2;refine pwp_skip (seq_norm (hK11 _ ?_)); clear hK11 K11;refine pwp_seq_block fun K13 hK13 => pwp_seq_plain rfl fun K14 hK14 => p_step rfl (e_ixa rfl rfl (by kernel_rfl) (by kernel_rfl) (by simp only [lM]; omega)) trivial (p_step rfl (e_loadA (n := 4) rfl (by kernel_rfl) (by kernel_rfl) (by kernel_rfl) (by simp only [lM]; omega) (by decide) (by first | exact agg_map hx rfl)) trivial (p_new rfl (e_alloc (cs := [.str ByteArray.empty, .int 0, .int 0, .int 0]) (n := 4) (by kernel_rfl) rfl (by decide)) (ob_alloc (by decide)) (p_store rfl (e_storeA rfl (hset_self _ _ _) rfl rfl rfl (by kernel_rfl) rfl (by kernel_rfl)) trivial (p_end (hK14 _ ?_))))); clear hK14 K14;refine pwp_plain rfl fun K15 hK15 => p_step rfl (e_move (v := .sc _) rfl) trivial (p_step rfl (e_faP (pl := [(0, 1, false), (1, 1, false), (2, 1, false), (3, 1, false)]) rfl (by kernel_rfl) (by kernel_rfl) (by decide) rfl) trivial (p_step rfl (e_loadH (v := .sc _) rfl (hset_self _ _ _) (by kernel_rfl) (by kernel_rfl) (by kernel_rfl) (by exact Nat.zero_lt_one) (by decide) rfl) trivial (p_step rfl (e_add rfl rfl (by omega)) trivial (p_step rfl (e_assign (v := .sc _) rfl) trivial (p_end (hK15 _ ?_)))))); clear hK15 K15;refine block_norm (seq_norm (hK13 _ ?_)); clear hK13 K13;refine pwp_plain rfl fun K16 hK16 => p_step rfl (e_add rfl rfl (by omega)) trivial (p_step rfl (e_move (v := .sc _) rfl) trivial (p_end (hK16 _ ?_))); clear hK16 K16;exact loop_again ((k + 1, acc + x.amount)) (by show _ < _; simp only; omega) ⟨rfl, rfl, trivial⟩ ⟨rfl, rfl, trivial⟩ (by exact ⟨by show _ + 1 ≤ _; omega, by show acc + x.amount = _; rw [sumA_take ht, hacc]⟩)
 ·have hb12R := hb12; try simp only [z1, z2, z3, z4, z5, z6, ne_eq, z7, z8, z9, z10, z11, z12] at hb12
  obtain rfl : k = xs.length := by omega
  rw [List.take_length] at hacc;refine pwp_exit (exit_seq ?_);clear hK11 K11;refine exit_loop (exit_here (seq_norm (hK4 _ ?_))); clear hK4 K4;refine pwp_seq_plain rfl fun K17 hK17 => p_step rfl (e_move (v := .sc _) rfl) trivial (p_step rfl (e_assign (v := .sc _) rfl) trivial (p_end (hK17 _ ?_))); clear hK17 K17;refine pwp_ret (end1 (v := .sc _) rfl ?_);exact out_i hacc
theorem fr24 : (inFrame Tryz.f24.ntmps (Tryz.f24.body.getD .skip) && Tryz.f24.results.toList.all (resScope Tryz.f24.ntmps)) = true := by kernel_rfl
theorem checkDays2 (a b : Int) : PCalls Tryz.prog 24 [.int a, .int b] (.int (chD a b)) := by
 refine PCalls.of_code Tryz.func24 rfl rfl (by kernel_rfl) mixed fr24 (by show _ ≤ 18; simp) (.sc _) (pwp_seq_plain rfl fun K1 hK1 => p_step rfl (e_assign (v := .sc _) rfl) trivial (p_end (hK1 _ ?_))); clear hK1 K1;refine pwp_seq_block fun K2 hK2 => ?_;refine pwp_seq_cutG [0, 1] [(5, .bool ((!(decide (0 ≤ a ∧ a ≤ 20000))) || (!(decide (0 ≤ b ∧ b ≤ 20000)))))] (fun K3 hK3 => ?_) (fun r4 => ?_)
 ·skip
  refine pwp_gops rfl fun K5 hK5 => g_begin (g_step rfl rfl rfl rfl (e_move (v := .sc _) rfl) trivial (g_call rfl rfl rfl rfl (.cons inn_sc .nil) (isDay _) (g_step rfl rfl rfl rfl (e_not rfl) trivial (g_step rfl rfl rfl rfl (e_move (v := .sc _) rfl) trivial ?_))));refine g_cases (fun hb6 => ?_) (fun hb6 => ?_)
  ·have hb6R := hb6; try simp only [z1, z2, z3, z4, z5, z6, ne_eq, z7, z8, z9, z10, z11, z12] at hb6
   refine g_skip rfl rfl rfl (g_nocall rfl rfl rfl (g_skip rfl rfl rfl (g_step rfl rfl rfl rfl (e_pickT (v := .sc _) rfl rfl) trivial (g_step rfl rfl rfl rfl (e_assign (v := .sc _) rfl) trivial (g_end (ds := [10, 11, 12]) rfl rfl (hK5 _ ?_)))))); clear hK5 K5;exact seq_norm (hK3 _ ⟨rfl, rfl, trivial⟩ ⟨(congrArg PV.bool (show (true : Bool) = ((!(decide (0 ≤ a ∧ a ≤ 20000))) || (!(decide (0 ≤ b ∧ b ≤ 20000)))) by first | rfl | ((try rw [hb6R]) <;> (first | rfl | (simp only [Bool.and_true, Bool.and_false, Bool.true_and, Bool.false_and, Bool.or_true, Bool.or_false, Bool.true_or, Bool.false_or, Bool.not_true, Bool.not_false, if_true, if_false, Bool.false_eq_true, reduceIte] <;> rfl))) | (simp only [hb6R, Bool.and_true, Bool.and_false, Bool.true_and, Bool.false_and, Bool.or_true, Bool.or_false, Bool.true_or, Bool.false_or, Bool.not_true, Bool.not_false, if_true, if_false, Bool.false_eq_true, reduceIte] <;> rfl))), trivial⟩)
  ·have hb6R := hb6; try simp only [z1, z2, z3, z4, z5, z6, ne_eq, z7, z8, z9, z10, z11, z12] at hb6
   refine g_step rfl rfl rfl rfl (e_move (v := .sc _) rfl) trivial (g_call rfl rfl rfl rfl (.cons inn_sc .nil) (isDay _) (g_step rfl rfl rfl rfl (e_not rfl) trivial (g_step rfl rfl rfl rfl (e_pickF (v := .sc _) rfl rfl) trivial (g_step rfl rfl rfl rfl (e_assign (v := .sc _) rfl) trivial (g_end (ds := [10, 11, 12]) rfl rfl (hK5 _ ?_)))))); clear hK5 K5;exact seq_norm (hK3 _ ⟨rfl, rfl, trivial⟩ ⟨(congrArg PV.bool (show ((!(decide (0 ≤ b ∧ b ≤ 20000))) : Bool) = ((!(decide (0 ≤ a ∧ a ≤ 20000))) || (!(decide (0 ≤ b ∧ b ≤ 20000)))) by first | rfl | ((try rw [hb6R]) <;> (first | rfl | (simp only [Bool.and_true, Bool.and_false, Bool.true_and, Bool.false_and, Bool.or_true, Bool.or_false, Bool.true_or, Bool.false_or, Bool.not_true, Bool.not_false, if_true, if_false, Bool.false_eq_true, reduceIte] <;> rfl))) | (simp only [hb6R, Bool.and_true, Bool.and_false, Bool.true_and, Bool.false_and, Bool.or_true, Bool.or_false, Bool.true_or, Bool.false_or, Bool.not_true, Bool.not_false, if_true, if_false, Bool.false_eq_true, reduceIte] <;> rfl))), trivial⟩)
 ·skip
  refine pwp_cond rfl (fun hb7 => ?_) (fun hb7 => ?_)
  ·have hb7R := hb7; try simp only [z1, z2, z3, z4, z5, z6, ne_eq, z7, z8, z9, z10, z11, z12] at hb7
   refine pwp_seq_plain rfl fun K8 hK8 => p_step rfl (e_assign (v := .sc _) rfl) trivial (p_end (hK8 _ ?_)); clear hK8 K8;refine pwp_ret (ret_block (ret_seq (end1 (v := .sc _) rfl ?_)))
   first
     | exact out_i (by rw [chD, if_pos (by omega)])
     | exact out_i (by rw [chD, if_neg (by omega), if_pos (by omega)])
     | exact out_i (by rw [chD, if_neg (by omega), if_neg (by omega)])
  ·have hb7R := hb7; try simp only [z1, z2, z3, z4, z5, z6, ne_eq, z7, z8, z9, z10, z11, z12] at hb7
   refine pwp_seq_plain rfl fun K9 hK9 => p_step rfl (e_move (v := .sc _) rfl) trivial (p_step rfl (e_move (v := .sc _) rfl) trivial (p_step rfl (e_lt rfl rfl) trivial (p_step rfl (e_assign (v := .sc _) rfl) trivial (p_end (hK9 _ ?_))))); clear hK9 K9;refine pwp_cond rfl (fun hb10 => ?_) (fun hb10 => ?_)
   ·have hb10R := hb10; try simp only [z1, z2, z3, z4, z5, z6, ne_eq, z7, z8, z9, z10, z11, z12] at hb10
    refine pwp_seq_plain rfl fun K11 hK11 => p_step rfl (e_assign (v := .sc _) rfl) trivial (p_end (hK11 _ ?_)); clear hK11 K11;refine pwp_ret (ret_block (ret_seq (end1 (v := .sc _) rfl ?_)))
    first
      | exact out_i (by rw [chD, if_pos (by omega)])
      | exact out_i (by rw [chD, if_neg (by omega), if_pos (by omega)])
      | exact out_i (by rw [chD, if_neg (by omega), if_neg (by omega)])
   ·have hb10R := hb10; try simp only [z1, z2, z3, z4, z5, z6, ne_eq, z7, z8, z9, z10, z11, z12] at hb10
    refine pwp_skip (block_norm (seq_norm (hK2 _ ?_))); clear hK2 K2;refine pwp_seq_plain rfl fun K12 hK12 => p_step rfl (e_assign (v := .sc _) rfl) trivial (p_end (hK12 _ ?_)); clear hK12 K12;refine pwp_ret (end1 (v := .sc _) rfl ?_)
    first
      | exact out_i (by rw [chD, if_pos (by omega)])
      | exact out_i (by rw [chD, if_neg (by omega), if_pos (by omega)])
      | exact out_i (by rw [chD, if_neg (by omega), if_neg (by omega)])
theorem fr12 : (inFrame Tryz.f12.ntmps (Tryz.f12.body.getD .skip) && Tryz.f12.results.toList.all (resScope Tryz.f12.ntmps)) = true := by kernel_rfl
theorem Invoice (ts : List Term) (ms : List Move) (fa fb : Int) (hlt : ts.length ≤ 65) (hl : ms.length ≤ 305) : PCalls Tryz.prog 12 [.lit true 4 (ts.map Term.enc), .lit true 4 (ms.map Move.enc), .int fa, .int fb] (.tup [.int (invN ts ms fa fb), .int (invE ts ms fa fb)]) := by
 refine PCalls.of_code Tryz.func12 rfl rfl (by kernel_rfl) mixed fr12 (by show _ ≤ 35; simp) (pure_2 (.sc _) (.sc _)) (pwp_seq_plain rfl fun K1 hK1 => p_step rfl (e_assign (v := .sc _) rfl) trivial (p_step rfl (e_assign (v := .sc _) rfl) trivial (p_end (hK1 _ ?_)))); clear hK1 K1;refine pwp_seq_seq (pwp_seq_plain rfl fun K2 hK2 => p_step rfl (e_move (v := .lit _ _ _) rfl) trivial (p_step rfl (e_move (v := .lit _ _ _) rfl) trivial (p_call rfl (.cons inn_lit (.cons inn_lit .nil)) (CheckMoves _ _ (by omega) (by omega)) (p_step rfl (e_assign (v := .sc _) rfl) trivial (p_end (hK2 _ ?_)))))); clear hK2 K2;refine pwp_seq_seq (pwp_seq_plain rfl fun K3 hK3 => p_step rfl (e_move (v := .sc _) rfl) trivial (p_step rfl (e_ne rfl rfl) trivial (p_end (hK3 _ ?_)))); clear hK3 K3;refine pwp_seq_cond rfl fun K4 hK4 => ⟨fun hb5 => ?_, fun hb5 => ?_⟩
 ·have hb5R := hb5; (try simp only [z1, z2, z3, z4, z5, z6, ne_eq, z7, z8, z9, z10, z11, z12] at hb5); (try (have htm : tmE ts ms = 0 := hb5)); (try (have hch := chD_inv (a := fa) (b := fb) hb5));refine pwp_seq_plain rfl fun K6 hK6 => p_step rfl (e_move (v := .sc _) rfl) trivial (p_step rfl (e_assign (v := .sc _) rfl) trivial (p_step rfl (e_assign (v := .sc _) rfl) trivial (p_end (hK6 _ ?_)))); clear hK6 K6;refine pwp_ret (ret_seq (end2 (v := .sc _) (w := .sc _) rfl rfl ?_))
  first
    | exact out_2 (out_i (inv_1 (by assumption)).2) (out_i (inv_1 (by assumption)).1)
    | exact out_2 (out_i (inv_2 htm (by assumption)).2) (out_i (inv_2 htm (by assumption)).1)
    | exact out_2 (out_i (inv_0 htm (by assumption)).2) (out_i (inv_0 htm (by assumption)).1)
 ·have hb5R := hb5; (try simp only [z1, z2, z3, z4, z5, z6, ne_eq, z7, z8, z9, z10, z11, z12] at hb5); (try (have htm : tmE ts ms = 0 := hb5)); (try (have hch := chD_inv (a := fa) (b := fb) hb5));refine pwp_skip (seq_norm (hK4 _ ?_)); clear hK4 K4;refine pwp_seq_seq (pwp_seq_plain rfl fun K7 hK7 => p_step rfl (e_move (v := .sc _) rfl) trivial (p_step rfl (e_move (v := .sc _) rfl) trivial (p_call rfl (.cons inn_sc (.cons inn_sc .nil)) (checkDays2 _ _) (p_step rfl (e_assign (v := .sc _) rfl) trivial (p_end (hK7 _ ?_)))))); clear hK7 K7;refine pwp_seq_seq (pwp_seq_plain rfl fun K8 hK8 => p_step rfl (e_move (v := .sc _) rfl) trivial (p_step rfl (e_ne rfl rfl) trivial (p_end (hK8 _ ?_)))); clear hK8 K8;refine pwp_seq_cond rfl fun K9 hK9 => ⟨fun hb10 => ?_, fun hb10 => ?_⟩
  ·have hb10R := hb10; (try simp only [z1, z2, z3, z4, z5, z6, ne_eq, z7, z8, z9, z10, z11, z12] at hb10); (try (have htm : tmE ts ms = 0 := hb10)); (try (have hch := chD_inv (a := fa) (b := fb) hb10));refine pwp_seq_plain rfl fun K11 hK11 => p_step rfl (e_move (v := .sc _) rfl) trivial (p_step rfl (e_assign (v := .sc _) rfl) trivial (p_step rfl (e_assign (v := .sc _) rfl) trivial (p_end (hK11 _ ?_)))); clear hK11 K11;refine pwp_ret (ret_seq (end2 (v := .sc _) (w := .sc _) rfl rfl ?_))
   first
     | exact out_2 (out_i (inv_1 (by assumption)).2) (out_i (inv_1 (by assumption)).1)
     | exact out_2 (out_i (inv_2 htm (by assumption)).2) (out_i (inv_2 htm (by assumption)).1)
     | exact out_2 (out_i (inv_0 htm (by assumption)).2) (out_i (inv_0 htm (by assumption)).1)
  ·have hb10R := hb10; (try simp only [z1, z2, z3, z4, z5, z6, ne_eq, z7, z8, z9, z10, z11, z12] at hb10); (try (have htm : tmE ts ms = 0 := hb10)); (try (have hch := chD_inv (a := fa) (b := fb) hb10));refine pwp_skip (seq_norm (hK9 _ ?_)); clear hK9 K9;have hs1 := sum_all (acc_small htm hch.1);have hs2 := sum_all (acc_small htm hch.2.1);refine pwp_seq_plain rfl fun K12 hK12 => p_step rfl (e_move (v := .lit _ _ _) rfl) trivial (p_step rfl (e_move (v := .lit _ _ _) rfl) trivial (p_step rfl (e_move (v := .sc _) rfl) trivial (p_call rfl (.cons inn_lit (.cons inn_lit (.cons inn_sc .nil))) (account _ _ _ (by omega) (by omega) htm (by omega)) (p_call rfl (.cons inn_lit .nil) (total2 _ (acc_small htm (by omega))) (p_step rfl (e_move (v := .lit _ _ _) rfl) trivial (p_step rfl (e_move (v := .lit _ _ _) rfl) trivial ?_))))));refine p_step rfl (e_move (v := .sc _) rfl) trivial (p_call rfl (.cons inn_lit (.cons inn_lit (.cons inn_sc .nil))) (account _ _ _ (by omega) (by omega) htm (by omega)) (p_call rfl (.cons inn_lit .nil) (total2 _ (acc_small htm (by omega))) (p_step rfl (e_sub rfl rfl (by omega)) trivial (p_step rfl (e_assign (v := .sc _) rfl) trivial (p_step rfl (e_assign (v := .sc _) rfl) trivial (p_end (hK12 _ ?_))))))); clear hK12 K12;refine pwp_ret (end2 (v := .sc _) (w := .sc _) rfl rfl ?_)
   first
     | exact out_2 (out_i (inv_1 (by assumption)).2) (out_i (inv_1 (by assumption)).1)
     | exact out_2 (out_i (inv_2 htm (by assumption)).2) (out_i (inv_2 htm (by assumption)).1)
     | exact out_2 (out_i (inv_0 htm (by assumption)).2) (out_i (inv_0 htm (by assumption)).1)
section
variable {ts : List Term} {ms : List Move} {a b c : Int}
theorem inv_n {ts : List Term} {ms : List Move} {a b : Int} (hz : tmE ts ms = 0) (h : (0 ≤ a ∧ a ≤ 20000) ∧ (0 ≤ b ∧ b ≤ 20000) ∧ a ≤ b) : invE ts ms a b = 0 ∧ invN ts ms a b = sumA (accT ts ms b) - sumA (accT ts ms a) := by
 have := inv_0 hz (chD_ok h); exact ⟨this.1.symm, this.2.symm⟩
end
end Go.Proofs.YtjihcgcbnbaclaaGreatDoor.Y9
