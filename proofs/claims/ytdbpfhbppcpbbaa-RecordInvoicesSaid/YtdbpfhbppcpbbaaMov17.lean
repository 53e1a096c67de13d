/- RecordInvoices, as a contract on pure values. No conditions. -/
import Derived.Test.YtdbpfhbppcpbbaaMov16
set_option linter.unusedSimpArgs false
set_option linter.unusedVariables false
set_option maxRecDepth 100000
namespace Go.Proofs.Ytdbpfhbppcpbbaa
open Go Go.Pv
/-- Three days. -/
structure Tms where
  a : Int
  b : Int
  c : Int
  deriving Inhabited
def Tms.enc (x : Tms) : List PV := [.int x.a, .int x.b, .int x.c]
theorem Tms.pure (x : Tms) : ∀ p ∈ x.enc, Pure p := fun p hp => by
  simp only [Tms.enc, List.mem_cons, List.not_mem_nil, or_false] at hp
  rcases hp with rfl | rfl | rfl <;> exact .sc _
theorem Tms.of {row : List PV} (h : CellsP Try.prog [3, 3, 3] row) : ∃ x : Tms, row = x.enc := by
  obtain ⟨q1, l1, rfl, h1, h⟩ := h.cons_inv
  obtain ⟨q2, l2, rfl, h2, h⟩ := h.cons_inv
  obtain ⟨q3, l3, rfl, h3, h⟩ := h.cons_inv
  obtain rfl := h.nil_inv
  obtain ⟨a, rfl, _⟩ := h1.int_inv Try.underlying3
  obtain ⟨b, rfl, _⟩ := h2.int_inv Try.underlying3
  obtain ⟨c, rfl, _⟩ := h3.int_inv Try.underlying3
  exact ⟨⟨a, b, c⟩, rfl⟩
def chD (a b : Int) : Int := if ¬ (0 ≤ a ∧ a ≤ 20000) ∨ ¬ (0 ≤ b ∧ b ≤ 20000) then 2 else if b < a then 10 else 0
theorem chD_inv {a b : Int} (h : chD a b = 0) : (0 ≤ a ∧ a ≤ 20000) ∧ (0 ≤ b ∧ b ≤ 20000) ∧ a ≤ b := by
  unfold chD at h
  split at h
  · cases h
  · split at h
    · cases h
    · omega
theorem chD_ok {a b : Int} (h : (0 ≤ a ∧ a ≤ 20000) ∧ (0 ≤ b ∧ b ≤ 20000) ∧ a ≤ b) : chD a b = 0 := by
  unfold chD; rw [if_neg (by omega), if_neg (by omega)]
def invE (ts : List Term) (ms : List Move) (a b : Int) : Int := if tmE ts ms ≠ 0 then tmE ts ms else chD a b
def invN (ts : List Term) (ms : List Move) (a b : Int) : Int := if invE ts ms a b = 0 then sumA (accT ts ms b) - sumA (accT ts ms a) else 0
section
variable {ts : List Term} {ms : List Move} {a b c : Int}
theorem inv_1 (h : ¬ tmE ts ms = 0) : tmE ts ms = invE ts ms a b ∧ 0 = invN ts ms a b := by
  have e : invE ts ms a b = tmE ts ms := by rw [invE, if_pos h]
  exact ⟨e.symm, by rw [invN, e, if_neg h]⟩
theorem inv_2 (h : tmE ts ms = 0) (h2 : ¬ chD a b = 0) : chD a b = invE ts ms a b ∧ 0 = invN ts ms a b := by
  have e : invE ts ms a b = chD a b := by rw [invE, if_neg (by simpa using h)]
  exact ⟨e.symm, by rw [invN, e, if_neg h2]⟩
theorem inv_0 (h : tmE ts ms = 0) (h2 : chD a b = 0) : 0 = invE ts ms a b ∧ sumA (accT ts ms b) - sumA (accT ts ms a) = invN ts ms a b := by
  have e : invE ts ms a b = 0 := by rw [invE, if_neg (by simpa using h), h2]
  exact ⟨e.symm, by rw [invN, e, if_pos rfl]⟩
theorem inv_parts (h : invE ts ms a b = 0) : tmE ts ms = 0 ∧ (0 ≤ a ∧ a ≤ 20000) ∧ (0 ≤ b ∧ b ≤ 20000) ∧ a ≤ b := by
  unfold invE at h
  split at h
  · rename_i h1; exact absurd h h1
  · rename_i h1; exact ⟨by simpa using h1, chD_inv h⟩
theorem sum_all {xs : List Charge} (h : SmallA xs) : 0 ≤ sumA xs ∧ sumA xs ≤ 9000000000000000000 := by
  have := sum_take h xs.length
  rw [List.take_length] at this; exact this
end

theorem frB79 : (inFrame Try.f79.ntmps (Try.f79.body.getD .skip) && Try.f79.results.toList.all (resScope Try.f79.ntmps)) = true := by kernel_rfl
theorem total2 (xs : List Charge) (hS : SmallA xs) : PCalls Try.prog 79 [.lit true 4 (xs.map Charge.enc)] (.int (sumA xs)) := by
  refine PCalls.of_code Try.func79 rfl rfl (by kernel_rfl) mixed frB79 (by show _ ≤ 18; simp) (.sc _) ?_
  refine pwp_seq_plain rfl fun K1 hK1 => ?_
  refine p_step rfl (e_assign (v := .sc _) rfl) trivial ?_
  refine p_end (hK1 _ ?_); clear hK1 K1
  refine pwp_seq_plain rfl fun K2 hK2 => ?_
  refine p_step rfl (e_assign (v := .sc _) rfl) trivial ?_
  refine p_end (hK2 _ ?_); clear hK2 K2
  refine pwp_seq_seq ?_
  refine pwp_seq_plain rfl fun K3 hK3 => ?_
  refine p_step rfl (e_move (v := .lit _ _ _) rfl) trivial ?_
  refine p_step rfl (e_len rfl (by kernel_rfl)) trivial ?_
  refine p_step rfl (e_move (v := .sc _) rfl) trivial ?_
  refine p_end (hK3 _ ?_); clear hK3 K3
  refine pwp_seq_block fun K4 hK4 => ?_
  refine pwp_loopR (α := Nat × Int) [6, 7] (fun (a5 : Nat × Int) => [(3, .int (a5.2)), (8, .int (a5.1))]) (fun (a5 : Nat × Int) (h : Heap) (_ : Nat → Nat) => ((a5.1) ≤ xs.length) ∧ ((a5.2) = sumA (xs.take (a5.1)))) (fun (a5 : Nat × Int) => xs.length - (a5.1)) (0, 0) (by exact ⟨rfl, rfl, trivial⟩) (by exact ⟨by exact Nat.zero_le _, by exact rfl⟩) fun a5 r6 h7 c8 hj9 => ?_
  obtain ⟨k, acc⟩ := a5
  obtain ⟨hk, hacc⟩ := hj9
  try dsimp only at hk
  try dsimp only at hacc
  show pwp _ _ (loopQ _ _ _) ⟨sets (mix _ _ _) [(3, .int acc), (8, .int k)], _, _⟩
  refine pwp_seq_plain rfl fun K10 hK10 => ?_
  refine p_step rfl (e_lt rfl rfl) trivial ?_
  refine p_end (hK10 _ ?_); clear hK10 K10
  refine pwp_seq_cond rfl fun K11 hK11 => ⟨fun hb12 => ?_, fun hb12 => ?_⟩
  ·have hb12R := hb12; try simp only [z1, z2, z3, z4, z5, z6, ne_eq, z7, z8, z9, z10, z11, z12] at hb12
   obtain ⟨x, hx, hd, ht⟩ := get_lt (xs := xs) (i := k) (by omega)
   have hlen9 := hS.len
   have hb1 := sum_take hS k
   have hb2 := sum_take hS (k + 1)
   rw [sumA_take ht, ← hacc] at hb2
   refine pwp_skip ?_
   refine seq_norm (hK11 _ ?_); clear hK11 K11
   refine pwp_seq_block fun K13 hK13 => ?_
   refine pwp_seq_plain rfl fun K14 hK14 => ?_
   refine p_step rfl (e_ixa rfl rfl (by kernel_rfl) (by kernel_rfl) (by simp only [List.length_map]; omega)) trivial ?_
   refine p_step rfl (e_loadA (n := 4) rfl (by kernel_rfl) (by kernel_rfl) (by kernel_rfl) (by simp only [List.length_map]; omega) (by decide) (by first | exact agg_map hx rfl)) trivial ?_
   refine p_new rfl (e_alloc (cs := [.str ByteArray.empty, .int 0, .int 0, .int 0]) (n := 4) (by kernel_rfl) rfl (by decide)) (ob_alloc (by decide)) ?_
   refine p_store rfl (e_storeA rfl (hset_self _ _ _) rfl rfl rfl (by kernel_rfl) rfl (by kernel_rfl)) trivial ?_
   refine p_end (hK14 _ ?_); clear hK14 K14
   refine pwp_plain rfl fun K15 hK15 => ?_
   refine p_step rfl (e_move (v := .sc _) rfl) trivial ?_
   refine p_step rfl (e_faP (pl := [(0, 1, false), (1, 1, false), (2, 1, false), (3, 1, false)]) rfl (by kernel_rfl) (by kernel_rfl) (by decide) rfl) trivial ?_
   refine p_step rfl (e_loadH (v := .sc _) rfl (hset_self _ _ _) (by kernel_rfl) (by kernel_rfl) (by kernel_rfl) (by exact Nat.zero_lt_one) (by decide) rfl) trivial ?_
   refine p_step rfl (e_add rfl rfl (by omega)) trivial ?_
   refine p_step rfl (e_assign (v := .sc _) rfl) trivial ?_
   refine p_end (hK15 _ ?_); clear hK15 K15
   refine block_norm ?_
   refine seq_norm (hK13 _ ?_); clear hK13 K13
   refine pwp_plain rfl fun K16 hK16 => ?_
   refine p_step rfl (e_add rfl rfl (by omega)) trivial ?_
   refine p_step rfl (e_move (v := .sc _) rfl) trivial ?_
   refine p_end (hK16 _ ?_); clear hK16 K16
   exact loop_again ((k + 1, acc + x.amount)) (by show _ < _; simp only; omega) ⟨rfl, rfl, trivial⟩ ⟨rfl, rfl, trivial⟩ (by exact ⟨by show _ + 1 ≤ _; omega, by show acc + x.amount = _; rw [sumA_take ht, hacc]⟩)
  ·have hb12R := hb12; try simp only [z1, z2, z3, z4, z5, z6, ne_eq, z7, z8, z9, z10, z11, z12] at hb12
   obtain rfl : k = xs.length := by omega
   rw [List.take_length] at hacc
   refine pwp_exit ?_
   refine exit_seq ?_
   clear hK11 K11
   refine exit_loop ?_
   refine exit_here ?_
   refine seq_norm (hK4 _ ?_); clear hK4 K4
   refine pwp_seq_plain rfl fun K17 hK17 => ?_
   refine p_step rfl (e_move (v := .sc _) rfl) trivial ?_
   refine p_step rfl (e_assign (v := .sc _) rfl) trivial ?_
   refine p_end (hK17 _ ?_); clear hK17 K17
   refine pwp_ret ?_
   refine end1 (v := .sc _) rfl ?_
   exact out_i hacc

theorem frB31 : (inFrame Try.f31.ntmps (Try.f31.body.getD .skip) && Try.f31.results.toList.all (resScope Try.f31.ntmps)) = true := by kernel_rfl
theorem refTotal2 (xs : List Charge) (hS : SmallA xs) : PCalls Try.prog 31 [.lit true 4 (xs.map Charge.enc)] (.int (sumA xs)) := by
  refine PCalls.of_code Try.func31 rfl rfl (by kernel_rfl) mixed frB31 (by show _ ≤ 19; simp) (.sc _) ?_
  refine pwp_seq_plain rfl fun K1 hK1 => ?_
  refine p_step rfl (e_assign (v := .sc _) rfl) trivial ?_
  refine p_end (hK1 _ ?_); clear hK1 K1
  refine pwp_seq_plain rfl fun K2 hK2 => ?_
  refine p_step rfl (e_assign (v := .sc _) rfl) trivial ?_
  refine p_end (hK2 _ ?_); clear hK2 K2
  refine pwp_seq_seq ?_
  refine pwp_seq_plain rfl fun K3 hK3 => ?_
  refine p_step rfl (e_assign (v := .sc _) rfl) trivial ?_
  refine p_end (hK3 _ ?_); clear hK3 K3
  refine pwp_seq_block fun K4 hK4 => ?_
  refine pwp_loopR (α := Nat × Int) [0] (fun (a5 : Nat × Int) => [(3, .int (a5.2)), (4, .int (a5.1))]) (fun (a5 : Nat × Int) (h : Heap) (_ : Nat → Nat) => ((a5.1) ≤ xs.length) ∧ ((a5.2) = sumA (xs.take (a5.1)))) (fun (a5 : Nat × Int) => xs.length - (a5.1)) (0, 0) (by exact ⟨rfl, rfl, trivial⟩) (by exact ⟨by exact Nat.zero_le _, by exact rfl⟩) fun a5 r6 h7 c8 hj9 => ?_
  obtain ⟨k, acc⟩ := a5
  obtain ⟨hk, hacc⟩ := hj9
  try dsimp only at hk
  try dsimp only at hacc
  show pwp _ _ (loopQ _ _ _) ⟨sets (mix _ _ _) [(3, .int acc), (4, .int k)], _, _⟩
  refine pwp_seq_seq ?_
  refine pwp_seq_plain rfl fun K10 hK10 => ?_
  refine p_step rfl (e_move (v := .sc _) rfl) trivial ?_
  refine p_step rfl (e_move (v := .lit _ _ _) rfl) trivial ?_
  refine p_step rfl (e_len rfl (by kernel_rfl)) trivial ?_
  refine p_step rfl (e_lt rfl rfl) trivial ?_
  refine p_end (hK10 _ ?_); clear hK10 K10
  refine pwp_seq_cond rfl fun K11 hK11 => ⟨fun hb12 => ?_, fun hb12 => ?_⟩
  ·have hb12R := hb12; try simp only [z1, z2, z3, z4, z5, z6, ne_eq, z7, z8, z9, z10, z11, z12] at hb12
   obtain ⟨x, hx, hd, ht⟩ := get_lt (xs := xs) (i := k) (by omega)
   have hlen9 := hS.len
   have hb1 := sum_take hS k
   have hb2 := sum_take hS (k + 1)
   rw [sumA_take ht, ← hacc] at hb2
   refine pwp_skip ?_
   refine seq_norm (hK11 _ ?_); clear hK11 K11
   refine pwp_seq_block fun K13 hK13 => ?_
   refine pwp_plain rfl fun K14 hK14 => ?_
   refine p_step rfl (e_move (v := .sc _) rfl) trivial ?_
   refine p_step rfl (e_move (v := .lit _ _ _) rfl) trivial ?_
   refine p_step rfl (e_move (v := .sc _) rfl) trivial ?_
   refine p_step rfl (e_ixa rfl rfl (by kernel_rfl) (by kernel_rfl) (by simp only [List.length_map]; omega)) trivial ?_
   refine p_step rfl (e_fa (pl := [(0, 1, false), (1, 1, false), (2, 1, false), (3, 1, false)]) rfl (by kernel_rfl) (by kernel_rfl) (by decide) rfl) trivial ?_
   refine p_step rfl (e_load (v := .sc _) rfl (by kernel_rfl) (by kernel_rfl) (by kernel_rfl) (by simp only [List.length_map]; omega) (by decide) ((cell_map hx _).trans rfl)) trivial ?_
   refine p_step rfl (e_add rfl rfl (by omega)) trivial ?_
   refine p_step rfl (e_assign (v := .sc _) rfl) trivial ?_
   refine p_end (hK14 _ ?_); clear hK14 K14
   refine block_norm ?_
   refine seq_norm (hK13 _ ?_); clear hK13 K13
   refine pwp_plain rfl fun K15 hK15 => ?_
   refine p_step rfl (e_move (v := .sc _) rfl) trivial ?_
   refine p_step rfl (e_add rfl rfl (by omega)) trivial ?_
   refine p_step rfl (e_assign (v := .sc _) rfl) trivial ?_
   refine p_end (hK15 _ ?_); clear hK15 K15
   exact loop_again ((k + 1, acc + x.amount)) (by show _ < _; simp only; omega) ⟨rfl, trivial⟩ ⟨rfl, rfl, trivial⟩ (by exact ⟨by show _ + 1 ≤ _; omega, by show acc + x.amount = _; rw [sumA_take ht, hacc]⟩)
  ·have hb12R := hb12; try simp only [z1, z2, z3, z4, z5, z6, ne_eq, z7, z8, z9, z10, z11, z12] at hb12
   obtain rfl : k = xs.length := by omega
   rw [List.take_length] at hacc
   refine pwp_exit ?_
   refine exit_seq ?_
   clear hK11 K11
   refine exit_loop ?_
   refine exit_here ?_
   refine seq_norm (hK4 _ ?_); clear hK4 K4
   refine pwp_seq_plain rfl fun K16 hK16 => ?_
   refine p_step rfl (e_move (v := .sc _) rfl) trivial ?_
   refine p_step rfl (e_assign (v := .sc _) rfl) trivial ?_
   refine p_end (hK16 _ ?_); clear hK16 K16
   refine pwp_ret ?_
   refine end1 (v := .sc _) rfl ?_
   exact out_i hacc

theorem fr71 : (inFrame Try.f71.ntmps (Try.f71.body.getD .skip) && Try.f71.results.toList.all (resScope Try.f71.ntmps)) = true := by kernel_rfl
theorem checkDays2 (a b : Int) : PCalls Try.prog 71 [.int a, .int b] (.int (chD a b)) := by
  refine PCalls.of_code Try.func71 rfl rfl (by kernel_rfl) mixed fr71 (by show _ ≤ 18; simp) (.sc _) ?_
  refine pwp_seq_plain rfl fun K1 hK1 => ?_
  refine p_step rfl (e_assign (v := .sc _) rfl) trivial ?_
  refine p_end (hK1 _ ?_); clear hK1 K1
  refine pwp_seq_block fun K2 hK2 => ?_
  refine pwp_seq_cutG [0, 1] [(5, .bool ((!(decide (0 ≤ a ∧ a ≤ 20000))) || (!(decide (0 ≤ b ∧ b ≤ 20000)))))] (fun K3 hK3 => ?_) (fun r4 => ?_)
  ·skip
   refine pwp_gops rfl fun K5 hK5 => ?_
   refine g_begin ?_
   refine g_step rfl rfl rfl rfl (e_move (v := .sc _) rfl) trivial ?_
   refine g_call rfl rfl rfl rfl (.cons inn_sc .nil) (isDay _) ?_
   refine g_step rfl rfl rfl rfl (e_not rfl) trivial ?_
   refine g_step rfl rfl rfl rfl (e_move (v := .sc _) rfl) trivial ?_
   refine g_cases (fun hb6 => ?_) (fun hb6 => ?_)
   ·have hb6R := hb6; try simp only [z1, z2, z3, z4, z5, z6, ne_eq, z7, z8, z9, z10, z11, z12] at hb6
    refine g_skip rfl rfl rfl ?_
    refine g_nocall rfl rfl rfl ?_
    refine g_skip rfl rfl rfl ?_
    refine g_step rfl rfl rfl rfl (e_pickT (v := .sc _) rfl rfl) trivial ?_
    refine g_step rfl rfl rfl rfl (e_assign (v := .sc _) rfl) trivial ?_
    refine g_end (ds := [10, 11, 12]) rfl rfl (hK5 _ ?_); clear hK5 K5
    exact seq_norm (hK3 _ ⟨rfl, rfl, trivial⟩ ⟨(congrArg PV.bool (show (true : Bool) = ((!(decide (0 ≤ a ∧ a ≤ 20000))) || (!(decide (0 ≤ b ∧ b ≤ 20000)))) by first | rfl | ((try rw [hb6R]) <;> (first | rfl | (simp only [Bool.and_true, Bool.and_false, Bool.true_and, Bool.false_and, Bool.or_true, Bool.or_false, Bool.true_or, Bool.false_or, Bool.not_true, Bool.not_false, if_true, if_false, Bool.false_eq_true, reduceIte] <;> rfl))) | (simp only [hb6R, Bool.and_true, Bool.and_false, Bool.true_and, Bool.false_and, Bool.or_true, Bool.or_false, Bool.true_or, Bool.false_or, Bool.not_true, Bool.not_false, if_true, if_false, Bool.false_eq_true, reduceIte] <;> rfl))), trivial⟩)
   ·have hb6R := hb6; try simp only [z1, z2, z3, z4, z5, z6, ne_eq, z7, z8, z9, z10, z11, z12] at hb6
    refine g_step rfl rfl rfl rfl (e_move (v := .sc _) rfl) trivial ?_
    refine g_call rfl rfl rfl rfl (.cons inn_sc .nil) (isDay _) ?_
    refine g_step rfl rfl rfl rfl (e_not rfl) trivial ?_
    refine g_step rfl rfl rfl rfl (e_pickF (v := .sc _) rfl rfl) trivial ?_
    refine g_step rfl rfl rfl rfl (e_assign (v := .sc _) rfl) trivial ?_
    refine g_end (ds := [10, 11, 12]) rfl rfl (hK5 _ ?_); clear hK5 K5
    exact seq_norm (hK3 _ ⟨rfl, rfl, trivial⟩ ⟨(congrArg PV.bool (show ((!(decide (0 ≤ b ∧ b ≤ 20000))) : Bool) = ((!(decide (0 ≤ a ∧ a ≤ 20000))) || (!(decide (0 ≤ b ∧ b ≤ 20000)))) by first | rfl | ((try rw [hb6R]) <;> (first | rfl | (simp only [Bool.and_true, Bool.and_false, Bool.true_and, Bool.false_and, Bool.or_true, Bool.or_false, Bool.true_or, Bool.false_or, Bool.not_true, Bool.not_false, if_true, if_false, Bool.false_eq_true, reduceIte] <;> rfl))) | (simp only [hb6R, Bool.and_true, Bool.and_false, Bool.true_and, Bool.false_and, Bool.or_true, Bool.or_false, Bool.true_or, Bool.false_or, Bool.not_true, Bool.not_false, if_true, if_false, Bool.false_eq_true, reduceIte] <;> rfl))), trivial⟩)
  ·skip
   refine pwp_cond rfl (fun hb7 => ?_) (fun hb7 => ?_)
   ·have hb7R := hb7; try simp only [z1, z2, z3, z4, z5, z6, ne_eq, z7, z8, z9, z10, z11, z12] at hb7
    refine pwp_seq_plain rfl fun K8 hK8 => ?_
    refine p_step rfl (e_assign (v := .sc _) rfl) trivial ?_
    refine p_end (hK8 _ ?_); clear hK8 K8
    refine pwp_ret ?_
    refine ret_block ?_
    refine ret_seq ?_
    refine end1 (v := .sc _) rfl ?_
    first
      | exact out_i (by rw [chD, if_pos (by omega)])
      | exact out_i (by rw [chD, if_neg (by omega), if_pos (by omega)])
      | exact out_i (by rw [chD, if_neg (by omega), if_neg (by omega)])
   ·have hb7R := hb7; try simp only [z1, z2, z3, z4, z5, z6, ne_eq, z7, z8, z9, z10, z11, z12] at hb7
    refine pwp_seq_plain rfl fun K9 hK9 => ?_
    refine p_step rfl (e_move (v := .sc _) rfl) trivial ?_
    refine p_step rfl (e_move (v := .sc _) rfl) trivial ?_
    refine p_step rfl (e_lt rfl rfl) trivial ?_
    refine p_step rfl (e_assign (v := .sc _) rfl) trivial ?_
    refine p_end (hK9 _ ?_); clear hK9 K9
    refine pwp_cond rfl (fun hb10 => ?_) (fun hb10 => ?_)
    ·have hb10R := hb10; try simp only [z1, z2, z3, z4, z5, z6, ne_eq, z7, z8, z9, z10, z11, z12] at hb10
     refine pwp_seq_plain rfl fun K11 hK11 => ?_
     refine p_step rfl (e_assign (v := .sc _) rfl) trivial ?_
     refine p_end (hK11 _ ?_); clear hK11 K11
     refine pwp_ret ?_
     refine ret_block ?_
     refine ret_seq ?_
     refine end1 (v := .sc _) rfl ?_
     first
       | exact out_i (by rw [chD, if_pos (by omega)])
       | exact out_i (by rw [chD, if_neg (by omega), if_pos (by omega)])
       | exact out_i (by rw [chD, if_neg (by omega), if_neg (by omega)])
    ·have hb10R := hb10; try simp only [z1, z2, z3, z4, z5, z6, ne_eq, z7, z8, z9, z10, z11, z12] at hb10
     refine pwp_skip ?_
     refine block_norm ?_
     refine seq_norm (hK2 _ ?_); clear hK2 K2
     refine pwp_seq_plain rfl fun K12 hK12 => ?_
     refine p_step rfl (e_assign (v := .sc _) rfl) trivial ?_
     refine p_end (hK12 _ ?_); clear hK12 K12
     refine pwp_ret ?_
     refine end1 (v := .sc _) rfl ?_
     first
       | exact out_i (by rw [chD, if_pos (by omega)])
       | exact out_i (by rw [chD, if_neg (by omega), if_pos (by omega)])
       | exact out_i (by rw [chD, if_neg (by omega), if_neg (by omega)])

theorem fr27 : (inFrame Try.f27.ntmps (Try.f27.body.getD .skip) && Try.f27.results.toList.all (resScope Try.f27.ntmps)) = true := by kernel_rfl
theorem Invoice (ts : List Term) (ms : List Move) (fa fb : Int) (hlt : ts.length ≤ 65) (hl : ms.length ≤ 305) : PCalls Try.prog 27 [.lit true 4 (ts.map Term.enc), .lit true 4 (ms.map Move.enc), .int fa, .int fb] (.tup [.int (invN ts ms fa fb), .int (invE ts ms fa fb)]) := by
  refine PCalls.of_code Try.func27 rfl rfl (by kernel_rfl) mixed fr27 (by show _ ≤ 35; simp) (pure_2 (.sc _) (.sc _)) ?_
  refine pwp_seq_plain rfl fun K1 hK1 => ?_
  refine p_step rfl (e_assign (v := .sc _) rfl) trivial ?_
  refine p_step rfl (e_assign (v := .sc _) rfl) trivial ?_
  refine p_end (hK1 _ ?_); clear hK1 K1
  refine pwp_seq_seq ?_
  refine pwp_seq_plain rfl fun K2 hK2 => ?_
  refine p_step rfl (e_move (v := .lit _ _ _) rfl) trivial ?_
  refine p_step rfl (e_move (v := .lit _ _ _) rfl) trivial ?_
  refine p_call rfl (.cons inn_lit (.cons inn_lit .nil)) (CheckMoves _ _ (by omega) (by omega)) ?_
  refine p_step rfl (e_assign (v := .sc _) rfl) trivial ?_
  refine p_end (hK2 _ ?_); clear hK2 K2
  refine pwp_seq_seq ?_
  refine pwp_seq_plain rfl fun K3 hK3 => ?_
  refine p_step rfl (e_move (v := .sc _) rfl) trivial ?_
  refine p_step rfl (e_ne rfl rfl) trivial ?_
  refine p_end (hK3 _ ?_); clear hK3 K3
  refine pwp_seq_cond rfl fun K4 hK4 => ⟨fun hb5 => ?_, fun hb5 => ?_⟩
  ·have hb5R := hb5; (try simp only [z1, z2, z3, z4, z5, z6, ne_eq, z7, z8, z9, z10, z11, z12] at hb5); (try (have htm : tmE ts ms = 0 := hb5)); (try (have hch := chD_inv (a := fa) (b := fb) hb5))
   refine pwp_seq_plain rfl fun K6 hK6 => ?_
   refine p_step rfl (e_move (v := .sc _) rfl) trivial ?_
   refine p_step rfl (e_assign (v := .sc _) rfl) trivial ?_
   refine p_step rfl (e_assign (v := .sc _) rfl) trivial ?_
   refine p_end (hK6 _ ?_); clear hK6 K6
   refine pwp_ret ?_
   refine ret_seq ?_
   refine end2 (v := .sc _) (w := .sc _) rfl rfl ?_
   first
     | exact out_2 (out_i (inv_1 (by assumption)).2) (out_i (inv_1 (by assumption)).1)
     | exact out_2 (out_i (inv_2 htm (by assumption)).2) (out_i (inv_2 htm (by assumption)).1)
     | exact out_2 (out_i (inv_0 htm (by assumption)).2) (out_i (inv_0 htm (by assumption)).1)
  ·have hb5R := hb5; (try simp only [z1, z2, z3, z4, z5, z6, ne_eq, z7, z8, z9, z10, z11, z12] at hb5); (try (have htm : tmE ts ms = 0 := hb5)); (try (have hch := chD_inv (a := fa) (b := fb) hb5))
   refine pwp_skip ?_
   refine seq_norm (hK4 _ ?_); clear hK4 K4
   refine pwp_seq_seq ?_
   refine pwp_seq_plain rfl fun K7 hK7 => ?_
   refine p_step rfl (e_move (v := .sc _) rfl) trivial ?_
   refine p_step rfl (e_move (v := .sc _) rfl) trivial ?_
   refine p_call rfl (.cons inn_sc (.cons inn_sc .nil)) (checkDays2 _ _) ?_
   refine p_step rfl (e_assign (v := .sc _) rfl) trivial ?_
   refine p_end (hK7 _ ?_); clear hK7 K7
   refine pwp_seq_seq ?_
   refine pwp_seq_plain rfl fun K8 hK8 => ?_
   refine p_step rfl (e_move (v := .sc _) rfl) trivial ?_
   refine p_step rfl (e_ne rfl rfl) trivial ?_
   refine p_end (hK8 _ ?_); clear hK8 K8
   refine pwp_seq_cond rfl fun K9 hK9 => ⟨fun hb10 => ?_, fun hb10 => ?_⟩
   ·have hb10R := hb10; (try simp only [z1, z2, z3, z4, z5, z6, ne_eq, z7, z8, z9, z10, z11, z12] at hb10); (try (have htm : tmE ts ms = 0 := hb10)); (try (have hch := chD_inv (a := fa) (b := fb) hb10))
    refine pwp_seq_plain rfl fun K11 hK11 => ?_
    refine p_step rfl (e_move (v := .sc _) rfl) trivial ?_
    refine p_step rfl (e_assign (v := .sc _) rfl) trivial ?_
    refine p_step rfl (e_assign (v := .sc _) rfl) trivial ?_
    refine p_end (hK11 _ ?_); clear hK11 K11
    refine pwp_ret ?_
    refine ret_seq ?_
    refine end2 (v := .sc _) (w := .sc _) rfl rfl ?_
    first
      | exact out_2 (out_i (inv_1 (by assumption)).2) (out_i (inv_1 (by assumption)).1)
      | exact out_2 (out_i (inv_2 htm (by assumption)).2) (out_i (inv_2 htm (by assumption)).1)
      | exact out_2 (out_i (inv_0 htm (by assumption)).2) (out_i (inv_0 htm (by assumption)).1)
   ·have hb10R := hb10; (try simp only [z1, z2, z3, z4, z5, z6, ne_eq, z7, z8, z9, z10, z11, z12] at hb10); (try (have htm : tmE ts ms = 0 := hb10)); (try (have hch := chD_inv (a := fa) (b := fb) hb10))
    refine pwp_skip ?_
    refine seq_norm (hK9 _ ?_); clear hK9 K9
    have hs1 := sum_all (acc_small htm hch.1)
    have hs2 := sum_all (acc_small htm hch.2.1)
    refine pwp_seq_plain rfl fun K12 hK12 => ?_
    refine p_step rfl (e_move (v := .lit _ _ _) rfl) trivial ?_
    refine p_step rfl (e_move (v := .lit _ _ _) rfl) trivial ?_
    refine p_step rfl (e_move (v := .sc _) rfl) trivial ?_
    refine p_call rfl (.cons inn_lit (.cons inn_lit (.cons inn_sc .nil))) (account _ _ _ (by omega) (by omega) htm (by omega)) ?_
    refine p_call rfl (.cons inn_lit .nil) (total2 _ (acc_small htm (by omega))) ?_
    refine p_step rfl (e_move (v := .lit _ _ _) rfl) trivial ?_
    refine p_step rfl (e_move (v := .lit _ _ _) rfl) trivial ?_
    refine p_step rfl (e_move (v := .sc _) rfl) trivial ?_
    refine p_call rfl (.cons inn_lit (.cons inn_lit (.cons inn_sc .nil))) (account _ _ _ (by omega) (by omega) htm (by omega)) ?_
    refine p_call rfl (.cons inn_lit .nil) (total2 _ (acc_small htm (by omega))) ?_
    refine p_step rfl (e_sub rfl rfl (by omega)) trivial ?_
    refine p_step rfl (e_assign (v := .sc _) rfl) trivial ?_
    refine p_step rfl (e_assign (v := .sc _) rfl) trivial ?_
    refine p_end (hK12 _ ?_); clear hK12 K12
    refine pwp_ret ?_
    refine end2 (v := .sc _) (w := .sc _) rfl rfl ?_
    first
      | exact out_2 (out_i (inv_1 (by assumption)).2) (out_i (inv_1 (by assumption)).1)
      | exact out_2 (out_i (inv_2 htm (by assumption)).2) (out_i (inv_2 htm (by assumption)).1)
      | exact out_2 (out_i (inv_0 htm (by assumption)).2) (out_i (inv_0 htm (by assumption)).1)

section
variable {ts : List Term} {ms : List Move} {a b c : Int}
theorem inv_if (ts : List Term) (ms : List Move) (a b : Int) : (if (if tmE ts ms = 0 ∧ (¬ (0 ≤ a ∧ a ≤ 20000) ∨ ¬ (0 ≤ b ∧ b ≤ 20000)) then 2 else tmE ts ms) = 0 ∧ b < a then 10 else if tmE ts ms = 0 ∧ (¬ (0 ≤ a ∧ a ≤ 20000) ∨ ¬ (0 ≤ b ∧ b ≤ 20000)) then 2 else tmE ts ms) = invE ts ms a b := by
  unfold invE chD
  generalize tmE ts ms = e
  by_cases h : e = 0
  · subst h
    by_cases h2 : ¬ (0 ≤ a ∧ a ≤ 20000) ∨ ¬ (0 ≤ b ∧ b ≤ 20000)
    · have h3 : (0 : Int) = 0 ∧ (¬ (0 ≤ a ∧ a ≤ 20000) ∨ ¬ (0 ≤ b ∧ b ≤ 20000)) := ⟨rfl, h2⟩
      rw [if_pos h3, if_neg (by omega), if_neg (by simp), if_pos h2]
    · have h3 : ¬ ((0 : Int) = 0 ∧ (¬ (0 ≤ a ∧ a ≤ 20000) ∨ ¬ (0 ≤ b ∧ b ≤ 20000))) := fun h => h2 h.2
      rw [if_neg h3, if_neg (show ¬ (0 : Int) ≠ 0 by simp), if_neg h2]
      by_cases h4 : b < a
      · rw [if_pos ⟨rfl, h4⟩, if_pos h4]
      · rw [if_neg (fun h => h4 h.2), if_neg h4]
  · have h3 : ¬ (e = 0 ∧ (¬ (0 ≤ a ∧ a ≤ 20000) ∨ ¬ (0 ≤ b ∧ b ≤ 20000))) := fun h' => h h'.1
    rw [if_neg h3, if_neg (fun h' => h h'.1), if_pos h]
theorem inv_n0 (h : ¬ invE ts ms a b = 0) : invN ts ms a b = 0 := by rw [invN, if_neg h]
theorem inv_bad (h : ¬ invE ts ms a b = 0) : (decide (invE ts ms a b = (if (decide ((if (decide (tmE ts ms = 0) && (!decide (0 ≤ a ∧ a ≤ 20000) || !decide (0 ≤ b ∧ b ≤ 20000))) = true then 2 else tmE ts ms) = 0) && decide (b < a)) = true then 10 else (if (decide (tmE ts ms = 0) && (!decide (0 ≤ a ∧ a ≤ 20000) || !decide (0 ≤ b ∧ b ≤ 20000))) = true then 2 else tmE ts ms))) && decide (invN ts ms a b = 0)) = true := by
  have h1 := inv_if ts ms a b
  simp only [Bool.and_eq_true, Bool.or_eq_true, Bool.not_eq_true', decide_eq_true_eq, decide_eq_false_iff_not, h1, inv_n0 h, and_self]
theorem inv_n {ts : List Term} {ms : List Move} {a b : Int} (hz : tmE ts ms = 0) (h : (0 ≤ a ∧ a ≤ 20000) ∧ (0 ≤ b ∧ b ≤ 20000) ∧ a ≤ b) : invE ts ms a b = 0 ∧ invN ts ms a b = sumA (accT ts ms b) - sumA (accT ts ms a) := by
  have := inv_0 hz (chD_ok h); exact ⟨this.1.symm, this.2.symm⟩
theorem inv_good (hz : tmE ts ms = 0 ∧ (0 ≤ a ∧ a ≤ 20000) ∧ (0 ≤ b ∧ b ≤ 20000) ∧ a ≤ b) : ¬ ((¬ invE ts ms a b = 0 ∨ invN ts ms a b < 0) ∨ ¬ invN ts ms a b = sumA (accT ts ms b) - sumA (accT ts ms a)) := by
  have h1 := inv_n hz.1 hz.2
  have h2 := acc_mono hz.1 hz.2.1 hz.2.2.1 hz.2.2.2
  rw [h1.1, h1.2]; omega
theorem inv_sum (hz : tmE ts ms = 0 ∧ (0 ≤ a ∧ a ≤ 20000) ∧ (0 ≤ b ∧ b ≤ 20000) ∧ a ≤ b) (h : (0 ≤ c ∧ c ≤ 20000) ∧ b ≤ c) : (invE ts ms b c = 0 ∧ invE ts ms a c = 0 ∧ invN ts ms a b + invN ts ms b c = invN ts ms a c) ∧ 0 ≤ invN ts ms a b + invN ts ms b c ∧ invN ts ms a b + invN ts ms b c ≤ 9000000000000000000 := by
  have h1 := inv_n hz.1 hz.2
  have h2 := inv_n (a := b) (b := c) hz.1 ⟨hz.2.2.1, h.1, h.2⟩
  have h3 := inv_n (a := a) (b := c) hz.1 ⟨hz.2.1, h.1, by omega⟩
  have h4 := acc_mono (a := a) (b := c) hz.1 hz.2.1 h.1 (by omega)
  have h5 := sum_all (acc_small hz.1 h.1)
  have h6 := sum_all (acc_small hz.1 hz.2.1)
  refine ⟨⟨h2.1, h3.1, ?_⟩, ?_, ?_⟩ <;> rw [h1.2, h2.2] <;> omega
theorem inv_add (hz : tmE ts ms = 0 ∧ (0 ≤ a ∧ a ≤ 20000) ∧ (0 ≤ b ∧ b ≤ 20000) ∧ a ≤ b) (h : (0 ≤ c ∧ c ≤ 20000) ∧ b ≤ c) : ((decide (invE ts ms b c = 0) && decide (invE ts ms a c = 0)) && decide (invN ts ms a b + invN ts ms b c = invN ts ms a c)) = true := by
  have h1 := (inv_sum hz h).1
  rw [h1.1, h1.2.1, h1.2.2]; simp
end

theorem fr4 : (inFrame Try.f4.ntmps (Try.f4.body.getD .skip) && Try.f4.results.toList.all (resScope Try.f4.ntmps)) = true := by kernel_rfl
theorem invoicesLaw (ts : List Term) (ms : List Move) (x : Tms) (hlt : ts.length ≤ 9223372036854775807) (hlm : ms.length ≤ 9223372036854775807) : PCalls Try.prog 4 [.lit true 4 (ts.map Term.enc), .lit true 4 (ms.map Move.enc), .agg x.enc] (.bool true) := by
  refine PCalls.of_code Try.func4 rfl rfl (by kernel_rfl) mixed fr4 (by show _ ≤ 138; simp) (.sc _) ?_
  refine pwp_seq_plain rfl fun K1 hK1 => ?_
  refine p_new rfl (e_box (n := 3) rfl rfl) ⟨rfl, by decide⟩ ?_
  refine p_step rfl (e_assign (v := .sc _) rfl) trivial ?_
  refine p_end (hK1 _ ?_); clear hK1 K1
  refine pwp_seq_seq ?_
  refine pwp_seq_plain rfl fun K2 hK2 => ?_
  refine p_call rfl .nil (awake) ?_
  refine p_step rfl (e_not rfl) trivial ?_
  refine p_end (hK2 _ ?_); clear hK2 K2
  refine pwp_seq_cond (t := false) rfl fun K3 hK3 => ⟨nofun, fun _ => ?_⟩
  refine pwp_skip ?_
  refine seq_norm (hK3 _ ?_); clear hK3 K3
  refine pwp_seq_seq ?_
  refine pwp_seq_plain rfl fun K4 hK4 => ?_
  refine p_step rfl (e_move (v := .lit _ _ _) rfl) trivial ?_
  refine p_step rfl (e_move (v := .lit _ _ _) rfl) trivial ?_
  refine p_call rfl (.cons inn_lit (.cons inn_lit .nil)) (hire _ _ hlt hlm) ?_
  refine p_step rfl (e_not rfl) trivial ?_
  refine p_end (hK4 _ ?_); clear hK4 K4
  refine pwp_seq_cond rfl fun K5 hK5 => ⟨fun hb6 => ?_, fun hb6 => ?_⟩
  ·have hb6R := hb6; (try simp only [z1, z2, z3, z4, z5, z6, ne_eq, z7, z8, z9, z10, z11, z12] at hb6); (try (have hll := hire_len hb6)); (try (rw [inv_if] at hb6)); (try (have hz := inv_parts (a := x.a) (b := x.b) hb6)); (try (have hs1 := sum_all (acc_small hz.1 hz.2.1))); (try (have hs2 := sum_all (acc_small hz.1 hz.2.2.1))); (try (have hsu := (inv_sum (c := x.c) hz hb6).2))
   refine pwp_seq_plain rfl fun K7 hK7 => ?_
   refine p_step rfl (e_assign (v := .sc _) rfl) trivial ?_
   refine p_end (hK7 _ ?_); clear hK7 K7
   refine pwp_ret ?_
   refine ret_seq ?_
   refine end1 (v := .sc _) rfl ?_
   first
     | exact out_b rfl
     | exact out_b (inv_bad (by assumption))
     | exact absurd (by assumption) (inv_good hz)
     | exact out_b (inv_add hz (by assumption))
  ·have hb6R := hb6; (try simp only [z1, z2, z3, z4, z5, z6, ne_eq, z7, z8, z9, z10, z11, z12] at hb6); (try (have hll := hire_len hb6)); (try (rw [inv_if] at hb6)); (try (have hz := inv_parts (a := x.a) (b := x.b) hb6)); (try (have hs1 := sum_all (acc_small hz.1 hz.2.1))); (try (have hs2 := sum_all (acc_small hz.1 hz.2.2.1))); (try (have hsu := (inv_sum (c := x.c) hz hb6).2))
   refine pwp_skip ?_
   refine seq_norm (hK5 _ ?_); clear hK5 K5
   refine pwp_seq_gops rfl fun K8 hK8 => ?_
   refine g_begin ?_
   refine g_step rfl rfl rfl rfl (e_move (v := .lit _ _ _) rfl) trivial ?_
   refine g_call rfl rfl rfl rfl (.cons inn_lit .nil) (termsC _ (by omega)) ?_
   refine g_step rfl rfl rfl rfl (e_move (v := .lit _ _ _) rfl) trivial ?_
   refine g_call rfl rfl rfl rfl (.cons inn_lit .nil) (movesC _ (by omega)) ?_
   refine g_step rfl rfl rfl rfl (e_faP (pl := [(0, 1, false), (1, 1, false), (2, 1, false)]) rfl (by kernel_rfl) (by kernel_rfl) (by decide) rfl) trivial ?_
   refine g_step rfl rfl rfl rfl (e_loadH (v := .sc _) rfl (hset_self _ _ _) (by kernel_rfl) (by kernel_rfl) (by kernel_rfl) (by exact Nat.zero_lt_one) (by decide) rfl) trivial ?_
   refine g_step rfl rfl rfl rfl (e_faP (pl := [(0, 1, false), (1, 1, false), (2, 1, false)]) rfl (by kernel_rfl) (by kernel_rfl) (by decide) rfl) trivial ?_
   refine g_step rfl rfl rfl rfl (e_loadH (v := .sc _) rfl (hset_self _ _ _) (by kernel_rfl) (by kernel_rfl) (by kernel_rfl) (by exact Nat.zero_lt_one) (by decide) rfl) trivial ?_
   refine g_call rfl rfl rfl rfl (.cons inn_lit (.cons inn_lit (.cons inn_sc (.cons inn_sc .nil)))) (Invoice _ _ _ _ (by omega) (by omega)) ?_
   refine g_step rfl rfl rfl rfl (e_move (v := .tup _) rfl) trivial ?_
   refine g_step rfl rfl rfl rfl (e_ext (v := .sc _) rfl (by simp) rfl) trivial ?_
   refine g_step rfl rfl rfl rfl (e_ext (v := .sc _) rfl (by simp) rfl) trivial ?_
   refine g_step rfl rfl rfl rfl (e_assign (v := .sc _) rfl) trivial ?_
   refine g_step rfl rfl rfl rfl (e_assign (v := .sc _) rfl) trivial ?_
   refine g_end (ds := []) (by kernel_rfl) rfl (hK8 _ ?_); clear hK8 K8
   refine pwp_seq_plain rfl fun K9 hK9 => ?_
   refine p_step rfl (e_move (v := .lit _ _ _) rfl) trivial ?_
   refine p_step rfl (e_move (v := .lit _ _ _) rfl) trivial ?_
   refine p_call rfl (.cons inn_lit (.cons inn_lit .nil)) (CheckR _ _ (by omega) (by omega)) ?_
   refine p_step rfl (e_assign (v := .sc _) rfl) trivial ?_
   refine p_end (hK9 _ ?_); clear hK9 K9
   refine pwp_seq_seq ?_
   refine pwp_seq_cutG [0, 1, 5, 7, 8, 9] [(48, .bool ((decide ((tmE (ts) (ms)) = (0))) && ((!(decide (0 ≤ x.a ∧ x.a ≤ 20000))) || (!(decide (0 ≤ x.b ∧ x.b ≤ 20000))))))] (fun K10 hK10 => ?_) (fun r11 => ?_)
   ·skip
    refine pwp_gops rfl fun K12 hK12 => ?_
    refine g_begin ?_
    refine g_step rfl rfl rfl rfl (e_move (v := .sc _) rfl) trivial ?_
    refine g_step rfl rfl rfl rfl (e_eq rfl rfl) trivial ?_
    refine g_step rfl rfl rfl rfl (e_move (v := .sc _) rfl) trivial ?_
    refine g_cases (fun hb13 => ?_) (fun hb13 => ?_)
    ·have hb13R := hb13; (try simp only [z1, z2, z3, z4, z5, z6, ne_eq, z7, z8, z9, z10, z11, z12] at hb13); (try (have hll := hire_len hb13)); (try (rw [inv_if] at hb13)); (try (have hz := inv_parts (a := x.a) (b := x.b) hb13)); (try (have hs1 := sum_all (acc_small hz.1 hz.2.1))); (try (have hs2 := sum_all (acc_small hz.1 hz.2.2.1))); (try (have hsu := (inv_sum (c := x.c) hz hb13).2))
     refine g_step rfl rfl rfl rfl (e_faP (pl := [(0, 1, false), (1, 1, false), (2, 1, false)]) rfl (by kernel_rfl) (by kernel_rfl) (by decide) rfl) trivial ?_
     refine g_step rfl rfl rfl rfl (e_loadH (v := .sc _) rfl (hset_self _ _ _) (by kernel_rfl) (by kernel_rfl) (by kernel_rfl) (by exact Nat.zero_lt_one) (by decide) rfl) trivial ?_
     refine g_call rfl rfl rfl rfl (.cons inn_sc .nil) (IsDay _) ?_
     refine g_step rfl rfl rfl rfl (e_not rfl) trivial ?_
     refine g_step rfl rfl rfl rfl (e_move (v := .sc _) rfl) trivial ?_
     refine g_cases (fun hb14 => ?_) (fun hb14 => ?_)
     ·have hb14R := hb14; (try simp only [z1, z2, z3, z4, z5, z6, ne_eq, z7, z8, z9, z10, z11, z12] at hb14); (try (have hll := hire_len hb14)); (try (rw [inv_if] at hb14)); (try (have hz := inv_parts (a := x.a) (b := x.b) hb14)); (try (have hs1 := sum_all (acc_small hz.1 hz.2.1))); (try (have hs2 := sum_all (acc_small hz.1 hz.2.2.1))); (try (have hsu := (inv_sum (c := x.c) hz hb14).2))
      refine g_skip rfl rfl rfl ?_
      refine g_skip rfl rfl rfl ?_
      refine g_nocall rfl rfl rfl ?_
      refine g_skip rfl rfl rfl ?_
      refine g_step rfl rfl rfl rfl (e_pickT (v := .sc _) rfl rfl) trivial ?_
      refine g_step rfl rfl rfl rfl (e_pickT (v := .sc _) rfl rfl) trivial ?_
      refine g_end (ds := [38, 39, 40, 41, 42, 43, 44, 45, 46, 47]) rfl rfl (hK12 _ ?_); clear hK12 K12
      exact seq_norm (hK10 _ ⟨rfl, rfl, rfl, rfl, rfl, rfl, trivial⟩ ⟨(congrArg PV.bool (show (true : Bool) = ((decide ((tmE (ts) (ms)) = (0))) && ((!(decide (0 ≤ x.a ∧ x.a ≤ 20000))) || (!(decide (0 ≤ x.b ∧ x.b ≤ 20000))))) by first | rfl | ((try rw [hb14R]) <;> (try rw [hb13R]) <;> (first | rfl | (simp only [Bool.and_true, Bool.and_false, Bool.true_and, Bool.false_and, Bool.or_true, Bool.or_false, Bool.true_or, Bool.false_or, Bool.not_true, Bool.not_false, if_true, if_false, Bool.false_eq_true, reduceIte] <;> rfl))) | (simp only [hb13R, hb14R, Bool.and_true, Bool.and_false, Bool.true_and, Bool.false_and, Bool.or_true, Bool.or_false, Bool.true_or, Bool.false_or, Bool.not_true, Bool.not_false, if_true, if_false, Bool.false_eq_true, reduceIte] <;> rfl))), trivial⟩)
     ·have hb14R := hb14; (try simp only [z1, z2, z3, z4, z5, z6, ne_eq, z7, z8, z9, z10, z11, z12] at hb14); (try (have hll := hire_len hb14)); (try (rw [inv_if] at hb14)); (try (have hz := inv_parts (a := x.a) (b := x.b) hb14)); (try (have hs1 := sum_all (acc_small hz.1 hz.2.1))); (try (have hs2 := sum_all (acc_small hz.1 hz.2.2.1))); (try (have hsu := (inv_sum (c := x.c) hz hb14).2))
      refine g_step rfl rfl rfl rfl (e_faP (pl := [(0, 1, false), (1, 1, false), (2, 1, false)]) rfl (by kernel_rfl) (by kernel_rfl) (by decide) rfl) trivial ?_
      refine g_step rfl rfl rfl rfl (e_loadH (v := .sc _) rfl (hset_self _ _ _) (by kernel_rfl) (by kernel_rfl) (by kernel_rfl) (by exact Nat.zero_lt_one) (by decide) rfl) trivial ?_
      refine g_call rfl rfl rfl rfl (.cons inn_sc .nil) (IsDay _) ?_
      refine g_step rfl rfl rfl rfl (e_not rfl) trivial ?_
      refine g_step rfl rfl rfl rfl (e_pickF (v := .sc _) rfl rfl) trivial ?_
      refine g_step rfl rfl rfl rfl (e_pickT (v := .sc _) rfl rfl) trivial ?_
      refine g_end (ds := [38, 39, 40, 41, 42, 43, 44, 45, 46, 47]) rfl rfl (hK12 _ ?_); clear hK12 K12
      exact seq_norm (hK10 _ ⟨rfl, rfl, rfl, rfl, rfl, rfl, trivial⟩ ⟨(congrArg PV.bool (show ((!(decide (0 ≤ x.b ∧ x.b ≤ 20000))) : Bool) = ((decide ((tmE (ts) (ms)) = (0))) && ((!(decide (0 ≤ x.a ∧ x.a ≤ 20000))) || (!(decide (0 ≤ x.b ∧ x.b ≤ 20000))))) by first | rfl | ((try rw [hb14R]) <;> (try rw [hb13R]) <;> (first | rfl | (simp only [Bool.and_true, Bool.and_false, Bool.true_and, Bool.false_and, Bool.or_true, Bool.or_false, Bool.true_or, Bool.false_or, Bool.not_true, Bool.not_false, if_true, if_false, Bool.false_eq_true, reduceIte] <;> rfl))) | (simp only [hb13R, hb14R, Bool.and_true, Bool.and_false, Bool.true_and, Bool.false_and, Bool.or_true, Bool.or_false, Bool.true_or, Bool.false_or, Bool.not_true, Bool.not_false, if_true, if_false, Bool.false_eq_true, reduceIte] <;> rfl))), trivial⟩)
    ·have hb13R := hb13; (try simp only [z1, z2, z3, z4, z5, z6, ne_eq, z7, z8, z9, z10, z11, z12] at hb13); (try (have hll := hire_len hb13)); (try (rw [inv_if] at hb13)); (try (have hz := inv_parts (a := x.a) (b := x.b) hb13)); (try (have hs1 := sum_all (acc_small hz.1 hz.2.1))); (try (have hs2 := sum_all (acc_small hz.1 hz.2.2.1))); (try (have hsu := (inv_sum (c := x.c) hz hb13).2))
     refine g_skip rfl rfl rfl ?_
     refine g_skip rfl rfl rfl ?_
     refine g_nocall rfl rfl rfl ?_
     refine g_skip rfl rfl rfl ?_
     refine g_skip rfl rfl rfl ?_
     refine g_skip rfl rfl rfl ?_
     refine g_skip rfl rfl rfl ?_
     refine g_nocall rfl rfl rfl ?_
     refine g_skip rfl rfl rfl ?_
     refine g_skip rfl rfl rfl ?_
     refine g_step rfl rfl rfl rfl (e_pickF (v := .sc _) rfl rfl) trivial ?_
     refine g_end (ds := [38, 39, 40, 41, 42, 43, 44, 45, 46, 47]) rfl rfl (hK12 _ ?_); clear hK12 K12
     exact seq_norm (hK10 _ ⟨rfl, rfl, rfl, rfl, rfl, rfl, trivial⟩ ⟨(congrArg PV.bool (show (false : Bool) = ((decide ((tmE (ts) (ms)) = (0))) && ((!(decide (0 ≤ x.a ∧ x.a ≤ 20000))) || (!(decide (0 ≤ x.b ∧ x.b ≤ 20000))))) by first | rfl | ((try rw [hb13R]) <;> (first | rfl | (simp only [Bool.and_true, Bool.and_false, Bool.true_and, Bool.false_and, Bool.or_true, Bool.or_false, Bool.true_or, Bool.false_or, Bool.not_true, Bool.not_false, if_true, if_false, Bool.false_eq_true, reduceIte] <;> rfl))) | (simp only [hb13R, Bool.and_true, Bool.and_false, Bool.true_and, Bool.false_and, Bool.or_true, Bool.or_false, Bool.true_or, Bool.false_or, Bool.not_true, Bool.not_false, if_true, if_false, Bool.false_eq_true, reduceIte] <;> rfl))), trivial⟩)
   ·skip
    refine pwp_seq_cutG [0, 1, 5, 7, 8] [(9, .int (if ((decide ((tmE (ts) (ms)) = (0))) && ((!(decide (0 ≤ x.a ∧ x.a ≤ 20000))) || (!(decide (0 ≤ x.b ∧ x.b ≤ 20000))))) = true then (2) else (tmE (ts) (ms))))] (fun K15 hK15 => ?_) (fun r16 => ?_)
    ·skip
     refine pwp_cond rfl (fun hb17 => ?_) (fun hb17 => ?_)
     ·have hb17R := hb17; (try simp only [z1, z2, z3, z4, z5, z6, ne_eq, z7, z8, z9, z10, z11, z12] at hb17); (try (have hll := hire_len hb17)); (try (rw [inv_if] at hb17)); (try (have hz := inv_parts (a := x.a) (b := x.b) hb17)); (try (have hs1 := sum_all (acc_small hz.1 hz.2.1))); (try (have hs2 := sum_all (acc_small hz.1 hz.2.2.1))); (try (have hsu := (inv_sum (c := x.c) hz hb17).2))
      refine pwp_plain rfl fun K18 hK18 => ?_
      refine p_step rfl (e_assign (v := .sc _) rfl) trivial ?_
      refine p_end (hK18 _ ?_); clear hK18 K18
      exact seq_norm (hK15 _ ⟨rfl, rfl, rfl, rfl, rfl, trivial⟩ ⟨(congrArg PV.int (show ((2) : Int) = (if ((decide ((tmE (ts) (ms)) = (0))) && ((!(decide (0 ≤ x.a ∧ x.a ≤ 20000))) || (!(decide (0 ≤ x.b ∧ x.b ≤ 20000))))) = true then (2) else (tmE (ts) (ms))) by first | rfl | ((try rw [hb17R]) <;> (first | rfl | (simp only [Bool.and_true, Bool.and_false, Bool.true_and, Bool.false_and, Bool.or_true, Bool.or_false, Bool.true_or, Bool.false_or, Bool.not_true, Bool.not_false, if_true, if_false, Bool.false_eq_true, reduceIte] <;> rfl))) | (simp only [hb17R, Bool.and_true, Bool.and_false, Bool.true_and, Bool.false_and, Bool.or_true, Bool.or_false, Bool.true_or, Bool.false_or, Bool.not_true, Bool.not_false, if_true, if_false, Bool.false_eq_true, reduceIte] <;> rfl))), trivial⟩)
     ·have hb17R := hb17; (try simp only [z1, z2, z3, z4, z5, z6, ne_eq, z7, z8, z9, z10, z11, z12] at hb17); (try (have hll := hire_len hb17)); (try (rw [inv_if] at hb17)); (try (have hz := inv_parts (a := x.a) (b := x.b) hb17)); (try (have hs1 := sum_all (acc_small hz.1 hz.2.1))); (try (have hs2 := sum_all (acc_small hz.1 hz.2.2.1))); (try (have hsu := (inv_sum (c := x.c) hz hb17).2))
      refine pwp_skip ?_
      exact seq_norm (hK15 _ ⟨rfl, rfl, rfl, rfl, rfl, trivial⟩ ⟨(congrArg PV.int (show ((tmE (ts) (ms)) : Int) = (if ((decide ((tmE (ts) (ms)) = (0))) && ((!(decide (0 ≤ x.a ∧ x.a ≤ 20000))) || (!(decide (0 ≤ x.b ∧ x.b ≤ 20000))))) = true then (2) else (tmE (ts) (ms))) by first | rfl | ((try rw [hb17R]) <;> (first | rfl | (simp only [Bool.and_true, Bool.and_false, Bool.true_and, Bool.false_and, Bool.or_true, Bool.or_false, Bool.true_or, Bool.false_or, Bool.not_true, Bool.not_false, if_true, if_false, Bool.false_eq_true, reduceIte] <;> rfl))) | (simp only [hb17R, Bool.and_true, Bool.and_false, Bool.true_and, Bool.false_and, Bool.or_true, Bool.or_false, Bool.true_or, Bool.false_or, Bool.not_true, Bool.not_false, if_true, if_false, Bool.false_eq_true, reduceIte] <;> rfl))), trivial⟩)
    ·skip
     refine pwp_seq_seq ?_
     refine pwp_seq_cutG [0, 1, 5, 7, 8, 9] [(57, .bool ((decide ((if ((decide ((tmE (ts) (ms)) = (0))) && ((!(decide (0 ≤ x.a ∧ x.a ≤ 20000))) || (!(decide (0 ≤ x.b ∧ x.b ≤ 20000))))) = true then (2) else (tmE (ts) (ms))) = (0))) && (decide (x.b < x.a))))] (fun K19 hK19 => ?_) (fun r20 => ?_)
     ·skip
      refine pwp_gops rfl fun K21 hK21 => ?_
      refine g_begin ?_
      refine g_step rfl rfl rfl rfl (e_move (v := .sc _) rfl) trivial ?_
      refine g_step rfl rfl rfl rfl (e_eq rfl rfl) trivial ?_
      refine g_step rfl rfl rfl rfl (e_move (v := .sc _) rfl) trivial ?_
      refine g_cases (fun hb22 => ?_) (fun hb22 => ?_)
      ·have hb22R := hb22; (try simp only [z1, z2, z3, z4, z5, z6, ne_eq, z7, z8, z9, z10, z11, z12] at hb22); (try (have hll := hire_len hb22)); (try (rw [inv_if] at hb22)); (try (have hz := inv_parts (a := x.a) (b := x.b) hb22)); (try (have hs1 := sum_all (acc_small hz.1 hz.2.1))); (try (have hs2 := sum_all (acc_small hz.1 hz.2.2.1))); (try (have hsu := (inv_sum (c := x.c) hz hb22).2))
       refine g_step rfl rfl rfl rfl (e_faP (pl := [(0, 1, false), (1, 1, false), (2, 1, false)]) rfl (by kernel_rfl) (by kernel_rfl) (by decide) rfl) trivial ?_
       refine g_step rfl rfl rfl rfl (e_loadH (v := .sc _) rfl (hset_self _ _ _) (by kernel_rfl) (by kernel_rfl) (by kernel_rfl) (by exact Nat.zero_lt_one) (by decide) rfl) trivial ?_
       refine g_step rfl rfl rfl rfl (e_faP (pl := [(0, 1, false), (1, 1, false), (2, 1, false)]) rfl (by kernel_rfl) (by kernel_rfl) (by decide) rfl) trivial ?_
       refine g_step rfl rfl rfl rfl (e_loadH (v := .sc _) rfl (hset_self _ _ _) (by kernel_rfl) (by kernel_rfl) (by kernel_rfl) (by exact Nat.zero_lt_one) (by decide) rfl) trivial ?_
       refine g_step rfl rfl rfl rfl (e_lt rfl rfl) trivial ?_
       refine g_step rfl rfl rfl rfl (e_pickT (v := .sc _) rfl rfl) trivial ?_
       refine g_end (ds := [52, 53, 54, 55, 56]) rfl rfl (hK21 _ ?_); clear hK21 K21
       exact seq_norm (hK19 _ ⟨rfl, rfl, rfl, rfl, rfl, rfl, trivial⟩ ⟨(congrArg PV.bool (show ((decide (x.b < x.a)) : Bool) = ((decide ((if ((decide ((tmE (ts) (ms)) = (0))) && ((!(decide (0 ≤ x.a ∧ x.a ≤ 20000))) || (!(decide (0 ≤ x.b ∧ x.b ≤ 20000))))) = true then (2) else (tmE (ts) (ms))) = (0))) && (decide (x.b < x.a))) by first | rfl | ((try rw [hb22R]) <;> (first | rfl | (simp only [Bool.and_true, Bool.and_false, Bool.true_and, Bool.false_and, Bool.or_true, Bool.or_false, Bool.true_or, Bool.false_or, Bool.not_true, Bool.not_false, if_true, if_false, Bool.false_eq_true, reduceIte] <;> rfl))) | (simp only [hb22R, Bool.and_true, Bool.and_false, Bool.true_and, Bool.false_and, Bool.or_true, Bool.or_false, Bool.true_or, Bool.false_or, Bool.not_true, Bool.not_false, if_true, if_false, Bool.false_eq_true, reduceIte] <;> rfl))), trivial⟩)
      ·have hb22R := hb22; (try simp only [z1, z2, z3, z4, z5, z6, ne_eq, z7, z8, z9, z10, z11, z12] at hb22); (try (have hll := hire_len hb22)); (try (rw [inv_if] at hb22)); (try (have hz := inv_parts (a := x.a) (b := x.b) hb22)); (try (have hs1 := sum_all (acc_small hz.1 hz.2.1))); (try (have hs2 := sum_all (acc_small hz.1 hz.2.2.1))); (try (have hsu := (inv_sum (c := x.c) hz hb22).2))
       refine g_skip rfl rfl rfl ?_
       refine g_skip rfl rfl rfl ?_
       refine g_skip rfl rfl rfl ?_
       refine g_skip rfl rfl rfl ?_
       refine g_skip rfl rfl rfl ?_
       refine g_step rfl rfl rfl rfl (e_pickF (v := .sc _) rfl rfl) trivial ?_
       refine g_end (ds := [52, 53, 54, 55, 56]) rfl rfl (hK21 _ ?_); clear hK21 K21
       exact seq_norm (hK19 _ ⟨rfl, rfl, rfl, rfl, rfl, rfl, trivial⟩ ⟨(congrArg PV.bool (show (false : Bool) = ((decide ((if ((decide ((tmE (ts) (ms)) = (0))) && ((!(decide (0 ≤ x.a ∧ x.a ≤ 20000))) || (!(decide (0 ≤ x.b ∧ x.b ≤ 20000))))) = true then (2) else (tmE (ts) (ms))) = (0))) && (decide (x.b < x.a))) by first | rfl | ((try rw [hb22R]) <;> (first | rfl | (simp only [Bool.and_true, Bool.and_false, Bool.true_and, Bool.false_and, Bool.or_true, Bool.or_false, Bool.true_or, Bool.false_or, Bool.not_true, Bool.not_false, if_true, if_false, Bool.false_eq_true, reduceIte] <;> rfl))) | (simp only [hb22R, Bool.and_true, Bool.and_false, Bool.true_and, Bool.false_and, Bool.or_true, Bool.or_false, Bool.true_or, Bool.false_or, Bool.not_true, Bool.not_false, if_true, if_false, Bool.false_eq_true, reduceIte] <;> rfl))), trivial⟩)
     ·skip
      refine pwp_seq_cutG [0, 1, 5, 7, 8] [(9, .int (if ((decide ((if ((decide ((tmE (ts) (ms)) = (0))) && ((!(decide (0 ≤ x.a ∧ x.a ≤ 20000))) || (!(decide (0 ≤ x.b ∧ x.b ≤ 20000))))) = true then (2) else (tmE (ts) (ms))) = (0))) && (decide (x.b < x.a))) = true then (10) else (if ((decide ((tmE (ts) (ms)) = (0))) && ((!(decide (0 ≤ x.a ∧ x.a ≤ 20000))) || (!(decide (0 ≤ x.b ∧ x.b ≤ 20000))))) = true then (2) else (tmE (ts) (ms)))))] (fun K23 hK23 => ?_) (fun r24 => ?_)
      ·skip
       refine pwp_cond rfl (fun hb25 => ?_) (fun hb25 => ?_)
       ·have hb25R := hb25; (try simp only [z1, z2, z3, z4, z5, z6, ne_eq, z7, z8, z9, z10, z11, z12] at hb25); (try (have hll := hire_len hb25)); (try (rw [inv_if] at hb25)); (try (have hz := inv_parts (a := x.a) (b := x.b) hb25)); (try (have hs1 := sum_all (acc_small hz.1 hz.2.1))); (try (have hs2 := sum_all (acc_small hz.1 hz.2.2.1))); (try (have hsu := (inv_sum (c := x.c) hz hb25).2))
        refine pwp_plain rfl fun K26 hK26 => ?_
        refine p_step rfl (e_assign (v := .sc _) rfl) trivial ?_
        refine p_end (hK26 _ ?_); clear hK26 K26
        exact seq_norm (hK23 _ ⟨rfl, rfl, rfl, rfl, rfl, trivial⟩ ⟨(congrArg PV.int (show ((10) : Int) = (if ((decide ((if ((decide ((tmE (ts) (ms)) = (0))) && ((!(decide (0 ≤ x.a ∧ x.a ≤ 20000))) || (!(decide (0 ≤ x.b ∧ x.b ≤ 20000))))) = true then (2) else (tmE (ts) (ms))) = (0))) && (decide (x.b < x.a))) = true then (10) else (if ((decide ((tmE (ts) (ms)) = (0))) && ((!(decide (0 ≤ x.a ∧ x.a ≤ 20000))) || (!(decide (0 ≤ x.b ∧ x.b ≤ 20000))))) = true then (2) else (tmE (ts) (ms)))) by first | rfl | ((try rw [hb25R]) <;> (first | rfl | (simp only [Bool.and_true, Bool.and_false, Bool.true_and, Bool.false_and, Bool.or_true, Bool.or_false, Bool.true_or, Bool.false_or, Bool.not_true, Bool.not_false, if_true, if_false, Bool.false_eq_true, reduceIte] <;> rfl))) | (simp only [hb25R, Bool.and_true, Bool.and_false, Bool.true_and, Bool.false_and, Bool.or_true, Bool.or_false, Bool.true_or, Bool.false_or, Bool.not_true, Bool.not_false, if_true, if_false, Bool.false_eq_true, reduceIte] <;> rfl))), trivial⟩)
       ·have hb25R := hb25; (try simp only [z1, z2, z3, z4, z5, z6, ne_eq, z7, z8, z9, z10, z11, z12] at hb25); (try (have hll := hire_len hb25)); (try (rw [inv_if] at hb25)); (try (have hz := inv_parts (a := x.a) (b := x.b) hb25)); (try (have hs1 := sum_all (acc_small hz.1 hz.2.1))); (try (have hs2 := sum_all (acc_small hz.1 hz.2.2.1))); (try (have hsu := (inv_sum (c := x.c) hz hb25).2))
        refine pwp_skip ?_
        exact seq_norm (hK23 _ ⟨rfl, rfl, rfl, rfl, rfl, trivial⟩ ⟨(congrArg PV.int (show ((if ((decide ((tmE (ts) (ms)) = (0))) && ((!(decide (0 ≤ x.a ∧ x.a ≤ 20000))) || (!(decide (0 ≤ x.b ∧ x.b ≤ 20000))))) = true then (2) else (tmE (ts) (ms))) : Int) = (if ((decide ((if ((decide ((tmE (ts) (ms)) = (0))) && ((!(decide (0 ≤ x.a ∧ x.a ≤ 20000))) || (!(decide (0 ≤ x.b ∧ x.b ≤ 20000))))) = true then (2) else (tmE (ts) (ms))) = (0))) && (decide (x.b < x.a))) = true then (10) else (if ((decide ((tmE (ts) (ms)) = (0))) && ((!(decide (0 ≤ x.a ∧ x.a ≤ 20000))) || (!(decide (0 ≤ x.b ∧ x.b ≤ 20000))))) = true then (2) else (tmE (ts) (ms)))) by first | rfl | ((try rw [hb25R]) <;> (first | rfl | (simp only [Bool.and_true, Bool.and_false, Bool.true_and, Bool.false_and, Bool.or_true, Bool.or_false, Bool.true_or, Bool.false_or, Bool.not_true, Bool.not_false, if_true, if_false, Bool.false_eq_true, reduceIte] <;> rfl))) | (simp only [hb25R, Bool.and_true, Bool.and_false, Bool.true_and, Bool.false_and, Bool.or_true, Bool.or_false, Bool.true_or, Bool.false_or, Bool.not_true, Bool.not_false, if_true, if_false, Bool.false_eq_true, reduceIte] <;> rfl))), trivial⟩)
      ·skip
       refine pwp_seq_seq ?_
       refine pwp_seq_plain rfl fun K27 hK27 => ?_
       refine p_step rfl (e_move (v := .sc _) rfl) trivial ?_
       refine p_step rfl (e_ne rfl rfl) trivial ?_
       refine p_end (hK27 _ ?_); clear hK27 K27
       refine pwp_seq_cond rfl fun K28 hK28 => ⟨fun hb29 => ?_, fun hb29 => ?_⟩
       ·have hb29R := hb29; (try simp only [z1, z2, z3, z4, z5, z6, ne_eq, z7, z8, z9, z10, z11, z12] at hb29); (try (have hll := hire_len hb29)); (try (rw [inv_if] at hb29)); (try (have hz := inv_parts (a := x.a) (b := x.b) hb29)); (try (have hs1 := sum_all (acc_small hz.1 hz.2.1))); (try (have hs2 := sum_all (acc_small hz.1 hz.2.2.1))); (try (have hsu := (inv_sum (c := x.c) hz hb29).2))
        refine pwp_seq_cutG [] [(6, .bool ((decide ((invE (ts) (ms) x.a x.b) = (if ((decide ((if ((decide ((tmE (ts) (ms)) = (0))) && ((!(decide (0 ≤ x.a ∧ x.a ≤ 20000))) || (!(decide (0 ≤ x.b ∧ x.b ≤ 20000))))) = true then (2) else (tmE (ts) (ms))) = (0))) && (decide (x.b < x.a))) = true then (10) else (if ((decide ((tmE (ts) (ms)) = (0))) && ((!(decide (0 ≤ x.a ∧ x.a ≤ 20000))) || (!(decide (0 ≤ x.b ∧ x.b ≤ 20000))))) = true then (2) else (tmE (ts) (ms)))))) && (decide ((invN (ts) (ms) x.a x.b) = (0)))))] (fun K30 hK30 => ?_) (fun r31 => ?_)
        ·skip
         refine pwp_gops rfl fun K32 hK32 => ?_
         refine g_begin ?_
         refine g_step rfl rfl rfl rfl (e_move (v := .sc _) rfl) trivial ?_
         refine g_step rfl rfl rfl rfl (e_move (v := .sc _) rfl) trivial ?_
         refine g_step rfl rfl rfl rfl (e_eq rfl rfl) trivial ?_
         refine g_step rfl rfl rfl rfl (e_move (v := .sc _) rfl) trivial ?_
         refine g_cases (fun hb33 => ?_) (fun hb33 => ?_)
         ·have hb33R := hb33; (try simp only [z1, z2, z3, z4, z5, z6, ne_eq, z7, z8, z9, z10, z11, z12] at hb33); (try (have hll := hire_len hb33)); (try (rw [inv_if] at hb33)); (try (have hz := inv_parts (a := x.a) (b := x.b) hb33)); (try (have hs1 := sum_all (acc_small hz.1 hz.2.1))); (try (have hs2 := sum_all (acc_small hz.1 hz.2.2.1))); (try (have hsu := (inv_sum (c := x.c) hz hb33).2))
          refine g_step rfl rfl rfl rfl (e_move (v := .sc _) rfl) trivial ?_
          refine g_step rfl rfl rfl rfl (e_eq rfl rfl) trivial ?_
          refine g_step rfl rfl rfl rfl (e_pickT (v := .sc _) rfl rfl) trivial ?_
          refine g_step rfl rfl rfl rfl (e_assign (v := .sc _) rfl) trivial ?_
          refine g_end (ds := [64, 65]) rfl rfl (hK32 _ ?_); clear hK32 K32
          exact seq_norm (hK30 _ trivial ⟨(congrArg PV.bool (show ((decide ((invN (ts) (ms) x.a x.b) = (0))) : Bool) = ((decide ((invE (ts) (ms) x.a x.b) = (if ((decide ((if ((decide ((tmE (ts) (ms)) = (0))) && ((!(decide (0 ≤ x.a ∧ x.a ≤ 20000))) || (!(decide (0 ≤ x.b ∧ x.b ≤ 20000))))) = true then (2) else (tmE (ts) (ms))) = (0))) && (decide (x.b < x.a))) = true then (10) else (if ((decide ((tmE (ts) (ms)) = (0))) && ((!(decide (0 ≤ x.a ∧ x.a ≤ 20000))) || (!(decide (0 ≤ x.b ∧ x.b ≤ 20000))))) = true then (2) else (tmE (ts) (ms)))))) && (decide ((invN (ts) (ms) x.a x.b) = (0)))) by first | rfl | ((try rw [hb33R]) <;> (first | rfl | (simp only [Bool.and_true, Bool.and_false, Bool.true_and, Bool.false_and, Bool.or_true, Bool.or_false, Bool.true_or, Bool.false_or, Bool.not_true, Bool.not_false, if_true, if_false, Bool.false_eq_true, reduceIte] <;> rfl))) | (simp only [hb33R, Bool.and_true, Bool.and_false, Bool.true_and, Bool.false_and, Bool.or_true, Bool.or_false, Bool.true_or, Bool.false_or, Bool.not_true, Bool.not_false, if_true, if_false, Bool.false_eq_true, reduceIte] <;> rfl))), trivial⟩)
         ·have hb33R := hb33; (try simp only [z1, z2, z3, z4, z5, z6, ne_eq, z7, z8, z9, z10, z11, z12] at hb33); (try (have hll := hire_len hb33)); (try (rw [inv_if] at hb33)); (try (have hz := inv_parts (a := x.a) (b := x.b) hb33)); (try (have hs1 := sum_all (acc_small hz.1 hz.2.1))); (try (have hs2 := sum_all (acc_small hz.1 hz.2.2.1))); (try (have hsu := (inv_sum (c := x.c) hz hb33).2))
          refine g_skip rfl rfl rfl ?_
          refine g_skip rfl rfl rfl ?_
          refine g_step rfl rfl rfl rfl (e_pickF (v := .sc _) rfl rfl) trivial ?_
          refine g_step rfl rfl rfl rfl (e_assign (v := .sc _) rfl) trivial ?_
          refine g_end (ds := [64, 65]) rfl rfl (hK32 _ ?_); clear hK32 K32
          exact seq_norm (hK30 _ trivial ⟨(congrArg PV.bool (show (false : Bool) = ((decide ((invE (ts) (ms) x.a x.b) = (if ((decide ((if ((decide ((tmE (ts) (ms)) = (0))) && ((!(decide (0 ≤ x.a ∧ x.a ≤ 20000))) || (!(decide (0 ≤ x.b ∧ x.b ≤ 20000))))) = true then (2) else (tmE (ts) (ms))) = (0))) && (decide (x.b < x.a))) = true then (10) else (if ((decide ((tmE (ts) (ms)) = (0))) && ((!(decide (0 ≤ x.a ∧ x.a ≤ 20000))) || (!(decide (0 ≤ x.b ∧ x.b ≤ 20000))))) = true then (2) else (tmE (ts) (ms)))))) && (decide ((invN (ts) (ms) x.a x.b) = (0)))) by first | rfl | ((try rw [hb33R]) <;> (first | rfl | (simp only [Bool.and_true, Bool.and_false, Bool.true_and, Bool.false_and, Bool.or_true, Bool.or_false, Bool.true_or, Bool.false_or, Bool.not_true, Bool.not_false, if_true, if_false, Bool.false_eq_true, reduceIte] <;> rfl))) | (simp only [hb33R, Bool.and_true, Bool.and_false, Bool.true_and, Bool.false_and, Bool.or_true, Bool.or_false, Bool.true_or, Bool.false_or, Bool.not_true, Bool.not_false, if_true, if_false, Bool.false_eq_true, reduceIte] <;> rfl))), trivial⟩)
        ·skip
         refine pwp_ret ?_
         refine ret_seq ?_
         refine end1 (v := .sc _) rfl ?_
         first
           | exact out_b rfl
           | exact out_b (inv_bad (by assumption))
           | exact absurd (by assumption) (inv_good hz)
           | exact out_b (inv_add hz (by assumption))
       ·have hb29R := hb29; (try simp only [z1, z2, z3, z4, z5, z6, ne_eq, z7, z8, z9, z10, z11, z12] at hb29); (try (have hll := hire_len hb29)); (try (rw [inv_if] at hb29)); (try (have hz := inv_parts (a := x.a) (b := x.b) hb29)); (try (have hs1 := sum_all (acc_small hz.1 hz.2.1))); (try (have hs2 := sum_all (acc_small hz.1 hz.2.2.1))); (try (have hsu := (inv_sum (c := x.c) hz hb29).2))
        refine pwp_skip ?_
        refine seq_norm (hK28 _ ?_); clear hK28 K28
        refine pwp_seq_seq ?_
        refine pwp_seq_cutG [0, 1, 5, 7] [(89, .bool (((decide ((invE (ts) (ms) x.a x.b) ≠ (0))) || (decide ((invN (ts) (ms) x.a x.b) < (0)))) || (decide ((invN (ts) (ms) x.a x.b) ≠ ((sumA (accT (ts) (ms) x.b)) - (sumA (accT (ts) (ms) x.a)))))))] (fun K34 hK34 => ?_) (fun r35 => ?_)
        ·skip
         refine pwp_gops rfl fun K36 hK36 => ?_
         refine g_begin ?_
         refine g_step rfl rfl rfl rfl (e_move (v := .sc _) rfl) trivial ?_
         refine g_step rfl rfl rfl rfl (e_ne rfl rfl) trivial ?_
         refine g_step rfl rfl rfl rfl (e_move (v := .sc _) rfl) trivial ?_
         refine g_cases (fun hb37 => ?_) (fun hb37 => ?_)
         ·have hb37R := hb37; (try simp only [z1, z2, z3, z4, z5, z6, ne_eq, z7, z8, z9, z10, z11, z12] at hb37); (try (have hll := hire_len hb37)); (try (rw [inv_if] at hb37)); (try (have hz := inv_parts (a := x.a) (b := x.b) hb37)); (try (have hs1 := sum_all (acc_small hz.1 hz.2.1))); (try (have hs2 := sum_all (acc_small hz.1 hz.2.2.1))); (try (have hsu := (inv_sum (c := x.c) hz hb37).2))
          refine g_skip rfl rfl rfl ?_
          refine g_skip rfl rfl rfl ?_
          refine g_step rfl rfl rfl rfl (e_pickT (v := .sc _) rfl rfl) trivial ?_
          refine g_step rfl rfl rfl rfl (e_move (v := .sc _) rfl) trivial ?_
          refine g_skip rfl rfl rfl ?_
          refine g_skip rfl rfl rfl ?_
          refine g_skip rfl rfl rfl ?_
          refine g_skip rfl rfl rfl ?_
          refine g_skip rfl rfl rfl ?_
          refine g_nocall rfl rfl rfl ?_
          refine g_nocall rfl rfl rfl ?_
          refine g_skip rfl rfl rfl ?_
          refine g_skip rfl rfl rfl ?_
          refine g_skip rfl rfl rfl ?_
          refine g_skip rfl rfl rfl ?_
          refine g_nocall rfl rfl rfl ?_
          refine g_nocall rfl rfl rfl ?_
          refine g_skip rfl rfl rfl ?_
          refine g_skip rfl rfl rfl ?_
          refine g_step rfl rfl rfl rfl (e_pickT (v := .sc _) rfl rfl) trivial ?_
          refine g_end (ds := [70, 71, 74, 75, 76, 77, 78, 79, 80, 81, 82, 83, 84, 85, 86, 87, 88]) (by kernel_rfl) rfl (hK36 _ ?_); clear hK36 K36
          exact seq_norm (hK34 _ ⟨rfl, rfl, rfl, rfl, trivial⟩ ⟨(congrArg PV.bool (show (true : Bool) = (((decide ((invE (ts) (ms) x.a x.b) ≠ (0))) || (decide ((invN (ts) (ms) x.a x.b) < (0)))) || (decide ((invN (ts) (ms) x.a x.b) ≠ ((sumA (accT (ts) (ms) x.b)) - (sumA (accT (ts) (ms) x.a)))))) by first | rfl | ((try rw [hb37R]) <;> (first | rfl | (simp only [Bool.and_true, Bool.and_false, Bool.true_and, Bool.false_and, Bool.or_true, Bool.or_false, Bool.true_or, Bool.false_or, Bool.not_true, Bool.not_false, if_true, if_false, Bool.false_eq_true, reduceIte] <;> rfl))) | (simp only [hb37R, Bool.and_true, Bool.and_false, Bool.true_and, Bool.false_and, Bool.or_true, Bool.or_false, Bool.true_or, Bool.false_or, Bool.not_true, Bool.not_false, if_true, if_false, Bool.false_eq_true, reduceIte] <;> rfl))), trivial⟩)
         ·have hb37R := hb37; (try simp only [z1, z2, z3, z4, z5, z6, ne_eq, z7, z8, z9, z10, z11, z12] at hb37); (try (have hll := hire_len hb37)); (try (rw [inv_if] at hb37)); (try (have hz := inv_parts (a := x.a) (b := x.b) hb37)); (try (have hs1 := sum_all (acc_small hz.1 hz.2.1))); (try (have hs2 := sum_all (acc_small hz.1 hz.2.2.1))); (try (have hsu := (inv_sum (c := x.c) hz hb37).2))
          refine g_step rfl rfl rfl rfl (e_move (v := .sc _) rfl) trivial ?_
          refine g_step rfl rfl rfl rfl (e_lt rfl rfl) trivial ?_
          refine g_step rfl rfl rfl rfl (e_pickF (v := .sc _) rfl rfl) trivial ?_
          refine g_step rfl rfl rfl rfl (e_move (v := .sc _) rfl) trivial ?_
          refine g_cases (fun hb38 => ?_) (fun hb38 => ?_)
          ·have hb38R := hb38; (try simp only [z1, z2, z3, z4, z5, z6, ne_eq, z7, z8, z9, z10, z11, z12] at hb38); (try (have hll := hire_len hb38)); (try (rw [inv_if] at hb38)); (try (have hz := inv_parts (a := x.a) (b := x.b) hb38)); (try (have hs1 := sum_all (acc_small hz.1 hz.2.1))); (try (have hs2 := sum_all (acc_small hz.1 hz.2.2.1))); (try (have hsu := (inv_sum (c := x.c) hz hb38).2))
           refine g_skip rfl rfl rfl ?_
           refine g_skip rfl rfl rfl ?_
           refine g_skip rfl rfl rfl ?_
           refine g_skip rfl rfl rfl ?_
           refine g_skip rfl rfl rfl ?_
           refine g_nocall rfl rfl rfl ?_
           refine g_nocall rfl rfl rfl ?_
           refine g_skip rfl rfl rfl ?_
           refine g_skip rfl rfl rfl ?_
           refine g_skip rfl rfl rfl ?_
           refine g_skip rfl rfl rfl ?_
           refine g_nocall rfl rfl rfl ?_
           refine g_nocall rfl rfl rfl ?_
           refine g_skip rfl rfl rfl ?_
           refine g_skip rfl rfl rfl ?_
           refine g_step rfl rfl rfl rfl (e_pickT (v := .sc _) rfl rfl) trivial ?_
           refine g_end (ds := [70, 71, 74, 75, 76, 77, 78, 79, 80, 81, 82, 83, 84, 85, 86, 87, 88]) (by kernel_rfl) rfl (hK36 _ ?_); clear hK36 K36
           exact seq_norm (hK34 _ ⟨rfl, rfl, rfl, rfl, trivial⟩ ⟨(congrArg PV.bool (show (true : Bool) = (((decide ((invE (ts) (ms) x.a x.b) ≠ (0))) || (decide ((invN (ts) (ms) x.a x.b) < (0)))) || (decide ((invN (ts) (ms) x.a x.b) ≠ ((sumA (accT (ts) (ms) x.b)) - (sumA (accT (ts) (ms) x.a)))))) by first | rfl | ((try rw [hb38R]) <;> (try rw [hb37R]) <;> (first | rfl | (simp only [Bool.and_true, Bool.and_false, Bool.true_and, Bool.false_and, Bool.or_true, Bool.or_false, Bool.true_or, Bool.false_or, Bool.not_true, Bool.not_false, if_true, if_false, Bool.false_eq_true, reduceIte] <;> rfl))) | (simp only [hb37R, hb38R, Bool.and_true, Bool.and_false, Bool.true_and, Bool.false_and, Bool.or_true, Bool.or_false, Bool.true_or, Bool.false_or, Bool.not_true, Bool.not_false, if_true, if_false, Bool.false_eq_true, reduceIte] <;> rfl))), trivial⟩)
          ·have hb38R := hb38; (try simp only [z1, z2, z3, z4, z5, z6, ne_eq, z7, z8, z9, z10, z11, z12] at hb38); (try (have hll := hire_len hb38)); (try (rw [inv_if] at hb38)); (try (have hz := inv_parts (a := x.a) (b := x.b) hb38)); (try (have hs1 := sum_all (acc_small hz.1 hz.2.1))); (try (have hs2 := sum_all (acc_small hz.1 hz.2.2.1))); (try (have hsu := (inv_sum (c := x.c) hz hb38).2))
           refine g_step rfl rfl rfl rfl (e_move (v := .sc _) rfl) trivial ?_
           refine g_step rfl rfl rfl rfl (e_move (v := .lit _ _ _) rfl) trivial ?_
           refine g_step rfl rfl rfl rfl (e_move (v := .lit _ _ _) rfl) trivial ?_
           refine g_step rfl rfl rfl rfl (e_faP (pl := [(0, 1, false), (1, 1, false), (2, 1, false)]) rfl (by kernel_rfl) (by kernel_rfl) (by decide) rfl) trivial ?_
           refine g_step rfl rfl rfl rfl (e_loadH (v := .sc _) rfl (hset_self _ _ _) (by kernel_rfl) (by kernel_rfl) (by kernel_rfl) (by exact Nat.zero_lt_one) (by decide) rfl) trivial ?_
           refine g_call rfl rfl rfl rfl (.cons inn_lit (.cons inn_lit (.cons inn_sc .nil))) (AccountR _ _ _ (by omega) (by omega) hz.1 (by omega)) ?_
           refine g_call rfl rfl rfl rfl (.cons inn_lit .nil) (refTotal2 _ (acc_small hz.1 (by omega))) ?_
           refine g_step rfl rfl rfl rfl (e_move (v := .lit _ _ _) rfl) trivial ?_
           refine g_step rfl rfl rfl rfl (e_move (v := .lit _ _ _) rfl) trivial ?_
           refine g_step rfl rfl rfl rfl (e_faP (pl := [(0, 1, false), (1, 1, false), (2, 1, false)]) rfl (by kernel_rfl) (by kernel_rfl) (by decide) rfl) trivial ?_
           refine g_step rfl rfl rfl rfl (e_loadH (v := .sc _) rfl (hset_self _ _ _) (by kernel_rfl) (by kernel_rfl) (by kernel_rfl) (by exact Nat.zero_lt_one) (by decide) rfl) trivial ?_
           refine g_call rfl rfl rfl rfl (.cons inn_lit (.cons inn_lit (.cons inn_sc .nil))) (AccountR _ _ _ (by omega) (by omega) hz.1 (by omega)) ?_
           refine g_call rfl rfl rfl rfl (.cons inn_lit .nil) (refTotal2 _ (acc_small hz.1 (by omega))) ?_
           refine g_step rfl rfl rfl rfl (e_sub rfl rfl (by omega)) trivial ?_
           refine g_step rfl rfl rfl rfl (e_ne rfl rfl) trivial ?_
           refine g_step rfl rfl rfl rfl (e_pickF (v := .sc _) rfl rfl) trivial ?_
           refine g_end (ds := [70, 71, 74, 75, 76, 77, 78, 79, 80, 81, 82, 83, 84, 85, 86, 87, 88]) (by kernel_rfl) rfl (hK36 _ ?_); clear hK36 K36
           exact seq_norm (hK34 _ ⟨rfl, rfl, rfl, rfl, trivial⟩ ⟨(congrArg PV.bool (show ((decide ((invN (ts) (ms) x.a x.b) ≠ ((sumA (accT (ts) (ms) x.b)) - (sumA (accT (ts) (ms) x.a))))) : Bool) = (((decide ((invE (ts) (ms) x.a x.b) ≠ (0))) || (decide ((invN (ts) (ms) x.a x.b) < (0)))) || (decide ((invN (ts) (ms) x.a x.b) ≠ ((sumA (accT (ts) (ms) x.b)) - (sumA (accT (ts) (ms) x.a)))))) by first | rfl | ((try rw [hb38R]) <;> (try rw [hb37R]) <;> (first | rfl | (simp only [Bool.and_true, Bool.and_false, Bool.true_and, Bool.false_and, Bool.or_true, Bool.or_false, Bool.true_or, Bool.false_or, Bool.not_true, Bool.not_false, if_true, if_false, Bool.false_eq_true, reduceIte] <;> rfl))) | (simp only [hb37R, hb38R, Bool.and_true, Bool.and_false, Bool.true_and, Bool.false_and, Bool.or_true, Bool.or_false, Bool.true_or, Bool.false_or, Bool.not_true, Bool.not_false, if_true, if_false, Bool.false_eq_true, reduceIte] <;> rfl))), trivial⟩)
        ·skip
         refine pwp_seq_cond rfl fun K39 hK39 => ⟨fun hb40 => ?_, fun hb40 => ?_⟩
         ·have hb40R := hb40; (try simp only [z1, z2, z3, z4, z5, z6, ne_eq, z7, z8, z9, z10, z11, z12] at hb40); (try (have hll := hire_len hb40)); (try (rw [inv_if] at hb40)); (try (have hz := inv_parts (a := x.a) (b := x.b) hb40)); (try (have hs1 := sum_all (acc_small hz.1 hz.2.1))); (try (have hs2 := sum_all (acc_small hz.1 hz.2.2.1))); (try (have hsu := (inv_sum (c := x.c) hz hb40).2))
          refine pwp_seq_plain rfl fun K41 hK41 => ?_
          refine p_step rfl (e_assign (v := .sc _) rfl) trivial ?_
          refine p_end (hK41 _ ?_); clear hK41 K41
          refine pwp_ret ?_
          refine ret_seq ?_
          refine end1 (v := .sc _) rfl ?_
          first
            | exact out_b rfl
            | exact out_b (inv_bad (by assumption))
            | exact absurd (by assumption) (inv_good hz)
            | exact out_b (inv_add hz (by assumption))
         ·have hb40R := hb40; (try simp only [z1, z2, z3, z4, z5, z6, ne_eq, z7, z8, z9, z10, z11, z12] at hb40); (try (have hll := hire_len hb40)); (try (rw [inv_if] at hb40)); (try (have hz := inv_parts (a := x.a) (b := x.b) hb40)); (try (have hs1 := sum_all (acc_small hz.1 hz.2.1))); (try (have hs2 := sum_all (acc_small hz.1 hz.2.2.1))); (try (have hsu := (inv_sum (c := x.c) hz hb40).2))
          refine pwp_skip ?_
          refine seq_norm (hK39 _ ?_); clear hK39 K39
          refine pwp_seq_seq ?_
          refine pwp_seq_cutG [0, 1, 5, 7] [(100, .bool ((!(decide (0 ≤ x.c ∧ x.c ≤ 20000))) || (decide (x.c < x.b))))] (fun K42 hK42 => ?_) (fun r43 => ?_)
          ·skip
           refine pwp_gops rfl fun K44 hK44 => ?_
           refine g_begin ?_
           refine g_step rfl rfl rfl rfl (e_faP (pl := [(0, 1, false), (1, 1, false), (2, 1, false)]) rfl (by kernel_rfl) (by kernel_rfl) (by decide) rfl) trivial ?_
           refine g_step rfl rfl rfl rfl (e_loadH (v := .sc _) rfl (hset_self _ _ _) (by kernel_rfl) (by kernel_rfl) (by kernel_rfl) (by exact Nat.zero_lt_one) (by decide) rfl) trivial ?_
           refine g_call rfl rfl rfl rfl (.cons inn_sc .nil) (IsDay _) ?_
           refine g_step rfl rfl rfl rfl (e_not rfl) trivial ?_
           refine g_step rfl rfl rfl rfl (e_move (v := .sc _) rfl) trivial ?_
           refine g_cases (fun hb45 => ?_) (fun hb45 => ?_)
           ·have hb45R := hb45; (try simp only [z1, z2, z3, z4, z5, z6, ne_eq, z7, z8, z9, z10, z11, z12] at hb45); (try (have hll := hire_len hb45)); (try (rw [inv_if] at hb45)); (try (have hz := inv_parts (a := x.a) (b := x.b) hb45)); (try (have hs1 := sum_all (acc_small hz.1 hz.2.1))); (try (have hs2 := sum_all (acc_small hz.1 hz.2.2.1))); (try (have hsu := (inv_sum (c := x.c) hz hb45).2))
            refine g_skip rfl rfl rfl ?_
            refine g_skip rfl rfl rfl ?_
            refine g_skip rfl rfl rfl ?_
            refine g_skip rfl rfl rfl ?_
            refine g_skip rfl rfl rfl ?_
            refine g_step rfl rfl rfl rfl (e_pickT (v := .sc _) rfl rfl) trivial ?_
            refine g_end (ds := [95, 96, 97, 98, 99]) rfl rfl (hK44 _ ?_); clear hK44 K44
            exact seq_norm (hK42 _ ⟨rfl, rfl, rfl, rfl, trivial⟩ ⟨(congrArg PV.bool (show (true : Bool) = ((!(decide (0 ≤ x.c ∧ x.c ≤ 20000))) || (decide (x.c < x.b))) by first | rfl | ((try rw [hb45R]) <;> (first | rfl | (simp only [Bool.and_true, Bool.and_false, Bool.true_and, Bool.false_and, Bool.or_true, Bool.or_false, Bool.true_or, Bool.false_or, Bool.not_true, Bool.not_false, if_true, if_false, Bool.false_eq_true, reduceIte] <;> rfl))) | (simp only [hb45R, Bool.and_true, Bool.and_false, Bool.true_and, Bool.false_and, Bool.or_true, Bool.or_false, Bool.true_or, Bool.false_or, Bool.not_true, Bool.not_false, if_true, if_false, Bool.false_eq_true, reduceIte] <;> rfl))), trivial⟩)
           ·have hb45R := hb45; (try simp only [z1, z2, z3, z4, z5, z6, ne_eq, z7, z8, z9, z10, z11, z12] at hb45); (try (have hll := hire_len hb45)); (try (rw [inv_if] at hb45)); (try (have hz := inv_parts (a := x.a) (b := x.b) hb45)); (try (have hs1 := sum_all (acc_small hz.1 hz.2.1))); (try (have hs2 := sum_all (acc_small hz.1 hz.2.2.1))); (try (have hsu := (inv_sum (c := x.c) hz hb45).2))
            refine g_step rfl rfl rfl rfl (e_faP (pl := [(0, 1, false), (1, 1, false), (2, 1, false)]) rfl (by kernel_rfl) (by kernel_rfl) (by decide) rfl) trivial ?_
            refine g_step rfl rfl rfl rfl (e_loadH (v := .sc _) rfl (hset_self _ _ _) (by kernel_rfl) (by kernel_rfl) (by kernel_rfl) (by exact Nat.zero_lt_one) (by decide) rfl) trivial ?_
            refine g_step rfl rfl rfl rfl (e_faP (pl := [(0, 1, false), (1, 1, false), (2, 1, false)]) rfl (by kernel_rfl) (by kernel_rfl) (by decide) rfl) trivial ?_
            refine g_step rfl rfl rfl rfl (e_loadH (v := .sc _) rfl (hset_self _ _ _) (by kernel_rfl) (by kernel_rfl) (by kernel_rfl) (by exact Nat.zero_lt_one) (by decide) rfl) trivial ?_
            refine g_step rfl rfl rfl rfl (e_lt rfl rfl) trivial ?_
            refine g_step rfl rfl rfl rfl (e_pickF (v := .sc _) rfl rfl) trivial ?_
            refine g_end (ds := [95, 96, 97, 98, 99]) rfl rfl (hK44 _ ?_); clear hK44 K44
            exact seq_norm (hK42 _ ⟨rfl, rfl, rfl, rfl, trivial⟩ ⟨(congrArg PV.bool (show ((decide (x.c < x.b)) : Bool) = ((!(decide (0 ≤ x.c ∧ x.c ≤ 20000))) || (decide (x.c < x.b))) by first | rfl | ((try rw [hb45R]) <;> (first | rfl | (simp only [Bool.and_true, Bool.and_false, Bool.true_and, Bool.false_and, Bool.or_true, Bool.or_false, Bool.true_or, Bool.false_or, Bool.not_true, Bool.not_false, if_true, if_false, Bool.false_eq_true, reduceIte] <;> rfl))) | (simp only [hb45R, Bool.and_true, Bool.and_false, Bool.true_and, Bool.false_and, Bool.or_true, Bool.or_false, Bool.true_or, Bool.false_or, Bool.not_true, Bool.not_false, if_true, if_false, Bool.false_eq_true, reduceIte] <;> rfl))), trivial⟩)
          ·skip
           refine pwp_seq_cond rfl fun K46 hK46 => ⟨fun hb47 => ?_, fun hb47 => ?_⟩
           ·have hb47R := hb47; (try simp only [z1, z2, z3, z4, z5, z6, ne_eq, z7, z8, z9, z10, z11, z12] at hb47); (try (have hll := hire_len hb47)); (try (rw [inv_if] at hb47)); (try (have hz := inv_parts (a := x.a) (b := x.b) hb47)); (try (have hs1 := sum_all (acc_small hz.1 hz.2.1))); (try (have hs2 := sum_all (acc_small hz.1 hz.2.2.1))); (try (have hsu := (inv_sum (c := x.c) hz hb47).2))
            refine pwp_seq_plain rfl fun K48 hK48 => ?_
            refine p_step rfl (e_assign (v := .sc _) rfl) trivial ?_
            refine p_end (hK48 _ ?_); clear hK48 K48
            refine pwp_ret ?_
            refine ret_seq ?_
            refine end1 (v := .sc _) rfl ?_
            first
              | exact out_b rfl
              | exact out_b (inv_bad (by assumption))
              | exact absurd (by assumption) (inv_good hz)
              | exact out_b (inv_add hz (by assumption))
           ·have hb47R := hb47; (try simp only [z1, z2, z3, z4, z5, z6, ne_eq, z7, z8, z9, z10, z11, z12] at hb47); (try (have hll := hire_len hb47)); (try (rw [inv_if] at hb47)); (try (have hz := inv_parts (a := x.a) (b := x.b) hb47)); (try (have hs1 := sum_all (acc_small hz.1 hz.2.1))); (try (have hs2 := sum_all (acc_small hz.1 hz.2.2.1))); (try (have hsu := (inv_sum (c := x.c) hz hb47).2))
            refine pwp_skip ?_
            refine seq_norm (hK46 _ ?_); clear hK46 K46
            refine pwp_seq_gops rfl fun K49 hK49 => ?_
            refine g_begin ?_
            refine g_step rfl rfl rfl rfl (e_move (v := .lit _ _ _) rfl) trivial ?_
            refine g_call rfl rfl rfl rfl (.cons inn_lit .nil) (termsC _ (by omega)) ?_
            refine g_step rfl rfl rfl rfl (e_move (v := .lit _ _ _) rfl) trivial ?_
            refine g_call rfl rfl rfl rfl (.cons inn_lit .nil) (movesC _ (by omega)) ?_
            refine g_step rfl rfl rfl rfl (e_faP (pl := [(0, 1, false), (1, 1, false), (2, 1, false)]) rfl (by kernel_rfl) (by kernel_rfl) (by decide) rfl) trivial ?_
            refine g_step rfl rfl rfl rfl (e_loadH (v := .sc _) rfl (hset_self _ _ _) (by kernel_rfl) (by kernel_rfl) (by kernel_rfl) (by exact Nat.zero_lt_one) (by decide) rfl) trivial ?_
            refine g_step rfl rfl rfl rfl (e_faP (pl := [(0, 1, false), (1, 1, false), (2, 1, false)]) rfl (by kernel_rfl) (by kernel_rfl) (by decide) rfl) trivial ?_
            refine g_step rfl rfl rfl rfl (e_loadH (v := .sc _) rfl (hset_self _ _ _) (by kernel_rfl) (by kernel_rfl) (by kernel_rfl) (by exact Nat.zero_lt_one) (by decide) rfl) trivial ?_
            refine g_call rfl rfl rfl rfl (.cons inn_lit (.cons inn_lit (.cons inn_sc (.cons inn_sc .nil)))) (Invoice _ _ _ _ (by omega) (by omega)) ?_
            refine g_step rfl rfl rfl rfl (e_move (v := .tup _) rfl) trivial ?_
            refine g_step rfl rfl rfl rfl (e_ext (v := .sc _) rfl (by simp) rfl) trivial ?_
            refine g_step rfl rfl rfl rfl (e_ext (v := .sc _) rfl (by simp) rfl) trivial ?_
            refine g_step rfl rfl rfl rfl (e_assign (v := .sc _) rfl) trivial ?_
            refine g_step rfl rfl rfl rfl (e_assign (v := .sc _) rfl) trivial ?_
            refine g_end (ds := []) (by kernel_rfl) rfl (hK49 _ ?_); clear hK49 K49
            refine pwp_seq_gops rfl fun K50 hK50 => ?_
            refine g_begin ?_
            refine g_step rfl rfl rfl rfl (e_move (v := .lit _ _ _) rfl) trivial ?_
            refine g_call rfl rfl rfl rfl (.cons inn_lit .nil) (termsC _ (by omega)) ?_
            refine g_step rfl rfl rfl rfl (e_move (v := .lit _ _ _) rfl) trivial ?_
            refine g_call rfl rfl rfl rfl (.cons inn_lit .nil) (movesC _ (by omega)) ?_
            refine g_step rfl rfl rfl rfl (e_faP (pl := [(0, 1, false), (1, 1, false), (2, 1, false)]) rfl (by kernel_rfl) (by kernel_rfl) (by decide) rfl) trivial ?_
            refine g_step rfl rfl rfl rfl (e_loadH (v := .sc _) rfl (hset_self _ _ _) (by kernel_rfl) (by kernel_rfl) (by kernel_rfl) (by exact Nat.zero_lt_one) (by decide) rfl) trivial ?_
            refine g_step rfl rfl rfl rfl (e_faP (pl := [(0, 1, false), (1, 1, false), (2, 1, false)]) rfl (by kernel_rfl) (by kernel_rfl) (by decide) rfl) trivial ?_
            refine g_step rfl rfl rfl rfl (e_loadH (v := .sc _) rfl (hset_self _ _ _) (by kernel_rfl) (by kernel_rfl) (by kernel_rfl) (by exact Nat.zero_lt_one) (by decide) rfl) trivial ?_
            refine g_call rfl rfl rfl rfl (.cons inn_lit (.cons inn_lit (.cons inn_sc (.cons inn_sc .nil)))) (Invoice _ _ _ _ (by omega) (by omega)) ?_
            refine g_step rfl rfl rfl rfl (e_move (v := .tup _) rfl) trivial ?_
            refine g_step rfl rfl rfl rfl (e_ext (v := .sc _) rfl (by simp) rfl) trivial ?_
            refine g_step rfl rfl rfl rfl (e_ext (v := .sc _) rfl (by simp) rfl) trivial ?_
            refine g_step rfl rfl rfl rfl (e_assign (v := .sc _) rfl) trivial ?_
            refine g_step rfl rfl rfl rfl (e_assign (v := .sc _) rfl) trivial ?_
            refine g_end (ds := []) (by kernel_rfl) rfl (hK50 _ ?_); clear hK50 K50
            refine pwp_seq_cutG [] [(6, .bool (((decide ((invE (ts) (ms) x.b x.c) = (0))) && (decide ((invE (ts) (ms) x.a x.c) = (0)))) && (decide (((invN (ts) (ms) x.a x.b) + (invN (ts) (ms) x.b x.c)) = (invN (ts) (ms) x.a x.c)))))] (fun K51 hK51 => ?_) (fun r52 => ?_)
            ·skip
             refine pwp_gops rfl fun K53 hK53 => ?_
             refine g_begin ?_
             refine g_step rfl rfl rfl rfl (e_move (v := .sc _) rfl) trivial ?_
             refine g_step rfl rfl rfl rfl (e_eq rfl rfl) trivial ?_
             refine g_step rfl rfl rfl rfl (e_move (v := .sc _) rfl) trivial ?_
             refine g_cases (fun hb54 => ?_) (fun hb54 => ?_)
             ·have hb54R := hb54; (try simp only [z1, z2, z3, z4, z5, z6, ne_eq, z7, z8, z9, z10, z11, z12] at hb54); (try (have hll := hire_len hb54)); (try (rw [inv_if] at hb54)); (try (have hz := inv_parts (a := x.a) (b := x.b) hb54)); (try (have hs1 := sum_all (acc_small hz.1 hz.2.1))); (try (have hs2 := sum_all (acc_small hz.1 hz.2.2.1))); (try (have hsu := (inv_sum (c := x.c) hz hb54).2))
              refine g_step rfl rfl rfl rfl (e_move (v := .sc _) rfl) trivial ?_
              refine g_step rfl rfl rfl rfl (e_eq rfl rfl) trivial ?_
              refine g_step rfl rfl rfl rfl (e_pickT (v := .sc _) rfl rfl) trivial ?_
              refine g_step rfl rfl rfl rfl (e_move (v := .sc _) rfl) trivial ?_
              refine g_cases (fun hb55 => ?_) (fun hb55 => ?_)
              ·have hb55R := hb55; (try simp only [z1, z2, z3, z4, z5, z6, ne_eq, z7, z8, z9, z10, z11, z12] at hb55); (try (have hll := hire_len hb55)); (try (rw [inv_if] at hb55)); (try (have hz := inv_parts (a := x.a) (b := x.b) hb55)); (try (have hs1 := sum_all (acc_small hz.1 hz.2.1))); (try (have hs2 := sum_all (acc_small hz.1 hz.2.2.1))); (try (have hsu := (inv_sum (c := x.c) hz hb55).2))
               refine g_step rfl rfl rfl rfl (e_move (v := .sc _) rfl) trivial ?_
               refine g_step rfl rfl rfl rfl (e_move (v := .sc _) rfl) trivial ?_
               refine g_step rfl rfl rfl rfl (e_add rfl rfl (by omega)) trivial ?_
               refine g_step rfl rfl rfl rfl (e_move (v := .sc _) rfl) trivial ?_
               refine g_step rfl rfl rfl rfl (e_eq rfl rfl) trivial ?_
               refine g_step rfl rfl rfl rfl (e_pickT (v := .sc _) rfl rfl) trivial ?_
               refine g_step rfl rfl rfl rfl (e_assign (v := .sc _) rfl) trivial ?_
               refine g_end (ds := [128, 129, 132, 133, 134, 135, 136]) rfl rfl (hK53 _ ?_); clear hK53 K53
               exact seq_norm (hK51 _ trivial ⟨(congrArg PV.bool (show ((decide (((invN (ts) (ms) x.a x.b) + (invN (ts) (ms) x.b x.c)) = (invN (ts) (ms) x.a x.c))) : Bool) = (((decide ((invE (ts) (ms) x.b x.c) = (0))) && (decide ((invE (ts) (ms) x.a x.c) = (0)))) && (decide (((invN (ts) (ms) x.a x.b) + (invN (ts) (ms) x.b x.c)) = (invN (ts) (ms) x.a x.c)))) by first | rfl | ((try rw [hb55R]) <;> (try rw [hb54R]) <;> (first | rfl | (simp only [Bool.and_true, Bool.and_false, Bool.true_and, Bool.false_and, Bool.or_true, Bool.or_false, Bool.true_or, Bool.false_or, Bool.not_true, Bool.not_false, if_true, if_false, Bool.false_eq_true, reduceIte] <;> rfl))) | (simp only [hb54R, hb55R, Bool.and_true, Bool.and_false, Bool.true_and, Bool.false_and, Bool.or_true, Bool.or_false, Bool.true_or, Bool.false_or, Bool.not_true, Bool.not_false, if_true, if_false, Bool.false_eq_true, reduceIte] <;> rfl))), trivial⟩)
              ·have hb55R := hb55; (try simp only [z1, z2, z3, z4, z5, z6, ne_eq, z7, z8, z9, z10, z11, z12] at hb55); (try (have hll := hire_len hb55)); (try (rw [inv_if] at hb55)); (try (have hz := inv_parts (a := x.a) (b := x.b) hb55)); (try (have hs1 := sum_all (acc_small hz.1 hz.2.1))); (try (have hs2 := sum_all (acc_small hz.1 hz.2.2.1))); (try (have hsu := (inv_sum (c := x.c) hz hb55).2))
               refine g_skip rfl rfl rfl ?_
               refine g_skip rfl rfl rfl ?_
               refine g_skip rfl rfl rfl ?_
               refine g_skip rfl rfl rfl ?_
               refine g_skip rfl rfl rfl ?_
               refine g_step rfl rfl rfl rfl (e_pickF (v := .sc _) rfl rfl) trivial ?_
               refine g_step rfl rfl rfl rfl (e_assign (v := .sc _) rfl) trivial ?_
               refine g_end (ds := [128, 129, 132, 133, 134, 135, 136]) rfl rfl (hK53 _ ?_); clear hK53 K53
               exact seq_norm (hK51 _ trivial ⟨(congrArg PV.bool (show (false : Bool) = (((decide ((invE (ts) (ms) x.b x.c) = (0))) && (decide ((invE (ts) (ms) x.a x.c) = (0)))) && (decide (((invN (ts) (ms) x.a x.b) + (invN (ts) (ms) x.b x.c)) = (invN (ts) (ms) x.a x.c)))) by first | rfl | ((try rw [hb55R]) <;> (try rw [hb54R]) <;> (first | rfl | (simp only [Bool.and_true, Bool.and_false, Bool.true_and, Bool.false_and, Bool.or_true, Bool.or_false, Bool.true_or, Bool.false_or, Bool.not_true, Bool.not_false, if_true, if_false, Bool.false_eq_true, reduceIte] <;> rfl))) | (simp only [hb54R, hb55R, Bool.and_true, Bool.and_false, Bool.true_and, Bool.false_and, Bool.or_true, Bool.or_false, Bool.true_or, Bool.false_or, Bool.not_true, Bool.not_false, if_true, if_false, Bool.false_eq_true, reduceIte] <;> rfl))), trivial⟩)
             ·have hb54R := hb54; (try simp only [z1, z2, z3, z4, z5, z6, ne_eq, z7, z8, z9, z10, z11, z12] at hb54); (try (have hll := hire_len hb54)); (try (rw [inv_if] at hb54)); (try (have hz := inv_parts (a := x.a) (b := x.b) hb54)); (try (have hs1 := sum_all (acc_small hz.1 hz.2.1))); (try (have hs2 := sum_all (acc_small hz.1 hz.2.2.1))); (try (have hsu := (inv_sum (c := x.c) hz hb54).2))
              refine g_skip rfl rfl rfl ?_
              refine g_skip rfl rfl rfl ?_
              refine g_step rfl rfl rfl rfl (e_pickF (v := .sc _) rfl rfl) trivial ?_
              refine g_step rfl rfl rfl rfl (e_move (v := .sc _) rfl) trivial ?_
              refine g_skip rfl rfl rfl ?_
              refine g_skip rfl rfl rfl ?_
              refine g_skip rfl rfl rfl ?_
              refine g_skip rfl rfl rfl ?_
              refine g_skip rfl rfl rfl ?_
              refine g_step rfl rfl rfl rfl (e_pickF (v := .sc _) rfl rfl) trivial ?_
              refine g_step rfl rfl rfl rfl (e_assign (v := .sc _) rfl) trivial ?_
              refine g_end (ds := [128, 129, 132, 133, 134, 135, 136]) rfl rfl (hK53 _ ?_); clear hK53 K53
              exact seq_norm (hK51 _ trivial ⟨(congrArg PV.bool (show (false : Bool) = (((decide ((invE (ts) (ms) x.b x.c) = (0))) && (decide ((invE (ts) (ms) x.a x.c) = (0)))) && (decide (((invN (ts) (ms) x.a x.b) + (invN (ts) (ms) x.b x.c)) = (invN (ts) (ms) x.a x.c)))) by first | rfl | ((try rw [hb54R]) <;> (first | rfl | (simp only [Bool.and_true, Bool.and_false, Bool.true_and, Bool.false_and, Bool.or_true, Bool.or_false, Bool.true_or, Bool.false_or, Bool.not_true, Bool.not_false, if_true, if_false, Bool.false_eq_true, reduceIte] <;> rfl))) | (simp only [hb54R, Bool.and_true, Bool.and_false, Bool.true_and, Bool.false_and, Bool.or_true, Bool.or_false, Bool.true_or, Bool.false_or, Bool.not_true, Bool.not_false, if_true, if_false, Bool.false_eq_true, reduceIte] <;> rfl))), trivial⟩)
            ·skip
             refine pwp_ret ?_
             refine end1 (v := .sc _) rfl ?_
             first
               | exact out_b rfl
               | exact out_b (inv_bad (by assumption))
               | exact absurd (by assumption) (inv_good hz)
               | exact out_b (inv_add hz (by assumption))

end Go.Proofs.Ytdbpfhbppcpbbaa
