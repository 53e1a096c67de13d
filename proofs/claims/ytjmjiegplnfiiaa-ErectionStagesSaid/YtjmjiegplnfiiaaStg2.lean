/- Ready and closed stages. No conditions. -/
import Derived.Test.YtjmjiegplnfiiaaStg
set_option linter.unusedSimpArgs false
set_option linter.unusedVariables false
set_option maxRecDepth 100000
namespace Go.Proofs.Ytjmjiegplnfiiaa
open Go Go.Pv
theorem fr34 : (inFrame Try.f34.ntmps (Try.f34.body.getD .skip) && Try.f34.results.toList.all (resScope Try.f34.ntmps)) = true := by kernel_rfl
theorem refListC (xs : List Task) (ds : List Int) (hxl : xs.length ≤ 15) (hdl : ds.length ≤ 30) : PCalls Try.prog 34 [.lit true 6 (xs.map Task.enc), .lit true 1 (ds.map ci)] (.int (listE ds xs.length)) := by
  refine PCalls.of_code Try.func34 rfl rfl (by kernel_rfl) mixed fr34 (by show _ ≤ 24; simp) (.sc _) ?_
  refine pwp_seq_plain rfl fun K1 hK1 => ?_
  refine p_step rfl (e_assign (v := .sc _) rfl) trivial ?_
  refine p_end (hK1 _ ?_); clear hK1 K1
  refine pwp_seq_seq ?_
  refine pwp_seq_plain rfl fun K2 hK2 => ?_
  refine p_step rfl (e_assign (v := .sc _) rfl) trivial ?_
  refine p_end (hK2 _ ?_); clear hK2 K2
  refine pwp_seq_block fun K3 hK3 => ?_
  refine pwp_loopR (α := Nat) [0, 1] (fun (k : Nat) => [(5, .int (k))]) (fun (k : Nat) (h : Heap) (_ : Nat → Nat) => ((k) ≤ ds.length) ∧ (∀ i, i < (k) → outB (xs.length : Int) (at0 ds i) = false)) (fun (k : Nat) => ds.length - (k)) (0) (by exact ⟨rfl, trivial⟩) (by exact ⟨by exact Nat.zero_le _, by exact upto_0⟩) fun k r4 h5 c6 hj7 => ?_
  obtain ⟨hk, hin⟩ := hj7
  try dsimp only at hk
  try dsimp only at hin
  show pwp _ _ (loopQ _ _ _) ⟨sets (mix _ _ _) [(5, .int k)], _, _⟩
  refine pwp_seq_seq ?_
  refine pwp_seq_plain rfl fun K8 hK8 => ?_
  refine p_step rfl (e_move (v := .sc _) rfl) trivial ?_
  refine p_step rfl (e_move (v := .lit _ _ _) rfl) trivial ?_
  refine p_step rfl (e_len rfl (by kernel_rfl)) trivial ?_
  refine p_step rfl (e_lt rfl rfl) trivial ?_
  refine p_end (hK8 _ ?_); clear hK8 K8
  refine pwp_seq_cond rfl fun K9 hK9 => ⟨fun hb10 => ?_, fun hb10 => ?_⟩
  ·have hb10R := hb10; try simp only [z1, z2, z3, z4, z5, z6, ne_eq, z7, z8, z9, z10, z11, z12] at hb10
   refine pwp_skip ?_
   refine seq_norm (hK9 _ ?_); clear hK9 K9
   refine pwp_seq_block fun K11 hK11 => ?_
   refine pwp_seq_plain rfl fun K12 hK12 => ?_
   refine p_step rfl (e_move (v := .lit _ _ _) rfl) trivial ?_
   refine p_step rfl (e_move (v := .sc _) rfl) trivial ?_
   refine p_step rfl (e_ixa rfl rfl (by kernel_rfl) (by kernel_rfl) (by first | omega | (simp only [List.length_map]; omega))) trivial ?_
   refine p_step rfl (e_load (v := .sc _) rfl (by kernel_rfl) (by kernel_rfl) (by kernel_rfl) (by first | omega | (simp only [List.length_map]; omega)) (by decide) ((cell_map (at0_get (l := ds) (i := k) (by simp only [List.length_map] at *; omega)) _).trans rfl)) trivial ?_
   refine p_step rfl (e_move (v := .lit _ _ _) rfl) trivial ?_
   refine p_step rfl (e_len rfl (by kernel_rfl)) trivial ?_
   refine p_step rfl (e_sub rfl rfl (by first | omega | (simp only [List.length_map] at *; omega))) trivial ?_
   refine p_call rfl (.cons inn_sc (.cons inn_sc (.cons inn_sc .nil))) (Within _ _ _) ?_
   refine p_step rfl (e_not rfl) trivial ?_
   refine p_end (hK12 _ ?_); clear hK12 K12
   refine pwp_cond rfl (fun hb13 => ?_) (fun hb13 => ?_)
   ·have hb13R := hb13; try simp only [z1, z2, z3, z4, z5, z6, ne_eq, z7, z8, z9, z10, z11, z12] at hb13
    refine pwp_seq_plain rfl fun K14 hK14 => ?_
    refine p_step rfl (e_assign (v := .sc _) rfl) trivial ?_
    refine p_end (hK14 _ ?_); clear hK14 K14
    refine pwp_ret ?_
    refine ret_block ?_
    refine ret_seq ?_
    refine ret_loop ?_
    refine ret_block ?_
    refine ret_seq ?_
    refine end1 (v := .sc _) rfl ?_
    first
      | exact out_i (listE_6 (any_out (j := k) (by simp only [List.length_map] at *; omega) (by simp only [outB, Bool.not_eq_true', decide_eq_false_iff_not]; simp only [List.length_map] at *; omega)))
      | exact out_i (listE_10 hany (by assumption))
      | exact out_i (listE_0 hany (by assumption))
   ·have hb13R := hb13; try simp only [z1, z2, z3, z4, z5, z6, ne_eq, z7, z8, z9, z10, z11, z12] at hb13
    refine pwp_skip ?_
    refine block_norm ?_
    refine seq_norm (hK11 _ ?_); clear hK11 K11
    refine pwp_plain rfl fun K15 hK15 => ?_
    refine p_step rfl (e_move (v := .sc _) rfl) trivial ?_
    refine p_step rfl (e_add rfl rfl (by first | omega | (simp only [List.length_map] at *; omega))) trivial ?_
    refine p_step rfl (e_assign (v := .sc _) rfl) trivial ?_
    refine p_end (hK15 _ ?_); clear hK15 K15
    exact loop_again (k + 1) (by show _ < _; omega) ⟨rfl, rfl, trivial⟩ ⟨rfl, trivial⟩ (by exact ⟨by show _ + 1 ≤ _; simp only [List.length_map] at *; omega, by exact upto_step (p := fun z => outB (xs.length : Int) (at0 ds z) = false) hin (by simp only [outB, Bool.not_eq_false', decide_eq_true_eq]; simp only [List.length_map] at *; omega)⟩)
  ·have hb10R := hb10; try simp only [z1, z2, z3, z4, z5, z6, ne_eq, z7, z8, z9, z10, z11, z12] at hb10
   have hany := any_in hin (by simp only [List.length_map] at *; omega)
   refine pwp_exit ?_
   refine exit_seq ?_
   clear hK9 K9
   refine exit_loop ?_
   refine exit_here ?_
   refine seq_norm (hK3 _ ?_); clear hK3 K3
   refine pwp_seq_seq ?_
   refine pwp_seq_plain rfl fun K16 hK16 => ?_
   refine p_step rfl (e_move (v := .lit _ _ _) rfl) trivial ?_
   refine p_call rfl (.cons inn_lit .nil) (ascends _ (by omega)) ?_
   refine p_step rfl (e_not rfl) trivial ?_
   refine p_end (hK16 _ ?_); clear hK16 K16
   refine pwp_seq_cond rfl fun K17 hK17 => ⟨fun hb18 => ?_, fun hb18 => ?_⟩
   ·have hb18R := hb18; try simp only [z1, z2, z3, z4, z5, z6, ne_eq, z7, z8, z9, z10, z11, z12] at hb18
    refine pwp_seq_plain rfl fun K19 hK19 => ?_
    refine p_step rfl (e_assign (v := .sc _) rfl) trivial ?_
    refine p_end (hK19 _ ?_); clear hK19 K19
    refine pwp_ret ?_
    refine ret_seq ?_
    refine end1 (v := .sc _) rfl ?_
    first
      | exact out_i (listE_6 (any_out (j := k) (by simp only [List.length_map] at *; omega) (by simp only [outB, Bool.not_eq_true', decide_eq_false_iff_not]; simp only [List.length_map] at *; omega)))
      | exact out_i (listE_10 hany (by assumption))
      | exact out_i (listE_0 hany (by assumption))
   ·have hb18R := hb18; try simp only [z1, z2, z3, z4, z5, z6, ne_eq, z7, z8, z9, z10, z11, z12] at hb18
    refine pwp_skip ?_
    refine seq_norm (hK17 _ ?_); clear hK17 K17
    refine pwp_seq_plain rfl fun K20 hK20 => ?_
    refine p_step rfl (e_assign (v := .sc _) rfl) trivial ?_
    refine p_end (hK20 _ ?_); clear hK20 K20
    refine pwp_ret ?_
    refine end1 (v := .sc _) rfl ?_
    first
      | exact out_i (listE_6 (any_out (j := k) (by simp only [List.length_map] at *; omega) (by simp only [outB, Bool.not_eq_true', decide_eq_false_iff_not]; simp only [List.length_map] at *; omega)))
      | exact out_i (listE_10 hany (by assumption))
      | exact out_i (listE_0 hany (by assumption))

theorem fr35 : (inFrame Try.f35.ntmps (Try.f35.body.getD .skip) && Try.f35.results.toList.all (resScope Try.f35.ntmps)) = true := by kernel_rfl
theorem refClosedC (xs : List Task) (ds : List Int) (hp : planE xs = 0) (hq : Fair xs) (hxl : xs.length ≤ 15) (hdl : ds.length ≤ 30) (hdr : ∀ z ∈ ds, 0 ≤ z ∧ z < xs.length) : PCalls Try.prog 35 [.lit true 6 (xs.map Task.enc), .lit true 1 (ds.map ci)] (.bool (closedB xs ds)) := by
  refine PCalls.of_code Try.func35 rfl rfl (by kernel_rfl) mixed fr35 (by show _ ≤ 27; simp) (.sc _) ?_
  refine pwp_seq_plain rfl fun K1 hK1 => ?_
  refine p_step rfl (e_assign (v := .sc _) rfl) trivial ?_
  refine p_end (hK1 _ ?_); clear hK1 K1
  refine pwp_seq_plain rfl fun K2 hK2 => ?_
  refine p_step rfl (e_move (v := .lit _ _ _) rfl) trivial ?_
  refine p_step rfl (e_move (v := .lit _ _ _) rfl) trivial ?_
  refine p_call rfl (.cons inn_lit (.cons inn_lit .nil)) (marksC _ _ hxl hdl hdr) ?_
  refine p_step rfl (e_assign (v := .lit _ _ _) rfl) trivial ?_
  refine p_end (hK2 _ ?_); clear hK2 K2
  refine pwp_seq_seq ?_
  refine pwp_seq_plain rfl fun K3 hK3 => ?_
  refine p_step rfl (e_assign (v := .sc _) rfl) trivial ?_
  refine p_end (hK3 _ ?_); clear hK3 K3
  refine pwp_seq_block fun K4 hK4 => ?_
  refine pwp_loopR (α := Nat) [0, 1, 5] (fun (k : Nat) => [(6, .int (k))]) (fun (k : Nat) (h : Heap) (_ : Nat → Nat) => ((k) ≤ ds.length) ∧ (∀ i, i < (k) → clN xs ds (at0 ds i) = true)) (fun (k : Nat) => ds.length - (k)) (0) (by exact ⟨rfl, trivial⟩) (by exact ⟨by exact Nat.zero_le _, by exact upto_0⟩) fun k r5 h6 c7 hj8 => ?_
  obtain ⟨hk, hcl⟩ := hj8
  try dsimp only at hk
  try dsimp only at hcl
  show pwp _ _ (loopQ _ _ _) ⟨sets (mix _ _ _) [(6, .int k)], _, _⟩
  refine pwp_seq_seq ?_
  refine pwp_seq_plain rfl fun K9 hK9 => ?_
  refine p_step rfl (e_move (v := .sc _) rfl) trivial ?_
  refine p_step rfl (e_move (v := .lit _ _ _) rfl) trivial ?_
  refine p_step rfl (e_len rfl (by kernel_rfl)) trivial ?_
  refine p_step rfl (e_lt rfl rfl) trivial ?_
  refine p_end (hK9 _ ?_); clear hK9 K9
  refine pwp_seq_cond rfl fun K10 hK10 => ⟨fun hb11 => ?_, fun hb11 => ?_⟩
  ·have hb11R := hb11; try simp only [z1, z2, z3, z4, z5, z6, ne_eq, z7, z8, z9, z10, z11, z12] at hb11
   have hzd := hdr _ (at0_mem (l := ds) (i := k) (by simp only [List.length_map] at *; omega))
   obtain ⟨x, hx, _, _⟩ := get_lt (xs := xs) (i := (at0 ds k).toNat) (by omega)
   have hxn := (task_ok hp hx).2.2.2.1
   have hxl1 := (hq x (List.mem_of_getElem? hx)).1
   have hch := cl_has hx hxn
   refine pwp_skip ?_
   refine seq_norm (hK10 _ ?_); clear hK10 K10
   refine pwp_seq_block fun K12 hK12 => ?_
   refine pwp_seq_plain rfl fun K13 hK13 => ?_
   refine p_step rfl (e_move (v := .lit _ _ _) rfl) trivial ?_
   refine p_step rfl (e_move (v := .lit _ _ _) rfl) trivial ?_
   refine p_step rfl (e_move (v := .lit _ _ _) rfl) trivial ?_
   refine p_step rfl (e_move (v := .sc _) rfl) trivial ?_
   refine p_step rfl (e_ixa rfl rfl (by kernel_rfl) (by kernel_rfl) (by first | omega | (simp only [List.length_map]; omega))) trivial ?_
   refine p_step rfl (e_load (v := .sc _) rfl (by kernel_rfl) (by kernel_rfl) (by kernel_rfl) (by first | omega | (simp only [List.length_map]; omega)) (by decide) ((cell_map (at0_get (l := ds) (i := k) (by simp only [List.length_map] at *; omega)) _).trans rfl)) trivial ?_
   refine p_step rfl (e_ixa rfl rfl (by kernel_rfl) (by kernel_rfl) (by first | omega | (simp only [List.length_map]; omega))) trivial ?_
   refine p_step rfl (e_fa (pl := [(0, 1, false), (1, 1, false), (2, 1, false), (3, 1, false), (4, 1, false), (5, 1, false)]) rfl (by kernel_rfl) (by kernel_rfl) (by decide) rfl) trivial ?_
   refine p_step rfl (e_load (v := .lit _ _ _) rfl (by kernel_rfl) (by kernel_rfl) (by kernel_rfl) (by first | omega | (simp only [List.length_map]; omega)) (by decide) ((cell_map hx _).trans rfl)) trivial ?_
   refine p_call rfl (.cons inn_lit (.cons inn_lit .nil)) (hasC _ _ (by omega) (by rw [doneB_len]; exact hxn)) ?_
   refine p_step rfl (e_not rfl) trivial ?_
   refine p_end (hK13 _ ?_); clear hK13 K13
   refine pwp_cond rfl (fun hb14 => ?_) (fun hb14 => ?_)
   ·have hb14R := hb14; try simp only [z1, z2, z3, z4, z5, z6, ne_eq, z7, z8, z9, z10, z11, z12] at hb14
    refine pwp_seq_plain rfl fun K15 hK15 => ?_
    refine p_step rfl (e_assign (v := .sc _) rfl) trivial ?_
    refine p_end (hK15 _ ?_); clear hK15 K15
    refine pwp_ret ?_
    refine ret_block ?_
    refine ret_seq ?_
    refine ret_loop ?_
    refine ret_block ?_
    refine ret_seq ?_
    refine end1 (v := .sc _) rfl ?_
    first
      | exact out_b (closed_nB (k := k) (by simp only [List.length_map] at *; omega) (by rw [← hch]; assumption))
      | exact out_b (closed_yes hcl (by simp only [List.length_map] at *; omega))
   ·have hb14R := hb14; try simp only [z1, z2, z3, z4, z5, z6, ne_eq, z7, z8, z9, z10, z11, z12] at hb14
    refine pwp_skip ?_
    refine block_norm ?_
    refine seq_norm (hK12 _ ?_); clear hK12 K12
    refine pwp_plain rfl fun K16 hK16 => ?_
    refine p_step rfl (e_move (v := .sc _) rfl) trivial ?_
    refine p_step rfl (e_add rfl rfl (by first | omega | (simp only [List.length_map] at *; omega))) trivial ?_
    refine p_step rfl (e_assign (v := .sc _) rfl) trivial ?_
    refine p_end (hK16 _ ?_); clear hK16 K16
    exact loop_again (k + 1) (by show _ < _; omega) ⟨rfl, rfl, rfl, trivial⟩ ⟨rfl, trivial⟩ (by exact ⟨by show _ + 1 ≤ _; simp only [List.length_map] at *; omega, by exact upto_step (p := fun i => clN xs ds (at0 ds i) = true) hcl (by rw [← hch]; assumption)⟩)
  ·have hb11R := hb11; try simp only [z1, z2, z3, z4, z5, z6, ne_eq, z7, z8, z9, z10, z11, z12] at hb11
   refine pwp_exit ?_
   refine exit_seq ?_
   clear hK10 K10
   refine exit_loop ?_
   refine exit_here ?_
   refine seq_norm (hK4 _ ?_); clear hK4 K4
   refine pwp_seq_plain rfl fun K17 hK17 => ?_
   refine p_step rfl (e_assign (v := .sc _) rfl) trivial ?_
   refine p_end (hK17 _ ?_); clear hK17 K17
   refine pwp_ret ?_
   refine end1 (v := .sc _) rfl ?_
   first
     | exact out_b (closed_nB (k := k) (by simp only [List.length_map] at *; omega) (by rw [← hch]; assumption))
     | exact out_b (closed_yes hcl (by simp only [List.length_map] at *; omega))

theorem fr36 : (inFrame Try.f36.ntmps (Try.f36.body.getD .skip) && Try.f36.results.toList.all (resScope Try.f36.ntmps)) = true := by kernel_rfl
theorem refReadyC (xs : List Task) (ds : List Int) (hp : planE xs = 0) (hq : Fair xs) (hxl : xs.length ≤ 15) (hdl : ds.length ≤ 30) (hdr : ∀ z ∈ ds, 0 ≤ z ∧ z < xs.length) : PCalls Try.prog 36 [.lit true 6 (xs.map Task.enc), .lit true 1 (ds.map ci)] (.lit false 1 ((readyL xs ds).map ci)) := by
  refine PCalls.of_code Try.func36 rfl rfl (by kernel_rfl) mixed fr36 (by show _ ≤ 36; simp) (.lit _ _ _ fun row hr => pure_map ci_pure row hr) ?_
  refine pwp_seq_plain rfl fun K1 hK1 => ?_
  refine p_step rfl (e_assign (v := .nil) rfl) trivial ?_
  refine p_end (hK1 _ ?_); clear hK1 K1
  refine pwp_seq_plain rfl fun K2 hK2 => ?_
  refine p_step rfl (e_move (v := .lit _ _ _) rfl) trivial ?_
  refine p_step rfl (e_move (v := .lit _ _ _) rfl) trivial ?_
  refine p_call rfl (.cons inn_lit (.cons inn_lit .nil)) (marksC _ _ hxl hdl hdr) ?_
  refine p_step rfl (e_assign (v := .lit _ _ _) rfl) trivial ?_
  refine p_end (hK2 _ ?_); clear hK2 K2
  refine pwp_seq_plain rfl fun K3 hK3 => ?_
  refine p_step rfl (e_assign (v := .nil) rfl) trivial ?_
  refine p_end (hK3 _ ?_); clear hK3 K3
  refine pwp_seq_seq ?_
  refine pwp_seq_plain rfl fun K4 hK4 => ?_
  refine p_step rfl (e_assign (v := .sc _) rfl) trivial ?_
  refine p_end (hK4 _ ?_); clear hK4 K4
  refine pwp_seq_block fun K5 hK5 => ?_
  refine pwp_loopR (α := Nat × PV) [0, 5] (fun (a6 : Nat × PV) => [(6, (a6.2)), (7, .int (a6.1))]) (fun (a6 : Nat × PV) (h : Heap) (_ : Nat → Nat) => ((a6.1) ≤ xs.length) ∧ (SliceAt h 34 (a6.2) 1 ((readyP xs ds (a6.1)).map ci))) (fun (a6 : Nat × PV) => xs.length - (a6.1)) (0, .nil) (by exact ⟨rfl, rfl, trivial⟩) (by exact ⟨by exact Nat.zero_le _, .nil⟩) fun a6 r7 h8 c9 hj10 => ?_
  obtain ⟨k, v⟩ := a6
  obtain ⟨hk, hihj10_0⟩ := hj10
  try dsimp only at hk
  try dsimp only at hihj10_0
  show pwp _ _ (loopQ _ _ _) ⟨sets (mix _ _ _) [(6, v), (7, .int k)], _, _⟩
  refine pwp_seq_seq ?_
  refine pwp_seq_plain rfl fun K11 hK11 => ?_
  refine p_step rfl (e_move (v := .sc _) rfl) trivial ?_
  refine p_step rfl (e_move (v := .lit _ _ _) rfl) trivial ?_
  refine p_step rfl (e_len rfl (by kernel_rfl)) trivial ?_
  refine p_step rfl (e_lt rfl rfl) trivial ?_
  refine p_end (hK11 _ ?_); clear hK11 K11
  refine pwp_seq_cond rfl fun K12 hK12 => ⟨fun hb13 => ?_, fun hb13 => ?_⟩
  ·have hb13R := hb13; try simp only [z1, z2, z3, z4, z5, z6, ne_eq, z7, z8, z9, z10, z11, z12] at hb13
   obtain ⟨x, hx, hd, ht⟩ := get_lt (xs := xs) (i := k) (by omega)
   have hxn := (task_ok hp hx).2.2.2.1
   have hxl1 := (hq x (List.mem_of_getElem? hx)).1
   have hrd := not_has (D := ds) hx hxn
   have hrp := readyP_len (xs := xs) (D := ds) (k := k)
   refine pwp_skip ?_
   refine seq_norm (hK12 _ ?_); clear hK12 K12
   refine pwp_seq_block fun K14 hK14 => ?_
   refine pwp_seq_gops rfl fun K15 hK15 => ?_
   refine g_begin ?_
   refine g_step rfl rfl rfl rfl (e_move (v := .lit _ _ _) rfl) trivial ?_
   refine g_step rfl rfl rfl rfl (e_move (v := .sc _) rfl) trivial ?_
   refine g_step rfl rfl rfl rfl (e_ixa rfl rfl (by kernel_rfl) (by kernel_rfl) (by first | omega | (simp only [List.length_map, doneB_len]; omega))) trivial ?_
   refine g_step rfl rfl rfl rfl (e_load (v := .sc _) rfl (by kernel_rfl) (by kernel_rfl) (by kernel_rfl) (by first | omega | (simp only [List.length_map, doneB_len]; omega)) (by decide) ((cell_map (doneB_get (i := k) (by omega)) _).trans rfl)) trivial ?_
   refine g_step rfl rfl rfl rfl (e_not rfl) trivial ?_
   refine g_step rfl rfl rfl rfl (e_move (v := .sc _) rfl) trivial ?_
   refine g_cases (fun hb16 => ?_) (fun hb16 => ?_)
   ·have hb16R := hb16; try simp only [z1, z2, z3, z4, z5, z6, ne_eq, z7, z8, z9, z10, z11, z12] at hb16
    refine g_step rfl rfl rfl rfl (e_move (v := .lit _ _ _) rfl) trivial ?_
    refine g_step rfl rfl rfl rfl (e_move (v := .lit _ _ _) rfl) trivial ?_
    refine g_step rfl rfl rfl rfl (e_move (v := .sc _) rfl) trivial ?_
    refine g_step rfl rfl rfl rfl (e_ixa rfl rfl (by kernel_rfl) (by kernel_rfl) (by first | omega | (simp only [List.length_map, doneB_len]; omega))) trivial ?_
    refine g_step rfl rfl rfl rfl (e_fa (pl := [(0, 1, false), (1, 1, false), (2, 1, false), (3, 1, false), (4, 1, false), (5, 1, false)]) rfl (by kernel_rfl) (by kernel_rfl) (by decide) rfl) trivial ?_
    refine g_step rfl rfl rfl rfl (e_load (v := .lit _ _ _) rfl (by kernel_rfl) (by kernel_rfl) (by kernel_rfl) (by first | omega | (simp only [List.length_map, doneB_len]; omega)) (by decide) ((cell_map hx _).trans rfl)) trivial ?_
    refine g_call rfl rfl rfl rfl (.cons inn_lit (.cons inn_lit .nil)) (hasC _ _ (by omega) (by rw [doneB_len]; exact hxn)) ?_
    refine g_step rfl rfl rfl rfl (e_pickT (v := .sc _) rfl rfl) trivial ?_
    refine g_end (ds := [23, 24, 25, 26, 27, 28, 29]) rfl rfl (hK15 _ ?_); clear hK15 K15
    refine pwp_cond rfl (fun hb17 => ?_) (fun hb17 => ?_)
    ·have hb17R := hb17; try simp only [z1, z2, z3, z4, z5, z6, ne_eq, z7, z8, z9, z10, z11, z12] at hb17
     refine pwp_plain rfl fun K18 hK18 => ?_
     refine p_step rfl (e_move (v := _) rfl) trivial ?_
     refine p_step rfl (e_move (v := .sc _) rfl) trivial ?_
     refine p_new rfl (e_bslice (rows := [ci (k : Int)]) (zs := [.int 0]) (sz := 1) (by kernel_rfl) (by kernel_rfl) rfl (by kernel_rfl) (by decide) rfl rfl (by exact ⟨by decide, rfl, rfl, trivial⟩) rfl) trivial ?_
     refine p_app rfl rfl rfl (hihj10_0.keep fun _ => (hset_ne (key_ne rfl)).trans (rfl)) (src_ref (hset_self _ _ _) rfl) (by kernel_rfl) (by simp only [List.length_append, List.length_map, List.length_nil, List.length_cons]; omega) fun v19 h20 c21 hs22 hf23 => ?_
     have ho24 := (hf23 (33, _) (key_ne rfl) (fun _ _ => key_ne rfl)).trans (hset_self _ _ _)
     refine p_step rfl (e_assign (v := _) rfl) trivial ?_
     refine p_end (hK18 _ ?_); clear hK18 K18
     refine block_norm ?_
     refine seq_norm (hK14 _ ?_); clear hK14 K14
     refine pwp_plain rfl fun K25 hK25 => ?_
     refine p_step rfl (e_move (v := .sc _) rfl) trivial ?_
     refine p_step rfl (e_add rfl rfl (by first | omega | (simp only [List.length_map] at *; omega))) trivial ?_
     refine p_step rfl (e_assign (v := .sc _) rfl) trivial ?_
     refine p_end (hK25 _ ?_); clear hK25 K25
     exact loop_again ((k + 1, v19)) (by show _ < _; simp only; omega) ⟨rfl, rfl, trivial⟩ ⟨rfl, rfl, trivial⟩ (by exact ⟨by show _ + 1 ≤ _; simp only [List.length_map] at *; omega, (SliceAt.to hs22 (by (first | exact rows_t (by rw [hrd]; simp_all) | exact rows_f (by rw [hrd]; simp_all))))⟩)
    ·have hb17R := hb17; try simp only [z1, z2, z3, z4, z5, z6, ne_eq, z7, z8, z9, z10, z11, z12] at hb17
     refine pwp_skip ?_
     refine block_norm ?_
     refine seq_norm (hK14 _ ?_); clear hK14 K14
     refine pwp_plain rfl fun K26 hK26 => ?_
     refine p_step rfl (e_move (v := .sc _) rfl) trivial ?_
     refine p_step rfl (e_add rfl rfl (by first | omega | (simp only [List.length_map] at *; omega))) trivial ?_
     refine p_step rfl (e_assign (v := .sc _) rfl) trivial ?_
     refine p_end (hK26 _ ?_); clear hK26 K26
     exact loop_again ((k + 1, v)) (by show _ < _; simp only; omega) ⟨rfl, rfl, trivial⟩ ⟨rfl, rfl, trivial⟩ (by exact ⟨by show _ + 1 ≤ _; simp only [List.length_map] at *; omega, (SliceAt.to hihj10_0 (by (first | exact rows_t (by rw [hrd]; simp_all) | exact rows_f (by rw [hrd]; simp_all))))⟩)
   ·have hb16R := hb16; try simp only [z1, z2, z3, z4, z5, z6, ne_eq, z7, z8, z9, z10, z11, z12] at hb16
    refine g_skip rfl rfl rfl ?_
    refine g_skip rfl rfl rfl ?_
    refine g_skip rfl rfl rfl ?_
    refine g_skip rfl rfl rfl ?_
    refine g_skip rfl rfl rfl ?_
    refine g_skip rfl rfl rfl ?_
    refine g_nocall rfl rfl rfl ?_
    refine g_step rfl rfl rfl rfl (e_pickF (v := .sc _) rfl rfl) trivial ?_
    refine g_end (ds := [23, 24, 25, 26, 27, 28, 29]) rfl rfl (hK15 _ ?_); clear hK15 K15
    refine pwp_cond (t := false) rfl nofun (fun _ => ?_)
    refine pwp_skip ?_
    refine block_norm ?_
    refine seq_norm (hK14 _ ?_); clear hK14 K14
    refine pwp_plain rfl fun K27 hK27 => ?_
    refine p_step rfl (e_move (v := .sc _) rfl) trivial ?_
    refine p_step rfl (e_add rfl rfl (by first | omega | (simp only [List.length_map] at *; omega))) trivial ?_
    refine p_step rfl (e_assign (v := .sc _) rfl) trivial ?_
    refine p_end (hK27 _ ?_); clear hK27 K27
    exact loop_again ((k + 1, v)) (by show _ < _; simp only; omega) ⟨rfl, rfl, trivial⟩ ⟨rfl, rfl, trivial⟩ (by exact ⟨by show _ + 1 ≤ _; simp only [List.length_map] at *; omega, (SliceAt.to hihj10_0 (by (first | exact rows_t (by rw [hrd]; simp_all) | exact rows_f (by rw [hrd]; simp_all))))⟩)
  ·have hb13R := hb13; try simp only [z1, z2, z3, z4, z5, z6, ne_eq, z7, z8, z9, z10, z11, z12] at hb13
   have hkx : k = xs.length := by simp only [List.length_map] at *; omega
   refine pwp_exit ?_
   refine exit_seq ?_
   clear hK12 K12
   refine exit_loop ?_
   refine exit_here ?_
   refine seq_norm (hK5 _ ?_); clear hK5 K5
   refine pwp_seq_plain rfl fun K28 hK28 => ?_
   refine p_step rfl (e_move (v := _) rfl) trivial ?_
   refine p_step rfl (e_assign (v := _) rfl) trivial ?_
   refine p_end (hK28 _ ?_); clear hK28 K28
   refine pwp_ret ?_
   refine end1 (v := _) rfl ?_
   exact out_slice hihj10_0 (by rw [hkx]; rfl) (fun _ => rfl) fun a p hp => by simp [ci] at hp; subst hp; exact ⟨.sc _, rfl⟩

theorem ready_len {xs : List Task} {ds : List Int} (h : (xs.length : Int) ≤ 15) : (readyX xs ds).1.length ≤ 1000000 := by
  unfold readyX
  split
  · simp
  · split
    · simp
    · have := readyP_len (xs := xs) (D := ds) (k := xs.length)
      show (readyP xs ds xs.length).length ≤ _
      omega

theorem fr6 : (inFrame Try.f6.ntmps (Try.f6.body.getD .skip) && Try.f6.results.toList.all (resScope Try.f6.ntmps)) = true := by kernel_rfl
theorem hStages (xs : List Task) (ds : List Int) (hl : xs.length ≤ 9223372036854775807) : PCalls Try.prog 6 [.lit true 6 (xs.map Task.enc), .lit true 1 (ds.map ci)] (.bool true) := by
  refine PCalls.of_code Try.func6 rfl rfl (by kernel_rfl) mixed fr6 (by show _ ≤ 85; simp) (.sc _) ?_
  refine pwp_seq_plain rfl fun K1 hK1 => ?_
  refine p_step rfl (e_assign (v := .sc _) rfl) trivial ?_
  refine p_end (hK1 _ ?_); clear hK1 K1
  refine pwp_seq_seq ?_
  refine pwp_seq_plain rfl fun K2 hK2 => ?_
  refine p_call rfl .nil (awake) ?_
  refine p_step rfl (e_not rfl) trivial ?_
  refine p_end (hK2 _ ?_); clear hK2 K2
  refine pwp_seq_cond (t := false) rfl fun K3 hK3 => ⟨nofun, fun _ => ?_⟩
  refine pwp_skip ?_
  refine seq_norm (hK3 _ ?_); clear hK3 K3
  refine pwp_seq_seq ?_
  refine pwp_seq_gops rfl fun K4 hK4 => ?_
  refine g_begin ?_
  refine g_step rfl rfl rfl rfl (e_move (v := .lit _ _ _) rfl) trivial ?_
  refine g_call rfl rfl rfl rfl (.cons inn_lit (.cons inn_sc .nil)) (FewC _ _ (by omega)) ?_
  refine g_step rfl rfl rfl rfl (e_not rfl) trivial ?_
  refine g_step rfl rfl rfl rfl (e_move (v := .sc _) rfl) trivial ?_
  refine g_cases (fun hb5 => ?_) (fun hb5 => ?_)
  ·have hb5R := hb5; try simp only [z1, z2, z3, z4, z5, z6, ne_eq, z7, z8, z9, z10, z11, z12] at hb5
   refine g_skip rfl rfl rfl ?_
   refine g_skip rfl rfl rfl ?_
   refine g_skip rfl rfl rfl ?_
   refine g_step rfl rfl rfl rfl (e_pickT (v := .sc _) rfl rfl) trivial ?_
   refine g_end (ds := [16, 17, 18]) rfl rfl (hK4 _ ?_); clear hK4 K4
   refine pwp_seq_cond (t := true) rfl fun K6 hK6 => ⟨fun _ => ?_, nofun⟩
   refine pwp_seq_plain rfl fun K7 hK7 => ?_
   refine p_step rfl (e_assign (v := .sc _) rfl) trivial ?_
   refine p_end (hK7 _ ?_); clear hK7 K7
   refine pwp_ret ?_
   refine ret_seq ?_
   refine end1 (v := .sc _) rfl ?_
   first
     | exact out_b rfl
     | exact out_b (by first | (rw [hr1, hr2] at *; simp_all; done) | fail)
     | exact out_b (by first | (rw [hr2] at *; simp_all; done) | fail)
     | exact out_b (by first | (have q := ‹(closedX xs ds).1 = false›; replace q := (congrArg Prod.fst hr2).symm.trans q; have e1 := congrArg Prod.fst (ready_c hw0 q); have e2 := congrArg Prod.snd (ready_c hw0 q); dsimp only at e1 e2; simp_all; done) | fail)
     | exact out_b (by first | (have q := ‹(closedX xs ds).1 = true›; replace q := (congrArg Prod.fst hr2).symm.trans q; have e1 := congrArg Prod.fst (ready_0 hw0 q); have e2 := congrArg Prod.snd (ready_0 hw0 q); dsimp only at e1 e2; simp_all; done) | fail)
  ·have hb5R := hb5; try simp only [z1, z2, z3, z4, z5, z6, ne_eq, z7, z8, z9, z10, z11, z12] at hb5
   refine g_step rfl rfl rfl rfl (e_move (v := .lit _ _ _) rfl) trivial ?_
   refine g_step rfl rfl rfl rfl (e_len rfl (by kernel_rfl)) trivial ?_
   refine g_step rfl rfl rfl rfl (e_gt rfl rfl) trivial ?_
   refine g_step rfl rfl rfl rfl (e_pickF (v := .sc _) rfl rfl) trivial ?_
   refine g_end (ds := [16, 17, 18]) rfl rfl (hK4 _ ?_); clear hK4 K4
   refine pwp_seq_cond rfl fun K8 hK8 => ⟨fun hb9 => ?_, fun hb9 => ?_⟩
   ·have hb9R := hb9; try simp only [z1, z2, z3, z4, z5, z6, ne_eq, z7, z8, z9, z10, z11, z12] at hb9
    refine pwp_seq_plain rfl fun K10 hK10 => ?_
    refine p_step rfl (e_assign (v := .sc _) rfl) trivial ?_
    refine p_end (hK10 _ ?_); clear hK10 K10
    refine pwp_ret ?_
    refine ret_seq ?_
    refine end1 (v := .sc _) rfl ?_
    first
      | exact out_b rfl
      | exact out_b (by first | (rw [hr1, hr2] at *; simp_all; done) | fail)
      | exact out_b (by first | (rw [hr2] at *; simp_all; done) | fail)
      | exact out_b (by first | (have q := ‹(closedX xs ds).1 = false›; replace q := (congrArg Prod.fst hr2).symm.trans q; have e1 := congrArg Prod.fst (ready_c hw0 q); have e2 := congrArg Prod.snd (ready_c hw0 q); dsimp only at e1 e2; simp_all; done) | fail)
      | exact out_b (by first | (have q := ‹(closedX xs ds).1 = true›; replace q := (congrArg Prod.fst hr2).symm.trans q; have e1 := congrArg Prod.fst (ready_0 hw0 q); have e2 := congrArg Prod.snd (ready_0 hw0 q); dsimp only at e1 e2; simp_all; done) | fail)
   ·have hb9R := hb9; try simp only [z1, z2, z3, z4, z5, z6, ne_eq, z7, z8, z9, z10, z11, z12] at hb9
    refine pwp_skip ?_
    refine seq_norm (hK8 _ ?_); clear hK8 K8
    have hfw := few_fair (by assumption)
    refine pwp_seq_plain rfl fun K11 hK11 => ?_
    refine p_step rfl (e_move (v := .lit _ _ _) rfl) trivial ?_
    refine p_step rfl (e_move (v := .lit _ _ _) rfl) trivial ?_
    refine p_call rfl (.cons inn_lit (.cons inn_lit .nil)) (ReadyC _ _ hfw (by simp only [List.length_map] at *; omega)) ?_
    refine p_step rfl (e_move (v := .tup _) rfl) trivial ?_
    refine p_step rfl (e_ext (v := .lit _ _ _) rfl (by simp) rfl) trivial ?_
    refine p_step rfl (e_ext (v := .sc _) rfl (by simp) rfl) trivial ?_
    refine p_step rfl (e_assign (v := .lit _ _ _) rfl) trivial ?_
    refine p_step rfl (e_assign (v := .sc _) rfl) trivial ?_
    refine p_end (hK11 _ ?_); clear hK11 K11
    refine pwp_seq_plain rfl fun K12 hK12 => ?_
    refine p_step rfl (e_move (v := .lit _ _ _) rfl) trivial ?_
    refine p_step rfl (e_move (v := .lit _ _ _) rfl) trivial ?_
    refine p_call rfl (.cons inn_lit (.cons inn_lit .nil)) (ClosedC _ _ hfw (by simp only [List.length_map] at *; omega)) ?_
    refine p_step rfl (e_move (v := .tup _) rfl) trivial ?_
    refine p_step rfl (e_ext (v := .sc _) rfl (by simp) rfl) trivial ?_
    refine p_step rfl (e_ext (v := .sc _) rfl (by simp) rfl) trivial ?_
    refine p_step rfl (e_assign (v := .sc _) rfl) trivial ?_
    refine p_step rfl (e_assign (v := .sc _) rfl) trivial ?_
    refine p_end (hK12 _ ?_); clear hK12 K12
    refine pwp_seq_plain rfl fun K13 hK13 => ?_
    refine p_step rfl (e_move (v := .lit _ _ _) rfl) trivial ?_
    refine p_call rfl (.cons inn_lit .nil) (refCheckC _ (by omega) hfw.2) ?_
    refine p_step rfl (e_assign (v := .sc _) rfl) trivial ?_
    refine p_end (hK13 _ ?_); clear hK13 K13
    refine pwp_seq_seq ?_
    refine pwp_seq_plain rfl fun K14 hK14 => ?_
    refine p_step rfl (e_move (v := .sc _) rfl) trivial ?_
    refine p_step rfl (e_eq rfl rfl) trivial ?_
    refine p_end (hK14 _ ?_); clear hK14 K14
    refine pwp_seq_cond rfl fun K15 hK15 => ⟨fun hb16 => ?_, fun hb16 => ?_⟩
    ·have hb16R := hb16; try simp only [z1, z2, z3, z4, z5, z6, ne_eq, z7, z8, z9, z10, z11, z12] at hb16
     refine pwp_plain rfl fun K17 hK17 => ?_
     refine p_step rfl (e_move (v := .lit _ _ _) rfl) trivial ?_
     refine p_step rfl (e_move (v := .lit _ _ _) rfl) trivial ?_
     refine p_call rfl (.cons inn_lit (.cons inn_lit .nil)) (refListC _ _ (by omega) (by simp only [List.length_map] at *; omega)) ?_
     refine p_step rfl (e_assign (v := .sc _) rfl) trivial ?_
     refine p_end (hK17 _ ?_); clear hK17 K17
     refine seq_norm (hK15 _ ?_); clear hK15 K15
     refine pwp_seq_seq ?_
     refine pwp_seq_plain rfl fun K18 hK18 => ?_
     refine p_step rfl (e_move (v := .sc _) rfl) trivial ?_
     refine p_step rfl (e_ne rfl rfl) trivial ?_
     refine p_end (hK18 _ ?_); clear hK18 K18
     refine pwp_seq_cond rfl fun K19 hK19 => ⟨fun hb20 => ?_, fun hb20 => ?_⟩
     ·have hb20R := hb20; try simp only [z1, z2, z3, z4, z5, z6, ne_eq, z7, z8, z9, z10, z11, z12] at hb20
      have hwe : withE xs ds = (listE ds xs.length) := by first | exact (with_p (by assumption)).symm | exact (with_l (by assumption)).symm
      have hw : withE xs ds ≠ 0 := by rw [hwe]; assumption
      have hr1 := ready_w hw; have hr2 := closedX_w hw
      refine pwp_seq_gops rfl fun K21 hK21 => ?_
      refine g_begin ?_
      refine g_step rfl rfl rfl rfl (e_move (v := .sc _) rfl) trivial ?_
      refine g_step rfl rfl rfl rfl (e_move (v := .sc _) rfl) trivial ?_
      refine g_step rfl rfl rfl rfl (e_eq rfl rfl) trivial ?_
      refine g_step rfl rfl rfl rfl (e_move (v := .sc _) rfl) trivial ?_
      refine g_cases (fun hb22 => ?_) (fun hb22 => ?_)
      ·have hb22R := hb22; try simp only [z1, z2, z3, z4, z5, z6, ne_eq, z7, z8, z9, z10, z11, z12] at hb22
       refine g_step rfl rfl rfl rfl (e_move (v := .sc _) rfl) trivial ?_
       refine g_step rfl rfl rfl rfl (e_move (v := .sc _) rfl) trivial ?_
       refine g_step rfl rfl rfl rfl (e_eq rfl rfl) trivial ?_
       refine g_step rfl rfl rfl rfl (e_pickT (v := .sc _) rfl rfl) trivial ?_
       refine g_step rfl rfl rfl rfl (e_move (v := .sc _) rfl) trivial ?_
       refine g_cases (fun hb23 => ?_) (fun hb23 => ?_)
       ·have hb23R := hb23; try simp only [z1, z2, z3, z4, z5, z6, ne_eq, z7, z8, z9, z10, z11, z12] at hb23
        refine g_step rfl rfl rfl rfl (e_move (v := .lit _ _ _) rfl) trivial ?_
        refine g_step rfl rfl rfl rfl (e_len rfl (by kernel_rfl)) trivial ?_
        refine g_step rfl rfl rfl rfl (e_eq rfl rfl) trivial ?_
        refine g_step rfl rfl rfl rfl (e_pickT (v := .sc _) rfl rfl) trivial ?_
        refine g_step rfl rfl rfl rfl (e_move (v := .sc _) rfl) trivial ?_
        refine g_cases (fun hb24 => ?_) (fun hb24 => ?_)
        ·have hb24R := hb24; try simp only [z1, z2, z3, z4, z5, z6, ne_eq, z7, z8, z9, z10, z11, z12] at hb24
         refine g_step rfl rfl rfl rfl (e_move (v := .sc _) rfl) trivial ?_
         refine g_step rfl rfl rfl rfl (e_not rfl) trivial ?_
         refine g_step rfl rfl rfl rfl (e_pickT (v := .sc _) rfl rfl) trivial ?_
         refine g_step rfl rfl rfl rfl (e_assign (v := .sc _) rfl) trivial ?_
         refine g_end (ds := [45, 46, 47, 50, 51, 52, 55, 56]) rfl rfl (hK21 _ ?_); clear hK21 K21
         refine pwp_ret ?_
         refine ret_seq ?_
         refine end1 (v := .sc _) rfl ?_
         first
           | exact out_b rfl
           | exact out_b (by first | (rw [hr1, hr2] at *; simp_all; done) | fail)
           | exact out_b (by first | (rw [hr2] at *; simp_all; done) | fail)
           | exact out_b (by first | (have q := ‹(closedX xs ds).1 = false›; replace q := (congrArg Prod.fst hr2).symm.trans q; have e1 := congrArg Prod.fst (ready_c hw0 q); have e2 := congrArg Prod.snd (ready_c hw0 q); dsimp only at e1 e2; simp_all; done) | fail)
           | exact out_b (by first | (have q := ‹(closedX xs ds).1 = true›; replace q := (congrArg Prod.fst hr2).symm.trans q; have e1 := congrArg Prod.fst (ready_0 hw0 q); have e2 := congrArg Prod.snd (ready_0 hw0 q); dsimp only at e1 e2; simp_all; done) | fail)
        ·have hb24R := hb24; try simp only [z1, z2, z3, z4, z5, z6, ne_eq, z7, z8, z9, z10, z11, z12] at hb24
         refine g_skip rfl rfl rfl ?_
         refine g_skip rfl rfl rfl ?_
         refine g_step rfl rfl rfl rfl (e_pickF (v := .sc _) rfl rfl) trivial ?_
         refine g_step rfl rfl rfl rfl (e_assign (v := .sc _) rfl) trivial ?_
         refine g_end (ds := [45, 46, 47, 50, 51, 52, 55, 56]) rfl rfl (hK21 _ ?_); clear hK21 K21
         refine pwp_ret ?_
         refine ret_seq ?_
         refine end1 (v := .sc _) rfl ?_
         first
           | exact out_b rfl
           | exact out_b (by first | (rw [hr1, hr2] at *; simp_all; done) | fail)
           | exact out_b (by first | (rw [hr2] at *; simp_all; done) | fail)
           | exact out_b (by first | (have q := ‹(closedX xs ds).1 = false›; replace q := (congrArg Prod.fst hr2).symm.trans q; have e1 := congrArg Prod.fst (ready_c hw0 q); have e2 := congrArg Prod.snd (ready_c hw0 q); dsimp only at e1 e2; simp_all; done) | fail)
           | exact out_b (by first | (have q := ‹(closedX xs ds).1 = true›; replace q := (congrArg Prod.fst hr2).symm.trans q; have e1 := congrArg Prod.fst (ready_0 hw0 q); have e2 := congrArg Prod.snd (ready_0 hw0 q); dsimp only at e1 e2; simp_all; done) | fail)
       ·have hb23R := hb23; try simp only [z1, z2, z3, z4, z5, z6, ne_eq, z7, z8, z9, z10, z11, z12] at hb23
        refine g_skip rfl rfl rfl ?_
        refine g_skip rfl rfl rfl ?_
        refine g_skip rfl rfl rfl ?_
        refine g_step rfl rfl rfl rfl (e_pickF (v := .sc _) rfl rfl) trivial ?_
        refine g_step rfl rfl rfl rfl (e_move (v := .sc _) rfl) trivial ?_
        refine g_skip rfl rfl rfl ?_
        refine g_skip rfl rfl rfl ?_
        refine g_step rfl rfl rfl rfl (e_pickF (v := .sc _) rfl rfl) trivial ?_
        refine g_step rfl rfl rfl rfl (e_assign (v := .sc _) rfl) trivial ?_
        refine g_end (ds := [45, 46, 47, 50, 51, 52, 55, 56]) rfl rfl (hK21 _ ?_); clear hK21 K21
        refine pwp_ret ?_
        refine ret_seq ?_
        refine end1 (v := .sc _) rfl ?_
        first
          | exact out_b rfl
          | exact out_b (by first | (rw [hr1, hr2] at *; simp_all; done) | fail)
          | exact out_b (by first | (rw [hr2] at *; simp_all; done) | fail)
          | exact out_b (by first | (have q := ‹(closedX xs ds).1 = false›; replace q := (congrArg Prod.fst hr2).symm.trans q; have e1 := congrArg Prod.fst (ready_c hw0 q); have e2 := congrArg Prod.snd (ready_c hw0 q); dsimp only at e1 e2; simp_all; done) | fail)
          | exact out_b (by first | (have q := ‹(closedX xs ds).1 = true›; replace q := (congrArg Prod.fst hr2).symm.trans q; have e1 := congrArg Prod.fst (ready_0 hw0 q); have e2 := congrArg Prod.snd (ready_0 hw0 q); dsimp only at e1 e2; simp_all; done) | fail)
      ·have hb22R := hb22; try simp only [z1, z2, z3, z4, z5, z6, ne_eq, z7, z8, z9, z10, z11, z12] at hb22
       refine g_skip rfl rfl rfl ?_
       refine g_skip rfl rfl rfl ?_
       refine g_skip rfl rfl rfl ?_
       refine g_step rfl rfl rfl rfl (e_pickF (v := .sc _) rfl rfl) trivial ?_
       refine g_step rfl rfl rfl rfl (e_move (v := .sc _) rfl) trivial ?_
       refine g_skip rfl rfl rfl ?_
       refine g_skip rfl rfl rfl ?_
       refine g_skip rfl rfl rfl ?_
       refine g_step rfl rfl rfl rfl (e_pickF (v := .sc _) rfl rfl) trivial ?_
       refine g_step rfl rfl rfl rfl (e_move (v := .sc _) rfl) trivial ?_
       refine g_skip rfl rfl rfl ?_
       refine g_skip rfl rfl rfl ?_
       refine g_step rfl rfl rfl rfl (e_pickF (v := .sc _) rfl rfl) trivial ?_
       refine g_step rfl rfl rfl rfl (e_assign (v := .sc _) rfl) trivial ?_
       refine g_end (ds := [45, 46, 47, 50, 51, 52, 55, 56]) rfl rfl (hK21 _ ?_); clear hK21 K21
       refine pwp_ret ?_
       refine ret_seq ?_
       refine end1 (v := .sc _) rfl ?_
       first
         | exact out_b rfl
         | exact out_b (by first | (rw [hr1, hr2] at *; simp_all; done) | fail)
         | exact out_b (by first | (rw [hr2] at *; simp_all; done) | fail)
         | exact out_b (by first | (have q := ‹(closedX xs ds).1 = false›; replace q := (congrArg Prod.fst hr2).symm.trans q; have e1 := congrArg Prod.fst (ready_c hw0 q); have e2 := congrArg Prod.snd (ready_c hw0 q); dsimp only at e1 e2; simp_all; done) | fail)
         | exact out_b (by first | (have q := ‹(closedX xs ds).1 = true›; replace q := (congrArg Prod.fst hr2).symm.trans q; have e1 := congrArg Prod.fst (ready_0 hw0 q); have e2 := congrArg Prod.snd (ready_0 hw0 q); dsimp only at e1 e2; simp_all; done) | fail)
     ·have hb20R := hb20; try simp only [z1, z2, z3, z4, z5, z6, ne_eq, z7, z8, z9, z10, z11, z12] at hb20
      refine pwp_skip ?_
      refine seq_norm (hK19 _ ?_); clear hK19 K19
      refine pwp_seq_seq ?_
      have hw0 : withE xs ds = 0 := by first | (rw [← with_l (by assumption)]; assumption) | exact absurd ‹planE xs = 0› ‹¬ planE xs = 0›
      have hk := withE_ok hw0
      have hr2 := closedX_0 hw0
      refine pwp_seq_gops rfl fun K25 hK25 => ?_
      refine g_begin ?_
      refine g_step rfl rfl rfl rfl (e_move (v := .sc _) rfl) trivial ?_
      refine g_step rfl rfl rfl rfl (e_ne rfl rfl) trivial ?_
      refine g_step rfl rfl rfl rfl (e_move (v := .sc _) rfl) trivial ?_
      refine g_cases (fun hb26 => ?_) (fun hb26 => ?_)
      ·have hb26R := hb26; try simp only [z1, z2, z3, z4, z5, z6, ne_eq, z7, z8, z9, z10, z11, z12] at hb26
       refine g_skip rfl rfl rfl ?_
       refine g_skip rfl rfl rfl ?_
       refine g_skip rfl rfl rfl ?_
       refine g_nocall rfl rfl rfl ?_
       refine g_skip rfl rfl rfl ?_
       refine g_step rfl rfl rfl rfl (e_pickT (v := .sc _) rfl rfl) trivial ?_
       refine g_end (ds := [61, 62, 63, 64, 65]) rfl rfl (hK25 _ ?_); clear hK25 K25
       refine pwp_seq_cond (t := true) rfl fun K27 hK27 => ⟨fun _ => ?_, nofun⟩
       refine pwp_seq_plain rfl fun K28 hK28 => ?_
       refine p_step rfl (e_assign (v := .sc _) rfl) trivial ?_
       refine p_end (hK28 _ ?_); clear hK28 K28
       refine pwp_ret ?_
       refine ret_seq ?_
       refine end1 (v := .sc _) rfl ?_
       first
         | exact out_b rfl
         | exact out_b (by first | (rw [hr1, hr2] at *; simp_all; done) | fail)
         | exact out_b (by first | (rw [hr2] at *; simp_all; done) | fail)
         | exact out_b (by first | (have q := ‹(closedX xs ds).1 = false›; replace q := (congrArg Prod.fst hr2).symm.trans q; have e1 := congrArg Prod.fst (ready_c hw0 q); have e2 := congrArg Prod.snd (ready_c hw0 q); dsimp only at e1 e2; simp_all; done) | fail)
         | exact out_b (by first | (have q := ‹(closedX xs ds).1 = true›; replace q := (congrArg Prod.fst hr2).symm.trans q; have e1 := congrArg Prod.fst (ready_0 hw0 q); have e2 := congrArg Prod.snd (ready_0 hw0 q); dsimp only at e1 e2; simp_all; done) | fail)
      ·have hb26R := hb26; try simp only [z1, z2, z3, z4, z5, z6, ne_eq, z7, z8, z9, z10, z11, z12] at hb26
       refine g_step rfl rfl rfl rfl (e_move (v := .sc _) rfl) trivial ?_
       refine g_step rfl rfl rfl rfl (e_move (v := .lit _ _ _) rfl) trivial ?_
       refine g_step rfl rfl rfl rfl (e_move (v := .lit _ _ _) rfl) trivial ?_
       refine g_call rfl rfl rfl rfl (.cons inn_lit (.cons inn_lit .nil)) (refClosedC _ _ hk.1 hfw.2 (by omega) (by simp only [List.length_map] at *; omega) hk.2.1) ?_
       refine g_step rfl rfl rfl rfl (e_bne rfl rfl (by kernel_rfl)) trivial ?_
       refine g_step rfl rfl rfl rfl (e_pickF (v := .sc _) rfl rfl) trivial ?_
       refine g_end (ds := [61, 62, 63, 64, 65]) rfl rfl (hK25 _ ?_); clear hK25 K25
       refine pwp_seq_cond rfl fun K29 hK29 => ⟨fun hb30 => ?_, fun hb30 => ?_⟩
       ·have hb30R := hb30; try simp only [z1, z2, z3, z4, z5, z6, ne_eq, z7, z8, z9, z10, z11, z12] at hb30
        refine pwp_seq_plain rfl fun K31 hK31 => ?_
        refine p_step rfl (e_assign (v := .sc _) rfl) trivial ?_
        refine p_end (hK31 _ ?_); clear hK31 K31
        refine pwp_ret ?_
        refine ret_seq ?_
        refine end1 (v := .sc _) rfl ?_
        first
          | exact out_b rfl
          | exact out_b (by first | (rw [hr1, hr2] at *; simp_all; done) | fail)
          | exact out_b (by first | (rw [hr2] at *; simp_all; done) | fail)
          | exact out_b (by first | (have q := ‹(closedX xs ds).1 = false›; replace q := (congrArg Prod.fst hr2).symm.trans q; have e1 := congrArg Prod.fst (ready_c hw0 q); have e2 := congrArg Prod.snd (ready_c hw0 q); dsimp only at e1 e2; simp_all; done) | fail)
          | exact out_b (by first | (have q := ‹(closedX xs ds).1 = true›; replace q := (congrArg Prod.fst hr2).symm.trans q; have e1 := congrArg Prod.fst (ready_0 hw0 q); have e2 := congrArg Prod.snd (ready_0 hw0 q); dsimp only at e1 e2; simp_all; done) | fail)
       ·have hb30R := hb30; try simp only [z1, z2, z3, z4, z5, z6, ne_eq, z7, z8, z9, z10, z11, z12] at hb30
        refine pwp_skip ?_
        refine seq_norm (hK29 _ ?_); clear hK29 K29
        refine pwp_seq_seq ?_
        refine pwp_seq_plain rfl fun K32 hK32 => ?_
        refine p_step rfl (e_move (v := .sc _) rfl) trivial ?_
        refine p_step rfl (e_not rfl) trivial ?_
        refine p_end (hK32 _ ?_); clear hK32 K32
        refine pwp_seq_cond rfl fun K33 hK33 => ⟨fun hb34 => ?_, fun hb34 => ?_⟩
        ·have hb34R := hb34; try simp only [z1, z2, z3, z4, z5, z6, ne_eq, z7, z8, z9, z10, z11, z12] at hb34
         refine pwp_seq_gops rfl fun K35 hK35 => ?_
         refine g_begin ?_
         refine g_step rfl rfl rfl rfl (e_move (v := .sc _) rfl) trivial ?_
         refine g_step rfl rfl rfl rfl (e_eq rfl rfl) trivial ?_
         refine g_step rfl rfl rfl rfl (e_move (v := .sc _) rfl) trivial ?_
         refine g_cases (fun hb36 => ?_) (fun hb36 => ?_)
         ·have hb36R := hb36; try simp only [z1, z2, z3, z4, z5, z6, ne_eq, z7, z8, z9, z10, z11, z12] at hb36
          refine g_step rfl rfl rfl rfl (e_move (v := .lit _ _ _) rfl) trivial ?_
          refine g_step rfl rfl rfl rfl (e_len rfl (by kernel_rfl)) trivial ?_
          refine g_step rfl rfl rfl rfl (e_eq rfl rfl) trivial ?_
          refine g_step rfl rfl rfl rfl (e_pickT (v := .sc _) rfl rfl) trivial ?_
          refine g_step rfl rfl rfl rfl (e_assign (v := .sc _) rfl) trivial ?_
          refine g_end (ds := [72, 73, 74]) rfl rfl (hK35 _ ?_); clear hK35 K35
          refine pwp_ret ?_
          refine ret_seq ?_
          refine end1 (v := .sc _) rfl ?_
          first
            | exact out_b rfl
            | exact out_b (by first | (rw [hr1, hr2] at *; simp_all; done) | fail)
            | exact out_b (by first | (rw [hr2] at *; simp_all; done) | fail)
            | exact out_b (by first | (have q := ‹(closedX xs ds).1 = false›; replace q := (congrArg Prod.fst hr2).symm.trans q; have e1 := congrArg Prod.fst (ready_c hw0 q); have e2 := congrArg Prod.snd (ready_c hw0 q); dsimp only at e1 e2; simp_all; done) | fail)
            | exact out_b (by first | (have q := ‹(closedX xs ds).1 = true›; replace q := (congrArg Prod.fst hr2).symm.trans q; have e1 := congrArg Prod.fst (ready_0 hw0 q); have e2 := congrArg Prod.snd (ready_0 hw0 q); dsimp only at e1 e2; simp_all; done) | fail)
         ·have hb36R := hb36; try simp only [z1, z2, z3, z4, z5, z6, ne_eq, z7, z8, z9, z10, z11, z12] at hb36
          refine g_skip rfl rfl rfl ?_
          refine g_skip rfl rfl rfl ?_
          refine g_skip rfl rfl rfl ?_
          refine g_step rfl rfl rfl rfl (e_pickF (v := .sc _) rfl rfl) trivial ?_
          refine g_step rfl rfl rfl rfl (e_assign (v := .sc _) rfl) trivial ?_
          refine g_end (ds := [72, 73, 74]) rfl rfl (hK35 _ ?_); clear hK35 K35
          refine pwp_ret ?_
          refine ret_seq ?_
          refine end1 (v := .sc _) rfl ?_
          first
            | exact out_b rfl
            | exact out_b (by first | (rw [hr1, hr2] at *; simp_all; done) | fail)
            | exact out_b (by first | (rw [hr2] at *; simp_all; done) | fail)
            | exact out_b (by first | (have q := ‹(closedX xs ds).1 = false›; replace q := (congrArg Prod.fst hr2).symm.trans q; have e1 := congrArg Prod.fst (ready_c hw0 q); have e2 := congrArg Prod.snd (ready_c hw0 q); dsimp only at e1 e2; simp_all; done) | fail)
            | exact out_b (by first | (have q := ‹(closedX xs ds).1 = true›; replace q := (congrArg Prod.fst hr2).symm.trans q; have e1 := congrArg Prod.fst (ready_0 hw0 q); have e2 := congrArg Prod.snd (ready_0 hw0 q); dsimp only at e1 e2; simp_all; done) | fail)
        ·have hb34R := hb34; try simp only [z1, z2, z3, z4, z5, z6, ne_eq, z7, z8, z9, z10, z11, z12] at hb34
         refine pwp_skip ?_
         refine seq_norm (hK33 _ ?_); clear hK33 K33
         refine pwp_seq_gops rfl fun K37 hK37 => ?_
         refine g_begin ?_
         refine g_step rfl rfl rfl rfl (e_move (v := .sc _) rfl) trivial ?_
         refine g_step rfl rfl rfl rfl (e_eq rfl rfl) trivial ?_
         refine g_step rfl rfl rfl rfl (e_move (v := .sc _) rfl) trivial ?_
         refine g_cases (fun hb38 => ?_) (fun hb38 => ?_)
         ·have hb38R := hb38; try simp only [z1, z2, z3, z4, z5, z6, ne_eq, z7, z8, z9, z10, z11, z12] at hb38
          refine g_step rfl rfl rfl rfl (e_move (v := .lit _ _ _) rfl) trivial ?_
          refine g_step rfl rfl rfl rfl (e_move (v := .lit _ _ _) rfl) trivial ?_
          refine g_step rfl rfl rfl rfl (e_move (v := .lit _ _ _) rfl) trivial ?_
          refine g_call rfl rfl rfl rfl (.cons inn_lit (.cons inn_lit .nil)) (refReadyC _ _ hk.1 hfw.2 (by omega) (by simp only [List.length_map] at *; omega) hk.2.1) ?_
          refine g_call rfl rfl rfl rfl (.cons inn_lit (.cons inn_lit .nil)) (IntsC _ _ (ready_len hfw.1)) ?_
          refine g_step rfl rfl rfl rfl (e_pickT (v := .sc _) rfl rfl) trivial ?_
          refine g_step rfl rfl rfl rfl (e_assign (v := .sc _) rfl) trivial ?_
          refine g_end (ds := [79, 80, 81, 82, 83]) rfl rfl (hK37 _ ?_); clear hK37 K37
          refine pwp_ret ?_
          refine end1 (v := .sc _) rfl ?_
          first
            | exact out_b rfl
            | exact out_b (by first | (rw [hr1, hr2] at *; simp_all; done) | fail)
            | exact out_b (by first | (rw [hr2] at *; simp_all; done) | fail)
            | exact out_b (by first | (have q := ‹(closedX xs ds).1 = false›; replace q := (congrArg Prod.fst hr2).symm.trans q; have e1 := congrArg Prod.fst (ready_c hw0 q); have e2 := congrArg Prod.snd (ready_c hw0 q); dsimp only at e1 e2; simp_all; done) | fail)
            | exact out_b (by first | (have q := ‹(closedX xs ds).1 = true›; replace q := (congrArg Prod.fst hr2).symm.trans q; have e1 := congrArg Prod.fst (ready_0 hw0 q); have e2 := congrArg Prod.snd (ready_0 hw0 q); dsimp only at e1 e2; simp_all; done) | fail)
         ·have hb38R := hb38; try simp only [z1, z2, z3, z4, z5, z6, ne_eq, z7, z8, z9, z10, z11, z12] at hb38
          refine g_skip rfl rfl rfl ?_
          refine g_skip rfl rfl rfl ?_
          refine g_skip rfl rfl rfl ?_
          refine g_nocall rfl rfl rfl ?_
          refine g_nocall rfl rfl rfl ?_
          refine g_step rfl rfl rfl rfl (e_pickF (v := .sc _) rfl rfl) trivial ?_
          refine g_step rfl rfl rfl rfl (e_assign (v := .sc _) rfl) trivial ?_
          refine g_end (ds := [79, 80, 81, 82, 83]) rfl rfl (hK37 _ ?_); clear hK37 K37
          refine pwp_ret ?_
          refine end1 (v := .sc _) rfl ?_
          first
            | exact out_b rfl
            | exact out_b (by first | (rw [hr1, hr2] at *; simp_all; done) | fail)
            | exact out_b (by first | (rw [hr2] at *; simp_all; done) | fail)
            | exact out_b (by first | (have q := ‹(closedX xs ds).1 = false›; replace q := (congrArg Prod.fst hr2).symm.trans q; have e1 := congrArg Prod.fst (ready_c hw0 q); have e2 := congrArg Prod.snd (ready_c hw0 q); dsimp only at e1 e2; simp_all; done) | fail)
            | exact out_b (by first | (have q := ‹(closedX xs ds).1 = true›; replace q := (congrArg Prod.fst hr2).symm.trans q; have e1 := congrArg Prod.fst (ready_0 hw0 q); have e2 := congrArg Prod.snd (ready_0 hw0 q); dsimp only at e1 e2; simp_all; done) | fail)
    ·have hb16R := hb16; try simp only [z1, z2, z3, z4, z5, z6, ne_eq, z7, z8, z9, z10, z11, z12] at hb16
     refine pwp_skip ?_
     refine seq_norm (hK15 _ ?_); clear hK15 K15
     refine pwp_seq_seq ?_
     refine pwp_seq_plain rfl fun K39 hK39 => ?_
     refine p_step rfl (e_move (v := .sc _) rfl) trivial ?_
     refine p_step rfl (e_ne rfl rfl) trivial ?_
     refine p_end (hK39 _ ?_); clear hK39 K39
     refine pwp_seq_cond rfl fun K40 hK40 => ⟨fun hb41 => ?_, fun hb41 => ?_⟩
     ·have hb41R := hb41; try simp only [z1, z2, z3, z4, z5, z6, ne_eq, z7, z8, z9, z10, z11, z12] at hb41
      have hwe : withE xs ds = (planE xs) := by first | exact (with_p (by assumption)).symm | exact (with_l (by assumption)).symm
      have hw : withE xs ds ≠ 0 := by rw [hwe]; assumption
      have hr1 := ready_w hw; have hr2 := closedX_w hw
      refine pwp_seq_gops rfl fun K42 hK42 => ?_
      refine g_begin ?_
      refine g_step rfl rfl rfl rfl (e_move (v := .sc _) rfl) trivial ?_
      refine g_step rfl rfl rfl rfl (e_move (v := .sc _) rfl) trivial ?_
      refine g_step rfl rfl rfl rfl (e_eq rfl rfl) trivial ?_
      refine g_step rfl rfl rfl rfl (e_move (v := .sc _) rfl) trivial ?_
      refine g_cases (fun hb43 => ?_) (fun hb43 => ?_)
      ·have hb43R := hb43; try simp only [z1, z2, z3, z4, z5, z6, ne_eq, z7, z8, z9, z10, z11, z12] at hb43
       refine g_step rfl rfl rfl rfl (e_move (v := .sc _) rfl) trivial ?_
       refine g_step rfl rfl rfl rfl (e_move (v := .sc _) rfl) trivial ?_
       refine g_step rfl rfl rfl rfl (e_eq rfl rfl) trivial ?_
       refine g_step rfl rfl rfl rfl (e_pickT (v := .sc _) rfl rfl) trivial ?_
       refine g_step rfl rfl rfl rfl (e_move (v := .sc _) rfl) trivial ?_
       refine g_cases (fun hb44 => ?_) (fun hb44 => ?_)
       ·have hb44R := hb44; try simp only [z1, z2, z3, z4, z5, z6, ne_eq, z7, z8, z9, z10, z11, z12] at hb44
        refine g_step rfl rfl rfl rfl (e_move (v := .lit _ _ _) rfl) trivial ?_
        refine g_step rfl rfl rfl rfl (e_len rfl (by kernel_rfl)) trivial ?_
        refine g_step rfl rfl rfl rfl (e_eq rfl rfl) trivial ?_
        refine g_step rfl rfl rfl rfl (e_pickT (v := .sc _) rfl rfl) trivial ?_
        refine g_step rfl rfl rfl rfl (e_move (v := .sc _) rfl) trivial ?_
        refine g_cases (fun hb45 => ?_) (fun hb45 => ?_)
        ·have hb45R := hb45; try simp only [z1, z2, z3, z4, z5, z6, ne_eq, z7, z8, z9, z10, z11, z12] at hb45
         refine g_step rfl rfl rfl rfl (e_move (v := .sc _) rfl) trivial ?_
         refine g_step rfl rfl rfl rfl (e_not rfl) trivial ?_
         refine g_step rfl rfl rfl rfl (e_pickT (v := .sc _) rfl rfl) trivial ?_
         refine g_step rfl rfl rfl rfl (e_assign (v := .sc _) rfl) trivial ?_
         refine g_end (ds := [45, 46, 47, 50, 51, 52, 55, 56]) rfl rfl (hK42 _ ?_); clear hK42 K42
         refine pwp_ret ?_
         refine ret_seq ?_
         refine end1 (v := .sc _) rfl ?_
         first
           | exact out_b rfl
           | exact out_b (by first | (rw [hr1, hr2] at *; simp_all; done) | fail)
           | exact out_b (by first | (rw [hr2] at *; simp_all; done) | fail)
           | exact out_b (by first | (have q := ‹(closedX xs ds).1 = false›; replace q := (congrArg Prod.fst hr2).symm.trans q; have e1 := congrArg Prod.fst (ready_c hw0 q); have e2 := congrArg Prod.snd (ready_c hw0 q); dsimp only at e1 e2; simp_all; done) | fail)
           | exact out_b (by first | (have q := ‹(closedX xs ds).1 = true›; replace q := (congrArg Prod.fst hr2).symm.trans q; have e1 := congrArg Prod.fst (ready_0 hw0 q); have e2 := congrArg Prod.snd (ready_0 hw0 q); dsimp only at e1 e2; simp_all; done) | fail)
        ·have hb45R := hb45; try simp only [z1, z2, z3, z4, z5, z6, ne_eq, z7, z8, z9, z10, z11, z12] at hb45
         refine g_skip rfl rfl rfl ?_
         refine g_skip rfl rfl rfl ?_
         refine g_step rfl rfl rfl rfl (e_pickF (v := .sc _) rfl rfl) trivial ?_
         refine g_step rfl rfl rfl rfl (e_assign (v := .sc _) rfl) trivial ?_
         refine g_end (ds := [45, 46, 47, 50, 51, 52, 55, 56]) rfl rfl (hK42 _ ?_); clear hK42 K42
         refine pwp_ret ?_
         refine ret_seq ?_
         refine end1 (v := .sc _) rfl ?_
         first
           | exact out_b rfl
           | exact out_b (by first | (rw [hr1, hr2] at *; simp_all; done) | fail)
           | exact out_b (by first | (rw [hr2] at *; simp_all; done) | fail)
           | exact out_b (by first | (have q := ‹(closedX xs ds).1 = false›; replace q := (congrArg Prod.fst hr2).symm.trans q; have e1 := congrArg Prod.fst (ready_c hw0 q); have e2 := congrArg Prod.snd (ready_c hw0 q); dsimp only at e1 e2; simp_all; done) | fail)
           | exact out_b (by first | (have q := ‹(closedX xs ds).1 = true›; replace q := (congrArg Prod.fst hr2).symm.trans q; have e1 := congrArg Prod.fst (ready_0 hw0 q); have e2 := congrArg Prod.snd (ready_0 hw0 q); dsimp only at e1 e2; simp_all; done) | fail)
       ·have hb44R := hb44; try simp only [z1, z2, z3, z4, z5, z6, ne_eq, z7, z8, z9, z10, z11, z12] at hb44
        refine g_skip rfl rfl rfl ?_
        refine g_skip rfl rfl rfl ?_
        refine g_skip rfl rfl rfl ?_
        refine g_step rfl rfl rfl rfl (e_pickF (v := .sc _) rfl rfl) trivial ?_
        refine g_step rfl rfl rfl rfl (e_move (v := .sc _) rfl) trivial ?_
        refine g_skip rfl rfl rfl ?_
        refine g_skip rfl rfl rfl ?_
        refine g_step rfl rfl rfl rfl (e_pickF (v := .sc _) rfl rfl) trivial ?_
        refine g_step rfl rfl rfl rfl (e_assign (v := .sc _) rfl) trivial ?_
        refine g_end (ds := [45, 46, 47, 50, 51, 52, 55, 56]) rfl rfl (hK42 _ ?_); clear hK42 K42
        refine pwp_ret ?_
        refine ret_seq ?_
        refine end1 (v := .sc _) rfl ?_
        first
          | exact out_b rfl
          | exact out_b (by first | (rw [hr1, hr2] at *; simp_all; done) | fail)
          | exact out_b (by first | (rw [hr2] at *; simp_all; done) | fail)
          | exact out_b (by first | (have q := ‹(closedX xs ds).1 = false›; replace q := (congrArg Prod.fst hr2).symm.trans q; have e1 := congrArg Prod.fst (ready_c hw0 q); have e2 := congrArg Prod.snd (ready_c hw0 q); dsimp only at e1 e2; simp_all; done) | fail)
          | exact out_b (by first | (have q := ‹(closedX xs ds).1 = true›; replace q := (congrArg Prod.fst hr2).symm.trans q; have e1 := congrArg Prod.fst (ready_0 hw0 q); have e2 := congrArg Prod.snd (ready_0 hw0 q); dsimp only at e1 e2; simp_all; done) | fail)
      ·have hb43R := hb43; try simp only [z1, z2, z3, z4, z5, z6, ne_eq, z7, z8, z9, z10, z11, z12] at hb43
       refine g_skip rfl rfl rfl ?_
       refine g_skip rfl rfl rfl ?_
       refine g_skip rfl rfl rfl ?_
       refine g_step rfl rfl rfl rfl (e_pickF (v := .sc _) rfl rfl) trivial ?_
       refine g_step rfl rfl rfl rfl (e_move (v := .sc _) rfl) trivial ?_
       refine g_skip rfl rfl rfl ?_
       refine g_skip rfl rfl rfl ?_
       refine g_skip rfl rfl rfl ?_
       refine g_step rfl rfl rfl rfl (e_pickF (v := .sc _) rfl rfl) trivial ?_
       refine g_step rfl rfl rfl rfl (e_move (v := .sc _) rfl) trivial ?_
       refine g_skip rfl rfl rfl ?_
       refine g_skip rfl rfl rfl ?_
       refine g_step rfl rfl rfl rfl (e_pickF (v := .sc _) rfl rfl) trivial ?_
       refine g_step rfl rfl rfl rfl (e_assign (v := .sc _) rfl) trivial ?_
       refine g_end (ds := [45, 46, 47, 50, 51, 52, 55, 56]) rfl rfl (hK42 _ ?_); clear hK42 K42
       refine pwp_ret ?_
       refine ret_seq ?_
       refine end1 (v := .sc _) rfl ?_
       first
         | exact out_b rfl
         | exact out_b (by first | (rw [hr1, hr2] at *; simp_all; done) | fail)
         | exact out_b (by first | (rw [hr2] at *; simp_all; done) | fail)
         | exact out_b (by first | (have q := ‹(closedX xs ds).1 = false›; replace q := (congrArg Prod.fst hr2).symm.trans q; have e1 := congrArg Prod.fst (ready_c hw0 q); have e2 := congrArg Prod.snd (ready_c hw0 q); dsimp only at e1 e2; simp_all; done) | fail)
         | exact out_b (by first | (have q := ‹(closedX xs ds).1 = true›; replace q := (congrArg Prod.fst hr2).symm.trans q; have e1 := congrArg Prod.fst (ready_0 hw0 q); have e2 := congrArg Prod.snd (ready_0 hw0 q); dsimp only at e1 e2; simp_all; done) | fail)
     ·have hb41R := hb41; try simp only [z1, z2, z3, z4, z5, z6, ne_eq, z7, z8, z9, z10, z11, z12] at hb41
      refine pwp_skip ?_
      refine seq_norm (hK40 _ ?_); clear hK40 K40
      refine pwp_seq_seq ?_
      have hw0 : withE xs ds = 0 := by first | (rw [← with_l (by assumption)]; assumption) | exact absurd ‹planE xs = 0› ‹¬ planE xs = 0›
      have hk := withE_ok hw0
      have hr2 := closedX_0 hw0
      refine pwp_seq_gops rfl fun K46 hK46 => ?_
      refine g_begin ?_
      refine g_step rfl rfl rfl rfl (e_move (v := .sc _) rfl) trivial ?_
      refine g_step rfl rfl rfl rfl (e_ne rfl rfl) trivial ?_
      refine g_step rfl rfl rfl rfl (e_move (v := .sc _) rfl) trivial ?_
      refine g_cases (fun hb47 => ?_) (fun hb47 => ?_)
      ·have hb47R := hb47; try simp only [z1, z2, z3, z4, z5, z6, ne_eq, z7, z8, z9, z10, z11, z12] at hb47
       refine g_skip rfl rfl rfl ?_
       refine g_skip rfl rfl rfl ?_
       refine g_skip rfl rfl rfl ?_
       refine g_nocall rfl rfl rfl ?_
       refine g_skip rfl rfl rfl ?_
       refine g_step rfl rfl rfl rfl (e_pickT (v := .sc _) rfl rfl) trivial ?_
       refine g_end (ds := [61, 62, 63, 64, 65]) rfl rfl (hK46 _ ?_); clear hK46 K46
       refine pwp_seq_cond (t := true) rfl fun K48 hK48 => ⟨fun _ => ?_, nofun⟩
       refine pwp_seq_plain rfl fun K49 hK49 => ?_
       refine p_step rfl (e_assign (v := .sc _) rfl) trivial ?_
       refine p_end (hK49 _ ?_); clear hK49 K49
       refine pwp_ret ?_
       refine ret_seq ?_
       refine end1 (v := .sc _) rfl ?_
       first
         | exact out_b rfl
         | exact out_b (by first | (rw [hr1, hr2] at *; simp_all; done) | fail)
         | exact out_b (by first | (rw [hr2] at *; simp_all; done) | fail)
         | exact out_b (by first | (have q := ‹(closedX xs ds).1 = false›; replace q := (congrArg Prod.fst hr2).symm.trans q; have e1 := congrArg Prod.fst (ready_c hw0 q); have e2 := congrArg Prod.snd (ready_c hw0 q); dsimp only at e1 e2; simp_all; done) | fail)
         | exact out_b (by first | (have q := ‹(closedX xs ds).1 = true›; replace q := (congrArg Prod.fst hr2).symm.trans q; have e1 := congrArg Prod.fst (ready_0 hw0 q); have e2 := congrArg Prod.snd (ready_0 hw0 q); dsimp only at e1 e2; simp_all; done) | fail)
      ·have hb47R := hb47; try simp only [z1, z2, z3, z4, z5, z6, ne_eq, z7, z8, z9, z10, z11, z12] at hb47
       refine g_step rfl rfl rfl rfl (e_move (v := .sc _) rfl) trivial ?_
       refine g_step rfl rfl rfl rfl (e_move (v := .lit _ _ _) rfl) trivial ?_
       refine g_step rfl rfl rfl rfl (e_move (v := .lit _ _ _) rfl) trivial ?_
       refine g_call rfl rfl rfl rfl (.cons inn_lit (.cons inn_lit .nil)) (refClosedC _ _ hk.1 hfw.2 (by omega) (by simp only [List.length_map] at *; omega) hk.2.1) ?_
       refine g_step rfl rfl rfl rfl (e_bne rfl rfl (by kernel_rfl)) trivial ?_
       refine g_step rfl rfl rfl rfl (e_pickF (v := .sc _) rfl rfl) trivial ?_
       refine g_end (ds := [61, 62, 63, 64, 65]) rfl rfl (hK46 _ ?_); clear hK46 K46
       refine pwp_seq_cond rfl fun K50 hK50 => ⟨fun hb51 => ?_, fun hb51 => ?_⟩
       ·have hb51R := hb51; try simp only [z1, z2, z3, z4, z5, z6, ne_eq, z7, z8, z9, z10, z11, z12] at hb51
        refine pwp_seq_plain rfl fun K52 hK52 => ?_
        refine p_step rfl (e_assign (v := .sc _) rfl) trivial ?_
        refine p_end (hK52 _ ?_); clear hK52 K52
        refine pwp_ret ?_
        refine ret_seq ?_
        refine end1 (v := .sc _) rfl ?_
        first
          | exact out_b rfl
          | exact out_b (by first | (rw [hr1, hr2] at *; simp_all; done) | fail)
          | exact out_b (by first | (rw [hr2] at *; simp_all; done) | fail)
          | exact out_b (by first | (have q := ‹(closedX xs ds).1 = false›; replace q := (congrArg Prod.fst hr2).symm.trans q; have e1 := congrArg Prod.fst (ready_c hw0 q); have e2 := congrArg Prod.snd (ready_c hw0 q); dsimp only at e1 e2; simp_all; done) | fail)
          | exact out_b (by first | (have q := ‹(closedX xs ds).1 = true›; replace q := (congrArg Prod.fst hr2).symm.trans q; have e1 := congrArg Prod.fst (ready_0 hw0 q); have e2 := congrArg Prod.snd (ready_0 hw0 q); dsimp only at e1 e2; simp_all; done) | fail)
       ·have hb51R := hb51; try simp only [z1, z2, z3, z4, z5, z6, ne_eq, z7, z8, z9, z10, z11, z12] at hb51
        refine pwp_skip ?_
        refine seq_norm (hK50 _ ?_); clear hK50 K50
        refine pwp_seq_seq ?_
        refine pwp_seq_plain rfl fun K53 hK53 => ?_
        refine p_step rfl (e_move (v := .sc _) rfl) trivial ?_
        refine p_step rfl (e_not rfl) trivial ?_
        refine p_end (hK53 _ ?_); clear hK53 K53
        refine pwp_seq_cond rfl fun K54 hK54 => ⟨fun hb55 => ?_, fun hb55 => ?_⟩
        ·have hb55R := hb55; try simp only [z1, z2, z3, z4, z5, z6, ne_eq, z7, z8, z9, z10, z11, z12] at hb55
         refine pwp_seq_gops rfl fun K56 hK56 => ?_
         refine g_begin ?_
         refine g_step rfl rfl rfl rfl (e_move (v := .sc _) rfl) trivial ?_
         refine g_step rfl rfl rfl rfl (e_eq rfl rfl) trivial ?_
         refine g_step rfl rfl rfl rfl (e_move (v := .sc _) rfl) trivial ?_
         refine g_cases (fun hb57 => ?_) (fun hb57 => ?_)
         ·have hb57R := hb57; try simp only [z1, z2, z3, z4, z5, z6, ne_eq, z7, z8, z9, z10, z11, z12] at hb57
          refine g_step rfl rfl rfl rfl (e_move (v := .lit _ _ _) rfl) trivial ?_
          refine g_step rfl rfl rfl rfl (e_len rfl (by kernel_rfl)) trivial ?_
          refine g_step rfl rfl rfl rfl (e_eq rfl rfl) trivial ?_
          refine g_step rfl rfl rfl rfl (e_pickT (v := .sc _) rfl rfl) trivial ?_
          refine g_step rfl rfl rfl rfl (e_assign (v := .sc _) rfl) trivial ?_
          refine g_end (ds := [72, 73, 74]) rfl rfl (hK56 _ ?_); clear hK56 K56
          refine pwp_ret ?_
          refine ret_seq ?_
          refine end1 (v := .sc _) rfl ?_
          first
            | exact out_b rfl
            | exact out_b (by first | (rw [hr1, hr2] at *; simp_all; done) | fail)
            | exact out_b (by first | (rw [hr2] at *; simp_all; done) | fail)
            | exact out_b (by first | (have q := ‹(closedX xs ds).1 = false›; replace q := (congrArg Prod.fst hr2).symm.trans q; have e1 := congrArg Prod.fst (ready_c hw0 q); have e2 := congrArg Prod.snd (ready_c hw0 q); dsimp only at e1 e2; simp_all; done) | fail)
            | exact out_b (by first | (have q := ‹(closedX xs ds).1 = true›; replace q := (congrArg Prod.fst hr2).symm.trans q; have e1 := congrArg Prod.fst (ready_0 hw0 q); have e2 := congrArg Prod.snd (ready_0 hw0 q); dsimp only at e1 e2; simp_all; done) | fail)
         ·have hb57R := hb57; try simp only [z1, z2, z3, z4, z5, z6, ne_eq, z7, z8, z9, z10, z11, z12] at hb57
          refine g_skip rfl rfl rfl ?_
          refine g_skip rfl rfl rfl ?_
          refine g_skip rfl rfl rfl ?_
          refine g_step rfl rfl rfl rfl (e_pickF (v := .sc _) rfl rfl) trivial ?_
          refine g_step rfl rfl rfl rfl (e_assign (v := .sc _) rfl) trivial ?_
          refine g_end (ds := [72, 73, 74]) rfl rfl (hK56 _ ?_); clear hK56 K56
          refine pwp_ret ?_
          refine ret_seq ?_
          refine end1 (v := .sc _) rfl ?_
          first
            | exact out_b rfl
            | exact out_b (by first | (rw [hr1, hr2] at *; simp_all; done) | fail)
            | exact out_b (by first | (rw [hr2] at *; simp_all; done) | fail)
            | exact out_b (by first | (have q := ‹(closedX xs ds).1 = false›; replace q := (congrArg Prod.fst hr2).symm.trans q; have e1 := congrArg Prod.fst (ready_c hw0 q); have e2 := congrArg Prod.snd (ready_c hw0 q); dsimp only at e1 e2; simp_all; done) | fail)
            | exact out_b (by first | (have q := ‹(closedX xs ds).1 = true›; replace q := (congrArg Prod.fst hr2).symm.trans q; have e1 := congrArg Prod.fst (ready_0 hw0 q); have e2 := congrArg Prod.snd (ready_0 hw0 q); dsimp only at e1 e2; simp_all; done) | fail)
        ·have hb55R := hb55; try simp only [z1, z2, z3, z4, z5, z6, ne_eq, z7, z8, z9, z10, z11, z12] at hb55
         refine pwp_skip ?_
         refine seq_norm (hK54 _ ?_); clear hK54 K54
         refine pwp_seq_gops rfl fun K58 hK58 => ?_
         refine g_begin ?_
         refine g_step rfl rfl rfl rfl (e_move (v := .sc _) rfl) trivial ?_
         refine g_step rfl rfl rfl rfl (e_eq rfl rfl) trivial ?_
         refine g_step rfl rfl rfl rfl (e_move (v := .sc _) rfl) trivial ?_
         refine g_cases (fun hb59 => ?_) (fun hb59 => ?_)
         ·have hb59R := hb59; try simp only [z1, z2, z3, z4, z5, z6, ne_eq, z7, z8, z9, z10, z11, z12] at hb59
          refine g_step rfl rfl rfl rfl (e_move (v := .lit _ _ _) rfl) trivial ?_
          refine g_step rfl rfl rfl rfl (e_move (v := .lit _ _ _) rfl) trivial ?_
          refine g_step rfl rfl rfl rfl (e_move (v := .lit _ _ _) rfl) trivial ?_
          refine g_call rfl rfl rfl rfl (.cons inn_lit (.cons inn_lit .nil)) (refReadyC _ _ hk.1 hfw.2 (by omega) (by simp only [List.length_map] at *; omega) hk.2.1) ?_
          refine g_call rfl rfl rfl rfl (.cons inn_lit (.cons inn_lit .nil)) (IntsC _ _ (ready_len hfw.1)) ?_
          refine g_step rfl rfl rfl rfl (e_pickT (v := .sc _) rfl rfl) trivial ?_
          refine g_step rfl rfl rfl rfl (e_assign (v := .sc _) rfl) trivial ?_
          refine g_end (ds := [79, 80, 81, 82, 83]) rfl rfl (hK58 _ ?_); clear hK58 K58
          refine pwp_ret ?_
          refine end1 (v := .sc _) rfl ?_
          first
            | exact out_b rfl
            | exact out_b (by first | (rw [hr1, hr2] at *; simp_all; done) | fail)
            | exact out_b (by first | (rw [hr2] at *; simp_all; done) | fail)
            | exact out_b (by first | (have q := ‹(closedX xs ds).1 = false›; replace q := (congrArg Prod.fst hr2).symm.trans q; have e1 := congrArg Prod.fst (ready_c hw0 q); have e2 := congrArg Prod.snd (ready_c hw0 q); dsimp only at e1 e2; simp_all; done) | fail)
            | exact out_b (by first | (have q := ‹(closedX xs ds).1 = true›; replace q := (congrArg Prod.fst hr2).symm.trans q; have e1 := congrArg Prod.fst (ready_0 hw0 q); have e2 := congrArg Prod.snd (ready_0 hw0 q); dsimp only at e1 e2; simp_all; done) | fail)
         ·have hb59R := hb59; try simp only [z1, z2, z3, z4, z5, z6, ne_eq, z7, z8, z9, z10, z11, z12] at hb59
          refine g_skip rfl rfl rfl ?_
          refine g_skip rfl rfl rfl ?_
          refine g_skip rfl rfl rfl ?_
          refine g_nocall rfl rfl rfl ?_
          refine g_nocall rfl rfl rfl ?_
          refine g_step rfl rfl rfl rfl (e_pickF (v := .sc _) rfl rfl) trivial ?_
          refine g_step rfl rfl rfl rfl (e_assign (v := .sc _) rfl) trivial ?_
          refine g_end (ds := [79, 80, 81, 82, 83]) rfl rfl (hK58 _ ?_); clear hK58 K58
          refine pwp_ret ?_
          refine end1 (v := .sc _) rfl ?_
          first
            | exact out_b rfl
            | exact out_b (by first | (rw [hr1, hr2] at *; simp_all; done) | fail)
            | exact out_b (by first | (rw [hr2] at *; simp_all; done) | fail)
            | exact out_b (by first | (have q := ‹(closedX xs ds).1 = false›; replace q := (congrArg Prod.fst hr2).symm.trans q; have e1 := congrArg Prod.fst (ready_c hw0 q); have e2 := congrArg Prod.snd (ready_c hw0 q); dsimp only at e1 e2; simp_all; done) | fail)
            | exact out_b (by first | (have q := ‹(closedX xs ds).1 = true›; replace q := (congrArg Prod.fst hr2).symm.trans q; have e1 := congrArg Prod.fst (ready_0 hw0 q); have e2 := congrArg Prod.snd (ready_0 hw0 q); dsimp only at e1 e2; simp_all; done) | fail)

end Go.Proofs.Ytjmjiegplnfiiaa
