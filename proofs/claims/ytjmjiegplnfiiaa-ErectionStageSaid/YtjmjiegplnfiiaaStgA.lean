import Derived.Test.YtjmjiegplnfiiaaAwkA
/- Ends of slots. No conditions. -/
set_option linter.unusedSimpArgs false
set_option linter.unusedVariables false
set_option maxRecDepth 100000
namespace Go.Proofs.Ytjmjiegplnfiiaa
open Go Go.Pv

theorem few_fair {xs : List Task} {n : Int} (h : fewB xs n = true) : (xs.length : Int) ≤ n ∧ Fair xs := by
 simp only [fewB, decide_eq_true_eq] at h
 exact ⟨h.1, fun x hx => by have := h.2 x hx; omega⟩
/-! ### The end of slots -/
section
variable {xs : List Task} {ss : List Slot} {k : Nat} {s : Slot} {x : Task}
end

end Go.Proofs.Ytjmjiegplnfiiaa

/- Stages: what the program tells. No conditions. -/
set_option linter.unusedSimpArgs false
set_option linter.unusedVariables false
set_option maxRecDepth 100000
namespace Go.Proofs.Ytjmjiegplnfiiaa
open Go Go.Pv
/-! ### Stages -/
section
variable {xs : List Task} {D : List Int} {k : Nat}
end
end Go.Proofs.Ytjmjiegplnfiiaa

/- Ready and closed stages. No conditions. -/
set_option linter.unusedSimpArgs false
set_option linter.unusedVariables false
set_option maxRecDepth 100000
namespace Go.Proofs.Ytjmjiegplnfiiaa
open Go Go.Pv
theorem fr34 : (inFrame Try.f34.ntmps (Try.f34.body.getD .skip) && Try.f34.results.toList.all (resScope Try.f34.ntmps)) = true := by kernel_rfl
theorem refListC (xs : List Task) (ds : List Int) (hxl : xs.length ≤ 15) (hdl : ds.length ≤ 30) : PCalls Try.prog 34 [.lit true 6 (xs.map Task.enc), .lit true 1 (ds.map ci)] (.int (listE ds xs.length)) := by
 refine PCalls.of_code Try.func34 rfl rfl (by kernel_rfl) mixed fr34 (by show _ ≤ 24; simp) (.sc _) ?_
 refine pwp_seq_plain rfl fun K1 hK1 => ?_
 refine p_aS rfl ?_
 refine p_end (hK1 _ ?_); clear hK1 K1
 refine pwp_seq_seq ?_
 refine pwp_seq_plain rfl fun K2 hK2 => ?_
 refine p_aS rfl ?_
 refine p_end (hK2 _ ?_); clear hK2 K2
 refine pwp_seq_block fun K3 hK3 => ?_
 refine pwp_loopR (α := Nat) [0, 1] (fun (k : Nat) => [(5, .int (k))]) (fun (k : Nat) (h : Heap) (_ : Nat → Nat) => ((k) ≤ ds.length) ∧ (∀ i, i < (k) → outB (xs.length : Int) (at0 ds i) = false)) (fun (k : Nat) => ds.length - (k)) (0) (by exact ⟨rfl, trivial⟩) (by exact ⟨by exact Nat.zero_le _, by exact upto_0⟩) fun k r4 h5 c6 hj7 => ?_
 obtain ⟨hk, hin⟩ := hj7
 try dsimp only at hk
 try dsimp only at hin
 show pwp _ _ (loopQ _ _ _) ⟨sets (mix _ _ _) [(5, .int k)], _, _⟩
 refine pwp_seq_seq ?_
 refine pwp_seq_plain rfl fun K8 hK8 => ?_
 refine p_mS rfl ?_
 refine p_e rfl (e_move (v := .lit _ _ _) rfl) ?_
 refine p_e rfl (e_len rfl (by kernel_rfl)) ?_
 refine p_e rfl (e_lt rfl rfl) ?_
 refine p_end (hK8 _ ?_); clear hK8 K8
 refine pwp_seq_cond rfl fun K9 hK9 => ⟨fun hb10 => ?_, fun hb10 => ?_⟩
 ·have hb10R := hb10; try simp only [zz] at hb10
  refine pwp_skip ?_
  refine seq_norm (hK9 _ ?_); clear hK9 K9
  refine pwp_seq_block fun K11 hK11 => ?_
  refine pwp_seq_plain rfl fun K12 hK12 => ?_
  refine p_e rfl (e_move (v := .lit _ _ _) rfl) ?_
  refine p_mS rfl ?_
  refine p_e rfl (e_ixL rfl rfl) ?_
  refine p_e rfl (e_load (v := .sc _) rfl (by kernel_rfl) (by kernel_rfl) (by kernel_rfl) (by first | omega | (simp only [List.length_map]; omega)) (by decide) ((cell_map (at0_get (l := ds) (i := k) (by simp only [List.length_map] at *; omega)) _).trans rfl)) ?_
  refine p_e rfl (e_move (v := .lit _ _ _) rfl) ?_
  refine p_e rfl (e_len rfl (by kernel_rfl)) ?_
  refine p_e rfl (e_sub rfl rfl (by first | omega | (simp only [List.length_map] at *; omega))) ?_
  refine p_call rfl (.cons inn_sc (.cons inn_sc (.cons inn_sc .nil))) (Within _ _ _) ?_
  refine p_e rfl (e_not rfl) ?_
  refine p_end (hK12 _ ?_); clear hK12 K12
  refine pwp_cond rfl (fun hb13 => ?_) (fun hb13 => ?_)
  ·have hb13R := hb13; try simp only [zz] at hb13
   refine pwp_seq_plain rfl fun K14 hK14 => ?_
   refine p_aS rfl ?_
   refine p_end (hK14 _ ?_); clear hK14 K14
   refine pwp_ret ?_
   refine ret_block ?_
   refine ret_seq ?_
   refine ret_loop ?_
   refine ret_block ?_
   refine ret_seq ?_
   refine end1 (v := .sc _) rfl ?_
   first
     | exact out_i (listE_6 (any_out (j := k) (by simp only [List.length_map] at *; omega) (by simp only [outB, Bool.not_eq_true', decide_eq_false_iff_not]; simp only [List.length_map] at *; omega)))
     | exact out_i (listE_10 hany (by assumption))
     | exact out_i (listE_0 hany (by assumption))
  ·have hb13R := hb13; try simp only [zz] at hb13
   refine pwp_skip ?_
   refine block_norm ?_
   refine seq_norm (hK11 _ ?_); clear hK11 K11
   refine pwp_plain rfl fun K15 hK15 => ?_
   refine p_mS rfl ?_
   refine p_e rfl (e_adL rfl rfl) ?_
   refine p_aS rfl ?_
   refine p_end (hK15 _ ?_); clear hK15 K15
   exact loop_again (k + 1) (by show _ < _; omega) ⟨rfl, rfl, trivial⟩ ⟨rfl, trivial⟩ (by exact ⟨by show _ + 1 ≤ _; simp only [List.length_map] at *; omega, by exact upto_step (p := fun z => outB (xs.length : Int) (at0 ds z) = false) hin (by simp only [outB, Bool.not_eq_false', decide_eq_true_eq]; simp only [List.length_map] at *; omega)⟩)
 ·have hb10R := hb10; try simp only [zz] at hb10
  have hany := any_in hin (by simp only [List.length_map] at *; omega)
  refine pwp_exit ?_
  refine exit_seq ?_
  clear hK9 K9
  refine exit_loop ?_
  refine exit_here ?_
  refine seq_norm (hK3 _ ?_); clear hK3 K3
  refine pwp_seq_seq ?_
  refine pwp_seq_plain rfl fun K16 hK16 => ?_
  refine p_e rfl (e_move (v := .lit _ _ _) rfl) ?_
  refine p_call rfl (.cons inn_lit .nil) (ascends _ (by omega)) ?_
  refine p_e rfl (e_not rfl) ?_
  refine p_end (hK16 _ ?_); clear hK16 K16
  refine pwp_seq_cond rfl fun K17 hK17 => ⟨fun hb18 => ?_, fun hb18 => ?_⟩
  ·have hb18R := hb18; try simp only [zz] at hb18
   refine pwp_seq_plain rfl fun K19 hK19 => ?_
   refine p_aS rfl ?_
   refine p_end (hK19 _ ?_); clear hK19 K19
   refine pwp_ret ?_
   refine ret_seq ?_
   refine end1 (v := .sc _) rfl ?_
   first
     | exact out_i (listE_6 (any_out (j := k) (by simp only [List.length_map] at *; omega) (by simp only [outB, Bool.not_eq_true', decide_eq_false_iff_not]; simp only [List.length_map] at *; omega)))
     | exact out_i (listE_10 hany (by assumption))
     | exact out_i (listE_0 hany (by assumption))
  ·have hb18R := hb18; try simp only [zz] at hb18
   refine pwp_skip ?_
   refine seq_norm (hK17 _ ?_); clear hK17 K17
   refine pwp_seq_plain rfl fun K20 hK20 => ?_
   refine p_aS rfl ?_
   refine p_end (hK20 _ ?_); clear hK20 K20
   refine pwp_ret ?_
   refine end1 (v := .sc _) rfl ?_
   first
     | exact out_i (listE_6 (any_out (j := k) (by simp only [List.length_map] at *; omega) (by simp only [outB, Bool.not_eq_true', decide_eq_false_iff_not]; simp only [List.length_map] at *; omega)))
     | exact out_i (listE_10 hany (by assumption))
     | exact out_i (listE_0 hany (by assumption))

end Go.Proofs.Ytjmjiegplnfiiaa
