/- Reasons of the reference. No conditions. -/
import Derived.Test.YtdbpfhbppcpbbaaAgree
set_option linter.unusedSimpArgs false
set_option linter.unusedVariables false
set_option maxRecDepth 100000
namespace Go.Proofs.Ytdbpfhbppcpbbaa
open Go Go.Pv

theorem rdE_get {l : List Ev} {i : Int} (h : 0 ≤ i ∧ i < l.length) : l[i.toNat]? = some (rdE l i) := by
  unfold rdE; rw [List.getElem?_eq_getElem (by omega)]; rfl
theorem tag_agree (b0 b1 b2 b3 b4 : Bool) : tagR (rsn 0 [b0, b1, b2, b3, b4]) = tagE (rsn 0 [b0, b1, b2, b3, b4]) := by
  cases b0 <;> cases b1 <;> cases b2 <;> cases b3 <;> cases b4 <;> decide
theorem reaR_of {p : ByteArray} {day : Int} {U : List Ev} {b0 b1 b2 b3 b4 : Bool}
    (h0 : ((decide (lastE (0) p (-1) 0 U < (0))) || (decide (lastE (0) p (-1) 0 U < lastE (6) p (-1) 0 U))) = b0)
    (h1 : (((decide (lastE (0) p (-1) 0 U < (0))) || (decide (lastE (1) p (-1) 0 U < lastE (0) p (-1) 0 U))) || (!(rdE U (lastE (1) p (-1) 0 U)).passed)) = b1)
    (h2 : (!(freshE p day U)) = b2) (h3 : (decide ((0 : Int) < ((((openL p true false U).map ci).length : Nat) : Int))) = b3) (h4 : (decide ((0 : Int) < ((((openL p false false U).map ci).length : Nat) : Int))) = b4) :
    reaR p day U = rsn 0 [b0, b1, b2, b3, b4] := by
  have h3' : decide (0 < (openL p true false U).length) = b3 := by rw [← h3, List.length_map]; congr 1; simp
  have h4' : decide (0 < (openL p false false U).length) = b4 := by rw [← h4, List.length_map]; congr 1; simp
  unfold reaR
  rw [h0, h1, h2, h3', h4']

theorem fr49 : (inFrame Try.f49.ntmps (Try.f49.body.getD .skip) && Try.f49.results.toList.all (resScope Try.f49.ntmps)) = true := by kernel_rfl
theorem ReasonsR (evs : List Ev) (p : ByteArray) (day : Int) (hl : evs.length ≤ 405) (hev : ∀ e ∈ evs, 0 ≤ e.day ∧ e.day ≤ 20000) (hday : 0 ≤ day ∧ day ≤ 20000) : PCalls Try.prog 49 [.lit true 6 (evs.map Ev.enc), .str p, .int day] (.lit false 1 ((reaR p day (uptoE evs day)).map ci)) := by
  refine PCalls.of_code Try.func49 rfl rfl (by kernel_rfl) mixed fr49 (by show _ ≤ 76; simp) (.lit _ _ _ fun row hr => pure_map ci_pure row hr) ?_
  have B0 := last_bnd0 0 p (uptoE evs day)
  have B1 := last_bnd0 1 p (uptoE evs day)
  have hUl := upto_len evs day
  refine pwp_seq_plain rfl fun K1 hK1 => ?_
  refine p_step rfl (e_assign (v := .nil) rfl) trivial ?_
  refine p_end (hK1 _ ?_); clear hK1 K1
  refine pwp_seq_plain rfl fun K2 hK2 => ?_
  refine p_step rfl (e_move (v := .lit _ _ _) rfl) trivial ?_
  refine p_step rfl (e_move (v := .sc _) rfl) trivial ?_
  refine p_call rfl (.cons inn_lit (.cons inn_sc .nil)) (Upto _ _ (by omega)) ?_
  refine p_step rfl (e_assign (v := .lit _ _ _) rfl) trivial ?_
  refine p_end (hK2 _ ?_); clear hK2 K2
  refine pwp_seq_plain rfl fun K3 hK3 => ?_
  refine p_step rfl (e_move (v := .lit _ _ _) rfl) trivial ?_
  refine p_step rfl (e_move (v := .sc _) rfl) trivial ?_
  refine p_call rfl (.cons inn_lit (.cons inn_sc (.cons inn_sc .nil))) (lastR _ _ _ (by first | omega | exact (Nat.le_trans (upto_len _ _) hl))) ?_
  refine p_step rfl (e_move (v := .lit _ _ _) rfl) trivial ?_
  refine p_step rfl (e_move (v := .sc _) rfl) trivial ?_
  refine p_call rfl (.cons inn_lit (.cons inn_sc (.cons inn_sc .nil))) (lastR _ _ _ (by first | omega | exact (Nat.le_trans (upto_len _ _) hl))) ?_
  refine p_step rfl (e_assign (v := .sc _) rfl) trivial ?_
  refine p_step rfl (e_assign (v := .sc _) rfl) trivial ?_
  refine p_end (hK3 _ ?_); clear hK3 K3
  refine pwp_seq_plain rfl fun K4 hK4 => ?_
  refine p_step rfl (e_move (v := .lit _ _ _) rfl) trivial ?_
  refine p_step rfl (e_move (v := .sc _) rfl) trivial ?_
  refine p_call rfl (.cons inn_lit (.cons inn_sc (.cons inn_sc .nil))) (lastR _ _ _ (by first | omega | exact (Nat.le_trans (upto_len _ _) hl))) ?_
  refine p_step rfl (e_assign (v := .sc _) rfl) trivial ?_
  refine p_end (hK4 _ ?_); clear hK4 K4
  refine pwp_seq_plain rfl fun K5 hK5 => ?_
  refine p_step rfl (e_assign (v := .nil) rfl) trivial ?_
  refine p_end (hK5 _ ?_); clear hK5 K5
  refine pwp_seq_seq ?_
  refine pwp_seq_cutG [0, 1, 2, 7, 9, 10] [(29, .bool ((decide ((lastE (0) p (-1) 0 (uptoE (evs) day)) < (0))) || (decide ((lastE (0) p (-1) 0 (uptoE (evs) day)) < (lastE (6) p (-1) 0 (uptoE (evs) day))))))] (fun K6 hK6 => ?_) (fun r7 => ?_)
  ·skip
   refine pwp_gops rfl fun K8 hK8 => ?_
   refine g_begin ?_
   refine g_step rfl rfl rfl rfl (e_move (v := .sc _) rfl) trivial ?_
   refine g_step rfl rfl rfl rfl (e_lt rfl rfl) trivial ?_
   refine g_step rfl rfl rfl rfl (e_move (v := .sc _) rfl) trivial ?_
   refine g_cases (fun hb9 => ?_) (fun hb9 => ?_)
   ·have hb9R := hb9; try simp only [z1, z2, z3, z4, z5, z6, ne_eq, z7, z8, z9, z10, z11, z12] at hb9
    refine g_skip rfl rfl rfl ?_
    refine g_skip rfl rfl rfl ?_
    refine g_skip rfl rfl rfl ?_
    refine g_step rfl rfl rfl rfl (e_pickT (v := .sc _) rfl rfl) trivial ?_
    refine g_end (ds := [26, 27, 28]) rfl rfl (hK8 _ ?_); clear hK8 K8
    exact seq_norm (hK6 _ ⟨rfl, rfl, rfl, rfl, rfl, rfl, trivial⟩ ⟨(congrArg PV.bool (show (true : Bool) = ((decide ((lastE (0) p (-1) 0 (uptoE (evs) day)) < (0))) || (decide ((lastE (0) p (-1) 0 (uptoE (evs) day)) < (lastE (6) p (-1) 0 (uptoE (evs) day))))) by first | rfl | ((try rw [hb9R]) <;> (first | rfl | (simp only [Bool.and_true, Bool.and_false, Bool.true_and, Bool.false_and, Bool.or_true, Bool.or_false, Bool.true_or, Bool.false_or, Bool.not_true, Bool.not_false, if_true, if_false, Bool.false_eq_true, reduceIte] <;> rfl))) | (simp only [hb9R, Bool.and_true, Bool.and_false, Bool.true_and, Bool.false_and, Bool.or_true, Bool.or_false, Bool.true_or, Bool.false_or, Bool.not_true, Bool.not_false, if_true, if_false, Bool.false_eq_true, reduceIte] <;> rfl))), trivial⟩)
   ·have hb9R := hb9; try simp only [z1, z2, z3, z4, z5, z6, ne_eq, z7, z8, z9, z10, z11, z12] at hb9
    refine g_step rfl rfl rfl rfl (e_move (v := .sc _) rfl) trivial ?_
    refine g_step rfl rfl rfl rfl (e_move (v := .sc _) rfl) trivial ?_
    refine g_step rfl rfl rfl rfl (e_gt rfl rfl) trivial ?_
    refine g_step rfl rfl rfl rfl (e_pickF (v := .sc _) rfl rfl) trivial ?_
    refine g_end (ds := [26, 27, 28]) rfl rfl (hK8 _ ?_); clear hK8 K8
    exact seq_norm (hK6 _ ⟨rfl, rfl, rfl, rfl, rfl, rfl, trivial⟩ ⟨(congrArg PV.bool (show ((decide ((lastE (0) p (-1) 0 (uptoE (evs) day)) < (lastE (6) p (-1) 0 (uptoE (evs) day)))) : Bool) = ((decide ((lastE (0) p (-1) 0 (uptoE (evs) day)) < (0))) || (decide ((lastE (0) p (-1) 0 (uptoE (evs) day)) < (lastE (6) p (-1) 0 (uptoE (evs) day))))) by first | rfl | ((try rw [hb9R]) <;> (first | rfl | (simp only [Bool.and_true, Bool.and_false, Bool.true_and, Bool.false_and, Bool.or_true, Bool.or_false, Bool.true_or, Bool.false_or, Bool.not_true, Bool.not_false, if_true, if_false, Bool.false_eq_true, reduceIte] <;> rfl))) | (simp only [hb9R, Bool.and_true, Bool.and_false, Bool.true_and, Bool.false_and, Bool.or_true, Bool.or_false, Bool.true_or, Bool.false_or, Bool.not_true, Bool.not_false, if_true, if_false, Bool.false_eq_true, reduceIte] <;> rfl))), trivial⟩)
  ·skip
   refine pwp_seq_cond rfl fun K10 hK10 => ⟨fun hb11 => ?_, fun hb11 => ?_⟩
   ·have hb11R := hb11; try simp only [z1, z2, z3, z4, z5, z6, ne_eq, z7, z8, z9, z10, z11, z12] at hb11
    refine pwp_plain rfl fun K12 hK12 => ?_
    refine p_step rfl (e_move (v := .nil) rfl) trivial ?_
    refine p_new rfl (e_bslice (rows := [ci (0)]) (zs := [.int 0]) (sz := 1) (by kernel_rfl) (by kernel_rfl) rfl (by kernel_rfl) (by decide) rfl rfl (by exact ⟨by decide, rfl, rfl, trivial⟩) rfl) trivial ?_
    refine p_app (d1 := 32) rfl rfl rfl .nil (src_ref (hset_self _ _ _) rfl) (by kernel_rfl) (by simp only [List.length_append, List.length_map, List.length_nil, List.length_cons]; omega) fun v13 h14 c15 hs16 hf17 => ?_
    have ho18 := (hf17 (31, _) (key_ne rfl) (fun _ _ => key_ne rfl)).trans (hset_self _ _ _)
    refine p_ren rfl hs16 fun v19 h20 c21 hs22 hf23 => ?_
    have ho24 := (hf23 (31, _) (key_ne rfl) (fun _ _ => key_ne rfl)).trans ho18
    refine p_end (hK12 _ ?_); clear hK12 K12
    refine seq_norm (hK10 _ ?_); clear hK10 K10
    refine pwp_seq_seq ?_
    refine pwp_seq_cutG [0, 1, 2, 10] [(47, .bool (((decide ((lastE (0) p (-1) 0 (uptoE (evs) day)) < (0))) || (decide ((lastE (1) p (-1) 0 (uptoE (evs) day)) < (lastE (0) p (-1) 0 (uptoE (evs) day))))) || (!(rdE (uptoE evs day) (lastE (1) p (-1) 0 (uptoE (evs) day))).passed)))] (fun K25 hK25 => ?_) (fun r26 => ?_)
    ·skip
     refine pwp_gops rfl fun K27 hK27 => ?_
     refine g_begin ?_
     refine g_step rfl rfl rfl rfl (e_move (v := .sc _) rfl) trivial ?_
     refine g_step rfl rfl rfl rfl (e_lt rfl rfl) trivial ?_
     refine g_step rfl rfl rfl rfl (e_move (v := .sc _) rfl) trivial ?_
     refine g_cases (fun hb28 => ?_) (fun hb28 => ?_)
     ·have hb28R := hb28; try simp only [z1, z2, z3, z4, z5, z6, ne_eq, z7, z8, z9, z10, z11, z12] at hb28
      refine g_skip rfl rfl rfl ?_
      refine g_skip rfl rfl rfl ?_
      refine g_skip rfl rfl rfl ?_
      refine g_step rfl rfl rfl rfl (e_pickT (v := .sc _) rfl rfl) trivial ?_
      refine g_step rfl rfl rfl rfl (e_move (v := .sc _) rfl) trivial ?_
      refine g_skip rfl rfl rfl ?_
      refine g_skip rfl rfl rfl ?_
      refine g_skip rfl rfl rfl ?_
      refine g_skip rfl rfl rfl ?_
      refine g_skip rfl rfl rfl ?_
      refine g_skip rfl rfl rfl ?_
      refine g_step rfl rfl rfl rfl (e_pickT (v := .sc _) rfl rfl) trivial ?_
      refine g_end (ds := [36, 37, 38, 41, 42, 43, 44, 45, 46]) rfl rfl (hK27 _ ?_); clear hK27 K27
      exact seq_norm (hK25 _ ⟨rfl, rfl, rfl, rfl, trivial⟩ ⟨(congrArg PV.bool (show (true : Bool) = (((decide ((lastE (0) p (-1) 0 (uptoE (evs) day)) < (0))) || (decide ((lastE (1) p (-1) 0 (uptoE (evs) day)) < (lastE (0) p (-1) 0 (uptoE (evs) day))))) || (!(rdE (uptoE evs day) (lastE (1) p (-1) 0 (uptoE (evs) day))).passed)) by first | rfl | ((try rw [hb28R]) <;> (first | rfl | (simp only [Bool.and_true, Bool.and_false, Bool.true_and, Bool.false_and, Bool.or_true, Bool.or_false, Bool.true_or, Bool.false_or, Bool.not_true, Bool.not_false, if_true, if_false, Bool.false_eq_true, reduceIte] <;> rfl))) | (simp only [hb28R, Bool.and_true, Bool.and_false, Bool.true_and, Bool.false_and, Bool.or_true, Bool.or_false, Bool.true_or, Bool.false_or, Bool.not_true, Bool.not_false, if_true, if_false, Bool.false_eq_true, reduceIte] <;> rfl))), trivial⟩)
     ·have hb28R := hb28; try simp only [z1, z2, z3, z4, z5, z6, ne_eq, z7, z8, z9, z10, z11, z12] at hb28
      refine g_step rfl rfl rfl rfl (e_move (v := .sc _) rfl) trivial ?_
      refine g_step rfl rfl rfl rfl (e_move (v := .sc _) rfl) trivial ?_
      refine g_step rfl rfl rfl rfl (e_lt rfl rfl) trivial ?_
      refine g_step rfl rfl rfl rfl (e_pickF (v := .sc _) rfl rfl) trivial ?_
      refine g_step rfl rfl rfl rfl (e_move (v := .sc _) rfl) trivial ?_
      refine g_cases (fun hb29 => ?_) (fun hb29 => ?_)
      ·have hb29R := hb29; try simp only [z1, z2, z3, z4, z5, z6, ne_eq, z7, z8, z9, z10, z11, z12] at hb29
       refine g_skip rfl rfl rfl ?_
       refine g_skip rfl rfl rfl ?_
       refine g_skip rfl rfl rfl ?_
       refine g_skip rfl rfl rfl ?_
       refine g_skip rfl rfl rfl ?_
       refine g_skip rfl rfl rfl ?_
       refine g_step rfl rfl rfl rfl (e_pickT (v := .sc _) rfl rfl) trivial ?_
       refine g_end (ds := [36, 37, 38, 41, 42, 43, 44, 45, 46]) rfl rfl (hK27 _ ?_); clear hK27 K27
       exact seq_norm (hK25 _ ⟨rfl, rfl, rfl, rfl, trivial⟩ ⟨(congrArg PV.bool (show (true : Bool) = (((decide ((lastE (0) p (-1) 0 (uptoE (evs) day)) < (0))) || (decide ((lastE (1) p (-1) 0 (uptoE (evs) day)) < (lastE (0) p (-1) 0 (uptoE (evs) day))))) || (!(rdE (uptoE evs day) (lastE (1) p (-1) 0 (uptoE (evs) day))).passed)) by first | rfl | ((try rw [hb29R]) <;> (try rw [hb28R]) <;> (first | rfl | (simp only [Bool.and_true, Bool.and_false, Bool.true_and, Bool.false_and, Bool.or_true, Bool.or_false, Bool.true_or, Bool.false_or, Bool.not_true, Bool.not_false, if_true, if_false, Bool.false_eq_true, reduceIte] <;> rfl))) | (simp only [hb28R, hb29R, Bool.and_true, Bool.and_false, Bool.true_and, Bool.false_and, Bool.or_true, Bool.or_false, Bool.true_or, Bool.false_or, Bool.not_true, Bool.not_false, if_true, if_false, Bool.false_eq_true, reduceIte] <;> rfl))), trivial⟩)
      ·have hb29R := hb29; try simp only [z1, z2, z3, z4, z5, z6, ne_eq, z7, z8, z9, z10, z11, z12] at hb29
       refine g_step rfl rfl rfl rfl (e_move (v := .lit _ _ _) rfl) trivial ?_
       refine g_step rfl rfl rfl rfl (e_move (v := .sc _) rfl) trivial ?_
       refine g_step rfl rfl rfl rfl (e_ixa rfl rfl (by kernel_rfl) (by kernel_rfl) (by simp only [List.length_map]; omega)) trivial ?_
       refine g_step rfl rfl rfl rfl (e_fa (pl := [(0, 1, false), (1, 1, false), (2, 1, false), (3, 1, false), (4, 1, false), (5, 1, false)]) rfl (by kernel_rfl) (by kernel_rfl) (by decide) rfl) trivial ?_
       refine g_step rfl rfl rfl rfl (e_load (v := .sc _) rfl (by kernel_rfl) (by kernel_rfl) (by kernel_rfl) (by simp only [List.length_map]; omega) (by decide) ((cell_map (rdE_get (by omega)) _).trans rfl)) trivial ?_
       refine g_step rfl rfl rfl rfl (e_not rfl) trivial ?_
       refine g_step rfl rfl rfl rfl (e_pickF (v := .sc _) rfl rfl) trivial ?_
       refine g_end (ds := [36, 37, 38, 41, 42, 43, 44, 45, 46]) rfl rfl (hK27 _ ?_); clear hK27 K27
       exact seq_norm (hK25 _ ⟨rfl, rfl, rfl, rfl, trivial⟩ ⟨(congrArg PV.bool (show ((!(rdE (uptoE evs day) (lastE (1) p (-1) 0 (uptoE (evs) day))).passed) : Bool) = (((decide ((lastE (0) p (-1) 0 (uptoE (evs) day)) < (0))) || (decide ((lastE (1) p (-1) 0 (uptoE (evs) day)) < (lastE (0) p (-1) 0 (uptoE (evs) day))))) || (!(rdE (uptoE evs day) (lastE (1) p (-1) 0 (uptoE (evs) day))).passed)) by first | rfl | ((try rw [hb29R]) <;> (try rw [hb28R]) <;> (first | rfl | (simp only [Bool.and_true, Bool.and_false, Bool.true_and, Bool.false_and, Bool.or_true, Bool.or_false, Bool.true_or, Bool.false_or, Bool.not_true, Bool.not_false, if_true, if_false, Bool.false_eq_true, reduceIte] <;> rfl))) | (simp only [hb28R, hb29R, Bool.and_true, Bool.and_false, Bool.true_and, Bool.false_and, Bool.or_true, Bool.or_false, Bool.true_or, Bool.false_or, Bool.not_true, Bool.not_false, if_true, if_false, Bool.false_eq_true, reduceIte] <;> rfl))), trivial⟩)
    ·skip
     refine pwp_seq_cond rfl fun K30 hK30 => ⟨fun hb31 => ?_, fun hb31 => ?_⟩
     ·have hb31R := hb31; try simp only [z1, z2, z3, z4, z5, z6, ne_eq, z7, z8, z9, z10, z11, z12] at hb31
      refine pwp_plain rfl fun K32 hK32 => ?_
      refine p_step rfl (e_move (v := _) rfl) trivial ?_
      refine p_new rfl (e_bslice (rows := [ci (1)]) (zs := [.int 0]) (sz := 1) (by kernel_rfl) (by kernel_rfl) rfl (by kernel_rfl) (by decide) rfl rfl (by exact ⟨by decide, rfl, rfl, trivial⟩) rfl) trivial ?_
      refine p_app rfl rfl rfl (hs22.keep fun _ => (hset_ne (key_ne rfl)).trans (rfl)) (src_ref (hset_self _ _ _) rfl) (by kernel_rfl) (by simp only [List.length_append, List.length_map, List.length_nil, List.length_cons]; omega) fun v33 h34 c35 hs36 hf37 => ?_
      have ho38 := (hf37 (49, _) (key_ne rfl) (fun _ _ => key_ne rfl)).trans (hset_self _ _ _)
      refine p_ren rfl hs36 fun v39 h40 c41 hs42 hf43 => ?_
      have ho44 := (hf43 (49, _) (key_ne rfl) (fun _ _ => key_ne rfl)).trans ho38
      refine p_end (hK32 _ ?_); clear hK32 K32
      refine seq_norm (hK30 _ ?_); clear hK30 K30
      refine pwp_seq_seq ?_
      refine pwp_seq_plain rfl fun K45 hK45 => ?_
      refine p_step rfl (e_move (v := .lit _ _ _) rfl) trivial ?_
      refine p_step rfl (e_move (v := .sc _) rfl) trivial ?_
      refine p_step rfl (e_move (v := .sc _) rfl) trivial ?_
      refine p_call rfl (.cons inn_lit (.cons inn_sc (.cons inn_sc .nil))) (freshR _ _ _ (by first | omega | exact (Nat.le_trans (upto_len _ _) hl)) (upto_days hev) hday) ?_
      refine p_step rfl (e_not rfl) trivial ?_
      refine p_end (hK45 _ ?_); clear hK45 K45
      refine pwp_seq_cond rfl fun K46 hK46 => ⟨fun hb47 => ?_, fun hb47 => ?_⟩
      ·have hb47R := hb47; try simp only [z1, z2, z3, z4, z5, z6, ne_eq, z7, z8, z9, z10, z11, z12] at hb47
       refine pwp_plain rfl fun K48 hK48 => ?_
       refine p_step rfl (e_move (v := _) rfl) trivial ?_
       refine p_new rfl (e_bslice (rows := [ci (2)]) (zs := [.int 0]) (sz := 1) (by kernel_rfl) (by kernel_rfl) rfl (by kernel_rfl) (by decide) rfl rfl (by exact ⟨by decide, rfl, rfl, trivial⟩) rfl) trivial ?_
       refine p_app rfl rfl rfl (hs42.keep fun _ => (hset_ne (key_ne rfl)).trans (rfl)) (src_ref (hset_self _ _ _) rfl) (by kernel_rfl) (by simp only [List.length_append, List.length_map, List.length_nil, List.length_cons]; omega) fun v49 h50 c51 hs52 hf53 => ?_
       have ho54 := (hf53 (49, _) (key_ne rfl) (fun _ _ => key_ne rfl)).trans ((hset_ne (key_ne rfl)).trans ho44)
       have ho55 := (hf53 (57, _) (key_ne rfl) (fun _ _ => key_ne rfl)).trans (hset_self _ _ _)
       refine p_ren rfl hs52 fun v56 h57 c58 hs59 hf60 => ?_
       have ho61 := (hf60 (49, _) (key_ne rfl) (fun _ _ => key_ne rfl)).trans ho54
       have ho62 := (hf60 (57, _) (key_ne rfl) (fun _ _ => key_ne rfl)).trans ho55
       refine p_end (hK48 _ ?_); clear hK48 K48
       refine seq_norm (hK46 _ ?_); clear hK46 K46
       refine pwp_seq_seq ?_
       refine pwp_seq_plain rfl fun K63 hK63 => ?_
       refine p_step rfl (e_move (v := .lit _ _ _) rfl) trivial ?_
       refine p_step rfl (e_move (v := .sc _) rfl) trivial ?_
       refine p_call rfl (.cons inn_lit (.cons inn_sc (.cons inn_sc (.cons inn_sc .nil)))) (opened _ _ _ _ (by first | omega | exact (Nat.le_trans (upto_len _ _) hl))) ?_
       refine p_step rfl (e_len rfl (by kernel_rfl)) trivial ?_
       refine p_step rfl (e_gt rfl rfl) trivial ?_
       refine p_end (hK63 _ ?_); clear hK63 K63
       refine pwp_seq_cond rfl fun K64 hK64 => ⟨fun hb65 => ?_, fun hb65 => ?_⟩
       ·have hb65R := hb65; try simp only [z1, z2, z3, z4, z5, z6, ne_eq, z7, z8, z9, z10, z11, z12] at hb65
        refine pwp_plain rfl fun K66 hK66 => ?_
        refine p_step rfl (e_move (v := _) rfl) trivial ?_
        refine p_new rfl (e_bslice (rows := [ci (3)]) (zs := [.int 0]) (sz := 1) (by kernel_rfl) (by kernel_rfl) rfl (by kernel_rfl) (by decide) rfl rfl (by exact ⟨by decide, rfl, rfl, trivial⟩) rfl) trivial ?_
        refine p_app rfl rfl rfl (hs59.keep fun _ => (hset_ne (key_ne rfl)).trans (rfl)) (src_ref (hset_self _ _ _) rfl) (by kernel_rfl) (by simp only [List.length_append, List.length_map, List.length_nil, List.length_cons]; omega) fun v67 h68 c69 hs70 hf71 => ?_
        have ho72 := (hf71 (49, _) (key_ne rfl) (fun _ _ => key_ne rfl)).trans ((hset_ne (key_ne rfl)).trans ho61)
        have ho73 := (hf71 (57, _) (key_ne rfl) (fun _ _ => key_ne rfl)).trans ((hset_ne (key_ne rfl)).trans ho62)
        have ho74 := (hf71 (65, _) (key_ne rfl) (fun _ _ => key_ne rfl)).trans (hset_self _ _ _)
        refine p_ren rfl hs70 fun v75 h76 c77 hs78 hf79 => ?_
        have ho80 := (hf79 (49, _) (key_ne rfl) (fun _ _ => key_ne rfl)).trans ho72
        have ho81 := (hf79 (57, _) (key_ne rfl) (fun _ _ => key_ne rfl)).trans ho73
        have ho82 := (hf79 (65, _) (key_ne rfl) (fun _ _ => key_ne rfl)).trans ho74
        refine p_end (hK66 _ ?_); clear hK66 K66
        refine seq_norm (hK64 _ ?_); clear hK64 K64
        refine pwp_seq_seq ?_
        refine pwp_seq_plain rfl fun K83 hK83 => ?_
        refine p_step rfl (e_move (v := .lit _ _ _) rfl) trivial ?_
        refine p_step rfl (e_move (v := .sc _) rfl) trivial ?_
        refine p_call rfl (.cons inn_lit (.cons inn_sc (.cons inn_sc (.cons inn_sc .nil)))) (opened _ _ _ _ (by first | omega | exact (Nat.le_trans (upto_len _ _) hl))) ?_
        refine p_step rfl (e_len rfl (by kernel_rfl)) trivial ?_
        refine p_step rfl (e_gt rfl rfl) trivial ?_
        refine p_end (hK83 _ ?_); clear hK83 K83
        refine pwp_seq_cond rfl fun K84 hK84 => ⟨fun hb85 => ?_, fun hb85 => ?_⟩
        ·have hb85R := hb85; try simp only [z1, z2, z3, z4, z5, z6, ne_eq, z7, z8, z9, z10, z11, z12] at hb85
         refine pwp_plain rfl fun K86 hK86 => ?_
         refine p_step rfl (e_move (v := _) rfl) trivial ?_
         refine p_new rfl (e_bslice (rows := [ci (4)]) (zs := [.int 0]) (sz := 1) (by kernel_rfl) (by kernel_rfl) rfl (by kernel_rfl) (by decide) rfl rfl (by exact ⟨by decide, rfl, rfl, trivial⟩) rfl) trivial ?_
         refine p_app rfl rfl rfl (hs78.keep fun _ => (hset_ne (key_ne rfl)).trans (rfl)) (src_ref (hset_self _ _ _) rfl) (by kernel_rfl) (by simp only [List.length_append, List.length_map, List.length_nil, List.length_cons]; omega) fun v87 h88 c89 hs90 hf91 => ?_
         have ho92 := (hf91 (49, _) (key_ne rfl) (fun _ _ => key_ne rfl)).trans ((hset_ne (key_ne rfl)).trans ho80)
         have ho93 := (hf91 (57, _) (key_ne rfl) (fun _ _ => key_ne rfl)).trans ((hset_ne (key_ne rfl)).trans ho81)
         have ho94 := (hf91 (65, _) (key_ne rfl) (fun _ _ => key_ne rfl)).trans ((hset_ne (key_ne rfl)).trans ho82)
         have ho95 := (hf91 (73, _) (key_ne rfl) (fun _ _ => key_ne rfl)).trans (hset_self _ _ _)
         refine p_ren rfl hs90 fun v96 h97 c98 hs99 hf100 => ?_
         have ho101 := (hf100 (49, _) (key_ne rfl) (fun _ _ => key_ne rfl)).trans ho92
         have ho102 := (hf100 (57, _) (key_ne rfl) (fun _ _ => key_ne rfl)).trans ho93
         have ho103 := (hf100 (65, _) (key_ne rfl) (fun _ _ => key_ne rfl)).trans ho94
         have ho104 := (hf100 (73, _) (key_ne rfl) (fun _ _ => key_ne rfl)).trans ho95
         refine p_end (hK86 _ ?_); clear hK86 K86
         refine seq_norm (hK84 _ ?_); clear hK84 K84
         refine pwp_seq_plain rfl fun K105 hK105 => ?_
         refine p_step rfl (e_move (v := _) rfl) trivial ?_
         refine p_step rfl (e_assign (v := _) rfl) trivial ?_
         refine p_end (hK105 _ ?_); clear hK105 K105
         refine pwp_ret ?_
         refine end1 (v := _) rfl ?_
         rw [reaR_of (p := p) (day := day) (U := uptoE evs day) (by assumption) (by assumption) (by assumption) (by assumption) (by assumption)]
         first | exact out_slice (by assumption) rfl (fun _ => rfl) (fun a q hq => by simp [ci] at hq; subst hq; exact ⟨.sc _, rfl⟩) | exact Out.nil 1
        ·have hb85R := hb85; try simp only [z1, z2, z3, z4, z5, z6, ne_eq, z7, z8, z9, z10, z11, z12] at hb85
         refine pwp_skip ?_
         refine seq_norm (hK84 _ ?_); clear hK84 K84
         refine pwp_seq_plain rfl fun K106 hK106 => ?_
         refine p_step rfl (e_move (v := _) rfl) trivial ?_
         refine p_step rfl (e_assign (v := _) rfl) trivial ?_
         refine p_end (hK106 _ ?_); clear hK106 K106
         refine pwp_ret ?_
         refine end1 (v := _) rfl ?_
         rw [reaR_of (p := p) (day := day) (U := uptoE evs day) (by assumption) (by assumption) (by assumption) (by assumption) (by assumption)]
         first | exact out_slice (by assumption) rfl (fun _ => rfl) (fun a q hq => by simp [ci] at hq; subst hq; exact ⟨.sc _, rfl⟩) | exact Out.nil 1
       ·have hb65R := hb65; try simp only [z1, z2, z3, z4, z5, z6, ne_eq, z7, z8, z9, z10, z11, z12] at hb65
        refine pwp_skip ?_
        refine seq_norm (hK64 _ ?_); clear hK64 K64
        refine pwp_seq_seq ?_
        refine pwp_seq_plain rfl fun K107 hK107 => ?_
        refine p_step rfl (e_move (v := .lit _ _ _) rfl) trivial ?_
        refine p_step rfl (e_move (v := .sc _) rfl) trivial ?_
        refine p_call rfl (.cons inn_lit (.cons inn_sc (.cons inn_sc (.cons inn_sc .nil)))) (opened _ _ _ _ (by first | omega | exact (Nat.le_trans (upto_len _ _) hl))) ?_
        refine p_step rfl (e_len rfl (by kernel_rfl)) trivial ?_
        refine p_step rfl (e_gt rfl rfl) trivial ?_
        refine p_end (hK107 _ ?_); clear hK107 K107
        refine pwp_seq_cond rfl fun K108 hK108 => ⟨fun hb109 => ?_, fun hb109 => ?_⟩
        ·have hb109R := hb109; try simp only [z1, z2, z3, z4, z5, z6, ne_eq, z7, z8, z9, z10, z11, z12] at hb109
         refine pwp_plain rfl fun K110 hK110 => ?_
         refine p_step rfl (e_move (v := _) rfl) trivial ?_
         refine p_new rfl (e_bslice (rows := [ci (4)]) (zs := [.int 0]) (sz := 1) (by kernel_rfl) (by kernel_rfl) rfl (by kernel_rfl) (by decide) rfl rfl (by exact ⟨by decide, rfl, rfl, trivial⟩) rfl) trivial ?_
         refine p_app rfl rfl rfl (hs59.keep fun _ => (hset_ne (key_ne rfl)).trans (rfl)) (src_ref (hset_self _ _ _) rfl) (by kernel_rfl) (by simp only [List.length_append, List.length_map, List.length_nil, List.length_cons]; omega) fun v111 h112 c113 hs114 hf115 => ?_
         have ho116 := (hf115 (49, _) (key_ne rfl) (fun _ _ => key_ne rfl)).trans ((hset_ne (key_ne rfl)).trans ho61)
         have ho117 := (hf115 (57, _) (key_ne rfl) (fun _ _ => key_ne rfl)).trans ((hset_ne (key_ne rfl)).trans ho62)
         have ho118 := (hf115 (73, _) (key_ne rfl) (fun _ _ => key_ne rfl)).trans (hset_self _ _ _)
         refine p_ren rfl hs114 fun v119 h120 c121 hs122 hf123 => ?_
         have ho124 := (hf123 (49, _) (key_ne rfl) (fun _ _ => key_ne rfl)).trans ho116
         have ho125 := (hf123 (57, _) (key_ne rfl) (fun _ _ => key_ne rfl)).trans ho117
         have ho126 := (hf123 (73, _) (key_ne rfl) (fun _ _ => key_ne rfl)).trans ho118
         refine p_end (hK110 _ ?_); clear hK110 K110
         refine seq_norm (hK108 _ ?_); clear hK108 K108
         refine pwp_seq_plain rfl fun K127 hK127 => ?_
         refine p_step rfl (e_move (v := _) rfl) trivial ?_
         refine p_step rfl (e_assign (v := _) rfl) trivial ?_
         refine p_end (hK127 _ ?_); clear hK127 K127
         refine pwp_ret ?_
         refine end1 (v := _) rfl ?_
         rw [reaR_of (p := p) (day := day) (U := uptoE evs day) (by assumption) (by assumption) (by assumption) (by assumption) (by assumption)]
         first | exact out_slice (by assumption) rfl (fun _ => rfl) (fun a q hq => by simp [ci] at hq; subst hq; exact ⟨.sc _, rfl⟩) | exact Out.nil 1
        ·have hb109R := hb109; try simp only [z1, z2, z3, z4, z5, z6, ne_eq, z7, z8, z9, z10, z11, z12] at hb109
         refine pwp_skip ?_
         refine seq_norm (hK108 _ ?_); clear hK108 K108
         refine pwp_seq_plain rfl fun K128 hK128 => ?_
         refine p_step rfl (e_move (v := _) rfl) trivial ?_
         refine p_step rfl (e_assign (v := _) rfl) trivial ?_
         refine p_end (hK128 _ ?_); clear hK128 K128
         refine pwp_ret ?_
         refine end1 (v := _) rfl ?_
         rw [reaR_of (p := p) (day := day) (U := uptoE evs day) (by assumption) (by assumption) (by assumption) (by assumption) (by assumption)]
         first | exact out_slice (by assumption) rfl (fun _ => rfl) (fun a q hq => by simp [ci] at hq; subst hq; exact ⟨.sc _, rfl⟩) | exact Out.nil 1
      ·have hb47R := hb47; try simp only [z1, z2, z3, z4, z5, z6, ne_eq, z7, z8, z9, z10, z11, z12] at hb47
       refine pwp_skip ?_
       refine seq_norm (hK46 _ ?_); clear hK46 K46
       refine pwp_seq_seq ?_
       refine pwp_seq_plain rfl fun K129 hK129 => ?_
       refine p_step rfl (e_move (v := .lit _ _ _) rfl) trivial ?_
       refine p_step rfl (e_move (v := .sc _) rfl) trivial ?_
       refine p_call rfl (.cons inn_lit (.cons inn_sc (.cons inn_sc (.cons inn_sc .nil)))) (opened _ _ _ _ (by first | omega | exact (Nat.le_trans (upto_len _ _) hl))) ?_
       refine p_step rfl (e_len rfl (by kernel_rfl)) trivial ?_
       refine p_step rfl (e_gt rfl rfl) trivial ?_
       refine p_end (hK129 _ ?_); clear hK129 K129
       refine pwp_seq_cond rfl fun K130 hK130 => ⟨fun hb131 => ?_, fun hb131 => ?_⟩
       ·have hb131R := hb131; try simp only [z1, z2, z3, z4, z5, z6, ne_eq, z7, z8, z9, z10, z11, z12] at hb131
        refine pwp_plain rfl fun K132 hK132 => ?_
        refine p_step rfl (e_move (v := _) rfl) trivial ?_
        refine p_new rfl (e_bslice (rows := [ci (3)]) (zs := [.int 0]) (sz := 1) (by kernel_rfl) (by kernel_rfl) rfl (by kernel_rfl) (by decide) rfl rfl (by exact ⟨by decide, rfl, rfl, trivial⟩) rfl) trivial ?_
        refine p_app rfl rfl rfl (hs42.keep fun _ => (hset_ne (key_ne rfl)).trans (rfl)) (src_ref (hset_self _ _ _) rfl) (by kernel_rfl) (by simp only [List.length_append, List.length_map, List.length_nil, List.length_cons]; omega) fun v133 h134 c135 hs136 hf137 => ?_
        have ho138 := (hf137 (49, _) (key_ne rfl) (fun _ _ => key_ne rfl)).trans ((hset_ne (key_ne rfl)).trans ho44)
        have ho139 := (hf137 (65, _) (key_ne rfl) (fun _ _ => key_ne rfl)).trans (hset_self _ _ _)
        refine p_ren rfl hs136 fun v140 h141 c142 hs143 hf144 => ?_
        have ho145 := (hf144 (49, _) (key_ne rfl) (fun _ _ => key_ne rfl)).trans ho138
        have ho146 := (hf144 (65, _) (key_ne rfl) (fun _ _ => key_ne rfl)).trans ho139
        refine p_end (hK132 _ ?_); clear hK132 K132
        refine seq_norm (hK130 _ ?_); clear hK130 K130
        refine pwp_seq_seq ?_
        refine pwp_seq_plain rfl fun K147 hK147 => ?_
        refine p_step rfl (e_move (v := .lit _ _ _) rfl) trivial ?_
        refine p_step rfl (e_move (v := .sc _) rfl) trivial ?_
        refine p_call rfl (.cons inn_lit (.cons inn_sc (.cons inn_sc (.cons inn_sc .nil)))) (opened _ _ _ _ (by first | omega | exact (Nat.le_trans (upto_len _ _) hl))) ?_
        refine p_step rfl (e_len rfl (by kernel_rfl)) trivial ?_
        refine p_step rfl (e_gt rfl rfl) trivial ?_
        refine p_end (hK147 _ ?_); clear hK147 K147
        refine pwp_seq_cond rfl fun K148 hK148 => ⟨fun hb149 => ?_, fun hb149 => ?_⟩
        ·have hb149R := hb149; try simp only [z1, z2, z3, z4, z5, z6, ne_eq, z7, z8, z9, z10, z11, z12] at hb149
         refine pwp_plain rfl fun K150 hK150 => ?_
         refine p_step rfl (e_move (v := _) rfl) trivial ?_
         refine p_new rfl (e_bslice (rows := [ci (4)]) (zs := [.int 0]) (sz := 1) (by kernel_rfl) (by kernel_rfl) rfl (by kernel_rfl) (by decide) rfl rfl (by exact ⟨by decide, rfl, rfl, trivial⟩) rfl) trivial ?_
         refine p_app rfl rfl rfl (hs143.keep fun _ => (hset_ne (key_ne rfl)).trans (rfl)) (src_ref (hset_self _ _ _) rfl) (by kernel_rfl) (by simp only [List.length_append, List.length_map, List.length_nil, List.length_cons]; omega) fun v151 h152 c153 hs154 hf155 => ?_
         have ho156 := (hf155 (49, _) (key_ne rfl) (fun _ _ => key_ne rfl)).trans ((hset_ne (key_ne rfl)).trans ho145)
         have ho157 := (hf155 (65, _) (key_ne rfl) (fun _ _ => key_ne rfl)).trans ((hset_ne (key_ne rfl)).trans ho146)
         have ho158 := (hf155 (73, _) (key_ne rfl) (fun _ _ => key_ne rfl)).trans (hset_self _ _ _)
         refine p_ren rfl hs154 fun v159 h160 c161 hs162 hf163 => ?_
         have ho164 := (hf163 (49, _) (key_ne rfl) (fun _ _ => key_ne rfl)).trans ho156
         have ho165 := (hf163 (65, _) (key_ne rfl) (fun _ _ => key_ne rfl)).trans ho157
         have ho166 := (hf163 (73, _) (key_ne rfl) (fun _ _ => key_ne rfl)).trans ho158
         refine p_end (hK150 _ ?_); clear hK150 K150
         refine seq_norm (hK148 _ ?_); clear hK148 K148
         refine pwp_seq_plain rfl fun K167 hK167 => ?_
         refine p_step rfl (e_move (v := _) rfl) trivial ?_
         refine p_step rfl (e_assign (v := _) rfl) trivial ?_
         refine p_end (hK167 _ ?_); clear hK167 K167
         refine pwp_ret ?_
         refine end1 (v := _) rfl ?_
         rw [reaR_of (p := p) (day := day) (U := uptoE evs day) (by assumption) (by assumption) (by assumption) (by assumption) (by assumption)]
         first | exact out_slice (by assumption) rfl (fun _ => rfl) (fun a q hq => by simp [ci] at hq; subst hq; exact ⟨.sc _, rfl⟩) | exact Out.nil 1
        ·have hb149R := hb149; try simp only [z1, z2, z3, z4, z5, z6, ne_eq, z7, z8, z9, z10, z11, z12] at hb149
         refine pwp_skip ?_
         refine seq_norm (hK148 _ ?_); clear hK148 K148
         refine pwp_seq_plain rfl fun K168 hK168 => ?_
         refine p_step rfl (e_move (v := _) rfl) trivial ?_
         refine p_step rfl (e_assign (v := _) rfl) trivial ?_
         refine p_end (hK168 _ ?_); clear hK168 K168
         refine pwp_ret ?_
         refine end1 (v := _) rfl ?_
         rw [reaR_of (p := p) (day := day) (U := uptoE evs day) (by assumption) (by assumption) (by assumption) (by assumption) (by assumption)]
         first | exact out_slice (by assumption) rfl (fun _ => rfl) (fun a q hq => by simp [ci] at hq; subst hq; exact ⟨.sc _, rfl⟩) | exact Out.nil 1
       ·have hb131R := hb131; try simp only [z1, z2, z3, z4, z5, z6, ne_eq, z7, z8, z9, z10, z11, z12] at hb131
        refine pwp_skip ?_
        refine seq_norm (hK130 _ ?_); clear hK130 K130
        refine pwp_seq_seq ?_
        refine pwp_seq_plain rfl fun K169 hK169 => ?_
        refine p_step rfl (e_move (v := .lit _ _ _) rfl) trivial ?_
        refine p_step rfl (e_move (v := .sc _) rfl) trivial ?_
        refine p_call rfl (.cons inn_lit (.cons inn_sc (.cons inn_sc (.cons inn_sc .nil)))) (opened _ _ _ _ (by first | omega | exact (Nat.le_trans (upto_len _ _) hl))) ?_
        refine p_step rfl (e_len rfl (by kernel_rfl)) trivial ?_
        refine p_step rfl (e_gt rfl rfl) trivial ?_
        refine p_end (hK169 _ ?_); clear hK169 K169
        refine pwp_seq_cond rfl fun K170 hK170 => ⟨fun hb171 => ?_, fun hb171 => ?_⟩
        ·have hb171R := hb171; try simp only [z1, z2, z3, z4, z5, z6, ne_eq, z7, z8, z9, z10, z11, z12] at hb171
         refine pwp_plain rfl fun K172 hK172 => ?_
         refine p_step rfl (e_move (v := _) rfl) trivial ?_
         refine p_new rfl (e_bslice (rows := [ci (4)]) (zs := [.int 0]) (sz := 1) (by kernel_rfl) (by kernel_rfl) rfl (by kernel_rfl) (by decide) rfl rfl (by exact ⟨by decide, rfl, rfl, trivial⟩) rfl) trivial ?_
         refine p_app rfl rfl rfl (hs42.keep fun _ => (hset_ne (key_ne rfl)).trans (rfl)) (src_ref (hset_self _ _ _) rfl) (by kernel_rfl) (by simp only [List.length_append, List.length_map, List.length_nil, List.length_cons]; omega) fun v173 h174 c175 hs176 hf177 => ?_
         have ho178 := (hf177 (49, _) (key_ne rfl) (fun _ _ => key_ne rfl)).trans ((hset_ne (key_ne rfl)).trans ho44)
         have ho179 := (hf177 (73, _) (key_ne rfl) (fun _ _ => key_ne rfl)).trans (hset_self _ _ _)
         refine p_ren rfl hs176 fun v180 h181 c182 hs183 hf184 => ?_
         have ho185 := (hf184 (49, _) (key_ne rfl) (fun _ _ => key_ne rfl)).trans ho178
         have ho186 := (hf184 (73, _) (key_ne rfl) (fun _ _ => key_ne rfl)).trans ho179
         refine p_end (hK172 _ ?_); clear hK172 K172
         refine seq_norm (hK170 _ ?_); clear hK170 K170
         refine pwp_seq_plain rfl fun K187 hK187 => ?_
         refine p_step rfl (e_move (v := _) rfl) trivial ?_
         refine p_step rfl (e_assign (v := _) rfl) trivial ?_
         refine p_end (hK187 _ ?_); clear hK187 K187
         refine pwp_ret ?_
         refine end1 (v := _) rfl ?_
         rw [reaR_of (p := p) (day := day) (U := uptoE evs day) (by assumption) (by assumption) (by assumption) (by assumption) (by assumption)]
         first | exact out_slice (by assumption) rfl (fun _ => rfl) (fun a q hq => by simp [ci] at hq; subst hq; exact ⟨.sc _, rfl⟩) | exact Out.nil 1
        ·have hb171R := hb171; try simp only [z1, z2, z3, z4, z5, z6, ne_eq, z7, z8, z9, z10, z11, z12] at hb171
         refine pwp_skip ?_
         refine seq_norm (hK170 _ ?_); clear hK170 K170
         refine pwp_seq_plain rfl fun K188 hK188 => ?_
         refine p_step rfl (e_move (v := _) rfl) trivial ?_
         refine p_step rfl (e_assign (v := _) rfl) trivial ?_
         refine p_end (hK188 _ ?_); clear hK188 K188
         refine pwp_ret ?_
         refine end1 (v := _) rfl ?_
         rw [reaR_of (p := p) (day := day) (U := uptoE evs day) (by assumption) (by assumption) (by assumption) (by assumption) (by assumption)]
         first | exact out_slice (by assumption) rfl (fun _ => rfl) (fun a q hq => by simp [ci] at hq; subst hq; exact ⟨.sc _, rfl⟩) | exact Out.nil 1
     ·have hb31R := hb31; try simp only [z1, z2, z3, z4, z5, z6, ne_eq, z7, z8, z9, z10, z11, z12] at hb31
      refine pwp_skip ?_
      refine seq_norm (hK30 _ ?_); clear hK30 K30
      refine pwp_seq_seq ?_
      refine pwp_seq_plain rfl fun K189 hK189 => ?_
      refine p_step rfl (e_move (v := .lit _ _ _) rfl) trivial ?_
      refine p_step rfl (e_move (v := .sc _) rfl) trivial ?_
      refine p_step rfl (e_move (v := .sc _) rfl) trivial ?_
      refine p_call rfl (.cons inn_lit (.cons inn_sc (.cons inn_sc .nil))) (freshR _ _ _ (by first | omega | exact (Nat.le_trans (upto_len _ _) hl)) (upto_days hev) hday) ?_
      refine p_step rfl (e_not rfl) trivial ?_
      refine p_end (hK189 _ ?_); clear hK189 K189
      refine pwp_seq_cond rfl fun K190 hK190 => ⟨fun hb191 => ?_, fun hb191 => ?_⟩
      ·have hb191R := hb191; try simp only [z1, z2, z3, z4, z5, z6, ne_eq, z7, z8, z9, z10, z11, z12] at hb191
       refine pwp_plain rfl fun K192 hK192 => ?_
       refine p_step rfl (e_move (v := _) rfl) trivial ?_
       refine p_new rfl (e_bslice (rows := [ci (2)]) (zs := [.int 0]) (sz := 1) (by kernel_rfl) (by kernel_rfl) rfl (by kernel_rfl) (by decide) rfl rfl (by exact ⟨by decide, rfl, rfl, trivial⟩) rfl) trivial ?_
       refine p_app rfl rfl rfl (hs22.keep fun _ => (hset_ne (key_ne rfl)).trans (rfl)) (src_ref (hset_self _ _ _) rfl) (by kernel_rfl) (by simp only [List.length_append, List.length_map, List.length_nil, List.length_cons]; omega) fun v193 h194 c195 hs196 hf197 => ?_
       have ho198 := (hf197 (57, _) (key_ne rfl) (fun _ _ => key_ne rfl)).trans (hset_self _ _ _)
       refine p_ren rfl hs196 fun v199 h200 c201 hs202 hf203 => ?_
       have ho204 := (hf203 (57, _) (key_ne rfl) (fun _ _ => key_ne rfl)).trans ho198
       refine p_end (hK192 _ ?_); clear hK192 K192
       refine seq_norm (hK190 _ ?_); clear hK190 K190
       refine pwp_seq_seq ?_
       refine pwp_seq_plain rfl fun K205 hK205 => ?_
       refine p_step rfl (e_move (v := .lit _ _ _) rfl) trivial ?_
       refine p_step rfl (e_move (v := .sc _) rfl) trivial ?_
       refine p_call rfl (.cons inn_lit (.cons inn_sc (.cons inn_sc (.cons inn_sc .nil)))) (opened _ _ _ _ (by first | omega | exact (Nat.le_trans (upto_len _ _) hl))) ?_
       refine p_step rfl (e_len rfl (by kernel_rfl)) trivial ?_
       refine p_step rfl (e_gt rfl rfl) trivial ?_
       refine p_end (hK205 _ ?_); clear hK205 K205
       refine pwp_seq_cond rfl fun K206 hK206 => ⟨fun hb207 => ?_, fun hb207 => ?_⟩
       ·have hb207R := hb207; try simp only [z1, z2, z3, z4, z5, z6, ne_eq, z7, z8, z9, z10, z11, z12] at hb207
        refine pwp_plain rfl fun K208 hK208 => ?_
        refine p_step rfl (e_move (v := _) rfl) trivial ?_
        refine p_new rfl (e_bslice (rows := [ci (3)]) (zs := [.int 0]) (sz := 1) (by kernel_rfl) (by kernel_rfl) rfl (by kernel_rfl) (by decide) rfl rfl (by exact ⟨by decide, rfl, rfl, trivial⟩) rfl) trivial ?_
        refine p_app rfl rfl rfl (hs202.keep fun _ => (hset_ne (key_ne rfl)).trans (rfl)) (src_ref (hset_self _ _ _) rfl) (by kernel_rfl) (by simp only [List.length_append, List.length_map, List.length_nil, List.length_cons]; omega) fun v209 h210 c211 hs212 hf213 => ?_
        have ho214 := (hf213 (57, _) (key_ne rfl) (fun _ _ => key_ne rfl)).trans ((hset_ne (key_ne rfl)).trans ho204)
        have ho215 := (hf213 (65, _) (key_ne rfl) (fun _ _ => key_ne rfl)).trans (hset_self _ _ _)
        refine p_ren rfl hs212 fun v216 h217 c218 hs219 hf220 => ?_
        have ho221 := (hf220 (57, _) (key_ne rfl) (fun _ _ => key_ne rfl)).trans ho214
        have ho222 := (hf220 (65, _) (key_ne rfl) (fun _ _ => key_ne rfl)).trans ho215
        refine p_end (hK208 _ ?_); clear hK208 K208
        refine seq_norm (hK206 _ ?_); clear hK206 K206
        refine pwp_seq_seq ?_
        refine pwp_seq_plain rfl fun K223 hK223 => ?_
        refine p_step rfl (e_move (v := .lit _ _ _) rfl) trivial ?_
        refine p_step rfl (e_move (v := .sc _) rfl) trivial ?_
        refine p_call rfl (.cons inn_lit (.cons inn_sc (.cons inn_sc (.cons inn_sc .nil)))) (opened _ _ _ _ (by first | omega | exact (Nat.le_trans (upto_len _ _) hl))) ?_
        refine p_step rfl (e_len rfl (by kernel_rfl)) trivial ?_
        refine p_step rfl (e_gt rfl rfl) trivial ?_
        refine p_end (hK223 _ ?_); clear hK223 K223
        refine pwp_seq_cond rfl fun K224 hK224 => ⟨fun hb225 => ?_, fun hb225 => ?_⟩
        ·have hb225R := hb225; try simp only [z1, z2, z3, z4, z5, z6, ne_eq, z7, z8, z9, z10, z11, z12] at hb225
         refine pwp_plain rfl fun K226 hK226 => ?_
         refine p_step rfl (e_move (v := _) rfl) trivial ?_
         refine p_new rfl (e_bslice (rows := [ci (4)]) (zs := [.int 0]) (sz := 1) (by kernel_rfl) (by kernel_rfl) rfl (by kernel_rfl) (by decide) rfl rfl (by exact ⟨by decide, rfl, rfl, trivial⟩) rfl) trivial ?_
         refine p_app rfl rfl rfl (hs219.keep fun _ => (hset_ne (key_ne rfl)).trans (rfl)) (src_ref (hset_self _ _ _) rfl) (by kernel_rfl) (by simp only [List.length_append, List.length_map, List.length_nil, List.length_cons]; omega) fun v227 h228 c229 hs230 hf231 => ?_
         have ho232 := (hf231 (57, _) (key_ne rfl) (fun _ _ => key_ne rfl)).trans ((hset_ne (key_ne rfl)).trans ho221)
         have ho233 := (hf231 (65, _) (key_ne rfl) (fun _ _ => key_ne rfl)).trans ((hset_ne (key_ne rfl)).trans ho222)
         have ho234 := (hf231 (73, _) (key_ne rfl) (fun _ _ => key_ne rfl)).trans (hset_self _ _ _)
         refine p_ren rfl hs230 fun v235 h236 c237 hs238 hf239 => ?_
         have ho240 := (hf239 (57, _) (key_ne rfl) (fun _ _ => key_ne rfl)).trans ho232
         have ho241 := (hf239 (65, _) (key_ne rfl) (fun _ _ => key_ne rfl)).trans ho233
         have ho242 := (hf239 (73, _) (key_ne rfl) (fun _ _ => key_ne rfl)).trans ho234
         refine p_end (hK226 _ ?_); clear hK226 K226
         refine seq_norm (hK224 _ ?_); clear hK224 K224
         refine pwp_seq_plain rfl fun K243 hK243 => ?_
         refine p_step rfl (e_move (v := _) rfl) trivial ?_
         refine p_step rfl (e_assign (v := _) rfl) trivial ?_
         refine p_end (hK243 _ ?_); clear hK243 K243
         refine pwp_ret ?_
         refine end1 (v := _) rfl ?_
         rw [reaR_of (p := p) (day := day) (U := uptoE evs day) (by assumption) (by assumption) (by assumption) (by assumption) (by assumption)]
         first | exact out_slice (by assumption) rfl (fun _ => rfl) (fun a q hq => by simp [ci] at hq; subst hq; exact ⟨.sc _, rfl⟩) | exact Out.nil 1
        ·have hb225R := hb225; try simp only [z1, z2, z3, z4, z5, z6, ne_eq, z7, z8, z9, z10, z11, z12] at hb225
         refine pwp_skip ?_
         refine seq_norm (hK224 _ ?_); clear hK224 K224
         refine pwp_seq_plain rfl fun K244 hK244 => ?_
         refine p_step rfl (e_move (v := _) rfl) trivial ?_
         refine p_step rfl (e_assign (v := _) rfl) trivial ?_
         refine p_end (hK244 _ ?_); clear hK244 K244
         refine pwp_ret ?_
         refine end1 (v := _) rfl ?_
         rw [reaR_of (p := p) (day := day) (U := uptoE evs day) (by assumption) (by assumption) (by assumption) (by assumption) (by assumption)]
         first | exact out_slice (by assumption) rfl (fun _ => rfl) (fun a q hq => by simp [ci] at hq; subst hq; exact ⟨.sc _, rfl⟩) | exact Out.nil 1
       ·have hb207R := hb207; try simp only [z1, z2, z3, z4, z5, z6, ne_eq, z7, z8, z9, z10, z11, z12] at hb207
        refine pwp_skip ?_
        refine seq_norm (hK206 _ ?_); clear hK206 K206
        refine pwp_seq_seq ?_
        refine pwp_seq_plain rfl fun K245 hK245 => ?_
        refine p_step rfl (e_move (v := .lit _ _ _) rfl) trivial ?_
        refine p_step rfl (e_move (v := .sc _) rfl) trivial ?_
        refine p_call rfl (.cons inn_lit (.cons inn_sc (.cons inn_sc (.cons inn_sc .nil)))) (opened _ _ _ _ (by first | omega | exact (Nat.le_trans (upto_len _ _) hl))) ?_
        refine p_step rfl (e_len rfl (by kernel_rfl)) trivial ?_
        refine p_step rfl (e_gt rfl rfl) trivial ?_
        refine p_end (hK245 _ ?_); clear hK245 K245
        refine pwp_seq_cond rfl fun K246 hK246 => ⟨fun hb247 => ?_, fun hb247 => ?_⟩
        ·have hb247R := hb247; try simp only [z1, z2, z3, z4, z5, z6, ne_eq, z7, z8, z9, z10, z11, z12] at hb247
         refine pwp_plain rfl fun K248 hK248 => ?_
         refine p_step rfl (e_move (v := _) rfl) trivial ?_
         refine p_new rfl (e_bslice (rows := [ci (4)]) (zs := [.int 0]) (sz := 1) (by kernel_rfl) (by kernel_rfl) rfl (by kernel_rfl) (by decide) rfl rfl (by exact ⟨by decide, rfl, rfl, trivial⟩) rfl) trivial ?_
         refine p_app rfl rfl rfl (hs202.keep fun _ => (hset_ne (key_ne rfl)).trans (rfl)) (src_ref (hset_self _ _ _) rfl) (by kernel_rfl) (by simp only [List.length_append, List.length_map, List.length_nil, List.length_cons]; omega) fun v249 h250 c251 hs252 hf253 => ?_
         have ho254 := (hf253 (57, _) (key_ne rfl) (fun _ _ => key_ne rfl)).trans ((hset_ne (key_ne rfl)).trans ho204)
         have ho255 := (hf253 (73, _) (key_ne rfl) (fun _ _ => key_ne rfl)).trans (hset_self _ _ _)
         refine p_ren rfl hs252 fun v256 h257 c258 hs259 hf260 => ?_
         have ho261 := (hf260 (57, _) (key_ne rfl) (fun _ _ => key_ne rfl)).trans ho254
         have ho262 := (hf260 (73, _) (key_ne rfl) (fun _ _ => key_ne rfl)).trans ho255
         refine p_end (hK248 _ ?_); clear hK248 K248
         refine seq_norm (hK246 _ ?_); clear hK246 K246
         refine pwp_seq_plain rfl fun K263 hK263 => ?_
         refine p_step rfl (e_move (v := _) rfl) trivial ?_
         refine p_step rfl (e_assign (v := _) rfl) trivial ?_
         refine p_end (hK263 _ ?_); clear hK263 K263
         refine pwp_ret ?_
         refine end1 (v := _) rfl ?_
         rw [reaR_of (p := p) (day := day) (U := uptoE evs day) (by assumption) (by assumption) (by assumption) (by assumption) (by assumption)]
         first | exact out_slice (by assumption) rfl (fun _ => rfl) (fun a q hq => by simp [ci] at hq; subst hq; exact ⟨.sc _, rfl⟩) | exact Out.nil 1
        ·have hb247R := hb247; try simp only [z1, z2, z3, z4, z5, z6, ne_eq, z7, z8, z9, z10, z11, z12] at hb247
         refine pwp_skip ?_
         refine seq_norm (hK246 _ ?_); clear hK246 K246
         refine pwp_seq_plain rfl fun K264 hK264 => ?_
         refine p_step rfl (e_move (v := _) rfl) trivial ?_
         refine p_step rfl (e_assign (v := _) rfl) trivial ?_
         refine p_end (hK264 _ ?_); clear hK264 K264
         refine pwp_ret ?_
         refine end1 (v := _) rfl ?_
         rw [reaR_of (p := p) (day := day) (U := uptoE evs day) (by assumption) (by assumption) (by assumption) (by assumption) (by assumption)]
         first | exact out_slice (by assumption) rfl (fun _ => rfl) (fun a q hq => by simp [ci] at hq; subst hq; exact ⟨.sc _, rfl⟩) | exact Out.nil 1
      ·have hb191R := hb191; try simp only [z1, z2, z3, z4, z5, z6, ne_eq, z7, z8, z9, z10, z11, z12] at hb191
       refine pwp_skip ?_
       refine seq_norm (hK190 _ ?_); clear hK190 K190
       refine pwp_seq_seq ?_
       refine pwp_seq_plain rfl fun K265 hK265 => ?_
       refine p_step rfl (e_move (v := .lit _ _ _) rfl) trivial ?_
       refine p_step rfl (e_move (v := .sc _) rfl) trivial ?_
       refine p_call rfl (.cons inn_lit (.cons inn_sc (.cons inn_sc (.cons inn_sc .nil)))) (opened _ _ _ _ (by first | omega | exact (Nat.le_trans (upto_len _ _) hl))) ?_
       refine p_step rfl (e_len rfl (by kernel_rfl)) trivial ?_
       refine p_step rfl (e_gt rfl rfl) trivial ?_
       refine p_end (hK265 _ ?_); clear hK265 K265
       refine pwp_seq_cond rfl fun K266 hK266 => ⟨fun hb267 => ?_, fun hb267 => ?_⟩
       ·have hb267R := hb267; try simp only [z1, z2, z3, z4, z5, z6, ne_eq, z7, z8, z9, z10, z11, z12] at hb267
        refine pwp_plain rfl fun K268 hK268 => ?_
        refine p_step rfl (e_move (v := _) rfl) trivial ?_
        refine p_new rfl (e_bslice (rows := [ci (3)]) (zs := [.int 0]) (sz := 1) (by kernel_rfl) (by kernel_rfl) rfl (by kernel_rfl) (by decide) rfl rfl (by exact ⟨by decide, rfl, rfl, trivial⟩) rfl) trivial ?_
        refine p_app rfl rfl rfl (hs22.keep fun _ => (hset_ne (key_ne rfl)).trans (rfl)) (src_ref (hset_self _ _ _) rfl) (by kernel_rfl) (by simp only [List.length_append, List.length_map, List.length_nil, List.length_cons]; omega) fun v269 h270 c271 hs272 hf273 => ?_
        have ho274 := (hf273 (65, _) (key_ne rfl) (fun _ _ => key_ne rfl)).trans (hset_self _ _ _)
        refine p_ren rfl hs272 fun v275 h276 c277 hs278 hf279 => ?_
        have ho280 := (hf279 (65, _) (key_ne rfl) (fun _ _ => key_ne rfl)).trans ho274
        refine p_end (hK268 _ ?_); clear hK268 K268
        refine seq_norm (hK266 _ ?_); clear hK266 K266
        refine pwp_seq_seq ?_
        refine pwp_seq_plain rfl fun K281 hK281 => ?_
        refine p_step rfl (e_move (v := .lit _ _ _) rfl) trivial ?_
        refine p_step rfl (e_move (v := .sc _) rfl) trivial ?_
        refine p_call rfl (.cons inn_lit (.cons inn_sc (.cons inn_sc (.cons inn_sc .nil)))) (opened _ _ _ _ (by first | omega | exact (Nat.le_trans (upto_len _ _) hl))) ?_
        refine p_step rfl (e_len rfl (by kernel_rfl)) trivial ?_
        refine p_step rfl (e_gt rfl rfl) trivial ?_
        refine p_end (hK281 _ ?_); clear hK281 K281
        refine pwp_seq_cond rfl fun K282 hK282 => ⟨fun hb283 => ?_, fun hb283 => ?_⟩
        ·have hb283R := hb283; try simp only [z1, z2, z3, z4, z5, z6, ne_eq, z7, z8, z9, z10, z11, z12] at hb283
         refine pwp_plain rfl fun K284 hK284 => ?_
         refine p_step rfl (e_move (v := _) rfl) trivial ?_
         refine p_new rfl (e_bslice (rows := [ci (4)]) (zs := [.int 0]) (sz := 1) (by kernel_rfl) (by kernel_rfl) rfl (by kernel_rfl) (by decide) rfl rfl (by exact ⟨by decide, rfl, rfl, trivial⟩) rfl) trivial ?_
         refine p_app rfl rfl rfl (hs278.keep fun _ => (hset_ne (key_ne rfl)).trans (rfl)) (src_ref (hset_self _ _ _) rfl) (by kernel_rfl) (by simp only [List.length_append, List.length_map, List.length_nil, List.length_cons]; omega) fun v285 h286 c287 hs288 hf289 => ?_
         have ho290 := (hf289 (65, _) (key_ne rfl) (fun _ _ => key_ne rfl)).trans ((hset_ne (key_ne rfl)).trans ho280)
         have ho291 := (hf289 (73, _) (key_ne rfl) (fun _ _ => key_ne rfl)).trans (hset_self _ _ _)
         refine p_ren rfl hs288 fun v292 h293 c294 hs295 hf296 => ?_
         have ho297 := (hf296 (65, _) (key_ne rfl) (fun _ _ => key_ne rfl)).trans ho290
         have ho298 := (hf296 (73, _) (key_ne rfl) (fun _ _ => key_ne rfl)).trans ho291
         refine p_end (hK284 _ ?_); clear hK284 K284
         refine seq_norm (hK282 _ ?_); clear hK282 K282
         refine pwp_seq_plain rfl fun K299 hK299 => ?_
         refine p_step rfl (e_move (v := _) rfl) trivial ?_
         refine p_step rfl (e_assign (v := _) rfl) trivial ?_
         refine p_end (hK299 _ ?_); clear hK299 K299
         refine pwp_ret ?_
         refine end1 (v := _) rfl ?_
         rw [reaR_of (p := p) (day := day) (U := uptoE evs day) (by assumption) (by assumption) (by assumption) (by assumption) (by assumption)]
         first | exact out_slice (by assumption) rfl (fun _ => rfl) (fun a q hq => by simp [ci] at hq; subst hq; exact ⟨.sc _, rfl⟩) | exact Out.nil 1
        ·have hb283R := hb283; try simp only [z1, z2, z3, z4, z5, z6, ne_eq, z7, z8, z9, z10, z11, z12] at hb283
         refine pwp_skip ?_
         refine seq_norm (hK282 _ ?_); clear hK282 K282
         refine pwp_seq_plain rfl fun K300 hK300 => ?_
         refine p_step rfl (e_move (v := _) rfl) trivial ?_
         refine p_step rfl (e_assign (v := _) rfl) trivial ?_
         refine p_end (hK300 _ ?_); clear hK300 K300
         refine pwp_ret ?_
         refine end1 (v := _) rfl ?_
         rw [reaR_of (p := p) (day := day) (U := uptoE evs day) (by assumption) (by assumption) (by assumption) (by assumption) (by assumption)]
         first | exact out_slice (by assumption) rfl (fun _ => rfl) (fun a q hq => by simp [ci] at hq; subst hq; exact ⟨.sc _, rfl⟩) | exact Out.nil 1
       ·have hb267R := hb267; try simp only [z1, z2, z3, z4, z5, z6, ne_eq, z7, z8, z9, z10, z11, z12] at hb267
        refine pwp_skip ?_
        refine seq_norm (hK266 _ ?_); clear hK266 K266
        refine pwp_seq_seq ?_
        refine pwp_seq_plain rfl fun K301 hK301 => ?_
        refine p_step rfl (e_move (v := .lit _ _ _) rfl) trivial ?_
        refine p_step rfl (e_move (v := .sc _) rfl) trivial ?_
        refine p_call rfl (.cons inn_lit (.cons inn_sc (.cons inn_sc (.cons inn_sc .nil)))) (opened _ _ _ _ (by first | omega | exact (Nat.le_trans (upto_len _ _) hl))) ?_
        refine p_step rfl (e_len rfl (by kernel_rfl)) trivial ?_
        refine p_step rfl (e_gt rfl rfl) trivial ?_
        refine p_end (hK301 _ ?_); clear hK301 K301
        refine pwp_seq_cond rfl fun K302 hK302 => ⟨fun hb303 => ?_, fun hb303 => ?_⟩
        ·have hb303R := hb303; try simp only [z1, z2, z3, z4, z5, z6, ne_eq, z7, z8, z9, z10, z11, z12] at hb303
         refine pwp_plain rfl fun K304 hK304 => ?_
         refine p_step rfl (e_move (v := _) rfl) trivial ?_
         refine p_new rfl (e_bslice (rows := [ci (4)]) (zs := [.int 0]) (sz := 1) (by kernel_rfl) (by kernel_rfl) rfl (by kernel_rfl) (by decide) rfl rfl (by exact ⟨by decide, rfl, rfl, trivial⟩) rfl) trivial ?_
         refine p_app rfl rfl rfl (hs22.keep fun _ => (hset_ne (key_ne rfl)).trans (rfl)) (src_ref (hset_self _ _ _) rfl) (by kernel_rfl) (by simp only [List.length_append, List.length_map, List.length_nil, List.length_cons]; omega) fun v305 h306 c307 hs308 hf309 => ?_
         have ho310 := (hf309 (73, _) (key_ne rfl) (fun _ _ => key_ne rfl)).trans (hset_self _ _ _)
         refine p_ren rfl hs308 fun v311 h312 c313 hs314 hf315 => ?_
         have ho316 := (hf315 (73, _) (key_ne rfl) (fun _ _ => key_ne rfl)).trans ho310
         refine p_end (hK304 _ ?_); clear hK304 K304
         refine seq_norm (hK302 _ ?_); clear hK302 K302
         refine pwp_seq_plain rfl fun K317 hK317 => ?_
         refine p_step rfl (e_move (v := _) rfl) trivial ?_
         refine p_step rfl (e_assign (v := _) rfl) trivial ?_
         refine p_end (hK317 _ ?_); clear hK317 K317
         refine pwp_ret ?_
         refine end1 (v := _) rfl ?_
         rw [reaR_of (p := p) (day := day) (U := uptoE evs day) (by assumption) (by assumption) (by assumption) (by assumption) (by assumption)]
         first | exact out_slice (by assumption) rfl (fun _ => rfl) (fun a q hq => by simp [ci] at hq; subst hq; exact ⟨.sc _, rfl⟩) | exact Out.nil 1
        ·have hb303R := hb303; try simp only [z1, z2, z3, z4, z5, z6, ne_eq, z7, z8, z9, z10, z11, z12] at hb303
         refine pwp_skip ?_
         refine seq_norm (hK302 _ ?_); clear hK302 K302
         refine pwp_seq_plain rfl fun K318 hK318 => ?_
         refine p_step rfl (e_move (v := _) rfl) trivial ?_
         refine p_step rfl (e_assign (v := _) rfl) trivial ?_
         refine p_end (hK318 _ ?_); clear hK318 K318
         refine pwp_ret ?_
         refine end1 (v := _) rfl ?_
         rw [reaR_of (p := p) (day := day) (U := uptoE evs day) (by assumption) (by assumption) (by assumption) (by assumption) (by assumption)]
         first | exact out_slice (by assumption) rfl (fun _ => rfl) (fun a q hq => by simp [ci] at hq; subst hq; exact ⟨.sc _, rfl⟩) | exact Out.nil 1
   ·have hb11R := hb11; try simp only [z1, z2, z3, z4, z5, z6, ne_eq, z7, z8, z9, z10, z11, z12] at hb11
    refine pwp_skip ?_
    refine seq_norm (hK10 _ ?_); clear hK10 K10
    refine pwp_seq_seq ?_
    refine pwp_seq_cutG [0, 1, 2, 10] [(47, .bool (((decide ((lastE (0) p (-1) 0 (uptoE (evs) day)) < (0))) || (decide ((lastE (1) p (-1) 0 (uptoE (evs) day)) < (lastE (0) p (-1) 0 (uptoE (evs) day))))) || (!(rdE (uptoE evs day) (lastE (1) p (-1) 0 (uptoE (evs) day))).passed)))] (fun K319 hK319 => ?_) (fun r320 => ?_)
    ·skip
     refine pwp_gops rfl fun K321 hK321 => ?_
     refine g_begin ?_
     refine g_step rfl rfl rfl rfl (e_move (v := .sc _) rfl) trivial ?_
     refine g_step rfl rfl rfl rfl (e_lt rfl rfl) trivial ?_
     refine g_step rfl rfl rfl rfl (e_move (v := .sc _) rfl) trivial ?_
     refine g_cases (fun hb322 => ?_) (fun hb322 => ?_)
     ·have hb322R := hb322; try simp only [z1, z2, z3, z4, z5, z6, ne_eq, z7, z8, z9, z10, z11, z12] at hb322
      refine g_skip rfl rfl rfl ?_
      refine g_skip rfl rfl rfl ?_
      refine g_skip rfl rfl rfl ?_
      refine g_step rfl rfl rfl rfl (e_pickT (v := .sc _) rfl rfl) trivial ?_
      refine g_step rfl rfl rfl rfl (e_move (v := .sc _) rfl) trivial ?_
      refine g_skip rfl rfl rfl ?_
      refine g_skip rfl rfl rfl ?_
      refine g_skip rfl rfl rfl ?_
      refine g_skip rfl rfl rfl ?_
      refine g_skip rfl rfl rfl ?_
      refine g_skip rfl rfl rfl ?_
      refine g_step rfl rfl rfl rfl (e_pickT (v := .sc _) rfl rfl) trivial ?_
      refine g_end (ds := [36, 37, 38, 41, 42, 43, 44, 45, 46]) rfl rfl (hK321 _ ?_); clear hK321 K321
      exact seq_norm (hK319 _ ⟨rfl, rfl, rfl, rfl, trivial⟩ ⟨(congrArg PV.bool (show (true : Bool) = (((decide ((lastE (0) p (-1) 0 (uptoE (evs) day)) < (0))) || (decide ((lastE (1) p (-1) 0 (uptoE (evs) day)) < (lastE (0) p (-1) 0 (uptoE (evs) day))))) || (!(rdE (uptoE evs day) (lastE (1) p (-1) 0 (uptoE (evs) day))).passed)) by first | rfl | ((try rw [hb322R]) <;> (first | rfl | (simp only [Bool.and_true, Bool.and_false, Bool.true_and, Bool.false_and, Bool.or_true, Bool.or_false, Bool.true_or, Bool.false_or, Bool.not_true, Bool.not_false, if_true, if_false, Bool.false_eq_true, reduceIte] <;> rfl))) | (simp only [hb322R, Bool.and_true, Bool.and_false, Bool.true_and, Bool.false_and, Bool.or_true, Bool.or_false, Bool.true_or, Bool.false_or, Bool.not_true, Bool.not_false, if_true, if_false, Bool.false_eq_true, reduceIte] <;> rfl))), trivial⟩)
     ·have hb322R := hb322; try simp only [z1, z2, z3, z4, z5, z6, ne_eq, z7, z8, z9, z10, z11, z12] at hb322
      refine g_step rfl rfl rfl rfl (e_move (v := .sc _) rfl) trivial ?_
      refine g_step rfl rfl rfl rfl (e_move (v := .sc _) rfl) trivial ?_
      refine g_step rfl rfl rfl rfl (e_lt rfl rfl) trivial ?_
      refine g_step rfl rfl rfl rfl (e_pickF (v := .sc _) rfl rfl) trivial ?_
      refine g_step rfl rfl rfl rfl (e_move (v := .sc _) rfl) trivial ?_
      refine g_cases (fun hb323 => ?_) (fun hb323 => ?_)
      ·have hb323R := hb323; try simp only [z1, z2, z3, z4, z5, z6, ne_eq, z7, z8, z9, z10, z11, z12] at hb323
       refine g_skip rfl rfl rfl ?_
       refine g_skip rfl rfl rfl ?_
       refine g_skip rfl rfl rfl ?_
       refine g_skip rfl rfl rfl ?_
       refine g_skip rfl rfl rfl ?_
       refine g_skip rfl rfl rfl ?_
       refine g_step rfl rfl rfl rfl (e_pickT (v := .sc _) rfl rfl) trivial ?_
       refine g_end (ds := [36, 37, 38, 41, 42, 43, 44, 45, 46]) rfl rfl (hK321 _ ?_); clear hK321 K321
       exact seq_norm (hK319 _ ⟨rfl, rfl, rfl, rfl, trivial⟩ ⟨(congrArg PV.bool (show (true : Bool) = (((decide ((lastE (0) p (-1) 0 (uptoE (evs) day)) < (0))) || (decide ((lastE (1) p (-1) 0 (uptoE (evs) day)) < (lastE (0) p (-1) 0 (uptoE (evs) day))))) || (!(rdE (uptoE evs day) (lastE (1) p (-1) 0 (uptoE (evs) day))).passed)) by first | rfl | ((try rw [hb323R]) <;> (try rw [hb322R]) <;> (first | rfl | (simp only [Bool.and_true, Bool.and_false, Bool.true_and, Bool.false_and, Bool.or_true, Bool.or_false, Bool.true_or, Bool.false_or, Bool.not_true, Bool.not_false, if_true, if_false, Bool.false_eq_true, reduceIte] <;> rfl))) | (simp only [hb322R, hb323R, Bool.and_true, Bool.and_false, Bool.true_and, Bool.false_and, Bool.or_true, Bool.or_false, Bool.true_or, Bool.false_or, Bool.not_true, Bool.not_false, if_true, if_false, Bool.false_eq_true, reduceIte] <;> rfl))), trivial⟩)
      ·have hb323R := hb323; try simp only [z1, z2, z3, z4, z5, z6, ne_eq, z7, z8, z9, z10, z11, z12] at hb323
       refine g_step rfl rfl rfl rfl (e_move (v := .lit _ _ _) rfl) trivial ?_
       refine g_step rfl rfl rfl rfl (e_move (v := .sc _) rfl) trivial ?_
       refine g_step rfl rfl rfl rfl (e_ixa rfl rfl (by kernel_rfl) (by kernel_rfl) (by simp only [List.length_map]; omega)) trivial ?_
       refine g_step rfl rfl rfl rfl (e_fa (pl := [(0, 1, false), (1, 1, false), (2, 1, false), (3, 1, false), (4, 1, false), (5, 1, false)]) rfl (by kernel_rfl) (by kernel_rfl) (by decide) rfl) trivial ?_
       refine g_step rfl rfl rfl rfl (e_load (v := .sc _) rfl (by kernel_rfl) (by kernel_rfl) (by kernel_rfl) (by simp only [List.length_map]; omega) (by decide) ((cell_map (rdE_get (by omega)) _).trans rfl)) trivial ?_
       refine g_step rfl rfl rfl rfl (e_not rfl) trivial ?_
       refine g_step rfl rfl rfl rfl (e_pickF (v := .sc _) rfl rfl) trivial ?_
       refine g_end (ds := [36, 37, 38, 41, 42, 43, 44, 45, 46]) rfl rfl (hK321 _ ?_); clear hK321 K321
       exact seq_norm (hK319 _ ⟨rfl, rfl, rfl, rfl, trivial⟩ ⟨(congrArg PV.bool (show ((!(rdE (uptoE evs day) (lastE (1) p (-1) 0 (uptoE (evs) day))).passed) : Bool) = (((decide ((lastE (0) p (-1) 0 (uptoE (evs) day)) < (0))) || (decide ((lastE (1) p (-1) 0 (uptoE (evs) day)) < (lastE (0) p (-1) 0 (uptoE (evs) day))))) || (!(rdE (uptoE evs day) (lastE (1) p (-1) 0 (uptoE (evs) day))).passed)) by first | rfl | ((try rw [hb323R]) <;> (try rw [hb322R]) <;> (first | rfl | (simp only [Bool.and_true, Bool.and_false, Bool.true_and, Bool.false_and, Bool.or_true, Bool.or_false, Bool.true_or, Bool.false_or, Bool.not_true, Bool.not_false, if_true, if_false, Bool.false_eq_true, reduceIte] <;> rfl))) | (simp only [hb322R, hb323R, Bool.and_true, Bool.and_false, Bool.true_and, Bool.false_and, Bool.or_true, Bool.or_false, Bool.true_or, Bool.false_or, Bool.not_true, Bool.not_false, if_true, if_false, Bool.false_eq_true, reduceIte] <;> rfl))), trivial⟩)
    ·skip
     refine pwp_seq_cond rfl fun K324 hK324 => ⟨fun hb325 => ?_, fun hb325 => ?_⟩
     ·have hb325R := hb325; try simp only [z1, z2, z3, z4, z5, z6, ne_eq, z7, z8, z9, z10, z11, z12] at hb325
      refine pwp_plain rfl fun K326 hK326 => ?_
      refine p_step rfl (e_move (v := .nil) rfl) trivial ?_
      refine p_new rfl (e_bslice (rows := [ci (1)]) (zs := [.int 0]) (sz := 1) (by kernel_rfl) (by kernel_rfl) rfl (by kernel_rfl) (by decide) rfl rfl (by exact ⟨by decide, rfl, rfl, trivial⟩) rfl) trivial ?_
      refine p_app (d1 := 50) rfl rfl rfl .nil (src_ref (hset_self _ _ _) rfl) (by kernel_rfl) (by simp only [List.length_append, List.length_map, List.length_nil, List.length_cons]; omega) fun v327 h328 c329 hs330 hf331 => ?_
      have ho332 := (hf331 (49, _) (key_ne rfl) (fun _ _ => key_ne rfl)).trans (hset_self _ _ _)
      refine p_ren rfl hs330 fun v333 h334 c335 hs336 hf337 => ?_
      have ho338 := (hf337 (49, _) (key_ne rfl) (fun _ _ => key_ne rfl)).trans ho332
      refine p_end (hK326 _ ?_); clear hK326 K326
      refine seq_norm (hK324 _ ?_); clear hK324 K324
      refine pwp_seq_seq ?_
      refine pwp_seq_plain rfl fun K339 hK339 => ?_
      refine p_step rfl (e_move (v := .lit _ _ _) rfl) trivial ?_
      refine p_step rfl (e_move (v := .sc _) rfl) trivial ?_
      refine p_step rfl (e_move (v := .sc _) rfl) trivial ?_
      refine p_call rfl (.cons inn_lit (.cons inn_sc (.cons inn_sc .nil))) (freshR _ _ _ (by first | omega | exact (Nat.le_trans (upto_len _ _) hl)) (upto_days hev) hday) ?_
      refine p_step rfl (e_not rfl) trivial ?_
      refine p_end (hK339 _ ?_); clear hK339 K339
      refine pwp_seq_cond rfl fun K340 hK340 => ⟨fun hb341 => ?_, fun hb341 => ?_⟩
      ·have hb341R := hb341; try simp only [z1, z2, z3, z4, z5, z6, ne_eq, z7, z8, z9, z10, z11, z12] at hb341
       refine pwp_plain rfl fun K342 hK342 => ?_
       refine p_step rfl (e_move (v := _) rfl) trivial ?_
       refine p_new rfl (e_bslice (rows := [ci (2)]) (zs := [.int 0]) (sz := 1) (by kernel_rfl) (by kernel_rfl) rfl (by kernel_rfl) (by decide) rfl rfl (by exact ⟨by decide, rfl, rfl, trivial⟩) rfl) trivial ?_
       refine p_app rfl rfl rfl (hs336.keep fun _ => (hset_ne (key_ne rfl)).trans (rfl)) (src_ref (hset_self _ _ _) rfl) (by kernel_rfl) (by simp only [List.length_append, List.length_map, List.length_nil, List.length_cons]; omega) fun v343 h344 c345 hs346 hf347 => ?_
       have ho348 := (hf347 (49, _) (key_ne rfl) (fun _ _ => key_ne rfl)).trans ((hset_ne (key_ne rfl)).trans ho338)
       have ho349 := (hf347 (57, _) (key_ne rfl) (fun _ _ => key_ne rfl)).trans (hset_self _ _ _)
       refine p_ren rfl hs346 fun v350 h351 c352 hs353 hf354 => ?_
       have ho355 := (hf354 (49, _) (key_ne rfl) (fun _ _ => key_ne rfl)).trans ho348
       have ho356 := (hf354 (57, _) (key_ne rfl) (fun _ _ => key_ne rfl)).trans ho349
       refine p_end (hK342 _ ?_); clear hK342 K342
       refine seq_norm (hK340 _ ?_); clear hK340 K340
       refine pwp_seq_seq ?_
       refine pwp_seq_plain rfl fun K357 hK357 => ?_
       refine p_step rfl (e_move (v := .lit _ _ _) rfl) trivial ?_
       refine p_step rfl (e_move (v := .sc _) rfl) trivial ?_
       refine p_call rfl (.cons inn_lit (.cons inn_sc (.cons inn_sc (.cons inn_sc .nil)))) (opened _ _ _ _ (by first | omega | exact (Nat.le_trans (upto_len _ _) hl))) ?_
       refine p_step rfl (e_len rfl (by kernel_rfl)) trivial ?_
       refine p_step rfl (e_gt rfl rfl) trivial ?_
       refine p_end (hK357 _ ?_); clear hK357 K357
       refine pwp_seq_cond rfl fun K358 hK358 => ⟨fun hb359 => ?_, fun hb359 => ?_⟩
       ·have hb359R := hb359; try simp only [z1, z2, z3, z4, z5, z6, ne_eq, z7, z8, z9, z10, z11, z12] at hb359
        refine pwp_plain rfl fun K360 hK360 => ?_
        refine p_step rfl (e_move (v := _) rfl) trivial ?_
        refine p_new rfl (e_bslice (rows := [ci (3)]) (zs := [.int 0]) (sz := 1) (by kernel_rfl) (by kernel_rfl) rfl (by kernel_rfl) (by decide) rfl rfl (by exact ⟨by decide, rfl, rfl, trivial⟩) rfl) trivial ?_
        refine p_app rfl rfl rfl (hs353.keep fun _ => (hset_ne (key_ne rfl)).trans (rfl)) (src_ref (hset_self _ _ _) rfl) (by kernel_rfl) (by simp only [List.length_append, List.length_map, List.length_nil, List.length_cons]; omega) fun v361 h362 c363 hs364 hf365 => ?_
        have ho366 := (hf365 (49, _) (key_ne rfl) (fun _ _ => key_ne rfl)).trans ((hset_ne (key_ne rfl)).trans ho355)
        have ho367 := (hf365 (57, _) (key_ne rfl) (fun _ _ => key_ne rfl)).trans ((hset_ne (key_ne rfl)).trans ho356)
        have ho368 := (hf365 (65, _) (key_ne rfl) (fun _ _ => key_ne rfl)).trans (hset_self _ _ _)
        refine p_ren rfl hs364 fun v369 h370 c371 hs372 hf373 => ?_
        have ho374 := (hf373 (49, _) (key_ne rfl) (fun _ _ => key_ne rfl)).trans ho366
        have ho375 := (hf373 (57, _) (key_ne rfl) (fun _ _ => key_ne rfl)).trans ho367
        have ho376 := (hf373 (65, _) (key_ne rfl) (fun _ _ => key_ne rfl)).trans ho368
        refine p_end (hK360 _ ?_); clear hK360 K360
        refine seq_norm (hK358 _ ?_); clear hK358 K358
        refine pwp_seq_seq ?_
        refine pwp_seq_plain rfl fun K377 hK377 => ?_
        refine p_step rfl (e_move (v := .lit _ _ _) rfl) trivial ?_
        refine p_step rfl (e_move (v := .sc _) rfl) trivial ?_
        refine p_call rfl (.cons inn_lit (.cons inn_sc (.cons inn_sc (.cons inn_sc .nil)))) (opened _ _ _ _ (by first | omega | exact (Nat.le_trans (upto_len _ _) hl))) ?_
        refine p_step rfl (e_len rfl (by kernel_rfl)) trivial ?_
        refine p_step rfl (e_gt rfl rfl) trivial ?_
        refine p_end (hK377 _ ?_); clear hK377 K377
        refine pwp_seq_cond rfl fun K378 hK378 => ⟨fun hb379 => ?_, fun hb379 => ?_⟩
        ·have hb379R := hb379; try simp only [z1, z2, z3, z4, z5, z6, ne_eq, z7, z8, z9, z10, z11, z12] at hb379
         refine pwp_plain rfl fun K380 hK380 => ?_
         refine p_step rfl (e_move (v := _) rfl) trivial ?_
         refine p_new rfl (e_bslice (rows := [ci (4)]) (zs := [.int 0]) (sz := 1) (by kernel_rfl) (by kernel_rfl) rfl (by kernel_rfl) (by decide) rfl rfl (by exact ⟨by decide, rfl, rfl, trivial⟩) rfl) trivial ?_
         refine p_app rfl rfl rfl (hs372.keep fun _ => (hset_ne (key_ne rfl)).trans (rfl)) (src_ref (hset_self _ _ _) rfl) (by kernel_rfl) (by simp only [List.length_append, List.length_map, List.length_nil, List.length_cons]; omega) fun v381 h382 c383 hs384 hf385 => ?_
         have ho386 := (hf385 (49, _) (key_ne rfl) (fun _ _ => key_ne rfl)).trans ((hset_ne (key_ne rfl)).trans ho374)
         have ho387 := (hf385 (57, _) (key_ne rfl) (fun _ _ => key_ne rfl)).trans ((hset_ne (key_ne rfl)).trans ho375)
         have ho388 := (hf385 (65, _) (key_ne rfl) (fun _ _ => key_ne rfl)).trans ((hset_ne (key_ne rfl)).trans ho376)
         have ho389 := (hf385 (73, _) (key_ne rfl) (fun _ _ => key_ne rfl)).trans (hset_self _ _ _)
         refine p_ren rfl hs384 fun v390 h391 c392 hs393 hf394 => ?_
         have ho395 := (hf394 (49, _) (key_ne rfl) (fun _ _ => key_ne rfl)).trans ho386
         have ho396 := (hf394 (57, _) (key_ne rfl) (fun _ _ => key_ne rfl)).trans ho387
         have ho397 := (hf394 (65, _) (key_ne rfl) (fun _ _ => key_ne rfl)).trans ho388
         have ho398 := (hf394 (73, _) (key_ne rfl) (fun _ _ => key_ne rfl)).trans ho389
         refine p_end (hK380 _ ?_); clear hK380 K380
         refine seq_norm (hK378 _ ?_); clear hK378 K378
         refine pwp_seq_plain rfl fun K399 hK399 => ?_
         refine p_step rfl (e_move (v := _) rfl) trivial ?_
         refine p_step rfl (e_assign (v := _) rfl) trivial ?_
         refine p_end (hK399 _ ?_); clear hK399 K399
         refine pwp_ret ?_
         refine end1 (v := _) rfl ?_
         rw [reaR_of (p := p) (day := day) (U := uptoE evs day) (by assumption) (by assumption) (by assumption) (by assumption) (by assumption)]
         first | exact out_slice (by assumption) rfl (fun _ => rfl) (fun a q hq => by simp [ci] at hq; subst hq; exact ⟨.sc _, rfl⟩) | exact Out.nil 1
        ·have hb379R := hb379; try simp only [z1, z2, z3, z4, z5, z6, ne_eq, z7, z8, z9, z10, z11, z12] at hb379
         refine pwp_skip ?_
         refine seq_norm (hK378 _ ?_); clear hK378 K378
         refine pwp_seq_plain rfl fun K400 hK400 => ?_
         refine p_step rfl (e_move (v := _) rfl) trivial ?_
         refine p_step rfl (e_assign (v := _) rfl) trivial ?_
         refine p_end (hK400 _ ?_); clear hK400 K400
         refine pwp_ret ?_
         refine end1 (v := _) rfl ?_
         rw [reaR_of (p := p) (day := day) (U := uptoE evs day) (by assumption) (by assumption) (by assumption) (by assumption) (by assumption)]
         first | exact out_slice (by assumption) rfl (fun _ => rfl) (fun a q hq => by simp [ci] at hq; subst hq; exact ⟨.sc _, rfl⟩) | exact Out.nil 1
       ·have hb359R := hb359; try simp only [z1, z2, z3, z4, z5, z6, ne_eq, z7, z8, z9, z10, z11, z12] at hb359
        refine pwp_skip ?_
        refine seq_norm (hK358 _ ?_); clear hK358 K358
        refine pwp_seq_seq ?_
        refine pwp_seq_plain rfl fun K401 hK401 => ?_
        refine p_step rfl (e_move (v := .lit _ _ _) rfl) trivial ?_
        refine p_step rfl (e_move (v := .sc _) rfl) trivial ?_
        refine p_call rfl (.cons inn_lit (.cons inn_sc (.cons inn_sc (.cons inn_sc .nil)))) (opened _ _ _ _ (by first | omega | exact (Nat.le_trans (upto_len _ _) hl))) ?_
        refine p_step rfl (e_len rfl (by kernel_rfl)) trivial ?_
        refine p_step rfl (e_gt rfl rfl) trivial ?_
        refine p_end (hK401 _ ?_); clear hK401 K401
        refine pwp_seq_cond rfl fun K402 hK402 => ⟨fun hb403 => ?_, fun hb403 => ?_⟩
        ·have hb403R := hb403; try simp only [z1, z2, z3, z4, z5, z6, ne_eq, z7, z8, z9, z10, z11, z12] at hb403
         refine pwp_plain rfl fun K404 hK404 => ?_
         refine p_step rfl (e_move (v := _) rfl) trivial ?_
         refine p_new rfl (e_bslice (rows := [ci (4)]) (zs := [.int 0]) (sz := 1) (by kernel_rfl) (by kernel_rfl) rfl (by kernel_rfl) (by decide) rfl rfl (by exact ⟨by decide, rfl, rfl, trivial⟩) rfl) trivial ?_
         refine p_app rfl rfl rfl (hs353.keep fun _ => (hset_ne (key_ne rfl)).trans (rfl)) (src_ref (hset_self _ _ _) rfl) (by kernel_rfl) (by simp only [List.length_append, List.length_map, List.length_nil, List.length_cons]; omega) fun v405 h406 c407 hs408 hf409 => ?_
         have ho410 := (hf409 (49, _) (key_ne rfl) (fun _ _ => key_ne rfl)).trans ((hset_ne (key_ne rfl)).trans ho355)
         have ho411 := (hf409 (57, _) (key_ne rfl) (fun _ _ => key_ne rfl)).trans ((hset_ne (key_ne rfl)).trans ho356)
         have ho412 := (hf409 (73, _) (key_ne rfl) (fun _ _ => key_ne rfl)).trans (hset_self _ _ _)
         refine p_ren rfl hs408 fun v413 h414 c415 hs416 hf417 => ?_
         have ho418 := (hf417 (49, _) (key_ne rfl) (fun _ _ => key_ne rfl)).trans ho410
         have ho419 := (hf417 (57, _) (key_ne rfl) (fun _ _ => key_ne rfl)).trans ho411
         have ho420 := (hf417 (73, _) (key_ne rfl) (fun _ _ => key_ne rfl)).trans ho412
         refine p_end (hK404 _ ?_); clear hK404 K404
         refine seq_norm (hK402 _ ?_); clear hK402 K402
         refine pwp_seq_plain rfl fun K421 hK421 => ?_
         refine p_step rfl (e_move (v := _) rfl) trivial ?_
         refine p_step rfl (e_assign (v := _) rfl) trivial ?_
         refine p_end (hK421 _ ?_); clear hK421 K421
         refine pwp_ret ?_
         refine end1 (v := _) rfl ?_
         rw [reaR_of (p := p) (day := day) (U := uptoE evs day) (by assumption) (by assumption) (by assumption) (by assumption) (by assumption)]
         first | exact out_slice (by assumption) rfl (fun _ => rfl) (fun a q hq => by simp [ci] at hq; subst hq; exact ⟨.sc _, rfl⟩) | exact Out.nil 1
        ·have hb403R := hb403; try simp only [z1, z2, z3, z4, z5, z6, ne_eq, z7, z8, z9, z10, z11, z12] at hb403
         refine pwp_skip ?_
         refine seq_norm (hK402 _ ?_); clear hK402 K402
         refine pwp_seq_plain rfl fun K422 hK422 => ?_
         refine p_step rfl (e_move (v := _) rfl) trivial ?_
         refine p_step rfl (e_assign (v := _) rfl) trivial ?_
         refine p_end (hK422 _ ?_); clear hK422 K422
         refine pwp_ret ?_
         refine end1 (v := _) rfl ?_
         rw [reaR_of (p := p) (day := day) (U := uptoE evs day) (by assumption) (by assumption) (by assumption) (by assumption) (by assumption)]
         first | exact out_slice (by assumption) rfl (fun _ => rfl) (fun a q hq => by simp [ci] at hq; subst hq; exact ⟨.sc _, rfl⟩) | exact Out.nil 1
      ·have hb341R := hb341; try simp only [z1, z2, z3, z4, z5, z6, ne_eq, z7, z8, z9, z10, z11, z12] at hb341
       refine pwp_skip ?_
       refine seq_norm (hK340 _ ?_); clear hK340 K340
       refine pwp_seq_seq ?_
       refine pwp_seq_plain rfl fun K423 hK423 => ?_
       refine p_step rfl (e_move (v := .lit _ _ _) rfl) trivial ?_
       refine p_step rfl (e_move (v := .sc _) rfl) trivial ?_
       refine p_call rfl (.cons inn_lit (.cons inn_sc (.cons inn_sc (.cons inn_sc .nil)))) (opened _ _ _ _ (by first | omega | exact (Nat.le_trans (upto_len _ _) hl))) ?_
       refine p_step rfl (e_len rfl (by kernel_rfl)) trivial ?_
       refine p_step rfl (e_gt rfl rfl) trivial ?_
       refine p_end (hK423 _ ?_); clear hK423 K423
       refine pwp_seq_cond rfl fun K424 hK424 => ⟨fun hb425 => ?_, fun hb425 => ?_⟩
       ·have hb425R := hb425; try simp only [z1, z2, z3, z4, z5, z6, ne_eq, z7, z8, z9, z10, z11, z12] at hb425
        refine pwp_plain rfl fun K426 hK426 => ?_
        refine p_step rfl (e_move (v := _) rfl) trivial ?_
        refine p_new rfl (e_bslice (rows := [ci (3)]) (zs := [.int 0]) (sz := 1) (by kernel_rfl) (by kernel_rfl) rfl (by kernel_rfl) (by decide) rfl rfl (by exact ⟨by decide, rfl, rfl, trivial⟩) rfl) trivial ?_
        refine p_app rfl rfl rfl (hs336.keep fun _ => (hset_ne (key_ne rfl)).trans (rfl)) (src_ref (hset_self _ _ _) rfl) (by kernel_rfl) (by simp only [List.length_append, List.length_map, List.length_nil, List.length_cons]; omega) fun v427 h428 c429 hs430 hf431 => ?_
        have ho432 := (hf431 (49, _) (key_ne rfl) (fun _ _ => key_ne rfl)).trans ((hset_ne (key_ne rfl)).trans ho338)
        have ho433 := (hf431 (65, _) (key_ne rfl) (fun _ _ => key_ne rfl)).trans (hset_self _ _ _)
        refine p_ren rfl hs430 fun v434 h435 c436 hs437 hf438 => ?_
        have ho439 := (hf438 (49, _) (key_ne rfl) (fun _ _ => key_ne rfl)).trans ho432
        have ho440 := (hf438 (65, _) (key_ne rfl) (fun _ _ => key_ne rfl)).trans ho433
        refine p_end (hK426 _ ?_); clear hK426 K426
        refine seq_norm (hK424 _ ?_); clear hK424 K424
        refine pwp_seq_seq ?_
        refine pwp_seq_plain rfl fun K441 hK441 => ?_
        refine p_step rfl (e_move (v := .lit _ _ _) rfl) trivial ?_
        refine p_step rfl (e_move (v := .sc _) rfl) trivial ?_
        refine p_call rfl (.cons inn_lit (.cons inn_sc (.cons inn_sc (.cons inn_sc .nil)))) (opened _ _ _ _ (by first | omega | exact (Nat.le_trans (upto_len _ _) hl))) ?_
        refine p_step rfl (e_len rfl (by kernel_rfl)) trivial ?_
        refine p_step rfl (e_gt rfl rfl) trivial ?_
        refine p_end (hK441 _ ?_); clear hK441 K441
        refine pwp_seq_cond rfl fun K442 hK442 => ⟨fun hb443 => ?_, fun hb443 => ?_⟩
        ·have hb443R := hb443; try simp only [z1, z2, z3, z4, z5, z6, ne_eq, z7, z8, z9, z10, z11, z12] at hb443
         refine pwp_plain rfl fun K444 hK444 => ?_
         refine p_step rfl (e_move (v := _) rfl) trivial ?_
         refine p_new rfl (e_bslice (rows := [ci (4)]) (zs := [.int 0]) (sz := 1) (by kernel_rfl) (by kernel_rfl) rfl (by kernel_rfl) (by decide) rfl rfl (by exact ⟨by decide, rfl, rfl, trivial⟩) rfl) trivial ?_
         refine p_app rfl rfl rfl (hs437.keep fun _ => (hset_ne (key_ne rfl)).trans (rfl)) (src_ref (hset_self _ _ _) rfl) (by kernel_rfl) (by simp only [List.length_append, List.length_map, List.length_nil, List.length_cons]; omega) fun v445 h446 c447 hs448 hf449 => ?_
         have ho450 := (hf449 (49, _) (key_ne rfl) (fun _ _ => key_ne rfl)).trans ((hset_ne (key_ne rfl)).trans ho439)
         have ho451 := (hf449 (65, _) (key_ne rfl) (fun _ _ => key_ne rfl)).trans ((hset_ne (key_ne rfl)).trans ho440)
         have ho452 := (hf449 (73, _) (key_ne rfl) (fun _ _ => key_ne rfl)).trans (hset_self _ _ _)
         refine p_ren rfl hs448 fun v453 h454 c455 hs456 hf457 => ?_
         have ho458 := (hf457 (49, _) (key_ne rfl) (fun _ _ => key_ne rfl)).trans ho450
         have ho459 := (hf457 (65, _) (key_ne rfl) (fun _ _ => key_ne rfl)).trans ho451
         have ho460 := (hf457 (73, _) (key_ne rfl) (fun _ _ => key_ne rfl)).trans ho452
         refine p_end (hK444 _ ?_); clear hK444 K444
         refine seq_norm (hK442 _ ?_); clear hK442 K442
         refine pwp_seq_plain rfl fun K461 hK461 => ?_
         refine p_step rfl (e_move (v := _) rfl) trivial ?_
         refine p_step rfl (e_assign (v := _) rfl) trivial ?_
         refine p_end (hK461 _ ?_); clear hK461 K461
         refine pwp_ret ?_
         refine end1 (v := _) rfl ?_
         rw [reaR_of (p := p) (day := day) (U := uptoE evs day) (by assumption) (by assumption) (by assumption) (by assumption) (by assumption)]
         first | exact out_slice (by assumption) rfl (fun _ => rfl) (fun a q hq => by simp [ci] at hq; subst hq; exact ⟨.sc _, rfl⟩) | exact Out.nil 1
        ·have hb443R := hb443; try simp only [z1, z2, z3, z4, z5, z6, ne_eq, z7, z8, z9, z10, z11, z12] at hb443
         refine pwp_skip ?_
         refine seq_norm (hK442 _ ?_); clear hK442 K442
         refine pwp_seq_plain rfl fun K462 hK462 => ?_
         refine p_step rfl (e_move (v := _) rfl) trivial ?_
         refine p_step rfl (e_assign (v := _) rfl) trivial ?_
         refine p_end (hK462 _ ?_); clear hK462 K462
         refine pwp_ret ?_
         refine end1 (v := _) rfl ?_
         rw [reaR_of (p := p) (day := day) (U := uptoE evs day) (by assumption) (by assumption) (by assumption) (by assumption) (by assumption)]
         first | exact out_slice (by assumption) rfl (fun _ => rfl) (fun a q hq => by simp [ci] at hq; subst hq; exact ⟨.sc _, rfl⟩) | exact Out.nil 1
       ·have hb425R := hb425; try simp only [z1, z2, z3, z4, z5, z6, ne_eq, z7, z8, z9, z10, z11, z12] at hb425
        refine pwp_skip ?_
        refine seq_norm (hK424 _ ?_); clear hK424 K424
        refine pwp_seq_seq ?_
        refine pwp_seq_plain rfl fun K463 hK463 => ?_
        refine p_step rfl (e_move (v := .lit _ _ _) rfl) trivial ?_
        refine p_step rfl (e_move (v := .sc _) rfl) trivial ?_
        refine p_call rfl (.cons inn_lit (.cons inn_sc (.cons inn_sc (.cons inn_sc .nil)))) (opened _ _ _ _ (by first | omega | exact (Nat.le_trans (upto_len _ _) hl))) ?_
        refine p_step rfl (e_len rfl (by kernel_rfl)) trivial ?_
        refine p_step rfl (e_gt rfl rfl) trivial ?_
        refine p_end (hK463 _ ?_); clear hK463 K463
        refine pwp_seq_cond rfl fun K464 hK464 => ⟨fun hb465 => ?_, fun hb465 => ?_⟩
        ·have hb465R := hb465; try simp only [z1, z2, z3, z4, z5, z6, ne_eq, z7, z8, z9, z10, z11, z12] at hb465
         refine pwp_plain rfl fun K466 hK466 => ?_
         refine p_step rfl (e_move (v := _) rfl) trivial ?_
         refine p_new rfl (e_bslice (rows := [ci (4)]) (zs := [.int 0]) (sz := 1) (by kernel_rfl) (by kernel_rfl) rfl (by kernel_rfl) (by decide) rfl rfl (by exact ⟨by decide, rfl, rfl, trivial⟩) rfl) trivial ?_
         refine p_app rfl rfl rfl (hs336.keep fun _ => (hset_ne (key_ne rfl)).trans (rfl)) (src_ref (hset_self _ _ _) rfl) (by kernel_rfl) (by simp only [List.length_append, List.length_map, List.length_nil, List.length_cons]; omega) fun v467 h468 c469 hs470 hf471 => ?_
         have ho472 := (hf471 (49, _) (key_ne rfl) (fun _ _ => key_ne rfl)).trans ((hset_ne (key_ne rfl)).trans ho338)
         have ho473 := (hf471 (73, _) (key_ne rfl) (fun _ _ => key_ne rfl)).trans (hset_self _ _ _)
         refine p_ren rfl hs470 fun v474 h475 c476 hs477 hf478 => ?_
         have ho479 := (hf478 (49, _) (key_ne rfl) (fun _ _ => key_ne rfl)).trans ho472
         have ho480 := (hf478 (73, _) (key_ne rfl) (fun _ _ => key_ne rfl)).trans ho473
         refine p_end (hK466 _ ?_); clear hK466 K466
         refine seq_norm (hK464 _ ?_); clear hK464 K464
         refine pwp_seq_plain rfl fun K481 hK481 => ?_
         refine p_step rfl (e_move (v := _) rfl) trivial ?_
         refine p_step rfl (e_assign (v := _) rfl) trivial ?_
         refine p_end (hK481 _ ?_); clear hK481 K481
         refine pwp_ret ?_
         refine end1 (v := _) rfl ?_
         rw [reaR_of (p := p) (day := day) (U := uptoE evs day) (by assumption) (by assumption) (by assumption) (by assumption) (by assumption)]
         first | exact out_slice (by assumption) rfl (fun _ => rfl) (fun a q hq => by simp [ci] at hq; subst hq; exact ⟨.sc _, rfl⟩) | exact Out.nil 1
        ·have hb465R := hb465; try simp only [z1, z2, z3, z4, z5, z6, ne_eq, z7, z8, z9, z10, z11, z12] at hb465
         refine pwp_skip ?_
         refine seq_norm (hK464 _ ?_); clear hK464 K464
         refine pwp_seq_plain rfl fun K482 hK482 => ?_
         refine p_step rfl (e_move (v := _) rfl) trivial ?_
         refine p_step rfl (e_assign (v := _) rfl) trivial ?_
         refine p_end (hK482 _ ?_); clear hK482 K482
         refine pwp_ret ?_
         refine end1 (v := _) rfl ?_
         rw [reaR_of (p := p) (day := day) (U := uptoE evs day) (by assumption) (by assumption) (by assumption) (by assumption) (by assumption)]
         first | exact out_slice (by assumption) rfl (fun _ => rfl) (fun a q hq => by simp [ci] at hq; subst hq; exact ⟨.sc _, rfl⟩) | exact Out.nil 1
     ·have hb325R := hb325; try simp only [z1, z2, z3, z4, z5, z6, ne_eq, z7, z8, z9, z10, z11, z12] at hb325
      refine pwp_skip ?_
      refine seq_norm (hK324 _ ?_); clear hK324 K324
      refine pwp_seq_seq ?_
      refine pwp_seq_plain rfl fun K483 hK483 => ?_
      refine p_step rfl (e_move (v := .lit _ _ _) rfl) trivial ?_
      refine p_step rfl (e_move (v := .sc _) rfl) trivial ?_
      refine p_step rfl (e_move (v := .sc _) rfl) trivial ?_
      refine p_call rfl (.cons inn_lit (.cons inn_sc (.cons inn_sc .nil))) (freshR _ _ _ (by first | omega | exact (Nat.le_trans (upto_len _ _) hl)) (upto_days hev) hday) ?_
      refine p_step rfl (e_not rfl) trivial ?_
      refine p_end (hK483 _ ?_); clear hK483 K483
      refine pwp_seq_cond rfl fun K484 hK484 => ⟨fun hb485 => ?_, fun hb485 => ?_⟩
      ·have hb485R := hb485; try simp only [z1, z2, z3, z4, z5, z6, ne_eq, z7, z8, z9, z10, z11, z12] at hb485
       refine pwp_plain rfl fun K486 hK486 => ?_
       refine p_step rfl (e_move (v := .nil) rfl) trivial ?_
       refine p_new rfl (e_bslice (rows := [ci (2)]) (zs := [.int 0]) (sz := 1) (by kernel_rfl) (by kernel_rfl) rfl (by kernel_rfl) (by decide) rfl rfl (by exact ⟨by decide, rfl, rfl, trivial⟩) rfl) trivial ?_
       refine p_app (d1 := 58) rfl rfl rfl .nil (src_ref (hset_self _ _ _) rfl) (by kernel_rfl) (by simp only [List.length_append, List.length_map, List.length_nil, List.length_cons]; omega) fun v487 h488 c489 hs490 hf491 => ?_
       have ho492 := (hf491 (57, _) (key_ne rfl) (fun _ _ => key_ne rfl)).trans (hset_self _ _ _)
       refine p_ren rfl hs490 fun v493 h494 c495 hs496 hf497 => ?_
       have ho498 := (hf497 (57, _) (key_ne rfl) (fun _ _ => key_ne rfl)).trans ho492
       refine p_end (hK486 _ ?_); clear hK486 K486
       refine seq_norm (hK484 _ ?_); clear hK484 K484
       refine pwp_seq_seq ?_
       refine pwp_seq_plain rfl fun K499 hK499 => ?_
       refine p_step rfl (e_move (v := .lit _ _ _) rfl) trivial ?_
       refine p_step rfl (e_move (v := .sc _) rfl) trivial ?_
       refine p_call rfl (.cons inn_lit (.cons inn_sc (.cons inn_sc (.cons inn_sc .nil)))) (opened _ _ _ _ (by first | omega | exact (Nat.le_trans (upto_len _ _) hl))) ?_
       refine p_step rfl (e_len rfl (by kernel_rfl)) trivial ?_
       refine p_step rfl (e_gt rfl rfl) trivial ?_
       refine p_end (hK499 _ ?_); clear hK499 K499
       refine pwp_seq_cond rfl fun K500 hK500 => ⟨fun hb501 => ?_, fun hb501 => ?_⟩
       ·have hb501R := hb501; try simp only [z1, z2, z3, z4, z5, z6, ne_eq, z7, z8, z9, z10, z11, z12] at hb501
        refine pwp_plain rfl fun K502 hK502 => ?_
        refine p_step rfl (e_move (v := _) rfl) trivial ?_
        refine p_new rfl (e_bslice (rows := [ci (3)]) (zs := [.int 0]) (sz := 1) (by kernel_rfl) (by kernel_rfl) rfl (by kernel_rfl) (by decide) rfl rfl (by exact ⟨by decide, rfl, rfl, trivial⟩) rfl) trivial ?_
        refine p_app rfl rfl rfl (hs496.keep fun _ => (hset_ne (key_ne rfl)).trans (rfl)) (src_ref (hset_self _ _ _) rfl) (by kernel_rfl) (by simp only [List.length_append, List.length_map, List.length_nil, List.length_cons]; omega) fun v503 h504 c505 hs506 hf507 => ?_
        have ho508 := (hf507 (57, _) (key_ne rfl) (fun _ _ => key_ne rfl)).trans ((hset_ne (key_ne rfl)).trans ho498)
        have ho509 := (hf507 (65, _) (key_ne rfl) (fun _ _ => key_ne rfl)).trans (hset_self _ _ _)
        refine p_ren rfl hs506 fun v510 h511 c512 hs513 hf514 => ?_
        have ho515 := (hf514 (57, _) (key_ne rfl) (fun _ _ => key_ne rfl)).trans ho508
        have ho516 := (hf514 (65, _) (key_ne rfl) (fun _ _ => key_ne rfl)).trans ho509
        refine p_end (hK502 _ ?_); clear hK502 K502
        refine seq_norm (hK500 _ ?_); clear hK500 K500
        refine pwp_seq_seq ?_
        refine pwp_seq_plain rfl fun K517 hK517 => ?_
        refine p_step rfl (e_move (v := .lit _ _ _) rfl) trivial ?_
        refine p_step rfl (e_move (v := .sc _) rfl) trivial ?_
        refine p_call rfl (.cons inn_lit (.cons inn_sc (.cons inn_sc (.cons inn_sc .nil)))) (opened _ _ _ _ (by first | omega | exact (Nat.le_trans (upto_len _ _) hl))) ?_
        refine p_step rfl (e_len rfl (by kernel_rfl)) trivial ?_
        refine p_step rfl (e_gt rfl rfl) trivial ?_
        refine p_end (hK517 _ ?_); clear hK517 K517
        refine pwp_seq_cond rfl fun K518 hK518 => ⟨fun hb519 => ?_, fun hb519 => ?_⟩
        ·have hb519R := hb519; try simp only [z1, z2, z3, z4, z5, z6, ne_eq, z7, z8, z9, z10, z11, z12] at hb519
         refine pwp_plain rfl fun K520 hK520 => ?_
         refine p_step rfl (e_move (v := _) rfl) trivial ?_
         refine p_new rfl (e_bslice (rows := [ci (4)]) (zs := [.int 0]) (sz := 1) (by kernel_rfl) (by kernel_rfl) rfl (by kernel_rfl) (by decide) rfl rfl (by exact ⟨by decide, rfl, rfl, trivial⟩) rfl) trivial ?_
         refine p_app rfl rfl rfl (hs513.keep fun _ => (hset_ne (key_ne rfl)).trans (rfl)) (src_ref (hset_self _ _ _) rfl) (by kernel_rfl) (by simp only [List.length_append, List.length_map, List.length_nil, List.length_cons]; omega) fun v521 h522 c523 hs524 hf525 => ?_
         have ho526 := (hf525 (57, _) (key_ne rfl) (fun _ _ => key_ne rfl)).trans ((hset_ne (key_ne rfl)).trans ho515)
         have ho527 := (hf525 (65, _) (key_ne rfl) (fun _ _ => key_ne rfl)).trans ((hset_ne (key_ne rfl)).trans ho516)
         have ho528 := (hf525 (73, _) (key_ne rfl) (fun _ _ => key_ne rfl)).trans (hset_self _ _ _)
         refine p_ren rfl hs524 fun v529 h530 c531 hs532 hf533 => ?_
         have ho534 := (hf533 (57, _) (key_ne rfl) (fun _ _ => key_ne rfl)).trans ho526
         have ho535 := (hf533 (65, _) (key_ne rfl) (fun _ _ => key_ne rfl)).trans ho527
         have ho536 := (hf533 (73, _) (key_ne rfl) (fun _ _ => key_ne rfl)).trans ho528
         refine p_end (hK520 _ ?_); clear hK520 K520
         refine seq_norm (hK518 _ ?_); clear hK518 K518
         refine pwp_seq_plain rfl fun K537 hK537 => ?_
         refine p_step rfl (e_move (v := _) rfl) trivial ?_
         refine p_step rfl (e_assign (v := _) rfl) trivial ?_
         refine p_end (hK537 _ ?_); clear hK537 K537
         refine pwp_ret ?_
         refine end1 (v := _) rfl ?_
         rw [reaR_of (p := p) (day := day) (U := uptoE evs day) (by assumption) (by assumption) (by assumption) (by assumption) (by assumption)]
         first | exact out_slice (by assumption) rfl (fun _ => rfl) (fun a q hq => by simp [ci] at hq; subst hq; exact ⟨.sc _, rfl⟩) | exact Out.nil 1
        ·have hb519R := hb519; try simp only [z1, z2, z3, z4, z5, z6, ne_eq, z7, z8, z9, z10, z11, z12] at hb519
         refine pwp_skip ?_
         refine seq_norm (hK518 _ ?_); clear hK518 K518
         refine pwp_seq_plain rfl fun K538 hK538 => ?_
         refine p_step rfl (e_move (v := _) rfl) trivial ?_
         refine p_step rfl (e_assign (v := _) rfl) trivial ?_
         refine p_end (hK538 _ ?_); clear hK538 K538
         refine pwp_ret ?_
         refine end1 (v := _) rfl ?_
         rw [reaR_of (p := p) (day := day) (U := uptoE evs day) (by assumption) (by assumption) (by assumption) (by assumption) (by assumption)]
         first | exact out_slice (by assumption) rfl (fun _ => rfl) (fun a q hq => by simp [ci] at hq; subst hq; exact ⟨.sc _, rfl⟩) | exact Out.nil 1
       ·have hb501R := hb501; try simp only [z1, z2, z3, z4, z5, z6, ne_eq, z7, z8, z9, z10, z11, z12] at hb501
        refine pwp_skip ?_
        refine seq_norm (hK500 _ ?_); clear hK500 K500
        refine pwp_seq_seq ?_
        refine pwp_seq_plain rfl fun K539 hK539 => ?_
        refine p_step rfl (e_move (v := .lit _ _ _) rfl) trivial ?_
        refine p_step rfl (e_move (v := .sc _) rfl) trivial ?_
        refine p_call rfl (.cons inn_lit (.cons inn_sc (.cons inn_sc (.cons inn_sc .nil)))) (opened _ _ _ _ (by first | omega | exact (Nat.le_trans (upto_len _ _) hl))) ?_
        refine p_step rfl (e_len rfl (by kernel_rfl)) trivial ?_
        refine p_step rfl (e_gt rfl rfl) trivial ?_
        refine p_end (hK539 _ ?_); clear hK539 K539
        refine pwp_seq_cond rfl fun K540 hK540 => ⟨fun hb541 => ?_, fun hb541 => ?_⟩
        ·have hb541R := hb541; try simp only [z1, z2, z3, z4, z5, z6, ne_eq, z7, z8, z9, z10, z11, z12] at hb541
         refine pwp_plain rfl fun K542 hK542 => ?_
         refine p_step rfl (e_move (v := _) rfl) trivial ?_
         refine p_new rfl (e_bslice (rows := [ci (4)]) (zs := [.int 0]) (sz := 1) (by kernel_rfl) (by kernel_rfl) rfl (by kernel_rfl) (by decide) rfl rfl (by exact ⟨by decide, rfl, rfl, trivial⟩) rfl) trivial ?_
         refine p_app rfl rfl rfl (hs496.keep fun _ => (hset_ne (key_ne rfl)).trans (rfl)) (src_ref (hset_self _ _ _) rfl) (by kernel_rfl) (by simp only [List.length_append, List.length_map, List.length_nil, List.length_cons]; omega) fun v543 h544 c545 hs546 hf547 => ?_
         have ho548 := (hf547 (57, _) (key_ne rfl) (fun _ _ => key_ne rfl)).trans ((hset_ne (key_ne rfl)).trans ho498)
         have ho549 := (hf547 (73, _) (key_ne rfl) (fun _ _ => key_ne rfl)).trans (hset_self _ _ _)
         refine p_ren rfl hs546 fun v550 h551 c552 hs553 hf554 => ?_
         have ho555 := (hf554 (57, _) (key_ne rfl) (fun _ _ => key_ne rfl)).trans ho548
         have ho556 := (hf554 (73, _) (key_ne rfl) (fun _ _ => key_ne rfl)).trans ho549
         refine p_end (hK542 _ ?_); clear hK542 K542
         refine seq_norm (hK540 _ ?_); clear hK540 K540
         refine pwp_seq_plain rfl fun K557 hK557 => ?_
         refine p_step rfl (e_move (v := _) rfl) trivial ?_
         refine p_step rfl (e_assign (v := _) rfl) trivial ?_
         refine p_end (hK557 _ ?_); clear hK557 K557
         refine pwp_ret ?_
         refine end1 (v := _) rfl ?_
         rw [reaR_of (p := p) (day := day) (U := uptoE evs day) (by assumption) (by assumption) (by assumption) (by assumption) (by assumption)]
         first | exact out_slice (by assumption) rfl (fun _ => rfl) (fun a q hq => by simp [ci] at hq; subst hq; exact ⟨.sc _, rfl⟩) | exact Out.nil 1
        ·have hb541R := hb541; try simp only [z1, z2, z3, z4, z5, z6, ne_eq, z7, z8, z9, z10, z11, z12] at hb541
         refine pwp_skip ?_
         refine seq_norm (hK540 _ ?_); clear hK540 K540
         refine pwp_seq_plain rfl fun K558 hK558 => ?_
         refine p_step rfl (e_move (v := _) rfl) trivial ?_
         refine p_step rfl (e_assign (v := _) rfl) trivial ?_
         refine p_end (hK558 _ ?_); clear hK558 K558
         refine pwp_ret ?_
         refine end1 (v := _) rfl ?_
         rw [reaR_of (p := p) (day := day) (U := uptoE evs day) (by assumption) (by assumption) (by assumption) (by assumption) (by assumption)]
         first | exact out_slice (by assumption) rfl (fun _ => rfl) (fun a q hq => by simp [ci] at hq; subst hq; exact ⟨.sc _, rfl⟩) | exact Out.nil 1
      ·have hb485R := hb485; try simp only [z1, z2, z3, z4, z5, z6, ne_eq, z7, z8, z9, z10, z11, z12] at hb485
       refine pwp_skip ?_
       refine seq_norm (hK484 _ ?_); clear hK484 K484
       refine pwp_seq_seq ?_
       refine pwp_seq_plain rfl fun K559 hK559 => ?_
       refine p_step rfl (e_move (v := .lit _ _ _) rfl) trivial ?_
       refine p_step rfl (e_move (v := .sc _) rfl) trivial ?_
       refine p_call rfl (.cons inn_lit (.cons inn_sc (.cons inn_sc (.cons inn_sc .nil)))) (opened _ _ _ _ (by first | omega | exact (Nat.le_trans (upto_len _ _) hl))) ?_
       refine p_step rfl (e_len rfl (by kernel_rfl)) trivial ?_
       refine p_step rfl (e_gt rfl rfl) trivial ?_
       refine p_end (hK559 _ ?_); clear hK559 K559
       refine pwp_seq_cond rfl fun K560 hK560 => ⟨fun hb561 => ?_, fun hb561 => ?_⟩
       ·have hb561R := hb561; try simp only [z1, z2, z3, z4, z5, z6, ne_eq, z7, z8, z9, z10, z11, z12] at hb561
        refine pwp_plain rfl fun K562 hK562 => ?_
        refine p_step rfl (e_move (v := .nil) rfl) trivial ?_
        refine p_new rfl (e_bslice (rows := [ci (3)]) (zs := [.int 0]) (sz := 1) (by kernel_rfl) (by kernel_rfl) rfl (by kernel_rfl) (by decide) rfl rfl (by exact ⟨by decide, rfl, rfl, trivial⟩) rfl) trivial ?_
        refine p_app (d1 := 66) rfl rfl rfl .nil (src_ref (hset_self _ _ _) rfl) (by kernel_rfl) (by simp only [List.length_append, List.length_map, List.length_nil, List.length_cons]; omega) fun v563 h564 c565 hs566 hf567 => ?_
        have ho568 := (hf567 (65, _) (key_ne rfl) (fun _ _ => key_ne rfl)).trans (hset_self _ _ _)
        refine p_ren rfl hs566 fun v569 h570 c571 hs572 hf573 => ?_
        have ho574 := (hf573 (65, _) (key_ne rfl) (fun _ _ => key_ne rfl)).trans ho568
        refine p_end (hK562 _ ?_); clear hK562 K562
        refine seq_norm (hK560 _ ?_); clear hK560 K560
        refine pwp_seq_seq ?_
        refine pwp_seq_plain rfl fun K575 hK575 => ?_
        refine p_step rfl (e_move (v := .lit _ _ _) rfl) trivial ?_
        refine p_step rfl (e_move (v := .sc _) rfl) trivial ?_
        refine p_call rfl (.cons inn_lit (.cons inn_sc (.cons inn_sc (.cons inn_sc .nil)))) (opened _ _ _ _ (by first | omega | exact (Nat.le_trans (upto_len _ _) hl))) ?_
        refine p_step rfl (e_len rfl (by kernel_rfl)) trivial ?_
        refine p_step rfl (e_gt rfl rfl) trivial ?_
        refine p_end (hK575 _ ?_); clear hK575 K575
        refine pwp_seq_cond rfl fun K576 hK576 => ⟨fun hb577 => ?_, fun hb577 => ?_⟩
        ·have hb577R := hb577; try simp only [z1, z2, z3, z4, z5, z6, ne_eq, z7, z8, z9, z10, z11, z12] at hb577
         refine pwp_plain rfl fun K578 hK578 => ?_
         refine p_step rfl (e_move (v := _) rfl) trivial ?_
         refine p_new rfl (e_bslice (rows := [ci (4)]) (zs := [.int 0]) (sz := 1) (by kernel_rfl) (by kernel_rfl) rfl (by kernel_rfl) (by decide) rfl rfl (by exact ⟨by decide, rfl, rfl, trivial⟩) rfl) trivial ?_
         refine p_app rfl rfl rfl (hs572.keep fun _ => (hset_ne (key_ne rfl)).trans (rfl)) (src_ref (hset_self _ _ _) rfl) (by kernel_rfl) (by simp only [List.length_append, List.length_map, List.length_nil, List.length_cons]; omega) fun v579 h580 c581 hs582 hf583 => ?_
         have ho584 := (hf583 (65, _) (key_ne rfl) (fun _ _ => key_ne rfl)).trans ((hset_ne (key_ne rfl)).trans ho574)
         have ho585 := (hf583 (73, _) (key_ne rfl) (fun _ _ => key_ne rfl)).trans (hset_self _ _ _)
         refine p_ren rfl hs582 fun v586 h587 c588 hs589 hf590 => ?_
         have ho591 := (hf590 (65, _) (key_ne rfl) (fun _ _ => key_ne rfl)).trans ho584
         have ho592 := (hf590 (73, _) (key_ne rfl) (fun _ _ => key_ne rfl)).trans ho585
         refine p_end (hK578 _ ?_); clear hK578 K578
         refine seq_norm (hK576 _ ?_); clear hK576 K576
         refine pwp_seq_plain rfl fun K593 hK593 => ?_
         refine p_step rfl (e_move (v := _) rfl) trivial ?_
         refine p_step rfl (e_assign (v := _) rfl) trivial ?_
         refine p_end (hK593 _ ?_); clear hK593 K593
         refine pwp_ret ?_
         refine end1 (v := _) rfl ?_
         rw [reaR_of (p := p) (day := day) (U := uptoE evs day) (by assumption) (by assumption) (by assumption) (by assumption) (by assumption)]
         first | exact out_slice (by assumption) rfl (fun _ => rfl) (fun a q hq => by simp [ci] at hq; subst hq; exact ⟨.sc _, rfl⟩) | exact Out.nil 1
        ·have hb577R := hb577; try simp only [z1, z2, z3, z4, z5, z6, ne_eq, z7, z8, z9, z10, z11, z12] at hb577
         refine pwp_skip ?_
         refine seq_norm (hK576 _ ?_); clear hK576 K576
         refine pwp_seq_plain rfl fun K594 hK594 => ?_
         refine p_step rfl (e_move (v := _) rfl) trivial ?_
         refine p_step rfl (e_assign (v := _) rfl) trivial ?_
         refine p_end (hK594 _ ?_); clear hK594 K594
         refine pwp_ret ?_
         refine end1 (v := _) rfl ?_
         rw [reaR_of (p := p) (day := day) (U := uptoE evs day) (by assumption) (by assumption) (by assumption) (by assumption) (by assumption)]
         first | exact out_slice (by assumption) rfl (fun _ => rfl) (fun a q hq => by simp [ci] at hq; subst hq; exact ⟨.sc _, rfl⟩) | exact Out.nil 1
       ·have hb561R := hb561; try simp only [z1, z2, z3, z4, z5, z6, ne_eq, z7, z8, z9, z10, z11, z12] at hb561
        refine pwp_skip ?_
        refine seq_norm (hK560 _ ?_); clear hK560 K560
        refine pwp_seq_seq ?_
        refine pwp_seq_plain rfl fun K595 hK595 => ?_
        refine p_step rfl (e_move (v := .lit _ _ _) rfl) trivial ?_
        refine p_step rfl (e_move (v := .sc _) rfl) trivial ?_
        refine p_call rfl (.cons inn_lit (.cons inn_sc (.cons inn_sc (.cons inn_sc .nil)))) (opened _ _ _ _ (by first | omega | exact (Nat.le_trans (upto_len _ _) hl))) ?_
        refine p_step rfl (e_len rfl (by kernel_rfl)) trivial ?_
        refine p_step rfl (e_gt rfl rfl) trivial ?_
        refine p_end (hK595 _ ?_); clear hK595 K595
        refine pwp_seq_cond rfl fun K596 hK596 => ⟨fun hb597 => ?_, fun hb597 => ?_⟩
        ·have hb597R := hb597; try simp only [z1, z2, z3, z4, z5, z6, ne_eq, z7, z8, z9, z10, z11, z12] at hb597
         refine pwp_plain rfl fun K598 hK598 => ?_
         refine p_step rfl (e_move (v := .nil) rfl) trivial ?_
         refine p_new rfl (e_bslice (rows := [ci (4)]) (zs := [.int 0]) (sz := 1) (by kernel_rfl) (by kernel_rfl) rfl (by kernel_rfl) (by decide) rfl rfl (by exact ⟨by decide, rfl, rfl, trivial⟩) rfl) trivial ?_
         refine p_app (d1 := 74) rfl rfl rfl .nil (src_ref (hset_self _ _ _) rfl) (by kernel_rfl) (by simp only [List.length_append, List.length_map, List.length_nil, List.length_cons]; omega) fun v599 h600 c601 hs602 hf603 => ?_
         have ho604 := (hf603 (73, _) (key_ne rfl) (fun _ _ => key_ne rfl)).trans (hset_self _ _ _)
         refine p_ren rfl hs602 fun v605 h606 c607 hs608 hf609 => ?_
         have ho610 := (hf609 (73, _) (key_ne rfl) (fun _ _ => key_ne rfl)).trans ho604
         refine p_end (hK598 _ ?_); clear hK598 K598
         refine seq_norm (hK596 _ ?_); clear hK596 K596
         refine pwp_seq_plain rfl fun K611 hK611 => ?_
         refine p_step rfl (e_move (v := _) rfl) trivial ?_
         refine p_step rfl (e_assign (v := _) rfl) trivial ?_
         refine p_end (hK611 _ ?_); clear hK611 K611
         refine pwp_ret ?_
         refine end1 (v := _) rfl ?_
         rw [reaR_of (p := p) (day := day) (U := uptoE evs day) (by assumption) (by assumption) (by assumption) (by assumption) (by assumption)]
         first | exact out_slice (by assumption) rfl (fun _ => rfl) (fun a q hq => by simp [ci] at hq; subst hq; exact ⟨.sc _, rfl⟩) | exact Out.nil 1
        ·have hb597R := hb597; try simp only [z1, z2, z3, z4, z5, z6, ne_eq, z7, z8, z9, z10, z11, z12] at hb597
         refine pwp_skip ?_
         refine seq_norm (hK596 _ ?_); clear hK596 K596
         refine pwp_seq_plain rfl fun K612 hK612 => ?_
         refine p_step rfl (e_move (v := .nil) rfl) trivial ?_
         refine p_step rfl (e_assign (v := .nil) rfl) trivial ?_
         refine p_end (hK612 _ ?_); clear hK612 K612
         refine pwp_ret ?_
         refine end1 (v := .nil) rfl ?_
         rw [reaR_of (p := p) (day := day) (U := uptoE evs day) (by assumption) (by assumption) (by assumption) (by assumption) (by assumption)]
         first | exact out_slice (by assumption) rfl (fun _ => rfl) (fun a q hq => by simp [ci] at hq; subst hq; exact ⟨.sc _, rfl⟩) | exact Out.nil 1

end Go.Proofs.Ytdbpfhbppcpbbaa
