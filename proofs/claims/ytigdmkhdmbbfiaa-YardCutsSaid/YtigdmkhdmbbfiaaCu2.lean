/- What a cut is worth, as the program tells it. No conditions. -/
import Derived.Test.YtigdmkhdmbbfiaaCu1
set_option linter.unusedSimpArgs false
set_option linter.unusedVariables false
set_option maxRecDepth 100000
namespace Go.Proofs.Ytigdmkhdmbbfiaa
open Go Go.Pv
theorem fr113 : (inFrame Try.f113.ntmps (Try.f113.body.getD .skip) && Try.f113.results.toList.all (resScope Try.f113.ntmps)) = true := by kernel_rfl
theorem isNaNC (a : Int) : PCalls Try.prog 113 [.int a] (.bool false) := by
 refine PCalls.of_code Try.func113 rfl rfl (by kernel_rfl) mixed fr113 (by show _ ≤ 6; simp) (.sc _) ?_
 refine pwp_seq_plain rfl fun K1 hK1 => ?_
 refine p_aS rfl ?_
 refine p_end (hK1 _ ?_); clear hK1 K1
 refine pwp_seq_plain rfl fun K2 hK2 => ?_
 refine p_mS rfl ?_
 refine p_mS rfl ?_
 refine p_e rfl (e_ne rfl rfl) ?_
 refine p_aS rfl ?_
 refine p_end (hK2 _ ?_); clear hK2 K2
 refine pwp_ret ?_
 refine end1 (v := .sc _) rfl ?_
 exact out_b (by simp)

theorem fr99 : (inFrame Try.f99.ntmps (Try.f99.body.getD .skip) && Try.f99.results.toList.all (resScope Try.f99.ntmps)) = true := by kernel_rfl
theorem CompareC (a b : Int) : PCalls Try.prog 99 [.int a, .int b] (.int (cpI a b)) := by
 refine PCalls.of_code Try.func99 rfl rfl (by kernel_rfl) mixed fr99 (by show _ ≤ 20; simp) (.sc _) ?_
 refine pwp_seq_plain rfl fun K1 hK1 => ?_
 refine p_aS rfl ?_
 refine p_end (hK1 _ ?_); clear hK1 K1
 refine pwp_seq_plain rfl fun K2 hK2 => ?_
 refine p_mS rfl ?_
 refine p_call rfl (.cons inn_sc .nil) (isNaNC _) ?_
 refine p_aS rfl ?_
 refine p_end (hK2 _ ?_); clear hK2 K2
 refine pwp_seq_plain rfl fun K3 hK3 => ?_
 refine p_mS rfl ?_
 refine p_call rfl (.cons inn_sc .nil) (isNaNC _) ?_
 refine p_aS rfl ?_
 refine p_end (hK3 _ ?_); clear hK3 K3
 refine pwp_seq_seq ?_
 refine pwp_seq_plain rfl fun K4 hK4 => ?_
 refine p_mS rfl ?_
 refine p_end (hK4 _ ?_); clear hK4 K4
 refine pwp_seq_cond rfl fun K5 hK5 => ⟨fun hb6 => ?_, fun hb6 => ?_⟩
 ·have hb6R := hb6; try simp only [zz] at hb6
  refine pwp_seq_seq ?_
  refine pwp_seq_plain rfl fun K7 hK7 => ?_
  refine p_mS rfl ?_
  refine p_end (hK7 _ ?_); clear hK7 K7
  refine pwp_seq_cond rfl fun K8 hK8 => ⟨fun hb9 => ?_, fun hb9 => ?_⟩
  ·have hb9R := hb9; try simp only [zz] at hb9
   refine pwp_seq_plain rfl fun K10 hK10 => ?_
   refine p_aS rfl ?_
   refine p_end (hK10 _ ?_); clear hK10 K10
   refine pwp_ret ?_
   refine ret_seq ?_
   refine ret_seq ?_
   refine end1 (v := .sc _) rfl ?_
   first
     | exact out_i (cpI_l (by omega))
     | exact out_i (cpI_g (by omega))
     | exact out_i (cpI_e (by omega))
     | (exfalso; simp_all; done)
  ·have hb9R := hb9; try simp only [zz] at hb9
   refine pwp_skip ?_
   refine seq_norm (hK8 _ ?_); clear hK8 K8
   refine pwp_seq_plain rfl fun K11 hK11 => ?_
   refine p_aS rfl ?_
   refine p_end (hK11 _ ?_); clear hK11 K11
   refine pwp_ret ?_
   refine ret_seq ?_
   refine end1 (v := .sc _) rfl ?_
   first
     | exact out_i (cpI_l (by omega))
     | exact out_i (cpI_g (by omega))
     | exact out_i (cpI_e (by omega))
     | (exfalso; simp_all; done)
 ·have hb6R := hb6; try simp only [zz] at hb6
  refine pwp_skip ?_
  refine seq_norm (hK5 _ ?_); clear hK5 K5
  refine pwp_seq_seq ?_
  refine pwp_seq_plain rfl fun K12 hK12 => ?_
  refine p_mS rfl ?_
  refine p_end (hK12 _ ?_); clear hK12 K12
  refine pwp_seq_cond rfl fun K13 hK13 => ⟨fun hb14 => ?_, fun hb14 => ?_⟩
  ·have hb14R := hb14; try simp only [zz] at hb14
   refine pwp_seq_plain rfl fun K15 hK15 => ?_
   refine p_aS rfl ?_
   refine p_end (hK15 _ ?_); clear hK15 K15
   refine pwp_ret ?_
   refine ret_seq ?_
   refine end1 (v := .sc _) rfl ?_
   first
     | exact out_i (cpI_l (by omega))
     | exact out_i (cpI_g (by omega))
     | exact out_i (cpI_e (by omega))
     | (exfalso; simp_all; done)
  ·have hb14R := hb14; try simp only [zz] at hb14
   refine pwp_skip ?_
   refine seq_norm (hK13 _ ?_); clear hK13 K13
   refine pwp_seq_seq ?_
   refine pwp_seq_plain rfl fun K16 hK16 => ?_
   refine p_mS rfl ?_
   refine p_mS rfl ?_
   refine p_e rfl (e_lt rfl rfl) ?_
   refine p_end (hK16 _ ?_); clear hK16 K16
   refine pwp_seq_cond rfl fun K17 hK17 => ⟨fun hb18 => ?_, fun hb18 => ?_⟩
   ·have hb18R := hb18; try simp only [zz] at hb18
    refine pwp_seq_plain rfl fun K19 hK19 => ?_
    refine p_aS rfl ?_
    refine p_end (hK19 _ ?_); clear hK19 K19
    refine pwp_ret ?_
    refine ret_seq ?_
    refine end1 (v := .sc _) rfl ?_
    first
      | exact out_i (cpI_l (by omega))
      | exact out_i (cpI_g (by omega))
      | exact out_i (cpI_e (by omega))
      | (exfalso; simp_all; done)
   ·have hb18R := hb18; try simp only [zz] at hb18
    refine pwp_skip ?_
    refine seq_norm (hK17 _ ?_); clear hK17 K17
    refine pwp_seq_seq ?_
    refine pwp_seq_plain rfl fun K20 hK20 => ?_
    refine p_mS rfl ?_
    refine p_mS rfl ?_
    refine p_e rfl (e_gt rfl rfl) ?_
    refine p_end (hK20 _ ?_); clear hK20 K20
    refine pwp_seq_cond rfl fun K21 hK21 => ⟨fun hb22 => ?_, fun hb22 => ?_⟩
    ·have hb22R := hb22; try simp only [zz] at hb22
     refine pwp_seq_plain rfl fun K23 hK23 => ?_
     refine p_aS rfl ?_
     refine p_end (hK23 _ ?_); clear hK23 K23
     refine pwp_ret ?_
     refine ret_seq ?_
     refine end1 (v := .sc _) rfl ?_
     first
       | exact out_i (cpI_l (by omega))
       | exact out_i (cpI_g (by omega))
       | exact out_i (cpI_e (by omega))
       | (exfalso; simp_all; done)
    ·have hb22R := hb22; try simp only [zz] at hb22
     refine pwp_skip ?_
     refine seq_norm (hK21 _ ?_); clear hK21 K21
     refine pwp_seq_plain rfl fun K24 hK24 => ?_
     refine p_aS rfl ?_
     refine p_end (hK24 _ ?_); clear hK24 K24
     refine pwp_ret ?_
     refine end1 (v := .sc _) rfl ?_
     first
       | exact out_i (cpI_l (by omega))
       | exact out_i (cpI_g (by omega))
       | exact out_i (cpI_e (by omega))
       | (exfalso; simp_all; done)

theorem fr73 : (inFrame Try.f73.ntmps (Try.f73.body.getD .skip) && Try.f73.results.toList.all (resScope Try.f73.ntmps)) = true := by kernel_rfl
theorem CompareL (t1 t2 : Bool) (l m : List Int) (he : l.length = m.length) (hl : l.length ≤ 1000000) : PCalls Try.prog 73 [.lit t1 1 (l.map ci), .lit t2 1 (m.map ci)] (.int (cpL l m)) := by
 refine PCalls.of_code Try.func73 rfl rfl (by kernel_rfl) mixed fr73 (by show _ ≤ 36; simp) (.sc _) ?_
 refine pwp_seq_plain rfl fun K1 hK1 => ?_
 refine p_aS rfl ?_
 refine p_end (hK1 _ ?_); clear hK1 K1
 refine pwp_seq_seq ?_
 refine pwp_seq_plain rfl fun K2 hK2 => ?_
 refine p_e rfl (e_move (v := .lit _ _ _) rfl) ?_
 refine p_e rfl (e_len rfl (by kernel_rfl)) ?_
 refine p_mS rfl ?_
 refine p_end (hK2 _ ?_); clear hK2 K2
 refine pwp_seq_block fun K3 hK3 => ?_
 refine pwp_loopR (α := Nat) [0, 1, 9, 10] (fun (k : Nat) => [(11, .int (k))]) (fun (k : Nat) (h : Heap) (_ : Nat → Nat) => ((k) ≤ l.length) ∧ (∀ i, i < (k) → ∀ u w, l[i]? = some u → m[i]? = some w → u = w)) (fun (k : Nat) => l.length - (k)) (0) (by exact ⟨rfl, trivial⟩) (by exact ⟨by exact Nat.zero_le _, by exact fun i h => absurd h (Nat.not_lt_zero _)⟩) fun k r4 h5 c6 hj7 => ?_
 obtain ⟨hk, hin⟩ := hj7
 try dsimp only at hk
 try dsimp only at hin
 show pwp _ _ (loopQ _ _ _) ⟨sets (mix _ _ _) [(11, .int k)], _, _⟩
 refine pwp_seq_plain rfl fun K8 hK8 => ?_
 refine p_e rfl (e_lt rfl rfl) ?_
 refine p_end (hK8 _ ?_); clear hK8 K8
 refine pwp_seq_cond rfl fun K9 hK9 => ⟨fun hb10 => ?_, fun hb10 => ?_⟩
 ·have hb10R := hb10; try simp only [zz] at hb10
  obtain ⟨x, hx, hd, ht⟩ := get_lt (xs := l) (i := k) (by omega)
  obtain ⟨y, hy⟩ : ∃ y, m[k]? = some y := ⟨_, List.getElem?_eq_getElem (by omega)⟩
  refine pwp_skip ?_
  refine seq_norm (hK9 _ ?_); clear hK9 K9
  refine pwp_seq_block fun K11 hK11 => ?_
  refine pwp_seq_plain rfl fun K12 hK12 => ?_
  refine p_mS rfl ?_
  refine p_e rfl (e_ixL rfl rfl) ?_
  refine p_e rfl (e_load (v := .sc _) rfl (by kernel_rfl) (by kernel_rfl) (by kernel_rfl) (by first | omega | (simp only [List.length_map]; omega)) (by decide) ((cell_map hx _).trans rfl)) ?_
  refine p_aS rfl ?_
  refine p_aS rfl ?_
  refine p_end (hK12 _ ?_); clear hK12 K12
  refine pwp_seq_seq ?_
  refine pwp_seq_plain rfl fun K13 hK13 => ?_
  refine p_mS rfl ?_
  refine p_e rfl (e_move (v := .lit _ _ _) rfl) ?_
  refine p_e rfl (e_len rfl (by kernel_rfl)) ?_
  refine p_e rfl (e_ge rfl rfl) ?_
  refine p_end (hK13 _ ?_); clear hK13 K13
  refine pwp_seq_cond rfl fun K14 hK14 => ⟨fun hb15 => ?_, fun hb15 => ?_⟩
  ·have hb15R := hb15; try simp only [zz] at hb15
   refine pwp_seq_plain rfl fun K16 hK16 => ?_
   refine p_aS rfl ?_
   refine p_end (hK16 _ ?_); clear hK16 K16
   refine pwp_ret ?_
   refine ret_seq ?_
   refine ret_block ?_
   refine ret_seq ?_
   refine ret_loop ?_
   refine ret_block ?_
   refine ret_seq ?_
   refine end1 (v := .sc _) rfl ?_
   first
     | exact out_i (cpL_hit (l := l) (m := m) hin (by omega) hx hy (by omega))
     | exact out_i (cpL_no (l := l) (m := m) hin he (by simp only [List.length_map] at *; omega))
     | (exfalso; simp only [List.length_map] at *; omega)
  ·have hb15R := hb15; try simp only [zz] at hb15
   refine pwp_skip ?_
   refine seq_norm (hK14 _ ?_); clear hK14 K14
   refine pwp_seq_plain rfl fun K17 hK17 => ?_
   refine p_e rfl (e_move (v := .lit _ _ _) rfl) ?_
   refine p_mS rfl ?_
   refine p_e rfl (e_ixL rfl rfl) ?_
   refine p_e rfl (e_load (v := .sc _) rfl (by kernel_rfl) (by kernel_rfl) (by kernel_rfl) (by first | omega | (simp only [List.length_map]; omega)) (by decide) ((cell_map hy _).trans rfl)) ?_
   refine p_aS rfl ?_
   refine p_end (hK17 _ ?_); clear hK17 K17
   refine pwp_seq_plain rfl fun K18 hK18 => ?_
   refine p_mS rfl ?_
   refine p_mS rfl ?_
   refine p_call rfl (.cons inn_sc (.cons inn_sc .nil)) (CompareC _ _) ?_
   refine p_aS rfl ?_
   refine p_end (hK18 _ ?_); clear hK18 K18
   refine pwp_seq_plain rfl fun K19 hK19 => ?_
   refine p_mS rfl ?_
   refine p_e rfl (e_ne rfl rfl) ?_
   refine p_end (hK19 _ ?_); clear hK19 K19
   refine pwp_cond rfl (fun hb20 => ?_) (fun hb20 => ?_)
   ·have hb20R := hb20; try simp only [zz] at hb20
    refine pwp_seq_plain rfl fun K21 hK21 => ?_
    refine p_mS rfl ?_
    refine p_aS rfl ?_
    refine p_end (hK21 _ ?_); clear hK21 K21
    refine pwp_ret ?_
    refine ret_block ?_
    refine ret_seq ?_
    refine ret_loop ?_
    refine ret_block ?_
    refine ret_seq ?_
    refine end1 (v := .sc _) rfl ?_
    first
      | exact out_i (cpL_hit (l := l) (m := m) hin (by omega) hx hy (by omega))
      | exact out_i (cpL_no (l := l) (m := m) hin he (by simp only [List.length_map] at *; omega))
      | (exfalso; simp only [List.length_map] at *; omega)
   ·have hb20R := hb20; try simp only [zz] at hb20
    refine pwp_skip ?_
    refine block_norm ?_
    refine seq_norm (hK11 _ ?_); clear hK11 K11
    refine pwp_plain rfl fun K22 hK22 => ?_
    refine p_e rfl (e_adL rfl rfl) ?_
    refine p_mS rfl ?_
    refine p_end (hK22 _ ?_); clear hK22 K22
    exact loop_again (k + 1) (by show _ < _; omega) ⟨rfl, rfl, rfl, rfl, trivial⟩ ⟨rfl, trivial⟩ (by exact ⟨by show _ + 1 ≤ _; simp only [List.length_map] at *; omega, by exact eq_s hin hx hy (by omega)⟩)
 ·have hb10R := hb10; try simp only [zz] at hb10
  refine pwp_exit ?_
  refine exit_seq ?_
  clear hK9 K9
  refine exit_loop ?_
  refine exit_here ?_
  refine seq_norm (hK3 _ ?_); clear hK3 K3
  refine pwp_seq_seq ?_
  refine pwp_seq_plain rfl fun K23 hK23 => ?_
  refine p_e rfl (e_move (v := .lit _ _ _) rfl) ?_
  refine p_e rfl (e_len rfl (by kernel_rfl)) ?_
  refine p_e rfl (e_move (v := .lit _ _ _) rfl) ?_
  refine p_e rfl (e_len rfl (by kernel_rfl)) ?_
  refine p_e rfl (e_lt rfl rfl) ?_
  refine p_end (hK23 _ ?_); clear hK23 K23
  refine pwp_seq_cond rfl fun K24 hK24 => ⟨fun hb25 => ?_, fun hb25 => ?_⟩
  ·have hb25R := hb25; try simp only [zz] at hb25
   refine pwp_seq_plain rfl fun K26 hK26 => ?_
   refine p_aS rfl ?_
   refine p_end (hK26 _ ?_); clear hK26 K26
   refine pwp_ret ?_
   refine ret_seq ?_
   refine end1 (v := .sc _) rfl ?_
   first
     | exact out_i (cpL_hit (l := l) (m := m) hin (by omega) hx hy (by omega))
     | exact out_i (cpL_no (l := l) (m := m) hin he (by simp only [List.length_map] at *; omega))
     | (exfalso; simp only [List.length_map] at *; omega)
  ·have hb25R := hb25; try simp only [zz] at hb25
   refine pwp_skip ?_
   refine seq_norm (hK24 _ ?_); clear hK24 K24
   refine pwp_seq_plain rfl fun K27 hK27 => ?_
   refine p_aS rfl ?_
   refine p_end (hK27 _ ?_); clear hK27 K27
   refine pwp_ret ?_
   refine end1 (v := .sc _) rfl ?_
   first
     | exact out_i (cpL_hit (l := l) (m := m) hin (by omega) hx hy (by omega))
     | exact out_i (cpL_no (l := l) (m := m) hin he (by simp only [List.length_map] at *; omega))
     | (exfalso; simp only [List.length_map] at *; omega)

theorem fr34 : (inFrame Try.f34.ntmps (Try.f34.body.getD .skip) && Try.f34.results.toList.all (resScope Try.f34.ntmps)) = true := by kernel_rfl
theorem CheckCutC (t : Traffic) (l : List At) (hl : l.length ≤ 1000000) (hl1 : t.routes.length ≤ 9223372036854775807) (hl2 : t.supplies.length ≤ 9223372036854775807) (hl3 : t.needs.length ≤ 9223372036854775807) : PCalls Try.prog 34 [.agg t.enc, .lit true 2 (l.map At.enc)] (.tup [.int (cutW t l).1, .int (cutW t l).2]) := by
 refine PCalls.of_code Try.func34 rfl rfl (by kernel_rfl) mixed fr34 (by show _ ≤ 165; simp) (pure_2 (.sc _) (.sc _)) ?_
 refine pwp_seq_plain rfl fun K1 hK1 => ?_
 refine p_new rfl (e_box (n := 5) rfl rfl) ⟨rfl, by decide⟩ ?_
 refine p_aS rfl ?_
 refine p_aS rfl ?_
 refine p_end (hK1 _ ?_); clear hK1 K1
 refine pwp_seq_seq ?_
 refine pwp_seq_plain rfl fun K2 hK2 => ?_
 refine p_e rfl (e_loadHA (cs := Traffic.enc (t)) (n := 5) rfl (hset_self _ _ _) (by kernel_rfl) (by kernel_rfl) (by kernel_rfl) (by exact Nat.zero_lt_one) (by decide) rfl) ?_
 refine p_call rfl (.cons (inn_agg (Traffic.pure _)) .nil) (CheckTrafficC t (by omega) (by omega) (by omega)) ?_
 refine p_aS rfl ?_
 refine p_end (hK2 _ ?_); clear hK2 K2
 refine pwp_seq_seq ?_
 refine pwp_seq_plain rfl fun K3 hK3 => ?_
 refine p_mS rfl ?_
 refine p_e rfl (e_ne rfl rfl) ?_
 refine p_end (hK3 _ ?_); clear hK3 K3
 refine pwp_seq_cond rfl fun K4 hK4 => ⟨fun hb5 => ?_, fun hb5 => ?_⟩
 ·have hb5R := hb5; try simp only [zz] at hb5
  refine pwp_seq_plain rfl fun K6 hK6 => ?_
  refine p_mS rfl ?_
  refine p_aS rfl ?_
  refine p_aS rfl ?_
  refine p_end (hK6 _ ?_); clear hK6 K6
  refine pwp_ret ?_
  refine ret_seq ?_
  refine end2 (v := .sc _) (w := .sc _) rfl rfl ?_
  first
    | exact out_p ((cv_hit hin hx (ct_6 hx (fun q => by have q1 := q.1; have q2 := q.2; omega)) (by decide)).trans (cw_0 htz).symm)
    | exact out_p ((cv_hit hin hx (ct_10 hx ⟨by omega, by omega⟩ (by omega) (hy (by omega)) (nlt_of (by omega))) (by decide)).trans (cw_0 htz).symm)
    | exact out_p ((cv_25 hce (rm_hit hmo hrm hrl (gp_t (by omega) (by rw [← mp_get hmo]; assumption)))).symm.trans (cw_0 htz).symm)
    | exact out_p (by rw [hs3]; exact (cv_0 hce hgp).symm.trans (cw_0 htz).symm)
    | exact out_p (cw_e (by assumption))
 ·have hb5R := hb5; try simp only [zz] at hb5
  refine pwp_skip ?_
  refine seq_norm (hK4 _ ?_); clear hK4 K4
  have htz : trafE t = 0 := by omega
  have hT := trafE_inv htz
  have q1 := hT.hA
  have q2 := hT.hB
  have q3 := hT.hr
  have q4 := hT.hs
  have q5 := hT.hn
  refine pwp_seq_plain rfl fun K7 hK7 => ?_
  refine p_new rfl (e_mkmap) trivial ?_
  refine p_e rfl (e_assign (v := .map _) rfl) ?_
  refine p_end (hK7 _ ?_); clear hK7 K7
  refine pwp_seq_seq ?_
  refine pwp_seq_plain rfl fun K8 hK8 => ?_
  refine p_e rfl (e_move (v := .lit _ _ _) rfl) ?_
  refine p_e rfl (e_len rfl (by kernel_rfl)) ?_
  refine p_mS rfl ?_
  refine p_end (hK8 _ ?_); clear hK8 K8
  refine pwp_seq_block fun K9 hK9 => ?_
  refine pwp_loopR (α := Nat × (List (At × Bool))) [1, 2, 7, 25, 26] (fun (a10 : Nat × (List (At × Bool))) => [(27, .int (a10.1))]) (fun (a10 : Nat × (List (At × Bool))) (h : Heap) (_ : Nat → Nat) => ((a10.1) ≤ l.length) ∧ (∀ i, i < (a10.1) → ctF t l i = 0) ∧ (MpOK (a10.2) (l.take (a10.1))) ∧ (h (2, 0) = some (.rows 5 [Traffic.enc t])) ∧ (MapAt h (24, 0) (entsOf ka PV.bool (a10.2)))) (fun (a10 : Nat × (List (At × Bool))) => l.length - (a10.1)) (0, []) (by exact ⟨rfl, trivial⟩) (by exact ⟨by exact Nat.zero_le _, by exact fun i h => absurd h (Nat.not_lt_zero _), by exact mp_0, ((hset_ne (key_ne rfl)).trans (hset_self _ _ _)), MapAt.new⟩) fun a10 r11 h12 c13 hj14 => ?_
  obtain ⟨k, m⟩ := a10
  obtain ⟨hk, hin, hmp, hihj14_0, hihj14_1⟩ := hj14
  try dsimp only at hk
  try dsimp only at hin
  try dsimp only at hmp
  try dsimp only at hihj14_0
  try dsimp only at hihj14_1
  show pwp _ _ (loopQ _ _ _) ⟨sets (mix _ _ _) [(27, .int k)], _, _⟩
  refine pwp_seq_plain rfl fun K15 hK15 => ?_
  refine p_e rfl (e_lt rfl rfl) ?_
  refine p_end (hK15 _ ?_); clear hK15 K15
  refine pwp_seq_cond rfl fun K16 hK16 => ⟨fun hb17 => ?_, fun hb17 => ?_⟩
  ·have hb17R := hb17; try simp only [zz] at hb17
   obtain ⟨x, hx, hd, ht⟩ := get_lt (xs := l) (i := k) (by omega)
   obtain ⟨y, hy⟩ := prev_ex l k (by omega)
   refine pwp_skip ?_
   refine seq_norm (hK16 _ ?_); clear hK16 K16
   refine pwp_seq_block fun K18 hK18 => ?_
   refine pwp_seq_plain rfl fun K19 hK19 => ?_
   refine p_mS rfl ?_
   refine p_e rfl (e_ixL rfl rfl) ?_
   refine p_e rfl (e_loadA (n := 2) rfl (by kernel_rfl) (by kernel_rfl) (by kernel_rfl) (by first | omega | (simp only [List.length_map]; omega)) (by decide) (by first | exact agg_map hx rfl)) ?_
   refine p_new rfl (e_alloc (cs := [.int 0, .int 0]) (n := 2) (by kernel_rfl) rfl (by decide)) (ob_alloc (by decide)) ?_
   refine p_aS rfl ?_
   refine p_frz (u := 9) rfl (e_storeA rfl (hset_self _ _ _) rfl rfl rfl (by kernel_rfl) rfl (by kernel_rfl)) trivial rfl (by intro row hr; simp only [List.mem_singleton] at hr; subst hr; exact At.pure (x)) ?_
   refine p_end (hK19 _ ?_); clear hK19 K19
   refine pwp_seq_seq ?_
   refine pwp_seq_gops rfl fun K20 hK20 => ?_
   refine g_begin ?_
   refine g_e rfl (e_ixaLA (n := 2) (e := 3) rfl rfl (by kernel_rfl) (by kernel_rfl) (by decide)) ?_
   refine g_e rfl (e_load (v := .int (x).a0) rfl (by kernel_rfl) (by kernel_rfl) (by kernel_rfl) (by exact Nat.zero_lt_one) (by decide) rfl) ?_
   refine g_e rfl (e_faQ pl5 rfl) ?_
   refine g_e rfl (e_lH (v := .sc _) rfl ((hset_ne (key_ne rfl)).trans ((hset_ne (key_ne rfl)).trans ((hset_ne (key_ne rfl)).trans hihj14_0))) rfl) ?_
   refine g_e rfl (e_sub rfl rfl (by first | omega | (simp only [List.length_map] at *; omega))) ?_
   refine g_call rfl rfl rfl rfl (.cons inn_sc (.cons inn_sc (.cons inn_sc .nil))) (within _ _ _) ?_
   refine g_e rfl (e_not rfl) ?_
   refine g_mS rfl rfl ?_
   refine g_cases (fun hb21 => ?_) (fun hb21 => ?_)
   ·have hb21R := hb21; try simp only [zz] at hb21
    iterate 5 refine g_skip rfl rfl rfl ?_
    refine g_nocall rfl rfl rfl ?_
    refine g_skip rfl rfl rfl ?_
    refine g_pT rfl rfl rfl ?_
    refine g_end (ds := [40, 41, 42, 43, 44, 45, 46]) rfl rfl (hK20 _ ?_); clear hK20 K20
    refine pwp_seq_cond (t := true) rfl fun K22 hK22 => ⟨fun _ => ?_, nofun⟩
    refine pwp_seq_plain rfl fun K23 hK23 => ?_
    refine p_aS rfl ?_
    refine p_aS rfl ?_
    refine p_end (hK23 _ ?_); clear hK23 K23
    refine pwp_ret ?_
    refine ret_seq ?_
    refine ret_block ?_
    refine ret_seq ?_
    refine ret_loop ?_
    refine ret_block ?_
    refine ret_seq ?_
    refine end2 (v := .sc _) (w := .sc _) rfl rfl ?_
    first
      | exact out_p ((cv_hit hin hx (ct_6 hx (fun q => by have q1 := q.1; have q2 := q.2; omega)) (by decide)).trans (cw_0 htz).symm)
      | exact out_p ((cv_hit hin hx (ct_10 hx ⟨by omega, by omega⟩ (by omega) (hy (by omega)) (nlt_of (by omega))) (by decide)).trans (cw_0 htz).symm)
      | exact out_p ((cv_25 hce (rm_hit hmo hrm hrl (gp_t (by omega) (by rw [← mp_get hmo]; assumption)))).symm.trans (cw_0 htz).symm)
      | exact out_p (by rw [hs3]; exact (cv_0 hce hgp).symm.trans (cw_0 htz).symm)
      | exact out_p (cw_e (by assumption))
   ·have hb21R := hb21; try simp only [zz] at hb21
    refine g_e rfl (e_ixaLA (n := 2) (e := 3) rfl rfl (by kernel_rfl) (by kernel_rfl) (by decide)) ?_
    refine g_e rfl (e_load (v := .int (x).a1) rfl (by kernel_rfl) (by kernel_rfl) (by kernel_rfl) (by exact Nat.zero_lt_one) (by decide) rfl) ?_
    refine g_e rfl (e_faQ pl5 rfl) ?_
    refine g_e rfl (e_lH (v := .sc _) rfl ((hset_ne (key_ne rfl)).trans ((hset_ne (key_ne rfl)).trans ((hset_ne (key_ne rfl)).trans hihj14_0))) rfl) ?_
    refine g_e rfl (e_sub rfl rfl (by first | omega | (simp only [List.length_map] at *; omega))) ?_
    refine g_call rfl rfl rfl rfl (.cons inn_sc (.cons inn_sc (.cons inn_sc .nil))) (within _ _ _) ?_
    refine g_e rfl (e_not rfl) ?_
    refine g_pF rfl rfl rfl ?_
    refine g_end (ds := [40, 41, 42, 43, 44, 45, 46]) rfl rfl (hK20 _ ?_); clear hK20 K20
    refine pwp_seq_cond rfl fun K24 hK24 => ⟨fun hb25 => ?_, fun hb25 => ?_⟩
    ·have hb25R := hb25; try simp only [zz] at hb25
     refine pwp_seq_plain rfl fun K26 hK26 => ?_
     refine p_aS rfl ?_
     refine p_aS rfl ?_
     refine p_end (hK26 _ ?_); clear hK26 K26
     refine pwp_ret ?_
     refine ret_seq ?_
     refine ret_block ?_
     refine ret_seq ?_
     refine ret_loop ?_
     refine ret_block ?_
     refine ret_seq ?_
     refine end2 (v := .sc _) (w := .sc _) rfl rfl ?_
     first
       | exact out_p ((cv_hit hin hx (ct_6 hx (fun q => by have q1 := q.1; have q2 := q.2; omega)) (by decide)).trans (cw_0 htz).symm)
       | exact out_p ((cv_hit hin hx (ct_10 hx ⟨by omega, by omega⟩ (by omega) (hy (by omega)) (nlt_of (by omega))) (by decide)).trans (cw_0 htz).symm)
       | exact out_p ((cv_25 hce (rm_hit hmo hrm hrl (gp_t (by omega) (by rw [← mp_get hmo]; assumption)))).symm.trans (cw_0 htz).symm)
       | exact out_p (by rw [hs3]; exact (cv_0 hce hgp).symm.trans (cw_0 htz).symm)
       | exact out_p (cw_e (by assumption))
    ·have hb25R := hb25; try simp only [zz] at hb25
     refine pwp_skip ?_
     refine seq_norm (hK24 _ ?_); clear hK24 K24
     refine pwp_seq_seq ?_
     refine pwp_seq_gops rfl fun K27 hK27 => ?_
     refine g_begin ?_
     refine g_mS rfl rfl ?_
     refine g_e rfl (e_gt rfl rfl) ?_
     refine g_mS rfl rfl ?_
     refine g_cases (fun hb28 => ?_) (fun hb28 => ?_)
     ·have hb28R := hb28; try simp only [zz] at hb28
      refine g_e rfl (e_move (v := .lit _ _ _) rfl) ?_
      refine g_mS rfl rfl ?_
      refine g_e rfl (e_sub rfl rfl (by first | omega | (simp only [List.length_map] at *; omega))) ?_
      refine g_e rfl (e_ixL rfl rfl) ?_
      refine g_e rfl (e_slA (rows := ([(y).a0, (y).a1]).map ci) (n := 2) (e := 3) rfl (by kernel_rfl) (by kernel_rfl) (by decide) (by first | omega | (simp only [List.length_map]; omega)) (by decide) (agl (hy (by omega)))) ?_
      refine g_e rfl (e_slA (rows := ([(x).a0, (x).a1]).map ci) (n := 2) (e := 3) rfl (by kernel_rfl) (by kernel_rfl) (by decide) (by exact Nat.zero_lt_one) (by decide) rfl) ?_
      refine g_call rfl rfl rfl rfl (.cons inn_lit (.cons inn_lit .nil)) (CompareL _ _ [(y).a0, (y).a1] [(x).a0, (x).a1] rfl (by simp)) ?_
      refine g_e rfl (e_ge rfl rfl) ?_
      refine g_pT rfl rfl rfl ?_
      refine g_end (ds := [51, 52, 53, 54, 55, 56, 57, 58]) (by kernel_rfl) rfl (hK27 _ ?_); clear hK27 K27
      refine pwp_seq_cond rfl fun K29 hK29 => ⟨fun hb30 => ?_, fun hb30 => ?_⟩
      ·have hb30R := hb30; try simp only [zz] at hb30
       refine pwp_seq_plain rfl fun K31 hK31 => ?_
       refine p_aS rfl ?_
       refine p_aS rfl ?_
       refine p_end (hK31 _ ?_); clear hK31 K31
       refine pwp_ret ?_
       refine ret_seq ?_
       refine ret_block ?_
       refine ret_seq ?_
       refine ret_loop ?_
       refine ret_block ?_
       refine ret_seq ?_
       refine end2 (v := .sc _) (w := .sc _) rfl rfl ?_
       first
         | exact out_p ((cv_hit hin hx (ct_6 hx (fun q => by have q1 := q.1; have q2 := q.2; omega)) (by decide)).trans (cw_0 htz).symm)
         | exact out_p ((cv_hit hin hx (ct_10 hx ⟨by omega, by omega⟩ (by omega) (hy (by omega)) (nlt_of (by omega))) (by decide)).trans (cw_0 htz).symm)
         | exact out_p ((cv_25 hce (rm_hit hmo hrm hrl (gp_t (by omega) (by rw [← mp_get hmo]; assumption)))).symm.trans (cw_0 htz).symm)
         | exact out_p (by rw [hs3]; exact (cv_0 hce hgp).symm.trans (cw_0 htz).symm)
         | exact out_p (cw_e (by assumption))
      ·have hb30R := hb30; try simp only [zz] at hb30
       refine pwp_skip ?_
       refine seq_norm (hK29 _ ?_); clear hK29 K29
       refine pwp_plain rfl fun K32 hK32 => ?_
       refine p_e rfl (e_move (v := .map _) rfl) ?_
       refine p_e rfl (e_loadA (n := 2) (cs := At.enc (x)) rfl (by kernel_rfl) (by kernel_rfl) (by kernel_rfl) (by exact Nat.zero_lt_one) (by decide) rfl) ?_
       refine p_store rfl (e_mset (kt := 35) (et := 4) (f := ka) (g := PV.bool) (a := x) (b := true) (l := m) ka_eq ka_ok rfl rfl rfl rfl (MapAt.keep hihj14_1 ((hset_ne (key_ne rfl)).trans ((hset_ne (key_ne rfl)).trans ((hset_ne (key_ne rfl)).trans (rfl))))) (by kernel_rfl)) trivial ?_
       refine p_end (hK32 _ ?_); clear hK32 K32
       refine block_norm ?_
       refine seq_norm (hK18 _ ?_); clear hK18 K18
       refine pwp_plain rfl fun K33 hK33 => ?_
       refine p_e rfl (e_adL rfl rfl) ?_
       refine p_mS rfl ?_
       refine p_end (hK33 _ ?_); clear hK33 K33
       exact loop_again ((k + 1, aSet x true m)) (by show _ < _; simp only; omega) ⟨rfl, rfl, rfl, rfl, rfl, trivial⟩ ⟨rfl, trivial⟩ (by exact ⟨by show _ + 1 ≤ _; simp only [List.length_map] at *; omega, by first | exact ct_s hin (ct_z hx ⟨by omega, by omega⟩ (by omega)) | exact ct_s hin (ct_0 hx ⟨by omega, by omega⟩ (by omega) (hy (by omega)) (lt_of (by omega))), by exact mp_s hmp hx, ((hset_ne (key_ne rfl)).trans ((hset_ne (key_ne rfl)).trans ((hset_ne (key_ne rfl)).trans ((hset_ne (key_ne rfl)).trans hihj14_0)))), (MapAt.set ka_eq (MapAt.keep hihj14_1 ((hset_ne (key_ne rfl)).trans ((hset_ne (key_ne rfl)).trans ((hset_ne (key_ne rfl)).trans (rfl))))) x true)⟩)
     ·have hb28R := hb28; try simp only [zz] at hb28
      iterate 6 refine g_skip rfl rfl rfl ?_
      refine g_nocall rfl rfl rfl ?_
      refine g_skip rfl rfl rfl ?_
      refine g_pF rfl rfl rfl ?_
      refine g_end (ds := [51, 52, 53, 54, 55, 56, 57, 58]) (by kernel_rfl) rfl (hK27 _ ?_); clear hK27 K27
      refine pwp_seq_cond (t := false) rfl fun K34 hK34 => ⟨nofun, fun _ => ?_⟩
      refine pwp_skip ?_
      refine seq_norm (hK34 _ ?_); clear hK34 K34
      refine pwp_plain rfl fun K35 hK35 => ?_
      refine p_e rfl (e_move (v := .map _) rfl) ?_
      refine p_e rfl (e_loadA (n := 2) (cs := At.enc (x)) rfl (by kernel_rfl) (by kernel_rfl) (by kernel_rfl) (by exact Nat.zero_lt_one) (by decide) rfl) ?_
      refine p_store rfl (e_mset (kt := 35) (et := 4) (f := ka) (g := PV.bool) (a := x) (b := true) (l := m) ka_eq ka_ok rfl rfl rfl rfl (MapAt.keep hihj14_1 ((hset_ne (key_ne rfl)).trans ((hset_ne (key_ne rfl)).trans ((hset_ne (key_ne rfl)).trans (rfl))))) (by kernel_rfl)) trivial ?_
      refine p_end (hK35 _ ?_); clear hK35 K35
      refine block_norm ?_
      refine seq_norm (hK18 _ ?_); clear hK18 K18
      refine pwp_plain rfl fun K36 hK36 => ?_
      refine p_e rfl (e_adL rfl rfl) ?_
      refine p_mS rfl ?_
      refine p_end (hK36 _ ?_); clear hK36 K36
      exact loop_again ((k + 1, aSet x true m)) (by show _ < _; simp only; omega) ⟨rfl, rfl, rfl, rfl, rfl, trivial⟩ ⟨rfl, trivial⟩ (by exact ⟨by show _ + 1 ≤ _; simp only [List.length_map] at *; omega, by first | exact ct_s hin (ct_z hx ⟨by omega, by omega⟩ (by omega)) | exact ct_s hin (ct_0 hx ⟨by omega, by omega⟩ (by omega) (hy (by omega)) (lt_of (by omega))), by exact mp_s hmp hx, ((hset_ne (key_ne rfl)).trans ((hset_ne (key_ne rfl)).trans ((hset_ne (key_ne rfl)).trans ((hset_ne (key_ne rfl)).trans hihj14_0)))), (MapAt.set ka_eq (MapAt.keep hihj14_1 ((hset_ne (key_ne rfl)).trans ((hset_ne (key_ne rfl)).trans ((hset_ne (key_ne rfl)).trans (rfl))))) x true)⟩)
  ·have hb17R := hb17; try simp only [zz] at hb17
   have hce : cutE t l = 0 := ct_no hin (by simp only [List.length_map] at *; omega)
   have hmo := mp_all hmp (by simp only [List.length_map] at *; omega)
   refine pwp_exit ?_
   refine exit_seq ?_
   clear hK16 K16
   refine exit_loop ?_
   refine exit_here ?_
   refine seq_norm (hK9 _ ?_); clear hK9 K9
   refine pwp_seq_seq ?_
   refine pwp_seq_plain rfl fun K37 hK37 => ?_
   refine p_e rfl (e_move (v := .map _) rfl) ?_
   refine p_new rfl (e_range rfl hihj14_1 (by kernel_rfl)) trivial ?_
   obtain ⟨rem0, hit0, hrem0⟩ := IterT.start (kit := (64, c13 64)) (key_ne rfl) hihj14_1
   refine p_end (hK37 _ ?_); clear hK37 K37
   refine pwp_seq_block fun K38 hK38 => ?_
   refine pwp_loopR (α := (List ((At × Bool) × Nat))) [2, 7, 64] (fun (rem : (List ((At × Bool) × Nat))) => []) (fun (rem : (List ((At × Bool) × Nat))) (h : Heap) (_ : Nat → Nat) => (IterT ka PV.bool h (64, c13 64) (24, 0) m (rem) none) ∧ (RmOK t l m (rem)) ∧ (h (2, 0) = some (.rows 5 [Traffic.enc t])) ∧ (MapAt h (24, 0) (entsOf ka PV.bool m))) (fun (rem : (List ((At × Bool) × Nat))) => (rem).length) (rem0) trivial (by exact ⟨by exact hit0, by exact rm_0 hrem0, ((hset_ne (key_ne rfl)).trans hihj14_0), (MapAt.keep hihj14_1 ((hset_ne (key_ne rfl)).trans (rfl)))⟩) fun rem r39 h40 c41 hj42 => ?_
   obtain ⟨hit, hrm, hihj42_0, hihj42_1⟩ := hj42
   try dsimp only at hit
   try dsimp only at hrm
   try dsimp only at hihj42_0
   try dsimp only at hihj42_1
   show pwp _ _ (loopQ _ _ _) ⟨sets (mix _ _ _) [], _, _⟩
   refine pwp_seq_plain rfl fun K43 hK43 => ?_
   by_cases hre : rem = []
   ·rw [hre] at hit
    have hgp := rm_end hmo hrm hre
    refine p_e rfl (e_nextT0 rfl hit) ?_
    refine p_e rfl (e_ext (v := .sc _) rfl (by simp) rfl) ?_
    refine p_end (hK43 _ ?_); clear hK43 K43
    refine pwp_seq_cond (t := false) rfl fun K44 hK44 => ⟨nofun, fun _ => ?_⟩
    refine pwp_exit ?_
    refine exit_seq ?_
    clear hK44 K44
    refine exit_loop ?_
    refine exit_here ?_
    refine seq_norm (hK38 _ ?_); clear hK38 K38
    refine pwp_seq_plain rfl fun K45 hK45 => ?_
    refine p_aS rfl ?_
    refine p_end (hK45 _ ?_); clear hK45 K45
    refine pwp_seq_seq ?_
    refine pwp_seq_plain rfl fun K46 hK46 => ?_
    refine p_e rfl (e_faQ pl5 rfl) ?_
    refine p_e rfl (e_lH (v := .lit _ _ _) rfl hihj42_0 rfl) ?_
    refine p_e rfl (e_len rfl (by kernel_rfl)) ?_
    refine p_mS rfl ?_
    refine p_end (hK46 _ ?_); clear hK46 K46
    refine pwp_seq_block fun K47 hK47 => ?_
    refine pwp_loopR (α := Nat × Int) [2, 7, 87, 88] (fun (a48 : Nat × Int) => [(11, .int (a48.2)), (89, .int (a48.1))]) (fun (a48 : Nat × Int) (h : Heap) (_ : Nat → Nat) => ((a48.1) ≤ (t.supplies).length) ∧ ((a48.2) = capS (supC l) t.supplies (a48.1)) ∧ (h (2, 0) = some (.rows 5 [Traffic.enc t])) ∧ (MapAt h (24, 0) (entsOf ka PV.bool m))) (fun (a48 : Nat × Int) => (t.supplies).length - (a48.1)) (0, 0) (by exact ⟨rfl, rfl, trivial⟩) (by exact ⟨by exact Nat.zero_le _, by exact rfl, hihj42_0, hihj42_1⟩) fun a48 r49 h50 c51 hj52 => ?_
    obtain ⟨k, a⟩ := a48
    obtain ⟨hk, ha, hihj52_0, hihj52_1⟩ := hj52
    try dsimp only at hk
    try dsimp only at ha
    try dsimp only at hihj52_0
    try dsimp only at hihj52_1
    show pwp _ _ (loopQ _ _ _) ⟨sets (mix _ _ _) [(11, .int a), (89, .int k)], _, _⟩
    refine pwp_seq_plain rfl fun K53 hK53 => ?_
    refine p_e rfl (e_lt rfl rfl) ?_
    refine p_end (hK53 _ ?_); clear hK53 K53
    refine pwp_seq_cond rfl fun K54 hK54 => ⟨fun hb55 => ?_, fun hb55 => ?_⟩
    ·have hb55R := hb55; try simp only [zz] at hb55
     obtain ⟨x, hx, hd, ht⟩ := get_lt (xs := t.supplies) (i := k) (by omega)
     have hxs := hT.sp x (List.mem_of_getElem? hx)
     have hb1 := (capS_b (f := supC l) (l := t.supplies) (m := 1000000) (fun y hy => supC_b (hT.sp y hy).2.2) (k := k) (by omega))
     refine pwp_skip ?_
     refine seq_norm (hK54 _ ?_); clear hK54 K54
     refine pwp_seq_block fun K56 hK56 => ?_
     refine pwp_seq_plain rfl fun K57 hK57 => ?_
     refine p_e rfl (e_ixL rfl rfl) ?_
     refine p_e rfl (e_loadA (n := 3) rfl (by kernel_rfl) (by kernel_rfl) (by kernel_rfl) (by first | omega | (simp only [List.length_map]; omega)) (by decide) (by first | exact agg_map hx rfl)) ?_
     refine p_new rfl (e_alloc (cs := [.int 0, .int 0, .int 0]) (n := 3) (by kernel_rfl) rfl (by decide)) (ob_alloc (by decide)) ?_
     refine p_store rfl (e_storeA rfl (hset_self _ _ _) rfl rfl rfl (by kernel_rfl) rfl (by kernel_rfl)) trivial ?_
     refine p_end (hK57 _ ?_); clear hK57 K57
     refine pwp_seq_plain rfl fun K58 hK58 => ?_
     refine p_e rfl (e_move (v := .map _) rfl) ?_
     refine p_e rfl (e_faQ pl3 rfl) ?_
     refine p_e rfl (e_lH (v := .sc _) rfl (hset_self _ _ _) rfl) ?_
     refine p_e rfl (e_faQ pl3 rfl) ?_
     refine p_e rfl (e_lH (v := .sc _) rfl (hset_self _ _ _) rfl) ?_
     refine p_e rfl (e_buildA (cs := At.enc (⟨x.place, x.day⟩ : At)) (zs := [.int 0, .int 0]) (pl := [(0, 1, false), (1, 1, false)]) (by kernel_rfl) (by kernel_rfl) (by kernel_rfl) rfl rfl (by exact ⟨by decide, rfl, Nat.le_of_ble_eq_true rfl, rfl, ⟨by decide, rfl, Nat.le_of_ble_eq_true rfl, rfl, trivial⟩⟩) rfl) ?_
     refine p_e rfl (e_look (kt := 35) (et := 4) (f := ka) (g := PV.bool) (a := (⟨x.place, x.day⟩ : At)) (l := m) (z := false) ka_eq ka_ok rfl rfl (MapAt.keep hihj52_1 ((hset_ne (key_ne rfl)).trans ((hset_ne (key_ne rfl)).trans (rfl)))) (by kernel_rfl) (by kernel_rfl) (by first | rfl | kernel_rfl)) ?_
     refine p_e rfl (e_not rfl) ?_
     refine p_end (hK58 _ ?_); clear hK58 K58
     refine pwp_cond rfl (fun hb59 => ?_) (fun hb59 => ?_)
     ·have hb59R := hb59; try simp only [zz] at hb59
      refine pwp_plain rfl fun K60 hK60 => ?_
      refine p_mS rfl ?_
      refine p_e rfl (e_faQ pl3 rfl) ?_
      refine p_e rfl (e_lH (v := .sc _) rfl (hset_self _ _ _) rfl) ?_
      refine p_e rfl (e_adL rfl rfl) ?_
      refine p_aS rfl ?_
      refine p_end (hK60 _ ?_); clear hK60 K60
      refine block_norm ?_
      refine seq_norm (hK56 _ ?_); clear hK56 K56
      refine pwp_plain rfl fun K61 hK61 => ?_
      refine p_e rfl (e_adL rfl rfl) ?_
      refine p_mS rfl ?_
      refine p_end (hK61 _ ?_); clear hK61 K61
      exact loop_again ((k + 1, (a + x.count))) (by show _ < _; simp only; omega) ⟨rfl, rfl, rfl, rfl, trivial⟩ ⟨rfl, rfl, trivial⟩ (by exact ⟨by show _ + 1 ≤ _; simp only [List.length_map] at *; omega, by rw [capS_s hx]; first | (rw [supC_t (by rw [← mp_get hmo]; assumption)]; omega) | (rw [supC_f (by rw [← mp_get hmo]; assumption)]; omega), ((hset_ne (key_ne rfl)).trans ((hset_ne (key_ne rfl)).trans hihj52_0)), (MapAt.keep hihj52_1 ((hset_ne (key_ne rfl)).trans ((hset_ne (key_ne rfl)).trans (rfl))))⟩)
     ·have hb59R := hb59; try simp only [zz] at hb59
      refine pwp_skip ?_
      refine block_norm ?_
      refine seq_norm (hK56 _ ?_); clear hK56 K56
      refine pwp_plain rfl fun K62 hK62 => ?_
      refine p_e rfl (e_adL rfl rfl) ?_
      refine p_mS rfl ?_
      refine p_end (hK62 _ ?_); clear hK62 K62
      exact loop_again ((k + 1, a)) (by show _ < _; simp only; omega) ⟨rfl, rfl, rfl, rfl, trivial⟩ ⟨rfl, rfl, trivial⟩ (by exact ⟨by show _ + 1 ≤ _; simp only [List.length_map] at *; omega, by rw [capS_s hx]; first | (rw [supC_t (by rw [← mp_get hmo]; assumption)]; omega) | (rw [supC_f (by rw [← mp_get hmo]; assumption)]; omega), ((hset_ne (key_ne rfl)).trans ((hset_ne (key_ne rfl)).trans hihj52_0)), (MapAt.keep hihj52_1 ((hset_ne (key_ne rfl)).trans ((hset_ne (key_ne rfl)).trans (rfl))))⟩)
    ·have hb55R := hb55; try simp only [zz] at hb55
     have hs1 : a = capS (supC l) t.supplies t.supplies.length := ha.trans (capS_n (by simp only [List.length_map] at *; omega) (Nat.le_refl _))
     have hbs1 := (capS_b (f := supC l) (l := t.supplies) (m := 1000000) (fun y hy => supC_b (hT.sp y hy).2.2) (k := t.supplies.length) (by omega))
     refine pwp_exit ?_
     refine exit_seq ?_
     clear hK54 K54
     refine exit_loop ?_
     refine exit_here ?_
     refine seq_norm (hK47 _ ?_); clear hK47 K47
     refine pwp_seq_seq ?_
     refine pwp_seq_plain rfl fun K63 hK63 => ?_
     refine p_e rfl (e_faQ pl5 rfl) ?_
     refine p_e rfl (e_lH (v := .lit _ _ _) rfl hihj52_0 rfl) ?_
     refine p_e rfl (e_len rfl (by kernel_rfl)) ?_
     refine p_mS rfl ?_
     refine p_end (hK63 _ ?_); clear hK63 K63
     refine pwp_seq_block fun K64 hK64 => ?_
     refine pwp_loopR (α := Nat × Int) [2, 7, 107, 108] (fun (a65 : Nat × Int) => [(11, .int (a65.2)), (109, .int (a65.1))]) (fun (a65 : Nat × Int) (h : Heap) (_ : Nat → Nat) => ((a65.1) ≤ (t.needs).length) ∧ ((a65.2) = capS (supC l) t.supplies t.supplies.length + capS (needC l) t.needs (a65.1)) ∧ (h (2, 0) = some (.rows 5 [Traffic.enc t])) ∧ (MapAt h (24, 0) (entsOf ka PV.bool m))) (fun (a65 : Nat × Int) => (t.needs).length - (a65.1)) (0, a) (by exact ⟨rfl, rfl, trivial⟩) (by exact ⟨by exact Nat.zero_le _, by rw [capS_0]; omega, hihj52_0, hihj52_1⟩) fun a65 r66 h67 c68 hj69 => ?_
     obtain ⟨k, a⟩ := a65
     obtain ⟨hk, ha, hihj69_0, hihj69_1⟩ := hj69
     try dsimp only at hk
     try dsimp only at ha
     try dsimp only at hihj69_0
     try dsimp only at hihj69_1
     show pwp _ _ (loopQ _ _ _) ⟨sets (mix _ _ _) [(11, .int a), (109, .int k)], _, _⟩
     refine pwp_seq_plain rfl fun K70 hK70 => ?_
     refine p_e rfl (e_lt rfl rfl) ?_
     refine p_end (hK70 _ ?_); clear hK70 K70
     refine pwp_seq_cond rfl fun K71 hK71 => ⟨fun hb72 => ?_, fun hb72 => ?_⟩
     ·have hb72R := hb72; try simp only [zz] at hb72
      obtain ⟨x, hx, hd, ht⟩ := get_lt (xs := t.needs) (i := k) (by omega)
      have hxs := hT.nd x (List.mem_of_getElem? hx)
      have hb1 := (capS_b (f := needC l) (l := t.needs) (m := 1000000) (fun y hy => needC_b (hT.nd y hy).2.2) (k := k) (by omega))
      refine pwp_skip ?_
      refine seq_norm (hK71 _ ?_); clear hK71 K71
      refine pwp_seq_block fun K73 hK73 => ?_
      refine pwp_seq_plain rfl fun K74 hK74 => ?_
      refine p_e rfl (e_ixL rfl rfl) ?_
      refine p_e rfl (e_loadA (n := 3) rfl (by kernel_rfl) (by kernel_rfl) (by kernel_rfl) (by first | omega | (simp only [List.length_map]; omega)) (by decide) (by first | exact agg_map hx rfl)) ?_
      refine p_new rfl (e_alloc (cs := [.int 0, .int 0, .int 0]) (n := 3) (by kernel_rfl) rfl (by decide)) (ob_alloc (by decide)) ?_
      refine p_store rfl (e_storeA rfl (hset_self _ _ _) rfl rfl rfl (by kernel_rfl) rfl (by kernel_rfl)) trivial ?_
      refine p_end (hK74 _ ?_); clear hK74 K74
      refine pwp_seq_plain rfl fun K75 hK75 => ?_
      refine p_e rfl (e_move (v := .map _) rfl) ?_
      refine p_e rfl (e_faQ pl3 rfl) ?_
      refine p_e rfl (e_lH (v := .sc _) rfl (hset_self _ _ _) rfl) ?_
      refine p_e rfl (e_faQ pl3 rfl) ?_
      refine p_e rfl (e_lH (v := .sc _) rfl (hset_self _ _ _) rfl) ?_
      refine p_e rfl (e_buildA (cs := At.enc (⟨x.place, x.day⟩ : At)) (zs := [.int 0, .int 0]) (pl := [(0, 1, false), (1, 1, false)]) (by kernel_rfl) (by kernel_rfl) (by kernel_rfl) rfl rfl (by exact ⟨by decide, rfl, Nat.le_of_ble_eq_true rfl, rfl, ⟨by decide, rfl, Nat.le_of_ble_eq_true rfl, rfl, trivial⟩⟩) rfl) ?_
      refine p_e rfl (e_look (kt := 35) (et := 4) (f := ka) (g := PV.bool) (a := (⟨x.place, x.day⟩ : At)) (l := m) (z := false) ka_eq ka_ok rfl rfl (MapAt.keep hihj69_1 ((hset_ne (key_ne rfl)).trans ((hset_ne (key_ne rfl)).trans (rfl)))) (by kernel_rfl) (by kernel_rfl) (by first | rfl | kernel_rfl)) ?_
      refine p_end (hK75 _ ?_); clear hK75 K75
      refine pwp_cond rfl (fun hb76 => ?_) (fun hb76 => ?_)
      ·have hb76R := hb76; try simp only [zz] at hb76
       refine pwp_plain rfl fun K77 hK77 => ?_
       refine p_mS rfl ?_
       refine p_e rfl (e_faQ pl3 rfl) ?_
       refine p_e rfl (e_lH (v := .sc _) rfl (hset_self _ _ _) rfl) ?_
       refine p_e rfl (e_adL rfl rfl) ?_
       refine p_aS rfl ?_
       refine p_end (hK77 _ ?_); clear hK77 K77
       refine block_norm ?_
       refine seq_norm (hK73 _ ?_); clear hK73 K73
       refine pwp_plain rfl fun K78 hK78 => ?_
       refine p_e rfl (e_adL rfl rfl) ?_
       refine p_mS rfl ?_
       refine p_end (hK78 _ ?_); clear hK78 K78
       exact loop_again ((k + 1, (a + x.count))) (by show _ < _; simp only; omega) ⟨rfl, rfl, rfl, rfl, trivial⟩ ⟨rfl, rfl, trivial⟩ (by exact ⟨by show _ + 1 ≤ _; simp only [List.length_map] at *; omega, by rw [capS_s hx]; first | (rw [needC_t (by rw [← mp_get hmo]; assumption)]; omega) | (rw [needC_f (by rw [← mp_get hmo]; assumption)]; omega), ((hset_ne (key_ne rfl)).trans ((hset_ne (key_ne rfl)).trans hihj69_0)), (MapAt.keep hihj69_1 ((hset_ne (key_ne rfl)).trans ((hset_ne (key_ne rfl)).trans (rfl))))⟩)
      ·have hb76R := hb76; try simp only [zz] at hb76
       refine pwp_skip ?_
       refine block_norm ?_
       refine seq_norm (hK73 _ ?_); clear hK73 K73
       refine pwp_plain rfl fun K79 hK79 => ?_
       refine p_e rfl (e_adL rfl rfl) ?_
       refine p_mS rfl ?_
       refine p_end (hK79 _ ?_); clear hK79 K79
       exact loop_again ((k + 1, a)) (by show _ < _; simp only; omega) ⟨rfl, rfl, rfl, rfl, trivial⟩ ⟨rfl, rfl, trivial⟩ (by exact ⟨by show _ + 1 ≤ _; simp only [List.length_map] at *; omega, by rw [capS_s hx]; first | (rw [needC_t (by rw [← mp_get hmo]; assumption)]; omega) | (rw [needC_f (by rw [← mp_get hmo]; assumption)]; omega), ((hset_ne (key_ne rfl)).trans ((hset_ne (key_ne rfl)).trans hihj69_0)), (MapAt.keep hihj69_1 ((hset_ne (key_ne rfl)).trans ((hset_ne (key_ne rfl)).trans (rfl))))⟩)
     ·have hb72R := hb72; try simp only [zz] at hb72
      have hs2 : a = capS (supC l) t.supplies t.supplies.length + capS (needC l) t.needs t.needs.length := ha.trans (congrArg (fun z => capS (supC l) t.supplies t.supplies.length + z) (capS_n (by simp only [List.length_map] at *; omega) (Nat.le_refl _)))
      have hbs2 := (capS_b (f := needC l) (l := t.needs) (m := 1000000) (fun y hy => needC_b (hT.nd y hy).2.2) (k := t.needs.length) (by omega))
      refine pwp_exit ?_
      refine exit_seq ?_
      clear hK71 K71
      refine exit_loop ?_
      refine exit_here ?_
      refine seq_norm (hK64 _ ?_); clear hK64 K64
      refine pwp_seq_seq ?_
      refine pwp_seq_plain rfl fun K80 hK80 => ?_
      refine p_e rfl (e_faQ pl5 rfl) ?_
      refine p_e rfl (e_lH (v := .lit _ _ _) rfl hihj69_0 rfl) ?_
      refine p_e rfl (e_len rfl (by kernel_rfl)) ?_
      refine p_mS rfl ?_
      refine p_end (hK80 _ ?_); clear hK80 K80
      refine pwp_seq_block fun K81 hK81 => ?_
      refine pwp_loopR (α := Nat × Int) [2, 7, 126, 127] (fun (a82 : Nat × Int) => [(11, .int (a82.2)), (128, .int (a82.1))]) (fun (a82 : Nat × Int) (h : Heap) (_ : Nat → Nat) => ((a82.1) ≤ (t.routes).length) ∧ ((a82.2) = capS (supC l) t.supplies t.supplies.length + capS (needC l) t.needs t.needs.length + capS (rtC t l) t.routes (a82.1)) ∧ (h (2, 0) = some (.rows 5 [Traffic.enc t])) ∧ (MapAt h (24, 0) (entsOf ka PV.bool m))) (fun (a82 : Nat × Int) => (t.routes).length - (a82.1)) (0, a) (by exact ⟨rfl, rfl, trivial⟩) (by exact ⟨by exact Nat.zero_le _, by rw [capS_0]; omega, hihj69_0, hihj69_1⟩) fun a82 r83 h84 c85 hj86 => ?_
      obtain ⟨k, a⟩ := a82
      obtain ⟨hk, ha, hihj86_0, hihj86_1⟩ := hj86
      try dsimp only at hk
      try dsimp only at ha
      try dsimp only at hihj86_0
      try dsimp only at hihj86_1
      show pwp _ _ (loopQ _ _ _) ⟨sets (mix _ _ _) [(11, .int a), (128, .int k)], _, _⟩
      refine pwp_seq_plain rfl fun K87 hK87 => ?_
      refine p_e rfl (e_lt rfl rfl) ?_
      refine p_end (hK87 _ ?_); clear hK87 K87
      refine pwp_seq_cond rfl fun K88 hK88 => ⟨fun hb89 => ?_, fun hb89 => ?_⟩
      ·have hb89R := hb89; try simp only [zz] at hb89
       obtain ⟨x, hx, hd, ht⟩ := get_lt (xs := t.routes) (i := k) (by omega)
       have hxs := hT.rt x (List.mem_of_getElem? hx)
       have hb1 := (capS_b (f := rtC t l) (l := t.routes) (m := 20000000) (fun y hy => rtC_b (hT.rt y hy).2.2.2.2 hT.hB.2 (hT.rt y hy).2.2.2.1.1) (k := k) (by omega))
       refine pwp_skip ?_
       refine seq_norm (hK88 _ ?_); clear hK88 K88
       refine pwp_seq_block fun K90 hK90 => ?_
       refine pwp_seq_plain rfl fun K91 hK91 => ?_
       refine p_e rfl (e_ixL rfl rfl) ?_
       refine p_e rfl (e_loadA (n := 4) rfl (by kernel_rfl) (by kernel_rfl) (by kernel_rfl) (by first | omega | (simp only [List.length_map]; omega)) (by decide) (by first | exact agg_map hx rfl)) ?_
       refine p_new rfl (e_alloc (cs := [.int 0, .int 0, .int 0, .int 0]) (n := 4) (by kernel_rfl) rfl (by decide)) (ob_alloc (by decide)) ?_
       refine p_store rfl (e_storeA rfl (hset_self _ _ _) rfl rfl rfl (by kernel_rfl) rfl (by kernel_rfl)) trivial ?_
       refine p_end (hK91 _ ?_); clear hK91 K91
       refine pwp_seq_plain rfl fun K92 hK92 => ?_
       refine p_aS rfl ?_
       refine p_end (hK92 _ ?_); clear hK92 K92
       refine pwp_block ?_
       refine pwp_loopR (α := Nat × Int) [2, 7, 17, 126, 127, 128] (fun (a93 : Nat × Int) => [(11, .int (a93.2)), (18, .int (a93.1))]) (fun (a93 : Nat × Int) (h : Heap) (_ : Nat → Nat) => ((a93.1) = 0 ∨ ((a93.1) : Int) - 1 + x.days < t.days) ∧ ((a93.2) = capS (supC l) t.supplies t.supplies.length + capS (needC l) t.needs t.needs.length + capS (rtC t l) t.routes k + rtN l x (a93.1)) ∧ (h (2, 0) = some (.rows 5 [Traffic.enc t])) ∧ (MapAt h (24, 0) (entsOf ka PV.bool m)) ∧ (h (17, c85 17) = some (.rows 4 [Route.enc x]))) (fun (a93 : Nat × Int) => 20 - (a93.1)) (0, a) (by exact ⟨rfl, rfl, trivial⟩) (by exact ⟨by exact .inl rfl, by rw [rtN]; omega, ((hset_ne (key_ne rfl)).trans ((hset_ne (key_ne rfl)).trans hihj86_0)), (MapAt.keep hihj86_1 ((hset_ne (key_ne rfl)).trans ((hset_ne (key_ne rfl)).trans (rfl)))), (hset_self _ _ _)⟩) fun a93 r94 h95 c96 hj97 => ?_
       obtain ⟨j, b⟩ := a93
       obtain ⟨hj, hb, hihj97_0, hihj97_1, hihj97_2⟩ := hj97
       try dsimp only at hj
       try dsimp only at hb
       try dsimp only at hihj97_0
       try dsimp only at hihj97_1
       try dsimp only at hihj97_2
       show pwp _ _ (loopQ _ _ _) ⟨sets (mix _ _ _) [(11, .int b), (18, .int j)], _, _⟩
       refine pwp_seq_seq ?_
       refine pwp_seq_plain rfl fun K98 hK98 => ?_
       refine p_mS rfl ?_
       refine p_e rfl (e_faQ pl4 rfl) ?_
       refine p_e rfl (e_lH (v := .sc _) rfl hihj97_2 rfl) ?_
       refine p_e rfl (e_adL rfl rfl) ?_
       refine p_e rfl (e_faQ pl5 rfl) ?_
       refine p_e rfl (e_lH (v := .sc _) rfl hihj97_0 rfl) ?_
       refine p_e rfl (e_lt rfl rfl) ?_
       refine p_end (hK98 _ ?_); clear hK98 K98
       refine pwp_seq_cond rfl fun K99 hK99 => ⟨fun hb100 => ?_, fun hb100 => ?_⟩
       ·have hb100R := hb100; try simp only [zz] at hb100
        have hb2 := rtN_b (l := l) (r := x) hxs.2.2.2.2 (n := j)
        refine pwp_skip ?_
        refine seq_norm (hK99 _ ?_); clear hK99 K99
        refine pwp_seq_block fun K101 hK101 => ?_
        refine pwp_seq_gops rfl fun K102 hK102 => ?_
        refine g_begin ?_
        refine g_e rfl (e_move (v := .map _) rfl) ?_
        refine g_e rfl (e_faQ pl4 rfl) ?_
        refine g_e rfl (e_lH (v := .sc _) rfl hihj97_2 rfl) ?_
        refine g_mS rfl rfl ?_
        refine g_e rfl (e_buildA (cs := At.enc (⟨x.fro, (j : Int)⟩ : At)) (zs := [.int 0, .int 0]) (pl := [(0, 1, false), (1, 1, false)]) (by kernel_rfl) (by kernel_rfl) (by kernel_rfl) rfl rfl (by exact ⟨by decide, rfl, Nat.le_of_ble_eq_true rfl, rfl, ⟨by decide, rfl, Nat.le_of_ble_eq_true rfl, rfl, trivial⟩⟩) rfl) ?_
        refine g_e rfl (e_look (kt := 35) (et := 4) (f := ka) (g := PV.bool) (a := (⟨x.fro, (j : Int)⟩ : At)) (l := m) (z := false) ka_eq ka_ok rfl rfl hihj97_1 (by kernel_rfl) (by kernel_rfl) (by first | rfl | kernel_rfl)) ?_
        refine g_mS rfl rfl ?_
        refine g_cases (fun hb103 => ?_) (fun hb103 => ?_)
        ·have hb103R := hb103; try simp only [zz] at hb103
         refine g_e rfl (e_move (v := .map _) rfl) ?_
         refine g_e rfl (e_faQ pl4 rfl) ?_
         refine g_e rfl (e_lH (v := .sc _) rfl hihj97_2 rfl) ?_
         refine g_mS rfl rfl ?_
         refine g_e rfl (e_faQ pl4 rfl) ?_
         refine g_e rfl (e_lH (v := .sc _) rfl hihj97_2 rfl) ?_
         refine g_e rfl (e_adL rfl rfl) ?_
         refine g_e rfl (e_buildA (cs := At.enc (⟨x.til, ((j : Int) + x.days)⟩ : At)) (zs := [.int 0, .int 0]) (pl := [(0, 1, false), (1, 1, false)]) (by kernel_rfl) (by kernel_rfl) (by kernel_rfl) rfl rfl (by exact ⟨by decide, rfl, Nat.le_of_ble_eq_true rfl, rfl, ⟨by decide, rfl, Nat.le_of_ble_eq_true rfl, rfl, trivial⟩⟩) rfl) ?_
         refine g_e rfl (e_look (kt := 35) (et := 4) (f := ka) (g := PV.bool) (a := (⟨x.til, ((j : Int) + x.days)⟩ : At)) (l := m) (z := false) ka_eq ka_ok rfl rfl hihj97_1 (by kernel_rfl) (by kernel_rfl) (by first | rfl | kernel_rfl)) ?_
         refine g_e rfl (e_not rfl) ?_
         refine g_pT rfl rfl rfl ?_
         refine g_end (ds := [148, 149, 150, 151, 152, 153, 154, 155, 156, 157]) rfl rfl (hK102 _ ?_); clear hK102 K102
         refine pwp_cond rfl (fun hb104 => ?_) (fun hb104 => ?_)
         ·have hb104R := hb104; try simp only [zz] at hb104
          refine pwp_plain rfl fun K105 hK105 => ?_
          refine p_mS rfl ?_
          refine p_e rfl (e_faQ pl4 rfl) ?_
          refine p_e rfl (e_lH (v := .sc _) rfl hihj97_2 rfl) ?_
          refine p_e rfl (e_adL rfl rfl) ?_
          refine p_aS rfl ?_
          refine p_end (hK105 _ ?_); clear hK105 K105
          refine block_norm ?_
          refine seq_norm (hK101 _ ?_); clear hK101 K101
          refine pwp_plain rfl fun K106 hK106 => ?_
          refine p_mS rfl ?_
          refine p_e rfl (e_adL rfl rfl) ?_
          refine p_aS rfl ?_
          refine p_end (hK106 _ ?_); clear hK106 K106
          exact loop_again ((j + 1, (b + x.most))) (by show _ < _; simp only; omega) ⟨rfl, rfl, rfl, rfl, rfl, rfl, trivial⟩ ⟨rfl, rfl, trivial⟩ (by exact ⟨by right; omega, by rw [rtN_s]; first | (rw [dayC_f (by rw [← mp_get hmo]; assumption)]; omega) | (rw [dayC_g (by rw [← mp_get hmo]; assumption)]; omega) | (rw [dayC_t (by rw [← mp_get hmo]; assumption) (by rw [← mp_get hmo]; assumption)]; omega), hihj97_0, hihj97_1, hihj97_2⟩)
         ·have hb104R := hb104; try simp only [zz] at hb104
          refine pwp_skip ?_
          refine block_norm ?_
          refine seq_norm (hK101 _ ?_); clear hK101 K101
          refine pwp_plain rfl fun K107 hK107 => ?_
          refine p_mS rfl ?_
          refine p_e rfl (e_adL rfl rfl) ?_
          refine p_aS rfl ?_
          refine p_end (hK107 _ ?_); clear hK107 K107
          exact loop_again ((j + 1, b)) (by show _ < _; simp only; omega) ⟨rfl, rfl, rfl, rfl, rfl, rfl, trivial⟩ ⟨rfl, rfl, trivial⟩ (by exact ⟨by right; omega, by rw [rtN_s]; first | (rw [dayC_f (by rw [← mp_get hmo]; assumption)]; omega) | (rw [dayC_g (by rw [← mp_get hmo]; assumption)]; omega) | (rw [dayC_t (by rw [← mp_get hmo]; assumption) (by rw [← mp_get hmo]; assumption)]; omega), hihj97_0, hihj97_1, hihj97_2⟩)
        ·have hb103R := hb103; try simp only [zz] at hb103
         iterate 10 refine g_skip rfl rfl rfl ?_
         refine g_pF rfl rfl rfl ?_
         refine g_end (ds := [148, 149, 150, 151, 152, 153, 154, 155, 156, 157]) rfl rfl (hK102 _ ?_); clear hK102 K102
         refine pwp_cond (t := false) rfl nofun (fun _ => ?_)
         refine pwp_skip ?_
         refine block_norm ?_
         refine seq_norm (hK101 _ ?_); clear hK101 K101
         refine pwp_plain rfl fun K108 hK108 => ?_
         refine p_mS rfl ?_
         refine p_e rfl (e_adL rfl rfl) ?_
         refine p_aS rfl ?_
         refine p_end (hK108 _ ?_); clear hK108 K108
         exact loop_again ((j + 1, b)) (by show _ < _; simp only; omega) ⟨rfl, rfl, rfl, rfl, rfl, rfl, trivial⟩ ⟨rfl, rfl, trivial⟩ (by exact ⟨by right; omega, by rw [rtN_s]; first | (rw [dayC_f (by rw [← mp_get hmo]; assumption)]; omega) | (rw [dayC_g (by rw [← mp_get hmo]; assumption)]; omega) | (rw [dayC_t (by rw [← mp_get hmo]; assumption) (by rw [← mp_get hmo]; assumption)]; omega), hihj97_0, hihj97_1, hihj97_2⟩)
       ·have hb100R := hb100; try simp only [zz] at hb100
        have hb2 := rtN_b (l := l) (r := x) hxs.2.2.2.2 (n := j)
        refine pwp_exit ?_
        refine exit_seq ?_
        clear hK99 K99
        refine exit_loop ?_
        refine exit_here ?_
        refine block_norm ?_
        refine seq_norm (hK90 _ ?_); clear hK90 K90
        refine pwp_plain rfl fun K109 hK109 => ?_
        refine p_e rfl (e_adL rfl rfl) ?_
        refine p_mS rfl ?_
        refine p_end (hK109 _ ?_); clear hK109 K109
        exact loop_again ((k + 1, b)) (by show _ < _; simp only; omega) ⟨rfl, rfl, rfl, rfl, trivial⟩ ⟨rfl, rfl, trivial⟩ (by exact ⟨by show _ + 1 ≤ _; simp only [List.length_map] at *; omega, by rw [capS_s hx, ← rtN_end (k := j) (by omega) hj]; omega, hihj97_0, hihj97_1⟩)
      ·have hb89R := hb89; try simp only [zz] at hb89
       have hs3 : a = cutS t l := ha.trans (congrArg (fun z => capS (supC l) t.supplies t.supplies.length + capS (needC l) t.needs t.needs.length + z) (capS_n (by simp only [List.length_map] at *; omega) (Nat.le_refl _)))
       refine pwp_exit ?_
       refine exit_seq ?_
       clear hK88 K88
       refine exit_loop ?_
       refine exit_here ?_
       refine seq_norm (hK81 _ ?_); clear hK81 K81
       refine pwp_seq_plain rfl fun K110 hK110 => ?_
       refine p_mS rfl ?_
       refine p_aS rfl ?_
       refine p_aS rfl ?_
       refine p_end (hK110 _ ?_); clear hK110 K110
       refine pwp_ret ?_
       refine end2 (v := .sc _) (w := .sc _) rfl rfl ?_
       first
         | exact out_p ((cv_hit hin hx (ct_6 hx (fun q => by have q1 := q.1; have q2 := q.2; omega)) (by decide)).trans (cw_0 htz).symm)
         | exact out_p ((cv_hit hin hx (ct_10 hx ⟨by omega, by omega⟩ (by omega) (hy (by omega)) (nlt_of (by omega))) (by decide)).trans (cw_0 htz).symm)
         | exact out_p ((cv_25 hce (rm_hit hmo hrm hrl (gp_t (by omega) (by rw [← mp_get hmo]; assumption)))).symm.trans (cw_0 htz).symm)
         | exact out_p (by rw [hs3]; exact (cv_0 hce hgp).symm.trans (cw_0 htz).symm)
         | exact out_p (cw_e (by assumption))
   ·obtain ⟨_, _, _, _, hi1, hi2, hi3, hi4, hi5⟩ := IterT.step (key_ne rfl) hit hre
    refine p_next rfl hi1 hi2 hi3 hi4 fun p hp => ?_
    obtain ⟨l1, x, l2, hrl, rfl, hit2⟩ := hi5 p hp
    refine p_e rfl (e_ext (v := .sc _) rfl (by simp) rfl) ?_
    refine p_end (hK43 _ ?_); clear hK43 K43
    refine pwp_seq_cond (t := true) rfl fun K111 hK111 => ⟨fun _ => ?_, nofun⟩
    refine pwp_skip ?_
    refine seq_norm (hK111 _ ?_); clear hK111 K111
    refine pwp_block ?_
    have hxi := ct_in hce (mp_mem hmo (hrm.1 x (by rw [hrl]; simp)))
    have hxi1 := hxi.1
    have hxi2 := hxi.2
    refine pwp_seq_plain rfl fun K112 hK112 => ?_
    refine p_e rfl (e_entryT (e := x.1) rfl hit2) ?_
    refine p_e rfl (e_ext (v := .agg _) rfl (by simp) rfl) ?_
    refine p_new rfl (e_alloc (cs := [.int 0, .int 0]) (n := 2) (by kernel_rfl) rfl (by decide)) (ob_alloc (by decide)) ?_
    refine p_frz (u := 10) rfl (e_storeA rfl (hset_self _ _ _) rfl rfl rfl (by kernel_rfl) rfl (by kernel_rfl)) trivial rfl (by intro row hr; simp only [List.mem_singleton] at hr; subst hr; exact At.pure (x.1.1)) ?_
    refine p_end (hK112 _ ?_); clear hK112 K112
    refine pwp_seq_gops rfl fun K113 hK113 => ?_
    refine g_begin ?_
    refine g_e rfl (e_ixaLA (n := 2) (e := 3) rfl rfl (by kernel_rfl) (by kernel_rfl) (by decide)) ?_
    refine g_e rfl (e_load (v := .int (x.1.1).a1) rfl (by kernel_rfl) (by kernel_rfl) (by kernel_rfl) (by exact Nat.zero_lt_one) (by decide) rfl) ?_
    refine g_e rfl (e_adL rfl rfl) ?_
    refine g_e rfl (e_faQ pl5 rfl) ?_
    refine g_e rfl (e_lH (v := .sc _) rfl ((hset_ne (key_ne rfl)).trans ((hset_ne (key_ne rfl)).trans ((hset_ne (key_ne rfl)).trans ((hset_ne (key_ne rfl)).trans hihj42_0)))) rfl) ?_
    refine g_e rfl (e_lt rfl rfl) ?_
    refine g_mS rfl rfl ?_
    refine g_cases (fun hb114 => ?_) (fun hb114 => ?_)
    ·have hb114R := hb114; try simp only [zz] at hb114
     refine g_e rfl (e_move (v := .map _) rfl) ?_
     refine g_e rfl (e_ixaLA (n := 2) (e := 3) rfl rfl (by kernel_rfl) (by kernel_rfl) (by decide)) ?_
     refine g_e rfl (e_load (v := .int (x.1.1).a0) rfl (by kernel_rfl) (by kernel_rfl) (by kernel_rfl) (by exact Nat.zero_lt_one) (by decide) rfl) ?_
     refine g_e rfl (e_ixaLA (n := 2) (e := 3) rfl rfl (by kernel_rfl) (by kernel_rfl) (by decide)) ?_
     refine g_e rfl (e_load (v := .int (x.1.1).a1) rfl (by kernel_rfl) (by kernel_rfl) (by kernel_rfl) (by exact Nat.zero_lt_one) (by decide) rfl) ?_
     refine g_e rfl (e_adL rfl rfl) ?_
     refine g_e rfl (e_buildA (cs := At.enc (⟨(x.1.1).a0, ((x.1.1).a1 + (1))⟩ : At)) (zs := [.int 0, .int 0]) (pl := [(0, 1, false), (1, 1, false)]) (by kernel_rfl) (by kernel_rfl) (by kernel_rfl) rfl rfl (by exact ⟨by decide, rfl, Nat.le_of_ble_eq_true rfl, rfl, ⟨by decide, rfl, Nat.le_of_ble_eq_true rfl, rfl, trivial⟩⟩) rfl) ?_
     refine g_e rfl (e_look (kt := 35) (et := 4) (f := ka) (g := PV.bool) (a := (⟨(x.1.1).a0, ((x.1.1).a1 + (1))⟩ : At)) (l := m) (z := false) ka_eq ka_ok rfl rfl (MapAt.keep hihj42_1 ((hset_ne (key_ne rfl)).trans ((hset_ne (key_ne rfl)).trans ((hset_ne (key_ne rfl)).trans ((hset_ne (key_ne rfl)).trans (rfl)))))) (by kernel_rfl) (by kernel_rfl) (by first | rfl | kernel_rfl)) ?_
     refine g_e rfl (e_not rfl) ?_
     refine g_pT rfl rfl rfl ?_
     refine g_end (ds := [76, 77, 78, 79, 80, 81, 82, 83, 84]) rfl rfl (hK113 _ ?_); clear hK113 K113
     refine pwp_cond rfl (fun hb115 => ?_) (fun hb115 => ?_)
     ·have hb115R := hb115; try simp only [zz] at hb115
      refine pwp_seq_plain rfl fun K116 hK116 => ?_
      refine p_aS rfl ?_
      refine p_aS rfl ?_
      refine p_end (hK116 _ ?_); clear hK116 K116
      refine pwp_ret ?_
      refine ret_block ?_
      refine ret_loop ?_
      refine ret_block ?_
      refine ret_seq ?_
      refine end2 (v := .sc _) (w := .sc _) rfl rfl ?_
      first
        | exact out_p ((cv_hit hin hx (ct_6 hx (fun q => by have q1 := q.1; have q2 := q.2; omega)) (by decide)).trans (cw_0 htz).symm)
        | exact out_p ((cv_hit hin hx (ct_10 hx ⟨by omega, by omega⟩ (by omega) (hy (by omega)) (nlt_of (by omega))) (by decide)).trans (cw_0 htz).symm)
        | exact out_p ((cv_25 hce (rm_hit hmo hrm hrl (gp_t (by omega) (by rw [← mp_get hmo]; assumption)))).symm.trans (cw_0 htz).symm)
        | exact out_p (by rw [hs3]; exact (cv_0 hce hgp).symm.trans (cw_0 htz).symm)
        | exact out_p (cw_e (by assumption))
     ·have hb115R := hb115; try simp only [zz] at hb115
      refine pwp_skip ?_
      refine block_norm ?_
      exact loop_again (l1 ++ l2) (by show _ < _; rw [hrl]; simp) ⟨rfl, rfl, rfl, trivial⟩ trivial (by exact ⟨by exact IterAt.keep hit2 rfl rfl (.inl rfl), by first | exact rm_s hrm hrl (gp_f (by omega)) | exact rm_s hrm hrl (gp_g (by rw [← mp_get hmo]; assumption)), ((hset_ne (key_ne rfl)).trans ((hset_ne (key_ne rfl)).trans ((hset_ne (key_ne rfl)).trans ((hset_ne (key_ne rfl)).trans hihj42_0)))), (MapAt.keep hihj42_1 ((hset_ne (key_ne rfl)).trans ((hset_ne (key_ne rfl)).trans ((hset_ne (key_ne rfl)).trans ((hset_ne (key_ne rfl)).trans (rfl))))))⟩)
    ·have hb114R := hb114; try simp only [zz] at hb114
     iterate 9 refine g_skip rfl rfl rfl ?_
     refine g_pF rfl rfl rfl ?_
     refine g_end (ds := [76, 77, 78, 79, 80, 81, 82, 83, 84]) rfl rfl (hK113 _ ?_); clear hK113 K113
     refine pwp_cond (t := false) rfl nofun (fun _ => ?_)
     refine pwp_skip ?_
     refine block_norm ?_
     exact loop_again (l1 ++ l2) (by show _ < _; rw [hrl]; simp) ⟨rfl, rfl, rfl, trivial⟩ trivial (by exact ⟨by exact IterAt.keep hit2 rfl rfl (.inl rfl), by first | exact rm_s hrm hrl (gp_f (by omega)) | exact rm_s hrm hrl (gp_g (by rw [← mp_get hmo]; assumption)), ((hset_ne (key_ne rfl)).trans ((hset_ne (key_ne rfl)).trans ((hset_ne (key_ne rfl)).trans ((hset_ne (key_ne rfl)).trans hihj42_0)))), (MapAt.keep hihj42_1 ((hset_ne (key_ne rfl)).trans ((hset_ne (key_ne rfl)).trans ((hset_ne (key_ne rfl)).trans ((hset_ne (key_ne rfl)).trans (rfl))))))⟩)

end Go.Proofs.Ytigdmkhdmbbfiaa
