/- Trips, as the program tells it. No conditions. -/
import Derived.Test.YtigdmkhdmbbfiaaTb2
import Derived.Test.YtigdmkhdmbbfiaaTd0
set_option linter.unusedSimpArgs false
set_option linter.unusedVariables false
set_option maxRecDepth 100000
namespace Go.Proofs.Ytigdmkhdmbbfiaa
open Go Go.Pv
theorem fr42 : (inFrame Try.f42.ntmps (Try.f42.body.getD .skip) && Try.f42.results.toList.all (resScope Try.f42.ntmps)) = true := by kernel_rfl
theorem CheckTripsC (t : Traffic) (l : List Trip) (hl : l.length ≤ 1000000) (hl1 : t.routes.length ≤ 9223372036854775807) (hl2 : t.supplies.length ≤ 9223372036854775807) (hl3 : t.needs.length ≤ 9223372036854775807) : PCalls Try.prog 42 [.agg t.enc, .lit true 3 (l.map Trip.enc)] (.tup [.int (tripW t l).1, .int (tripW t l).2]) := by
 refine PCalls.of_code Try.func42 rfl rfl (by kernel_rfl) mixed fr42 (by show _ ≤ 196; simp) (pure_2 (.sc _) (.sc _)) ?_
 refine pwp_seq_plain rfl fun K1 hK1 => ?_
 refine p_new rfl (e_box (n := 5) rfl rfl) ⟨rfl, by decide⟩ ?_
 refine p_aS rfl ?_
 refine p_aS rfl ?_
 refine p_end (hK1 _ ?_); clear hK1 K1
 refine pwp_seq_seq ?_
 refine pwp_seq_plain rfl fun K2 hK2 => ?_
 refine p_e rfl (e_loadHA (cs := Traffic.enc (t)) (n := 5) rfl (hset_self _ _ _) (by kernel_rfl) (by kernel_rfl) (by kernel_rfl) (by exact Nat.zero_lt_one) (by decide) rfl) ?_
 refine p_call rfl (.cons (inn_agg (Traffic.pure _)) .nil) (CheckTrafficC t (by omega) (by omega) (by omega)) ?_
 refine p_aS rfl ?_
 refine p_end (hK2 _ ?_); clear hK2 K2
 refine pwp_seq_seq ?_
 refine pwp_seq_plain rfl fun K3 hK3 => ?_
 refine p_mS rfl ?_
 refine p_e rfl (e_ne rfl rfl) ?_
 refine p_end (hK3 _ ?_); clear hK3 K3
 refine pwp_seq_cond rfl fun K4 hK4 => ⟨fun hb5 => ?_, fun hb5 => ?_⟩
 ·have hb5R := hb5; try simp only [zz] at hb5
  refine pwp_seq_plain rfl fun K6 hK6 => ?_
  refine p_mS rfl ?_
  refine p_aS rfl ?_
  refine p_aS rfl ?_
  refine p_end (hK6 _ ?_); clear hK6 K6
  refine pwp_ret ?_
  refine ret_seq ?_
  refine end2 (v := .sc _) (w := .sc _) rfl rfl ?_
  first
    | exact out_p (tw_e (by assumption))
    | exact out_p ((tr_8 (by omega)).trans (tw_0 htz).symm)
    | exact out_p ((tr_hit hin hx (trF_6 (by omega)) (by decide) (by omega)).trans (tw_0 htz).symm)
    | exact out_p ((tr_hit hin hx (trF_2 (by omega) hro (by omega)) (by decide) (by omega)).trans (tw_0 htz).symm)
    | exact out_p ((tr_18 (by omega) htr (lim_hit (k := k) (i := x.route.toNat) (d := x.day.toNat) (fun y hy => (hcn y hy).1) (by omega) (by omega) (by omega) hro rfl (by omega))).trans (tw_0 htz).symm)
    | exact out_p ((tr_22 (by omega) htr hlf (stk_t (p := p) (d := d) (by omega) (by omega) (by omega))).trans (tw_0 htz).symm)
    | exact out_p (by rw [ha]; exact (tr_0 (by omega) htr hlf hsf).trans (tw_0 htz).symm)
 ·have hb5R := hb5; try simp only [zz] at hb5
  refine pwp_skip ?_
  refine seq_norm (hK4 _ ?_); clear hK4 K4
  refine pwp_seq_seq ?_
  have htz : trafE t = 0 := by omega
  have hT := trafE_inv htz
  have q1 := hT.hA
  have q2 := hT.hB
  have q3 := hT.hr
  have q4 := hT.hs
  have q5 := hT.hn
  refine pwp_seq_plain rfl fun K7 hK7 => ?_
  refine p_e rfl (e_move (v := .lit _ _ _) rfl) ?_
  refine p_e rfl (e_len rfl (by kernel_rfl)) ?_
  refine p_e rfl (e_gt rfl rfl) ?_
  refine p_end (hK7 _ ?_); clear hK7 K7
  refine pwp_seq_cond rfl fun K8 hK8 => ⟨fun hb9 => ?_, fun hb9 => ?_⟩
  ·have hb9R := hb9; try simp only [zz] at hb9
   refine pwp_seq_plain rfl fun K10 hK10 => ?_
   refine p_aS rfl ?_
   refine p_aS rfl ?_
   refine p_end (hK10 _ ?_); clear hK10 K10
   refine pwp_ret ?_
   refine ret_seq ?_
   refine end2 (v := .sc _) (w := .sc _) rfl rfl ?_
   first
     | exact out_p (tw_e (by assumption))
     | exact out_p ((tr_8 (by omega)).trans (tw_0 htz).symm)
     | exact out_p ((tr_hit hin hx (trF_6 (by omega)) (by decide) (by omega)).trans (tw_0 htz).symm)
     | exact out_p ((tr_hit hin hx (trF_2 (by omega) hro (by omega)) (by decide) (by omega)).trans (tw_0 htz).symm)
     | exact out_p ((tr_18 (by omega) htr (lim_hit (k := k) (i := x.route.toNat) (d := x.day.toNat) (fun y hy => (hcn y hy).1) (by omega) (by omega) (by omega) hro rfl (by omega))).trans (tw_0 htz).symm)
     | exact out_p ((tr_22 (by omega) htr hlf (stk_t (p := p) (d := d) (by omega) (by omega) (by omega))).trans (tw_0 htz).symm)
     | exact out_p (by rw [ha]; exact (tr_0 (by omega) htr hlf hsf).trans (tw_0 htz).symm)
  ·have hb9R := hb9; try simp only [zz] at hb9
   refine pwp_skip ?_
   refine seq_norm (hK8 _ ?_); clear hK8 K8
   refine pwp_seq_seq ?_
   refine pwp_seq_plain rfl fun K11 hK11 => ?_
   refine p_e rfl (e_move (v := .lit _ _ _) rfl) ?_
   refine p_e rfl (e_len rfl (by kernel_rfl)) ?_
   refine p_mS rfl ?_
   refine p_end (hK11 _ ?_); clear hK11 K11
   refine pwp_seq_block fun K12 hK12 => ?_
   refine pwp_loopR (α := Nat) [1, 2, 31, 32] (fun (k : Nat) => [(33, .int (k))]) (fun (k : Nat) (h : Heap) (_ : Nat → Nat) => ((k) ≤ l.length) ∧ (∀ i, i < (k) → ∀ y, l[i]? = some y → decide (trF t y ≠ 0) = false) ∧ (h (2, 0) = some (.rows 5 [Traffic.enc t]))) (fun (k : Nat) => l.length - (k)) (0) (by exact ⟨rfl, trivial⟩) (by exact ⟨by exact Nat.zero_le _, by exact nx_0 (K := fun y => decide (trF t y ≠ 0)), (hset_self _ _ _)⟩) fun k r13 h14 c15 hj16 => ?_
   obtain ⟨hk, hin, hihj16_0⟩ := hj16
   try dsimp only at hk
   try dsimp only at hin
   try dsimp only at hihj16_0
   show pwp _ _ (loopQ _ _ _) ⟨sets (mix _ _ _) [(33, .int k)], _, _⟩
   refine pwp_seq_plain rfl fun K17 hK17 => ?_
   refine p_e rfl (e_lt rfl rfl) ?_
   refine p_end (hK17 _ ?_); clear hK17 K17
   refine pwp_seq_cond rfl fun K18 hK18 => ⟨fun hb19 => ?_, fun hb19 => ?_⟩
   ·have hb19R := hb19; try simp only [zz] at hb19
    obtain ⟨x, hx, hd, ht⟩ := get_lt (xs := l) (i := k) (by omega)
    refine pwp_skip ?_
    refine seq_norm (hK18 _ ?_); clear hK18 K18
    refine pwp_seq_block fun K20 hK20 => ?_
    refine pwp_seq_plain rfl fun K21 hK21 => ?_
    refine p_e rfl (e_ixL rfl rfl) ?_
    refine p_e rfl (e_loadA (n := 3) rfl (by kernel_rfl) (by kernel_rfl) (by kernel_rfl) (by first | omega | (simp only [List.length_map]; omega)) (by decide) (by first | exact agg_map hx rfl)) ?_
    refine p_new rfl (e_alloc (cs := [.int 0, .int 0, .int 0]) (n := 3) (by kernel_rfl) rfl (by decide)) (ob_alloc (by decide)) ?_
    refine p_store rfl (e_storeA rfl (hset_self _ _ _) rfl rfl rfl (by kernel_rfl) rfl (by kernel_rfl)) trivial ?_
    refine p_end (hK21 _ ?_); clear hK21 K21
    refine pwp_seq_seq ?_
    refine pwp_seq_plain rfl fun K22 hK22 => ?_
    refine p_e rfl (e_faQ pl3 rfl) ?_
    refine p_e rfl (e_lH (v := .sc _) rfl (hset_self _ _ _) rfl) ?_
    refine p_e rfl (e_faQ pl5 rfl) ?_
    refine p_e rfl (e_lH (v := .lit _ _ _) rfl ((hset_ne (key_ne rfl)).trans ((hset_ne (key_ne rfl)).trans hihj16_0)) rfl) ?_
    refine p_e rfl (e_len rfl (by kernel_rfl)) ?_
    refine p_e rfl (e_sub rfl rfl (by first | omega | (simp only [List.length_map] at *; omega))) ?_
    refine p_call rfl (.cons inn_sc (.cons inn_sc (.cons inn_sc .nil))) (within _ _ _) ?_
    refine p_e rfl (e_not rfl) ?_
    refine p_end (hK22 _ ?_); clear hK22 K22
    refine pwp_seq_cond rfl fun K23 hK23 => ⟨fun hb24 => ?_, fun hb24 => ?_⟩
    ·have hb24R := hb24; try simp only [zz] at hb24
     refine pwp_seq_plain rfl fun K25 hK25 => ?_
     refine p_aS rfl ?_
     refine p_aS rfl ?_
     refine p_end (hK25 _ ?_); clear hK25 K25
     refine pwp_ret ?_
     refine ret_seq ?_
     refine ret_block ?_
     refine ret_seq ?_
     refine ret_loop ?_
     refine ret_block ?_
     refine ret_seq ?_
     refine end2 (v := .sc _) (w := .sc _) rfl rfl ?_
     first
       | exact out_p (tw_e (by assumption))
       | exact out_p ((tr_8 (by omega)).trans (tw_0 htz).symm)
       | exact out_p ((tr_hit hin hx (trF_6 (by omega)) (by decide) (by omega)).trans (tw_0 htz).symm)
       | exact out_p ((tr_hit hin hx (trF_2 (by omega) hro (by omega)) (by decide) (by omega)).trans (tw_0 htz).symm)
       | exact out_p ((tr_18 (by omega) htr (lim_hit (k := k) (i := x.route.toNat) (d := x.day.toNat) (fun y hy => (hcn y hy).1) (by omega) (by omega) (by omega) hro rfl (by omega))).trans (tw_0 htz).symm)
       | exact out_p ((tr_22 (by omega) htr hlf (stk_t (p := p) (d := d) (by omega) (by omega) (by omega))).trans (tw_0 htz).symm)
       | exact out_p (by rw [ha]; exact (tr_0 (by omega) htr hlf hsf).trans (tw_0 htz).symm)
    ·have hb24R := hb24; try simp only [zz] at hb24
     refine pwp_skip ?_
     refine seq_norm (hK23 _ ?_); clear hK23 K23
     obtain ⟨r, hr, hro, hrm⟩ := rt_ex (t := t) (x := x) (by omega)
     have hrt := hT.rt r hrm
     refine pwp_seq_gops rfl fun K26 hK26 => ?_
     refine s_begin ?_
     refine s_e rfl (e_faQ pl3 rfl) ?_
     refine s_step [8] (by simp) rfl rfl rfl rfl (e_lH (v := .sc _) rfl (hset_self _ _ _) rfl) trivial ?_
     refine s_e rfl (e_faQ pl5 rfl) ?_
     refine s_step [2] (by simp) rfl rfl rfl rfl (e_lH (v := .sc _) rfl ((hset_ne (key_ne rfl)).trans ((hset_ne (key_ne rfl)).trans hihj16_0)) rfl) trivial ?_
     refine s_e rfl (e_sub rfl rfl (by first | omega | (simp only [List.length_map] at *; omega))) ?_
     refine s_call (args := [.sc _, .sc _, .sc _]) [] (by intro k hk; simp [keysOf, Go.Pv.keyOf] at hk; try (first | (subst hk; simp; done) | (rcases hk with rfl | rfl <;> simp; done))) rfl rfl rfl rfl (.cons inn_sc (.cons inn_sc (.cons inn_sc .nil))) (within _ _ _) ?_
     refine s_e rfl (e_not rfl) ?_
     refine s_e rfl (e_move (v := .sc _) rfl) ?_
     refine s_cases (fun hb27 => ?_) (fun hb27 => ?_)
     ·have hb27R := hb27; try simp only [zz] at hb27
      refine s_skip rfl rfl rfl ?_
      refine s_skip rfl rfl rfl ?_
      refine s_skip rfl rfl rfl ?_
      refine s_skip rfl rfl rfl ?_
      refine s_skip rfl rfl rfl ?_
      refine s_skip rfl rfl rfl ?_
      refine s_skip rfl rfl rfl ?_
      refine s_skip rfl rfl rfl ?_
      refine s_skip rfl rfl rfl ?_
      refine s_skip rfl rfl rfl ?_
      refine s_skip rfl rfl rfl ?_
      refine s_skip rfl rfl rfl ?_
      refine s_skip rfl rfl rfl ?_
      refine s_e rfl (e_pickT (v := .sc _) rfl rfl) ?_
      refine s_e rfl (e_move (v := .sc _) rfl) ?_
      refine s_skip rfl rfl rfl ?_
      refine s_skip rfl rfl rfl ?_
      refine s_nocall (args := [.dead, .sc _, .sc _]) [] (by intro k hk; simp [keysOf, Go.Pv.keyOf] at hk) rfl rfl rfl ?_
      refine s_skip rfl rfl rfl ?_
      refine s_e rfl (e_pickT (v := .sc _) rfl rfl) ?_
      refine s_end (ds := [53, 54, 55, 56, 57, 58, 59, 60, 61, 62, 63, 64, 65, 68, 69, 70, 71]) (by kernel_rfl) (by kernel_rfl) (hK26 _ ?_); clear hK26 K26
      refine pwp_cond (t := true) rfl (fun _ => ?_) nofun
      refine pwp_seq_plain rfl fun K28 hK28 => ?_
      refine p_aS rfl ?_
      refine p_aS rfl ?_
      refine p_end (hK28 _ ?_); clear hK28 K28
      refine pwp_ret ?_
      refine ret_block ?_
      refine ret_seq ?_
      refine ret_loop ?_
      refine ret_block ?_
      refine ret_seq ?_
      refine end2 (v := .sc _) (w := .sc _) rfl rfl ?_
      first
        | exact out_p (tw_e (by assumption))
        | exact out_p ((tr_8 (by omega)).trans (tw_0 htz).symm)
        | exact out_p ((tr_hit hin hx (trF_6 (by omega)) (by decide) (by omega)).trans (tw_0 htz).symm)
        | exact out_p ((tr_hit hin hx (trF_2 (by omega) hro (by omega)) (by decide) (by omega)).trans (tw_0 htz).symm)
        | exact out_p ((tr_18 (by omega) htr (lim_hit (k := k) (i := x.route.toNat) (d := x.day.toNat) (fun y hy => (hcn y hy).1) (by omega) (by omega) (by omega) hro rfl (by omega))).trans (tw_0 htz).symm)
        | exact out_p ((tr_22 (by omega) htr hlf (stk_t (p := p) (d := d) (by omega) (by omega) (by omega))).trans (tw_0 htz).symm)
        | exact out_p (by rw [ha]; exact (tr_0 (by omega) htr hlf hsf).trans (tw_0 htz).symm)
     ·have hb27R := hb27; try simp only [zz] at hb27
      refine s_e rfl (e_faQ pl3 rfl) ?_
      refine s_step [8] (by simp) rfl rfl rfl rfl (e_lH (v := .sc _) rfl (hset_self _ _ _) rfl) trivial ?_
      refine s_e rfl (e_faQ pl5 rfl) ?_
      refine s_step [2] (by simp) rfl rfl rfl rfl (e_lH (v := .lit _ _ _) rfl ((hset_ne (key_ne rfl)).trans ((hset_ne (key_ne rfl)).trans hihj16_0)) rfl) trivial ?_
      refine s_e rfl (e_faQ pl3 rfl) ?_
      refine s_step [8] (by simp) rfl rfl rfl rfl (e_lH (v := .sc _) rfl (hset_self _ _ _) rfl) trivial ?_
      refine s_e rfl (e_ixL rfl rfl) ?_
      refine s_e rfl (e_fb pl4 rfl) ?_
      refine s_e rfl (e_load (v := .sc _) rfl (by kernel_rfl) (by kernel_rfl) (by kernel_rfl) (by first | omega | (simp only [List.length_map]; omega)) (by decide) ((cell_map hr _).trans rfl)) ?_
      refine s_e rfl (e_adL rfl rfl) ?_
      refine s_e rfl (e_faQ pl5 rfl) ?_
      refine s_step [2] (by simp) rfl rfl rfl rfl (e_lH (v := .sc _) rfl ((hset_ne (key_ne rfl)).trans ((hset_ne (key_ne rfl)).trans hihj16_0)) rfl) trivial ?_
      refine s_e rfl (e_ge rfl rfl) ?_
      refine s_e rfl (e_pickF (v := .sc _) rfl rfl) ?_
      refine s_e rfl (e_move (v := .sc _) rfl) ?_
      refine s_cases (fun hb29 => ?_) (fun hb29 => ?_)
      ·have hb29R := hb29; try simp only [zz] at hb29
       refine s_skip rfl rfl rfl ?_
       refine s_skip rfl rfl rfl ?_
       refine s_nocall (args := [.dead, .sc _, .sc _]) [] (by intro k hk; simp [keysOf, Go.Pv.keyOf] at hk) rfl rfl rfl ?_
       refine s_skip rfl rfl rfl ?_
       refine s_e rfl (e_pickT (v := .sc _) rfl rfl) ?_
       refine s_end (ds := [53, 54, 55, 56, 57, 58, 59, 60, 61, 62, 63, 64, 65, 68, 69, 70, 71]) (by kernel_rfl) (by kernel_rfl) (hK26 _ ?_); clear hK26 K26
       refine pwp_cond (t := true) rfl (fun _ => ?_) nofun
       refine pwp_seq_plain rfl fun K30 hK30 => ?_
       refine p_aS rfl ?_
       refine p_aS rfl ?_
       refine p_end (hK30 _ ?_); clear hK30 K30
       refine pwp_ret ?_
       refine ret_block ?_
       refine ret_seq ?_
       refine ret_loop ?_
       refine ret_block ?_
       refine ret_seq ?_
       refine end2 (v := .sc _) (w := .sc _) rfl rfl ?_
       first
         | exact out_p (tw_e (by assumption))
         | exact out_p ((tr_8 (by omega)).trans (tw_0 htz).symm)
         | exact out_p ((tr_hit hin hx (trF_6 (by omega)) (by decide) (by omega)).trans (tw_0 htz).symm)
         | exact out_p ((tr_hit hin hx (trF_2 (by omega) hro (by omega)) (by decide) (by omega)).trans (tw_0 htz).symm)
         | exact out_p ((tr_18 (by omega) htr (lim_hit (k := k) (i := x.route.toNat) (d := x.day.toNat) (fun y hy => (hcn y hy).1) (by omega) (by omega) (by omega) hro rfl (by omega))).trans (tw_0 htz).symm)
         | exact out_p ((tr_22 (by omega) htr hlf (stk_t (p := p) (d := d) (by omega) (by omega) (by omega))).trans (tw_0 htz).symm)
         | exact out_p (by rw [ha]; exact (tr_0 (by omega) htr hlf hsf).trans (tw_0 htz).symm)
      ·have hb29R := hb29; try simp only [zz] at hb29
       refine s_e rfl (e_faQ pl3 rfl) ?_
       refine s_step [8] (by simp) rfl rfl rfl rfl (e_lH (v := .sc _) rfl (hset_self _ _ _) rfl) trivial ?_
       refine s_call (args := [.sc _, .sc _, .sc _]) [] (by intro k hk; simp [keysOf, Go.Pv.keyOf] at hk; try (first | (subst hk; simp; done) | (rcases hk with rfl | rfl <;> simp; done))) rfl rfl rfl rfl (.cons inn_sc (.cons inn_sc (.cons inn_sc .nil))) (within _ _ _) ?_
       refine s_e rfl (e_not rfl) ?_
       refine s_e rfl (e_pickF (v := .sc _) rfl rfl) ?_
       refine s_end (ds := [53, 54, 55, 56, 57, 58, 59, 60, 61, 62, 63, 64, 65, 68, 69, 70, 71]) (by kernel_rfl) (by kernel_rfl) (hK26 _ ?_); clear hK26 K26
       refine pwp_cond rfl (fun hb31 => ?_) (fun hb31 => ?_)
       ·have hb31R := hb31; try simp only [zz] at hb31
        refine pwp_seq_plain rfl fun K32 hK32 => ?_
        refine p_aS rfl ?_
        refine p_aS rfl ?_
        refine p_end (hK32 _ ?_); clear hK32 K32
        refine pwp_ret ?_
        refine ret_block ?_
        refine ret_seq ?_
        refine ret_loop ?_
        refine ret_block ?_
        refine ret_seq ?_
        refine end2 (v := .sc _) (w := .sc _) rfl rfl ?_
        first
          | exact out_p (tw_e (by assumption))
          | exact out_p ((tr_8 (by omega)).trans (tw_0 htz).symm)
          | exact out_p ((tr_hit hin hx (trF_6 (by omega)) (by decide) (by omega)).trans (tw_0 htz).symm)
          | exact out_p ((tr_hit hin hx (trF_2 (by omega) hro (by omega)) (by decide) (by omega)).trans (tw_0 htz).symm)
          | exact out_p ((tr_18 (by omega) htr (lim_hit (k := k) (i := x.route.toNat) (d := x.day.toNat) (fun y hy => (hcn y hy).1) (by omega) (by omega) (by omega) hro rfl (by omega))).trans (tw_0 htz).symm)
          | exact out_p ((tr_22 (by omega) htr hlf (stk_t (p := p) (d := d) (by omega) (by omega) (by omega))).trans (tw_0 htz).symm)
          | exact out_p (by rw [ha]; exact (tr_0 (by omega) htr hlf hsf).trans (tw_0 htz).symm)
       ·have hb31R := hb31; try simp only [zz] at hb31
        refine pwp_skip ?_
        refine block_norm ?_
        refine seq_norm (hK20 _ ?_); clear hK20 K20
        refine pwp_plain rfl fun K33 hK33 => ?_
        refine p_e rfl (e_adL rfl rfl) ?_
        refine p_mS rfl ?_
        refine p_end (hK33 _ ?_); clear hK33 K33
        exact loop_again (k + 1) (by show _ < _; omega) ⟨rfl, rfl, rfl, rfl, trivial⟩ ⟨rfl, trivial⟩ (by exact ⟨by show _ + 1 ≤ _; simp only [List.length_map] at *; omega, by exact nx_step (K := fun y => decide (trF t y ≠ 0)) hin hx (by rw [trF_0 (t := t) (by omega) hro (by omega) (by omega) (by omega)]; rfl), ((hset_ne (key_ne rfl)).trans ((hset_ne (key_ne rfl)).trans hihj16_0))⟩)
   ·have hb19R := hb19; try simp only [zz] at hb19
    have htr : feL (trF t) l = 0 := feL_no hin (by simp only [List.length_map] at *; omega)
    refine pwp_exit ?_
    refine exit_seq ?_
    clear hK18 K18
    refine exit_loop ?_
    refine exit_here ?_
    refine seq_norm (hK12 _ ?_); clear hK12 K12
    have hcn : ∀ y ∈ l, 0 ≤ y.count ∧ y.count ≤ 1000000 := fun y hy => by have q := (trF_inv (feL_all htr y hy)).2.2.2; omega
    refine pwp_seq_plainK rfl fun hkn K34 hK34 => ?_
    refine p_e rfl (e_loadHA (cs := Traffic.enc (t)) (n := 5) rfl hihj16_0 (by kernel_rfl) (by kernel_rfl) (by kernel_rfl) (by exact Nat.zero_lt_one) (by decide) rfl) ?_
    refine p_hcall rfl (ledgerC _ _ t hT) fun v77 h77 c77 hR77 => ?_
    obtain ⟨g9, gs, rfl, hgl, hg0, hge, hMB, hO⟩ := hR77
    have hb77 := (hO.old (2, 0) (hkn (2, 0) _ hihj16_0)).trans hihj16_0
    refine p_e rfl (e_assign (v := .ref _ _ _ _) rfl) ?_
    refine p_end (hK34 _ ?_); clear hK34 K34
    refine pwp_seq_plain rfl fun K35 hK35 => ?_
    refine p_new rfl (e_mkmap) trivial ?_
    refine p_e rfl (e_assign (v := .map _) rfl) ?_
    refine p_end (hK35 _ ?_); clear hK35 K35
    refine pwp_seq_seq ?_
    refine pwp_seq_plain rfl fun K36 hK36 => ?_
    refine p_e rfl (e_move (v := .lit _ _ _) rfl) ?_
    refine p_e rfl (e_len rfl (by kernel_rfl)) ?_
    refine p_mS rfl ?_
    refine p_end (hK36 _ ?_); clear hK36 K36
    refine pwp_seq_block fun K37 hK37 => ?_
    refine pwp_loopR (α := Nat × (List (At × Int))) [2, 9, 10, 77, 78] (fun (a38 : Nat × (List (At × Int))) => [(79, .int (a38.1))]) (fun (a38 : Nat × (List (At × Int))) (h : Heap) (_ : Nat → Nat) => ((a38.1) ≤ l.length) ∧ (MpU (a38.2) l (a38.1)) ∧ (∀ i, i < t.routes.length → ∀ d, d < t.days.toNat → usM l (a38.1) i d ≤ (t.routes.getD i default).most) ∧ (Mat h (9, g9) 19 t.places.toNat t.days.toNat ci gs (bkM t l (a38.1))) ∧ (h (2, 0) = some (.rows 5 [Traffic.enc t])) ∧ (MapAt h (76, c77 76) (entsOf ka PV.int (a38.2)))) (fun (a38 : Nat × (List (At × Int))) => l.length - (a38.1)) (0, []) (by exact ⟨rfl, trivial⟩) (by exact ⟨by exact Nat.zero_le _, by exact mu_0, by exact lim_0 hT, by exact Mat.congr (Mat.set rfl rfl hMB) (fun p d _ _ => bk_0 p d), ((hset_ne (key_ne rfl)).trans hb77), MapAt.new⟩) fun a38 r39 h40 c41 hj42 => ?_
    obtain ⟨k, m⟩ := a38
    obtain ⟨hk, hmu, hlm, hMB, hihj42_0, hihj42_1⟩ := hj42
    try dsimp only at hk
    try dsimp only at hmu
    try dsimp only at hlm
    try dsimp only at hMB
    try dsimp only at hihj42_0
    try dsimp only at hihj42_1
    show pwp _ _ (loopQ _ _ _) ⟨sets (mix _ _ _) [(79, .int k)], _, _⟩
    refine pwp_seq_plain rfl fun K43 hK43 => ?_
    refine p_e rfl (e_lt rfl rfl) ?_
    refine p_end (hK43 _ ?_); clear hK43 K43
    refine pwp_seq_cond rfl fun K44 hK44 => ⟨fun hb45 => ?_, fun hb45 => ?_⟩
    ·have hb45R := hb45; try simp only [zz] at hb45
     obtain ⟨x, hx, hd, ht⟩ := get_lt (xs := l) (i := k) (by omega)
     have htx := trF_inv (feL_at htr hx)
     obtain ⟨r, hr, hro, hrm⟩ := rt_ex htx.1
     rw [hro] at htx
     have hrt := hT.rt r hrm
     have hb1 := bk_b (k := k) hT hcn (by omega) (by omega) r.fro.toNat x.day.toNat
     have hb2 := bk_b (k := k) hT hcn (by omega) (by omega) r.til.toNat (x.day + r.days).toNat
     have hb3 := us_b (k := k) hcn (by omega) x.route.toNat x.day.toNat
     have hu0 := mu_get hmu htx.1.1 htx.2.1.1
     have hu1 := mu_get (mu_s hmu hx htx.1.1 htx.2.1.1) htx.1.1 htx.2.1.1
     have hb4 := us_b (k := k + 1) hcn (by omega) x.route.toNat x.day.toNat
     have hup : upd (bkM t l k) r.fro.toNat x.day.toNat (bkM t l k r.fro.toNat x.day.toNat - x.count) r.til.toNat (x.day + r.days).toNat = bkM t l k r.til.toNat (x.day + r.days).toNat := if_neg (fun q => by omega)
     refine pwp_skip ?_
     refine seq_norm (hK44 _ ?_); clear hK44 K44
     refine pwp_seq_block fun K46 hK46 => ?_
     refine pwp_seq_plain rfl fun K47 hK47 => ?_
     refine p_e rfl (e_ixL rfl rfl) ?_
     refine p_e rfl (e_loadA (n := 3) rfl (by kernel_rfl) (by kernel_rfl) (by kernel_rfl) (by first | omega | (simp only [List.length_map]; omega)) (by decide) (by first | exact agg_map hx rfl)) ?_
     refine p_new rfl (e_alloc (cs := [.int 0, .int 0, .int 0]) (n := 3) (by kernel_rfl) rfl (by decide)) (ob_alloc (by decide)) ?_
     refine p_store rfl (e_storeA rfl (hset_self _ _ _) rfl rfl rfl (by kernel_rfl) rfl (by kernel_rfl)) trivial ?_
     refine p_end (hK47 _ ?_); clear hK47 K47
     refine pwp_seq_plain rfl fun K48 hK48 => ?_
     refine p_e rfl (e_faQ pl5 rfl) ?_
     refine p_e rfl (e_lH (v := .lit _ _ _) rfl ((hset_ne (key_ne rfl)).trans ((hset_ne (key_ne rfl)).trans hihj42_0)) rfl) ?_
     refine p_e rfl (e_faQ pl3 rfl) ?_
     refine p_e rfl (e_lH (v := .sc _) rfl (hset_self _ _ _) rfl) ?_
     refine p_e rfl (e_ixL rfl rfl) ?_
     refine p_e rfl (e_loadA (n := 4) rfl (by kernel_rfl) (by kernel_rfl) (by kernel_rfl) (by first | omega | (simp only [List.length_map]; omega)) (by decide) (by first | exact agg_map hr rfl)) ?_
     refine p_new rfl (e_alloc (cs := [.int 0, .int 0, .int 0, .int 0]) (n := 4) (by kernel_rfl) rfl (by decide)) (ob_alloc (by decide)) ?_
     refine p_store rfl (e_storeA rfl (hset_self _ _ _) rfl rfl rfl (by kernel_rfl) rfl (by kernel_rfl)) trivial ?_
     refine p_end (hK48 _ ?_); clear hK48 K48
     refine pwp_seq_seq ?_
     refine pwp_seq_gops rfl fun K49 hK49 => ?_
     refine s_begin ?_
     refine s_e rfl (e_move (v := .map _) rfl) ?_
     refine s_e rfl (e_faQ pl3 rfl) ?_
     refine s_step [12] (by simp) rfl rfl rfl rfl (e_lH (v := .sc _) rfl ((hset_ne (key_ne rfl)).trans ((hset_ne (key_ne rfl)).trans (hset_self _ _ _))) rfl) trivial ?_
     refine s_e rfl (e_faQ pl3 rfl) ?_
     refine s_step [12] (by simp) rfl rfl rfl rfl (e_lH (v := .sc _) rfl ((hset_ne (key_ne rfl)).trans ((hset_ne (key_ne rfl)).trans (hset_self _ _ _))) rfl) trivial ?_
     refine s_e rfl (e_buildA (cs := At.enc (⟨x.route, x.day⟩ : At)) (zs := [.int 0, .int 0]) (pl := [(0, 1, false), (1, 1, false)]) (by kernel_rfl) (by kernel_rfl) (by kernel_rfl) rfl rfl (by exact ⟨by decide, rfl, Nat.le_of_ble_eq_true rfl, rfl, ⟨by decide, rfl, Nat.le_of_ble_eq_true rfl, rfl, trivial⟩⟩) rfl) ?_
     refine s_step [76] (by simp) rfl rfl rfl rfl (e_look (kt := 35) (et := 3) (f := ka) (g := PV.int) (a := (⟨x.route, x.day⟩ : At)) (l := m) (z := 0) ka_eq ka_ok rfl rfl (MapAt.keep hihj42_1 ((hset_ne (key_ne rfl)).trans ((hset_ne (key_ne rfl)).trans ((hset_ne (key_ne rfl)).trans ((hset_ne (key_ne rfl)).trans (rfl)))))) (by kernel_rfl) (by kernel_rfl) (by first | rfl | kernel_rfl)) trivial ?_
     refine s_e rfl (e_faQ pl3 rfl) ?_
     refine s_step [12] (by simp) rfl rfl rfl rfl (e_lH (v := .sc _) rfl ((hset_ne (key_ne rfl)).trans ((hset_ne (key_ne rfl)).trans (hset_self _ _ _))) rfl) trivial ?_
     refine s_e rfl (e_adL rfl rfl) ?_
     refine s_mentry (kt := 35) (et := 3) (m := 76) (f := ka) (g := PV.int) (a := (⟨x.route, x.day⟩ : At)) (l := m) (z := 0) ka_eq ka_ok rfl rfl rfl rfl rfl (MapAt.keep hihj42_1 ((hset_ne (key_ne rfl)).trans ((hset_ne (key_ne rfl)).trans ((hset_ne (key_ne rfl)).trans ((hset_ne (key_ne rfl)).trans (rfl)))))) (by kernel_rfl) (by kernel_rfl) (by first | rfl | kernel_rfl) (fun _ => rfl) fun h50 sp51 hst52 hfr53 => ?_
     have ho54 := (hfr53 (2, _) (key_ne rfl)).trans ((hset_ne (key_ne rfl)).trans ((hset_ne (key_ne rfl)).trans ((hset_ne (key_ne rfl)).trans ((hset_ne (key_ne rfl)).trans hihj42_0))))
     have ho55 := (hfr53 (12, _) (key_ne rfl)).trans ((hset_ne (key_ne rfl)).trans ((hset_ne (key_ne rfl)).trans (hset_self _ _ _)))
     have ho56 := (hfr53 (13, _) (key_ne rfl)).trans (hset_self _ _ _)
     have hM57 := Mat.keep (Mat.set rfl rfl (Mat.set rfl rfl (Mat.set rfl rfl (Mat.set rfl rfl hMB)))) (hfr53 (9, _) (key_ne rfl)) (fun g => (hfr53 (19, g) (key_ne rfl)))
     refine s_e rfl (e_ext (v := .sc _) rfl (by simp) rfl) ?_
     refine s_estore (f := ka) (g := PV.int) (a := (⟨x.route, x.day⟩ : At)) (b := (((aGet (⟨x.route, x.day⟩ : At) m).getD 0) + x.count)) (u := ((aGet (⟨x.route, x.day⟩ : At) m).getD 0)) (l := m) rfl rfl rfl rfl hst52 rfl fun h58 hm59 hfr60 => ?_
     have ho61 := (hfr60 (2, _) (key_ne rfl)).trans ho54
     have ho62 := (hfr60 (12, _) (key_ne rfl)).trans ho55
     have ho63 := (hfr60 (13, _) (key_ne rfl)).trans ho56
     have hM64 := Mat.keep hM57 (hfr60 (9, _) (key_ne rfl)) (fun g => (hfr60 (19, g) (key_ne rfl)))
     refine s_end (ds := []) (by kernel_rfl) (by kernel_rfl) (hK49 _ ?_); clear hK49 K49
     refine pwp_seq_seq ?_
     refine pwp_seq_gops rfl fun K65 hK65 => ?_
     refine s_begin ?_
     refine s_e rfl (e_move (v := .map _) rfl) ?_
     refine s_e rfl (e_faQ pl3 rfl) ?_
     refine s_step [12] (by simp) rfl rfl rfl rfl (e_lH (v := .sc _) rfl ho62 rfl) trivial ?_
     refine s_e rfl (e_faQ pl3 rfl) ?_
     refine s_step [12] (by simp) rfl rfl rfl rfl (e_lH (v := .sc _) rfl ho62 rfl) trivial ?_
     refine s_e rfl (e_buildA (cs := At.enc (⟨x.route, x.day⟩ : At)) (zs := [.int 0, .int 0]) (pl := [(0, 1, false), (1, 1, false)]) (by kernel_rfl) (by kernel_rfl) (by kernel_rfl) rfl rfl (by exact ⟨by decide, rfl, Nat.le_of_ble_eq_true rfl, rfl, ⟨by decide, rfl, Nat.le_of_ble_eq_true rfl, rfl, trivial⟩⟩) rfl) ?_
     refine s_step [76] (by simp) rfl rfl rfl rfl (e_look (kt := 35) (et := 3) (f := ka) (g := PV.int) (a := (⟨x.route, x.day⟩ : At)) (l := (aSet (⟨x.route, x.day⟩ : At) (((aGet (⟨x.route, x.day⟩ : At) m).getD 0) + x.count) m)) (z := 0) ka_eq ka_ok rfl rfl hm59 (by kernel_rfl) (by kernel_rfl) (by first | rfl | kernel_rfl)) trivial ?_
     refine s_e rfl (e_faQ pl4 rfl) ?_
     refine s_step [13] (by simp) rfl rfl rfl rfl (e_lH (v := .sc _) rfl ho63 rfl) trivial ?_
     refine s_e rfl (e_gt rfl rfl) ?_
     refine s_end (ds := []) (by kernel_rfl) (by kernel_rfl) (hK65 _ ?_); clear hK65 K65
     refine pwp_seq_cond rfl fun K66 hK66 => ⟨fun hb67 => ?_, fun hb67 => ?_⟩
     ·have hb67R := hb67; try simp only [zz] at hb67
      refine pwp_seq_plain rfl fun K68 hK68 => ?_
      refine p_aS rfl ?_
      refine p_aS rfl ?_
      refine p_end (hK68 _ ?_); clear hK68 K68
      refine pwp_ret ?_
      refine ret_seq ?_
      refine ret_block ?_
      refine ret_seq ?_
      refine ret_loop ?_
      refine ret_block ?_
      refine ret_seq ?_
      refine end2 (v := .sc _) (w := .sc _) rfl rfl ?_
      first
        | exact out_p (tw_e (by assumption))
        | exact out_p ((tr_8 (by omega)).trans (tw_0 htz).symm)
        | exact out_p ((tr_hit hin hx (trF_6 (by omega)) (by decide) (by omega)).trans (tw_0 htz).symm)
        | exact out_p ((tr_hit hin hx (trF_2 (by omega) hro (by omega)) (by decide) (by omega)).trans (tw_0 htz).symm)
        | exact out_p ((tr_18 (by omega) htr (lim_hit (k := k) (i := x.route.toNat) (d := x.day.toNat) (fun y hy => (hcn y hy).1) (by omega) (by omega) (by omega) hro rfl (by omega))).trans (tw_0 htz).symm)
        | exact out_p ((tr_22 (by omega) htr hlf (stk_t (p := p) (d := d) (by omega) (by omega) (by omega))).trans (tw_0 htz).symm)
        | exact out_p (by rw [ha]; exact (tr_0 (by omega) htr hlf hsf).trans (tw_0 htz).symm)
     ·have hb67R := hb67; try simp only [zz] at hb67
      refine pwp_skip ?_
      refine seq_norm (hK66 _ ?_); clear hK66 K66
      refine pwp_seq_gops rfl fun K69 hK69 => ?_
      refine s_begin ?_
      refine s_e rfl (e_move (v := .ref _ _ _ _) rfl) ?_
      refine s_e rfl (e_faQ pl4 rfl) ?_
      refine s_step [13] (by simp) rfl rfl rfl rfl (e_lH (v := .sc _) rfl ho63 rfl) trivial ?_
      refine s_e rfl (e_ixaR0 rfl rfl (by kernel_rfl) (by kernel_rfl) (by omega)) ?_
      refine s_step [9] (by simp) rfl rfl rfl rfl (e_loadV (v := .ref (19, gs.getD (r.fro).toNat 0) 1 0 t.days.toNat) rfl hM64.out (by kernel_rfl) (by kernel_rfl) (by kernel_rfl) (hM64.row (by omega))) trivial ?_
      refine s_e rfl (e_faQ pl3 rfl) ?_
      refine s_step [12] (by simp) rfl rfl rfl rfl (e_lH (v := .sc _) rfl ho62 rfl) trivial ?_
      refine s_e rfl (e_ixaR0 rfl rfl (by kernel_rfl) (by kernel_rfl) (by omega)) ?_
      refine s_step [19] (by simp) rfl rfl rfl rfl (e_loadH (v := .int ((bkM t l k) (r.fro).toNat (x.day).toNat)) rfl (hM64.at (by omega)) (by kernel_rfl) (by kernel_rfl) (by kernel_rfl) (by simp only [List.length_map, List.length_range]; omega) (by decide) ((cell_map (mcell (by omega)) _).trans rfl)) trivial ?_
      refine s_e rfl (e_faQ pl3 rfl) ?_
      refine s_step [12] (by simp) rfl rfl rfl rfl (e_lH (v := .sc _) rfl ho62 rfl) trivial ?_
      refine s_e rfl (e_sub rfl rfl (by first | omega | (simp only [List.length_map] at *; omega))) ?_
      refine s_e rfl (e_ixaR0 rfl rfl (by kernel_rfl) (by kernel_rfl) (by omega)) ?_
      refine s_store [19] (by simp) rfl rfl (e_storeI (a := (((bkM t l k) (r.fro).toNat (x.day).toNat) - x.count)) rfl (hM64.at (by omega)) rfl (by simp only [List.length_map, List.length_range]; omega) (by kernel_rfl) (by kernel_rfl)) trivial ?_
      refine s_end (ds := []) (by kernel_rfl) (by kernel_rfl) (hK69 _ ?_); clear hK69 K69
      refine pwp_gops rfl fun K70 hK70 => ?_
      refine s_begin ?_
      refine s_e rfl (e_move (v := .ref _ _ _ _) rfl) ?_
      refine s_e rfl (e_faQ pl4 rfl) ?_
      refine s_step [13] (by simp) rfl rfl rfl rfl (e_lH (v := .sc _) rfl ((hset_ne (key_ne rfl)).trans ho63) rfl) trivial ?_
      refine s_e rfl (e_ixaR0 rfl rfl (by kernel_rfl) (by kernel_rfl) (by omega)) ?_
      refine s_step [9] (by simp) rfl rfl rfl rfl (e_loadV (v := .ref (19, gs.getD (r.til).toNat 0) 1 0 t.days.toNat) rfl (Mat.upd (i := (r.fro).toNat) (j := (x.day).toNat) (w := (((bkM t l k) (r.fro).toNat (x.day).toNat) - x.count)) rfl hM64 (by omega) (by omega)).out (by kernel_rfl) (by kernel_rfl) (by kernel_rfl) ((Mat.upd (i := (r.fro).toNat) (j := (x.day).toNat) (w := (((bkM t l k) (r.fro).toNat (x.day).toNat) - x.count)) rfl hM64 (by omega) (by omega)).row (by omega))) trivial ?_
      refine s_e rfl (e_faQ pl3 rfl) ?_
      refine s_step [12] (by simp) rfl rfl rfl rfl (e_lH (v := .sc _) rfl ((hset_ne (key_ne rfl)).trans ho62) rfl) trivial ?_
      refine s_e rfl (e_faQ pl4 rfl) ?_
      refine s_step [13] (by simp) rfl rfl rfl rfl (e_lH (v := .sc _) rfl ((hset_ne (key_ne rfl)).trans ho63) rfl) trivial ?_
      refine s_e rfl (e_adL rfl rfl) ?_
      refine s_e rfl (e_ixaR0 rfl rfl (by kernel_rfl) (by kernel_rfl) (by omega)) ?_
      refine s_step [19] (by simp) rfl rfl rfl rfl (e_loadH (v := .int ((upd (bkM t l k) (r.fro).toNat (x.day).toNat (((bkM t l k) (r.fro).toNat (x.day).toNat) - x.count)) (r.til).toNat ((x.day + r.days)).toNat)) rfl ((Mat.upd (i := (r.fro).toNat) (j := (x.day).toNat) (w := (((bkM t l k) (r.fro).toNat (x.day).toNat) - x.count)) rfl hM64 (by omega) (by omega)).at (by omega)) (by kernel_rfl) (by kernel_rfl) (by kernel_rfl) (by simp only [List.length_map, List.length_range]; omega) (by decide) ((cell_map (mcell (by omega)) _).trans rfl)) trivial ?_
      refine s_e rfl (e_faQ pl3 rfl) ?_
      refine s_step [12] (by simp) rfl rfl rfl rfl (e_lH (v := .sc _) rfl ((hset_ne (key_ne rfl)).trans ho62) rfl) trivial ?_
      refine s_e rfl (e_adL rfl rfl) ?_
      refine s_e rfl (e_ixaR0 rfl rfl (by kernel_rfl) (by kernel_rfl) (by omega)) ?_
      refine s_store [19] (by simp) rfl rfl (e_storeI (a := (((upd (bkM t l k) (r.fro).toNat (x.day).toNat (((bkM t l k) (r.fro).toNat (x.day).toNat) - x.count)) (r.til).toNat ((x.day + r.days)).toNat) + x.count)) rfl ((Mat.upd (i := (r.fro).toNat) (j := (x.day).toNat) (w := (((bkM t l k) (r.fro).toNat (x.day).toNat) - x.count)) rfl hM64 (by omega) (by omega)).at (by omega)) rfl (by simp only [List.length_map, List.length_range]; omega) (by kernel_rfl) (by kernel_rfl)) trivial ?_
      refine s_end (ds := []) (by kernel_rfl) (by kernel_rfl) (hK70 _ ?_); clear hK70 K70
      refine block_norm ?_
      refine seq_norm (hK46 _ ?_); clear hK46 K46
      refine pwp_plain rfl fun K71 hK71 => ?_
      refine p_e rfl (e_adL rfl rfl) ?_
      refine p_mS rfl ?_
      refine p_end (hK71 _ ?_); clear hK71 K71
      exact loop_again ((k + 1, (aSet (⟨x.route, x.day⟩ : At) (((aGet (⟨x.route, x.day⟩ : At) m).getD 0) + x.count) m))) (by show _ < _; simp only; omega) ⟨rfl, rfl, rfl, rfl, rfl, trivial⟩ ⟨rfl, trivial⟩ (by exact ⟨by show _ + 1 ≤ _; simp only [List.length_map] at *; omega, by exact mu_s hmu hx htx.1.1 htx.2.1.1, by exact lim_s hx htx.1.1 htx.2.1.1 hro hlm (by omega), by exact Mat.congr (Mat.upd (i := (r.til).toNat) (j := ((x.day + r.days)).toNat) (w := (((upd (bkM t l k) (r.fro).toNat (x.day).toNat (((bkM t l k) (r.fro).toNat (x.day).toNat) - x.count)) (r.til).toNat ((x.day + r.days)).toNat) + x.count)) rfl (Mat.upd (i := (r.fro).toNat) (j := (x.day).toNat) (w := (((bkM t l k) (r.fro).toNat (x.day).toNat) - x.count)) rfl hM64 (by omega) (by omega)) (by omega) (by omega)) (fun p d _ _ => bk_s hx (aG_iff hro (by omega) (by omega)) (aI_iff hro (by omega) (by omega)) p d), ((hset_ne (key_ne rfl)).trans ((hset_ne (key_ne rfl)).trans ho61)), (MapAt.keep hm59 ((hset_ne (key_ne rfl)).trans ((hset_ne (key_ne rfl)).trans (rfl))))⟩)
    ·have hb45R := hb45; try simp only [zz] at hb45
     have hkk : k = l.length := by simp only [List.length_map] at *; omega
     subst hkk
     have hlf : limB t l = false := lim_f hlm
     refine pwp_exit ?_
     refine exit_seq ?_
     clear hK44 K44
     refine exit_loop ?_
     refine exit_here ?_
     refine seq_norm (hK37 _ ?_); clear hK37 K37
     refine pwp_seq_plain rfl fun K72 hK72 => ?_
     refine p_aS rfl ?_
     refine p_end (hK72 _ ?_); clear hK72 K72
     refine pwp_seq_seq ?_
     refine pwp_seq_plain rfl fun K73 hK73 => ?_
     refine p_e rfl (e_move (v := .ref _ _ _ _) rfl) ?_
     refine p_e rfl (e_lenR rfl (by kernel_rfl)) ?_
     refine p_mS rfl ?_
     refine p_end (hK73 _ ?_); clear hK73 K73
     refine pwp_seq_block fun K74 hK74 => ?_
     refine pwp_loopR (α := Nat × Int) [2, 141, 142] (fun (a75 : Nat × Int) => [(14, .int (a75.2)), (143, .int (a75.1))]) (fun (a75 : Nat × Int) (h : Heap) (_ : Nat → Nat) => ((a75.1) ≤ t.places.toNat) ∧ ((a75.2) = lvl (fun p_ => tkN (lvB t l p_) (ndM t p_) t.days.toNat t.days.toNat) (a75.1)) ∧ (∀ i, i < (a75.1) → ∀ d, d < t.days.toNat → 0 ≤ lvB t l i d) ∧ (Mat h (9, g9) 19 t.places.toNat t.days.toNat ci gs (lvM t l (a75.1) 0)) ∧ (h (2, 0) = some (.rows 5 [Traffic.enc t]))) (fun (a75 : Nat × Int) => t.places.toNat - (a75.1)) (0, 0) (by exact ⟨rfl, rfl, trivial⟩) (by exact ⟨by exact Nat.zero_le _, by exact rfl, by exact fun i h => absurd h (Nat.not_lt_zero _), by exact Mat.congr hMB (fun i j _ _ => lv_0 i j), hihj42_0⟩) fun a75 r76 h77 c78 hj79 => ?_
     obtain ⟨p, a⟩ := a75
     obtain ⟨hp, ha, hst, hMB, hihj79_0⟩ := hj79
     try dsimp only at hp
     try dsimp only at ha
     try dsimp only at hst
     try dsimp only at hMB
     try dsimp only at hihj79_0
     show pwp _ _ (loopQ _ _ _) ⟨sets (mix _ _ _) [(14, .int a), (143, .int p)], _, _⟩
     refine pwp_seq_plain rfl fun K80 hK80 => ?_
     refine p_e rfl (e_lt rfl rfl) ?_
     refine p_end (hK80 _ ?_); clear hK80 K80
     refine pwp_seq_cond rfl fun K81 hK81 => ⟨fun hb82 => ?_, fun hb82 => ?_⟩
     ·have hb82R := hb82; try simp only [zz] at hb82
      have hb5 := met_b (l := l) hT (p := p) (by omega)
      have hb5b := met_b (l := l) hT (p := p + 1) (by omega)
      rw [lvl] at hb5b
      refine pwp_skip ?_
      refine seq_norm (hK81 _ ?_); clear hK81 K81
      refine pwp_seq_block fun K83 hK83 => ?_
      refine pwp_seq_plain rfl fun K84 hK84 => ?_
      refine p_mS rfl ?_
      refine p_e rfl (e_ixaR0 rfl rfl (by kernel_rfl) (by kernel_rfl) (by omega)) ?_
      refine p_e rfl (e_loadV (v := .ref (19, gs.getD ((p : Int)).toNat 0) 1 0 t.days.toNat) rfl hMB.out (by kernel_rfl) (by kernel_rfl) (by kernel_rfl) (hMB.row (by omega))) ?_
      refine p_aS rfl ?_
      refine p_e rfl (e_assign (v := .ref _ _ _ _) rfl) ?_
      refine p_end (hK84 _ ?_); clear hK84 K84
      refine pwp_seq_plain rfl fun K85 hK85 => ?_
      refine p_e rfl (e_faQ pl5 rfl) ?_
      refine p_e rfl (e_lH (v := .sc _) rfl hihj79_0 rfl) ?_
      refine p_new rfl (e_mkI (n := t.days.toNat) rfl rfl (by omega) (by kernel_rfl) (by kernel_rfl) (by kernel_rfl) (by decide +kernel) (by omega)) trivial ?_
      refine p_e rfl (e_assign (v := .ref _ _ _ _) rfl) ?_
      refine p_end (hK85 _ ?_); clear hK85 K85
      refine pwp_seq_seq ?_
      refine pwp_seq_plain rfl fun K86 hK86 => ?_
      refine p_e rfl (e_faQ pl5 rfl) ?_
      refine p_e rfl (e_lH (v := .lit _ _ _) rfl ((hset_ne (key_ne rfl)).trans hihj79_0) rfl) ?_
      refine p_e rfl (e_len rfl (by kernel_rfl)) ?_
      refine p_mS rfl ?_
      refine p_end (hK86 _ ?_); clear hK86 K86
      refine pwp_seq_block fun K87 hK87 => ?_
      refine pwp_loopR (α := Nat × (List Int)) [2, 14, 15, 16, 17, 141, 142, 143, 152, 153] (fun (a88 : Nat × (List Int)) => [(154, .int (a88.1))]) (fun (a88 : Nat × (List Int)) (h : Heap) (_ : Nat → Nat) => ((a88.1) ≤ t.needs.length) ∧ ((a88.2) = ((List.range t.days.toNat).map (spM t.needs (a88.1) p))) ∧ (Mat h (9, g9) 19 t.places.toNat t.days.toNat ci gs (lvM t l p 0)) ∧ (h (2, 0) = some (.rows 5 [Traffic.enc t])) ∧ (h (150, c78 150) = some (.rows 1 ((a88.2).map ci)))) (fun (a88 : Nat × (List Int)) => t.needs.length - (a88.1)) (0, List.replicate t.days.toNat 0) (by exact ⟨rfl, trivial⟩) (by exact ⟨by exact Nat.zero_le _, by exact nd_z _ _ _, by exact (Mat.set rfl rfl hMB), ((hset_ne (key_ne rfl)).trans hihj79_0), (hset_self _ _ _)⟩) fun a88 r89 h90 c91 hj92 => ?_
      obtain ⟨k, zs⟩ := a88
      obtain ⟨hk, hzs, hMB, hihj92_0, hihj92_1⟩ := hj92
      try dsimp only at hk
      try dsimp only at hzs
      try dsimp only at hMB
      try dsimp only at hihj92_0
      try dsimp only at hihj92_1
      show pwp _ _ (loopQ _ _ _) ⟨sets (mix _ _ _) [(154, .int k)], _, _⟩
      refine pwp_seq_plain rfl fun K93 hK93 => ?_
      refine p_e rfl (e_lt rfl rfl) ?_
      refine p_end (hK93 _ ?_); clear hK93 K93
      refine pwp_seq_cond rfl fun K94 hK94 => ⟨fun hb95 => ?_, fun hb95 => ?_⟩
      ·have hb95R := hb95; try simp only [zz] at hb95
       obtain ⟨x, hx, hd, ht⟩ := get_lt (xs := t.needs) (i := k) (by omega)
       have hxs := hT.nd x (List.mem_of_getElem? hx)
       have hb6 : 0 ≤ spM t.needs k p x.day.toNat ∧ spM t.needs k p x.day.toNat ≤ 1000000 * (k : Int) := tab_b (fun y hy => (hT.nd y hy).2.2) (by omega) _ _
       have hzx : zs[x.day.toNat]? = some (spM t.needs k p x.day.toNat) := by rw [hzs]; exact mcell1 (by omega)
       have hzl : zs.length = t.days.toNat := by rw [hzs]; simp
       refine pwp_skip ?_
       refine seq_norm (hK94 _ ?_); clear hK94 K94
       refine pwp_seq_block fun K96 hK96 => ?_
       refine pwp_seq_plainK rfl fun hkn K97 hK97 => ?_
       refine p_e rfl (e_ixL rfl rfl) ?_
       refine p_e rfl (e_loadA (n := 3) rfl (by kernel_rfl) (by kernel_rfl) (by kernel_rfl) (by first | omega | (simp only [List.length_map]; omega)) (by decide) (by first | exact agg_map hx rfl)) ?_
       refine p_new rfl (e_alloc (cs := [.int 0, .int 0, .int 0]) (n := 3) (by kernel_rfl) rfl (by decide)) (ob_alloc (by decide)) ?_
       refine p_store rfl (e_storeA rfl (hset_self _ _ _) rfl rfl rfl (by kernel_rfl) rfl (by kernel_rfl)) trivial ?_
       refine p_end (hK97 _ ?_); clear hK97 K97
       refine pwp_seq_plain rfl fun K98 hK98 => ?_
       refine p_e rfl (e_faQ pl3 rfl) ?_
       refine p_e rfl (e_lH (v := .sc _) rfl (hset_self _ _ _) rfl) ?_
       refine p_mS rfl ?_
       refine p_e rfl (e_eq rfl rfl) ?_
       refine p_end (hK98 _ ?_); clear hK98 K98
       refine pwp_cond rfl (fun hb99 => ?_) (fun hb99 => ?_)
       ·have hb99R := hb99; try simp only [zz] at hb99
        refine pwp_gops rfl fun K100 hK100 => ?_
        refine s_begin ?_
        refine s_e rfl (e_move (v := .ref _ _ _ _) rfl) ?_
        refine s_e rfl (e_faQ pl3 rfl) ?_
        refine s_step [19] (by simp) rfl rfl rfl rfl (e_lH (v := .sc _) rfl (hset_self _ _ _) rfl) trivial ?_
        refine s_e rfl (e_ixaR0 rfl rfl (by kernel_rfl) (by kernel_rfl) (by omega)) ?_
        refine s_step [150] (by simp) rfl rfl rfl rfl (e_loadI (a := (spM t.needs k p x.day.toNat)) rfl ((hset_ne (key_ne rfl)).trans ((hset_ne (key_ne rfl)).trans hihj92_1)) (by kernel_rfl) (by kernel_rfl) (by kernel_rfl) hzx) trivial ?_
        refine s_e rfl (e_faQ pl3 rfl) ?_
        refine s_step [19] (by simp) rfl rfl rfl rfl (e_lH (v := .sc _) rfl (hset_self _ _ _) rfl) trivial ?_
        refine s_e rfl (e_adL rfl rfl) ?_
        refine s_e rfl (e_ixaR0 rfl rfl (by kernel_rfl) (by kernel_rfl) (by omega)) ?_
        refine s_store [150] (by simp) rfl rfl (e_storeI (zs := zs) (a := ((spM t.needs k p x.day.toNat) + x.count)) rfl ((hset_ne (key_ne rfl)).trans ((hset_ne (key_ne rfl)).trans hihj92_1)) rfl (by omega) (by kernel_rfl) (by kernel_rfl)) trivial ?_
        refine s_end (ds := []) (by kernel_rfl) (by kernel_rfl) (hK100 _ ?_); clear hK100 K100
        refine block_norm ?_
        refine seq_norm (hK96 _ ?_); clear hK96 K96
        refine pwp_plain rfl fun K101 hK101 => ?_
        refine p_e rfl (e_adL rfl rfl) ?_
        refine p_mS rfl ?_
        refine p_end (hK101 _ ?_); clear hK101 K101
        exact loop_again ((k + 1, ((zs).set (x.day).toNat ((spM t.needs k p x.day.toNat) + x.count)))) (by show _ < _; simp only; omega) ⟨rfl, rfl, rfl, rfl, rfl, rfl, rfl, rfl, rfl, rfl, trivial⟩ ⟨rfl, trivial⟩ (by exact ⟨by show _ + 1 ≤ _; simp only [List.length_map] at *; omega, by first | (rw [hzs]; exact nd_s hx (by omega) (by omega)) | (rw [hzs]; exact nd_n hx (by omega)), by exact (Mat.set rfl rfl (Mat.far rfl (kn_far hkn hMB) (Mat.far rfl (kn_far hkn hMB) hMB))), ((hset_ne (key_ne rfl)).trans ((hset_ne (key_ne rfl)).trans ((hset_ne (key_ne rfl)).trans hihj92_0))), (hset_self _ _ _)⟩)
       ·have hb99R := hb99; try simp only [zz] at hb99
        refine pwp_skip ?_
        refine block_norm ?_
        refine seq_norm (hK96 _ ?_); clear hK96 K96
        refine pwp_plain rfl fun K102 hK102 => ?_
        refine p_e rfl (e_adL rfl rfl) ?_
        refine p_mS rfl ?_
        refine p_end (hK102 _ ?_); clear hK102 K102
        exact loop_again ((k + 1, zs)) (by show _ < _; simp only; omega) ⟨rfl, rfl, rfl, rfl, rfl, rfl, rfl, rfl, rfl, rfl, trivial⟩ ⟨rfl, trivial⟩ (by exact ⟨by show _ + 1 ≤ _; simp only [List.length_map] at *; omega, by first | (rw [hzs]; exact nd_s hx (by omega) (by omega)) | (rw [hzs]; exact nd_n hx (by omega)), by exact (Mat.far rfl (kn_far hkn hMB) (Mat.far rfl (kn_far hkn hMB) hMB)), ((hset_ne (key_ne rfl)).trans ((hset_ne (key_ne rfl)).trans hihj92_0)), ((hset_ne (key_ne rfl)).trans ((hset_ne (key_ne rfl)).trans hihj92_1))⟩)
      ·have hb95R := hb95; try simp only [zz] at hb95
       have hzs2 : zs = (List.range t.days.toNat).map (ndM t p) := hzs.trans (nd_e (by simp only [List.length_map] at *; omega) (Nat.le_refl _))
       have hzl2 : zs.length = t.days.toNat := by rw [hzs2]; simp
       refine pwp_exit ?_
       refine exit_seq ?_
       clear hK94 K94
       refine exit_loop ?_
       refine exit_here ?_
       refine seq_norm (hK87 _ ?_); clear hK87 K87
       refine pwp_seq_plain rfl fun K103 hK103 => ?_
       refine p_aS rfl ?_
       refine p_end (hK103 _ ?_); clear hK103 K103
       refine pwp_seq_seq ?_
       refine pwp_seq_plain rfl fun K104 hK104 => ?_
       refine p_e rfl (e_move (v := .ref _ _ _ _) rfl) ?_
       refine p_e rfl (e_lenR rfl (by kernel_rfl)) ?_
       refine p_mS rfl ?_
       refine p_end (hK104 _ ?_); clear hK104 K104
       refine pwp_seq_block fun K105 hK105 => ?_
       refine pwp_loopR (α := Nat × Int) [2, 14, 16, 17, 141, 142, 143, 172, 173] (fun (a106 : Nat × Int) => [(20, .int (a106.2)), (174, .int (a106.1))]) (fun (a106 : Nat × Int) (h : Heap) (_ : Nat → Nat) => ((a106.1) ≤ t.days.toNat) ∧ ((a106.2) = lvl (bkM t l l.length p) (a106.1)) ∧ (∀ e, e < (a106.1) → 0 ≤ lvB t l p e) ∧ (Mat h (9, g9) 19 t.places.toNat t.days.toNat ci gs (lvM t l p (a106.1))) ∧ (h (2, 0) = some (.rows 5 [Traffic.enc t])) ∧ (h (150, c78 150) = some (.rows 1 (zs.map ci)))) (fun (a106 : Nat × Int) => t.days.toNat - (a106.1)) (0, 0) (by exact ⟨rfl, rfl, trivial⟩) (by exact ⟨by exact Nat.zero_le _, by exact rfl, by exact fun i h => absurd h (Nat.not_lt_zero _), by exact hMB, hihj92_0, hihj92_1⟩) fun a106 r107 h108 c109 hj110 => ?_
       obtain ⟨d, s⟩ := a106
       obtain ⟨hd, hs, hlp, hMB, hihj110_0, hihj110_1⟩ := hj110
       try dsimp only at hd
       try dsimp only at hs
       try dsimp only at hlp
       try dsimp only at hMB
       try dsimp only at hihj110_0
       try dsimp only at hihj110_1
       show pwp _ _ (loopQ _ _ _) ⟨sets (mix _ _ _) [(20, .int s), (174, .int d)], _, _⟩
       refine pwp_seq_plain rfl fun K111 hK111 => ?_
       refine p_e rfl (e_lt rfl rfl) ?_
       refine p_end (hK111 _ ?_); clear hK111 K111
       refine pwp_seq_cond rfl fun K112 hK112 => ⟨fun hb113 => ?_, fun hb113 => ?_⟩
       ·have hb113R := hb113; try simp only [zz] at hb113
        have hb7 := lvB_b (l := l) hT hcn (by omega) (p := p) (d := d) (by omega)
        have hb8 := bk_b hT hcn (by omega) (Nat.le_refl _) p d
        have hlr : lvM t l p d (p : Int).toNat (d : Int).toNat = bkM t l l.length p d := by rw [Int.toNat_natCast, Int.toNat_natCast]; exact lv_r
        have hsn : s + lvM t l p d (p : Int).toNat (d : Int).toNat = lvB t l p d := by rw [hlr, hs, lvB, lvl]
        refine pwp_skip ?_
        refine seq_norm (hK112 _ ?_); clear hK112 K112
        refine pwp_seq_block fun K114 hK114 => ?_
        refine pwp_seq_plain rfl fun K115 hK115 => ?_
        refine p_mS rfl ?_
        refine p_e rfl (e_ixaR0 rfl rfl (by kernel_rfl) (by kernel_rfl) (by omega)) ?_
        refine p_e rfl (e_loadH (v := .int ((lvM t l p d) ((p : Int)).toNat ((d : Int)).toNat)) rfl (hMB.at (by omega)) (by kernel_rfl) (by kernel_rfl) (by kernel_rfl) (by simp only [List.length_map, List.length_range]; omega) (by decide) ((cell_map (mcell (by omega)) _).trans rfl)) ?_
        refine p_aS rfl ?_
        refine p_aS rfl ?_
        refine p_end (hK115 _ ?_); clear hK115 K115
        refine pwp_seq_seq ?_
        refine pwp_seq_plain rfl fun K116 hK116 => ?_
        refine p_mS rfl ?_
        refine p_mS rfl ?_
        refine p_e rfl (e_adL rfl rfl) ?_
        refine p_aS rfl ?_
        refine p_end (hK116 _ ?_); clear hK116 K116
        refine pwp_seq_seq ?_
        refine pwp_seq_plain rfl fun K117 hK117 => ?_
        refine p_mS rfl ?_
        refine p_e rfl (e_lt rfl rfl) ?_
        refine p_end (hK117 _ ?_); clear hK117 K117
        refine pwp_seq_cond rfl fun K118 hK118 => ⟨fun hb119 => ?_, fun hb119 => ?_⟩
        ·have hb119R := hb119; try simp only [zz] at hb119
         refine pwp_seq_plain rfl fun K120 hK120 => ?_
         refine p_aS rfl ?_
         refine p_aS rfl ?_
         refine p_end (hK120 _ ?_); clear hK120 K120
         refine pwp_ret ?_
         refine ret_seq ?_
         refine ret_block ?_
         refine ret_seq ?_
         refine ret_loop ?_
         refine ret_block ?_
         refine ret_seq ?_
         refine ret_block ?_
         refine ret_seq ?_
         refine ret_loop ?_
         refine ret_block ?_
         refine ret_seq ?_
         refine end2 (v := .sc _) (w := .sc _) rfl rfl ?_
         first
           | exact out_p (tw_e (by assumption))
           | exact out_p ((tr_8 (by omega)).trans (tw_0 htz).symm)
           | exact out_p ((tr_hit hin hx (trF_6 (by omega)) (by decide) (by omega)).trans (tw_0 htz).symm)
           | exact out_p ((tr_hit hin hx (trF_2 (by omega) hro (by omega)) (by decide) (by omega)).trans (tw_0 htz).symm)
           | exact out_p ((tr_18 (by omega) htr (lim_hit (k := k) (i := x.route.toNat) (d := x.day.toNat) (fun y hy => (hcn y hy).1) (by omega) (by omega) (by omega) hro rfl (by omega))).trans (tw_0 htz).symm)
           | exact out_p ((tr_22 (by omega) htr hlf (stk_t (p := p) (d := d) (by omega) (by omega) (by omega))).trans (tw_0 htz).symm)
           | exact out_p (by rw [ha]; exact (tr_0 (by omega) htr hlf hsf).trans (tw_0 htz).symm)
        ·have hb119R := hb119; try simp only [zz] at hb119
         refine pwp_skip ?_
         refine seq_norm (hK118 _ ?_); clear hK118 K118
         refine pwp_plain rfl fun K121 hK121 => ?_
         refine p_e rfl (e_move (v := .ref _ _ _ _) rfl) ?_
         refine p_mS rfl ?_
         refine p_mS rfl ?_
         refine p_e rfl (e_ixaR0 rfl rfl (by kernel_rfl) (by kernel_rfl) (by omega)) ?_
         refine p_store rfl (e_storeI (a := (s + ((lvM t l p d) ((p : Int)).toNat ((d : Int)).toNat))) rfl (hMB.at (by omega)) rfl (by simp only [List.length_map, List.length_range]; omega) (by kernel_rfl) (by kernel_rfl)) trivial ?_
         refine p_end (hK121 _ ?_); clear hK121 K121
         refine block_norm ?_
         refine seq_norm (hK114 _ ?_); clear hK114 K114
         refine pwp_plain rfl fun K122 hK122 => ?_
         refine p_e rfl (e_adL rfl rfl) ?_
         refine p_mS rfl ?_
         refine p_end (hK122 _ ?_); clear hK122 K122
         exact loop_again ((d + 1, (s + ((lvM t l p d) ((p : Int)).toNat ((d : Int)).toNat)))) (by show _ < _; simp only; omega) ⟨rfl, rfl, rfl, rfl, rfl, rfl, rfl, rfl, rfl, trivial⟩ ⟨rfl, rfl, trivial⟩ (by exact ⟨by show _ + 1 ≤ _; omega, by rw [hsn]; rfl, by exact fun e he => (by by_cases q : e = d; (subst q; omega); exact hlp e (by omega)), by have q1 := (Mat.upd (i := ((p : Int)).toNat) (j := ((d : Int)).toNat) (w := (s + ((lvM t l p d) ((p : Int)).toNat ((d : Int)).toNat))) rfl hMB (by omega) (by omega)); simp only [Int.toNat_natCast] at q1 ⊢; exact Mat.congr q1 (fun i j _ _ => lv_s (by simp only [Int.toNat_natCast] at hsn; omega) i j), ((hset_ne (key_ne rfl)).trans hihj110_0), ((hset_ne (key_ne rfl)).trans hihj110_1)⟩)
       ·have hb113R := hb113; try simp only [zz] at hb113
        have hdd : d = t.days.toNat := by omega
        subst hdd
        refine pwp_exit ?_
        refine exit_seq ?_
        clear hK112 K112
        refine exit_loop ?_
        refine exit_here ?_
        refine seq_norm (hK105 _ ?_); clear hK105 K105
        refine pwp_plain rfl fun K123 hK123 => ?_
        refine p_mS rfl ?_
        refine p_e rfl (e_move (v := .ref _ _ _ _) rfl) ?_
        refine p_e rfl (e_move (v := .ref _ _ _ _) rfl) ?_
        refine p_call rfl (.cons (inn_ref (rows := ((List.range t.days.toNat).map (lvB t l p)).map ci) (by have q1 := Mat.at (i := p) hMB (by omega); rw [lv_row] at q1; exact q1) (by simp) rfl (by exact pure_map ci_pure)) (.cons (inn_ref (rows := (zs).map ci) hihj110_1 (by first | (simp; done) | (simp only [List.length_map]; omega)) rfl (by exact pure_map ci_pure)) .nil)) ((by have q := takenP true true t.days.toNat (lvB t l p) (ndM t p) (by omega) (fun d hd => by have := lvB_b (l := l) hT hcn (by omega) (p := p) (d := d + 1) (by omega); rw [lvB]; omega) (fun d hd => by have := nd_b hT p d; omega); rw [hzs2]; exact q)) ?_
        refine p_e rfl (e_adL rfl rfl) ?_
        refine p_aS rfl ?_
        refine p_end (hK123 _ ?_); clear hK123 K123
        refine block_norm ?_
        refine seq_norm (hK83 _ ?_); clear hK83 K83
        refine pwp_plain rfl fun K124 hK124 => ?_
        refine p_e rfl (e_adL rfl rfl) ?_
        refine p_mS rfl ?_
        refine p_end (hK124 _ ?_); clear hK124 K124
        exact loop_again ((p + 1, (a + (tkN (lvB t l p) (ndM t p) t.days.toNat t.days.toNat)))) (by show _ < _; simp only; omega) ⟨rfl, rfl, rfl, trivial⟩ ⟨rfl, rfl, trivial⟩ (by exact ⟨by show _ + 1 ≤ _; omega, by rw [lvl, ha], by exact fun i hi d hd => (by by_cases e : i = p; (subst e; exact hlp d (by omega)); exact hst i (by omega) d hd), by exact Mat.congr hMB (fun i j _ hj => lv_n i j hj), hihj110_0⟩)
     ·have hb82R := hb82; try simp only [zz] at hb82
      have hpp : p = t.places.toNat := by omega
      subst hpp
      have hsf : stkB t l = false := stk_f hst
      refine pwp_exit ?_
      refine exit_seq ?_
      clear hK81 K81
      refine exit_loop ?_
      refine exit_here ?_
      refine seq_norm (hK74 _ ?_); clear hK74 K74
      refine pwp_seq_plain rfl fun K125 hK125 => ?_
      refine p_mS rfl ?_
      refine p_aS rfl ?_
      refine p_aS rfl ?_
      refine p_end (hK125 _ ?_); clear hK125 K125
      refine pwp_ret ?_
      refine end2 (v := .sc _) (w := .sc _) rfl rfl ?_
      first
        | exact out_p (tw_e (by assumption))
        | exact out_p ((tr_8 (by omega)).trans (tw_0 htz).symm)
        | exact out_p ((tr_hit hin hx (trF_6 (by omega)) (by decide) (by omega)).trans (tw_0 htz).symm)
        | exact out_p ((tr_hit hin hx (trF_2 (by omega) hro (by omega)) (by decide) (by omega)).trans (tw_0 htz).symm)
        | exact out_p ((tr_18 (by omega) htr (lim_hit (k := k) (i := x.route.toNat) (d := x.day.toNat) (fun y hy => (hcn y hy).1) (by omega) (by omega) (by omega) hro rfl (by omega))).trans (tw_0 htz).symm)
        | exact out_p ((tr_22 (by omega) htr hlf (stk_t (p := p) (d := d) (by omega) (by omega) (by omega))).trans (tw_0 htz).symm)
        | exact out_p (by rw [ha]; exact (tr_0 (by omega) htr hlf hsf).trans (tw_0 htz).symm)

end Go.Proofs.Ytigdmkhdmbbfiaa
