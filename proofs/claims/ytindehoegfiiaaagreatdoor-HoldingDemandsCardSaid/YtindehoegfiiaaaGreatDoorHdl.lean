/- Demands. No conditions. -/
import Derived.Test.YtindehoegfiiaaaGreatDoorHdm
set_option linter.unusedSimpArgs false
set_option linter.unusedVariables false
set_option maxRecDepth 100000
namespace Go.Proofs.YtindehoegfiiaaaGreatDoor
open Go Go.Pv
section
variable {g : Grid} {r : Rule} {l : List Tie}
theorem row_pure (x : Demand × Option Bool) : ∀ row ∈ [encQ x], ∀ p ∈ row, Pure p := fun row hr => pure_map (xs := [x]) pureQ row hr
theorem one_eq (a b : Option (Int × Int)) (h : a = b) : decide ([dN a].map Prod.fst = [dW b].map Prod.fst) = true := by subst h; exact decide_eq_true rfl
theorem one_e0 (h : allE g r l ≠ 0) : decide ([dN (heW g r l)].map Prod.fst = [dN none].map Prod.fst) = true := by rw [heW_e h]; exact decide_eq_true rfl
theorem dm_same : decide (((dmX g r l).map dF).map Prod.fst = ((dmX g r l).map dF).map Prod.fst) = true := decide_eq_true rfl
end

theorem fr5 : (inFrame Tryz.f5.ntmps (Tryz.f5.body.getD .skip) && Tryz.f5.results.toList.all (resScope Tryz.f5.ntmps)) = true := by kernel_rfl
theorem hDemands (g : Grid) (r : Rule) (l : List Tie) (ha : g.along.length ≤ 9223372036854775807) (hb : g.levels.length ≤ 9223372036854775807) (hl : l.length ≤ 9223372036854775807) : PCalls Tryz.prog 5 [.agg g.enc, .agg r.enc, .lit true 2 (l.map Tie.enc)] (.bool true) := by
 refine PCalls.of_code Tryz.func5 rfl rfl (by kernel_rfl) mixed fr5 (by show _ ≤ 113; simp) (.sc _) ?_
 refine pwp_seq_plain rfl fun K1 hK1 => ?_
 refine p_new rfl (e_box (n := 3) rfl rfl) ⟨rfl, by decide⟩ ?_
 refine p_new rfl (e_box (n := 5) rfl rfl) ⟨rfl, by decide⟩ ?_
 refine p_aS rfl ?_
 refine p_end (hK1 _ ?_); clear hK1 K1
 refine pwp_seq_seq ?_
 refine pwp_seq_plain rfl fun K2 hK2 => ?_
 refine p_call rfl .nil (awake) ?_
 refine p_e rfl (e_not rfl) ?_
 refine p_end (hK2 _ ?_); clear hK2 K2
 refine pwp_seq_cond (t := false) rfl fun K3 hK3 => ⟨nofun, fun _ => ?_⟩
 refine pwp_skip ?_
 refine seq_norm (hK3 _ ?_); clear hK3 K3
 refine pwp_seq_seq ?_
 refine pwp_seq_gops rfl fun K4 hK4 => ?_
 refine g_begin ?_
 refine g_e rfl (e_loadHA (cs := Grid.enc (g)) (n := 3) rfl ((hset_ne (key_ne rfl)).trans (hset_self _ _ _)) (by kernel_rfl) (by kernel_rfl) (by kernel_rfl) (by exact Nat.zero_lt_one) (by decide) rfl) ?_
 refine g_call rfl rfl rfl rfl (.cons (inn_agg (Grid.pure _)) .nil) (FewC g (by omega) (by omega)) ?_
 refine g_e rfl (e_not rfl) ?_
 refine g_mS rfl rfl ?_
 refine g_cases (fun hb5 => ?_) (fun hb5 => ?_)
 ·have hb5R := hb5; try simp only [zz] at hb5
  iterate 3 refine g_skip rfl rfl rfl ?_
  refine g_pT rfl rfl rfl ?_
  refine g_mS rfl rfl ?_
  iterate 8 refine g_skip rfl rfl rfl ?_
  refine g_pT rfl rfl rfl ?_
  refine g_end (ds := [21, 22, 23, 26, 27, 28, 29, 30, 31, 32, 33]) rfl rfl (hK4 _ ?_); clear hK4 K4
  refine pwp_seq_cond (t := true) rfl fun K6 hK6 => ⟨fun _ => ?_, nofun⟩
  refine pwp_seq_plain rfl fun K7 hK7 => ?_
  refine p_aS rfl ?_
  refine p_end (hK7 _ ?_); clear hK7 K7
  refine pwp_ret ?_
  refine ret_seq ?_
  refine end1 (v := .sc _) rfl ?_
  first
    | exact out_b rfl
    | exact out_b (one_e0 (by assumption))
    | exact out_b (one_eq _ _ (heW_0 haz))
    | (exfalso; omega)
    | (exfalso; rw [dmX_e (by assumption)] at *; simp_all; done)
    | (exfalso; rw [heB_e (by assumption)] at *; simp_all; done)
    | exact absurd dm_same (by simp_all)
    | (exfalso; rw [heB_0 haz] at *; simp_all; done)
    | (exfalso; simp_all [dm_same]; done)
 ·have hb5R := hb5; try simp only [zz] at hb5
  refine g_e rfl (e_move (v := .lit _ _ _) rfl) ?_
  refine g_e rfl (e_len rfl (by kernel_rfl)) ?_
  refine g_e rfl (e_gt rfl rfl) ?_
  refine g_pF rfl rfl rfl ?_
  refine g_mS rfl rfl ?_
  refine g_cases (fun hb8 => ?_) (fun hb8 => ?_)
  ·have hb8R := hb8; try simp only [zz] at hb8
   iterate 8 refine g_skip rfl rfl rfl ?_
   refine g_pT rfl rfl rfl ?_
   refine g_end (ds := [21, 22, 23, 26, 27, 28, 29, 30, 31, 32, 33]) rfl rfl (hK4 _ ?_); clear hK4 K4
   refine pwp_seq_cond (t := true) rfl fun K9 hK9 => ⟨fun _ => ?_, nofun⟩
   refine pwp_seq_plain rfl fun K10 hK10 => ?_
   refine p_aS rfl ?_
   refine p_end (hK10 _ ?_); clear hK10 K10
   refine pwp_ret ?_
   refine ret_seq ?_
   refine end1 (v := .sc _) rfl ?_
   first
     | exact out_b rfl
     | exact out_b (one_e0 (by assumption))
     | exact out_b (one_eq _ _ (heW_0 haz))
     | (exfalso; omega)
     | (exfalso; rw [dmX_e (by assumption)] at *; simp_all; done)
     | (exfalso; rw [heB_e (by assumption)] at *; simp_all; done)
     | exact absurd dm_same (by simp_all)
     | (exfalso; rw [heB_0 haz] at *; simp_all; done)
     | (exfalso; simp_all [dm_same]; done)
  ·have hb8R := hb8; try simp only [zz] at hb8
   refine g_e rfl (e_move (v := .lit _ _ _) rfl) ?_
   refine g_e rfl (e_len rfl (by kernel_rfl)) ?_
   refine g_e rfl (e_gt rfl rfl) ?_
   refine g_mS rfl rfl ?_
   refine g_cases (fun hb11 => ?_) (fun hb11 => ?_)
   ·have hb11R := hb11; try simp only [zz] at hb11
    refine g_e rfl (e_move (v := .lit _ _ _) rfl) ?_
    refine g_e rfl (e_len rfl (by kernel_rfl)) ?_
    refine g_e rfl (e_le rfl rfl) ?_
    refine g_pT rfl rfl rfl ?_
    refine g_pF rfl rfl rfl ?_
    refine g_end (ds := [21, 22, 23, 26, 27, 28, 29, 30, 31, 32, 33]) rfl rfl (hK4 _ ?_); clear hK4 K4
    refine pwp_seq_cond rfl fun K12 hK12 => ⟨fun hb13 => ?_, fun hb13 => ?_⟩
    ·have hb13R := hb13; try simp only [zz] at hb13
     refine pwp_seq_plain rfl fun K14 hK14 => ?_
     refine p_aS rfl ?_
     refine p_end (hK14 _ ?_); clear hK14 K14
     refine pwp_ret ?_
     refine ret_seq ?_
     refine end1 (v := .sc _) rfl ?_
     first
       | exact out_b rfl
       | exact out_b (one_e0 (by assumption))
       | exact out_b (one_eq _ _ (heW_0 haz))
       | (exfalso; omega)
       | (exfalso; rw [dmX_e (by assumption)] at *; simp_all; done)
       | (exfalso; rw [heB_e (by assumption)] at *; simp_all; done)
       | exact absurd dm_same (by simp_all)
       | (exfalso; rw [heB_0 haz] at *; simp_all; done)
       | (exfalso; simp_all [dm_same]; done)
    ·have hb13R := hb13; try simp only [zz] at hb13
     refine pwp_skip ?_
     refine seq_norm (hK12 _ ?_); clear hK12 K12
     have hfw := few_t (g := g) (by first | assumption | simp_all)
     have hl2 : l.length ≤ 2000 := by simp only [List.length_map] at *; omega
     have hdl := dmX_len (g := g) (r := r) (l := l)
     refine pwp_seq_plain rfl fun K15 hK15 => ?_
     refine p_e rfl (e_loadHA (cs := Grid.enc (g)) (n := 3) rfl ((hset_ne (key_ne rfl)).trans (hset_self _ _ _)) (by kernel_rfl) (by kernel_rfl) (by kernel_rfl) (by exact Nat.zero_lt_one) (by decide) rfl) ?_
     refine p_e rfl (e_loadHA (cs := Rule.enc (r)) (n := 5) rfl (hset_self _ _ _) (by kernel_rfl) (by kernel_rfl) (by kernel_rfl) (by exact Nat.zero_lt_one) (by decide) rfl) ?_
     refine p_e rfl (e_move (v := .lit _ _ _) rfl) ?_
     refine p_call rfl (.cons (inn_agg (Grid.pure _)) (.cons (inn_agg (Rule.pure _)) (.cons inn_lit .nil))) (DemandsC g r l (by omega) (by omega) (by omega)) ?_
     refine p_e rfl (e_move (v := .tup _) rfl) ?_
     refine p_e rfl (e_ext (v := .lit _ _ _) rfl (by simp) rfl) ?_
     refine p_e rfl (e_ext (v := .sc _) rfl (by simp) rfl) ?_
     refine p_e rfl (e_assign (v := .lit _ _ _) rfl) ?_
     refine p_aS rfl ?_
     refine p_end (hK15 _ ?_); clear hK15 K15
     refine pwp_seq_plain rfl fun K16 hK16 => ?_
     refine p_e rfl (e_loadHA (cs := Grid.enc (g)) (n := 3) rfl ((hset_ne (key_ne rfl)).trans (hset_self _ _ _)) (by kernel_rfl) (by kernel_rfl) (by kernel_rfl) (by exact Nat.zero_lt_one) (by decide) rfl) ?_
     refine p_e rfl (e_loadHA (cs := Rule.enc (r)) (n := 5) rfl (hset_self _ _ _) (by kernel_rfl) (by kernel_rfl) (by kernel_rfl) (by exact Nat.zero_lt_one) (by decide) rfl) ?_
     refine p_e rfl (e_move (v := .lit _ _ _) rfl) ?_
     refine p_call rfl (.cons (inn_agg (Grid.pure _)) (.cons (inn_agg (Rule.pure _)) (.cons inn_lit .nil))) (HeldC g r l (by omega) (by omega) (by omega)) ?_
     refine p_e rfl (e_move (v := .tup _) rfl) ?_
     refine p_e rfl (e_ext (v := .sc _) rfl (by simp) rfl) ?_
     refine p_e rfl (e_ext (v := .agg _) rfl (by simp) rfl) ?_
     refine p_e rfl (e_ext (v := .sc _) rfl (by simp) rfl) ?_
     refine p_new rfl (e_alloc (cs := [.int 0, .int 0, .nil]) (n := 3) (by kernel_rfl) rfl (by decide)) (ob_alloc (by decide)) ?_
     refine p_aS rfl ?_
     refine p_store rfl (e_storeA rfl (hset_self _ _ _) rfl rfl rfl (by kernel_rfl) rfl (by kernel_rfl)) trivial ?_
     refine p_aS rfl ?_
     refine p_end (hK16 _ ?_); clear hK16 K16
     refine pwp_seq_seq ?_
     refine pwp_seq_plain rfl fun K17 hK17 => ?_
     refine p_e rfl (e_loadHA (cs := Grid.enc (g)) (n := 3) rfl ((hset_ne (key_ne rfl)).trans ((hset_ne (key_ne rfl)).trans ((hset_ne (key_ne rfl)).trans (hset_self _ _ _)))) (by kernel_rfl) (by kernel_rfl) (by kernel_rfl) (by exact Nat.zero_lt_one) (by decide) rfl) ?_
     refine p_e rfl (e_loadHA (cs := Rule.enc (r)) (n := 5) rfl ((hset_ne (key_ne rfl)).trans ((hset_ne (key_ne rfl)).trans (hset_self _ _ _))) (by kernel_rfl) (by kernel_rfl) (by kernel_rfl) (by exact Nat.zero_lt_one) (by decide) rfl) ?_
     refine p_e rfl (e_move (v := .lit _ _ _) rfl) ?_
     refine p_call rfl (.cons (inn_agg (Grid.pure _)) (.cons (inn_agg (Rule.pure _)) (.cons inn_lit .nil))) (refAllC g r l (by omega) (by omega) (by omega)) ?_
     refine p_aS rfl ?_
     refine p_end (hK17 _ ?_); clear hK17 K17
     refine pwp_seq_seq ?_
     refine pwp_seq_plain rfl fun K18 hK18 => ?_
     refine p_mS rfl ?_
     refine p_e rfl (e_ne rfl rfl) ?_
     refine p_end (hK18 _ ?_); clear hK18 K18
     refine pwp_seq_cond rfl fun K19 hK19 => ⟨fun hb20 => ?_, fun hb20 => ?_⟩
     ·have hb20R := hb20; try simp only [zz] at hb20
      refine pwp_seq_gops rfl fun K21 hK21 => ?_
      refine s_begin ?_
      refine s_e rfl (e_move (v := .sc _) rfl) ?_
      refine s_e rfl (e_move (v := .sc _) rfl) ?_
      refine s_e rfl (e_eq rfl rfl) ?_
      refine s_e rfl (e_move (v := .sc _) rfl) ?_
      refine s_cases (fun hb22 => ?_) (fun hb22 => ?_)
      ·have hb22R := hb22; try simp only [zz] at hb22
       refine s_e rfl (e_move (v := .sc _) rfl) ?_
       refine s_e rfl (e_move (v := .sc _) rfl) ?_
       refine s_e rfl (e_eq rfl rfl) ?_
       refine s_e rfl (e_pickT (v := .sc _) rfl rfl) ?_
       refine s_e rfl (e_move (v := .sc _) rfl) ?_
       refine s_cases (fun hb23 => ?_) (fun hb23 => ?_)
       ·have hb23R := hb23; try simp only [zz] at hb23
        refine s_e rfl (e_move (v := .lit _ _ _) rfl) ?_
        refine s_e rfl (e_len rfl (by kernel_rfl)) ?_
        refine s_e rfl (e_eq rfl rfl) ?_
        refine s_e rfl (e_pickT (v := .sc _) rfl rfl) ?_
        refine s_e rfl (e_move (v := .sc _) rfl) ?_
        refine s_cases (fun hb24 => ?_) (fun hb24 => ?_)
        ·have hb24R := hb24; try simp only [zz] at hb24
         refine s_e rfl (e_move (v := .sc _) rfl) ?_
         refine s_e rfl (e_not rfl) ?_
         refine s_e rfl (e_pickT (v := .sc _) rfl rfl) ?_
         refine s_e rfl (e_move (v := .sc _) rfl) ?_
         refine s_cases (fun hb25 => ?_) (fun hb25 => ?_)
         ·have hb25R := hb25; try simp only [zz] at hb25
          refine s_step [10] (by simp) rfl rfl rfl rfl (e_loadHA (n := 3) rfl (hset_self _ _ _) (by kernel_rfl) (by kernel_rfl) (by kernel_rfl) (by exact Nat.zero_lt_one) (by decide) rfl) trivial ?_
          refine s_new [] (by simp) rfl rfl rfl rfl (e_bslice (rows := [encQ (dN (heW g r l))]) (zs := [.int 0, .int 0, .nil]) (sz := 3) (by kernel_rfl) (by kernel_rfl) rfl (by kernel_rfl) (by decide) rfl rfl (by exact ⟨by decide, rfl, rfl, trivial⟩) rfl) trivial ?_
          refine s_e rfl (e_build (zs := [.int 0, .int 0, .nil]) (pl := [(0, 1, false), (1, 1, false), (2, 1, false)]) (by kernel_rfl) (by kernel_rfl) (by kernel_rfl) rfl rfl (by exact trivial) rfl) ?_
          refine s_new [] (by simp) rfl rfl rfl rfl (e_bslice (rows := [encQ (dN none)]) (zs := [.int 0, .int 0, .nil]) (sz := 3) (by kernel_rfl) (by kernel_rfl) rfl (by kernel_rfl) (by decide) rfl rfl (by exact ⟨by decide, rfl, rfl, trivial⟩) rfl) trivial ?_
          refine s_call (args := [.ref _ _ _ _, .ref _ _ _ _]) [75, 77] (by intro k hk; simp [keysOf, Go.Pv.keyOf] at hk; try (first | (subst hk; simp; done) | (rcases hk with rfl | rfl <;> simp; done))) rfl rfl rfl rfl (.cons (inn_ref (rows := [encQ (dN (heW g r l))]) ((hset_ne (key_ne rfl)).trans (hset_self _ _ _)) (by simp) rfl (row_pure _)) (.cons (inn_ref (rows := [encQ (dN none)]) (hset_self _ _ _) (by simp) rfl (row_pure _)) .nil)) (SameDemandsC _ _ [dN (heW g r l)] [dN none] (good_1 _ rfl) (good_1 _ rfl)) ?_
          refine s_e rfl (e_pickT (v := .sc _) rfl rfl) ?_
          refine s_e rfl (e_assign (v := .sc _) rfl) ?_
          refine s_end (ds := [60, 61, 62, 65, 66, 67, 70, 71, 74, 75, 76, 77, 78]) (by kernel_rfl) (by kernel_rfl) (hK21 _ ?_); clear hK21 K21
          refine pwp_ret ?_
          refine ret_seq ?_
          refine end1 (v := .sc _) rfl ?_
          first
            | exact out_b rfl
            | exact out_b (one_e0 (by assumption))
            | exact out_b (one_eq _ _ (heW_0 haz))
            | (exfalso; omega)
            | (exfalso; rw [dmX_e (by assumption)] at *; simp_all; done)
            | (exfalso; rw [heB_e (by assumption)] at *; simp_all; done)
            | exact absurd dm_same (by simp_all)
            | (exfalso; rw [heB_0 haz] at *; simp_all; done)
            | (exfalso; simp_all [dm_same]; done)
         ·have hb25R := hb25; try simp only [zz] at hb25
          refine s_skip rfl rfl rfl ?_
          refine s_skip rfl rfl rfl ?_
          refine s_skip rfl rfl rfl ?_
          refine s_skip rfl rfl rfl ?_
          refine s_nocall (args := [.dead, .dead]) [] (by intro k hk; simp [keysOf, Go.Pv.keyOf] at hk) rfl rfl rfl ?_
          refine s_e rfl (e_pickF (v := .sc _) rfl rfl) ?_
          refine s_e rfl (e_assign (v := .sc _) rfl) ?_
          refine s_end (ds := [60, 61, 62, 65, 66, 67, 70, 71, 74, 75, 76, 77, 78]) (by kernel_rfl) (by kernel_rfl) (hK21 _ ?_); clear hK21 K21
          refine pwp_ret ?_
          refine ret_seq ?_
          refine end1 (v := .sc _) rfl ?_
          first
            | exact out_b rfl
            | exact out_b (one_e0 (by assumption))
            | exact out_b (one_eq _ _ (heW_0 haz))
            | (exfalso; omega)
            | (exfalso; rw [dmX_e (by assumption)] at *; simp_all; done)
            | (exfalso; rw [heB_e (by assumption)] at *; simp_all; done)
            | exact absurd dm_same (by simp_all)
            | (exfalso; rw [heB_0 haz] at *; simp_all; done)
            | (exfalso; simp_all [dm_same]; done)
        ·have hb24R := hb24; try simp only [zz] at hb24
         refine s_skip rfl rfl rfl ?_
         refine s_skip rfl rfl rfl ?_
         refine s_e rfl (e_pickF (v := .sc _) rfl rfl) ?_
         refine s_e rfl (e_move (v := .sc _) rfl) ?_
         refine s_skip rfl rfl rfl ?_
         refine s_skip rfl rfl rfl ?_
         refine s_skip rfl rfl rfl ?_
         refine s_skip rfl rfl rfl ?_
         refine s_nocall (args := [.dead, .dead]) [] (by intro k hk; simp [keysOf, Go.Pv.keyOf] at hk) rfl rfl rfl ?_
         refine s_e rfl (e_pickF (v := .sc _) rfl rfl) ?_
         refine s_e rfl (e_assign (v := .sc _) rfl) ?_
         refine s_end (ds := [60, 61, 62, 65, 66, 67, 70, 71, 74, 75, 76, 77, 78]) (by kernel_rfl) (by kernel_rfl) (hK21 _ ?_); clear hK21 K21
         refine pwp_ret ?_
         refine ret_seq ?_
         refine end1 (v := .sc _) rfl ?_
         first
           | exact out_b rfl
           | exact out_b (one_e0 (by assumption))
           | exact out_b (one_eq _ _ (heW_0 haz))
           | (exfalso; omega)
           | (exfalso; rw [dmX_e (by assumption)] at *; simp_all; done)
           | (exfalso; rw [heB_e (by assumption)] at *; simp_all; done)
           | exact absurd dm_same (by simp_all)
           | (exfalso; rw [heB_0 haz] at *; simp_all; done)
           | (exfalso; simp_all [dm_same]; done)
       ·have hb23R := hb23; try simp only [zz] at hb23
        refine s_skip rfl rfl rfl ?_
        refine s_skip rfl rfl rfl ?_
        refine s_skip rfl rfl rfl ?_
        refine s_e rfl (e_pickF (v := .sc _) rfl rfl) ?_
        refine s_e rfl (e_move (v := .sc _) rfl) ?_
        refine s_skip rfl rfl rfl ?_
        refine s_skip rfl rfl rfl ?_
        refine s_e rfl (e_pickF (v := .sc _) rfl rfl) ?_
        refine s_e rfl (e_move (v := .sc _) rfl) ?_
        refine s_skip rfl rfl rfl ?_
        refine s_skip rfl rfl rfl ?_
        refine s_skip rfl rfl rfl ?_
        refine s_skip rfl rfl rfl ?_
        refine s_nocall (args := [.dead, .dead]) [] (by intro k hk; simp [keysOf, Go.Pv.keyOf] at hk) rfl rfl rfl ?_
        refine s_e rfl (e_pickF (v := .sc _) rfl rfl) ?_
        refine s_e rfl (e_assign (v := .sc _) rfl) ?_
        refine s_end (ds := [60, 61, 62, 65, 66, 67, 70, 71, 74, 75, 76, 77, 78]) (by kernel_rfl) (by kernel_rfl) (hK21 _ ?_); clear hK21 K21
        refine pwp_ret ?_
        refine ret_seq ?_
        refine end1 (v := .sc _) rfl ?_
        first
          | exact out_b rfl
          | exact out_b (one_e0 (by assumption))
          | exact out_b (one_eq _ _ (heW_0 haz))
          | (exfalso; omega)
          | (exfalso; rw [dmX_e (by assumption)] at *; simp_all; done)
          | (exfalso; rw [heB_e (by assumption)] at *; simp_all; done)
          | exact absurd dm_same (by simp_all)
          | (exfalso; rw [heB_0 haz] at *; simp_all; done)
          | (exfalso; simp_all [dm_same]; done)
      ·have hb22R := hb22; try simp only [zz] at hb22
       refine s_skip rfl rfl rfl ?_
       refine s_skip rfl rfl rfl ?_
       refine s_skip rfl rfl rfl ?_
       refine s_e rfl (e_pickF (v := .sc _) rfl rfl) ?_
       refine s_e rfl (e_move (v := .sc _) rfl) ?_
       refine s_skip rfl rfl rfl ?_
       refine s_skip rfl rfl rfl ?_
       refine s_skip rfl rfl rfl ?_
       refine s_e rfl (e_pickF (v := .sc _) rfl rfl) ?_
       refine s_e rfl (e_move (v := .sc _) rfl) ?_
       refine s_skip rfl rfl rfl ?_
       refine s_skip rfl rfl rfl ?_
       refine s_e rfl (e_pickF (v := .sc _) rfl rfl) ?_
       refine s_e rfl (e_move (v := .sc _) rfl) ?_
       refine s_skip rfl rfl rfl ?_
       refine s_skip rfl rfl rfl ?_
       refine s_skip rfl rfl rfl ?_
       refine s_skip rfl rfl rfl ?_
       refine s_nocall (args := [.dead, .dead]) [] (by intro k hk; simp [keysOf, Go.Pv.keyOf] at hk) rfl rfl rfl ?_
       refine s_e rfl (e_pickF (v := .sc _) rfl rfl) ?_
       refine s_e rfl (e_assign (v := .sc _) rfl) ?_
       refine s_end (ds := [60, 61, 62, 65, 66, 67, 70, 71, 74, 75, 76, 77, 78]) (by kernel_rfl) (by kernel_rfl) (hK21 _ ?_); clear hK21 K21
       refine pwp_ret ?_
       refine ret_seq ?_
       refine end1 (v := .sc _) rfl ?_
       first
         | exact out_b rfl
         | exact out_b (one_e0 (by assumption))
         | exact out_b (one_eq _ _ (heW_0 haz))
         | (exfalso; omega)
         | (exfalso; rw [dmX_e (by assumption)] at *; simp_all; done)
         | (exfalso; rw [heB_e (by assumption)] at *; simp_all; done)
         | exact absurd dm_same (by simp_all)
         | (exfalso; rw [heB_0 haz] at *; simp_all; done)
         | (exfalso; simp_all [dm_same]; done)
     ·have hb20R := hb20; try simp only [zz] at hb20
      refine pwp_skip ?_
      refine seq_norm (hK19 _ ?_); clear hK19 K19
      have haz : allE g r l = 0 := by omega
      refine pwp_seq_plain rfl fun K26 hK26 => ?_
      refine p_e rfl (e_loadHA (cs := Grid.enc (g)) (n := 3) rfl ((hset_ne (key_ne rfl)).trans ((hset_ne (key_ne rfl)).trans ((hset_ne (key_ne rfl)).trans (hset_self _ _ _)))) (by kernel_rfl) (by kernel_rfl) (by kernel_rfl) (by exact Nat.zero_lt_one) (by decide) rfl) ?_
      refine p_e rfl (e_loadHA (cs := Rule.enc (r)) (n := 5) rfl ((hset_ne (key_ne rfl)).trans ((hset_ne (key_ne rfl)).trans (hset_self _ _ _))) (by kernel_rfl) (by kernel_rfl) (by kernel_rfl) (by exact Nat.zero_lt_one) (by decide) rfl) ?_
      refine p_e rfl (e_move (v := .lit _ _ _) rfl) ?_
      refine p_call rfl (.cons (inn_agg (Grid.pure _)) (.cons (inn_agg (Rule.pure _)) (.cons inn_lit .nil))) (refHeldC g r l (by omega) haz) ?_
      refine p_e rfl (e_move (v := .tup _) rfl) ?_
      refine p_e rfl (e_ext (v := .sc _) rfl (by simp) rfl) ?_
      refine p_e rfl (e_ext (v := .agg _) rfl (by simp) rfl) ?_
      refine p_new rfl (e_alloc (cs := [.int 0, .int 0, .nil]) (n := 3) (by kernel_rfl) rfl (by decide)) (ob_alloc (by decide)) ?_
      refine p_aS rfl ?_
      refine p_store rfl (e_storeA rfl (hset_self _ _ _) rfl rfl rfl (by kernel_rfl) (by show (true && (true && ((plQ _).cell && true))) = true; rw [plQ_cell]; rfl) (by kernel_rfl)) trivial ?_
      refine p_end (hK26 _ ?_); clear hK26 K26
      have haz : allE g r l = 0 := by omega
      refine pwp_seq_gops rfl fun K27 hK27 => ?_
      refine s_begin ?_
      refine s_e rfl (e_move (v := .sc _) rfl) ?_
      refine s_e rfl (e_eq rfl rfl) ?_
      refine s_e rfl (e_move (v := .sc _) rfl) ?_
      refine s_cases (fun hb28 => ?_) (fun hb28 => ?_)
      ·have hb28R := hb28; try simp only [zz] at hb28
       refine s_e rfl (e_move (v := .sc _) rfl) ?_
       refine s_e rfl (e_eq rfl rfl) ?_
       refine s_e rfl (e_pickT (v := .sc _) rfl rfl) ?_
       refine s_e rfl (e_move (v := .sc _) rfl) ?_
       refine s_cases (fun hb29 => ?_) (fun hb29 => ?_)
       ·have hb29R := hb29; try simp only [zz] at hb29
        refine s_e rfl (e_move (v := .lit _ _ _) rfl) ?_
        refine s_step [3] (by simp) rfl rfl rfl rfl (e_loadHA (cs := Grid.enc (g)) (n := 3) rfl ((hset_ne (key_ne rfl)).trans ((hset_ne (key_ne rfl)).trans ((hset_ne (key_ne rfl)).trans ((hset_ne (key_ne rfl)).trans ((hset_ne (key_ne rfl)).trans (hset_self _ _ _)))))) (by kernel_rfl) (by kernel_rfl) (by kernel_rfl) (by exact Nat.zero_lt_one) (by decide) rfl) trivial ?_
        refine s_step [4] (by simp) rfl rfl rfl rfl (e_loadHA (cs := Rule.enc (r)) (n := 5) rfl ((hset_ne (key_ne rfl)).trans ((hset_ne (key_ne rfl)).trans ((hset_ne (key_ne rfl)).trans ((hset_ne (key_ne rfl)).trans (hset_self _ _ _))))) (by kernel_rfl) (by kernel_rfl) (by kernel_rfl) (by exact Nat.zero_lt_one) (by decide) rfl) trivial ?_
        refine s_e rfl (e_move (v := .lit _ _ _) rfl) ?_
        refine s_call (args := [.agg _, .agg _, .lit _ _ _]) [] (by intro k hk; simp [keysOf, Go.Pv.keyOf, Grid.enc, Rule.enc] at hk; try (first | (subst hk; simp; done) | (rcases hk with rfl | rfl <;> simp; done))) rfl rfl rfl rfl (.cons (inn_agg (Grid.pure _)) (.cons (inn_agg (Rule.pure _)) (.cons inn_lit .nil))) (refDemandsC g r l (by omega) haz) ?_
        refine s_call (args := [.lit _ _ _, .lit _ _ _]) [] (by intro k hk; simp [keysOf, Go.Pv.keyOf] at hk; try (first | (subst hk; simp; done) | (rcases hk with rfl | rfl <;> simp; done))) rfl rfl rfl rfl (.cons inn_lit (.cons inn_lit .nil)) (SameDemandsC _ _ ((dmX g r l).map dF) ((dmX g r l).map dF) (good_dm (by omega)) (good_dm (by omega))) ?_
        refine s_e rfl (e_pickT (v := .sc _) rfl rfl) ?_
        refine s_e rfl (e_move (v := .sc _) rfl) ?_
        refine s_cases (fun hb30 => ?_) (fun hb30 => ?_)
        ·have hb30R := hb30; try simp only [zz] at hb30
         refine s_e rfl (e_move (v := .sc _) rfl) ?_
         refine s_e rfl (e_move (v := .sc _) rfl) ?_
         refine s_e rfl (e_beq rfl rfl (by kernel_rfl)) ?_
         refine s_e rfl (e_pickT (v := .sc _) rfl rfl) ?_
         refine s_e rfl (e_move (v := .sc _) rfl) ?_
         refine s_cases (fun hb31 => ?_) (fun hb31 => ?_)
         ·have hb31R := hb31; try simp only [zz] at hb31
          refine s_step [10] (by simp) rfl rfl rfl rfl (e_loadHA (n := 3) rfl ((hset_ne (key_ne rfl)).trans ((hset_ne (key_ne rfl)).trans (hset_self _ _ _))) (by kernel_rfl) (by kernel_rfl) (by kernel_rfl) (by exact Nat.zero_lt_one) (by decide) rfl) trivial ?_
          refine s_new [] (by simp) rfl rfl rfl rfl (e_bslice (rows := [encQ (dN (heW g r l))]) (zs := [.int 0, .int 0, .nil]) (sz := 3) (by kernel_rfl) (by kernel_rfl) rfl (by kernel_rfl) (by decide) rfl rfl (by exact ⟨by decide, rfl, rfl, trivial⟩) rfl) trivial ?_
          refine s_step [14] (by simp) rfl rfl rfl rfl (e_loadHA (n := 3) rfl ((hset_ne (key_ne rfl)).trans (hset_self _ _ _)) (by kernel_rfl) (by kernel_rfl) (by kernel_rfl) (by exact Nat.zero_lt_one) (by decide) rfl) trivial ?_
          refine s_new [] (by simp) rfl rfl rfl rfl (e_bslice (rows := [encQ (dW (hdW g r l))]) (zs := [.int 0, .int 0, .nil]) (sz := 3) (by kernel_rfl) (by kernel_rfl) rfl (by kernel_rfl) (by decide) rfl rfl (by exact ⟨by decide, rfl, (by show (true && (true && ((plQ _).cell && true))) = true; rw [plQ_cell]; rfl), trivial⟩) rfl) trivial ?_
          refine s_call (args := [.ref _ _ _ _, .ref _ _ _ _]) [108, 110] (by intro k hk; simp [keysOf, Go.Pv.keyOf] at hk; try (first | (subst hk; simp; done) | (rcases hk with rfl | rfl <;> simp; done))) rfl rfl rfl rfl (.cons (inn_ref (rows := [encQ (dN (heW g r l))]) ((hset_ne (key_ne rfl)).trans (hset_self _ _ _)) (by simp) rfl (row_pure _)) (.cons (inn_ref (rows := [encQ (dW (hdW g r l))]) (hset_self _ _ _) (by simp) rfl (row_pure _)) .nil)) (SameDemandsC _ _ [dN (heW g r l)] [dW (hdW g r l)] (good_1 _ rfl) (good_1 _ rfl)) ?_
          refine s_e rfl (e_pickT (v := .sc _) rfl rfl) ?_
          refine s_e rfl (e_assign (v := .sc _) rfl) ?_
          refine s_end (ds := [90, 91, 94, 95, 96, 97, 98, 99, 102, 103, 104, 107, 108, 109, 110, 111]) (by kernel_rfl) (by kernel_rfl) (hK27 _ ?_); clear hK27 K27
          refine pwp_ret ?_
          refine end1 (v := .sc _) rfl ?_
          first
            | exact out_b rfl
            | exact out_b (one_e0 (by assumption))
            | exact out_b (one_eq _ _ (heW_0 haz))
            | (exfalso; omega)
            | (exfalso; rw [dmX_e (by assumption)] at *; simp_all; done)
            | (exfalso; rw [heB_e (by assumption)] at *; simp_all; done)
            | exact absurd dm_same (by simp_all)
            | (exfalso; rw [heB_0 haz] at *; simp_all; done)
            | (exfalso; simp_all [dm_same]; done)
         ·have hb31R := hb31; try simp only [zz] at hb31
          refine s_skip rfl rfl rfl ?_
          refine s_skip rfl rfl rfl ?_
          refine s_skip rfl rfl rfl ?_
          refine s_skip rfl rfl rfl ?_
          refine s_nocall (args := [.dead, .dead]) [] (by intro k hk; simp [keysOf, Go.Pv.keyOf] at hk) rfl rfl rfl ?_
          refine s_e rfl (e_pickF (v := .sc _) rfl rfl) ?_
          refine s_e rfl (e_assign (v := .sc _) rfl) ?_
          refine s_end (ds := [90, 91, 94, 95, 96, 97, 98, 99, 102, 103, 104, 107, 108, 109, 110, 111]) (by kernel_rfl) (by kernel_rfl) (hK27 _ ?_); clear hK27 K27
          refine pwp_ret ?_
          refine end1 (v := .sc _) rfl ?_
          first
            | exact out_b rfl
            | exact out_b (one_e0 (by assumption))
            | exact out_b (one_eq _ _ (heW_0 haz))
            | (exfalso; omega)
            | (exfalso; rw [dmX_e (by assumption)] at *; simp_all; done)
            | (exfalso; rw [heB_e (by assumption)] at *; simp_all; done)
            | exact absurd dm_same (by simp_all)
            | (exfalso; rw [heB_0 haz] at *; simp_all; done)
            | (exfalso; simp_all [dm_same]; done)
        ·have hb30R := hb30; try simp only [zz] at hb30
         refine s_skip rfl rfl rfl ?_
         refine s_skip rfl rfl rfl ?_
         refine s_skip rfl rfl rfl ?_
         refine s_e rfl (e_pickF (v := .sc _) rfl rfl) ?_
         refine s_e rfl (e_move (v := .sc _) rfl) ?_
         refine s_skip rfl rfl rfl ?_
         refine s_skip rfl rfl rfl ?_
         refine s_skip rfl rfl rfl ?_
         refine s_skip rfl rfl rfl ?_
         refine s_nocall (args := [.dead, .dead]) [] (by intro k hk; simp [keysOf, Go.Pv.keyOf] at hk) rfl rfl rfl ?_
         refine s_e rfl (e_pickF (v := .sc _) rfl rfl) ?_
         refine s_e rfl (e_assign (v := .sc _) rfl) ?_
         refine s_end (ds := [90, 91, 94, 95, 96, 97, 98, 99, 102, 103, 104, 107, 108, 109, 110, 111]) (by kernel_rfl) (by kernel_rfl) (hK27 _ ?_); clear hK27 K27
         refine pwp_ret ?_
         refine end1 (v := .sc _) rfl ?_
         first
           | exact out_b rfl
           | exact out_b (one_e0 (by assumption))
           | exact out_b (one_eq _ _ (heW_0 haz))
           | (exfalso; omega)
           | (exfalso; rw [dmX_e (by assumption)] at *; simp_all; done)
           | (exfalso; rw [heB_e (by assumption)] at *; simp_all; done)
           | exact absurd dm_same (by simp_all)
           | (exfalso; rw [heB_0 haz] at *; simp_all; done)
           | (exfalso; simp_all [dm_same]; done)
       ·have hb29R := hb29; try simp only [zz] at hb29
        refine s_skip rfl rfl rfl ?_
        refine s_skip rfl rfl rfl ?_
        refine s_skip rfl rfl rfl ?_
        refine s_skip rfl rfl rfl ?_
        refine s_nocall (args := [.dead, .dead, .dead]) [] (by intro k hk; simp [keysOf, Go.Pv.keyOf] at hk) rfl rfl rfl ?_
        refine s_nocall (args := [.dead, .dead]) [] (by intro k hk; simp [keysOf, Go.Pv.keyOf] at hk) rfl rfl rfl ?_
        refine s_e rfl (e_pickF (v := .sc _) rfl rfl) ?_
        refine s_e rfl (e_move (v := .sc _) rfl) ?_
        refine s_skip rfl rfl rfl ?_
        refine s_skip rfl rfl rfl ?_
        refine s_skip rfl rfl rfl ?_
        refine s_e rfl (e_pickF (v := .sc _) rfl rfl) ?_
        refine s_e rfl (e_move (v := .sc _) rfl) ?_
        refine s_skip rfl rfl rfl ?_
        refine s_skip rfl rfl rfl ?_
        refine s_skip rfl rfl rfl ?_
        refine s_skip rfl rfl rfl ?_
        refine s_nocall (args := [.dead, .dead]) [] (by intro k hk; simp [keysOf, Go.Pv.keyOf] at hk) rfl rfl rfl ?_
        refine s_e rfl (e_pickF (v := .sc _) rfl rfl) ?_
        refine s_e rfl (e_assign (v := .sc _) rfl) ?_
        refine s_end (ds := [90, 91, 94, 95, 96, 97, 98, 99, 102, 103, 104, 107, 108, 109, 110, 111]) (by kernel_rfl) (by kernel_rfl) (hK27 _ ?_); clear hK27 K27
        refine pwp_ret ?_
        refine end1 (v := .sc _) rfl ?_
        first
          | exact out_b rfl
          | exact out_b (one_e0 (by assumption))
          | exact out_b (one_eq _ _ (heW_0 haz))
          | (exfalso; omega)
          | (exfalso; rw [dmX_e (by assumption)] at *; simp_all; done)
          | (exfalso; rw [heB_e (by assumption)] at *; simp_all; done)
          | exact absurd dm_same (by simp_all)
          | (exfalso; rw [heB_0 haz] at *; simp_all; done)
          | (exfalso; simp_all [dm_same]; done)
      ·have hb28R := hb28; try simp only [zz] at hb28
       refine s_skip rfl rfl rfl ?_
       refine s_skip rfl rfl rfl ?_
       refine s_e rfl (e_pickF (v := .sc _) rfl rfl) ?_
       refine s_e rfl (e_move (v := .sc _) rfl) ?_
       refine s_skip rfl rfl rfl ?_
       refine s_skip rfl rfl rfl ?_
       refine s_skip rfl rfl rfl ?_
       refine s_skip rfl rfl rfl ?_
       refine s_nocall (args := [.dead, .dead, .dead]) [] (by intro k hk; simp [keysOf, Go.Pv.keyOf] at hk) rfl rfl rfl ?_
       refine s_nocall (args := [.dead, .dead]) [] (by intro k hk; simp [keysOf, Go.Pv.keyOf] at hk) rfl rfl rfl ?_
       refine s_e rfl (e_pickF (v := .sc _) rfl rfl) ?_
       refine s_e rfl (e_move (v := .sc _) rfl) ?_
       refine s_skip rfl rfl rfl ?_
       refine s_skip rfl rfl rfl ?_
       refine s_skip rfl rfl rfl ?_
       refine s_e rfl (e_pickF (v := .sc _) rfl rfl) ?_
       refine s_e rfl (e_move (v := .sc _) rfl) ?_
       refine s_skip rfl rfl rfl ?_
       refine s_skip rfl rfl rfl ?_
       refine s_skip rfl rfl rfl ?_
       refine s_skip rfl rfl rfl ?_
       refine s_nocall (args := [.dead, .dead]) [] (by intro k hk; simp [keysOf, Go.Pv.keyOf] at hk) rfl rfl rfl ?_
       refine s_e rfl (e_pickF (v := .sc _) rfl rfl) ?_
       refine s_e rfl (e_assign (v := .sc _) rfl) ?_
       refine s_end (ds := [90, 91, 94, 95, 96, 97, 98, 99, 102, 103, 104, 107, 108, 109, 110, 111]) (by kernel_rfl) (by kernel_rfl) (hK27 _ ?_); clear hK27 K27
       refine pwp_ret ?_
       refine end1 (v := .sc _) rfl ?_
       first
         | exact out_b rfl
         | exact out_b (one_e0 (by assumption))
         | exact out_b (one_eq _ _ (heW_0 haz))
         | (exfalso; omega)
         | (exfalso; rw [dmX_e (by assumption)] at *; simp_all; done)
         | (exfalso; rw [heB_e (by assumption)] at *; simp_all; done)
         | exact absurd dm_same (by simp_all)
         | (exfalso; rw [heB_0 haz] at *; simp_all; done)
         | (exfalso; simp_all [dm_same]; done)
   ·have hb11R := hb11; try simp only [zz] at hb11
    iterate 3 refine g_skip rfl rfl rfl ?_
    refine g_pF rfl rfl rfl ?_
    refine g_pF rfl rfl rfl ?_
    refine g_end (ds := [21, 22, 23, 26, 27, 28, 29, 30, 31, 32, 33]) rfl rfl (hK4 _ ?_); clear hK4 K4
    refine pwp_seq_cond (t := false) rfl fun K32 hK32 => ⟨nofun, fun _ => ?_⟩
    refine pwp_skip ?_
    refine seq_norm (hK32 _ ?_); clear hK32 K32
    have hfw := few_t (g := g) (by first | assumption | simp_all)
    have hl2 : l.length ≤ 2000 := by simp only [List.length_map] at *; omega
    have hdl := dmX_len (g := g) (r := r) (l := l)
    refine pwp_seq_plain rfl fun K33 hK33 => ?_
    refine p_e rfl (e_loadHA (cs := Grid.enc (g)) (n := 3) rfl ((hset_ne (key_ne rfl)).trans (hset_self _ _ _)) (by kernel_rfl) (by kernel_rfl) (by kernel_rfl) (by exact Nat.zero_lt_one) (by decide) rfl) ?_
    refine p_e rfl (e_loadHA (cs := Rule.enc (r)) (n := 5) rfl (hset_self _ _ _) (by kernel_rfl) (by kernel_rfl) (by kernel_rfl) (by exact Nat.zero_lt_one) (by decide) rfl) ?_
    refine p_e rfl (e_move (v := .lit _ _ _) rfl) ?_
    refine p_call rfl (.cons (inn_agg (Grid.pure _)) (.cons (inn_agg (Rule.pure _)) (.cons inn_lit .nil))) (DemandsC g r l (by omega) (by omega) (by omega)) ?_
    refine p_e rfl (e_move (v := .tup _) rfl) ?_
    refine p_e rfl (e_ext (v := .lit _ _ _) rfl (by simp) rfl) ?_
    refine p_e rfl (e_ext (v := .sc _) rfl (by simp) rfl) ?_
    refine p_e rfl (e_assign (v := .lit _ _ _) rfl) ?_
    refine p_aS rfl ?_
    refine p_end (hK33 _ ?_); clear hK33 K33
    refine pwp_seq_plain rfl fun K34 hK34 => ?_
    refine p_e rfl (e_loadHA (cs := Grid.enc (g)) (n := 3) rfl ((hset_ne (key_ne rfl)).trans (hset_self _ _ _)) (by kernel_rfl) (by kernel_rfl) (by kernel_rfl) (by exact Nat.zero_lt_one) (by decide) rfl) ?_
    refine p_e rfl (e_loadHA (cs := Rule.enc (r)) (n := 5) rfl (hset_self _ _ _) (by kernel_rfl) (by kernel_rfl) (by kernel_rfl) (by exact Nat.zero_lt_one) (by decide) rfl) ?_
    refine p_e rfl (e_move (v := .lit _ _ _) rfl) ?_
    refine p_call rfl (.cons (inn_agg (Grid.pure _)) (.cons (inn_agg (Rule.pure _)) (.cons inn_lit .nil))) (HeldC g r l (by omega) (by omega) (by omega)) ?_
    refine p_e rfl (e_move (v := .tup _) rfl) ?_
    refine p_e rfl (e_ext (v := .sc _) rfl (by simp) rfl) ?_
    refine p_e rfl (e_ext (v := .agg _) rfl (by simp) rfl) ?_
    refine p_e rfl (e_ext (v := .sc _) rfl (by simp) rfl) ?_
    refine p_new rfl (e_alloc (cs := [.int 0, .int 0, .nil]) (n := 3) (by kernel_rfl) rfl (by decide)) (ob_alloc (by decide)) ?_
    refine p_aS rfl ?_
    refine p_store rfl (e_storeA rfl (hset_self _ _ _) rfl rfl rfl (by kernel_rfl) rfl (by kernel_rfl)) trivial ?_
    refine p_aS rfl ?_
    refine p_end (hK34 _ ?_); clear hK34 K34
    refine pwp_seq_seq ?_
    refine pwp_seq_plain rfl fun K35 hK35 => ?_
    refine p_e rfl (e_loadHA (cs := Grid.enc (g)) (n := 3) rfl ((hset_ne (key_ne rfl)).trans ((hset_ne (key_ne rfl)).trans ((hset_ne (key_ne rfl)).trans (hset_self _ _ _)))) (by kernel_rfl) (by kernel_rfl) (by kernel_rfl) (by exact Nat.zero_lt_one) (by decide) rfl) ?_
    refine p_e rfl (e_loadHA (cs := Rule.enc (r)) (n := 5) rfl ((hset_ne (key_ne rfl)).trans ((hset_ne (key_ne rfl)).trans (hset_self _ _ _))) (by kernel_rfl) (by kernel_rfl) (by kernel_rfl) (by exact Nat.zero_lt_one) (by decide) rfl) ?_
    refine p_e rfl (e_move (v := .lit _ _ _) rfl) ?_
    refine p_call rfl (.cons (inn_agg (Grid.pure _)) (.cons (inn_agg (Rule.pure _)) (.cons inn_lit .nil))) (refAllC g r l (by omega) (by omega) (by omega)) ?_
    refine p_aS rfl ?_
    refine p_end (hK35 _ ?_); clear hK35 K35
    refine pwp_seq_seq ?_
    refine pwp_seq_plain rfl fun K36 hK36 => ?_
    refine p_mS rfl ?_
    refine p_e rfl (e_ne rfl rfl) ?_
    refine p_end (hK36 _ ?_); clear hK36 K36
    refine pwp_seq_cond rfl fun K37 hK37 => ⟨fun hb38 => ?_, fun hb38 => ?_⟩
    ·have hb38R := hb38; try simp only [zz] at hb38
     refine pwp_seq_gops rfl fun K39 hK39 => ?_
     refine s_begin ?_
     refine s_e rfl (e_move (v := .sc _) rfl) ?_
     refine s_e rfl (e_move (v := .sc _) rfl) ?_
     refine s_e rfl (e_eq rfl rfl) ?_
     refine s_e rfl (e_move (v := .sc _) rfl) ?_
     refine s_cases (fun hb40 => ?_) (fun hb40 => ?_)
     ·have hb40R := hb40; try simp only [zz] at hb40
      refine s_e rfl (e_move (v := .sc _) rfl) ?_
      refine s_e rfl (e_move (v := .sc _) rfl) ?_
      refine s_e rfl (e_eq rfl rfl) ?_
      refine s_e rfl (e_pickT (v := .sc _) rfl rfl) ?_
      refine s_e rfl (e_move (v := .sc _) rfl) ?_
      refine s_cases (fun hb41 => ?_) (fun hb41 => ?_)
      ·have hb41R := hb41; try simp only [zz] at hb41
       refine s_e rfl (e_move (v := .lit _ _ _) rfl) ?_
       refine s_e rfl (e_len rfl (by kernel_rfl)) ?_
       refine s_e rfl (e_eq rfl rfl) ?_
       refine s_e rfl (e_pickT (v := .sc _) rfl rfl) ?_
       refine s_e rfl (e_move (v := .sc _) rfl) ?_
       refine s_cases (fun hb42 => ?_) (fun hb42 => ?_)
       ·have hb42R := hb42; try simp only [zz] at hb42
        refine s_e rfl (e_move (v := .sc _) rfl) ?_
        refine s_e rfl (e_not rfl) ?_
        refine s_e rfl (e_pickT (v := .sc _) rfl rfl) ?_
        refine s_e rfl (e_move (v := .sc _) rfl) ?_
        refine s_cases (fun hb43 => ?_) (fun hb43 => ?_)
        ·have hb43R := hb43; try simp only [zz] at hb43
         refine s_step [10] (by simp) rfl rfl rfl rfl (e_loadHA (n := 3) rfl (hset_self _ _ _) (by kernel_rfl) (by kernel_rfl) (by kernel_rfl) (by exact Nat.zero_lt_one) (by decide) rfl) trivial ?_
         refine s_new [] (by simp) rfl rfl rfl rfl (e_bslice (rows := [encQ (dN (heW g r l))]) (zs := [.int 0, .int 0, .nil]) (sz := 3) (by kernel_rfl) (by kernel_rfl) rfl (by kernel_rfl) (by decide) rfl rfl (by exact ⟨by decide, rfl, rfl, trivial⟩) rfl) trivial ?_
         refine s_e rfl (e_build (zs := [.int 0, .int 0, .nil]) (pl := [(0, 1, false), (1, 1, false), (2, 1, false)]) (by kernel_rfl) (by kernel_rfl) (by kernel_rfl) rfl rfl (by exact trivial) rfl) ?_
         refine s_new [] (by simp) rfl rfl rfl rfl (e_bslice (rows := [encQ (dN none)]) (zs := [.int 0, .int 0, .nil]) (sz := 3) (by kernel_rfl) (by kernel_rfl) rfl (by kernel_rfl) (by decide) rfl rfl (by exact ⟨by decide, rfl, rfl, trivial⟩) rfl) trivial ?_
         refine s_call (args := [.ref _ _ _ _, .ref _ _ _ _]) [75, 77] (by intro k hk; simp [keysOf, Go.Pv.keyOf] at hk; try (first | (subst hk; simp; done) | (rcases hk with rfl | rfl <;> simp; done))) rfl rfl rfl rfl (.cons (inn_ref (rows := [encQ (dN (heW g r l))]) ((hset_ne (key_ne rfl)).trans (hset_self _ _ _)) (by simp) rfl (row_pure _)) (.cons (inn_ref (rows := [encQ (dN none)]) (hset_self _ _ _) (by simp) rfl (row_pure _)) .nil)) (SameDemandsC _ _ [dN (heW g r l)] [dN none] (good_1 _ rfl) (good_1 _ rfl)) ?_
         refine s_e rfl (e_pickT (v := .sc _) rfl rfl) ?_
         refine s_e rfl (e_assign (v := .sc _) rfl) ?_
         refine s_end (ds := [60, 61, 62, 65, 66, 67, 70, 71, 74, 75, 76, 77, 78]) (by kernel_rfl) (by kernel_rfl) (hK39 _ ?_); clear hK39 K39
         refine pwp_ret ?_
         refine ret_seq ?_
         refine end1 (v := .sc _) rfl ?_
         first
           | exact out_b rfl
           | exact out_b (one_e0 (by assumption))
           | exact out_b (one_eq _ _ (heW_0 haz))
           | (exfalso; omega)
           | (exfalso; rw [dmX_e (by assumption)] at *; simp_all; done)
           | (exfalso; rw [heB_e (by assumption)] at *; simp_all; done)
           | exact absurd dm_same (by simp_all)
           | (exfalso; rw [heB_0 haz] at *; simp_all; done)
           | (exfalso; simp_all [dm_same]; done)
        ·have hb43R := hb43; try simp only [zz] at hb43
         refine s_skip rfl rfl rfl ?_
         refine s_skip rfl rfl rfl ?_
         refine s_skip rfl rfl rfl ?_
         refine s_skip rfl rfl rfl ?_
         refine s_nocall (args := [.dead, .dead]) [] (by intro k hk; simp [keysOf, Go.Pv.keyOf] at hk) rfl rfl rfl ?_
         refine s_e rfl (e_pickF (v := .sc _) rfl rfl) ?_
         refine s_e rfl (e_assign (v := .sc _) rfl) ?_
         refine s_end (ds := [60, 61, 62, 65, 66, 67, 70, 71, 74, 75, 76, 77, 78]) (by kernel_rfl) (by kernel_rfl) (hK39 _ ?_); clear hK39 K39
         refine pwp_ret ?_
         refine ret_seq ?_
         refine end1 (v := .sc _) rfl ?_
         first
           | exact out_b rfl
           | exact out_b (one_e0 (by assumption))
           | exact out_b (one_eq _ _ (heW_0 haz))
           | (exfalso; omega)
           | (exfalso; rw [dmX_e (by assumption)] at *; simp_all; done)
           | (exfalso; rw [heB_e (by assumption)] at *; simp_all; done)
           | exact absurd dm_same (by simp_all)
           | (exfalso; rw [heB_0 haz] at *; simp_all; done)
           | (exfalso; simp_all [dm_same]; done)
       ·have hb42R := hb42; try simp only [zz] at hb42
        refine s_skip rfl rfl rfl ?_
        refine s_skip rfl rfl rfl ?_
        refine s_e rfl (e_pickF (v := .sc _) rfl rfl) ?_
        refine s_e rfl (e_move (v := .sc _) rfl) ?_
        refine s_skip rfl rfl rfl ?_
        refine s_skip rfl rfl rfl ?_
        refine s_skip rfl rfl rfl ?_
        refine s_skip rfl rfl rfl ?_
        refine s_nocall (args := [.dead, .dead]) [] (by intro k hk; simp [keysOf, Go.Pv.keyOf] at hk) rfl rfl rfl ?_
        refine s_e rfl (e_pickF (v := .sc _) rfl rfl) ?_
        refine s_e rfl (e_assign (v := .sc _) rfl) ?_
        refine s_end (ds := [60, 61, 62, 65, 66, 67, 70, 71, 74, 75, 76, 77, 78]) (by kernel_rfl) (by kernel_rfl) (hK39 _ ?_); clear hK39 K39
        refine pwp_ret ?_
        refine ret_seq ?_
        refine end1 (v := .sc _) rfl ?_
        first
          | exact out_b rfl
          | exact out_b (one_e0 (by assumption))
          | exact out_b (one_eq _ _ (heW_0 haz))
          | (exfalso; omega)
          | (exfalso; rw [dmX_e (by assumption)] at *; simp_all; done)
          | (exfalso; rw [heB_e (by assumption)] at *; simp_all; done)
          | exact absurd dm_same (by simp_all)
          | (exfalso; rw [heB_0 haz] at *; simp_all; done)
          | (exfalso; simp_all [dm_same]; done)
      ·have hb41R := hb41; try simp only [zz] at hb41
       refine s_skip rfl rfl rfl ?_
       refine s_skip rfl rfl rfl ?_
       refine s_skip rfl rfl rfl ?_
       refine s_e rfl (e_pickF (v := .sc _) rfl rfl) ?_
       refine s_e rfl (e_move (v := .sc _) rfl) ?_
       refine s_skip rfl rfl rfl ?_
       refine s_skip rfl rfl rfl ?_
       refine s_e rfl (e_pickF (v := .sc _) rfl rfl) ?_
       refine s_e rfl (e_move (v := .sc _) rfl) ?_
       refine s_skip rfl rfl rfl ?_
       refine s_skip rfl rfl rfl ?_
       refine s_skip rfl rfl rfl ?_
       refine s_skip rfl rfl rfl ?_
       refine s_nocall (args := [.dead, .dead]) [] (by intro k hk; simp [keysOf, Go.Pv.keyOf] at hk) rfl rfl rfl ?_
       refine s_e rfl (e_pickF (v := .sc _) rfl rfl) ?_
       refine s_e rfl (e_assign (v := .sc _) rfl) ?_
       refine s_end (ds := [60, 61, 62, 65, 66, 67, 70, 71, 74, 75, 76, 77, 78]) (by kernel_rfl) (by kernel_rfl) (hK39 _ ?_); clear hK39 K39
       refine pwp_ret ?_
       refine ret_seq ?_
       refine end1 (v := .sc _) rfl ?_
       first
         | exact out_b rfl
         | exact out_b (one_e0 (by assumption))
         | exact out_b (one_eq _ _ (heW_0 haz))
         | (exfalso; omega)
         | (exfalso; rw [dmX_e (by assumption)] at *; simp_all; done)
         | (exfalso; rw [heB_e (by assumption)] at *; simp_all; done)
         | exact absurd dm_same (by simp_all)
         | (exfalso; rw [heB_0 haz] at *; simp_all; done)
         | (exfalso; simp_all [dm_same]; done)
     ·have hb40R := hb40; try simp only [zz] at hb40
      refine s_skip rfl rfl rfl ?_
      refine s_skip rfl rfl rfl ?_
      refine s_skip rfl rfl rfl ?_
      refine s_e rfl (e_pickF (v := .sc _) rfl rfl) ?_
      refine s_e rfl (e_move (v := .sc _) rfl) ?_
      refine s_skip rfl rfl rfl ?_
      refine s_skip rfl rfl rfl ?_
      refine s_skip rfl rfl rfl ?_
      refine s_e rfl (e_pickF (v := .sc _) rfl rfl) ?_
      refine s_e rfl (e_move (v := .sc _) rfl) ?_
      refine s_skip rfl rfl rfl ?_
      refine s_skip rfl rfl rfl ?_
      refine s_e rfl (e_pickF (v := .sc _) rfl rfl) ?_
      refine s_e rfl (e_move (v := .sc _) rfl) ?_
      refine s_skip rfl rfl rfl ?_
      refine s_skip rfl rfl rfl ?_
      refine s_skip rfl rfl rfl ?_
      refine s_skip rfl rfl rfl ?_
      refine s_nocall (args := [.dead, .dead]) [] (by intro k hk; simp [keysOf, Go.Pv.keyOf] at hk) rfl rfl rfl ?_
      refine s_e rfl (e_pickF (v := .sc _) rfl rfl) ?_
      refine s_e rfl (e_assign (v := .sc _) rfl) ?_
      refine s_end (ds := [60, 61, 62, 65, 66, 67, 70, 71, 74, 75, 76, 77, 78]) (by kernel_rfl) (by kernel_rfl) (hK39 _ ?_); clear hK39 K39
      refine pwp_ret ?_
      refine ret_seq ?_
      refine end1 (v := .sc _) rfl ?_
      first
        | exact out_b rfl
        | exact out_b (one_e0 (by assumption))
        | exact out_b (one_eq _ _ (heW_0 haz))
        | (exfalso; omega)
        | (exfalso; rw [dmX_e (by assumption)] at *; simp_all; done)
        | (exfalso; rw [heB_e (by assumption)] at *; simp_all; done)
        | exact absurd dm_same (by simp_all)
        | (exfalso; rw [heB_0 haz] at *; simp_all; done)
        | (exfalso; simp_all [dm_same]; done)
    ·have hb38R := hb38; try simp only [zz] at hb38
     refine pwp_skip ?_
     refine seq_norm (hK37 _ ?_); clear hK37 K37
     have haz : allE g r l = 0 := by omega
     refine pwp_seq_plain rfl fun K44 hK44 => ?_
     refine p_e rfl (e_loadHA (cs := Grid.enc (g)) (n := 3) rfl ((hset_ne (key_ne rfl)).trans ((hset_ne (key_ne rfl)).trans ((hset_ne (key_ne rfl)).trans (hset_self _ _ _)))) (by kernel_rfl) (by kernel_rfl) (by kernel_rfl) (by exact Nat.zero_lt_one) (by decide) rfl) ?_
     refine p_e rfl (e_loadHA (cs := Rule.enc (r)) (n := 5) rfl ((hset_ne (key_ne rfl)).trans ((hset_ne (key_ne rfl)).trans (hset_self _ _ _))) (by kernel_rfl) (by kernel_rfl) (by kernel_rfl) (by exact Nat.zero_lt_one) (by decide) rfl) ?_
     refine p_e rfl (e_move (v := .lit _ _ _) rfl) ?_
     refine p_call rfl (.cons (inn_agg (Grid.pure _)) (.cons (inn_agg (Rule.pure _)) (.cons inn_lit .nil))) (refHeldC g r l (by omega) haz) ?_
     refine p_e rfl (e_move (v := .tup _) rfl) ?_
     refine p_e rfl (e_ext (v := .sc _) rfl (by simp) rfl) ?_
     refine p_e rfl (e_ext (v := .agg _) rfl (by simp) rfl) ?_
     refine p_new rfl (e_alloc (cs := [.int 0, .int 0, .nil]) (n := 3) (by kernel_rfl) rfl (by decide)) (ob_alloc (by decide)) ?_
     refine p_aS rfl ?_
     refine p_store rfl (e_storeA rfl (hset_self _ _ _) rfl rfl rfl (by kernel_rfl) (by show (true && (true && ((plQ _).cell && true))) = true; rw [plQ_cell]; rfl) (by kernel_rfl)) trivial ?_
     refine p_end (hK44 _ ?_); clear hK44 K44
     have haz : allE g r l = 0 := by omega
     refine pwp_seq_gops rfl fun K45 hK45 => ?_
     refine s_begin ?_
     refine s_e rfl (e_move (v := .sc _) rfl) ?_
     refine s_e rfl (e_eq rfl rfl) ?_
     refine s_e rfl (e_move (v := .sc _) rfl) ?_
     refine s_cases (fun hb46 => ?_) (fun hb46 => ?_)
     ·have hb46R := hb46; try simp only [zz] at hb46
      refine s_e rfl (e_move (v := .sc _) rfl) ?_
      refine s_e rfl (e_eq rfl rfl) ?_
      refine s_e rfl (e_pickT (v := .sc _) rfl rfl) ?_
      refine s_e rfl (e_move (v := .sc _) rfl) ?_
      refine s_cases (fun hb47 => ?_) (fun hb47 => ?_)
      ·have hb47R := hb47; try simp only [zz] at hb47
       refine s_e rfl (e_move (v := .lit _ _ _) rfl) ?_
       refine s_step [3] (by simp) rfl rfl rfl rfl (e_loadHA (cs := Grid.enc (g)) (n := 3) rfl ((hset_ne (key_ne rfl)).trans ((hset_ne (key_ne rfl)).trans ((hset_ne (key_ne rfl)).trans ((hset_ne (key_ne rfl)).trans ((hset_ne (key_ne rfl)).trans (hset_self _ _ _)))))) (by kernel_rfl) (by kernel_rfl) (by kernel_rfl) (by exact Nat.zero_lt_one) (by decide) rfl) trivial ?_
       refine s_step [4] (by simp) rfl rfl rfl rfl (e_loadHA (cs := Rule.enc (r)) (n := 5) rfl ((hset_ne (key_ne rfl)).trans ((hset_ne (key_ne rfl)).trans ((hset_ne (key_ne rfl)).trans ((hset_ne (key_ne rfl)).trans (hset_self _ _ _))))) (by kernel_rfl) (by kernel_rfl) (by kernel_rfl) (by exact Nat.zero_lt_one) (by decide) rfl) trivial ?_
       refine s_e rfl (e_move (v := .lit _ _ _) rfl) ?_
       refine s_call (args := [.agg _, .agg _, .lit _ _ _]) [] (by intro k hk; simp [keysOf, Go.Pv.keyOf, Grid.enc, Rule.enc] at hk; try (first | (subst hk; simp; done) | (rcases hk with rfl | rfl <;> simp; done))) rfl rfl rfl rfl (.cons (inn_agg (Grid.pure _)) (.cons (inn_agg (Rule.pure _)) (.cons inn_lit .nil))) (refDemandsC g r l (by omega) haz) ?_
       refine s_call (args := [.lit _ _ _, .lit _ _ _]) [] (by intro k hk; simp [keysOf, Go.Pv.keyOf] at hk; try (first | (subst hk; simp; done) | (rcases hk with rfl | rfl <;> simp; done))) rfl rfl rfl rfl (.cons inn_lit (.cons inn_lit .nil)) (SameDemandsC _ _ ((dmX g r l).map dF) ((dmX g r l).map dF) (good_dm (by omega)) (good_dm (by omega))) ?_
       refine s_e rfl (e_pickT (v := .sc _) rfl rfl) ?_
       refine s_e rfl (e_move (v := .sc _) rfl) ?_
       refine s_cases (fun hb48 => ?_) (fun hb48 => ?_)
       ·have hb48R := hb48; try simp only [zz] at hb48
        refine s_e rfl (e_move (v := .sc _) rfl) ?_
        refine s_e rfl (e_move (v := .sc _) rfl) ?_
        refine s_e rfl (e_beq rfl rfl (by kernel_rfl)) ?_
        refine s_e rfl (e_pickT (v := .sc _) rfl rfl) ?_
        refine s_e rfl (e_move (v := .sc _) rfl) ?_
        refine s_cases (fun hb49 => ?_) (fun hb49 => ?_)
        ·have hb49R := hb49; try simp only [zz] at hb49
         refine s_step [10] (by simp) rfl rfl rfl rfl (e_loadHA (n := 3) rfl ((hset_ne (key_ne rfl)).trans ((hset_ne (key_ne rfl)).trans (hset_self _ _ _))) (by kernel_rfl) (by kernel_rfl) (by kernel_rfl) (by exact Nat.zero_lt_one) (by decide) rfl) trivial ?_
         refine s_new [] (by simp) rfl rfl rfl rfl (e_bslice (rows := [encQ (dN (heW g r l))]) (zs := [.int 0, .int 0, .nil]) (sz := 3) (by kernel_rfl) (by kernel_rfl) rfl (by kernel_rfl) (by decide) rfl rfl (by exact ⟨by decide, rfl, rfl, trivial⟩) rfl) trivial ?_
         refine s_step [14] (by simp) rfl rfl rfl rfl (e_loadHA (n := 3) rfl ((hset_ne (key_ne rfl)).trans (hset_self _ _ _)) (by kernel_rfl) (by kernel_rfl) (by kernel_rfl) (by exact Nat.zero_lt_one) (by decide) rfl) trivial ?_
         refine s_new [] (by simp) rfl rfl rfl rfl (e_bslice (rows := [encQ (dW (hdW g r l))]) (zs := [.int 0, .int 0, .nil]) (sz := 3) (by kernel_rfl) (by kernel_rfl) rfl (by kernel_rfl) (by decide) rfl rfl (by exact ⟨by decide, rfl, (by show (true && (true && ((plQ _).cell && true))) = true; rw [plQ_cell]; rfl), trivial⟩) rfl) trivial ?_
         refine s_call (args := [.ref _ _ _ _, .ref _ _ _ _]) [108, 110] (by intro k hk; simp [keysOf, Go.Pv.keyOf] at hk; try (first | (subst hk; simp; done) | (rcases hk with rfl | rfl <;> simp; done))) rfl rfl rfl rfl (.cons (inn_ref (rows := [encQ (dN (heW g r l))]) ((hset_ne (key_ne rfl)).trans (hset_self _ _ _)) (by simp) rfl (row_pure _)) (.cons (inn_ref (rows := [encQ (dW (hdW g r l))]) (hset_self _ _ _) (by simp) rfl (row_pure _)) .nil)) (SameDemandsC _ _ [dN (heW g r l)] [dW (hdW g r l)] (good_1 _ rfl) (good_1 _ rfl)) ?_
         refine s_e rfl (e_pickT (v := .sc _) rfl rfl) ?_
         refine s_e rfl (e_assign (v := .sc _) rfl) ?_
         refine s_end (ds := [90, 91, 94, 95, 96, 97, 98, 99, 102, 103, 104, 107, 108, 109, 110, 111]) (by kernel_rfl) (by kernel_rfl) (hK45 _ ?_); clear hK45 K45
         refine pwp_ret ?_
         refine end1 (v := .sc _) rfl ?_
         first
           | exact out_b rfl
           | exact out_b (one_e0 (by assumption))
           | exact out_b (one_eq _ _ (heW_0 haz))
           | (exfalso; omega)
           | (exfalso; rw [dmX_e (by assumption)] at *; simp_all; done)
           | (exfalso; rw [heB_e (by assumption)] at *; simp_all; done)
           | exact absurd dm_same (by simp_all)
           | (exfalso; rw [heB_0 haz] at *; simp_all; done)
           | (exfalso; simp_all [dm_same]; done)
        ·have hb49R := hb49; try simp only [zz] at hb49
         refine s_skip rfl rfl rfl ?_
         refine s_skip rfl rfl rfl ?_
         refine s_skip rfl rfl rfl ?_
         refine s_skip rfl rfl rfl ?_
         refine s_nocall (args := [.dead, .dead]) [] (by intro k hk; simp [keysOf, Go.Pv.keyOf] at hk) rfl rfl rfl ?_
         refine s_e rfl (e_pickF (v := .sc _) rfl rfl) ?_
         refine s_e rfl (e_assign (v := .sc _) rfl) ?_
         refine s_end (ds := [90, 91, 94, 95, 96, 97, 98, 99, 102, 103, 104, 107, 108, 109, 110, 111]) (by kernel_rfl) (by kernel_rfl) (hK45 _ ?_); clear hK45 K45
         refine pwp_ret ?_
         refine end1 (v := .sc _) rfl ?_
         first
           | exact out_b rfl
           | exact out_b (one_e0 (by assumption))
           | exact out_b (one_eq _ _ (heW_0 haz))
           | (exfalso; omega)
           | (exfalso; rw [dmX_e (by assumption)] at *; simp_all; done)
           | (exfalso; rw [heB_e (by assumption)] at *; simp_all; done)
           | exact absurd dm_same (by simp_all)
           | (exfalso; rw [heB_0 haz] at *; simp_all; done)
           | (exfalso; simp_all [dm_same]; done)
       ·have hb48R := hb48; try simp only [zz] at hb48
        refine s_skip rfl rfl rfl ?_
        refine s_skip rfl rfl rfl ?_
        refine s_skip rfl rfl rfl ?_
        refine s_e rfl (e_pickF (v := .sc _) rfl rfl) ?_
        refine s_e rfl (e_move (v := .sc _) rfl) ?_
        refine s_skip rfl rfl rfl ?_
        refine s_skip rfl rfl rfl ?_
        refine s_skip rfl rfl rfl ?_
        refine s_skip rfl rfl rfl ?_
        refine s_nocall (args := [.dead, .dead]) [] (by intro k hk; simp [keysOf, Go.Pv.keyOf] at hk) rfl rfl rfl ?_
        refine s_e rfl (e_pickF (v := .sc _) rfl rfl) ?_
        refine s_e rfl (e_assign (v := .sc _) rfl) ?_
        refine s_end (ds := [90, 91, 94, 95, 96, 97, 98, 99, 102, 103, 104, 107, 108, 109, 110, 111]) (by kernel_rfl) (by kernel_rfl) (hK45 _ ?_); clear hK45 K45
        refine pwp_ret ?_
        refine end1 (v := .sc _) rfl ?_
        first
          | exact out_b rfl
          | exact out_b (one_e0 (by assumption))
          | exact out_b (one_eq _ _ (heW_0 haz))
          | (exfalso; omega)
          | (exfalso; rw [dmX_e (by assumption)] at *; simp_all; done)
          | (exfalso; rw [heB_e (by assumption)] at *; simp_all; done)
          | exact absurd dm_same (by simp_all)
          | (exfalso; rw [heB_0 haz] at *; simp_all; done)
          | (exfalso; simp_all [dm_same]; done)
      ·have hb47R := hb47; try simp only [zz] at hb47
       refine s_skip rfl rfl rfl ?_
       refine s_skip rfl rfl rfl ?_
       refine s_skip rfl rfl rfl ?_
       refine s_skip rfl rfl rfl ?_
       refine s_nocall (args := [.dead, .dead, .dead]) [] (by intro k hk; simp [keysOf, Go.Pv.keyOf] at hk) rfl rfl rfl ?_
       refine s_nocall (args := [.dead, .dead]) [] (by intro k hk; simp [keysOf, Go.Pv.keyOf] at hk) rfl rfl rfl ?_
       refine s_e rfl (e_pickF (v := .sc _) rfl rfl) ?_
       refine s_e rfl (e_move (v := .sc _) rfl) ?_
       refine s_skip rfl rfl rfl ?_
       refine s_skip rfl rfl rfl ?_
       refine s_skip rfl rfl rfl ?_
       refine s_e rfl (e_pickF (v := .sc _) rfl rfl) ?_
       refine s_e rfl (e_move (v := .sc _) rfl) ?_
       refine s_skip rfl rfl rfl ?_
       refine s_skip rfl rfl rfl ?_
       refine s_skip rfl rfl rfl ?_
       refine s_skip rfl rfl rfl ?_
       refine s_nocall (args := [.dead, .dead]) [] (by intro k hk; simp [keysOf, Go.Pv.keyOf] at hk) rfl rfl rfl ?_
       refine s_e rfl (e_pickF (v := .sc _) rfl rfl) ?_
       refine s_e rfl (e_assign (v := .sc _) rfl) ?_
       refine s_end (ds := [90, 91, 94, 95, 96, 97, 98, 99, 102, 103, 104, 107, 108, 109, 110, 111]) (by kernel_rfl) (by kernel_rfl) (hK45 _ ?_); clear hK45 K45
       refine pwp_ret ?_
       refine end1 (v := .sc _) rfl ?_
       first
         | exact out_b rfl
         | exact out_b (one_e0 (by assumption))
         | exact out_b (one_eq _ _ (heW_0 haz))
         | (exfalso; omega)
         | (exfalso; rw [dmX_e (by assumption)] at *; simp_all; done)
         | (exfalso; rw [heB_e (by assumption)] at *; simp_all; done)
         | exact absurd dm_same (by simp_all)
         | (exfalso; rw [heB_0 haz] at *; simp_all; done)
         | (exfalso; simp_all [dm_same]; done)
     ·have hb46R := hb46; try simp only [zz] at hb46
      refine s_skip rfl rfl rfl ?_
      refine s_skip rfl rfl rfl ?_
      refine s_e rfl (e_pickF (v := .sc _) rfl rfl) ?_
      refine s_e rfl (e_move (v := .sc _) rfl) ?_
      refine s_skip rfl rfl rfl ?_
      refine s_skip rfl rfl rfl ?_
      refine s_skip rfl rfl rfl ?_
      refine s_skip rfl rfl rfl ?_
      refine s_nocall (args := [.dead, .dead, .dead]) [] (by intro k hk; simp [keysOf, Go.Pv.keyOf] at hk) rfl rfl rfl ?_
      refine s_nocall (args := [.dead, .dead]) [] (by intro k hk; simp [keysOf, Go.Pv.keyOf] at hk) rfl rfl rfl ?_
      refine s_e rfl (e_pickF (v := .sc _) rfl rfl) ?_
      refine s_e rfl (e_move (v := .sc _) rfl) ?_
      refine s_skip rfl rfl rfl ?_
      refine s_skip rfl rfl rfl ?_
      refine s_skip rfl rfl rfl ?_
      refine s_e rfl (e_pickF (v := .sc _) rfl rfl) ?_
      refine s_e rfl (e_move (v := .sc _) rfl) ?_
      refine s_skip rfl rfl rfl ?_
      refine s_skip rfl rfl rfl ?_
      refine s_skip rfl rfl rfl ?_
      refine s_skip rfl rfl rfl ?_
      refine s_nocall (args := [.dead, .dead]) [] (by intro k hk; simp [keysOf, Go.Pv.keyOf] at hk) rfl rfl rfl ?_
      refine s_e rfl (e_pickF (v := .sc _) rfl rfl) ?_
      refine s_e rfl (e_assign (v := .sc _) rfl) ?_
      refine s_end (ds := [90, 91, 94, 95, 96, 97, 98, 99, 102, 103, 104, 107, 108, 109, 110, 111]) (by kernel_rfl) (by kernel_rfl) (hK45 _ ?_); clear hK45 K45
      refine pwp_ret ?_
      refine end1 (v := .sc _) rfl ?_
      first
        | exact out_b rfl
        | exact out_b (one_e0 (by assumption))
        | exact out_b (one_eq _ _ (heW_0 haz))
        | (exfalso; omega)
        | (exfalso; rw [dmX_e (by assumption)] at *; simp_all; done)
        | (exfalso; rw [heB_e (by assumption)] at *; simp_all; done)
        | exact absurd dm_same (by simp_all)
        | (exfalso; rw [heB_0 haz] at *; simp_all; done)
        | (exfalso; simp_all [dm_same]; done)

end Go.Proofs.YtindehoegfiiaaaGreatDoor
