import Derived.Test.YtmlhhdiomijpfaaGreatDoorEPr
set_option linter.unusedSimpArgs false
set_option linter.unusedVariables false
set_option maxRecDepth 100000
namespace Go.Proofs.YtmlhhdiomijpfaaGreatDoor.E7
open Go Go.Pv Go.Proofs.YtmlhhdiomijpfaaGreatDoor
theorem task_eq {x y : Task} (h1 : x.name = y.name) (h2 : x.trade = y.trade) (h3 : x.member = y.member) (h4 : x.place = y.place) (h5 : x.minutes = y.minutes) (h6 : x.needs = y.needs) : x = y := by
 cases x; cases y; simp_all
theorem same_no {xs ys : List Task} {k : Nat} {x y : Task} (hx : xs[k]? = some x) (hy : ys[k]? = some y) (h : x ≠ y) : ¬ xs = ys := fun e => h (by
 rw [e, hy] at hx; exact (Option.some.inj hx).symm)
theorem same_yes {xs ys : List Task} {k : Nat} (hl : xs.length = ys.length) (h : xs.take k = ys.take k) (hk : xs.length ≤ k) : xs = ys := by
 rw [List.take_of_length_le hk, List.take_of_length_le (by omega)] at h; exact h
theorem fr16 : (inFrame Tryz.f16.ntmps (Tryz.f16.body.getD .skip) && Tryz.f16.results.toList.all (resScope Tryz.f16.ntmps)) = true := by kernel_rfl
theorem SameTasksC (xs ys : List Task) (hl : xs.length ≤ 1000) (hn : ∀ x ∈ xs, x.needs.length ≤ 1000000) : PCalls Tryz.prog 16 [.lit true 6 (xs.map Task.enc), .lit true 6 (ys.map Task.enc)] (.bool (decide (xs = ys))) := by
 refine PCalls.of_code Tryz.func16 rfl rfl (by kernel_rfl) mixed fr16 (by show _ ≤ 68; simp) (.sc _) (pwp_seq_plain rfl fun K1 hK1 => p_aS rfl (p_end (hK1 _ ?_))); clear hK1 K1;refine pwp_seq_seq (pwp_seq_plain rfl fun K2 hK2 => p_e rfl (e_move (v := .lit _ _ _) rfl) (p_e rfl (e_len rfl (by kernel_rfl)) (p_e rfl (e_move (v := .lit _ _ _) rfl) (p_e rfl (e_len rfl (by kernel_rfl)) (p_e rfl (e_ne rfl rfl) (p_end (hK2 _ ?_))))))); clear hK2 K2;refine pwp_seq_cond rfl fun K3 hK3 => ⟨fun hb4 => ?_, fun hb4 => ?_⟩
 ·have hb4R := hb4; try simp only [zz] at hb4
  refine pwp_seq_plain rfl fun K5 hK5 => p_aS rfl (p_end (hK5 _ ?_)); clear hK5 K5;refine pwp_ret (ret_seq (end1 (v := .sc _) rfl ?_))
  first
    | exact out_b (decide_eq_false (by first | (intro hc; subst hc; omega) | exact same_no hx hy (fun e => by subst e; first | exact absurd rfl (by assumption) | (simp at *; done) | fail))).symm
    | exact out_b (decide_eq_true (same_yes (by omega) he (by omega))).symm
 ·have hb4R := hb4; try simp only [zz] at hb4
  refine pwp_skip (seq_norm (hK3 _ ?_)); clear hK3 K3;refine pwp_seq_seq (pwp_seq_plain rfl fun K6 hK6 => p_aS rfl (p_end (hK6 _ ?_))); clear hK6 K6;refine pwp_seq_block fun K7 hK7 => pwp_loopR (α := Nat) [0, 1] (fun (k : Nat) => [(5, .int (k))]) (fun (k : Nat) (h : Heap) (_ : Nat → Nat) => ((k) ≤ xs.length) ∧ (xs.take (k) = ys.take (k))) (fun (k : Nat) => xs.length - (k)) (0) (by exact ⟨rfl, trivial⟩) (by exact ⟨by exact Nat.zero_le _, by exact rfl⟩) fun k r8 h9 c10 hj11 => ?_;obtain ⟨hk, he⟩ := hj11;try dsimp only at hk
  try dsimp only at he
  show pwp _ _ (loopQ _ _ _) ⟨sets (mix _ _ _) [(5, .int k)], _, _⟩;refine pwp_seq_seq (pwp_seq_plain rfl fun K12 hK12 => p_mS rfl (p_e rfl (e_move (v := .lit _ _ _) rfl) (p_e rfl (e_len rfl (by kernel_rfl)) (p_e rfl (e_lt rfl rfl) (p_end (hK12 _ ?_)))))); clear hK12 K12;refine pwp_seq_cond rfl fun K13 hK13 => ⟨fun hb14 => ?_, fun hb14 => ?_⟩
  ·have hb14R := hb14; try simp only [zz] at hb14
   obtain ⟨x, hx, hd, ht⟩ := get_lt (xs := xs) (i := k) (by omega);obtain ⟨y, hy, hdy, hty⟩ := get_lt (xs := ys) (i := k) (by omega);have hxl := hn x (List.mem_of_getElem? hx);refine pwp_skip (seq_norm (hK13 _ ?_)); clear hK13 K13;refine pwp_seq_block fun K15 hK15 => pwp_seq_gops rfl fun K16 hK16 => s_begin (s_e rfl (e_move (v := .lit _ _ _) rfl) (s_e rfl (e_move (v := .sc _) rfl) (s_e rfl (e_ixL rfl rfl) (s_e rfl (e_loadA (n := 6) rfl (by kernel_rfl) (by kernel_rfl) (by kernel_rfl) (by first | omega | (simp only [lM]; omega)) (by decide) (by first | exact agg_map hx rfl)) (s_e rfl (e_move (v := .lit _ _ _) rfl) ?_)))));refine s_e rfl (e_move (v := .sc _) rfl) (s_e rfl (e_ixL rfl rfl) (s_e rfl (e_loadA (n := 6) rfl (by kernel_rfl) (by kernel_rfl) (by kernel_rfl) (by first | omega | (simp only [lM]; omega)) (by decide) (by first | exact agg_map hy rfl)) (s_new [] (by simp) rfl rfl rfl rfl (e_alloc (cs := [.str ByteArray.empty, .str ByteArray.empty, .int 0, .int 0, .int 0, .nil]) (n := 6) (by kernel_rfl) rfl (by decide)) (ob_alloc (by decide)) (s_new [] (by simp) rfl rfl rfl rfl (e_alloc (cs := [.str ByteArray.empty, .str ByteArray.empty, .int 0, .int 0, .int 0, .nil]) (n := 6) (by kernel_rfl) rfl (by decide)) (ob_alloc (by decide)) (s_store [6] (by simp) rfl rfl (e_storeA rfl (hzM rfl (hset_self _ _ _)) rfl rfl rfl (by kernel_rfl) rfl (by kernel_rfl)) trivial (s_store [7] (by simp) rfl rfl (e_storeA rfl (hzM rfl (hset_self _ _ _)) rfl rfl rfl (by kernel_rfl) rfl (by kernel_rfl)) trivial (s_end (ds := []) (by kernel_rfl) (by kernel_rfl) (hK16 _ ?_)))))))); clear hK16 K16;refine pwp_seq_gops rfl fun K17 hK17 => g_begin (g_e rfl (e_faQ pl6 rfl) (g_e rfl (e_lH (v := .sc _) rfl (hzM rfl (hset_self _ _ _)) rfl) (g_e rfl (e_faQ pl6 rfl) (g_e rfl (e_lH (v := .sc _) rfl (hset_self _ _ _) rfl) (g_e rfl (e_sne rfl rfl) (g_mS rfl rfl ?_))))));refine g_cases (fun hb18 => ?_) (fun hb18 => ?_)
   ·have hb18R := hb18; try simp only [zz] at hb18
    iterate 5 refine g_skip rfl rfl rfl ?_
    refine g_pT rfl rfl rfl (g_mS rfl rfl ?_);iterate 5 refine g_skip rfl rfl rfl ?_
    refine g_pT rfl rfl rfl (g_mS rfl rfl ?_);iterate 5 refine g_skip rfl rfl rfl ?_
    refine g_pT rfl rfl rfl (g_mS rfl rfl ?_);iterate 5 refine g_skip rfl rfl rfl ?_
    refine g_pT rfl rfl rfl (g_mS rfl rfl ?_);iterate 4 refine g_skip rfl rfl rfl ?_
    refine g_nocall rfl rfl rfl (g_skip rfl rfl rfl (g_pT rfl rfl rfl (g_end (ds := [33, 34, 35, 36, 37, 40, 41, 42, 43, 44, 47, 48, 49, 50, 51, 54, 55, 56, 57, 58, 61, 62, 63, 64, 65, 66]) rfl rfl (hK17 _ ?_)))); clear hK17 K17;refine pwp_cond (t := true) rfl (fun _ => ?_) nofun;refine pwp_seq_plain rfl fun K19 hK19 => p_aS rfl (p_end (hK19 _ ?_)); clear hK19 K19;refine pwp_ret (ret_block (ret_seq (ret_loop (ret_block (ret_seq (end1 (v := .sc _) rfl ?_))))))
    first
      | exact out_b (decide_eq_false (by first | (intro hc; subst hc; omega) | exact same_no hx hy (fun e => by subst e; first | exact absurd rfl (by assumption) | (simp at *; done) | fail))).symm
      | exact out_b (decide_eq_true (same_yes (by omega) he (by omega))).symm
   ·have hb18R := hb18; try simp only [zz] at hb18
    refine g_e rfl (e_faQ pl6 rfl) (g_e rfl (e_lH (v := .sc _) rfl (hzM rfl (hset_self _ _ _)) rfl) (g_e rfl (e_faQ pl6 rfl) (g_e rfl (e_lH (v := .sc _) rfl (hset_self _ _ _) rfl) (g_e rfl (e_sne rfl rfl) (g_pF rfl rfl rfl (g_mS rfl rfl ?_))))));refine g_cases (fun hb20 => ?_) (fun hb20 => ?_)
    ·have hb20R := hb20; try simp only [zz] at hb20
     iterate 5 refine g_skip rfl rfl rfl ?_
     refine g_pT rfl rfl rfl (g_mS rfl rfl ?_);iterate 5 refine g_skip rfl rfl rfl ?_
     refine g_pT rfl rfl rfl (g_mS rfl rfl ?_);iterate 5 refine g_skip rfl rfl rfl ?_
     refine g_pT rfl rfl rfl (g_mS rfl rfl ?_);iterate 4 refine g_skip rfl rfl rfl ?_
     refine g_nocall rfl rfl rfl (g_skip rfl rfl rfl (g_pT rfl rfl rfl (g_end (ds := [33, 34, 35, 36, 37, 40, 41, 42, 43, 44, 47, 48, 49, 50, 51, 54, 55, 56, 57, 58, 61, 62, 63, 64, 65, 66]) rfl rfl (hK17 _ ?_)))); clear hK17 K17;refine pwp_cond (t := true) rfl (fun _ => ?_) nofun;refine pwp_seq_plain rfl fun K21 hK21 => p_aS rfl (p_end (hK21 _ ?_)); clear hK21 K21;refine pwp_ret (ret_block (ret_seq (ret_loop (ret_block (ret_seq (end1 (v := .sc _) rfl ?_))))))
     first
       | exact out_b (decide_eq_false (by first | (intro hc; subst hc; omega) | exact same_no hx hy (fun e => by subst e; first | exact absurd rfl (by assumption) | (simp at *; done) | fail))).symm
       | exact out_b (decide_eq_true (same_yes (by omega) he (by omega))).symm
    ·have hb20R := hb20; try simp only [zz] at hb20
     refine g_e rfl (e_faQ pl6 rfl) (g_e rfl (e_lH (v := .sc _) rfl (hzM rfl (hset_self _ _ _)) rfl) (g_e rfl (e_faQ pl6 rfl) (g_e rfl (e_lH (v := .sc _) rfl (hset_self _ _ _) rfl) (g_e rfl (e_ne rfl rfl) (g_pF rfl rfl rfl (g_mS rfl rfl ?_))))));refine g_cases (fun hb22 => ?_) (fun hb22 => ?_)
     ·have hb22R := hb22; try simp only [zz] at hb22
      iterate 5 refine g_skip rfl rfl rfl ?_
      refine g_pT rfl rfl rfl (g_mS rfl rfl ?_);iterate 5 refine g_skip rfl rfl rfl ?_
      refine g_pT rfl rfl rfl (g_mS rfl rfl ?_);iterate 4 refine g_skip rfl rfl rfl ?_
      refine g_nocall rfl rfl rfl (g_skip rfl rfl rfl (g_pT rfl rfl rfl (g_end (ds := [33, 34, 35, 36, 37, 40, 41, 42, 43, 44, 47, 48, 49, 50, 51, 54, 55, 56, 57, 58, 61, 62, 63, 64, 65, 66]) rfl rfl (hK17 _ ?_)))); clear hK17 K17;refine pwp_cond (t := true) rfl (fun _ => ?_) nofun;refine pwp_seq_plain rfl fun K23 hK23 => p_aS rfl (p_end (hK23 _ ?_)); clear hK23 K23;refine pwp_ret (ret_block (ret_seq (ret_loop (ret_block (ret_seq (end1 (v := .sc _) rfl ?_))))))
      first
        | exact out_b (decide_eq_false (by first | (intro hc; subst hc; omega) | exact same_no hx hy (fun e => by subst e; first | exact absurd rfl (by assumption) | (simp at *; done) | fail))).symm
        | exact out_b (decide_eq_true (same_yes (by omega) he (by omega))).symm
     ·have hb22R := hb22; try simp only [zz] at hb22
      refine g_e rfl (e_faQ pl6 rfl) (g_e rfl (e_lH (v := .sc _) rfl (hzM rfl (hset_self _ _ _)) rfl) (g_e rfl (e_faQ pl6 rfl) (g_e rfl (e_lH (v := .sc _) rfl (hset_self _ _ _) rfl) (g_e rfl (e_ne rfl rfl) (g_pF rfl rfl rfl (g_mS rfl rfl ?_))))));refine g_cases (fun hb24 => ?_) (fun hb24 => ?_)
      ·have hb24R := hb24; try simp only [zz] at hb24
       iterate 5 refine g_skip rfl rfl rfl ?_
       refine g_pT rfl rfl rfl (g_mS rfl rfl ?_);iterate 4 refine g_skip rfl rfl rfl ?_
       refine g_nocall rfl rfl rfl (g_skip rfl rfl rfl (g_pT rfl rfl rfl (g_end (ds := [33, 34, 35, 36, 37, 40, 41, 42, 43, 44, 47, 48, 49, 50, 51, 54, 55, 56, 57, 58, 61, 62, 63, 64, 65, 66]) rfl rfl (hK17 _ ?_)))); clear hK17 K17;refine pwp_cond (t := true) rfl (fun _ => ?_) nofun;refine pwp_seq_plain rfl fun K25 hK25 => p_aS rfl (p_end (hK25 _ ?_)); clear hK25 K25;refine pwp_ret (ret_block (ret_seq (ret_loop (ret_block (ret_seq (end1 (v := .sc _) rfl ?_))))))
       first
         | exact out_b (decide_eq_false (by first | (intro hc; subst hc; omega) | exact same_no hx hy (fun e => by subst e; first | exact absurd rfl (by assumption) | (simp at *; done) | fail))).symm
         | exact out_b (decide_eq_true (same_yes (by omega) he (by omega))).symm
      ·have hb24R := hb24; try simp only [zz] at hb24
       refine g_e rfl (e_faQ pl6 rfl) (g_e rfl (e_lH (v := .sc _) rfl (hzM rfl (hset_self _ _ _)) rfl) (g_e rfl (e_faQ pl6 rfl) (g_e rfl (e_lH (v := .sc _) rfl (hset_self _ _ _) rfl) (g_e rfl (e_ne rfl rfl) (g_pF rfl rfl rfl (g_mS rfl rfl ?_))))));refine g_cases (fun hb26 => ?_) (fun hb26 => ?_)
       ·have hb26R := hb26; try simp only [zz] at hb26
        iterate 4 refine g_skip rfl rfl rfl ?_
        refine g_nocall rfl rfl rfl (g_skip rfl rfl rfl (g_pT rfl rfl rfl (g_end (ds := [33, 34, 35, 36, 37, 40, 41, 42, 43, 44, 47, 48, 49, 50, 51, 54, 55, 56, 57, 58, 61, 62, 63, 64, 65, 66]) rfl rfl (hK17 _ ?_)))); clear hK17 K17;refine pwp_cond (t := true) rfl (fun _ => ?_) nofun;refine pwp_seq_plain rfl fun K27 hK27 => p_aS rfl (p_end (hK27 _ ?_)); clear hK27 K27;refine pwp_ret (ret_block (ret_seq (ret_loop (ret_block (ret_seq (end1 (v := .sc _) rfl ?_))))))
        first
          | exact out_b (decide_eq_false (by first | (intro hc; subst hc; omega) | exact same_no hx hy (fun e => by subst e; first | exact absurd rfl (by assumption) | (simp at *; done) | fail))).symm
          | exact out_b (decide_eq_true (same_yes (by omega) he (by omega))).symm
       ·have hb26R := hb26; try simp only [zz] at hb26
        refine g_e rfl (e_faQ pl6 rfl) (g_e rfl (e_lH (v := .lit _ _ _) rfl (hzM rfl (hset_self _ _ _)) rfl) (g_e rfl (e_faQ pl6 rfl) (g_e rfl (e_lH (v := .lit _ _ _) rfl (hset_self _ _ _) rfl) (g_call rfl rfl rfl rfl (.cons inn_lit (.cons inn_lit .nil)) (IntsC _ _ (by omega)) (g_e rfl (e_not rfl) (g_pF rfl rfl rfl (g_end (ds := [33, 34, 35, 36, 37, 40, 41, 42, 43, 44, 47, 48, 49, 50, 51, 54, 55, 56, 57, 58, 61, 62, 63, 64, 65, 66]) rfl rfl (hK17 _ ?_)))))))); clear hK17 K17;refine pwp_cond rfl (fun hb28 => ?_) (fun hb28 => ?_)
        ·have hb28R := hb28; try simp only [zz] at hb28
         refine pwp_seq_plain rfl fun K29 hK29 => p_aS rfl (p_end (hK29 _ ?_)); clear hK29 K29;refine pwp_ret (ret_block (ret_seq (ret_loop (ret_block (ret_seq (end1 (v := .sc _) rfl ?_))))))
         first
           | exact out_b (decide_eq_false (by first | (intro hc; subst hc; omega) | exact same_no hx hy (fun e => by subst e; first | exact absurd rfl (by assumption) | (simp at *; done) | fail))).symm
           | exact out_b (decide_eq_true (same_yes (by omega) he (by omega))).symm
        ·have hb28R := hb28; try simp only [zz] at hb28
         refine pwp_skip (block_norm (seq_norm (hK15 _ ?_))); clear hK15 K15;refine pwp_plain rfl fun K30 hK30 => p_mS rfl (p_e rfl (e_adL rfl rfl) (p_aS rfl (p_end (hK30 _ ?_)))); clear hK30 K30;exact loop_again (k + 1) (by show _ < _; omega) ⟨rfl, rfl, trivial⟩ ⟨rfl, trivial⟩ (by exact ⟨by show _ + 1 ≤ _; omega, by (have e := task_eq (x := x) (y := y) (by first | assumption | exact of_decide_eq_true (by assumption) | (simp_all; done) | fail) (by first | assumption | exact of_decide_eq_true (by assumption) | (simp_all; done) | fail) (by first | assumption | exact of_decide_eq_true (by assumption) | (simp_all; done) | fail) (by first | assumption | exact of_decide_eq_true (by assumption) | (simp_all; done) | fail) (by first | assumption | exact of_decide_eq_true (by assumption) | (simp_all; done) | fail) (by first | assumption | exact of_decide_eq_true (by assumption) | (simp_all; done) | fail); rw [ht, hty, he, e])⟩)
  ·have hb14R := hb14; try simp only [zz] at hb14
   obtain rfl : k = xs.length := by simp only [lM] at *; omega
   refine pwp_exit (exit_seq ?_);clear hK13 K13;refine exit_loop (exit_here (seq_norm (hK7 _ ?_))); clear hK7 K7;refine pwp_seq_plain rfl fun K31 hK31 => p_aS rfl (p_end (hK31 _ ?_)); clear hK31 K31;refine pwp_ret (end1 (v := .sc _) rfl ?_)
   first
     | exact out_b (decide_eq_false (by first | (intro hc; subst hc; omega) | exact same_no hx hy (fun e => by subst e; first | exact absurd rfl (by assumption) | (simp at *; done) | fail))).symm
     | exact out_b (decide_eq_true (same_yes (by omega) he (by omega))).symm
end Go.Proofs.YtmlhhdiomijpfaaGreatDoor.E7
