import Derived.Test.YtmlhhdiomijpfaaGreatDoorEPri
import Derived.Test.YtmlhhdiomijpfaaGreatDoorESam
import Derived.Test.YtmlhhdiomijpfaaGreatDoorEAwk
set_option linter.unusedSimpArgs false
set_option linter.unusedVariables false
set_option maxRecDepth 100000
namespace Go.Proofs.YtmlhhdiomijpfaaGreatDoor
open Go Go.Pv Go.Tx
open E7
theorem few_fair {xs : List Task} {n : Int} (h : fewB xs n = true) : (xs.length : Int) ≤ n ∧ E7.Fair xs ∧ ∀ t ∈ xs, t.needs.length ≤ 30 := by
 simp only [fewB, decide_eq_true_eq] at h;exact ⟨h.1, fun x hx => by have := h.2 x hx; omega, fun x hx => (h.2 x hx).1⟩
theorem parT_ok : ∀ (ls : List ByteArray) (k : Nat) (ts : List Task), parT ls k = .ok ts → ts.length ≤ ls.length ∧ ∀ t ∈ ts, ∃ x ∈ ls, taskP x = some t
 | [], k, ts, h => by cases h; exact ⟨Nat.le_refl _, fun t ht => by cases ht⟩
 | [x], k, ts, h => by
   unfold parT at h;split at h
   · cases h; exact ⟨Nat.zero_le _, fun t ht => by cases ht⟩
   · cases h
 | x :: y :: r, k, ts, h => by
   unfold parT at h;split at h
   · cases h
   · rename_i t ht;split at h
     · cases h
     · rename_i us hus;cases h;obtain ⟨h1, h2⟩ := parT_ok (y :: r) (k + 1) us hus;refine ⟨by simp only [List.length_cons] at *; omega, fun u hu => ?_⟩;rcases List.mem_cons.1 hu with rfl | hu
       · exact ⟨x, List.mem_cons_self .., ht⟩
       · obtain ⟨z, hz, he⟩ := h2 u hu;exact ⟨z, List.mem_cons_of_mem _ hz, he⟩
theorem prs_few {s : ByteArray} (h0 : ¬ 60000 < s.size → LnOK s) (h1 : ¬ 60000 < s.size → (cutB 10 s).length ≤ 1000) : (prsX s).1.length ≤ 1000 ∧ E7.Fair (prsX s).1 := by
 unfold prsX;split
 · exact ⟨Nat.zero_le _, fair_nil⟩
 · rename_i hs;cases hp : parT (cutB 10 s) 0 with
   | error n => exact ⟨Nat.zero_le _, fair_nil⟩
   | ok ts =>
     dsimp only;split
     · exact ⟨Nat.zero_le _, fair_nil⟩
     · obtain ⟨h2, h3⟩ := parT_ok _ _ _ hp;have h4 := h1 hs;refine ⟨by show ts.length ≤ 1000; omega, fun t ht => ?_⟩;obtain ⟨x, hx, he⟩ := h3 t ht;have h5 := tsk_fair (h0 hs x hx);unfold tskR at h5;rw [he] at h5;exact h5
theorem ln_small {s : ByteArray} (h : s.size ≤ 500 ∨ 60000 < s.size) : (¬ 60000 < s.size → LnOK s) ∧ (¬ 60000 < s.size → (cutB 10 s).length ≤ 1000) := by
 refine ⟨fun h1 x hx => ?_, fun h1 => ?_⟩
 · obtain ⟨i, hi⟩ := List.getElem?_of_mem hx;have := cutB_le hi;omega
 · have := cutB_len 10 s;omega
def erP (l : List Task) : ByteArray := if planE l = 0 then bs (prtL l) else ⟨#[]⟩
theorem erP_size {l : List Task} (hl : l.length ≤ 15) (hn : ∀ t ∈ l, t.needs.length ≤ 30) : (erP l).size ≤ 5000 := by
 unfold erP;split
 · exact (prs_back (by assumption) hl hn).2.1
 · exact Nat.zero_le _
theorem task_raise2 (xs ys : List Task) : Raises [.lit true 6 (xs.map TaskF.enc), .lit true 6 (ys.map TaskF.enc)] [.lit true 6 (xs.map Task.enc), .lit true 6 (ys.map Task.enc)] := by
 cases task_raise xs with
 | cons h1 _ =>
   cases task_raise ys with
   | cons h2 _ => exact .cons h1 (.cons h2 .nil)
theorem task_raise1 (xs ys : List Task) : Raises [.lit true 6 (xs.map TaskF.enc), .lit true 6 (ys.map Task.enc)] [.lit true 6 (xs.map Task.enc), .lit true 6 (ys.map Task.enc)] := by
 cases task_raise xs with
 | cons h1 _ => exact .cons h1 (.cons (.same _) .nil)
theorem SameFF (xs ys : List Task) (hl : xs.length ≤ 1000) (hn : ∀ x ∈ xs, x.needs.length ≤ 1000000) : PCalls Tryz.prog 16 [.lit true 6 (xs.map TaskF.enc), .lit true 6 (ys.map TaskF.enc)] (.bool (decide (xs = ys))) := PCalls.raise (SameTasksC xs ys hl hn) (task_raise2 xs ys)
theorem SameFT (xs ys : List Task) (hl : xs.length ≤ 1000) (hn : ∀ x ∈ xs, x.needs.length ≤ 1000000) : PCalls Tryz.prog 16 [.lit true 6 (xs.map TaskF.enc), .lit true 6 (ys.map Task.enc)] (.bool (decide (xs = ys))) := PCalls.raise (SameTasksC xs ys hl hn) (task_raise1 xs ys)
theorem fair_m {xs : List Task} (h : E7.Fair xs) : ∀ x ∈ xs, x.needs.length ≤ 1000000 := fun x hx => by have := h x hx; omega
theorem fr4 : (inFrame Tryz.f4.ntmps (Tryz.f4.body.getD .skip) && Tryz.f4.results.toList.all (resScope Tryz.f4.ntmps)) = true := by kernel_rfl
theorem hETexts (l : List Task) (s : ByteArray) (hl : l.length ≤ 9223372036854775807) (hs : s.size ≤ 9223372036854775807) : PCalls Tryz.prog 4 [.lit true 6 (l.map Task.enc), .str s] (.bool true) := by
 refine PCalls.of_code Tryz.func4 rfl rfl (by kernel_rfl) mixed fr4 (by show _ ≤ 106; simp) (.sc _) (pwp_seq_plain rfl fun K1 hK1 => p_aS rfl (p_end (hK1 _ ?_))); clear hK1 K1;refine pwp_seq_seq (pwp_seq_plain rfl fun K2 hK2 => p_call rfl .nil (awake) (p_e rfl (e_not rfl) (p_end (hK2 _ ?_)))); clear hK2 K2;refine pwp_seq_cond (t := false) rfl fun K3 hK3 => ⟨nofun, fun _ => ?_⟩
 refine pwp_skip (seq_norm (hK3 _ ?_)); clear hK3 K3;refine pwp_seq_seq (pwp_seq_gops rfl fun K4 hK4 => g_begin (g_e rfl (e_move (v := .lit _ _ _) rfl) (g_call rfl rfl rfl rfl (.cons inn_lit (.cons inn_sc .nil)) (FewC l _ (by omega)) (g_e rfl (e_not rfl) (g_mS rfl rfl ?_)))));refine g_cases (fun hb5 => ?_) (fun hb5 => ?_)
 ·have hb5R := hb5; try simp only [zz] at hb5
  iterate 8 refine g_skip rfl rfl rfl ?_
  refine g_pT rfl rfl rfl (g_mS rfl rfl ?_);iterate 3 refine g_skip rfl rfl rfl ?_
  refine g_pT rfl rfl rfl (g_end (ds := [23, 24, 25, 26, 27, 28, 29, 30, 33, 34, 35]) rfl rfl (hK4 _ ?_)); clear hK4 K4;refine pwp_seq_cond (t := true) rfl fun K6 hK6 => ⟨fun _ => ?_, nofun⟩
  refine pwp_seq_plain rfl fun K7 hK7 => p_aS rfl (p_end (hK7 _ ?_)); clear hK7 K7;refine pwp_ret (ret_seq (end1 (v := .sc _) rfl ?_))
  first
    | exact out_b rfl
    | exact out_b (by rw [decide_eq_true_eq]; exact hbk1)
    | exact out_b (decide_eq_true (if_neg (by assumption)))
    | (exfalso; simp_all; done)
    | (exfalso; simp only [lM] at *; omega)
 ·have hb5R := hb5; try simp only [zz] at hb5
  refine g_mS rfl rfl (g_e rfl (e_lenS rfl (by kernel_rfl)) (g_e rfl (e_gt rfl rfl) (g_mS rfl rfl ?_)));refine g_cases (fun hb8 => ?_) (fun hb8 => ?_)
  ·have hb8R := hb8; try simp only [zz] at hb8
   refine g_mS rfl rfl (g_e rfl (e_lenS rfl (by kernel_rfl)) (g_e rfl (e_le rfl rfl) (g_pT rfl rfl rfl (g_pF rfl rfl rfl (g_mS rfl rfl ?_)))));refine g_cases (fun hb9 => ?_) (fun hb9 => ?_)
   ·have hb9R := hb9; try simp only [zz] at hb9
    iterate 3 refine g_skip rfl rfl rfl ?_
    refine g_pT rfl rfl rfl (g_end (ds := [23, 24, 25, 26, 27, 28, 29, 30, 33, 34, 35]) rfl rfl (hK4 _ ?_)); clear hK4 K4;refine pwp_seq_cond (t := true) rfl fun K10 hK10 => ⟨fun _ => ?_, nofun⟩
    refine pwp_seq_plain rfl fun K11 hK11 => p_aS rfl (p_end (hK11 _ ?_)); clear hK11 K11;refine pwp_ret (ret_seq (end1 (v := .sc _) rfl ?_))
    first
      | exact out_b rfl
      | exact out_b (by rw [decide_eq_true_eq]; exact hbk1)
      | exact out_b (decide_eq_true (if_neg (by assumption)))
      | (exfalso; simp_all; done)
      | (exfalso; simp only [lM] at *; omega)
   ·have hb9R := hb9; try simp only [zz] at hb9
    refine g_mS rfl rfl (g_e rfl (e_lenS rfl (by kernel_rfl)) (g_e rfl (e_gt rfl rfl) (g_pF rfl rfl rfl (g_end (ds := [23, 24, 25, 26, 27, 28, 29, 30, 33, 34, 35]) rfl rfl (hK4 _ ?_))))); clear hK4 K4;refine pwp_seq_cond rfl fun K12 hK12 => ⟨fun hb13 => ?_, fun hb13 => ?_⟩
    ·have hb13R := hb13; try simp only [zz] at hb13
     refine pwp_seq_plain rfl fun K14 hK14 => p_aS rfl (p_end (hK14 _ ?_)); clear hK14 K14;refine pwp_ret (ret_seq (end1 (v := .sc _) rfl ?_))
     first
       | exact out_b rfl
       | exact out_b (by rw [decide_eq_true_eq]; exact hbk1)
       | exact out_b (decide_eq_true (if_neg (by assumption)))
       | (exfalso; simp_all; done)
       | (exfalso; simp only [lM] at *; omega)
    ·have hb13R := hb13; try simp only [zz] at hb13
     refine pwp_skip (seq_norm (hK12 _ ?_)); clear hK12 K12;have hfw := few_fair (xs := l) (n := 15) (by first | assumption | simp_all);have hsz : (s.size ≤ 500 ∨ 60000 < s.size) ∧ s.size ≤ 120000 := by first | omega | (simp_all; omega)
     have hln := ln_small hsz.1;have hpf := prs_few hln.1 hln.2;have hll : l.length ≤ 15 := by omega
     have hez := erP_size hll hfw.2.2;refine pwp_seq_plain rfl fun K15 hK15 => p_e rfl (e_move (v := .lit _ _ _) rfl) (p_call rfl (.cons inn_lit .nil) (printC l (by omega) hfw.2.1 hfw.2.2) (p_e rfl (e_move (v := .tup _) rfl) (p_e rfl (e_ext (v := .sc _) rfl (by simp) rfl) (p_e rfl (e_ext (v := .sc _) rfl (by simp) rfl) (p_aS rfl (p_aS rfl ?_))))));refine p_end (hK15 _ ?_); clear hK15 K15;refine pwp_seq_plain rfl fun K16 hK16 => p_mS rfl (p_call rfl (.cons inn_sc .nil) (eParseC s (by omega) hln.1 (fun q => Nat.le_trans (hln.2 q) (by decide))) (p_e rfl (e_move (v := .tup _) rfl) (p_e rfl (e_ext (v := .lit _ _ _) rfl (by simp) rfl) (p_e rfl (e_ext (v := .sc _) rfl (by simp) rfl) (p_e rfl (e_ext (v := .sc _) rfl (by simp) rfl) (p_e rfl (e_assign (v := .lit _ _ _) rfl) ?_))))));refine p_aS rfl (p_aS rfl (p_end (hK16 _ ?_))); clear hK16 K16;refine pwp_seq_plain rfl fun K17 hK17 => p_mS rfl (p_call rfl (.cons inn_sc .nil) (refParseP s (by omega) hln.1 (fun q => Nat.le_trans (hln.2 q) (by decide))) (p_e rfl (e_move (v := .tup _) rfl) (p_e rfl (e_ext (v := .lit _ _ _) rfl (by simp) rfl) (p_e rfl (e_ext (v := .sc _) rfl (by simp) rfl) (p_e rfl (e_ext (v := .sc _) rfl (by simp) rfl) (p_e rfl (e_assign (v := .lit _ _ _) rfl) ?_))))));refine p_aS rfl (p_aS rfl (p_end (hK17 _ ?_))); clear hK17 K17;refine pwp_seq_seq (pwp_seq_gops rfl fun K18 hK18 => g_begin (g_e rfl (e_move (v := .lit _ _ _) rfl) (g_e rfl (e_move (v := .lit _ _ _) rfl) (g_call rfl rfl rfl rfl (.cons inn_lit (.cons inn_lit .nil)) (SameFF _ _ hpf.1 (fair_m hpf.2)) (g_e rfl (e_not rfl) (g_mS rfl rfl ?_))))));refine g_cases (fun hb19 => ?_) (fun hb19 => ?_)
     ·have hb19R := hb19; try simp only [zz] at hb19
      iterate 3 refine g_skip rfl rfl rfl ?_
      refine g_pT rfl rfl rfl (g_mS rfl rfl ?_);iterate 3 refine g_skip rfl rfl rfl ?_
      refine g_pT rfl rfl rfl (g_end (ds := [59, 60, 61, 64, 65, 66]) rfl rfl (hK18 _ ?_)); clear hK18 K18;refine pwp_seq_cond (t := true) rfl fun K20 hK20 => ⟨fun _ => ?_, nofun⟩
      refine pwp_seq_plain rfl fun K21 hK21 => p_aS rfl (p_end (hK21 _ ?_)); clear hK21 K21;refine pwp_ret (ret_seq (end1 (v := .sc _) rfl ?_))
      first
        | exact out_b rfl
        | exact out_b (by rw [decide_eq_true_eq]; exact hbk1)
        | exact out_b (decide_eq_true (if_neg (by assumption)))
        | (exfalso; simp_all; done)
        | (exfalso; simp only [lM] at *; omega)
     ·have hb19R := hb19; try simp only [zz] at hb19
      refine g_mS rfl rfl (g_mS rfl rfl (g_e rfl (e_ne rfl rfl) (g_pF rfl rfl rfl (g_mS rfl rfl ?_))));refine g_cases (fun hb22 => ?_) (fun hb22 => ?_)
      ·have hb22R := hb22; try simp only [zz] at hb22
       iterate 3 refine g_skip rfl rfl rfl ?_
       refine g_pT rfl rfl rfl (g_end (ds := [59, 60, 61, 64, 65, 66]) rfl rfl (hK18 _ ?_)); clear hK18 K18;refine pwp_seq_cond (t := true) rfl fun K23 hK23 => ⟨fun _ => ?_, nofun⟩
       refine pwp_seq_plain rfl fun K24 hK24 => p_aS rfl (p_end (hK24 _ ?_)); clear hK24 K24;refine pwp_ret (ret_seq (end1 (v := .sc _) rfl ?_))
       first
         | exact out_b rfl
         | exact out_b (by rw [decide_eq_true_eq]; exact hbk1)
         | exact out_b (decide_eq_true (if_neg (by assumption)))
         | (exfalso; simp_all; done)
         | (exfalso; simp only [lM] at *; omega)
      ·have hb22R := hb22; try simp only [zz] at hb22
       refine g_mS rfl rfl (g_mS rfl rfl (g_e rfl (e_ne rfl rfl) (g_pF rfl rfl rfl (g_end (ds := [59, 60, 61, 64, 65, 66]) rfl rfl (hK18 _ ?_))))); clear hK18 K18;refine pwp_seq_cond rfl fun K25 hK25 => ⟨fun hb26 => ?_, fun hb26 => ?_⟩
       ·have hb26R := hb26; try simp only [zz] at hb26
        refine pwp_seq_plain rfl fun K27 hK27 => p_aS rfl (p_end (hK27 _ ?_)); clear hK27 K27;refine pwp_ret (ret_seq (end1 (v := .sc _) rfl ?_))
        first
          | exact out_b rfl
          | exact out_b (by rw [decide_eq_true_eq]; exact hbk1)
          | exact out_b (decide_eq_true (if_neg (by assumption)))
          | (exfalso; simp_all; done)
          | (exfalso; simp only [lM] at *; omega)
       ·have hb26R := hb26; try simp only [zz] at hb26
        refine pwp_skip (seq_norm (hK25 _ ?_)); clear hK25 K25;refine pwp_seq_seq (pwp_seq_plain rfl fun K28 hK28 => p_e rfl (e_move (v := .lit _ _ _) rfl) (p_call rfl (.cons inn_lit .nil) (refCheckC l (by omega) hfw.2.1) (p_aS rfl (p_end (hK28 _ ?_))))); clear hK28 K28;refine pwp_seq_seq (pwp_seq_plain rfl fun K29 hK29 => p_mS rfl (p_e rfl (e_ne rfl rfl) (p_end (hK29 _ ?_)))); clear hK29 K29;refine pwp_seq_cond rfl fun K30 hK30 => ⟨fun hb31 => ?_, fun hb31 => ?_⟩
        ·have hb31R := hb31; try simp only [zz] at hb31
         refine pwp_seq_gops rfl fun K32 hK32 => g_begin (g_mS rfl rfl (g_mS rfl rfl (g_e rfl (e_eq rfl rfl) (g_mS rfl rfl ?_))));refine g_cases (fun hb33 => ?_) (fun hb33 => ?_)
         ·have hb33R := hb33; try simp only [zz] at hb33
          refine g_mS rfl rfl (g_e rfl (e_seq rfl rfl) (g_pT rfl rfl rfl (g_aS rfl rfl (g_end (ds := [76, 77]) rfl rfl (hK32 _ ?_))))); clear hK32 K32;refine pwp_ret (ret_seq (end1 (v := .sc _) rfl ?_))
          first
            | exact out_b rfl
            | exact out_b (by rw [decide_eq_true_eq]; exact hbk1)
            | exact out_b (decide_eq_true (if_neg (by assumption)))
            | (exfalso; simp_all; done)
            | (exfalso; simp only [lM] at *; omega)
         ·have hb33R := hb33; try simp only [zz] at hb33
          iterate 2 refine g_skip rfl rfl rfl ?_
          refine g_pF rfl rfl rfl (g_aS rfl rfl (g_end (ds := [76, 77]) rfl rfl (hK32 _ ?_))); clear hK32 K32;refine pwp_ret (ret_seq (end1 (v := .sc _) rfl ?_))
          first
            | exact out_b rfl
            | exact out_b (by rw [decide_eq_true_eq]; exact hbk1)
            | exact out_b (decide_eq_true (if_neg (by assumption)))
            | (exfalso; simp_all; done)
            | (exfalso; simp only [lM] at *; omega)
        ·have hb31R := hb31; try simp only [zz] at hb31
         refine pwp_skip (seq_norm (hK30 _ ?_)); clear hK30 K30;have hp0 : planE l = 0 := by first | assumption | omega
         have hbk := prs_back hp0 hll hfw.2.2;have hee : erP l = bs (prtL l) := by rw [erP, if_pos hp0]
         have hgd := (plan_good hp0).2;rw [← hee] at hbk;have hbl := hbk.2.2.1;have hbc : (cutB 10 (erP l)).length ≤ 10000 := Nat.le_trans hbk.2.2.2 (by decide);have hbk1 : (prsX (erP l)).1 = l := by rw [hbk.1]
         have hbk2 : (prsX (erP l)).2.1 = 0 := by rw [hbk.1]
         have hbk3 : (prsX (erP l)).2.2 = 0 := by rw [hbk.1]
         have hbf : (prsX (erP l)).1.length ≤ 1000 := by rw [hbk1]; omega
         have hbg : E7.Fair (prsX (erP l)).1 := by rw [hbk1]; exact hfw.2.1
         refine pwp_seq_plain rfl fun K34 hK34 => p_mS rfl (p_call rfl (.cons inn_sc .nil) (eParseC (erP l) (by omega) (fun _ => hbl) (fun _ => hbc)) (p_e rfl (e_move (v := .tup _) rfl) (p_e rfl (e_ext (v := .lit _ _ _) rfl (by simp) rfl) (p_e rfl (e_ext (v := .sc _) rfl (by simp) rfl) (p_e rfl (e_ext (v := .sc _) rfl (by simp) rfl) (p_e rfl (e_assign (v := .lit _ _ _) rfl) ?_))))));refine p_aS rfl (p_aS rfl (p_end (hK34 _ ?_))); clear hK34 K34;refine pwp_seq_gops rfl fun K35 hK35 => g_begin (g_mS rfl rfl (g_e rfl (e_eq rfl rfl) (g_mS rfl rfl ?_)));refine g_cases (fun hb36 => ?_) (fun hb36 => ?_)
         ·have hb36R := hb36; try simp only [zz] at hb36
          refine g_mS rfl rfl (g_e rfl (e_move (v := .lit _ _ _) rfl) (g_call rfl rfl rfl rfl (.cons inn_lit .nil) (refEPrintC l (by omega) hgd hfw.2.2) (g_e rfl (e_seq rfl rfl) (g_pT rfl rfl rfl (g_mS rfl rfl ?_)))));refine g_cases (fun hb37 => ?_) (fun hb37 => ?_)
          ·have hb37R := hb37; try simp only [zz] at hb37
           refine g_mS rfl rfl (g_e rfl (e_eq rfl rfl) (g_pT rfl rfl rfl (g_mS rfl rfl ?_)));refine g_cases (fun hb38 => ?_) (fun hb38 => ?_)
           ·have hb38R := hb38; try simp only [zz] at hb38
            refine g_mS rfl rfl (g_e rfl (e_eq rfl rfl) (g_pT rfl rfl rfl (g_mS rfl rfl ?_)));refine g_cases (fun hb39 => ?_) (fun hb39 => ?_)
            ·have hb39R := hb39; try simp only [zz] at hb39
             refine g_e rfl (e_move (v := .lit _ _ _) rfl) (g_e rfl (e_move (v := .lit _ _ _) rfl) (g_call rfl rfl rfl rfl (.cons inn_lit (.cons inn_lit .nil)) (SameFT _ _ hbf (fair_m hbg)) (g_pT rfl rfl rfl (g_aS rfl rfl (g_end (ds := [88, 89, 90, 91, 94, 95, 98, 99, 102, 103, 104]) rfl rfl (hK35 _ ?_)))))); clear hK35 K35;refine pwp_ret (end1 (v := .sc _) rfl ?_)
             first
               | exact out_b rfl
               | exact out_b (by rw [decide_eq_true_eq]; exact hbk1)
               | exact out_b (decide_eq_true (if_neg (by assumption)))
               | (exfalso; simp_all; done)
               | (exfalso; simp only [lM] at *; omega)
            ·have hb39R := hb39; try simp only [zz] at hb39
             iterate 2 refine g_skip rfl rfl rfl ?_
             refine g_nocall rfl rfl rfl (g_pF rfl rfl rfl (g_aS rfl rfl (g_end (ds := [88, 89, 90, 91, 94, 95, 98, 99, 102, 103, 104]) rfl rfl (hK35 _ ?_)))); clear hK35 K35;refine pwp_ret (end1 (v := .sc _) rfl ?_)
             first
               | exact out_b rfl
               | exact out_b (by rw [decide_eq_true_eq]; exact hbk1)
               | exact out_b (decide_eq_true (if_neg (by assumption)))
               | (exfalso; simp_all; done)
               | (exfalso; simp only [lM] at *; omega)
           ·have hb38R := hb38; try simp only [zz] at hb38
            iterate 2 refine g_skip rfl rfl rfl ?_
            refine g_pF rfl rfl rfl (g_mS rfl rfl ?_);iterate 2 refine g_skip rfl rfl rfl ?_
            refine g_nocall rfl rfl rfl (g_pF rfl rfl rfl (g_aS rfl rfl (g_end (ds := [88, 89, 90, 91, 94, 95, 98, 99, 102, 103, 104]) rfl rfl (hK35 _ ?_)))); clear hK35 K35;refine pwp_ret (end1 (v := .sc _) rfl ?_)
            first
              | exact out_b rfl
              | exact out_b (by rw [decide_eq_true_eq]; exact hbk1)
              | exact out_b (decide_eq_true (if_neg (by assumption)))
              | (exfalso; simp_all; done)
              | (exfalso; simp only [lM] at *; omega)
          ·have hb37R := hb37; try simp only [zz] at hb37
           iterate 2 refine g_skip rfl rfl rfl ?_
           refine g_pF rfl rfl rfl (g_mS rfl rfl ?_);iterate 2 refine g_skip rfl rfl rfl ?_
           refine g_pF rfl rfl rfl (g_mS rfl rfl ?_);iterate 2 refine g_skip rfl rfl rfl ?_
           refine g_nocall rfl rfl rfl (g_pF rfl rfl rfl (g_aS rfl rfl (g_end (ds := [88, 89, 90, 91, 94, 95, 98, 99, 102, 103, 104]) rfl rfl (hK35 _ ?_)))); clear hK35 K35;refine pwp_ret (end1 (v := .sc _) rfl ?_)
           first
             | exact out_b rfl
             | exact out_b (by rw [decide_eq_true_eq]; exact hbk1)
             | exact out_b (decide_eq_true (if_neg (by assumption)))
             | (exfalso; simp_all; done)
             | (exfalso; simp only [lM] at *; omega)
         ·have hb36R := hb36; try simp only [zz] at hb36
          iterate 2 refine g_skip rfl rfl rfl ?_
          refine g_nocall rfl rfl rfl (g_skip rfl rfl rfl (g_pF rfl rfl rfl (g_mS rfl rfl ?_)));iterate 2 refine g_skip rfl rfl rfl ?_
          refine g_pF rfl rfl rfl (g_mS rfl rfl ?_);iterate 2 refine g_skip rfl rfl rfl ?_
          refine g_pF rfl rfl rfl (g_mS rfl rfl ?_);iterate 2 refine g_skip rfl rfl rfl ?_
          refine g_nocall rfl rfl rfl (g_pF rfl rfl rfl (g_aS rfl rfl (g_end (ds := [88, 89, 90, 91, 94, 95, 98, 99, 102, 103, 104]) rfl rfl (hK35 _ ?_)))); clear hK35 K35;refine pwp_ret (end1 (v := .sc _) rfl ?_)
          first
            | exact out_b rfl
            | exact out_b (by rw [decide_eq_true_eq]; exact hbk1)
            | exact out_b (decide_eq_true (if_neg (by assumption)))
            | (exfalso; simp_all; done)
            | (exfalso; simp only [lM] at *; omega)
  ·have hb8R := hb8; try simp only [zz] at hb8
   iterate 3 refine g_skip rfl rfl rfl ?_
   refine g_pF rfl rfl rfl (g_pF rfl rfl rfl (g_mS rfl rfl (g_mS rfl rfl (g_e rfl (e_lenS rfl (by kernel_rfl)) (g_e rfl (e_gt rfl rfl) (g_pF rfl rfl rfl (g_end (ds := [23, 24, 25, 26, 27, 28, 29, 30, 33, 34, 35]) rfl rfl (hK4 _ ?_)))))))); clear hK4 K4;refine pwp_seq_cond rfl fun K40 hK40 => ⟨fun hb41 => ?_, fun hb41 => ?_⟩
   ·have hb41R := hb41; try simp only [zz] at hb41
    refine pwp_seq_plain rfl fun K42 hK42 => p_aS rfl (p_end (hK42 _ ?_)); clear hK42 K42;refine pwp_ret (ret_seq (end1 (v := .sc _) rfl ?_))
    first
      | exact out_b rfl
      | exact out_b (by rw [decide_eq_true_eq]; exact hbk1)
      | exact out_b (decide_eq_true (if_neg (by assumption)))
      | (exfalso; simp_all; done)
      | (exfalso; simp only [lM] at *; omega)
   ·have hb41R := hb41; try simp only [zz] at hb41
    refine pwp_skip (seq_norm (hK40 _ ?_)); clear hK40 K40;have hfw := few_fair (xs := l) (n := 15) (by first | assumption | simp_all);have hsz : (s.size ≤ 500 ∨ 60000 < s.size) ∧ s.size ≤ 120000 := by first | omega | (simp_all; omega)
    have hln := ln_small hsz.1;have hpf := prs_few hln.1 hln.2;have hll : l.length ≤ 15 := by omega
    have hez := erP_size hll hfw.2.2;refine pwp_seq_plain rfl fun K43 hK43 => p_e rfl (e_move (v := .lit _ _ _) rfl) (p_call rfl (.cons inn_lit .nil) (printC l (by omega) hfw.2.1 hfw.2.2) (p_e rfl (e_move (v := .tup _) rfl) (p_e rfl (e_ext (v := .sc _) rfl (by simp) rfl) (p_e rfl (e_ext (v := .sc _) rfl (by simp) rfl) (p_aS rfl (p_aS rfl ?_))))));refine p_end (hK43 _ ?_); clear hK43 K43;refine pwp_seq_plain rfl fun K44 hK44 => p_mS rfl (p_call rfl (.cons inn_sc .nil) (eParseC s (by omega) hln.1 (fun q => Nat.le_trans (hln.2 q) (by decide))) (p_e rfl (e_move (v := .tup _) rfl) (p_e rfl (e_ext (v := .lit _ _ _) rfl (by simp) rfl) (p_e rfl (e_ext (v := .sc _) rfl (by simp) rfl) (p_e rfl (e_ext (v := .sc _) rfl (by simp) rfl) (p_e rfl (e_assign (v := .lit _ _ _) rfl) ?_))))));refine p_aS rfl (p_aS rfl (p_end (hK44 _ ?_))); clear hK44 K44;refine pwp_seq_plain rfl fun K45 hK45 => p_mS rfl (p_call rfl (.cons inn_sc .nil) (refParseP s (by omega) hln.1 (fun q => Nat.le_trans (hln.2 q) (by decide))) (p_e rfl (e_move (v := .tup _) rfl) (p_e rfl (e_ext (v := .lit _ _ _) rfl (by simp) rfl) (p_e rfl (e_ext (v := .sc _) rfl (by simp) rfl) (p_e rfl (e_ext (v := .sc _) rfl (by simp) rfl) (p_e rfl (e_assign (v := .lit _ _ _) rfl) ?_))))));refine p_aS rfl (p_aS rfl (p_end (hK45 _ ?_))); clear hK45 K45;refine pwp_seq_seq (pwp_seq_gops rfl fun K46 hK46 => g_begin (g_e rfl (e_move (v := .lit _ _ _) rfl) (g_e rfl (e_move (v := .lit _ _ _) rfl) (g_call rfl rfl rfl rfl (.cons inn_lit (.cons inn_lit .nil)) (SameFF _ _ hpf.1 (fair_m hpf.2)) (g_e rfl (e_not rfl) (g_mS rfl rfl ?_))))));refine g_cases (fun hb47 => ?_) (fun hb47 => ?_)
    ·have hb47R := hb47; try simp only [zz] at hb47
     iterate 3 refine g_skip rfl rfl rfl ?_
     refine g_pT rfl rfl rfl (g_mS rfl rfl ?_);iterate 3 refine g_skip rfl rfl rfl ?_
     refine g_pT rfl rfl rfl (g_end (ds := [59, 60, 61, 64, 65, 66]) rfl rfl (hK46 _ ?_)); clear hK46 K46;refine pwp_seq_cond (t := true) rfl fun K48 hK48 => ⟨fun _ => ?_, nofun⟩
     refine pwp_seq_plain rfl fun K49 hK49 => p_aS rfl (p_end (hK49 _ ?_)); clear hK49 K49;refine pwp_ret (ret_seq (end1 (v := .sc _) rfl ?_))
     first
       | exact out_b rfl
       | exact out_b (by rw [decide_eq_true_eq]; exact hbk1)
       | exact out_b (decide_eq_true (if_neg (by assumption)))
       | (exfalso; simp_all; done)
       | (exfalso; simp only [lM] at *; omega)
    ·have hb47R := hb47; try simp only [zz] at hb47
     refine g_mS rfl rfl (g_mS rfl rfl (g_e rfl (e_ne rfl rfl) (g_pF rfl rfl rfl (g_mS rfl rfl ?_))));refine g_cases (fun hb50 => ?_) (fun hb50 => ?_)
     ·have hb50R := hb50; try simp only [zz] at hb50
      iterate 3 refine g_skip rfl rfl rfl ?_
      refine g_pT rfl rfl rfl (g_end (ds := [59, 60, 61, 64, 65, 66]) rfl rfl (hK46 _ ?_)); clear hK46 K46;refine pwp_seq_cond (t := true) rfl fun K51 hK51 => ⟨fun _ => ?_, nofun⟩
      refine pwp_seq_plain rfl fun K52 hK52 => p_aS rfl (p_end (hK52 _ ?_)); clear hK52 K52;refine pwp_ret (ret_seq (end1 (v := .sc _) rfl ?_))
      first
        | exact out_b rfl
        | exact out_b (by rw [decide_eq_true_eq]; exact hbk1)
        | exact out_b (decide_eq_true (if_neg (by assumption)))
        | (exfalso; simp_all; done)
        | (exfalso; simp only [lM] at *; omega)
     ·have hb50R := hb50; try simp only [zz] at hb50
      refine g_mS rfl rfl (g_mS rfl rfl (g_e rfl (e_ne rfl rfl) (g_pF rfl rfl rfl (g_end (ds := [59, 60, 61, 64, 65, 66]) rfl rfl (hK46 _ ?_))))); clear hK46 K46;refine pwp_seq_cond rfl fun K53 hK53 => ⟨fun hb54 => ?_, fun hb54 => ?_⟩
      ·have hb54R := hb54; try simp only [zz] at hb54
       refine pwp_seq_plain rfl fun K55 hK55 => p_aS rfl (p_end (hK55 _ ?_)); clear hK55 K55;refine pwp_ret (ret_seq (end1 (v := .sc _) rfl ?_))
       first
         | exact out_b rfl
         | exact out_b (by rw [decide_eq_true_eq]; exact hbk1)
         | exact out_b (decide_eq_true (if_neg (by assumption)))
         | (exfalso; simp_all; done)
         | (exfalso; simp only [lM] at *; omega)
      ·have hb54R := hb54; try simp only [zz] at hb54
       refine pwp_skip (seq_norm (hK53 _ ?_)); clear hK53 K53;refine pwp_seq_seq (pwp_seq_plain rfl fun K56 hK56 => p_e rfl (e_move (v := .lit _ _ _) rfl) (p_call rfl (.cons inn_lit .nil) (refCheckC l (by omega) hfw.2.1) (p_aS rfl (p_end (hK56 _ ?_))))); clear hK56 K56;refine pwp_seq_seq (pwp_seq_plain rfl fun K57 hK57 => p_mS rfl (p_e rfl (e_ne rfl rfl) (p_end (hK57 _ ?_)))); clear hK57 K57;refine pwp_seq_cond rfl fun K58 hK58 => ⟨fun hb59 => ?_, fun hb59 => ?_⟩
       ·have hb59R := hb59; try simp only [zz] at hb59
        refine pwp_seq_gops rfl fun K60 hK60 => g_begin (g_mS rfl rfl (g_mS rfl rfl (g_e rfl (e_eq rfl rfl) (g_mS rfl rfl ?_))));refine g_cases (fun hb61 => ?_) (fun hb61 => ?_)
        ·have hb61R := hb61; try simp only [zz] at hb61
         refine g_mS rfl rfl (g_e rfl (e_seq rfl rfl) (g_pT rfl rfl rfl (g_aS rfl rfl (g_end (ds := [76, 77]) rfl rfl (hK60 _ ?_))))); clear hK60 K60;refine pwp_ret (ret_seq (end1 (v := .sc _) rfl ?_))
         first
           | exact out_b rfl
           | exact out_b (by rw [decide_eq_true_eq]; exact hbk1)
           | exact out_b (decide_eq_true (if_neg (by assumption)))
           | (exfalso; simp_all; done)
           | (exfalso; simp only [lM] at *; omega)
        ·have hb61R := hb61; try simp only [zz] at hb61
         iterate 2 refine g_skip rfl rfl rfl ?_
         refine g_pF rfl rfl rfl (g_aS rfl rfl (g_end (ds := [76, 77]) rfl rfl (hK60 _ ?_))); clear hK60 K60;refine pwp_ret (ret_seq (end1 (v := .sc _) rfl ?_))
         first
           | exact out_b rfl
           | exact out_b (by rw [decide_eq_true_eq]; exact hbk1)
           | exact out_b (decide_eq_true (if_neg (by assumption)))
           | (exfalso; simp_all; done)
           | (exfalso; simp only [lM] at *; omega)
       ·have hb59R := hb59; try simp only [zz] at hb59
        refine pwp_skip (seq_norm (hK58 _ ?_)); clear hK58 K58;have hp0 : planE l = 0 := by first | assumption | omega
        have hbk := prs_back hp0 hll hfw.2.2;have hee : erP l = bs (prtL l) := by rw [erP, if_pos hp0]
        have hgd := (plan_good hp0).2;rw [← hee] at hbk;have hbl := hbk.2.2.1;have hbc : (cutB 10 (erP l)).length ≤ 10000 := Nat.le_trans hbk.2.2.2 (by decide);have hbk1 : (prsX (erP l)).1 = l := by rw [hbk.1]
        have hbk2 : (prsX (erP l)).2.1 = 0 := by rw [hbk.1]
        have hbk3 : (prsX (erP l)).2.2 = 0 := by rw [hbk.1]
        have hbf : (prsX (erP l)).1.length ≤ 1000 := by rw [hbk1]; omega
        have hbg : E7.Fair (prsX (erP l)).1 := by rw [hbk1]; exact hfw.2.1
        refine pwp_seq_plain rfl fun K62 hK62 => p_mS rfl (p_call rfl (.cons inn_sc .nil) (eParseC (erP l) (by omega) (fun _ => hbl) (fun _ => hbc)) (p_e rfl (e_move (v := .tup _) rfl) (p_e rfl (e_ext (v := .lit _ _ _) rfl (by simp) rfl) (p_e rfl (e_ext (v := .sc _) rfl (by simp) rfl) (p_e rfl (e_ext (v := .sc _) rfl (by simp) rfl) (p_e rfl (e_assign (v := .lit _ _ _) rfl) ?_))))));refine p_aS rfl (p_aS rfl (p_end (hK62 _ ?_))); clear hK62 K62;refine pwp_seq_gops rfl fun K63 hK63 => g_begin (g_mS rfl rfl (g_e rfl (e_eq rfl rfl) (g_mS rfl rfl ?_)));refine g_cases (fun hb64 => ?_) (fun hb64 => ?_)
        ·have hb64R := hb64; try simp only [zz] at hb64
         refine g_mS rfl rfl (g_e rfl (e_move (v := .lit _ _ _) rfl) (g_call rfl rfl rfl rfl (.cons inn_lit .nil) (refEPrintC l (by omega) hgd hfw.2.2) (g_e rfl (e_seq rfl rfl) (g_pT rfl rfl rfl (g_mS rfl rfl ?_)))));refine g_cases (fun hb65 => ?_) (fun hb65 => ?_)
         ·have hb65R := hb65; try simp only [zz] at hb65
          refine g_mS rfl rfl (g_e rfl (e_eq rfl rfl) (g_pT rfl rfl rfl (g_mS rfl rfl ?_)));refine g_cases (fun hb66 => ?_) (fun hb66 => ?_)
          ·have hb66R := hb66; try simp only [zz] at hb66
           refine g_mS rfl rfl (g_e rfl (e_eq rfl rfl) (g_pT rfl rfl rfl (g_mS rfl rfl ?_)));refine g_cases (fun hb67 => ?_) (fun hb67 => ?_)
           ·have hb67R := hb67; try simp only [zz] at hb67
            refine g_e rfl (e_move (v := .lit _ _ _) rfl) (g_e rfl (e_move (v := .lit _ _ _) rfl) (g_call rfl rfl rfl rfl (.cons inn_lit (.cons inn_lit .nil)) (SameFT _ _ hbf (fair_m hbg)) (g_pT rfl rfl rfl (g_aS rfl rfl (g_end (ds := [88, 89, 90, 91, 94, 95, 98, 99, 102, 103, 104]) rfl rfl (hK63 _ ?_)))))); clear hK63 K63;refine pwp_ret (end1 (v := .sc _) rfl ?_)
            first
              | exact out_b rfl
              | exact out_b (by rw [decide_eq_true_eq]; exact hbk1)
              | exact out_b (decide_eq_true (if_neg (by assumption)))
              | (exfalso; simp_all; done)
              | (exfalso; simp only [lM] at *; omega)
           ·have hb67R := hb67; try simp only [zz] at hb67
            iterate 2 refine g_skip rfl rfl rfl ?_
            refine g_nocall rfl rfl rfl (g_pF rfl rfl rfl (g_aS rfl rfl (g_end (ds := [88, 89, 90, 91, 94, 95, 98, 99, 102, 103, 104]) rfl rfl (hK63 _ ?_)))); clear hK63 K63;refine pwp_ret (end1 (v := .sc _) rfl ?_)
            first
              | exact out_b rfl
              | exact out_b (by rw [decide_eq_true_eq]; exact hbk1)
              | exact out_b (decide_eq_true (if_neg (by assumption)))
              | (exfalso; simp_all; done)
              | (exfalso; simp only [lM] at *; omega)
          ·have hb66R := hb66; try simp only [zz] at hb66
           iterate 2 refine g_skip rfl rfl rfl ?_
           refine g_pF rfl rfl rfl (g_mS rfl rfl ?_);iterate 2 refine g_skip rfl rfl rfl ?_
           refine g_nocall rfl rfl rfl (g_pF rfl rfl rfl (g_aS rfl rfl (g_end (ds := [88, 89, 90, 91, 94, 95, 98, 99, 102, 103, 104]) rfl rfl (hK63 _ ?_)))); clear hK63 K63;refine pwp_ret (end1 (v := .sc _) rfl ?_)
           first
             | exact out_b rfl
             | exact out_b (by rw [decide_eq_true_eq]; exact hbk1)
             | exact out_b (decide_eq_true (if_neg (by assumption)))
             | (exfalso; simp_all; done)
             | (exfalso; simp only [lM] at *; omega)
         ·have hb65R := hb65; try simp only [zz] at hb65
          iterate 2 refine g_skip rfl rfl rfl ?_
          refine g_pF rfl rfl rfl (g_mS rfl rfl ?_);iterate 2 refine g_skip rfl rfl rfl ?_
          refine g_pF rfl rfl rfl (g_mS rfl rfl ?_);iterate 2 refine g_skip rfl rfl rfl ?_
          refine g_nocall rfl rfl rfl (g_pF rfl rfl rfl (g_aS rfl rfl (g_end (ds := [88, 89, 90, 91, 94, 95, 98, 99, 102, 103, 104]) rfl rfl (hK63 _ ?_)))); clear hK63 K63;refine pwp_ret (end1 (v := .sc _) rfl ?_)
          first
            | exact out_b rfl
            | exact out_b (by rw [decide_eq_true_eq]; exact hbk1)
            | exact out_b (decide_eq_true (if_neg (by assumption)))
            | (exfalso; simp_all; done)
            | (exfalso; simp only [lM] at *; omega)
        ·have hb64R := hb64; try simp only [zz] at hb64
         iterate 2 refine g_skip rfl rfl rfl ?_
         refine g_nocall rfl rfl rfl (g_skip rfl rfl rfl (g_pF rfl rfl rfl (g_mS rfl rfl ?_)));iterate 2 refine g_skip rfl rfl rfl ?_
         refine g_pF rfl rfl rfl (g_mS rfl rfl ?_);iterate 2 refine g_skip rfl rfl rfl ?_
         refine g_pF rfl rfl rfl (g_mS rfl rfl ?_);iterate 2 refine g_skip rfl rfl rfl ?_
         refine g_nocall rfl rfl rfl (g_pF rfl rfl rfl (g_aS rfl rfl (g_end (ds := [88, 89, 90, 91, 94, 95, 98, 99, 102, 103, 104]) rfl rfl (hK63 _ ?_)))); clear hK63 K63;refine pwp_ret (end1 (v := .sc _) rfl ?_)
         first
           | exact out_b rfl
           | exact out_b (by rw [decide_eq_true_eq]; exact hbk1)
           | exact out_b (decide_eq_true (if_neg (by assumption)))
           | (exfalso; simp_all; done)
           | (exfalso; simp only [lM] at *; omega)
end Go.Proofs.YtmlhhdiomijpfaaGreatDoor
