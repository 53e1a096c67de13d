/- RecordAccounts, as a contract on pure values. No conditions. -/
import Derived.Test.YtdbpfhbppcpbbaaMov18
set_option linter.unusedSimpArgs false
set_option linter.unusedVariables false
set_option maxRecDepth 100000
namespace Go.Proofs.Ytdbpfhbppcpbbaa
open Go Go.Pv
theorem e_ixaL {P : Program} {ρ : Operand → PV} {h : Heap} {key : Key} {x y : Operand} {t e : TypeId} {tt : Bool} {sz a b n : Nat} {rows : List (List PV)} {kd : IntKind} {i : Int} (hx : ρ x = .lptr tt sz rows a b) (hy : ρ y = .sc (.int kd i)) (ht : arrOk P t = some (n, e)) (hs : tySize P e = 1) (hi : 0 ≤ i ∧ i < n) :
    eff P ρ h key (.indexAddr t x y) = ⟨True, .lptr tt sz rows a (b + i.toNat), [], [], false⟩ := by
  simp only [eff, hx, hy, indexAddrEff, ht, hs]; simp [hi]
theorem len_charges {ts : List Term} {ms : List Move} {day : Int} (hl : ts.length ≤ 65) (hm : ms.length ≤ 305) : (accP ts ms day).length ≤ 6066450 := by
  unfold accP
  split
  · unfold accT
    rw [List.length_map]
    have h1 := lotsT_len ts (upM day ms) (Nat.le_trans (upM_len _ _) hm)
    have h2 : ts.length * 93330 ≤ 65 * 93330 := Nat.mul_le_mul_right _ hl
    omega
  · simp
theorem bal_get2 {ts : List Term} {ms : List Move} {day : Int} {k : Nat} {y : B4} (hz : tmE ts ms = 0 ∧ 0 ≤ day ∧ day ≤ 20000) (hy : (balT ts (upF day ms))[k]? = some y) : ∃ x d, (balP ts ms day)[k]? = some x ∧ ((balP ts ms day).map (fun x : B4 => x.d))[k]? = some d ∧ x = y ∧ d = y.d := by
  have e : balP ts ms day = balT ts (upF day ms) := by rw [balP_0 (td_0 hz.1 hz.2).symm, tm_upF hz.1]
  rw [e, List.getElem?_map, hy]
  exact ⟨y, y.d, rfl, rfl, rfl, rfl⟩
theorem balT_len (ts : List Term) (ms : List Move) : (balT ts ms).length = ts.length := by unfold balT; rw [List.length_map]
theorem bal_bnd2 {ts : List Term} {ms : List Move} {day : Int} {k : Nat} {y : B4} (hz : tmE ts ms = 0 ∧ 0 ≤ day ∧ day ≤ 20000) (hl : ms.length ≤ 305) (hy : (balT ts (upF day ms))[k]? = some y) : ((0 ≤ y.a ∧ y.a ≤ 30500000) ∧ (0 ≤ y.b ∧ y.b ≤ 30500000) ∧ (0 ≤ y.c ∧ y.c ≤ 30500000)) ∧ y.d = y.a - y.b - y.c := by
  unfold balT at hy
  rw [List.getElem?_map, Option.map_eq_some_iff] at hy
  obtain ⟨t, _, rfl⟩ := hy
  have hok : ∀ m ∈ upF day ms, okM m := fun m hm => (tm_go hz.1 m (List.mem_filter.1 hm).1).1
  have hul := Nat.le_trans (upF_len day ms) hl
  exact ⟨⟨cnt_bnd hok hul 0, cnt_bnd hok hul 1, cnt_bnd hok hul 2⟩, rfl⟩
theorem td_if (ts : List Term) (ms : List Move) (day : Int) : (if tmE ts ms = 0 ∧ ¬ (0 ≤ day ∧ day ≤ 20000) then 2 else tmE ts ms) = tdE ts ms day := by
  unfold tdE
  by_cases h : tmE ts ms = 0
  · by_cases h2 : 0 ≤ day ∧ day ≤ 20000
    · rw [if_neg (fun hc => hc.2 h2), if_neg (by simpa using h), if_pos h2, h]
    · rw [if_pos ⟨h, h2⟩, if_neg (by simpa using h), if_neg h2]
  · rw [if_neg (fun hc => h hc.1), if_pos h]
section
variable {ts : List Term} {ms : List Move} {day : Int}
theorem acc_bad (h : ¬ tdE ts ms day = 0) : (((((decide (tdE ts ms day = (if (decide (tmE ts ms = 0) && !decide (0 ≤ day ∧ day ≤ 20000)) = true then 2 else tmE ts ms)) && decide (tdE ts ms day = (if (decide (tmE ts ms = 0) && !decide (0 ≤ day ∧ day ≤ 20000)) = true then 2 else tmE ts ms))) && decide (tdE ts ms day = (if (decide (tmE ts ms = 0) && !decide (0 ≤ day ∧ day ≤ 20000)) = true then 2 else tmE ts ms))) && decide (((((accP ts ms day).map Charge.enc).length : Nat) : Int) = 0)) && decide (((((balP ts ms day).map B4.enc).length : Nat) : Int) = 0)) && decide ((((((balP ts ms day).map (fun x : B4 => x.d)).map ci).length : Nat) : Int) = 0)) = true := by
  have h1 := td_if ts ms day
  simp only [Bool.and_eq_true, Bool.not_eq_true', decide_eq_true_eq, decide_eq_false_iff_not, h1, accP_1 h, balP_1 h]
  simp
theorem acc_good (hz : tmE ts ms = 0 ∧ 0 ≤ day ∧ day ≤ 20000) : ¬ (((((¬ tdE ts ms day = 0 ∨ ¬ tdE ts ms day = 0) ∨ ¬ tdE ts ms day = 0) ∨ ¬ accP ts ms day = accT ts ms day) ∨ ¬ (((balP ts ms day).length : Nat) : Int) = (((balT ts (upF day ms)).length : Nat) : Int)) ∨ ¬ (((balP ts ms day).length : Nat) : Int) = (((balT ts (upF day ms)).length : Nat) : Int)) := by
  have h := (td_0 hz.1 hz.2).symm
  rw [balP_0 h, accP_0 h, h, tm_upF hz.1]; simp
theorem acc_row {x y : B4} {d : Int} (h1 : x = y) (h2 : d = y.d) (h3 : ((0 ≤ y.a ∧ y.a ≤ 30500000) ∧ (0 ≤ y.b ∧ y.b ≤ 30500000) ∧ (0 ≤ y.c ∧ y.c ≤ 30500000)) ∧ y.d = y.a - y.b - y.c) : ¬ ((¬ x = y ∨ ¬ d = y.d) ∨ ¬ x.a = x.b + x.c + x.d) := by
  subst h1; subst h2
  have := h3.2
  simp; omega
end

theorem fr13 : (inFrame Try.f13.ntmps (Try.f13.body.getD .skip) && Try.f13.results.toList.all (resScope Try.f13.ntmps)) = true := by kernel_rfl
theorem accountsLaw (ts : List Term) (ms : List Move) (day : Int) (hlt : ts.length ≤ 9223372036854775807) (hlm : ms.length ≤ 9223372036854775807) : PCalls Try.prog 13 [.lit true 4 (ts.map Term.enc), .lit true 4 (ms.map Move.enc), .int day] (.bool true) := by
  refine PCalls.of_code Try.func13 rfl rfl (by kernel_rfl) mixed fr13 (by show _ ≤ 178; simp) (.sc _) ?_
  refine pwp_seq_plain rfl fun K1 hK1 => ?_
  refine p_step rfl (e_assign (v := .sc _) rfl) trivial ?_
  refine p_end (hK1 _ ?_); clear hK1 K1
  refine pwp_seq_seq ?_
  refine pwp_seq_plain rfl fun K2 hK2 => ?_
  refine p_call rfl .nil (awake) ?_
  refine p_step rfl (e_not rfl) trivial ?_
  refine p_end (hK2 _ ?_); clear hK2 K2
  refine pwp_seq_cond (t := false) rfl fun K3 hK3 => ⟨nofun, fun _ => ?_⟩
  refine pwp_skip ?_
  refine seq_norm (hK3 _ ?_); clear hK3 K3
  refine pwp_seq_seq ?_
  refine pwp_seq_plain rfl fun K4 hK4 => ?_
  refine p_step rfl (e_move (v := .lit _ _ _) rfl) trivial ?_
  refine p_step rfl (e_move (v := .lit _ _ _) rfl) trivial ?_
  refine p_call rfl (.cons inn_lit (.cons inn_lit .nil)) (hire _ _ hlt hlm) ?_
  refine p_step rfl (e_not rfl) trivial ?_
  refine p_end (hK4 _ ?_); clear hK4 K4
  refine pwp_seq_cond rfl fun K5 hK5 => ⟨fun hb6 => ?_, fun hb6 => ?_⟩
  ·have hb6R := hb6; (try simp only [z1, z2, z3, z4, z5, z6, ne_eq, z7, z8, z9, z10, z11, z12] at hb6); (try (have hll := hire_len hb6)); (try (rw [td_if] at hb6)); (try (have hz := td_parts (day := day) hb6)); (try (have hokm : ∀ m ∈ upF day ms, okM m := fun m hm => (tm_go hz.1 m (List.mem_filter.1 hm).1).1)); (try (have hlc := len_charges (day := day) hll.1 hll.2))
   refine pwp_seq_plain rfl fun K7 hK7 => ?_
   refine p_step rfl (e_assign (v := .sc _) rfl) trivial ?_
   refine p_end (hK7 _ ?_); clear hK7 K7
   refine pwp_ret ?_
   refine ret_seq ?_
   refine end1 (v := .sc _) rfl ?_
   first
     | exact out_b rfl
     | exact out_b (acc_bad (by assumption))
     | exact absurd (by assumption) (acc_good hz)
     | exact absurd (by assumption) (acc_row hxy hdx hyb)
  ·have hb6R := hb6; (try simp only [z1, z2, z3, z4, z5, z6, ne_eq, z7, z8, z9, z10, z11, z12] at hb6); (try (have hll := hire_len hb6)); (try (rw [td_if] at hb6)); (try (have hz := td_parts (day := day) hb6)); (try (have hokm : ∀ m ∈ upF day ms, okM m := fun m hm => (tm_go hz.1 m (List.mem_filter.1 hm).1).1)); (try (have hlc := len_charges (day := day) hll.1 hll.2))
   refine pwp_skip ?_
   refine seq_norm (hK5 _ ?_); clear hK5 K5
   refine pwp_seq_plain rfl fun K8 hK8 => ?_
   refine p_step rfl (e_move (v := .lit _ _ _) rfl) trivial ?_
   refine p_call rfl (.cons inn_lit .nil) (termsC _ (by omega)) ?_
   refine p_step rfl (e_move (v := .lit _ _ _) rfl) trivial ?_
   refine p_call rfl (.cons inn_lit .nil) (movesC _ (by omega)) ?_
   refine p_step rfl (e_move (v := .sc _) rfl) trivial ?_
   refine p_call rfl (.cons inn_lit (.cons inn_lit (.cons inn_sc .nil))) (Account _ _ _ (by omega) (by omega)) ?_
   refine p_step rfl (e_move (v := .tup _) rfl) trivial ?_
   refine p_step rfl (e_ext (v := .lit _ _ _) rfl (by simp) rfl) trivial ?_
   refine p_step rfl (e_ext (v := .sc _) rfl (by simp) rfl) trivial ?_
   refine p_step rfl (e_assign (v := .lit _ _ _) rfl) trivial ?_
   refine p_step rfl (e_assign (v := .sc _) rfl) trivial ?_
   refine p_end (hK8 _ ?_); clear hK8 K8
   refine pwp_seq_plain rfl fun K9 hK9 => ?_
   refine p_step rfl (e_move (v := .lit _ _ _) rfl) trivial ?_
   refine p_call rfl (.cons inn_lit .nil) (termsC _ (by omega)) ?_
   refine p_step rfl (e_move (v := .lit _ _ _) rfl) trivial ?_
   refine p_call rfl (.cons inn_lit .nil) (movesC _ (by omega)) ?_
   refine p_step rfl (e_move (v := .sc _) rfl) trivial ?_
   refine p_call rfl (.cons inn_lit (.cons inn_lit (.cons inn_sc .nil))) (Balance _ _ _ (by omega) (by omega)) ?_
   refine p_step rfl (e_move (v := .tup _) rfl) trivial ?_
   refine p_step rfl (e_ext (v := .lit _ _ _) rfl (by simp) rfl) trivial ?_
   refine p_step rfl (e_ext (v := .sc _) rfl (by simp) rfl) trivial ?_
   refine p_step rfl (e_assign (v := .lit _ _ _) rfl) trivial ?_
   refine p_step rfl (e_assign (v := .sc _) rfl) trivial ?_
   refine p_end (hK9 _ ?_); clear hK9 K9
   refine pwp_seq_plain rfl fun K10 hK10 => ?_
   refine p_step rfl (e_move (v := .lit _ _ _) rfl) trivial ?_
   refine p_call rfl (.cons inn_lit .nil) (termsC _ (by omega)) ?_
   refine p_step rfl (e_move (v := .lit _ _ _) rfl) trivial ?_
   refine p_call rfl (.cons inn_lit .nil) (movesC _ (by omega)) ?_
   refine p_step rfl (e_move (v := .sc _) rfl) trivial ?_
   refine p_call rfl (.cons inn_lit (.cons inn_lit (.cons inn_sc .nil))) (OnHire _ _ _ (by omega) (by omega)) ?_
   refine p_step rfl (e_move (v := .tup _) rfl) trivial ?_
   refine p_step rfl (e_ext (v := .lit _ _ _) rfl (by simp) rfl) trivial ?_
   refine p_step rfl (e_ext (v := .sc _) rfl (by simp) rfl) trivial ?_
   refine p_step rfl (e_assign (v := .lit _ _ _) rfl) trivial ?_
   refine p_step rfl (e_assign (v := .sc _) rfl) trivial ?_
   refine p_end (hK10 _ ?_); clear hK10 K10
   refine pwp_seq_plain rfl fun K11 hK11 => ?_
   refine p_step rfl (e_move (v := .lit _ _ _) rfl) trivial ?_
   refine p_step rfl (e_move (v := .lit _ _ _) rfl) trivial ?_
   refine p_call rfl (.cons inn_lit (.cons inn_lit .nil)) (CheckR _ _ (by omega) (by omega)) ?_
   refine p_step rfl (e_assign (v := .sc _) rfl) trivial ?_
   refine p_end (hK11 _ ?_); clear hK11 K11
   refine pwp_seq_seq ?_
   refine pwp_seq_cutG [0, 1, 2, 7, 8, 9, 10, 11, 12, 13] [(58, .bool ((decide ((tmE (ts) (ms)) = (0))) && (!(decide (0 ≤ day ∧ day ≤ 20000)))))] (fun K12 hK12 => ?_) (fun r13 => ?_)
   ·skip
    refine pwp_gops rfl fun K14 hK14 => ?_
    refine g_begin ?_
    refine g_step rfl rfl rfl rfl (e_move (v := .sc _) rfl) trivial ?_
    refine g_step rfl rfl rfl rfl (e_eq rfl rfl) trivial ?_
    refine g_step rfl rfl rfl rfl (e_move (v := .sc _) rfl) trivial ?_
    refine g_cases (fun hb15 => ?_) (fun hb15 => ?_)
    ·have hb15R := hb15; (try simp only [z1, z2, z3, z4, z5, z6, ne_eq, z7, z8, z9, z10, z11, z12] at hb15); (try (have hll := hire_len hb15)); (try (rw [td_if] at hb15)); (try (have hz := td_parts (day := day) hb15)); (try (have hokm : ∀ m ∈ upF day ms, okM m := fun m hm => (tm_go hz.1 m (List.mem_filter.1 hm).1).1)); (try (have hlc := len_charges (day := day) hll.1 hll.2))
     refine g_step rfl rfl rfl rfl (e_move (v := .sc _) rfl) trivial ?_
     refine g_call rfl rfl rfl rfl (.cons inn_sc .nil) (IsDay _) ?_
     refine g_step rfl rfl rfl rfl (e_not rfl) trivial ?_
     refine g_step rfl rfl rfl rfl (e_pickT (v := .sc _) rfl rfl) trivial ?_
     refine g_end (ds := [55, 56, 57]) rfl rfl (hK14 _ ?_); clear hK14 K14
     exact seq_norm (hK12 _ ⟨rfl, rfl, rfl, rfl, rfl, rfl, rfl, rfl, rfl, rfl, trivial⟩ ⟨(congrArg PV.bool (show ((!(decide (0 ≤ day ∧ day ≤ 20000))) : Bool) = ((decide ((tmE (ts) (ms)) = (0))) && (!(decide (0 ≤ day ∧ day ≤ 20000)))) by first | rfl | ((try rw [hb15R]) <;> (first | rfl | (simp only [Bool.and_true, Bool.and_false, Bool.true_and, Bool.false_and, Bool.or_true, Bool.or_false, Bool.true_or, Bool.false_or, Bool.not_true, Bool.not_false, if_true, if_false, Bool.false_eq_true, reduceIte] <;> rfl))) | (simp only [hb15R, Bool.and_true, Bool.and_false, Bool.true_and, Bool.false_and, Bool.or_true, Bool.or_false, Bool.true_or, Bool.false_or, Bool.not_true, Bool.not_false, if_true, if_false, Bool.false_eq_true, reduceIte] <;> rfl))), trivial⟩)
    ·have hb15R := hb15; (try simp only [z1, z2, z3, z4, z5, z6, ne_eq, z7, z8, z9, z10, z11, z12] at hb15); (try (have hll := hire_len hb15)); (try (rw [td_if] at hb15)); (try (have hz := td_parts (day := day) hb15)); (try (have hokm : ∀ m ∈ upF day ms, okM m := fun m hm => (tm_go hz.1 m (List.mem_filter.1 hm).1).1)); (try (have hlc := len_charges (day := day) hll.1 hll.2))
     refine g_skip rfl rfl rfl ?_
     refine g_nocall rfl rfl rfl ?_
     refine g_skip rfl rfl rfl ?_
     refine g_step rfl rfl rfl rfl (e_pickF (v := .sc _) rfl rfl) trivial ?_
     refine g_end (ds := [55, 56, 57]) rfl rfl (hK14 _ ?_); clear hK14 K14
     exact seq_norm (hK12 _ ⟨rfl, rfl, rfl, rfl, rfl, rfl, rfl, rfl, rfl, rfl, trivial⟩ ⟨(congrArg PV.bool (show (false : Bool) = ((decide ((tmE (ts) (ms)) = (0))) && (!(decide (0 ≤ day ∧ day ≤ 20000)))) by first | rfl | ((try rw [hb15R]) <;> (first | rfl | (simp only [Bool.and_true, Bool.and_false, Bool.true_and, Bool.false_and, Bool.or_true, Bool.or_false, Bool.true_or, Bool.false_or, Bool.not_true, Bool.not_false, if_true, if_false, Bool.false_eq_true, reduceIte] <;> rfl))) | (simp only [hb15R, Bool.and_true, Bool.and_false, Bool.true_and, Bool.false_and, Bool.or_true, Bool.or_false, Bool.true_or, Bool.false_or, Bool.not_true, Bool.not_false, if_true, if_false, Bool.false_eq_true, reduceIte] <;> rfl))), trivial⟩)
   ·skip
    refine pwp_seq_cutG [0, 1, 2, 7, 8, 9, 10, 11, 12] [(13, .int (if ((decide ((tmE (ts) (ms)) = (0))) && (!(decide (0 ≤ day ∧ day ≤ 20000)))) = true then (2) else (tmE (ts) (ms))))] (fun K16 hK16 => ?_) (fun r17 => ?_)
    ·skip
     refine pwp_cond rfl (fun hb18 => ?_) (fun hb18 => ?_)
     ·have hb18R := hb18; (try simp only [z1, z2, z3, z4, z5, z6, ne_eq, z7, z8, z9, z10, z11, z12] at hb18); (try (have hll := hire_len hb18)); (try (rw [td_if] at hb18)); (try (have hz := td_parts (day := day) hb18)); (try (have hokm : ∀ m ∈ upF day ms, okM m := fun m hm => (tm_go hz.1 m (List.mem_filter.1 hm).1).1)); (try (have hlc := len_charges (day := day) hll.1 hll.2))
      refine pwp_plain rfl fun K19 hK19 => ?_
      refine p_step rfl (e_assign (v := .sc _) rfl) trivial ?_
      refine p_end (hK19 _ ?_); clear hK19 K19
      exact seq_norm (hK16 _ ⟨rfl, rfl, rfl, rfl, rfl, rfl, rfl, rfl, rfl, trivial⟩ ⟨(congrArg PV.int (show ((2) : Int) = (if ((decide ((tmE (ts) (ms)) = (0))) && (!(decide (0 ≤ day ∧ day ≤ 20000)))) = true then (2) else (tmE (ts) (ms))) by first | rfl | ((try rw [hb18R]) <;> (first | rfl | (simp only [Bool.and_true, Bool.and_false, Bool.true_and, Bool.false_and, Bool.or_true, Bool.or_false, Bool.true_or, Bool.false_or, Bool.not_true, Bool.not_false, if_true, if_false, Bool.false_eq_true, reduceIte] <;> rfl))) | (simp only [hb18R, Bool.and_true, Bool.and_false, Bool.true_and, Bool.false_and, Bool.or_true, Bool.or_false, Bool.true_or, Bool.false_or, Bool.not_true, Bool.not_false, if_true, if_false, Bool.false_eq_true, reduceIte] <;> rfl))), trivial⟩)
     ·have hb18R := hb18; (try simp only [z1, z2, z3, z4, z5, z6, ne_eq, z7, z8, z9, z10, z11, z12] at hb18); (try (have hll := hire_len hb18)); (try (rw [td_if] at hb18)); (try (have hz := td_parts (day := day) hb18)); (try (have hokm : ∀ m ∈ upF day ms, okM m := fun m hm => (tm_go hz.1 m (List.mem_filter.1 hm).1).1)); (try (have hlc := len_charges (day := day) hll.1 hll.2))
      refine pwp_skip ?_
      exact seq_norm (hK16 _ ⟨rfl, rfl, rfl, rfl, rfl, rfl, rfl, rfl, rfl, trivial⟩ ⟨(congrArg PV.int (show ((tmE (ts) (ms)) : Int) = (if ((decide ((tmE (ts) (ms)) = (0))) && (!(decide (0 ≤ day ∧ day ≤ 20000)))) = true then (2) else (tmE (ts) (ms))) by first | rfl | ((try rw [hb18R]) <;> (first | rfl | (simp only [Bool.and_true, Bool.and_false, Bool.true_and, Bool.false_and, Bool.or_true, Bool.or_false, Bool.true_or, Bool.false_or, Bool.not_true, Bool.not_false, if_true, if_false, Bool.false_eq_true, reduceIte] <;> rfl))) | (simp only [hb18R, Bool.and_true, Bool.and_false, Bool.true_and, Bool.false_and, Bool.or_true, Bool.or_false, Bool.true_or, Bool.false_or, Bool.not_true, Bool.not_false, if_true, if_false, Bool.false_eq_true, reduceIte] <;> rfl))), trivial⟩)
    ·skip
     refine pwp_seq_seq ?_
     refine pwp_seq_plain rfl fun K20 hK20 => ?_
     refine p_step rfl (e_move (v := .sc _) rfl) trivial ?_
     refine p_step rfl (e_ne rfl rfl) trivial ?_
     refine p_end (hK20 _ ?_); clear hK20 K20
     refine pwp_seq_cond rfl fun K21 hK21 => ⟨fun hb22 => ?_, fun hb22 => ?_⟩
     ·have hb22R := hb22; (try simp only [z1, z2, z3, z4, z5, z6, ne_eq, z7, z8, z9, z10, z11, z12] at hb22); (try (have hll := hire_len hb22)); (try (rw [td_if] at hb22)); (try (have hz := td_parts (day := day) hb22)); (try (have hokm : ∀ m ∈ upF day ms, okM m := fun m hm => (tm_go hz.1 m (List.mem_filter.1 hm).1).1)); (try (have hlc := len_charges (day := day) hll.1 hll.2))
      refine pwp_seq_cutG [] [(6, .bool ((((((decide ((tdE (ts) (ms) day) = (if ((decide ((tmE (ts) (ms)) = (0))) && (!(decide (0 ≤ day ∧ day ≤ 20000)))) = true then (2) else (tmE (ts) (ms))))) && (decide ((tdE (ts) (ms) day) = (if ((decide ((tmE (ts) (ms)) = (0))) && (!(decide (0 ≤ day ∧ day ≤ 20000)))) = true then (2) else (tmE (ts) (ms)))))) && (decide ((tdE (ts) (ms) day) = (if ((decide ((tmE (ts) (ms)) = (0))) && (!(decide (0 ≤ day ∧ day ≤ 20000)))) = true then (2) else (tmE (ts) (ms)))))) && (decide (((((accP (ts) (ms) day).map Charge.enc).length : Nat) : Int) = (0)))) && (decide (((((balP (ts) (ms) day).map B4.enc).length : Nat) : Int) = (0)))) && (decide ((((((balP (ts) (ms) day).map (fun x : B4 => x.d)).map ci).length : Nat) : Int) = (0)))))] (fun K23 hK23 => ?_) (fun r24 => ?_)
      ·skip
       refine pwp_gops rfl fun K25 hK25 => ?_
       refine g_begin ?_
       refine g_step rfl rfl rfl rfl (e_move (v := .sc _) rfl) trivial ?_
       refine g_step rfl rfl rfl rfl (e_move (v := .sc _) rfl) trivial ?_
       refine g_step rfl rfl rfl rfl (e_eq rfl rfl) trivial ?_
       refine g_step rfl rfl rfl rfl (e_move (v := .sc _) rfl) trivial ?_
       refine g_cases (fun hb26 => ?_) (fun hb26 => ?_)
       ·have hb26R := hb26; (try simp only [z1, z2, z3, z4, z5, z6, ne_eq, z7, z8, z9, z10, z11, z12] at hb26); (try (have hll := hire_len hb26)); (try (rw [td_if] at hb26)); (try (have hz := td_parts (day := day) hb26)); (try (have hokm : ∀ m ∈ upF day ms, okM m := fun m hm => (tm_go hz.1 m (List.mem_filter.1 hm).1).1)); (try (have hlc := len_charges (day := day) hll.1 hll.2))
        refine g_step rfl rfl rfl rfl (e_move (v := .sc _) rfl) trivial ?_
        refine g_step rfl rfl rfl rfl (e_move (v := .sc _) rfl) trivial ?_
        refine g_step rfl rfl rfl rfl (e_eq rfl rfl) trivial ?_
        refine g_step rfl rfl rfl rfl (e_pickT (v := .sc _) rfl rfl) trivial ?_
        refine g_step rfl rfl rfl rfl (e_move (v := .sc _) rfl) trivial ?_
        refine g_cases (fun hb27 => ?_) (fun hb27 => ?_)
        ·have hb27R := hb27; (try simp only [z1, z2, z3, z4, z5, z6, ne_eq, z7, z8, z9, z10, z11, z12] at hb27); (try (have hll := hire_len hb27)); (try (rw [td_if] at hb27)); (try (have hz := td_parts (day := day) hb27)); (try (have hokm : ∀ m ∈ upF day ms, okM m := fun m hm => (tm_go hz.1 m (List.mem_filter.1 hm).1).1)); (try (have hlc := len_charges (day := day) hll.1 hll.2))
         refine g_step rfl rfl rfl rfl (e_move (v := .sc _) rfl) trivial ?_
         refine g_step rfl rfl rfl rfl (e_move (v := .sc _) rfl) trivial ?_
         refine g_step rfl rfl rfl rfl (e_eq rfl rfl) trivial ?_
         refine g_step rfl rfl rfl rfl (e_pickT (v := .sc _) rfl rfl) trivial ?_
         refine g_step rfl rfl rfl rfl (e_move (v := .sc _) rfl) trivial ?_
         refine g_cases (fun hb28 => ?_) (fun hb28 => ?_)
         ·have hb28R := hb28; (try simp only [z1, z2, z3, z4, z5, z6, ne_eq, z7, z8, z9, z10, z11, z12] at hb28); (try (have hll := hire_len hb28)); (try (rw [td_if] at hb28)); (try (have hz := td_parts (day := day) hb28)); (try (have hokm : ∀ m ∈ upF day ms, okM m := fun m hm => (tm_go hz.1 m (List.mem_filter.1 hm).1).1)); (try (have hlc := len_charges (day := day) hll.1 hll.2))
          refine g_step rfl rfl rfl rfl (e_move (v := .lit _ _ _) rfl) trivial ?_
          refine g_step rfl rfl rfl rfl (e_len rfl (by kernel_rfl)) trivial ?_
          refine g_step rfl rfl rfl rfl (e_eq rfl rfl) trivial ?_
          refine g_step rfl rfl rfl rfl (e_pickT (v := .sc _) rfl rfl) trivial ?_
          refine g_step rfl rfl rfl rfl (e_move (v := .sc _) rfl) trivial ?_
          refine g_cases (fun hb29 => ?_) (fun hb29 => ?_)
          ·have hb29R := hb29; (try simp only [z1, z2, z3, z4, z5, z6, ne_eq, z7, z8, z9, z10, z11, z12] at hb29); (try (have hll := hire_len hb29)); (try (rw [td_if] at hb29)); (try (have hz := td_parts (day := day) hb29)); (try (have hokm : ∀ m ∈ upF day ms, okM m := fun m hm => (tm_go hz.1 m (List.mem_filter.1 hm).1).1)); (try (have hlc := len_charges (day := day) hll.1 hll.2))
           refine g_step rfl rfl rfl rfl (e_move (v := .lit _ _ _) rfl) trivial ?_
           refine g_step rfl rfl rfl rfl (e_len rfl (by kernel_rfl)) trivial ?_
           refine g_step rfl rfl rfl rfl (e_eq rfl rfl) trivial ?_
           refine g_step rfl rfl rfl rfl (e_pickT (v := .sc _) rfl rfl) trivial ?_
           refine g_step rfl rfl rfl rfl (e_move (v := .sc _) rfl) trivial ?_
           refine g_cases (fun hb30 => ?_) (fun hb30 => ?_)
           ·have hb30R := hb30; (try simp only [z1, z2, z3, z4, z5, z6, ne_eq, z7, z8, z9, z10, z11, z12] at hb30); (try (have hll := hire_len hb30)); (try (rw [td_if] at hb30)); (try (have hz := td_parts (day := day) hb30)); (try (have hokm : ∀ m ∈ upF day ms, okM m := fun m hm => (tm_go hz.1 m (List.mem_filter.1 hm).1).1)); (try (have hlc := len_charges (day := day) hll.1 hll.2))
            refine g_step rfl rfl rfl rfl (e_move (v := .lit _ _ _) rfl) trivial ?_
            refine g_step rfl rfl rfl rfl (e_len rfl (by kernel_rfl)) trivial ?_
            refine g_step rfl rfl rfl rfl (e_eq rfl rfl) trivial ?_
            refine g_step rfl rfl rfl rfl (e_pickT (v := .sc _) rfl rfl) trivial ?_
            refine g_step rfl rfl rfl rfl (e_assign (v := .sc _) rfl) trivial ?_
            refine g_end (ds := [65, 66, 67, 70, 71, 72, 75, 76, 77, 80, 81, 82, 85, 86, 87]) rfl rfl (hK25 _ ?_); clear hK25 K25
            exact seq_norm (hK23 _ trivial ⟨(congrArg PV.bool (show ((decide ((((((balP (ts) (ms) day).map (fun x : B4 => x.d)).map ci).length : Nat) : Int) = (0))) : Bool) = ((((((decide ((tdE (ts) (ms) day) = (if ((decide ((tmE (ts) (ms)) = (0))) && (!(decide (0 ≤ day ∧ day ≤ 20000)))) = true then (2) else (tmE (ts) (ms))))) && (decide ((tdE (ts) (ms) day) = (if ((decide ((tmE (ts) (ms)) = (0))) && (!(decide (0 ≤ day ∧ day ≤ 20000)))) = true then (2) else (tmE (ts) (ms)))))) && (decide ((tdE (ts) (ms) day) = (if ((decide ((tmE (ts) (ms)) = (0))) && (!(decide (0 ≤ day ∧ day ≤ 20000)))) = true then (2) else (tmE (ts) (ms)))))) && (decide (((((accP (ts) (ms) day).map Charge.enc).length : Nat) : Int) = (0)))) && (decide (((((balP (ts) (ms) day).map B4.enc).length : Nat) : Int) = (0)))) && (decide ((((((balP (ts) (ms) day).map (fun x : B4 => x.d)).map ci).length : Nat) : Int) = (0)))) by first | rfl | ((try rw [hb30R]) <;> (try rw [hb29R]) <;> (try rw [hb28R]) <;> (try rw [hb27R]) <;> (try rw [hb26R]) <;> (first | rfl | (simp only [Bool.and_true, Bool.and_false, Bool.true_and, Bool.false_and, Bool.or_true, Bool.or_false, Bool.true_or, Bool.false_or, Bool.not_true, Bool.not_false, if_true, if_false, Bool.false_eq_true, reduceIte] <;> rfl))) | (simp only [hb26R, hb27R, hb28R, hb29R, hb30R, Bool.and_true, Bool.and_false, Bool.true_and, Bool.false_and, Bool.or_true, Bool.or_false, Bool.true_or, Bool.false_or, Bool.not_true, Bool.not_false, if_true, if_false, Bool.false_eq_true, reduceIte] <;> rfl))), trivial⟩)
           ·have hb30R := hb30; (try simp only [z1, z2, z3, z4, z5, z6, ne_eq, z7, z8, z9, z10, z11, z12] at hb30); (try (have hll := hire_len hb30)); (try (rw [td_if] at hb30)); (try (have hz := td_parts (day := day) hb30)); (try (have hokm : ∀ m ∈ upF day ms, okM m := fun m hm => (tm_go hz.1 m (List.mem_filter.1 hm).1).1)); (try (have hlc := len_charges (day := day) hll.1 hll.2))
            refine g_skip rfl rfl rfl ?_
            refine g_skip rfl rfl rfl ?_
            refine g_skip rfl rfl rfl ?_
            refine g_step rfl rfl rfl rfl (e_pickF (v := .sc _) rfl rfl) trivial ?_
            refine g_step rfl rfl rfl rfl (e_assign (v := .sc _) rfl) trivial ?_
            refine g_end (ds := [65, 66, 67, 70, 71, 72, 75, 76, 77, 80, 81, 82, 85, 86, 87]) rfl rfl (hK25 _ ?_); clear hK25 K25
            exact seq_norm (hK23 _ trivial ⟨(congrArg PV.bool (show (false : Bool) = ((((((decide ((tdE (ts) (ms) day) = (if ((decide ((tmE (ts) (ms)) = (0))) && (!(decide (0 ≤ day ∧ day ≤ 20000)))) = true then (2) else (tmE (ts) (ms))))) && (decide ((tdE (ts) (ms) day) = (if ((decide ((tmE (ts) (ms)) = (0))) && (!(decide (0 ≤ day ∧ day ≤ 20000)))) = true then (2) else (tmE (ts) (ms)))))) && (decide ((tdE (ts) (ms) day) = (if ((decide ((tmE (ts) (ms)) = (0))) && (!(decide (0 ≤ day ∧ day ≤ 20000)))) = true then (2) else (tmE (ts) (ms)))))) && (decide (((((accP (ts) (ms) day).map Charge.enc).length : Nat) : Int) = (0)))) && (decide (((((balP (ts) (ms) day).map B4.enc).length : Nat) : Int) = (0)))) && (decide ((((((balP (ts) (ms) day).map (fun x : B4 => x.d)).map ci).length : Nat) : Int) = (0)))) by first | rfl | ((try rw [hb30R]) <;> (try rw [hb29R]) <;> (try rw [hb28R]) <;> (try rw [hb27R]) <;> (try rw [hb26R]) <;> (first | rfl | (simp only [Bool.and_true, Bool.and_false, Bool.true_and, Bool.false_and, Bool.or_true, Bool.or_false, Bool.true_or, Bool.false_or, Bool.not_true, Bool.not_false, if_true, if_false, Bool.false_eq_true, reduceIte] <;> rfl))) | (simp only [hb26R, hb27R, hb28R, hb29R, hb30R, Bool.and_true, Bool.and_false, Bool.true_and, Bool.false_and, Bool.or_true, Bool.or_false, Bool.true_or, Bool.false_or, Bool.not_true, Bool.not_false, if_true, if_false, Bool.false_eq_true, reduceIte] <;> rfl))), trivial⟩)
          ·have hb29R := hb29; (try simp only [z1, z2, z3, z4, z5, z6, ne_eq, z7, z8, z9, z10, z11, z12] at hb29); (try (have hll := hire_len hb29)); (try (rw [td_if] at hb29)); (try (have hz := td_parts (day := day) hb29)); (try (have hokm : ∀ m ∈ upF day ms, okM m := fun m hm => (tm_go hz.1 m (List.mem_filter.1 hm).1).1)); (try (have hlc := len_charges (day := day) hll.1 hll.2))
           refine g_skip rfl rfl rfl ?_
           refine g_skip rfl rfl rfl ?_
           refine g_skip rfl rfl rfl ?_
           refine g_step rfl rfl rfl rfl (e_pickF (v := .sc _) rfl rfl) trivial ?_
           refine g_step rfl rfl rfl rfl (e_move (v := .sc _) rfl) trivial ?_
           refine g_skip rfl rfl rfl ?_
           refine g_skip rfl rfl rfl ?_
           refine g_skip rfl rfl rfl ?_
           refine g_step rfl rfl rfl rfl (e_pickF (v := .sc _) rfl rfl) trivial ?_
           refine g_step rfl rfl rfl rfl (e_assign (v := .sc _) rfl) trivial ?_
           refine g_end (ds := [65, 66, 67, 70, 71, 72, 75, 76, 77, 80, 81, 82, 85, 86, 87]) rfl rfl (hK25 _ ?_); clear hK25 K25
           exact seq_norm (hK23 _ trivial ⟨(congrArg PV.bool (show (false : Bool) = ((((((decide ((tdE (ts) (ms) day) = (if ((decide ((tmE (ts) (ms)) = (0))) && (!(decide (0 ≤ day ∧ day ≤ 20000)))) = true then (2) else (tmE (ts) (ms))))) && (decide ((tdE (ts) (ms) day) = (if ((decide ((tmE (ts) (ms)) = (0))) && (!(decide (0 ≤ day ∧ day ≤ 20000)))) = true then (2) else (tmE (ts) (ms)))))) && (decide ((tdE (ts) (ms) day) = (if ((decide ((tmE (ts) (ms)) = (0))) && (!(decide (0 ≤ day ∧ day ≤ 20000)))) = true then (2) else (tmE (ts) (ms)))))) && (decide (((((accP (ts) (ms) day).map Charge.enc).length : Nat) : Int) = (0)))) && (decide (((((balP (ts) (ms) day).map B4.enc).length : Nat) : Int) = (0)))) && (decide ((((((balP (ts) (ms) day).map (fun x : B4 => x.d)).map ci).length : Nat) : Int) = (0)))) by first | rfl | ((try rw [hb29R]) <;> (try rw [hb28R]) <;> (try rw [hb27R]) <;> (try rw [hb26R]) <;> (first | rfl | (simp only [Bool.and_true, Bool.and_false, Bool.true_and, Bool.false_and, Bool.or_true, Bool.or_false, Bool.true_or, Bool.false_or, Bool.not_true, Bool.not_false, if_true, if_false, Bool.false_eq_true, reduceIte] <;> rfl))) | (simp only [hb26R, hb27R, hb28R, hb29R, Bool.and_true, Bool.and_false, Bool.true_and, Bool.false_and, Bool.or_true, Bool.or_false, Bool.true_or, Bool.false_or, Bool.not_true, Bool.not_false, if_true, if_false, Bool.false_eq_true, reduceIte] <;> rfl))), trivial⟩)
         ·have hb28R := hb28; (try simp only [z1, z2, z3, z4, z5, z6, ne_eq, z7, z8, z9, z10, z11, z12] at hb28); (try (have hll := hire_len hb28)); (try (rw [td_if] at hb28)); (try (have hz := td_parts (day := day) hb28)); (try (have hokm : ∀ m ∈ upF day ms, okM m := fun m hm => (tm_go hz.1 m (List.mem_filter.1 hm).1).1)); (try (have hlc := len_charges (day := day) hll.1 hll.2))
          refine g_skip rfl rfl rfl ?_
          refine g_skip rfl rfl rfl ?_
          refine g_skip rfl rfl rfl ?_
          refine g_step rfl rfl rfl rfl (e_pickF (v := .sc _) rfl rfl) trivial ?_
          refine g_step rfl rfl rfl rfl (e_move (v := .sc _) rfl) trivial ?_
          refine g_skip rfl rfl rfl ?_
          refine g_skip rfl rfl rfl ?_
          refine g_skip rfl rfl rfl ?_
          refine g_step rfl rfl rfl rfl (e_pickF (v := .sc _) rfl rfl) trivial ?_
          refine g_step rfl rfl rfl rfl (e_move (v := .sc _) rfl) trivial ?_
          refine g_skip rfl rfl rfl ?_
          refine g_skip rfl rfl rfl ?_
          refine g_skip rfl rfl rfl ?_
          refine g_step rfl rfl rfl rfl (e_pickF (v := .sc _) rfl rfl) trivial ?_
          refine g_step rfl rfl rfl rfl (e_assign (v := .sc _) rfl) trivial ?_
          refine g_end (ds := [65, 66, 67, 70, 71, 72, 75, 76, 77, 80, 81, 82, 85, 86, 87]) rfl rfl (hK25 _ ?_); clear hK25 K25
          exact seq_norm (hK23 _ trivial ⟨(congrArg PV.bool (show (false : Bool) = ((((((decide ((tdE (ts) (ms) day) = (if ((decide ((tmE (ts) (ms)) = (0))) && (!(decide (0 ≤ day ∧ day ≤ 20000)))) = true then (2) else (tmE (ts) (ms))))) && (decide ((tdE (ts) (ms) day) = (if ((decide ((tmE (ts) (ms)) = (0))) && (!(decide (0 ≤ day ∧ day ≤ 20000)))) = true then (2) else (tmE (ts) (ms)))))) && (decide ((tdE (ts) (ms) day) = (if ((decide ((tmE (ts) (ms)) = (0))) && (!(decide (0 ≤ day ∧ day ≤ 20000)))) = true then (2) else (tmE (ts) (ms)))))) && (decide (((((accP (ts) (ms) day).map Charge.enc).length : Nat) : Int) = (0)))) && (decide (((((balP (ts) (ms) day).map B4.enc).length : Nat) : Int) = (0)))) && (decide ((((((balP (ts) (ms) day).map (fun x : B4 => x.d)).map ci).length : Nat) : Int) = (0)))) by first | rfl | ((try rw [hb28R]) <;> (try rw [hb27R]) <;> (try rw [hb26R]) <;> (first | rfl | (simp only [Bool.and_true, Bool.and_false, Bool.true_and, Bool.false_and, Bool.or_true, Bool.or_false, Bool.true_or, Bool.false_or, Bool.not_true, Bool.not_false, if_true, if_false, Bool.false_eq_true, reduceIte] <;> rfl))) | (simp only [hb26R, hb27R, hb28R, Bool.and_true, Bool.and_false, Bool.true_and, Bool.false_and, Bool.or_true, Bool.or_false, Bool.true_or, Bool.false_or, Bool.not_true, Bool.not_false, if_true, if_false, Bool.false_eq_true, reduceIte] <;> rfl))), trivial⟩)
        ·have hb27R := hb27; (try simp only [z1, z2, z3, z4, z5, z6, ne_eq, z7, z8, z9, z10, z11, z12] at hb27); (try (have hll := hire_len hb27)); (try (rw [td_if] at hb27)); (try (have hz := td_parts (day := day) hb27)); (try (have hokm : ∀ m ∈ upF day ms, okM m := fun m hm => (tm_go hz.1 m (List.mem_filter.1 hm).1).1)); (try (have hlc := len_charges (day := day) hll.1 hll.2))
         refine g_skip rfl rfl rfl ?_
         refine g_skip rfl rfl rfl ?_
         refine g_skip rfl rfl rfl ?_
         refine g_step rfl rfl rfl rfl (e_pickF (v := .sc _) rfl rfl) trivial ?_
         refine g_step rfl rfl rfl rfl (e_move (v := .sc _) rfl) trivial ?_
         refine g_skip rfl rfl rfl ?_
         refine g_skip rfl rfl rfl ?_
         refine g_skip rfl rfl rfl ?_
         refine g_step rfl rfl rfl rfl (e_pickF (v := .sc _) rfl rfl) trivial ?_
         refine g_step rfl rfl rfl rfl (e_move (v := .sc _) rfl) trivial ?_
         refine g_skip rfl rfl rfl ?_
         refine g_skip rfl rfl rfl ?_
         refine g_skip rfl rfl rfl ?_
         refine g_step rfl rfl rfl rfl (e_pickF (v := .sc _) rfl rfl) trivial ?_
         refine g_step rfl rfl rfl rfl (e_move (v := .sc _) rfl) trivial ?_
         refine g_skip rfl rfl rfl ?_
         refine g_skip rfl rfl rfl ?_
         refine g_skip rfl rfl rfl ?_
         refine g_step rfl rfl rfl rfl (e_pickF (v := .sc _) rfl rfl) trivial ?_
         refine g_step rfl rfl rfl rfl (e_assign (v := .sc _) rfl) trivial ?_
         refine g_end (ds := [65, 66, 67, 70, 71, 72, 75, 76, 77, 80, 81, 82, 85, 86, 87]) rfl rfl (hK25 _ ?_); clear hK25 K25
         exact seq_norm (hK23 _ trivial ⟨(congrArg PV.bool (show (false : Bool) = ((((((decide ((tdE (ts) (ms) day) = (if ((decide ((tmE (ts) (ms)) = (0))) && (!(decide (0 ≤ day ∧ day ≤ 20000)))) = true then (2) else (tmE (ts) (ms))))) && (decide ((tdE (ts) (ms) day) = (if ((decide ((tmE (ts) (ms)) = (0))) && (!(decide (0 ≤ day ∧ day ≤ 20000)))) = true then (2) else (tmE (ts) (ms)))))) && (decide ((tdE (ts) (ms) day) = (if ((decide ((tmE (ts) (ms)) = (0))) && (!(decide (0 ≤ day ∧ day ≤ 20000)))) = true then (2) else (tmE (ts) (ms)))))) && (decide (((((accP (ts) (ms) day).map Charge.enc).length : Nat) : Int) = (0)))) && (decide (((((balP (ts) (ms) day).map B4.enc).length : Nat) : Int) = (0)))) && (decide ((((((balP (ts) (ms) day).map (fun x : B4 => x.d)).map ci).length : Nat) : Int) = (0)))) by first | rfl | ((try rw [hb27R]) <;> (try rw [hb26R]) <;> (first | rfl | (simp only [Bool.and_true, Bool.and_false, Bool.true_and, Bool.false_and, Bool.or_true, Bool.or_false, Bool.true_or, Bool.false_or, Bool.not_true, Bool.not_false, if_true, if_false, Bool.false_eq_true, reduceIte] <;> rfl))) | (simp only [hb26R, hb27R, Bool.and_true, Bool.and_false, Bool.true_and, Bool.false_and, Bool.or_true, Bool.or_false, Bool.true_or, Bool.false_or, Bool.not_true, Bool.not_false, if_true, if_false, Bool.false_eq_true, reduceIte] <;> rfl))), trivial⟩)
       ·have hb26R := hb26; (try simp only [z1, z2, z3, z4, z5, z6, ne_eq, z7, z8, z9, z10, z11, z12] at hb26); (try (have hll := hire_len hb26)); (try (rw [td_if] at hb26)); (try (have hz := td_parts (day := day) hb26)); (try (have hokm : ∀ m ∈ upF day ms, okM m := fun m hm => (tm_go hz.1 m (List.mem_filter.1 hm).1).1)); (try (have hlc := len_charges (day := day) hll.1 hll.2))
        refine g_skip rfl rfl rfl ?_
        refine g_skip rfl rfl rfl ?_
        refine g_skip rfl rfl rfl ?_
        refine g_step rfl rfl rfl rfl (e_pickF (v := .sc _) rfl rfl) trivial ?_
        refine g_step rfl rfl rfl rfl (e_move (v := .sc _) rfl) trivial ?_
        refine g_skip rfl rfl rfl ?_
        refine g_skip rfl rfl rfl ?_
        refine g_skip rfl rfl rfl ?_
        refine g_step rfl rfl rfl rfl (e_pickF (v := .sc _) rfl rfl) trivial ?_
        refine g_step rfl rfl rfl rfl (e_move (v := .sc _) rfl) trivial ?_
        refine g_skip rfl rfl rfl ?_
        refine g_skip rfl rfl rfl ?_
        refine g_skip rfl rfl rfl ?_
        refine g_step rfl rfl rfl rfl (e_pickF (v := .sc _) rfl rfl) trivial ?_
        refine g_step rfl rfl rfl rfl (e_move (v := .sc _) rfl) trivial ?_
        refine g_skip rfl rfl rfl ?_
        refine g_skip rfl rfl rfl ?_
        refine g_skip rfl rfl rfl ?_
        refine g_step rfl rfl rfl rfl (e_pickF (v := .sc _) rfl rfl) trivial ?_
        refine g_step rfl rfl rfl rfl (e_move (v := .sc _) rfl) trivial ?_
        refine g_skip rfl rfl rfl ?_
        refine g_skip rfl rfl rfl ?_
        refine g_skip rfl rfl rfl ?_
        refine g_step rfl rfl rfl rfl (e_pickF (v := .sc _) rfl rfl) trivial ?_
        refine g_step rfl rfl rfl rfl (e_assign (v := .sc _) rfl) trivial ?_
        refine g_end (ds := [65, 66, 67, 70, 71, 72, 75, 76, 77, 80, 81, 82, 85, 86, 87]) rfl rfl (hK25 _ ?_); clear hK25 K25
        exact seq_norm (hK23 _ trivial ⟨(congrArg PV.bool (show (false : Bool) = ((((((decide ((tdE (ts) (ms) day) = (if ((decide ((tmE (ts) (ms)) = (0))) && (!(decide (0 ≤ day ∧ day ≤ 20000)))) = true then (2) else (tmE (ts) (ms))))) && (decide ((tdE (ts) (ms) day) = (if ((decide ((tmE (ts) (ms)) = (0))) && (!(decide (0 ≤ day ∧ day ≤ 20000)))) = true then (2) else (tmE (ts) (ms)))))) && (decide ((tdE (ts) (ms) day) = (if ((decide ((tmE (ts) (ms)) = (0))) && (!(decide (0 ≤ day ∧ day ≤ 20000)))) = true then (2) else (tmE (ts) (ms)))))) && (decide (((((accP (ts) (ms) day).map Charge.enc).length : Nat) : Int) = (0)))) && (decide (((((balP (ts) (ms) day).map B4.enc).length : Nat) : Int) = (0)))) && (decide ((((((balP (ts) (ms) day).map (fun x : B4 => x.d)).map ci).length : Nat) : Int) = (0)))) by first | rfl | ((try rw [hb26R]) <;> (first | rfl | (simp only [Bool.and_true, Bool.and_false, Bool.true_and, Bool.false_and, Bool.or_true, Bool.or_false, Bool.true_or, Bool.false_or, Bool.not_true, Bool.not_false, if_true, if_false, Bool.false_eq_true, reduceIte] <;> rfl))) | (simp only [hb26R, Bool.and_true, Bool.and_false, Bool.true_and, Bool.false_and, Bool.or_true, Bool.or_false, Bool.true_or, Bool.false_or, Bool.not_true, Bool.not_false, if_true, if_false, Bool.false_eq_true, reduceIte] <;> rfl))), trivial⟩)
      ·skip
       refine pwp_ret ?_
       refine ret_seq ?_
       refine end1 (v := .sc _) rfl ?_
       first
         | exact out_b rfl
         | exact out_b (acc_bad (by assumption))
         | exact absurd (by assumption) (acc_good hz)
         | exact absurd (by assumption) (acc_row hxy hdx hyb)
     ·have hb22R := hb22; (try simp only [z1, z2, z3, z4, z5, z6, ne_eq, z7, z8, z9, z10, z11, z12] at hb22); (try (have hll := hire_len hb22)); (try (rw [td_if] at hb22)); (try (have hz := td_parts (day := day) hb22)); (try (have hokm : ∀ m ∈ upF day ms, okM m := fun m hm => (tm_go hz.1 m (List.mem_filter.1 hm).1).1)); (try (have hlc := len_charges (day := day) hll.1 hll.2))
      refine pwp_skip ?_
      refine seq_norm (hK21 _ ?_); clear hK21 K21
      refine pwp_seq_plain rfl fun K31 hK31 => ?_
      refine p_step rfl (e_move (v := .lit _ _ _) rfl) trivial ?_
      refine p_step rfl (e_move (v := .lit _ _ _) rfl) trivial ?_
      refine p_step rfl (e_move (v := .sc _) rfl) trivial ?_
      refine p_call rfl (.cons inn_lit (.cons inn_lit (.cons inn_sc .nil))) (BalanceR _ _ _ (by omega) (by omega) hokm) ?_
      refine p_step rfl (e_assign (v := .lit _ _ _) rfl) trivial ?_
      refine p_end (hK31 _ ?_); clear hK31 K31
      refine pwp_seq_seq ?_
      refine pwp_seq_cutG [9, 11, 14] [(125, .bool ((((((decide ((tdE (ts) (ms) day) ≠ (0))) || (decide ((tdE (ts) (ms) day) ≠ (0)))) || (decide ((tdE (ts) (ms) day) ≠ (0)))) || (!(decide (accP (ts) (ms) day = accT (ts) (ms) day)))) || (decide (((((balP (ts) (ms) day).map B4.enc).length : Nat) : Int) ≠ ((((balT (ts) (upF day (ms))).map B4.enc).length : Nat) : Int)))) || (decide ((((((balP (ts) (ms) day).map (fun x : B4 => x.d)).map ci).length : Nat) : Int) ≠ ((((balT (ts) (upF day (ms))).map B4.enc).length : Nat) : Int)))))] (fun K32 hK32 => ?_) (fun r33 => ?_)
      ·skip
       refine pwp_gops rfl fun K34 hK34 => ?_
       refine g_begin ?_
       refine g_step rfl rfl rfl rfl (e_move (v := .sc _) rfl) trivial ?_
       refine g_step rfl rfl rfl rfl (e_ne rfl rfl) trivial ?_
       refine g_step rfl rfl rfl rfl (e_move (v := .sc _) rfl) trivial ?_
       refine g_cases (fun hb35 => ?_) (fun hb35 => ?_)
       ·have hb35R := hb35; (try simp only [z1, z2, z3, z4, z5, z6, ne_eq, z7, z8, z9, z10, z11, z12] at hb35); (try (have hll := hire_len hb35)); (try (rw [td_if] at hb35)); (try (have hz := td_parts (day := day) hb35)); (try (have hokm : ∀ m ∈ upF day ms, okM m := fun m hm => (tm_go hz.1 m (List.mem_filter.1 hm).1).1)); (try (have hlc := len_charges (day := day) hll.1 hll.2))
        refine g_skip rfl rfl rfl ?_
        refine g_skip rfl rfl rfl ?_
        refine g_step rfl rfl rfl rfl (e_pickT (v := .sc _) rfl rfl) trivial ?_
        refine g_step rfl rfl rfl rfl (e_move (v := .sc _) rfl) trivial ?_
        refine g_skip rfl rfl rfl ?_
        refine g_skip rfl rfl rfl ?_
        refine g_step rfl rfl rfl rfl (e_pickT (v := .sc _) rfl rfl) trivial ?_
        refine g_step rfl rfl rfl rfl (e_move (v := .sc _) rfl) trivial ?_
        refine g_skip rfl rfl rfl ?_
        refine g_skip rfl rfl rfl ?_
        refine g_skip rfl rfl rfl ?_
        refine g_skip rfl rfl rfl ?_
        refine g_nocall rfl rfl rfl ?_
        refine g_nocall rfl rfl rfl ?_
        refine g_skip rfl rfl rfl ?_
        refine g_step rfl rfl rfl rfl (e_pickT (v := .sc _) rfl rfl) trivial ?_
        refine g_step rfl rfl rfl rfl (e_move (v := .sc _) rfl) trivial ?_
        refine g_skip rfl rfl rfl ?_
        refine g_skip rfl rfl rfl ?_
        refine g_skip rfl rfl rfl ?_
        refine g_skip rfl rfl rfl ?_
        refine g_skip rfl rfl rfl ?_
        refine g_step rfl rfl rfl rfl (e_pickT (v := .sc _) rfl rfl) trivial ?_
        refine g_step rfl rfl rfl rfl (e_move (v := .sc _) rfl) trivial ?_
        refine g_skip rfl rfl rfl ?_
        refine g_skip rfl rfl rfl ?_
        refine g_skip rfl rfl rfl ?_
        refine g_skip rfl rfl rfl ?_
        refine g_skip rfl rfl rfl ?_
        refine g_step rfl rfl rfl rfl (e_pickT (v := .sc _) rfl rfl) trivial ?_
        refine g_end (ds := [96, 97, 100, 101, 104, 105, 106, 107, 108, 109, 110, 113, 114, 115, 116, 117, 120, 121, 122, 123, 124]) rfl rfl (hK34 _ ?_); clear hK34 K34
        exact seq_norm (hK32 _ ⟨rfl, rfl, rfl, trivial⟩ ⟨(congrArg PV.bool (show (true : Bool) = ((((((decide ((tdE (ts) (ms) day) ≠ (0))) || (decide ((tdE (ts) (ms) day) ≠ (0)))) || (decide ((tdE (ts) (ms) day) ≠ (0)))) || (!(decide (accP (ts) (ms) day = accT (ts) (ms) day)))) || (decide (((((balP (ts) (ms) day).map B4.enc).length : Nat) : Int) ≠ ((((balT (ts) (upF day (ms))).map B4.enc).length : Nat) : Int)))) || (decide ((((((balP (ts) (ms) day).map (fun x : B4 => x.d)).map ci).length : Nat) : Int) ≠ ((((balT (ts) (upF day (ms))).map B4.enc).length : Nat) : Int)))) by first | rfl | ((try rw [hb35R]) <;> (first | rfl | (simp only [Bool.and_true, Bool.and_false, Bool.true_and, Bool.false_and, Bool.or_true, Bool.or_false, Bool.true_or, Bool.false_or, Bool.not_true, Bool.not_false, if_true, if_false, Bool.false_eq_true, reduceIte] <;> rfl))) | (simp only [hb35R, Bool.and_true, Bool.and_false, Bool.true_and, Bool.false_and, Bool.or_true, Bool.or_false, Bool.true_or, Bool.false_or, Bool.not_true, Bool.not_false, if_true, if_false, Bool.false_eq_true, reduceIte] <;> rfl))), trivial⟩)
       ·have hb35R := hb35; (try simp only [z1, z2, z3, z4, z5, z6, ne_eq, z7, z8, z9, z10, z11, z12] at hb35); (try (have hll := hire_len hb35)); (try (rw [td_if] at hb35)); (try (have hz := td_parts (day := day) hb35)); (try (have hokm : ∀ m ∈ upF day ms, okM m := fun m hm => (tm_go hz.1 m (List.mem_filter.1 hm).1).1)); (try (have hlc := len_charges (day := day) hll.1 hll.2))
        refine g_step rfl rfl rfl rfl (e_move (v := .sc _) rfl) trivial ?_
        refine g_step rfl rfl rfl rfl (e_ne rfl rfl) trivial ?_
        refine g_step rfl rfl rfl rfl (e_pickF (v := .sc _) rfl rfl) trivial ?_
        refine g_step rfl rfl rfl rfl (e_move (v := .sc _) rfl) trivial ?_
        refine g_cases (fun hb36 => ?_) (fun hb36 => ?_)
        ·have hb36R := hb36; (try simp only [z1, z2, z3, z4, z5, z6, ne_eq, z7, z8, z9, z10, z11, z12] at hb36); (try (have hll := hire_len hb36)); (try (rw [td_if] at hb36)); (try (have hz := td_parts (day := day) hb36)); (try (have hokm : ∀ m ∈ upF day ms, okM m := fun m hm => (tm_go hz.1 m (List.mem_filter.1 hm).1).1)); (try (have hlc := len_charges (day := day) hll.1 hll.2))
         refine g_skip rfl rfl rfl ?_
         refine g_skip rfl rfl rfl ?_
         refine g_step rfl rfl rfl rfl (e_pickT (v := .sc _) rfl rfl) trivial ?_
         refine g_step rfl rfl rfl rfl (e_move (v := .sc _) rfl) trivial ?_
         refine g_skip rfl rfl rfl ?_
         refine g_skip rfl rfl rfl ?_
         refine g_skip rfl rfl rfl ?_
         refine g_skip rfl rfl rfl ?_
         refine g_nocall rfl rfl rfl ?_
         refine g_nocall rfl rfl rfl ?_
         refine g_skip rfl rfl rfl ?_
         refine g_step rfl rfl rfl rfl (e_pickT (v := .sc _) rfl rfl) trivial ?_
         refine g_step rfl rfl rfl rfl (e_move (v := .sc _) rfl) trivial ?_
         refine g_skip rfl rfl rfl ?_
         refine g_skip rfl rfl rfl ?_
         refine g_skip rfl rfl rfl ?_
         refine g_skip rfl rfl rfl ?_
         refine g_skip rfl rfl rfl ?_
         refine g_step rfl rfl rfl rfl (e_pickT (v := .sc _) rfl rfl) trivial ?_
         refine g_step rfl rfl rfl rfl (e_move (v := .sc _) rfl) trivial ?_
         refine g_skip rfl rfl rfl ?_
         refine g_skip rfl rfl rfl ?_
         refine g_skip rfl rfl rfl ?_
         refine g_skip rfl rfl rfl ?_
         refine g_skip rfl rfl rfl ?_
         refine g_step rfl rfl rfl rfl (e_pickT (v := .sc _) rfl rfl) trivial ?_
         refine g_end (ds := [96, 97, 100, 101, 104, 105, 106, 107, 108, 109, 110, 113, 114, 115, 116, 117, 120, 121, 122, 123, 124]) rfl rfl (hK34 _ ?_); clear hK34 K34
         exact seq_norm (hK32 _ ⟨rfl, rfl, rfl, trivial⟩ ⟨(congrArg PV.bool (show (true : Bool) = ((((((decide ((tdE (ts) (ms) day) ≠ (0))) || (decide ((tdE (ts) (ms) day) ≠ (0)))) || (decide ((tdE (ts) (ms) day) ≠ (0)))) || (!(decide (accP (ts) (ms) day = accT (ts) (ms) day)))) || (decide (((((balP (ts) (ms) day).map B4.enc).length : Nat) : Int) ≠ ((((balT (ts) (upF day (ms))).map B4.enc).length : Nat) : Int)))) || (decide ((((((balP (ts) (ms) day).map (fun x : B4 => x.d)).map ci).length : Nat) : Int) ≠ ((((balT (ts) (upF day (ms))).map B4.enc).length : Nat) : Int)))) by first | rfl | ((try rw [hb36R]) <;> (try rw [hb35R]) <;> (first | rfl | (simp only [Bool.and_true, Bool.and_false, Bool.true_and, Bool.false_and, Bool.or_true, Bool.or_false, Bool.true_or, Bool.false_or, Bool.not_true, Bool.not_false, if_true, if_false, Bool.false_eq_true, reduceIte] <;> rfl))) | (simp only [hb35R, hb36R, Bool.and_true, Bool.and_false, Bool.true_and, Bool.false_and, Bool.or_true, Bool.or_false, Bool.true_or, Bool.false_or, Bool.not_true, Bool.not_false, if_true, if_false, Bool.false_eq_true, reduceIte] <;> rfl))), trivial⟩)
        ·have hb36R := hb36; (try simp only [z1, z2, z3, z4, z5, z6, ne_eq, z7, z8, z9, z10, z11, z12] at hb36); (try (have hll := hire_len hb36)); (try (rw [td_if] at hb36)); (try (have hz := td_parts (day := day) hb36)); (try (have hokm : ∀ m ∈ upF day ms, okM m := fun m hm => (tm_go hz.1 m (List.mem_filter.1 hm).1).1)); (try (have hlc := len_charges (day := day) hll.1 hll.2))
         refine g_step rfl rfl rfl rfl (e_move (v := .sc _) rfl) trivial ?_
         refine g_step rfl rfl rfl rfl (e_ne rfl rfl) trivial ?_
         refine g_step rfl rfl rfl rfl (e_pickF (v := .sc _) rfl rfl) trivial ?_
         refine g_step rfl rfl rfl rfl (e_move (v := .sc _) rfl) trivial ?_
         refine g_cases (fun hb37 => ?_) (fun hb37 => ?_)
         ·have hb37R := hb37; (try simp only [z1, z2, z3, z4, z5, z6, ne_eq, z7, z8, z9, z10, z11, z12] at hb37); (try (have hll := hire_len hb37)); (try (rw [td_if] at hb37)); (try (have hz := td_parts (day := day) hb37)); (try (have hokm : ∀ m ∈ upF day ms, okM m := fun m hm => (tm_go hz.1 m (List.mem_filter.1 hm).1).1)); (try (have hlc := len_charges (day := day) hll.1 hll.2))
          refine g_skip rfl rfl rfl ?_
          refine g_skip rfl rfl rfl ?_
          refine g_skip rfl rfl rfl ?_
          refine g_skip rfl rfl rfl ?_
          refine g_nocall rfl rfl rfl ?_
          refine g_nocall rfl rfl rfl ?_
          refine g_skip rfl rfl rfl ?_
          refine g_step rfl rfl rfl rfl (e_pickT (v := .sc _) rfl rfl) trivial ?_
          refine g_step rfl rfl rfl rfl (e_move (v := .sc _) rfl) trivial ?_
          refine g_skip rfl rfl rfl ?_
          refine g_skip rfl rfl rfl ?_
          refine g_skip rfl rfl rfl ?_
          refine g_skip rfl rfl rfl ?_
          refine g_skip rfl rfl rfl ?_
          refine g_step rfl rfl rfl rfl (e_pickT (v := .sc _) rfl rfl) trivial ?_
          refine g_step rfl rfl rfl rfl (e_move (v := .sc _) rfl) trivial ?_
          refine g_skip rfl rfl rfl ?_
          refine g_skip rfl rfl rfl ?_
          refine g_skip rfl rfl rfl ?_
          refine g_skip rfl rfl rfl ?_
          refine g_skip rfl rfl rfl ?_
          refine g_step rfl rfl rfl rfl (e_pickT (v := .sc _) rfl rfl) trivial ?_
          refine g_end (ds := [96, 97, 100, 101, 104, 105, 106, 107, 108, 109, 110, 113, 114, 115, 116, 117, 120, 121, 122, 123, 124]) rfl rfl (hK34 _ ?_); clear hK34 K34
          exact seq_norm (hK32 _ ⟨rfl, rfl, rfl, trivial⟩ ⟨(congrArg PV.bool (show (true : Bool) = ((((((decide ((tdE (ts) (ms) day) ≠ (0))) || (decide ((tdE (ts) (ms) day) ≠ (0)))) || (decide ((tdE (ts) (ms) day) ≠ (0)))) || (!(decide (accP (ts) (ms) day = accT (ts) (ms) day)))) || (decide (((((balP (ts) (ms) day).map B4.enc).length : Nat) : Int) ≠ ((((balT (ts) (upF day (ms))).map B4.enc).length : Nat) : Int)))) || (decide ((((((balP (ts) (ms) day).map (fun x : B4 => x.d)).map ci).length : Nat) : Int) ≠ ((((balT (ts) (upF day (ms))).map B4.enc).length : Nat) : Int)))) by first | rfl | ((try rw [hb37R]) <;> (try rw [hb36R]) <;> (try rw [hb35R]) <;> (first | rfl | (simp only [Bool.and_true, Bool.and_false, Bool.true_and, Bool.false_and, Bool.or_true, Bool.or_false, Bool.true_or, Bool.false_or, Bool.not_true, Bool.not_false, if_true, if_false, Bool.false_eq_true, reduceIte] <;> rfl))) | (simp only [hb35R, hb36R, hb37R, Bool.and_true, Bool.and_false, Bool.true_and, Bool.false_and, Bool.or_true, Bool.or_false, Bool.true_or, Bool.false_or, Bool.not_true, Bool.not_false, if_true, if_false, Bool.false_eq_true, reduceIte] <;> rfl))), trivial⟩)
         ·have hb37R := hb37; (try simp only [z1, z2, z3, z4, z5, z6, ne_eq, z7, z8, z9, z10, z11, z12] at hb37); (try (have hll := hire_len hb37)); (try (rw [td_if] at hb37)); (try (have hz := td_parts (day := day) hb37)); (try (have hokm : ∀ m ∈ upF day ms, okM m := fun m hm => (tm_go hz.1 m (List.mem_filter.1 hm).1).1)); (try (have hlc := len_charges (day := day) hll.1 hll.2))
          refine g_step rfl rfl rfl rfl (e_move (v := .lit _ _ _) rfl) trivial ?_
          refine g_step rfl rfl rfl rfl (e_move (v := .lit _ _ _) rfl) trivial ?_
          refine g_step rfl rfl rfl rfl (e_move (v := .lit _ _ _) rfl) trivial ?_
          refine g_step rfl rfl rfl rfl (e_move (v := .sc _) rfl) trivial ?_
          refine g_call rfl rfl rfl rfl (.cons inn_lit (.cons inn_lit (.cons inn_sc .nil))) (AccountR _ _ _ (by omega) (by omega) hz.1 (by omega)) ?_
          refine g_call rfl rfl rfl rfl (.cons inn_lit (.cons inn_lit .nil)) (sameCharges _ _ (by omega)) ?_
          refine g_step rfl rfl rfl rfl (e_not rfl) trivial ?_
          refine g_step rfl rfl rfl rfl (e_pickF (v := .sc _) rfl rfl) trivial ?_
          refine g_step rfl rfl rfl rfl (e_move (v := .sc _) rfl) trivial ?_
          refine g_cases (fun hb38 => ?_) (fun hb38 => ?_)
          ·have hb38R := hb38; (try simp only [z1, z2, z3, z4, z5, z6, ne_eq, z7, z8, z9, z10, z11, z12] at hb38); (try (have hll := hire_len hb38)); (try (rw [td_if] at hb38)); (try (have hz := td_parts (day := day) hb38)); (try (have hokm : ∀ m ∈ upF day ms, okM m := fun m hm => (tm_go hz.1 m (List.mem_filter.1 hm).1).1)); (try (have hlc := len_charges (day := day) hll.1 hll.2))
           refine g_skip rfl rfl rfl ?_
           refine g_skip rfl rfl rfl ?_
           refine g_skip rfl rfl rfl ?_
           refine g_skip rfl rfl rfl ?_
           refine g_skip rfl rfl rfl ?_
           refine g_step rfl rfl rfl rfl (e_pickT (v := .sc _) rfl rfl) trivial ?_
           refine g_step rfl rfl rfl rfl (e_move (v := .sc _) rfl) trivial ?_
           refine g_skip rfl rfl rfl ?_
           refine g_skip rfl rfl rfl ?_
           refine g_skip rfl rfl rfl ?_
           refine g_skip rfl rfl rfl ?_
           refine g_skip rfl rfl rfl ?_
           refine g_step rfl rfl rfl rfl (e_pickT (v := .sc _) rfl rfl) trivial ?_
           refine g_end (ds := [96, 97, 100, 101, 104, 105, 106, 107, 108, 109, 110, 113, 114, 115, 116, 117, 120, 121, 122, 123, 124]) rfl rfl (hK34 _ ?_); clear hK34 K34
           exact seq_norm (hK32 _ ⟨rfl, rfl, rfl, trivial⟩ ⟨(congrArg PV.bool (show (true : Bool) = ((((((decide ((tdE (ts) (ms) day) ≠ (0))) || (decide ((tdE (ts) (ms) day) ≠ (0)))) || (decide ((tdE (ts) (ms) day) ≠ (0)))) || (!(decide (accP (ts) (ms) day = accT (ts) (ms) day)))) || (decide (((((balP (ts) (ms) day).map B4.enc).length : Nat) : Int) ≠ ((((balT (ts) (upF day (ms))).map B4.enc).length : Nat) : Int)))) || (decide ((((((balP (ts) (ms) day).map (fun x : B4 => x.d)).map ci).length : Nat) : Int) ≠ ((((balT (ts) (upF day (ms))).map B4.enc).length : Nat) : Int)))) by first | rfl | ((try rw [hb38R]) <;> (try rw [hb37R]) <;> (try rw [hb36R]) <;> (try rw [hb35R]) <;> (first | rfl | (simp only [Bool.and_true, Bool.and_false, Bool.true_and, Bool.false_and, Bool.or_true, Bool.or_false, Bool.true_or, Bool.false_or, Bool.not_true, Bool.not_false, if_true, if_false, Bool.false_eq_true, reduceIte] <;> rfl))) | (simp only [hb35R, hb36R, hb37R, hb38R, Bool.and_true, Bool.and_false, Bool.true_and, Bool.false_and, Bool.or_true, Bool.or_false, Bool.true_or, Bool.false_or, Bool.not_true, Bool.not_false, if_true, if_false, Bool.false_eq_true, reduceIte] <;> rfl))), trivial⟩)
          ·have hb38R := hb38; (try simp only [z1, z2, z3, z4, z5, z6, ne_eq, z7, z8, z9, z10, z11, z12] at hb38); (try (have hll := hire_len hb38)); (try (rw [td_if] at hb38)); (try (have hz := td_parts (day := day) hb38)); (try (have hokm : ∀ m ∈ upF day ms, okM m := fun m hm => (tm_go hz.1 m (List.mem_filter.1 hm).1).1)); (try (have hlc := len_charges (day := day) hll.1 hll.2))
           refine g_step rfl rfl rfl rfl (e_move (v := .lit _ _ _) rfl) trivial ?_
           refine g_step rfl rfl rfl rfl (e_len rfl (by kernel_rfl)) trivial ?_
           refine g_step rfl rfl rfl rfl (e_move (v := .lit _ _ _) rfl) trivial ?_
           refine g_step rfl rfl rfl rfl (e_len rfl (by kernel_rfl)) trivial ?_
           refine g_step rfl rfl rfl rfl (e_ne rfl rfl) trivial ?_
           refine g_step rfl rfl rfl rfl (e_pickF (v := .sc _) rfl rfl) trivial ?_
           refine g_step rfl rfl rfl rfl (e_move (v := .sc _) rfl) trivial ?_
           refine g_cases (fun hb39 => ?_) (fun hb39 => ?_)
           ·have hb39R := hb39; (try simp only [z1, z2, z3, z4, z5, z6, ne_eq, z7, z8, z9, z10, z11, z12] at hb39); (try (have hll := hire_len hb39)); (try (rw [td_if] at hb39)); (try (have hz := td_parts (day := day) hb39)); (try (have hokm : ∀ m ∈ upF day ms, okM m := fun m hm => (tm_go hz.1 m (List.mem_filter.1 hm).1).1)); (try (have hlc := len_charges (day := day) hll.1 hll.2))
            refine g_skip rfl rfl rfl ?_
            refine g_skip rfl rfl rfl ?_
            refine g_skip rfl rfl rfl ?_
            refine g_skip rfl rfl rfl ?_
            refine g_skip rfl rfl rfl ?_
            refine g_step rfl rfl rfl rfl (e_pickT (v := .sc _) rfl rfl) trivial ?_
            refine g_end (ds := [96, 97, 100, 101, 104, 105, 106, 107, 108, 109, 110, 113, 114, 115, 116, 117, 120, 121, 122, 123, 124]) rfl rfl (hK34 _ ?_); clear hK34 K34
            exact seq_norm (hK32 _ ⟨rfl, rfl, rfl, trivial⟩ ⟨(congrArg PV.bool (show (true : Bool) = ((((((decide ((tdE (ts) (ms) day) ≠ (0))) || (decide ((tdE (ts) (ms) day) ≠ (0)))) || (decide ((tdE (ts) (ms) day) ≠ (0)))) || (!(decide (accP (ts) (ms) day = accT (ts) (ms) day)))) || (decide (((((balP (ts) (ms) day).map B4.enc).length : Nat) : Int) ≠ ((((balT (ts) (upF day (ms))).map B4.enc).length : Nat) : Int)))) || (decide ((((((balP (ts) (ms) day).map (fun x : B4 => x.d)).map ci).length : Nat) : Int) ≠ ((((balT (ts) (upF day (ms))).map B4.enc).length : Nat) : Int)))) by first | rfl | ((try rw [hb39R]) <;> (try rw [hb38R]) <;> (try rw [hb37R]) <;> (try rw [hb36R]) <;> (try rw [hb35R]) <;> (first | rfl | (simp only [Bool.and_true, Bool.and_false, Bool.true_and, Bool.false_and, Bool.or_true, Bool.or_false, Bool.true_or, Bool.false_or, Bool.not_true, Bool.not_false, if_true, if_false, Bool.false_eq_true, reduceIte] <;> rfl))) | (simp only [hb35R, hb36R, hb37R, hb38R, hb39R, Bool.and_true, Bool.and_false, Bool.true_and, Bool.false_and, Bool.or_true, Bool.or_false, Bool.true_or, Bool.false_or, Bool.not_true, Bool.not_false, if_true, if_false, Bool.false_eq_true, reduceIte] <;> rfl))), trivial⟩)
           ·have hb39R := hb39; (try simp only [z1, z2, z3, z4, z5, z6, ne_eq, z7, z8, z9, z10, z11, z12] at hb39); (try (have hll := hire_len hb39)); (try (rw [td_if] at hb39)); (try (have hz := td_parts (day := day) hb39)); (try (have hokm : ∀ m ∈ upF day ms, okM m := fun m hm => (tm_go hz.1 m (List.mem_filter.1 hm).1).1)); (try (have hlc := len_charges (day := day) hll.1 hll.2))
            refine g_step rfl rfl rfl rfl (e_move (v := .lit _ _ _) rfl) trivial ?_
            refine g_step rfl rfl rfl rfl (e_len rfl (by kernel_rfl)) trivial ?_
            refine g_step rfl rfl rfl rfl (e_move (v := .lit _ _ _) rfl) trivial ?_
            refine g_step rfl rfl rfl rfl (e_len rfl (by kernel_rfl)) trivial ?_
            refine g_step rfl rfl rfl rfl (e_ne rfl rfl) trivial ?_
            refine g_step rfl rfl rfl rfl (e_pickF (v := .sc _) rfl rfl) trivial ?_
            refine g_end (ds := [96, 97, 100, 101, 104, 105, 106, 107, 108, 109, 110, 113, 114, 115, 116, 117, 120, 121, 122, 123, 124]) rfl rfl (hK34 _ ?_); clear hK34 K34
            exact seq_norm (hK32 _ ⟨rfl, rfl, rfl, trivial⟩ ⟨(congrArg PV.bool (show ((decide ((((((balP (ts) (ms) day).map (fun x : B4 => x.d)).map ci).length : Nat) : Int) ≠ ((((balT (ts) (upF day (ms))).map B4.enc).length : Nat) : Int))) : Bool) = ((((((decide ((tdE (ts) (ms) day) ≠ (0))) || (decide ((tdE (ts) (ms) day) ≠ (0)))) || (decide ((tdE (ts) (ms) day) ≠ (0)))) || (!(decide (accP (ts) (ms) day = accT (ts) (ms) day)))) || (decide (((((balP (ts) (ms) day).map B4.enc).length : Nat) : Int) ≠ ((((balT (ts) (upF day (ms))).map B4.enc).length : Nat) : Int)))) || (decide ((((((balP (ts) (ms) day).map (fun x : B4 => x.d)).map ci).length : Nat) : Int) ≠ ((((balT (ts) (upF day (ms))).map B4.enc).length : Nat) : Int)))) by first | rfl | ((try rw [hb39R]) <;> (try rw [hb38R]) <;> (try rw [hb37R]) <;> (try rw [hb36R]) <;> (try rw [hb35R]) <;> (first | rfl | (simp only [Bool.and_true, Bool.and_false, Bool.true_and, Bool.false_and, Bool.or_true, Bool.or_false, Bool.true_or, Bool.false_or, Bool.not_true, Bool.not_false, if_true, if_false, Bool.false_eq_true, reduceIte] <;> rfl))) | (simp only [hb35R, hb36R, hb37R, hb38R, hb39R, Bool.and_true, Bool.and_false, Bool.true_and, Bool.false_and, Bool.or_true, Bool.or_false, Bool.true_or, Bool.false_or, Bool.not_true, Bool.not_false, if_true, if_false, Bool.false_eq_true, reduceIte] <;> rfl))), trivial⟩)
      ·skip
       refine pwp_seq_cond rfl fun K40 hK40 => ⟨fun hb41 => ?_, fun hb41 => ?_⟩
       ·have hb41R := hb41; (try simp only [z1, z2, z3, z4, z5, z6, ne_eq, z7, z8, z9, z10, z11, z12] at hb41); (try (have hll := hire_len hb41)); (try (rw [td_if] at hb41)); (try (have hz := td_parts (day := day) hb41)); (try (have hokm : ∀ m ∈ upF day ms, okM m := fun m hm => (tm_go hz.1 m (List.mem_filter.1 hm).1).1)); (try (have hlc := len_charges (day := day) hll.1 hll.2))
        refine pwp_seq_plain rfl fun K42 hK42 => ?_
        refine p_step rfl (e_assign (v := .sc _) rfl) trivial ?_
        refine p_end (hK42 _ ?_); clear hK42 K42
        refine pwp_ret ?_
        refine ret_seq ?_
        refine end1 (v := .sc _) rfl ?_
        first
          | exact out_b rfl
          | exact out_b (acc_bad (by assumption))
          | exact absurd (by assumption) (acc_good hz)
          | exact absurd (by assumption) (acc_row hxy hdx hyb)
       ·have hb41R := hb41; (try simp only [z1, z2, z3, z4, z5, z6, ne_eq, z7, z8, z9, z10, z11, z12] at hb41); (try (have hll := hire_len hb41)); (try (rw [td_if] at hb41)); (try (have hz := td_parts (day := day) hb41)); (try (have hokm : ∀ m ∈ upF day ms, okM m := fun m hm => (tm_go hz.1 m (List.mem_filter.1 hm).1).1)); (try (have hlc := len_charges (day := day) hll.1 hll.2))
        refine pwp_skip ?_
        refine seq_norm (hK40 _ ?_); clear hK40 K40
        refine pwp_seq_seq ?_
        refine pwp_seq_plain rfl fun K43 hK43 => ?_
        refine p_step rfl (e_assign (v := .sc _) rfl) trivial ?_
        refine p_end (hK43 _ ?_); clear hK43 K43
        refine pwp_seq_block fun K44 hK44 => ?_
        refine pwp_loopR (α := Nat) [9, 11, 14] (fun (k : Nat) => [(15, .int (k))]) (fun (k : Nat) (h : Heap) (_ : Nat → Nat) => ((k) ≤ (balT ts (upF day ms)).length)) (fun (k : Nat) => (balT ts (upF day ms)).length - (k)) (0) (by exact ⟨rfl, trivial⟩) (by exact by exact Nat.zero_le _) fun k r45 h46 c47 hj48 => ?_
        have hk := hj48; clear hj48
        try dsimp only at hk
        show pwp _ _ (loopQ _ _ _) ⟨sets (mix _ _ _) [(15, .int k)], _, _⟩
        refine pwp_seq_seq ?_
        refine pwp_seq_plain rfl fun K49 hK49 => ?_
        refine p_step rfl (e_move (v := .sc _) rfl) trivial ?_
        refine p_step rfl (e_move (v := .lit _ _ _) rfl) trivial ?_
        refine p_step rfl (e_len rfl (by kernel_rfl)) trivial ?_
        refine p_step rfl (e_lt rfl rfl) trivial ?_
        refine p_end (hK49 _ ?_); clear hK49 K49
        refine pwp_seq_cond rfl fun K50 hK50 => ⟨fun hb51 => ?_, fun hb51 => ?_⟩
        ·have hb51R := hb51; (try simp only [z1, z2, z3, z4, z5, z6, ne_eq, z7, z8, z9, z10, z11, z12] at hb51); (try (have hll := hire_len hb51)); (try (rw [td_if] at hb51)); (try (have hz := td_parts (day := day) hb51)); (try (have hokm : ∀ m ∈ upF day ms, okM m := fun m hm => (tm_go hz.1 m (List.mem_filter.1 hm).1).1)); (try (have hlc := len_charges (day := day) hll.1 hll.2))
         obtain ⟨y, hy⟩ : ∃ y, (balT ts (upF day ms))[k]? = some y := ⟨_, List.getElem?_eq_getElem (by omega)⟩
         obtain ⟨x, d, hx, hd0, hxy, hdx⟩ := bal_get2 hz hy
         have hxl := (List.getElem?_eq_some_iff.1 hx).1
         have hdl := (List.getElem?_eq_some_iff.1 hd0).1
         have hyb := bal_bnd2 hz hll.2 hy
         have hbt := balT_len ts (upF day ms)
         have hyc := hyb
         rw [← hxy] at hyc
         refine pwp_skip ?_
         refine seq_norm (hK50 _ ?_); clear hK50 K50
         refine pwp_seq_block fun K52 hK52 => ?_
         refine pwp_seq_cutG [9, 11, 14, 15] [(177, .bool (((!decide (x = y)) || (decide (d ≠ y.d))) || (decide (x.a ≠ ((x.b + x.c) + x.d)))))] (fun K53 hK53 => ?_) (fun r54 => ?_)
         ·skip
          refine pwp_gops rfl fun K55 hK55 => ?_
          refine g_begin ?_
          refine g_step rfl rfl rfl rfl (e_move (v := .lit _ _ _) rfl) trivial ?_
          refine g_step rfl rfl rfl rfl (e_move (v := .sc _) rfl) trivial ?_
          refine g_step rfl rfl rfl rfl (e_ixa rfl rfl (by kernel_rfl) (by kernel_rfl) (by simp only [List.length_map]; omega)) trivial ?_
          refine g_step rfl rfl rfl rfl (e_loadA (n := 4) rfl (by kernel_rfl) (by kernel_rfl) (by kernel_rfl) (by simp only [List.length_map]; omega) (by decide) (by first | exact agg_map hx rfl)) trivial ?_
          refine g_step rfl rfl rfl rfl (e_move (v := .lit _ _ _) rfl) trivial ?_
          refine g_step rfl rfl rfl rfl (e_move (v := .sc _) rfl) trivial ?_
          refine g_step rfl rfl rfl rfl (e_ixa rfl rfl (by kernel_rfl) (by kernel_rfl) (by simp only [List.length_map]; omega)) trivial ?_
          refine g_step rfl rfl rfl rfl (e_loadA (n := 4) rfl (by kernel_rfl) (by kernel_rfl) (by kernel_rfl) (by simp only [List.length_map]; omega) (by decide) (by first | exact agg_map hy rfl)) trivial ?_
          refine g_step rfl rfl rfl rfl (e_ane rfl rfl (by kernel_rfl) (eqOk_B4 (x) (y)) (eqV_B4 (x) (y))) trivial ?_
          refine g_step rfl rfl rfl rfl (e_move (v := .sc _) rfl) trivial ?_
          refine g_cases (fun hb56 => ?_) (fun hb56 => ?_)
          ·have hb56R := hb56; (try simp only [z1, z2, z3, z4, z5, z6, ne_eq, z7, z8, z9, z10, z11, z12] at hb56); (try (have hll := hire_len hb56)); (try (rw [td_if] at hb56)); (try (have hz := td_parts (day := day) hb56)); (try (have hokm : ∀ m ∈ upF day ms, okM m := fun m hm => (tm_go hz.1 m (List.mem_filter.1 hm).1).1)); (try (have hlc := len_charges (day := day) hll.1 hll.2))
           refine g_skip rfl rfl rfl ?_
           refine g_skip rfl rfl rfl ?_
           refine g_skip rfl rfl rfl ?_
           refine g_skip rfl rfl rfl ?_
           refine g_skip rfl rfl rfl ?_
           refine g_skip rfl rfl rfl ?_
           refine g_skip rfl rfl rfl ?_
           refine g_skip rfl rfl rfl ?_
           refine g_skip rfl rfl rfl ?_
           refine g_skip rfl rfl rfl ?_
           refine g_step rfl rfl rfl rfl (e_pickT (v := .sc _) rfl rfl) trivial ?_
           refine g_step rfl rfl rfl rfl (e_move (v := .sc _) rfl) trivial ?_
           refine g_skip rfl rfl rfl ?_
           refine g_skip rfl rfl rfl ?_
           refine g_skip rfl rfl rfl ?_
           refine g_skip rfl rfl rfl ?_
           refine g_skip rfl rfl rfl ?_
           refine g_skip rfl rfl rfl ?_
           refine g_skip rfl rfl rfl ?_
           refine g_skip rfl rfl rfl ?_
           refine g_skip rfl rfl rfl ?_
           refine g_skip rfl rfl rfl ?_
           refine g_skip rfl rfl rfl ?_
           refine g_skip rfl rfl rfl ?_
           refine g_skip rfl rfl rfl ?_
           refine g_skip rfl rfl rfl ?_
           refine g_skip rfl rfl rfl ?_
           refine g_skip rfl rfl rfl ?_
           refine g_skip rfl rfl rfl ?_
           refine g_skip rfl rfl rfl ?_
           refine g_skip rfl rfl rfl ?_
           refine g_skip rfl rfl rfl ?_
           refine g_skip rfl rfl rfl ?_
           refine g_skip rfl rfl rfl ?_
           refine g_skip rfl rfl rfl ?_
           refine g_step rfl rfl rfl rfl (e_pickT (v := .sc _) rfl rfl) trivial ?_
           refine g_endR (ds := [142, 143, 144, 145, 146, 147, 148, 149, 150, 151, 154, 155, 156, 157, 158, 159, 160, 161, 162, 163, 164, 165, 166, 167, 168, 169, 170, 171, 172, 173, 174, 175, 176]) [0, 0, 3, 7, 0, 0, 48, 112, 255, 511, 1023, 1023, 4095, 8191, 1023, 1023, 50175, 115711, 246783, 524287, 1048575, 2097151, 4194303, 4194303, 16777215, 33554431, 67108863, 4194303, 4194303, 406847487, 943718399, 2017460223, 4194303, 4194303, 12889096191, 30068965375, 64428703743, 137308930047, 4194303, 4194303, 824637915135, 1924149542911, 4123172798463, 8795962998783, 17592186044415, 35184372088831] (by kernel_rfl) rfl (hK55 _ ?_); clear hK55 K55
           exact seq_norm (hK53 _ ⟨rfl, rfl, rfl, rfl, trivial⟩ ⟨(congrArg PV.bool (show (true : Bool) = (((!decide (x = y)) || (decide (d ≠ y.d))) || (decide (x.a ≠ ((x.b + x.c) + x.d)))) by first | rfl | ((try rw [hb56R]) <;> (first | rfl | (simp only [Bool.and_true, Bool.and_false, Bool.true_and, Bool.false_and, Bool.or_true, Bool.or_false, Bool.true_or, Bool.false_or, Bool.not_true, Bool.not_false, if_true, if_false, Bool.false_eq_true, reduceIte] <;> rfl))) | (simp only [hb56R, Bool.and_true, Bool.and_false, Bool.true_and, Bool.false_and, Bool.or_true, Bool.or_false, Bool.true_or, Bool.false_or, Bool.not_true, Bool.not_false, if_true, if_false, Bool.false_eq_true, reduceIte] <;> rfl))), trivial⟩)
          ·have hb56R := hb56; (try simp only [z1, z2, z3, z4, z5, z6, ne_eq, z7, z8, z9, z10, z11, z12] at hb56); (try (have hll := hire_len hb56)); (try (rw [td_if] at hb56)); (try (have hz := td_parts (day := day) hb56)); (try (have hokm : ∀ m ∈ upF day ms, okM m := fun m hm => (tm_go hz.1 m (List.mem_filter.1 hm).1).1)); (try (have hlc := len_charges (day := day) hll.1 hll.2))
           refine g_step rfl rfl rfl rfl (e_move (v := .lit _ _ _) rfl) trivial ?_
           refine g_step rfl rfl rfl rfl (e_move (v := .sc _) rfl) trivial ?_
           refine g_step rfl rfl rfl rfl (e_ixa rfl rfl (by kernel_rfl) (by kernel_rfl) (by simp only [List.length_map]; omega)) trivial ?_
           refine g_step rfl rfl rfl rfl (e_load (v := .sc _) rfl (by kernel_rfl) (by kernel_rfl) (by kernel_rfl) (by simp only [List.length_map]; omega) (by decide) ((cell_map hd0 _).trans rfl)) trivial ?_
           refine g_step rfl rfl rfl rfl (e_move (v := .lit _ _ _) rfl) trivial ?_
           refine g_step rfl rfl rfl rfl (e_move (v := .sc _) rfl) trivial ?_
           refine g_step rfl rfl rfl rfl (e_ixa rfl rfl (by kernel_rfl) (by kernel_rfl) (by simp only [List.length_map]; omega)) trivial ?_
           refine g_step rfl rfl rfl rfl (e_ixaL (n := 4) (e := 3) rfl rfl (by kernel_rfl) (by kernel_rfl) (by omega)) trivial ?_
           refine g_step rfl rfl rfl rfl (e_load (v := .sc _) rfl (by kernel_rfl) (by kernel_rfl) (by kernel_rfl) (by simp only [List.length_map]; omega) (by decide) ((cell_map hy _).trans rfl)) trivial ?_
           refine g_step rfl rfl rfl rfl (e_ne rfl rfl) trivial ?_
           refine g_step rfl rfl rfl rfl (e_pickF (v := .sc _) rfl rfl) trivial ?_
           refine g_step rfl rfl rfl rfl (e_move (v := .sc _) rfl) trivial ?_
           refine g_cases (fun hb57 => ?_) (fun hb57 => ?_)
           ·have hb57R := hb57; (try simp only [z1, z2, z3, z4, z5, z6, ne_eq, z7, z8, z9, z10, z11, z12] at hb57); (try (have hll := hire_len hb57)); (try (rw [td_if] at hb57)); (try (have hz := td_parts (day := day) hb57)); (try (have hokm : ∀ m ∈ upF day ms, okM m := fun m hm => (tm_go hz.1 m (List.mem_filter.1 hm).1).1)); (try (have hlc := len_charges (day := day) hll.1 hll.2))
            refine g_skip rfl rfl rfl ?_
            refine g_skip rfl rfl rfl ?_
            refine g_skip rfl rfl rfl ?_
            refine g_skip rfl rfl rfl ?_
            refine g_skip rfl rfl rfl ?_
            refine g_skip rfl rfl rfl ?_
            refine g_skip rfl rfl rfl ?_
            refine g_skip rfl rfl rfl ?_
            refine g_skip rfl rfl rfl ?_
            refine g_skip rfl rfl rfl ?_
            refine g_skip rfl rfl rfl ?_
            refine g_skip rfl rfl rfl ?_
            refine g_skip rfl rfl rfl ?_
            refine g_skip rfl rfl rfl ?_
            refine g_skip rfl rfl rfl ?_
            refine g_skip rfl rfl rfl ?_
            refine g_skip rfl rfl rfl ?_
            refine g_skip rfl rfl rfl ?_
            refine g_skip rfl rfl rfl ?_
            refine g_skip rfl rfl rfl ?_
            refine g_skip rfl rfl rfl ?_
            refine g_skip rfl rfl rfl ?_
            refine g_skip rfl rfl rfl ?_
            refine g_step rfl rfl rfl rfl (e_pickT (v := .sc _) rfl rfl) trivial ?_
            refine g_endR (ds := [142, 143, 144, 145, 146, 147, 148, 149, 150, 151, 154, 155, 156, 157, 158, 159, 160, 161, 162, 163, 164, 165, 166, 167, 168, 169, 170, 171, 172, 173, 174, 175, 176]) [0, 0, 3, 7, 0, 0, 48, 112, 255, 511, 1023, 1023, 4095, 8191, 1023, 1023, 50175, 115711, 246783, 524287, 1048575, 2097151, 4194303, 4194303, 16777215, 33554431, 67108863, 4194303, 4194303, 406847487, 943718399, 2017460223, 4194303, 4194303, 12889096191, 30068965375, 64428703743, 137308930047, 4194303, 4194303, 824637915135, 1924149542911, 4123172798463, 8795962998783, 17592186044415, 35184372088831] (by kernel_rfl) rfl (hK55 _ ?_); clear hK55 K55
            exact seq_norm (hK53 _ ⟨rfl, rfl, rfl, rfl, trivial⟩ ⟨(congrArg PV.bool (show (true : Bool) = (((!decide (x = y)) || (decide (d ≠ y.d))) || (decide (x.a ≠ ((x.b + x.c) + x.d)))) by first | rfl | ((try rw [hb57R]) <;> (try rw [hb56R]) <;> (first | rfl | (simp only [Bool.and_true, Bool.and_false, Bool.true_and, Bool.false_and, Bool.or_true, Bool.or_false, Bool.true_or, Bool.false_or, Bool.not_true, Bool.not_false, if_true, if_false, Bool.false_eq_true, reduceIte] <;> rfl))) | (simp only [hb56R, hb57R, Bool.and_true, Bool.and_false, Bool.true_and, Bool.false_and, Bool.or_true, Bool.or_false, Bool.true_or, Bool.false_or, Bool.not_true, Bool.not_false, if_true, if_false, Bool.false_eq_true, reduceIte] <;> rfl))), trivial⟩)
           ·have hb57R := hb57; (try simp only [z1, z2, z3, z4, z5, z6, ne_eq, z7, z8, z9, z10, z11, z12] at hb57); (try (have hll := hire_len hb57)); (try (rw [td_if] at hb57)); (try (have hz := td_parts (day := day) hb57)); (try (have hokm : ∀ m ∈ upF day ms, okM m := fun m hm => (tm_go hz.1 m (List.mem_filter.1 hm).1).1)); (try (have hlc := len_charges (day := day) hll.1 hll.2))
            refine g_step rfl rfl rfl rfl (e_move (v := .lit _ _ _) rfl) trivial ?_
            refine g_step rfl rfl rfl rfl (e_move (v := .sc _) rfl) trivial ?_
            refine g_step rfl rfl rfl rfl (e_ixa rfl rfl (by kernel_rfl) (by kernel_rfl) (by simp only [List.length_map]; omega)) trivial ?_
            refine g_step rfl rfl rfl rfl (e_ixaL (n := 4) (e := 3) rfl rfl (by kernel_rfl) (by kernel_rfl) (by omega)) trivial ?_
            refine g_step rfl rfl rfl rfl (e_load (v := .sc _) rfl (by kernel_rfl) (by kernel_rfl) (by kernel_rfl) (by simp only [List.length_map]; omega) (by decide) ((cell_map hx _).trans rfl)) trivial ?_
            refine g_step rfl rfl rfl rfl (e_move (v := .lit _ _ _) rfl) trivial ?_
            refine g_step rfl rfl rfl rfl (e_move (v := .sc _) rfl) trivial ?_
            refine g_step rfl rfl rfl rfl (e_ixa rfl rfl (by kernel_rfl) (by kernel_rfl) (by simp only [List.length_map]; omega)) trivial ?_
            refine g_step rfl rfl rfl rfl (e_ixaL (n := 4) (e := 3) rfl rfl (by kernel_rfl) (by kernel_rfl) (by omega)) trivial ?_
            refine g_step rfl rfl rfl rfl (e_load (v := .sc _) rfl (by kernel_rfl) (by kernel_rfl) (by kernel_rfl) (by simp only [List.length_map]; omega) (by decide) ((cell_map hx _).trans rfl)) trivial ?_
            refine g_step rfl rfl rfl rfl (e_move (v := .lit _ _ _) rfl) trivial ?_
            refine g_step rfl rfl rfl rfl (e_move (v := .sc _) rfl) trivial ?_
            refine g_step rfl rfl rfl rfl (e_ixa rfl rfl (by kernel_rfl) (by kernel_rfl) (by simp only [List.length_map]; omega)) trivial ?_
            refine g_step rfl rfl rfl rfl (e_ixaL (n := 4) (e := 3) rfl rfl (by kernel_rfl) (by kernel_rfl) (by omega)) trivial ?_
            refine g_step rfl rfl rfl rfl (e_load (v := .sc _) rfl (by kernel_rfl) (by kernel_rfl) (by kernel_rfl) (by simp only [List.length_map]; omega) (by decide) ((cell_map hx _).trans rfl)) trivial ?_
            refine g_step rfl rfl rfl rfl (e_add rfl rfl (by omega)) trivial ?_
            refine g_step rfl rfl rfl rfl (e_move (v := .lit _ _ _) rfl) trivial ?_
            refine g_step rfl rfl rfl rfl (e_move (v := .sc _) rfl) trivial ?_
            refine g_step rfl rfl rfl rfl (e_ixa rfl rfl (by kernel_rfl) (by kernel_rfl) (by simp only [List.length_map]; omega)) trivial ?_
            refine g_step rfl rfl rfl rfl (e_ixaL (n := 4) (e := 3) rfl rfl (by kernel_rfl) (by kernel_rfl) (by omega)) trivial ?_
            refine g_step rfl rfl rfl rfl (e_load (v := .sc _) rfl (by kernel_rfl) (by kernel_rfl) (by kernel_rfl) (by simp only [List.length_map]; omega) (by decide) ((cell_map hx _).trans rfl)) trivial ?_
            refine g_step rfl rfl rfl rfl (e_add rfl rfl (by omega)) trivial ?_
            refine g_step rfl rfl rfl rfl (e_ne rfl rfl) trivial ?_
            refine g_step rfl rfl rfl rfl (e_pickF (v := .sc _) rfl rfl) trivial ?_
            refine g_endR (ds := [142, 143, 144, 145, 146, 147, 148, 149, 150, 151, 154, 155, 156, 157, 158, 159, 160, 161, 162, 163, 164, 165, 166, 167, 168, 169, 170, 171, 172, 173, 174, 175, 176]) [0, 0, 3, 7, 0, 0, 48, 112, 255, 511, 1023, 1023, 4095, 8191, 1023, 1023, 50175, 115711, 246783, 524287, 1048575, 2097151, 4194303, 4194303, 16777215, 33554431, 67108863, 4194303, 4194303, 406847487, 943718399, 2017460223, 4194303, 4194303, 12889096191, 30068965375, 64428703743, 137308930047, 4194303, 4194303, 824637915135, 1924149542911, 4123172798463, 8795962998783, 17592186044415, 35184372088831] (by kernel_rfl) rfl (hK55 _ ?_); clear hK55 K55
            exact seq_norm (hK53 _ ⟨rfl, rfl, rfl, rfl, trivial⟩ ⟨(congrArg PV.bool (show ((decide (x.a ≠ ((x.b + x.c) + x.d))) : Bool) = (((!decide (x = y)) || (decide (d ≠ y.d))) || (decide (x.a ≠ ((x.b + x.c) + x.d)))) by first | rfl | ((try rw [hb57R]) <;> (try rw [hb56R]) <;> (first | rfl | (simp only [Bool.and_true, Bool.and_false, Bool.true_and, Bool.false_and, Bool.or_true, Bool.or_false, Bool.true_or, Bool.false_or, Bool.not_true, Bool.not_false, if_true, if_false, Bool.false_eq_true, reduceIte] <;> rfl))) | (simp only [hb56R, hb57R, Bool.and_true, Bool.and_false, Bool.true_and, Bool.false_and, Bool.or_true, Bool.or_false, Bool.true_or, Bool.false_or, Bool.not_true, Bool.not_false, if_true, if_false, Bool.false_eq_true, reduceIte] <;> rfl))), trivial⟩)
         ·skip
          refine pwp_cond rfl (fun hb58 => ?_) (fun hb58 => ?_)
          ·have hb58R := hb58; (try simp only [z1, z2, z3, z4, z5, z6, ne_eq, z7, z8, z9, z10, z11, z12] at hb58); (try (have hll := hire_len hb58)); (try (rw [td_if] at hb58)); (try (have hz := td_parts (day := day) hb58)); (try (have hokm : ∀ m ∈ upF day ms, okM m := fun m hm => (tm_go hz.1 m (List.mem_filter.1 hm).1).1)); (try (have hlc := len_charges (day := day) hll.1 hll.2))
           refine pwp_seq_plain rfl fun K59 hK59 => ?_
           refine p_step rfl (e_assign (v := .sc _) rfl) trivial ?_
           refine p_end (hK59 _ ?_); clear hK59 K59
           refine pwp_ret ?_
           refine ret_block ?_
           refine ret_seq ?_
           refine ret_loop ?_
           refine ret_block ?_
           refine ret_seq ?_
           refine end1 (v := .sc _) rfl ?_
           first
             | exact out_b rfl
             | exact out_b (acc_bad (by assumption))
             | exact absurd (by assumption) (acc_good hz)
             | exact absurd (by assumption) (acc_row hxy hdx hyb)
          ·have hb58R := hb58; (try simp only [z1, z2, z3, z4, z5, z6, ne_eq, z7, z8, z9, z10, z11, z12] at hb58); (try (have hll := hire_len hb58)); (try (rw [td_if] at hb58)); (try (have hz := td_parts (day := day) hb58)); (try (have hokm : ∀ m ∈ upF day ms, okM m := fun m hm => (tm_go hz.1 m (List.mem_filter.1 hm).1).1)); (try (have hlc := len_charges (day := day) hll.1 hll.2))
           refine pwp_skip ?_
           refine block_norm ?_
           refine seq_norm (hK52 _ ?_); clear hK52 K52
           refine pwp_plain rfl fun K60 hK60 => ?_
           refine p_step rfl (e_move (v := .sc _) rfl) trivial ?_
           refine p_step rfl (e_add rfl rfl (by omega)) trivial ?_
           refine p_step rfl (e_assign (v := .sc _) rfl) trivial ?_
           refine p_end (hK60 _ ?_); clear hK60 K60
           exact loop_again (k + 1) (by show _ < _; omega) ⟨rfl, rfl, rfl, trivial⟩ ⟨rfl, trivial⟩ (by exact by omega)
        ·have hb51R := hb51; (try simp only [z1, z2, z3, z4, z5, z6, ne_eq, z7, z8, z9, z10, z11, z12] at hb51); (try (have hll := hire_len hb51)); (try (rw [td_if] at hb51)); (try (have hz := td_parts (day := day) hb51)); (try (have hokm : ∀ m ∈ upF day ms, okM m := fun m hm => (tm_go hz.1 m (List.mem_filter.1 hm).1).1)); (try (have hlc := len_charges (day := day) hll.1 hll.2))
         refine pwp_exit ?_
         refine exit_seq ?_
         clear hK50 K50
         refine exit_loop ?_
         refine exit_here ?_
         refine seq_norm (hK44 _ ?_); clear hK44 K44
         refine pwp_seq_plain rfl fun K61 hK61 => ?_
         refine p_step rfl (e_assign (v := .sc _) rfl) trivial ?_
         refine p_end (hK61 _ ?_); clear hK61 K61
         refine pwp_ret ?_
         refine end1 (v := .sc _) rfl ?_
         first
           | exact out_b rfl
           | exact out_b (acc_bad (by assumption))
           | exact absurd (by assumption) (acc_good hz)
           | exact absurd (by assumption) (acc_row hxy hdx hyb)

end Go.Proofs.Ytdbpfhbppcpbbaa
