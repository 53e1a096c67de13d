/- RecordDays, as a contract on pure values. No conditions. -/
import Derived.Test.YtdbpfhbppcpbbaaMovC
set_option linter.unusedSimpArgs false
set_option linter.unusedVariables false
set_option maxRecDepth 100000
namespace Go.Proofs.Ytdbpfhbppcpbbaa
open Go Go.Pv
theorem td_all {ts : List Term} {ms : List Move} {day : Int} (h : tmE ts ms = 0) (hd : 0 ≤ day ∧ day ≤ 20000) : tdE ts ms day = 0 := (td_0 h hd).symm
theorem acc_eq {ts : List Term} {ms : List Move} {day : Int} (h : tmE ts ms = 0) (hd : 0 ≤ day ∧ day ≤ 20000) : accP ts ms day = (lotsP ts (upF day ms)).map (chargeOf ts day) := by
  rw [accP_0 (td_all h hd), tm_upF h, lotsP_0 (tm_up h day)]; rfl
theorem acc_get {ts : List Term} {ms : List Move} {day : Int} {k : Nat} {x : Charge} (h : tmE ts ms = 0) (hd : 0 ≤ day ∧ day ≤ 20000) (hx : (accP ts ms day)[k]? = some x) :
    ∃ y t, (lotsP ts (upF day ms))[k]? = some y ∧ ts[(termIx ts x.part).toNat]? = some t ∧ 0 ≤ termIx ts x.part ∧ x = chargeT t day y ∧ x.part = y.part ∧ ((0 ≤ t.week ∧ t.week ≤ 1000000) ∧ (0 ≤ t.price ∧ t.price ≤ 1000000) ∧ (0 ≤ t.least ∧ t.least ≤ 520)) ∧ okLot ts day y := by
  rw [acc_eq h hd, List.getElem?_map, Option.map_eq_some_iff] at hx
  obtain ⟨y, hy, rfl⟩ := hx
  have hm := List.mem_of_getElem? hy
  rw [tm_upF h, lotsP_0 (tm_up h day)] at hm
  have hok := lots_ok (tm_up h day) hd.1 upM_le y hm
  obtain ⟨t, ht, _⟩ := ix_part hok.ix
  have e : chargeOf ts day y = chargeT t day y := by simp [chargeOf, termAt, ht]
  refine ⟨y, t, hy, ?_, hok.ix, e, rfl, term_ok (tm_parts h).1 t (List.mem_of_getElem? ht), hok⟩
  exact ht
def tOk (t : Term) : Prop := (0 ≤ t.week ∧ t.week ≤ 1000000) ∧ (0 ≤ t.price ∧ t.price ≤ 1000000) ∧ (0 ≤ t.least ∧ t.least ≤ 520)
theorem days_bnd {ts : List Term} {day : Int} {x : Charge} {y : Lot} {t : Term} (hr : x = chargeT t day y) (hok : okLot ts day y) (ht : tOk t) (hd : 0 ≤ day ∧ day ≤ 20000) :
    (0 ≤ x.count * t.price ∧ x.count * t.price ≤ 100000000000) ∧ (0 ≤ x.amount ∧ x.amount ≤ 400000000000000) ∧
    ((0 ≤ (if (decide (y.out = 2)) = true then (x.amount - (x.count * t.price)) else x.amount)) ∧ (if (decide (y.out = 2)) = true then (x.amount - (x.count * t.price)) else x.amount) ≤ 400000000000000) ∧
    ((0 ≤ (if (decide (y.out < 0)) = true then day else y.day) ∧ (if (decide (y.out < 0)) = true then day else y.day) ≤ 20000) ∧ (0 ≤ y.inn ∧ y.inn ≤ 20000)) ∧
    (0 ≤ ((((if (decide (y.out < 0)) = true then day else y.day) - y.inn) + 1) * x.count) ∧ ((((if (decide (y.out < 0)) = true then day else y.day) - y.inn) + 1) * x.count) ≤ 20001 * 100000) ∧
    (0 ≤ (((((if (decide (y.out < 0)) = true then day else y.day) - y.inn) + 1) * x.count) * t.week) ∧ (((((if (decide (y.out < 0)) = true then day else y.day) - y.inn) + 1) * x.count) * t.week) ≤ 20001 * 100000 * 1000000) ∧
    (0 ≤ (((((if (decide (y.out < 0)) = true then day else y.day) - y.inn) + 1) + 6) * x.count) ∧ (((((if (decide (y.out < 0)) = true then day else y.day) - y.inn) + 1) + 6) * x.count) ≤ 20007 * 100000) ∧
    (0 ≤ ((((((if (decide (y.out < 0)) = true then day else y.day) - y.inn) + 1) + 6) * x.count) * t.week) ∧ ((((((if (decide (y.out < 0)) = true then day else y.day) - y.inn) + 1) + 6) * x.count) * t.week) ≤ 20007 * 100000 * 1000000) := by
  have hla := last_ok hok hd
  have hW := weeks_bnd hla.2.2 hla.1 hla.2.1 ht.2.2
  have hc : 0 ≤ y.count ∧ y.count ≤ 100000 := by have := hok.cnt; omega
  have hm1 := mul_bnd hc hW
  have hm2 := mul_bnd hm1 ht.1
  have hm3 := mul_bnd hc ht.2.1
  have e1 : x.count = y.count := by rw [hr]; rfl
  have e2 : x.amount = y.count * weeksP y.inn (lastP day y) t.least * t.week + if y.out = 2 then y.count * t.price else 0 := by rw [hr]; rfl
  rw [lastD, e1, e2]
  have h4 := mul_bnd (a := lastP day y - y.inn + 1) (A := 20001) ⟨by omega, by omega⟩ hc
  have h5 := mul_bnd (a := lastP day y - y.inn + 1 + 6) (A := 20007) ⟨by omega, by omega⟩ hc
  have h6 := mul_bnd h4 ht.1
  have h7 := mul_bnd h5 ht.1
  refine ⟨hm3, ?_, ?_, ⟨hla.1, hla.2.2⟩, h4, h6, h5, h7⟩
  · split <;> omega
  · by_cases ho : y.out = 2
    · simp only [ho, decide_true, if_true]; omega
    · simp only [ho, decide_false, if_false, Bool.false_eq_true]; omega
theorem lotP_len2 {ts : List Term} {ms : List Move} (day : Int) (hl : ts.length ≤ 65) (hm : ms.length ≤ 305) : (lotsP ts (upF day ms)).length ≤ 6066450 := by
  have h1 := lotsT_len ts (upF day ms) (Nat.le_trans (upF_len _ _) hm)
  have h2 : ts.length * 93330 ≤ 65 * 93330 := Nat.mul_le_mul_right _ hl
  unfold lotsP
  split
  · omega
  · simp
theorem days_1 {ts : List Term} {ms : List Move} {day : Int} (h : tmE ts ms = 0) (hd : 0 ≤ day ∧ day ≤ 20000) : ¬ ((¬ tdE ts ms day = 0 ∨ ¬ tmE ts (upF day ms) = 0) ∨ ¬ (((accP ts ms day).length : Nat) : Int) = (((lotsP ts (upF day ms)).length : Nat) : Int)) := by
  rw [acc_eq h hd, td_all h hd, tm_upF h, tm_up h day, List.length_map]; simp
theorem days_2 {ts : List Term} {day : Int} {x : Charge} {y : Lot} {t : Term} (h : 0 ≤ termIx ts x.part) (hr : x = chargeT t day y) (hp : x.part = y.part) : ¬ ((termIx ts x.part < 0 ∨ ¬ x.part = y.part) ∨ ¬ x.count = y.count) := by
  have e1 : x.count = y.count := by rw [hr]; rfl
  simp [e1, hp]
  rw [← hp]; exact h
theorem days_3 {ts : List Term} {day : Int} {x : Charge} {y : Lot} {t : Term} (hr : x = chargeT t day y) (hok : okLot ts day y) (ht : tOk t) (hd : 0 ≤ day ∧ day ≤ 20000) :
    ¬ ((7 * if y.out = 2 then x.amount - x.count * t.price else x.amount) < ((if y.out < 0 then day else y.day) - y.inn + 1) * x.count * t.week ∨
    t.least = 0 ∧ ((if y.out < 0 then day else y.day) - y.inn + 1 + 6) * x.count * t.week < 7 * if y.out = 2 then x.amount - x.count * t.price else x.amount) := by
  have hla := last_ok hok hd
  have e1 : x.count = y.count := by rw [hr]; rfl
  have e2 : x.amount = y.count * weeksP y.inn (lastP day y) t.least * t.week + if y.out = 2 then y.count * t.price else 0 := by rw [hr]; rfl
  have e3 : (if y.out = 2 then x.amount - x.count * t.price else x.amount) = y.count * weeksP y.inn (lastP day y) t.least * t.week := by
    rw [e1, e2]
    by_cases ho : y.out = 2
    · simp only [ho, if_true]; omega
    · simp only [ho, if_false]; omega
  have e4 : (if y.out < 0 then day else y.day) = lastP day y := rfl
  rw [e3, e4, e1]
  have hcw : 0 ≤ y.count * t.week := Int.mul_nonneg (by have := hok.cnt; omega) ht.1.1
  have a1 : 7 * (y.count * weeksP y.inn (lastP day y) t.least * t.week) = (7 * weeksP y.inn (lastP day y) t.least) * (y.count * t.week) := by ac_rfl
  have a2 : (lastP day y - y.inn + 1) * y.count * t.week = (lastP day y - y.inn + 1) * (y.count * t.week) := Int.mul_assoc _ _ _
  have a3 : (lastP day y - y.inn + 1 + 6) * y.count * t.week = (lastP day y - y.inn + 1 + 6) * (y.count * t.week) := Int.mul_assoc _ _ _
  rw [a1, a2, a3]
  intro h
  rcases h with h | ⟨h0, h⟩
  · have := Int.mul_le_mul_of_nonneg_right (show lastP day y - y.inn + 1 ≤ 7 * weeksP y.inn (lastP day y) t.least by unfold weeksP; omega) hcw
    omega
  · have := Int.mul_le_mul_of_nonneg_right (show 7 * weeksP y.inn (lastP day y) t.least ≤ lastP day y - y.inn + 1 + 6 by unfold weeksP; omega) hcw
    omega

theorem fr10 : (inFrame Try.f10.ntmps (Try.f10.body.getD .skip) && Try.f10.results.toList.all (resScope Try.f10.ntmps)) = true := by kernel_rfl
theorem daysLaw (ts : List Term) (ms : List Move) (day : Int) (hlt : ts.length ≤ 9223372036854775807) (hlm : ms.length ≤ 9223372036854775807) : PCalls Try.prog 10 [.lit true 4 (ts.map Term.enc), .lit true 4 (ms.map Move.enc), .int day] (.bool true) := by
  refine PCalls.of_code Try.func10 rfl rfl (by kernel_rfl) mixed fr10 (by show _ ≤ 192; simp) (.sc _) ?_
  refine pwp_seq_plain rfl fun K1 hK1 => ?_
  refine p_step rfl (e_assign (v := .sc _) rfl) trivial ?_
  refine p_end (hK1 _ ?_); clear hK1 K1
  refine pwp_seq_seq ?_
  refine pwp_seq_plain rfl fun K2 hK2 => ?_
  refine p_call rfl .nil (awake) ?_
  refine p_step rfl (e_not rfl) trivial ?_
  refine p_end (hK2 _ ?_); clear hK2 K2
  refine pwp_seq_cond (t := false) rfl fun K3 hK3 => ⟨nofun, fun _ => ?_⟩
  refine pwp_skip ?_
  refine seq_norm (hK3 _ ?_); clear hK3 K3
  refine pwp_seq_seq ?_
  refine pwp_seq_cutG [0, 1, 2] [(32, .bool (((!(hireB (ts) (ms))) || (decide ((tmE (ts) (ms)) ≠ (0)))) || (!(decide (0 ≤ day ∧ day ≤ 20000)))))] (fun K4 hK4 => ?_) (fun r5 => ?_)
  ·skip
   refine pwp_gops rfl fun K6 hK6 => ?_
   refine g_begin ?_
   refine g_step rfl rfl rfl rfl (e_move (v := .lit _ _ _) rfl) trivial ?_
   refine g_step rfl rfl rfl rfl (e_move (v := .lit _ _ _) rfl) trivial ?_
   refine g_call rfl rfl rfl rfl (.cons inn_lit (.cons inn_lit .nil)) (hire _ _ hlt hlm) ?_
   refine g_step rfl rfl rfl rfl (e_not rfl) trivial ?_
   refine g_step rfl rfl rfl rfl (e_move (v := .sc _) rfl) trivial ?_
   refine g_cases (fun hb7 => ?_) (fun hb7 => ?_)
   ·have hb7R := hb7; (try simp only [z1, z2, z3, z4, z5, z6, ne_eq, z7, z8, z9, z10, z11, z12] at hb7); (try (have hll := hire_len hb7)); (try (have hll := hire_len hb7.1)); (try (have hll := hire_len hb7.1.1)); (try (have hall : tmE ts ms = 0 ∧ (0 ≤ day ∧ day ≤ 20000) := ⟨hb7.1.2, hb7.2⟩))
    refine g_skip rfl rfl rfl ?_
    refine g_skip rfl rfl rfl ?_
    refine g_nocall rfl rfl rfl ?_
    refine g_skip rfl rfl rfl ?_
    refine g_step rfl rfl rfl rfl (e_pickT (v := .sc _) rfl rfl) trivial ?_
    refine g_step rfl rfl rfl rfl (e_move (v := .sc _) rfl) trivial ?_
    refine g_skip rfl rfl rfl ?_
    refine g_nocall rfl rfl rfl ?_
    refine g_skip rfl rfl rfl ?_
    refine g_step rfl rfl rfl rfl (e_pickT (v := .sc _) rfl rfl) trivial ?_
    refine g_end (ds := [23, 24, 25, 26, 29, 30, 31]) rfl rfl (hK6 _ ?_); clear hK6 K6
    exact seq_norm (hK4 _ ⟨rfl, rfl, rfl, trivial⟩ ⟨(congrArg PV.bool (show (true : Bool) = (((!(hireB (ts) (ms))) || (decide ((tmE (ts) (ms)) ≠ (0)))) || (!(decide (0 ≤ day ∧ day ≤ 20000)))) by first | rfl | ((try rw [hb7R]) <;> (first | rfl | (simp only [Bool.and_true, Bool.and_false, Bool.true_and, Bool.false_and, Bool.or_true, Bool.or_false, Bool.true_or, Bool.false_or, Bool.not_true, Bool.not_false, if_true, if_false, Bool.false_eq_true, reduceIte] <;> rfl))) | (simp only [hb7R, Bool.and_true, Bool.and_false, Bool.true_and, Bool.false_and, Bool.or_true, Bool.or_false, Bool.true_or, Bool.false_or, Bool.not_true, Bool.not_false, if_true, if_false, Bool.false_eq_true, reduceIte] <;> rfl))), trivial⟩)
   ·have hb7R := hb7; (try simp only [z1, z2, z3, z4, z5, z6, ne_eq, z7, z8, z9, z10, z11, z12] at hb7); (try (have hll := hire_len hb7)); (try (have hll := hire_len hb7.1)); (try (have hll := hire_len hb7.1.1)); (try (have hall : tmE ts ms = 0 ∧ (0 ≤ day ∧ day ≤ 20000) := ⟨hb7.1.2, hb7.2⟩))
    refine g_step rfl rfl rfl rfl (e_move (v := .lit _ _ _) rfl) trivial ?_
    refine g_step rfl rfl rfl rfl (e_move (v := .lit _ _ _) rfl) trivial ?_
    refine g_call rfl rfl rfl rfl (.cons inn_lit (.cons inn_lit .nil)) (CheckR _ _ (by omega) (by omega)) ?_
    refine g_step rfl rfl rfl rfl (e_ne rfl rfl) trivial ?_
    refine g_step rfl rfl rfl rfl (e_pickF (v := .sc _) rfl rfl) trivial ?_
    refine g_step rfl rfl rfl rfl (e_move (v := .sc _) rfl) trivial ?_
    refine g_cases (fun hb8 => ?_) (fun hb8 => ?_)
    ·have hb8R := hb8; (try simp only [z1, z2, z3, z4, z5, z6, ne_eq, z7, z8, z9, z10, z11, z12] at hb8); (try (have hll := hire_len hb8)); (try (have hll := hire_len hb8.1)); (try (have hll := hire_len hb8.1.1)); (try (have hall : tmE ts ms = 0 ∧ (0 ≤ day ∧ day ≤ 20000) := ⟨hb8.1.2, hb8.2⟩))
     refine g_skip rfl rfl rfl ?_
     refine g_nocall rfl rfl rfl ?_
     refine g_skip rfl rfl rfl ?_
     refine g_step rfl rfl rfl rfl (e_pickT (v := .sc _) rfl rfl) trivial ?_
     refine g_end (ds := [23, 24, 25, 26, 29, 30, 31]) rfl rfl (hK6 _ ?_); clear hK6 K6
     exact seq_norm (hK4 _ ⟨rfl, rfl, rfl, trivial⟩ ⟨(congrArg PV.bool (show (true : Bool) = (((!(hireB (ts) (ms))) || (decide ((tmE (ts) (ms)) ≠ (0)))) || (!(decide (0 ≤ day ∧ day ≤ 20000)))) by first | rfl | ((try rw [hb8R]) <;> (try rw [hb7R]) <;> (first | rfl | (simp only [Bool.and_true, Bool.and_false, Bool.true_and, Bool.false_and, Bool.or_true, Bool.or_false, Bool.true_or, Bool.false_or, Bool.not_true, Bool.not_false, if_true, if_false, Bool.false_eq_true, reduceIte] <;> rfl))) | (simp only [hb7R, hb8R, Bool.and_true, Bool.and_false, Bool.true_and, Bool.false_and, Bool.or_true, Bool.or_false, Bool.true_or, Bool.false_or, Bool.not_true, Bool.not_false, if_true, if_false, Bool.false_eq_true, reduceIte] <;> rfl))), trivial⟩)
    ·have hb8R := hb8; (try simp only [z1, z2, z3, z4, z5, z6, ne_eq, z7, z8, z9, z10, z11, z12] at hb8); (try (have hll := hire_len hb8)); (try (have hll := hire_len hb8.1)); (try (have hll := hire_len hb8.1.1)); (try (have hall : tmE ts ms = 0 ∧ (0 ≤ day ∧ day ≤ 20000) := ⟨hb8.1.2, hb8.2⟩))
     refine g_step rfl rfl rfl rfl (e_move (v := .sc _) rfl) trivial ?_
     refine g_call rfl rfl rfl rfl (.cons inn_sc .nil) (IsDay _) ?_
     refine g_step rfl rfl rfl rfl (e_not rfl) trivial ?_
     refine g_step rfl rfl rfl rfl (e_pickF (v := .sc _) rfl rfl) trivial ?_
     refine g_end (ds := [23, 24, 25, 26, 29, 30, 31]) rfl rfl (hK6 _ ?_); clear hK6 K6
     exact seq_norm (hK4 _ ⟨rfl, rfl, rfl, trivial⟩ ⟨(congrArg PV.bool (show ((!(decide (0 ≤ day ∧ day ≤ 20000))) : Bool) = (((!(hireB (ts) (ms))) || (decide ((tmE (ts) (ms)) ≠ (0)))) || (!(decide (0 ≤ day ∧ day ≤ 20000)))) by first | rfl | ((try rw [hb8R]) <;> (try rw [hb7R]) <;> (first | rfl | (simp only [Bool.and_true, Bool.and_false, Bool.true_and, Bool.false_and, Bool.or_true, Bool.or_false, Bool.true_or, Bool.false_or, Bool.not_true, Bool.not_false, if_true, if_false, Bool.false_eq_true, reduceIte] <;> rfl))) | (simp only [hb7R, hb8R, Bool.and_true, Bool.and_false, Bool.true_and, Bool.false_and, Bool.or_true, Bool.or_false, Bool.true_or, Bool.false_or, Bool.not_true, Bool.not_false, if_true, if_false, Bool.false_eq_true, reduceIte] <;> rfl))), trivial⟩)
  ·skip
   refine pwp_seq_cond rfl fun K9 hK9 => ⟨fun hb10 => ?_, fun hb10 => ?_⟩
   ·have hb10R := hb10; (try simp only [z1, z2, z3, z4, z5, z6, ne_eq, z7, z8, z9, z10, z11, z12] at hb10); (try (have hll := hire_len hb10)); (try (have hll := hire_len hb10.1)); (try (have hll := hire_len hb10.1.1)); (try (have hall : tmE ts ms = 0 ∧ (0 ≤ day ∧ day ≤ 20000) := ⟨hb10.1.2, hb10.2⟩))
    refine pwp_seq_plain rfl fun K11 hK11 => ?_
    refine p_step rfl (e_assign (v := .sc _) rfl) trivial ?_
    refine p_end (hK11 _ ?_); clear hK11 K11
    refine pwp_ret ?_
    refine ret_seq ?_
    refine end1 (v := .sc _) rfl ?_
    first
      | exact out_b rfl
      | exact absurd (by assumption) (days_1 hall.1 hall.2)
      | exact absurd (by assumption) (days_2 hixp hrel hxp)
      | exact absurd (by assumption) (days_3 hrel hok htk hall.2)
   ·have hb10R := hb10; (try simp only [z1, z2, z3, z4, z5, z6, ne_eq, z7, z8, z9, z10, z11, z12] at hb10); (try (have hll := hire_len hb10)); (try (have hll := hire_len hb10.1)); (try (have hll := hire_len hb10.1.1)); (try (have hall : tmE ts ms = 0 ∧ (0 ≤ day ∧ day ≤ 20000) := ⟨hb10.1.2, hb10.2⟩))
    refine pwp_skip ?_
    refine seq_norm (hK9 _ ?_); clear hK9 K9
    refine pwp_seq_plain rfl fun K12 hK12 => ?_
    refine p_step rfl (e_move (v := .lit _ _ _) rfl) trivial ?_
    refine p_call rfl (.cons inn_lit .nil) (termsC _ (by omega)) ?_
    refine p_step rfl (e_move (v := .lit _ _ _) rfl) trivial ?_
    refine p_call rfl (.cons inn_lit .nil) (movesC _ (by omega)) ?_
    refine p_step rfl (e_move (v := .sc _) rfl) trivial ?_
    refine p_call rfl (.cons inn_lit (.cons inn_lit (.cons inn_sc .nil))) (Account _ _ _ (by omega) (by omega)) ?_
    refine p_step rfl (e_move (v := .tup _) rfl) trivial ?_
    refine p_step rfl (e_ext (v := .lit _ _ _) rfl (by simp) rfl) trivial ?_
    refine p_step rfl (e_ext (v := .sc _) rfl (by simp) rfl) trivial ?_
    refine p_step rfl (e_assign (v := .lit _ _ _) rfl) trivial ?_
    refine p_step rfl (e_assign (v := .sc _) rfl) trivial ?_
    refine p_end (hK12 _ ?_); clear hK12 K12
    refine pwp_seq_plain rfl fun K13 hK13 => ?_
    refine p_step rfl (e_move (v := .lit _ _ _) rfl) trivial ?_
    refine p_call rfl (.cons inn_lit .nil) (termsC _ (by omega)) ?_
    refine p_step rfl (e_move (v := .lit _ _ _) rfl) trivial ?_
    refine p_step rfl (e_move (v := .sc _) rfl) trivial ?_
    refine p_call rfl (.cons inn_lit (.cons inn_sc .nil)) (MovesUpto _ _ (by omega)) ?_
    refine p_call rfl (.cons inn_lit (.cons inn_lit .nil)) (Lots _ _ (by omega) (by first | omega | (exact Nat.le_trans (upF_len _ _) (by omega)))) ?_
    refine p_step rfl (e_move (v := .tup _) rfl) trivial ?_
    refine p_step rfl (e_ext (v := .lit _ _ _) rfl (by simp) rfl) trivial ?_
    refine p_step rfl (e_ext (v := .sc _) rfl (by simp) rfl) trivial ?_
    refine p_step rfl (e_assign (v := .lit _ _ _) rfl) trivial ?_
    refine p_step rfl (e_assign (v := .sc _) rfl) trivial ?_
    refine p_end (hK13 _ ?_); clear hK13 K13
    refine pwp_seq_seq ?_
    refine pwp_seq_cutG [0, 2, 7, 9] [(63, .bool (((decide ((tdE (ts) (ms) day) ≠ (0))) || (decide ((tmE (ts) (upF day (ms))) ≠ (0)))) || (decide (((((accP (ts) (ms) day).map Charge.enc).length : Nat) : Int) ≠ ((((lotsP (ts) (upF day (ms))).map Lot.enc).length : Nat) : Int)))))] (fun K14 hK14 => ?_) (fun r15 => ?_)
    ·skip
     refine pwp_gops rfl fun K16 hK16 => ?_
     refine g_begin ?_
     refine g_step rfl rfl rfl rfl (e_move (v := .sc _) rfl) trivial ?_
     refine g_step rfl rfl rfl rfl (e_ne rfl rfl) trivial ?_
     refine g_step rfl rfl rfl rfl (e_move (v := .sc _) rfl) trivial ?_
     refine g_cases (fun hb17 => ?_) (fun hb17 => ?_)
     ·have hb17R := hb17; (try simp only [z1, z2, z3, z4, z5, z6, ne_eq, z7, z8, z9, z10, z11, z12] at hb17); (try (have hll := hire_len hb17)); (try (have hll := hire_len hb17.1)); (try (have hll := hire_len hb17.1.1)); (try (have hall : tmE ts ms = 0 ∧ (0 ≤ day ∧ day ≤ 20000) := ⟨hb17.1.2, hb17.2⟩))
      refine g_skip rfl rfl rfl ?_
      refine g_skip rfl rfl rfl ?_
      refine g_step rfl rfl rfl rfl (e_pickT (v := .sc _) rfl rfl) trivial ?_
      refine g_step rfl rfl rfl rfl (e_move (v := .sc _) rfl) trivial ?_
      refine g_skip rfl rfl rfl ?_
      refine g_skip rfl rfl rfl ?_
      refine g_skip rfl rfl rfl ?_
      refine g_skip rfl rfl rfl ?_
      refine g_skip rfl rfl rfl ?_
      refine g_step rfl rfl rfl rfl (e_pickT (v := .sc _) rfl rfl) trivial ?_
      refine g_end (ds := [54, 55, 58, 59, 60, 61, 62]) rfl rfl (hK16 _ ?_); clear hK16 K16
      exact seq_norm (hK14 _ ⟨rfl, rfl, rfl, rfl, trivial⟩ ⟨(congrArg PV.bool (show (true : Bool) = (((decide ((tdE (ts) (ms) day) ≠ (0))) || (decide ((tmE (ts) (upF day (ms))) ≠ (0)))) || (decide (((((accP (ts) (ms) day).map Charge.enc).length : Nat) : Int) ≠ ((((lotsP (ts) (upF day (ms))).map Lot.enc).length : Nat) : Int)))) by first | rfl | ((try rw [hb17R]) <;> (first | rfl | (simp only [Bool.and_true, Bool.and_false, Bool.true_and, Bool.false_and, Bool.or_true, Bool.or_false, Bool.true_or, Bool.false_or, Bool.not_true, Bool.not_false, if_true, if_false, Bool.false_eq_true, reduceIte] <;> rfl))) | (simp only [hb17R, Bool.and_true, Bool.and_false, Bool.true_and, Bool.false_and, Bool.or_true, Bool.or_false, Bool.true_or, Bool.false_or, Bool.not_true, Bool.not_false, if_true, if_false, Bool.false_eq_true, reduceIte] <;> rfl))), trivial⟩)
     ·have hb17R := hb17; (try simp only [z1, z2, z3, z4, z5, z6, ne_eq, z7, z8, z9, z10, z11, z12] at hb17); (try (have hll := hire_len hb17)); (try (have hll := hire_len hb17.1)); (try (have hll := hire_len hb17.1.1)); (try (have hall : tmE ts ms = 0 ∧ (0 ≤ day ∧ day ≤ 20000) := ⟨hb17.1.2, hb17.2⟩))
      refine g_step rfl rfl rfl rfl (e_move (v := .sc _) rfl) trivial ?_
      refine g_step rfl rfl rfl rfl (e_ne rfl rfl) trivial ?_
      refine g_step rfl rfl rfl rfl (e_pickF (v := .sc _) rfl rfl) trivial ?_
      refine g_step rfl rfl rfl rfl (e_move (v := .sc _) rfl) trivial ?_
      refine g_cases (fun hb18 => ?_) (fun hb18 => ?_)
      ·have hb18R := hb18; (try simp only [z1, z2, z3, z4, z5, z6, ne_eq, z7, z8, z9, z10, z11, z12] at hb18); (try (have hll := hire_len hb18)); (try (have hll := hire_len hb18.1)); (try (have hll := hire_len hb18.1.1)); (try (have hall : tmE ts ms = 0 ∧ (0 ≤ day ∧ day ≤ 20000) := ⟨hb18.1.2, hb18.2⟩))
       refine g_skip rfl rfl rfl ?_
       refine g_skip rfl rfl rfl ?_
       refine g_skip rfl rfl rfl ?_
       refine g_skip rfl rfl rfl ?_
       refine g_skip rfl rfl rfl ?_
       refine g_step rfl rfl rfl rfl (e_pickT (v := .sc _) rfl rfl) trivial ?_
       refine g_end (ds := [54, 55, 58, 59, 60, 61, 62]) rfl rfl (hK16 _ ?_); clear hK16 K16
       exact seq_norm (hK14 _ ⟨rfl, rfl, rfl, rfl, trivial⟩ ⟨(congrArg PV.bool (show (true : Bool) = (((decide ((tdE (ts) (ms) day) ≠ (0))) || (decide ((tmE (ts) (upF day (ms))) ≠ (0)))) || (decide (((((accP (ts) (ms) day).map Charge.enc).length : Nat) : Int) ≠ ((((lotsP (ts) (upF day (ms))).map Lot.enc).length : Nat) : Int)))) by first | rfl | ((try rw [hb18R]) <;> (try rw [hb17R]) <;> (first | rfl | (simp only [Bool.and_true, Bool.and_false, Bool.true_and, Bool.false_and, Bool.or_true, Bool.or_false, Bool.true_or, Bool.false_or, Bool.not_true, Bool.not_false, if_true, if_false, Bool.false_eq_true, reduceIte] <;> rfl))) | (simp only [hb17R, hb18R, Bool.and_true, Bool.and_false, Bool.true_and, Bool.false_and, Bool.or_true, Bool.or_false, Bool.true_or, Bool.false_or, Bool.not_true, Bool.not_false, if_true, if_false, Bool.false_eq_true, reduceIte] <;> rfl))), trivial⟩)
      ·have hb18R := hb18; (try simp only [z1, z2, z3, z4, z5, z6, ne_eq, z7, z8, z9, z10, z11, z12] at hb18); (try (have hll := hire_len hb18)); (try (have hll := hire_len hb18.1)); (try (have hll := hire_len hb18.1.1)); (try (have hall : tmE ts ms = 0 ∧ (0 ≤ day ∧ day ≤ 20000) := ⟨hb18.1.2, hb18.2⟩))
       refine g_step rfl rfl rfl rfl (e_move (v := .lit _ _ _) rfl) trivial ?_
       refine g_step rfl rfl rfl rfl (e_len rfl (by kernel_rfl)) trivial ?_
       refine g_step rfl rfl rfl rfl (e_move (v := .lit _ _ _) rfl) trivial ?_
       refine g_step rfl rfl rfl rfl (e_len rfl (by kernel_rfl)) trivial ?_
       refine g_step rfl rfl rfl rfl (e_ne rfl rfl) trivial ?_
       refine g_step rfl rfl rfl rfl (e_pickF (v := .sc _) rfl rfl) trivial ?_
       refine g_end (ds := [54, 55, 58, 59, 60, 61, 62]) rfl rfl (hK16 _ ?_); clear hK16 K16
       exact seq_norm (hK14 _ ⟨rfl, rfl, rfl, rfl, trivial⟩ ⟨(congrArg PV.bool (show ((decide (((((accP (ts) (ms) day).map Charge.enc).length : Nat) : Int) ≠ ((((lotsP (ts) (upF day (ms))).map Lot.enc).length : Nat) : Int))) : Bool) = (((decide ((tdE (ts) (ms) day) ≠ (0))) || (decide ((tmE (ts) (upF day (ms))) ≠ (0)))) || (decide (((((accP (ts) (ms) day).map Charge.enc).length : Nat) : Int) ≠ ((((lotsP (ts) (upF day (ms))).map Lot.enc).length : Nat) : Int)))) by first | rfl | ((try rw [hb18R]) <;> (try rw [hb17R]) <;> (first | rfl | (simp only [Bool.and_true, Bool.and_false, Bool.true_and, Bool.false_and, Bool.or_true, Bool.or_false, Bool.true_or, Bool.false_or, Bool.not_true, Bool.not_false, if_true, if_false, Bool.false_eq_true, reduceIte] <;> rfl))) | (simp only [hb17R, hb18R, Bool.and_true, Bool.and_false, Bool.true_and, Bool.false_and, Bool.or_true, Bool.or_false, Bool.true_or, Bool.false_or, Bool.not_true, Bool.not_false, if_true, if_false, Bool.false_eq_true, reduceIte] <;> rfl))), trivial⟩)
    ·skip
     refine pwp_seq_cond rfl fun K19 hK19 => ⟨fun hb20 => ?_, fun hb20 => ?_⟩
     ·have hb20R := hb20; (try simp only [z1, z2, z3, z4, z5, z6, ne_eq, z7, z8, z9, z10, z11, z12] at hb20); (try (have hll := hire_len hb20)); (try (have hll := hire_len hb20.1)); (try (have hll := hire_len hb20.1.1)); (try (have hall : tmE ts ms = 0 ∧ (0 ≤ day ∧ day ≤ 20000) := ⟨hb20.1.2, hb20.2⟩))
      refine pwp_seq_plain rfl fun K21 hK21 => ?_
      refine p_step rfl (e_assign (v := .sc _) rfl) trivial ?_
      refine p_end (hK21 _ ?_); clear hK21 K21
      refine pwp_ret ?_
      refine ret_seq ?_
      refine end1 (v := .sc _) rfl ?_
      first
        | exact out_b rfl
        | exact absurd (by assumption) (days_1 hall.1 hall.2)
        | exact absurd (by assumption) (days_2 hixp hrel hxp)
        | exact absurd (by assumption) (days_3 hrel hok htk hall.2)
     ·have hb20R := hb20; (try simp only [z1, z2, z3, z4, z5, z6, ne_eq, z7, z8, z9, z10, z11, z12] at hb20); (try (have hll := hire_len hb20)); (try (have hll := hire_len hb20.1)); (try (have hll := hire_len hb20.1.1)); (try (have hall : tmE ts ms = 0 ∧ (0 ≤ day ∧ day ≤ 20000) := ⟨hb20.1.2, hb20.2⟩))
      refine pwp_skip ?_
      refine seq_norm (hK19 _ ?_); clear hK19 K19
      refine pwp_seq_seq ?_
      refine pwp_seq_plain rfl fun K22 hK22 => ?_
      refine p_step rfl (e_assign (v := .sc _) rfl) trivial ?_
      refine p_end (hK22 _ ?_); clear hK22 K22
      refine pwp_seq_block fun K23 hK23 => ?_
      refine pwp_loopR (α := Nat) [0, 2, 7, 9] (fun (k : Nat) => [(11, .int (k))]) (fun (k : Nat) (h : Heap) (_ : Nat → Nat) => ((k) ≤ (accP ts ms day).length)) (fun (k : Nat) => (accP ts ms day).length - (k)) (0) (by exact ⟨rfl, trivial⟩) (by exact by exact Nat.zero_le _) fun k r24 h25 c26 hj27 => ?_
      have hk := hj27; clear hj27
      try dsimp only at hk
      show pwp _ _ (loopQ _ _ _) ⟨sets (mix _ _ _) [(11, .int k)], _, _⟩
      refine pwp_seq_seq ?_
      refine pwp_seq_plain rfl fun K28 hK28 => ?_
      refine p_step rfl (e_move (v := .sc _) rfl) trivial ?_
      refine p_step rfl (e_move (v := .lit _ _ _) rfl) trivial ?_
      refine p_step rfl (e_len rfl (by kernel_rfl)) trivial ?_
      refine p_step rfl (e_lt rfl rfl) trivial ?_
      refine p_end (hK28 _ ?_); clear hK28 K28
      refine pwp_seq_cond rfl fun K29 hK29 => ⟨fun hb30 => ?_, fun hb30 => ?_⟩
      ·have hb30R := hb30; (try simp only [z1, z2, z3, z4, z5, z6, ne_eq, z7, z8, z9, z10, z11, z12] at hb30); (try (have hll := hire_len hb30)); (try (have hll := hire_len hb30.1)); (try (have hll := hire_len hb30.1.1)); (try (have hall : tmE ts ms = 0 ∧ (0 ≤ day ∧ day ≤ 20000) := ⟨hb30.1.2, hb30.2⟩))
       obtain ⟨x, hx, hd, ht⟩ := get_lt (xs := (accP ts ms day)) (i := k) (by omega)
       obtain ⟨y, t, hy, ht0, hixp, hrel, hxp, htk, hok⟩ := acc_get hall.1 hall.2 hx
       have hyl := (List.getElem?_eq_some_iff.1 hy).1
       have hixl := ix_lt hixp
       have hlen9 := lotP_len2 day hll.1 hll.2
       have hbb := days_bnd hrel hok htk hall.2
       refine pwp_skip ?_
       refine seq_norm (hK29 _ ?_); clear hK29 K29
       refine pwp_seq_block fun K31 hK31 => ?_
       refine pwp_seq_plain rfl fun K32 hK32 => ?_
       refine p_step rfl (e_move (v := .lit _ _ _) rfl) trivial ?_
       refine p_step rfl (e_move (v := .lit _ _ _) rfl) trivial ?_
       refine p_step rfl (e_move (v := .sc _) rfl) trivial ?_
       refine p_step rfl (e_ixa rfl rfl (by kernel_rfl) (by kernel_rfl) (by simp only [List.length_map]; omega)) trivial ?_
       refine p_step rfl (e_fa (pl := [(0, 1, false), (1, 1, false), (2, 1, false), (3, 1, false)]) rfl (by kernel_rfl) (by kernel_rfl) (by decide) rfl) trivial ?_
       refine p_step rfl (e_load (v := .sc _) rfl (by kernel_rfl) (by kernel_rfl) (by kernel_rfl) (by simp only [List.length_map]; omega) (by decide) ((cell_map hx _).trans rfl)) trivial ?_
       refine p_call rfl (.cons inn_lit (.cons inn_sc .nil)) (Term55 _ _ (by omega)) ?_
       refine p_step rfl (e_assign (v := .sc _) rfl) trivial ?_
       refine p_end (hK32 _ ?_); clear hK32 K32
       refine pwp_seq_seq ?_
       refine pwp_seq_cutG [0, 2, 7, 9, 11, 12] [(104, .bool (((decide ((termIx (ts) x.part) < (0))) || (decide (x.part ≠ y.part))) || (decide (x.count ≠ y.count))))] (fun K33 hK33 => ?_) (fun r34 => ?_)
       ·skip
        refine pwp_gops rfl fun K35 hK35 => ?_
        refine g_begin ?_
        refine g_step rfl rfl rfl rfl (e_move (v := .sc _) rfl) trivial ?_
        refine g_step rfl rfl rfl rfl (e_lt rfl rfl) trivial ?_
        refine g_step rfl rfl rfl rfl (e_move (v := .sc _) rfl) trivial ?_
        refine g_cases (fun hb36 => ?_) (fun hb36 => ?_)
        ·have hb36R := hb36; (try simp only [z1, z2, z3, z4, z5, z6, ne_eq, z7, z8, z9, z10, z11, z12] at hb36); (try (have hll := hire_len hb36)); (try (have hll := hire_len hb36.1)); (try (have hll := hire_len hb36.1.1)); (try (have hall : tmE ts ms = 0 ∧ (0 ≤ day ∧ day ≤ 20000) := ⟨hb36.1.2, hb36.2⟩))
         refine g_skip rfl rfl rfl ?_
         refine g_skip rfl rfl rfl ?_
         refine g_skip rfl rfl rfl ?_
         refine g_skip rfl rfl rfl ?_
         refine g_skip rfl rfl rfl ?_
         refine g_skip rfl rfl rfl ?_
         refine g_skip rfl rfl rfl ?_
         refine g_skip rfl rfl rfl ?_
         refine g_skip rfl rfl rfl ?_
         refine g_skip rfl rfl rfl ?_
         refine g_skip rfl rfl rfl ?_
         refine g_step rfl rfl rfl rfl (e_pickT (v := .sc _) rfl rfl) trivial ?_
         refine g_step rfl rfl rfl rfl (e_move (v := .sc _) rfl) trivial ?_
         refine g_skip rfl rfl rfl ?_
         refine g_skip rfl rfl rfl ?_
         refine g_skip rfl rfl rfl ?_
         refine g_skip rfl rfl rfl ?_
         refine g_skip rfl rfl rfl ?_
         refine g_skip rfl rfl rfl ?_
         refine g_skip rfl rfl rfl ?_
         refine g_skip rfl rfl rfl ?_
         refine g_skip rfl rfl rfl ?_
         refine g_skip rfl rfl rfl ?_
         refine g_skip rfl rfl rfl ?_
         refine g_step rfl rfl rfl rfl (e_pickT (v := .sc _) rfl rfl) trivial ?_
         refine g_end (ds := [80, 81, 82, 83, 84, 85, 86, 87, 88, 89, 90, 93, 94, 95, 96, 97, 98, 99, 100, 101, 102, 103]) (by kernel_rfl) rfl (hK35 _ ?_); clear hK35 K35
         exact seq_norm (hK33 _ ⟨rfl, rfl, rfl, rfl, rfl, rfl, trivial⟩ ⟨(congrArg PV.bool (show (true : Bool) = (((decide ((termIx (ts) x.part) < (0))) || (decide (x.part ≠ y.part))) || (decide (x.count ≠ y.count))) by first | rfl | ((try rw [hb36R]) <;> (first | rfl | (simp only [Bool.and_true, Bool.and_false, Bool.true_and, Bool.false_and, Bool.or_true, Bool.or_false, Bool.true_or, Bool.false_or, Bool.not_true, Bool.not_false, if_true, if_false, Bool.false_eq_true, reduceIte] <;> rfl))) | (simp only [hb36R, Bool.and_true, Bool.and_false, Bool.true_and, Bool.false_and, Bool.or_true, Bool.or_false, Bool.true_or, Bool.false_or, Bool.not_true, Bool.not_false, if_true, if_false, Bool.false_eq_true, reduceIte] <;> rfl))), trivial⟩)
        ·have hb36R := hb36; (try simp only [z1, z2, z3, z4, z5, z6, ne_eq, z7, z8, z9, z10, z11, z12] at hb36); (try (have hll := hire_len hb36)); (try (have hll := hire_len hb36.1)); (try (have hll := hire_len hb36.1.1)); (try (have hall : tmE ts ms = 0 ∧ (0 ≤ day ∧ day ≤ 20000) := ⟨hb36.1.2, hb36.2⟩))
         refine g_step rfl rfl rfl rfl (e_move (v := .lit _ _ _) rfl) trivial ?_
         refine g_step rfl rfl rfl rfl (e_move (v := .sc _) rfl) trivial ?_
         refine g_step rfl rfl rfl rfl (e_ixa rfl rfl (by kernel_rfl) (by kernel_rfl) (by simp only [List.length_map]; omega)) trivial ?_
         refine g_step rfl rfl rfl rfl (e_fa (pl := [(0, 1, false), (1, 1, false), (2, 1, false), (3, 1, false)]) rfl (by kernel_rfl) (by kernel_rfl) (by decide) rfl) trivial ?_
         refine g_step rfl rfl rfl rfl (e_load (v := .sc _) rfl (by kernel_rfl) (by kernel_rfl) (by kernel_rfl) (by simp only [List.length_map]; omega) (by decide) ((cell_map hx _).trans rfl)) trivial ?_
         refine g_step rfl rfl rfl rfl (e_move (v := .lit _ _ _) rfl) trivial ?_
         refine g_step rfl rfl rfl rfl (e_move (v := .sc _) rfl) trivial ?_
         refine g_step rfl rfl rfl rfl (e_ixa rfl rfl (by kernel_rfl) (by kernel_rfl) (by simp only [List.length_map]; omega)) trivial ?_
         refine g_step rfl rfl rfl rfl (e_fa (pl := [(0, 1, false), (1, 1, false), (2, 1, false), (3, 1, false), (4, 1, false)]) rfl (by kernel_rfl) (by kernel_rfl) (by decide) rfl) trivial ?_
         refine g_step rfl rfl rfl rfl (e_load (v := .sc _) rfl (by kernel_rfl) (by kernel_rfl) (by kernel_rfl) (by simp only [List.length_map]; omega) (by decide) ((cell_map hy _).trans rfl)) trivial ?_
         refine g_step rfl rfl rfl rfl (e_sne rfl rfl) trivial ?_
         refine g_step rfl rfl rfl rfl (e_pickF (v := .sc _) rfl rfl) trivial ?_
         refine g_step rfl rfl rfl rfl (e_move (v := .sc _) rfl) trivial ?_
         refine g_cases (fun hb37 => ?_) (fun hb37 => ?_)
         ·have hb37R := hb37; (try simp only [z1, z2, z3, z4, z5, z6, ne_eq, z7, z8, z9, z10, z11, z12] at hb37); (try (have hll := hire_len hb37)); (try (have hll := hire_len hb37.1)); (try (have hll := hire_len hb37.1.1)); (try (have hall : tmE ts ms = 0 ∧ (0 ≤ day ∧ day ≤ 20000) := ⟨hb37.1.2, hb37.2⟩))
          refine g_skip rfl rfl rfl ?_
          refine g_skip rfl rfl rfl ?_
          refine g_skip rfl rfl rfl ?_
          refine g_skip rfl rfl rfl ?_
          refine g_skip rfl rfl rfl ?_
          refine g_skip rfl rfl rfl ?_
          refine g_skip rfl rfl rfl ?_
          refine g_skip rfl rfl rfl ?_
          refine g_skip rfl rfl rfl ?_
          refine g_skip rfl rfl rfl ?_
          refine g_skip rfl rfl rfl ?_
          refine g_step rfl rfl rfl rfl (e_pickT (v := .sc _) rfl rfl) trivial ?_
          refine g_end (ds := [80, 81, 82, 83, 84, 85, 86, 87, 88, 89, 90, 93, 94, 95, 96, 97, 98, 99, 100, 101, 102, 103]) (by kernel_rfl) rfl (hK35 _ ?_); clear hK35 K35
          exact seq_norm (hK33 _ ⟨rfl, rfl, rfl, rfl, rfl, rfl, trivial⟩ ⟨(congrArg PV.bool (show (true : Bool) = (((decide ((termIx (ts) x.part) < (0))) || (decide (x.part ≠ y.part))) || (decide (x.count ≠ y.count))) by first | rfl | ((try rw [hb37R]) <;> (try rw [hb36R]) <;> (first | rfl | (simp only [Bool.and_true, Bool.and_false, Bool.true_and, Bool.false_and, Bool.or_true, Bool.or_false, Bool.true_or, Bool.false_or, Bool.not_true, Bool.not_false, if_true, if_false, Bool.false_eq_true, reduceIte] <;> rfl))) | (simp only [hb36R, hb37R, Bool.and_true, Bool.and_false, Bool.true_and, Bool.false_and, Bool.or_true, Bool.or_false, Bool.true_or, Bool.false_or, Bool.not_true, Bool.not_false, if_true, if_false, Bool.false_eq_true, reduceIte] <;> rfl))), trivial⟩)
         ·have hb37R := hb37; (try simp only [z1, z2, z3, z4, z5, z6, ne_eq, z7, z8, z9, z10, z11, z12] at hb37); (try (have hll := hire_len hb37)); (try (have hll := hire_len hb37.1)); (try (have hll := hire_len hb37.1.1)); (try (have hall : tmE ts ms = 0 ∧ (0 ≤ day ∧ day ≤ 20000) := ⟨hb37.1.2, hb37.2⟩))
          refine g_step rfl rfl rfl rfl (e_move (v := .lit _ _ _) rfl) trivial ?_
          refine g_step rfl rfl rfl rfl (e_move (v := .sc _) rfl) trivial ?_
          refine g_step rfl rfl rfl rfl (e_ixa rfl rfl (by kernel_rfl) (by kernel_rfl) (by simp only [List.length_map]; omega)) trivial ?_
          refine g_step rfl rfl rfl rfl (e_fa (pl := [(0, 1, false), (1, 1, false), (2, 1, false), (3, 1, false)]) rfl (by kernel_rfl) (by kernel_rfl) (by decide) rfl) trivial ?_
          refine g_step rfl rfl rfl rfl (e_load (v := .sc _) rfl (by kernel_rfl) (by kernel_rfl) (by kernel_rfl) (by simp only [List.length_map]; omega) (by decide) ((cell_map hx _).trans rfl)) trivial ?_
          refine g_step rfl rfl rfl rfl (e_move (v := .lit _ _ _) rfl) trivial ?_
          refine g_step rfl rfl rfl rfl (e_move (v := .sc _) rfl) trivial ?_
          refine g_step rfl rfl rfl rfl (e_ixa rfl rfl (by kernel_rfl) (by kernel_rfl) (by simp only [List.length_map]; omega)) trivial ?_
          refine g_step rfl rfl rfl rfl (e_fa (pl := [(0, 1, false), (1, 1, false), (2, 1, false), (3, 1, false), (4, 1, false)]) rfl (by kernel_rfl) (by kernel_rfl) (by decide) rfl) trivial ?_
          refine g_step rfl rfl rfl rfl (e_load (v := .sc _) rfl (by kernel_rfl) (by kernel_rfl) (by kernel_rfl) (by simp only [List.length_map]; omega) (by decide) ((cell_map hy _).trans rfl)) trivial ?_
          refine g_step rfl rfl rfl rfl (e_ne rfl rfl) trivial ?_
          refine g_step rfl rfl rfl rfl (e_pickF (v := .sc _) rfl rfl) trivial ?_
          refine g_end (ds := [80, 81, 82, 83, 84, 85, 86, 87, 88, 89, 90, 93, 94, 95, 96, 97, 98, 99, 100, 101, 102, 103]) (by kernel_rfl) rfl (hK35 _ ?_); clear hK35 K35
          exact seq_norm (hK33 _ ⟨rfl, rfl, rfl, rfl, rfl, rfl, trivial⟩ ⟨(congrArg PV.bool (show ((decide (x.count ≠ y.count)) : Bool) = (((decide ((termIx (ts) x.part) < (0))) || (decide (x.part ≠ y.part))) || (decide (x.count ≠ y.count))) by first | rfl | ((try rw [hb37R]) <;> (try rw [hb36R]) <;> (first | rfl | (simp only [Bool.and_true, Bool.and_false, Bool.true_and, Bool.false_and, Bool.or_true, Bool.or_false, Bool.true_or, Bool.false_or, Bool.not_true, Bool.not_false, if_true, if_false, Bool.false_eq_true, reduceIte] <;> rfl))) | (simp only [hb36R, hb37R, Bool.and_true, Bool.and_false, Bool.true_and, Bool.false_and, Bool.or_true, Bool.or_false, Bool.true_or, Bool.false_or, Bool.not_true, Bool.not_false, if_true, if_false, Bool.false_eq_true, reduceIte] <;> rfl))), trivial⟩)
       ·skip
        refine pwp_seq_cond rfl fun K38 hK38 => ⟨fun hb39 => ?_, fun hb39 => ?_⟩
        ·have hb39R := hb39; (try simp only [z1, z2, z3, z4, z5, z6, ne_eq, z7, z8, z9, z10, z11, z12] at hb39); (try (have hll := hire_len hb39)); (try (have hll := hire_len hb39.1)); (try (have hll := hire_len hb39.1.1)); (try (have hall : tmE ts ms = 0 ∧ (0 ≤ day ∧ day ≤ 20000) := ⟨hb39.1.2, hb39.2⟩))
         refine pwp_seq_plain rfl fun K40 hK40 => ?_
         refine p_step rfl (e_assign (v := .sc _) rfl) trivial ?_
         refine p_end (hK40 _ ?_); clear hK40 K40
         refine pwp_ret ?_
         refine ret_seq ?_
         refine ret_block ?_
         refine ret_seq ?_
         refine ret_loop ?_
         refine ret_block ?_
         refine ret_seq ?_
         refine end1 (v := .sc _) rfl ?_
         first
           | exact out_b rfl
           | exact absurd (by assumption) (days_1 hall.1 hall.2)
           | exact absurd (by assumption) (days_2 hixp hrel hxp)
           | exact absurd (by assumption) (days_3 hrel hok htk hall.2)
        ·have hb39R := hb39; (try simp only [z1, z2, z3, z4, z5, z6, ne_eq, z7, z8, z9, z10, z11, z12] at hb39); (try (have hll := hire_len hb39)); (try (have hll := hire_len hb39.1)); (try (have hll := hire_len hb39.1.1)); (try (have hall : tmE ts ms = 0 ∧ (0 ≤ day ∧ day ≤ 20000) := ⟨hb39.1.2, hb39.2⟩))
         refine pwp_skip ?_
         refine seq_norm (hK38 _ ?_); clear hK38 K38
         refine pwp_seq_plain rfl fun K41 hK41 => ?_
         refine p_step rfl (e_move (v := .lit _ _ _) rfl) trivial ?_
         refine p_step rfl (e_move (v := .sc _) rfl) trivial ?_
         refine p_step rfl (e_ixa rfl rfl (by kernel_rfl) (by kernel_rfl) (by simp only [List.length_map]; omega)) trivial ?_
         refine p_step rfl (e_fa (pl := [(0, 1, false), (1, 1, false), (2, 1, false), (3, 1, false), (4, 1, false)]) rfl (by kernel_rfl) (by kernel_rfl) (by decide) rfl) trivial ?_
         refine p_step rfl (e_load (v := .sc _) rfl (by kernel_rfl) (by kernel_rfl) (by kernel_rfl) (by simp only [List.length_map]; omega) (by decide) ((cell_map hy _).trans rfl)) trivial ?_
         refine p_step rfl (e_assign (v := .sc _) rfl) trivial ?_
         refine p_end (hK41 _ ?_); clear hK41 K41
         refine pwp_seq_seq ?_
         refine pwp_seq_plain rfl fun K42 hK42 => ?_
         refine p_step rfl (e_move (v := .lit _ _ _) rfl) trivial ?_
         refine p_step rfl (e_move (v := .sc _) rfl) trivial ?_
         refine p_step rfl (e_ixa rfl rfl (by kernel_rfl) (by kernel_rfl) (by simp only [List.length_map]; omega)) trivial ?_
         refine p_step rfl (e_fa (pl := [(0, 1, false), (1, 1, false), (2, 1, false), (3, 1, false), (4, 1, false)]) rfl (by kernel_rfl) (by kernel_rfl) (by decide) rfl) trivial ?_
         refine p_step rfl (e_load (v := .sc _) rfl (by kernel_rfl) (by kernel_rfl) (by kernel_rfl) (by simp only [List.length_map]; omega) (by decide) ((cell_map hy _).trans rfl)) trivial ?_
         refine p_step rfl (e_lt rfl rfl) trivial ?_
         refine p_end (hK42 _ ?_); clear hK42 K42
         refine pwp_seq_cutG [0, 2, 7, 9, 11, 12] [(13, .int (if (decide (y.out < (0))) = true then day else y.day))] (fun K43 hK43 => ?_) (fun r44 => ?_)
         ·skip
          refine pwp_cond rfl (fun hb45 => ?_) (fun hb45 => ?_)
          ·have hb45R := hb45; (try simp only [z1, z2, z3, z4, z5, z6, ne_eq, z7, z8, z9, z10, z11, z12] at hb45); (try (have hll := hire_len hb45)); (try (have hll := hire_len hb45.1)); (try (have hll := hire_len hb45.1.1)); (try (have hall : tmE ts ms = 0 ∧ (0 ≤ day ∧ day ≤ 20000) := ⟨hb45.1.2, hb45.2⟩))
           refine pwp_plain rfl fun K46 hK46 => ?_
           refine p_step rfl (e_move (v := .sc _) rfl) trivial ?_
           refine p_step rfl (e_assign (v := .sc _) rfl) trivial ?_
           refine p_end (hK46 _ ?_); clear hK46 K46
           exact seq_norm (hK43 _ ⟨rfl, rfl, rfl, rfl, rfl, rfl, trivial⟩ ⟨(congrArg PV.int (show (day : Int) = (if (decide (y.out < (0))) = true then day else y.day) by first | rfl | ((try rw [hb45R]) <;> (first | rfl | (simp only [Bool.and_true, Bool.and_false, Bool.true_and, Bool.false_and, Bool.or_true, Bool.or_false, Bool.true_or, Bool.false_or, Bool.not_true, Bool.not_false, if_true, if_false, Bool.false_eq_true, reduceIte] <;> rfl))) | (simp only [hb45R, Bool.and_true, Bool.and_false, Bool.true_and, Bool.false_and, Bool.or_true, Bool.or_false, Bool.true_or, Bool.false_or, Bool.not_true, Bool.not_false, if_true, if_false, Bool.false_eq_true, reduceIte] <;> rfl))), trivial⟩)
          ·have hb45R := hb45; (try simp only [z1, z2, z3, z4, z5, z6, ne_eq, z7, z8, z9, z10, z11, z12] at hb45); (try (have hll := hire_len hb45)); (try (have hll := hire_len hb45.1)); (try (have hll := hire_len hb45.1.1)); (try (have hall : tmE ts ms = 0 ∧ (0 ≤ day ∧ day ≤ 20000) := ⟨hb45.1.2, hb45.2⟩))
           refine pwp_skip ?_
           exact seq_norm (hK43 _ ⟨rfl, rfl, rfl, rfl, rfl, rfl, trivial⟩ ⟨(congrArg PV.int (show (y.day : Int) = (if (decide (y.out < (0))) = true then day else y.day) by first | rfl | ((try rw [hb45R]) <;> (first | rfl | (simp only [Bool.and_true, Bool.and_false, Bool.true_and, Bool.false_and, Bool.or_true, Bool.or_false, Bool.true_or, Bool.false_or, Bool.not_true, Bool.not_false, if_true, if_false, Bool.false_eq_true, reduceIte] <;> rfl))) | (simp only [hb45R, Bool.and_true, Bool.and_false, Bool.true_and, Bool.false_and, Bool.or_true, Bool.or_false, Bool.true_or, Bool.false_or, Bool.not_true, Bool.not_false, if_true, if_false, Bool.false_eq_true, reduceIte] <;> rfl))), trivial⟩)
         ·skip
          refine pwp_seq_plain rfl fun K47 hK47 => ?_
          refine p_step rfl (e_move (v := .sc _) rfl) trivial ?_
          refine p_step rfl (e_move (v := .lit _ _ _) rfl) trivial ?_
          refine p_step rfl (e_move (v := .sc _) rfl) trivial ?_
          refine p_step rfl (e_ixa rfl rfl (by kernel_rfl) (by kernel_rfl) (by simp only [List.length_map]; omega)) trivial ?_
          refine p_step rfl (e_fa (pl := [(0, 1, false), (1, 1, false), (2, 1, false), (3, 1, false), (4, 1, false)]) rfl (by kernel_rfl) (by kernel_rfl) (by decide) rfl) trivial ?_
          refine p_step rfl (e_load (v := .sc _) rfl (by kernel_rfl) (by kernel_rfl) (by kernel_rfl) (by simp only [List.length_map]; omega) (by decide) ((cell_map hy _).trans rfl)) trivial ?_
          refine p_step rfl (e_sub rfl rfl (by omega)) trivial ?_
          refine p_step rfl (e_add rfl rfl (by omega)) trivial ?_
          refine p_step rfl (e_assign (v := .sc _) rfl) trivial ?_
          refine p_end (hK47 _ ?_); clear hK47 K47
          refine pwp_seq_plain rfl fun K48 hK48 => ?_
          refine p_step rfl (e_move (v := .lit _ _ _) rfl) trivial ?_
          refine p_step rfl (e_move (v := .sc _) rfl) trivial ?_
          refine p_step rfl (e_ixa rfl rfl (by kernel_rfl) (by kernel_rfl) (by simp only [List.length_map]; omega)) trivial ?_
          refine p_step rfl (e_fa (pl := [(0, 1, false), (1, 1, false), (2, 1, false), (3, 1, false)]) rfl (by kernel_rfl) (by kernel_rfl) (by decide) rfl) trivial ?_
          refine p_step rfl (e_load (v := .sc _) rfl (by kernel_rfl) (by kernel_rfl) (by kernel_rfl) (by simp only [List.length_map]; omega) (by decide) ((cell_map hx _).trans rfl)) trivial ?_
          refine p_step rfl (e_assign (v := .sc _) rfl) trivial ?_
          refine p_end (hK48 _ ?_); clear hK48 K48
          refine pwp_seq_seq ?_
          refine pwp_seq_plain rfl fun K49 hK49 => ?_
          refine p_step rfl (e_move (v := .lit _ _ _) rfl) trivial ?_
          refine p_step rfl (e_move (v := .sc _) rfl) trivial ?_
          refine p_step rfl (e_ixa rfl rfl (by kernel_rfl) (by kernel_rfl) (by simp only [List.length_map]; omega)) trivial ?_
          refine p_step rfl (e_fa (pl := [(0, 1, false), (1, 1, false), (2, 1, false), (3, 1, false), (4, 1, false)]) rfl (by kernel_rfl) (by kernel_rfl) (by decide) rfl) trivial ?_
          refine p_step rfl (e_load (v := .sc _) rfl (by kernel_rfl) (by kernel_rfl) (by kernel_rfl) (by simp only [List.length_map]; omega) (by decide) ((cell_map hy _).trans rfl)) trivial ?_
          refine p_step rfl (e_eq rfl rfl) trivial ?_
          refine p_end (hK49 _ ?_); clear hK49 K49
          refine pwp_seq_cutG [0, 2, 7, 9, 11, 12, 14] [(15, .int (if (decide (y.out = (2))) = true then (x.amount - (x.count * t.price)) else x.amount))] (fun K50 hK50 => ?_) (fun r51 => ?_)
          ·skip
           refine pwp_cond rfl (fun hb52 => ?_) (fun hb52 => ?_)
           ·have hb52R := hb52; (try simp only [z1, z2, z3, z4, z5, z6, ne_eq, z7, z8, z9, z10, z11, z12] at hb52); (try (have hll := hire_len hb52)); (try (have hll := hire_len hb52.1)); (try (have hll := hire_len hb52.1.1)); (try (have hall : tmE ts ms = 0 ∧ (0 ≤ day ∧ day ≤ 20000) := ⟨hb52.1.2, hb52.2⟩))
            refine pwp_gops rfl fun K53 hK53 => ?_
            refine g_begin ?_
            refine g_step rfl rfl rfl rfl (e_move (v := .sc _) rfl) trivial ?_
            refine g_step rfl rfl rfl rfl (e_move (v := .lit _ _ _) rfl) trivial ?_
            refine g_step rfl rfl rfl rfl (e_move (v := .sc _) rfl) trivial ?_
            refine g_step rfl rfl rfl rfl (e_ixa rfl rfl (by kernel_rfl) (by kernel_rfl) (by simp only [List.length_map]; omega)) trivial ?_
            refine g_step rfl rfl rfl rfl (e_fa (pl := [(0, 1, false), (1, 1, false), (2, 1, false), (3, 1, false)]) rfl (by kernel_rfl) (by kernel_rfl) (by decide) rfl) trivial ?_
            refine g_step rfl rfl rfl rfl (e_load (v := .sc _) rfl (by kernel_rfl) (by kernel_rfl) (by kernel_rfl) (by simp only [List.length_map]; omega) (by decide) ((cell_map hx _).trans rfl)) trivial ?_
            refine g_step rfl rfl rfl rfl (e_move (v := .lit _ _ _) rfl) trivial ?_
            refine g_step rfl rfl rfl rfl (e_move (v := .sc _) rfl) trivial ?_
            refine g_step rfl rfl rfl rfl (e_ixa rfl rfl (by kernel_rfl) (by kernel_rfl) (by simp only [List.length_map]; omega)) trivial ?_
            refine g_step rfl rfl rfl rfl (e_fa (pl := [(0, 1, false), (1, 1, false), (2, 1, false), (3, 1, false)]) rfl (by kernel_rfl) (by kernel_rfl) (by decide) rfl) trivial ?_
            refine g_step rfl rfl rfl rfl (e_load (v := .sc _) rfl (by kernel_rfl) (by kernel_rfl) (by kernel_rfl) (by simp only [List.length_map]; omega) (by decide) ((cell_map ht0 _).trans rfl)) trivial ?_
            refine g_step rfl rfl rfl rfl (e_mul rfl rfl (by omega)) trivial ?_
            refine g_step rfl rfl rfl rfl (e_sub rfl rfl (by omega)) trivial ?_
            refine g_step rfl rfl rfl rfl (e_assign (v := .sc _) rfl) trivial ?_
            refine g_end (ds := []) (by kernel_rfl) rfl (hK53 _ ?_); clear hK53 K53
            exact seq_norm (hK50 _ ⟨rfl, rfl, rfl, rfl, rfl, rfl, rfl, trivial⟩ ⟨(congrArg PV.int (show ((x.amount - (x.count * t.price)) : Int) = (if (decide (y.out = (2))) = true then (x.amount - (x.count * t.price)) else x.amount) by first | rfl | ((try rw [hb52R]) <;> (first | rfl | (simp only [Bool.and_true, Bool.and_false, Bool.true_and, Bool.false_and, Bool.or_true, Bool.or_false, Bool.true_or, Bool.false_or, Bool.not_true, Bool.not_false, if_true, if_false, Bool.false_eq_true, reduceIte] <;> rfl))) | (simp only [hb52R, Bool.and_true, Bool.and_false, Bool.true_and, Bool.false_and, Bool.or_true, Bool.or_false, Bool.true_or, Bool.false_or, Bool.not_true, Bool.not_false, if_true, if_false, Bool.false_eq_true, reduceIte] <;> rfl))), trivial⟩)
           ·have hb52R := hb52; (try simp only [z1, z2, z3, z4, z5, z6, ne_eq, z7, z8, z9, z10, z11, z12] at hb52); (try (have hll := hire_len hb52)); (try (have hll := hire_len hb52.1)); (try (have hll := hire_len hb52.1.1)); (try (have hall : tmE ts ms = 0 ∧ (0 ≤ day ∧ day ≤ 20000) := ⟨hb52.1.2, hb52.2⟩))
            refine pwp_skip ?_
            exact seq_norm (hK50 _ ⟨rfl, rfl, rfl, rfl, rfl, rfl, rfl, trivial⟩ ⟨(congrArg PV.int (show (x.amount : Int) = (if (decide (y.out = (2))) = true then (x.amount - (x.count * t.price)) else x.amount) by first | rfl | ((try rw [hb52R]) <;> (first | rfl | (simp only [Bool.and_true, Bool.and_false, Bool.true_and, Bool.false_and, Bool.or_true, Bool.or_false, Bool.true_or, Bool.false_or, Bool.not_true, Bool.not_false, if_true, if_false, Bool.false_eq_true, reduceIte] <;> rfl))) | (simp only [hb52R, Bool.and_true, Bool.and_false, Bool.true_and, Bool.false_and, Bool.or_true, Bool.or_false, Bool.true_or, Bool.false_or, Bool.not_true, Bool.not_false, if_true, if_false, Bool.false_eq_true, reduceIte] <;> rfl))), trivial⟩)
          ·skip
           refine pwp_seq_cutG [0, 2, 7, 9, 11] [(191, .bool ((decide (((7) * (if (decide (y.out = (2))) = true then (x.amount - (x.count * t.price)) else x.amount)) < (((((if (decide (y.out < (0))) = true then day else y.day) - y.inn) + (1)) * x.count) * t.week))) || ((decide (t.least = (0))) && (decide (((((((if (decide (y.out < (0))) = true then day else y.day) - y.inn) + (1)) + (6)) * x.count) * t.week) < ((7) * (if (decide (y.out = (2))) = true then (x.amount - (x.count * t.price)) else x.amount)))))))] (fun K54 hK54 => ?_) (fun r55 => ?_)
           ·skip
            refine pwp_gops rfl fun K56 hK56 => ?_
            refine g_begin ?_
            refine g_step rfl rfl rfl rfl (e_move (v := .sc _) rfl) trivial ?_
            refine g_step rfl rfl rfl rfl (e_mul rfl rfl (by omega)) trivial ?_
            refine g_step rfl rfl rfl rfl (e_move (v := .sc _) rfl) trivial ?_
            refine g_step rfl rfl rfl rfl (e_move (v := .lit _ _ _) rfl) trivial ?_
            refine g_step rfl rfl rfl rfl (e_move (v := .sc _) rfl) trivial ?_
            refine g_step rfl rfl rfl rfl (e_ixa rfl rfl (by kernel_rfl) (by kernel_rfl) (by simp only [List.length_map]; omega)) trivial ?_
            refine g_step rfl rfl rfl rfl (e_fa (pl := [(0, 1, false), (1, 1, false), (2, 1, false), (3, 1, false)]) rfl (by kernel_rfl) (by kernel_rfl) (by decide) rfl) trivial ?_
            refine g_step rfl rfl rfl rfl (e_load (v := .sc _) rfl (by kernel_rfl) (by kernel_rfl) (by kernel_rfl) (by simp only [List.length_map]; omega) (by decide) ((cell_map hx _).trans rfl)) trivial ?_
            refine g_step rfl rfl rfl rfl (e_mul rfl rfl (by omega)) trivial ?_
            refine g_step rfl rfl rfl rfl (e_move (v := .lit _ _ _) rfl) trivial ?_
            refine g_step rfl rfl rfl rfl (e_move (v := .sc _) rfl) trivial ?_
            refine g_step rfl rfl rfl rfl (e_ixa rfl rfl (by kernel_rfl) (by kernel_rfl) (by simp only [List.length_map]; omega)) trivial ?_
            refine g_step rfl rfl rfl rfl (e_fa (pl := [(0, 1, false), (1, 1, false), (2, 1, false), (3, 1, false)]) rfl (by kernel_rfl) (by kernel_rfl) (by decide) rfl) trivial ?_
            refine g_step rfl rfl rfl rfl (e_load (v := .sc _) rfl (by kernel_rfl) (by kernel_rfl) (by kernel_rfl) (by simp only [List.length_map]; omega) (by decide) ((cell_map ht0 _).trans rfl)) trivial ?_
            refine g_step rfl rfl rfl rfl (e_mul rfl rfl (by omega)) trivial ?_
            refine g_step rfl rfl rfl rfl (e_lt rfl rfl) trivial ?_
            refine g_step rfl rfl rfl rfl (e_move (v := .sc _) rfl) trivial ?_
            refine g_cases (fun hb57 => ?_) (fun hb57 => ?_)
            ·have hb57R := hb57; (try simp only [z1, z2, z3, z4, z5, z6, ne_eq, z7, z8, z9, z10, z11, z12] at hb57); (try (have hll := hire_len hb57)); (try (have hll := hire_len hb57.1)); (try (have hll := hire_len hb57.1.1)); (try (have hall : tmE ts ms = 0 ∧ (0 ≤ day ∧ day ≤ 20000) := ⟨hb57.1.2, hb57.2⟩))
             refine g_skip rfl rfl rfl ?_
             refine g_skip rfl rfl rfl ?_
             refine g_skip rfl rfl rfl ?_
             refine g_skip rfl rfl rfl ?_
             refine g_skip rfl rfl rfl ?_
             refine g_skip rfl rfl rfl ?_
             refine g_skip rfl rfl rfl ?_
             refine g_skip rfl rfl rfl ?_
             refine g_skip rfl rfl rfl ?_
             refine g_skip rfl rfl rfl ?_
             refine g_skip rfl rfl rfl ?_
             refine g_skip rfl rfl rfl ?_
             refine g_skip rfl rfl rfl ?_
             refine g_skip rfl rfl rfl ?_
             refine g_skip rfl rfl rfl ?_
             refine g_skip rfl rfl rfl ?_
             refine g_skip rfl rfl rfl ?_
             refine g_skip rfl rfl rfl ?_
             refine g_skip rfl rfl rfl ?_
             refine g_skip rfl rfl rfl ?_
             refine g_skip rfl rfl rfl ?_
             refine g_skip rfl rfl rfl ?_
             refine g_skip rfl rfl rfl ?_
             refine g_skip rfl rfl rfl ?_
             refine g_skip rfl rfl rfl ?_
             refine g_step rfl rfl rfl rfl (e_pickT (v := .sc _) rfl rfl) trivial ?_
             refine g_end (ds := [166, 167, 168, 169, 170, 171, 172, 173, 174, 175, 176, 177, 178, 179, 180, 181, 182, 183, 184, 185, 186, 187, 188, 189, 190]) (by kernel_rfl) rfl (hK56 _ ?_); clear hK56 K56
             exact seq_norm (hK54 _ ⟨rfl, rfl, rfl, rfl, rfl, trivial⟩ ⟨(congrArg PV.bool (show (true : Bool) = ((decide (((7) * (if (decide (y.out = (2))) = true then (x.amount - (x.count * t.price)) else x.amount)) < (((((if (decide (y.out < (0))) = true then day else y.day) - y.inn) + (1)) * x.count) * t.week))) || ((decide (t.least = (0))) && (decide (((((((if (decide (y.out < (0))) = true then day else y.day) - y.inn) + (1)) + (6)) * x.count) * t.week) < ((7) * (if (decide (y.out = (2))) = true then (x.amount - (x.count * t.price)) else x.amount)))))) by first | rfl | ((try rw [hb57R]) <;> (first | rfl | (simp only [Bool.and_true, Bool.and_false, Bool.true_and, Bool.false_and, Bool.or_true, Bool.or_false, Bool.true_or, Bool.false_or, Bool.not_true, Bool.not_false, if_true, if_false, Bool.false_eq_true, reduceIte] <;> rfl))) | (simp only [hb57R, Bool.and_true, Bool.and_false, Bool.true_and, Bool.false_and, Bool.or_true, Bool.or_false, Bool.true_or, Bool.false_or, Bool.not_true, Bool.not_false, if_true, if_false, Bool.false_eq_true, reduceIte] <;> rfl))), trivial⟩)
            ·have hb57R := hb57; (try simp only [z1, z2, z3, z4, z5, z6, ne_eq, z7, z8, z9, z10, z11, z12] at hb57); (try (have hll := hire_len hb57)); (try (have hll := hire_len hb57.1)); (try (have hll := hire_len hb57.1.1)); (try (have hall : tmE ts ms = 0 ∧ (0 ≤ day ∧ day ≤ 20000) := ⟨hb57.1.2, hb57.2⟩))
             refine g_step rfl rfl rfl rfl (e_move (v := .lit _ _ _) rfl) trivial ?_
             refine g_step rfl rfl rfl rfl (e_move (v := .sc _) rfl) trivial ?_
             refine g_step rfl rfl rfl rfl (e_ixa rfl rfl (by kernel_rfl) (by kernel_rfl) (by simp only [List.length_map]; omega)) trivial ?_
             refine g_step rfl rfl rfl rfl (e_fa (pl := [(0, 1, false), (1, 1, false), (2, 1, false), (3, 1, false)]) rfl (by kernel_rfl) (by kernel_rfl) (by decide) rfl) trivial ?_
             refine g_step rfl rfl rfl rfl (e_load (v := .sc _) rfl (by kernel_rfl) (by kernel_rfl) (by kernel_rfl) (by simp only [List.length_map]; omega) (by decide) ((cell_map ht0 _).trans rfl)) trivial ?_
             refine g_step rfl rfl rfl rfl (e_eq rfl rfl) trivial ?_
             refine g_step rfl rfl rfl rfl (e_move (v := .sc _) rfl) trivial ?_
             refine g_cases (fun hb58 => ?_) (fun hb58 => ?_)
             ·have hb58R := hb58; (try simp only [z1, z2, z3, z4, z5, z6, ne_eq, z7, z8, z9, z10, z11, z12] at hb58); (try (have hll := hire_len hb58)); (try (have hll := hire_len hb58.1)); (try (have hll := hire_len hb58.1.1)); (try (have hall : tmE ts ms = 0 ∧ (0 ≤ day ∧ day ≤ 20000) := ⟨hb58.1.2, hb58.2⟩))
              refine g_step rfl rfl rfl rfl (e_move (v := .sc _) rfl) trivial ?_
              refine g_step rfl rfl rfl rfl (e_mul rfl rfl (by omega)) trivial ?_
              refine g_step rfl rfl rfl rfl (e_move (v := .sc _) rfl) trivial ?_
              refine g_step rfl rfl rfl rfl (e_add rfl rfl (by omega)) trivial ?_
              refine g_step rfl rfl rfl rfl (e_move (v := .lit _ _ _) rfl) trivial ?_
              refine g_step rfl rfl rfl rfl (e_move (v := .sc _) rfl) trivial ?_
              refine g_step rfl rfl rfl rfl (e_ixa rfl rfl (by kernel_rfl) (by kernel_rfl) (by simp only [List.length_map]; omega)) trivial ?_
              refine g_step rfl rfl rfl rfl (e_fa (pl := [(0, 1, false), (1, 1, false), (2, 1, false), (3, 1, false)]) rfl (by kernel_rfl) (by kernel_rfl) (by decide) rfl) trivial ?_
              refine g_step rfl rfl rfl rfl (e_load (v := .sc _) rfl (by kernel_rfl) (by kernel_rfl) (by kernel_rfl) (by simp only [List.length_map]; omega) (by decide) ((cell_map hx _).trans rfl)) trivial ?_
              refine g_step rfl rfl rfl rfl (e_mul rfl rfl (by omega)) trivial ?_
              refine g_step rfl rfl rfl rfl (e_move (v := .lit _ _ _) rfl) trivial ?_
              refine g_step rfl rfl rfl rfl (e_move (v := .sc _) rfl) trivial ?_
              refine g_step rfl rfl rfl rfl (e_ixa rfl rfl (by kernel_rfl) (by kernel_rfl) (by simp only [List.length_map]; omega)) trivial ?_
              refine g_step rfl rfl rfl rfl (e_fa (pl := [(0, 1, false), (1, 1, false), (2, 1, false), (3, 1, false)]) rfl (by kernel_rfl) (by kernel_rfl) (by decide) rfl) trivial ?_
              refine g_step rfl rfl rfl rfl (e_load (v := .sc _) rfl (by kernel_rfl) (by kernel_rfl) (by kernel_rfl) (by simp only [List.length_map]; omega) (by decide) ((cell_map ht0 _).trans rfl)) trivial ?_
              refine g_step rfl rfl rfl rfl (e_mul rfl rfl (by omega)) trivial ?_
              refine g_step rfl rfl rfl rfl (e_gt rfl rfl) trivial ?_
              refine g_step rfl rfl rfl rfl (e_pickT (v := .sc _) rfl rfl) trivial ?_
              refine g_step rfl rfl rfl rfl (e_pickF (v := .sc _) rfl rfl) trivial ?_
              refine g_end (ds := [166, 167, 168, 169, 170, 171, 172, 173, 174, 175, 176, 177, 178, 179, 180, 181, 182, 183, 184, 185, 186, 187, 188, 189, 190]) (by kernel_rfl) rfl (hK56 _ ?_); clear hK56 K56
              exact seq_norm (hK54 _ ⟨rfl, rfl, rfl, rfl, rfl, trivial⟩ ⟨(congrArg PV.bool (show ((decide (((((((if (decide (y.out < (0))) = true then day else y.day) - y.inn) + (1)) + (6)) * x.count) * t.week) < ((7) * (if (decide (y.out = (2))) = true then (x.amount - (x.count * t.price)) else x.amount)))) : Bool) = ((decide (((7) * (if (decide (y.out = (2))) = true then (x.amount - (x.count * t.price)) else x.amount)) < (((((if (decide (y.out < (0))) = true then day else y.day) - y.inn) + (1)) * x.count) * t.week))) || ((decide (t.least = (0))) && (decide (((((((if (decide (y.out < (0))) = true then day else y.day) - y.inn) + (1)) + (6)) * x.count) * t.week) < ((7) * (if (decide (y.out = (2))) = true then (x.amount - (x.count * t.price)) else x.amount)))))) by first | rfl | ((try rw [hb58R]) <;> (try rw [hb57R]) <;> (first | rfl | (simp only [Bool.and_true, Bool.and_false, Bool.true_and, Bool.false_and, Bool.or_true, Bool.or_false, Bool.true_or, Bool.false_or, Bool.not_true, Bool.not_false, if_true, if_false, Bool.false_eq_true, reduceIte] <;> rfl))) | (simp only [hb57R, hb58R, Bool.and_true, Bool.and_false, Bool.true_and, Bool.false_and, Bool.or_true, Bool.or_false, Bool.true_or, Bool.false_or, Bool.not_true, Bool.not_false, if_true, if_false, Bool.false_eq_true, reduceIte] <;> rfl))), trivial⟩)
             ·have hb58R := hb58; (try simp only [z1, z2, z3, z4, z5, z6, ne_eq, z7, z8, z9, z10, z11, z12] at hb58); (try (have hll := hire_len hb58)); (try (have hll := hire_len hb58.1)); (try (have hll := hire_len hb58.1.1)); (try (have hall : tmE ts ms = 0 ∧ (0 ≤ day ∧ day ≤ 20000) := ⟨hb58.1.2, hb58.2⟩))
              refine g_skip rfl rfl rfl ?_
              refine g_skip rfl rfl rfl ?_
              refine g_skip rfl rfl rfl ?_
              refine g_skip rfl rfl rfl ?_
              refine g_skip rfl rfl rfl ?_
              refine g_skip rfl rfl rfl ?_
              refine g_skip rfl rfl rfl ?_
              refine g_skip rfl rfl rfl ?_
              refine g_skip rfl rfl rfl ?_
              refine g_skip rfl rfl rfl ?_
              refine g_skip rfl rfl rfl ?_
              refine g_skip rfl rfl rfl ?_
              refine g_skip rfl rfl rfl ?_
              refine g_skip rfl rfl rfl ?_
              refine g_skip rfl rfl rfl ?_
              refine g_skip rfl rfl rfl ?_
              refine g_skip rfl rfl rfl ?_
              refine g_step rfl rfl rfl rfl (e_pickF (v := .sc _) rfl rfl) trivial ?_
              refine g_step rfl rfl rfl rfl (e_pickF (v := .sc _) rfl rfl) trivial ?_
              refine g_end (ds := [166, 167, 168, 169, 170, 171, 172, 173, 174, 175, 176, 177, 178, 179, 180, 181, 182, 183, 184, 185, 186, 187, 188, 189, 190]) (by kernel_rfl) rfl (hK56 _ ?_); clear hK56 K56
              exact seq_norm (hK54 _ ⟨rfl, rfl, rfl, rfl, rfl, trivial⟩ ⟨(congrArg PV.bool (show (false : Bool) = ((decide (((7) * (if (decide (y.out = (2))) = true then (x.amount - (x.count * t.price)) else x.amount)) < (((((if (decide (y.out < (0))) = true then day else y.day) - y.inn) + (1)) * x.count) * t.week))) || ((decide (t.least = (0))) && (decide (((((((if (decide (y.out < (0))) = true then day else y.day) - y.inn) + (1)) + (6)) * x.count) * t.week) < ((7) * (if (decide (y.out = (2))) = true then (x.amount - (x.count * t.price)) else x.amount)))))) by first | rfl | ((try rw [hb58R]) <;> (try rw [hb57R]) <;> (first | rfl | (simp only [Bool.and_true, Bool.and_false, Bool.true_and, Bool.false_and, Bool.or_true, Bool.or_false, Bool.true_or, Bool.false_or, Bool.not_true, Bool.not_false, if_true, if_false, Bool.false_eq_true, reduceIte] <;> rfl))) | (simp only [hb57R, hb58R, Bool.and_true, Bool.and_false, Bool.true_and, Bool.false_and, Bool.or_true, Bool.or_false, Bool.true_or, Bool.false_or, Bool.not_true, Bool.not_false, if_true, if_false, Bool.false_eq_true, reduceIte] <;> rfl))), trivial⟩)
           ·skip
            refine pwp_cond rfl (fun hb59 => ?_) (fun hb59 => ?_)
            ·have hb59R := hb59; (try simp only [z1, z2, z3, z4, z5, z6, ne_eq, z7, z8, z9, z10, z11, z12] at hb59); (try (have hll := hire_len hb59)); (try (have hll := hire_len hb59.1)); (try (have hll := hire_len hb59.1.1)); (try (have hall : tmE ts ms = 0 ∧ (0 ≤ day ∧ day ≤ 20000) := ⟨hb59.1.2, hb59.2⟩))
             refine pwp_seq_plain rfl fun K60 hK60 => ?_
             refine p_step rfl (e_assign (v := .sc _) rfl) trivial ?_
             refine p_end (hK60 _ ?_); clear hK60 K60
             refine pwp_ret ?_
             refine ret_block ?_
             refine ret_seq ?_
             refine ret_loop ?_
             refine ret_block ?_
             refine ret_seq ?_
             refine end1 (v := .sc _) rfl ?_
             first
               | exact out_b rfl
               | exact absurd (by assumption) (days_1 hall.1 hall.2)
               | exact absurd (by assumption) (days_2 hixp hrel hxp)
               | exact absurd (by assumption) (days_3 hrel hok htk hall.2)
            ·have hb59R := hb59; (try simp only [z1, z2, z3, z4, z5, z6, ne_eq, z7, z8, z9, z10, z11, z12] at hb59); (try (have hll := hire_len hb59)); (try (have hll := hire_len hb59.1)); (try (have hll := hire_len hb59.1.1)); (try (have hall : tmE ts ms = 0 ∧ (0 ≤ day ∧ day ≤ 20000) := ⟨hb59.1.2, hb59.2⟩))
             refine pwp_skip ?_
             refine block_norm ?_
             refine seq_norm (hK31 _ ?_); clear hK31 K31
             refine pwp_plain rfl fun K61 hK61 => ?_
             refine p_step rfl (e_move (v := .sc _) rfl) trivial ?_
             refine p_step rfl (e_add rfl rfl (by omega)) trivial ?_
             refine p_step rfl (e_assign (v := .sc _) rfl) trivial ?_
             refine p_end (hK61 _ ?_); clear hK61 K61
             exact loop_again (k + 1) (by show _ < _; omega) ⟨rfl, rfl, rfl, rfl, trivial⟩ ⟨rfl, trivial⟩ (by exact by omega)
      ·have hb30R := hb30; (try simp only [z1, z2, z3, z4, z5, z6, ne_eq, z7, z8, z9, z10, z11, z12] at hb30); (try (have hll := hire_len hb30)); (try (have hll := hire_len hb30.1)); (try (have hll := hire_len hb30.1.1)); (try (have hall : tmE ts ms = 0 ∧ (0 ≤ day ∧ day ≤ 20000) := ⟨hb30.1.2, hb30.2⟩))
       refine pwp_exit ?_
       refine exit_seq ?_
       clear hK29 K29
       refine exit_loop ?_
       refine exit_here ?_
       refine seq_norm (hK23 _ ?_); clear hK23 K23
       refine pwp_seq_plain rfl fun K62 hK62 => ?_
       refine p_step rfl (e_assign (v := .sc _) rfl) trivial ?_
       refine p_end (hK62 _ ?_); clear hK62 K62
       refine pwp_ret ?_
       refine end1 (v := .sc _) rfl ?_
       first
         | exact out_b rfl
         | exact absurd (by assumption) (days_1 hall.1 hall.2)
         | exact absurd (by assumption) (days_2 hixp hrel hxp)
         | exact absurd (by assumption) (days_3 hrel hok htk hall.2)

end Go.Proofs.Ytdbpfhbppcpbbaa
