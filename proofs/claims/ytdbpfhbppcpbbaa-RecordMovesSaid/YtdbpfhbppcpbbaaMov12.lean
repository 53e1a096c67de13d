/- RecordMoves, as a contract on pure values. No conditions. -/
import Derived.Test.YtdbpfhbppcpbbaaMov11
import Derived.Test.YtdbpfhbppcpbbaaMov9
import Derived.Test.YtdbpfhbppcpbbaaMov3
set_option linter.unusedSimpArgs false
set_option linter.unusedVariables false
set_option maxRecDepth 100000
namespace Go.Proofs.Ytdbpfhbppcpbbaa
open Go Go.Pv
theorem fr37 : (inFrame Try.f37.ntmps (Try.f37.body.getD .skip) && Try.f37.results.toList.all (resScope Try.f37.ntmps)) = true := by kernel_rfl
theorem Lots (ts : List Term) (ms : List Move) (hlt : ts.length ≤ 65) (hl : ms.length ≤ 305) : PCalls Try.prog 37 [.lit true 4 (ts.map Term.enc), .lit true 4 (ms.map Move.enc)] (.tup [.lit false 5 ((lotsP ts ms).map Lot.enc), .int (tmE ts ms)]) := by
  refine PCalls.of_code Try.func37 rfl rfl (by kernel_rfl) mixed fr37 (by show _ ≤ 16; simp) (pure_2 (.lit _ _ _ fun row hr => pure_map Lot.pure row hr) (.sc _)) ?_
  refine pwp_seq_plain rfl fun K1 hK1 => ?_
  refine p_step rfl (e_assign (v := .nil) rfl) trivial ?_
  refine p_step rfl (e_assign (v := .sc _) rfl) trivial ?_
  refine p_end (hK1 _ ?_); clear hK1 K1
  refine pwp_seq_seq ?_
  refine pwp_seq_plain rfl fun K2 hK2 => ?_
  refine p_step rfl (e_move (v := .lit _ _ _) rfl) trivial ?_
  refine p_step rfl (e_move (v := .lit _ _ _) rfl) trivial ?_
  refine p_call rfl (.cons inn_lit (.cons inn_lit .nil)) (CheckMoves _ _ (by omega) (by omega)) ?_
  refine p_step rfl (e_assign (v := .sc _) rfl) trivial ?_
  refine p_end (hK2 _ ?_); clear hK2 K2
  refine pwp_seq_seq ?_
  refine pwp_seq_plain rfl fun K3 hK3 => ?_
  refine p_step rfl (e_move (v := .sc _) rfl) trivial ?_
  refine p_step rfl (e_ne rfl rfl) trivial ?_
  refine p_end (hK3 _ ?_); clear hK3 K3
  refine pwp_seq_cond rfl fun K4 hK4 => ⟨fun hb5 => ?_, fun hb5 => ?_⟩
  ·have hb5R := hb5; (try simp only [z1, z2, z3, z4, z5, z6, ne_eq, z7, z8, z9, z10, z11, z12] at hb5); (try (have hgo := tm_go hb5))
   refine pwp_seq_plain rfl fun K6 hK6 => ?_
   refine p_step rfl (e_move (v := .sc _) rfl) trivial ?_
   refine p_step rfl (e_assign (v := .nil) rfl) trivial ?_
   refine p_step rfl (e_assign (v := .sc _) rfl) trivial ?_
   refine p_end (hK6 _ ?_); clear hK6 K6
   refine pwp_ret ?_
   refine ret_seq ?_
   refine end2 (v := .nil) (w := .sc _) rfl rfl ?_
   first
     | exact out_2 (by rw [lotsP_1 (by assumption)]; exact out_nil) (out_i rfl)
     | exact out_2 (out_clean (by rw [lotsP_0 (by assumption), tm_lots (by assumption)]) (clean_rows fun a p hp => (lot_clean a p hp).1)) (out_i (by omega))
  ·have hb5R := hb5; (try simp only [z1, z2, z3, z4, z5, z6, ne_eq, z7, z8, z9, z10, z11, z12] at hb5); (try (have hgo := tm_go hb5))
   refine pwp_skip ?_
   refine seq_norm (hK4 _ ?_); clear hK4 K4
   refine pwp_seq_plain rfl fun K7 hK7 => ?_
   refine p_step rfl (e_move (v := .lit _ _ _) rfl) trivial ?_
   refine p_step rfl (e_move (v := .lit _ _ _) rfl) trivial ?_
   refine p_call rfl (.cons inn_lit (.cons inn_lit .nil)) (lots _ _ (by omega) (by omega) hgo) ?_
   refine p_step rfl (e_assign (v := .lit _ _ _) rfl) trivial ?_
   refine p_step rfl (e_assign (v := .sc _) rfl) trivial ?_
   refine p_end (hK7 _ ?_); clear hK7 K7
   refine pwp_ret ?_
   refine end2 (v := .lit _ _ _) (w := .sc _) rfl rfl ?_
   first
     | exact out_2 (by rw [lotsP_1 (by assumption)]; exact out_nil) (out_i rfl)
     | exact out_2 (out_clean (by rw [lotsP_0 (by assumption), tm_lots (by assumption)]) (clean_rows fun a p hp => (lot_clean a p hp).1)) (out_i (by omega))

theorem tm_if (ts : List Term) (ms : List Move) : (if termsE ts = 0 then movE ts ms else termsE ts) = tmE ts ms := by
  by_cases h : termsE ts = 0
  · rw [if_pos h, tm_a h]
  · rw [if_neg h, tm_b h]
theorem mv_bad {ts : List Term} {ms : List Move} (h : ¬ tmE ts ms = 0) : (decide (tmE ts ms = (if decide (termsE ts = 0) = true then movE ts ms else termsE ts)) && decide (((((lotsP ts ms).map Lot.enc).length : Nat) : Int) = 0)) = true := by
  have h1 := tm_if ts ms
  simp only [decide_eq_true_eq, h1, lotsP_1 h]
  simp
theorem mv_good {ts : List Term} {ms : List Move} (h : tmE ts ms = 0) : ¬ (¬ tmE ts ms = 0 ∨ ¬ lotsP ts ms = lotsT ts ms) := by
  rw [lotsP_0 h]; simp [h]
theorem e_indexI {P : Program} {ρ : Operand → PV} {h : Heap} {key : Key} {x y : Operand} {t e : TypeId} {L : List Int} {k : Nat} (hx : ρ x = .agg (L.map PV.int)) (hy : ρ y = .int (k : Int)) (ht : arrOk P t = some (3, e)) (hs : tySize P e = 1) (hg : tyAgg P e = false) (hl : L.length = 3) (hk : k < 3) :
    eff P ρ h key (.index t x y) = ⟨True, .int (L.getD k 0), [], [], false⟩ := by
  refine e_indexA (kd := .i64) (i := (k : Int)) hx hy ht hs hg (by omega) (by simpa using hl) ?_
  rw [Int.toNat_natCast]
  have h2 : k < L.length := by omega
  simp only [List.getD_eq_getElem?_getD, List.getElem?_map, List.getElem?_eq_getElem h2]
  rfl
theorem lotP_cnt {ts : List Term} {ms : List Move} (h : tmE ts ms = 0) : ∀ x ∈ lotsP ts ms, 0 < x.count ∧ x.count ≤ 100000 := fun x hx => by
  rw [lotsP_0 h] at hx
  obtain ⟨t, _, ho⟩ := lotsT_okL (fun m hm => (tm_go h m hm).1) x hx
  exact ho.2
theorem lotP_len {ts : List Term} {ms : List Move} (hl : ts.length ≤ 65) (hm : ms.length ≤ 305) : (lotsP ts ms).length ≤ 6066450 := by
  have h1 := lotsT_len ts ms hm
  have h2 : ts.length * 93330 ≤ 65 * 93330 := Nat.mul_le_mul_right _ hl
  unfold lotsP
  split
  · omega
  · simp

theorem fr6 : (inFrame Try.f6.ntmps (Try.f6.body.getD .skip) && Try.f6.results.toList.all (resScope Try.f6.ntmps)) = true := by kernel_rfl
theorem movesLaw (ts : List Term) (ms : List Move) (hlt : ts.length ≤ 9223372036854775807) (hlm : ms.length ≤ 9223372036854775807) : PCalls Try.prog 6 [.lit true 4 (ts.map Term.enc), .lit true 4 (ms.map Move.enc)] (.bool true) := by
  refine PCalls.of_code Try.func6 rfl rfl (by kernel_rfl) mixed fr6 (by show _ ≤ 104; simp) (.sc _) ?_
  refine pwp_seq_plain rfl fun K1 hK1 => ?_
  refine p_step rfl (e_assign (v := .sc _) rfl) trivial ?_
  refine p_end (hK1 _ ?_); clear hK1 K1
  refine pwp_seq_seq ?_
  refine pwp_seq_plain rfl fun K2 hK2 => ?_
  refine p_call rfl .nil (awake) ?_
  refine p_step rfl (e_not rfl) trivial ?_
  refine p_end (hK2 _ ?_); clear hK2 K2
  refine pwp_seq_cond (t := false) rfl fun K3 hK3 => ⟨nofun, fun _ => ?_⟩
  refine pwp_skip ?_
  refine seq_norm (hK3 _ ?_); clear hK3 K3
  refine pwp_seq_seq ?_
  refine pwp_seq_plain rfl fun K4 hK4 => ?_
  refine p_step rfl (e_move (v := .lit _ _ _) rfl) trivial ?_
  refine p_step rfl (e_move (v := .lit _ _ _) rfl) trivial ?_
  refine p_call rfl (.cons inn_lit (.cons inn_lit .nil)) (hire _ _ hlt hlm) ?_
  refine p_step rfl (e_not rfl) trivial ?_
  refine p_end (hK4 _ ?_); clear hK4 K4
  refine pwp_seq_cond rfl fun K5 hK5 => ⟨fun hb6 => ?_, fun hb6 => ?_⟩
  ·have hb6R := hb6; (try simp only [z1, z2, z3, z4, z5, z6, ne_eq, z7, z8, z9, z10, z11, z12] at hb6); (try (have hll := hire_len hb6)); (try (have hlp := lotP_len hll.1 hll.2)); (try (rw [tm_if] at hb6)); (try (have htm : tmE ts ms = 0 := hb6)); (try (have hokm := fun m hm => (tm_go htm m hm).1))
   refine pwp_seq_plain rfl fun K7 hK7 => ?_
   refine p_step rfl (e_assign (v := .sc _) rfl) trivial ?_
   refine p_end (hK7 _ ?_); clear hK7 K7
   refine pwp_ret ?_
   refine ret_seq ?_
   refine end1 (v := .sc _) rfl ?_
   first
     | exact out_b rfl
     | exact absurd trivial (by assumption)
     | exact absurd rfl (by assumption)
     | exact out_b (mv_bad (by assumption))
     | exact absurd (by assumption) (mv_good htm)
     | exact absurd hs (by assumption)
  ·have hb6R := hb6; (try simp only [z1, z2, z3, z4, z5, z6, ne_eq, z7, z8, z9, z10, z11, z12] at hb6); (try (have hll := hire_len hb6)); (try (have hlp := lotP_len hll.1 hll.2)); (try (rw [tm_if] at hb6)); (try (have htm : tmE ts ms = 0 := hb6)); (try (have hokm := fun m hm => (tm_go htm m hm).1))
   refine pwp_skip ?_
   refine seq_norm (hK5 _ ?_); clear hK5 K5
   refine pwp_seq_plain rfl fun K8 hK8 => ?_
   refine p_step rfl (e_move (v := .lit _ _ _) rfl) trivial ?_
   refine p_call rfl (.cons inn_lit .nil) (refCheckTerms _) ?_
   refine p_step rfl (e_assign (v := .sc _) rfl) trivial ?_
   refine p_end (hK8 _ ?_); clear hK8 K8
   refine pwp_seq_seq ?_
   refine pwp_seq_plain rfl fun K9 hK9 => ?_
   refine p_step rfl (e_move (v := .lit _ _ _) rfl) trivial ?_
   refine p_call rfl (.cons inn_lit .nil) (termsC _ (by omega)) ?_
   refine p_call rfl (.cons inn_lit .nil) (CheckTerms _) ?_
   refine p_step rfl (e_move (v := .sc _) rfl) trivial ?_
   refine p_step rfl (e_ne rfl rfl) trivial ?_
   refine p_end (hK9 _ ?_); clear hK9 K9
   refine pwp_seq_cond rfl fun K10 hK10 => ⟨fun hb11 => ?_, fun hb11 => ?_⟩
   ·have hb11R := hb11; (try simp only [z1, z2, z3, z4, z5, z6, ne_eq, z7, z8, z9, z10, z11, z12] at hb11); (try (have hll := hire_len hb11)); (try (have hlp := lotP_len hll.1 hll.2)); (try (rw [tm_if] at hb11)); (try (have htm : tmE ts ms = 0 := hb11)); (try (have hokm := fun m hm => (tm_go htm m hm).1))
    refine pwp_seq_plain rfl fun K12 hK12 => ?_
    refine p_step rfl (e_assign (v := .sc _) rfl) trivial ?_
    refine p_end (hK12 _ ?_); clear hK12 K12
    refine pwp_ret ?_
    refine ret_seq ?_
    refine end1 (v := .sc _) rfl ?_
    first
      | exact out_b rfl
      | exact absurd trivial (by assumption)
      | exact absurd rfl (by assumption)
      | exact out_b (mv_bad (by assumption))
      | exact absurd (by assumption) (mv_good htm)
      | exact absurd hs (by assumption)
   ·have hb11R := hb11; (try simp only [z1, z2, z3, z4, z5, z6, ne_eq, z7, z8, z9, z10, z11, z12] at hb11); (try (have hll := hire_len hb11)); (try (have hlp := lotP_len hll.1 hll.2)); (try (rw [tm_if] at hb11)); (try (have htm : tmE ts ms = 0 := hb11)); (try (have hokm := fun m hm => (tm_go htm m hm).1))
    refine pwp_skip ?_
    refine seq_norm (hK10 _ ?_); clear hK10 K10
    refine pwp_seq_seq ?_
    refine pwp_seq_plain rfl fun K13 hK13 => ?_
    refine p_step rfl (e_move (v := .sc _) rfl) trivial ?_
    refine p_step rfl (e_eq rfl rfl) trivial ?_
    refine p_end (hK13 _ ?_); clear hK13 K13
    refine pwp_seq_cutG [0, 1] [(5, .int (if (decide ((termsE (ts)) = (0))) = true then (movE (ts) (ms)) else (termsE (ts))))] (fun K14 hK14 => ?_) (fun r15 => ?_)
    ·skip
     refine pwp_cond rfl (fun hb16 => ?_) (fun hb16 => ?_)
     ·have hb16R := hb16; (try simp only [z1, z2, z3, z4, z5, z6, ne_eq, z7, z8, z9, z10, z11, z12] at hb16); (try (have hll := hire_len hb16)); (try (have hlp := lotP_len hll.1 hll.2)); (try (rw [tm_if] at hb16)); (try (have htm : tmE ts ms = 0 := hb16)); (try (have hokm := fun m hm => (tm_go htm m hm).1))
      refine pwp_plain rfl fun K17 hK17 => ?_
      refine p_step rfl (e_move (v := .lit _ _ _) rfl) trivial ?_
      refine p_step rfl (e_move (v := .lit _ _ _) rfl) trivial ?_
      refine p_call rfl (.cons inn_lit (.cons inn_lit .nil)) (refCheckMoves _ _ (by omega) (by omega)) ?_
      refine p_step rfl (e_assign (v := .sc _) rfl) trivial ?_
      refine p_end (hK17 _ ?_); clear hK17 K17
      exact seq_norm (hK14 _ ⟨rfl, rfl, trivial⟩ ⟨(congrArg PV.int (show ((movE (ts) (ms)) : Int) = (if (decide ((termsE (ts)) = (0))) = true then (movE (ts) (ms)) else (termsE (ts))) by first | rfl | ((try rw [hb16R]) <;> (first | rfl | (simp only [Bool.and_true, Bool.and_false, Bool.true_and, Bool.false_and, Bool.or_true, Bool.or_false, Bool.true_or, Bool.false_or, Bool.not_true, Bool.not_false, if_true, if_false, Bool.false_eq_true, reduceIte] <;> rfl))) | (simp only [hb16R, Bool.and_true, Bool.and_false, Bool.true_and, Bool.false_and, Bool.or_true, Bool.or_false, Bool.true_or, Bool.false_or, Bool.not_true, Bool.not_false, if_true, if_false, Bool.false_eq_true, reduceIte] <;> rfl))), trivial⟩)
     ·have hb16R := hb16; (try simp only [z1, z2, z3, z4, z5, z6, ne_eq, z7, z8, z9, z10, z11, z12] at hb16); (try (have hll := hire_len hb16)); (try (have hlp := lotP_len hll.1 hll.2)); (try (rw [tm_if] at hb16)); (try (have htm : tmE ts ms = 0 := hb16)); (try (have hokm := fun m hm => (tm_go htm m hm).1))
      refine pwp_skip ?_
      exact seq_norm (hK14 _ ⟨rfl, rfl, trivial⟩ ⟨(congrArg PV.int (show ((termsE (ts)) : Int) = (if (decide ((termsE (ts)) = (0))) = true then (movE (ts) (ms)) else (termsE (ts))) by first | rfl | ((try rw [hb16R]) <;> (first | rfl | (simp only [Bool.and_true, Bool.and_false, Bool.true_and, Bool.false_and, Bool.or_true, Bool.or_false, Bool.true_or, Bool.false_or, Bool.not_true, Bool.not_false, if_true, if_false, Bool.false_eq_true, reduceIte] <;> rfl))) | (simp only [hb16R, Bool.and_true, Bool.and_false, Bool.true_and, Bool.false_and, Bool.or_true, Bool.or_false, Bool.true_or, Bool.false_or, Bool.not_true, Bool.not_false, if_true, if_false, Bool.false_eq_true, reduceIte] <;> rfl))), trivial⟩)
    ·skip
     refine pwp_seq_plain rfl fun K18 hK18 => ?_
     refine p_step rfl (e_move (v := .lit _ _ _) rfl) trivial ?_
     refine p_call rfl (.cons inn_lit .nil) (termsC _ (by omega)) ?_
     refine p_step rfl (e_move (v := .lit _ _ _) rfl) trivial ?_
     refine p_call rfl (.cons inn_lit .nil) (movesC _ (by omega)) ?_
     refine p_call rfl (.cons inn_lit (.cons inn_lit .nil)) (Lots _ _ (by omega) (by omega)) ?_
     refine p_step rfl (e_move (v := .tup _) rfl) trivial ?_
     refine p_step rfl (e_ext (v := .lit _ _ _) rfl (by simp) rfl) trivial ?_
     refine p_step rfl (e_ext (v := .sc _) rfl (by simp) rfl) trivial ?_
     refine p_step rfl (e_assign (v := .lit _ _ _) rfl) trivial ?_
     refine p_step rfl (e_assign (v := .sc _) rfl) trivial ?_
     refine p_end (hK18 _ ?_); clear hK18 K18
     refine pwp_seq_seq ?_
     refine pwp_seq_plain rfl fun K19 hK19 => ?_
     refine p_step rfl (e_move (v := .lit _ _ _) rfl) trivial ?_
     refine p_call rfl (.cons inn_lit .nil) (termsC _ (by omega)) ?_
     refine p_step rfl (e_move (v := .lit _ _ _) rfl) trivial ?_
     refine p_call rfl (.cons inn_lit .nil) (movesC _ (by omega)) ?_
     refine p_call rfl (.cons inn_lit (.cons inn_lit .nil)) (CheckMoves _ _ (by omega) (by omega)) ?_
     refine p_step rfl (e_move (v := .sc _) rfl) trivial ?_
     refine p_step rfl (e_ne rfl rfl) trivial ?_
     refine p_end (hK19 _ ?_); clear hK19 K19
     refine pwp_seq_cond rfl fun K20 hK20 => ⟨fun hb21 => ?_, fun hb21 => ?_⟩
     ·have hb21R := hb21; (try simp only [z1, z2, z3, z4, z5, z6, ne_eq, z7, z8, z9, z10, z11, z12] at hb21); (try (have hll := hire_len hb21)); (try (have hlp := lotP_len hll.1 hll.2)); (try (rw [tm_if] at hb21)); (try (have htm : tmE ts ms = 0 := hb21)); (try (have hokm := fun m hm => (tm_go htm m hm).1))
      refine pwp_seq_plain rfl fun K22 hK22 => ?_
      refine p_step rfl (e_assign (v := .sc _) rfl) trivial ?_
      refine p_end (hK22 _ ?_); clear hK22 K22
      refine pwp_ret ?_
      refine ret_seq ?_
      refine end1 (v := .sc _) rfl ?_
      first
        | exact out_b rfl
        | exact absurd trivial (by assumption)
        | exact absurd rfl (by assumption)
        | exact out_b (mv_bad (by assumption))
        | exact absurd (by assumption) (mv_good htm)
        | exact absurd hs (by assumption)
     ·have hb21R := hb21; (try simp only [z1, z2, z3, z4, z5, z6, ne_eq, z7, z8, z9, z10, z11, z12] at hb21); (try (have hll := hire_len hb21)); (try (have hlp := lotP_len hll.1 hll.2)); (try (rw [tm_if] at hb21)); (try (have htm : tmE ts ms = 0 := hb21)); (try (have hokm := fun m hm => (tm_go htm m hm).1))
      refine pwp_skip ?_
      refine seq_norm (hK20 _ ?_); clear hK20 K20
      refine pwp_seq_seq ?_
      refine pwp_seq_plain rfl fun K23 hK23 => ?_
      refine p_step rfl (e_move (v := .sc _) rfl) trivial ?_
      refine p_step rfl (e_ne rfl rfl) trivial ?_
      refine p_end (hK23 _ ?_); clear hK23 K23
      refine pwp_seq_cond rfl fun K24 hK24 => ⟨fun hb25 => ?_, fun hb25 => ?_⟩
      ·have hb25R := hb25; (try simp only [z1, z2, z3, z4, z5, z6, ne_eq, z7, z8, z9, z10, z11, z12] at hb25); (try (have hll := hire_len hb25)); (try (have hlp := lotP_len hll.1 hll.2)); (try (rw [tm_if] at hb25)); (try (have htm : tmE ts ms = 0 := hb25)); (try (have hokm := fun m hm => (tm_go htm m hm).1))
       refine pwp_seq_cutG [] [(4, .bool ((decide ((tmE (ts) (ms)) = (if (decide ((termsE (ts)) = (0))) = true then (movE (ts) (ms)) else (termsE (ts))))) && (decide (((((lotsP (ts) (ms)).map Lot.enc).length : Nat) : Int) = (0)))))] (fun K26 hK26 => ?_) (fun r27 => ?_)
       ·skip
        refine pwp_gops rfl fun K28 hK28 => ?_
        refine g_begin ?_
        refine g_step rfl rfl rfl rfl (e_move (v := .sc _) rfl) trivial ?_
        refine g_step rfl rfl rfl rfl (e_move (v := .sc _) rfl) trivial ?_
        refine g_step rfl rfl rfl rfl (e_eq rfl rfl) trivial ?_
        refine g_step rfl rfl rfl rfl (e_move (v := .sc _) rfl) trivial ?_
        refine g_cases (fun hb29 => ?_) (fun hb29 => ?_)
        ·have hb29R := hb29; (try simp only [z1, z2, z3, z4, z5, z6, ne_eq, z7, z8, z9, z10, z11, z12] at hb29); (try (have hll := hire_len hb29)); (try (have hlp := lotP_len hll.1 hll.2)); (try (rw [tm_if] at hb29)); (try (have htm : tmE ts ms = 0 := hb29)); (try (have hokm := fun m hm => (tm_go htm m hm).1))
         refine g_step rfl rfl rfl rfl (e_move (v := .lit _ _ _) rfl) trivial ?_
         refine g_step rfl rfl rfl rfl (e_len rfl (by kernel_rfl)) trivial ?_
         refine g_step rfl rfl rfl rfl (e_eq rfl rfl) trivial ?_
         refine g_step rfl rfl rfl rfl (e_pickT (v := .sc _) rfl rfl) trivial ?_
         refine g_step rfl rfl rfl rfl (e_assign (v := .sc _) rfl) trivial ?_
         refine g_end (ds := [50, 51, 52]) rfl rfl (hK28 _ ?_); clear hK28 K28
         exact seq_norm (hK26 _ trivial ⟨(congrArg PV.bool (show ((decide (((((lotsP (ts) (ms)).map Lot.enc).length : Nat) : Int) = (0))) : Bool) = ((decide ((tmE (ts) (ms)) = (if (decide ((termsE (ts)) = (0))) = true then (movE (ts) (ms)) else (termsE (ts))))) && (decide (((((lotsP (ts) (ms)).map Lot.enc).length : Nat) : Int) = (0)))) by first | rfl | ((try rw [hb29R]) <;> (first | rfl | (simp only [Bool.and_true, Bool.and_false, Bool.true_and, Bool.false_and, Bool.or_true, Bool.or_false, Bool.true_or, Bool.false_or, Bool.not_true, Bool.not_false, if_true, if_false, Bool.false_eq_true, reduceIte] <;> rfl))) | (simp only [hb29R, Bool.and_true, Bool.and_false, Bool.true_and, Bool.false_and, Bool.or_true, Bool.or_false, Bool.true_or, Bool.false_or, Bool.not_true, Bool.not_false, if_true, if_false, Bool.false_eq_true, reduceIte] <;> rfl))), trivial⟩)
        ·have hb29R := hb29; (try simp only [z1, z2, z3, z4, z5, z6, ne_eq, z7, z8, z9, z10, z11, z12] at hb29); (try (have hll := hire_len hb29)); (try (have hlp := lotP_len hll.1 hll.2)); (try (rw [tm_if] at hb29)); (try (have htm : tmE ts ms = 0 := hb29)); (try (have hokm := fun m hm => (tm_go htm m hm).1))
         refine g_skip rfl rfl rfl ?_
         refine g_skip rfl rfl rfl ?_
         refine g_skip rfl rfl rfl ?_
         refine g_step rfl rfl rfl rfl (e_pickF (v := .sc _) rfl rfl) trivial ?_
         refine g_step rfl rfl rfl rfl (e_assign (v := .sc _) rfl) trivial ?_
         refine g_end (ds := [50, 51, 52]) rfl rfl (hK28 _ ?_); clear hK28 K28
         exact seq_norm (hK26 _ trivial ⟨(congrArg PV.bool (show (false : Bool) = ((decide ((tmE (ts) (ms)) = (if (decide ((termsE (ts)) = (0))) = true then (movE (ts) (ms)) else (termsE (ts))))) && (decide (((((lotsP (ts) (ms)).map Lot.enc).length : Nat) : Int) = (0)))) by first | rfl | ((try rw [hb29R]) <;> (first | rfl | (simp only [Bool.and_true, Bool.and_false, Bool.true_and, Bool.false_and, Bool.or_true, Bool.or_false, Bool.true_or, Bool.false_or, Bool.not_true, Bool.not_false, if_true, if_false, Bool.false_eq_true, reduceIte] <;> rfl))) | (simp only [hb29R, Bool.and_true, Bool.and_false, Bool.true_and, Bool.false_and, Bool.or_true, Bool.or_false, Bool.true_or, Bool.false_or, Bool.not_true, Bool.not_false, if_true, if_false, Bool.false_eq_true, reduceIte] <;> rfl))), trivial⟩)
       ·skip
        refine pwp_ret ?_
        refine ret_seq ?_
        refine end1 (v := .sc _) rfl ?_
        first
          | exact out_b rfl
          | exact absurd trivial (by assumption)
          | exact absurd rfl (by assumption)
          | exact out_b (mv_bad (by assumption))
          | exact absurd (by assumption) (mv_good htm)
          | exact absurd hs (by assumption)
      ·have hb25R := hb25; (try simp only [z1, z2, z3, z4, z5, z6, ne_eq, z7, z8, z9, z10, z11, z12] at hb25); (try (have hll := hire_len hb25)); (try (have hlp := lotP_len hll.1 hll.2)); (try (rw [tm_if] at hb25)); (try (have htm : tmE ts ms = 0 := hb25)); (try (have hokm := fun m hm => (tm_go htm m hm).1))
       refine pwp_skip ?_
       refine seq_norm (hK24 _ ?_); clear hK24 K24
       refine pwp_seq_seq ?_
       refine pwp_seq_cutG [0, 1, 6] [(63, .bool ((decide ((tmE (ts) (ms)) ≠ (0))) || (!(decide (lotsP (ts) (ms) = lotsT (ts) (ms))))))] (fun K30 hK30 => ?_) (fun r31 => ?_)
       ·skip
        refine pwp_gops rfl fun K32 hK32 => ?_
        refine g_begin ?_
        refine g_step rfl rfl rfl rfl (e_move (v := .sc _) rfl) trivial ?_
        refine g_step rfl rfl rfl rfl (e_ne rfl rfl) trivial ?_
        refine g_step rfl rfl rfl rfl (e_move (v := .sc _) rfl) trivial ?_
        refine g_cases (fun hb33 => ?_) (fun hb33 => ?_)
        ·have hb33R := hb33; (try simp only [z1, z2, z3, z4, z5, z6, ne_eq, z7, z8, z9, z10, z11, z12] at hb33); (try (have hll := hire_len hb33)); (try (have hlp := lotP_len hll.1 hll.2)); (try (rw [tm_if] at hb33)); (try (have htm : tmE ts ms = 0 := hb33)); (try (have hokm := fun m hm => (tm_go htm m hm).1))
         refine g_skip rfl rfl rfl ?_
         refine g_skip rfl rfl rfl ?_
         refine g_skip rfl rfl rfl ?_
         refine g_nocall rfl rfl rfl ?_
         refine g_nocall rfl rfl rfl ?_
         refine g_skip rfl rfl rfl ?_
         refine g_step rfl rfl rfl rfl (e_pickT (v := .sc _) rfl rfl) trivial ?_
         refine g_end (ds := [57, 58, 59, 60, 61, 62]) rfl rfl (hK32 _ ?_); clear hK32 K32
         exact seq_norm (hK30 _ ⟨rfl, rfl, rfl, trivial⟩ ⟨(congrArg PV.bool (show (true : Bool) = ((decide ((tmE (ts) (ms)) ≠ (0))) || (!(decide (lotsP (ts) (ms) = lotsT (ts) (ms))))) by first | rfl | ((try rw [hb33R]) <;> (first | rfl | (simp only [Bool.and_true, Bool.and_false, Bool.true_and, Bool.false_and, Bool.or_true, Bool.or_false, Bool.true_or, Bool.false_or, Bool.not_true, Bool.not_false, if_true, if_false, Bool.false_eq_true, reduceIte] <;> rfl))) | (simp only [hb33R, Bool.and_true, Bool.and_false, Bool.true_and, Bool.false_and, Bool.or_true, Bool.or_false, Bool.true_or, Bool.false_or, Bool.not_true, Bool.not_false, if_true, if_false, Bool.false_eq_true, reduceIte] <;> rfl))), trivial⟩)
        ·have hb33R := hb33; (try simp only [z1, z2, z3, z4, z5, z6, ne_eq, z7, z8, z9, z10, z11, z12] at hb33); (try (have hll := hire_len hb33)); (try (have hlp := lotP_len hll.1 hll.2)); (try (rw [tm_if] at hb33)); (try (have htm : tmE ts ms = 0 := hb33)); (try (have hokm := fun m hm => (tm_go htm m hm).1))
         refine g_step rfl rfl rfl rfl (e_move (v := .lit _ _ _) rfl) trivial ?_
         refine g_step rfl rfl rfl rfl (e_move (v := .lit _ _ _) rfl) trivial ?_
         refine g_step rfl rfl rfl rfl (e_move (v := .lit _ _ _) rfl) trivial ?_
         refine g_call rfl rfl rfl rfl (.cons inn_lit (.cons inn_lit .nil)) (LotsR _ _ (by omega) (by omega) hokm) ?_
         refine g_call rfl rfl rfl rfl (.cons inn_lit (.cons inn_lit .nil)) (sameLots _ _ (by omega)) ?_
         refine g_step rfl rfl rfl rfl (e_not rfl) trivial ?_
         refine g_step rfl rfl rfl rfl (e_pickF (v := .sc _) rfl rfl) trivial ?_
         refine g_end (ds := [57, 58, 59, 60, 61, 62]) rfl rfl (hK32 _ ?_); clear hK32 K32
         exact seq_norm (hK30 _ ⟨rfl, rfl, rfl, trivial⟩ ⟨(congrArg PV.bool (show ((!(decide (lotsP (ts) (ms) = lotsT (ts) (ms)))) : Bool) = ((decide ((tmE (ts) (ms)) ≠ (0))) || (!(decide (lotsP (ts) (ms) = lotsT (ts) (ms))))) by first | rfl | ((try rw [hb33R]) <;> (first | rfl | (simp only [Bool.and_true, Bool.and_false, Bool.true_and, Bool.false_and, Bool.or_true, Bool.or_false, Bool.true_or, Bool.false_or, Bool.not_true, Bool.not_false, if_true, if_false, Bool.false_eq_true, reduceIte] <;> rfl))) | (simp only [hb33R, Bool.and_true, Bool.and_false, Bool.true_and, Bool.false_and, Bool.or_true, Bool.or_false, Bool.true_or, Bool.false_or, Bool.not_true, Bool.not_false, if_true, if_false, Bool.false_eq_true, reduceIte] <;> rfl))), trivial⟩)
       ·skip
        refine pwp_seq_cond rfl fun K34 hK34 => ⟨fun hb35 => ?_, fun hb35 => ?_⟩
        ·have hb35R := hb35; (try simp only [z1, z2, z3, z4, z5, z6, ne_eq, z7, z8, z9, z10, z11, z12] at hb35); (try (have hll := hire_len hb35)); (try (have hlp := lotP_len hll.1 hll.2)); (try (rw [tm_if] at hb35)); (try (have htm : tmE ts ms = 0 := hb35)); (try (have hokm := fun m hm => (tm_go htm m hm).1))
         refine pwp_seq_plain rfl fun K36 hK36 => ?_
         refine p_step rfl (e_assign (v := .sc _) rfl) trivial ?_
         refine p_end (hK36 _ ?_); clear hK36 K36
         refine pwp_ret ?_
         refine ret_seq ?_
         refine end1 (v := .sc _) rfl ?_
         first
           | exact out_b rfl
           | exact absurd trivial (by assumption)
           | exact absurd rfl (by assumption)
           | exact out_b (mv_bad (by assumption))
           | exact absurd (by assumption) (mv_good htm)
           | exact absurd hs (by assumption)
        ·have hb35R := hb35; (try simp only [z1, z2, z3, z4, z5, z6, ne_eq, z7, z8, z9, z10, z11, z12] at hb35); (try (have hll := hire_len hb35)); (try (have hlp := lotP_len hll.1 hll.2)); (try (rw [tm_if] at hb35)); (try (have htm : tmE ts ms = 0 := hb35)); (try (have hokm := fun m hm => (tm_go htm m hm).1))
         refine pwp_skip ?_
         refine seq_norm (hK34 _ ?_); clear hK34 K34
         refine pwp_seq_seq ?_
         refine pwp_seq_plain rfl fun K37 hK37 => ?_
         refine p_step rfl (e_assign (v := .sc _) rfl) trivial ?_
         refine p_end (hK37 _ ?_); clear hK37 K37
         refine pwp_seq_block fun K38 hK38 => ?_
         refine pwp_loopR (α := Nat) [0, 1, 6] (fun (k : Nat) => [(8, .int (k))]) (fun (k : Nat) (h : Heap) (_ : Nat → Nat) => ((k) ≤ ts.length)) (fun (k : Nat) => ts.length - (k)) (0) (by exact ⟨rfl, trivial⟩) (by exact by exact Nat.zero_le _) fun k r39 h40 c41 hj42 => ?_
         have hk := hj42; clear hj42
         try dsimp only at hk
         show pwp _ _ (loopQ _ _ _) ⟨sets (mix _ _ _) [(8, .int k)], _, _⟩
         refine pwp_seq_seq ?_
         refine pwp_seq_plain rfl fun K43 hK43 => ?_
         refine p_step rfl (e_move (v := .sc _) rfl) trivial ?_
         refine p_step rfl (e_move (v := .lit _ _ _) rfl) trivial ?_
         refine p_step rfl (e_len rfl (by kernel_rfl)) trivial ?_
         refine p_step rfl (e_lt rfl rfl) trivial ?_
         refine p_end (hK43 _ ?_); clear hK43 K43
         refine pwp_seq_cond rfl fun K44 hK44 => ⟨fun hb45 => ?_, fun hb45 => ?_⟩
         ·have hb45R := hb45; (try simp only [z1, z2, z3, z4, z5, z6, ne_eq, z7, z8, z9, z10, z11, z12] at hb45); (try (have hll := hire_len hb45)); (try (have hlp := lotP_len hll.1 hll.2)); (try (rw [tm_if] at hb45)); (try (have htm : tmE ts ms = 0 := hb45)); (try (have hokm := fun m hm => (tm_go htm m hm).1))
          obtain ⟨x, hx, hd, ht⟩ := get_lt (xs := ts) (i := k) (by omega)
          refine pwp_skip ?_
          refine seq_norm (hK44 _ ?_); clear hK44 K44
          refine pwp_seq_block fun K46 hK46 => ?_
          refine pwp_seq_plain rfl fun K47 hK47 => ?_
          refine p_step rfl (e_assign (v := .sc _) rfl) trivial ?_
          refine p_end (hK47 _ ?_); clear hK47 K47
          refine pwp_seq_seq ?_
          refine pwp_seq_plain rfl fun K48 hK48 => ?_
          refine p_step rfl (e_assign (v := .sc _) rfl) trivial ?_
          refine p_end (hK48 _ ?_); clear hK48 K48
          refine pwp_seq_block fun K49 hK49 => ?_
          refine pwp_loopR (α := Nat × Int) [0, 1, 6, 8] (fun (a50 : Nat × Int) => [(9, .int (a50.2)), (10, .int (a50.1))]) (fun (a50 : Nat × Int) (h : Heap) (_ : Nat → Nat) => ((a50.1) ≤ (lotsP ts ms).length) ∧ ((a50.2) = sumC x.part ((lotsP ts ms).take (a50.1)))) (fun (a50 : Nat × Int) => (lotsP ts ms).length - (a50.1)) (0, 0) (by exact ⟨rfl, rfl, trivial⟩) (by exact ⟨by exact Nat.zero_le _, by exact rfl⟩) fun a50 r51 h52 c53 hj54 => ?_
          obtain ⟨j, s⟩ := a50
          obtain ⟨hj, hs⟩ := hj54
          try dsimp only at hj
          try dsimp only at hs
          show pwp _ _ (loopQ _ _ _) ⟨sets (mix _ _ _) [(9, .int s), (10, .int j)], _, _⟩
          refine pwp_seq_seq ?_
          refine pwp_seq_plain rfl fun K55 hK55 => ?_
          refine p_step rfl (e_move (v := .sc _) rfl) trivial ?_
          refine p_step rfl (e_move (v := .lit _ _ _) rfl) trivial ?_
          refine p_step rfl (e_len rfl (by kernel_rfl)) trivial ?_
          refine p_step rfl (e_lt rfl rfl) trivial ?_
          refine p_end (hK55 _ ?_); clear hK55 K55
          refine pwp_seq_cond rfl fun K56 hK56 => ⟨fun hb57 => ?_, fun hb57 => ?_⟩
          ·have hb57R := hb57; (try simp only [z1, z2, z3, z4, z5, z6, ne_eq, z7, z8, z9, z10, z11, z12] at hb57); (try (have hll := hire_len hb57)); (try (have hlp := lotP_len hll.1 hll.2)); (try (rw [tm_if] at hb57)); (try (have htm : tmE ts ms = 0 := hb57)); (try (have hokm := fun m hm => (tm_go htm m hm).1))
           obtain ⟨y, hy, hdy, hty⟩ := get_lt (xs := (lotsP ts ms)) (i := j) (by omega)
           have hsb := sum_bnd (ts := ts) (p := x.part) hokm j
           rw [← lotsP_0 htm, ← hs] at hsb
           have hcy := lotP_cnt htm y (List.mem_of_getElem? hy)
           refine pwp_skip ?_
           refine seq_norm (hK56 _ ?_); clear hK56 K56
           refine pwp_seq_cutG [0, 1, 6, 8, 10] [(9, .int (if (decide (y.part = x.part)) = true then (s + y.count) else s))] (fun K58 hK58 => ?_) (fun r59 => ?_)
           ·skip
            refine pwp_block ?_
            refine pwp_seq_gops rfl fun K60 hK60 => ?_
            refine g_begin ?_
            refine g_step rfl rfl rfl rfl (e_move (v := .lit _ _ _) rfl) trivial ?_
            refine g_step rfl rfl rfl rfl (e_move (v := .sc _) rfl) trivial ?_
            refine g_step rfl rfl rfl rfl (e_ixa rfl rfl (by kernel_rfl) (by kernel_rfl) (by simp only [List.length_map]; omega)) trivial ?_
            refine g_step rfl rfl rfl rfl (e_fa (pl := [(0, 1, false), (1, 1, false), (2, 1, false), (3, 1, false), (4, 1, false)]) rfl (by kernel_rfl) (by kernel_rfl) (by decide) rfl) trivial ?_
            refine g_step rfl rfl rfl rfl (e_load (v := .sc _) rfl (by kernel_rfl) (by kernel_rfl) (by kernel_rfl) (by simp only [List.length_map]; omega) (by decide) ((cell_map hy _).trans rfl)) trivial ?_
            refine g_step rfl rfl rfl rfl (e_move (v := .lit _ _ _) rfl) trivial ?_
            refine g_step rfl rfl rfl rfl (e_move (v := .sc _) rfl) trivial ?_
            refine g_step rfl rfl rfl rfl (e_ixa rfl rfl (by kernel_rfl) (by kernel_rfl) (by simp only [List.length_map]; omega)) trivial ?_
            refine g_step rfl rfl rfl rfl (e_fa (pl := [(0, 1, false), (1, 1, false), (2, 1, false), (3, 1, false)]) rfl (by kernel_rfl) (by kernel_rfl) (by decide) rfl) trivial ?_
            refine g_step rfl rfl rfl rfl (e_load (v := .sc _) rfl (by kernel_rfl) (by kernel_rfl) (by kernel_rfl) (by simp only [List.length_map]; omega) (by decide) ((cell_map hx _).trans rfl)) trivial ?_
            refine g_step rfl rfl rfl rfl (e_seq rfl rfl) trivial ?_
            refine g_end (ds := []) (by kernel_rfl) rfl (hK60 _ ?_); clear hK60 K60
            refine pwp_cond rfl (fun hb61 => ?_) (fun hb61 => ?_)
            ·have hb61R := hb61; (try simp only [z1, z2, z3, z4, z5, z6, ne_eq, z7, z8, z9, z10, z11, z12] at hb61); (try (have hll := hire_len hb61)); (try (have hlp := lotP_len hll.1 hll.2)); (try (rw [tm_if] at hb61)); (try (have htm : tmE ts ms = 0 := hb61)); (try (have hokm := fun m hm => (tm_go htm m hm).1))
             refine pwp_plain rfl fun K62 hK62 => ?_
             refine p_step rfl (e_move (v := .sc _) rfl) trivial ?_
             refine p_step rfl (e_move (v := .lit _ _ _) rfl) trivial ?_
             refine p_step rfl (e_move (v := .sc _) rfl) trivial ?_
             refine p_step rfl (e_ixa rfl rfl (by kernel_rfl) (by kernel_rfl) (by simp only [List.length_map]; omega)) trivial ?_
             refine p_step rfl (e_fa (pl := [(0, 1, false), (1, 1, false), (2, 1, false), (3, 1, false), (4, 1, false)]) rfl (by kernel_rfl) (by kernel_rfl) (by decide) rfl) trivial ?_
             refine p_step rfl (e_load (v := .sc _) rfl (by kernel_rfl) (by kernel_rfl) (by kernel_rfl) (by simp only [List.length_map]; omega) (by decide) ((cell_map hy _).trans rfl)) trivial ?_
             refine p_step rfl (e_add rfl rfl (by omega)) trivial ?_
             refine p_step rfl (e_assign (v := .sc _) rfl) trivial ?_
             refine p_end (hK62 _ ?_); clear hK62 K62
             refine block_norm ?_
             exact seq_norm (hK58 _ ⟨rfl, rfl, rfl, rfl, rfl, trivial⟩ ⟨(congrArg PV.int (show ((s + y.count) : Int) = (if (decide (y.part = x.part)) = true then (s + y.count) else s) by first | rfl | ((try rw [hb61R]) <;> (first | rfl | (simp only [Bool.and_true, Bool.and_false, Bool.true_and, Bool.false_and, Bool.or_true, Bool.or_false, Bool.true_or, Bool.false_or, Bool.not_true, Bool.not_false, if_true, if_false, Bool.false_eq_true, reduceIte] <;> rfl))) | (simp only [hb61R, Bool.and_true, Bool.and_false, Bool.true_and, Bool.false_and, Bool.or_true, Bool.or_false, Bool.true_or, Bool.false_or, Bool.not_true, Bool.not_false, if_true, if_false, Bool.false_eq_true, reduceIte] <;> rfl))), trivial⟩)
            ·have hb61R := hb61; (try simp only [z1, z2, z3, z4, z5, z6, ne_eq, z7, z8, z9, z10, z11, z12] at hb61); (try (have hll := hire_len hb61)); (try (have hlp := lotP_len hll.1 hll.2)); (try (rw [tm_if] at hb61)); (try (have htm : tmE ts ms = 0 := hb61)); (try (have hokm := fun m hm => (tm_go htm m hm).1))
             refine pwp_skip ?_
             refine block_norm ?_
             exact seq_norm (hK58 _ ⟨rfl, rfl, rfl, rfl, rfl, trivial⟩ ⟨(congrArg PV.int (show (s : Int) = (if (decide (y.part = x.part)) = true then (s + y.count) else s) by first | rfl | ((try rw [hb61R]) <;> (first | rfl | (simp only [Bool.and_true, Bool.and_false, Bool.true_and, Bool.false_and, Bool.or_true, Bool.or_false, Bool.true_or, Bool.false_or, Bool.not_true, Bool.not_false, if_true, if_false, Bool.false_eq_true, reduceIte] <;> rfl))) | (simp only [hb61R, Bool.and_true, Bool.and_false, Bool.true_and, Bool.false_and, Bool.or_true, Bool.or_false, Bool.true_or, Bool.false_or, Bool.not_true, Bool.not_false, if_true, if_false, Bool.false_eq_true, reduceIte] <;> rfl))), trivial⟩)
           ·skip
            refine pwp_plain rfl fun K63 hK63 => ?_
            refine p_step rfl (e_move (v := .sc _) rfl) trivial ?_
            refine p_step rfl (e_add rfl rfl (by omega)) trivial ?_
            refine p_step rfl (e_assign (v := .sc _) rfl) trivial ?_
            refine p_end (hK63 _ ?_); clear hK63 K63
            exact loop_again ((j + 1, (if (decide (y.part = x.part)) = true then (s + y.count) else s))) (by show _ < _; simp only; omega) ⟨rfl, rfl, rfl, rfl, trivial⟩ ⟨rfl, rfl, trivial⟩ (by exact ⟨by omega, by (dsimp only; rw [sum_next hty, hs]; simp only [decide_eq_true_eq])⟩)
          ·have hb57R := hb57; (try simp only [z1, z2, z3, z4, z5, z6, ne_eq, z7, z8, z9, z10, z11, z12] at hb57); (try (have hll := hire_len hb57)); (try (have hlp := lotP_len hll.1 hll.2)); (try (rw [tm_if] at hb57)); (try (have htm : tmE ts ms = 0 := hb57)); (try (have hokm := fun m hm => (tm_go htm m hm).1))
           obtain rfl : j = (lotsP ts ms).length := by omega
           rw [List.take_length, lotsP_0 htm, lots_sum htm (List.mem_of_getElem? hx)] at hs
           refine pwp_exit ?_
           refine exit_seq ?_
           clear hK56 K56
           refine exit_loop ?_
           refine exit_here ?_
           refine seq_norm (hK49 _ ?_); clear hK49 K49
           refine pwp_seq_plain rfl fun K64 hK64 => ?_
           refine p_step rfl (e_move (v := .sc _) rfl) trivial ?_
           refine p_step rfl (e_move (v := .lit _ _ _) rfl) trivial ?_
           refine p_step rfl (e_move (v := .lit _ _ _) rfl) trivial ?_
           refine p_step rfl (e_move (v := .sc _) rfl) trivial ?_
           refine p_step rfl (e_ixa rfl rfl (by kernel_rfl) (by kernel_rfl) (by simp only [List.length_map]; omega)) trivial ?_
           refine p_step rfl (e_fa (pl := [(0, 1, false), (1, 1, false), (2, 1, false), (3, 1, false)]) rfl (by kernel_rfl) (by kernel_rfl) (by decide) rfl) trivial ?_
           refine p_step rfl (e_load (v := .sc _) rfl (by kernel_rfl) (by kernel_rfl) (by kernel_rfl) (by simp only [List.length_map]; omega) (by decide) ((cell_map hx _).trans rfl)) trivial ?_
           refine p_call rfl (.cons inn_lit (.cons inn_sc .nil)) (Counts _ _ (by omega) hokm) ?_
           refine p_step rfl (e_indexI (e := 3) (k := 0) rfl rfl (by kernel_rfl) (by kernel_rfl) (by kernel_rfl) (cntL_len _ _) (by decide)) trivial ?_
           refine p_step rfl (e_ne rfl rfl) trivial ?_
           refine p_end (hK64 _ ?_); clear hK64 K64
           refine pwp_cond rfl (fun hb65 => ?_) (fun hb65 => ?_)
           ·have hb65R := hb65; (try simp only [z1, z2, z3, z4, z5, z6, ne_eq, z7, z8, z9, z10, z11, z12] at hb65); (try (have hll := hire_len hb65)); (try (have hlp := lotP_len hll.1 hll.2)); (try (rw [tm_if] at hb65)); (try (have htm : tmE ts ms = 0 := hb65)); (try (have hokm := fun m hm => (tm_go htm m hm).1))
            refine pwp_seq_plain rfl fun K66 hK66 => ?_
            refine p_step rfl (e_assign (v := .sc _) rfl) trivial ?_
            refine p_end (hK66 _ ?_); clear hK66 K66
            refine pwp_ret ?_
            refine ret_block ?_
            refine ret_seq ?_
            refine ret_loop ?_
            refine ret_block ?_
            refine ret_seq ?_
            refine end1 (v := .sc _) rfl ?_
            first
              | exact out_b rfl
              | exact absurd trivial (by assumption)
              | exact absurd rfl (by assumption)
              | exact out_b (mv_bad (by assumption))
              | exact absurd (by assumption) (mv_good htm)
              | exact absurd hs (by assumption)
           ·have hb65R := hb65; (try simp only [z1, z2, z3, z4, z5, z6, ne_eq, z7, z8, z9, z10, z11, z12] at hb65); (try (have hll := hire_len hb65)); (try (have hlp := lotP_len hll.1 hll.2)); (try (rw [tm_if] at hb65)); (try (have htm : tmE ts ms = 0 := hb65)); (try (have hokm := fun m hm => (tm_go htm m hm).1))
            refine pwp_skip ?_
            refine block_norm ?_
            refine seq_norm (hK46 _ ?_); clear hK46 K46
            refine pwp_plain rfl fun K67 hK67 => ?_
            refine p_step rfl (e_move (v := .sc _) rfl) trivial ?_
            refine p_step rfl (e_add rfl rfl (by omega)) trivial ?_
            refine p_step rfl (e_assign (v := .sc _) rfl) trivial ?_
            refine p_end (hK67 _ ?_); clear hK67 K67
            exact loop_again (k + 1) (by show _ < _; omega) ⟨rfl, rfl, rfl, trivial⟩ ⟨rfl, trivial⟩ (by exact by omega)
         ·have hb45R := hb45; (try simp only [z1, z2, z3, z4, z5, z6, ne_eq, z7, z8, z9, z10, z11, z12] at hb45); (try (have hll := hire_len hb45)); (try (have hlp := lotP_len hll.1 hll.2)); (try (rw [tm_if] at hb45)); (try (have htm : tmE ts ms = 0 := hb45)); (try (have hokm := fun m hm => (tm_go htm m hm).1))
          refine pwp_exit ?_
          refine exit_seq ?_
          clear hK44 K44
          refine exit_loop ?_
          refine exit_here ?_
          refine seq_norm (hK38 _ ?_); clear hK38 K38
          refine pwp_seq_plain rfl fun K68 hK68 => ?_
          refine p_step rfl (e_assign (v := .sc _) rfl) trivial ?_
          refine p_end (hK68 _ ?_); clear hK68 K68
          refine pwp_ret ?_
          refine end1 (v := .sc _) rfl ?_
          first
            | exact out_b rfl
            | exact absurd trivial (by assumption)
            | exact absurd rfl (by assumption)
            | exact out_b (mv_bad (by assumption))
            | exact absurd (by assumption) (mv_good htm)
            | exact absurd hs (by assumption)

end Go.Proofs.Ytdbpfhbppcpbbaa
