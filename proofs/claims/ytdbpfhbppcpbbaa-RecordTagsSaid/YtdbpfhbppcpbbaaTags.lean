/- RecordTags, as a contract on pure values. No conditions. -/
import Derived.Test.YtdbpfhbppcpbbaaRef3
import Derived.Test.YtdbpfhbppcpbbaaRef4
import Derived.Test.YtdbpfhbppcpbbaaTag1
import Derived.Test.YtdbpfhbppcpbbaaCor1
set_option linter.unusedSimpArgs false
set_option linter.unusedVariables false
set_option maxRecDepth 100000
namespace Go.Proofs.Ytdbpfhbppcpbbaa
open Go Go.Pv

theorem askZ {evs : List Ev} {p : ByteArray} {day : Int} : (if ((decide ((if ((decide ((recE (evs)) = (0))) && (!(decide (0 ≤ day ∧ day ≤ 20000)))) = true then (2) else (recE (evs))) = (0))) && (!(hasS (platE (evs)) p))) = true then (6) else (if ((decide ((recE (evs)) = (0))) && (!(decide (0 ≤ day ∧ day ≤ 20000)))) = true then (2) else (recE (evs)))) = askE evs p day := by
  unfold askE
  by_cases h0 : recE evs = 0
  · by_cases h1 : 0 ≤ day ∧ day ≤ 20000
    · cases hp : hasS (platE evs) p <;> simp [h0, h1]
    · simp [h0, h1]
  · simp [h0]
theorem ask_z {evs : List Ev} {p : ByteArray} {day : Int} (h : decide ((if ((decide ((if ((decide ((recE (evs)) = (0))) && (!(decide (0 ≤ day ∧ day ≤ 20000)))) = true then (2) else (recE (evs))) = (0))) && (!(hasS (platE (evs)) p))) = true then (6) else (if ((decide ((recE (evs)) = (0))) && (!(decide (0 ≤ day ∧ day ≤ 20000)))) = true then (2) else (recE (evs)))) ≠ (0)) = false) : askE evs p day = 0 := by
  rw [askZ] at h
  exact Decidable.not_not.1 (of_decide_eq_false h)
theorem reaT_len (evs : List Ev) (p : ByteArray) (day : Int) : (reaT evs p day).length ≤ 1000000 := by
  unfold reaT
  split
  · exact Nat.le_trans (rsn_len _ _) (by show 5 ≤ 1000000; omega)
  · exact Nat.zero_le _
theorem defT_len {evs : List Ev} {p : ByteArray} {day : Int} (hz : askE evs p day = 0) : (defT evs p day).length ≤ 1000000 := by
  rw [defT, if_pos hz, def_agree (ask_hp hz).1 (ask_hp hz).2]; exact defR_len _ _
theorem tag_agreeR {p : ByteArray} {day : Int} {U : List Ev} : tagR (reaR p day U) = tagE (reaR p day U) := by unfold reaR; exact tag_agree _ _ _ _ _
theorem tags_bad {evs : List Ev} {p : ByteArray} {day : Int} {b : Bool} (h : decide ((if ((decide ((if ((decide ((recE (evs)) = (0))) && (!(decide (0 ≤ day ∧ day ≤ 20000)))) = true then (2) else (recE (evs))) = (0))) && (!(hasS (platE (evs)) p))) = true then (6) else (if ((decide ((recE (evs)) = (0))) && (!(decide (0 ≤ day ∧ day ≤ 20000)))) = true then (2) else (recE (evs)))) ≠ (0)) = true) (hb : ((((((decide ((askE (evs) p day) = (if ((decide ((if ((decide ((recE (evs)) = (0))) && (!(decide (0 ≤ day ∧ day ≤ 20000)))) = true then (2) else (recE (evs))) = (0))) && (!(hasS (platE (evs)) p))) = true then (6) else (if ((decide ((recE (evs)) = (0))) && (!(decide (0 ≤ day ∧ day ≤ 20000)))) = true then (2) else (recE (evs)))))) && (decide ((askE (evs) p day) = (if ((decide ((if ((decide ((recE (evs)) = (0))) && (!(decide (0 ≤ day ∧ day ≤ 20000)))) = true then (2) else (recE (evs))) = (0))) && (!(hasS (platE (evs)) p))) = true then (6) else (if ((decide ((recE (evs)) = (0))) && (!(decide (0 ≤ day ∧ day ≤ 20000)))) = true then (2) else (recE (evs))))))) && (decide ((askE (evs) p day) = (if ((decide ((if ((decide ((recE (evs)) = (0))) && (!(decide (0 ≤ day ∧ day ≤ 20000)))) = true then (2) else (recE (evs))) = (0))) && (!(hasS (platE (evs)) p))) = true then (6) else (if ((decide ((recE (evs)) = (0))) && (!(decide (0 ≤ day ∧ day ≤ 20000)))) = true then (2) else (recE (evs))))))) && (decide (((((reaT (evs) p day).map ci).length : Nat) : Int) = (0)))) && (decide ((tagT (evs) p day) = (0)))) && (decide (((((defT (evs) p day).map ci).length : Nat) : Int) = (0)))) = b) : b = true := by
  rw [askZ] at h
  have h1 : ¬ askE evs p day = 0 := of_decide_eq_true h
  have e1 : reaT evs p day = [] := by rw [reaT, if_neg h1]
  have e2 : tagT evs p day = 0 := by rw [tagT, if_neg h1]
  have e3 : defT evs p day = [] := by rw [defT, if_neg h1]
  rw [← hb, askZ, e1, e2, e3, decide_eq_true (rfl : askE evs p day = askE evs p day)]
  rfl
theorem tags_good {evs : List Ev} {p : ByteArray} {day : Int} {b : Bool} (hz : askE evs p day = 0) (hb : ((((((decide ((askE (evs) p day) = (0))) && (decide ((askE (evs) p day) = (0)))) && (decide ((askE (evs) p day) = (0)))) && (decide ((reaT (evs) p day) = (reaR p day (uptoE (evs) day))))) && (decide ((tagT (evs) p day) = (tagR (reaR p day (uptoE (evs) day)))))) && (decide ((defT (evs) p day) = (defR p (uptoE (evs) day))))) = b) : b = true := by
  have h := ask_hp hz
  have e1 : reaT evs p day = reaR p day (uptoE evs day) := by rw [reaT, if_pos hz, rea_agree h.1 h.2]
  have e2 : tagT evs p day = tagR (reaR p day (uptoE evs day)) := by rw [tagT, if_pos hz, rea_agree h.1 h.2, tag_agreeR]
  have e3 : defT evs p day = defR p (uptoE evs day) := by rw [defT, if_pos hz, def_agree h.1 h.2]
  rw [← hb, hz, e1, e2, e3]
  simp only [decide_true, Bool.and_true]

theorem fr9 : (inFrame Try.f9.ntmps (Try.f9.body.getD .skip) && Try.f9.results.toList.all (resScope Try.f9.ntmps)) = true := by kernel_rfl
theorem tags (evs : List Ev) (p : ByteArray) (day : Int) : PCalls Try.prog 9 [.lit true 6 (evs.map Ev.enc), .str p, .int day] (.bool true) := by
  refine PCalls.of_code Try.func9 rfl rfl (by kernel_rfl) mixed fr9 (by show _ ≤ 129; simp) (.sc _) ?_
  refine pwp_seq_plain rfl fun K1 hK1 => ?_
  refine p_step rfl (e_assign (v := .sc _) rfl) trivial ?_
  refine p_end (hK1 _ ?_); clear hK1 K1
  refine pwp_seq_seq ?_
  refine pwp_seq_plain rfl fun K2 hK2 => ?_
  refine p_call rfl .nil (awake) ?_
  refine p_step rfl (e_not rfl) trivial ?_
  refine p_end (hK2 _ ?_); clear hK2 K2
  refine pwp_seq_cond (t := false) rfl fun K3 hK3 => ⟨nofun, fun _ => ?_⟩
  refine pwp_skip ?_
  refine seq_norm (hK3 _ ?_); clear hK3 K3
  refine pwp_seq_seq ?_
  refine pwp_seq_cutG [0, 1, 2] [(24, .bool ((!(shortB (evs))) || (decide ((30) < ((p).size : Int)))))] (fun K4 hK4 => ?_) (fun r5 => ?_)
  · skip
    refine pwp_gops rfl fun K6 hK6 => ?_
    refine g_begin ?_
    refine g_step rfl rfl rfl rfl (e_move (v := .lit _ _ _) rfl) trivial ?_
    refine g_call rfl rfl rfl rfl (.cons inn_lit .nil) (short _) ?_
    refine g_step rfl rfl rfl rfl (e_not rfl) trivial ?_
    refine g_step rfl rfl rfl rfl (e_move (v := .sc _) rfl) trivial ?_
    refine g_cases (fun hb7 => ?_) (fun hb7 => ?_)
    · have hb7R := hb7; (try simp only [z1, z2, z3, z4, z5, z6, ne_eq, z7, z8, z9, z10, z11, z12] at hb7); (try (have hlen405 := short_len hb7.1)); (try (have hz := ask_z hb7R))
      refine g_skip rfl rfl rfl ?_
      refine g_skip rfl rfl rfl ?_
      refine g_skip rfl rfl rfl ?_
      refine g_step rfl rfl rfl rfl (e_pickT (v := .sc _) rfl rfl) trivial ?_
      refine g_end (ds := [21, 22, 23]) rfl rfl (hK6 _ ?_); clear hK6 K6
      exact seq_norm (hK4 _ ⟨rfl, rfl, rfl, trivial⟩ ⟨(congrArg PV.bool (show (true : Bool) = ((!(shortB (evs))) || (decide ((30) < ((p).size : Int)))) by first | rfl | ((try rw [hb7R]) <;> (first | rfl | (simp only [Bool.and_true, Bool.and_false, Bool.true_and, Bool.false_and, Bool.or_true, Bool.or_false, Bool.true_or, Bool.false_or, Bool.not_true, Bool.not_false, if_true, if_false, Bool.false_eq_true, reduceIte] <;> rfl))) | (simp only [hb7R, Bool.and_true, Bool.and_false, Bool.true_and, Bool.false_and, Bool.or_true, Bool.or_false, Bool.true_or, Bool.false_or, Bool.not_true, Bool.not_false, if_true, if_false, Bool.false_eq_true, reduceIte] <;> rfl))), trivial⟩)
    · have hb7R := hb7; (try simp only [z1, z2, z3, z4, z5, z6, ne_eq, z7, z8, z9, z10, z11, z12] at hb7); (try (have hlen405 := short_len hb7.1)); (try (have hz := ask_z hb7R))
      refine g_step rfl rfl rfl rfl (e_move (v := .sc _) rfl) trivial ?_
      refine g_step rfl rfl rfl rfl (e_lenS rfl (by kernel_rfl)) trivial ?_
      refine g_step rfl rfl rfl rfl (e_gt rfl rfl) trivial ?_
      refine g_step rfl rfl rfl rfl (e_pickF (v := .sc _) rfl rfl) trivial ?_
      refine g_end (ds := [21, 22, 23]) rfl rfl (hK6 _ ?_); clear hK6 K6
      exact seq_norm (hK4 _ ⟨rfl, rfl, rfl, trivial⟩ ⟨(congrArg PV.bool (show ((decide ((30) < ((p).size : Int))) : Bool) = ((!(shortB (evs))) || (decide ((30) < ((p).size : Int)))) by first | rfl | ((try rw [hb7R]) <;> (first | rfl | (simp only [Bool.and_true, Bool.and_false, Bool.true_and, Bool.false_and, Bool.or_true, Bool.or_false, Bool.true_or, Bool.false_or, Bool.not_true, Bool.not_false, if_true, if_false, Bool.false_eq_true, reduceIte] <;> rfl))) | (simp only [hb7R, Bool.and_true, Bool.and_false, Bool.true_and, Bool.false_and, Bool.or_true, Bool.or_false, Bool.true_or, Bool.false_or, Bool.not_true, Bool.not_false, if_true, if_false, Bool.false_eq_true, reduceIte] <;> rfl))), trivial⟩)
  · skip
    refine pwp_seq_cond rfl fun K8 hK8 => ⟨fun hb9 => ?_, fun hb9 => ?_⟩
    · have hb9R := hb9; (try simp only [z1, z2, z3, z4, z5, z6, ne_eq, z7, z8, z9, z10, z11, z12] at hb9); (try (have hlen405 := short_len hb9.1)); (try (have hz := ask_z hb9R))
      refine pwp_seq_plain rfl fun K10 hK10 => ?_
      refine p_step rfl (e_assign (v := .sc _) rfl) trivial ?_
      refine p_end (hK10 _ ?_); clear hK10 K10
      refine pwp_ret ?_
      refine ret_seq ?_
      refine end1 (v := .sc _) rfl ?_
      first
        | exact out_b rfl
        | exact out_b (tags_bad (by assumption) rfl)
        | exact out_b (tags_good hz rfl)
    · have hb9R := hb9; (try simp only [z1, z2, z3, z4, z5, z6, ne_eq, z7, z8, z9, z10, z11, z12] at hb9); (try (have hlen405 := short_len hb9.1)); (try (have hz := ask_z hb9R))
      refine pwp_skip ?_
      refine seq_norm (hK8 _ ?_); clear hK8 K8
      refine pwp_seq_plain rfl fun K11 hK11 => ?_
      refine p_step rfl (e_move (v := .lit _ _ _) rfl) trivial ?_
      refine p_call rfl (.cons inn_lit .nil) (copied _ hlen405) ?_
      refine p_step rfl (e_move (v := .sc _) rfl) trivial ?_
      refine p_step rfl (e_move (v := .sc _) rfl) trivial ?_
      refine p_call rfl (.cons inn_lit (.cons inn_sc (.cons inn_sc .nil))) (Reasons _ _ _ hlen405) ?_
      refine p_step rfl (e_move (v := .tup _) rfl) trivial ?_
      refine p_step rfl (e_ext (v := .lit _ _ _) rfl (by simp) rfl) trivial ?_
      refine p_step rfl (e_ext (v := .sc _) rfl (by simp) rfl) trivial ?_
      refine p_step rfl (e_assign (v := .lit _ _ _) rfl) trivial ?_
      refine p_step rfl (e_assign (v := .sc _) rfl) trivial ?_
      refine p_end (hK11 _ ?_); clear hK11 K11
      refine pwp_seq_plain rfl fun K12 hK12 => ?_
      refine p_step rfl (e_move (v := .lit _ _ _) rfl) trivial ?_
      refine p_call rfl (.cons inn_lit .nil) (copied _ hlen405) ?_
      refine p_step rfl (e_move (v := .sc _) rfl) trivial ?_
      refine p_step rfl (e_move (v := .sc _) rfl) trivial ?_
      refine p_call rfl (.cons inn_lit (.cons inn_sc (.cons inn_sc .nil))) (Tag _ _ _ hlen405) ?_
      refine p_step rfl (e_move (v := .tup _) rfl) trivial ?_
      refine p_step rfl (e_ext (v := .sc _) rfl (by simp) rfl) trivial ?_
      refine p_step rfl (e_ext (v := .sc _) rfl (by simp) rfl) trivial ?_
      refine p_step rfl (e_assign (v := .sc _) rfl) trivial ?_
      refine p_step rfl (e_assign (v := .sc _) rfl) trivial ?_
      refine p_end (hK12 _ ?_); clear hK12 K12
      refine pwp_seq_plain rfl fun K13 hK13 => ?_
      refine p_step rfl (e_move (v := .lit _ _ _) rfl) trivial ?_
      refine p_call rfl (.cons inn_lit .nil) (copied _ hlen405) ?_
      refine p_step rfl (e_move (v := .sc _) rfl) trivial ?_
      refine p_step rfl (e_move (v := .sc _) rfl) trivial ?_
      refine p_call rfl (.cons inn_lit (.cons inn_sc (.cons inn_sc .nil))) (Defects _ _ _ hlen405) ?_
      refine p_step rfl (e_move (v := .tup _) rfl) trivial ?_
      refine p_step rfl (e_ext (v := .lit _ _ _) rfl (by simp) rfl) trivial ?_
      refine p_step rfl (e_ext (v := .sc _) rfl (by simp) rfl) trivial ?_
      refine p_step rfl (e_assign (v := .lit _ _ _) rfl) trivial ?_
      refine p_step rfl (e_assign (v := .sc _) rfl) trivial ?_
      refine p_end (hK13 _ ?_); clear hK13 K13
      refine pwp_seq_plain rfl fun K14 hK14 => ?_
      refine p_step rfl (e_move (v := .lit _ _ _) rfl) trivial ?_
      refine p_call rfl (.cons inn_lit .nil) (refCheckRecord _ hlen405) ?_
      refine p_step rfl (e_assign (v := .sc _) rfl) trivial ?_
      refine p_end (hK14 _ ?_); clear hK14 K14
      refine pwp_seq_seq ?_
      refine pwp_seq_cutG [0, 1, 2, 7, 8, 9, 10, 11, 12, 13] [(57, .bool ((decide ((recE (evs)) = (0))) && (!(decide (0 ≤ day ∧ day ≤ 20000)))))] (fun K15 hK15 => ?_) (fun r16 => ?_)
      · skip
        refine pwp_gops rfl fun K17 hK17 => ?_
        refine g_begin ?_
        refine g_step rfl rfl rfl rfl (e_move (v := .sc _) rfl) trivial ?_
        refine g_step rfl rfl rfl rfl (e_eq rfl rfl) trivial ?_
        refine g_step rfl rfl rfl rfl (e_move (v := .sc _) rfl) trivial ?_
        refine g_cases (fun hb18 => ?_) (fun hb18 => ?_)
        · have hb18R := hb18; (try simp only [z1, z2, z3, z4, z5, z6, ne_eq, z7, z8, z9, z10, z11, z12] at hb18); (try (have hlen405 := short_len hb18.1)); (try (have hz := ask_z hb18R))
          refine g_step rfl rfl rfl rfl (e_move (v := .sc _) rfl) trivial ?_
          refine g_call rfl rfl rfl rfl (.cons inn_sc .nil) (IsDay _) ?_
          refine g_step rfl rfl rfl rfl (e_not rfl) trivial ?_
          refine g_step rfl rfl rfl rfl (e_pickT (v := .sc _) rfl rfl) trivial ?_
          refine g_end (ds := [54, 55, 56]) rfl rfl (hK17 _ ?_); clear hK17 K17
          exact seq_norm (hK15 _ ⟨rfl, rfl, rfl, rfl, rfl, rfl, rfl, rfl, rfl, rfl, trivial⟩ ⟨(congrArg PV.bool (show ((!(decide (0 ≤ day ∧ day ≤ 20000))) : Bool) = ((decide ((recE (evs)) = (0))) && (!(decide (0 ≤ day ∧ day ≤ 20000)))) by first | rfl | ((try rw [hb18R]) <;> (first | rfl | (simp only [Bool.and_true, Bool.and_false, Bool.true_and, Bool.false_and, Bool.or_true, Bool.or_false, Bool.true_or, Bool.false_or, Bool.not_true, Bool.not_false, if_true, if_false, Bool.false_eq_true, reduceIte] <;> rfl))) | (simp only [hb18R, Bool.and_true, Bool.and_false, Bool.true_and, Bool.false_and, Bool.or_true, Bool.or_false, Bool.true_or, Bool.false_or, Bool.not_true, Bool.not_false, if_true, if_false, Bool.false_eq_true, reduceIte] <;> rfl))), trivial⟩)
        · have hb18R := hb18; (try simp only [z1, z2, z3, z4, z5, z6, ne_eq, z7, z8, z9, z10, z11, z12] at hb18); (try (have hlen405 := short_len hb18.1)); (try (have hz := ask_z hb18R))
          refine g_skip rfl rfl rfl ?_
          refine g_nocall rfl rfl rfl ?_
          refine g_skip rfl rfl rfl ?_
          refine g_step rfl rfl rfl rfl (e_pickF (v := .sc _) rfl rfl) trivial ?_
          refine g_end (ds := [54, 55, 56]) rfl rfl (hK17 _ ?_); clear hK17 K17
          exact seq_norm (hK15 _ ⟨rfl, rfl, rfl, rfl, rfl, rfl, rfl, rfl, rfl, rfl, trivial⟩ ⟨(congrArg PV.bool (show (false : Bool) = ((decide ((recE (evs)) = (0))) && (!(decide (0 ≤ day ∧ day ≤ 20000)))) by first | rfl | ((try rw [hb18R]) <;> (first | rfl | (simp only [Bool.and_true, Bool.and_false, Bool.true_and, Bool.false_and, Bool.or_true, Bool.or_false, Bool.true_or, Bool.false_or, Bool.not_true, Bool.not_false, if_true, if_false, Bool.false_eq_true, reduceIte] <;> rfl))) | (simp only [hb18R, Bool.and_true, Bool.and_false, Bool.true_and, Bool.false_and, Bool.or_true, Bool.or_false, Bool.true_or, Bool.false_or, Bool.not_true, Bool.not_false, if_true, if_false, Bool.false_eq_true, reduceIte] <;> rfl))), trivial⟩)
      · skip
        refine pwp_seq_cutG [0, 1, 2, 7, 8, 9, 10, 11, 12] [(13, .int (if ((decide ((recE (evs)) = (0))) && (!(decide (0 ≤ day ∧ day ≤ 20000)))) = true then (2) else (recE (evs))))] (fun K19 hK19 => ?_) (fun r20 => ?_)
        · skip
          refine pwp_cond rfl (fun hb21 => ?_) (fun hb21 => ?_)
          · have hb21R := hb21; (try simp only [z1, z2, z3, z4, z5, z6, ne_eq, z7, z8, z9, z10, z11, z12] at hb21); (try (have hlen405 := short_len hb21.1)); (try (have hz := ask_z hb21R))
            refine pwp_plain rfl fun K22 hK22 => ?_
            refine p_step rfl (e_assign (v := .sc _) rfl) trivial ?_
            refine p_end (hK22 _ ?_); clear hK22 K22
            exact seq_norm (hK19 _ ⟨rfl, rfl, rfl, rfl, rfl, rfl, rfl, rfl, rfl, trivial⟩ ⟨(congrArg PV.int (show ((2) : Int) = (if ((decide ((recE (evs)) = (0))) && (!(decide (0 ≤ day ∧ day ≤ 20000)))) = true then (2) else (recE (evs))) by first | rfl | ((try rw [hb21R]) <;> (first | rfl | (simp only [Bool.and_true, Bool.and_false, Bool.true_and, Bool.false_and, Bool.or_true, Bool.or_false, Bool.true_or, Bool.false_or, Bool.not_true, Bool.not_false, if_true, if_false, Bool.false_eq_true, reduceIte] <;> rfl))) | (simp only [hb21R, Bool.and_true, Bool.and_false, Bool.true_and, Bool.false_and, Bool.or_true, Bool.or_false, Bool.true_or, Bool.false_or, Bool.not_true, Bool.not_false, if_true, if_false, Bool.false_eq_true, reduceIte] <;> rfl))), trivial⟩)
          · have hb21R := hb21; (try simp only [z1, z2, z3, z4, z5, z6, ne_eq, z7, z8, z9, z10, z11, z12] at hb21); (try (have hlen405 := short_len hb21.1)); (try (have hz := ask_z hb21R))
            refine pwp_skip ?_
            exact seq_norm (hK19 _ ⟨rfl, rfl, rfl, rfl, rfl, rfl, rfl, rfl, rfl, trivial⟩ ⟨(congrArg PV.int (show ((recE (evs)) : Int) = (if ((decide ((recE (evs)) = (0))) && (!(decide (0 ≤ day ∧ day ≤ 20000)))) = true then (2) else (recE (evs))) by first | rfl | ((try rw [hb21R]) <;> (first | rfl | (simp only [Bool.and_true, Bool.and_false, Bool.true_and, Bool.false_and, Bool.or_true, Bool.or_false, Bool.true_or, Bool.false_or, Bool.not_true, Bool.not_false, if_true, if_false, Bool.false_eq_true, reduceIte] <;> rfl))) | (simp only [hb21R, Bool.and_true, Bool.and_false, Bool.true_and, Bool.false_and, Bool.or_true, Bool.or_false, Bool.true_or, Bool.false_or, Bool.not_true, Bool.not_false, if_true, if_false, Bool.false_eq_true, reduceIte] <;> rfl))), trivial⟩)
        · skip
          refine pwp_seq_seq ?_
          refine pwp_seq_cutG [0, 1, 2, 7, 8, 9, 10, 11, 12, 13] [(66, .bool ((decide ((if ((decide ((recE (evs)) = (0))) && (!(decide (0 ≤ day ∧ day ≤ 20000)))) = true then (2) else (recE (evs))) = (0))) && (!(hasS (platE (evs)) p))))] (fun K23 hK23 => ?_) (fun r24 => ?_)
          · skip
            refine pwp_gops rfl fun K25 hK25 => ?_
            refine g_begin ?_
            refine g_step rfl rfl rfl rfl (e_move (v := .sc _) rfl) trivial ?_
            refine g_step rfl rfl rfl rfl (e_eq rfl rfl) trivial ?_
            refine g_step rfl rfl rfl rfl (e_move (v := .sc _) rfl) trivial ?_
            refine g_cases (fun hb26 => ?_) (fun hb26 => ?_)
            · have hb26R := hb26; (try simp only [z1, z2, z3, z4, z5, z6, ne_eq, z7, z8, z9, z10, z11, z12] at hb26); (try (have hlen405 := short_len hb26.1)); (try (have hz := ask_z hb26R))
              refine g_step rfl rfl rfl rfl (e_move (v := .lit _ _ _) rfl) trivial ?_
              refine g_call rfl rfl rfl rfl (.cons inn_lit .nil) (Platforms _ hlen405) ?_
              refine g_step rfl rfl rfl rfl (e_move (v := .sc _) rfl) trivial ?_
              refine g_call rfl rfl rfl rfl (.cons inn_lit (.cons inn_sc .nil)) (HasText _ _ (plat_len _ hlen405)) ?_
              refine g_step rfl rfl rfl rfl (e_not rfl) trivial ?_
              refine g_step rfl rfl rfl rfl (e_pickT (v := .sc _) rfl rfl) trivial ?_
              refine g_end (ds := [61, 62, 63, 64, 65]) rfl rfl (hK25 _ ?_); clear hK25 K25
              exact seq_norm (hK23 _ ⟨rfl, rfl, rfl, rfl, rfl, rfl, rfl, rfl, rfl, rfl, trivial⟩ ⟨(congrArg PV.bool (show ((!(hasS (platE (evs)) p)) : Bool) = ((decide ((if ((decide ((recE (evs)) = (0))) && (!(decide (0 ≤ day ∧ day ≤ 20000)))) = true then (2) else (recE (evs))) = (0))) && (!(hasS (platE (evs)) p))) by first | rfl | ((try rw [hb26R]) <;> (first | rfl | (simp only [Bool.and_true, Bool.and_false, Bool.true_and, Bool.false_and, Bool.or_true, Bool.or_false, Bool.true_or, Bool.false_or, Bool.not_true, Bool.not_false, if_true, if_false, Bool.false_eq_true, reduceIte] <;> rfl))) | (simp only [hb26R, Bool.and_true, Bool.and_false, Bool.true_and, Bool.false_and, Bool.or_true, Bool.or_false, Bool.true_or, Bool.false_or, Bool.not_true, Bool.not_false, if_true, if_false, Bool.false_eq_true, reduceIte] <;> rfl))), trivial⟩)
            · have hb26R := hb26; (try simp only [z1, z2, z3, z4, z5, z6, ne_eq, z7, z8, z9, z10, z11, z12] at hb26); (try (have hlen405 := short_len hb26.1)); (try (have hz := ask_z hb26R))
              refine g_skip rfl rfl rfl ?_
              refine g_nocall rfl rfl rfl ?_
              refine g_skip rfl rfl rfl ?_
              refine g_nocall rfl rfl rfl ?_
              refine g_skip rfl rfl rfl ?_
              refine g_step rfl rfl rfl rfl (e_pickF (v := .sc _) rfl rfl) trivial ?_
              refine g_end (ds := [61, 62, 63, 64, 65]) rfl rfl (hK25 _ ?_); clear hK25 K25
              exact seq_norm (hK23 _ ⟨rfl, rfl, rfl, rfl, rfl, rfl, rfl, rfl, rfl, rfl, trivial⟩ ⟨(congrArg PV.bool (show (false : Bool) = ((decide ((if ((decide ((recE (evs)) = (0))) && (!(decide (0 ≤ day ∧ day ≤ 20000)))) = true then (2) else (recE (evs))) = (0))) && (!(hasS (platE (evs)) p))) by first | rfl | ((try rw [hb26R]) <;> (first | rfl | (simp only [Bool.and_true, Bool.and_false, Bool.true_and, Bool.false_and, Bool.or_true, Bool.or_false, Bool.true_or, Bool.false_or, Bool.not_true, Bool.not_false, if_true, if_false, Bool.false_eq_true, reduceIte] <;> rfl))) | (simp only [hb26R, Bool.and_true, Bool.and_false, Bool.true_and, Bool.false_and, Bool.or_true, Bool.or_false, Bool.true_or, Bool.false_or, Bool.not_true, Bool.not_false, if_true, if_false, Bool.false_eq_true, reduceIte] <;> rfl))), trivial⟩)
          · skip
            refine pwp_seq_cutG [0, 1, 2, 7, 8, 9, 10, 11, 12] [(13, .int (if ((decide ((if ((decide ((recE (evs)) = (0))) && (!(decide (0 ≤ day ∧ day ≤ 20000)))) = true then (2) else (recE (evs))) = (0))) && (!(hasS (platE (evs)) p))) = true then (6) else (if ((decide ((recE (evs)) = (0))) && (!(decide (0 ≤ day ∧ day ≤ 20000)))) = true then (2) else (recE (evs)))))] (fun K27 hK27 => ?_) (fun r28 => ?_)
            · skip
              refine pwp_cond rfl (fun hb29 => ?_) (fun hb29 => ?_)
              · have hb29R := hb29; (try simp only [z1, z2, z3, z4, z5, z6, ne_eq, z7, z8, z9, z10, z11, z12] at hb29); (try (have hlen405 := short_len hb29.1)); (try (have hz := ask_z hb29R))
                refine pwp_plain rfl fun K30 hK30 => ?_
                refine p_step rfl (e_assign (v := .sc _) rfl) trivial ?_
                refine p_end (hK30 _ ?_); clear hK30 K30
                exact seq_norm (hK27 _ ⟨rfl, rfl, rfl, rfl, rfl, rfl, rfl, rfl, rfl, trivial⟩ ⟨(congrArg PV.int (show ((6) : Int) = (if ((decide ((if ((decide ((recE (evs)) = (0))) && (!(decide (0 ≤ day ∧ day ≤ 20000)))) = true then (2) else (recE (evs))) = (0))) && (!(hasS (platE (evs)) p))) = true then (6) else (if ((decide ((recE (evs)) = (0))) && (!(decide (0 ≤ day ∧ day ≤ 20000)))) = true then (2) else (recE (evs)))) by first | rfl | ((try rw [hb29R]) <;> (first | rfl | (simp only [Bool.and_true, Bool.and_false, Bool.true_and, Bool.false_and, Bool.or_true, Bool.or_false, Bool.true_or, Bool.false_or, Bool.not_true, Bool.not_false, if_true, if_false, Bool.false_eq_true, reduceIte] <;> rfl))) | (simp only [hb29R, Bool.and_true, Bool.and_false, Bool.true_and, Bool.false_and, Bool.or_true, Bool.or_false, Bool.true_or, Bool.false_or, Bool.not_true, Bool.not_false, if_true, if_false, Bool.false_eq_true, reduceIte] <;> rfl))), trivial⟩)
              · have hb29R := hb29; (try simp only [z1, z2, z3, z4, z5, z6, ne_eq, z7, z8, z9, z10, z11, z12] at hb29); (try (have hlen405 := short_len hb29.1)); (try (have hz := ask_z hb29R))
                refine pwp_skip ?_
                exact seq_norm (hK27 _ ⟨rfl, rfl, rfl, rfl, rfl, rfl, rfl, rfl, rfl, trivial⟩ ⟨(congrArg PV.int (show ((if ((decide ((recE (evs)) = (0))) && (!(decide (0 ≤ day ∧ day ≤ 20000)))) = true then (2) else (recE (evs))) : Int) = (if ((decide ((if ((decide ((recE (evs)) = (0))) && (!(decide (0 ≤ day ∧ day ≤ 20000)))) = true then (2) else (recE (evs))) = (0))) && (!(hasS (platE (evs)) p))) = true then (6) else (if ((decide ((recE (evs)) = (0))) && (!(decide (0 ≤ day ∧ day ≤ 20000)))) = true then (2) else (recE (evs)))) by first | rfl | ((try rw [hb29R]) <;> (first | rfl | (simp only [Bool.and_true, Bool.and_false, Bool.true_and, Bool.false_and, Bool.or_true, Bool.or_false, Bool.true_or, Bool.false_or, Bool.not_true, Bool.not_false, if_true, if_false, Bool.false_eq_true, reduceIte] <;> rfl))) | (simp only [hb29R, Bool.and_true, Bool.and_false, Bool.true_and, Bool.false_and, Bool.or_true, Bool.or_false, Bool.true_or, Bool.false_or, Bool.not_true, Bool.not_false, if_true, if_false, Bool.false_eq_true, reduceIte] <;> rfl))), trivial⟩)
            · skip
              refine pwp_seq_seq ?_
              refine pwp_seq_plain rfl fun K31 hK31 => ?_
              refine p_step rfl (e_move (v := .sc _) rfl) trivial ?_
              refine p_step rfl (e_ne rfl rfl) trivial ?_
              refine p_end (hK31 _ ?_); clear hK31 K31
              refine pwp_seq_cond rfl fun K32 hK32 => ⟨fun hb33 => ?_, fun hb33 => ?_⟩
              · have hb33R := hb33; (try simp only [z1, z2, z3, z4, z5, z6, ne_eq, z7, z8, z9, z10, z11, z12] at hb33); (try (have hlen405 := short_len hb33.1)); (try (have hz := ask_z hb33R))
                refine pwp_seq_cutG [] [(6, .bool ((((((decide ((askE (evs) p day) = (if ((decide ((if ((decide ((recE (evs)) = (0))) && (!(decide (0 ≤ day ∧ day ≤ 20000)))) = true then (2) else (recE (evs))) = (0))) && (!(hasS (platE (evs)) p))) = true then (6) else (if ((decide ((recE (evs)) = (0))) && (!(decide (0 ≤ day ∧ day ≤ 20000)))) = true then (2) else (recE (evs)))))) && (decide ((askE (evs) p day) = (if ((decide ((if ((decide ((recE (evs)) = (0))) && (!(decide (0 ≤ day ∧ day ≤ 20000)))) = true then (2) else (recE (evs))) = (0))) && (!(hasS (platE (evs)) p))) = true then (6) else (if ((decide ((recE (evs)) = (0))) && (!(decide (0 ≤ day ∧ day ≤ 20000)))) = true then (2) else (recE (evs))))))) && (decide ((askE (evs) p day) = (if ((decide ((if ((decide ((recE (evs)) = (0))) && (!(decide (0 ≤ day ∧ day ≤ 20000)))) = true then (2) else (recE (evs))) = (0))) && (!(hasS (platE (evs)) p))) = true then (6) else (if ((decide ((recE (evs)) = (0))) && (!(decide (0 ≤ day ∧ day ≤ 20000)))) = true then (2) else (recE (evs))))))) && (decide (((((reaT (evs) p day).map ci).length : Nat) : Int) = (0)))) && (decide ((tagT (evs) p day) = (0)))) && (decide (((((defT (evs) p day).map ci).length : Nat) : Int) = (0)))))] (fun K34 hK34 => ?_) (fun r35 => ?_)
                · skip
                  refine pwp_gops rfl fun K36 hK36 => ?_
                  refine g_begin ?_
                  refine g_step rfl rfl rfl rfl (e_move (v := .sc _) rfl) trivial ?_
                  refine g_step rfl rfl rfl rfl (e_move (v := .sc _) rfl) trivial ?_
                  refine g_step rfl rfl rfl rfl (e_eq rfl rfl) trivial ?_
                  refine g_step rfl rfl rfl rfl (e_move (v := .sc _) rfl) trivial ?_
                  refine g_cases (fun hb37 => ?_) (fun hb37 => ?_)
                  · have hb37R := hb37; (try simp only [z1, z2, z3, z4, z5, z6, ne_eq, z7, z8, z9, z10, z11, z12] at hb37); (try (have hlen405 := short_len hb37.1)); (try (have hz := ask_z hb37R))
                    refine g_step rfl rfl rfl rfl (e_move (v := .sc _) rfl) trivial ?_
                    refine g_step rfl rfl rfl rfl (e_move (v := .sc _) rfl) trivial ?_
                    refine g_step rfl rfl rfl rfl (e_eq rfl rfl) trivial ?_
                    refine g_step rfl rfl rfl rfl (e_pickT (v := .sc _) rfl rfl) trivial ?_
                    refine g_step rfl rfl rfl rfl (e_move (v := .sc _) rfl) trivial ?_
                    refine g_cases (fun hb38 => ?_) (fun hb38 => ?_)
                    · have hb38R := hb38; (try simp only [z1, z2, z3, z4, z5, z6, ne_eq, z7, z8, z9, z10, z11, z12] at hb38); (try (have hlen405 := short_len hb38.1)); (try (have hz := ask_z hb38R))
                      refine g_step rfl rfl rfl rfl (e_move (v := .sc _) rfl) trivial ?_
                      refine g_step rfl rfl rfl rfl (e_move (v := .sc _) rfl) trivial ?_
                      refine g_step rfl rfl rfl rfl (e_eq rfl rfl) trivial ?_
                      refine g_step rfl rfl rfl rfl (e_pickT (v := .sc _) rfl rfl) trivial ?_
                      refine g_step rfl rfl rfl rfl (e_move (v := .sc _) rfl) trivial ?_
                      refine g_cases (fun hb39 => ?_) (fun hb39 => ?_)
                      · have hb39R := hb39; (try simp only [z1, z2, z3, z4, z5, z6, ne_eq, z7, z8, z9, z10, z11, z12] at hb39); (try (have hlen405 := short_len hb39.1)); (try (have hz := ask_z hb39R))
                        refine g_step rfl rfl rfl rfl (e_move (v := .lit _ _ _) rfl) trivial ?_
                        refine g_step rfl rfl rfl rfl (e_len rfl (by kernel_rfl)) trivial ?_
                        refine g_step rfl rfl rfl rfl (e_eq rfl rfl) trivial ?_
                        refine g_step rfl rfl rfl rfl (e_pickT (v := .sc _) rfl rfl) trivial ?_
                        refine g_step rfl rfl rfl rfl (e_move (v := .sc _) rfl) trivial ?_
                        refine g_cases (fun hb40 => ?_) (fun hb40 => ?_)
                        · have hb40R := hb40; (try simp only [z1, z2, z3, z4, z5, z6, ne_eq, z7, z8, z9, z10, z11, z12] at hb40); (try (have hlen405 := short_len hb40.1)); (try (have hz := ask_z hb40R))
                          refine g_step rfl rfl rfl rfl (e_move (v := .sc _) rfl) trivial ?_
                          refine g_step rfl rfl rfl rfl (e_eq rfl rfl) trivial ?_
                          refine g_step rfl rfl rfl rfl (e_pickT (v := .sc _) rfl rfl) trivial ?_
                          refine g_step rfl rfl rfl rfl (e_move (v := .sc _) rfl) trivial ?_
                          refine g_cases (fun hb41 => ?_) (fun hb41 => ?_)
                          · have hb41R := hb41; (try simp only [z1, z2, z3, z4, z5, z6, ne_eq, z7, z8, z9, z10, z11, z12] at hb41); (try (have hlen405 := short_len hb41.1)); (try (have hz := ask_z hb41R))
                            refine g_step rfl rfl rfl rfl (e_move (v := .lit _ _ _) rfl) trivial ?_
                            refine g_step rfl rfl rfl rfl (e_len rfl (by kernel_rfl)) trivial ?_
                            refine g_step rfl rfl rfl rfl (e_eq rfl rfl) trivial ?_
                            refine g_step rfl rfl rfl rfl (e_pickT (v := .sc _) rfl rfl) trivial ?_
                            refine g_step rfl rfl rfl rfl (e_assign (v := .sc _) rfl) trivial ?_
                            refine g_end (ds := [73, 74, 75, 78, 79, 80, 83, 84, 85, 88, 89, 92, 93, 94]) rfl rfl (hK36 _ ?_); clear hK36 K36
                            exact seq_norm (hK34 _ trivial ⟨(congrArg PV.bool (show ((decide (((((defT (evs) p day).map ci).length : Nat) : Int) = (0))) : Bool) = ((((((decide ((askE (evs) p day) = (if ((decide ((if ((decide ((recE (evs)) = (0))) && (!(decide (0 ≤ day ∧ day ≤ 20000)))) = true then (2) else (recE (evs))) = (0))) && (!(hasS (platE (evs)) p))) = true then (6) else (if ((decide ((recE (evs)) = (0))) && (!(decide (0 ≤ day ∧ day ≤ 20000)))) = true then (2) else (recE (evs)))))) && (decide ((askE (evs) p day) = (if ((decide ((if ((decide ((recE (evs)) = (0))) && (!(decide (0 ≤ day ∧ day ≤ 20000)))) = true then (2) else (recE (evs))) = (0))) && (!(hasS (platE (evs)) p))) = true then (6) else (if ((decide ((recE (evs)) = (0))) && (!(decide (0 ≤ day ∧ day ≤ 20000)))) = true then (2) else (recE (evs))))))) && (decide ((askE (evs) p day) = (if ((decide ((if ((decide ((recE (evs)) = (0))) && (!(decide (0 ≤ day ∧ day ≤ 20000)))) = true then (2) else (recE (evs))) = (0))) && (!(hasS (platE (evs)) p))) = true then (6) else (if ((decide ((recE (evs)) = (0))) && (!(decide (0 ≤ day ∧ day ≤ 20000)))) = true then (2) else (recE (evs))))))) && (decide (((((reaT (evs) p day).map ci).length : Nat) : Int) = (0)))) && (decide ((tagT (evs) p day) = (0)))) && (decide (((((defT (evs) p day).map ci).length : Nat) : Int) = (0)))) by first | rfl | ((try rw [hb41R]) <;> (try rw [hb40R]) <;> (try rw [hb39R]) <;> (try rw [hb38R]) <;> (try rw [hb37R]) <;> (first | rfl | (simp only [Bool.and_true, Bool.and_false, Bool.true_and, Bool.false_and, Bool.or_true, Bool.or_false, Bool.true_or, Bool.false_or, Bool.not_true, Bool.not_false, if_true, if_false, Bool.false_eq_true, reduceIte] <;> rfl))) | (simp only [hb37R, hb38R, hb39R, hb40R, hb41R, Bool.and_true, Bool.and_false, Bool.true_and, Bool.false_and, Bool.or_true, Bool.or_false, Bool.true_or, Bool.false_or, Bool.not_true, Bool.not_false, if_true, if_false, Bool.false_eq_true, reduceIte] <;> rfl))), trivial⟩)
                          · have hb41R := hb41; (try simp only [z1, z2, z3, z4, z5, z6, ne_eq, z7, z8, z9, z10, z11, z12] at hb41); (try (have hlen405 := short_len hb41.1)); (try (have hz := ask_z hb41R))
                            refine g_skip rfl rfl rfl ?_
                            refine g_skip rfl rfl rfl ?_
                            refine g_skip rfl rfl rfl ?_
                            refine g_step rfl rfl rfl rfl (e_pickF (v := .sc _) rfl rfl) trivial ?_
                            refine g_step rfl rfl rfl rfl (e_assign (v := .sc _) rfl) trivial ?_
                            refine g_end (ds := [73, 74, 75, 78, 79, 80, 83, 84, 85, 88, 89, 92, 93, 94]) rfl rfl (hK36 _ ?_); clear hK36 K36
                            exact seq_norm (hK34 _ trivial ⟨(congrArg PV.bool (show (false : Bool) = ((((((decide ((askE (evs) p day) = (if ((decide ((if ((decide ((recE (evs)) = (0))) && (!(decide (0 ≤ day ∧ day ≤ 20000)))) = true then (2) else (recE (evs))) = (0))) && (!(hasS (platE (evs)) p))) = true then (6) else (if ((decide ((recE (evs)) = (0))) && (!(decide (0 ≤ day ∧ day ≤ 20000)))) = true then (2) else (recE (evs)))))) && (decide ((askE (evs) p day) = (if ((decide ((if ((decide ((recE (evs)) = (0))) && (!(decide (0 ≤ day ∧ day ≤ 20000)))) = true then (2) else (recE (evs))) = (0))) && (!(hasS (platE (evs)) p))) = true then (6) else (if ((decide ((recE (evs)) = (0))) && (!(decide (0 ≤ day ∧ day ≤ 20000)))) = true then (2) else (recE (evs))))))) && (decide ((askE (evs) p day) = (if ((decide ((if ((decide ((recE (evs)) = (0))) && (!(decide (0 ≤ day ∧ day ≤ 20000)))) = true then (2) else (recE (evs))) = (0))) && (!(hasS (platE (evs)) p))) = true then (6) else (if ((decide ((recE (evs)) = (0))) && (!(decide (0 ≤ day ∧ day ≤ 20000)))) = true then (2) else (recE (evs))))))) && (decide (((((reaT (evs) p day).map ci).length : Nat) : Int) = (0)))) && (decide ((tagT (evs) p day) = (0)))) && (decide (((((defT (evs) p day).map ci).length : Nat) : Int) = (0)))) by first | rfl | ((try rw [hb41R]) <;> (try rw [hb40R]) <;> (try rw [hb39R]) <;> (try rw [hb38R]) <;> (try rw [hb37R]) <;> (first | rfl | (simp only [Bool.and_true, Bool.and_false, Bool.true_and, Bool.false_and, Bool.or_true, Bool.or_false, Bool.true_or, Bool.false_or, Bool.not_true, Bool.not_false, if_true, if_false, Bool.false_eq_true, reduceIte] <;> rfl))) | (simp only [hb37R, hb38R, hb39R, hb40R, hb41R, Bool.and_true, Bool.and_false, Bool.true_and, Bool.false_and, Bool.or_true, Bool.or_false, Bool.true_or, Bool.false_or, Bool.not_true, Bool.not_false, if_true, if_false, Bool.false_eq_true, reduceIte] <;> rfl))), trivial⟩)
                        · have hb40R := hb40; (try simp only [z1, z2, z3, z4, z5, z6, ne_eq, z7, z8, z9, z10, z11, z12] at hb40); (try (have hlen405 := short_len hb40.1)); (try (have hz := ask_z hb40R))
                          refine g_skip rfl rfl rfl ?_
                          refine g_skip rfl rfl rfl ?_
                          refine g_step rfl rfl rfl rfl (e_pickF (v := .sc _) rfl rfl) trivial ?_
                          refine g_step rfl rfl rfl rfl (e_move (v := .sc _) rfl) trivial ?_
                          refine g_skip rfl rfl rfl ?_
                          refine g_skip rfl rfl rfl ?_
                          refine g_skip rfl rfl rfl ?_
                          refine g_step rfl rfl rfl rfl (e_pickF (v := .sc _) rfl rfl) trivial ?_
                          refine g_step rfl rfl rfl rfl (e_assign (v := .sc _) rfl) trivial ?_
                          refine g_end (ds := [73, 74, 75, 78, 79, 80, 83, 84, 85, 88, 89, 92, 93, 94]) rfl rfl (hK36 _ ?_); clear hK36 K36
                          exact seq_norm (hK34 _ trivial ⟨(congrArg PV.bool (show (false : Bool) = ((((((decide ((askE (evs) p day) = (if ((decide ((if ((decide ((recE (evs)) = (0))) && (!(decide (0 ≤ day ∧ day ≤ 20000)))) = true then (2) else (recE (evs))) = (0))) && (!(hasS (platE (evs)) p))) = true then (6) else (if ((decide ((recE (evs)) = (0))) && (!(decide (0 ≤ day ∧ day ≤ 20000)))) = true then (2) else (recE (evs)))))) && (decide ((askE (evs) p day) = (if ((decide ((if ((decide ((recE (evs)) = (0))) && (!(decide (0 ≤ day ∧ day ≤ 20000)))) = true then (2) else (recE (evs))) = (0))) && (!(hasS (platE (evs)) p))) = true then (6) else (if ((decide ((recE (evs)) = (0))) && (!(decide (0 ≤ day ∧ day ≤ 20000)))) = true then (2) else (recE (evs))))))) && (decide ((askE (evs) p day) = (if ((decide ((if ((decide ((recE (evs)) = (0))) && (!(decide (0 ≤ day ∧ day ≤ 20000)))) = true then (2) else (recE (evs))) = (0))) && (!(hasS (platE (evs)) p))) = true then (6) else (if ((decide ((recE (evs)) = (0))) && (!(decide (0 ≤ day ∧ day ≤ 20000)))) = true then (2) else (recE (evs))))))) && (decide (((((reaT (evs) p day).map ci).length : Nat) : Int) = (0)))) && (decide ((tagT (evs) p day) = (0)))) && (decide (((((defT (evs) p day).map ci).length : Nat) : Int) = (0)))) by first | rfl | ((try rw [hb40R]) <;> (try rw [hb39R]) <;> (try rw [hb38R]) <;> (try rw [hb37R]) <;> (first | rfl | (simp only [Bool.and_true, Bool.and_false, Bool.true_and, Bool.false_and, Bool.or_true, Bool.or_false, Bool.true_or, Bool.false_or, Bool.not_true, Bool.not_false, if_true, if_false, Bool.false_eq_true, reduceIte] <;> rfl))) | (simp only [hb37R, hb38R, hb39R, hb40R, Bool.and_true, Bool.and_false, Bool.true_and, Bool.false_and, Bool.or_true, Bool.or_false, Bool.true_or, Bool.false_or, Bool.not_true, Bool.not_false, if_true, if_false, Bool.false_eq_true, reduceIte] <;> rfl))), trivial⟩)
                      · have hb39R := hb39; (try simp only [z1, z2, z3, z4, z5, z6, ne_eq, z7, z8, z9, z10, z11, z12] at hb39); (try (have hlen405 := short_len hb39.1)); (try (have hz := ask_z hb39R))
                        refine g_skip rfl rfl rfl ?_
                        refine g_skip rfl rfl rfl ?_
                        refine g_skip rfl rfl rfl ?_
                        refine g_step rfl rfl rfl rfl (e_pickF (v := .sc _) rfl rfl) trivial ?_
                        refine g_step rfl rfl rfl rfl (e_move (v := .sc _) rfl) trivial ?_
                        refine g_skip rfl rfl rfl ?_
                        refine g_skip rfl rfl rfl ?_
                        refine g_step rfl rfl rfl rfl (e_pickF (v := .sc _) rfl rfl) trivial ?_
                        refine g_step rfl rfl rfl rfl (e_move (v := .sc _) rfl) trivial ?_
                        refine g_skip rfl rfl rfl ?_
                        refine g_skip rfl rfl rfl ?_
                        refine g_skip rfl rfl rfl ?_
                        refine g_step rfl rfl rfl rfl (e_pickF (v := .sc _) rfl rfl) trivial ?_
                        refine g_step rfl rfl rfl rfl (e_assign (v := .sc _) rfl) trivial ?_
                        refine g_end (ds := [73, 74, 75, 78, 79, 80, 83, 84, 85, 88, 89, 92, 93, 94]) rfl rfl (hK36 _ ?_); clear hK36 K36
                        exact seq_norm (hK34 _ trivial ⟨(congrArg PV.bool (show (false : Bool) = ((((((decide ((askE (evs) p day) = (if ((decide ((if ((decide ((recE (evs)) = (0))) && (!(decide (0 ≤ day ∧ day ≤ 20000)))) = true then (2) else (recE (evs))) = (0))) && (!(hasS (platE (evs)) p))) = true then (6) else (if ((decide ((recE (evs)) = (0))) && (!(decide (0 ≤ day ∧ day ≤ 20000)))) = true then (2) else (recE (evs)))))) && (decide ((askE (evs) p day) = (if ((decide ((if ((decide ((recE (evs)) = (0))) && (!(decide (0 ≤ day ∧ day ≤ 20000)))) = true then (2) else (recE (evs))) = (0))) && (!(hasS (platE (evs)) p))) = true then (6) else (if ((decide ((recE (evs)) = (0))) && (!(decide (0 ≤ day ∧ day ≤ 20000)))) = true then (2) else (recE (evs))))))) && (decide ((askE (evs) p day) = (if ((decide ((if ((decide ((recE (evs)) = (0))) && (!(decide (0 ≤ day ∧ day ≤ 20000)))) = true then (2) else (recE (evs))) = (0))) && (!(hasS (platE (evs)) p))) = true then (6) else (if ((decide ((recE (evs)) = (0))) && (!(decide (0 ≤ day ∧ day ≤ 20000)))) = true then (2) else (recE (evs))))))) && (decide (((((reaT (evs) p day).map ci).length : Nat) : Int) = (0)))) && (decide ((tagT (evs) p day) = (0)))) && (decide (((((defT (evs) p day).map ci).length : Nat) : Int) = (0)))) by first | rfl | ((try rw [hb39R]) <;> (try rw [hb38R]) <;> (try rw [hb37R]) <;> (first | rfl | (simp only [Bool.and_true, Bool.and_false, Bool.true_and, Bool.false_and, Bool.or_true, Bool.or_false, Bool.true_or, Bool.false_or, Bool.not_true, Bool.not_false, if_true, if_false, Bool.false_eq_true, reduceIte] <;> rfl))) | (simp only [hb37R, hb38R, hb39R, Bool.and_true, Bool.and_false, Bool.true_and, Bool.false_and, Bool.or_true, Bool.or_false, Bool.true_or, Bool.false_or, Bool.not_true, Bool.not_false, if_true, if_false, Bool.false_eq_true, reduceIte] <;> rfl))), trivial⟩)
                    · have hb38R := hb38; (try simp only [z1, z2, z3, z4, z5, z6, ne_eq, z7, z8, z9, z10, z11, z12] at hb38); (try (have hlen405 := short_len hb38.1)); (try (have hz := ask_z hb38R))
                      refine g_skip rfl rfl rfl ?_
                      refine g_skip rfl rfl rfl ?_
                      refine g_skip rfl rfl rfl ?_
                      refine g_step rfl rfl rfl rfl (e_pickF (v := .sc _) rfl rfl) trivial ?_
                      refine g_step rfl rfl rfl rfl (e_move (v := .sc _) rfl) trivial ?_
                      refine g_skip rfl rfl rfl ?_
                      refine g_skip rfl rfl rfl ?_
                      refine g_skip rfl rfl rfl ?_
                      refine g_step rfl rfl rfl rfl (e_pickF (v := .sc _) rfl rfl) trivial ?_
                      refine g_step rfl rfl rfl rfl (e_move (v := .sc _) rfl) trivial ?_
                      refine g_skip rfl rfl rfl ?_
                      refine g_skip rfl rfl rfl ?_
                      refine g_step rfl rfl rfl rfl (e_pickF (v := .sc _) rfl rfl) trivial ?_
                      refine g_step rfl rfl rfl rfl (e_move (v := .sc _) rfl) trivial ?_
                      refine g_skip rfl rfl rfl ?_
                      refine g_skip rfl rfl rfl ?_
                      refine g_skip rfl rfl rfl ?_
                      refine g_step rfl rfl rfl rfl (e_pickF (v := .sc _) rfl rfl) trivial ?_
                      refine g_step rfl rfl rfl rfl (e_assign (v := .sc _) rfl) trivial ?_
                      refine g_end (ds := [73, 74, 75, 78, 79, 80, 83, 84, 85, 88, 89, 92, 93, 94]) rfl rfl (hK36 _ ?_); clear hK36 K36
                      exact seq_norm (hK34 _ trivial ⟨(congrArg PV.bool (show (false : Bool) = ((((((decide ((askE (evs) p day) = (if ((decide ((if ((decide ((recE (evs)) = (0))) && (!(decide (0 ≤ day ∧ day ≤ 20000)))) = true then (2) else (recE (evs))) = (0))) && (!(hasS (platE (evs)) p))) = true then (6) else (if ((decide ((recE (evs)) = (0))) && (!(decide (0 ≤ day ∧ day ≤ 20000)))) = true then (2) else (recE (evs)))))) && (decide ((askE (evs) p day) = (if ((decide ((if ((decide ((recE (evs)) = (0))) && (!(decide (0 ≤ day ∧ day ≤ 20000)))) = true then (2) else (recE (evs))) = (0))) && (!(hasS (platE (evs)) p))) = true then (6) else (if ((decide ((recE (evs)) = (0))) && (!(decide (0 ≤ day ∧ day ≤ 20000)))) = true then (2) else (recE (evs))))))) && (decide ((askE (evs) p day) = (if ((decide ((if ((decide ((recE (evs)) = (0))) && (!(decide (0 ≤ day ∧ day ≤ 20000)))) = true then (2) else (recE (evs))) = (0))) && (!(hasS (platE (evs)) p))) = true then (6) else (if ((decide ((recE (evs)) = (0))) && (!(decide (0 ≤ day ∧ day ≤ 20000)))) = true then (2) else (recE (evs))))))) && (decide (((((reaT (evs) p day).map ci).length : Nat) : Int) = (0)))) && (decide ((tagT (evs) p day) = (0)))) && (decide (((((defT (evs) p day).map ci).length : Nat) : Int) = (0)))) by first | rfl | ((try rw [hb38R]) <;> (try rw [hb37R]) <;> (first | rfl | (simp only [Bool.and_true, Bool.and_false, Bool.true_and, Bool.false_and, Bool.or_true, Bool.or_false, Bool.true_or, Bool.false_or, Bool.not_true, Bool.not_false, if_true, if_false, Bool.false_eq_true, reduceIte] <;> rfl))) | (simp only [hb37R, hb38R, Bool.and_true, Bool.and_false, Bool.true_and, Bool.false_and, Bool.or_true, Bool.or_false, Bool.true_or, Bool.false_or, Bool.not_true, Bool.not_false, if_true, if_false, Bool.false_eq_true, reduceIte] <;> rfl))), trivial⟩)
                  · have hb37R := hb37; (try simp only [z1, z2, z3, z4, z5, z6, ne_eq, z7, z8, z9, z10, z11, z12] at hb37); (try (have hlen405 := short_len hb37.1)); (try (have hz := ask_z hb37R))
                    refine g_skip rfl rfl rfl ?_
                    refine g_skip rfl rfl rfl ?_
                    refine g_skip rfl rfl rfl ?_
                    refine g_step rfl rfl rfl rfl (e_pickF (v := .sc _) rfl rfl) trivial ?_
                    refine g_step rfl rfl rfl rfl (e_move (v := .sc _) rfl) trivial ?_
                    refine g_skip rfl rfl rfl ?_
                    refine g_skip rfl rfl rfl ?_
                    refine g_skip rfl rfl rfl ?_
                    refine g_step rfl rfl rfl rfl (e_pickF (v := .sc _) rfl rfl) trivial ?_
                    refine g_step rfl rfl rfl rfl (e_move (v := .sc _) rfl) trivial ?_
                    refine g_skip rfl rfl rfl ?_
                    refine g_skip rfl rfl rfl ?_
                    refine g_skip rfl rfl rfl ?_
                    refine g_step rfl rfl rfl rfl (e_pickF (v := .sc _) rfl rfl) trivial ?_
                    refine g_step rfl rfl rfl rfl (e_move (v := .sc _) rfl) trivial ?_
                    refine g_skip rfl rfl rfl ?_
                    refine g_skip rfl rfl rfl ?_
                    refine g_step rfl rfl rfl rfl (e_pickF (v := .sc _) rfl rfl) trivial ?_
                    refine g_step rfl rfl rfl rfl (e_move (v := .sc _) rfl) trivial ?_
                    refine g_skip rfl rfl rfl ?_
                    refine g_skip rfl rfl rfl ?_
                    refine g_skip rfl rfl rfl ?_
                    refine g_step rfl rfl rfl rfl (e_pickF (v := .sc _) rfl rfl) trivial ?_
                    refine g_step rfl rfl rfl rfl (e_assign (v := .sc _) rfl) trivial ?_
                    refine g_end (ds := [73, 74, 75, 78, 79, 80, 83, 84, 85, 88, 89, 92, 93, 94]) rfl rfl (hK36 _ ?_); clear hK36 K36
                    exact seq_norm (hK34 _ trivial ⟨(congrArg PV.bool (show (false : Bool) = ((((((decide ((askE (evs) p day) = (if ((decide ((if ((decide ((recE (evs)) = (0))) && (!(decide (0 ≤ day ∧ day ≤ 20000)))) = true then (2) else (recE (evs))) = (0))) && (!(hasS (platE (evs)) p))) = true then (6) else (if ((decide ((recE (evs)) = (0))) && (!(decide (0 ≤ day ∧ day ≤ 20000)))) = true then (2) else (recE (evs)))))) && (decide ((askE (evs) p day) = (if ((decide ((if ((decide ((recE (evs)) = (0))) && (!(decide (0 ≤ day ∧ day ≤ 20000)))) = true then (2) else (recE (evs))) = (0))) && (!(hasS (platE (evs)) p))) = true then (6) else (if ((decide ((recE (evs)) = (0))) && (!(decide (0 ≤ day ∧ day ≤ 20000)))) = true then (2) else (recE (evs))))))) && (decide ((askE (evs) p day) = (if ((decide ((if ((decide ((recE (evs)) = (0))) && (!(decide (0 ≤ day ∧ day ≤ 20000)))) = true then (2) else (recE (evs))) = (0))) && (!(hasS (platE (evs)) p))) = true then (6) else (if ((decide ((recE (evs)) = (0))) && (!(decide (0 ≤ day ∧ day ≤ 20000)))) = true then (2) else (recE (evs))))))) && (decide (((((reaT (evs) p day).map ci).length : Nat) : Int) = (0)))) && (decide ((tagT (evs) p day) = (0)))) && (decide (((((defT (evs) p day).map ci).length : Nat) : Int) = (0)))) by first | rfl | ((try rw [hb37R]) <;> (first | rfl | (simp only [Bool.and_true, Bool.and_false, Bool.true_and, Bool.false_and, Bool.or_true, Bool.or_false, Bool.true_or, Bool.false_or, Bool.not_true, Bool.not_false, if_true, if_false, Bool.false_eq_true, reduceIte] <;> rfl))) | (simp only [hb37R, Bool.and_true, Bool.and_false, Bool.true_and, Bool.false_and, Bool.or_true, Bool.or_false, Bool.true_or, Bool.false_or, Bool.not_true, Bool.not_false, if_true, if_false, Bool.false_eq_true, reduceIte] <;> rfl))), trivial⟩)
                · skip
                  refine pwp_ret ?_
                  refine ret_seq ?_
                  refine end1 (v := .sc _) rfl ?_
                  first
                    | exact out_b rfl
                    | exact out_b (tags_bad (by assumption) rfl)
                    | exact out_b (tags_good hz rfl)
              · have hb33R := hb33; (try simp only [z1, z2, z3, z4, z5, z6, ne_eq, z7, z8, z9, z10, z11, z12] at hb33); (try (have hlen405 := short_len hb33.1)); (try (have hz := ask_z hb33R))
                refine pwp_skip ?_
                refine seq_norm (hK32 _ ?_); clear hK32 K32
                refine pwp_seq_plain rfl fun K42 hK42 => ?_
                refine p_step rfl (e_move (v := .lit _ _ _) rfl) trivial ?_
                refine p_step rfl (e_move (v := .sc _) rfl) trivial ?_
                refine p_step rfl (e_move (v := .sc _) rfl) trivial ?_
                refine p_call rfl (.cons inn_lit (.cons inn_sc (.cons inn_sc .nil))) (ReasonsR _ _ _ hlen405 (ask_evs hz) (ask_day hz)) ?_
                refine p_step rfl (e_assign (v := .lit _ _ _) rfl) trivial ?_
                refine p_end (hK42 _ ?_); clear hK42 K42
                refine pwp_seq_cutG [] [(6, .bool ((((((decide ((askE (evs) p day) = (0))) && (decide ((askE (evs) p day) = (0)))) && (decide ((askE (evs) p day) = (0)))) && (decide ((reaT (evs) p day) = (reaR p day (uptoE (evs) day))))) && (decide ((tagT (evs) p day) = (tagR (reaR p day (uptoE (evs) day)))))) && (decide ((defT (evs) p day) = (defR p (uptoE (evs) day))))))] (fun K43 hK43 => ?_) (fun r44 => ?_)
                · skip
                  refine pwp_gops rfl fun K45 hK45 => ?_
                  refine g_begin ?_
                  refine g_step rfl rfl rfl rfl (e_move (v := .sc _) rfl) trivial ?_
                  refine g_step rfl rfl rfl rfl (e_eq rfl rfl) trivial ?_
                  refine g_step rfl rfl rfl rfl (e_move (v := .sc _) rfl) trivial ?_
                  refine g_cases (fun hb46 => ?_) (fun hb46 => ?_)
                  · have hb46R := hb46; (try simp only [z1, z2, z3, z4, z5, z6, ne_eq, z7, z8, z9, z10, z11, z12] at hb46); (try (have hlen405 := short_len hb46.1)); (try (have hz := ask_z hb46R))
                    refine g_step rfl rfl rfl rfl (e_move (v := .sc _) rfl) trivial ?_
                    refine g_step rfl rfl rfl rfl (e_eq rfl rfl) trivial ?_
                    refine g_step rfl rfl rfl rfl (e_pickT (v := .sc _) rfl rfl) trivial ?_
                    refine g_step rfl rfl rfl rfl (e_move (v := .sc _) rfl) trivial ?_
                    refine g_cases (fun hb47 => ?_) (fun hb47 => ?_)
                    · have hb47R := hb47; (try simp only [z1, z2, z3, z4, z5, z6, ne_eq, z7, z8, z9, z10, z11, z12] at hb47); (try (have hlen405 := short_len hb47.1)); (try (have hz := ask_z hb47R))
                      refine g_step rfl rfl rfl rfl (e_move (v := .sc _) rfl) trivial ?_
                      refine g_step rfl rfl rfl rfl (e_eq rfl rfl) trivial ?_
                      refine g_step rfl rfl rfl rfl (e_pickT (v := .sc _) rfl rfl) trivial ?_
                      refine g_step rfl rfl rfl rfl (e_move (v := .sc _) rfl) trivial ?_
                      refine g_cases (fun hb48 => ?_) (fun hb48 => ?_)
                      · have hb48R := hb48; (try simp only [z1, z2, z3, z4, z5, z6, ne_eq, z7, z8, z9, z10, z11, z12] at hb48); (try (have hlen405 := short_len hb48.1)); (try (have hz := ask_z hb48R))
                        refine g_step rfl rfl rfl rfl (e_move (v := .lit _ _ _) rfl) trivial ?_
                        refine g_step rfl rfl rfl rfl (e_move (v := .lit _ _ _) rfl) trivial ?_
                        refine g_call rfl rfl rfl rfl (.cons inn_lit (.cons inn_lit .nil)) (Ints _ _ (by first | exact reaT_len _ _ _ | exact defT_len hz)) ?_
                        refine g_step rfl rfl rfl rfl (e_pickT (v := .sc _) rfl rfl) trivial ?_
                        refine g_step rfl rfl rfl rfl (e_move (v := .sc _) rfl) trivial ?_
                        refine g_cases (fun hb49 => ?_) (fun hb49 => ?_)
                        · have hb49R := hb49; (try simp only [z1, z2, z3, z4, z5, z6, ne_eq, z7, z8, z9, z10, z11, z12] at hb49); (try (have hlen405 := short_len hb49.1)); (try (have hz := ask_z hb49R))
                          refine g_step rfl rfl rfl rfl (e_move (v := .sc _) rfl) trivial ?_
                          refine g_step rfl rfl rfl rfl (e_move (v := .lit _ _ _) rfl) trivial ?_
                          refine g_call rfl rfl rfl rfl (.cons inn_lit .nil) (TagR _) ?_
                          refine g_step rfl rfl rfl rfl (e_eq rfl rfl) trivial ?_
                          refine g_step rfl rfl rfl rfl (e_pickT (v := .sc _) rfl rfl) trivial ?_
                          refine g_step rfl rfl rfl rfl (e_move (v := .sc _) rfl) trivial ?_
                          refine g_cases (fun hb50 => ?_) (fun hb50 => ?_)
                          · have hb50R := hb50; (try simp only [z1, z2, z3, z4, z5, z6, ne_eq, z7, z8, z9, z10, z11, z12] at hb50); (try (have hlen405 := short_len hb50.1)); (try (have hz := ask_z hb50R))
                            refine g_step rfl rfl rfl rfl (e_move (v := .lit _ _ _) rfl) trivial ?_
                            refine g_step rfl rfl rfl rfl (e_move (v := .lit _ _ _) rfl) trivial ?_
                            refine g_step rfl rfl rfl rfl (e_move (v := .sc _) rfl) trivial ?_
                            refine g_step rfl rfl rfl rfl (e_move (v := .sc _) rfl) trivial ?_
                            refine g_call rfl rfl rfl rfl (.cons inn_lit (.cons inn_sc (.cons inn_sc .nil))) (DefectsR _ _ _ hlen405) ?_
                            refine g_call rfl rfl rfl rfl (.cons inn_lit (.cons inn_lit .nil)) (Ints _ _ (by first | exact reaT_len _ _ _ | exact defT_len hz)) ?_
                            refine g_step rfl rfl rfl rfl (e_pickT (v := .sc _) rfl rfl) trivial ?_
                            refine g_step rfl rfl rfl rfl (e_assign (v := .sc _) rfl) trivial ?_
                            refine g_end (ds := [103, 104, 107, 108, 111, 112, 113, 116, 117, 118, 119, 122, 123, 124, 125, 126, 127]) rfl rfl (hK45 _ ?_); clear hK45 K45
                            exact seq_norm (hK43 _ trivial ⟨(congrArg PV.bool (show ((decide ((defT (evs) p day) = (defR p (uptoE (evs) day)))) : Bool) = ((((((decide ((askE (evs) p day) = (0))) && (decide ((askE (evs) p day) = (0)))) && (decide ((askE (evs) p day) = (0)))) && (decide ((reaT (evs) p day) = (reaR p day (uptoE (evs) day))))) && (decide ((tagT (evs) p day) = (tagR (reaR p day (uptoE (evs) day)))))) && (decide ((defT (evs) p day) = (defR p (uptoE (evs) day))))) by first | rfl | ((try rw [hb50R]) <;> (try rw [hb49R]) <;> (try rw [hb48R]) <;> (try rw [hb47R]) <;> (try rw [hb46R]) <;> (first | rfl | (simp only [Bool.and_true, Bool.and_false, Bool.true_and, Bool.false_and, Bool.or_true, Bool.or_false, Bool.true_or, Bool.false_or, Bool.not_true, Bool.not_false, if_true, if_false, Bool.false_eq_true, reduceIte] <;> rfl))) | (simp only [hb46R, hb47R, hb48R, hb49R, hb50R, Bool.and_true, Bool.and_false, Bool.true_and, Bool.false_and, Bool.or_true, Bool.or_false, Bool.true_or, Bool.false_or, Bool.not_true, Bool.not_false, if_true, if_false, Bool.false_eq_true, reduceIte] <;> rfl))), trivial⟩)
                          · have hb50R := hb50; (try simp only [z1, z2, z3, z4, z5, z6, ne_eq, z7, z8, z9, z10, z11, z12] at hb50); (try (have hlen405 := short_len hb50.1)); (try (have hz := ask_z hb50R))
                            refine g_skip rfl rfl rfl ?_
                            refine g_skip rfl rfl rfl ?_
                            refine g_skip rfl rfl rfl ?_
                            refine g_skip rfl rfl rfl ?_
                            refine g_nocall rfl rfl rfl ?_
                            refine g_nocall rfl rfl rfl ?_
                            refine g_step rfl rfl rfl rfl (e_pickF (v := .sc _) rfl rfl) trivial ?_
                            refine g_step rfl rfl rfl rfl (e_assign (v := .sc _) rfl) trivial ?_
                            refine g_end (ds := [103, 104, 107, 108, 111, 112, 113, 116, 117, 118, 119, 122, 123, 124, 125, 126, 127]) rfl rfl (hK45 _ ?_); clear hK45 K45
                            exact seq_norm (hK43 _ trivial ⟨(congrArg PV.bool (show (false : Bool) = ((((((decide ((askE (evs) p day) = (0))) && (decide ((askE (evs) p day) = (0)))) && (decide ((askE (evs) p day) = (0)))) && (decide ((reaT (evs) p day) = (reaR p day (uptoE (evs) day))))) && (decide ((tagT (evs) p day) = (tagR (reaR p day (uptoE (evs) day)))))) && (decide ((defT (evs) p day) = (defR p (uptoE (evs) day))))) by first | rfl | ((try rw [hb50R]) <;> (try rw [hb49R]) <;> (try rw [hb48R]) <;> (try rw [hb47R]) <;> (try rw [hb46R]) <;> (first | rfl | (simp only [Bool.and_true, Bool.and_false, Bool.true_and, Bool.false_and, Bool.or_true, Bool.or_false, Bool.true_or, Bool.false_or, Bool.not_true, Bool.not_false, if_true, if_false, Bool.false_eq_true, reduceIte] <;> rfl))) | (simp only [hb46R, hb47R, hb48R, hb49R, hb50R, Bool.and_true, Bool.and_false, Bool.true_and, Bool.false_and, Bool.or_true, Bool.or_false, Bool.true_or, Bool.false_or, Bool.not_true, Bool.not_false, if_true, if_false, Bool.false_eq_true, reduceIte] <;> rfl))), trivial⟩)
                        · have hb49R := hb49; (try simp only [z1, z2, z3, z4, z5, z6, ne_eq, z7, z8, z9, z10, z11, z12] at hb49); (try (have hlen405 := short_len hb49.1)); (try (have hz := ask_z hb49R))
                          refine g_skip rfl rfl rfl ?_
                          refine g_skip rfl rfl rfl ?_
                          refine g_nocall rfl rfl rfl ?_
                          refine g_skip rfl rfl rfl ?_
                          refine g_step rfl rfl rfl rfl (e_pickF (v := .sc _) rfl rfl) trivial ?_
                          refine g_step rfl rfl rfl rfl (e_move (v := .sc _) rfl) trivial ?_
                          refine g_skip rfl rfl rfl ?_
                          refine g_skip rfl rfl rfl ?_
                          refine g_skip rfl rfl rfl ?_
                          refine g_skip rfl rfl rfl ?_
                          refine g_nocall rfl rfl rfl ?_
                          refine g_nocall rfl rfl rfl ?_
                          refine g_step rfl rfl rfl rfl (e_pickF (v := .sc _) rfl rfl) trivial ?_
                          refine g_step rfl rfl rfl rfl (e_assign (v := .sc _) rfl) trivial ?_
                          refine g_end (ds := [103, 104, 107, 108, 111, 112, 113, 116, 117, 118, 119, 122, 123, 124, 125, 126, 127]) rfl rfl (hK45 _ ?_); clear hK45 K45
                          exact seq_norm (hK43 _ trivial ⟨(congrArg PV.bool (show (false : Bool) = ((((((decide ((askE (evs) p day) = (0))) && (decide ((askE (evs) p day) = (0)))) && (decide ((askE (evs) p day) = (0)))) && (decide ((reaT (evs) p day) = (reaR p day (uptoE (evs) day))))) && (decide ((tagT (evs) p day) = (tagR (reaR p day (uptoE (evs) day)))))) && (decide ((defT (evs) p day) = (defR p (uptoE (evs) day))))) by first | rfl | ((try rw [hb49R]) <;> (try rw [hb48R]) <;> (try rw [hb47R]) <;> (try rw [hb46R]) <;> (first | rfl | (simp only [Bool.and_true, Bool.and_false, Bool.true_and, Bool.false_and, Bool.or_true, Bool.or_false, Bool.true_or, Bool.false_or, Bool.not_true, Bool.not_false, if_true, if_false, Bool.false_eq_true, reduceIte] <;> rfl))) | (simp only [hb46R, hb47R, hb48R, hb49R, Bool.and_true, Bool.and_false, Bool.true_and, Bool.false_and, Bool.or_true, Bool.or_false, Bool.true_or, Bool.false_or, Bool.not_true, Bool.not_false, if_true, if_false, Bool.false_eq_true, reduceIte] <;> rfl))), trivial⟩)
                      · have hb48R := hb48; (try simp only [z1, z2, z3, z4, z5, z6, ne_eq, z7, z8, z9, z10, z11, z12] at hb48); (try (have hlen405 := short_len hb48.1)); (try (have hz := ask_z hb48R))
                        refine g_skip rfl rfl rfl ?_
                        refine g_skip rfl rfl rfl ?_
                        refine g_nocall rfl rfl rfl ?_
                        refine g_step rfl rfl rfl rfl (e_pickF (v := .sc _) rfl rfl) trivial ?_
                        refine g_step rfl rfl rfl rfl (e_move (v := .sc _) rfl) trivial ?_
                        refine g_skip rfl rfl rfl ?_
                        refine g_skip rfl rfl rfl ?_
                        refine g_nocall rfl rfl rfl ?_
                        refine g_skip rfl rfl rfl ?_
                        refine g_step rfl rfl rfl rfl (e_pickF (v := .sc _) rfl rfl) trivial ?_
                        refine g_step rfl rfl rfl rfl (e_move (v := .sc _) rfl) trivial ?_
                        refine g_skip rfl rfl rfl ?_
                        refine g_skip rfl rfl rfl ?_
                        refine g_skip rfl rfl rfl ?_
                        refine g_skip rfl rfl rfl ?_
                        refine g_nocall rfl rfl rfl ?_
                        refine g_nocall rfl rfl rfl ?_
                        refine g_step rfl rfl rfl rfl (e_pickF (v := .sc _) rfl rfl) trivial ?_
                        refine g_step rfl rfl rfl rfl (e_assign (v := .sc _) rfl) trivial ?_
                        refine g_end (ds := [103, 104, 107, 108, 111, 112, 113, 116, 117, 118, 119, 122, 123, 124, 125, 126, 127]) rfl rfl (hK45 _ ?_); clear hK45 K45
                        exact seq_norm (hK43 _ trivial ⟨(congrArg PV.bool (show (false : Bool) = ((((((decide ((askE (evs) p day) = (0))) && (decide ((askE (evs) p day) = (0)))) && (decide ((askE (evs) p day) = (0)))) && (decide ((reaT (evs) p day) = (reaR p day (uptoE (evs) day))))) && (decide ((tagT (evs) p day) = (tagR (reaR p day (uptoE (evs) day)))))) && (decide ((defT (evs) p day) = (defR p (uptoE (evs) day))))) by first | rfl | ((try rw [hb48R]) <;> (try rw [hb47R]) <;> (try rw [hb46R]) <;> (first | rfl | (simp only [Bool.and_true, Bool.and_false, Bool.true_and, Bool.false_and, Bool.or_true, Bool.or_false, Bool.true_or, Bool.false_or, Bool.not_true, Bool.not_false, if_true, if_false, Bool.false_eq_true, reduceIte] <;> rfl))) | (simp only [hb46R, hb47R, hb48R, Bool.and_true, Bool.and_false, Bool.true_and, Bool.false_and, Bool.or_true, Bool.or_false, Bool.true_or, Bool.false_or, Bool.not_true, Bool.not_false, if_true, if_false, Bool.false_eq_true, reduceIte] <;> rfl))), trivial⟩)
                    · have hb47R := hb47; (try simp only [z1, z2, z3, z4, z5, z6, ne_eq, z7, z8, z9, z10, z11, z12] at hb47); (try (have hlen405 := short_len hb47.1)); (try (have hz := ask_z hb47R))
                      refine g_skip rfl rfl rfl ?_
                      refine g_skip rfl rfl rfl ?_
                      refine g_step rfl rfl rfl rfl (e_pickF (v := .sc _) rfl rfl) trivial ?_
                      refine g_step rfl rfl rfl rfl (e_move (v := .sc _) rfl) trivial ?_
                      refine g_skip rfl rfl rfl ?_
                      refine g_skip rfl rfl rfl ?_
                      refine g_nocall rfl rfl rfl ?_
                      refine g_step rfl rfl rfl rfl (e_pickF (v := .sc _) rfl rfl) trivial ?_
                      refine g_step rfl rfl rfl rfl (e_move (v := .sc _) rfl) trivial ?_
                      refine g_skip rfl rfl rfl ?_
                      refine g_skip rfl rfl rfl ?_
                      refine g_nocall rfl rfl rfl ?_
                      refine g_skip rfl rfl rfl ?_
                      refine g_step rfl rfl rfl rfl (e_pickF (v := .sc _) rfl rfl) trivial ?_
                      refine g_step rfl rfl rfl rfl (e_move (v := .sc _) rfl) trivial ?_
                      refine g_skip rfl rfl rfl ?_
                      refine g_skip rfl rfl rfl ?_
                      refine g_skip rfl rfl rfl ?_
                      refine g_skip rfl rfl rfl ?_
                      refine g_nocall rfl rfl rfl ?_
                      refine g_nocall rfl rfl rfl ?_
                      refine g_step rfl rfl rfl rfl (e_pickF (v := .sc _) rfl rfl) trivial ?_
                      refine g_step rfl rfl rfl rfl (e_assign (v := .sc _) rfl) trivial ?_
                      refine g_end (ds := [103, 104, 107, 108, 111, 112, 113, 116, 117, 118, 119, 122, 123, 124, 125, 126, 127]) rfl rfl (hK45 _ ?_); clear hK45 K45
                      exact seq_norm (hK43 _ trivial ⟨(congrArg PV.bool (show (false : Bool) = ((((((decide ((askE (evs) p day) = (0))) && (decide ((askE (evs) p day) = (0)))) && (decide ((askE (evs) p day) = (0)))) && (decide ((reaT (evs) p day) = (reaR p day (uptoE (evs) day))))) && (decide ((tagT (evs) p day) = (tagR (reaR p day (uptoE (evs) day)))))) && (decide ((defT (evs) p day) = (defR p (uptoE (evs) day))))) by first | rfl | ((try rw [hb47R]) <;> (try rw [hb46R]) <;> (first | rfl | (simp only [Bool.and_true, Bool.and_false, Bool.true_and, Bool.false_and, Bool.or_true, Bool.or_false, Bool.true_or, Bool.false_or, Bool.not_true, Bool.not_false, if_true, if_false, Bool.false_eq_true, reduceIte] <;> rfl))) | (simp only [hb46R, hb47R, Bool.and_true, Bool.and_false, Bool.true_and, Bool.false_and, Bool.or_true, Bool.or_false, Bool.true_or, Bool.false_or, Bool.not_true, Bool.not_false, if_true, if_false, Bool.false_eq_true, reduceIte] <;> rfl))), trivial⟩)
                  · have hb46R := hb46; (try simp only [z1, z2, z3, z4, z5, z6, ne_eq, z7, z8, z9, z10, z11, z12] at hb46); (try (have hlen405 := short_len hb46.1)); (try (have hz := ask_z hb46R))
                    refine g_skip rfl rfl rfl ?_
                    refine g_skip rfl rfl rfl ?_
                    refine g_step rfl rfl rfl rfl (e_pickF (v := .sc _) rfl rfl) trivial ?_
                    refine g_step rfl rfl rfl rfl (e_move (v := .sc _) rfl) trivial ?_
                    refine g_skip rfl rfl rfl ?_
                    refine g_skip rfl rfl rfl ?_
                    refine g_step rfl rfl rfl rfl (e_pickF (v := .sc _) rfl rfl) trivial ?_
                    refine g_step rfl rfl rfl rfl (e_move (v := .sc _) rfl) trivial ?_
                    refine g_skip rfl rfl rfl ?_
                    refine g_skip rfl rfl rfl ?_
                    refine g_nocall rfl rfl rfl ?_
                    refine g_step rfl rfl rfl rfl (e_pickF (v := .sc _) rfl rfl) trivial ?_
                    refine g_step rfl rfl rfl rfl (e_move (v := .sc _) rfl) trivial ?_
                    refine g_skip rfl rfl rfl ?_
                    refine g_skip rfl rfl rfl ?_
                    refine g_nocall rfl rfl rfl ?_
                    refine g_skip rfl rfl rfl ?_
                    refine g_step rfl rfl rfl rfl (e_pickF (v := .sc _) rfl rfl) trivial ?_
                    refine g_step rfl rfl rfl rfl (e_move (v := .sc _) rfl) trivial ?_
                    refine g_skip rfl rfl rfl ?_
                    refine g_skip rfl rfl rfl ?_
                    refine g_skip rfl rfl rfl ?_
                    refine g_skip rfl rfl rfl ?_
                    refine g_nocall rfl rfl rfl ?_
                    refine g_nocall rfl rfl rfl ?_
                    refine g_step rfl rfl rfl rfl (e_pickF (v := .sc _) rfl rfl) trivial ?_
                    refine g_step rfl rfl rfl rfl (e_assign (v := .sc _) rfl) trivial ?_
                    refine g_end (ds := [103, 104, 107, 108, 111, 112, 113, 116, 117, 118, 119, 122, 123, 124, 125, 126, 127]) rfl rfl (hK45 _ ?_); clear hK45 K45
                    exact seq_norm (hK43 _ trivial ⟨(congrArg PV.bool (show (false : Bool) = ((((((decide ((askE (evs) p day) = (0))) && (decide ((askE (evs) p day) = (0)))) && (decide ((askE (evs) p day) = (0)))) && (decide ((reaT (evs) p day) = (reaR p day (uptoE (evs) day))))) && (decide ((tagT (evs) p day) = (tagR (reaR p day (uptoE (evs) day)))))) && (decide ((defT (evs) p day) = (defR p (uptoE (evs) day))))) by first | rfl | ((try rw [hb46R]) <;> (first | rfl | (simp only [Bool.and_true, Bool.and_false, Bool.true_and, Bool.false_and, Bool.or_true, Bool.or_false, Bool.true_or, Bool.false_or, Bool.not_true, Bool.not_false, if_true, if_false, Bool.false_eq_true, reduceIte] <;> rfl))) | (simp only [hb46R, Bool.and_true, Bool.and_false, Bool.true_and, Bool.false_and, Bool.or_true, Bool.or_false, Bool.true_or, Bool.false_or, Bool.not_true, Bool.not_false, if_true, if_false, Bool.false_eq_true, reduceIte] <;> rfl))), trivial⟩)
                · skip
                  refine pwp_ret ?_
                  refine end1 (v := .sc _) rfl ?_
                  first
                    | exact out_b rfl
                    | exact out_b (tags_bad (by assumption) rfl)
                    | exact out_b (tags_good hz rfl)

end Go.Proofs.Ytdbpfhbppcpbbaa
