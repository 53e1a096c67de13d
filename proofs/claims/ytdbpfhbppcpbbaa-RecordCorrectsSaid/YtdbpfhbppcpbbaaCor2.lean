/- RecordCorrects, as a contract on pure values. No conditions. -/
import Derived.Test.YtdbpfhbppcpbbaaCor1
set_option linter.unusedSimpArgs false
set_option linter.unusedVariables false
set_option maxRecDepth 100000
namespace Go.Proofs.Ytdbpfhbppcpbbaa
open Go Go.Pv

/-- What Correct answers. -/
def corE (evs : List Ev) (at' : Int) (e : Ev) : Int := if recE evs ≠ 0 then recE evs else if at' < 0 ∨ (evs.length : Int) ≤ at' then 6 else recE (evs.set at'.toNat e)
def corL (evs : List Ev) (at' : Int) (e : Ev) : List Ev := if corE evs at' e = 0 then evs.set at'.toNat e else []
theorem cor_1 {evs : List Ev} {i : Int} {e : Ev} (h : ¬ recE evs = 0) : corE evs i e = recE evs ∧ corL evs i e = [] := by
  have h1 : corE evs i e = recE evs := by rw [corE, if_pos h]
  exact ⟨h1, by rw [corL, h1, if_neg h]⟩
theorem cor_2 {evs : List Ev} {i : Int} {e : Ev} (h : recE evs = 0) (h2 : i < 0 ∨ (evs.length : Int) ≤ i) : corE evs i e = 6 ∧ corL evs i e = [] := by
  have h1 : corE evs i e = 6 := by rw [corE, if_neg (by simpa using h), if_pos h2]
  exact ⟨h1, by rw [corL, h1]; rfl⟩
theorem cor_3 {evs : List Ev} {i : Int} {e : Ev} (h : recE evs = 0) (h2 : ¬ (i < 0 ∨ (evs.length : Int) ≤ i)) : corE evs i e = recE (evs.set i.toNat e) ∧ corL evs i e = if recE (evs.set i.toNat e) = 0 then evs.set i.toNat e else [] := by
  have h1 : corE evs i e = recE (evs.set i.toNat e) := by rw [corE, if_neg (by simpa using h), if_neg h2]
  exact ⟨h1, by rw [corL, h1]⟩
theorem corL_len (evs : List Ev) (i : Int) (e : Ev) (hl : evs.length ≤ 405) : (corL evs i e).length ≤ 405 := by
  unfold corL; split <;> simp; exact hl
theorem ev_out {h : Heap} {d : Nat} {v : PV} {xs : List Ev} {rows : Go.Pv.Rows} (hs : SliceAt h d v 6 rows) (he : rows = xs.map Ev.enc) : Out h v (.lit false 6 (xs.map Ev.enc)) := out_slice hs he (fun _ => rfl) ev_clean
theorem tup_pure (xs : List Ev) (z : Int) : Pure (.tup [.lit false 6 (xs.map Ev.enc), .int z]) := pure_2 (ev_lit_pure _) pure_int
theorem cor_out1 {h : Heap} {evs : List Ev} {i z : Int} {e : Ev} (h1 : corE evs i e = z ∧ corL evs i e = []) : Out h (.tup [.nil, .int z]) (.tup [.lit false 6 ((corL evs i e).map Ev.enc), .int (corE evs i e)]) := by
  rw [h1.1, h1.2]; exact out_2 out_nil (out_i rfl)
theorem cor_out3 {h : Heap} {evs : List Ev} {i : Int} {e : Ev} {d : Nat} {u : PV} (h1 : corE evs i e = recE (evs.set i.toNat e) ∧ corL evs i e = if recE (evs.set i.toNat e) = 0 then evs.set i.toNat e else []) (hs : SliceAt h d u 6 ((evs.set i.toNat e).map Ev.enc)) :
    Out h (.tup [if recE (evs.set i.toNat e) = 0 then u else .nil, .int (recE (evs.set i.toNat e))]) (.tup [.lit false 6 ((corL evs i e).map Ev.enc), .int (corE evs i e)]) := by
  rw [h1.1, h1.2]
  by_cases h0 : recE (evs.set i.toNat e) = 0
  · rw [if_pos h0, if_pos h0]; exact out_2 (ev_out hs rfl) (out_i rfl)
  · rw [if_neg h0, if_neg h0]; exact out_2 out_nil (out_i rfl)

theorem fr56 : (inFrame Try.f56.ntmps (Try.f56.body.getD .skip) && Try.f56.results.toList.all (resScope Try.f56.ntmps)) = true := by kernel_rfl
theorem Correct (evs : List Ev) (i : Int) (e : Ev) (hl : evs.length ≤ 405) : PCalls Try.prog 56 [.lit true 6 (evs.map Ev.enc), .int i, .agg e.enc] (.tup [.lit false 6 ((corL evs i e).map Ev.enc), .int (corE evs i e)]) := by
  refine PCalls.of_code Try.func56 rfl rfl (by kernel_rfl) mixed fr56 (by show _ ≤ 33; simp) (tup_pure _ _) ?_
  refine pwp_seq_plain rfl fun K1 hK1 => ?_
  refine p_new rfl (e_box (n := 6) rfl rfl) ⟨rfl, by decide⟩ ?_
  refine p_step rfl (e_assign (v := .nil) rfl) trivial ?_
  refine p_step rfl (e_assign (v := .sc _) rfl) trivial ?_
  refine p_end (hK1 _ ?_); clear hK1 K1
  refine pwp_seq_seq ?_
  refine pwp_seq_plain rfl fun K2 hK2 => ?_
  refine p_step rfl (e_move (v := .lit _ _ _) rfl) trivial ?_
  refine p_call rfl (.cons inn_lit .nil) (CheckRecord _ (by first | omega | (simp only [List.length_set]; omega))) ?_
  refine p_step rfl (e_assign (v := .sc _) rfl) trivial ?_
  refine p_end (hK2 _ ?_); clear hK2 K2
  refine pwp_seq_seq ?_
  refine pwp_seq_plain rfl fun K3 hK3 => ?_
  refine p_step rfl (e_move (v := .sc _) rfl) trivial ?_
  refine p_step rfl (e_ne rfl rfl) trivial ?_
  refine p_end (hK3 _ ?_); clear hK3 K3
  refine pwp_seq_cond rfl fun K4 hK4 => ⟨fun hb5 => ?_, fun hb5 => ?_⟩
  · have hb5R := hb5; try simp only [decide_eq_true_eq, decide_eq_false_iff_not, Bool.not_eq_true', Bool.not_eq_false', Int.not_lt, Int.not_le, ne_eq, Decidable.not_not, List.length_map, Bool.or_eq_true, Bool.and_eq_true, Bool.or_eq_false_iff, Bool.and_eq_false_iff] at hb5
    refine pwp_seq_plain rfl fun K6 hK6 => ?_
    refine p_step rfl (e_move (v := .sc _) rfl) trivial ?_
    refine p_step rfl (e_assign (v := .nil) rfl) trivial ?_
    refine p_step rfl (e_assign (v := .sc _) rfl) trivial ?_
    refine p_end (hK6 _ ?_); clear hK6 K6
    refine pwp_ret ?_
    refine ret_seq ?_
    refine end2 (v := .nil) (w := .sc _) rfl rfl ?_
    first
      | exact cor_out1 (cor_1 (by assumption))
      | exact cor_out1 (cor_2 (by assumption) (by omega))
  · have hb5R := hb5; try simp only [decide_eq_true_eq, decide_eq_false_iff_not, Bool.not_eq_true', Bool.not_eq_false', Int.not_lt, Int.not_le, ne_eq, Decidable.not_not, List.length_map, Bool.or_eq_true, Bool.and_eq_true, Bool.or_eq_false_iff, Bool.and_eq_false_iff] at hb5
    refine pwp_skip ?_
    refine seq_norm (hK4 _ ?_); clear hK4 K4
    refine pwp_seq_seq ?_
    refine pwp_seq_cutG [0, 1, 5] [(22, .bool ((decide (i < (0))) || (decide (((((evs).map Ev.enc).length : Nat) : Int) ≤ i))))] (fun K7 hK7 => ?_) (fun r8 => ?_)
    · skip
      refine pwp_gops rfl fun K9 hK9 => ?_
      refine g_begin ?_
      refine g_step rfl rfl rfl rfl (e_move (v := .sc _) rfl) trivial ?_
      refine g_step rfl rfl rfl rfl (e_lt rfl rfl) trivial ?_
      refine g_step rfl rfl rfl rfl (e_move (v := .sc _) rfl) trivial ?_
      refine g_cases (fun hb10 => ?_) (fun hb10 => ?_)
      · have hb10R := hb10; try simp only [decide_eq_true_eq, decide_eq_false_iff_not, Bool.not_eq_true', Bool.not_eq_false', Int.not_lt, Int.not_le, ne_eq, Decidable.not_not, List.length_map, Bool.or_eq_true, Bool.and_eq_true, Bool.or_eq_false_iff, Bool.and_eq_false_iff] at hb10
        refine g_skip rfl rfl rfl ?_
        refine g_skip rfl rfl rfl ?_
        refine g_skip rfl rfl rfl ?_
        refine g_skip rfl rfl rfl ?_
        refine g_step rfl rfl rfl rfl (e_pickT (v := .sc _) rfl rfl) trivial ?_
        refine g_end (ds := [18, 19, 20, 21]) rfl rfl (hK9 _ ?_); clear hK9 K9
        exact seq_norm (hK7 _ ⟨rfl, rfl, rfl, trivial⟩ ⟨(congrArg PV.bool (show (true : Bool) = ((decide (i < (0))) || (decide (((((evs).map Ev.enc).length : Nat) : Int) ≤ i))) by first | rfl | ((try rw [hb10R]) <;> (first | rfl | (simp only [Bool.and_true, Bool.and_false, Bool.true_and, Bool.false_and, Bool.or_true, Bool.or_false, Bool.true_or, Bool.false_or, Bool.not_true, Bool.not_false, if_true, if_false, Bool.false_eq_true, reduceIte] <;> rfl))) | (simp only [hb10R, Bool.and_true, Bool.and_false, Bool.true_and, Bool.false_and, Bool.or_true, Bool.or_false, Bool.true_or, Bool.false_or, Bool.not_true, Bool.not_false, if_true, if_false, Bool.false_eq_true, reduceIte] <;> rfl))), trivial⟩)
      · have hb10R := hb10; try simp only [decide_eq_true_eq, decide_eq_false_iff_not, Bool.not_eq_true', Bool.not_eq_false', Int.not_lt, Int.not_le, ne_eq, Decidable.not_not, List.length_map, Bool.or_eq_true, Bool.and_eq_true, Bool.or_eq_false_iff, Bool.and_eq_false_iff] at hb10
        refine g_step rfl rfl rfl rfl (e_move (v := .sc _) rfl) trivial ?_
        refine g_step rfl rfl rfl rfl (e_move (v := .lit _ _ _) rfl) trivial ?_
        refine g_step rfl rfl rfl rfl (e_len rfl (by kernel_rfl)) trivial ?_
        refine g_step rfl rfl rfl rfl (e_ge rfl rfl) trivial ?_
        refine g_step rfl rfl rfl rfl (e_pickF (v := .sc _) rfl rfl) trivial ?_
        refine g_end (ds := [18, 19, 20, 21]) rfl rfl (hK9 _ ?_); clear hK9 K9
        exact seq_norm (hK7 _ ⟨rfl, rfl, rfl, trivial⟩ ⟨(congrArg PV.bool (show ((decide (((((evs).map Ev.enc).length : Nat) : Int) ≤ i)) : Bool) = ((decide (i < (0))) || (decide (((((evs).map Ev.enc).length : Nat) : Int) ≤ i))) by first | rfl | ((try rw [hb10R]) <;> (first | rfl | (simp only [Bool.and_true, Bool.and_false, Bool.true_and, Bool.false_and, Bool.or_true, Bool.or_false, Bool.true_or, Bool.false_or, Bool.not_true, Bool.not_false, if_true, if_false, Bool.false_eq_true, reduceIte] <;> rfl))) | (simp only [hb10R, Bool.and_true, Bool.and_false, Bool.true_and, Bool.false_and, Bool.or_true, Bool.or_false, Bool.true_or, Bool.false_or, Bool.not_true, Bool.not_false, if_true, if_false, Bool.false_eq_true, reduceIte] <;> rfl))), trivial⟩)
    · skip
      refine pwp_seq_cond rfl fun K11 hK11 => ⟨fun hb12 => ?_, fun hb12 => ?_⟩
      · have hb12R := hb12; try simp only [decide_eq_true_eq, decide_eq_false_iff_not, Bool.not_eq_true', Bool.not_eq_false', Int.not_lt, Int.not_le, ne_eq, Decidable.not_not, List.length_map, Bool.or_eq_true, Bool.and_eq_true, Bool.or_eq_false_iff, Bool.and_eq_false_iff] at hb12
        refine pwp_seq_plain rfl fun K13 hK13 => ?_
        refine p_step rfl (e_assign (v := .nil) rfl) trivial ?_
        refine p_step rfl (e_assign (v := .sc _) rfl) trivial ?_
        refine p_end (hK13 _ ?_); clear hK13 K13
        refine pwp_ret ?_
        refine ret_seq ?_
        refine end2 (v := .nil) (w := .sc _) rfl rfl ?_
        first
          | exact cor_out1 (cor_1 (by assumption))
          | exact cor_out1 (cor_2 (by assumption) (by omega))
      · have hb12R := hb12; try simp only [decide_eq_true_eq, decide_eq_false_iff_not, Bool.not_eq_true', Bool.not_eq_false', Int.not_lt, Int.not_le, ne_eq, Decidable.not_not, List.length_map, Bool.or_eq_true, Bool.and_eq_true, Bool.or_eq_false_iff, Bool.and_eq_false_iff] at hb12
        refine pwp_skip ?_
        refine seq_norm (hK11 _ ?_); clear hK11 K11
        refine pwp_seq_plain rfl fun K14 hK14 => ?_
        refine p_step rfl (e_move (v := .lit _ _ _) rfl) trivial ?_
        refine p_hcall rfl (cloneH evs hl (by intro hq; subst hq; simp at *; omega) _ _) fun v15 h16 c17 hR18 => ?_
        obtain ⟨hs19, hf20⟩ := hR18
        have ho21 := (hf20 5 _ (by decide)).trans (hset_self _ _ _)
        refine p_step rfl (e_assign (v := _) rfl) trivial ?_
        refine p_end (hK14 _ ?_); clear hK14 K14
        refine pwp_seq_plain rfl fun K22 hK22 => ?_
        refine p_step rfl (e_move (v := _) rfl) trivial ?_
        refine p_step rfl (e_move (v := .sc _) rfl) trivial ?_
        refine p_step rfl (e_loadHA (n := 6) rfl ho21 (by kernel_rfl) (by kernel_rfl) (by kernel_rfl) (by exact Nat.zero_lt_one) (by decide) rfl) trivial ?_
        obtain ⟨g23, rfl, hg24⟩ := SliceAt.isRef hs19 (by intro hq; rw [List.map_eq_nil_iff] at hq; subst hq; simp at *; omega)
        refine p_step rfl (e_ixaR0 rfl rfl (by kernel_rfl) (by kernel_rfl) (by simp only [List.length_map]; omega)) trivial ?_
        refine p_store rfl (e_storeR (xs := evs) (a := e) rfl hg24 rfl (by omega) (fun _ => rfl) (by kernel_rfl) rfl (by kernel_rfl)) trivial ?_
        refine p_end (hK22 _ ?_); clear hK22 K22
        refine pwp_seq_plain rfl fun K25 hK25 => ?_
        refine p_step rfl (e_move (v := .ref _ _ _ _) rfl) trivial ?_
        refine p_hcall rfl (acceptedH (((evs).set (i).toNat e)) (by simp only [List.length_set]; omega) 7 _ _ _ (.ofRef (hset_self _ _ _) (by simp))) fun v26 h27 c28 hR29 => ?_
        obtain ⟨rfl, rfl⟩ := hR29
        refine p_step rfl (e_ext (v := _) rfl (by simp) rfl) trivial ?_
        refine p_step rfl (e_ext (v := .sc _) rfl (by simp) rfl) trivial ?_
        refine p_step rfl (e_assign (v := _) rfl) trivial ?_
        refine p_step rfl (e_assign (v := .sc _) rfl) trivial ?_
        refine p_end (hK25 _ ?_); clear hK25 K25
        refine pwp_ret ?_
        refine end2 (v := _) (w := .sc _) rfl rfl ?_
        first
          | exact cor_out1 (cor_1 (by assumption))
          | exact cor_out1 (cor_2 (by assumption) (by omega))
          | exact cor_out3 (cor_3 (by assumption) (by omega)) (.ofRef (hset_self _ _ _) (by simp))


theorem cor_law {evs : List Ev} {i : Int} {e : Ev} (hl : evs.length ≤ 405) : (∃ z : Int, z = (if (decide (recE evs = 0) && !(decide (0 ≤ i ∧ i ≤ ((evs.length : Nat) : Int) - 1))) = true then 6 else recE evs) ∧ ((z ≠ 0 ∧ corE evs i e = z ∧ corL evs i e = []) ∨ (z = 0 ∧ 0 ≤ i ∧ i < (evs.length : Int) ∧ corE evs i e = recE (evs.set i.toNat e) ∧ corL evs i e = if recE (evs.set i.toNat e) = 0 then evs.set i.toNat e else []))) := by
  refine ⟨_, rfl, ?_⟩
  by_cases h0 : recE evs = 0
  · by_cases h1 : 0 ≤ i ∧ i ≤ ((evs.length : Nat) : Int) - 1
    · right
      have h2 := cor_3 (i := i) (e := e) h0 (by omega)
      exact ⟨by rw [decide_eq_true h0, decide_eq_true h1]; simp [h0], by omega, by omega, h2⟩
    · left
      have h2 := cor_2 (i := i) (e := e) h0 (by omega)
      simp only [h0, decide_eq_false h1]
      exact ⟨by simp, by simpa using h2.1, h2.2⟩
  · left
    have h2 := cor_1 (i := i) (e := e) h0
    simp only [decide_eq_false h0, Bool.false_and, Bool.false_eq_true, if_false]
    exact ⟨h0, h2⟩


theorem cor_law2 {evs : List Ev} {i : Int} {e : Ev} (hl : evs.length ≤ 405) : ((if ((decide (recE (evs) = (0)) && (!(decide ((0) ≤ i ∧ i ≤ (((((evs).map Ev.enc).length : Nat) : Int) - (1))))))) = true then (6) else (recE (evs))) ≠ 0 ∧ corE evs i e = (if ((decide (recE (evs) = (0)) && (!(decide ((0) ≤ i ∧ i ≤ (((((evs).map Ev.enc).length : Nat) : Int) - (1))))))) = true then (6) else (recE (evs))) ∧ corL evs i e = []) ∨ ((if ((decide (recE (evs) = (0)) && (!(decide ((0) ≤ i ∧ i ≤ (((((evs).map Ev.enc).length : Nat) : Int) - (1))))))) = true then (6) else (recE (evs))) = 0 ∧ 0 ≤ i ∧ i < (evs.length : Int) ∧ corE evs i e = recE (evs.set i.toNat e) ∧ corL evs i e = if recE (evs.set i.toNat e) = 0 then evs.set i.toNat e else []) := by
  obtain ⟨z, hz, h⟩ := cor_law (i := i) (e := e) hl
  simp only [List.length_map]
  rw [← hz]; exact h

theorem fr11 : (inFrame Try.f11.ntmps (Try.f11.body.getD .skip) && Try.f11.results.toList.all (resScope Try.f11.ntmps)) = true := by kernel_rfl
theorem corrects (evs : List Ev) (i : Int) (e : Ev) : PCalls Try.prog 11 [.lit true 6 (evs.map Ev.enc), .int i, .agg e.enc] (.bool true) := by
  refine PCalls.of_code Try.func11 rfl rfl (by kernel_rfl) mixed fr11 (by show _ ≤ 77; simp) (.sc _) ?_
  refine pwp_seq_plain rfl fun K1 hK1 => ?_
  refine p_new rfl (e_box (n := 6) rfl rfl) ⟨rfl, by decide⟩ ?_
  refine p_step rfl (e_assign (v := .sc _) rfl) trivial ?_
  refine p_end (hK1 _ ?_); clear hK1 K1
  refine pwp_seq_seq ?_
  refine pwp_seq_plain rfl fun K2 hK2 => ?_
  refine p_call rfl .nil (awake) ?_
  refine p_step rfl (e_not rfl) trivial ?_
  refine p_end (hK2 _ ?_); clear hK2 K2
  refine pwp_seq_cond (t := false) rfl fun K3 hK3 => ⟨nofun, fun _ => ?_⟩
  refine pwp_skip ?_
  refine seq_norm (hK3 _ ?_); clear hK3 K3
  refine pwp_seq_seq ?_
  refine pwp_seq_cutG [0, 1, 5] [(21, .bool ((!(shortB (evs))) || (decide ((30) < ((e.platform).size : Int)))))] (fun K4 hK4 => ?_) (fun r5 => ?_)
  · skip
    refine pwp_gops rfl fun K6 hK6 => ?_
    refine g_begin ?_
    refine g_step rfl rfl rfl rfl (e_move (v := .lit _ _ _) rfl) trivial ?_
    refine g_call rfl rfl rfl rfl (.cons inn_lit .nil) (short _) ?_
    refine g_step rfl rfl rfl rfl (e_not rfl) trivial ?_
    refine g_step rfl rfl rfl rfl (e_move (v := .sc _) rfl) trivial ?_
    refine g_cases (fun hb7 => ?_) (fun hb7 => ?_)
    · have hb7R := hb7; try simp only [decide_eq_true_eq, decide_eq_false_iff_not, Bool.not_eq_true', Bool.not_eq_false', Int.not_lt, Int.not_le, ne_eq, Decidable.not_not, List.length_map, Bool.or_eq_true, Bool.and_eq_true, Bool.or_eq_false_iff, Bool.and_eq_false_iff] at hb7; try (have hlen405 := short_len hb7.1; have hcl := cor_law2 (i := i) (e := e) hlen405)
      refine g_skip rfl rfl rfl ?_
      refine g_skip rfl rfl rfl ?_
      refine g_skip rfl rfl rfl ?_
      refine g_skip rfl rfl rfl ?_
      refine g_step rfl rfl rfl rfl (e_pickT (v := .sc _) rfl rfl) trivial ?_
      refine g_end (ds := [17, 18, 19, 20]) rfl rfl (hK6 _ ?_); clear hK6 K6
      exact seq_norm (hK4 _ ⟨rfl, rfl, rfl, trivial⟩ ⟨(congrArg PV.bool (show (true : Bool) = ((!(shortB (evs))) || (decide ((30) < ((e.platform).size : Int)))) by first | rfl | ((try rw [hb7R]) <;> (first | rfl | (simp only [Bool.and_true, Bool.and_false, Bool.true_and, Bool.false_and, Bool.or_true, Bool.or_false, Bool.true_or, Bool.false_or, Bool.not_true, Bool.not_false, if_true, if_false, Bool.false_eq_true, reduceIte] <;> rfl))) | (simp only [hb7R, Bool.and_true, Bool.and_false, Bool.true_and, Bool.false_and, Bool.or_true, Bool.or_false, Bool.true_or, Bool.false_or, Bool.not_true, Bool.not_false, if_true, if_false, Bool.false_eq_true, reduceIte] <;> rfl))), trivial⟩)
    · have hb7R := hb7; try simp only [decide_eq_true_eq, decide_eq_false_iff_not, Bool.not_eq_true', Bool.not_eq_false', Int.not_lt, Int.not_le, ne_eq, Decidable.not_not, List.length_map, Bool.or_eq_true, Bool.and_eq_true, Bool.or_eq_false_iff, Bool.and_eq_false_iff] at hb7; try (have hlen405 := short_len hb7.1; have hcl := cor_law2 (i := i) (e := e) hlen405)
      refine g_step rfl rfl rfl rfl (e_faP (pl := [(0, 1, false), (1, 1, false), (2, 1, false), (3, 1, false), (4, 1, false), (5, 1, false)]) rfl (by kernel_rfl) (by kernel_rfl) (by decide) rfl) trivial ?_
      refine g_step rfl rfl rfl rfl (e_loadH (v := .sc _) rfl (hset_self _ _ _) (by kernel_rfl) (by kernel_rfl) (by kernel_rfl) (by exact Nat.zero_lt_one) (by decide) rfl) trivial ?_
      refine g_step rfl rfl rfl rfl (e_lenS rfl (by kernel_rfl)) trivial ?_
      refine g_step rfl rfl rfl rfl (e_gt rfl rfl) trivial ?_
      refine g_step rfl rfl rfl rfl (e_pickF (v := .sc _) rfl rfl) trivial ?_
      refine g_end (ds := [17, 18, 19, 20]) rfl rfl (hK6 _ ?_); clear hK6 K6
      exact seq_norm (hK4 _ ⟨rfl, rfl, rfl, trivial⟩ ⟨(congrArg PV.bool (show ((decide ((30) < ((e.platform).size : Int))) : Bool) = ((!(shortB (evs))) || (decide ((30) < ((e.platform).size : Int)))) by first | rfl | ((try rw [hb7R]) <;> (first | rfl | (simp only [Bool.and_true, Bool.and_false, Bool.true_and, Bool.false_and, Bool.or_true, Bool.or_false, Bool.true_or, Bool.false_or, Bool.not_true, Bool.not_false, if_true, if_false, Bool.false_eq_true, reduceIte] <;> rfl))) | (simp only [hb7R, Bool.and_true, Bool.and_false, Bool.true_and, Bool.false_and, Bool.or_true, Bool.or_false, Bool.true_or, Bool.false_or, Bool.not_true, Bool.not_false, if_true, if_false, Bool.false_eq_true, reduceIte] <;> rfl))), trivial⟩)
  · skip
    refine pwp_seq_cond rfl fun K8 hK8 => ⟨fun hb9 => ?_, fun hb9 => ?_⟩
    · have hb9R := hb9; try simp only [decide_eq_true_eq, decide_eq_false_iff_not, Bool.not_eq_true', Bool.not_eq_false', Int.not_lt, Int.not_le, ne_eq, Decidable.not_not, List.length_map, Bool.or_eq_true, Bool.and_eq_true, Bool.or_eq_false_iff, Bool.and_eq_false_iff] at hb9; try (have hlen405 := short_len hb9.1; have hcl := cor_law2 (i := i) (e := e) hlen405)
      refine pwp_seq_plain rfl fun K10 hK10 => ?_
      refine p_step rfl (e_assign (v := .sc _) rfl) trivial ?_
      refine p_end (hK10 _ ?_); clear hK10 K10
      refine pwp_ret ?_
      refine ret_seq ?_
      refine end1 (v := .sc _) rfl ?_
      first
        | exact out_b rfl
        | (rcases hcl with ⟨h1, h2, h3⟩ | ⟨h1, h2, h3, h4, h5⟩ <;> exact out_b (by simp_all))
    · have hb9R := hb9; try simp only [decide_eq_true_eq, decide_eq_false_iff_not, Bool.not_eq_true', Bool.not_eq_false', Int.not_lt, Int.not_le, ne_eq, Decidable.not_not, List.length_map, Bool.or_eq_true, Bool.and_eq_true, Bool.or_eq_false_iff, Bool.and_eq_false_iff] at hb9; try (have hlen405 := short_len hb9.1; have hcl := cor_law2 (i := i) (e := e) hlen405)
      refine pwp_skip ?_
      refine seq_norm (hK8 _ ?_); clear hK8 K8
      refine pwp_seq_gops rfl fun K11 hK11 => ?_
      refine g_begin ?_
      refine g_step rfl rfl rfl rfl (e_move (v := .lit _ _ _) rfl) trivial ?_
      refine g_call rfl rfl rfl rfl (.cons inn_lit .nil) (copied _ (by first | omega | (simp only [List.length_set]; omega))) ?_
      refine g_step rfl rfl rfl rfl (e_move (v := .sc _) rfl) trivial ?_
      refine g_step rfl rfl rfl rfl (e_loadHA (n := 6) rfl (hset_self _ _ _) (by kernel_rfl) (by kernel_rfl) (by kernel_rfl) (by exact Nat.zero_lt_one) (by decide) rfl) trivial ?_
      refine g_call rfl rfl rfl rfl (.cons inn_lit (.cons inn_sc (.cons (inn_agg (Ev.pure _)) .nil))) (Correct _ _ _ (by first | omega | (simp only [List.length_set]; omega))) ?_
      refine g_step rfl rfl rfl rfl (e_move (v := .tup _) rfl) trivial ?_
      refine g_step rfl rfl rfl rfl (e_ext (v := .lit _ _ _) rfl (by simp) rfl) trivial ?_
      refine g_step rfl rfl rfl rfl (e_ext (v := .sc _) rfl (by simp) rfl) trivial ?_
      refine g_step rfl rfl rfl rfl (e_assign (v := .lit _ _ _) rfl) trivial ?_
      refine g_step rfl rfl rfl rfl (e_assign (v := .sc _) rfl) trivial ?_
      refine g_end (ds := []) (by kernel_rfl) rfl (hK11 _ ?_); clear hK11 K11
      refine pwp_seq_plain rfl fun K12 hK12 => ?_
      refine p_step rfl (e_move (v := .lit _ _ _) rfl) trivial ?_
      refine p_call rfl (.cons inn_lit .nil) (refCheckRecord _ (by first | omega | (simp only [List.length_set]; omega))) ?_
      refine p_step rfl (e_assign (v := .sc _) rfl) trivial ?_
      refine p_end (hK12 _ ?_); clear hK12 K12
      refine pwp_seq_seq ?_
      refine pwp_seq_cutG [0, 1, 5, 7, 8, 9] [(41, .bool ((decide ((recE (evs)) = (0))) && (!(decide ((0) ≤ i ∧ i ≤ (((((evs).map Ev.enc).length : Nat) : Int) - (1)))))))] (fun K13 hK13 => ?_) (fun r14 => ?_)
      · skip
        refine pwp_gops rfl fun K15 hK15 => ?_
        refine g_begin ?_
        refine g_step rfl rfl rfl rfl (e_move (v := .sc _) rfl) trivial ?_
        refine g_step rfl rfl rfl rfl (e_eq rfl rfl) trivial ?_
        refine g_step rfl rfl rfl rfl (e_move (v := .sc _) rfl) trivial ?_
        refine g_cases (fun hb16 => ?_) (fun hb16 => ?_)
        · have hb16R := hb16; try simp only [decide_eq_true_eq, decide_eq_false_iff_not, Bool.not_eq_true', Bool.not_eq_false', Int.not_lt, Int.not_le, ne_eq, Decidable.not_not, List.length_map, Bool.or_eq_true, Bool.and_eq_true, Bool.or_eq_false_iff, Bool.and_eq_false_iff] at hb16; try (have hlen405 := short_len hb16.1; have hcl := cor_law2 (i := i) (e := e) hlen405)
          refine g_step rfl rfl rfl rfl (e_move (v := .sc _) rfl) trivial ?_
          refine g_step rfl rfl rfl rfl (e_move (v := .lit _ _ _) rfl) trivial ?_
          refine g_step rfl rfl rfl rfl (e_len rfl (by kernel_rfl)) trivial ?_
          refine g_step rfl rfl rfl rfl (e_sub rfl rfl (by first | omega | (simp only [List.length_map]; omega))) trivial ?_
          refine g_call rfl rfl rfl rfl (.cons inn_sc (.cons inn_sc (.cons inn_sc .nil))) (Within _ _ _) ?_
          refine g_step rfl rfl rfl rfl (e_not rfl) trivial ?_
          refine g_step rfl rfl rfl rfl (e_pickT (v := .sc _) rfl rfl) trivial ?_
          refine g_end (ds := [35, 36, 37, 38, 39, 40]) rfl rfl (hK15 _ ?_); clear hK15 K15
          exact seq_norm (hK13 _ ⟨rfl, rfl, rfl, rfl, rfl, rfl, trivial⟩ ⟨(congrArg PV.bool (show ((!(decide ((0) ≤ i ∧ i ≤ (((((evs).map Ev.enc).length : Nat) : Int) - (1))))) : Bool) = ((decide ((recE (evs)) = (0))) && (!(decide ((0) ≤ i ∧ i ≤ (((((evs).map Ev.enc).length : Nat) : Int) - (1)))))) by first | rfl | ((try rw [hb16R]) <;> (first | rfl | (simp only [Bool.and_true, Bool.and_false, Bool.true_and, Bool.false_and, Bool.or_true, Bool.or_false, Bool.true_or, Bool.false_or, Bool.not_true, Bool.not_false, if_true, if_false, Bool.false_eq_true, reduceIte] <;> rfl))) | (simp only [hb16R, Bool.and_true, Bool.and_false, Bool.true_and, Bool.false_and, Bool.or_true, Bool.or_false, Bool.true_or, Bool.false_or, Bool.not_true, Bool.not_false, if_true, if_false, Bool.false_eq_true, reduceIte] <;> rfl))), trivial⟩)
        · have hb16R := hb16; try simp only [decide_eq_true_eq, decide_eq_false_iff_not, Bool.not_eq_true', Bool.not_eq_false', Int.not_lt, Int.not_le, ne_eq, Decidable.not_not, List.length_map, Bool.or_eq_true, Bool.and_eq_true, Bool.or_eq_false_iff, Bool.and_eq_false_iff] at hb16; try (have hlen405 := short_len hb16.1; have hcl := cor_law2 (i := i) (e := e) hlen405)
          refine g_skip rfl rfl rfl ?_
          refine g_skip rfl rfl rfl ?_
          refine g_skip rfl rfl rfl ?_
          refine g_skip rfl rfl rfl ?_
          refine g_nocall rfl rfl rfl ?_
          refine g_skip rfl rfl rfl ?_
          refine g_step rfl rfl rfl rfl (e_pickF (v := .sc _) rfl rfl) trivial ?_
          refine g_end (ds := [35, 36, 37, 38, 39, 40]) rfl rfl (hK15 _ ?_); clear hK15 K15
          exact seq_norm (hK13 _ ⟨rfl, rfl, rfl, rfl, rfl, rfl, trivial⟩ ⟨(congrArg PV.bool (show (false : Bool) = ((decide ((recE (evs)) = (0))) && (!(decide ((0) ≤ i ∧ i ≤ (((((evs).map Ev.enc).length : Nat) : Int) - (1)))))) by first | rfl | ((try rw [hb16R]) <;> (first | rfl | (simp only [Bool.and_true, Bool.and_false, Bool.true_and, Bool.false_and, Bool.or_true, Bool.or_false, Bool.true_or, Bool.false_or, Bool.not_true, Bool.not_false, if_true, if_false, Bool.false_eq_true, reduceIte] <;> rfl))) | (simp only [hb16R, Bool.and_true, Bool.and_false, Bool.true_and, Bool.false_and, Bool.or_true, Bool.or_false, Bool.true_or, Bool.false_or, Bool.not_true, Bool.not_false, if_true, if_false, Bool.false_eq_true, reduceIte] <;> rfl))), trivial⟩)
      · skip
        refine pwp_seq_cutG [0, 1, 5, 7, 8] [(9, .int (if ((decide ((recE (evs)) = (0))) && (!(decide ((0) ≤ i ∧ i ≤ (((((evs).map Ev.enc).length : Nat) : Int) - (1)))))) = true then (6) else (recE (evs))))] (fun K17 hK17 => ?_) (fun r18 => ?_)
        · skip
          refine pwp_cond rfl (fun hb19 => ?_) (fun hb19 => ?_)
          · have hb19R := hb19; try simp only [decide_eq_true_eq, decide_eq_false_iff_not, Bool.not_eq_true', Bool.not_eq_false', Int.not_lt, Int.not_le, ne_eq, Decidable.not_not, List.length_map, Bool.or_eq_true, Bool.and_eq_true, Bool.or_eq_false_iff, Bool.and_eq_false_iff] at hb19; try (have hlen405 := short_len hb19.1; have hcl := cor_law2 (i := i) (e := e) hlen405)
            refine pwp_plain rfl fun K20 hK20 => ?_
            refine p_step rfl (e_assign (v := .sc _) rfl) trivial ?_
            refine p_end (hK20 _ ?_); clear hK20 K20
            exact seq_norm (hK17 _ ⟨rfl, rfl, rfl, rfl, rfl, trivial⟩ ⟨(congrArg PV.int (show ((6) : Int) = (if ((decide ((recE (evs)) = (0))) && (!(decide ((0) ≤ i ∧ i ≤ (((((evs).map Ev.enc).length : Nat) : Int) - (1)))))) = true then (6) else (recE (evs))) by first | rfl | ((try rw [hb19R]) <;> (first | rfl | (simp only [Bool.and_true, Bool.and_false, Bool.true_and, Bool.false_and, Bool.or_true, Bool.or_false, Bool.true_or, Bool.false_or, Bool.not_true, Bool.not_false, if_true, if_false, Bool.false_eq_true, reduceIte] <;> rfl))) | (simp only [hb19R, Bool.and_true, Bool.and_false, Bool.true_and, Bool.false_and, Bool.or_true, Bool.or_false, Bool.true_or, Bool.false_or, Bool.not_true, Bool.not_false, if_true, if_false, Bool.false_eq_true, reduceIte] <;> rfl))), trivial⟩)
          · have hb19R := hb19; try simp only [decide_eq_true_eq, decide_eq_false_iff_not, Bool.not_eq_true', Bool.not_eq_false', Int.not_lt, Int.not_le, ne_eq, Decidable.not_not, List.length_map, Bool.or_eq_true, Bool.and_eq_true, Bool.or_eq_false_iff, Bool.and_eq_false_iff] at hb19; try (have hlen405 := short_len hb19.1; have hcl := cor_law2 (i := i) (e := e) hlen405)
            refine pwp_skip ?_
            exact seq_norm (hK17 _ ⟨rfl, rfl, rfl, rfl, rfl, trivial⟩ ⟨(congrArg PV.int (show ((recE (evs)) : Int) = (if ((decide ((recE (evs)) = (0))) && (!(decide ((0) ≤ i ∧ i ≤ (((((evs).map Ev.enc).length : Nat) : Int) - (1)))))) = true then (6) else (recE (evs))) by first | rfl | ((try rw [hb19R]) <;> (first | rfl | (simp only [Bool.and_true, Bool.and_false, Bool.true_and, Bool.false_and, Bool.or_true, Bool.or_false, Bool.true_or, Bool.false_or, Bool.not_true, Bool.not_false, if_true, if_false, Bool.false_eq_true, reduceIte] <;> rfl))) | (simp only [hb19R, Bool.and_true, Bool.and_false, Bool.true_and, Bool.false_and, Bool.or_true, Bool.or_false, Bool.true_or, Bool.false_or, Bool.not_true, Bool.not_false, if_true, if_false, Bool.false_eq_true, reduceIte] <;> rfl))), trivial⟩)
        · skip
          refine pwp_seq_seq ?_
          refine pwp_seq_plain rfl fun K21 hK21 => ?_
          refine p_step rfl (e_move (v := .sc _) rfl) trivial ?_
          refine p_step rfl (e_ne rfl rfl) trivial ?_
          refine p_end (hK21 _ ?_); clear hK21 K21
          refine pwp_seq_cond rfl fun K22 hK22 => ⟨fun hb23 => ?_, fun hb23 => ?_⟩
          · have hb23R := hb23; try simp only [decide_eq_true_eq, decide_eq_false_iff_not, Bool.not_eq_true', Bool.not_eq_false', Int.not_lt, Int.not_le, ne_eq, Decidable.not_not, List.length_map, Bool.or_eq_true, Bool.and_eq_true, Bool.or_eq_false_iff, Bool.and_eq_false_iff] at hb23; try (have hlen405 := short_len hb23.1; have hcl := cor_law2 (i := i) (e := e) hlen405)
            refine pwp_seq_cutG [] [(6, .bool ((decide ((corE (evs) i e) = (if ((decide ((recE (evs)) = (0))) && (!(decide ((0) ≤ i ∧ i ≤ (((((evs).map Ev.enc).length : Nat) : Int) - (1)))))) = true then (6) else (recE (evs))))) && (decide (((((corL (evs) i e).map Ev.enc).length : Nat) : Int) = (0)))))] (fun K24 hK24 => ?_) (fun r25 => ?_)
            · skip
              refine pwp_gops rfl fun K26 hK26 => ?_
              refine g_begin ?_
              refine g_step rfl rfl rfl rfl (e_move (v := .sc _) rfl) trivial ?_
              refine g_step rfl rfl rfl rfl (e_move (v := .sc _) rfl) trivial ?_
              refine g_step rfl rfl rfl rfl (e_eq rfl rfl) trivial ?_
              refine g_step rfl rfl rfl rfl (e_move (v := .sc _) rfl) trivial ?_
              refine g_cases (fun hb27 => ?_) (fun hb27 => ?_)
              · have hb27R := hb27; try simp only [decide_eq_true_eq, decide_eq_false_iff_not, Bool.not_eq_true', Bool.not_eq_false', Int.not_lt, Int.not_le, ne_eq, Decidable.not_not, List.length_map, Bool.or_eq_true, Bool.and_eq_true, Bool.or_eq_false_iff, Bool.and_eq_false_iff] at hb27; try (have hlen405 := short_len hb27.1; have hcl := cor_law2 (i := i) (e := e) hlen405)
                refine g_step rfl rfl rfl rfl (e_move (v := .lit _ _ _) rfl) trivial ?_
                refine g_step rfl rfl rfl rfl (e_len rfl (by kernel_rfl)) trivial ?_
                refine g_step rfl rfl rfl rfl (e_eq rfl rfl) trivial ?_
                refine g_step rfl rfl rfl rfl (e_pickT (v := .sc _) rfl rfl) trivial ?_
                refine g_step rfl rfl rfl rfl (e_assign (v := .sc _) rfl) trivial ?_
                refine g_end (ds := [48, 49, 50]) rfl rfl (hK26 _ ?_); clear hK26 K26
                exact seq_norm (hK24 _ trivial ⟨(congrArg PV.bool (show ((decide (((((corL (evs) i e).map Ev.enc).length : Nat) : Int) = (0))) : Bool) = ((decide ((corE (evs) i e) = (if ((decide ((recE (evs)) = (0))) && (!(decide ((0) ≤ i ∧ i ≤ (((((evs).map Ev.enc).length : Nat) : Int) - (1)))))) = true then (6) else (recE (evs))))) && (decide (((((corL (evs) i e).map Ev.enc).length : Nat) : Int) = (0)))) by first | rfl | ((try rw [hb27R]) <;> (first | rfl | (simp only [Bool.and_true, Bool.and_false, Bool.true_and, Bool.false_and, Bool.or_true, Bool.or_false, Bool.true_or, Bool.false_or, Bool.not_true, Bool.not_false, if_true, if_false, Bool.false_eq_true, reduceIte] <;> rfl))) | (simp only [hb27R, Bool.and_true, Bool.and_false, Bool.true_and, Bool.false_and, Bool.or_true, Bool.or_false, Bool.true_or, Bool.false_or, Bool.not_true, Bool.not_false, if_true, if_false, Bool.false_eq_true, reduceIte] <;> rfl))), trivial⟩)
              · have hb27R := hb27; try simp only [decide_eq_true_eq, decide_eq_false_iff_not, Bool.not_eq_true', Bool.not_eq_false', Int.not_lt, Int.not_le, ne_eq, Decidable.not_not, List.length_map, Bool.or_eq_true, Bool.and_eq_true, Bool.or_eq_false_iff, Bool.and_eq_false_iff] at hb27; try (have hlen405 := short_len hb27.1; have hcl := cor_law2 (i := i) (e := e) hlen405)
                refine g_skip rfl rfl rfl ?_
                refine g_skip rfl rfl rfl ?_
                refine g_skip rfl rfl rfl ?_
                refine g_step rfl rfl rfl rfl (e_pickF (v := .sc _) rfl rfl) trivial ?_
                refine g_step rfl rfl rfl rfl (e_assign (v := .sc _) rfl) trivial ?_
                refine g_end (ds := [48, 49, 50]) rfl rfl (hK26 _ ?_); clear hK26 K26
                exact seq_norm (hK24 _ trivial ⟨(congrArg PV.bool (show (false : Bool) = ((decide ((corE (evs) i e) = (if ((decide ((recE (evs)) = (0))) && (!(decide ((0) ≤ i ∧ i ≤ (((((evs).map Ev.enc).length : Nat) : Int) - (1)))))) = true then (6) else (recE (evs))))) && (decide (((((corL (evs) i e).map Ev.enc).length : Nat) : Int) = (0)))) by first | rfl | ((try rw [hb27R]) <;> (first | rfl | (simp only [Bool.and_true, Bool.and_false, Bool.true_and, Bool.false_and, Bool.or_true, Bool.or_false, Bool.true_or, Bool.false_or, Bool.not_true, Bool.not_false, if_true, if_false, Bool.false_eq_true, reduceIte] <;> rfl))) | (simp only [hb27R, Bool.and_true, Bool.and_false, Bool.true_and, Bool.false_and, Bool.or_true, Bool.or_false, Bool.true_or, Bool.false_or, Bool.not_true, Bool.not_false, if_true, if_false, Bool.false_eq_true, reduceIte] <;> rfl))), trivial⟩)
            · skip
              refine pwp_ret ?_
              refine ret_seq ?_
              refine end1 (v := .sc _) rfl ?_
              first
                | exact out_b rfl
                | (rcases hcl with ⟨h1, h2, h3⟩ | ⟨h1, h2, h3, h4, h5⟩ <;> exact out_b (by simp_all))
          · have hb23R := hb23; try simp only [decide_eq_true_eq, decide_eq_false_iff_not, Bool.not_eq_true', Bool.not_eq_false', Int.not_lt, Int.not_le, ne_eq, Decidable.not_not, List.length_map, Bool.or_eq_true, Bool.and_eq_true, Bool.or_eq_false_iff, Bool.and_eq_false_iff] at hb23; try (have hlen405 := short_len hb23.1; have hcl := cor_law2 (i := i) (e := e) hlen405)
            refine pwp_skip ?_
            refine seq_norm (hK22 _ ?_); clear hK22 K22
            refine pwp_seq_plain rfl fun K28 hK28 => ?_
            refine p_step rfl (e_move (v := .lit _ _ _) rfl) trivial ?_
            refine p_hcall rfl (copiedH evs (by omega) _ _) fun v29 h30 c31 hR32 => ?_
            obtain ⟨hs33, hf34⟩ := hR32
            have ho35 := (hf34 5 _ (by decide)).trans (hset_self _ _ _)
            refine p_step rfl (e_assign (v := _) rfl) trivial ?_
            refine p_end (hK28 _ ?_); clear hK28 K28
            refine pwp_seq_plain rfl fun K36 hK36 => ?_
            refine p_step rfl (e_move (v := _) rfl) trivial ?_
            refine p_step rfl (e_move (v := .sc _) rfl) trivial ?_
            refine p_step rfl (e_loadHA (n := 6) rfl ho35 (by kernel_rfl) (by kernel_rfl) (by kernel_rfl) (by exact Nat.zero_lt_one) (by decide) rfl) trivial ?_
            obtain ⟨g37, rfl, hg38⟩ := SliceAt.isRef hs33 (by intro hq; rw [List.map_eq_nil_iff] at hq; subst hq; simp at *; omega)
            refine p_step rfl (e_ixaR0 rfl rfl (by kernel_rfl) (by kernel_rfl) (by first | omega | (simp only [List.length_map]; omega))) trivial ?_
            refine p_store rfl (e_storeR (xs := evs) (a := e) rfl hg38 rfl (by omega) (fun _ => rfl) (by kernel_rfl) rfl (by kernel_rfl)) trivial ?_
            refine p_end (hK36 _ ?_); clear hK36 K36
            refine pwp_seq_seq ?_
            refine pwp_seq_plain rfl fun K39 hK39 => ?_
            refine p_step rfl (e_move (v := .ref _ _ _ _) rfl) trivial ?_
            refine p_call rfl (.cons (inn_ref (rows := ((evs).set (i).toNat e).map Ev.enc) (hset_self _ _ _) (by simp) rfl (by exact pure_map Ev.pure)) .nil) (refCheckRecord _ (by first | omega | (simp only [List.length_set]; omega))) ?_
            refine p_step rfl (e_assign (v := .sc _) rfl) trivial ?_
            refine p_end (hK39 _ ?_); clear hK39 K39
            refine pwp_seq_seq ?_
            refine pwp_seq_plain rfl fun K40 hK40 => ?_
            refine p_step rfl (e_move (v := .sc _) rfl) trivial ?_
            refine p_step rfl (e_ne rfl rfl) trivial ?_
            refine p_end (hK40 _ ?_); clear hK40 K40
            refine pwp_seq_cond rfl fun K41 hK41 => ⟨fun hb42 => ?_, fun hb42 => ?_⟩
            · have hb42R := hb42; try simp only [decide_eq_true_eq, decide_eq_false_iff_not, Bool.not_eq_true', Bool.not_eq_false', Int.not_lt, Int.not_le, ne_eq, Decidable.not_not, List.length_map, Bool.or_eq_true, Bool.and_eq_true, Bool.or_eq_false_iff, Bool.and_eq_false_iff] at hb42; try (have hlen405 := short_len hb42.1; have hcl := cor_law2 (i := i) (e := e) hlen405)
              refine pwp_seq_cutG [] [(6, .bool ((decide ((corE (evs) i e) = (recE (((evs).set (i).toNat e))))) && (decide (((((corL (evs) i e).map Ev.enc).length : Nat) : Int) = (0)))))] (fun K43 hK43 => ?_) (fun r44 => ?_)
              · skip
                refine pwp_gops rfl fun K45 hK45 => ?_
                refine g_begin ?_
                refine g_step rfl rfl rfl rfl (e_move (v := .sc _) rfl) trivial ?_
                refine g_step rfl rfl rfl rfl (e_move (v := .sc _) rfl) trivial ?_
                refine g_step rfl rfl rfl rfl (e_eq rfl rfl) trivial ?_
                refine g_step rfl rfl rfl rfl (e_move (v := .sc _) rfl) trivial ?_
                refine g_cases (fun hb46 => ?_) (fun hb46 => ?_)
                · have hb46R := hb46; try simp only [decide_eq_true_eq, decide_eq_false_iff_not, Bool.not_eq_true', Bool.not_eq_false', Int.not_lt, Int.not_le, ne_eq, Decidable.not_not, List.length_map, Bool.or_eq_true, Bool.and_eq_true, Bool.or_eq_false_iff, Bool.and_eq_false_iff] at hb46; try (have hlen405 := short_len hb46.1; have hcl := cor_law2 (i := i) (e := e) hlen405)
                  refine g_step rfl rfl rfl rfl (e_move (v := .lit _ _ _) rfl) trivial ?_
                  refine g_step rfl rfl rfl rfl (e_len rfl (by kernel_rfl)) trivial ?_
                  refine g_step rfl rfl rfl rfl (e_eq rfl rfl) trivial ?_
                  refine g_step rfl rfl rfl rfl (e_pickT (v := .sc _) rfl rfl) trivial ?_
                  refine g_step rfl rfl rfl rfl (e_assign (v := .sc _) rfl) trivial ?_
                  refine g_end (ds := [66, 67, 68]) rfl rfl (hK45 _ ?_); clear hK45 K45
                  exact seq_norm (hK43 _ trivial ⟨(congrArg PV.bool (show ((decide (((((corL (evs) i e).map Ev.enc).length : Nat) : Int) = (0))) : Bool) = ((decide ((corE (evs) i e) = (recE (((evs).set (i).toNat e))))) && (decide (((((corL (evs) i e).map Ev.enc).length : Nat) : Int) = (0)))) by first | rfl | ((try rw [hb46R]) <;> (first | rfl | (simp only [Bool.and_true, Bool.and_false, Bool.true_and, Bool.false_and, Bool.or_true, Bool.or_false, Bool.true_or, Bool.false_or, Bool.not_true, Bool.not_false, if_true, if_false, Bool.false_eq_true, reduceIte] <;> rfl))) | (simp only [hb46R, Bool.and_true, Bool.and_false, Bool.true_and, Bool.false_and, Bool.or_true, Bool.or_false, Bool.true_or, Bool.false_or, Bool.not_true, Bool.not_false, if_true, if_false, Bool.false_eq_true, reduceIte] <;> rfl))), trivial⟩)
                · have hb46R := hb46; try simp only [decide_eq_true_eq, decide_eq_false_iff_not, Bool.not_eq_true', Bool.not_eq_false', Int.not_lt, Int.not_le, ne_eq, Decidable.not_not, List.length_map, Bool.or_eq_true, Bool.and_eq_true, Bool.or_eq_false_iff, Bool.and_eq_false_iff] at hb46; try (have hlen405 := short_len hb46.1; have hcl := cor_law2 (i := i) (e := e) hlen405)
                  refine g_skip rfl rfl rfl ?_
                  refine g_skip rfl rfl rfl ?_
                  refine g_skip rfl rfl rfl ?_
                  refine g_step rfl rfl rfl rfl (e_pickF (v := .sc _) rfl rfl) trivial ?_
                  refine g_step rfl rfl rfl rfl (e_assign (v := .sc _) rfl) trivial ?_
                  refine g_end (ds := [66, 67, 68]) rfl rfl (hK45 _ ?_); clear hK45 K45
                  exact seq_norm (hK43 _ trivial ⟨(congrArg PV.bool (show (false : Bool) = ((decide ((corE (evs) i e) = (recE (((evs).set (i).toNat e))))) && (decide (((((corL (evs) i e).map Ev.enc).length : Nat) : Int) = (0)))) by first | rfl | ((try rw [hb46R]) <;> (first | rfl | (simp only [Bool.and_true, Bool.and_false, Bool.true_and, Bool.false_and, Bool.or_true, Bool.or_false, Bool.true_or, Bool.false_or, Bool.not_true, Bool.not_false, if_true, if_false, Bool.false_eq_true, reduceIte] <;> rfl))) | (simp only [hb46R, Bool.and_true, Bool.and_false, Bool.true_and, Bool.false_and, Bool.or_true, Bool.or_false, Bool.true_or, Bool.false_or, Bool.not_true, Bool.not_false, if_true, if_false, Bool.false_eq_true, reduceIte] <;> rfl))), trivial⟩)
              · skip
                refine pwp_ret ?_
                refine ret_seq ?_
                refine end1 (v := .sc _) rfl ?_
                first
                  | exact out_b rfl
                  | (rcases hcl with ⟨h1, h2, h3⟩ | ⟨h1, h2, h3, h4, h5⟩ <;> exact out_b (by simp_all))
            · have hb42R := hb42; try simp only [decide_eq_true_eq, decide_eq_false_iff_not, Bool.not_eq_true', Bool.not_eq_false', Int.not_lt, Int.not_le, ne_eq, Decidable.not_not, List.length_map, Bool.or_eq_true, Bool.and_eq_true, Bool.or_eq_false_iff, Bool.and_eq_false_iff] at hb42; try (have hlen405 := short_len hb42.1; have hcl := cor_law2 (i := i) (e := e) hlen405)
              refine pwp_skip ?_
              refine seq_norm (hK41 _ ?_); clear hK41 K41
              refine pwp_seq_cutG [] [(6, .bool ((decide ((corE (evs) i e) = (0))) && (decide ((corL (evs) i e) = (((evs).set (i).toNat e))))))] (fun K47 hK47 => ?_) (fun r48 => ?_)
              · skip
                refine pwp_gops rfl fun K49 hK49 => ?_
                refine g_begin ?_
                refine g_step rfl rfl rfl rfl (e_move (v := .sc _) rfl) trivial ?_
                refine g_step rfl rfl rfl rfl (e_eq rfl rfl) trivial ?_
                refine g_step rfl rfl rfl rfl (e_move (v := .sc _) rfl) trivial ?_
                refine g_cases (fun hb50 => ?_) (fun hb50 => ?_)
                · have hb50R := hb50; try simp only [decide_eq_true_eq, decide_eq_false_iff_not, Bool.not_eq_true', Bool.not_eq_false', Int.not_lt, Int.not_le, ne_eq, Decidable.not_not, List.length_map, Bool.or_eq_true, Bool.and_eq_true, Bool.or_eq_false_iff, Bool.and_eq_false_iff] at hb50; try (have hlen405 := short_len hb50.1; have hcl := cor_law2 (i := i) (e := e) hlen405)
                  refine g_step rfl rfl rfl rfl (e_move (v := .lit _ _ _) rfl) trivial ?_
                  refine g_step rfl rfl rfl rfl (e_move (v := .ref _ _ _ _) rfl) trivial ?_
                  refine g_call rfl rfl rfl rfl (.cons inn_lit (.cons (inn_ref (rows := ((evs).set (i).toNat e).map Ev.enc) (hset_self _ _ _) (by simp) rfl (by exact pure_map Ev.pure)) .nil)) (sameRecord _ _ (corL_len _ _ _ hlen405)) ?_
                  refine g_step rfl rfl rfl rfl (e_pickT (v := .sc _) rfl rfl) trivial ?_
                  refine g_step rfl rfl rfl rfl (e_assign (v := .sc _) rfl) trivial ?_
                  refine g_end (ds := [73, 74, 75]) rfl rfl (hK49 _ ?_); clear hK49 K49
                  exact seq_norm (hK47 _ trivial ⟨(congrArg PV.bool (show ((decide ((corL (evs) i e) = (((evs).set (i).toNat e)))) : Bool) = ((decide ((corE (evs) i e) = (0))) && (decide ((corL (evs) i e) = (((evs).set (i).toNat e))))) by first | rfl | ((try rw [hb50R]) <;> (first | rfl | (simp only [Bool.and_true, Bool.and_false, Bool.true_and, Bool.false_and, Bool.or_true, Bool.or_false, Bool.true_or, Bool.false_or, Bool.not_true, Bool.not_false, if_true, if_false, Bool.false_eq_true, reduceIte] <;> rfl))) | (simp only [hb50R, Bool.and_true, Bool.and_false, Bool.true_and, Bool.false_and, Bool.or_true, Bool.or_false, Bool.true_or, Bool.false_or, Bool.not_true, Bool.not_false, if_true, if_false, Bool.false_eq_true, reduceIte] <;> rfl))), trivial⟩)
                · have hb50R := hb50; try simp only [decide_eq_true_eq, decide_eq_false_iff_not, Bool.not_eq_true', Bool.not_eq_false', Int.not_lt, Int.not_le, ne_eq, Decidable.not_not, List.length_map, Bool.or_eq_true, Bool.and_eq_true, Bool.or_eq_false_iff, Bool.and_eq_false_iff] at hb50; try (have hlen405 := short_len hb50.1; have hcl := cor_law2 (i := i) (e := e) hlen405)
                  refine g_skip rfl rfl rfl ?_
                  refine g_skip rfl rfl rfl ?_
                  refine g_nocall rfl rfl rfl ?_
                  refine g_step rfl rfl rfl rfl (e_pickF (v := .sc _) rfl rfl) trivial ?_
                  refine g_step rfl rfl rfl rfl (e_assign (v := .sc _) rfl) trivial ?_
                  refine g_end (ds := [73, 74, 75]) rfl rfl (hK49 _ ?_); clear hK49 K49
                  exact seq_norm (hK47 _ trivial ⟨(congrArg PV.bool (show (false : Bool) = ((decide ((corE (evs) i e) = (0))) && (decide ((corL (evs) i e) = (((evs).set (i).toNat e))))) by first | rfl | ((try rw [hb50R]) <;> (first | rfl | (simp only [Bool.and_true, Bool.and_false, Bool.true_and, Bool.false_and, Bool.or_true, Bool.or_false, Bool.true_or, Bool.false_or, Bool.not_true, Bool.not_false, if_true, if_false, Bool.false_eq_true, reduceIte] <;> rfl))) | (simp only [hb50R, Bool.and_true, Bool.and_false, Bool.true_and, Bool.false_and, Bool.or_true, Bool.or_false, Bool.true_or, Bool.false_or, Bool.not_true, Bool.not_false, if_true, if_false, Bool.false_eq_true, reduceIte] <;> rfl))), trivial⟩)
              · skip
                refine pwp_ret ?_
                refine end1 (v := .sc _) rfl ?_
                first
                  | exact out_b rfl
                  | (rcases hcl with ⟨h1, h2, h3⟩ | ⟨h1, h2, h3, h4, h5⟩ <;> exact out_b (by simp_all))

end Go.Proofs.Ytdbpfhbppcpbbaa
