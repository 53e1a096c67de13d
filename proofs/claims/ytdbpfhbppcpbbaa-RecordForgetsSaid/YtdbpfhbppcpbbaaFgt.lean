/- RecordForgets, as a contract on pure values. No conditions. -/
import Derived.Test.YtdbpfhbppcpbbaaTag1
import Derived.Test.YtdbpfhbppcpbbaaAdd
set_option linter.unusedSimpArgs false
set_option linter.unusedVariables false
set_option maxRecDepth 100000
namespace Go.Proofs.Ytdbpfhbppcpbbaa
open Go Go.Pv
/-! ### What a record tells without the events behind a day -/
def lastD (last : Int) (l : List Ev) : Int := l.foldl (fun _ e => e.day) last
theorem lastD_le {d : Int} : ∀ (l : List Ev) (last : Int), last ≤ d → (∀ e ∈ l, e.day ≤ d) → lastD last l ≤ d
  | [], _, h, _ => h
  | e :: l, _, _, h => lastD_le l e.day (h e (by simp)) fun x hx => h x (by simp [hx])
theorem goR_app : ∀ (l1 l2 pre : List Ev) (last : Int), goR pre last l1 = 0 → goR pre last (l1 ++ l2) = goR (pre ++ l1) (lastD last l1) l2
  | [], l2, pre, last, _ => by simp [lastD]
  | e :: l1, l2, pre, last, h => by
    unfold goR at h
    split at h
    · rename_i hE
      have ih := goR_app l1 l2 (pre ++ [e]) e.day h
      show (if evE e last (openE pre e) = 0 then goR (pre ++ [e]) e.day (l1 ++ l2) else evE e last (openE pre e)) = _
      rw [if_pos hE, ih, List.append_assoc]
      rfl
    · rename_i hE; exact absurd h hE
theorem goR_pre : ∀ (l1 l2 pre : List Ev) (last : Int), goR pre last (l1 ++ l2) = 0 → goR pre last l1 = 0
  | [], _, _, _, _ => rfl
  | e :: l1, l2, pre, last, h => by
    rw [List.cons_append] at h
    unfold goR at h ⊢
    split at h
    · rename_i hE
      rw [if_pos hE]; exact goR_pre l1 l2 _ _ h
    · rename_i hE; exact absurd h hE
theorem upto_rec {evs : List Ev} {day : Int} (hr : recE evs = 0) : recE (uptoE evs day) = 0 := by
  have ok := rec_ok hr
  obtain ⟨m, hm, hU⟩ := upto_take (day := day) evs ok.days
  have h1 : goR [] 0 evs = 0 := by
    unfold recE at hr; rw [if_neg (by have := ok.len; omega)] at hr; exact hr
  have hl := upto_len evs day
  rw [recE, if_neg (by have := ok.len; omega), hU]
  exact goR_pre (evs.take m) (evs.drop m) [] 0 (by rw [List.take_append_drop]; exact h1)
theorem upto_upto (evs : List Ev) (day : Int) : uptoE (uptoE evs day) day = uptoE evs day := by
  unfold uptoE; rw [List.filter_filter]; congr 1; funext e; simp
theorem upto_405 {evs : List Ev} {day : Int} (h : evs.length ≤ 405) : (uptoE evs day).length ≤ 405 := Nat.le_trans (upto_len _ _) h
theorem ask_ofF {evs : List Ev} {p : ByteArray} {d : Int} (h0 : recE evs = 0) (hd : 0 ≤ d ∧ d ≤ 20000) : askE evs p d = if hasS (platE evs) p = false then 6 else 0 := by
  rw [askE, if_neg (by simpa using h0), if_neg (by simpa using hd)]
theorem rsn_lenF : ∀ (l : List Bool) (i : Int), (rsn i l).length ≤ l.length
  | [], _ => Nat.le_refl _
  | b :: l, i => by
    have := rsn_lenF l (i + 1)
    unfold rsn
    split
    · rw [List.length_cons, List.length_cons]; omega
    · rw [List.length_cons]; omega
theorem reaT_len (evs : List Ev) (p : ByteArray) (day : Int) : (reaT evs p day).length ≤ 1000000 := by
  unfold reaT
  split
  · exact Nat.le_trans (rsn_lenF _ _) (by show 5 ≤ 1000000; omega)
  · exact Nat.zero_le _
theorem last_none {k : Int} {p : ByteArray} : ∀ {l : List Ev} {a : Int} {i : Nat}, (∀ e ∈ l, ¬ e.platform = p) → lastE k p a i l = a
  | [], _, _, _ => rfl
  | e :: l, a, i, h => by
    unfold lastE
    rw [if_neg (fun hc => h e (by simp) hc.2)]
    exact last_none fun x hx => h x (by simp [hx])
theorem fre_none {p : ByteArray} : ∀ {l : List Ev} {i : Nat}, (∀ e ∈ l, ¬ e.platform = p) → freE p (-1) i l = -1
  | [], _, _ => rfl
  | e :: l, i, h => by
    have h1 : inspB p e = false := by unfold inspB; rw [decide_eq_false (h e (by simp)), Bool.and_false]
    have h2 : freStep p (-1) i e = -1 := by unfold freStep; simp [h1]
    unfold freE
    rw [h2]
    exact fre_none fun x hx => h x (by simp [hx])
theorem open_none {p : ByteArray} {g al : Bool} : ∀ {l : List Ev}, (∀ e ∈ l, ¬ e.platform = p) → openL p g al l = []
  | [], _ => rfl
  | e :: l, h => by
    unfold openL
    rw [if_neg (fun hc => h e (by simp) hc.1.1.2)]
    exact open_none fun x hx => h x (by simp [hx])
theorem rea_none {p : ByteArray} {day : Int} {U : List Ev} (h : ∀ e ∈ U, ¬ e.platform = p) : reaR p day U = [0, 1, 2] := by
  unfold reaR freshE
  rw [last_none h, last_none h, last_none h, fre_none h, open_none h, open_none h]
  rfl
structure Fgt (evs : List Ev) (day : Int) : Prop where
  len : evs.length ≤ 60
  rok : recE evs = 0
  day : 0 ≤ day ∧ day ≤ 20000
theorem fgt_main {evs : List Ev} {p : ByteArray} {day : Int} (h : ((shortB evs = true ∧ ((p.size : Nat) : Int) ≤ 30) ∧ recE evs = 0) ∧ (0 ≤ day ∧ day ≤ 20000)) : Fgt evs day := by
  refine ⟨?_, h.1.2, h.2⟩
  have h1 := h.1.1.1
  have h2 := (rec_ok h.1.2).len
  unfold shortB at h1
  simp only [Bool.or_eq_true, Bool.and_eq_true, decide_eq_true_eq] at h1
  omega
theorem fgt_404 {evs : List Ev} {day : Int} (h : Fgt evs day) : (uptoE evs day).length ≤ 404 := by
  have := upto_len evs day; have := h.len; omega
theorem fgt_len {evs : List Ev} {day : Int} {e : Ev} (h0 : evs.length ≤ 405) (h : Fgt evs day) : (addL (uptoE evs day) e).length ≤ 405 := addL_len _ _ (fgt_404 h)
theorem fgt_bad {evs : List Ev} {p : ByteArray} {day : Int} (hm : Fgt evs day) (h : ¬ askE (uptoE evs day) p day = 0) : askE (uptoE evs day) p day = 6 ∧ (askE evs p day = 6 ∨ (askE evs p day = 0 ∧ reaT evs p day = [0, 1, 2])) := by
  have hU := ask_ofF (p := p) (upto_rec (day := day) hm.rok) hm.day
  have hE := ask_ofF (p := p) hm.rok hm.day
  have hn : hasS (platE (uptoE evs day)) p = false := by
    cases hq : hasS (platE (uptoE evs day)) p with
    | false => rfl
    | true => rw [hq] at hU; exact absurd hU h
  rw [hn] at hU
  refine ⟨hU, ?_⟩
  cases hq : hasS (platE evs) p with
  | false => rw [hq] at hE; exact .inl hE
  | true =>
    rw [hq] at hE
    have hE' : askE evs p day = 0 := hE
    have hp := (ask_hp hE').2
    refine .inr ⟨hE', ?_⟩
    rw [reaT, if_pos hE', rea_agree hm.rok hp]
    refine rea_none fun e he hc => ?_
    have : hasS (platE (uptoE evs day)) p = true := hasS_iff.2 (plat_mem.2 ⟨hp, e, he, hc⟩)
    rw [hn] at this; cases this
theorem fgt_good {evs : List Ev} {p : ByteArray} {day : Int} (hm : Fgt evs day) (h : askE (uptoE evs day) p day = 0) :
    askE evs p day = 0 ∧ reaT evs p day = reaT (uptoE evs day) p day ∧ addE (uptoE evs day) ⟨day, (6), p, 0, false, false⟩ = 0 ∧ askE (addL (uptoE evs day) ⟨day, (6), p, 0, false, false⟩) p day = 0 ∧ tagT (addL (uptoE evs day) ⟨day, (6), p, 0, false, false⟩) p day = 0 := by
  have hrU := upto_rec (day := day) hm.rok
  have hp := (ask_hp h).2
  obtain ⟨e, he, hep⟩ := (plat_mem.1 (hasS_iff.1 (ask_inv h).2.2)).2
  have hmem : ∀ x ∈ uptoE evs day, x ∈ evs ∧ x.day ≤ day := fun x hx => by
    unfold uptoE at hx
    have := List.mem_filter.1 hx
    exact ⟨this.1, by simpa using this.2⟩
  have hE : askE evs p day = 0 := by
    rw [ask_ofF hm.rok hm.day, hasS_iff.2 (plat_mem.2 ⟨hp, e, (hmem e he).1, hep⟩)]; rfl
  have hrea : reaT evs p day = reaT (uptoE evs day) p day := by
    rw [reaT, if_pos hE, reaT, if_pos h, rea_agree hm.rok hp, rea_agree hrU hp, upto_upto]
  have okU := rec_ok hrU
  generalize hU : uptoE evs day = U at *
  have hall : ∀ x ∈ U, x.day ≤ day := fun x hx => (hmem x hx).2
  have hUl : U.length ≤ 60 := by have := upto_len evs day; rw [hU] at this; have := hm.len; omega
  have hgo : goR [] 0 U = 0 := by
    unfold recE at hrU; rw [if_neg (by omega)] at hrU; exact hrU
  have hx : ∀ op, evE (⟨day, (6), p, 0, false, false⟩ : Ev) (lastD 0 U) op = 0 := fun op => by
    refine evE_0 (by show ¬ badEv _; unfold badEv; have := hm.day; simp only; omega) (Int.not_lt.2 (lastD_le U 0 hm.day.1 hall)) ?_ ?_ (.inl (by show ¬ (6 : Int) = 4; omega)) (.inl (by show ¬ (6 : Int) = 5; omega))
    · have hn := (okU.ev e he).2
      unfold badNm at hn ⊢
      rw [hep] at hn
      split at hn
      · exfalso; simp at hn; exact hp hn
      · rw [if_neg (by show ¬ (6 : Int) = 3; omega)]; exact hn
    · unfold plainE; rfl
  have hrec : recE (U ++ [(⟨day, (6), p, 0, false, false⟩ : Ev)]) = 0 := by
    rw [recE, if_neg (by rw [List.length_append]; simp; omega), goR_app U _ [] 0 hgo]
    unfold goR
    rw [if_pos (hx _)]
    rfl
  have hadd := add_2 (e := ⟨day, (6), p, 0, false, false⟩) hrU
  rw [hrec, if_pos rfl] at hadd
  rw [hadd.2]
  have hask : askE (U ++ [(⟨day, (6), p, 0, false, false⟩ : Ev)]) p day = 0 := by
    rw [ask_ofF hrec hm.day, hasS_iff.2 (plat_mem.2 ⟨hp, ⟨day, (6), p, 0, false, false⟩, by simp, rfl⟩)]; rfl
  refine ⟨hE, hrea, hadd.1, hask, ?_⟩
  rw [tagT, if_pos hask]
  have hst : stateE p day (U ++ [(⟨day, (6), p, 0, false, false⟩ : Ev)]) = stepE p (stF p U) ⟨day, (6), p, 0, false, false⟩ := by
    have h1 : stateE p day (U ++ [(⟨day, (6), p, 0, false, false⟩ : Ev)]) = stF p (uptoE (U ++ [(⟨day, (6), p, 0, false, false⟩ : Ev)]) day) := stO_fold _ St0 (rec_ok hrec).days
    have h2 : uptoE (U ++ [(⟨day, (6), p, 0, false, false⟩ : Ev)]) day = U ++ [(⟨day, (6), p, 0, false, false⟩ : Ev)] := by
      unfold uptoE
      refine List.filter_eq_self.2 fun x hx => ?_
      rcases List.mem_append.1 hx with hx | hx
      · exact decide_eq_true (hall x hx)
      · simp at hx; subst hx; exact decide_eq_true (Int.le_refl _)
    rw [h1, h2, stF_snoc]
  rw [hst]
  have hv : (stepE p (stF p U) ⟨day, (6), p, 0, false, false⟩).valid = false := by
    unfold stepE takeE
    simp
  unfold reaE bsE
  rw [hv]
  rfl

theorem fr15 : (inFrame Try.f15.ntmps (Try.f15.body.getD .skip) && Try.f15.results.toList.all (resScope Try.f15.ntmps)) = true := by kernel_rfl
theorem forgets (evs : List Ev) (p : ByteArray) (day : Int) : PCalls Try.prog 15 [.lit true 6 (evs.map Ev.enc), .str p, .int day] (.bool true) := by
  refine PCalls.of_code Try.func15 rfl rfl (by kernel_rfl) mixed fr15 (by show _ ≤ 106; simp) (.sc _) ?_
  refine pwp_seq_plain rfl fun K1 hK1 => ?_
  refine p_step rfl (e_assign (v := .sc _) rfl) trivial ?_
  refine p_end (hK1 _ ?_); clear hK1 K1
  refine pwp_seq_seq ?_
  refine pwp_seq_plain rfl fun K2 hK2 => ?_
  refine p_call rfl .nil (awake) ?_
  refine p_step rfl (e_not rfl) trivial ?_
  refine p_end (hK2 _ ?_); clear hK2 K2
  refine pwp_seq_cond (t := false) rfl fun K3 hK3 => ⟨nofun, fun _ => ?_⟩
  refine pwp_skip ?_
  refine seq_norm (hK3 _ ?_); clear hK3 K3
  refine pwp_seq_seq ?_
  refine pwp_seq_cutG [0, 1, 2] [(35, .bool ((((!(shortB (evs))) || (decide ((30) < ((p).size : Int)))) || (decide ((recE (evs)) ≠ (0)))) || (!(decide (0 ≤ day ∧ day ≤ 20000)))))] (fun K4 hK4 => ?_) (fun r5 => ?_)
  · skip
    refine pwp_gops rfl fun K6 hK6 => ?_
    refine g_begin ?_
    refine g_step rfl rfl rfl rfl (e_move (v := .lit _ _ _) rfl) trivial ?_
    refine g_call rfl rfl rfl rfl (.cons inn_lit .nil) (short _) ?_
    refine g_step rfl rfl rfl rfl (e_not rfl) trivial ?_
    refine g_step rfl rfl rfl rfl (e_move (v := .sc _) rfl) trivial ?_
    refine g_cases (fun hb7 => ?_) (fun hb7 => ?_)
    · have hb7R := hb7; (try simp only [z1, z2, z3, z4, z5, z6, ne_eq, z7, z8, z9, z10, z11, z12] at hb7); (try (have hlen405 := short_len hb7)); (try (have hlen405 := short_len hb7.1)); (try (have hlen405 := short_len hb7.1.1)); (try (have hlen405 := short_len hb7.1.1.1)); (try (have hmain := fgt_main hb7)); (try (have hbad := fgt_bad hmain hb7)); (try (have hgood := fgt_good hmain hb7))
      refine g_skip rfl rfl rfl ?_
      refine g_skip rfl rfl rfl ?_
      refine g_skip rfl rfl rfl ?_
      refine g_step rfl rfl rfl rfl (e_pickT (v := .sc _) rfl rfl) trivial ?_
      refine g_step rfl rfl rfl rfl (e_move (v := .sc _) rfl) trivial ?_
      refine g_skip rfl rfl rfl ?_
      refine g_nocall rfl rfl rfl ?_
      refine g_skip rfl rfl rfl ?_
      refine g_step rfl rfl rfl rfl (e_pickT (v := .sc _) rfl rfl) trivial ?_
      refine g_step rfl rfl rfl rfl (e_move (v := .sc _) rfl) trivial ?_
      refine g_skip rfl rfl rfl ?_
      refine g_nocall rfl rfl rfl ?_
      refine g_skip rfl rfl rfl ?_
      refine g_step rfl rfl rfl rfl (e_pickT (v := .sc _) rfl rfl) trivial ?_
      refine g_end (ds := [22, 23, 24, 27, 28, 29, 32, 33, 34]) rfl rfl (hK6 _ ?_); clear hK6 K6
      exact seq_norm (hK4 _ ⟨rfl, rfl, rfl, trivial⟩ ⟨(congrArg PV.bool (show (true : Bool) = ((((!(shortB (evs))) || (decide ((30) < ((p).size : Int)))) || (decide ((recE (evs)) ≠ (0)))) || (!(decide (0 ≤ day ∧ day ≤ 20000)))) by first | rfl | ((try rw [hb7R]) <;> (first | rfl | (simp only [Bool.and_true, Bool.and_false, Bool.true_and, Bool.false_and, Bool.or_true, Bool.or_false, Bool.true_or, Bool.false_or, Bool.not_true, Bool.not_false, if_true, if_false, Bool.false_eq_true, reduceIte] <;> rfl))) | (simp only [hb7R, Bool.and_true, Bool.and_false, Bool.true_and, Bool.false_and, Bool.or_true, Bool.or_false, Bool.true_or, Bool.false_or, Bool.not_true, Bool.not_false, if_true, if_false, Bool.false_eq_true, reduceIte] <;> rfl))), trivial⟩)
    · have hb7R := hb7; (try simp only [z1, z2, z3, z4, z5, z6, ne_eq, z7, z8, z9, z10, z11, z12] at hb7); (try (have hlen405 := short_len hb7)); (try (have hlen405 := short_len hb7.1)); (try (have hlen405 := short_len hb7.1.1)); (try (have hlen405 := short_len hb7.1.1.1)); (try (have hmain := fgt_main hb7)); (try (have hbad := fgt_bad hmain hb7)); (try (have hgood := fgt_good hmain hb7))
      refine g_step rfl rfl rfl rfl (e_move (v := .sc _) rfl) trivial ?_
      refine g_step rfl rfl rfl rfl (e_lenS rfl (by kernel_rfl)) trivial ?_
      refine g_step rfl rfl rfl rfl (e_gt rfl rfl) trivial ?_
      refine g_step rfl rfl rfl rfl (e_pickF (v := .sc _) rfl rfl) trivial ?_
      refine g_step rfl rfl rfl rfl (e_move (v := .sc _) rfl) trivial ?_
      refine g_cases (fun hb8 => ?_) (fun hb8 => ?_)
      · have hb8R := hb8; (try simp only [z1, z2, z3, z4, z5, z6, ne_eq, z7, z8, z9, z10, z11, z12] at hb8); (try (have hlen405 := short_len hb8)); (try (have hlen405 := short_len hb8.1)); (try (have hlen405 := short_len hb8.1.1)); (try (have hlen405 := short_len hb8.1.1.1)); (try (have hmain := fgt_main hb8)); (try (have hbad := fgt_bad hmain hb8)); (try (have hgood := fgt_good hmain hb8))
        refine g_skip rfl rfl rfl ?_
        refine g_nocall rfl rfl rfl ?_
        refine g_skip rfl rfl rfl ?_
        refine g_step rfl rfl rfl rfl (e_pickT (v := .sc _) rfl rfl) trivial ?_
        refine g_step rfl rfl rfl rfl (e_move (v := .sc _) rfl) trivial ?_
        refine g_skip rfl rfl rfl ?_
        refine g_nocall rfl rfl rfl ?_
        refine g_skip rfl rfl rfl ?_
        refine g_step rfl rfl rfl rfl (e_pickT (v := .sc _) rfl rfl) trivial ?_
        refine g_end (ds := [22, 23, 24, 27, 28, 29, 32, 33, 34]) rfl rfl (hK6 _ ?_); clear hK6 K6
        exact seq_norm (hK4 _ ⟨rfl, rfl, rfl, trivial⟩ ⟨(congrArg PV.bool (show (true : Bool) = ((((!(shortB (evs))) || (decide ((30) < ((p).size : Int)))) || (decide ((recE (evs)) ≠ (0)))) || (!(decide (0 ≤ day ∧ day ≤ 20000)))) by first | rfl | ((try rw [hb8R]) <;> (try rw [hb7R]) <;> (first | rfl | (simp only [Bool.and_true, Bool.and_false, Bool.true_and, Bool.false_and, Bool.or_true, Bool.or_false, Bool.true_or, Bool.false_or, Bool.not_true, Bool.not_false, if_true, if_false, Bool.false_eq_true, reduceIte] <;> rfl))) | (simp only [hb7R, hb8R, Bool.and_true, Bool.and_false, Bool.true_and, Bool.false_and, Bool.or_true, Bool.or_false, Bool.true_or, Bool.false_or, Bool.not_true, Bool.not_false, if_true, if_false, Bool.false_eq_true, reduceIte] <;> rfl))), trivial⟩)
      · have hb8R := hb8; (try simp only [z1, z2, z3, z4, z5, z6, ne_eq, z7, z8, z9, z10, z11, z12] at hb8); (try (have hlen405 := short_len hb8)); (try (have hlen405 := short_len hb8.1)); (try (have hlen405 := short_len hb8.1.1)); (try (have hlen405 := short_len hb8.1.1.1)); (try (have hmain := fgt_main hb8)); (try (have hbad := fgt_bad hmain hb8)); (try (have hgood := fgt_good hmain hb8))
        refine g_step rfl rfl rfl rfl (e_move (v := .lit _ _ _) rfl) trivial ?_
        refine g_call rfl rfl rfl rfl (.cons inn_lit .nil) (refCheckRecord _ hlen405) ?_
        refine g_step rfl rfl rfl rfl (e_ne rfl rfl) trivial ?_
        refine g_step rfl rfl rfl rfl (e_pickF (v := .sc _) rfl rfl) trivial ?_
        refine g_step rfl rfl rfl rfl (e_move (v := .sc _) rfl) trivial ?_
        refine g_cases (fun hb9 => ?_) (fun hb9 => ?_)
        · have hb9R := hb9; (try simp only [z1, z2, z3, z4, z5, z6, ne_eq, z7, z8, z9, z10, z11, z12] at hb9); (try (have hlen405 := short_len hb9)); (try (have hlen405 := short_len hb9.1)); (try (have hlen405 := short_len hb9.1.1)); (try (have hlen405 := short_len hb9.1.1.1)); (try (have hmain := fgt_main hb9)); (try (have hbad := fgt_bad hmain hb9)); (try (have hgood := fgt_good hmain hb9))
          refine g_skip rfl rfl rfl ?_
          refine g_nocall rfl rfl rfl ?_
          refine g_skip rfl rfl rfl ?_
          refine g_step rfl rfl rfl rfl (e_pickT (v := .sc _) rfl rfl) trivial ?_
          refine g_end (ds := [22, 23, 24, 27, 28, 29, 32, 33, 34]) rfl rfl (hK6 _ ?_); clear hK6 K6
          exact seq_norm (hK4 _ ⟨rfl, rfl, rfl, trivial⟩ ⟨(congrArg PV.bool (show (true : Bool) = ((((!(shortB (evs))) || (decide ((30) < ((p).size : Int)))) || (decide ((recE (evs)) ≠ (0)))) || (!(decide (0 ≤ day ∧ day ≤ 20000)))) by first | rfl | ((try rw [hb9R]) <;> (try rw [hb8R]) <;> (try rw [hb7R]) <;> (first | rfl | (simp only [Bool.and_true, Bool.and_false, Bool.true_and, Bool.false_and, Bool.or_true, Bool.or_false, Bool.true_or, Bool.false_or, Bool.not_true, Bool.not_false, if_true, if_false, Bool.false_eq_true, reduceIte] <;> rfl))) | (simp only [hb7R, hb8R, hb9R, Bool.and_true, Bool.and_false, Bool.true_and, Bool.false_and, Bool.or_true, Bool.or_false, Bool.true_or, Bool.false_or, Bool.not_true, Bool.not_false, if_true, if_false, Bool.false_eq_true, reduceIte] <;> rfl))), trivial⟩)
        · have hb9R := hb9; (try simp only [z1, z2, z3, z4, z5, z6, ne_eq, z7, z8, z9, z10, z11, z12] at hb9); (try (have hlen405 := short_len hb9)); (try (have hlen405 := short_len hb9.1)); (try (have hlen405 := short_len hb9.1.1)); (try (have hlen405 := short_len hb9.1.1.1)); (try (have hmain := fgt_main hb9)); (try (have hbad := fgt_bad hmain hb9)); (try (have hgood := fgt_good hmain hb9))
          refine g_step rfl rfl rfl rfl (e_move (v := .sc _) rfl) trivial ?_
          refine g_call rfl rfl rfl rfl (.cons inn_sc .nil) (IsDay _) ?_
          refine g_step rfl rfl rfl rfl (e_not rfl) trivial ?_
          refine g_step rfl rfl rfl rfl (e_pickF (v := .sc _) rfl rfl) trivial ?_
          refine g_end (ds := [22, 23, 24, 27, 28, 29, 32, 33, 34]) rfl rfl (hK6 _ ?_); clear hK6 K6
          exact seq_norm (hK4 _ ⟨rfl, rfl, rfl, trivial⟩ ⟨(congrArg PV.bool (show ((!(decide (0 ≤ day ∧ day ≤ 20000))) : Bool) = ((((!(shortB (evs))) || (decide ((30) < ((p).size : Int)))) || (decide ((recE (evs)) ≠ (0)))) || (!(decide (0 ≤ day ∧ day ≤ 20000)))) by first | rfl | ((try rw [hb9R]) <;> (try rw [hb8R]) <;> (try rw [hb7R]) <;> (first | rfl | (simp only [Bool.and_true, Bool.and_false, Bool.true_and, Bool.false_and, Bool.or_true, Bool.or_false, Bool.true_or, Bool.false_or, Bool.not_true, Bool.not_false, if_true, if_false, Bool.false_eq_true, reduceIte] <;> rfl))) | (simp only [hb7R, hb8R, hb9R, Bool.and_true, Bool.and_false, Bool.true_and, Bool.false_and, Bool.or_true, Bool.or_false, Bool.true_or, Bool.false_or, Bool.not_true, Bool.not_false, if_true, if_false, Bool.false_eq_true, reduceIte] <;> rfl))), trivial⟩)
  · skip
    refine pwp_seq_cond rfl fun K10 hK10 => ⟨fun hb11 => ?_, fun hb11 => ?_⟩
    · have hb11R := hb11; (try simp only [z1, z2, z3, z4, z5, z6, ne_eq, z7, z8, z9, z10, z11, z12] at hb11); (try (have hlen405 := short_len hb11)); (try (have hlen405 := short_len hb11.1)); (try (have hlen405 := short_len hb11.1.1)); (try (have hlen405 := short_len hb11.1.1.1)); (try (have hmain := fgt_main hb11)); (try (have hbad := fgt_bad hmain hb11)); (try (have hgood := fgt_good hmain hb11))
      refine pwp_seq_plain rfl fun K12 hK12 => ?_
      refine p_step rfl (e_assign (v := .sc _) rfl) trivial ?_
      refine p_end (hK12 _ ?_); clear hK12 K12
      refine pwp_ret ?_
      refine ret_seq ?_
      refine end1 (v := .sc _) rfl ?_
      first
        | exact out_b rfl
        | (obtain ⟨h1, h2 | ⟨h2, h3⟩⟩ := hbad <;> (first | exact out_b (by simp_all) | (exfalso; simp_all; done)))
        | (obtain ⟨h1, h2, h3, h4, h5⟩ := hgood; first | exact out_b (by simp_all) | (exfalso; simp_all; done))
    · have hb11R := hb11; (try simp only [z1, z2, z3, z4, z5, z6, ne_eq, z7, z8, z9, z10, z11, z12] at hb11); (try (have hlen405 := short_len hb11)); (try (have hlen405 := short_len hb11.1)); (try (have hlen405 := short_len hb11.1.1)); (try (have hlen405 := short_len hb11.1.1.1)); (try (have hmain := fgt_main hb11)); (try (have hbad := fgt_bad hmain hb11)); (try (have hgood := fgt_good hmain hb11))
      refine pwp_skip ?_
      refine seq_norm (hK10 _ ?_); clear hK10 K10
      refine pwp_seq_plain rfl fun K13 hK13 => ?_
      refine p_step rfl (e_move (v := .lit _ _ _) rfl) trivial ?_
      refine p_step rfl (e_move (v := .sc _) rfl) trivial ?_
      refine p_call rfl (.cons inn_lit (.cons inn_sc .nil)) (Upto _ _ hlen405) ?_
      refine p_step rfl (e_assign (v := .lit _ _ _) rfl) trivial ?_
      refine p_end (hK13 _ ?_); clear hK13 K13
      refine pwp_seq_plain rfl fun K14 hK14 => ?_
      refine p_step rfl (e_move (v := .lit _ _ _) rfl) trivial ?_
      refine p_call rfl (.cons inn_lit .nil) (copied _ (by first | exact hlen405 | exact upto_405 hlen405 | exact fgt_len hlen405 hmain)) ?_
      refine p_step rfl (e_move (v := .sc _) rfl) trivial ?_
      refine p_step rfl (e_move (v := .sc _) rfl) trivial ?_
      refine p_call rfl (.cons inn_lit (.cons inn_sc (.cons inn_sc .nil))) (Reasons _ _ _ (by first | exact hlen405 | exact upto_405 hlen405 | exact fgt_len hlen405 hmain)) ?_
      refine p_step rfl (e_move (v := .tup _) rfl) trivial ?_
      refine p_step rfl (e_ext (v := .lit _ _ _) rfl (by simp) rfl) trivial ?_
      refine p_step rfl (e_ext (v := .sc _) rfl (by simp) rfl) trivial ?_
      refine p_step rfl (e_assign (v := .lit _ _ _) rfl) trivial ?_
      refine p_step rfl (e_assign (v := .sc _) rfl) trivial ?_
      refine p_end (hK14 _ ?_); clear hK14 K14
      refine pwp_seq_plain rfl fun K15 hK15 => ?_
      refine p_step rfl (e_move (v := .lit _ _ _) rfl) trivial ?_
      refine p_call rfl (.cons inn_lit .nil) (copied _ (by first | exact hlen405 | exact upto_405 hlen405 | exact fgt_len hlen405 hmain)) ?_
      refine p_step rfl (e_move (v := .sc _) rfl) trivial ?_
      refine p_step rfl (e_move (v := .sc _) rfl) trivial ?_
      refine p_call rfl (.cons inn_lit (.cons inn_sc (.cons inn_sc .nil))) (Reasons _ _ _ (by first | exact hlen405 | exact upto_405 hlen405 | exact fgt_len hlen405 hmain)) ?_
      refine p_step rfl (e_move (v := .tup _) rfl) trivial ?_
      refine p_step rfl (e_ext (v := .lit _ _ _) rfl (by simp) rfl) trivial ?_
      refine p_step rfl (e_ext (v := .sc _) rfl (by simp) rfl) trivial ?_
      refine p_step rfl (e_assign (v := .lit _ _ _) rfl) trivial ?_
      refine p_step rfl (e_assign (v := .sc _) rfl) trivial ?_
      refine p_end (hK15 _ ?_); clear hK15 K15
      refine pwp_seq_seq ?_
      refine pwp_seq_plain rfl fun K16 hK16 => ?_
      refine p_step rfl (e_move (v := .sc _) rfl) trivial ?_
      refine p_step rfl (e_ne rfl rfl) trivial ?_
      refine p_end (hK16 _ ?_); clear hK16 K16
      refine pwp_seq_cond rfl fun K17 hK17 => ⟨fun hb18 => ?_, fun hb18 => ?_⟩
      · have hb18R := hb18; (try simp only [z1, z2, z3, z4, z5, z6, ne_eq, z7, z8, z9, z10, z11, z12] at hb18); (try (have hlen405 := short_len hb18)); (try (have hlen405 := short_len hb18.1)); (try (have hlen405 := short_len hb18.1.1)); (try (have hlen405 := short_len hb18.1.1.1)); (try (have hmain := fgt_main hb18)); (try (have hbad := fgt_bad hmain hb18)); (try (have hgood := fgt_good hmain hb18))
        refine pwp_seq_gops rfl fun K19 hK19 => ?_
        refine s_begin ?_
        refine s_step [] (by simp) rfl rfl rfl rfl (e_move (v := .sc _) rfl) trivial ?_
        refine s_step [] (by simp) rfl rfl rfl rfl (e_eq rfl rfl) trivial ?_
        refine s_step [] (by simp) rfl rfl rfl rfl (e_move (v := .sc _) rfl) trivial ?_
        refine s_cases (fun hb20 => ?_) (fun hb20 => ?_)
        · have hb20R := hb20; (try simp only [z1, z2, z3, z4, z5, z6, ne_eq, z7, z8, z9, z10, z11, z12] at hb20); (try (have hlen405 := short_len hb20)); (try (have hlen405 := short_len hb20.1)); (try (have hlen405 := short_len hb20.1.1)); (try (have hlen405 := short_len hb20.1.1.1)); (try (have hmain := fgt_main hb20)); (try (have hbad := fgt_bad hmain hb20)); (try (have hgood := fgt_good hmain hb20))
          refine s_step [] (by simp) rfl rfl rfl rfl (e_move (v := .sc _) rfl) trivial ?_
          refine s_step [] (by simp) rfl rfl rfl rfl (e_eq rfl rfl) trivial ?_
          refine s_step [] (by simp) rfl rfl rfl rfl (e_move (v := .sc _) rfl) trivial ?_
          refine s_cases (fun hb21 => ?_) (fun hb21 => ?_)
          · have hb21R := hb21; (try simp only [z1, z2, z3, z4, z5, z6, ne_eq, z7, z8, z9, z10, z11, z12] at hb21); (try (have hlen405 := short_len hb21)); (try (have hlen405 := short_len hb21.1)); (try (have hlen405 := short_len hb21.1.1)); (try (have hlen405 := short_len hb21.1.1.1)); (try (have hmain := fgt_main hb21)); (try (have hbad := fgt_bad hmain hb21)); (try (have hgood := fgt_good hmain hb21))
            refine s_skip rfl rfl rfl ?_
            refine s_skip rfl rfl rfl ?_
            refine s_skip rfl rfl rfl ?_
            refine s_skip rfl rfl rfl ?_
            refine s_skip rfl rfl rfl ?_
            refine s_nocall (args := [.dead, .dead]) [] (by intro k hk; simp [keysOf, Go.Pv.keyOf] at hk) rfl rfl rfl ?_
            refine s_skip rfl rfl rfl ?_
            refine s_step [] (by simp) rfl rfl rfl rfl (e_pickT (v := .sc _) rfl rfl) trivial ?_
            refine s_step [] (by simp) rfl rfl rfl rfl (e_pickT (v := .sc _) rfl rfl) trivial ?_
            refine s_step [] (by simp) rfl rfl rfl rfl (e_assign (v := .sc _) rfl) trivial ?_
            refine s_end (ds := [60, 61, 62, 63, 64, 65, 66, 67, 68, 69, 70]) (by kernel_rfl) (by kernel_rfl) (hK19 _ ?_); clear hK19 K19
            refine pwp_ret ?_
            refine ret_seq ?_
            refine end1 (v := .sc _) rfl ?_
            first
              | exact out_b rfl
              | (obtain ⟨h1, h2 | ⟨h2, h3⟩⟩ := hbad <;> (first | exact out_b (by simp_all) | (exfalso; simp_all; done)))
              | (obtain ⟨h1, h2, h3, h4, h5⟩ := hgood; first | exact out_b (by simp_all) | (exfalso; simp_all; done))
          · have hb21R := hb21; (try simp only [z1, z2, z3, z4, z5, z6, ne_eq, z7, z8, z9, z10, z11, z12] at hb21); (try (have hlen405 := short_len hb21)); (try (have hlen405 := short_len hb21.1)); (try (have hlen405 := short_len hb21.1.1)); (try (have hlen405 := short_len hb21.1.1.1)); (try (have hmain := fgt_main hb21)); (try (have hbad := fgt_bad hmain hb21)); (try (have hgood := fgt_good hmain hb21))
            refine s_step [] (by simp) rfl rfl rfl rfl (e_move (v := .sc _) rfl) trivial ?_
            refine s_step [] (by simp) rfl rfl rfl rfl (e_eq rfl rfl) trivial ?_
            refine s_step [] (by simp) rfl rfl rfl rfl (e_move (v := .sc _) rfl) trivial ?_
            refine s_cases (fun hb22 => ?_) (fun hb22 => ?_)
            · have hb22R := hb22; (try simp only [z1, z2, z3, z4, z5, z6, ne_eq, z7, z8, z9, z10, z11, z12] at hb22); (try (have hlen405 := short_len hb22)); (try (have hlen405 := short_len hb22.1)); (try (have hlen405 := short_len hb22.1.1)); (try (have hlen405 := short_len hb22.1.1.1)); (try (have hmain := fgt_main hb22)); (try (have hbad := fgt_bad hmain hb22)); (try (have hgood := fgt_good hmain hb22))
              refine s_step [] (by simp) rfl rfl rfl rfl (e_move (v := .lit _ _ _) rfl) trivial ?_
              refine s_new [] (by simp) rfl rfl rfl rfl (e_bslice (rows := (([0, 1, 2] : List Int).map ci)) (zs := [.int 0]) (sz := 1) (by kernel_rfl) (by kernel_rfl) rfl (by kernel_rfl) (by decide) rfl rfl (by exact ⟨by decide, rfl, rfl, ⟨by decide, rfl, rfl, ⟨by decide, rfl, rfl, trivial⟩⟩⟩) rfl) trivial ?_
              refine s_call (args := [.lit _ _ _, .ref _ _ _ _]) [67] (by intro k hk; simp [keysOf, Go.Pv.keyOf] at hk; try (subst hk; simp)) rfl rfl rfl rfl (.cons inn_lit (.cons (inn_ref (rows := (([0, 1, 2] : List Int).map ci)) (hset_self _ _ _) (by simp) rfl (by exact pure_map ci_pure)) .nil)) (Ints _ [0, 1, 2] (reaT_len _ _ _)) ?_
              refine s_step [] (by simp) rfl rfl rfl rfl (e_pickT (v := .sc _) rfl rfl) trivial ?_
              refine s_step [] (by simp) rfl rfl rfl rfl (e_pickF (v := .sc _) rfl rfl) trivial ?_
              refine s_step [] (by simp) rfl rfl rfl rfl (e_pickT (v := .sc _) rfl rfl) trivial ?_
              refine s_step [] (by simp) rfl rfl rfl rfl (e_assign (v := .sc _) rfl) trivial ?_
              refine s_end (ds := [60, 61, 62, 63, 64, 65, 66, 67, 68, 69, 70]) (by kernel_rfl) (by kernel_rfl) (hK19 _ ?_); clear hK19 K19
              refine pwp_ret ?_
              refine ret_seq ?_
              refine end1 (v := .sc _) rfl ?_
              first
                | exact out_b rfl
                | (obtain ⟨h1, h2 | ⟨h2, h3⟩⟩ := hbad <;> (first | exact out_b (by simp_all) | (exfalso; simp_all; done)))
                | (obtain ⟨h1, h2, h3, h4, h5⟩ := hgood; first | exact out_b (by simp_all) | (exfalso; simp_all; done))
            · have hb22R := hb22; (try simp only [z1, z2, z3, z4, z5, z6, ne_eq, z7, z8, z9, z10, z11, z12] at hb22); (try (have hlen405 := short_len hb22)); (try (have hlen405 := short_len hb22.1)); (try (have hlen405 := short_len hb22.1.1)); (try (have hlen405 := short_len hb22.1.1.1)); (try (have hmain := fgt_main hb22)); (try (have hbad := fgt_bad hmain hb22)); (try (have hgood := fgt_good hmain hb22))
              refine s_skip rfl rfl rfl ?_
              refine s_skip rfl rfl rfl ?_
              refine s_nocall (args := [.dead, .dead]) [] (by intro k hk; simp [keysOf, Go.Pv.keyOf] at hk) rfl rfl rfl ?_
              refine s_step [] (by simp) rfl rfl rfl rfl (e_pickF (v := .sc _) rfl rfl) trivial ?_
              refine s_step [] (by simp) rfl rfl rfl rfl (e_pickF (v := .sc _) rfl rfl) trivial ?_
              refine s_step [] (by simp) rfl rfl rfl rfl (e_pickT (v := .sc _) rfl rfl) trivial ?_
              refine s_step [] (by simp) rfl rfl rfl rfl (e_assign (v := .sc _) rfl) trivial ?_
              refine s_end (ds := [60, 61, 62, 63, 64, 65, 66, 67, 68, 69, 70]) (by kernel_rfl) (by kernel_rfl) (hK19 _ ?_); clear hK19 K19
              refine pwp_ret ?_
              refine ret_seq ?_
              refine end1 (v := .sc _) rfl ?_
              first
                | exact out_b rfl
                | (obtain ⟨h1, h2 | ⟨h2, h3⟩⟩ := hbad <;> (first | exact out_b (by simp_all) | (exfalso; simp_all; done)))
                | (obtain ⟨h1, h2, h3, h4, h5⟩ := hgood; first | exact out_b (by simp_all) | (exfalso; simp_all; done))
        · have hb20R := hb20; (try simp only [z1, z2, z3, z4, z5, z6, ne_eq, z7, z8, z9, z10, z11, z12] at hb20); (try (have hlen405 := short_len hb20)); (try (have hlen405 := short_len hb20.1)); (try (have hlen405 := short_len hb20.1.1)); (try (have hlen405 := short_len hb20.1.1.1)); (try (have hmain := fgt_main hb20)); (try (have hbad := fgt_bad hmain hb20)); (try (have hgood := fgt_good hmain hb20))
          refine s_skip rfl rfl rfl ?_
          refine s_skip rfl rfl rfl ?_
          refine s_skip rfl rfl rfl ?_
          refine s_skip rfl rfl rfl ?_
          refine s_skip rfl rfl rfl ?_
          refine s_skip rfl rfl rfl ?_
          refine s_skip rfl rfl rfl ?_
          refine s_skip rfl rfl rfl ?_
          refine s_nocall (args := [.dead, .dead]) [] (by intro k hk; simp [keysOf, Go.Pv.keyOf] at hk) rfl rfl rfl ?_
          refine s_skip rfl rfl rfl ?_
          refine s_skip rfl rfl rfl ?_
          refine s_step [] (by simp) rfl rfl rfl rfl (e_pickF (v := .sc _) rfl rfl) trivial ?_
          refine s_step [] (by simp) rfl rfl rfl rfl (e_assign (v := .sc _) rfl) trivial ?_
          refine s_end (ds := [60, 61, 62, 63, 64, 65, 66, 67, 68, 69, 70]) (by kernel_rfl) (by kernel_rfl) (hK19 _ ?_); clear hK19 K19
          refine pwp_ret ?_
          refine ret_seq ?_
          refine end1 (v := .sc _) rfl ?_
          first
            | exact out_b rfl
            | (obtain ⟨h1, h2 | ⟨h2, h3⟩⟩ := hbad <;> (first | exact out_b (by simp_all) | (exfalso; simp_all; done)))
            | (obtain ⟨h1, h2, h3, h4, h5⟩ := hgood; first | exact out_b (by simp_all) | (exfalso; simp_all; done))
      · have hb18R := hb18; (try simp only [z1, z2, z3, z4, z5, z6, ne_eq, z7, z8, z9, z10, z11, z12] at hb18); (try (have hlen405 := short_len hb18)); (try (have hlen405 := short_len hb18.1)); (try (have hlen405 := short_len hb18.1.1)); (try (have hlen405 := short_len hb18.1.1.1)); (try (have hmain := fgt_main hb18)); (try (have hbad := fgt_bad hmain hb18)); (try (have hgood := fgt_good hmain hb18))
        refine pwp_skip ?_
        refine seq_norm (hK17 _ ?_); clear hK17 K17
        refine pwp_seq_seq ?_
        refine pwp_seq_cutG [1, 2, 7] [(79, .bool ((decide ((askE (evs) p day) ≠ (0))) || (!(decide ((reaT (evs) p day) = (reaT (uptoE (evs) day) p day))))))] (fun K23 hK23 => ?_) (fun r24 => ?_)
        · skip
          refine pwp_gops rfl fun K25 hK25 => ?_
          refine g_begin ?_
          refine g_step rfl rfl rfl rfl (e_move (v := .sc _) rfl) trivial ?_
          refine g_step rfl rfl rfl rfl (e_ne rfl rfl) trivial ?_
          refine g_step rfl rfl rfl rfl (e_move (v := .sc _) rfl) trivial ?_
          refine g_cases (fun hb26 => ?_) (fun hb26 => ?_)
          · have hb26R := hb26; (try simp only [z1, z2, z3, z4, z5, z6, ne_eq, z7, z8, z9, z10, z11, z12] at hb26); (try (have hlen405 := short_len hb26)); (try (have hlen405 := short_len hb26.1)); (try (have hlen405 := short_len hb26.1.1)); (try (have hlen405 := short_len hb26.1.1.1)); (try (have hmain := fgt_main hb26)); (try (have hbad := fgt_bad hmain hb26)); (try (have hgood := fgt_good hmain hb26))
            refine g_skip rfl rfl rfl ?_
            refine g_skip rfl rfl rfl ?_
            refine g_nocall rfl rfl rfl ?_
            refine g_skip rfl rfl rfl ?_
            refine g_step rfl rfl rfl rfl (e_pickT (v := .sc _) rfl rfl) trivial ?_
            refine g_end (ds := [75, 76, 77, 78]) rfl rfl (hK25 _ ?_); clear hK25 K25
            exact seq_norm (hK23 _ ⟨rfl, rfl, rfl, trivial⟩ ⟨(congrArg PV.bool (show (true : Bool) = ((decide ((askE (evs) p day) ≠ (0))) || (!(decide ((reaT (evs) p day) = (reaT (uptoE (evs) day) p day))))) by first | rfl | ((try rw [hb26R]) <;> (first | rfl | (simp only [Bool.and_true, Bool.and_false, Bool.true_and, Bool.false_and, Bool.or_true, Bool.or_false, Bool.true_or, Bool.false_or, Bool.not_true, Bool.not_false, if_true, if_false, Bool.false_eq_true, reduceIte] <;> rfl))) | (simp only [hb26R, Bool.and_true, Bool.and_false, Bool.true_and, Bool.false_and, Bool.or_true, Bool.or_false, Bool.true_or, Bool.false_or, Bool.not_true, Bool.not_false, if_true, if_false, Bool.false_eq_true, reduceIte] <;> rfl))), trivial⟩)
          · have hb26R := hb26; (try simp only [z1, z2, z3, z4, z5, z6, ne_eq, z7, z8, z9, z10, z11, z12] at hb26); (try (have hlen405 := short_len hb26)); (try (have hlen405 := short_len hb26.1)); (try (have hlen405 := short_len hb26.1.1)); (try (have hlen405 := short_len hb26.1.1.1)); (try (have hmain := fgt_main hb26)); (try (have hbad := fgt_bad hmain hb26)); (try (have hgood := fgt_good hmain hb26))
            refine g_step rfl rfl rfl rfl (e_move (v := .lit _ _ _) rfl) trivial ?_
            refine g_step rfl rfl rfl rfl (e_move (v := .lit _ _ _) rfl) trivial ?_
            refine g_call rfl rfl rfl rfl (.cons inn_lit (.cons inn_lit .nil)) (Ints _ _ (reaT_len _ _ _)) ?_
            refine g_step rfl rfl rfl rfl (e_not rfl) trivial ?_
            refine g_step rfl rfl rfl rfl (e_pickF (v := .sc _) rfl rfl) trivial ?_
            refine g_end (ds := [75, 76, 77, 78]) rfl rfl (hK25 _ ?_); clear hK25 K25
            exact seq_norm (hK23 _ ⟨rfl, rfl, rfl, trivial⟩ ⟨(congrArg PV.bool (show ((!(decide ((reaT (evs) p day) = (reaT (uptoE (evs) day) p day)))) : Bool) = ((decide ((askE (evs) p day) ≠ (0))) || (!(decide ((reaT (evs) p day) = (reaT (uptoE (evs) day) p day))))) by first | rfl | ((try rw [hb26R]) <;> (first | rfl | (simp only [Bool.and_true, Bool.and_false, Bool.true_and, Bool.false_and, Bool.or_true, Bool.or_false, Bool.true_or, Bool.false_or, Bool.not_true, Bool.not_false, if_true, if_false, Bool.false_eq_true, reduceIte] <;> rfl))) | (simp only [hb26R, Bool.and_true, Bool.and_false, Bool.true_and, Bool.false_and, Bool.or_true, Bool.or_false, Bool.true_or, Bool.false_or, Bool.not_true, Bool.not_false, if_true, if_false, Bool.false_eq_true, reduceIte] <;> rfl))), trivial⟩)
        · skip
          refine pwp_seq_cond rfl fun K27 hK27 => ⟨fun hb28 => ?_, fun hb28 => ?_⟩
          · have hb28R := hb28; (try simp only [z1, z2, z3, z4, z5, z6, ne_eq, z7, z8, z9, z10, z11, z12] at hb28); (try (have hlen405 := short_len hb28)); (try (have hlen405 := short_len hb28.1)); (try (have hlen405 := short_len hb28.1.1)); (try (have hlen405 := short_len hb28.1.1.1)); (try (have hmain := fgt_main hb28)); (try (have hbad := fgt_bad hmain hb28)); (try (have hgood := fgt_good hmain hb28))
            refine pwp_seq_plain rfl fun K29 hK29 => ?_
            refine p_step rfl (e_assign (v := .sc _) rfl) trivial ?_
            refine p_end (hK29 _ ?_); clear hK29 K29
            refine pwp_ret ?_
            refine ret_seq ?_
            refine end1 (v := .sc _) rfl ?_
            first
              | exact out_b rfl
              | (obtain ⟨h1, h2 | ⟨h2, h3⟩⟩ := hbad <;> (first | exact out_b (by simp_all) | (exfalso; simp_all; done)))
              | (obtain ⟨h1, h2, h3, h4, h5⟩ := hgood; first | exact out_b (by simp_all) | (exfalso; simp_all; done))
          · have hb28R := hb28; (try simp only [z1, z2, z3, z4, z5, z6, ne_eq, z7, z8, z9, z10, z11, z12] at hb28); (try (have hlen405 := short_len hb28)); (try (have hlen405 := short_len hb28.1)); (try (have hlen405 := short_len hb28.1.1)); (try (have hlen405 := short_len hb28.1.1.1)); (try (have hmain := fgt_main hb28)); (try (have hbad := fgt_bad hmain hb28)); (try (have hgood := fgt_good hmain hb28))
            refine pwp_skip ?_
            refine seq_norm (hK27 _ ?_); clear hK27 K27
            refine pwp_seq_plain rfl fun K30 hK30 => ?_
            refine p_step rfl (e_move (v := .lit _ _ _) rfl) trivial ?_
            refine p_call rfl (.cons inn_lit .nil) (copied _ (by first | exact hlen405 | exact upto_405 hlen405 | exact fgt_len hlen405 hmain)) ?_
            refine p_step rfl (e_move (v := .sc _) rfl) trivial ?_
            refine p_step rfl (e_move (v := .sc _) rfl) trivial ?_
            refine p_step rfl (e_build (cs := Ev.enc (⟨day, (6), p, 0, false, false⟩ : Ev)) (zs := [.int 0, .int 0, .str ByteArray.empty, .int 0, .bool false, .bool false]) (pl := [(0, 1, false), (1, 1, false), (2, 1, false), (3, 1, false), (4, 1, false), (5, 1, false)]) (by kernel_rfl) (by kernel_rfl) (by kernel_rfl) rfl rfl (by exact ⟨by decide, rfl, Nat.le_of_ble_eq_true rfl, rfl, ⟨by decide, rfl, Nat.le_of_ble_eq_true rfl, rfl, ⟨by decide, rfl, Nat.le_of_ble_eq_true rfl, rfl, trivial⟩⟩⟩) rfl) trivial ?_
            refine p_call rfl (.cons inn_lit (.cons (inn_agg (Ev.pure _)) .nil)) (Add _ _ (fgt_404 hmain)) ?_
            refine p_step rfl (e_move (v := .tup _) rfl) trivial ?_
            refine p_step rfl (e_ext (v := .lit _ _ _) rfl (by simp) rfl) trivial ?_
            refine p_step rfl (e_ext (v := .sc _) rfl (by simp) rfl) trivial ?_
            refine p_step rfl (e_assign (v := .lit _ _ _) rfl) trivial ?_
            refine p_step rfl (e_assign (v := .sc _) rfl) trivial ?_
            refine p_end (hK30 _ ?_); clear hK30 K30
            refine pwp_seq_seq ?_
            refine pwp_seq_plain rfl fun K31 hK31 => ?_
            refine p_step rfl (e_move (v := .sc _) rfl) trivial ?_
            refine p_step rfl (e_ne rfl rfl) trivial ?_
            refine p_end (hK31 _ ?_); clear hK31 K31
            refine pwp_seq_cond rfl fun K32 hK32 => ⟨fun hb33 => ?_, fun hb33 => ?_⟩
            · have hb33R := hb33; (try simp only [z1, z2, z3, z4, z5, z6, ne_eq, z7, z8, z9, z10, z11, z12] at hb33); (try (have hlen405 := short_len hb33)); (try (have hlen405 := short_len hb33.1)); (try (have hlen405 := short_len hb33.1.1)); (try (have hlen405 := short_len hb33.1.1.1)); (try (have hmain := fgt_main hb33)); (try (have hbad := fgt_bad hmain hb33)); (try (have hgood := fgt_good hmain hb33))
              refine pwp_seq_plain rfl fun K34 hK34 => ?_
              refine p_step rfl (e_move (v := .sc _) rfl) trivial ?_
              refine p_step rfl (e_eq rfl rfl) trivial ?_
              refine p_step rfl (e_assign (v := .sc _) rfl) trivial ?_
              refine p_end (hK34 _ ?_); clear hK34 K34
              refine pwp_ret ?_
              refine ret_seq ?_
              refine end1 (v := .sc _) rfl ?_
              first
                | exact out_b rfl
                | (obtain ⟨h1, h2 | ⟨h2, h3⟩⟩ := hbad <;> (first | exact out_b (by simp_all) | (exfalso; simp_all; done)))
                | (obtain ⟨h1, h2, h3, h4, h5⟩ := hgood; first | exact out_b (by simp_all) | (exfalso; simp_all; done))
            · have hb33R := hb33; (try simp only [z1, z2, z3, z4, z5, z6, ne_eq, z7, z8, z9, z10, z11, z12] at hb33); (try (have hlen405 := short_len hb33)); (try (have hlen405 := short_len hb33.1)); (try (have hlen405 := short_len hb33.1.1)); (try (have hlen405 := short_len hb33.1.1.1)); (try (have hmain := fgt_main hb33)); (try (have hbad := fgt_bad hmain hb33)); (try (have hgood := fgt_good hmain hb33))
              refine pwp_skip ?_
              refine seq_norm (hK32 _ ?_); clear hK32 K32
              refine pwp_seq_plain rfl fun K35 hK35 => ?_
              refine p_step rfl (e_move (v := .lit _ _ _) rfl) trivial ?_
              refine p_step rfl (e_move (v := .sc _) rfl) trivial ?_
              refine p_step rfl (e_move (v := .sc _) rfl) trivial ?_
              refine p_call rfl (.cons inn_lit (.cons inn_sc (.cons inn_sc .nil))) (Tag _ _ _ (by first | exact hlen405 | exact upto_405 hlen405 | exact fgt_len hlen405 hmain)) ?_
              refine p_step rfl (e_move (v := .tup _) rfl) trivial ?_
              refine p_step rfl (e_ext (v := .sc _) rfl (by simp) rfl) trivial ?_
              refine p_step rfl (e_ext (v := .sc _) rfl (by simp) rfl) trivial ?_
              refine p_step rfl (e_assign (v := .sc _) rfl) trivial ?_
              refine p_step rfl (e_assign (v := .sc _) rfl) trivial ?_
              refine p_end (hK35 _ ?_); clear hK35 K35
              refine pwp_seq_cutG [] [(6, .bool ((decide ((askE (addL (uptoE (evs) day) (⟨day, (6), p, 0, false, false⟩ : Ev)) p day) = (0))) && (decide ((tagT (addL (uptoE (evs) day) (⟨day, (6), p, 0, false, false⟩ : Ev)) p day) = (0)))))] (fun K36 hK36 => ?_) (fun r37 => ?_)
              · skip
                refine pwp_gops rfl fun K38 hK38 => ?_
                refine g_begin ?_
                refine g_step rfl rfl rfl rfl (e_move (v := .sc _) rfl) trivial ?_
                refine g_step rfl rfl rfl rfl (e_eq rfl rfl) trivial ?_
                refine g_step rfl rfl rfl rfl (e_move (v := .sc _) rfl) trivial ?_
                refine g_cases (fun hb39 => ?_) (fun hb39 => ?_)
                · have hb39R := hb39; (try simp only [z1, z2, z3, z4, z5, z6, ne_eq, z7, z8, z9, z10, z11, z12] at hb39); (try (have hlen405 := short_len hb39)); (try (have hlen405 := short_len hb39.1)); (try (have hlen405 := short_len hb39.1.1)); (try (have hlen405 := short_len hb39.1.1.1)); (try (have hmain := fgt_main hb39)); (try (have hbad := fgt_bad hmain hb39)); (try (have hgood := fgt_good hmain hb39))
                  refine g_step rfl rfl rfl rfl (e_move (v := .sc _) rfl) trivial ?_
                  refine g_step rfl rfl rfl rfl (e_eq rfl rfl) trivial ?_
                  refine g_step rfl rfl rfl rfl (e_pickT (v := .sc _) rfl rfl) trivial ?_
                  refine g_step rfl rfl rfl rfl (e_assign (v := .sc _) rfl) trivial ?_
                  refine g_end (ds := [103, 104]) rfl rfl (hK38 _ ?_); clear hK38 K38
                  exact seq_norm (hK36 _ trivial ⟨(congrArg PV.bool (show ((decide ((tagT (addL (uptoE (evs) day) (⟨day, (6), p, 0, false, false⟩ : Ev)) p day) = (0))) : Bool) = ((decide ((askE (addL (uptoE (evs) day) (⟨day, (6), p, 0, false, false⟩ : Ev)) p day) = (0))) && (decide ((tagT (addL (uptoE (evs) day) (⟨day, (6), p, 0, false, false⟩ : Ev)) p day) = (0)))) by first | rfl | ((try rw [hb39R]) <;> (first | rfl | (simp only [Bool.and_true, Bool.and_false, Bool.true_and, Bool.false_and, Bool.or_true, Bool.or_false, Bool.true_or, Bool.false_or, Bool.not_true, Bool.not_false, if_true, if_false, Bool.false_eq_true, reduceIte] <;> rfl))) | (simp only [hb39R, Bool.and_true, Bool.and_false, Bool.true_and, Bool.false_and, Bool.or_true, Bool.or_false, Bool.true_or, Bool.false_or, Bool.not_true, Bool.not_false, if_true, if_false, Bool.false_eq_true, reduceIte] <;> rfl))), trivial⟩)
                · have hb39R := hb39; (try simp only [z1, z2, z3, z4, z5, z6, ne_eq, z7, z8, z9, z10, z11, z12] at hb39); (try (have hlen405 := short_len hb39)); (try (have hlen405 := short_len hb39.1)); (try (have hlen405 := short_len hb39.1.1)); (try (have hlen405 := short_len hb39.1.1.1)); (try (have hmain := fgt_main hb39)); (try (have hbad := fgt_bad hmain hb39)); (try (have hgood := fgt_good hmain hb39))
                  refine g_skip rfl rfl rfl ?_
                  refine g_skip rfl rfl rfl ?_
                  refine g_step rfl rfl rfl rfl (e_pickF (v := .sc _) rfl rfl) trivial ?_
                  refine g_step rfl rfl rfl rfl (e_assign (v := .sc _) rfl) trivial ?_
                  refine g_end (ds := [103, 104]) rfl rfl (hK38 _ ?_); clear hK38 K38
                  exact seq_norm (hK36 _ trivial ⟨(congrArg PV.bool (show (false : Bool) = ((decide ((askE (addL (uptoE (evs) day) (⟨day, (6), p, 0, false, false⟩ : Ev)) p day) = (0))) && (decide ((tagT (addL (uptoE (evs) day) (⟨day, (6), p, 0, false, false⟩ : Ev)) p day) = (0)))) by first | rfl | ((try rw [hb39R]) <;> (first | rfl | (simp only [Bool.and_true, Bool.and_false, Bool.true_and, Bool.false_and, Bool.or_true, Bool.or_false, Bool.true_or, Bool.false_or, Bool.not_true, Bool.not_false, if_true, if_false, Bool.false_eq_true, reduceIte] <;> rfl))) | (simp only [hb39R, Bool.and_true, Bool.and_false, Bool.true_and, Bool.false_and, Bool.or_true, Bool.or_false, Bool.true_or, Bool.false_or, Bool.not_true, Bool.not_false, if_true, if_false, Bool.false_eq_true, reduceIte] <;> rfl))), trivial⟩)
              · skip
                refine pwp_ret ?_
                refine end1 (v := .sc _) rfl ?_
                first
                  | exact out_b rfl
                  | (obtain ⟨h1, h2 | ⟨h2, h3⟩⟩ := hbad <;> (first | exact out_b (by simp_all) | (exfalso; simp_all; done)))
                  | (obtain ⟨h1, h2, h3, h4, h5⟩ := hgood; first | exact out_b (by simp_all) | (exfalso; simp_all; done))

end Go.Proofs.Ytdbpfhbppcpbbaa
