/- RecordReleases, as a contract on pure values. No conditions. -/
import Derived.Test.YtdbpfhbppcpbbaaAsk
import Derived.Test.YtdbpfhbppcpbbaaCor1
set_option linter.unusedSimpArgs false
set_option linter.unusedVariables false
set_option maxRecDepth 100000
namespace Go.Proofs.Ytdbpfhbppcpbbaa
open Go Go.Pv

/-! ### What the law reckons -/
structure Lw where
  ds : Bool
  hd : Bool
  fr : Int
  op : List Int
def outE (p : ByteArray) (day : Int) (x : Ev) : Prop := day < x.day ∨ (¬ x.platform = p ∧ ¬ x.kind = 3)
instance (p : ByteArray) (day : Int) (x : Ev) : Decidable (outE p day x) := inferInstanceAs (Decidable (_ ∨ _))
def lwStep (p : ByteArray) (day : Int) (s : Lw) (x : Ev) : Lw :=
  if outE p day x then s else if x.kind = 0 then { s with ds := true, hd := false } else if x.kind = 6 then { s with ds := false } else if x.kind = 3 then { s with fr := -1 }
  else if x.kind = 1 then { s with hd := x.passed, fr := inspE x } else if x.kind = 2 then { s with fr := inspE x }
  else if x.kind = 4 then { s with op := s.op ++ [x.number] } else if x.kind = 5 then { s with op := s.op.filter fun m => decide (¬ m = x.number) } else s
def lawL (p : ByteArray) (day : Int) (s : Lw) : List Ev → Lw
  | [] => s
  | x :: l => lawL p day (lwStep p day s x) l
theorem lw_on {S s s' : Lw} {p : ByteArray} {day : Int} {x : Ev} {l : List Ev} (h : S = lawL p day (lwStep p day s x) l) (he : lwStep p day s x = s') : S = lawL p day s' l := he ▸ h
section
variable {p : ByteArray} {day : Int} {d hd : Bool} {fr : Int} {op : List Int} {x : Ev}
theorem lw_out {s : Lw} (h : outE p day x) : lwStep p day s x = s := by rw [lwStep, if_pos h]
theorem lw_0 (h : ¬ outE p day x) (k : x.kind = 0) : lwStep p day ⟨d, hd, fr, op⟩ x = ⟨true, false, fr, op⟩ := by rw [lwStep, if_neg h, if_pos k]
theorem lw_6 (h : ¬ outE p day x) (k : x.kind = 6) : lwStep p day ⟨d, hd, fr, op⟩ x = ⟨false, hd, fr, op⟩ := by rw [lwStep, if_neg h, if_neg (by omega), if_pos k]
theorem lw_3 (h : ¬ outE p day x) (k : x.kind = 3) : lwStep p day ⟨d, hd, fr, op⟩ x = ⟨d, hd, -1, op⟩ := by rw [lwStep, if_neg h, if_neg (by omega), if_neg (by omega), if_pos k]
theorem lw_1p (h : ¬ outE p day x) (k : x.kind = 1) (hp : x.passed = true) : lwStep p day ⟨d, hd, fr, op⟩ x = ⟨d, x.passed, x.day, op⟩ := by rw [lwStep, if_neg h, if_neg (by omega), if_neg (by omega), if_neg (by omega), if_pos k, inspE, if_pos hp]
theorem lw_1n (h : ¬ outE p day x) (k : x.kind = 1) (hp : x.passed = false) : lwStep p day ⟨d, hd, fr, op⟩ x = ⟨d, x.passed, -1, op⟩ := by rw [lwStep, if_neg h, if_neg (by omega), if_neg (by omega), if_neg (by omega), if_pos k, inspE, if_neg (by simp [hp])]
theorem lw_2p (h : ¬ outE p day x) (k : x.kind = 2) (hp : x.passed = true) : lwStep p day ⟨d, hd, fr, op⟩ x = ⟨d, hd, x.day, op⟩ := by rw [lwStep, if_neg h, if_neg (by omega), if_neg (by omega), if_neg (by omega), if_neg (by omega), if_pos k, inspE, if_pos hp]
theorem lw_2n (h : ¬ outE p day x) (k : x.kind = 2) (hp : x.passed = false) : lwStep p day ⟨d, hd, fr, op⟩ x = ⟨d, hd, -1, op⟩ := by rw [lwStep, if_neg h, if_neg (by omega), if_neg (by omega), if_neg (by omega), if_neg (by omega), if_pos k, inspE, if_neg (by simp [hp])]
theorem lw_ip (h : ¬ outE p day x) (k : x.kind = 1 ∨ x.kind = 2) (hp : x.passed = true) : lwStep p day ⟨d, hd, fr, op⟩ x = ⟨d, if (decide (x.kind = 1)) = true then x.passed else hd, x.day, op⟩ := by
  rcases k with k | k
  · rw [lw_1p h k hp]; simp [k]
  · rw [lw_2p h k hp]; simp [k]
theorem lw_in (h : ¬ outE p day x) (k : x.kind = 1 ∨ x.kind = 2) (hp : x.passed = false) : lwStep p day ⟨d, hd, fr, op⟩ x = ⟨d, if (decide (x.kind = 1)) = true then x.passed else hd, -1, op⟩ := by
  rcases k with k | k
  · rw [lw_1n h k hp]; simp [k]
  · rw [lw_2n h k hp]; simp [k]
theorem lw_4 (h : ¬ outE p day x) (k : x.kind = 4) : lwStep p day ⟨d, hd, fr, op⟩ x = ⟨d, hd, fr, op ++ [x.number]⟩ := by rw [lwStep, if_neg h, if_neg (by omega), if_neg (by omega), if_neg (by omega), if_neg (by omega), if_neg (by omega), if_pos k]
theorem lw_5 {acc : List Int} (h : ¬ outE p day x) (k : x.kind = 5) (ha : acc = (op.take op.length).filter fun m => decide (¬ m = x.number)) : lwStep p day ⟨d, hd, fr, op⟩ x = ⟨d, hd, fr, acc⟩ := by
  rw [lwStep, if_neg h, if_neg (by omega), if_neg (by omega), if_neg (by omega), if_neg (by omega), if_neg (by omega), if_neg (by omega), if_pos k, ha, List.take_length]
theorem lw_n {s : Lw} (h : ¬ outE p day x) (k : ¬ x.kind = 0 ∧ ¬ x.kind = 6 ∧ ¬ x.kind = 3 ∧ ¬ x.kind = 1 ∧ ¬ x.kind = 2 ∧ ¬ x.kind = 4 ∧ ¬ x.kind = 5) : lwStep p day s x = s := by
  rw [lwStep, if_neg h, if_neg (by omega), if_neg (by omega), if_neg (by omega), if_neg (by omega), if_neg (by omega), if_neg (by omega), if_neg (by omega)]
end
theorem fil_yes {op acc : List Int} {j : Nat} {y n : Int} (hy : op[j]? = some y) (h : ¬ y = n) (ha : acc = (op.take j).filter fun m => decide (¬ m = n)) : acc ++ [y] = (op.take (j + 1)).filter fun m => decide (¬ m = n) := by
  rw [List.take_add_one, hy, List.filter_append, ← ha]; simp [h]
theorem fil_no {op acc : List Int} {j : Nat} {y n : Int} (hy : op[j]? = some y) (h : y = n) (ha : acc = (op.take j).filter fun m => decide (¬ m = n)) : acc = (op.take (j + 1)).filter fun m => decide (¬ m = n) := by
  rw [List.take_add_one, hy, List.filter_append, ← ha]; simp [h]
theorem not_out {p : ByteArray} {day : Int} {x : Ev} (h : ¬ day < x.day) (h2 : x.platform = p ∨ x.kind = 3) : ¬ outE p day x := by
  rintro (h3 | ⟨h3, h4⟩)
  · exact h h3
  · exact h2.elim h3 h4

/-! ### Both reckonings agree -/
structure RelLw (s : St) (w : Lw) : Prop where
  ds : w.ds = s.valid
  dz : s.valid = true → s.designed = true
  hd : s.designed = true → w.hd = s.handed
  fr : w.fr = s.inspected
  op : ∀ n ∈ w.op, n ∈ s.defs.map (·.1)
theorem aDel_mem {α β : Type} [DecidableEq α] {a x : α} : ∀ {l : List (α × β)}, x ∈ l.map (·.1) → ¬ x = a → x ∈ (aDel a l).map (·.1)
  | [], h, _ => by cases h
  | e :: l, h, hne => by
    unfold aDel
    rw [List.map_cons, List.mem_cons] at h
    split
    · rename_i ha
      rcases h with h | h
      · exact absurd (h.trans ha.symm) hne
      · exact h
    · rw [List.map_cons, List.mem_cons]
      rcases h with h | h
      · exact .inl h
      · exact .inr (aDel_mem h hne)
theorem rel_step {p : ByteArray} {day : Int} {s : St} {w : Lw} {x : Ev} (hp : p ≠ ⟨#[]⟩) (hb : ¬ badEv x) (hn : badNm x = false) (hd : ¬ day < x.day) (R : RelLw s w) : RelLw (stepE p s x) (lwStep p day w x) := by
  obtain ⟨d, hh, fr, op⟩ := w
  obtain ⟨r1, r2, r3, r4, r5⟩ := R
  simp only at r1 r3 r4 r5
  by_cases h3 : x.kind = 3
  · have hpl : ¬ x.platform = p := by
      unfold badNm at hn
      rw [if_pos h3] at hn
      simp at hn
      rw [hn]; exact fun h => hp h.symm
    rw [lw_3 (not_out hd (.inr h3)) h3]
    unfold stepE
    simp only [if_pos h3, if_neg hpl]
    exact ⟨r1, r2, r3, rfl, r5⟩
  · by_cases hpl : x.platform = p
    · have hno := not_out hd (.inl hpl)
      unfold stepE
      simp only [if_neg h3, if_pos hpl]
      have hk : 0 ≤ x.kind ∧ x.kind ≤ 6 := by unfold badEv at hb; omega
      have hk' : x.kind = 0 ∨ x.kind = 1 ∨ x.kind = 2 ∨ x.kind = 4 ∨ x.kind = 5 ∨ x.kind = 6 := by omega
      unfold takeE
      rcases hk' with k | k | k | k | k | k
      · rw [lw_0 hno k, if_pos k]
        exact ⟨rfl, fun _ => rfl, fun _ => rfl, r4, r5⟩
      · rw [if_neg (by omega), if_pos k]
        have hw : lwStep p day ⟨d, hh, fr, op⟩ x = ⟨d, x.passed, inspE x, op⟩ := by
          rw [lwStep, if_neg hno, if_neg (by omega), if_neg (by omega), if_neg (by omega), if_pos k]
        rw [hw]
        exact ⟨r1, r2, fun h => by show x.passed = (s.designed && x.passed); have h' : s.designed = true := h; rw [h']; rfl, rfl, r5⟩
      · rw [if_neg (by omega), if_neg (by omega), if_pos k]
        have hw : lwStep p day ⟨d, hh, fr, op⟩ x = ⟨d, hh, inspE x, op⟩ := by
          rw [lwStep, if_neg hno, if_neg (by omega), if_neg (by omega), if_neg (by omega), if_neg (by omega), if_pos k]
        rw [hw]
        exact ⟨r1, r2, r3, rfl, r5⟩
      · rw [lw_4 hno k, if_neg (by omega), if_neg (by omega), if_neg (by omega), if_pos k]
        refine ⟨r1, r2, r3, r4, fun n hn => (aSet_keys _ _ _ _).2 ?_⟩
        rcases List.mem_append.1 hn with h | h
        · exact .inr (r5 n h)
        · simp at h; exact .inl h
      · rw [if_neg (by omega), if_neg (by omega), if_neg (by omega), if_neg (by omega), if_pos k, lw_5 hno k rfl]
        refine ⟨r1, r2, r3, r4, fun n hn => ?_⟩
        rw [List.take_length] at hn
        obtain ⟨h1, h2⟩ := List.mem_filter.1 hn
        exact aDel_mem (r5 n h1) (by simpa using h2)
      · rw [lw_6 hno k, if_neg (by omega), if_neg (by omega), if_neg (by omega), if_neg (by omega), if_neg (by omega), if_pos k]
        exact ⟨rfl, fun h => (by cases h), r3, r4, r5⟩
    · rw [lw_out (.inr ⟨hpl, h3⟩)]
      unfold stepE
      simp only [if_neg h3, if_neg hpl]
      exact ⟨r1, r2, r3, r4, r5⟩
theorem law_late {p : ByteArray} {day : Int} : ∀ (l : List Ev) (w : Lw), (∀ e ∈ l, day < e.day) → lawL p day w l = w
  | [], _, _ => rfl
  | x :: l, w, h => by
    unfold lawL
    rw [lw_out (.inl (h x (by simp)))]
    exact law_late l w fun e he => h e (by simp [he])
theorem rel_all {p : ByteArray} {day : Int} (hp : p ≠ ⟨#[]⟩) : ∀ (l : List Ev) (s : St) (w : Lw), (∀ e ∈ l, ¬ badEv e ∧ badNm e = false) → (l.Pairwise fun a b => a.day ≤ b.day) → RelLw s w → RelLw (stO p day s l) (lawL p day w l)
  | [], _, _, _, _, R => R
  | x :: l, s, w, ho, hs, R => by
    rw [List.pairwise_cons] at hs
    by_cases hd : day < x.day
    · rw [law_late (x :: l) w fun e he => by
        rcases List.mem_cons.1 he with rfl | he
        · exact hd
        · have := hs.1 e he; omega]
      unfold stO
      rw [if_pos hd]; exact R
    · unfold stO lawL
      rw [if_neg hd]
      exact rel_all hp l _ _ (fun e he => ho e (by simp [he])) hs.2 (rel_step hp (ho x (by simp)).1 (ho x (by simp)).2 hd R)
theorem rsn_nil : ∀ {l : List Bool} {i : Int}, rsn i l = [] → ∀ b ∈ l, b = false
  | [], _, _, b, hb => by cases hb
  | a :: l, i, h, b, hb => by
    unfold rsn at h
    split at h
    · cases h
    · rename_i ha
      rcases List.mem_cons.1 hb with rfl | hb
      · simpa using ha
      · exact rsn_nil h b hb
theorem tag_2 {l : List Int} (h : tagE l = 2) : l = [] := by
  cases l with
  | nil => rfl
  | cons a l => unfold tagE at h; split at h <;> omega
/-- A green platform has its checks. -/
theorem green {evs : List Ev} {p : ByteArray} {day : Int} (hE : askE evs p day = 0) (hT : tagT evs p day = 2) {d hd : Bool} {fr : Int} {op : List Int} (hL : lawL p day ⟨false, false, -1, []⟩ evs = ⟨d, hd, fr, op⟩) :
    d = true ∧ hd = true ∧ 0 ≤ fr ∧ day - fr ≤ 7 ∧ op = [] := by
  obtain ⟨h1, h2, h3⟩ := ask_inv hE
  have ok := rec_ok h1
  have hp : p ≠ ⟨#[]⟩ := (plat_mem.1 (hasS_iff.1 h3)).1
  have R : RelLw (stateE p day evs) ⟨d, hd, fr, op⟩ := by
    rw [← hL]
    exact rel_all hp evs St0 _ ok.ev ok.days ⟨rfl, fun h => (by cases h), fun h => (by cases h), rfl, fun n hn => (by cases hn)⟩
  rw [tagT, if_pos hE] at hT
  have hr := rsn_nil (tag_2 hT)
  generalize stateE p day evs = s at R hr
  unfold bsE at hr
  have b1 := hr _ (List.mem_cons_self ..)
  have b2 := hr _ (List.mem_cons_of_mem _ (List.mem_cons_self ..))
  have b3 := hr _ (List.mem_cons_of_mem _ (List.mem_cons_of_mem _ (List.mem_cons_self ..)))
  have b4 := hr _ (List.mem_cons_of_mem _ (List.mem_cons_of_mem _ (List.mem_cons_of_mem _ (List.mem_cons_self ..))))
  have b5 := hr _ (List.mem_cons_of_mem _ (List.mem_cons_of_mem _ (List.mem_cons_of_mem _ (List.mem_cons_of_mem _ (List.mem_cons_self ..)))))
  have hv : s.valid = true := by simpa using b1
  have hh : s.handed = true := by simpa using b2
  simp only [Bool.or_eq_false_iff, decide_eq_false_iff_not] at b3
  have hdef : s.defs = [] := by
    cases hq : s.defs with
    | nil => rfl
    | cons e l =>
      rw [hq] at b4 b5
      simp only [List.any_cons, Bool.or_eq_false_iff] at b4 b5
      have h6 := b4.1
      have h7 := b5.1
      rw [h6] at h7; cases h7
  refine ⟨R.ds.trans hv, (R.hd (R.dz hv)).trans hh, ?_, ?_, ?_⟩
  · have := R.fr; simp only at this; rw [this]; omega
  · have := R.fr; simp only at this; rw [this]; omega
  · cases op with
    | nil => rfl
    | cons n l => have := R.op n (by simp); rw [hdef] at this; cases this

theorem fr5 : (inFrame Try.f5.ntmps (Try.f5.body.getD .skip) && Try.f5.results.toList.all (resScope Try.f5.ntmps)) = true := by kernel_rfl
theorem releases (evs : List Ev) (p : ByteArray) (day : Int) : PCalls Try.prog 5 [.lit true 6 (evs.map Ev.enc), .str p, .int day] (.bool true) := by
  refine PCalls.of_code Try.func5 rfl rfl (by kernel_rfl) mixed fr5 (by show _ ≤ 136; simp) (.sc _) ?_
  refine pwp_seq_plain rfl fun K1 hK1 => ?_
  refine p_step rfl (e_assign (v := .sc _) rfl) trivial ?_
  refine p_end (hK1 _ ?_); clear hK1 K1
  refine pwp_seq_seq ?_
  refine pwp_seq_plain rfl fun K2 hK2 => ?_
  refine p_call rfl .nil (awake) ?_
  refine p_step rfl (e_not rfl) trivial ?_
  refine p_end (hK2 _ ?_); clear hK2 K2
  refine pwp_seq_cond (t := false) rfl fun K3 hK3 => ⟨nofun, fun _ => ?_⟩
  refine pwp_skip ?_
  refine seq_norm (hK3 _ ?_); clear hK3 K3
  refine pwp_seq_seq ?_
  refine pwp_seq_cutG [0, 1, 2] [(26, .bool ((!(shortB (evs))) || (decide ((30) < ((p).size : Int)))))] (fun K4 hK4 => ?_) (fun r5 => ?_)
  · skip
    refine pwp_gops rfl fun K6 hK6 => ?_
    refine g_begin ?_
    refine g_step rfl rfl rfl rfl (e_move (v := .lit _ _ _) rfl) trivial ?_
    refine g_call rfl rfl rfl rfl (.cons inn_lit .nil) (short _) ?_
    refine g_step rfl rfl rfl rfl (e_not rfl) trivial ?_
    refine g_step rfl rfl rfl rfl (e_move (v := .sc _) rfl) trivial ?_
    refine g_cases (fun hb7 => ?_) (fun hb7 => ?_)
    · have hb7R := hb7; (try simp only [decide_eq_true_eq, decide_eq_false_iff_not, Bool.not_eq_true', Bool.not_eq_false', Int.not_lt, Int.not_le, ne_eq, Decidable.not_not, List.length_map, Bool.or_eq_true, Bool.and_eq_true, Bool.or_eq_false_iff, Bool.and_eq_false_iff] at hb7); (try (have hlen405 := short_len (evs := evs) hb7.1)); (try (have hE : askE evs p day = 0 := hb7.1; have hT : tagT evs p day = 2 := hb7.2)); (try (have hno := not_out (Int.not_lt.2 hb7.1) hb7.2))
      refine g_skip rfl rfl rfl ?_
      refine g_skip rfl rfl rfl ?_
      refine g_skip rfl rfl rfl ?_
      refine g_step rfl rfl rfl rfl (e_pickT (v := .sc _) rfl rfl) trivial ?_
      refine g_end (ds := [23, 24, 25]) rfl rfl (hK6 _ ?_); clear hK6 K6
      exact seq_norm (hK4 _ ⟨rfl, rfl, rfl, trivial⟩ ⟨(congrArg PV.bool (show (true : Bool) = ((!(shortB (evs))) || (decide ((30) < ((p).size : Int)))) by first | rfl | ((try rw [hb7R]) <;> (first | rfl | (simp only [Bool.and_true, Bool.and_false, Bool.true_and, Bool.false_and, Bool.or_true, Bool.or_false, Bool.true_or, Bool.false_or, Bool.not_true, Bool.not_false, if_true, if_false, Bool.false_eq_true, reduceIte] <;> rfl))) | (simp only [hb7R, Bool.and_true, Bool.and_false, Bool.true_and, Bool.false_and, Bool.or_true, Bool.or_false, Bool.true_or, Bool.false_or, Bool.not_true, Bool.not_false, if_true, if_false, Bool.false_eq_true, reduceIte] <;> rfl))), trivial⟩)
    · have hb7R := hb7; (try simp only [decide_eq_true_eq, decide_eq_false_iff_not, Bool.not_eq_true', Bool.not_eq_false', Int.not_lt, Int.not_le, ne_eq, Decidable.not_not, List.length_map, Bool.or_eq_true, Bool.and_eq_true, Bool.or_eq_false_iff, Bool.and_eq_false_iff] at hb7); (try (have hlen405 := short_len (evs := evs) hb7.1)); (try (have hE : askE evs p day = 0 := hb7.1; have hT : tagT evs p day = 2 := hb7.2)); (try (have hno := not_out (Int.not_lt.2 hb7.1) hb7.2))
      refine g_step rfl rfl rfl rfl (e_move (v := .sc _) rfl) trivial ?_
      refine g_step rfl rfl rfl rfl (e_lenS rfl (by kernel_rfl)) trivial ?_
      refine g_step rfl rfl rfl rfl (e_gt rfl rfl) trivial ?_
      refine g_step rfl rfl rfl rfl (e_pickF (v := .sc _) rfl rfl) trivial ?_
      refine g_end (ds := [23, 24, 25]) rfl rfl (hK6 _ ?_); clear hK6 K6
      exact seq_norm (hK4 _ ⟨rfl, rfl, rfl, trivial⟩ ⟨(congrArg PV.bool (show ((decide ((30) < ((p).size : Int))) : Bool) = ((!(shortB (evs))) || (decide ((30) < ((p).size : Int)))) by first | rfl | ((try rw [hb7R]) <;> (first | rfl | (simp only [Bool.and_true, Bool.and_false, Bool.true_and, Bool.false_and, Bool.or_true, Bool.or_false, Bool.true_or, Bool.false_or, Bool.not_true, Bool.not_false, if_true, if_false, Bool.false_eq_true, reduceIte] <;> rfl))) | (simp only [hb7R, Bool.and_true, Bool.and_false, Bool.true_and, Bool.false_and, Bool.or_true, Bool.or_false, Bool.true_or, Bool.false_or, Bool.not_true, Bool.not_false, if_true, if_false, Bool.false_eq_true, reduceIte] <;> rfl))), trivial⟩)
  · skip
    refine pwp_seq_cond rfl fun K8 hK8 => ⟨fun hb9 => ?_, fun hb9 => ?_⟩
    · have hb9R := hb9; (try simp only [decide_eq_true_eq, decide_eq_false_iff_not, Bool.not_eq_true', Bool.not_eq_false', Int.not_lt, Int.not_le, ne_eq, Decidable.not_not, List.length_map, Bool.or_eq_true, Bool.and_eq_true, Bool.or_eq_false_iff, Bool.and_eq_false_iff] at hb9); (try (have hlen405 := short_len (evs := evs) hb9.1)); (try (have hE : askE evs p day = 0 := hb9.1; have hT : tagT evs p day = 2 := hb9.2)); (try (have hno := not_out (Int.not_lt.2 hb9.1) hb9.2))
      refine pwp_seq_plain rfl fun K10 hK10 => ?_
      refine p_step rfl (e_assign (v := .sc _) rfl) trivial ?_
      refine p_end (hK10 _ ?_); clear hK10 K10
      refine pwp_ret ?_
      refine ret_seq ?_
      refine end1 (v := .sc _) rfl ?_
      first
        | exact out_b rfl
        | (obtain ⟨rfl, rfl, _, _, rfl⟩ := hgr; exact out_b (by simp_all))
        | (exfalso; obtain ⟨rfl, rfl, _, _, rfl⟩ := hgr; first | omega | simp_all)
    · have hb9R := hb9; (try simp only [decide_eq_true_eq, decide_eq_false_iff_not, Bool.not_eq_true', Bool.not_eq_false', Int.not_lt, Int.not_le, ne_eq, Decidable.not_not, List.length_map, Bool.or_eq_true, Bool.and_eq_true, Bool.or_eq_false_iff, Bool.and_eq_false_iff] at hb9); (try (have hlen405 := short_len (evs := evs) hb9.1)); (try (have hE : askE evs p day = 0 := hb9.1; have hT : tagT evs p day = 2 := hb9.2)); (try (have hno := not_out (Int.not_lt.2 hb9.1) hb9.2))
      refine pwp_skip ?_
      refine seq_norm (hK8 _ ?_); clear hK8 K8
      refine pwp_seq_plain rfl fun K11 hK11 => ?_
      refine p_step rfl (e_move (v := .lit _ _ _) rfl) trivial ?_
      refine p_call rfl (.cons inn_lit .nil) (copied _ hlen405) ?_
      refine p_step rfl (e_move (v := .sc _) rfl) trivial ?_
      refine p_step rfl (e_move (v := .sc _) rfl) trivial ?_
      refine p_call rfl (.cons inn_lit (.cons inn_sc (.cons inn_sc .nil))) (Tag _ _ _ hlen405) ?_
      refine p_step rfl (e_move (v := .tup _) rfl) trivial ?_
      refine p_step rfl (e_ext (v := .sc _) rfl (by simp) rfl) trivial ?_
      refine p_step rfl (e_ext (v := .sc _) rfl (by simp) rfl) trivial ?_
      refine p_step rfl (e_assign (v := .sc _) rfl) trivial ?_
      refine p_step rfl (e_assign (v := .sc _) rfl) trivial ?_
      refine p_end (hK11 _ ?_); clear hK11 K11
      refine pwp_seq_seq ?_
      refine pwp_seq_cutG [0, 1, 2] [(40, .bool ((decide ((askE (evs) p day) ≠ (0))) || (decide ((tagT (evs) p day) ≠ (2)))))] (fun K12 hK12 => ?_) (fun r13 => ?_)
      · skip
        refine pwp_gops rfl fun K14 hK14 => ?_
        refine g_begin ?_
        refine g_step rfl rfl rfl rfl (e_move (v := .sc _) rfl) trivial ?_
        refine g_step rfl rfl rfl rfl (e_ne rfl rfl) trivial ?_
        refine g_step rfl rfl rfl rfl (e_move (v := .sc _) rfl) trivial ?_
        refine g_cases (fun hb15 => ?_) (fun hb15 => ?_)
        · have hb15R := hb15; (try simp only [decide_eq_true_eq, decide_eq_false_iff_not, Bool.not_eq_true', Bool.not_eq_false', Int.not_lt, Int.not_le, ne_eq, Decidable.not_not, List.length_map, Bool.or_eq_true, Bool.and_eq_true, Bool.or_eq_false_iff, Bool.and_eq_false_iff] at hb15); (try (have hlen405 := short_len (evs := evs) hb15.1)); (try (have hE : askE evs p day = 0 := hb15.1; have hT : tagT evs p day = 2 := hb15.2)); (try (have hno := not_out (Int.not_lt.2 hb15.1) hb15.2))
          refine g_skip rfl rfl rfl ?_
          refine g_skip rfl rfl rfl ?_
          refine g_step rfl rfl rfl rfl (e_pickT (v := .sc _) rfl rfl) trivial ?_
          refine g_end (ds := [38, 39]) rfl rfl (hK14 _ ?_); clear hK14 K14
          exact seq_norm (hK12 _ ⟨rfl, rfl, rfl, trivial⟩ ⟨(congrArg PV.bool (show (true : Bool) = ((decide ((askE (evs) p day) ≠ (0))) || (decide ((tagT (evs) p day) ≠ (2)))) by first | rfl | ((try rw [hb15R]) <;> (first | rfl | (simp only [Bool.and_true, Bool.and_false, Bool.true_and, Bool.false_and, Bool.or_true, Bool.or_false, Bool.true_or, Bool.false_or, Bool.not_true, Bool.not_false, if_true, if_false, Bool.false_eq_true, reduceIte] <;> rfl))) | (simp only [hb15R, Bool.and_true, Bool.and_false, Bool.true_and, Bool.false_and, Bool.or_true, Bool.or_false, Bool.true_or, Bool.false_or, Bool.not_true, Bool.not_false, if_true, if_false, Bool.false_eq_true, reduceIte] <;> rfl))), trivial⟩)
        · have hb15R := hb15; (try simp only [decide_eq_true_eq, decide_eq_false_iff_not, Bool.not_eq_true', Bool.not_eq_false', Int.not_lt, Int.not_le, ne_eq, Decidable.not_not, List.length_map, Bool.or_eq_true, Bool.and_eq_true, Bool.or_eq_false_iff, Bool.and_eq_false_iff] at hb15); (try (have hlen405 := short_len (evs := evs) hb15.1)); (try (have hE : askE evs p day = 0 := hb15.1; have hT : tagT evs p day = 2 := hb15.2)); (try (have hno := not_out (Int.not_lt.2 hb15.1) hb15.2))
          refine g_step rfl rfl rfl rfl (e_move (v := .sc _) rfl) trivial ?_
          refine g_step rfl rfl rfl rfl (e_ne rfl rfl) trivial ?_
          refine g_step rfl rfl rfl rfl (e_pickF (v := .sc _) rfl rfl) trivial ?_
          refine g_end (ds := [38, 39]) rfl rfl (hK14 _ ?_); clear hK14 K14
          exact seq_norm (hK12 _ ⟨rfl, rfl, rfl, trivial⟩ ⟨(congrArg PV.bool (show ((decide ((tagT (evs) p day) ≠ (2))) : Bool) = ((decide ((askE (evs) p day) ≠ (0))) || (decide ((tagT (evs) p day) ≠ (2)))) by first | rfl | ((try rw [hb15R]) <;> (first | rfl | (simp only [Bool.and_true, Bool.and_false, Bool.true_and, Bool.false_and, Bool.or_true, Bool.or_false, Bool.true_or, Bool.false_or, Bool.not_true, Bool.not_false, if_true, if_false, Bool.false_eq_true, reduceIte] <;> rfl))) | (simp only [hb15R, Bool.and_true, Bool.and_false, Bool.true_and, Bool.false_and, Bool.or_true, Bool.or_false, Bool.true_or, Bool.false_or, Bool.not_true, Bool.not_false, if_true, if_false, Bool.false_eq_true, reduceIte] <;> rfl))), trivial⟩)
      · skip
        refine pwp_seq_cond rfl fun K16 hK16 => ⟨fun hb17 => ?_, fun hb17 => ?_⟩
        · have hb17R := hb17; (try simp only [decide_eq_true_eq, decide_eq_false_iff_not, Bool.not_eq_true', Bool.not_eq_false', Int.not_lt, Int.not_le, ne_eq, Decidable.not_not, List.length_map, Bool.or_eq_true, Bool.and_eq_true, Bool.or_eq_false_iff, Bool.and_eq_false_iff] at hb17); (try (have hlen405 := short_len (evs := evs) hb17.1)); (try (have hE : askE evs p day = 0 := hb17.1; have hT : tagT evs p day = 2 := hb17.2)); (try (have hno := not_out (Int.not_lt.2 hb17.1) hb17.2))
          refine pwp_seq_plain rfl fun K18 hK18 => ?_
          refine p_step rfl (e_assign (v := .sc _) rfl) trivial ?_
          refine p_end (hK18 _ ?_); clear hK18 K18
          refine pwp_ret ?_
          refine ret_seq ?_
          refine end1 (v := .sc _) rfl ?_
          first
            | exact out_b rfl
            | (obtain ⟨rfl, rfl, _, _, rfl⟩ := hgr; exact out_b (by simp_all))
            | (exfalso; obtain ⟨rfl, rfl, _, _, rfl⟩ := hgr; first | omega | simp_all)
        · have hb17R := hb17; (try simp only [decide_eq_true_eq, decide_eq_false_iff_not, Bool.not_eq_true', Bool.not_eq_false', Int.not_lt, Int.not_le, ne_eq, Decidable.not_not, List.length_map, Bool.or_eq_true, Bool.and_eq_true, Bool.or_eq_false_iff, Bool.and_eq_false_iff] at hb17); (try (have hlen405 := short_len (evs := evs) hb17.1)); (try (have hE : askE evs p day = 0 := hb17.1; have hT : tagT evs p day = 2 := hb17.2)); (try (have hno := not_out (Int.not_lt.2 hb17.1) hb17.2))
          refine pwp_skip ?_
          refine seq_norm (hK16 _ ?_); clear hK16 K16
          refine pwp_seq_plain rfl fun K19 hK19 => ?_
          refine p_step rfl (e_assign (v := .sc _) rfl) trivial ?_
          refine p_step rfl (e_assign (v := .sc _) rfl) trivial ?_
          refine p_step rfl (e_assign (v := .sc _) rfl) trivial ?_
          refine p_end (hK19 _ ?_); clear hK19 K19
          refine pwp_seq_plain rfl fun K20 hK20 => ?_
          refine p_new rfl (e_bslice (rows := []) (zs := [.int 0]) (sz := 1) (by kernel_rfl) (by kernel_rfl) rfl (by kernel_rfl) (by decide) rfl rfl (by exact trivial) rfl) trivial ?_
          refine p_ren rfl (.ofRef (hset_self _ _ _) rfl) fun v21 h22 c23 hs24 hf25 => ?_
          refine p_end (hK20 _ ?_); clear hK20 K20
          refine pwp_seq_seq ?_
          refine pwp_seq_plain rfl fun K26 hK26 => ?_
          refine p_step rfl (e_assign (v := .sc _) rfl) trivial ?_
          refine p_end (hK26 _ ?_); clear hK26 K26
          refine pwp_seq_block fun K27 hK27 => ?_
          refine pwp_loopR (α := Nat × Bool × Bool × Int × (List Int) × PV) [0, 1, 2] (fun (a28 : Nat × Bool × Bool × Int × (List Int) × PV) => [(9, .bool (a28.2.1)), (10, .bool (a28.2.2.1)), (11, .int (a28.2.2.2.1)), (12, (a28.2.2.2.2.2)), (13, .int (a28.1))]) (fun (a28 : Nat × Bool × Bool × Int × (List Int) × PV) (h : Heap) (_ : Nat → Nat) => ((a28.1) ≤ evs.length) ∧ (lawL p day ⟨false, false, -1, []⟩ evs = lawL p day ⟨(a28.2.1), (a28.2.2.1), (a28.2.2.2.1), (a28.2.2.2.2.1)⟩ (evs.drop (a28.1))) ∧ ((a28.2.2.2.2.1).length ≤ (a28.1)) ∧ (-1 ≤ (a28.2.2.2.1) ∧ (a28.2.2.2.1) ≤ 20000) ∧ (SliceAt h 12 (a28.2.2.2.2.2) 1 ((a28.2.2.2.2.1).map ci))) (fun (a28 : Nat × Bool × Bool × Int × (List Int) × PV) => evs.length - (a28.1)) (0, false, false, -1, [], v21) (by exact ⟨rfl, rfl, rfl, rfl, rfl, trivial⟩) (by exact ⟨by exact Nat.zero_le _, by exact rfl, by exact Nat.le_refl _, by exact (by decide : (-1 : Int) ≤ -1 ∧ (-1 : Int) ≤ 20000), hs24⟩) fun a28 r29 h30 c31 hj32 => ?_
          obtain ⟨k, d, hd, fr, op, v⟩ := a28
          obtain ⟨hk, hinv, hlen, hfr, hihj32_0⟩ := hj32
          try dsimp only at hk
          try dsimp only at hinv
          try dsimp only at hlen
          try dsimp only at hfr
          try dsimp only at hihj32_0
          show pwp _ _ (loopQ _ _ _) ⟨sets (mix _ _ _) [(9, .bool d), (10, .bool hd), (11, .int fr), (12, v), (13, .int k)], _, _⟩
          refine pwp_seq_seq ?_
          refine pwp_seq_plain rfl fun K33 hK33 => ?_
          refine p_step rfl (e_move (v := .sc _) rfl) trivial ?_
          refine p_step rfl (e_move (v := .lit _ _ _) rfl) trivial ?_
          refine p_step rfl (e_len rfl (by kernel_rfl)) trivial ?_
          refine p_step rfl (e_lt rfl rfl) trivial ?_
          refine p_end (hK33 _ ?_); clear hK33 K33
          refine pwp_seq_cond rfl fun K34 hK34 => ⟨fun hb35 => ?_, fun hb35 => ?_⟩
          · have hb35R := hb35; (try simp only [decide_eq_true_eq, decide_eq_false_iff_not, Bool.not_eq_true', Bool.not_eq_false', Int.not_lt, Int.not_le, ne_eq, Decidable.not_not, List.length_map, Bool.or_eq_true, Bool.and_eq_true, Bool.or_eq_false_iff, Bool.and_eq_false_iff] at hb35); (try (have hlen405 := short_len (evs := evs) hb35.1)); (try (have hE : askE evs p day = 0 := hb35.1; have hT : tagT evs p day = 2 := hb35.2)); (try (have hno := not_out (Int.not_lt.2 hb35.1) hb35.2))
            obtain ⟨x, hx, hdr, ht⟩ := get_lt (xs := evs) (i := k) (by omega)
            rw [hdr] at hinv; simp only [lawL] at hinv
            have hxd := (rec_ok (ask_inv hE).1).day x (List.mem_of_getElem? hx)
            refine pwp_skip ?_
            refine seq_norm (hK34 _ ?_); clear hK34 K34
            refine pwp_seq_block fun K36 hK36 => ?_
            refine pwp_seq_plain rfl fun K37 hK37 => ?_
            refine p_step rfl (e_move (v := .lit _ _ _) rfl) trivial ?_
            refine p_step rfl (e_move (v := .sc _) rfl) trivial ?_
            refine p_step rfl (e_ixa rfl rfl (by kernel_rfl) (by kernel_rfl) (by simp only [List.length_map]; omega)) trivial ?_
            refine p_step rfl (e_loadA (n := 6) rfl (by kernel_rfl) (by kernel_rfl) (by kernel_rfl) (by simp only [List.length_map]; omega) (by decide) (by first | exact agg_map hx rfl)) trivial ?_
            refine p_new rfl (e_alloc (cs := [.int 0, .int 0, .str ByteArray.empty, .int 0, .bool false, .bool false]) (n := 6) (by kernel_rfl) rfl (by decide)) (ob_alloc (by decide)) ?_
            refine p_store rfl (e_storeA rfl (hset_self _ _ _) rfl rfl rfl (by kernel_rfl) rfl (by kernel_rfl)) trivial ?_
            refine p_end (hK37 _ ?_); clear hK37 K37
            refine pwp_seq_seq ?_
            refine pwp_seq_cutG [0, 1, 2, 9, 10, 11, 12, 13, 14] [(66, .bool ((decide (day < x.day)) || ((decide (x.platform ≠ p)) && (decide (x.kind ≠ (3))))))] (fun K38 hK38 => ?_) (fun r39 => ?_)
            · skip
              refine pwp_gops rfl fun K40 hK40 => ?_
              refine g_begin ?_
              refine g_step rfl rfl rfl rfl (e_faP (pl := [(0, 1, false), (1, 1, false), (2, 1, false), (3, 1, false), (4, 1, false), (5, 1, false)]) rfl (by kernel_rfl) (by kernel_rfl) (by decide) rfl) trivial ?_
              refine g_step rfl rfl rfl rfl (e_loadH (v := .sc _) rfl (hset_self _ _ _) (by kernel_rfl) (by kernel_rfl) (by kernel_rfl) (by exact Nat.zero_lt_one) (by decide) rfl) trivial ?_
              refine g_step rfl rfl rfl rfl (e_move (v := .sc _) rfl) trivial ?_
              refine g_step rfl rfl rfl rfl (e_gt rfl rfl) trivial ?_
              refine g_step rfl rfl rfl rfl (e_move (v := .sc _) rfl) trivial ?_
              refine g_cases (fun hb41 => ?_) (fun hb41 => ?_)
              · have hb41R := hb41; (try simp only [decide_eq_true_eq, decide_eq_false_iff_not, Bool.not_eq_true', Bool.not_eq_false', Int.not_lt, Int.not_le, ne_eq, Decidable.not_not, List.length_map, Bool.or_eq_true, Bool.and_eq_true, Bool.or_eq_false_iff, Bool.and_eq_false_iff] at hb41); (try (have hlen405 := short_len (evs := evs) hb41.1)); (try (have hE : askE evs p day = 0 := hb41.1; have hT : tagT evs p day = 2 := hb41.2)); (try (have hno := not_out (Int.not_lt.2 hb41.1) hb41.2))
                refine g_skip rfl rfl rfl ?_
                refine g_skip rfl rfl rfl ?_
                refine g_skip rfl rfl rfl ?_
                refine g_skip rfl rfl rfl ?_
                refine g_skip rfl rfl rfl ?_
                refine g_skip rfl rfl rfl ?_
                refine g_skip rfl rfl rfl ?_
                refine g_skip rfl rfl rfl ?_
                refine g_skip rfl rfl rfl ?_
                refine g_step rfl rfl rfl rfl (e_pickT (v := .sc _) rfl rfl) trivial ?_
                refine g_end (ds := [57, 58, 59, 60, 61, 62, 63, 64, 65]) rfl rfl (hK40 _ ?_); clear hK40 K40
                exact seq_norm (hK38 _ ⟨rfl, rfl, rfl, rfl, rfl, rfl, rfl, rfl, rfl, trivial⟩ ⟨(congrArg PV.bool (show (true : Bool) = ((decide (day < x.day)) || ((decide (x.platform ≠ p)) && (decide (x.kind ≠ (3))))) by first | rfl | ((try rw [hb41R]) <;> (first | rfl | (simp only [Bool.and_true, Bool.and_false, Bool.true_and, Bool.false_and, Bool.or_true, Bool.or_false, Bool.true_or, Bool.false_or, Bool.not_true, Bool.not_false, if_true, if_false, Bool.false_eq_true, reduceIte] <;> rfl))) | (simp only [hb41R, Bool.and_true, Bool.and_false, Bool.true_and, Bool.false_and, Bool.or_true, Bool.or_false, Bool.true_or, Bool.false_or, Bool.not_true, Bool.not_false, if_true, if_false, Bool.false_eq_true, reduceIte] <;> rfl))), trivial⟩)
              · have hb41R := hb41; (try simp only [decide_eq_true_eq, decide_eq_false_iff_not, Bool.not_eq_true', Bool.not_eq_false', Int.not_lt, Int.not_le, ne_eq, Decidable.not_not, List.length_map, Bool.or_eq_true, Bool.and_eq_true, Bool.or_eq_false_iff, Bool.and_eq_false_iff] at hb41); (try (have hlen405 := short_len (evs := evs) hb41.1)); (try (have hE : askE evs p day = 0 := hb41.1; have hT : tagT evs p day = 2 := hb41.2)); (try (have hno := not_out (Int.not_lt.2 hb41.1) hb41.2))
                refine g_step rfl rfl rfl rfl (e_faP (pl := [(0, 1, false), (1, 1, false), (2, 1, false), (3, 1, false), (4, 1, false), (5, 1, false)]) rfl (by kernel_rfl) (by kernel_rfl) (by decide) rfl) trivial ?_
                refine g_step rfl rfl rfl rfl (e_loadH (v := .sc _) rfl (hset_self _ _ _) (by kernel_rfl) (by kernel_rfl) (by kernel_rfl) (by exact Nat.zero_lt_one) (by decide) rfl) trivial ?_
                refine g_step rfl rfl rfl rfl (e_move (v := .sc _) rfl) trivial ?_
                refine g_step rfl rfl rfl rfl (e_sne rfl rfl) trivial ?_
                refine g_step rfl rfl rfl rfl (e_move (v := .sc _) rfl) trivial ?_
                refine g_cases (fun hb42 => ?_) (fun hb42 => ?_)
                · have hb42R := hb42; (try simp only [decide_eq_true_eq, decide_eq_false_iff_not, Bool.not_eq_true', Bool.not_eq_false', Int.not_lt, Int.not_le, ne_eq, Decidable.not_not, List.length_map, Bool.or_eq_true, Bool.and_eq_true, Bool.or_eq_false_iff, Bool.and_eq_false_iff] at hb42); (try (have hlen405 := short_len (evs := evs) hb42.1)); (try (have hE : askE evs p day = 0 := hb42.1; have hT : tagT evs p day = 2 := hb42.2)); (try (have hno := not_out (Int.not_lt.2 hb42.1) hb42.2))
                  refine g_step rfl rfl rfl rfl (e_faP (pl := [(0, 1, false), (1, 1, false), (2, 1, false), (3, 1, false), (4, 1, false), (5, 1, false)]) rfl (by kernel_rfl) (by kernel_rfl) (by decide) rfl) trivial ?_
                  refine g_step rfl rfl rfl rfl (e_loadH (v := .sc _) rfl (hset_self _ _ _) (by kernel_rfl) (by kernel_rfl) (by kernel_rfl) (by exact Nat.zero_lt_one) (by decide) rfl) trivial ?_
                  refine g_step rfl rfl rfl rfl (e_ne rfl rfl) trivial ?_
                  refine g_step rfl rfl rfl rfl (e_pickT (v := .sc _) rfl rfl) trivial ?_
                  refine g_step rfl rfl rfl rfl (e_pickF (v := .sc _) rfl rfl) trivial ?_
                  refine g_end (ds := [57, 58, 59, 60, 61, 62, 63, 64, 65]) rfl rfl (hK40 _ ?_); clear hK40 K40
                  exact seq_norm (hK38 _ ⟨rfl, rfl, rfl, rfl, rfl, rfl, rfl, rfl, rfl, trivial⟩ ⟨(congrArg PV.bool (show ((decide (x.kind ≠ (3))) : Bool) = ((decide (day < x.day)) || ((decide (x.platform ≠ p)) && (decide (x.kind ≠ (3))))) by first | rfl | ((try rw [hb42R]) <;> (try rw [hb41R]) <;> (first | rfl | (simp only [Bool.and_true, Bool.and_false, Bool.true_and, Bool.false_and, Bool.or_true, Bool.or_false, Bool.true_or, Bool.false_or, Bool.not_true, Bool.not_false, if_true, if_false, Bool.false_eq_true, reduceIte] <;> rfl))) | (simp only [hb41R, hb42R, Bool.and_true, Bool.and_false, Bool.true_and, Bool.false_and, Bool.or_true, Bool.or_false, Bool.true_or, Bool.false_or, Bool.not_true, Bool.not_false, if_true, if_false, Bool.false_eq_true, reduceIte] <;> rfl))), trivial⟩)
                · have hb42R := hb42; (try simp only [decide_eq_true_eq, decide_eq_false_iff_not, Bool.not_eq_true', Bool.not_eq_false', Int.not_lt, Int.not_le, ne_eq, Decidable.not_not, List.length_map, Bool.or_eq_true, Bool.and_eq_true, Bool.or_eq_false_iff, Bool.and_eq_false_iff] at hb42); (try (have hlen405 := short_len (evs := evs) hb42.1)); (try (have hE : askE evs p day = 0 := hb42.1; have hT : tagT evs p day = 2 := hb42.2)); (try (have hno := not_out (Int.not_lt.2 hb42.1) hb42.2))
                  refine g_skip rfl rfl rfl ?_
                  refine g_skip rfl rfl rfl ?_
                  refine g_skip rfl rfl rfl ?_
                  refine g_step rfl rfl rfl rfl (e_pickF (v := .sc _) rfl rfl) trivial ?_
                  refine g_step rfl rfl rfl rfl (e_pickF (v := .sc _) rfl rfl) trivial ?_
                  refine g_end (ds := [57, 58, 59, 60, 61, 62, 63, 64, 65]) rfl rfl (hK40 _ ?_); clear hK40 K40
                  exact seq_norm (hK38 _ ⟨rfl, rfl, rfl, rfl, rfl, rfl, rfl, rfl, rfl, trivial⟩ ⟨(congrArg PV.bool (show (false : Bool) = ((decide (day < x.day)) || ((decide (x.platform ≠ p)) && (decide (x.kind ≠ (3))))) by first | rfl | ((try rw [hb42R]) <;> (try rw [hb41R]) <;> (first | rfl | (simp only [Bool.and_true, Bool.and_false, Bool.true_and, Bool.false_and, Bool.or_true, Bool.or_false, Bool.true_or, Bool.false_or, Bool.not_true, Bool.not_false, if_true, if_false, Bool.false_eq_true, reduceIte] <;> rfl))) | (simp only [hb41R, hb42R, Bool.and_true, Bool.and_false, Bool.true_and, Bool.false_and, Bool.or_true, Bool.or_false, Bool.true_or, Bool.false_or, Bool.not_true, Bool.not_false, if_true, if_false, Bool.false_eq_true, reduceIte] <;> rfl))), trivial⟩)
            · skip
              refine pwp_seq_cond rfl fun K43 hK43 => ⟨fun hb44 => ?_, fun hb44 => ?_⟩
              · have hb44R := hb44; (try simp only [decide_eq_true_eq, decide_eq_false_iff_not, Bool.not_eq_true', Bool.not_eq_false', Int.not_lt, Int.not_le, ne_eq, Decidable.not_not, List.length_map, Bool.or_eq_true, Bool.and_eq_true, Bool.or_eq_false_iff, Bool.and_eq_false_iff] at hb44); (try (have hlen405 := short_len (evs := evs) hb44.1)); (try (have hE : askE evs p day = 0 := hb44.1; have hT : tagT evs p day = 2 := hb44.2)); (try (have hno := not_out (Int.not_lt.2 hb44.1) hb44.2))
                refine pwp_exit ?_
                refine exit_seq ?_
                clear hK43 K43
                refine exit_here ?_
                refine seq_norm (hK36 _ ?_); clear hK36 K36
                refine pwp_plain rfl fun K45 hK45 => ?_
                refine p_step rfl (e_move (v := .sc _) rfl) trivial ?_
                refine p_step rfl (e_add rfl rfl (by have := ask_day hE; omega)) trivial ?_
                refine p_step rfl (e_assign (v := .sc _) rfl) trivial ?_
                refine p_end (hK45 _ ?_); clear hK45 K45
                exact loop_again ((k + 1, d, hd, fr, op, v)) (by show _ < _; simp only; omega) ⟨rfl, rfl, rfl, trivial⟩ ⟨rfl, rfl, rfl, rfl, rfl, trivial⟩ (by exact ⟨by show _ + 1 ≤ _; omega, by first | exact lw_on hinv (lw_out (by assumption)) | exact lw_on hinv (lw_0 hno (by omega)) | exact lw_on hinv (lw_6 hno (by omega)) | exact lw_on hinv (lw_3 hno (by omega)) | exact lw_on hinv (lw_ip hno (by omega) (by assumption)) | exact lw_on hinv (lw_in hno (by omega) (by assumption)) | exact lw_on hinv (lw_4 hno (by omega)) | exact lw_on hinv (lw_5 hno (by omega) (by assumption)) | exact lw_on hinv (lw_n hno (by omega)) | (exfalso; omega), by show List.length _ ≤ _ + 1; first | omega | (simp only [List.length_append, List.length_cons, List.length_nil]; omega), by first | exact hfr | (show -1 ≤ x.day ∧ x.day ≤ 20000; omega) | exact (by decide : (-1 : Int) ≤ -1 ∧ (-1 : Int) ≤ 20000), (SliceAt.to (hihj32_0.keep fun _ => (hset_ne (key_ne rfl)).trans ((hset_ne (key_ne rfl)).trans (rfl))) (by simp [ci]))⟩)
              · have hb44R := hb44; (try simp only [decide_eq_true_eq, decide_eq_false_iff_not, Bool.not_eq_true', Bool.not_eq_false', Int.not_lt, Int.not_le, ne_eq, Decidable.not_not, List.length_map, Bool.or_eq_true, Bool.and_eq_true, Bool.or_eq_false_iff, Bool.and_eq_false_iff] at hb44); (try (have hlen405 := short_len (evs := evs) hb44.1)); (try (have hE : askE evs p day = 0 := hb44.1; have hT : tagT evs p day = 2 := hb44.2)); (try (have hno := not_out (Int.not_lt.2 hb44.1) hb44.2))
                refine pwp_skip ?_
                refine seq_norm (hK43 _ ?_); clear hK43 K43
                refine pwp_seq_plain rfl fun K46 hK46 => ?_
                refine p_step rfl (e_faP (pl := [(0, 1, false), (1, 1, false), (2, 1, false), (3, 1, false), (4, 1, false), (5, 1, false)]) rfl (by kernel_rfl) (by kernel_rfl) (by decide) rfl) trivial ?_
                refine p_step rfl (e_loadH (v := .sc _) rfl (hset_self _ _ _) (by kernel_rfl) (by kernel_rfl) (by kernel_rfl) (by exact Nat.zero_lt_one) (by decide) rfl) trivial ?_
                refine p_end (hK46 _ ?_); clear hK46 K46
                refine pwp_block ?_
                refine pwp_seq_plain rfl fun K47 hK47 => ?_
                refine p_step rfl (e_eq rfl rfl) trivial ?_
                refine p_step rfl (e_assign (v := .sc _) rfl) trivial ?_
                refine p_end (hK47 _ ?_); clear hK47 K47
                refine pwp_cond rfl (fun hb48 => ?_) (fun hb48 => ?_)
                · have hb48R := hb48; (try simp only [decide_eq_true_eq, decide_eq_false_iff_not, Bool.not_eq_true', Bool.not_eq_false', Int.not_lt, Int.not_le, ne_eq, Decidable.not_not, List.length_map, Bool.or_eq_true, Bool.and_eq_true, Bool.or_eq_false_iff, Bool.and_eq_false_iff] at hb48); (try (have hlen405 := short_len (evs := evs) hb48.1)); (try (have hE : askE evs p day = 0 := hb48.1; have hT : tagT evs p day = 2 := hb48.2)); (try (have hno := not_out (Int.not_lt.2 hb48.1) hb48.2))
                  refine pwp_plain rfl fun K49 hK49 => ?_
                  refine p_step rfl (e_assign (v := .sc _) rfl) trivial ?_
                  refine p_step rfl (e_assign (v := .sc _) rfl) trivial ?_
                  refine p_end (hK49 _ ?_); clear hK49 K49
                  refine block_norm ?_
                  refine block_norm ?_
                  refine seq_norm (hK36 _ ?_); clear hK36 K36
                  refine pwp_plain rfl fun K50 hK50 => ?_
                  refine p_step rfl (e_move (v := .sc _) rfl) trivial ?_
                  refine p_step rfl (e_add rfl rfl (by have := ask_day hE; omega)) trivial ?_
                  refine p_step rfl (e_assign (v := .sc _) rfl) trivial ?_
                  refine p_end (hK50 _ ?_); clear hK50 K50
                  exact loop_again ((k + 1, true, false, fr, op, v)) (by show _ < _; simp only; omega) ⟨rfl, rfl, rfl, trivial⟩ ⟨rfl, rfl, rfl, rfl, rfl, trivial⟩ (by exact ⟨by show _ + 1 ≤ _; omega, by first | exact lw_on hinv (lw_out (by assumption)) | exact lw_on hinv (lw_0 hno (by omega)) | exact lw_on hinv (lw_6 hno (by omega)) | exact lw_on hinv (lw_3 hno (by omega)) | exact lw_on hinv (lw_ip hno (by omega) (by assumption)) | exact lw_on hinv (lw_in hno (by omega) (by assumption)) | exact lw_on hinv (lw_4 hno (by omega)) | exact lw_on hinv (lw_5 hno (by omega) (by assumption)) | exact lw_on hinv (lw_n hno (by omega)) | (exfalso; omega), by show List.length _ ≤ _ + 1; first | omega | (simp only [List.length_append, List.length_cons, List.length_nil]; omega), by first | exact hfr | (show -1 ≤ x.day ∧ x.day ≤ 20000; omega) | exact (by decide : (-1 : Int) ≤ -1 ∧ (-1 : Int) ≤ 20000), (SliceAt.to (hihj32_0.keep fun _ => (hset_ne (key_ne rfl)).trans ((hset_ne (key_ne rfl)).trans (rfl))) (by simp [ci]))⟩)
                · have hb48R := hb48; (try simp only [decide_eq_true_eq, decide_eq_false_iff_not, Bool.not_eq_true', Bool.not_eq_false', Int.not_lt, Int.not_le, ne_eq, Decidable.not_not, List.length_map, Bool.or_eq_true, Bool.and_eq_true, Bool.or_eq_false_iff, Bool.and_eq_false_iff] at hb48); (try (have hlen405 := short_len (evs := evs) hb48.1)); (try (have hE : askE evs p day = 0 := hb48.1; have hT : tagT evs p day = 2 := hb48.2)); (try (have hno := not_out (Int.not_lt.2 hb48.1) hb48.2))
                  refine pwp_seq_plain rfl fun K51 hK51 => ?_
                  refine p_step rfl (e_eq rfl rfl) trivial ?_
                  refine p_step rfl (e_assign (v := .sc _) rfl) trivial ?_
                  refine p_end (hK51 _ ?_); clear hK51 K51
                  refine pwp_cond rfl (fun hb52 => ?_) (fun hb52 => ?_)
                  · have hb52R := hb52; (try simp only [decide_eq_true_eq, decide_eq_false_iff_not, Bool.not_eq_true', Bool.not_eq_false', Int.not_lt, Int.not_le, ne_eq, Decidable.not_not, List.length_map, Bool.or_eq_true, Bool.and_eq_true, Bool.or_eq_false_iff, Bool.and_eq_false_iff] at hb52); (try (have hlen405 := short_len (evs := evs) hb52.1)); (try (have hE : askE evs p day = 0 := hb52.1; have hT : tagT evs p day = 2 := hb52.2)); (try (have hno := not_out (Int.not_lt.2 hb52.1) hb52.2))
                    refine pwp_plain rfl fun K53 hK53 => ?_
                    refine p_step rfl (e_assign (v := .sc _) rfl) trivial ?_
                    refine p_end (hK53 _ ?_); clear hK53 K53
                    refine block_norm ?_
                    refine block_norm ?_
                    refine seq_norm (hK36 _ ?_); clear hK36 K36
                    refine pwp_plain rfl fun K54 hK54 => ?_
                    refine p_step rfl (e_move (v := .sc _) rfl) trivial ?_
                    refine p_step rfl (e_add rfl rfl (by have := ask_day hE; omega)) trivial ?_
                    refine p_step rfl (e_assign (v := .sc _) rfl) trivial ?_
                    refine p_end (hK54 _ ?_); clear hK54 K54
                    exact loop_again ((k + 1, false, hd, fr, op, v)) (by show _ < _; simp only; omega) ⟨rfl, rfl, rfl, trivial⟩ ⟨rfl, rfl, rfl, rfl, rfl, trivial⟩ (by exact ⟨by show _ + 1 ≤ _; omega, by first | exact lw_on hinv (lw_out (by assumption)) | exact lw_on hinv (lw_0 hno (by omega)) | exact lw_on hinv (lw_6 hno (by omega)) | exact lw_on hinv (lw_3 hno (by omega)) | exact lw_on hinv (lw_ip hno (by omega) (by assumption)) | exact lw_on hinv (lw_in hno (by omega) (by assumption)) | exact lw_on hinv (lw_4 hno (by omega)) | exact lw_on hinv (lw_5 hno (by omega) (by assumption)) | exact lw_on hinv (lw_n hno (by omega)) | (exfalso; omega), by show List.length _ ≤ _ + 1; first | omega | (simp only [List.length_append, List.length_cons, List.length_nil]; omega), by first | exact hfr | (show -1 ≤ x.day ∧ x.day ≤ 20000; omega) | exact (by decide : (-1 : Int) ≤ -1 ∧ (-1 : Int) ≤ 20000), (SliceAt.to (hihj32_0.keep fun _ => (hset_ne (key_ne rfl)).trans ((hset_ne (key_ne rfl)).trans (rfl))) (by simp [ci]))⟩)
                  · have hb52R := hb52; (try simp only [decide_eq_true_eq, decide_eq_false_iff_not, Bool.not_eq_true', Bool.not_eq_false', Int.not_lt, Int.not_le, ne_eq, Decidable.not_not, List.length_map, Bool.or_eq_true, Bool.and_eq_true, Bool.or_eq_false_iff, Bool.and_eq_false_iff] at hb52); (try (have hlen405 := short_len (evs := evs) hb52.1)); (try (have hE : askE evs p day = 0 := hb52.1; have hT : tagT evs p day = 2 := hb52.2)); (try (have hno := not_out (Int.not_lt.2 hb52.1) hb52.2))
                    refine pwp_seq_plain rfl fun K55 hK55 => ?_
                    refine p_step rfl (e_eq rfl rfl) trivial ?_
                    refine p_step rfl (e_assign (v := .sc _) rfl) trivial ?_
                    refine p_end (hK55 _ ?_); clear hK55 K55
                    refine pwp_cond rfl (fun hb56 => ?_) (fun hb56 => ?_)
                    · have hb56R := hb56; (try simp only [decide_eq_true_eq, decide_eq_false_iff_not, Bool.not_eq_true', Bool.not_eq_false', Int.not_lt, Int.not_le, ne_eq, Decidable.not_not, List.length_map, Bool.or_eq_true, Bool.and_eq_true, Bool.or_eq_false_iff, Bool.and_eq_false_iff] at hb56); (try (have hlen405 := short_len (evs := evs) hb56.1)); (try (have hE : askE evs p day = 0 := hb56.1; have hT : tagT evs p day = 2 := hb56.2)); (try (have hno := not_out (Int.not_lt.2 hb56.1) hb56.2))
                      refine pwp_plain rfl fun K57 hK57 => ?_
                      refine p_step rfl (e_assign (v := .sc _) rfl) trivial ?_
                      refine p_end (hK57 _ ?_); clear hK57 K57
                      refine block_norm ?_
                      refine block_norm ?_
                      refine seq_norm (hK36 _ ?_); clear hK36 K36
                      refine pwp_plain rfl fun K58 hK58 => ?_
                      refine p_step rfl (e_move (v := .sc _) rfl) trivial ?_
                      refine p_step rfl (e_add rfl rfl (by have := ask_day hE; omega)) trivial ?_
                      refine p_step rfl (e_assign (v := .sc _) rfl) trivial ?_
                      refine p_end (hK58 _ ?_); clear hK58 K58
                      exact loop_again ((k + 1, d, hd, (-1), op, v)) (by show _ < _; simp only; omega) ⟨rfl, rfl, rfl, trivial⟩ ⟨rfl, rfl, rfl, rfl, rfl, trivial⟩ (by exact ⟨by show _ + 1 ≤ _; omega, by first | exact lw_on hinv (lw_out (by assumption)) | exact lw_on hinv (lw_0 hno (by omega)) | exact lw_on hinv (lw_6 hno (by omega)) | exact lw_on hinv (lw_3 hno (by omega)) | exact lw_on hinv (lw_ip hno (by omega) (by assumption)) | exact lw_on hinv (lw_in hno (by omega) (by assumption)) | exact lw_on hinv (lw_4 hno (by omega)) | exact lw_on hinv (lw_5 hno (by omega) (by assumption)) | exact lw_on hinv (lw_n hno (by omega)) | (exfalso; omega), by show List.length _ ≤ _ + 1; first | omega | (simp only [List.length_append, List.length_cons, List.length_nil]; omega), by first | exact hfr | (show -1 ≤ x.day ∧ x.day ≤ 20000; omega) | exact (by decide : (-1 : Int) ≤ -1 ∧ (-1 : Int) ≤ 20000), (SliceAt.to (hihj32_0.keep fun _ => (hset_ne (key_ne rfl)).trans ((hset_ne (key_ne rfl)).trans (rfl))) (by simp [ci]))⟩)
                    · have hb56R := hb56; (try simp only [decide_eq_true_eq, decide_eq_false_iff_not, Bool.not_eq_true', Bool.not_eq_false', Int.not_lt, Int.not_le, ne_eq, Decidable.not_not, List.length_map, Bool.or_eq_true, Bool.and_eq_true, Bool.or_eq_false_iff, Bool.and_eq_false_iff] at hb56); (try (have hlen405 := short_len (evs := evs) hb56.1)); (try (have hE : askE evs p day = 0 := hb56.1; have hT : tagT evs p day = 2 := hb56.2)); (try (have hno := not_out (Int.not_lt.2 hb56.1) hb56.2))
                      refine pwp_seq_seq ?_
                      refine pwp_seq_plain rfl fun K59 hK59 => ?_
                      refine p_step rfl (e_eq rfl rfl) trivial ?_
                      refine p_step rfl (e_assign (v := .sc _) rfl) trivial ?_
                      refine p_end (hK59 _ ?_); clear hK59 K59
                      refine pwp_seq_cond rfl fun K60 hK60 => ⟨fun hb61 => ?_, fun hb61 => ?_⟩
                      · have hb61R := hb61; (try simp only [decide_eq_true_eq, decide_eq_false_iff_not, Bool.not_eq_true', Bool.not_eq_false', Int.not_lt, Int.not_le, ne_eq, Decidable.not_not, List.length_map, Bool.or_eq_true, Bool.and_eq_true, Bool.or_eq_false_iff, Bool.and_eq_false_iff] at hb61); (try (have hlen405 := short_len (evs := evs) hb61.1)); (try (have hE : askE evs p day = 0 := hb61.1; have hT : tagT evs p day = 2 := hb61.2)); (try (have hno := not_out (Int.not_lt.2 hb61.1) hb61.2))
                        refine pwp_skip ?_
                        refine seq_norm (hK60 _ ?_); clear hK60 K60
                        refine pwp_cond rfl (fun hb62 => ?_) (fun hb62 => ?_)
                        · have hb62R := hb62; (try simp only [decide_eq_true_eq, decide_eq_false_iff_not, Bool.not_eq_true', Bool.not_eq_false', Int.not_lt, Int.not_le, ne_eq, Decidable.not_not, List.length_map, Bool.or_eq_true, Bool.and_eq_true, Bool.or_eq_false_iff, Bool.and_eq_false_iff] at hb62); (try (have hlen405 := short_len (evs := evs) hb62.1)); (try (have hE : askE evs p day = 0 := hb62.1; have hT : tagT evs p day = 2 := hb62.2)); (try (have hno := not_out (Int.not_lt.2 hb62.1) hb62.2))
                          refine pwp_seq_seq ?_
                          refine pwp_seq_plain rfl fun K63 hK63 => ?_
                          refine p_step rfl (e_faP (pl := [(0, 1, false), (1, 1, false), (2, 1, false), (3, 1, false), (4, 1, false), (5, 1, false)]) rfl (by kernel_rfl) (by kernel_rfl) (by decide) rfl) trivial ?_
                          refine p_step rfl (e_loadH (v := .sc _) rfl (hset_self _ _ _) (by kernel_rfl) (by kernel_rfl) (by kernel_rfl) (by exact Nat.zero_lt_one) (by decide) rfl) trivial ?_
                          refine p_step rfl (e_eq rfl rfl) trivial ?_
                          refine p_end (hK63 _ ?_); clear hK63 K63
                          refine pwp_seq_cutG [0, 1, 2, 9, 12, 13, 14] [(10, .bool (if (decide (x.kind = (1))) = true then x.passed else hd))] (fun K64 hK64 => ?_) (fun r65 => ?_)
                          · skip
                            refine pwp_cond rfl (fun hb66 => ?_) (fun hb66 => ?_)
                            · have hb66R := hb66; (try simp only [decide_eq_true_eq, decide_eq_false_iff_not, Bool.not_eq_true', Bool.not_eq_false', Int.not_lt, Int.not_le, ne_eq, Decidable.not_not, List.length_map, Bool.or_eq_true, Bool.and_eq_true, Bool.or_eq_false_iff, Bool.and_eq_false_iff] at hb66); (try (have hlen405 := short_len (evs := evs) hb66.1)); (try (have hE : askE evs p day = 0 := hb66.1; have hT : tagT evs p day = 2 := hb66.2)); (try (have hno := not_out (Int.not_lt.2 hb66.1) hb66.2))
                              refine pwp_plain rfl fun K67 hK67 => ?_
                              refine p_step rfl (e_faP (pl := [(0, 1, false), (1, 1, false), (2, 1, false), (3, 1, false), (4, 1, false), (5, 1, false)]) rfl (by kernel_rfl) (by kernel_rfl) (by decide) rfl) trivial ?_
                              refine p_step rfl (e_loadH (v := .sc _) rfl (hset_self _ _ _) (by kernel_rfl) (by kernel_rfl) (by kernel_rfl) (by exact Nat.zero_lt_one) (by decide) rfl) trivial ?_
                              refine p_step rfl (e_assign (v := .sc _) rfl) trivial ?_
                              refine p_end (hK67 _ ?_); clear hK67 K67
                              exact seq_norm (hK64 _ ⟨rfl, rfl, rfl, rfl, rfl, rfl, rfl, trivial⟩ ⟨(congrArg PV.bool (show (x.passed : Bool) = (if (decide (x.kind = (1))) = true then x.passed else hd) by first | rfl | ((try rw [hb66R]) <;> (first | rfl | (simp only [Bool.and_true, Bool.and_false, Bool.true_and, Bool.false_and, Bool.or_true, Bool.or_false, Bool.true_or, Bool.false_or, Bool.not_true, Bool.not_false, if_true, if_false, Bool.false_eq_true, reduceIte] <;> rfl))) | (simp only [hb66R, Bool.and_true, Bool.and_false, Bool.true_and, Bool.false_and, Bool.or_true, Bool.or_false, Bool.true_or, Bool.false_or, Bool.not_true, Bool.not_false, if_true, if_false, Bool.false_eq_true, reduceIte] <;> rfl))), trivial⟩)
                            · have hb66R := hb66; (try simp only [decide_eq_true_eq, decide_eq_false_iff_not, Bool.not_eq_true', Bool.not_eq_false', Int.not_lt, Int.not_le, ne_eq, Decidable.not_not, List.length_map, Bool.or_eq_true, Bool.and_eq_true, Bool.or_eq_false_iff, Bool.and_eq_false_iff] at hb66); (try (have hlen405 := short_len (evs := evs) hb66.1)); (try (have hE : askE evs p day = 0 := hb66.1; have hT : tagT evs p day = 2 := hb66.2)); (try (have hno := not_out (Int.not_lt.2 hb66.1) hb66.2))
                              refine pwp_skip ?_
                              exact seq_norm (hK64 _ ⟨rfl, rfl, rfl, rfl, rfl, rfl, rfl, trivial⟩ ⟨(congrArg PV.bool (show (hd : Bool) = (if (decide (x.kind = (1))) = true then x.passed else hd) by first | rfl | ((try rw [hb66R]) <;> (first | rfl | (simp only [Bool.and_true, Bool.and_false, Bool.true_and, Bool.false_and, Bool.or_true, Bool.or_false, Bool.true_or, Bool.false_or, Bool.not_true, Bool.not_false, if_true, if_false, Bool.false_eq_true, reduceIte] <;> rfl))) | (simp only [hb66R, Bool.and_true, Bool.and_false, Bool.true_and, Bool.false_and, Bool.or_true, Bool.or_false, Bool.true_or, Bool.false_or, Bool.not_true, Bool.not_false, if_true, if_false, Bool.false_eq_true, reduceIte] <;> rfl))), trivial⟩)
                          · skip
                            refine pwp_seq_plain rfl fun K68 hK68 => ?_
                            refine p_step rfl (e_assign (v := .sc _) rfl) trivial ?_
                            refine p_end (hK68 _ ?_); clear hK68 K68
                            refine pwp_seq_plain rfl fun K69 hK69 => ?_
                            refine p_step rfl (e_faP (pl := [(0, 1, false), (1, 1, false), (2, 1, false), (3, 1, false), (4, 1, false), (5, 1, false)]) rfl (by kernel_rfl) (by kernel_rfl) (by decide) rfl) trivial ?_
                            refine p_step rfl (e_loadH (v := .sc _) rfl (hset_self _ _ _) (by kernel_rfl) (by kernel_rfl) (by kernel_rfl) (by exact Nat.zero_lt_one) (by decide) rfl) trivial ?_
                            refine p_end (hK69 _ ?_); clear hK69 K69
                            refine pwp_cond rfl (fun hb70 => ?_) (fun hb70 => ?_)
                            · have hb70R := hb70; (try simp only [decide_eq_true_eq, decide_eq_false_iff_not, Bool.not_eq_true', Bool.not_eq_false', Int.not_lt, Int.not_le, ne_eq, Decidable.not_not, List.length_map, Bool.or_eq_true, Bool.and_eq_true, Bool.or_eq_false_iff, Bool.and_eq_false_iff] at hb70); (try (have hlen405 := short_len (evs := evs) hb70.1)); (try (have hE : askE evs p day = 0 := hb70.1; have hT : tagT evs p day = 2 := hb70.2)); (try (have hno := not_out (Int.not_lt.2 hb70.1) hb70.2))
                              refine pwp_plain rfl fun K71 hK71 => ?_
                              refine p_step rfl (e_faP (pl := [(0, 1, false), (1, 1, false), (2, 1, false), (3, 1, false), (4, 1, false), (5, 1, false)]) rfl (by kernel_rfl) (by kernel_rfl) (by decide) rfl) trivial ?_
                              refine p_step rfl (e_loadH (v := .sc _) rfl (hset_self _ _ _) (by kernel_rfl) (by kernel_rfl) (by kernel_rfl) (by exact Nat.zero_lt_one) (by decide) rfl) trivial ?_
                              refine p_step rfl (e_assign (v := .sc _) rfl) trivial ?_
                              refine p_end (hK71 _ ?_); clear hK71 K71
                              refine block_norm ?_
                              refine block_norm ?_
                              refine seq_norm (hK36 _ ?_); clear hK36 K36
                              refine pwp_plain rfl fun K72 hK72 => ?_
                              refine p_step rfl (e_move (v := .sc _) rfl) trivial ?_
                              refine p_step rfl (e_add rfl rfl (by have := ask_day hE; omega)) trivial ?_
                              refine p_step rfl (e_assign (v := .sc _) rfl) trivial ?_
                              refine p_end (hK72 _ ?_); clear hK72 K72
                              exact loop_again ((k + 1, d, (if (decide (x.kind = (1))) = true then x.passed else hd), x.day, op, v)) (by show _ < _; simp only; omega) ⟨rfl, rfl, rfl, trivial⟩ ⟨rfl, rfl, rfl, rfl, rfl, trivial⟩ (by exact ⟨by show _ + 1 ≤ _; omega, by first | exact lw_on hinv (lw_out (by assumption)) | exact lw_on hinv (lw_0 hno (by omega)) | exact lw_on hinv (lw_6 hno (by omega)) | exact lw_on hinv (lw_3 hno (by omega)) | exact lw_on hinv (lw_ip hno (by omega) (by assumption)) | exact lw_on hinv (lw_in hno (by omega) (by assumption)) | exact lw_on hinv (lw_4 hno (by omega)) | exact lw_on hinv (lw_5 hno (by omega) (by assumption)) | exact lw_on hinv (lw_n hno (by omega)) | (exfalso; omega), by show List.length _ ≤ _ + 1; first | omega | (simp only [List.length_append, List.length_cons, List.length_nil]; omega), by first | exact hfr | (show -1 ≤ x.day ∧ x.day ≤ 20000; omega) | exact (by decide : (-1 : Int) ≤ -1 ∧ (-1 : Int) ≤ 20000), (SliceAt.to (hihj32_0.keep fun _ => (hset_ne (key_ne rfl)).trans ((hset_ne (key_ne rfl)).trans (rfl))) (by simp [ci]))⟩)
                            · have hb70R := hb70; (try simp only [decide_eq_true_eq, decide_eq_false_iff_not, Bool.not_eq_true', Bool.not_eq_false', Int.not_lt, Int.not_le, ne_eq, Decidable.not_not, List.length_map, Bool.or_eq_true, Bool.and_eq_true, Bool.or_eq_false_iff, Bool.and_eq_false_iff] at hb70); (try (have hlen405 := short_len (evs := evs) hb70.1)); (try (have hE : askE evs p day = 0 := hb70.1; have hT : tagT evs p day = 2 := hb70.2)); (try (have hno := not_out (Int.not_lt.2 hb70.1) hb70.2))
                              refine pwp_skip ?_
                              refine block_norm ?_
                              refine block_norm ?_
                              refine seq_norm (hK36 _ ?_); clear hK36 K36
                              refine pwp_plain rfl fun K73 hK73 => ?_
                              refine p_step rfl (e_move (v := .sc _) rfl) trivial ?_
                              refine p_step rfl (e_add rfl rfl (by have := ask_day hE; omega)) trivial ?_
                              refine p_step rfl (e_assign (v := .sc _) rfl) trivial ?_
                              refine p_end (hK73 _ ?_); clear hK73 K73
                              exact loop_again ((k + 1, d, (if (decide (x.kind = (1))) = true then x.passed else hd), (-1), op, v)) (by show _ < _; simp only; omega) ⟨rfl, rfl, rfl, trivial⟩ ⟨rfl, rfl, rfl, rfl, rfl, trivial⟩ (by exact ⟨by show _ + 1 ≤ _; omega, by first | exact lw_on hinv (lw_out (by assumption)) | exact lw_on hinv (lw_0 hno (by omega)) | exact lw_on hinv (lw_6 hno (by omega)) | exact lw_on hinv (lw_3 hno (by omega)) | exact lw_on hinv (lw_ip hno (by omega) (by assumption)) | exact lw_on hinv (lw_in hno (by omega) (by assumption)) | exact lw_on hinv (lw_4 hno (by omega)) | exact lw_on hinv (lw_5 hno (by omega) (by assumption)) | exact lw_on hinv (lw_n hno (by omega)) | (exfalso; omega), by show List.length _ ≤ _ + 1; first | omega | (simp only [List.length_append, List.length_cons, List.length_nil]; omega), by first | exact hfr | (show -1 ≤ x.day ∧ x.day ≤ 20000; omega) | exact (by decide : (-1 : Int) ≤ -1 ∧ (-1 : Int) ≤ 20000), (SliceAt.to (hihj32_0.keep fun _ => (hset_ne (key_ne rfl)).trans ((hset_ne (key_ne rfl)).trans (rfl))) (by simp [ci]))⟩)
                        · have hb62R := hb62; (try simp only [decide_eq_true_eq, decide_eq_false_iff_not, Bool.not_eq_true', Bool.not_eq_false', Int.not_lt, Int.not_le, ne_eq, Decidable.not_not, List.length_map, Bool.or_eq_true, Bool.and_eq_true, Bool.or_eq_false_iff, Bool.and_eq_false_iff] at hb62); (try (have hlen405 := short_len (evs := evs) hb62.1)); (try (have hE : askE evs p day = 0 := hb62.1; have hT : tagT evs p day = 2 := hb62.2)); (try (have hno := not_out (Int.not_lt.2 hb62.1) hb62.2))
                          refine pwp_seq_plain rfl fun K74 hK74 => ?_
                          refine p_step rfl (e_eq rfl rfl) trivial ?_
                          refine p_step rfl (e_assign (v := .sc _) rfl) trivial ?_
                          refine p_end (hK74 _ ?_); clear hK74 K74
                          refine pwp_cond rfl (fun hb75 => ?_) (fun hb75 => ?_)
                          · have hb75R := hb75; (try simp only [decide_eq_true_eq, decide_eq_false_iff_not, Bool.not_eq_true', Bool.not_eq_false', Int.not_lt, Int.not_le, ne_eq, Decidable.not_not, List.length_map, Bool.or_eq_true, Bool.and_eq_true, Bool.or_eq_false_iff, Bool.and_eq_false_iff] at hb75); (try (have hlen405 := short_len (evs := evs) hb75.1)); (try (have hE : askE evs p day = 0 := hb75.1; have hT : tagT evs p day = 2 := hb75.2)); (try (have hno := not_out (Int.not_lt.2 hb75.1) hb75.2))
                            refine pwp_plain rfl fun K76 hK76 => ?_
                            refine p_step rfl (e_move (v := _) rfl) trivial ?_
                            refine p_step rfl (e_faP (pl := [(0, 1, false), (1, 1, false), (2, 1, false), (3, 1, false), (4, 1, false), (5, 1, false)]) rfl (by kernel_rfl) (by kernel_rfl) (by decide) rfl) trivial ?_
                            refine p_step rfl (e_loadH (v := .sc _) rfl (hset_self _ _ _) (by kernel_rfl) (by kernel_rfl) (by kernel_rfl) (by exact Nat.zero_lt_one) (by decide) rfl) trivial ?_
                            refine p_new rfl (e_bslice (rows := [ci x.number]) (zs := [.int 0]) (sz := 1) (by kernel_rfl) (by kernel_rfl) rfl (by kernel_rfl) (by decide) rfl rfl (by exact ⟨by decide, rfl, rfl, trivial⟩) rfl) trivial ?_
                            refine p_app rfl rfl rfl (hihj32_0.keep fun _ => (hset_ne (key_ne rfl)).trans ((hset_ne (key_ne rfl)).trans ((hset_ne (key_ne rfl)).trans (rfl)))) (src_ref (hset_self _ _ _) rfl) (by kernel_rfl) (by simp only [List.length_append, List.length_map, List.length_nil, List.length_cons]; omega) fun v77 h78 c79 hs80 hf81 => ?_
                            have ho82 := (hf81 (14, _) (key_ne rfl) (fun _ _ => key_ne rfl)).trans ((hset_ne (key_ne rfl)).trans (hset_self _ _ _))
                            have ho83 := (hf81 (92, _) (key_ne rfl) (fun _ _ => key_ne rfl)).trans (hset_self _ _ _)
                            refine p_ren rfl hs80 fun v84 h85 c86 hs87 hf88 => ?_
                            have ho89 := (hf88 (14, _) (key_ne rfl) (fun _ _ => key_ne rfl)).trans ho82
                            have ho90 := (hf88 (92, _) (key_ne rfl) (fun _ _ => key_ne rfl)).trans ho83
                            refine p_end (hK76 _ ?_); clear hK76 K76
                            refine block_norm ?_
                            refine block_norm ?_
                            refine seq_norm (hK36 _ ?_); clear hK36 K36
                            refine pwp_plain rfl fun K91 hK91 => ?_
                            refine p_step rfl (e_move (v := .sc _) rfl) trivial ?_
                            refine p_step rfl (e_add rfl rfl (by have := ask_day hE; omega)) trivial ?_
                            refine p_step rfl (e_assign (v := .sc _) rfl) trivial ?_
                            refine p_end (hK91 _ ?_); clear hK91 K91
                            exact loop_again ((k + 1, d, hd, fr, (op ++ [x.number]), v84)) (by show _ < _; simp only; omega) ⟨rfl, rfl, rfl, trivial⟩ ⟨rfl, rfl, rfl, rfl, rfl, trivial⟩ (by exact ⟨by show _ + 1 ≤ _; omega, by first | exact lw_on hinv (lw_out (by assumption)) | exact lw_on hinv (lw_0 hno (by omega)) | exact lw_on hinv (lw_6 hno (by omega)) | exact lw_on hinv (lw_3 hno (by omega)) | exact lw_on hinv (lw_ip hno (by omega) (by assumption)) | exact lw_on hinv (lw_in hno (by omega) (by assumption)) | exact lw_on hinv (lw_4 hno (by omega)) | exact lw_on hinv (lw_5 hno (by omega) (by assumption)) | exact lw_on hinv (lw_n hno (by omega)) | (exfalso; omega), by show List.length _ ≤ _ + 1; first | omega | (simp only [List.length_append, List.length_cons, List.length_nil]; omega), by first | exact hfr | (show -1 ≤ x.day ∧ x.day ≤ 20000; omega) | exact (by decide : (-1 : Int) ≤ -1 ∧ (-1 : Int) ≤ 20000), (SliceAt.to hs87 (by simp [ci]))⟩)
                          · have hb75R := hb75; (try simp only [decide_eq_true_eq, decide_eq_false_iff_not, Bool.not_eq_true', Bool.not_eq_false', Int.not_lt, Int.not_le, ne_eq, Decidable.not_not, List.length_map, Bool.or_eq_true, Bool.and_eq_true, Bool.or_eq_false_iff, Bool.and_eq_false_iff] at hb75); (try (have hlen405 := short_len (evs := evs) hb75.1)); (try (have hE : askE evs p day = 0 := hb75.1; have hT : tagT evs p day = 2 := hb75.2)); (try (have hno := not_out (Int.not_lt.2 hb75.1) hb75.2))
                            refine pwp_seq_plain rfl fun K92 hK92 => ?_
                            refine p_step rfl (e_eq rfl rfl) trivial ?_
                            refine p_step rfl (e_assign (v := .sc _) rfl) trivial ?_
                            refine p_end (hK92 _ ?_); clear hK92 K92
                            refine pwp_cond rfl (fun hb93 => ?_) (fun hb93 => ?_)
                            · have hb93R := hb93; (try simp only [decide_eq_true_eq, decide_eq_false_iff_not, Bool.not_eq_true', Bool.not_eq_false', Int.not_lt, Int.not_le, ne_eq, Decidable.not_not, List.length_map, Bool.or_eq_true, Bool.and_eq_true, Bool.or_eq_false_iff, Bool.and_eq_false_iff] at hb93); (try (have hlen405 := short_len (evs := evs) hb93.1)); (try (have hE : askE evs p day = 0 := hb93.1; have hT : tagT evs p day = 2 := hb93.2)); (try (have hno := not_out (Int.not_lt.2 hb93.1) hb93.2))
                              refine pwp_seq_plain rfl fun K94 hK94 => ?_
                              refine p_step rfl (e_assign (v := .nil) rfl) trivial ?_
                              refine p_end (hK94 _ ?_); clear hK94 K94
                              refine pwp_seq_seq ?_
                              refine pwp_seq_plain rfl fun K95 hK95 => ?_
                              refine p_step rfl (e_assign (v := .sc _) rfl) trivial ?_
                              refine p_end (hK95 _ ?_); clear hK95 K95
                              refine pwp_seq_block fun K96 hK96 => ?_
                              refine pwp_loopR (α := Nat × (List Int) × PV) [0, 1, 2, 9, 10, 11, 12, 13, 14] (fun (a97 : Nat × (List Int) × PV) => [(15, (a97.2.2)), (16, .int (a97.1))]) (fun (a97 : Nat × (List Int) × PV) (h : Heap) (_ : Nat → Nat) => ((a97.1) ≤ op.length) ∧ ((a97.2.1) = (op.take (a97.1)).filter fun m => decide (¬ m = x.number)) ∧ ((a97.2.1).length ≤ (a97.1)) ∧ (SliceAt h 15 (a97.2.2) 1 ((a97.2.1).map ci)) ∧ (SliceAt h 12 v 1 (op.map ci)) ∧ (h (14, _) = some (.rows 6 [Ev.enc x]))) (fun (a97 : Nat × (List Int) × PV) => op.length - (a97.1)) (0, [], .nil) (by exact ⟨rfl, rfl, trivial⟩) (by exact ⟨by exact Nat.zero_le _, by exact rfl, by exact Nat.le_refl _, .nil, (hihj32_0.keep fun _ => (hset_ne (key_ne rfl)).trans ((hset_ne (key_ne rfl)).trans (rfl))), (hset_self _ _ _)⟩) fun a97 r98 h99 c100 hj101 => ?_
                              obtain ⟨j, acc, w⟩ := a97
                              obtain ⟨hj, hacc, halen, hihj101_0, hihj101_1, hihj101_2⟩ := hj101
                              try dsimp only at hj
                              try dsimp only at hacc
                              try dsimp only at halen
                              try dsimp only at hihj101_0
                              try dsimp only at hihj101_1
                              try dsimp only at hihj101_2
                              show pwp _ _ (loopQ _ _ _) ⟨sets (mix _ _ _) [(15, w), (16, .int j)], _, _⟩
                              refine pwp_seq_seq ?_
                              refine pwp_seq_plain rfl fun K102 hK102 => ?_
                              refine p_step rfl (e_move (v := .sc _) rfl) trivial ?_
                              refine p_step rfl (e_move (v := _) rfl) trivial ?_
                              refine p_step rfl (SliceAt.len hihj101_1 rfl (by kernel_rfl)) trivial ?_
                              refine p_step rfl (e_lt rfl rfl) trivial ?_
                              refine p_end (hK102 _ ?_); clear hK102 K102
                              refine pwp_seq_cond rfl fun K103 hK103 => ⟨fun hb104 => ?_, fun hb104 => ?_⟩
                              · have hb104R := hb104; (try simp only [decide_eq_true_eq, decide_eq_false_iff_not, Bool.not_eq_true', Bool.not_eq_false', Int.not_lt, Int.not_le, ne_eq, Decidable.not_not, List.length_map, Bool.or_eq_true, Bool.and_eq_true, Bool.or_eq_false_iff, Bool.and_eq_false_iff] at hb104); (try (have hlen405 := short_len (evs := evs) hb104.1)); (try (have hE : askE evs p day = 0 := hb104.1; have hT : tagT evs p day = 2 := hb104.2)); (try (have hno := not_out (Int.not_lt.2 hb104.1) hb104.2))
                                obtain ⟨y, hy, hdr2, ht2⟩ := get_lt (xs := op) (i := j) (by omega)
                                refine pwp_skip ?_
                                refine seq_norm (hK103 _ ?_); clear hK103 K103
                                refine pwp_seq_block fun K105 hK105 => ?_
                                obtain ⟨g106, ev108, hg107⟩ := SliceAt.isRef hihj101_1 (by intro hq; rw [List.map_eq_nil_iff] at hq; subst hq; first | (simp at *; done) | (simp at *; omega))
                                subst ev108
                                refine pwp_seq_gops rfl fun K109 hK109 => ?_
                                refine g_begin ?_
                                refine g_step rfl rfl rfl rfl (e_move (v := .ref _ _ _ _) rfl) trivial ?_
                                refine g_step rfl rfl rfl rfl (e_move (v := .sc _) rfl) trivial ?_
                                refine g_step rfl rfl rfl rfl (e_ixaR0 rfl rfl (by kernel_rfl) (by kernel_rfl) (by simp only [List.length_map]; omega)) trivial ?_
                                refine g_step rfl rfl rfl rfl (e_loadI (a := y) rfl hg107 (by kernel_rfl) (by kernel_rfl) (by kernel_rfl) hy) trivial ?_
                                refine g_step rfl rfl rfl rfl (e_faP (pl := [(0, 1, false), (1, 1, false), (2, 1, false), (3, 1, false), (4, 1, false), (5, 1, false)]) rfl (by kernel_rfl) (by kernel_rfl) (by decide) rfl) trivial ?_
                                refine g_step rfl rfl rfl rfl (e_loadH (v := .sc _) rfl hihj101_2 (by kernel_rfl) (by kernel_rfl) (by kernel_rfl) (by exact Nat.zero_lt_one) (by decide) rfl) trivial ?_
                                refine g_step rfl rfl rfl rfl (e_ne rfl rfl) trivial ?_
                                refine g_end (ds := []) (by kernel_rfl) rfl (hK109 _ ?_); clear hK109 K109
                                refine pwp_cond rfl (fun hb110 => ?_) (fun hb110 => ?_)
                                · have hb110R := hb110; (try simp only [decide_eq_true_eq, decide_eq_false_iff_not, Bool.not_eq_true', Bool.not_eq_false', Int.not_lt, Int.not_le, ne_eq, Decidable.not_not, List.length_map, Bool.or_eq_true, Bool.and_eq_true, Bool.or_eq_false_iff, Bool.and_eq_false_iff] at hb110); (try (have hlen405 := short_len (evs := evs) hb110.1)); (try (have hE : askE evs p day = 0 := hb110.1; have hT : tagT evs p day = 2 := hb110.2)); (try (have hno := not_out (Int.not_lt.2 hb110.1) hb110.2))
                                  refine pwp_plain rfl fun K111 hK111 => ?_
                                  refine p_step rfl (e_move (v := _) rfl) trivial ?_
                                  refine p_step rfl (e_move (v := .ref _ _ _ _) rfl) trivial ?_
                                  refine p_step rfl (e_move (v := .sc _) rfl) trivial ?_
                                  refine p_step rfl (e_ixaR0 rfl rfl (by kernel_rfl) (by kernel_rfl) (by simp only [List.length_map]; omega)) trivial ?_
                                  refine p_step rfl (e_loadI (a := y) rfl hg107 (by kernel_rfl) (by kernel_rfl) (by kernel_rfl) hy) trivial ?_
                                  refine p_new rfl (e_bslice (rows := [ci y]) (zs := [.int 0]) (sz := 1) (by kernel_rfl) (by kernel_rfl) rfl (by kernel_rfl) (by decide) rfl rfl (by exact ⟨by decide, rfl, rfl, trivial⟩) rfl) trivial ?_
                                  refine p_app rfl rfl rfl (hihj101_0.keep fun _ => (hset_ne (key_ne rfl)).trans (rfl)) (src_ref (hset_self _ _ _) rfl) (by kernel_rfl) (by simp only [List.length_append, List.length_map, List.length_nil, List.length_cons]; omega) fun v112 h113 c114 hs115 hf116 => ?_
                                  have ho117 := (hf116 (12, _) (key_ne rfl) (fun _ _ => key_ne rfl)).trans ((hset_ne (key_ne rfl)).trans hg107)
                                  have ho118 := (hf116 (14, _) (key_ne rfl) (fun _ _ => key_ne rfl)).trans ((hset_ne (key_ne rfl)).trans hihj101_2)
                                  have ho119 := (hf116 (114, _) (key_ne rfl) (fun _ _ => key_ne rfl)).trans (hset_self _ _ _)
                                  refine p_ren rfl hs115 fun v120 h121 c122 hs123 hf124 => ?_
                                  have ho125 := (hf124 (12, _) (key_ne rfl) (fun _ _ => key_ne rfl)).trans ho117
                                  have ho126 := (hf124 (14, _) (key_ne rfl) (fun _ _ => key_ne rfl)).trans ho118
                                  have ho127 := (hf124 (114, _) (key_ne rfl) (fun _ _ => key_ne rfl)).trans ho119
                                  refine p_end (hK111 _ ?_); clear hK111 K111
                                  refine block_norm ?_
                                  refine seq_norm (hK105 _ ?_); clear hK105 K105
                                  refine pwp_plain rfl fun K128 hK128 => ?_
                                  refine p_step rfl (e_move (v := .sc _) rfl) trivial ?_
                                  refine p_step rfl (e_add rfl rfl (by have := ask_day hE; omega)) trivial ?_
                                  refine p_step rfl (e_assign (v := .sc _) rfl) trivial ?_
                                  refine p_end (hK128 _ ?_); clear hK128 K128
                                  exact loop_again ((j + 1, (acc ++ [y]), v120)) (by show _ < _; simp only; omega) ⟨rfl, rfl, rfl, rfl, rfl, rfl, rfl, rfl, rfl, trivial⟩ ⟨rfl, rfl, trivial⟩ (by exact ⟨by show _ + 1 ≤ _; omega, by first | exact fil_no hy (by assumption) hacc | exact fil_yes hy (by assumption) hacc, by show List.length _ ≤ _ + 1; first | omega | (simp only [List.length_append, List.length_cons, List.length_nil]; omega), (SliceAt.to hs123 (by simp [ci])), (.ofRef ho125 (by simp)), ho126⟩)
                                · have hb110R := hb110; (try simp only [decide_eq_true_eq, decide_eq_false_iff_not, Bool.not_eq_true', Bool.not_eq_false', Int.not_lt, Int.not_le, ne_eq, Decidable.not_not, List.length_map, Bool.or_eq_true, Bool.and_eq_true, Bool.or_eq_false_iff, Bool.and_eq_false_iff] at hb110); (try (have hlen405 := short_len (evs := evs) hb110.1)); (try (have hE : askE evs p day = 0 := hb110.1; have hT : tagT evs p day = 2 := hb110.2)); (try (have hno := not_out (Int.not_lt.2 hb110.1) hb110.2))
                                  refine pwp_skip ?_
                                  refine block_norm ?_
                                  refine seq_norm (hK105 _ ?_); clear hK105 K105
                                  refine pwp_plain rfl fun K129 hK129 => ?_
                                  refine p_step rfl (e_move (v := .sc _) rfl) trivial ?_
                                  refine p_step rfl (e_add rfl rfl (by have := ask_day hE; omega)) trivial ?_
                                  refine p_step rfl (e_assign (v := .sc _) rfl) trivial ?_
                                  refine p_end (hK129 _ ?_); clear hK129 K129
                                  exact loop_again ((j + 1, acc, w)) (by show _ < _; simp only; omega) ⟨rfl, rfl, rfl, rfl, rfl, rfl, rfl, rfl, rfl, trivial⟩ ⟨rfl, rfl, trivial⟩ (by exact ⟨by show _ + 1 ≤ _; omega, by first | exact fil_no hy (by assumption) hacc | exact fil_yes hy (by assumption) hacc, by show List.length _ ≤ _ + 1; first | omega | (simp only [List.length_append, List.length_cons, List.length_nil]; omega), (SliceAt.to hihj101_0 (by simp [ci])), (.ofRef hg107 (by simp)), hihj101_2⟩)
                              · have hb104R := hb104; (try simp only [decide_eq_true_eq, decide_eq_false_iff_not, Bool.not_eq_true', Bool.not_eq_false', Int.not_lt, Int.not_le, ne_eq, Decidable.not_not, List.length_map, Bool.or_eq_true, Bool.and_eq_true, Bool.or_eq_false_iff, Bool.and_eq_false_iff] at hb104); (try (have hlen405 := short_len (evs := evs) hb104.1)); (try (have hE : askE evs p day = 0 := hb104.1; have hT : tagT evs p day = 2 := hb104.2)); (try (have hno := not_out (Int.not_lt.2 hb104.1) hb104.2))
                                obtain rfl : j = op.length := by omega
                                refine pwp_exit ?_
                                refine exit_seq ?_
                                clear hK103 K103
                                refine exit_loop ?_
                                refine exit_here ?_
                                refine seq_norm (hK96 _ ?_); clear hK96 K96
                                refine pwp_plain rfl fun K130 hK130 => ?_
                                refine p_step rfl (e_move (v := _) rfl) trivial ?_
                                refine p_ren rfl hihj101_0 fun v131 h132 c133 hs134 hf135 => ?_
                                have ho136 := (hf135 (14, _) (key_ne rfl) (fun _ _ => key_ne rfl)).trans hihj101_2
                                refine p_end (hK130 _ ?_); clear hK130 K130
                                refine block_norm ?_
                                refine block_norm ?_
                                refine seq_norm (hK36 _ ?_); clear hK36 K36
                                refine pwp_plain rfl fun K137 hK137 => ?_
                                refine p_step rfl (e_move (v := .sc _) rfl) trivial ?_
                                refine p_step rfl (e_add rfl rfl (by have := ask_day hE; omega)) trivial ?_
                                refine p_step rfl (e_assign (v := .sc _) rfl) trivial ?_
                                refine p_end (hK137 _ ?_); clear hK137 K137
                                exact loop_again ((k + 1, d, hd, fr, acc, v131)) (by show _ < _; simp only; omega) ⟨rfl, rfl, rfl, trivial⟩ ⟨rfl, rfl, rfl, rfl, rfl, trivial⟩ (by exact ⟨by show _ + 1 ≤ _; omega, by first | exact lw_on hinv (lw_out (by assumption)) | exact lw_on hinv (lw_0 hno (by omega)) | exact lw_on hinv (lw_6 hno (by omega)) | exact lw_on hinv (lw_3 hno (by omega)) | exact lw_on hinv (lw_ip hno (by omega) (by assumption)) | exact lw_on hinv (lw_in hno (by omega) (by assumption)) | exact lw_on hinv (lw_4 hno (by omega)) | exact lw_on hinv (lw_5 hno (by omega) (by assumption)) | exact lw_on hinv (lw_n hno (by omega)) | (exfalso; omega), by show List.length _ ≤ _ + 1; first | omega | (simp only [List.length_append, List.length_cons, List.length_nil]; omega), by first | exact hfr | (show -1 ≤ x.day ∧ x.day ≤ 20000; omega) | exact (by decide : (-1 : Int) ≤ -1 ∧ (-1 : Int) ≤ 20000), (SliceAt.to hs134 (by simp [ci]))⟩)
                            · have hb93R := hb93; (try simp only [decide_eq_true_eq, decide_eq_false_iff_not, Bool.not_eq_true', Bool.not_eq_false', Int.not_lt, Int.not_le, ne_eq, Decidable.not_not, List.length_map, Bool.or_eq_true, Bool.and_eq_true, Bool.or_eq_false_iff, Bool.and_eq_false_iff] at hb93); (try (have hlen405 := short_len (evs := evs) hb93.1)); (try (have hE : askE evs p day = 0 := hb93.1; have hT : tagT evs p day = 2 := hb93.2)); (try (have hno := not_out (Int.not_lt.2 hb93.1) hb93.2))
                              refine pwp_skip ?_
                              refine block_norm ?_
                              refine block_norm ?_
                              refine seq_norm (hK36 _ ?_); clear hK36 K36
                              refine pwp_plain rfl fun K138 hK138 => ?_
                              refine p_step rfl (e_move (v := .sc _) rfl) trivial ?_
                              refine p_step rfl (e_add rfl rfl (by have := ask_day hE; omega)) trivial ?_
                              refine p_step rfl (e_assign (v := .sc _) rfl) trivial ?_
                              refine p_end (hK138 _ ?_); clear hK138 K138
                              exact loop_again ((k + 1, d, hd, fr, op, v)) (by show _ < _; simp only; omega) ⟨rfl, rfl, rfl, trivial⟩ ⟨rfl, rfl, rfl, rfl, rfl, trivial⟩ (by exact ⟨by show _ + 1 ≤ _; omega, by first | exact lw_on hinv (lw_out (by assumption)) | exact lw_on hinv (lw_0 hno (by omega)) | exact lw_on hinv (lw_6 hno (by omega)) | exact lw_on hinv (lw_3 hno (by omega)) | exact lw_on hinv (lw_ip hno (by omega) (by assumption)) | exact lw_on hinv (lw_in hno (by omega) (by assumption)) | exact lw_on hinv (lw_4 hno (by omega)) | exact lw_on hinv (lw_5 hno (by omega) (by assumption)) | exact lw_on hinv (lw_n hno (by omega)) | (exfalso; omega), by show List.length _ ≤ _ + 1; first | omega | (simp only [List.length_append, List.length_cons, List.length_nil]; omega), by first | exact hfr | (show -1 ≤ x.day ∧ x.day ≤ 20000; omega) | exact (by decide : (-1 : Int) ≤ -1 ∧ (-1 : Int) ≤ 20000), (SliceAt.to (hihj32_0.keep fun _ => (hset_ne (key_ne rfl)).trans ((hset_ne (key_ne rfl)).trans (rfl))) (by simp [ci]))⟩)
                      · have hb61R := hb61; (try simp only [decide_eq_true_eq, decide_eq_false_iff_not, Bool.not_eq_true', Bool.not_eq_false', Int.not_lt, Int.not_le, ne_eq, Decidable.not_not, List.length_map, Bool.or_eq_true, Bool.and_eq_true, Bool.or_eq_false_iff, Bool.and_eq_false_iff] at hb61); (try (have hlen405 := short_len (evs := evs) hb61.1)); (try (have hE : askE evs p day = 0 := hb61.1; have hT : tagT evs p day = 2 := hb61.2)); (try (have hno := not_out (Int.not_lt.2 hb61.1) hb61.2))
                        refine pwp_plain rfl fun K139 hK139 => ?_
                        refine p_step rfl (e_eq rfl rfl) trivial ?_
                        refine p_step rfl (e_assign (v := .sc _) rfl) trivial ?_
                        refine p_end (hK139 _ ?_); clear hK139 K139
                        refine seq_norm (hK60 _ ?_); clear hK60 K60
                        refine pwp_cond rfl (fun hb140 => ?_) (fun hb140 => ?_)
                        · have hb140R := hb140; (try simp only [decide_eq_true_eq, decide_eq_false_iff_not, Bool.not_eq_true', Bool.not_eq_false', Int.not_lt, Int.not_le, ne_eq, Decidable.not_not, List.length_map, Bool.or_eq_true, Bool.and_eq_true, Bool.or_eq_false_iff, Bool.and_eq_false_iff] at hb140); (try (have hlen405 := short_len (evs := evs) hb140.1)); (try (have hE : askE evs p day = 0 := hb140.1; have hT : tagT evs p day = 2 := hb140.2)); (try (have hno := not_out (Int.not_lt.2 hb140.1) hb140.2))
                          refine pwp_seq_seq ?_
                          refine pwp_seq_plain rfl fun K141 hK141 => ?_
                          refine p_step rfl (e_faP (pl := [(0, 1, false), (1, 1, false), (2, 1, false), (3, 1, false), (4, 1, false), (5, 1, false)]) rfl (by kernel_rfl) (by kernel_rfl) (by decide) rfl) trivial ?_
                          refine p_step rfl (e_loadH (v := .sc _) rfl (hset_self _ _ _) (by kernel_rfl) (by kernel_rfl) (by kernel_rfl) (by exact Nat.zero_lt_one) (by decide) rfl) trivial ?_
                          refine p_step rfl (e_eq rfl rfl) trivial ?_
                          refine p_end (hK141 _ ?_); clear hK141 K141
                          refine pwp_seq_cutG [0, 1, 2, 9, 12, 13, 14] [(10, .bool (if (decide (x.kind = (1))) = true then x.passed else hd))] (fun K142 hK142 => ?_) (fun r143 => ?_)
                          · skip
                            refine pwp_cond rfl (fun hb144 => ?_) (fun hb144 => ?_)
                            · have hb144R := hb144; (try simp only [decide_eq_true_eq, decide_eq_false_iff_not, Bool.not_eq_true', Bool.not_eq_false', Int.not_lt, Int.not_le, ne_eq, Decidable.not_not, List.length_map, Bool.or_eq_true, Bool.and_eq_true, Bool.or_eq_false_iff, Bool.and_eq_false_iff] at hb144); (try (have hlen405 := short_len (evs := evs) hb144.1)); (try (have hE : askE evs p day = 0 := hb144.1; have hT : tagT evs p day = 2 := hb144.2)); (try (have hno := not_out (Int.not_lt.2 hb144.1) hb144.2))
                              refine pwp_plain rfl fun K145 hK145 => ?_
                              refine p_step rfl (e_faP (pl := [(0, 1, false), (1, 1, false), (2, 1, false), (3, 1, false), (4, 1, false), (5, 1, false)]) rfl (by kernel_rfl) (by kernel_rfl) (by decide) rfl) trivial ?_
                              refine p_step rfl (e_loadH (v := .sc _) rfl (hset_self _ _ _) (by kernel_rfl) (by kernel_rfl) (by kernel_rfl) (by exact Nat.zero_lt_one) (by decide) rfl) trivial ?_
                              refine p_step rfl (e_assign (v := .sc _) rfl) trivial ?_
                              refine p_end (hK145 _ ?_); clear hK145 K145
                              exact seq_norm (hK142 _ ⟨rfl, rfl, rfl, rfl, rfl, rfl, rfl, trivial⟩ ⟨(congrArg PV.bool (show (x.passed : Bool) = (if (decide (x.kind = (1))) = true then x.passed else hd) by first | rfl | ((try rw [hb144R]) <;> (first | rfl | (simp only [Bool.and_true, Bool.and_false, Bool.true_and, Bool.false_and, Bool.or_true, Bool.or_false, Bool.true_or, Bool.false_or, Bool.not_true, Bool.not_false, if_true, if_false, Bool.false_eq_true, reduceIte] <;> rfl))) | (simp only [hb144R, Bool.and_true, Bool.and_false, Bool.true_and, Bool.false_and, Bool.or_true, Bool.or_false, Bool.true_or, Bool.false_or, Bool.not_true, Bool.not_false, if_true, if_false, Bool.false_eq_true, reduceIte] <;> rfl))), trivial⟩)
                            · have hb144R := hb144; (try simp only [decide_eq_true_eq, decide_eq_false_iff_not, Bool.not_eq_true', Bool.not_eq_false', Int.not_lt, Int.not_le, ne_eq, Decidable.not_not, List.length_map, Bool.or_eq_true, Bool.and_eq_true, Bool.or_eq_false_iff, Bool.and_eq_false_iff] at hb144); (try (have hlen405 := short_len (evs := evs) hb144.1)); (try (have hE : askE evs p day = 0 := hb144.1; have hT : tagT evs p day = 2 := hb144.2)); (try (have hno := not_out (Int.not_lt.2 hb144.1) hb144.2))
                              refine pwp_skip ?_
                              exact seq_norm (hK142 _ ⟨rfl, rfl, rfl, rfl, rfl, rfl, rfl, trivial⟩ ⟨(congrArg PV.bool (show (hd : Bool) = (if (decide (x.kind = (1))) = true then x.passed else hd) by first | rfl | ((try rw [hb144R]) <;> (first | rfl | (simp only [Bool.and_true, Bool.and_false, Bool.true_and, Bool.false_and, Bool.or_true, Bool.or_false, Bool.true_or, Bool.false_or, Bool.not_true, Bool.not_false, if_true, if_false, Bool.false_eq_true, reduceIte] <;> rfl))) | (simp only [hb144R, Bool.and_true, Bool.and_false, Bool.true_and, Bool.false_and, Bool.or_true, Bool.or_false, Bool.true_or, Bool.false_or, Bool.not_true, Bool.not_false, if_true, if_false, Bool.false_eq_true, reduceIte] <;> rfl))), trivial⟩)
                          · skip
                            refine pwp_seq_plain rfl fun K146 hK146 => ?_
                            refine p_step rfl (e_assign (v := .sc _) rfl) trivial ?_
                            refine p_end (hK146 _ ?_); clear hK146 K146
                            refine pwp_seq_plain rfl fun K147 hK147 => ?_
                            refine p_step rfl (e_faP (pl := [(0, 1, false), (1, 1, false), (2, 1, false), (3, 1, false), (4, 1, false), (5, 1, false)]) rfl (by kernel_rfl) (by kernel_rfl) (by decide) rfl) trivial ?_
                            refine p_step rfl (e_loadH (v := .sc _) rfl (hset_self _ _ _) (by kernel_rfl) (by kernel_rfl) (by kernel_rfl) (by exact Nat.zero_lt_one) (by decide) rfl) trivial ?_
                            refine p_end (hK147 _ ?_); clear hK147 K147
                            refine pwp_cond rfl (fun hb148 => ?_) (fun hb148 => ?_)
                            · have hb148R := hb148; (try simp only [decide_eq_true_eq, decide_eq_false_iff_not, Bool.not_eq_true', Bool.not_eq_false', Int.not_lt, Int.not_le, ne_eq, Decidable.not_not, List.length_map, Bool.or_eq_true, Bool.and_eq_true, Bool.or_eq_false_iff, Bool.and_eq_false_iff] at hb148); (try (have hlen405 := short_len (evs := evs) hb148.1)); (try (have hE : askE evs p day = 0 := hb148.1; have hT : tagT evs p day = 2 := hb148.2)); (try (have hno := not_out (Int.not_lt.2 hb148.1) hb148.2))
                              refine pwp_plain rfl fun K149 hK149 => ?_
                              refine p_step rfl (e_faP (pl := [(0, 1, false), (1, 1, false), (2, 1, false), (3, 1, false), (4, 1, false), (5, 1, false)]) rfl (by kernel_rfl) (by kernel_rfl) (by decide) rfl) trivial ?_
                              refine p_step rfl (e_loadH (v := .sc _) rfl (hset_self _ _ _) (by kernel_rfl) (by kernel_rfl) (by kernel_rfl) (by exact Nat.zero_lt_one) (by decide) rfl) trivial ?_
                              refine p_step rfl (e_assign (v := .sc _) rfl) trivial ?_
                              refine p_end (hK149 _ ?_); clear hK149 K149
                              refine block_norm ?_
                              refine block_norm ?_
                              refine seq_norm (hK36 _ ?_); clear hK36 K36
                              refine pwp_plain rfl fun K150 hK150 => ?_
                              refine p_step rfl (e_move (v := .sc _) rfl) trivial ?_
                              refine p_step rfl (e_add rfl rfl (by have := ask_day hE; omega)) trivial ?_
                              refine p_step rfl (e_assign (v := .sc _) rfl) trivial ?_
                              refine p_end (hK150 _ ?_); clear hK150 K150
                              exact loop_again ((k + 1, d, (if (decide (x.kind = (1))) = true then x.passed else hd), x.day, op, v)) (by show _ < _; simp only; omega) ⟨rfl, rfl, rfl, trivial⟩ ⟨rfl, rfl, rfl, rfl, rfl, trivial⟩ (by exact ⟨by show _ + 1 ≤ _; omega, by first | exact lw_on hinv (lw_out (by assumption)) | exact lw_on hinv (lw_0 hno (by omega)) | exact lw_on hinv (lw_6 hno (by omega)) | exact lw_on hinv (lw_3 hno (by omega)) | exact lw_on hinv (lw_ip hno (by omega) (by assumption)) | exact lw_on hinv (lw_in hno (by omega) (by assumption)) | exact lw_on hinv (lw_4 hno (by omega)) | exact lw_on hinv (lw_5 hno (by omega) (by assumption)) | exact lw_on hinv (lw_n hno (by omega)) | (exfalso; omega), by show List.length _ ≤ _ + 1; first | omega | (simp only [List.length_append, List.length_cons, List.length_nil]; omega), by first | exact hfr | (show -1 ≤ x.day ∧ x.day ≤ 20000; omega) | exact (by decide : (-1 : Int) ≤ -1 ∧ (-1 : Int) ≤ 20000), (SliceAt.to (hihj32_0.keep fun _ => (hset_ne (key_ne rfl)).trans ((hset_ne (key_ne rfl)).trans (rfl))) (by simp [ci]))⟩)
                            · have hb148R := hb148; (try simp only [decide_eq_true_eq, decide_eq_false_iff_not, Bool.not_eq_true', Bool.not_eq_false', Int.not_lt, Int.not_le, ne_eq, Decidable.not_not, List.length_map, Bool.or_eq_true, Bool.and_eq_true, Bool.or_eq_false_iff, Bool.and_eq_false_iff] at hb148); (try (have hlen405 := short_len (evs := evs) hb148.1)); (try (have hE : askE evs p day = 0 := hb148.1; have hT : tagT evs p day = 2 := hb148.2)); (try (have hno := not_out (Int.not_lt.2 hb148.1) hb148.2))
                              refine pwp_skip ?_
                              refine block_norm ?_
                              refine block_norm ?_
                              refine seq_norm (hK36 _ ?_); clear hK36 K36
                              refine pwp_plain rfl fun K151 hK151 => ?_
                              refine p_step rfl (e_move (v := .sc _) rfl) trivial ?_
                              refine p_step rfl (e_add rfl rfl (by have := ask_day hE; omega)) trivial ?_
                              refine p_step rfl (e_assign (v := .sc _) rfl) trivial ?_
                              refine p_end (hK151 _ ?_); clear hK151 K151
                              exact loop_again ((k + 1, d, (if (decide (x.kind = (1))) = true then x.passed else hd), (-1), op, v)) (by show _ < _; simp only; omega) ⟨rfl, rfl, rfl, trivial⟩ ⟨rfl, rfl, rfl, rfl, rfl, trivial⟩ (by exact ⟨by show _ + 1 ≤ _; omega, by first | exact lw_on hinv (lw_out (by assumption)) | exact lw_on hinv (lw_0 hno (by omega)) | exact lw_on hinv (lw_6 hno (by omega)) | exact lw_on hinv (lw_3 hno (by omega)) | exact lw_on hinv (lw_ip hno (by omega) (by assumption)) | exact lw_on hinv (lw_in hno (by omega) (by assumption)) | exact lw_on hinv (lw_4 hno (by omega)) | exact lw_on hinv (lw_5 hno (by omega) (by assumption)) | exact lw_on hinv (lw_n hno (by omega)) | (exfalso; omega), by show List.length _ ≤ _ + 1; first | omega | (simp only [List.length_append, List.length_cons, List.length_nil]; omega), by first | exact hfr | (show -1 ≤ x.day ∧ x.day ≤ 20000; omega) | exact (by decide : (-1 : Int) ≤ -1 ∧ (-1 : Int) ≤ 20000), (SliceAt.to (hihj32_0.keep fun _ => (hset_ne (key_ne rfl)).trans ((hset_ne (key_ne rfl)).trans (rfl))) (by simp [ci]))⟩)
                        · have hb140R := hb140; (try simp only [decide_eq_true_eq, decide_eq_false_iff_not, Bool.not_eq_true', Bool.not_eq_false', Int.not_lt, Int.not_le, ne_eq, Decidable.not_not, List.length_map, Bool.or_eq_true, Bool.and_eq_true, Bool.or_eq_false_iff, Bool.and_eq_false_iff] at hb140); (try (have hlen405 := short_len (evs := evs) hb140.1)); (try (have hE : askE evs p day = 0 := hb140.1; have hT : tagT evs p day = 2 := hb140.2)); (try (have hno := not_out (Int.not_lt.2 hb140.1) hb140.2))
                          refine pwp_seq_plain rfl fun K152 hK152 => ?_
                          refine p_step rfl (e_eq rfl rfl) trivial ?_
                          refine p_step rfl (e_assign (v := .sc _) rfl) trivial ?_
                          refine p_end (hK152 _ ?_); clear hK152 K152
                          refine pwp_cond rfl (fun hb153 => ?_) (fun hb153 => ?_)
                          · have hb153R := hb153; (try simp only [decide_eq_true_eq, decide_eq_false_iff_not, Bool.not_eq_true', Bool.not_eq_false', Int.not_lt, Int.not_le, ne_eq, Decidable.not_not, List.length_map, Bool.or_eq_true, Bool.and_eq_true, Bool.or_eq_false_iff, Bool.and_eq_false_iff] at hb153); (try (have hlen405 := short_len (evs := evs) hb153.1)); (try (have hE : askE evs p day = 0 := hb153.1; have hT : tagT evs p day = 2 := hb153.2)); (try (have hno := not_out (Int.not_lt.2 hb153.1) hb153.2))
                            refine pwp_plain rfl fun K154 hK154 => ?_
                            refine p_step rfl (e_move (v := _) rfl) trivial ?_
                            refine p_step rfl (e_faP (pl := [(0, 1, false), (1, 1, false), (2, 1, false), (3, 1, false), (4, 1, false), (5, 1, false)]) rfl (by kernel_rfl) (by kernel_rfl) (by decide) rfl) trivial ?_
                            refine p_step rfl (e_loadH (v := .sc _) rfl (hset_self _ _ _) (by kernel_rfl) (by kernel_rfl) (by kernel_rfl) (by exact Nat.zero_lt_one) (by decide) rfl) trivial ?_
                            refine p_new rfl (e_bslice (rows := [ci x.number]) (zs := [.int 0]) (sz := 1) (by kernel_rfl) (by kernel_rfl) rfl (by kernel_rfl) (by decide) rfl rfl (by exact ⟨by decide, rfl, rfl, trivial⟩) rfl) trivial ?_
                            refine p_app rfl rfl rfl (hihj32_0.keep fun _ => (hset_ne (key_ne rfl)).trans ((hset_ne (key_ne rfl)).trans ((hset_ne (key_ne rfl)).trans (rfl)))) (src_ref (hset_self _ _ _) rfl) (by kernel_rfl) (by simp only [List.length_append, List.length_map, List.length_nil, List.length_cons]; omega) fun v155 h156 c157 hs158 hf159 => ?_
                            have ho160 := (hf159 (14, _) (key_ne rfl) (fun _ _ => key_ne rfl)).trans ((hset_ne (key_ne rfl)).trans (hset_self _ _ _))
                            have ho161 := (hf159 (92, _) (key_ne rfl) (fun _ _ => key_ne rfl)).trans (hset_self _ _ _)
                            refine p_ren rfl hs158 fun v162 h163 c164 hs165 hf166 => ?_
                            have ho167 := (hf166 (14, _) (key_ne rfl) (fun _ _ => key_ne rfl)).trans ho160
                            have ho168 := (hf166 (92, _) (key_ne rfl) (fun _ _ => key_ne rfl)).trans ho161
                            refine p_end (hK154 _ ?_); clear hK154 K154
                            refine block_norm ?_
                            refine block_norm ?_
                            refine seq_norm (hK36 _ ?_); clear hK36 K36
                            refine pwp_plain rfl fun K169 hK169 => ?_
                            refine p_step rfl (e_move (v := .sc _) rfl) trivial ?_
                            refine p_step rfl (e_add rfl rfl (by have := ask_day hE; omega)) trivial ?_
                            refine p_step rfl (e_assign (v := .sc _) rfl) trivial ?_
                            refine p_end (hK169 _ ?_); clear hK169 K169
                            exact loop_again ((k + 1, d, hd, fr, (op ++ [x.number]), v162)) (by show _ < _; simp only; omega) ⟨rfl, rfl, rfl, trivial⟩ ⟨rfl, rfl, rfl, rfl, rfl, trivial⟩ (by exact ⟨by show _ + 1 ≤ _; omega, by first | exact lw_on hinv (lw_out (by assumption)) | exact lw_on hinv (lw_0 hno (by omega)) | exact lw_on hinv (lw_6 hno (by omega)) | exact lw_on hinv (lw_3 hno (by omega)) | exact lw_on hinv (lw_ip hno (by omega) (by assumption)) | exact lw_on hinv (lw_in hno (by omega) (by assumption)) | exact lw_on hinv (lw_4 hno (by omega)) | exact lw_on hinv (lw_5 hno (by omega) (by assumption)) | exact lw_on hinv (lw_n hno (by omega)) | (exfalso; omega), by show List.length _ ≤ _ + 1; first | omega | (simp only [List.length_append, List.length_cons, List.length_nil]; omega), by first | exact hfr | (show -1 ≤ x.day ∧ x.day ≤ 20000; omega) | exact (by decide : (-1 : Int) ≤ -1 ∧ (-1 : Int) ≤ 20000), (SliceAt.to hs165 (by simp [ci]))⟩)
                          · have hb153R := hb153; (try simp only [decide_eq_true_eq, decide_eq_false_iff_not, Bool.not_eq_true', Bool.not_eq_false', Int.not_lt, Int.not_le, ne_eq, Decidable.not_not, List.length_map, Bool.or_eq_true, Bool.and_eq_true, Bool.or_eq_false_iff, Bool.and_eq_false_iff] at hb153); (try (have hlen405 := short_len (evs := evs) hb153.1)); (try (have hE : askE evs p day = 0 := hb153.1; have hT : tagT evs p day = 2 := hb153.2)); (try (have hno := not_out (Int.not_lt.2 hb153.1) hb153.2))
                            refine pwp_seq_plain rfl fun K170 hK170 => ?_
                            refine p_step rfl (e_eq rfl rfl) trivial ?_
                            refine p_step rfl (e_assign (v := .sc _) rfl) trivial ?_
                            refine p_end (hK170 _ ?_); clear hK170 K170
                            refine pwp_cond rfl (fun hb171 => ?_) (fun hb171 => ?_)
                            · have hb171R := hb171; (try simp only [decide_eq_true_eq, decide_eq_false_iff_not, Bool.not_eq_true', Bool.not_eq_false', Int.not_lt, Int.not_le, ne_eq, Decidable.not_not, List.length_map, Bool.or_eq_true, Bool.and_eq_true, Bool.or_eq_false_iff, Bool.and_eq_false_iff] at hb171); (try (have hlen405 := short_len (evs := evs) hb171.1)); (try (have hE : askE evs p day = 0 := hb171.1; have hT : tagT evs p day = 2 := hb171.2)); (try (have hno := not_out (Int.not_lt.2 hb171.1) hb171.2))
                              refine pwp_seq_plain rfl fun K172 hK172 => ?_
                              refine p_step rfl (e_assign (v := .nil) rfl) trivial ?_
                              refine p_end (hK172 _ ?_); clear hK172 K172
                              refine pwp_seq_seq ?_
                              refine pwp_seq_plain rfl fun K173 hK173 => ?_
                              refine p_step rfl (e_assign (v := .sc _) rfl) trivial ?_
                              refine p_end (hK173 _ ?_); clear hK173 K173
                              refine pwp_seq_block fun K174 hK174 => ?_
                              refine pwp_loopR (α := Nat × (List Int) × PV) [0, 1, 2, 9, 10, 11, 12, 13, 14] (fun (a175 : Nat × (List Int) × PV) => [(15, (a175.2.2)), (16, .int (a175.1))]) (fun (a175 : Nat × (List Int) × PV) (h : Heap) (_ : Nat → Nat) => ((a175.1) ≤ op.length) ∧ ((a175.2.1) = (op.take (a175.1)).filter fun m => decide (¬ m = x.number)) ∧ ((a175.2.1).length ≤ (a175.1)) ∧ (SliceAt h 15 (a175.2.2) 1 ((a175.2.1).map ci)) ∧ (SliceAt h 12 v 1 (op.map ci)) ∧ (h (14, _) = some (.rows 6 [Ev.enc x]))) (fun (a175 : Nat × (List Int) × PV) => op.length - (a175.1)) (0, [], .nil) (by exact ⟨rfl, rfl, trivial⟩) (by exact ⟨by exact Nat.zero_le _, by exact rfl, by exact Nat.le_refl _, .nil, (hihj32_0.keep fun _ => (hset_ne (key_ne rfl)).trans ((hset_ne (key_ne rfl)).trans (rfl))), (hset_self _ _ _)⟩) fun a175 r176 h177 c178 hj179 => ?_
                              obtain ⟨j, acc, w⟩ := a175
                              obtain ⟨hj, hacc, halen, hihj179_0, hihj179_1, hihj179_2⟩ := hj179
                              try dsimp only at hj
                              try dsimp only at hacc
                              try dsimp only at halen
                              try dsimp only at hihj179_0
                              try dsimp only at hihj179_1
                              try dsimp only at hihj179_2
                              show pwp _ _ (loopQ _ _ _) ⟨sets (mix _ _ _) [(15, w), (16, .int j)], _, _⟩
                              refine pwp_seq_seq ?_
                              refine pwp_seq_plain rfl fun K180 hK180 => ?_
                              refine p_step rfl (e_move (v := .sc _) rfl) trivial ?_
                              refine p_step rfl (e_move (v := _) rfl) trivial ?_
                              refine p_step rfl (SliceAt.len hihj179_1 rfl (by kernel_rfl)) trivial ?_
                              refine p_step rfl (e_lt rfl rfl) trivial ?_
                              refine p_end (hK180 _ ?_); clear hK180 K180
                              refine pwp_seq_cond rfl fun K181 hK181 => ⟨fun hb182 => ?_, fun hb182 => ?_⟩
                              · have hb182R := hb182; (try simp only [decide_eq_true_eq, decide_eq_false_iff_not, Bool.not_eq_true', Bool.not_eq_false', Int.not_lt, Int.not_le, ne_eq, Decidable.not_not, List.length_map, Bool.or_eq_true, Bool.and_eq_true, Bool.or_eq_false_iff, Bool.and_eq_false_iff] at hb182); (try (have hlen405 := short_len (evs := evs) hb182.1)); (try (have hE : askE evs p day = 0 := hb182.1; have hT : tagT evs p day = 2 := hb182.2)); (try (have hno := not_out (Int.not_lt.2 hb182.1) hb182.2))
                                obtain ⟨y, hy, hdr2, ht2⟩ := get_lt (xs := op) (i := j) (by omega)
                                refine pwp_skip ?_
                                refine seq_norm (hK181 _ ?_); clear hK181 K181
                                refine pwp_seq_block fun K183 hK183 => ?_
                                obtain ⟨g184, ev186, hg185⟩ := SliceAt.isRef hihj179_1 (by intro hq; rw [List.map_eq_nil_iff] at hq; subst hq; first | (simp at *; done) | (simp at *; omega))
                                subst ev186
                                refine pwp_seq_gops rfl fun K187 hK187 => ?_
                                refine g_begin ?_
                                refine g_step rfl rfl rfl rfl (e_move (v := .ref _ _ _ _) rfl) trivial ?_
                                refine g_step rfl rfl rfl rfl (e_move (v := .sc _) rfl) trivial ?_
                                refine g_step rfl rfl rfl rfl (e_ixaR0 rfl rfl (by kernel_rfl) (by kernel_rfl) (by simp only [List.length_map]; omega)) trivial ?_
                                refine g_step rfl rfl rfl rfl (e_loadI (a := y) rfl hg185 (by kernel_rfl) (by kernel_rfl) (by kernel_rfl) hy) trivial ?_
                                refine g_step rfl rfl rfl rfl (e_faP (pl := [(0, 1, false), (1, 1, false), (2, 1, false), (3, 1, false), (4, 1, false), (5, 1, false)]) rfl (by kernel_rfl) (by kernel_rfl) (by decide) rfl) trivial ?_
                                refine g_step rfl rfl rfl rfl (e_loadH (v := .sc _) rfl hihj179_2 (by kernel_rfl) (by kernel_rfl) (by kernel_rfl) (by exact Nat.zero_lt_one) (by decide) rfl) trivial ?_
                                refine g_step rfl rfl rfl rfl (e_ne rfl rfl) trivial ?_
                                refine g_end (ds := []) (by kernel_rfl) rfl (hK187 _ ?_); clear hK187 K187
                                refine pwp_cond rfl (fun hb188 => ?_) (fun hb188 => ?_)
                                · have hb188R := hb188; (try simp only [decide_eq_true_eq, decide_eq_false_iff_not, Bool.not_eq_true', Bool.not_eq_false', Int.not_lt, Int.not_le, ne_eq, Decidable.not_not, List.length_map, Bool.or_eq_true, Bool.and_eq_true, Bool.or_eq_false_iff, Bool.and_eq_false_iff] at hb188); (try (have hlen405 := short_len (evs := evs) hb188.1)); (try (have hE : askE evs p day = 0 := hb188.1; have hT : tagT evs p day = 2 := hb188.2)); (try (have hno := not_out (Int.not_lt.2 hb188.1) hb188.2))
                                  refine pwp_plain rfl fun K189 hK189 => ?_
                                  refine p_step rfl (e_move (v := _) rfl) trivial ?_
                                  refine p_step rfl (e_move (v := .ref _ _ _ _) rfl) trivial ?_
                                  refine p_step rfl (e_move (v := .sc _) rfl) trivial ?_
                                  refine p_step rfl (e_ixaR0 rfl rfl (by kernel_rfl) (by kernel_rfl) (by simp only [List.length_map]; omega)) trivial ?_
                                  refine p_step rfl (e_loadI (a := y) rfl hg185 (by kernel_rfl) (by kernel_rfl) (by kernel_rfl) hy) trivial ?_
                                  refine p_new rfl (e_bslice (rows := [ci y]) (zs := [.int 0]) (sz := 1) (by kernel_rfl) (by kernel_rfl) rfl (by kernel_rfl) (by decide) rfl rfl (by exact ⟨by decide, rfl, rfl, trivial⟩) rfl) trivial ?_
                                  refine p_app rfl rfl rfl (hihj179_0.keep fun _ => (hset_ne (key_ne rfl)).trans (rfl)) (src_ref (hset_self _ _ _) rfl) (by kernel_rfl) (by simp only [List.length_append, List.length_map, List.length_nil, List.length_cons]; omega) fun v190 h191 c192 hs193 hf194 => ?_
                                  have ho195 := (hf194 (12, _) (key_ne rfl) (fun _ _ => key_ne rfl)).trans ((hset_ne (key_ne rfl)).trans hg185)
                                  have ho196 := (hf194 (14, _) (key_ne rfl) (fun _ _ => key_ne rfl)).trans ((hset_ne (key_ne rfl)).trans hihj179_2)
                                  have ho197 := (hf194 (114, _) (key_ne rfl) (fun _ _ => key_ne rfl)).trans (hset_self _ _ _)
                                  refine p_ren rfl hs193 fun v198 h199 c200 hs201 hf202 => ?_
                                  have ho203 := (hf202 (12, _) (key_ne rfl) (fun _ _ => key_ne rfl)).trans ho195
                                  have ho204 := (hf202 (14, _) (key_ne rfl) (fun _ _ => key_ne rfl)).trans ho196
                                  have ho205 := (hf202 (114, _) (key_ne rfl) (fun _ _ => key_ne rfl)).trans ho197
                                  refine p_end (hK189 _ ?_); clear hK189 K189
                                  refine block_norm ?_
                                  refine seq_norm (hK183 _ ?_); clear hK183 K183
                                  refine pwp_plain rfl fun K206 hK206 => ?_
                                  refine p_step rfl (e_move (v := .sc _) rfl) trivial ?_
                                  refine p_step rfl (e_add rfl rfl (by have := ask_day hE; omega)) trivial ?_
                                  refine p_step rfl (e_assign (v := .sc _) rfl) trivial ?_
                                  refine p_end (hK206 _ ?_); clear hK206 K206
                                  exact loop_again ((j + 1, (acc ++ [y]), v198)) (by show _ < _; simp only; omega) ⟨rfl, rfl, rfl, rfl, rfl, rfl, rfl, rfl, rfl, trivial⟩ ⟨rfl, rfl, trivial⟩ (by exact ⟨by show _ + 1 ≤ _; omega, by first | exact fil_no hy (by assumption) hacc | exact fil_yes hy (by assumption) hacc, by show List.length _ ≤ _ + 1; first | omega | (simp only [List.length_append, List.length_cons, List.length_nil]; omega), (SliceAt.to hs201 (by simp [ci])), (.ofRef ho203 (by simp)), ho204⟩)
                                · have hb188R := hb188; (try simp only [decide_eq_true_eq, decide_eq_false_iff_not, Bool.not_eq_true', Bool.not_eq_false', Int.not_lt, Int.not_le, ne_eq, Decidable.not_not, List.length_map, Bool.or_eq_true, Bool.and_eq_true, Bool.or_eq_false_iff, Bool.and_eq_false_iff] at hb188); (try (have hlen405 := short_len (evs := evs) hb188.1)); (try (have hE : askE evs p day = 0 := hb188.1; have hT : tagT evs p day = 2 := hb188.2)); (try (have hno := not_out (Int.not_lt.2 hb188.1) hb188.2))
                                  refine pwp_skip ?_
                                  refine block_norm ?_
                                  refine seq_norm (hK183 _ ?_); clear hK183 K183
                                  refine pwp_plain rfl fun K207 hK207 => ?_
                                  refine p_step rfl (e_move (v := .sc _) rfl) trivial ?_
                                  refine p_step rfl (e_add rfl rfl (by have := ask_day hE; omega)) trivial ?_
                                  refine p_step rfl (e_assign (v := .sc _) rfl) trivial ?_
                                  refine p_end (hK207 _ ?_); clear hK207 K207
                                  exact loop_again ((j + 1, acc, w)) (by show _ < _; simp only; omega) ⟨rfl, rfl, rfl, rfl, rfl, rfl, rfl, rfl, rfl, trivial⟩ ⟨rfl, rfl, trivial⟩ (by exact ⟨by show _ + 1 ≤ _; omega, by first | exact fil_no hy (by assumption) hacc | exact fil_yes hy (by assumption) hacc, by show List.length _ ≤ _ + 1; first | omega | (simp only [List.length_append, List.length_cons, List.length_nil]; omega), (SliceAt.to hihj179_0 (by simp [ci])), (.ofRef hg185 (by simp)), hihj179_2⟩)
                              · have hb182R := hb182; (try simp only [decide_eq_true_eq, decide_eq_false_iff_not, Bool.not_eq_true', Bool.not_eq_false', Int.not_lt, Int.not_le, ne_eq, Decidable.not_not, List.length_map, Bool.or_eq_true, Bool.and_eq_true, Bool.or_eq_false_iff, Bool.and_eq_false_iff] at hb182); (try (have hlen405 := short_len (evs := evs) hb182.1)); (try (have hE : askE evs p day = 0 := hb182.1; have hT : tagT evs p day = 2 := hb182.2)); (try (have hno := not_out (Int.not_lt.2 hb182.1) hb182.2))
                                obtain rfl : j = op.length := by omega
                                refine pwp_exit ?_
                                refine exit_seq ?_
                                clear hK181 K181
                                refine exit_loop ?_
                                refine exit_here ?_
                                refine seq_norm (hK174 _ ?_); clear hK174 K174
                                refine pwp_plain rfl fun K208 hK208 => ?_
                                refine p_step rfl (e_move (v := _) rfl) trivial ?_
                                refine p_ren rfl hihj179_0 fun v209 h210 c211 hs212 hf213 => ?_
                                have ho214 := (hf213 (14, _) (key_ne rfl) (fun _ _ => key_ne rfl)).trans hihj179_2
                                refine p_end (hK208 _ ?_); clear hK208 K208
                                refine block_norm ?_
                                refine block_norm ?_
                                refine seq_norm (hK36 _ ?_); clear hK36 K36
                                refine pwp_plain rfl fun K215 hK215 => ?_
                                refine p_step rfl (e_move (v := .sc _) rfl) trivial ?_
                                refine p_step rfl (e_add rfl rfl (by have := ask_day hE; omega)) trivial ?_
                                refine p_step rfl (e_assign (v := .sc _) rfl) trivial ?_
                                refine p_end (hK215 _ ?_); clear hK215 K215
                                exact loop_again ((k + 1, d, hd, fr, acc, v209)) (by show _ < _; simp only; omega) ⟨rfl, rfl, rfl, trivial⟩ ⟨rfl, rfl, rfl, rfl, rfl, trivial⟩ (by exact ⟨by show _ + 1 ≤ _; omega, by first | exact lw_on hinv (lw_out (by assumption)) | exact lw_on hinv (lw_0 hno (by omega)) | exact lw_on hinv (lw_6 hno (by omega)) | exact lw_on hinv (lw_3 hno (by omega)) | exact lw_on hinv (lw_ip hno (by omega) (by assumption)) | exact lw_on hinv (lw_in hno (by omega) (by assumption)) | exact lw_on hinv (lw_4 hno (by omega)) | exact lw_on hinv (lw_5 hno (by omega) (by assumption)) | exact lw_on hinv (lw_n hno (by omega)) | (exfalso; omega), by show List.length _ ≤ _ + 1; first | omega | (simp only [List.length_append, List.length_cons, List.length_nil]; omega), by first | exact hfr | (show -1 ≤ x.day ∧ x.day ≤ 20000; omega) | exact (by decide : (-1 : Int) ≤ -1 ∧ (-1 : Int) ≤ 20000), (SliceAt.to hs212 (by simp [ci]))⟩)
                            · have hb171R := hb171; (try simp only [decide_eq_true_eq, decide_eq_false_iff_not, Bool.not_eq_true', Bool.not_eq_false', Int.not_lt, Int.not_le, ne_eq, Decidable.not_not, List.length_map, Bool.or_eq_true, Bool.and_eq_true, Bool.or_eq_false_iff, Bool.and_eq_false_iff] at hb171); (try (have hlen405 := short_len (evs := evs) hb171.1)); (try (have hE : askE evs p day = 0 := hb171.1; have hT : tagT evs p day = 2 := hb171.2)); (try (have hno := not_out (Int.not_lt.2 hb171.1) hb171.2))
                              refine pwp_skip ?_
                              refine block_norm ?_
                              refine block_norm ?_
                              refine seq_norm (hK36 _ ?_); clear hK36 K36
                              refine pwp_plain rfl fun K216 hK216 => ?_
                              refine p_step rfl (e_move (v := .sc _) rfl) trivial ?_
                              refine p_step rfl (e_add rfl rfl (by have := ask_day hE; omega)) trivial ?_
                              refine p_step rfl (e_assign (v := .sc _) rfl) trivial ?_
                              refine p_end (hK216 _ ?_); clear hK216 K216
                              exact loop_again ((k + 1, d, hd, fr, op, v)) (by show _ < _; simp only; omega) ⟨rfl, rfl, rfl, trivial⟩ ⟨rfl, rfl, rfl, rfl, rfl, trivial⟩ (by exact ⟨by show _ + 1 ≤ _; omega, by first | exact lw_on hinv (lw_out (by assumption)) | exact lw_on hinv (lw_0 hno (by omega)) | exact lw_on hinv (lw_6 hno (by omega)) | exact lw_on hinv (lw_3 hno (by omega)) | exact lw_on hinv (lw_ip hno (by omega) (by assumption)) | exact lw_on hinv (lw_in hno (by omega) (by assumption)) | exact lw_on hinv (lw_4 hno (by omega)) | exact lw_on hinv (lw_5 hno (by omega) (by assumption)) | exact lw_on hinv (lw_n hno (by omega)) | (exfalso; omega), by show List.length _ ≤ _ + 1; first | omega | (simp only [List.length_append, List.length_cons, List.length_nil]; omega), by first | exact hfr | (show -1 ≤ x.day ∧ x.day ≤ 20000; omega) | exact (by decide : (-1 : Int) ≤ -1 ∧ (-1 : Int) ≤ 20000), (SliceAt.to (hihj32_0.keep fun _ => (hset_ne (key_ne rfl)).trans ((hset_ne (key_ne rfl)).trans (rfl))) (by simp [ci]))⟩)
          · have hb35R := hb35; (try simp only [decide_eq_true_eq, decide_eq_false_iff_not, Bool.not_eq_true', Bool.not_eq_false', Int.not_lt, Int.not_le, ne_eq, Decidable.not_not, List.length_map, Bool.or_eq_true, Bool.and_eq_true, Bool.or_eq_false_iff, Bool.and_eq_false_iff] at hb35); (try (have hlen405 := short_len (evs := evs) hb35.1)); (try (have hE : askE evs p day = 0 := hb35.1; have hT : tagT evs p day = 2 := hb35.2)); (try (have hno := not_out (Int.not_lt.2 hb35.1) hb35.2))
            obtain rfl : k = evs.length := by omega
            rw [List.drop_length] at hinv; simp only [lawL] at hinv
            have hgr := green hE hT hinv
            refine pwp_exit ?_
            refine exit_seq ?_
            clear hK34 K34
            refine exit_loop ?_
            refine exit_here ?_
            refine seq_norm (hK27 _ ?_); clear hK27 K27
            refine pwp_seq_gops rfl fun K217 hK217 => ?_
            refine g_begin ?_
            refine g_step rfl rfl rfl rfl (e_move (v := .sc _) rfl) trivial ?_
            refine g_step rfl rfl rfl rfl (e_move (v := .sc _) rfl) trivial ?_
            refine g_cases (fun hb218 => ?_) (fun hb218 => ?_)
            · have hb218R := hb218; (try simp only [decide_eq_true_eq, decide_eq_false_iff_not, Bool.not_eq_true', Bool.not_eq_false', Int.not_lt, Int.not_le, ne_eq, Decidable.not_not, List.length_map, Bool.or_eq_true, Bool.and_eq_true, Bool.or_eq_false_iff, Bool.and_eq_false_iff] at hb218); (try (have hlen405 := short_len (evs := evs) hb218.1)); (try (have hE : askE evs p day = 0 := hb218.1; have hT : tagT evs p day = 2 := hb218.2)); (try (have hno := not_out (Int.not_lt.2 hb218.1) hb218.2))
              refine g_step rfl rfl rfl rfl (e_move (v := .sc _) rfl) trivial ?_
              refine g_step rfl rfl rfl rfl (e_pickT (v := .sc _) rfl rfl) trivial ?_
              refine g_step rfl rfl rfl rfl (e_move (v := .sc _) rfl) trivial ?_
              refine g_cases (fun hb219 => ?_) (fun hb219 => ?_)
              · have hb219R := hb219; (try simp only [decide_eq_true_eq, decide_eq_false_iff_not, Bool.not_eq_true', Bool.not_eq_false', Int.not_lt, Int.not_le, ne_eq, Decidable.not_not, List.length_map, Bool.or_eq_true, Bool.and_eq_true, Bool.or_eq_false_iff, Bool.and_eq_false_iff] at hb219); (try (have hlen405 := short_len (evs := evs) hb219.1)); (try (have hE : askE evs p day = 0 := hb219.1; have hT : tagT evs p day = 2 := hb219.2)); (try (have hno := not_out (Int.not_lt.2 hb219.1) hb219.2))
                refine g_step rfl rfl rfl rfl (e_move (v := .sc _) rfl) trivial ?_
                refine g_step rfl rfl rfl rfl (e_ge rfl rfl) trivial ?_
                refine g_step rfl rfl rfl rfl (e_pickT (v := .sc _) rfl rfl) trivial ?_
                refine g_step rfl rfl rfl rfl (e_move (v := .sc _) rfl) trivial ?_
                refine g_cases (fun hb220 => ?_) (fun hb220 => ?_)
                · have hb220R := hb220; (try simp only [decide_eq_true_eq, decide_eq_false_iff_not, Bool.not_eq_true', Bool.not_eq_false', Int.not_lt, Int.not_le, ne_eq, Decidable.not_not, List.length_map, Bool.or_eq_true, Bool.and_eq_true, Bool.or_eq_false_iff, Bool.and_eq_false_iff] at hb220); (try (have hlen405 := short_len (evs := evs) hb220.1)); (try (have hE : askE evs p day = 0 := hb220.1; have hT : tagT evs p day = 2 := hb220.2)); (try (have hno := not_out (Int.not_lt.2 hb220.1) hb220.2))
                  refine g_step rfl rfl rfl rfl (e_move (v := .sc _) rfl) trivial ?_
                  refine g_step rfl rfl rfl rfl (e_move (v := .sc _) rfl) trivial ?_
                  refine g_step rfl rfl rfl rfl (e_sub rfl rfl (by have := ask_day hE; omega)) trivial ?_
                  refine g_step rfl rfl rfl rfl (e_le rfl rfl) trivial ?_
                  refine g_step rfl rfl rfl rfl (e_pickT (v := .sc _) rfl rfl) trivial ?_
                  refine g_step rfl rfl rfl rfl (e_move (v := .sc _) rfl) trivial ?_
                  refine g_cases (fun hb221 => ?_) (fun hb221 => ?_)
                  · have hb221R := hb221; (try simp only [decide_eq_true_eq, decide_eq_false_iff_not, Bool.not_eq_true', Bool.not_eq_false', Int.not_lt, Int.not_le, ne_eq, Decidable.not_not, List.length_map, Bool.or_eq_true, Bool.and_eq_true, Bool.or_eq_false_iff, Bool.and_eq_false_iff] at hb221); (try (have hlen405 := short_len (evs := evs) hb221.1)); (try (have hE : askE evs p day = 0 := hb221.1; have hT : tagT evs p day = 2 := hb221.2)); (try (have hno := not_out (Int.not_lt.2 hb221.1) hb221.2))
                    refine g_step rfl rfl rfl rfl (e_move (v := _) rfl) trivial ?_
                    refine g_step rfl rfl rfl rfl (SliceAt.len hihj32_0 rfl (by kernel_rfl)) trivial ?_
                    refine g_step rfl rfl rfl rfl (e_eq rfl rfl) trivial ?_
                    refine g_step rfl rfl rfl rfl (e_pickT (v := .sc _) rfl rfl) trivial ?_
                    refine g_step rfl rfl rfl rfl (e_assign (v := .sc _) rfl) trivial ?_
                    refine g_end (ds := [119, 122, 123, 126, 127, 128, 129, 132, 133, 134]) rfl rfl (hK217 _ ?_); clear hK217 K217
                    refine pwp_ret ?_
                    refine end1 (v := .sc _) rfl ?_
                    first
                      | exact out_b rfl
                      | (obtain ⟨rfl, rfl, _, _, rfl⟩ := hgr; exact out_b (by simp_all))
                      | (exfalso; obtain ⟨rfl, rfl, _, _, rfl⟩ := hgr; first | omega | simp_all)
                  · have hb221R := hb221; (try simp only [decide_eq_true_eq, decide_eq_false_iff_not, Bool.not_eq_true', Bool.not_eq_false', Int.not_lt, Int.not_le, ne_eq, Decidable.not_not, List.length_map, Bool.or_eq_true, Bool.and_eq_true, Bool.or_eq_false_iff, Bool.and_eq_false_iff] at hb221); (try (have hlen405 := short_len (evs := evs) hb221.1)); (try (have hE : askE evs p day = 0 := hb221.1; have hT : tagT evs p day = 2 := hb221.2)); (try (have hno := not_out (Int.not_lt.2 hb221.1) hb221.2))
                    refine g_skip rfl rfl rfl ?_
                    refine g_skip rfl rfl rfl ?_
                    refine g_skip rfl rfl rfl ?_
                    refine g_step rfl rfl rfl rfl (e_pickF (v := .sc _) rfl rfl) trivial ?_
                    refine g_step rfl rfl rfl rfl (e_assign (v := .sc _) rfl) trivial ?_
                    refine g_end (ds := [119, 122, 123, 126, 127, 128, 129, 132, 133, 134]) rfl rfl (hK217 _ ?_); clear hK217 K217
                    refine pwp_ret ?_
                    refine end1 (v := .sc _) rfl ?_
                    first
                      | exact out_b rfl
                      | (obtain ⟨rfl, rfl, _, _, rfl⟩ := hgr; exact out_b (by simp_all))
                      | (exfalso; obtain ⟨rfl, rfl, _, _, rfl⟩ := hgr; first | omega | simp_all)
                · have hb220R := hb220; (try simp only [decide_eq_true_eq, decide_eq_false_iff_not, Bool.not_eq_true', Bool.not_eq_false', Int.not_lt, Int.not_le, ne_eq, Decidable.not_not, List.length_map, Bool.or_eq_true, Bool.and_eq_true, Bool.or_eq_false_iff, Bool.and_eq_false_iff] at hb220); (try (have hlen405 := short_len (evs := evs) hb220.1)); (try (have hE : askE evs p day = 0 := hb220.1; have hT : tagT evs p day = 2 := hb220.2)); (try (have hno := not_out (Int.not_lt.2 hb220.1) hb220.2))
                  refine g_skip rfl rfl rfl ?_
                  refine g_skip rfl rfl rfl ?_
                  refine g_skip rfl rfl rfl ?_
                  refine g_skip rfl rfl rfl ?_
                  refine g_step rfl rfl rfl rfl (e_pickF (v := .sc _) rfl rfl) trivial ?_
                  refine g_step rfl rfl rfl rfl (e_move (v := .sc _) rfl) trivial ?_
                  refine g_skip rfl rfl rfl ?_
                  refine g_skip rfl rfl rfl ?_
                  refine g_skip rfl rfl rfl ?_
                  refine g_step rfl rfl rfl rfl (e_pickF (v := .sc _) rfl rfl) trivial ?_
                  refine g_step rfl rfl rfl rfl (e_assign (v := .sc _) rfl) trivial ?_
                  refine g_end (ds := [119, 122, 123, 126, 127, 128, 129, 132, 133, 134]) rfl rfl (hK217 _ ?_); clear hK217 K217
                  refine pwp_ret ?_
                  refine end1 (v := .sc _) rfl ?_
                  first
                    | exact out_b rfl
                    | (obtain ⟨rfl, rfl, _, _, rfl⟩ := hgr; exact out_b (by simp_all))
                    | (exfalso; obtain ⟨rfl, rfl, _, _, rfl⟩ := hgr; first | omega | simp_all)
              · have hb219R := hb219; (try simp only [decide_eq_true_eq, decide_eq_false_iff_not, Bool.not_eq_true', Bool.not_eq_false', Int.not_lt, Int.not_le, ne_eq, Decidable.not_not, List.length_map, Bool.or_eq_true, Bool.and_eq_true, Bool.or_eq_false_iff, Bool.and_eq_false_iff] at hb219); (try (have hlen405 := short_len (evs := evs) hb219.1)); (try (have hE : askE evs p day = 0 := hb219.1; have hT : tagT evs p day = 2 := hb219.2)); (try (have hno := not_out (Int.not_lt.2 hb219.1) hb219.2))
                refine g_skip rfl rfl rfl ?_
                refine g_skip rfl rfl rfl ?_
                refine g_step rfl rfl rfl rfl (e_pickF (v := .sc _) rfl rfl) trivial ?_
                refine g_step rfl rfl rfl rfl (e_move (v := .sc _) rfl) trivial ?_
                refine g_skip rfl rfl rfl ?_
                refine g_skip rfl rfl rfl ?_
                refine g_skip rfl rfl rfl ?_
                refine g_skip rfl rfl rfl ?_
                refine g_step rfl rfl rfl rfl (e_pickF (v := .sc _) rfl rfl) trivial ?_
                refine g_step rfl rfl rfl rfl (e_move (v := .sc _) rfl) trivial ?_
                refine g_skip rfl rfl rfl ?_
                refine g_skip rfl rfl rfl ?_
                refine g_skip rfl rfl rfl ?_
                refine g_step rfl rfl rfl rfl (e_pickF (v := .sc _) rfl rfl) trivial ?_
                refine g_step rfl rfl rfl rfl (e_assign (v := .sc _) rfl) trivial ?_
                refine g_end (ds := [119, 122, 123, 126, 127, 128, 129, 132, 133, 134]) rfl rfl (hK217 _ ?_); clear hK217 K217
                refine pwp_ret ?_
                refine end1 (v := .sc _) rfl ?_
                first
                  | exact out_b rfl
                  | (obtain ⟨rfl, rfl, _, _, rfl⟩ := hgr; exact out_b (by simp_all))
                  | (exfalso; obtain ⟨rfl, rfl, _, _, rfl⟩ := hgr; first | omega | simp_all)
            · have hb218R := hb218; (try simp only [decide_eq_true_eq, decide_eq_false_iff_not, Bool.not_eq_true', Bool.not_eq_false', Int.not_lt, Int.not_le, ne_eq, Decidable.not_not, List.length_map, Bool.or_eq_true, Bool.and_eq_true, Bool.or_eq_false_iff, Bool.and_eq_false_iff] at hb218); (try (have hlen405 := short_len (evs := evs) hb218.1)); (try (have hE : askE evs p day = 0 := hb218.1; have hT : tagT evs p day = 2 := hb218.2)); (try (have hno := not_out (Int.not_lt.2 hb218.1) hb218.2))
              refine g_skip rfl rfl rfl ?_
              refine g_step rfl rfl rfl rfl (e_pickF (v := .sc _) rfl rfl) trivial ?_
              refine g_step rfl rfl rfl rfl (e_move (v := .sc _) rfl) trivial ?_
              refine g_skip rfl rfl rfl ?_
              refine g_skip rfl rfl rfl ?_
              refine g_step rfl rfl rfl rfl (e_pickF (v := .sc _) rfl rfl) trivial ?_
              refine g_step rfl rfl rfl rfl (e_move (v := .sc _) rfl) trivial ?_
              refine g_skip rfl rfl rfl ?_
              refine g_skip rfl rfl rfl ?_
              refine g_skip rfl rfl rfl ?_
              refine g_skip rfl rfl rfl ?_
              refine g_step rfl rfl rfl rfl (e_pickF (v := .sc _) rfl rfl) trivial ?_
              refine g_step rfl rfl rfl rfl (e_move (v := .sc _) rfl) trivial ?_
              refine g_skip rfl rfl rfl ?_
              refine g_skip rfl rfl rfl ?_
              refine g_skip rfl rfl rfl ?_
              refine g_step rfl rfl rfl rfl (e_pickF (v := .sc _) rfl rfl) trivial ?_
              refine g_step rfl rfl rfl rfl (e_assign (v := .sc _) rfl) trivial ?_
              refine g_end (ds := [119, 122, 123, 126, 127, 128, 129, 132, 133, 134]) rfl rfl (hK217 _ ?_); clear hK217 K217
              refine pwp_ret ?_
              refine end1 (v := .sc _) rfl ?_
              first
                | exact out_b rfl
                | (obtain ⟨rfl, rfl, _, _, rfl⟩ := hgr; exact out_b (by simp_all))
                | (exfalso; obtain ⟨rfl, rfl, _, _, rfl⟩ := hgr; first | omega | simp_all)

end Go.Proofs.Ytdbpfhbppcpbbaa
