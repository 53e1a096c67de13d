import Derived.Test.YtjihcgcbnbaclaaDoorRRef2
set_option linter.unusedSimpArgs false
set_option linter.unusedVariables false
namespace Go.Proofs.YtjihcgcbnbaclaaDoor.Y9
open Go Go.Pv Go.Proofs.YtjihcgcbnbaclaaDoor
def stF (p : ByteArray) (l : List Ev) : St := l.foldl (stepE p) St0
theorem stF_snoc (p : ByteArray) (l : List Ev) (x : Ev) : stF p (l ++ [x]) = stepE p (stF p l) x := by simp [stF]
theorem upto_late {l : List Ev} {day : Int} (h : ∀ e ∈ l, day < e.day) : uptoE l day = [] := by
 unfold uptoE;rw [List.filter_eq_nil_iff];intro e he;have := h e he;simp; omega
theorem stO_fold {p : ByteArray} {day : Int} : ∀ (l : List Ev) (s : St), (l.Pairwise fun a b => a.day ≤ b.day) → stO p day s l = (uptoE l day).foldl (stepE p) s
 | [], _, _ => rfl
 | x :: l, s, hs => by
   rw [List.pairwise_cons] at hs;unfold stO;by_cases hd : day < x.day
   · rw [if_pos hd, upto_late (l := x :: l) fun e he => by
       rcases List.mem_cons.1 he with rfl | he
       · exact hd
       · have := hs.1 e he; omega]
     rfl
   · rw [if_neg hd, stO_fold l _ hs.2]
     have : uptoE (x :: l) day = x :: uptoE l day := by
       unfold uptoE;rw [List.filter_cons, if_pos (by simp; omega)]
     rw [this]; rfl
theorem upto_take {day : Int} : ∀ (l : List Ev), (l.Pairwise fun a b => a.day ≤ b.day) → ∃ m, m ≤ l.length ∧ uptoE l day = l.take m
 | [], _ => ⟨0, Nat.le_refl _, rfl⟩
 | x :: l, hs => by
   rw [List.pairwise_cons] at hs;by_cases hd : day < x.day
   · refine ⟨0, Nat.zero_le _, ?_⟩
     rw [upto_late (l := x :: l) fun e he => by
       rcases List.mem_cons.1 he with rfl | he
       · exact hd
       · have := hs.1 e he; omega]
     rfl
   · obtain ⟨m, h1, h2⟩ := upto_take l hs.2;refine ⟨m + 1, by simpa using h1, ?_⟩
     have : uptoE (x :: l) day = x :: uptoE l day := by
       unfold uptoE;rw [List.filter_cons, if_pos (by simp; omega)]
     rw [this, h2]; rfl
theorem lastE_snoc (k : Int) (p : ByteArray) (x : Ev) : ∀ (l : List Ev) (a : Int) (i : Nat), lastE k p a i (l ++ [x]) = if x.kind = k ∧ x.platform = p then ((i + l.length : Nat) : Int) else lastE k p a i l
 | [], a, i => by simp [lastE]
 | y :: l, a, i => by
   rw [List.cons_append, lastE, lastE_snoc k p x l, lastE, List.length_cons, show i + 1 + l.length = i + (l.length + 1) by omega]
theorem freE_snoc (p : ByteArray) (x : Ev) : ∀ (l : List Ev) (a : Int) (i : Nat), freE p a i (l ++ [x]) = freStep p (freE p a i l) (i + l.length) x
 | [], a, i => by simp [freE]
 | y :: l, a, i => by
   rw [List.cons_append, freE, freE_snoc p x l, freE, List.length_cons, show i + 1 + l.length = i + (l.length + 1) by omega]
theorem openG_snoc (p : ByteArray) (g al : Bool) (n : Int) (e : Ev) : ∀ l, hasI (openL p g al (l ++ [e])) n = ((hasI (openL p g al l) n && !decide ((e.kind = 5 ∧ e.platform = p) ∧ e.number = n)) || (decide (selE p g al e) && decide (n = e.number)))
 | [] => by
   simp only [List.nil_append, openL, List.not_mem_nil, false_implies, implies_true, and_true];by_cases hs : selE p g al e
   · rw [if_pos hs]; simp [hasI, hs]
   · rw [if_neg hs]; simp [hasI, hs]
 | a :: l => by
   have ih := openG_snoc p g al n e l
   have key : ∀ (b : Bool) (L : List Int), hasI (if selE p g al a ∧ b = true then a.number :: L else L) n = ((decide (selE p g al a) && b && decide (n = a.number)) || hasI L n) := fun b L => by
     by_cases hs : selE p g al a <;> cases b <;> simp [hs, hasI]
   have e1 : hasI (openL p g al (a :: l)) n = ((decide (selE p g al a) && decide (∀ y ∈ l, ¬ clears p a y) && decide (n = a.number)) || hasI (openL p g al l) n) := by
     have := key (decide (∀ y ∈ l, ¬ clears p a y)) (openL p g al l);simp only [decide_eq_true_eq] at this;rw [openL]; exact this
   have e2 : hasI (openL p g al (a :: (l ++ [e]))) n = ((decide (selE p g al a) && decide (∀ y ∈ l ++ [e], ¬ clears p a y) && decide (n = a.number)) || hasI (openL p g al (l ++ [e])) n) := by
     have := key (decide (∀ y ∈ l ++ [e], ¬ clears p a y)) (openL p g al (l ++ [e]));simp only [decide_eq_true_eq] at this;rw [openL]; exact this
   have hall : decide (∀ y ∈ l ++ [e], ¬ clears p a y) = (decide (∀ y ∈ l, ¬ clears p a y) && !decide (clears p a e)) := by
     rw [Bool.eq_iff_iff];simp only [decide_eq_true_eq, Bool.and_eq_true, Bool.not_eq_true', decide_eq_false_iff_not, List.mem_append, List.mem_singleton];constructor
     · exact fun h => ⟨fun y hy => h y (.inl hy), h e (.inr rfl)⟩
     · rintro ⟨h1, h2⟩ y (hy | rfl)
       · exact h1 y hy
       · exact h2
   rw [List.cons_append, e2, e1, ih, hall];generalize decide (selE p g al a) = A;generalize decide (∀ y ∈ l, ¬ clears p a y) = B;generalize hasI (openL p g al l) n = R;generalize (decide (selE p g al e) && decide (n = e.number)) = X;by_cases hn : n = a.number
   · have hc : decide (clears p a e) = decide ((e.kind = 5 ∧ e.platform = p) ∧ e.number = n) := by
       subst hn; rfl
     rw [hc, decide_eq_true hn];generalize decide ((e.kind = 5 ∧ e.platform = p) ∧ e.number = n) = C;cases A <;> cases B <;> cases C <;> cases R <;> cases X <;> rfl
   · rw [decide_eq_false hn];generalize decide ((e.kind = 5 ∧ e.platform = p) ∧ e.number = n) = C;generalize decide (clears p a e) = C';cases A <;> cases B <;> cases C <;> cases C' <;> cases R <;> cases X <;> rfl
theorem open_sub {p : ByteArray} {g : Bool} {n : Int} : ∀ {l : List Ev}, n ∈ openL p g false l → n ∈ openL p false true l
 | [], h => by cases h
 | e :: l, h => by
   unfold openL at h ⊢;split at h
   · rename_i hs;rw [if_pos ⟨⟨hs.1.1, .inl rfl⟩, hs.2⟩];rcases List.mem_cons.1 h with h | h
     · exact List.mem_cons.2 (.inl h)
     · exact List.mem_cons_of_mem _ (open_sub h)
   · split
     · exact List.mem_cons_of_mem _ (open_sub h)
     · exact open_sub h
theorem goR_open : ∀ (l pre : List Ev) (last : Int), goR pre last l = 0 → ∀ (l1 : List Ev) (x : Ev) (l2 : List Ev), l = l1 ++ x :: l2 → x.kind = 4 → openE (pre ++ l1) x = false
 | [], _, _, _, l1, x, l2, he, _ => by cases l1 <;> cases he
 | e :: l, pre, last, h, l1, x, l2, he, hk => by
   unfold goR at h;split at h
   · rename_i hE;cases l1 with
     | nil =>
       simp only [List.nil_append, List.cons.injEq] at he;obtain ⟨rfl, rfl⟩ := he;rw [List.append_nil];cases hq : openE pre e with
       | false => rfl
       | true =>
         rw [hq] at hE;unfold evE at hE;split at hE
         · cases hE
         · split at hE
           · cases hE
           · split at hE
             · cases hE
             · split at hE
               · cases hE
               · rw [if_pos ⟨hk, rfl⟩] at hE; cases hE
     | cons y l1 =>
       simp only [List.cons_append, List.cons.injEq] at he;obtain ⟨rfl, he⟩ := he;have := goR_open l (pre ++ [e]) e.day h l1 x l2 he hk;rw [List.append_assoc] at this;exact this
   · rename_i hE; exact absurd h hE
def rdE (l : List Ev) (i : Int) : Ev := (l[i.toNat]?).getD default
theorem rdE_old {l : List Ev} {x : Ev} {i : Int} (h : 0 ≤ i) (h2 : i < l.length) : rdE (l ++ [x]) i = rdE l i := by
 unfold rdE; rw [List.getElem?_append_left (by omega)]
theorem rdE_new {l : List Ev} {x : Ev} : rdE (l ++ [x]) (l.length : Nat) = x := by
 unfold rdE; simp
structure InvS (p : ByteArray) (l : List Ev) (s : St) : Prop where
 nd : ANodup s.defs
 des : s.designed = true ↔ 0 ≤ lastE 0 p (-1) 0 l
 val : s.valid = true ↔ 0 ≤ lastE 0 p (-1) 0 l ∧ ¬ lastE 0 p (-1) 0 l < lastE 6 p (-1) 0 l
 han : s.handed = true ↔ 0 ≤ lastE 0 p (-1) 0 l ∧ ¬ lastE 1 p (-1) 0 l < lastE 0 p (-1) 0 l ∧ (rdE l (lastE 1 p (-1) 0 l)).passed = true
 ins : s.inspected = if 0 ≤ freE p (-1) 0 l then (rdE l (freE p (-1) 0 l)).day else -1
 opn : ∀ n b, aGet n s.defs = some b ↔ hasI (openL p b false l) n = true
theorem InvS.nil (p : ByteArray) : InvS p [] St0 := by
 refine ⟨by simp [St0, ANodup], ?_, ?_, ?_, ?_, fun n b => ?_⟩
 · simp [St0, lastE]
 · simp [St0, lastE]
 · simp [St0, lastE]
 · simp [St0, freE]
 · simp [St0, aGet, openL, hasI]
theorem InvS.step {p : ByteArray} {l : List Ev} {s : St} {x : Ev} (I : InvS p l s) (hp : p ≠ ⟨#[]⟩) (hb : ¬ badEv x) (hn : badNm x = false) (ho : x.kind = 4 → openE l x = false) : InvS p (l ++ [x]) (stepE p s x) := by
 obtain ⟨i1, i2, i3, i4, i5, i6⟩ := I
 have L : ∀ k, lastE k p (-1) 0 (l ++ [x]) = if x.kind = k ∧ x.platform = p then ((l.length : Nat) : Int) else lastE k p (-1) 0 l := fun k => by
   rw [lastE_snoc, Nat.zero_add]
 have F : freE p (-1) 0 (l ++ [x]) = freStep p (freE p (-1) 0 l) l.length x := by rw [freE_snoc, Nat.zero_add]
 have B := fun k => last_bnd0 k p l;have FB := fre_bnd p l (-1) 0 (by omega) (by omega);have O := fun n b => openG_snoc p b false n x l;have b0 := B 0;have b1 := B 1;have b6 := B 6;have hk : 0 ≤ x.kind ∧ x.kind ≤ 6 := by unfold badEv at hb; omega
 -- reading at an old place
 have R1 : 0 ≤ lastE 1 p (-1) 0 l → rdE (l ++ [x]) (lastE 1 p (-1) 0 l) = rdE l (lastE 1 p (-1) 0 l) := fun h => rdE_old h b1.2;have RF : 0 ≤ freE p (-1) 0 l → rdE (l ++ [x]) (freE p (-1) 0 l) = rdE l (freE p (-1) 0 l) := fun h => rdE_old h (by omega)
 have han' : (0 ≤ lastE 0 p (-1) 0 l ∧ ¬ lastE 1 p (-1) 0 l < lastE 0 p (-1) 0 l ∧ (rdE (l ++ [x]) (lastE 1 p (-1) 0 l)).passed = true) ↔ s.handed = true := by
   rw [i4];constructor
   · rintro ⟨h1, h2, h3⟩; rw [R1 (by omega)] at h3; exact ⟨h1, h2, h3⟩
   · rintro ⟨h1, h2, h3⟩; rw [R1 (by omega)]; exact ⟨h1, h2, h3⟩
 have ins' : (if 0 ≤ freE p (-1) 0 l then (rdE (l ++ [x]) (freE p (-1) 0 l)).day else -1) = s.inspected := by
   rw [i5];split
   · rename_i h; rw [RF h]
   · rfl
 have opn' : ¬ ((x.kind = 4 ∨ x.kind = 5) ∧ x.platform = p) → ∀ n b, aGet n s.defs = some b ↔ hasI (openL p b false (l ++ [x])) n = true := fun hne n b => by
   rw [O, i6, decide_eq_false (p := (x.kind = 5 ∧ x.platform = p) ∧ x.number = n) (fun h => hne ⟨.inr h.1.1, h.1.2⟩), decide_eq_false (p := selE p b false x) (fun h => hne ⟨.inl h.1.1, h.1.2⟩)];simp
 by_cases h3 : x.kind = 3
 · have hpl : ¬ x.platform = p := by
     unfold badNm at hn;rw [if_pos h3] at hn;simp at hn;rw [hn]; exact fun h => hp h.symm
   have hF : freStep p (freE p (-1) 0 l) l.length x = -1 := by
     unfold freStep;simp only;rw [if_pos (by simp [h3])]
   unfold stepE;simp only [if_pos h3, if_neg hpl];refine ⟨i1, ?_, ?_, ?_, ?_, opn' (by omega)⟩
   · rw [L 0, if_neg (fun h => hpl h.2)]; exact i2
   · rw [L 0, L 6, if_neg (fun h => hpl h.2), if_neg (fun h => hpl h.2)]; exact i3
   · rw [L 0, L 1, if_neg (fun h => hpl h.2), if_neg (fun h => hpl h.2)]; exact han'.symm
   · rw [F, hF]; rfl
 · by_cases hpl : x.platform = p
   · have hk' : x.kind = 0 ∨ x.kind = 1 ∨ x.kind = 2 ∨ x.kind = 4 ∨ x.kind = 5 ∨ x.kind = 6 := by omega
     have hF0 : ¬ x.kind = 1 → ¬ x.kind = 2 → freStep p (freE p (-1) 0 l) l.length x = freE p (-1) 0 l := fun a b => by
       unfold freStep inspB;simp [a, b, h3]
     have hF1 : x.kind = 1 ∨ x.kind = 2 → freStep p (freE p (-1) 0 l) l.length x = if x.passed = true then ((l.length : Nat) : Int) else -1 := fun a => by
       unfold freStep inspB;have h4 : (decide (x.kind = 1) || decide (x.kind = 2)) = true := by rcases a with a | a <;> simp [a]
       simp only [h4, decide_eq_true hpl, decide_eq_false h3, Bool.true_and, Bool.or_false];cases x.passed <;> simp
     have ins1 : x.kind = 1 ∨ x.kind = 2 → inspE x = if 0 ≤ freE p (-1) 0 (l ++ [x]) then (rdE (l ++ [x]) (freE p (-1) 0 (l ++ [x]))).day else -1 := fun a => by
       rw [F, hF1 a];unfold inspE;by_cases hps : x.passed = true
       · simp only [if_pos hps];rw [if_pos (by omega), rdE_new]
       · simp only [if_neg hps];rw [if_neg (by omega)]
     unfold stepE;simp only [if_neg h3, if_pos hpl];unfold takeE;rcases hk' with k | k | k | k | k | k
     · rw [if_pos k];refine ⟨i1, ?_, ?_, ?_, ?_, opn' (by omega)⟩
       · rw [L 0, if_pos ⟨k, hpl⟩]; simp
       · rw [L 0, L 6, if_pos ⟨k, hpl⟩, if_neg (by omega)]; simp <;> omega
       · rw [L 0, L 1, if_pos ⟨k, hpl⟩, if_neg (by omega)];constructor
         · intro h; cases h
         · rintro ⟨_, h, _⟩; omega
       · rw [F, hF0 (by omega) (by omega), ins']
     · rw [if_neg (by omega), if_pos k];refine ⟨i1, ?_, ?_, ?_, ins1 (.inl k), opn' (by omega)⟩
       · rw [L 0, if_neg (by omega)]; exact i2
       · rw [L 0, L 6, if_neg (by omega), if_neg (by omega)]; exact i3
       · rw [L 0, L 1, if_neg (by omega), if_pos ⟨k, hpl⟩, rdE_new];show (s.designed && x.passed) = true ↔ _;rw [Bool.and_eq_true, i2];constructor
         · rintro ⟨h1, h2⟩; exact ⟨h1, by omega, h2⟩
         · rintro ⟨h1, _, h2⟩; exact ⟨h1, h2⟩
     · rw [if_neg (by omega), if_neg (by omega), if_pos k];refine ⟨i1, ?_, ?_, ?_, ins1 (.inr k), opn' (by omega)⟩
       · rw [L 0, if_neg (by omega)]; exact i2
       · rw [L 0, L 6, if_neg (by omega), if_neg (by omega)]; exact i3
       · rw [L 0, L 1, if_neg (by omega), if_neg (by omega)]; exact han'.symm
     · rw [if_neg (by omega), if_neg (by omega), if_neg (by omega), if_pos k];refine ⟨i1.aSet, ?_, ?_, ?_, ?_, fun n b => ?_⟩
       · rw [L 0, if_neg (by omega)]; exact i2
       · rw [L 0, L 6, if_neg (by omega), if_neg (by omega)]; exact i3
       · rw [L 0, L 1, if_neg (by omega), if_neg (by omega)]; exact han'.symm
       · rw [F, hF0 (by omega) (by omega)]; exact ins'.symm
       · rw [O, aGet_aSet, decide_eq_false (p := (x.kind = 5 ∧ x.platform = p) ∧ x.number = n) (fun h => by omega)];by_cases hnn : n = x.number
         · have h5 : hasI (openL p b false l) n = false := by
             have h6 := ho k;unfold openE at h6;rw [hpl] at h6;simp only [hasI, decide_eq_false_iff_not] at h6 ⊢;rw [hnn];exact fun h => h6 (open_sub h)
           rw [if_pos hnn, h5, decide_eq_true hnn];simp only [Bool.false_and, Bool.false_or, Bool.and_true, decide_eq_true_eq, Option.some.injEq];constructor
           · intro h; exact ⟨⟨k, hpl⟩, .inr h⟩
           · rintro ⟨_, h | h⟩
             · cases h
             · exact h
         · rw [if_neg hnn, i6, decide_eq_false hnn]; simp
     · rw [if_neg (by omega), if_neg (by omega), if_neg (by omega), if_neg (by omega), if_pos k];refine ⟨i1.aDel, ?_, ?_, ?_, ?_, fun n b => ?_⟩
       · rw [L 0, if_neg (by omega)]; exact i2
       · rw [L 0, L 6, if_neg (by omega), if_neg (by omega)]; exact i3
       · rw [L 0, L 1, if_neg (by omega), if_neg (by omega)]; exact han'.symm
       · rw [F, hF0 (by omega) (by omega)]; exact ins'.symm
       · rw [O, aGet_aDel _ _ _ i1, decide_eq_false (p := selE p b false x) (fun h => by have := h.1.1; omega)];by_cases hnn : n = x.number
         · rw [if_pos hnn, decide_eq_true (p := (x.kind = 5 ∧ x.platform = p) ∧ x.number = n) ⟨⟨k, hpl⟩, hnn.symm⟩]; simp
         · rw [if_neg hnn, i6, decide_eq_false (p := (x.kind = 5 ∧ x.platform = p) ∧ x.number = n) (fun h => hnn h.2.symm)]; simp
     · rw [if_neg (by omega), if_neg (by omega), if_neg (by omega), if_neg (by omega), if_neg (by omega), if_pos k];refine ⟨i1, ?_, ?_, ?_, ?_, opn' (by omega)⟩
       · rw [L 0, if_neg (by omega)]; exact i2
       · rw [L 0, L 6, if_neg (by omega), if_pos ⟨k, hpl⟩];constructor
         · intro h; cases h
         · rintro ⟨_, h⟩; omega
       · rw [L 0, L 1, if_neg (by omega), if_neg (by omega)]; exact han'.symm
       · rw [F, hF0 (by omega) (by omega)]; exact ins'.symm
   · have hF : freStep p (freE p (-1) 0 l) l.length x = freE p (-1) 0 l := by
       unfold freStep inspB;simp [hpl, h3]
     unfold stepE;simp only [if_neg h3, if_neg hpl];refine ⟨i1, ?_, ?_, ?_, ?_, opn' (fun h => hpl h.2)⟩
     · rw [L 0, if_neg (fun h => hpl h.2)]; exact i2
     · rw [L 0, L 6, if_neg (fun h => hpl h.2), if_neg (fun h => hpl h.2)]; exact i3
     · rw [L 0, L 1, if_neg (fun h => hpl h.2), if_neg (fun h => hpl h.2)]; exact han'.symm
     · rw [F, hF]; exact ins'.symm
theorem inv_all {p : ByteArray} {evs : List Ev} (hr : recE evs = 0) (hp : p ≠ ⟨#[]⟩) : ∀ k, k ≤ evs.length → InvS p (evs.take k) (stF p (evs.take k))
 | 0, _ => InvS.nil p
 | k + 1, hk => by
   have ih := inv_all hr hp k (by omega);have ok := rec_ok hr;have hx := List.getElem?_eq_getElem (show k < evs.length by omega);have ht : evs.take (k + 1) = evs.take k ++ [evs[k]] := by rw [List.take_add_one, hx]; rfl
   rw [ht, stF_snoc];have hm : evs[k] ∈ evs := List.getElem_mem _;refine ih.step hp (ok.ev _ hm).1 (ok.ev _ hm).2 fun h4 => ?_
   have hsp : evs = evs.take k ++ evs[k] :: evs.drop (k + 1) := by
     rw [List.getElem_cons_drop, List.take_append_drop]
   unfold recE at hr;split at hr
   · cases hr
   · have := goR_open evs [] 0 hr _ _ _ hsp h4
     rwa [List.nil_append] at this
end Go.Proofs.YtjihcgcbnbaclaaDoor.Y9
