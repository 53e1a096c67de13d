import Derived.Test.YtjihcgcbnbaclaaGreatDoorRMov11
set_option linter.unusedSimpArgs false
set_option linter.unusedVariables false
namespace Go.Proofs.YtjihcgcbnbaclaaGreatDoor.Y9
open Go Go.Pv Go.Proofs.YtjihcgcbnbaclaaGreatDoor
def upM (day : Int) (ms : List Move) : List Move := ms.takeWhile fun m => decide (m.day ≤ day)
theorem upM_all {day : Int} {ms : List Move} (h : ∀ m ∈ ms, m.day ≤ day) : ms = upM day ms := by
 unfold upM;induction ms with
 | nil => rfl
 | cons a l ih => rw [List.takeWhile_cons, decide_eq_true (h a (by simp)), if_pos rfl, ← ih fun m hm => h m (by simp [hm])]
theorem upM_stop {day : Int} : ∀ {ms : List Move} {k : Nat} {x : Move}, (∀ m ∈ ms.take k, m.day ≤ day) → ms[k]? = some x → day < x.day → ms.take k = upM day ms
 | [], k, x, _, hx, _ => by simp at hx
 | a :: l, 0, x, _, hx, hd => by
   simp at hx; subst hx;unfold upM; rw [List.takeWhile_cons, decide_eq_false (by omega)]; rfl
 | a :: l, k + 1, x, h, hx, hd => by
   have := upM_stop (ms := l) (k := k) (x := x) (fun m hm => h m (by simp [hm])) (by simpa using hx) hd;unfold upM at this ⊢;rw [List.takeWhile_cons, decide_eq_true (h a (by simp)), if_pos rfl, List.take_succ_cons, this]
theorem upM_pre (day : Int) (ms : List Move) : ∃ l, ms = upM day ms ++ l := ⟨ms.dropWhile _, (List.takeWhile_append_dropWhile).symm⟩
theorem upM_le {day : Int} {ms : List Move} : ∀ m ∈ upM day ms, m.day ≤ day := by
 unfold upM;induction ms with
 | nil => simp
 | cons a l ih =>
   rw [List.takeWhile_cons];by_cases h : a.day ≤ day
   · rw [decide_eq_true h, if_pos rfl];intro m hm;rcases List.mem_cons.1 hm with rfl | hm
     · exact h
     · exact ih m hm
   · rw [decide_eq_false h]; simp
theorem upM_len (day : Int) (ms : List Move) : (upM day ms).length ≤ ms.length := by
 obtain ⟨l, h⟩ := upM_pre day ms;have := congrArg List.length h;rw [List.length_append] at this; omega
theorem upM_mem {day : Int} {ms : List Move} {m : Move} (h : m ∈ upM day ms) : m ∈ ms := by
 obtain ⟨l, hl⟩ := upM_pre day ms;rw [hl]; exact List.mem_append.2 (.inl h)
def upF (day : Int) (ms : List Move) : List Move := ms.filter fun m => decide (m.day ≤ day)
theorem upF_len (day : Int) (ms : List Move) : (upF day ms).length ≤ ms.length := List.length_filter_le _ _
theorem upF_eq {day : Int} : ∀ {ms : List Move}, (ms.Pairwise fun a b => a.day ≤ b.day) → upF day ms = upM day ms
 | [], _ => rfl
 | a :: l, h => by
   rw [List.pairwise_cons] at h;unfold upF upM;rw [List.filter_cons, List.takeWhile_cons];by_cases hd : a.day ≤ day
   · rw [decide_eq_true hd, if_pos rfl, if_pos rfl];congr 1;exact upF_eq h.2
   · rw [decide_eq_false hd];simp only [Bool.false_eq_true, if_false];rw [List.filter_eq_nil_iff];intro m hm;have := h.1 m hm;simp; omega
theorem goM_sorted {ts : List Term} : ∀ (l pre : List Move) (last : Int), goM ts pre last l = 0 → (l.Pairwise fun a b => a.day ≤ b.day) ∧ ∀ m ∈ l, last ≤ m.day
 | [], _, _, _ => ⟨.nil, by simp⟩
 | a :: l, pre, last, h => by
   unfold goM at h;split at h
   · rename_i h0;have ih := goM_sorted l _ _ h
     have hl : last ≤ a.day := by
       unfold mvE at h0;split at h0
       · cases h0
       · split at h0
         · cases h0
         · omega
     refine ⟨List.pairwise_cons.2 ⟨ih.2, ih.1⟩, fun m hm => ?_⟩;rcases List.mem_cons.1 hm with rfl | hm
     · exact hl
     · have := ih.2 m hm; omega
   · rename_i h0; exact absurd h h0
theorem goM_pre {ts : List Term} : ∀ (a b pre : List Move) (last : Int), goM ts pre last (a ++ b) = 0 → goM ts pre last a = 0
 | [], _, _, _, _ => rfl
 | x :: a, b, pre, last, h => by
   rw [List.cons_append] at h;unfold goM at h ⊢;split at h
   · rename_i h0; rw [if_pos h0]; exact goM_pre a b _ _ h
   · rename_i h0; exact absurd h h0
theorem tm_mk {ts : List Term} {ms : List Move} (h1 : termsE ts = 0) (h2 : ms.length ≤ 300) (h3 : goM ts [] 0 ms = 0) : tmE ts ms = 0 := by
 rw [tm_a h1, movE, if_neg (by omega), h3]
theorem tm_up {ts : List Term} {ms : List Move} (h : tmE ts ms = 0) (day : Int) : tmE ts (upM day ms) = 0 := by
 obtain ⟨h1, h2, h3, h4⟩ := tm_parts h;obtain ⟨l, hl⟩ := upM_pre day ms;have := upM_len day ms;exact tm_mk h1 (by omega) (goM_pre (upM day ms) l [] 0 (hl ▸ h4))
theorem tm_upF {ts : List Term} {ms : List Move} (h : tmE ts ms = 0) (day : Int) : upF day ms = upM day ms := upF_eq (goM_sorted ms [] 0 (tm_parts h).2.2.2).1
def okDa (D : Int) (d : Da) : Prop := (0 ≤ d.day ∧ d.day ≤ D) ∧ ∀ g ∈ d.gone, g.inn = d.day ∧ d.day ≤ g.day ∧ g.day ≤ D ∧ (g.out = 1 ∨ g.out = 2)
theorem okDa_mono {D E : Int} (h : D ≤ E) {d : Da} (hd : okDa D d) : okDa E d := ⟨⟨hd.1.1, by have := hd.1.2; omega⟩, fun g hg => by have := hd.2 g hg; exact ⟨this.1, this.2.1, by omega, this.2.2.2⟩⟩
theorem takeL_da {m : Move} {last : Int} (hl : last ≤ m.day) (hk : m.kind = 1 ∨ m.kind = 2) : ∀ (l : List Da) (n : Int), (∀ d ∈ l, okDa last d) → ∀ d ∈ takeL m n l, okDa m.day d
 | [], _, _ => by intro d hd; simp [takeL] at hd
 | a :: l, n, h => by
   have h0 := h a (by simp);have ih := fun n => takeL_da hl hk l n fun d hd => h d (by simp [hd]);unfold takeL;split
   · intro d hd;rcases List.mem_cons.1 hd with rfl | hd
     · have h1 := okDa_mono hl h0;refine ⟨h1.1, fun g hg => ?_⟩;rcases List.mem_append.1 hg with hg | hg
       · exact h1.2 g hg
       · simp at hg; subst hg;exact ⟨rfl, h1.1.2, Int.le_refl _, hk⟩
     · exact ih _ d hd
   · intro d hd;rcases List.mem_cons.1 hd with rfl | hd
     · exact okDa_mono hl h0
     · exact ih _ d hd
theorem da_days {ts : List Term} {p : ByteArray} {D : Int} : ∀ (l pre : List Move) (last : Int), goM ts pre last l = 0 → 0 ≤ last → last ≤ D → (∀ m ∈ l, m.day ≤ D) → (∀ d ∈ daL p pre, okDa last d) → ∀ d ∈ daL p (pre ++ l), okDa D d
 | [], pre, last, _, _, hD, _, h => by intro d hd; rw [List.append_nil] at hd; exact okDa_mono hD (h d hd)
 | a :: l, pre, last, hg, h0, hD, hm, h => by
   have hall := goM_all (a :: l) pre last hg a (by simp);have hs := (goM_sorted (a :: l) pre last hg).2 a (by simp);unfold goM at hg;split at hg
   · rw [show pre ++ a :: l = (pre ++ [a]) ++ l by simp];refine da_days l (pre ++ [a]) a.day hg (by omega) (hm a (by simp)) (fun m hm' => hm m (by simp [hm'])) ?_;rw [daL_snoc, daStep];split
     · rw [stepD];split
       · intro d hd;rcases List.mem_append.1 hd with hd | hd
         · exact okDa_mono hs (h d hd)
         · simp at hd; subst hd;exact ⟨⟨by dsimp only; omega, Int.le_refl _⟩, by simp⟩
       · exact takeL_da hs (by have := hall.1; unfold badM at this; omega) _ _ h
     · exact fun d hd => okDa_mono hs (h d hd)
   · rename_i hc; exact absurd hg hc
structure okLot (ts : List Term) (D : Int) (x : Lot) : Prop where
 part : ∃ t ∈ ts, x.part = t.part
 cnt : 0 < x.count ∧ x.count ≤ 100000
 inn : 0 ≤ x.inn ∧ x.inn ≤ D
 out : (x.out = -1 ∧ x.day = -1) ∨ ((x.out = 1 ∨ x.out = 2) ∧ x.inn ≤ x.day ∧ x.day ≤ D)
theorem lots_ok {ts : List Term} {ms : List Move} {D : Int} (h : tmE ts ms = 0) (h0 : 0 ≤ D) (hD : ∀ m ∈ ms, m.day ≤ D) : ∀ x ∈ lotsT ts ms, okLot ts D x := fun x hx => by
 have hgo := (tm_parts h).2.2.2;obtain ⟨t, ht, hx⟩ := List.mem_flatMap.1 hx;have ho := lotsGo_okL ms 0 (fun m hm => (tm_go h m hm).1) x hx;rw [← da_out (goM_okS t.part ms [] 0 hgo (by simp))] at hx;obtain ⟨d, hd, hx⟩ := List.mem_flatMap.1 hx;have hda := da_days (p := t.part) (D := D) ms [] 0 hgo (Int.le_refl _) h0 hD (by intro d hd; simp [daL] at hd) d (by rw [List.nil_append]; exact hd);refine ⟨⟨t, ht, ho.1⟩, ho.2, ?_, ?_⟩
 · unfold outD at hx;rcases List.mem_append.1 hx with hx | hx
   · have := hda.2 x hx; rw [this.1]; exact hda.1
   · split at hx
     · simp at hx; subst hx; exact hda.1
     · simp at hx
 · unfold outD at hx;rcases List.mem_append.1 hx with hx | hx
   · have := hda.2 x hx;exact .inr ⟨this.2.2.2, by omega, this.2.2.1⟩
   · split at hx
     · simp at hx; subst hx; exact .inl ⟨rfl, rfl⟩
     · simp at hx
def lastP (day : Int) (x : Lot) : Int := if x.out < 0 then day else x.day
def weeksP (i o l : Int) : Int := max l ((o - i + 7) / 7)
def termAt (ts : List Term) (p : ByteArray) : Term := (ts[(termIx ts p).toNat]?).getD default
def chargeT (t : Term) (day : Int) (x : Lot) : Charge := ⟨x.part, x.count, weeksP x.inn (lastP day x) t.least, x.count * weeksP x.inn (lastP day x) t.least * t.week + if x.out = 2 then x.count * t.price else 0⟩
def chargeOf (ts : List Term) (day : Int) (x : Lot) : Charge := chargeT (termAt ts x.part) day x
def accT (ts : List Term) (ms : List Move) (day : Int) : List Charge := (lotsT ts (upM day ms)).map (chargeOf ts day)
theorem last_ok {ts : List Term} {day : Int} {x : Lot} (h : okLot ts day x) (hd : 0 ≤ day ∧ day ≤ 20000) : (0 ≤ lastP day x ∧ lastP day x ≤ 20000) ∧ x.inn ≤ lastP day x ∧ (0 ≤ x.inn ∧ x.inn ≤ 20000) := by
 have h1 := h.inn;have h2 := h.out;unfold lastP;split <;> omega
theorem mul_bnd {a b A B : Int} (ha : 0 ≤ a ∧ a ≤ A) (hb : 0 ≤ b ∧ b ≤ B) : 0 ≤ a * b ∧ a * b ≤ A * B := ⟨Int.mul_nonneg ha.1 hb.1, Int.mul_le_mul ha.2 hb.2 hb.1 (by omega)⟩
theorem weeks_bnd {i o l : Int} (h1 : 0 ≤ i ∧ i ≤ 20000) (h2 : 0 ≤ o ∧ o ≤ 20000) (h3 : i ≤ o) (h4 : 0 ≤ l ∧ l ≤ 520) : 0 ≤ weeksP i o l ∧ weeksP i o l ≤ 3000 := by unfold weeksP; omega
theorem goT_ok : ∀ (l pre : List Term), goT pre l = 0 → ∀ t ∈ l, ¬ badT t
 | [], _, _, t, ht => by simp at ht
 | a :: l, pre, h, t, ht => by
   unfold goT at h;split at h
   · cases h
   · split at h
     · cases h
     · split at h
       · cases h
       · rename_i h3;rcases List.mem_cons.1 ht with rfl | ht
         · exact h3
         · exact goT_ok l _ h t ht
theorem term_ok {ts : List Term} (h : termsE ts = 0) : ∀ t ∈ ts, (0 ≤ t.week ∧ t.week ≤ 1000000) ∧ (0 ≤ t.price ∧ t.price ≤ 1000000) ∧ (0 ≤ t.least ∧ t.least ≤ 520) := fun t ht => by
 unfold termsE at h;split at h
 · cases h
 · have := goT_ok ts [] h t ht;unfold badT at this; omega
theorem okLot.ix {ts : List Term} {D : Int} {x : Lot} (h : okLot ts D x) : 0 ≤ termIx ts x.part := by
 obtain ⟨t, ht, hp⟩ := h.part;by_cases hc : termIx ts x.part < 0
 · exact absurd hp.symm (ix_neg hc t ht)
 · omega
theorem acc_next {ts : List Term} {day : Int} {l : List Lot} {acc : List Charge} {k : Nat} {x : Lot} {t : Term} {c : Charge} (h : acc = (l.take k).map (chargeOf ts day)) (hx : l.take (k + 1) = l.take k ++ [x]) (ht : ts[(termIx ts x.part).toNat]? = some t) (hc : c = chargeT t day x) : acc ++ [c] = (l.take (k + 1)).map (chargeOf ts day) := by
 rw [h, hx, List.map_append, hc];simp [chargeOf, termAt, ht]
end Go.Proofs.YtjihcgcbnbaclaaGreatDoor.Y9
