import Derived.Test.YtjihcgcbnbaclaaGreatDoorRMov16
set_option linter.unusedSimpArgs false
set_option linter.unusedVariables false
namespace Go.Proofs.YtjihcgcbnbaclaaGreatDoor.Y9
open Go Go.Pv
def newA (t : Term) (day : Int) (x : Lot) : Int :=
 if (x.out < 0 ∨ day ≤ x.day) ∧ day - x.inn + 1 = 1 then x.count * max 1 t.least * t.week
 else if (x.out < 0 ∨ day ≤ x.day) ∧ (day - x.inn + 1) % 7 = 1 ∧ t.least ≤ (day - x.inn + 1) / 7 then x.count * t.week else 0
def newP (t : Term) (day : Int) (x : Lot) : Int := if x.out = 2 ∧ x.day = day then x.count * t.price else 0
def newL (t : Term) (day : Int) (x : Lot) : Int := newA t day x + newP t day x
def pvG (t : Term) (day : Int) (g : Lot) : Int := if g.inn = day then 0 else if g.day = day then g.count * weeksP g.inn (day - 1) t.least * t.week else amtL t day g
def pvD (t : Term) (day : Int) (d : Da) : Int := sumF (pvG t day) d.gone + if d.day = day then 0 else d.left * weeksP d.day (day - 1) t.least * t.week
def pvL (t : Term) (day : Int) (l : List Da) : Int := sumF (pvD t day) l
theorem sumF_add {α : Type} {f g : α → Int} (l : List α) : sumF (fun a => f a + g a) l = sumF f l + sumF g l := by
 induction l with
 | nil => rfl
 | cons a l ih => rw [sumF_cons, sumF_cons, sumF_cons, ih]; omega
theorem week_day {day l : Int} : weeksP day day l = max 1 l := by unfold weeksP; omega
theorem week_yes {i day l : Int} (h : i < day) (h1 : (day - i + 1) % 7 = 1) (h2 : l ≤ (day - i + 1) / 7) : weeksP i day l = weeksP i (day - 1) l + 1 := by unfold weeksP; omega
theorem week_no {i day l : Int} (h : i < day) (h1 : ¬ ((day - i + 1) % 7 = 1 ∧ l ≤ (day - i + 1) / 7)) : weeksP i day l = weeksP i (day - 1) l := by unfold weeksP; omega
theorem week_step {t : Term} {i day c : Int} (h : i ≤ day) : c * weeksP i day t.least * t.week = (if i = day then 0 else c * weeksP i (day - 1) t.least * t.week) + (if day - i + 1 = 1 then c * max 1 t.least * t.week else if (day - i + 1) % 7 = 1 ∧ t.least ≤ (day - i + 1) / 7 then c * t.week else 0) := by
 by_cases h0 : i = day
 · subst h0;rw [if_pos rfl, if_pos (by omega), week_day]; omega
 · rw [if_neg h0, if_neg (by omega)];by_cases h1 : (day - i + 1) % 7 = 1 ∧ t.least ≤ (day - i + 1) / 7
   · rw [if_pos h1, week_yes (by omega) h1.1 h1.2, Int.mul_add, Int.add_mul, Int.mul_one]
   · rw [if_neg h1, week_no (by omega) h1]; omega
theorem newA_there {t : Term} {day : Int} {x : Lot} (h : x.out < 0 ∨ day ≤ x.day) : newA t day x = if day - x.inn + 1 = 1 then x.count * max 1 t.least * t.week else if (day - x.inn + 1) % 7 = 1 ∧ t.least ≤ (day - x.inn + 1) / 7 then x.count * t.week else 0 := by
 unfold newA;simp only [h, true_and]
theorem gone_step {t : Term} {day : Int} {g : Lot} (h : g.inn ≤ g.day ∧ g.day ≤ day ∧ (g.out = 1 ∨ g.out = 2)) : amtL t day g = pvG t day g + newL t day g := by
 unfold newL pvG;by_cases hd : g.day = day
 · rw [newA_there (.inr (by omega)), amt_gone h.2.2, hd, week_step (by omega)];have e : newP t day g = if g.out = 2 then g.count * t.price else 0 := by unfold newP; simp only [hd, and_true]
   rw [e, if_pos rfl];omega
 · have e : newP t day g = 0 := by unfold newP; rw [if_neg (by omega)]
   have e2 : newA t day g = 0 := by unfold newA; rw [if_neg (by omega), if_neg (by omega)]
   rw [e, e2, if_neg (by omega), if_neg hd]; omega
theorem da_step {t : Term} {day : Int} {d : Da} (h : okDa day d) (hl : 0 ≤ d.left) : valD t day d = pvD t day d + sumF (newL t day) (outD t.part d) := by
 have hg : sumF (amtL t day) d.gone = sumF (pvG t day) d.gone + sumF (newL t day) d.gone := by
   rw [← sumF_add];exact sumF_eq fun g hg => gone_step (by have := h.2 g hg; omega)
 unfold valD pvD outD;rw [hg, sumF_app, week_step h.1.2];by_cases h0 : 0 < d.left
 · rw [if_pos h0, sumF_cons, sumF_nil];unfold newL;rw [newA_there (.inl (by show (-1 : Int) < 0; decide))];have e : newP t day ⟨t.part, d.left, d.day, -1, -1⟩ = 0 := by unfold newP; rw [if_neg (by simp)]
   rw [e]; dsimp only; omega
 · have : d.left = 0 := by omega
   rw [if_neg h0, this, sumF_nil]; simp
theorem pv_base {t : Term} {day : Int} {d : Da} (h : okDa (day - 1) d) : pvD t day d = valD t (day - 1) d := by
 unfold pvD valD;rw [if_neg (by have := h.1; omega)];congr 1
 exact sumF_eq fun g hg => by
   have := h.2 g hg;unfold pvG;rw [if_neg (by omega), if_neg (by omega), amt_gone this.2.2.2, amt_gone this.2.2.2]
theorem pv_take {t : Term} {m : Move} (hk : m.kind = 1 ∨ m.kind = 2) : ∀ (l : List Da) (n : Int), pvL t m.day (takeL m n l) = pvL t m.day l
 | [], _ => rfl
 | a :: l, n => by
   have ih := fun n => pv_take (t := t) hk l n;unfold pvL at ih ⊢;unfold takeL;split
   · rw [sumF_cons, sumF_cons, ih];congr 1;unfold pvD;rw [sumF_app, sumF_cons, sumF_nil];dsimp only;unfold pvG;dsimp only;by_cases h : a.day = m.day
     · rw [if_pos h, if_pos h, if_pos h]; omega
     · rw [if_neg h, if_neg h, if_neg h, if_pos rfl, Int.sub_mul, Int.sub_mul]; omega
   · rw [sumF_cons, sumF_cons, ih]
theorem pv_fold {t : Term} {p : ByteArray} {day : Int} : ∀ (l pre : List Move), (∀ m ∈ l, m.day = day ∧ ¬ badM m) → pvL t day (daL p (pre ++ l)) = pvL t day (daL p pre)
 | [], pre, _ => by rw [List.append_nil]
 | m :: l, pre, h => by
   have h0 := h m (by simp);rw [show pre ++ m :: l = (pre ++ [m]) ++ l by simp, pv_fold l (pre ++ [m]) fun x hx => h x (by simp [hx]), daL_snoc, daStep];split
   · rw [stepD];split
     · unfold pvL;rw [sumF_app, sumF_cons, sumF_nil];have : pvD t day ⟨m.day, m.count, []⟩ = 0 := by unfold pvD; rw [sumF_nil, if_pos h0.1]; rfl
       rw [this]; omega
     · rename_i hk;rw [← h0.1];exact pv_take (by have := h0.2; unfold badM at this; omega) _ _
   · rfl
theorem upM_strict {A B : Int} (hab : A ≤ B) : ∀ {ms : List Move}, (ms.Pairwise fun a b => a.day ≤ b.day) → ∃ l, upM B ms = upM A ms ++ l ∧ ∀ m ∈ l, m ∈ ms ∧ A < m.day ∧ m.day ≤ B
 | [], _ => ⟨[], rfl, by simp⟩
 | a :: ms, h => by
   have h' := List.pairwise_cons.1 h;by_cases hA : a.day ≤ A
   · obtain ⟨l, h1, h3⟩ := upM_strict hab h'.2;refine ⟨l, ?_, fun m hm => ⟨by simp [(h3 m hm).1], (h3 m hm).2⟩⟩;unfold upM at h1 ⊢;rw [List.takeWhile_cons, List.takeWhile_cons, decide_eq_true hA, decide_eq_true (show a.day ≤ B by omega), if_pos rfl, if_pos rfl, h1]; rfl
   · have e : upM A (a :: ms) = [] := by unfold upM; rw [List.takeWhile_cons, decide_eq_false hA]; rfl
     refine ⟨upM B (a :: ms), by rw [e]; rfl, fun m hm => ⟨upM_mem hm, ?_, upM_le m hm⟩⟩;rcases List.mem_cons.1 (upM_mem hm) with rfl | h4
     · omega
     · have := h'.1 m h4; omega
def newT (ts : List Term) (ms : List Move) (day : Int) : Int := sumF (fun x => newL (termAt ts x.part) day x) (lotsT ts (upM day ms))
theorem day_new {ts : List Term} {ms : List Move} {day : Int} (h : tmE ts ms = 0) (hd : 1 ≤ day ∧ day ≤ 20000) : sumA (accT ts ms day) = sumA (accT ts ms (day - 1)) + newT ts ms day := by
 rw [acc_val h (by omega), acc_val h (by omega)];unfold newT lotsT;rw [sumF_flat, ← sumF_add];have hs := goM_sorted ms [] 0 (tm_parts h).2.2.2;have hall := goM_all ms [] 0 (tm_parts h).2.2.2;obtain ⟨l, e, hm⟩ := upM_strict (A := day - 1) (B := day) (by omega) hs.1;refine sumF_eq fun t ht => ?_;have hu := tm_up h day;have hu1 := tm_up h (day - 1);have ok1 := da_days (p := t.part) (D := day) (upM day ms) [] 0 (tm_parts hu).2.2.2 (Int.le_refl _) (by omega) upM_le (by intro d hd; simp [daL] at hd);have ok0 := da_days (p := t.part) (D := day - 1) (upM (day - 1) ms) [] 0 (tm_parts hu1).2.2.2 (Int.le_refl _) (by omega) upM_le (by intro d hd; simp [daL] at hd);rw [List.nil_append] at ok0 ok1;have hbd := came_bnd (ts := ts) (ms := upM day ms) fun m hm => (tm_go hu m hm).1;rw [came_da (tm_parts hu).1 _ fun m hm => (tm_go hu m hm).2] at hbd;have hbt := (hbd _ (List.mem_map.2 ⟨t, ht, rfl⟩)).2
 have e0 : valL t day (daL t.part (upM day ms)) = pvL t day (daL t.part (upM day ms)) + sumF (fun d => sumF (newL t day) (outD t.part d)) (daL t.part (upM day ms)) := by
   unfold valL pvL;rw [← sumF_add];exact sumF_eq fun d hdm => da_step (ok1 d hdm) (hbt d hdm).1.1
 have e1 : pvL t day (daL t.part (upM day ms)) = valL t (day - 1) (daL t.part (upM (day - 1) ms)) := by
   rw [e, pv_fold l (upM (day - 1) ms) fun m hml => ⟨by have := hm m hml; omega, (hall m (hm m hml).1).1⟩];unfold pvL valL;exact sumF_eq fun d hdm => pv_base (ok0 d hdm)
 have e2 : sumF (fun x => newL (termAt ts x.part) day x) (lotsR t.part (upM day ms)) = sumF (fun d => sumF (newL t day) (outD t.part d)) (daL t.part (upM day ms)) := by
   rw [← sumF_flat, da_out (goM_okS t.part _ [] 0 (tm_parts hu).2.2.2 (by simp))];exact sumF_eq fun x hx => by rw [(lotsGo_okL (upM day ms) 0 (fun m hm => (tm_go hu m hm).1) x hx).1, term_at (tm_parts h).1 ht]
 rw [e0, e1, e2]
theorem new_pos {ts : List Term} {D : Int} {x : Lot} {t : Term} {day : Int} (hok : okLot ts D x) (ht : tOk t) : 0 ≤ newA t day x ∧ 0 ≤ newP t day x := by
 have hc : 0 ≤ x.count := by have := hok.cnt; omega
 have h1 := Int.mul_nonneg (Int.mul_nonneg hc (show 0 ≤ max 1 t.least by omega)) ht.1.1;have h2 := Int.mul_nonneg hc ht.1.1;have h3 := Int.mul_nonneg hc ht.2.1.1;unfold newA newP;constructor
 · split
   · exact h1
   · split
     · exact h2
     · exact Int.le_refl _
 · split
   · exact h3
   · exact Int.le_refl _
end Go.Proofs.YtjihcgcbnbaclaaGreatDoor.Y9
