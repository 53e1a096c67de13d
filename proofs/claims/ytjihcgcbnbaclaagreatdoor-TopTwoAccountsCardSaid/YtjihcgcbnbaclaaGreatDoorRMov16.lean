import Derived.Test.YtjihcgcbnbaclaaGreatDoorRMov15
import Derived.Test.YtjihcgcbnbaclaaGreatDoorRTotal
set_option linter.unusedSimpArgs false
set_option linter.unusedVariables false
namespace Go.Proofs.YtjihcgcbnbaclaaGreatDoor.Y9
open Go Go.Pv Go.Proofs.YtjihcgcbnbaclaaGreatDoor
def sumF {α : Type} (f : α → Int) (l : List α) : Int := (l.map f).sum
section
variable {α β : Type} {f g : α → Int}
theorem sumF_nil : sumF f [] = 0 := rfl
theorem sumF_cons (a : α) (l : List α) : sumF f (a :: l) = f a + sumF f l := by simp [sumF]
theorem sumF_app (a b : List α) : sumF f (a ++ b) = sumF f a + sumF f b := by unfold sumF; rw [List.map_append, List.sum_append]
theorem sumF_le {l : List α} (h : ∀ a ∈ l, f a ≤ g a) : sumF f l ≤ sumF g l := by
 induction l with
 | nil => exact Int.le_refl _
 | cons a l ih =>
   rw [sumF_cons, sumF_cons];have := h a (by simp);have := ih fun b hb => h b (by simp [hb]);omega
theorem sumF_eq {l : List α} (h : ∀ a ∈ l, f a = g a) : sumF f l = sumF g l := by
 have h1 := sumF_le (f := f) (g := g) (l := l) fun a ha => by rw [h a ha]; exact Int.le_refl _
 have h2 := sumF_le (f := g) (g := f) (l := l) fun a ha => by rw [h a ha]; exact Int.le_refl _
 omega
theorem sumF_nonneg {l : List α} (h : ∀ a ∈ l, 0 ≤ f a) : 0 ≤ sumF f l := by
 induction l with
 | nil => exact Int.le_refl _
 | cons a l ih =>
   rw [sumF_cons];have := h a (by simp);have := ih fun b hb => h b (by simp [hb]);omega
theorem sumF_flat (h : β → List α) (l : List β) : sumF f (l.flatMap h) = sumF (fun b => sumF f (h b)) l := by
 induction l with
 | nil => rfl
 | cons a l ih => rw [List.flatMap_cons, sumF_app, sumF_cons, ih]
theorem sumF_const {c : Int} {l : List α} (h : ∀ a ∈ l, f a ≤ c) : sumF f l ≤ c * (l.length : Int) := by
 induction l with
 | nil => simp [sumF]
 | cons a l ih =>
   rw [sumF_cons, List.length_cons];have h1 := h a (by simp);have h2 := ih fun b hb => h b (by simp [hb]);have h3 : c * ((l.length + 1 : Nat) : Int) = c * (l.length : Int) + c := by rw [Int.natCast_add, Int.mul_add]; simp
   omega
theorem sumF_scale {c : Int} (l : List α) : sumF (fun a => c * f a) l = c * sumF f l := by
 induction l with
 | nil => simp [sumF]
 | cons a l ih => rw [sumF_cons, sumF_cons, ih, Int.mul_add]
theorem sumF_take {l : List α} (h : ∀ a ∈ l, 0 ≤ f a) (k : Nat) : 0 ≤ sumF f (l.take k) ∧ sumF f (l.take k) ≤ sumF f l := by
 have h1 : sumF f l = sumF f (l.take k) + sumF f (l.drop k) := by rw [← sumF_app, List.take_append_drop]
 have h2 := sumF_nonneg (f := f) (l := l.take k) fun a ha => h a (List.mem_of_mem_take ha);have h3 := sumF_nonneg (f := f) (l := l.drop k) fun a ha => h a (List.mem_of_mem_drop ha);omega
end
def amtL (t : Term) (day : Int) (x : Lot) : Int := (chargeT t day x).amount
def valD (t : Term) (day : Int) (d : Da) : Int := sumF (amtL t day) d.gone + d.left * weeksP d.day day t.least * t.week
def valL (t : Term) (day : Int) (l : List Da) : Int := sumF (valD t day) l
theorem amt_gone {t : Term} {day : Int} {x : Lot} (h : x.out = 1 ∨ x.out = 2) : amtL t day x = x.count * weeksP x.inn x.day t.least * t.week + if x.out = 2 then x.count * t.price else 0 := by
 unfold amtL chargeT;have : lastP day x = x.day := by unfold lastP; rw [if_neg (by omega)]
 rw [this]
theorem val_out {t : Term} {day : Int} {d : Da} (hl : 0 ≤ d.left) : sumF (amtL t day) (outD t.part d) = valD t day d := by
 unfold outD valD;rw [sumF_app];congr 1;by_cases h : 0 < d.left
 · rw [if_pos h, sumF_cons, sumF_nil];unfold amtL chargeT lastP;simp
 · have : d.left = 0 := by omega
   rw [if_neg h, this, sumF_nil]; simp
theorem weeks_mono {i o p l : Int} (h : o ≤ p) : weeksP i o l ≤ weeksP i p l := by unfold weeksP; omega
theorem val_mono {t : Term} {a b : Int} {d : Da} (ht : tOk t) (hl : 0 ≤ d.left) (hab : a ≤ b) (hg : ∀ g ∈ d.gone, g.out = 1 ∨ g.out = 2) : valD t a d ≤ valD t b d := by
 unfold valD;have h1 : sumF (amtL t a) d.gone = sumF (amtL t b) d.gone := sumF_eq fun g hgm => by rw [amt_gone (hg g hgm), amt_gone (hg g hgm)]
 have h2 := Int.mul_le_mul_of_nonneg_right (Int.mul_le_mul_of_nonneg_left (weeks_mono (i := d.day) (l := t.least) hab) hl) ht.1.1;omega
def okV (l : List Da) : Prop := ∀ d ∈ l, 0 ≤ d.left ∧ ∀ g ∈ d.gone, g.out = 1 ∨ g.out = 2
theorem take_okV {m : Move} (hk : m.kind = 1 ∨ m.kind = 2) : ∀ (l : List Da) (n : Int), okV l → okV (takeL m n l)
 | [], _, _ => by intro d hd; simp [takeL] at hd
 | a :: l, n, h => by
   have h0 := h a (by simp);have ih := fun n => take_okV hk l n fun d hd => h d (by simp [hd]);unfold takeL;split
   · intro d hd;rcases List.mem_cons.1 hd with rfl | hd
     · refine ⟨by dsimp only; omega, fun g hg => ?_⟩;rcases List.mem_append.1 hg with hg | hg
       · exact h0.2 g hg
       · simp at hg; subst hg; exact hk
     · exact ih _ d hd
   · intro d hd;rcases List.mem_cons.1 hd with rfl | hd
     · exact h0
     · exact ih _ d hd
theorem take_val {t : Term} {m : Move} (ht : tOk t) (hk : m.kind = 1 ∨ m.kind = 2) : ∀ (l : List Da) (n : Int), valL t m.day l ≤ valL t m.day (takeL m n l)
 | [], _ => Int.le_refl _
 | a :: l, n => by
   have ih := fun n => take_val ht hk l n;unfold takeL;split
   · rename_i hp;unfold valL at ih ⊢;rw [sumF_cons, sumF_cons];have h1 := ih (n - min n a.left)
     have h2 : valD t m.day a ≤ valD t m.day ⟨a.day, a.left - min n a.left, a.gone ++ [⟨m.part, min n a.left, a.day, m.day, m.kind⟩]⟩ := by
       unfold valD;rw [sumF_app, sumF_cons, sumF_nil, amt_gone hk];dsimp only;have e : (a.left - min n a.left) * weeksP a.day m.day t.least * t.week = a.left * weeksP a.day m.day t.least * t.week - min n a.left * weeksP a.day m.day t.least * t.week := by rw [Int.sub_mul, Int.sub_mul]
       have hq : 0 ≤ (if m.kind = 2 then min n a.left * t.price else 0) := by
         split
         · exact Int.mul_nonneg (by omega) ht.2.1.1
         · exact Int.le_refl _
       rw [e]; omega
     omega
   · unfold valL at ih ⊢;rw [sumF_cons, sumF_cons];have := ih n; omega
theorem valL_mono {t : Term} {a b : Int} {l : List Da} (ht : tOk t) (h : okV l) (hab : a ≤ b) : valL t a l ≤ valL t b l := sumF_le fun d hd => val_mono ht (h d hd).1 hab (h d hd).2
theorem da_val {t : Term} (ht : tOk t) {p : ByteArray} {B : Int} : ∀ (l pre : List Move) (A : Int), okV (daL p pre) → (l.Pairwise fun a b => a.day ≤ b.day) → A ≤ B → (∀ m ∈ l, A ≤ m.day ∧ m.day ≤ B ∧ ¬ badM m) → valL t A (daL p pre) ≤ valL t B (daL p (pre ++ l)) ∧ okV (daL p (pre ++ l))
 | [], pre, A, h, _, hab, _ => by rw [List.append_nil]; exact ⟨valL_mono ht h hab, h⟩
 | m :: l, pre, A, h, hs, hab, hm => by
   have h0 := hm m (by simp);rw [List.pairwise_cons] at hs;have hk : ¬ m.kind = 0 → m.kind = 1 ∨ m.kind = 2 := fun h => by have := h0.2.2; unfold badM at this; omega
   have h1 := valL_mono ht h h0.1
   have h2 : valL t m.day (daL p pre) ≤ valL t m.day (daL p (pre ++ [m])) ∧ okV (daL p (pre ++ [m])) := by
     rw [daL_snoc, daStep];split
     · rw [stepD];split
       · refine ⟨?_, fun d hd => ?_⟩
         · unfold valL;rw [sumF_app, sumF_cons, sumF_nil]
           have : 0 ≤ valD t m.day ⟨m.day, m.count, []⟩ := by
             unfold valD;rw [sumF_nil];have hw : 0 ≤ weeksP m.day m.day t.least := by unfold weeksP; have := ht.2.2.1; omega
             have hc : 0 ≤ m.count := by have := h0.2.2; unfold badM at this; omega
             have := Int.mul_nonneg (Int.mul_nonneg hc hw) ht.1.1;dsimp only; omega
           omega
         · rcases List.mem_append.1 hd with hd | hd
           · exact h d hd
           · simp at hd; subst hd;exact ⟨by have := h0.2.2; unfold badM at this; dsimp only; omega, by simp⟩
       · rename_i hk0;exact ⟨take_val ht (hk hk0) _ _, take_okV (hk hk0) _ _ h⟩
     · exact ⟨Int.le_refl _, h⟩
   have ih := da_val ht l (pre ++ [m]) m.day h2.2 hs.2 h0.2.1 fun x hx => ⟨hs.1 x hx, (hm x (by simp [hx])).2⟩
   rw [show pre ++ m :: l = (pre ++ [m]) ++ l by simp];exact ⟨by omega, ih.2⟩
theorem upM_split {A B : Int} (hab : A ≤ B) : ∀ {ms : List Move}, (ms.Pairwise fun a b => a.day ≤ b.day) → ∃ l, upM B ms = upM A ms ++ l ∧ (l.Pairwise fun a b => a.day ≤ b.day) ∧ ∀ m ∈ l, m ∈ ms ∧ A ≤ m.day ∧ m.day ≤ B
 | [], _ => ⟨[], rfl, .nil, by simp⟩
 | a :: ms, h => by
   have h' := List.pairwise_cons.1 h;by_cases hA : a.day ≤ A
   · obtain ⟨l, h1, h2, h3⟩ := upM_split hab h'.2;refine ⟨l, ?_, h2, fun m hm => ⟨by simp [(h3 m hm).1], (h3 m hm).2⟩⟩;unfold upM at h1 ⊢;rw [List.takeWhile_cons, List.takeWhile_cons, decide_eq_true hA, decide_eq_true (show a.day ≤ B by omega), if_pos rfl, if_pos rfl, h1]; rfl
   · have e : upM A (a :: ms) = [] := by unfold upM; rw [List.takeWhile_cons, decide_eq_false hA]; rfl
     refine ⟨upM B (a :: ms), by rw [e]; rfl, ?_, fun m hm => ⟨upM_mem hm, ?_, upM_le m hm⟩⟩
     · obtain ⟨l, hl⟩ := upM_pre B (a :: ms);rw [hl] at h;exact (List.pairwise_append.1 h).1
     · have := upM_mem hm;rcases List.mem_cons.1 this with rfl | h4
       · omega
       · have := h'.1 m h4; omega
theorem term_at {ts : List Term} (h : termsE ts = 0) {t : Term} (ht : t ∈ ts) : termAt ts t.part = t := by
 obtain ⟨j, hj⟩ := List.mem_iff_getElem?.1 ht;have := terms_ix h hj;unfold termAt;rw [this, Int.toNat_natCast, hj]; rfl
theorem sumA_map (f : Lot → Charge) (l : List Lot) : sumA (l.map f) = sumF (fun x => (f x).amount) l := by unfold sumA sumF; rw [List.map_map]; rfl
theorem acc_val {ts : List Term} {ms : List Move} {day : Int} (h : tmE ts ms = 0) (hd : 0 ≤ day ∧ day ≤ 20000) : sumA (accT ts ms day) = sumF (fun t => valL t day (daL t.part (upM day ms))) ts := by
 have hu := tm_up h day;unfold accT;rw [sumA_map];unfold lotsT;rw [sumF_flat];refine sumF_eq fun t ht => ?_;have hbd := came_bnd (ts := ts) (ms := upM day ms) fun m hm => (tm_go hu m hm).1;rw [came_da (tm_parts hu).1 _ fun m hm => (tm_go hu m hm).2] at hbd;have hbt := (hbd _ (List.mem_map.2 ⟨t, ht, rfl⟩)).2
 have e1 : sumF (fun x => (chargeOf ts day x).amount) (lotsR t.part (upM day ms)) = sumF (amtL t day) (lotsR t.part (upM day ms)) := sumF_eq fun x hx => by
   have hp := (lotsGo_okL (upM day ms) 0 (fun m hm => (tm_go hu m hm).1) x hx).1;unfold chargeOf amtL;rw [hp, term_at (tm_parts h).1 ht]
 rw [e1, ← da_out (goM_okS t.part _ [] 0 (tm_parts hu).2.2.2 (by simp)), sumF_flat];exact sumF_eq fun d hdm => val_out (hbt d hdm).1.1
theorem acc_mono {ts : List Term} {ms : List Move} {a b : Int} (h : tmE ts ms = 0) (ha : 0 ≤ a ∧ a ≤ 20000) (hb : 0 ≤ b ∧ b ≤ 20000) (hab : a ≤ b) : sumA (accT ts ms a) ≤ sumA (accT ts ms b) := by
 rw [acc_val h ha, acc_val h hb];refine sumF_le fun t ht => ?_;obtain ⟨l, e, hs, hm⟩ := upM_split hab (goM_sorted ms [] 0 (tm_parts h).2.2.2).1;have htk := term_ok (tm_parts h).1 t ht;have hall := goM_all ms [] 0 (tm_parts h).2.2.2
 have h0 := da_val (t := t) htk (p := t.part) (B := a) (upM a ms) [] 0 (by intro d hd; simp [daL] at hd) (by
   obtain ⟨l2, hl2⟩ := upM_pre a ms;have h9 := (goM_sorted ms [] 0 (tm_parts h).2.2.2).1;rw [hl2] at h9;exact (List.pairwise_append.1 h9).1) ha.1 fun m hm2 => ⟨(goM_sorted ms [] 0 (tm_parts h).2.2.2).2 m (upM_mem hm2), upM_le m hm2, (hall m (upM_mem hm2)).1⟩
 rw [List.nil_append] at h0;have := da_val htk (p := t.part) (B := b) l (upM a ms) a h0.2 hs hab fun m hm2 => ⟨(hm m hm2).2.1, (hm m hm2).2.2, (hall m (hm m hm2).1).1⟩
 rw [e];exact this.1
theorem cam_bnd (p : ByteArray) : ∀ (l : List Move) (c : Int), (∀ m ∈ l, okM m) → camR p c l ≤ c + 100000 * (l.length : Int)
 | [], c, _ => by rw [camR]; simp
 | a :: l, c, h => by
   have h0 := (h a (by simp)).2;have ih := fun c => cam_bnd p l c fun m hm => h m (by simp [hm]);rw [camR, List.length_cons];split
   · have := ih (c + a.count); omega
   · have := ih c; omega
theorem amt_bnd {ts : List Term} {day : Int} {x : Lot} {t : Term} (hok : okLot ts day x) (ht : tOk t) (hd : 0 ≤ day ∧ day ≤ 20000) : 0 ≤ amtL t day x ∧ amtL t day x ≤ 3001000000 * x.count := by
 have hla := last_ok hok hd;have hW := weeks_bnd hla.2.2 hla.1 hla.2.1 ht.2.2;have hc : 0 ≤ x.count ∧ x.count ≤ x.count := by have := hok.cnt; omega
 have h1 := mul_bnd hW ht.1;have h2 := Int.mul_le_mul_of_nonneg_left h1.2 hc.1;have h3 := Int.mul_nonneg hc.1 h1.1;have h4 := Int.mul_le_mul_of_nonneg_left ht.2.1.2 hc.1;have h5 := Int.mul_nonneg hc.1 ht.2.1.1;unfold amtL chargeT;dsimp only;rw [Int.mul_assoc];split <;> omega
structure SmallA (xs : List Charge) : Prop where
 len : xs.length ≤ 6066450
 pos : ∀ x ∈ xs, 0 ≤ x.amount
 sum : sumA xs ≤ 9000000000000000000
theorem acc_small {ts : List Term} {ms : List Move} {day : Int} (h : tmE ts ms = 0) (hd : 0 ≤ day ∧ day ≤ 20000) : SmallA (accT ts ms day) := by
 have hu := tm_up h day;have hok := lots_ok hu hd.1 upM_le;have hl := tm_parts hu
 have ht60 : ts.length ≤ 60 := by
   have := hl.1; unfold termsE at this;split at this
   · cases this
   · omega
 have hat : ∀ x ∈ lotsT ts (upM day ms), ∃ t, tOk t ∧ termAt ts x.part = t := fun x hx => by
   obtain ⟨t, ht, hp⟩ := (hok x hx).part;exact ⟨t, term_ok hl.1 t ht, by rw [hp]; exact term_at hl.1 ht⟩
 refine ⟨?_, fun c hc => ?_, ?_⟩
 · unfold accT;have h1 := lotsT_len ts (upM day ms) (by omega);rw [lM];have h2 : ts.length * 93330 ≤ 60 * 93330 := Nat.mul_le_mul_right _ ht60;omega
 · obtain ⟨x, hx, rfl⟩ := List.mem_map.1 hc;obtain ⟨t, ht, e⟩ := hat x hx;unfold chargeOf; rw [e];exact (amt_bnd (hok x hx) ht hd).1
 · unfold accT;rw [sumA_map]
   have h1 : sumF (fun x => (chargeOf ts day x).amount) (lotsT ts (upM day ms)) ≤ sumF (fun x : Lot => 3001000000 * x.count) (lotsT ts (upM day ms)) := sumF_le fun x hx => by
     obtain ⟨t, ht, e⟩ := hat x hx;unfold chargeOf; rw [e];exact (amt_bnd (hok x hx) ht hd).2
   rw [sumF_scale] at h1;have hokm : ∀ m ∈ upM day ms, okM m := fun m hm => (tm_go hu m hm).1
   have h2 : sumF Lot.count (lotsT ts (upM day ms)) ≤ 30000000 * (ts.length : Int) := by
     unfold lotsT;rw [sumF_flat];refine sumF_const fun t ht => ?_
     have e1 : sumF Lot.count (lotsR t.part (upM day ms)) = sumC t.part (lotsR t.part (upM day ms)) := by
       unfold sumC;exact sumF_eq fun x hx => by rw [if_pos (lotsGo_okL (upM day ms) 0 hokm x hx).1]
     rw [e1];have e2 := lotsGo_sum (p := t.part) (ms := upM day ms) (fun m hm => (hokm m hm).2.1) (upM day ms) 0 (fun m hm => (hokm m hm).2.1) (Int.le_refl _);unfold lotsR;rw [e2];have e3 := cam_bnd t.part (upM day ms) 0 hokm;omega
   omega
theorem sum_take {xs : List Charge} (h : SmallA xs) (k : Nat) : 0 ≤ sumA (xs.take k) ∧ sumA (xs.take k) ≤ 9000000000000000000 := by
 have := sumF_take (f := fun x : Charge => x.amount) h.pos k;have h2 := h.sum;unfold sumF at this;unfold sumA at h2 ⊢;omega
end Go.Proofs.YtjihcgcbnbaclaaGreatDoor.Y9
