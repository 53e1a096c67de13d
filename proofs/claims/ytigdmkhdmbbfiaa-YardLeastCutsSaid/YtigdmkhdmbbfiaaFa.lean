/- What trips meet is no more than a cut is worth. No conditions. -/
import Derived.Test.YtigdmkhdmbbfiaaTd0
set_option linter.unusedSimpArgs false
set_option linter.unusedVariables false
set_option maxRecDepth 100000
namespace Go.Proofs.Ytigdmkhdmbbfiaa
open Go Go.Pv
/-! ### Sums -/
def sumL {α : Type} (f : α → Int) : List α → Int
 | [] => 0
 | x :: l => f x + sumL f l
section
variable {α β : Type} {f g : α → Int} {l m : List α}
theorem sumL_cap : capS f l l.length = sumL f l := by
 rw [capS, List.take_length]
 induction l with
 | nil => rfl
 | cons x l ih => rw [List.map_cons, List.sum_cons, ih, sumL]
theorem sumL_congr (h : ∀ x ∈ l, f x = g x) : sumL f l = sumL g l := by
 induction l with
 | nil => rfl
 | cons x l ih => rw [sumL, sumL, h x (by simp), ih fun y hy => h y (by simp [hy])]
theorem sumL_le (h : ∀ x ∈ l, f x ≤ g x) : sumL f l ≤ sumL g l := by
 induction l with
 | nil => exact Int.le_refl _
 | cons x l ih =>
   have h1 := h x (by simp)
   have h2 := ih fun y hy => h y (by simp [hy])
   rw [sumL, sumL]; omega
theorem sumL_nn (h : ∀ x ∈ l, 0 ≤ f x) : 0 ≤ sumL f l := by
 induction l with
 | nil => exact Int.le_refl _
 | cons x l ih =>
   have h1 := h x (by simp)
   have h2 := ih fun y hy => h y (by simp [hy])
   rw [sumL]; omega
theorem sumL_z (h : ∀ x ∈ l, f x = 0) : sumL f l = 0 := by
 induction l with
 | nil => rfl
 | cons x l ih => rw [sumL, h x (by simp), ih fun y hy => h y (by simp [hy])]; rfl
theorem sumL_mem (h : ∀ x ∈ l, 0 ≤ f x) {y : α} (hy : y ∈ l) : f y ≤ sumL f l := by
 induction l with
 | nil => simp at hy
 | cons x l ih =>
   have h1 := h x (by simp)
   have h2 := sumL_nn (f := f) (l := l) fun y hy => h y (by simp [hy])
   rw [sumL]
   rcases List.mem_cons.1 hy with rfl | hy
   · omega
   · have h3 := ih (fun y hy => h y (by simp [hy])) hy
     omega
theorem sumL_add : sumL (fun x => f x + g x) l = sumL f l + sumL g l := by
 induction l with
 | nil => rfl
 | cons x l ih => rw [sumL, sumL, sumL, ih]; omega
theorem sumL_sub : sumL (fun x => f x - g x) l = sumL f l - sumL g l := by
 induction l with
 | nil => rfl
 | cons x l ih => rw [sumL, sumL, sumL, ih]; omega
theorem sumL_app : sumL f (l ++ m) = sumL f l + sumL f m := by
 induction l with
 | nil => rw [List.nil_append, sumL]; omega
 | cons x l ih => rw [List.cons_append, sumL, sumL, ih]; omega
theorem sumL_map {h : β → α} {l : List β} : sumL f (l.map h) = sumL (fun x => f (h x)) l := by
 induction l with
 | nil => rfl
 | cons x l ih => rw [List.map_cons, sumL, sumL, ih]
theorem sumL_flat {h : β → List α} {l : List β} : sumL f (l.flatMap h) = sumL (fun x => sumL f (h x)) l := by
 induction l with
 | nil => rfl
 | cons x l ih => rw [List.flatMap_cons, sumL_app, ih, sumL]
end
section
variable {f g : Nat → Int} {n : Nat}
theorem lvl_congr : ∀ {n : Nat}, (∀ i, i < n → f i = g i) → lvl f n = lvl g n
 | 0, _ => rfl
 | n + 1, h => by rw [lvl, lvl, h n (by omega), lvl_congr fun i hi => h i (by omega)]
theorem lvl_le : ∀ {n : Nat}, (∀ i, i < n → f i ≤ g i) → lvl f n ≤ lvl g n
 | 0, _ => Int.le_refl _
 | n + 1, h => by
   have h1 := h n (by omega)
   have h2 := lvl_le (n := n) fun i hi => h i (by omega)
   rw [lvl, lvl]; omega
theorem lvl_add : ∀ {n : Nat}, lvl (fun i => f i + g i) n = lvl f n + lvl g n
 | 0 => rfl
 | n + 1 => by rw [lvl, lvl, lvl, lvl_add]; omega
theorem lvl_sub : ∀ {n : Nat}, lvl (fun i => f i - g i) n = lvl f n - lvl g n
 | 0 => rfl
 | n + 1 => by rw [lvl, lvl, lvl, lvl_sub]; omega
theorem lvl_z : ∀ {n : Nat}, (∀ i, i < n → f i = 0) → lvl f n = 0
 | 0, _ => rfl
 | n + 1, h => by rw [lvl, h n (by omega), lvl_z fun i hi => h i (by omega)]; rfl
theorem lvl_ind {j : Nat} {w : Int} : ∀ {n : Nat}, lvl (fun i => if i = j then w else 0) n = if j < n then w else 0
 | 0 => rfl
 | n + 1 => by
   rw [lvl, lvl_ind]
   by_cases h : n = j
   · rw [if_pos h, if_neg (by omega), if_pos (by omega)]; omega
   · rw [if_neg h]
     by_cases h2 : j < n
     · rw [if_pos h2, if_pos (by omega)]; omega
     · rw [if_neg h2, if_neg (by omega)]; rfl
theorem lvl_cut {k : Nat} (hk : k ≤ n) : lvl (fun i => if i < k then f i else 0) n = lvl f k := by
 induction n with
 | zero => rw [Nat.le_zero.1 hk]; rfl
 | succ n ih =>
   rw [lvl]
   by_cases h : k ≤ n
   · rw [ih h, if_neg (by omega)]; omega
   · have : k = n + 1 := by omega
     subst this
     rw [if_pos (by omega), lvl]
     congr 1
     exact lvl_congr fun i hi => if_pos (by omega)
theorem lvl_sum {α : Type} {F : α → Nat → Int} : ∀ {l : List α}, lvl (fun p => sumL (fun x => F x p) l) n = sumL (fun x => lvl (F x) n) l
 | [] => lvl_z fun _ _ => rfl
 | x :: l => by
   rw [sumL, ← lvl_sum (l := l), ← lvl_add]
   exact lvl_congr fun i _ => rfl
theorem lvl_list {α : Type} [Inhabited α] {F : α → Int} : ∀ {l : List α}, lvl (fun i => F (l.getD i default)) l.length = sumL F l := fun {l} => by
 have main : ∀ k, k ≤ l.length → lvl (fun i => F (l.getD i default)) k = capS F l k := fun k => by
   induction k with
   | zero => intro _; rfl
   | succ k ih =>
     intro hk
     have hx : l[k]? = some l[k] := List.getElem?_eq_getElem (by omega)
     rw [lvl, ih (by omega), capS_s hx, List.getD_eq_getElem?_getD, hx]; rfl
 rw [main _ (Nat.le_refl _), sumL_cap]
end
theorem tab_sum {α : Type} {A : α → Nat → Nat → Bool} {c : α → Int} {l : List α} {p d : Nat} : tab A c l l.length p d = sumL (fun x => if A x p d = true then c x else 0) l := sumL_cap
/-- What a table says where φ holds is what the list says of those that φ holds of. -/
theorem dbl {α : Type} {A : α → Nat → Nat → Bool} {c : α → Int} {l : List α} {φ : Nat → Nat → Bool} {P D : Nat} (px dx : α → Nat) (hA : ∀ x ∈ l, ∀ p d, A x p d = true ↔ p = px x ∧ d = dx x) (hP : ∀ x ∈ l, px x < P ∧ dx x < D) :
   lvl (fun p => lvl (fun d => if φ p d = true then tab A c l l.length p d else 0) D) P = sumL (fun x => if φ (px x) (dx x) = true then c x else 0) l := by
 have h1 : ∀ p d, (if φ p d = true then tab A c l l.length p d else 0) = sumL (fun x => if φ p d = true then (if A x p d = true then c x else 0) else 0) l := fun p d => by
   by_cases h : φ p d = true
   · rw [if_pos h, tab_sum]; exact sumL_congr fun x _ => (if_pos h).symm
   · rw [if_neg h]; exact (sumL_z fun x _ => if_neg h).symm
 have h2 : lvl (fun p => lvl (fun d => if φ p d = true then tab A c l l.length p d else 0) D) P = lvl (fun p => sumL (fun x => lvl (fun d => if φ p d = true then (if A x p d = true then c x else 0) else 0) D) l) P :=
   lvl_congr fun p _ => by rw [← lvl_sum]; exact lvl_congr fun d _ => h1 p d
 rw [h2, lvl_sum]
 refine sumL_congr fun x hx => ?_
 have h3 : ∀ p, lvl (fun d => if φ p d = true then (if A x p d = true then c x else 0) else 0) D = if p = px x then (if φ (px x) (dx x) = true then c x else 0) else 0 := fun p => by
   by_cases e : p = px x
   · rw [if_pos e]
     subst e
     have h4 : lvl (fun d => if φ (px x) d = true then (if A x (px x) d = true then c x else 0) else 0) D = lvl (fun d => if d = dx x then (if φ (px x) (dx x) = true then c x else 0) else 0) D := lvl_congr fun d _ => by
       by_cases e2 : d = dx x
       · subst e2; rw [if_pos rfl, if_pos ((hA x hx _ _).2 ⟨rfl, rfl⟩)]
       · rw [if_neg e2, if_neg (fun q => e2 ((hA x hx _ _).1 q).2)]; split <;> rfl
     rw [h4, lvl_ind, if_pos (hP x hx).2]
   · rw [if_neg e]
     exact lvl_z fun d _ => by
       rw [if_neg (fun q => e ((hA x hx _ _).1 q).1)]; split <;> rfl
 rw [lvl_congr fun p _ => h3 p, lvl_ind, if_pos (hP x hx).1]
/-! ### What trips meet is no more than a cut is worth -/
theorem tripE_inv {t : Traffic} {l : List Trip} {m : Int} (h : tripE t l = (m, 0)) : (l.length : Int) ≤ 2000 ∧ feL (trF t) l = 0 ∧ limB t l = false ∧ stkB t l = false ∧ m = metV t l := by
 rw [tripE] at h
 split at h
 · cases h
 rename_i h1
 split at h
 · rename_i h2
   have h3 := (Prod.mk.inj h).2
   exact absurd h3 h2
 rename_i h2
 split at h
 · cases h
 rename_i h3
 split at h
 · cases h
 rename_i h4
 exact ⟨by omega, Classical.byContradiction h2, by simpa using h3, by simpa using h4, (Prod.mk.inj h).1.symm⟩
theorem cutV_inv {t : Traffic} {c : List At} {k : Int} (h : cutV t c = (k, 0)) : cutE t c = 0 ∧ c.any (gapB t c) = false ∧ k = cutS t c := by
 rw [cutV] at h
 split at h
 · rename_i h2
   exact absurd (Prod.mk.inj h).2 h2
 rename_i h2
 split at h
 · cases h
 rename_i h3
 exact ⟨Classical.byContradiction h2, by simpa using h3, (Prod.mk.inj h).1.symm⟩
theorem tk_le {L N : Nat → Int} {D : Nat} (hL : ∀ d, d < D → 0 ≤ L d) : ∀ {d : Nat}, d < D → tkN L N D (d + 1) ≤ mnF L d (D - 1 - d)
 | 0, hd => by
   obtain ⟨k, h1, h2⟩ := mnF_mem (L := L) (d := 0) (n := D - 1 - 0)
   have h3 := hL (0 + k) (by omega)
   rw [tkN, tkN]; omega
 | d + 1, hd => by
   have h1 := tk_le (N := N) hL (d := d) (by omega)
   have h2 : mnF L d (D - 1 - d) ≤ mnF L (d + 1) (D - 1 - (d + 1)) := by
     rw [show D - 1 - d = (D - 1 - (d + 1)) + 1 by omega, mnF]
     exact Int.min_le_right _ _
   rw [tkN]; omega
theorem tk_thr {L N : Nat → Int} {D th : Nat} (hth : th ≤ D) (hL : ∀ d, d < D → 0 ≤ L d) {z : Int} (hz : z = 0 ∧ th = 0 ∨ ∃ e, th = e + 1 ∧ z = L e) : tkN L N D D ≤ z + lvl (fun d => if th ≤ d then N d else 0) D := by
 have h1 : tkN L N D th ≤ z := by
   rcases hz with ⟨rfl, rfl⟩ | ⟨e, rfl, rfl⟩
   · rw [tkN]; exact Int.le_refl _
   · have h2 := tk_le (N := N) hL (d := e) (by omega)
     have h3 := mnF_le (L := L) (d := e) (n := D - 1 - e) (k := 0) (by omega)
     rw [Nat.add_zero] at h3; omega
 have h0 : lvl (fun d => if th ≤ d then N d else 0) th = 0 := lvl_z fun i hi => if_neg (by omega)
 have main : ∀ n, tkN L N D (th + n) ≤ z + lvl (fun d => if th ≤ d then N d else 0) (th + n) := fun n => by
   induction n with
   | zero => rw [Nat.add_zero, h0]; omega
   | succ n ih => rw [← Nat.add_assoc, tkN, lvl, if_pos (by omega)]; omega
 have := main (D - th)
 rwa [show th + (D - th) = D by omega] at this
def inC (c : List At) (p d : Nat) : Bool := decide ((⟨(p : Int), (d : Int)⟩ : At) ∈ c)
theorem thr_ex {I : Nat → Bool} {D : Nat} (h : ∀ d, d + 1 < D → I d = true → I (d + 1) = true) : ∃ th, th ≤ D ∧ ∀ d, d < D → (I d = true ↔ th ≤ d) := by
 have main : ∀ n, n ≤ D → ∃ th, th ≤ n ∧ ∀ d, d < n → (I d = true ↔ th ≤ d) := fun n => by
   induction n with
   | zero => exact fun _ => ⟨0, Nat.le_refl _, fun d hd => absurd hd (Nat.not_lt_zero _)⟩
   | succ n ih =>
     intro hn
     obtain ⟨th, h1, h2⟩ := ih (by omega)
     by_cases e : th < n
     · refine ⟨th, by omega, fun d hd => ?_⟩
       by_cases e2 : d = n
       · subst e2
         refine ⟨fun _ => by omega, fun _ => ?_⟩
         have h3 := h (d - 1) (by omega) ((h2 (d - 1) (by omega)).2 (by omega))
         rwa [show d - 1 + 1 = d by omega] at h3
       · exact h2 d (by omega)
     · have e3 : th = n := by omega
       by_cases e4 : I n = true
       · refine ⟨n, by omega, fun d hd => ?_⟩
         by_cases e2 : d = n
         · subst e2; exact ⟨fun _ => Nat.le_refl _, fun _ => e4⟩
         · rw [h2 d (by omega)]; omega
       · refine ⟨n + 1, Nat.le_refl _, fun d hd => ?_⟩
         by_cases e2 : d = n
         · subst e2; exact ⟨fun q => absurd q e4, fun q => by omega⟩
         · rw [h2 d (by omega)]; omega
 exact main D (Nat.le_refl _)
theorem gap_up {t : Traffic} {c : List At} (hc : cutE t c = 0) (hg : c.any (gapB t c) = false) {p d : Nat} (hd : ((d + 1 : Nat) : Int) < t.days) (h : inC c p d = true) : inC c p (d + 1) = true := by
 rw [List.any_eq_false] at hg
 have h1 := hg _ (of_decide_eq_true h)
 rw [gapB] at h1
 simp only [Bool.and_eq_true, decide_eq_true_eq, Bool.not_eq_true', decide_eq_false_iff_not, not_and, Decidable.not_not] at h1
 exact decide_eq_true (h1 hd)
section
variable {t : Traffic} {l : List Trip} {c : List At}
theorem inC_of {a b : Int} (h : 0 ≤ a) (h2 : 0 ≤ b) : inC c a.toNat b.toNat = decide ((⟨a, b⟩ : At) ∈ c) := by rw [inC, Int.toNat_of_nonneg h, Int.toNat_of_nonneg h2]
/-- Over a place: what is met there. -/
theorem place_le (hT : TrOK t) (hs : stkB t l = false) (hc : cutE t c = 0) (hg : c.any (gapB t c) = false) {p : Nat} (hp : p < t.places.toNat) :
   tkN (lvB t l p) (ndM t p) t.days.toNat t.days.toNat ≤ lvl (fun d => if (!inC c p d) = true then bkM t l l.length p d else 0) t.days.toNat + lvl (fun d => if inC c p d = true then ndM t p d else 0) t.days.toNat := by
 obtain ⟨th, h1, h2⟩ := thr_ex (I := inC c p) (D := t.days.toNat) (fun d hd h => gap_up hc hg (by omega) h)
 have hL : ∀ d, d < t.days.toNat → 0 ≤ lvB t l p d := fun d hd => Classical.byContradiction fun q => by
   have := stk_t hp hd (by omega) (l := l); rw [hs] at this; cases this
 have h3 : lvl (fun d => if (!inC c p d) = true then bkM t l l.length p d else 0) t.days.toNat = lvl (bkM t l l.length p) th := by
   rw [← lvl_cut (n := t.days.toNat) h1]
   refine lvl_congr fun d hd => ?_
   have h4 := h2 d hd
   by_cases e : d < th
   · rw [if_pos e, if_pos (by simp only [Bool.not_eq_true']; rw [Bool.eq_false_iff]; intro q; have := h4.1 q; omega)]
   · rw [if_neg e, if_neg (by rw [h4.2 (by omega)]; decide)]
 have h5 : lvl (fun d => if inC c p d = true then ndM t p d else 0) t.days.toNat = lvl (fun d => if th ≤ d then ndM t p d else 0) t.days.toNat := lvl_congr fun d hd => by
   by_cases e : th ≤ d
   · rw [if_pos e, if_pos ((h2 d hd).2 e)]
   · rw [if_neg e, if_neg (fun q => e ((h2 d hd).1 q))]
 rw [h3, h5]
 refine tk_thr h1 hL ?_
 cases th with
 | zero => exact .inl ⟨rfl, rfl⟩
 | succ e => exact .inr ⟨e, rfl, rfl⟩
theorem rt_sum (r : Route) : ∀ {k : Nat}, rtN c r k = lvl (fun d => dayC c r (d : Int)) k
 | 0 => rfl
 | k + 1 => by rw [rtN, lvl, rt_sum]
theorem weak (hT : TrOK t) {m k : Int} (ht : tripE t l = (m, 0)) (hk : cutV t c = (k, 0)) : m ≤ k := by
 obtain ⟨hl, htr, hli, hst, rfl⟩ := tripE_inv ht
 obtain ⟨hce, hg, rfl⟩ := cutV_inv hk
 have htx : ∀ x ∈ l, _ := fun x hx => trF_inv (feL_all htr x hx)
 have hA := hT.hA; have hB := hT.hB
 have h1 : metV t l ≤ lvl (fun p => lvl (fun d => if (!inC c p d) = true then bkM t l l.length p d else 0) t.days.toNat) t.places.toNat + lvl (fun p => lvl (fun d => if inC c p d = true then ndM t p d else 0) t.days.toNat) t.places.toNat := by
   rw [← lvl_add, metV]
   exact lvl_le fun p hp => place_le hT hst hce hg hp
 have h2 : ∀ p d, (if (!inC c p d) = true then bkM t l l.length p d else 0) = (if (!inC c p d) = true then spM t.supplies t.supplies.length p d else 0) + ((if (!inC c p d) = true then inM t l l.length p d else 0) - (if (!inC c p d) = true then goM t l l.length p d else 0)) := fun p d => by
   split
   · rw [bkM, coM]; omega
   · rfl
 have h3 : lvl (fun p => lvl (fun d => if (!inC c p d) = true then bkM t l l.length p d else 0) t.days.toNat) t.places.toNat
     = lvl (fun p => lvl (fun d => if (!inC c p d) = true then spM t.supplies t.supplies.length p d else 0) t.days.toNat) t.places.toNat
     + (lvl (fun p => lvl (fun d => if (!inC c p d) = true then inM t l l.length p d else 0) t.days.toNat) t.places.toNat
     - lvl (fun p => lvl (fun d => if (!inC c p d) = true then goM t l l.length p d else 0) t.days.toNat) t.places.toNat) := by
   rw [← lvl_sub, ← lvl_add]
   refine lvl_congr fun p _ => ?_
   rw [← lvl_sub, ← lvl_add]
   exact lvl_congr fun d _ => h2 p d
 have h4 : lvl (fun p => lvl (fun d => if (!inC c p d) = true then spM t.supplies t.supplies.length p d else 0) t.days.toNat) t.places.toNat = sumL (supC c) t.supplies := by
   refine (dbl (φ := fun p d => !inC c p d) (fun s : Supply => s.place.toNat) (fun s => s.day.toNat) (fun s hs => aS_iff (hT.sp s hs).1.1 (hT.sp s hs).2.1.1) (fun s hs => by have := hT.sp s hs; omega)).trans ?_
   refine sumL_congr fun s hs => ?_
   have := hT.sp s hs
   rw [inC_of (by omega) (by omega), supC]
   by_cases e : (⟨s.place, s.day⟩ : At) ∈ c
   · rw [if_pos e, if_neg (by simp [e])]
   · rw [if_neg e, if_pos (by simp [e])]
 have h5 : lvl (fun p => lvl (fun d => if inC c p d = true then ndM t p d else 0) t.days.toNat) t.places.toNat = sumL (needC c) t.needs := by
   refine (dbl (A := aS) (c := (·.count)) (φ := fun p d => inC c p d) (fun s : Supply => s.place.toNat) (fun s => s.day.toNat) (fun s hs => aS_iff (hT.nd s hs).1.1 (hT.nd s hs).2.1.1) (fun s hs => by have := hT.nd s hs; omega)).trans ?_
   refine sumL_congr fun s hs => ?_
   have := hT.nd s hs
   rw [inC_of (by omega) (by omega), needC]
   by_cases e : (⟨s.place, s.day⟩ : At) ∈ c
   · rw [if_pos e, if_pos (by simp [e])]
   · rw [if_neg e, if_neg (by simp [e])]
 have hrt : ∀ x ∈ l, ((0 ≤ (rtOf t x).fro ∧ (rtOf t x).fro ≤ t.places - 1) ∧ (0 ≤ (rtOf t x).til ∧ (rtOf t x).til ≤ t.places - 1) ∧ (1 ≤ (rtOf t x).days ∧ (rtOf t x).days ≤ 20)) := fun x hx => by
   obtain ⟨r, h6, h7, h8⟩ := rt_ex (htx x hx).1
   have h9 := hT.rt r h8
   rw [h7]; exact ⟨h9.1, h9.2.1, h9.2.2.2.1⟩
 have h6 : lvl (fun p => lvl (fun d => if (!inC c p d) = true then inM t l l.length p d else 0) t.days.toNat) t.places.toNat = sumL (fun x : Trip => if (!decide ((⟨(rtOf t x).til, x.day + (rtOf t x).days⟩ : At) ∈ c)) = true then x.count else 0) l := by
   refine (dbl (φ := fun p d => !inC c p d) (fun x : Trip => (rtOf t x).til.toNat) (fun x => (x.day + (rtOf t x).days).toNat) (fun x hx => aI_iff rfl (hrt x hx).2.1.1 (by have := hrt x hx; have := htx x hx; omega)) (fun x hx => by have := hrt x hx; have := htx x hx; omega)).trans ?_
   refine sumL_congr fun x hx => ?_
   have := hrt x hx; have := htx x hx
   rw [inC_of (by omega) (by omega)]
 have h7 : lvl (fun p => lvl (fun d => if (!inC c p d) = true then goM t l l.length p d else 0) t.days.toNat) t.places.toNat = sumL (fun x : Trip => if (!decide ((⟨(rtOf t x).fro, x.day⟩ : At) ∈ c)) = true then x.count else 0) l := by
   refine (dbl (φ := fun p d => !inC c p d) (fun x : Trip => (rtOf t x).fro.toNat) (fun x => x.day.toNat) (fun x hx => aG_iff rfl (hrt x hx).1.1 (by have := htx x hx; omega)) (fun x hx => by have := hrt x hx; have := htx x hx; omega)).trans ?_
   refine sumL_congr fun x hx => ?_
   have := hrt x hx; have := htx x hx
   rw [inC_of (by omega) (by omega)]
 have h8 : sumL (fun x : Trip => if (!decide ((⟨(rtOf t x).til, x.day + (rtOf t x).days⟩ : At) ∈ c)) = true then x.count else 0) l - sumL (fun x : Trip => if (!decide ((⟨(rtOf t x).fro, x.day⟩ : At) ∈ c)) = true then x.count else 0) l
     ≤ sumL (fun x : Trip => if (fun (i d : Nat) => decide ((⟨(t.routes.getD i default).fro, (d : Int)⟩ : At) ∈ c ∧ ¬ (⟨(t.routes.getD i default).til, (d : Int) + (t.routes.getD i default).days⟩ : At) ∈ c)) x.route.toNat x.day.toNat = true then x.count else 0) l := by
   rw [← sumL_sub]
   refine sumL_le fun x hx => ?_
   have h9 := (htx x hx)
   have h10 : 0 ≤ x.count := by omega
   simp only [decide_eq_true_eq, Bool.not_eq_true', decide_eq_false_iff_not]
   rw [Int.toNat_of_nonneg h9.2.1.1]
   change (if (⟨(rtOf t x).til, x.day + (rtOf t x).days⟩ : At) ∉ c then x.count else 0) - (if (⟨(rtOf t x).fro, x.day⟩ : At) ∉ c then x.count else 0) ≤ (if (⟨(rtOf t x).fro, x.day⟩ : At) ∈ c ∧ (⟨(rtOf t x).til, x.day + (rtOf t x).days⟩ : At) ∉ c then x.count else 0)
   by_cases e1 : (⟨(rtOf t x).til, x.day + (rtOf t x).days⟩ : At) ∈ c <;> by_cases e2 : (⟨(rtOf t x).fro, x.day⟩ : At) ∈ c <;> simp [e1, e2] <;> omega
 have h9 : sumL (fun x : Trip => if (fun (i d : Nat) => decide ((⟨(t.routes.getD i default).fro, (d : Int)⟩ : At) ∈ c ∧ ¬ (⟨(t.routes.getD i default).til, (d : Int) + (t.routes.getD i default).days⟩ : At) ∈ c)) x.route.toNat x.day.toNat = true then x.count else 0) l ≤ sumL (rtC t c) t.routes := by
   rw [← dbl (A := aU) (c := (·.count)) (P := t.routes.length) (D := t.days.toNat) (φ := fun (i d : Nat) => decide ((⟨(t.routes.getD i default).fro, (d : Int)⟩ : At) ∈ c ∧ ¬ (⟨(t.routes.getD i default).til, (d : Int) + (t.routes.getD i default).days⟩ : At) ∈ c)) (fun x : Trip => x.route.toNat) (fun x => x.day.toNat) (fun x hx => aU_iff (htx x hx).1.1 (htx x hx).2.1.1) (fun x hx => by have := htx x hx; omega), ← lvl_list (F := rtC t c)]
   refine lvl_le fun i hi => ?_
   have hri : t.routes.getD i default = t.routes[i] := by rw [List.getD_eq_getElem?_getD, List.getElem?_eq_getElem hi]; rfl
   have hrm := hT.rt t.routes[i] (List.getElem_mem hi)
   rw [rtC, rt_sum, ← lvl_cut (f := fun d => dayC c (t.routes.getD i default) (d : Int)) (k := (t.days - (t.routes.getD i default).days).toNat) (n := t.days.toNat) (by rw [hri]; omega)]
   refine lvl_le fun d hd => ?_
   have hus : usM l l.length i d ≤ (t.routes.getD i default).most := Classical.byContradiction fun q => by
     have := lim_t (l := l) hi hd (by omega); rw [hli] at this; cases this
   have hus0 : 0 ≤ usM l l.length i d := (us_b (k := l.length) (fun y hy => by have := (htx y hy).2.2.2; omega) (Nat.le_refl _) i d).1
   have h10 : 0 ≤ dayC c (t.routes.getD i default) (d : Int) := (dayC_b (by rw [hri]; exact hrm.2.2.2.2)).1
   by_cases e : d < (t.days - (t.routes.getD i default).days).toNat
   · rw [if_pos e]
     by_cases e2 : (⟨(t.routes.getD i default).fro, (d : Int)⟩ : At) ∈ c ∧ ¬ (⟨(t.routes.getD i default).til, (d : Int) + (t.routes.getD i default).days⟩ : At) ∈ c
     · rw [if_pos (decide_eq_true e2), dayC, if_pos e2]; exact hus
     · rw [if_neg (by rw [decide_eq_false e2]; decide)]; exact h10
   · rw [if_neg e]
     have h11 : usM l l.length i d = 0 := by
       have h12 : usM l l.length i d = _ := tab_sum
       rw [h12]
       refine sumL_z fun x hx => if_neg fun q => ?_
       have h13 := htx x hx
       obtain ⟨q1, q2⟩ := (aU_iff h13.1.1 h13.2.1.1 i d).1 q
       have h14 : rtOf t x = t.routes.getD i default := by rw [rtOf, q1]
       rw [h14] at h13; omega
     split
     · exact Int.le_of_eq h11
     · exact Int.le_refl _
 have h10 : cutS t c = sumL (supC c) t.supplies + sumL (needC c) t.needs + sumL (rtC t c) t.routes := by rw [cutS, sumL_cap, sumL_cap, sumL_cap]
 rw [h10]; rw [h3, h4, h5, h6, h7] at h1; omega
end

end Go.Proofs.Ytigdmkhdmbbfiaa
