import Derived.Test.YtjmjiegplnfiiaaShB
import Derived.Test.YtjmjiegplnfiiaaLayA
import Derived.Test.YtjmjiegplnfiiaaWkA
import Derived.Test.YtjmjiegplnfiiaaAccA
/- The longest chain: plain laws. No conditions. -/
set_option linter.unusedSimpArgs false
set_option linter.unusedVariables false
namespace Go.Proofs.Ytjmjiegplnfiiaa
open Go Go.Pv

def mx1 (x : Nat) (d : List Int) (z : Int) : List Int := d.set x (max (at0 d x) (at0 d z.toNat))
def stepM (d : List Int) (x : Nat) (l : List Int) : List Int := l.foldl (mx1 x) d
def minA (xs : List Task) (x : Nat) : Int := (xs.getD x default).minutes
def rndT (xs : List Task) (d : List Int) (x : Nat) : List Int := (stepM d x (usR (ndX xs) (x : Int))).set x (at0 (stepM d x (usR (ndX xs) (x : Int))) x + minA xs x)
def tlP (xs : List Task) : Nat → List Int
 | 0 => List.replicate xs.length 0
 | j + 1 => rndT xs (tlP xs j) (at0 (ordR (ndX xs)) ((ordR (ndX xs)).length - 1 - j)).toNat
theorem mx1_len {x : Nat} {d : List Int} {z : Int} : (mx1 x d z).length = d.length := by simp [mx1]
theorem stepM_len {x : Nat} : ∀ {l : List Int} {d : List Int}, (stepM d x l).length = d.length
 | [], d => rfl
 | z :: l, d => by
   show (stepM (mx1 x d z) x l).length = _
   rw [stepM_len, mx1_len]
theorem stepM_succ {x : Nat} {d l : List Int} {j : Nat} (hj : j < l.length) : stepM d x (l.take (j + 1)) = mx1 x (stepM d x (l.take j)) (at0 l j) := by
 rw [stepM, ← List.take_append_getElem hj, List.foldl_append, at0_elem hj]; rfl
theorem rndT_len {xs : List Task} {d : List Int} {x : Nat} : (rndT xs d x).length = d.length := by rw [rndT, List.length_set, stepM_len]
theorem tlP_len {xs : List Task} : ∀ {j : Nat}, (tlP xs j).length = xs.length
 | 0 => by simp [tlP]
 | j + 1 => by rw [tlP, rndT_len, tlP_len]
theorem mx1_b {b : Int} {d : List Int} {x : Nat} {z : Int} (h : InB b d) : InB b (mx1 x d z) := fun i => by
 by_cases hx : x < d.length
 · rw [mx1, at0_set hx]
   have h1 := h x; have h2 := h z.toNat; have h3 := h i
   split <;> omega
 · rw [mx1, List.set_eq_of_length_le (by omega)]; exact h i
theorem stepM_b {x : Nat} {b : Int} : ∀ {l : List Int} {d : List Int}, InB b d → InB b (stepM d x l)
 | [], d, h => h
 | z :: l, d, h => stepM_b (l := l) (mx1_b h)
theorem rndT_b {xs : List Task} {b : Int} {d : List Int} {x : Nat} (h : InB b d) (hm : 0 ≤ minA xs x ∧ minA xs x ≤ 10000) : InB (b + 10000) (rndT xs d x) := fun i => by
 have h1 := stepM_b (x := x) (l := usR (ndX xs) (x : Int)) h
 have h2 := h1 x; have h3 := h1 i
 by_cases hx : x < d.length
 · rw [rndT, at0_set (by rw [stepM_len]; exact hx)]
   split <;> omega
 · rw [rndT, List.set_eq_of_length_le (by rw [stepM_len]; omega)]; omega
theorem minA_b {xs : List Task} (h : planE xs = 0) (x : Nat) : 0 ≤ minA xs x ∧ minA xs x ≤ 10000 := by
 rcases Nat.lt_or_ge x xs.length with hx | hx
 · have := task_ok h (List.getElem?_eq_getElem hx)
   have e : minA xs x = (xs[x]).minutes := by rw [minA, List.getD_eq_getElem?_getD, List.getElem?_eq_getElem hx]; rfl
   rw [e]; exact this.1.2.2
 · have e : minA xs x = (default : Task).minutes := by rw [minA, List.getD_eq_getElem?_getD, List.getElem?_eq_none hx]; rfl
   rw [e]; decide
theorem tlP_b {xs : List Task} (h : planE xs = 0) : ∀ j : Nat, InB (j * 10000) (tlP xs j)
 | 0 => InB.zero.le (by omega)
 | j + 1 => by
   have h1 := rndT_b (x := (at0 (ordR (ndX xs)) ((ordR (ndX xs)).length - 1 - j)).toNat) (tlP_b h j) (minA_b h _)
   exact h1.le (by omega)
theorem stepM_far {x : Nat} : ∀ {l d : List Int}, (∀ z ∈ l, z.toNat ≠ x) → x < d.length → (∀ y, y ≠ x → at0 (stepM d x l) y = at0 d y) ∧ (at0 (stepM d x l) x = at0 d x ∨ ∃ z ∈ l, at0 (stepM d x l) x = at0 d z.toNat) ∧ at0 d x ≤ at0 (stepM d x l) x ∧ ∀ z ∈ l, at0 d z.toNat ≤ at0 (stepM d x l) x
 | [], d, _, _ => ⟨fun _ _ => rfl, .inl rfl, Int.le_refl _, fun z hz => by cases hz⟩
 | z :: l, d, h, hx => by
   obtain ⟨g1, g2, g3, g4⟩ := stepM_far (l := l) (d := mx1 x d z) (fun w hw => h w (List.mem_cons_of_mem _ hw)) (by rw [mx1_len]; exact hx)
   have hs : ∀ y, y ≠ x → at0 (mx1 x d z) y = at0 d y := fun y hy => by rw [mx1, at0_set hx, if_neg (fun e => hy e.symm)]
   have hsx : at0 (mx1 x d z) x = max (at0 d x) (at0 d z.toNat) := by rw [mx1, at0_set hx, if_pos rfl]
   have hc : stepM d x (z :: l) = stepM (mx1 x d z) x l := rfl
   rw [hc]
   refine ⟨fun y hy => (g1 y hy).trans (hs y hy), ?_, by omega, fun w hw => ?_⟩
   · rcases g2 with e | ⟨w, hw, e⟩
     · by_cases hm : at0 d x ≤ at0 d z.toNat
       · exact .inr ⟨z, List.mem_cons_self .., by omega⟩
       · exact .inl (by omega)
     · exact .inr ⟨w, List.mem_cons_of_mem _ hw, by rw [e, hs _ (h w (List.mem_cons_of_mem _ hw))]⟩
   · rcases List.mem_cons.1 hw with rfl | hw
     · omega
     · have := g4 w hw
       rw [hs _ (h w (List.mem_cons_of_mem _ hw))] at this; exact this

/-! ### Orders -/
section
variable {nd : List (List Int)} {O : List Int}
theorem mem_dropA {m : Nat} {z : Int} : z ∈ O.drop m ↔ ∃ q, m ≤ q ∧ q < O.length ∧ at0 O q = z := by
 constructor
 · intro h
   obtain ⟨i, hi⟩ := List.getElem?_of_mem h
   rw [List.getElem?_drop] at hi
   obtain ⟨h1, h2⟩ := List.getElem?_eq_some_iff.1 hi
   exact ⟨m + i, by omega, h1, by rw [← at0_elem h1, h2]⟩
 · rintro ⟨q, h1, h2, rfl⟩
   refine List.mem_of_getElem? (i := q - m) ?_
   rw [List.getElem?_drop, show m + (q - m) = q by omega]
   exact at0_get h2
theorem AccOK.inj (h : AccOK nd O) {p q : Nat} (hp : p < O.length) (hq : q < O.length) (e : at0 O p = at0 O q) : p = q := by
 rcases Nat.lt_trichotomy p q with h1 | h1 | h1
 · exact absurd e (h.ne h1 hq)
 · exact h1
 · exact absurd e.symm (h.ne h1 hp)
theorem us_later (h : AccOK nd O) (hl : nd.length ≤ O.length) {p : Nat} (hp : p < O.length) {z : Int} (hz : z ∈ usR nd (at0 O p)) : z ∈ O.drop (p + 1) := by
 obtain ⟨i, rfl, hi, hx⟩ := usR_rng hz
 obtain ⟨q, hq, e⟩ := mem_at0 (h.all hl hi)
 have h1 := (acE_iff.1 (h q hq)).2.2
 rw [e, Int.toNat_natCast] at h1
 obtain ⟨r, hr, hr2, e2⟩ := mem_take.1 (h1 _ hx)
 have := h.inj hr2 hp e2
 exact mem_dropA.2 ⟨q, by omega, hq, e⟩
end

/-! ### Tails -/
structure TI (xs : List Task) (O : List Int) (j : Nat) (d : List Int) : Prop where
 len : d.length = xs.length
 no : ∀ x : Nat, x < xs.length → (x : Int) ∉ O.drop (O.length - j) → at0 d x = 0
 le : ∀ x : Nat, x < xs.length → (x : Int) ∈ O.drop (O.length - j) → ∀ k ∈ usR (ndX xs) (x : Int), minA xs x + at0 d k.toNat ≤ at0 d x
 mn : ∀ x : Nat, x < xs.length → (x : Int) ∈ O.drop (O.length - j) → minA xs x ≤ at0 d x
 eq : ∀ x : Nat, x < xs.length → (x : Int) ∈ O.drop (O.length - j) → at0 d x = minA xs x ∨ ∃ k ∈ usR (ndX xs) (x : Int), at0 d x = minA xs x + at0 d k.toNat
theorem TI.zero {xs : List Task} {O : List Int} : TI xs O 0 (List.replicate xs.length 0) := by
 refine ⟨by simp, fun x hx _ => ?_, fun x _ h => ?_, fun x _ h => ?_, fun x _ h => ?_⟩
 · simp [at0, List.getElem?_replicate, hx]
 all_goals (rw [Nat.sub_zero, List.drop_length] at h; cases h)
theorem TI.step {xs : List Task} {O : List Int} {j : Nat} {d : List Int} (h : TI xs O j d) (hO : AccOK (ndX xs) O) (hl : xs.length ≤ O.length) (hj : j < O.length) : TI xs O (j + 1) (rndT xs d (at0 O (O.length - 1 - j)).toNat) := by
 have hnl : (ndX xs).length = xs.length := ndX_len
 generalize hp : O.length - 1 - j = p
 have hpl : p < O.length := by omega
 have e1 : O.length - j = p + 1 := by omega
 have e2 : O.length - (j + 1) = p := by omega
 have hr := hO.rng _ (at0_mem hpl)
 rw [hnl] at hr
 obtain ⟨X, hX⟩ : ∃ X : Nat, at0 O p = (X : Int) := ⟨(at0 O p).toNat, by omega⟩
 have hXn : X < xs.length := by omega
 rw [hX, Int.toNat_natCast]
 have hdr : ∀ z : Int, z ∈ O.drop p ↔ z = (X : Int) ∨ z ∈ O.drop (p + 1) := fun z => by
   rw [List.drop_eq_getElem_cons hpl, List.mem_cons, at0_elem hpl, hX]
 have hXno : (X : Int) ∉ O.drop (p + 1) := fun q => by
   obtain ⟨r, h1, h2, h3⟩ := mem_dropA.1 q
   have := hO.inj h2 hpl (h3.trans hX.symm)
   omega
 have hus : ∀ q : Nat, q < O.length → p ≤ q → ∀ z ∈ usR (ndX xs) (at0 O q), z.toNat ≠ X := fun q hq hpq z hz e => by
   have h1 := us_later hO (by rw [hnl]; exact hl) hq hz
   obtain ⟨r, h2, h3, h4⟩ := mem_dropA.1 h1
   have h5 := hO.rng z (List.mem_of_mem_drop h1)
   have : z = (X : Int) := by omega
   exact hXno (mem_dropA.2 ⟨r, by omega, h3, h4.trans this⟩)
 have hd := h.len
 obtain ⟨g1, g2, g3, g4⟩ := stepM_far (x := X) (l := usR (ndX xs) (X : Int)) (d := d) (fun z hz => hus p hpl (Nat.le_refl _) z (by rw [hX]; exact hz)) (by omega)
 have hX0 : at0 d X = 0 := h.no X hXn (by rw [e1]; exact hXno)
 have hv : ∀ y, y ≠ X → at0 (rndT xs d X) y = at0 d y := fun y hy => by
   rw [rndT, at0_set (by rw [stepM_len]; omega), if_neg (fun e => hy e.symm), g1 y hy]
 have hvX : at0 (rndT xs d X) X = at0 (stepM d X (usR (ndX xs) (X : Int))) X + minA xs X := by
   rw [rndT, at0_set (by rw [stepM_len]; omega), if_pos rfl]
 have hno := h.no; have hle := h.le; have hmn := h.mn; have heq := h.eq
 rw [e1] at hno hle hmn heq
 have husx : ∀ x : Nat, (x : Int) ∈ O.drop (p + 1) → ∀ k ∈ usR (ndX xs) (x : Int), k.toNat ≠ X := fun x hx k hk => by
   obtain ⟨q, h1, h2, h3⟩ := mem_dropA.1 hx
   exact hus q h2 (by omega) k (by rw [h3]; exact hk)
 refine ⟨by rw [rndT_len, hd], fun x hx hn => ?_, fun x hx hm k hk => ?_, fun x hx hm => ?_, fun x hx hm => ?_⟩
 · rw [e2, hdr] at hn
   rw [hv x (fun e => hn (.inl (by rw [e])))]
   exact hno x hx (fun q => hn (.inr q))
 all_goals (rw [e2, hdr] at hm)
 · rcases hm with hm | hm
   · have : x = X := by omega
     subst this
     have h1 := hus p hpl (Nat.le_refl _) k (by rw [hX]; exact hk)
     rw [hvX, hv _ h1]
     have := g4 k hk
     omega
   · have hxX : x ≠ X := fun e => hXno (e ▸ hm)
     rw [hv x hxX, hv _ (husx x hm k hk)]; exact hle x hx hm k hk
 · rcases hm with hm | hm
   · have : x = X := by omega
     subst this
     rw [hvX]; omega
   · have hxX : x ≠ X := fun e => hXno (e ▸ hm)
     rw [hv x hxX]; exact hmn x hx hm
 · rcases hm with hm | hm
   · have : x = X := by omega
     subst this
     rw [hvX]
     rcases g2 with e | ⟨z, hz, e⟩
     · exact .inl (by omega)
     · exact .inr ⟨z, hz, by rw [e, hv _ (hus p hpl (Nat.le_refl _) z (by rw [hX]; exact hz))]; omega⟩
   · have hxX : x ≠ X := fun e => hXno (e ▸ hm)
     rw [hv x hxX]
     rcases heq x hx hm with e | ⟨z, hz, e⟩
     · exact .inl e
     · exact .inr ⟨z, hz, by rw [e, hv _ (husx x hm z hz)]⟩
theorem tl_TI {xs : List Task} (hO : AccOK (ndX xs) (ordR (ndX xs))) (hl : xs.length ≤ (ordR (ndX xs)).length) : ∀ j, j ≤ (ordR (ndX xs)).length → TI xs (ordR (ndX xs)) j (tlP xs j)
 | 0, _ => TI.zero
 | j + 1, hj => (tl_TI hO hl j (by omega)).step hO hl (by omega)
def TL (xs : List Task) : List Int := tlP xs (ordR (ndX xs)).length

/-! ### The chain -/
def lft (xs : List Task) (d : List Int) (x : Int) : Int := at0 d x.toNat - minA xs x.toNat
def nxtC (xs : List Task) (d : List Int) (x : Int) : Int := ((usR (ndX xs) x).find? fun k => decide (at0 d k.toNat = lft xs d x)).getD 0
inductive ChC (xs : List Task) (d : List Int) : Int → List Int → Prop
 | stop {x : Int} (h : ¬ 0 < lft xs d x) : ChC xs d x [x]
 | go {x : Int} {l : List Int} (h : 0 < lft xs d x) (hc : ChC xs d (nxtC xs d x) l) : ChC xs d x (x :: l)
structure TF (xs : List Task) (d : List Int) : Prop where
 len : d.length = xs.length
 le : ∀ x : Nat, x < xs.length → ∀ k ∈ usR (ndX xs) (x : Int), minA xs x + at0 d k.toNat ≤ at0 d x
 mn : ∀ x : Nat, x < xs.length → minA xs x ≤ at0 d x
 eq : ∀ x : Nat, x < xs.length → at0 d x = minA xs x ∨ ∃ k ∈ usR (ndX xs) (x : Int), at0 d x = minA xs x + at0 d k.toNat
theorem tl_TF {xs : List Task} (hO : AccOK (ndX xs) (ordR (ndX xs))) (hl : xs.length ≤ (ordR (ndX xs)).length) : TF xs (TL xs) := by
 have h := tl_TI hO hl _ (Nat.le_refl _)
 have hm : ∀ x : Nat, x < xs.length → (x : Int) ∈ (ordR (ndX xs)).drop ((ordR (ndX xs)).length - (ordR (ndX xs)).length) := fun x hx => by
   rw [Nat.sub_self, List.drop_zero]; exact hO.all (by rw [ndX_len]; exact hl) (by rw [ndX_len]; exact hx)
 exact ⟨h.len, fun x hx => h.le x hx (hm x hx), fun x hx => h.mn x hx (hm x hx), fun x hx => h.eq x hx (hm x hx)⟩
theorem nxt_ok {xs : List Task} {d : List Int} (h : TF xs d) {x : Nat} (hx : x < xs.length) (hl : 0 < lft xs d (x : Int)) : nxtC xs d (x : Int) ∈ usR (ndX xs) (x : Int) ∧ at0 d (nxtC xs d (x : Int)).toNat = lft xs d (x : Int) := by
 have hl' : lft xs d (x : Int) = at0 d x - minA xs x := rfl
 rcases h.eq x hx with e | ⟨k, hk, e⟩
 · omega
 · cases q : (usR (ndX xs) (x : Int)).find? fun k => decide (at0 d k.toNat = lft xs d (x : Int)) with
   | none =>
     rw [List.find?_eq_none] at q
     exact absurd (decide_eq_true (show at0 d k.toNat = lft xs d (x : Int) by omega)) (q k hk)
   | some y =>
     have h1 := List.mem_of_find?_eq_some q
     have h2 : at0 d y.toNat = lft xs d (x : Int) := by have := List.find?_some q; simpa using this
     rw [nxtC, q]; exact ⟨h1, h2⟩
theorem ch_ex {xs : List Task} {d : List Int} {O : List Int} (h : TF xs d) (hO : AccOK (ndX xs) O) (hl : xs.length ≤ O.length) : ∀ (m q : Nat), q < O.length → O.length - q ≤ m → ∃ l, ChC xs d (at0 O q) l
 | 0, q, h1, h2 => by omega
 | m + 1, q, h1, h2 => by
   have hr := hO.rng _ (at0_mem h1)
   rw [ndX_len] at hr
   by_cases hp : 0 < lft xs d (at0 O q)
   · obtain ⟨X, hX⟩ : ∃ X : Nat, at0 O q = (X : Int) := ⟨(at0 O q).toNat, by omega⟩
     have h3 := (nxt_ok h (x := X) (by omega) (by rw [← hX]; exact hp)).1
     rw [← hX] at h3
     obtain ⟨r, h4, h5, h6⟩ := mem_dropA.1 (us_later hO (by rw [ndX_len]; exact hl) h1 h3)
     obtain ⟨l, hc⟩ := ch_ex h hO hl m r h5 (by omega)
     exact ⟨_, .go hp (h6 ▸ hc)⟩
   · exact ⟨_, .stop hp⟩
open Classical in
noncomputable def chnX (xs : List Task) (x : Int) : List Int := if h : ∃ l, ChC xs (TL xs) x l then h.choose else []
theorem chn_ok {xs : List Task} {x : Int} (h : ∃ l, ChC xs (TL xs) x l) : ChC xs (TL xs) x (chnX xs x) := by
 rw [chnX, dif_pos h]; exact h.choose_spec
def maxL (d : List Int) : Int := d.foldl max (at0 d 0)
theorem foldl_max : ∀ (l : List Int) (a : Int), a ≤ l.foldl max a ∧ (∀ z ∈ l, z ≤ l.foldl max a) ∧ (l.foldl max a = a ∨ l.foldl max a ∈ l)
 | [], a => ⟨Int.le_refl _, fun z hz => (by cases hz), .inl rfl⟩
 | x :: l, a => by
   obtain ⟨h1, h2, h3⟩ := foldl_max l (max a x)
   rw [List.foldl_cons]
   refine ⟨by omega, fun z hz => ?_, ?_⟩
   · rcases List.mem_cons.1 hz with rfl | hz
     · omega
     · exact h2 z hz
   · rcases h3 with h3 | h3
     · by_cases hc : a ≤ x
       · exact .inr (by rw [h3, show max a x = x by omega]; exact List.mem_cons_self ..)
       · exact .inl (by omega)
     · exact .inr (List.mem_cons_of_mem _ h3)
theorem maxL_at {d : List Int} (h : 0 < d.length) : maxL d ∈ d := by
 rcases (foldl_max d (at0 d 0)).2.2 with e | e
 · rw [maxL, e]; exact at0_mem h
 · exact e
def stX (xs : List Task) : Int := ixI (fun y => decide (maxL (TL xs) = y)) (TL xs)
noncomputable def crtX (xs : List Task) : Int × List Int × Int := if planE xs ≠ 0 then (0, [], planE xs) else if xs.length = 0 then (0, [], 0) else (maxL (TL xs), chnX xs (stX xs), 0)
end Go.Proofs.Ytjmjiegplnfiiaa

/- Few handlings, right schedules and long chains: plain laws. No conditions. -/
set_option linter.unusedSimpArgs false
set_option linter.unusedVariables false
namespace Go.Proofs.Ytjmjiegplnfiiaa
open Go Go.Pv

/-! ### The first order with the fewest handlings is an order -/
theorem grd_acc {xs : List Task} (h : planE xs = 0) (hn : xs.length ≤ 14) : ∀ i, i ≤ xs.length → AccOK (ndX xs) (grdF xs i).out ∧ setO (grdF xs i).out = (grdF xs i).a ∧ lstO (grdF xs i).out = (grdF xs i).l ∧ (grdF xs i).sum = hndK xs (grdF xs i).out (grdF xs i).out.length
 | 0, _ => ⟨AccOK.nil, rfl, rfl, rfl⟩
 | i + 1, hi => by
   obtain ⟨h1, h2, h3, h4⟩ := grd_acc h hn i (by omega)
   obtain ⟨_, _, _, _, _, h5⟩ := grd_step h hn i (by omega)
   obtain ⟨j, hj, hjn, hjc⟩ := h5 (by omega)
   have ho : ∀ z ∈ (grdF xs i).out, 0 ≤ z ∧ z < (xs.length : Int) := fun z hz => by have := h1.rng z hz; rw [ndX_len] at this; exact this
   have hr : rdyB (ndX xs) (grdF xs i).out j = true := by rw [rdy_can h hn ho hjn, h2]; exact hjc
   have h6 := hnd_app (xs := xs) (o := (grdF xs i).out) (k := j) fun z hz => (ho z hz).1
   simp only [grdF, hj, Int.toNat_natCast]
   refine ⟨h1.snoc (by rw [ndX_len]; exact hjn) hr, by rw [setO_app, h2], lstO_app, ?_⟩
   rw [h6, h4, h3]
theorem few_order {xs : List Task} (h : planE xs = 0) (hn : xs.length ≤ 14) : fewR xs = ((grdF xs xs.length).out, (grdF xs xs.length).sum, 0) ∧ AccOK (ndX xs) (grdF xs xs.length).out ∧ (grdF xs xs.length).out.length = xs.length ∧ (grdF xs xs.length).sum = hndK xs (grdF xs xs.length).out (grdF xs xs.length).out.length := by
 obtain ⟨h1, _, _, h4⟩ := grd_acc h hn _ (Nat.le_refl _)
 obtain ⟨_, _, _, _, h5, _⟩ := grd_step h hn _ (Nat.le_refl _)
 refine ⟨?_, h1, h5, h4⟩
 rw [fewR, if_neg]
 rw [smallE, if_neg (fun q => q h), if_neg (by omega)]
 exact fun q => q rfl
theorem acc_fullX {xs : List Task} {o : List Int} (h : AccOK (ndX xs) o) (hl : o.length = xs.length) : accR (ndX xs) o = (-1, 0) := acc_ok h (Nat.le_refl _) (by rw [ndX_len]; omega)

/-! ### Places -/
def plL (xs : List Task) : Nat → List Int
 | 0 => []
 | k + 1 => if hasI (plL xs k) (plc xs (k : Int)) = true then plL xs k else plL xs k ++ [plc xs (k : Int)]
theorem plL_ok {xs : List Task} : ∀ k, (plL xs k).Nodup ∧ (plL xs k).length ≤ k ∧ ∀ z ∈ plL xs k, ∃ i : Nat, i < k ∧ plc xs (i : Int) = z
 | 0 => ⟨List.nodup_nil, Nat.le_refl _, fun z hz => by cases hz⟩
 | k + 1 => by
   obtain ⟨h1, h2, h3⟩ := plL_ok (xs := xs) k
   rw [plL]
   split
   · exact ⟨h1, by omega, fun z hz => by obtain ⟨i, hi, e⟩ := h3 z hz; exact ⟨i, by omega, e⟩⟩
   · rename_i hno
     have hn : plc xs (k : Int) ∉ plL xs k := fun q => hno (decide_eq_true q)
     refine ⟨?_, by rw [List.length_append, List.length_singleton]; omega, fun z hz => ?_⟩
     · rw [List.nodup_append]
       refine ⟨h1, by simp, fun a ha b hb e => ?_⟩
       rw [List.mem_singleton.1 hb] at e
       exact hn (e ▸ ha)
     · rcases List.mem_append.1 hz with hz | hz
       · obtain ⟨i, hi, e⟩ := h3 z hz; exact ⟨i, by omega, e⟩
       · exact ⟨k, by omega, (List.mem_singleton.1 hz).symm⟩
theorem hnd_places {xs : List Task} {o : List Int} : ∀ (m : Nat) (P : List Int), P.Nodup → (∀ z ∈ P, ∃ i, i < m + 1 ∧ plc xs (at0 o i) = z) → (P.length : Int) ≤ hndK xs o (m + 1) + 1
 | 0, P, hn, hP => by
   have h0 := (hndK_b (xs := xs) (ds := o) 1).1
   have h1 : ∀ z ∈ P, z = plc xs (at0 o 0) := fun z hz => by
     obtain ⟨i, hi, e⟩ := hP z hz
     have : i = 0 := by omega
     subst this; exact e.symm
   match P, hn, h1 with
   | [], _, _ => simp; omega
   | [_], _, _ => simp; omega
   | a :: b :: l, hn, h1 =>
     rw [List.nodup_cons] at hn
     exact absurd (by rw [h1 a (List.mem_cons_self ..), h1 b (List.mem_cons_of_mem _ (List.mem_cons_self ..))]; exact List.mem_cons_self ..) hn.1
 | m + 1, P, hn, hP => by
   rw [hndK]
   by_cases he : plc xs (at0 o m) = plc xs (at0 o (m + 1))
   · have := hnd_places m P hn fun z hz => by
       obtain ⟨i, hi, e⟩ := hP z hz
       by_cases h : i < m + 1
       · exact ⟨i, h, e⟩
       · have : i = m + 1 := by omega
         subst this
         exact ⟨m, by omega, he.trans e⟩
     rw [if_neg (fun q => q.2 he)]; omega
   · have h1 := hnd_places m (P.erase (plc xs (at0 o (m + 1)))) (hn.erase _) fun z hz => by
       obtain ⟨hz1, hz2⟩ := (List.Nodup.mem_erase_iff hn).1 hz
       obtain ⟨i, hi, e⟩ := hP z hz2
       by_cases h : i < m + 1
       · exact ⟨i, h, e⟩
       · have : i = m + 1 := by omega
         subst this
         exact absurd e.symm hz1
     have h2 : P.length ≤ (P.erase (plc xs (at0 o (m + 1)))).length + 1 := by
       rw [List.length_erase]; split <;> omega
     rw [if_pos ⟨by omega, he⟩]; omega
theorem few_places {xs : List Task} {o : List Int} (h : AccOK (ndX xs) o) (hl : o.length = xs.length) : ((plL xs xs.length).length : Int) ≤ hndK xs o o.length + 1 := by
 obtain ⟨h1, h2, h3⟩ := plL_ok (xs := xs) xs.length
 cases hn : xs.length with
 | zero =>
   have := (hndK_b (xs := xs) (ds := o) o.length).1
   rw [hn] at h2
   omega
 | succ m =>
   rw [hl, hn]
   rw [hn] at h1 h3
   refine hnd_places m _ h1 fun z hz => ?_
   obtain ⟨i, hi, e⟩ := h3 z hz
   obtain ⟨q, hq, e2⟩ := mem_at0 (h.all (i := i) (by rw [ndX_len]; omega) (by rw [ndX_len]; omega))
   exact ⟨q, by omega, by rw [e2]; exact e⟩

/-! ### What is known of the slots of a schedule -/
theorem pk_inv {xs : List Task} {c : Crew} {D : List Slot} {t f : Int} {x : Slot} (h : pk xs c D t f = some x) : PkN xs c D t f c.gangs.length x := by
 unfold pk at h
 split at h
 · rename_i h2
   have := h2.choose_spec
   rw [← Option.some.inj h]; exact this
 · cases h
theorem go_all {xs : List Task} {c : Crew} : ∀ (o : List Int) (D0 D : List Slot), goS xs c o D0 = some D → ∃ E : List Slot, D = D0 ++ E ∧ E.map (·.task) = o ∧ ∀ (i : Nat) (y : Slot), E[i]? = some y → PkN xs c (D0 ++ E.take i) y.task (frmD xs (xs.getD y.task.toNat default).needs (D0 ++ E.take i)) c.gangs.length y
 | [], D0, D, h => by
   rw [goS] at h
   exact ⟨[], by rw [← Option.some.inj h, List.append_nil], rfl, fun i y hy => by simp at hy⟩
 | t :: o, D0, D, h => by
   rw [goS] at h
   split at h
   · cases h
   · rename_i x hx
     have h1 := pk_inv hx
     obtain ⟨E, h2, h3, h4⟩ := go_all o _ _ h
     refine ⟨x :: E, by rw [h2, List.append_assoc]; rfl, by rw [List.map_cons, h3, h1.task], fun i y hy => ?_⟩
     match i, hy with
     | 0, hy =>
       simp at hy; subst hy
       rw [List.take_zero, List.append_nil, h1.task]; exact h1
     | i + 1, hy =>
       have := h4 i y (by simpa using hy)
       rw [List.append_assoc] at this; exact this
structure SK (xs : List Task) (c : Crew) (D : List Slot) : Prop where
 tasks : D.map (·.task) = ordR (ndX xs)
 pk : ∀ (i : Nat) (y : Slot), D[i]? = some y → PkN xs c (D.take i) y.task (frmD xs (xs.getD y.task.toNat default).needs (D.take i)) c.gangs.length y
theorem sch_SK {xs : List Task} {c : Crew} {D : List Slot} (h : schO xs c = some D) : SK xs c D := by
 obtain ⟨E, h1, h2, h3⟩ := go_all _ _ _ h
 rw [List.nil_append] at h1
 subst h1
 exact ⟨h2, fun i y hy => by have := h3 i y hy; rw [List.nil_append] at this; exact this⟩
section
variable {xs : List Task} {c : Crew} {D : List Slot} {x y : Slot}
theorem mt_sym {a b : Sp} : mtB a b = mtB b a := by
 rw [Bool.eq_iff_iff]; simp only [mtB, decide_eq_true_eq]; omega
theorem fits_inv (h : fitsB xs c D x = true) : inG xs c x ∧ clB xs c D x = false := by
 rw [fitsB, Bool.and_eq_true, decide_eq_true_eq, Bool.not_eq_true'] at h; exact h
/-- Two slots of one gang do not meet. -/
theorem SK.apart (h : SK xs c D) {i j : Nat} (hij : i < j) (hx : D[i]? = some x) (hy : D[j]? = some y) (hg : x.gang = y.gang) : mtB (spY xs x) (spY xs y) = false := by
 have h1 := (fits_inv (h.pk j y hy).fit).2
 rw [clB, Bool.or_eq_false_iff, List.any_eq_false] at h1
 have h2 := h1.1 x (List.mem_of_getElem? (i := i) (by rw [List.getElem?_take, if_pos hij]; exact hx))
 rw [dK, Bool.not_eq_true, Bool.and_eq_false_iff] at h2
 rcases h2 with h2 | h2
 · rw [decide_eq_false_iff_not] at h2; exact absurd hg h2
 · rw [mt_sym]; exact h2
end
structure SF (xs : List Task) (c : Crew) (s : Nat → Slot) : Prop where
 task : ∀ i, i < xs.length → (s i).task = (i : Int)
 gang : ∀ i, i < xs.length → 0 ≤ (s i).gang ∧ (s i).gang < c.gangs.length
 inn : ∀ i, i < xs.length → inG xs c (s i)
 clo : ∀ i, i < xs.length → c.closed.any (cK xs (s i)) = false
 apart : ∀ i j, i < xs.length → j < xs.length → i ≠ j → (s i).gang = (s j).gang → mtB (spY xs (s i)) (spY xs (s j)) = false
 late : ∀ i, i < xs.length → ∀ n ∈ (xs.getD i default).needs, (s n.toNat).start + (xs.getD n.toNat default).minutes ≤ (s i).start
theorem sch_SF {xs : List Task} {c : Crew} {D : List Slot} (h : SK xs c D) (hO : AccOK (ndX xs) (ordR (ndX xs))) (hl : xs.length ≤ (ordR (ndX xs)).length) : SF xs c fun i => slA D (i : Int) := by
 have hnd : (D.map (·.task)).Nodup := by rw [h.tasks]; exact hO.nodup
 have hmem : ∀ i, i < xs.length → slA D (i : Int) ∈ D ∧ (slA D (i : Int)).task = (i : Int) := fun i hi =>
   slA_mem (by rw [h.tasks]; exact hO.all (by rw [ndX_len]; exact hl) (by rw [ndX_len]; exact hi))
 have hix : ∀ i, i < xs.length → ∃ k, D[k]? = some (slA D (i : Int)) := fun i hi => List.getElem?_of_mem (hmem i hi).1
 refine ⟨fun i hi => (hmem i hi).2, fun i hi => ?_, fun i hi => ?_, fun i hi => ?_, fun i j hi hj hij hg => ?_, fun i hi n hn => ?_⟩
 · obtain ⟨k, hk⟩ := hix i hi; exact (h.pk k _ hk).gang
 · obtain ⟨k, hk⟩ := hix i hi; exact (fits_inv (h.pk k _ hk).fit).1
 · obtain ⟨k, hk⟩ := hix i hi
   have := (fits_inv (h.pk k _ hk).fit).2
   rw [clB, Bool.or_eq_false_iff] at this; exact this.2
 · obtain ⟨k, hk⟩ := hix i hi
   obtain ⟨m, hm⟩ := hix j hj
   rcases Nat.lt_trichotomy k m with h1 | h1 | h1
   · exact h.apart h1 hk hm hg
   · subst h1
     rw [hk] at hm
     have e := congrArg Slot.task (Option.some.inj hm)
     rw [(hmem i hi).2, (hmem j hj).2] at e
     omega
   · rw [mt_sym]; exact h.apart h1 hm hk hg.symm
 · obtain ⟨k, hk⟩ := hix i hi
   have hp := h.pk k _ hk
   have hkl := (List.getElem?_eq_some_iff.1 hk).1
   have ht : at0 (ordR (ndX xs)) k = (i : Int) := by
     have e : (D.map (·.task))[k]? = some (i : Int) := by rw [List.getElem?_map, hk]; simp [(hmem i hi).2]
     rw [h.tasks] at e
     rw [at0, List.getD_eq_getElem?_getD, e]; rfl
   have hkO : k < (ordR (ndX xs)).length := by rw [← h.tasks, List.length_map]; exact hkl
   have hxi : xs[(at0 (ordR (ndX xs)) k).toNat]? = some (xs.getD i default) := by
     rw [ht, Int.toNat_natCast, List.getD_eq_getElem?_getD, List.getElem?_eq_getElem hi]; rfl
   have hn2 := acc_needs hO hkO hxi hn
   have hn3 : n ∈ (D.take k).map (·.task) := by rw [List.map_take, h.tasks]; exact hn2
   obtain ⟨y, hy, e⟩ := List.mem_map.1 hn3
   have hyD := List.mem_of_mem_take hy
   have hr := hO.rng n (List.mem_of_mem_take hn2)
   have hys : slA D n = y := by rw [← e]; exact slA_eq hnd hyD
   have hf := (frmD_ge (xs := xs) (l := (xs.getD (slA D (i : Int)).task.toNat default).needs) (D.take k) 0).2 y hy (by rw [(hmem i hi).2, Int.toNat_natCast, e]; exact hn)
   have hs := hp.fro
   rw [endY, tsk, e] at hf
   show (slA D ((n.toNat : Nat) : Int)).start + _ ≤ (slA D (i : Int)).start
   rw [Int.toNat_of_nonneg hr.1, hys]
   exact Int.le_trans hf hs

/-! ### A schedule is right -/
section
variable {xs : List Task} {c : Crew} {D : List Slot}
theorem SLx_at {n i : Nat} (h : i < n) : (SLx n D)[i]? = some (slA D (i : Int)) := by
 have := SLx_get (D := D) (n := n) (z := (i : Int)) (by omega)
 rw [Int.toNat_natCast] at this; exact this
theorem slF_zero {s : List Slot} : ∀ (l : List Slot) (k : Nat), (∀ i y, l[i]? = some y → slE xs c s (k + i) y = 0) → slF xs c s k l = 0
 | [], _, _ => rfl
 | y :: l, k, h => by
   rw [slF, if_neg (fun q => q (h 0 y rfl))]
   exact slF_zero l (k + 1) fun i y hy => by rw [show k + 1 + i = k + (i + 1) by omega]; exact h (i + 1) y (by simpa using hy)
theorem sch_right (hp : planE xs = 0) (hF : SF xs c fun i => slA D (i : Int)) (hc : crewE c = 0) : schR xs c (SLx xs.length D) = 0 := by
 have hco := crew_ok hc
 have hs : ∀ i y, (SLx xs.length D)[i]? = some y → i < xs.length ∧ y = slA D (i : Int) := fun i y hy => by
   have h1 := (List.getElem?_eq_some_iff.1 hy).1
   rw [SLx_len] at h1
   rw [SLx_at h1] at hy
   exact ⟨h1, (Option.some.inj hy).symm⟩
 refine (sch_0 hc SLx_len (slF_zero _ _ fun i y hy => ?_) (k := xs.length) (fun i hi => ?_) (by rw [SLx_len]; exact Nat.le_refl _)).symm
 · obtain ⟨hi, rfl⟩ := hs i y hy
   rw [Nat.zero_add]
   have h2 := hF.gang i hi
   have h3 := hF.inn i hi
   obtain ⟨g1, g2, g3⟩ := h3
   obtain ⟨g, hg, hgx⟩ := gng_of (c := c) (x := slA D (i : Int)) (by have : 0 ≤ (slA D (i : Int)).gang ∧ (slA D (i : Int)).gang < c.gangs.length := hF.gang i hi; omega)
   have hgr := hco.2.1 g (List.mem_of_getElem? hg)
   unfold grng at hgr
   have h4 : (gng c (slA D (i : Int))).til ≤ 1000000 := by rw [hgx]; omega
   have hmin : 0 ≤ (tsk xs (slA D (i : Int))).minutes := (minA_b hp _).1
   refine slE_0 (t := tsk xs (slA D (i : Int))) (g := gng c (slA D (i : Int))) (hF.task i hi) (by have : 0 ≤ (slA D (i : Int)).gang ∧ (slA D (i : Int)).gang < c.gangs.length := h2; omega) rfl rfl g1 ?_ ?_
   · have g2' : (gng c (slA D (i : Int))).fro ≤ (slA D (i : Int)).start := g2
     have g3' : (slA D (i : Int)).start + (tsk xs (slA D (i : Int))).minutes ≤ (gng c (slA D (i : Int))).til := g3
     omega
   · rw [clB, Bool.or_eq_false_iff]
     refine ⟨?_, hF.clo i hi⟩
     rw [List.any_eq_false]
     intro y hy
     obtain ⟨j, hj⟩ := List.getElem?_of_mem hy
     rw [List.getElem?_take] at hj
     split at hj
     · rename_i hji
       obtain ⟨hj1, rfl⟩ := hs j y hj
       rw [dK, Bool.not_eq_true, Bool.and_eq_false_iff]
       by_cases hgg : (slA D (j : Int)).gang = (slA D (i : Int)).gang
       · exact .inr (hF.apart i j hi hj1 (by omega) hgg.symm)
       · exact .inl (decide_eq_false hgg)
     · cases hj
 · rw [lateI, List.any_eq_false]
   intro n hn
   have h1 : (slA D ((n.toNat : Nat) : Int)).start + (xs.getD n.toNat default).minutes ≤ (slA D (i : Int)).start := hF.late i hi n hn
   have hx : xs[i]? = some (xs.getD i default) := by rw [List.getD_eq_getElem?_getD, List.getElem?_eq_getElem hi]; rfl
   have hnr := (task_ok hp hx).2.2.2.1 n hn
   have e1 : (SLx xs.length D).getD i default = slA D (i : Int) := by rw [List.getD_eq_getElem?_getD, SLx_at hi]; rfl
   have e2 : (SLx xs.length D).getD n.toNat default = slA D ((n.toNat : Nat) : Int) := by rw [List.getD_eq_getElem?_getD, SLx_at (by omega)]; rfl
   rw [lt1, e1, e2, decide_eq_true_eq]; omega

/-! ### It ends no earlier than the longest chain -/
theorem endK_ge {ss : List Slot} : ∀ {n : Nat}, 0 ≤ endK xs ss n ∧ ∀ i, i < n → (ss.getD i default).start + (xs.getD i default).minutes ≤ endK xs ss n
 | 0 => ⟨Int.le_refl _, fun i hi => absurd hi (Nat.not_lt_zero _)⟩
 | n + 1 => by
   obtain ⟨h1, h2⟩ := endK_ge (ss := ss) (n := n)
   rw [endK]
   refine ⟨by omega, fun i hi => ?_⟩
   rcases Nat.lt_succ_iff_lt_or_eq.1 hi with h3 | rfl
   · have := h2 i h3; omega
   · omega
theorem tail_end {s : Nat → Slot} {d : List Int} {O : List Int} {E : Int} (hT : TF xs d) (hF : SF xs c s) (hO : AccOK (ndX xs) O) (hl : xs.length ≤ O.length) (hE : ∀ i, i < xs.length → (s i).start + minA xs i ≤ E) : ∀ (m q : Nat), q < O.length → O.length - q ≤ m → at0 d (at0 O q).toNat + (s (at0 O q).toNat).start ≤ E
 | 0, q, h1, h2 => by omega
 | m + 1, q, h1, h2 => by
   have hr := hO.rng _ (at0_mem h1)
   rw [ndX_len] at hr
   obtain ⟨X, hX⟩ : ∃ X : Nat, at0 O q = (X : Int) := ⟨(at0 O q).toNat, by omega⟩
   have hXn : X < xs.length := by omega
   rw [hX, Int.toNat_natCast]
   rcases hT.eq X hXn with e | ⟨k, hk, e⟩
   · have := hE X hXn; omega
   · have hk' := hk
     rw [← hX] at hk
     obtain ⟨r, h4, h5, h6⟩ := mem_dropA.1 (us_later hO (by rw [ndX_len]; exact hl) h1 hk)
     have ih := tail_end hT hF hO hl hE m r h5 (by omega)
     rw [h6] at ih
     obtain ⟨i, rfl, hi, hin⟩ := usR_rng hk'
     rw [ndX_len] at hi
     have hx : xs[i]? = some (xs.getD i default) := by rw [List.getD_eq_getElem?_getD, List.getElem?_eq_getElem hi]; rfl
     rw [ndX_at hx] at hin
     have hlt := hF.late i hi _ hin
     rw [Int.toNat_natCast] at ih hlt e
     have hm : minA xs X = (xs.getD X default).minutes := rfl
     omega
theorem end_long (hp : planE xs = 0) (hF : SF xs c fun i => slA D (i : Int)) (hc : crewE c = 0) (hO : AccOK (ndX xs) (ordR (ndX xs))) (hl : xs.length ≤ (ordR (ndX xs)).length) : ∃ E, endsX xs (SLx xs.length D) = (E, 0) ∧ (xs.length ≠ 0 → maxL (TL xs) ≤ E) ∧ 0 ≤ E := by
 have hco := crew_ok hc
 have hT := tl_TF hO hl
 have hst : ∀ i, i < xs.length → 0 ≤ (slA D (i : Int)).start ∧ (slA D (i : Int)).start ≤ 1000000 := fun i hi => by
   obtain ⟨g1, g2, g3⟩ := hF.inn i hi
   obtain ⟨g, hg, hgx⟩ := gng_of (c := c) (x := slA D (i : Int)) (by have : 0 ≤ (slA D (i : Int)).gang ∧ (slA D (i : Int)).gang < c.gangs.length := hF.gang i hi; omega)
   have hgr := hco.2.1 g (List.mem_of_getElem? hg)
   unfold grng at hgr
   have hmin : 0 ≤ (tsk xs (slA D (i : Int))).minutes := (minA_b hp _).1
   have g2' : (gng c (slA D (i : Int))).fro ≤ (slA D (i : Int)).start := g2
   have g3' : (slA D (i : Int)).start + (tsk xs (slA D (i : Int))).minutes ≤ (gng c (slA D (i : Int))).til := g3
   rw [hgx] at g2' g3'
   omega
 have hsb : startB (SLx xs.length D) (SLx xs.length D).length = true := by
   rw [startB, List.take_length, List.all_eq_true]
   intro y hy
   obtain ⟨i, hi⟩ := List.getElem?_of_mem hy
   have h1 := (List.getElem?_eq_some_iff.1 hi).1
   rw [SLx_len] at h1
   rw [SLx_at h1] at hi
   rw [← Option.some.inj hi]
   exact decide_eq_true (hst i h1)
 have hk := endK_ge (xs := xs) (ss := SLx xs.length D) (n := xs.length)
 refine ⟨endK xs (SLx xs.length D) (SLx xs.length D).length, ?_, fun hn => ?_, by rw [SLx_len]; exact hk.1⟩
 · rw [endsX, if_neg (fun q => q hp), endsR, if_neg (fun q => q SLx_len), if_pos hsb]
 · rw [SLx_len]
   obtain ⟨i, hi, e⟩ := mem_at0 (maxL_at (d := TL xs) (by rw [hT.len]; omega))
   rw [hT.len] at hi
   obtain ⟨q, hq, e2⟩ := mem_at0 (hO.all (i := i) (by rw [ndX_len]; exact hl) (by rw [ndX_len]; exact hi))
   have h1 := tail_end (E := endK xs (SLx xs.length D) xs.length) hT hF hO hl (fun j hj => by
     have := hk.2 j hj
     rw [List.getD_eq_getElem?_getD, SLx_at hj] at this
     exact this) _ q hq (Nat.le_refl _)
   rw [e2, Int.toNat_natCast, e] at h1
   have h2 : 0 ≤ (slA D (i : Int)).start := (hst i hi).1
   have h3 : maxL (TL xs) + (slA D (i : Int)).start ≤ endK xs (SLx xs.length D) xs.length := h1
   omega
end
end Go.Proofs.Ytjmjiegplnfiiaa
