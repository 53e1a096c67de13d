import Derived.Test.YtnbcmoaofmkjhaaGreatDoorJ0
set_option linter.unusedSimpArgs false
set_option linter.unusedVariables false
namespace Go.Proofs.YtnbcmoaofmkjhaaGreatDoor.E7
open Go.Pv
abbrev nd_ (nd : List (List Int)) (i : Nat) : List Int := nd.getD i []
def rdyB (nd : List (List Int)) (D : List Int) (i : Nat) : Bool := decide ((i : Int) ∉ D) && (nd_ nd i).all fun z => decide (z ∈ D)
theorem zCm {nd : List (List Int)} {D : List Int} {i : Nat} : rdyB nd D i = true ↔ (i : Int) ∉ D ∧ ∀ z ∈ nd_ nd i, z ∈ D := by
 simp [rdyB]
def zGI (nd : List (List Int)) (D : List Int) : Option Nat := (List.range nd.length).find? (rdyB nd D)
def leftR (nd : List (List Int)) (D : List Int) : Nat := ((List.range nd.length).filter fun i : Nat => decide ((i : Int) ∉ D)).length
def ordF (nd : List (List Int)) : Nat → List Int → List Int
 | 0, D => D
 | f + 1, D => match zGI nd D with | none => D | some i => ordF nd f (D ++ [(i : Int)])
def ordR (nd : List (List Int)) : List Int := ordF nd nd.length []
structure OrdAt (nd : List (List Int)) (D : List Int) : Prop where
 ord : ordF nd (leftR nd D) D = ordR nd
 len : D.length + leftR nd D = nd.length
 rng : ∀ x ∈ D, 0 ≤ x ∧ x < nd.length
 nodup : D.Nodup
 clo : ∀ i : Nat, (i : Int) ∈ D → ∀ z ∈ nd_ nd i, z ∈ D
theorem OrdAt.nil {nd : List (List Int)} : OrdAt nd [] := by
 have h : leftR nd [] = nd.length := by
   simp [leftR, List.filter_eq_self.2 (fun a _ => rfl : ∀ a ∈ List.range nd.length, (fun _ => true) a = true)]
 exact ⟨by rw [h]; rfl, by rw [h]; simp, by simp, List.nodup_nil, by simp⟩
theorem zER {p : Nat → Bool} {i : Nat} : ∀ {l : List Nat}, l.Nodup → i ∈ l → p i = true → (l.filter p).length = (l.filter fun x => p x && decide (x ≠ i)).length + 1
 | [], _, h, _ => by cases h
 | a :: l, hn, h, hp => by
   have hn' := List.nodup_cons.1 hn;by_cases e : a = i
   · subst e
     have h2 : l.filter (fun x => p x && decide (x ≠ a)) = l.filter p := List.filter_congr fun x hx => by
       have : x ≠ a := fun e => hn'.1 (e ▸ hx);simp [this]
     rw [List.filter_cons_of_pos hp, List.filter_cons_of_neg (by simp), h2]; rfl
   · have h3 := zER hn'.2 ((List.mem_cons.1 h).resolve_left (fun q => e q.symm)) hp;by_cases hpa : p a = true
     · rw [List.filter_cons_of_pos hpa, List.filter_cons_of_pos (by simp [hpa, e]), List.length_cons, List.length_cons, h3]
     · rw [List.filter_cons_of_neg hpa, List.filter_cons_of_neg (by simp [hpa]), h3]
theorem zGH {nd : List (List Int)} {D : List Int} {i : Nat} (hi : i < nd.length) (hD : (i : Int) ∉ D) : leftR nd D = leftR nd (D ++ [(i : Int)]) + 1 := by
 rw [leftR, zER List.nodup_range (List.mem_range.2 hi) (by simp [hD])]
 have : (fun x : Nat => decide ((x : Int) ∉ D) && decide (x ≠ i)) = fun x : Nat => decide ((x : Int) ∉ D ++ [(i : Int)]) := by
   funext x;rw [Bool.eq_iff_iff];simp only [Bool.and_eq_true, decide_eq_true_eq, List.mem_append, List.mem_singleton, not_or];constructor
   · rintro ⟨h1, h2⟩; exact ⟨h1, by omega⟩
   · rintro ⟨h1, h2⟩; exact ⟨h1, by omega⟩
 rw [this]; rfl
theorem least_some {nd : List (List Int)} {D : List Int} {i : Nat} (hi : i < nd.length) (h : rdyB nd D i = true) (hm : ∀ j, j < nd.length → rdyB nd D j = true → i ≤ j) : zGI nd D = some i := by
 rw [zGI, List.find?_range_eq_some]
 exact ⟨h, List.mem_range.2 hi, fun j hj => by
   cases e : rdyB nd D j with
   | false => rfl
   | true => exact absurd (hm j (by omega) e) (by omega)⟩
theorem least_none {nd : List (List Int)} {D : List Int} (h : ∀ j, j < nd.length → rdyB nd D j = false) : zGI nd D = none := by
 rw [zGI, List.find?_eq_none];intro j hj;rw [h j (List.mem_range.1 hj)]; decide
theorem OrdAt.step {nd : List (List Int)} {D : List Int} {i : Nat} (h : OrdAt nd D) (hi : i < nd.length) (hr : rdyB nd D i = true) (hm : ∀ j, j < nd.length → rdyB nd D j = true → i ≤ j) : OrdAt nd (D ++ [(i : Int)]) := by
 have h1 := zCm.1 hr;have h2 := zGH hi h1.1;refine ⟨?_, ?_, ?_, ?_, ?_⟩
 · have := h.ord;rw [h2, ordF, least_some hi hr hm] at this;exact this
 · have := h.len;rw [List.length_append, List.length_singleton]; omega
 · intro x hx;rcases List.mem_append.1 hx with h3 | h3
   · exact h.rng x h3
   · rw [List.mem_singleton.1 h3]; omega
 · rw [List.nodup_append];exact ⟨h.nodup, by simp, fun a ha b hb e => h1.1 (by rw [List.mem_singleton.1 hb] at e; exact e ▸ ha)⟩
 · intro j hj z hz;rcases List.mem_append.1 hj with h3 | h3
   · exact List.mem_append_left _ (h.clo j h3 z hz)
   · have : j = i := by have := List.mem_singleton.1 h3; omega
     subst this;exact List.mem_append_left _ (h1.2 z hz)
theorem OrdAt.stop {nd : List (List Int)} {D : List Int} (h : OrdAt nd D) (hr : ∀ j, j < nd.length → rdyB nd D j = false) : D = ordR nd := by
 have := h.ord;cases hl : leftR nd D with
 | zero => rw [hl] at this; exact this
 | succ n => rw [hl, ordF, least_none hr] at this; exact this
theorem zL5 : ∀ (n : Nat) (l : List Int), l.Nodup → (∀ x ∈ l, 0 ≤ x ∧ x < n) → l.length ≤ n
 | 0, l, _, h => by
   cases l with
   | nil => exact Nat.le_refl _
   | cons a l => have := h a (by simp); omega
 | n + 1, l, hn, h => by
   have h1 := zL5 n (l.erase (n : Int)) (hn.erase _) fun x hx => by
     have h2 := hn.mem_erase_iff.1 hx;have h3 := h x h2.2;have := h2.1;omega
   have h4 := List.length_erase (a := (n : Int)) (l := l);split at h4 <;> omega
structure RdI (n : Nat) (rd : List Int) (p : Nat → Prop) : Prop where
 heap : HeapL rd
 nodup : rd.Nodup
 mem : ∀ y, y ∈ rd ↔ ∃ i, i < n ∧ y = (i : Int) ∧ p i
theorem RdI.nil {n : Nat} {p : Nat → Prop} (h : ∀ i, i < n → ¬ p i) : RdI n [] p :=
 ⟨.nil, List.nodup_nil, fun y => ⟨fun h1 => (by cases h1), fun ⟨i, h1, _, h2⟩ => absurd h2 (h i h1)⟩⟩
theorem RdI.congr {n : Nat} {rd : List Int} {p q : Nat → Prop} (h : RdI n rd p) (he : ∀ i, i < n → (p i ↔ q i)) : RdI n rd q :=
 ⟨h.heap, h.nodup, fun y => (h.mem y).trans ⟨fun ⟨i, h1, h2, h3⟩ => ⟨i, h1, h2, (he i h1).1 h3⟩, fun ⟨i, h1, h2, h3⟩ => ⟨i, h1, h2, (he i h1).2 h3⟩⟩⟩
theorem RdI.len {n : Nat} {rd : List Int} {p : Nat → Prop} (h : RdI n rd p) : rd.length ≤ n := zL5 n rd h.nodup fun x hx => by
 obtain ⟨i, h1, rfl, _⟩ := (h.mem x).1 hx; omega
theorem RdI.push {n : Nat} {rd rd' : List Int} {p : Nat → Prop} {i : Nat} (h : RdI n rd p) (hi : i < n) (hp : ¬ p i) (hh : HeapL rd') (hperm : rd'.Perm ((i : Int) :: rd)) : RdI n rd' (fun j => p j ∨ j = i) := by
 have hni : (i : Int) ∉ rd := fun hm => by
   obtain ⟨j, h1, h2, h3⟩ := (h.mem _).1 hm;have : i = j := by omega
   exact hp (this ▸ h3)
 refine ⟨hh, hperm.nodup_iff.2 (List.nodup_cons.2 ⟨hni, h.nodup⟩), fun y => ?_⟩;rw [hperm.mem_iff, List.mem_cons, h.mem];constructor
 · rintro (rfl | ⟨j, h1, h2, h3⟩)
   · exact ⟨i, hi, rfl, .inr rfl⟩
   · exact ⟨j, h1, h2, .inl h3⟩
 · rintro ⟨j, h1, h2, h3 | h3⟩
   · exact .inr ⟨j, h1, h2, h3⟩
   · exact .inl (by rw [h2, h3])
theorem RdI.top {n : Nat} {rd : List Int} {p : Nat → Prop} (h : RdI n rd p) (hne : rd ≠ []) : ∃ i, i < n ∧ at0 rd 0 = (i : Int) ∧ p i ∧ ∀ j, j < n → p j → i ≤ j := by
 have h0 : 0 < rd.length := List.length_pos_iff.2 hne;obtain ⟨i, h1, h2, h3⟩ := (h.mem _).1 (zHE h0);refine ⟨i, h1, h2, h3, fun j h4 h5 => ?_⟩;obtain ⟨k, h6, h7⟩ := zLc ((h.mem (j : Int)).2 ⟨j, h4, rfl, h5⟩);have h8 := h.heap.least k h6;omega
theorem RdI.pop {n : Nat} {rd rd' : List Int} {p : Nat → Prop} {i : Nat} (h : RdI n rd p) (hi : at0 rd 0 = (i : Int)) (hh : HeapL rd') (hperm : (at0 rd 0 :: rd').Perm rd) : RdI n rd' (fun j => p j ∧ j ≠ i) := by
 have hnd := List.nodup_cons.1 (hperm.nodup_iff.2 h.nodup);refine ⟨hh, hnd.2, fun y => ?_⟩
 have h1 : y ∈ rd' ↔ y ∈ rd ∧ y ≠ (i : Int) := by
   rw [← hperm.mem_iff, List.mem_cons, hi];constructor
   · intro h2;exact ⟨.inr h2, fun e => hnd.1 (by rw [hi, ← e]; exact h2)⟩
   · rintro ⟨h2 | h2, h3⟩
     · exact absurd h2 h3
     · exact h2
 rw [h1, h.mem];constructor
 · rintro ⟨⟨j, h2, h3, h4⟩, h5⟩
   exact ⟨j, h2, h3, h4, fun e => h5 (by rw [h3, e])⟩
 · rintro ⟨j, h2, h3, h4, h5⟩
   exact ⟨⟨j, h2, h3, h4⟩, by omega⟩
structure NdOK (nd : List (List Int)) : Prop where
 rng : ∀ i, ∀ z ∈ nd_ nd i, 0 ≤ z ∧ z < nd.length
 nodup : ∀ i, (nd_ nd i).Nodup
def cntO (nd : List (List Int)) (D : List Int) (i : Nat) : Nat := ((nd_ nd i).filter fun z => decide (z ∉ D)).length
theorem cntO_nil {nd : List (List Int)} {i : Nat} : cntO nd [] i = (nd_ nd i).length := by
 simp [cntO]
theorem cntO_le {nd : List (List Int)} {D : List Int} {i : Nat} : cntO nd D i ≤ (nd_ nd i).length := List.length_filter_le _ _
theorem zMz {nd : List (List Int)} {D : List Int} {i : Nat} : cntO nd D i = 0 ↔ ∀ z ∈ nd_ nd i, z ∈ D := by
 simp [cntO, List.filter_eq_nil_iff]
theorem cntO_far {nd : List (List Int)} {D : List Int} {i : Nat} {x : Int} (h : x ∉ nd_ nd i) : cntO nd (D ++ [x]) i = cntO nd D i := by
 rw [cntO, cntO];congr 1;refine List.filter_congr fun z hz => ?_;have : z ≠ x := fun e => h (e ▸ hz);simp [this]
theorem zFI {p : Int → Bool} {i : Int} : ∀ {l : List Int}, l.Nodup → i ∈ l → p i = true → (l.filter p).length = (l.filter fun x => p x && decide (x ≠ i)).length + 1
 | [], _, h, _ => by cases h
 | a :: l, hn, h, hp => by
   have hn' := List.nodup_cons.1 hn;by_cases e : a = i
   · subst e
     have h2 : l.filter (fun x => p x && decide (x ≠ a)) = l.filter p := List.filter_congr fun x hx => by
       have : x ≠ a := fun e => hn'.1 (e ▸ hx);simp [this]
     rw [List.filter_cons_of_pos hp, List.filter_cons_of_neg (by simp), h2]; rfl
   · have h3 := zFI hn'.2 ((List.mem_cons.1 h).resolve_left (fun q => e q.symm)) hp;by_cases hpa : p a = true
     · rw [List.filter_cons_of_pos hpa, List.filter_cons_of_pos (by simp [hpa, e]), List.length_cons, List.length_cons, h3]
     · rw [List.filter_cons_of_neg hpa, List.filter_cons_of_neg (by simp [hpa]), h3]
theorem cntO_near {nd : List (List Int)} {D : List Int} {i : Nat} {x : Int} (hn : (nd_ nd i).Nodup) (h : x ∈ nd_ nd i) (hD : x ∉ D) : cntO nd D i = cntO nd (D ++ [x]) i + 1 := by
 rw [cntO, zFI hn h (by simp [hD]), cntO];congr 2;refine List.filter_congr fun z hz => ?_;simp [not_or]
def usR (nd : List (List Int)) (x : Int) : List Int := ((List.range nd.length).filter fun i => decide (x ∈ nd_ nd i)).map fun i : Nat => (i : Int)
theorem zJd {nd : List (List Int)} {x : Int} {i : Nat} : (i : Int) ∈ usR nd x ↔ i < nd.length ∧ x ∈ nd_ nd i := by
 simp only [usR, List.mem_map, List.mem_filter, List.mem_range, decide_eq_true_eq];constructor
 · rintro ⟨j, h1, h2⟩
   have : j = i := by omega
   subst this; exact h1
 · intro h; exact ⟨i, h, rfl⟩
theorem usR_rng {nd : List (List Int)} {x y : Int} (h : y ∈ usR nd x) : ∃ i : Nat, y = (i : Int) ∧ i < nd.length ∧ x ∈ nd_ nd i := by
 simp only [usR, List.mem_map, List.mem_filter, List.mem_range, decide_eq_true_eq] at h;obtain ⟨j, h1, rfl⟩ := h;exact ⟨j, rfl, h1⟩
theorem usR_nodup {nd : List (List Int)} {x : Int} : (usR nd x).Nodup := by
 exact List.Pairwise.map _ (fun a b (h : a ≠ b) e => h (by have : (a : Int) = (b : Int) := e; omega)) (List.nodup_range.filter _)
theorem usR_len {nd : List (List Int)} {x : Int} : (usR nd x).length ≤ nd.length := by
 rw [usR, lM];have := List.length_filter_le (fun i : Nat => decide (x ∈ nd_ nd i)) (List.range nd.length);simpa using this
structure OpI (nd : List (List Int)) (op : List Int) (f : Nat → Nat) : Prop where
 len : op.length = nd.length
 val : ∀ i, i < nd.length → at0 op i = (f i : Int)
theorem OpI.set {nd : List (List Int)} {op : List Int} {f g : Nat → Nat} {i : Nat} {v : Int} (h : OpI nd op f) (hi : i < nd.length) (hv : v = (g i : Int)) (hg : ∀ j, j < nd.length → j ≠ i → g j = f j) : OpI nd (op.set i v) g := by
 refine ⟨by rw [List.length_set, h.len], fun j hj => ?_⟩;rw [zEB (by rw [h.len]; exact hi)];split
 · rename_i e; subst e; exact hv
 · rename_i e;rw [hg j hj (fun q => e q.symm)]; exact h.val j hj
theorem OpI.congr {nd : List (List Int)} {op : List Int} {f g : Nat → Nat} (h : OpI nd op f) (he : ∀ i, i < nd.length → f i = g i) : OpI nd op g := ⟨h.len, fun i hi => by rw [h.val i hi, he i hi]⟩
structure KI (nd : List (List Int)) (D op rd : List Int) : Prop where
 ord : OrdAt nd D
 op : OpI nd op (cntO nd D)
 rd : RdI nd.length rd fun i => rdyB nd D i = true
structure KJ (nd : List (List Int)) (D : List Int) (x : Nat) (k : Nat) (op rd : List Int) : Prop where
 op : OpI nd op fun i => if (i : Int) ∈ (usR nd x).take k then cntO nd (D ++ [(x : Int)]) i else cntO nd D i
 rd : RdI nd.length rd fun i => (rdyB nd D i = true ∧ i ≠ x) ∨ ((i : Int) ∈ (usR nd x).take k ∧ cntO nd (D ++ [(x : Int)]) i = 0)
theorem KI.top {nd : List (List Int)} {D op rd rd' : List Int} (h : KI nd D op rd) (hne : rd ≠ []) (hh : HeapL rd') (hp : (at0 rd 0 :: rd').Perm rd) :
   ∃ x : Nat, x < nd.length ∧ at0 rd 0 = (x : Int) ∧ rdyB nd D x = true ∧ OrdAt nd (D ++ [(x : Int)]) ∧ leftR nd (D ++ [(x : Int)]) < leftR nd D ∧ KJ nd D x 0 op rd' := by
 obtain ⟨x, h1, h2, h3, h4⟩ := h.rd.top hne;refine ⟨x, h1, h2, h3, h.ord.step h1 h3 h4, ?_, ?_, ?_⟩
 · have := zGH h1 (zCm.1 h3).1; omega
 · exact h.op.congr fun i _ => by simp
 · exact (h.rd.pop h2 hh hp).congr fun i _ => by simp
theorem KJ.val {nd : List (List Int)} {D op rd : List Int} {x k : Nat} (h : KJ nd D x k op rd) (hok : NdOK nd) (hx : rdyB nd D x = true) (hk : k < (usR nd x).length) :
   ∃ u : Nat, at0 (usR nd x) k = (u : Int) ∧ u < nd.length ∧ at0 op u = (cntO nd (D ++ [(x : Int)]) u : Int) + 1 ∧ (u : Int) ∉ (usR nd x).take k ∧ rdyB nd D u = false := by
 have hm := zHE hk;obtain ⟨u, h1, h2, h3⟩ := usR_rng hm
 have hnt : (u : Int) ∉ (usR nd x).take k := fun hq => by
   obtain ⟨j, hj, e⟩ := List.getElem_of_mem hq;rw [List.length_take] at hj;rw [List.getElem_take] at e;have h5 : (usR nd x)[k] = (u : Int) := by rw [zB5 hk]; exact h1
   have := (List.getElem_inj usR_nodup).1 (e.trans h5.symm);omega
 have hxD := (zCm.1 hx).1;refine ⟨u, h1, h2, ?_, hnt, ?_⟩
 · rw [h.op.val u h2, if_neg hnt, cntO_near (hok.nodup u) h3 hxD]; omega
 · cases e : rdyB nd D u with
   | false => rfl
   | true => exact absurd ((zCm.1 e).2 _ h3) hxD
theorem zB6 {l : List Int} {k : Nat} (hk : k < l.length) {y : Int} : y ∈ l.take (k + 1) ↔ y ∈ l.take k ∨ y = at0 l k := by
 rw [← List.take_append_getElem hk, List.mem_append, List.mem_singleton, zB5 hk]
theorem KJ.step {nd : List (List Int)} {D op rd rd' : List Int} {x k u : Nat} (h : KJ nd D x k op rd) (hok : NdOK nd) (hx : rdyB nd D x = true) (hk : k < (usR nd x).length) (hu : at0 (usR nd x) k = (u : Int)) (hul : u < nd.length) (hv : at0 op u = (cntO nd (D ++ [(x : Int)]) u : Int) + 1)
   (hn : (u : Int) ∉ (usR nd x).take k) (hr : rdyB nd D u = false) (hd : (cntO nd (D ++ [(x : Int)]) u = 0 ∧ HeapL rd' ∧ rd'.Perm ((u : Int) :: rd)) ∨ (cntO nd (D ++ [(x : Int)]) u ≠ 0 ∧ rd' = rd)) : KJ nd D x (k + 1) (op.set u (at0 op u - 1)) rd' := by
 refine ⟨?_, ?_⟩
 · refine h.op.set hul ?_ fun j hj hne => ?_
   · rw [if_pos ((zB6 hk).2 (.inr hu.symm)), hv]; omega
   · have : (j : Int) ∈ (usR nd x).take (k + 1) ↔ (j : Int) ∈ (usR nd x).take k := by
       rw [zB6 hk, hu];exact ⟨fun h1 => h1.resolve_right (fun e => hne (by omega)), .inl⟩
     simp only [this]
 · rcases hd with ⟨h1, h2, h3⟩ | ⟨h1, h2⟩
   · refine (h.rd.push hul (by rintro (⟨h4, _⟩ | ⟨h4, _⟩); (rw [hr] at h4; cases h4); exact hn h4) h2 h3).congr fun j hj => ?_;rw [zB6 hk, hu];constructor
     · rintro ((h4 | h4) | h4)
       · exact .inl h4
       · exact .inr ⟨.inl h4.1, h4.2⟩
       · subst h4; exact .inr ⟨.inr rfl, h1⟩
     · rintro (h4 | ⟨h4 | h4, h5⟩)
       · exact .inl (.inl h4)
       · exact .inl (.inr ⟨h4, h5⟩)
       · exact .inr (by omega)
   · subst h2;refine h.rd.congr fun j hj => ?_;rw [zB6 hk, hu];constructor
     · rintro (h4 | h4)
       · exact .inl h4
       · exact .inr ⟨.inl h4.1, h4.2⟩
     · rintro (h4 | ⟨h4 | h4, h5⟩)
       · exact .inl h4
       · exact .inr ⟨h4, h5⟩
       · have : j = u := by omega
         subst this; exact absurd h5 h1
theorem KJ.stop {nd : List (List Int)} {D op rd : List Int} {x k : Nat} (h : KJ nd D x k op rd) (ho : OrdAt nd D) (ho' : OrdAt nd (D ++ [(x : Int)])) (hx : rdyB nd D x = true) (hk : (usR nd x).length ≤ k) : KI nd (D ++ [(x : Int)]) op rd := by
 have ht : (usR nd x).take k = usR nd x := List.take_of_length_le hk;have hxi := zCm.1 hx;have hop := h.op; have hrd := h.rd;rw [ht] at hop hrd;refine ⟨ho', hop.congr fun i hi => ?_, hrd.congr fun i hi => ?_⟩
 · by_cases e : (i : Int) ∈ usR nd x
   · rw [if_pos e]
   · rw [if_neg e];exact (cntO_far fun h1 => e (zJd.2 ⟨hi, h1⟩)).symm
 · refine Iff.trans ?_ zCm.symm;constructor
   · rintro (⟨h1, h2⟩ | ⟨h1, h2⟩)
     · have h3 := zCm.1 h1;refine ⟨fun h4 => ?_, fun z hz => List.mem_append_left _ (h3.2 z hz)⟩;rcases List.mem_append.1 h4 with h5 | h5
       · exact h3.1 h5
       · exact h2 (by have := List.mem_singleton.1 h5; omega)
     · have h3 := zJd.1 h1;refine ⟨fun h4 => ?_, zMz.1 h2⟩;rcases List.mem_append.1 h4 with h5 | h5
       · exact hxi.1 (ho.clo i h5 _ h3.2)
       · have : i = x := by have := List.mem_singleton.1 h5; omega
         subst this;exact hxi.1 (hxi.2 _ h3.2)
   · rintro ⟨h1, h2⟩
     by_cases e : (x : Int) ∈ nd_ nd i
     · exact .inr ⟨zJd.2 ⟨hi, e⟩, zMz.2 h2⟩
     · refine .inl ⟨zCm.2 ⟨fun h3 => h1 (List.mem_append_left _ h3), fun z hz => ?_⟩, fun e2 => h1 (by rw [e2]; simp)⟩;rcases List.mem_append.1 (h2 z hz) with h3 | h3
       · exact h3
       · exact absurd (by rw [← List.mem_singleton.1 h3]; exact hz) e
theorem KI.stop {nd : List (List Int)} {D op : List Int} (h : KI nd D op []) : D = ordR nd := h.ord.stop fun j hj => by
 cases e : rdyB nd D j with
 | false => rfl
 | true => exact absurd ((h.rd.mem (j : Int)).2 ⟨j, hj, rfl, e⟩) (by simp)
structure K0 (nd : List (List Int)) (k : Nat) (op rd : List Int) : Prop where
 op : OpI nd op fun i => if i < k then (nd_ nd i).length else 0
 rd : RdI nd.length rd fun i => i < k ∧ nd_ nd i = []
theorem K0.start {nd : List (List Int)} : K0 nd 0 (List.replicate nd.length 0) [] :=
 ⟨⟨by simp, fun i hi => by simp [at0, List.getElem?_replicate, hi]⟩, .nil fun i _ h => absurd h.1 (Nat.not_lt_zero _)⟩
theorem K0.step {nd : List (List Int)} {k : Nat} {op rd rd' : List Int} (h : K0 nd k op rd) (hk : k < nd.length) (hd : ((nd_ nd k).length = 0 ∧ HeapL rd' ∧ rd'.Perm ((k : Int) :: rd)) ∨ ((nd_ nd k).length ≠ 0 ∧ rd' = rd)) : K0 nd (k + 1) (op.set k ((nd_ nd k).length : Int)) rd' := by
 refine ⟨h.op.set hk (by rw [if_pos (Nat.lt_succ_self _)]) fun j hj hne => ?_, ?_⟩
 · by_cases e : j < k
   · rw [if_pos (by omega), if_pos e]
   · rw [if_neg (by omega), if_neg e]
 · rcases hd with ⟨h1, h2, h3⟩ | ⟨h1, h2⟩
   · refine (h.rd.push hk (fun h4 => absurd h4.1 (Nat.lt_irrefl _)) h2 h3).congr fun j hj => ?_;constructor
     · rintro (h4 | h4)
       · exact ⟨by omega, h4.2⟩
       · subst h4; exact ⟨by omega, List.eq_nil_of_length_eq_zero h1⟩
     · rintro ⟨h4, h5⟩
       by_cases e : j = k
       · exact .inr e
       · exact .inl ⟨by omega, h5⟩
   · subst h2;refine h.rd.congr fun j hj => ?_;constructor
     · rintro ⟨h4, h5⟩; exact ⟨by omega, h5⟩
     · rintro ⟨h4, h5⟩
       by_cases e : j = k
       · subst e; rw [h5] at h1; exact absurd rfl h1
       · exact ⟨by omega, h5⟩
theorem K0.stop {nd : List (List Int)} {k : Nat} {op rd : List Int} (h : K0 nd k op rd) (hk : nd.length ≤ k) : KI nd [] op rd := by
 refine ⟨.nil, h.op.congr fun i hi => ?_, h.rd.congr fun i hi => ?_⟩
 · rw [if_pos (by omega), cntO_nil]
 · refine Iff.trans ?_ zCm.symm;constructor
   · rintro ⟨_, h2⟩; rw [h2]; simp
   · rintro ⟨_, h2⟩
     exact ⟨by omega, List.eq_nil_iff_forall_not_mem.2 fun z hz => absurd (h2 z hz) (by simp)⟩
end Go.Proofs.YtnbcmoaofmkjhaaGreatDoor.E7
set_option maxRecDepth 100000
namespace Go.Proofs.YtnbcmoaofmkjhaaGreatDoor.E7
open Go Go.Pv Go.Proofs.YtnbcmoaofmkjhaaGreatDoor
def zDJ (h : Heap) (d : Nat) (v : PV) (l : List Int) : Prop := (l = [] ∧ v = .nil) ∨ ∃ g t, v = .ref (d, g) 1 0 l.length ∧ h (d, g) = some (.rows 1 ((l ++ t).map ci))
theorem zDJ.keep {h h' : Heap} {d : Nat} {v : PV} {l : List Int} (hs : zDJ h d v l) (hk : ∀ g, h' (d, g) = h (d, g)) : zDJ h' d v l := by
 rcases hs with h1 | ⟨g, t, h1, h2⟩
 · exact .inl h1
 · exact .inr ⟨g, t, h1, (hk g).trans h2⟩
theorem zDJ.nil {h : Heap} {d : Nat} : zDJ h d .nil [] := .inl ⟨rfl, rfl⟩
section
variable {P : Program} {K : PS → Prop} {d : Nat} {ty t : TypeId} {pos : String} {aft : Array Edge} {gd : Option (Nat × Bool)} {rest : List Oper} {r : Nat → PV} {h : Heap} {cnt : Nat → Nat} {op : Op} {x y : Operand}
theorem p_appP {ts : Array TypeId} {t2 : TypeId} {u u2 : PV} {d1 : Nat} {l : List Int} {n : Int} (hts : ts.toList = [t, t2]) (hx : ev r x = u) (hy : ev r y = u2) (hs : zDJ h d1 u l) (hsr : (zAU h 1 u2).1 ∧ (zAU h 1 u2).2.1 = [ci n])
   (hok : (zAN P t && (decide (P.bytesOf (zAu P t) < 2 ^ 15) && (decide (zBm P t2 = none) && (zEg P (zAu P t) && ((P.underlying t2).isSome && decide (zAr P (zAu P t) = 1)))))) = true) (hlen : l.length + 1 < 2 ^ 32)
   (hk : ∀ v' h' c', (∃ g, v' = .ref (d, g) 1 0 (l.length + 1) ∧ h' (d, g) = some (.rows 1 ((l ++ [n]).map ci))) → (∀ k' : Key, k'.1 ≠ d → k'.1 ≠ d1 → h' k' = h k') → pOps P K rest ⟨setT r d v', h', c'⟩) :
   pOps P K (⟨some d, .call { callee := .builtin .append, args := #[x, y], argTypes := ts }, ty, pos, aft, gd⟩ :: rest) ⟨r, h, cnt⟩ := by
 simp only [Bool.and_eq_true, decide_eq_true_eq] at hok;obtain ⟨o1, o2, o3, o4, o5, o6⟩ := hok
 have he : ∀ u, ev r x = u → eff P (ev r) h (d, cnt d) (.call { callee := .builtin .append, args := #[x, y], argTypes := ts }) = zA3 P h (d, cnt d) t t2 u u2 := fun u hu => by
   show zA9 P h (d, cnt d) .append ts.toList [ev r x, ev r y] = _;rw [hts, hu, hy]; rfl
 rcases hs with ⟨rfl, rfl⟩ | ⟨g, tl, rfl, hg⟩
 · have hq := he _ hx;unfold zA3 at hq;simp only [o6, hsr.2] at hq;refine p_new rfl hq ⟨⟨o1, o2, o3, o4, o5⟩, hsr.1, by simp, by simp⟩ (hk _ _ _ ⟨cnt d, rfl, zBk _ _ _⟩ fun k' h1 _ => zAp fun e => h1 (by rw [e]))
 · have hq := he _ hx;unfold zA3 at hq;simp only [hg, o6, hsr.2] at hq;refine zJA rfl hq (by refine ⟨⟨o1, o2, o3, o4, o5⟩, hsr.1, ?_⟩; simp; omega) (hk _ _ _ ⟨cnt d, rfl, ?_⟩ fun k' h1 h2 => ?_)
   · rw [zBk, List.drop_zero, List.map_append, List.take_append_of_le_length (by simp), List.take_of_length_le (by simp), List.map_append]; rfl
   · rw [zAp fun e => h1 (by rw [e]), zAp fun e => h2 (by rw [e])]
end
theorem zL0 {q : List Int} {z : Int} (h : 0 < z) (h2 : z.toNat < q.length) : q[((z - 1) / 2).toNat]? = some (at0 q (up z.toNat)) := by
 rw [show ((z - 1) / 2).toNat = up z.toNat by unfold up; omega];exact zBt (by unfold up; omega)
theorem swp_up {q : List Int} {z : Int} (h : 0 < z) : (q.set ((z - 1) / 2).toNat (at0 q z.toNat)).set z.toNat (at0 q (up z.toNat)) = swp q (up z.toNat) z.toNat := by
 rw [show ((z - 1) / 2).toNat = up z.toNat by unfold up; omega]; rfl
theorem up_next {z : Int} (h : 0 < z) : ((z - 1) / 2).toNat = up z.toNat := by unfold up; omega
def PushR (h0 : Heap) (n : Int) (l : List Int) (h' : Heap) : Prop := ∃ v' l', h' (4, 0) = some (.rows 1 [[v']]) ∧ zDJ h' 12 v' l' ∧ HeapL l' ∧ l'.Perm (n :: l) ∧ ∀ k' : Key, k' ≠ (4, 0) → k'.1 ≠ 11 → k'.1 ≠ 12 → h' k' = h0 k'
theorem PushR.of {h0 h' : Heap} {n : Int} {l q : List Int} {g : Nat} (h1 : h' (4, 0) = some (.rows 1 [[.ref (12, g) 1 0 (l.length + 1)]])) (h2 : h' (12, g) = some (.rows 1 (q.map ci))) (h3 : HeapL q) (h4 : q.Perm (n :: l)) (h5 : ∀ k' : Key, k' ≠ (4, 0) → k'.1 ≠ 11 → k'.1 ≠ 12 → h' k' = h0 k') : PushR h0 n l h' :=
 ⟨_, q, h1, .inr ⟨g, [], by rw [h4.length_eq]; rfl, by rw [List.append_nil]; exact h2⟩, h3, h4, h5⟩
theorem zLr {l t : List Int} {i : Int} (h : 0 ≤ i ∧ i < l.length) : (l ++ t)[i.toNat]? = some (at0 l i.toNat) := by
 rw [List.getElem?_append_left (by omega)]; exact zBt (by omega)
theorem zIc {l t : List Int} (h : l ≠ []) : ((l ++ t).set ((0 : Int)).toNat (at0 l ((l.length : Int) - 1).toNat)).take (l.length - 1) = mv0 l := by
 have h0 : 0 < l.length := List.length_pos_iff.2 h;rw [show ((0 : Int)).toNat = 0 from rfl, show ((l.length : Int) - 1).toNat = l.length - 1 by omega, List.set_append_left _ _ h0, List.take_append_of_le_length (by simp)]; rfl
theorem zHI {q : List Int} {a b m : Nat} (ha : a < m) (hb : b < m) (hm : m ≤ q.length) : (swp q a b).take m = swp (q.take m) a b := by
 simp only [swp, List.take_set, zB7 ha, zB7 hb]
theorem min1 {Q : List Int} {i : Nat} (h : 2 * i + 2 < Q.length → at0 Q (2 * i + 1) ≤ at0 Q (2 * i + 2)) : ∀ j, 0 < j → j < Q.length → up j = i → at0 Q (2 * i + 1) ≤ at0 Q j := fun j h1 h2 h3 => by
 have : j = 2 * i + 1 ∨ j = 2 * i + 2 := by unfold up at h3; omega
 rcases this with rfl | rfl
 · exact Int.le_refl _
 · exact h h2
theorem min2 {Q : List Int} {i : Nat} (h : at0 Q (2 * i + 2) ≤ at0 Q (2 * i + 1)) : ∀ j, 0 < j → j < Q.length → up j = i → at0 Q (2 * i + 2) ≤ at0 Q j := fun j h1 h2 h3 => by
 have : j = 2 * i + 1 ∨ j = 2 * i + 2 := by unfold up at h3; omega
 rcases this with rfl | rfl
 · exact h
 · exact Int.le_refl _
section
variable {q : List Int} {m : Nat} {z : Int}
theorem zGy (hD : DownI (q.take m) z.toNat) (hm : m ≤ q.length) (hz : 0 ≤ z) (hlt : 2 * z + 1 < (m : Int)) (hc : 2 * z + 1 + 1 < (m : Int) → at0 q (2 * z + 1).toNat ≤ at0 q (2 * z + 1 + 1).toNat) (hs : at0 q (2 * z + 1).toNat < at0 q z.toNat) :
   DownI ((swp q z.toNat (2 * z + 1).toNat).take m) (2 * z + 1).toNat := by
 have hl : (q.take m).length = m := by rw [List.length_take]; omega
 have e1 : (2 * z + 1).toNat = 2 * z.toNat + 1 := by omega
 have e2 : (2 * z + 1 + 1).toNat = 2 * z.toNat + 2 := by omega
 rw [zHI (by omega) (by omega) hm];rw [e1] at hs hc ⊢;rw [e2] at hc;refine hD.step (by omega) (by omega) (by omega) (by unfold up; omega) (min1 fun h => ?_) (by rw [zB7 (by omega), zB7 (by omega)]; exact hs);rw [zB7 (by omega), zB7 (by omega)]; exact hc (by omega)
theorem zGx (hD : DownI (q.take m) z.toNat) (hm : m ≤ q.length) (hz : 0 ≤ z) (hlt : 2 * z + 1 + 1 < (m : Int)) (hc : at0 q (2 * z + 1 + 1).toNat < at0 q (2 * z + 1).toNat) (hs : at0 q (2 * z + 1 + 1).toNat < at0 q z.toNat) :
   DownI ((swp q z.toNat (2 * z + 1 + 1).toNat).take m) (2 * z + 1 + 1).toNat := by
 have hl : (q.take m).length = m := by rw [List.length_take]; omega
 have e1 : (2 * z + 1).toNat = 2 * z.toNat + 1 := by omega
 have e2 : (2 * z + 1 + 1).toNat = 2 * z.toNat + 2 := by omega
 rw [zHI (by omega) (by omega) hm];rw [e2] at hs hc ⊢;rw [e1] at hc;refine hD.step (by omega) (by omega) (by omega) (by unfold up; omega) (min2 ?_) (by rw [zB7 (by omega), zB7 (by omega)]; exact hs);rw [zB7 (by omega), zB7 (by omega)]; omega
theorem pop_stop0 (hD : DownI (q.take m) z.toNat) (hz : 0 ≤ z) (hlt : (m : Int) ≤ 2 * z + 1) : HeapL (q.take m) :=
 hD.stop fun j h1 h2 h3 => by rw [List.length_take] at h2; unfold up at h3; omega
theorem zIo (hD : DownI (q.take m) z.toNat) (hm : m ≤ q.length) (hz : 0 ≤ z) (hlt : 2 * z + 1 < (m : Int)) (hc : 2 * z + 1 + 1 < (m : Int) → at0 q (2 * z + 1).toNat ≤ at0 q (2 * z + 1 + 1).toNat) (hs : at0 q z.toNat ≤ at0 q (2 * z + 1).toNat) : HeapL (q.take m) := by
 have hl : (q.take m).length = m := by rw [List.length_take]; omega
 have e1 : (2 * z + 1).toNat = 2 * z.toNat + 1 := by omega
 have e2 : (2 * z + 1 + 1).toNat = 2 * z.toNat + 2 := by omega
 rw [e1] at hs hc;rw [e2] at hc;refine hD.stop fun j h1 h2 h3 => Int.le_trans (b := at0 (q.take m) (2 * z.toNat + 1)) ?_ (min1 (fun h => ?_) j h1 h2 h3)
 · rw [zB7 (by omega), zB7 (by omega)]; exact hs
 · rw [zB7 (by omega), zB7 (by omega)]; exact hc (by omega)
theorem pop_stop2 (hD : DownI (q.take m) z.toNat) (hm : m ≤ q.length) (hz : 0 ≤ z) (hlt : 2 * z + 1 + 1 < (m : Int)) (hc : at0 q (2 * z + 1 + 1).toNat < at0 q (2 * z + 1).toNat) (hs : at0 q z.toNat ≤ at0 q (2 * z + 1 + 1).toNat) : HeapL (q.take m) := by
 have hl : (q.take m).length = m := by rw [List.length_take]; omega
 have e1 : (2 * z + 1).toNat = 2 * z.toNat + 1 := by omega
 have e2 : (2 * z + 1 + 1).toNat = 2 * z.toNat + 2 := by omega
 rw [e2] at hs hc;rw [e1] at hc;refine hD.stop fun j h1 h2 h3 => Int.le_trans (b := at0 (q.take m) (2 * z.toNat + 2)) ?_ (min2 ?_ j h1 h2 h3)
 · rw [zB7 (by omega), zB7 (by omega)]; exact hs
 · rw [zB7 (by omega), zB7 (by omega)]; omega
theorem zHR {a : Int} {l : List Int} {k : Int} (h : (a :: q.take m).Perm l) (hm : m ≤ q.length) (hz : 0 ≤ z ∧ z < m) (hk : 0 ≤ k ∧ k < m) : (a :: (swp q z.toNat k.toNat).take m).Perm l := by
 rw [zHI (by omega) (by omega) hm];exact ((zJj (by rw [List.length_take]; omega) (by rw [List.length_take]; omega)).cons a).trans h
end
def PopR (h0 : Heap) (l : List Int) (v : PV) (h' : Heap) : Prop := v = .int (at0 l 0) ∧ ∃ v' l', h' (4, 0) = some (.rows 1 [[v']]) ∧ zDJ h' 12 v' l' ∧ HeapL l' ∧ (at0 l 0 :: l').Perm l ∧ ∀ k' : Key, k' ≠ (4, 0) → k'.1 ≠ 12 → h' k' = h0 k'
theorem PopR.of {h0 h' : Heap} {l q : List Int} {g : Nat} (h1 : h' (4, 0) = some (.rows 1 [[.ref (12, g) 1 0 (l.length - 1)]])) (h2 : h' (12, g) = some (.rows 1 (q.map ci))) (hq : l.length - 1 ≤ q.length) (h3 : HeapL (q.take (l.length - 1))) (h4 : (at0 l 0 :: q.take (l.length - 1)).Perm l) (h5 : ∀ k' : Key, k' ≠ (4, 0) → k'.1 ≠ 12 → h' k' = h0 k') : PopR h0 l (.int (at0 l 0)) h' :=
 ⟨rfl, _, q.take (l.length - 1), h1, .inr ⟨g, q.drop (l.length - 1), by rw [List.length_take, Nat.min_eq_left hq], by rw [List.take_append_drop]; exact h2⟩, h3, h4, h5⟩
theorem pushH (h0 : Heap) (c0 : Nat → Nat) (l : List Int) (n : Int) (v0 : PV) (hb : h0 (4, 0) = some (.rows 1 [[v0]])) (hv : zDJ h0 12 v0 l) (hl : l.length ≤ 1000000) (hh : HeapL l) : zAy Tryz.prog 67 [.ptr (4, 0) 1 0 0, .int n] h0 c0 (fun _ h' _ => PushR h0 n l h') := by
 refine hco Tryz.func67 rfl rfl (zAa rfl fun K1 hK1 => p_e rfl (zAi (v := .ptr _ _ _ _) rfl) (p_e rfl (zAi (v := .ptr _ _ _ _) rfl) (p_e rfl (zBe rfl) (p_e rfl (zDV (v := v0) rfl hb (by kernel_rfl) (by kernel_rfl) (by kernel_rfl) (by exact Nat.zero_lt_one) (by decide) rfl) (p_mS rfl (p_new rfl (e_b1 n) trivial ?_))))));refine p_appP (d1 := 12) (l := l) (n := n) rfl rfl rfl (hv.keep fun g => zAp (zAv rfl)) (zCq w_ rfl) (by kernel_rfl) (by omega) fun v1 h1 c1 hv1 hf1 => ?_;obtain ⟨g, rfl, hg⟩ := hv1;have hb1 := ((hf1 (4, 0) (by decide) (by decide)).trans (zAp (zAv rfl))).trans hb;have hfr : ∀ k' : Key, k' ≠ (4, 0) → k'.1 ≠ 11 → k'.1 ≠ 12 → h1 k' = h0 k' := fun k' q1 q2 q3 => (hf1 k' q3 q3).trans (zAp fun e => q2 (by rw [e]));refine p_e rfl (zBe rfl) (zAQ rfl (zGV rfl hb1 rfl rfl rfl (by decide) (by kernel_rfl) rfl (by kernel_rfl)) trivial (p_end (hK1 _ ?_)));refine zAa rfl fun K2 hK2 => p_e rfl (zAi (v := .ptr _ _ _ _) rfl) (p_e rfl (zBe rfl) (p_e rfl (e_lH (v := .ref _ _ _ _) rfl w_ rfl) (p_e rfl (zAs (v := .ref _ _ _ _) rfl) (p_end (hK2 _ ?_)))));refine zAa rfl fun K3 hK3 => p_e rfl (zAi (v := .ref _ _ _ _) rfl) (p_e rfl (zJ8 rfl (by kernel_rfl)) (p_e rfl (e_sub rfl rfl (by omega)) (p_aS rfl (p_end (hK3 _ ?_)))));refine zB2 (zAE (α := Int × (List Int)) [4] (fun (a4 : Int × (List Int)) => [(5, .int (a4.1))]) (fun (a4 : Int × (List Int)) (h : Heap) (_ : Nat → Nat) => (0 ≤ (a4.1) ∧ (a4.1) ≤ (l.length : Int)) ∧ (UpI (a4.2) (a4.1).toNat) ∧ ((a4.2).Perm (n :: l)) ∧ (h (4, 0) = some (.rows 1 [[.ref (12, g) 1 0 (l.length + 1)]])) ∧ (∀ k' : Key, k' ≠ (4, 0) → k'.1 ≠ 11 → k'.1 ≠ 12 → h k' = h0 k') ∧ (h (12, g) = some (.rows 1 ((a4.2).map ci)))) (fun (a4 : Int × (List Int)) => (a4.1).toNat) (((l.length + 1 : Nat) : Int) - 1, l ++ [n]) (by exact ⟨rfl, trivial⟩) (by exact ⟨by omega, by rw [show (((l.length + 1 : Nat) : Int) - 1).toNat = l.length by omega]; exact UpI.start hh, by exact List.perm_append_comm, by exact zBk _ _ _, by exact fun k' q1 q2 q3 => (zAp q1).trans (hfr k' q1 q2 q3), (h1_ hg)⟩) fun a4 r5 h6 c7 hj8 => ?_);obtain ⟨z, q⟩ := a4;obtain ⟨hz, hup, hpm, hbx, hfx, hihj8_0⟩ := hj8;try dsimp only at hz
 try dsimp only at hup
 try dsimp only at hpm
 try dsimp only at hbx
 try dsimp only at hfx
 try dsimp only at hihj8_0
 show pwp _ _ (loopQ _ _ _) ⟨sets (mix _ _ _) [(5, .int z)], _, _⟩;refine zAf (zAm rfl fun K9 hK9 => zAM (g_mS rfl rfl (g_e rfl (e_gt rfl rfl) (g_mS rfl rfl ?_))));refine zAw (fun hb10 => ?_) (fun hb10 => ?_)
 ·try simp only [zz] at hb10
  refine g_e rfl (zAi (v := .ref _ _ _ _) rfl) (g_mS rfl rfl (g_e rfl (e_sub rfl rfl (by omega)) (g_e rfl (e_quo rfl rfl (by omega) (by omega) (by omega)) (g_e rfl (e_ixR rfl rfl) (g_e rfl (zBC (a := (at0 q (up z.toNat))) rfl hihj8_0 (by kernel_rfl) (by kernel_rfl) (by kernel_rfl) (zL0 (by omega) hup.1)) (g_e rfl (zAi (v := .ref _ _ _ _) rfl) (g_mS rfl rfl ?_)))))));refine g_e rfl (e_ixR rfl rfl) (g_e rfl (zBC (a := (at0 q z.toNat)) rfl hihj8_0 (by kernel_rfl) (by kernel_rfl) (by kernel_rfl) (zBt hup.1)) (g_e rfl (e_gt rfl rfl) (g_pT rfl rfl rfl (g_end (ds := [23, 24, 25, 26, 27, 28, 29, 30, 31, 32, 33]) (by kernel_rfl) rfl (hK9 _ ?_)))));refine zAe rfl fun K11 hK11 => ⟨fun hb12 => ?_, fun hb12 => ?_⟩
  ·try simp only [zz] at hb12
   have hzl := hup.1;have hql := hpm.length_eq;rw [List.length_cons] at hql;refine zAl (zAb (hK11 _ ?_));refine zAg fun K13 hK13 => zBw rfl fun K14 hK14 => zA0 (s_e rfl (zAi (v := .ref _ _ _ _) rfl) (s_e rfl (zAi (v := .sc _) rfl) (s_e rfl (e_sub rfl rfl (by omega)) (s_e rfl (e_quo rfl rfl (by omega) (by omega) (by omega)) (s_e rfl (zAi (v := .ref _ _ _ _) rfl) ?_)))));refine s_e rfl (zAi (v := .sc _) rfl) (s_e rfl (zAi (v := .ref _ _ _ _) rfl) (s_e rfl (zAi (v := .sc _) rfl) (s_e rfl (e_ixR rfl rfl) (zAz [12] (by simp) rfl rfl rfl rfl (zBC (a := (at0 q z.toNat)) rfl hihj8_0 (by kernel_rfl) (by kernel_rfl) (by kernel_rfl) (zBt hup.1)) trivial (s_e rfl (zAi (v := .ref _ _ _ _) rfl) (s_e rfl (zAi (v := .sc _) rfl) (s_e rfl (e_sub rfl rfl (by omega)) ?_)))))));refine s_e rfl (e_quo rfl rfl (by omega) (by omega) (by omega)) (s_e rfl (e_ixR rfl rfl) (zAz [12] (by simp) rfl rfl rfl rfl (zBC (a := (at0 q (up z.toNat))) rfl hihj8_0 (by kernel_rfl) (by kernel_rfl) (by kernel_rfl) (zL0 (by omega) hup.1)) trivial (s_e rfl (e_ixR rfl rfl) (zA4 [12] (by simp) rfl rfl (zCp (zs := q) (a := (at0 q z.toNat)) rfl hihj8_0 rfl (by (first | omega | (simp only [List.length_set]; omega))) (by kernel_rfl) (by kernel_rfl)) trivial (s_e rfl (e_ixR rfl rfl) (zA4 [12] (by simp) rfl rfl (zCp (zs := ((q).set (((z - (1)) / (2))).toNat (at0 q z.toNat))) (a := (at0 q (up z.toNat))) rfl w_ rfl (by (first | omega | (simp only [List.length_set]; omega))) (by kernel_rfl) (by kernel_rfl)) trivial (s_end (ds := []) (by kernel_rfl) (by kernel_rfl) (hK14 _ ?_))))))));refine zAj (zAb (hK13 _ ?_));refine zAn rfl fun K15 hK15 => p_mS rfl (p_e rfl (e_sub rfl rfl (by omega)) (p_e rfl (e_quo rfl rfl (by omega) (by omega) (by omega)) (p_aS rfl (p_end (hK15 _ ?_)))));have hst := hup.step (by omega) (by omega);exact zAo ((((z - 1) / 2), swp q (up z.toNat) z.toNat)) (by show _ < _; simp only; omega) ⟨rfl, trivial⟩ ⟨rfl, trivial⟩ (by exact ⟨by (show 0 ≤ (z - 1) / 2 ∧ (z - 1) / 2 ≤ (l.length : Int); omega), by (rw [up_next (by omega)]; exact hst), by exact (zJj (by unfold up; omega) hup.1).trans hpm, by exact h2_ hbx, by exact fun k' q1 q2 q3 => (zAp fun e => q3 (by rw [e])).trans ((zAp fun e => q3 (by rw [e])).trans (hfx k' q1 q2 q3)), (w_.trans (by rw [swp_up (by omega)]))⟩)
  try simp only [zz] at hb12
  have hql := hpm.length_eq;refine zAJ (zAK ?_);clear hK11 K11;refine zAC (zAA (end0n   ?_));exact PushR.of hbx (by assumption) (hup.stop (.inr (by omega))) hpm hfx
 try simp only [zz] at hb10
 iterate 11 refine gk_ ?_
 refine g_pF rfl rfl rfl (g_end (ds := [23, 24, 25, 26, 27, 28, 29, 30, 31, 32, 33]) (by kernel_rfl) rfl (hK9 _ ?_));refine zAe (t := false) rfl fun K16 hK16 => ⟨nofun, fun _ => ?_⟩
 refine zAJ (zAK ?_);clear hK16 K16;refine zAC (zAA (end0n   ?_));exact PushR.of hbx (by assumption) (hup.stop (.inl (by omega))) hpm hfx
theorem popH (h0 : Heap) (c0 : Nat → Nat) (l : List Int) (v0 : PV) (hb : h0 (4, 0) = some (.rows 1 [[v0]])) (hv : zDJ h0 12 v0 l) (hl : l.length ≤ 1000000) (hh : HeapL l) (hne : l ≠ []) : zAy Tryz.prog 68 [.ptr (4, 0) 1 0 0] h0 c0 (fun v h' _ => PopR h0 l v h') := by
 refine hco Tryz.func68 rfl rfl ?_;rcases hv with ⟨e, _⟩ | ⟨g, t, rfl, hg⟩
 · exact absurd e hne
 have hl0 : 0 < l.length := List.length_pos_iff.2 hne;have hlt : (l ++ t).length = l.length + t.length := List.length_append;refine zAa rfl fun K1 hK1 => p_aS rfl (p_end (hK1 _ ?_));refine zAa rfl fun K2 hK2 => p_e rfl (zAi (v := .ptr _ _ _ _) rfl) (p_e rfl (zBe rfl) (p_e rfl (e_lH (v := .ref _ _ _ _) rfl hb rfl) (p_e rfl (zAs (v := .ref _ _ _ _) rfl) (p_end (hK2 _ ?_)))));refine zAa rfl fun K3 hK3 => p_e rfl (zAi (v := .ref _ _ _ _) rfl) (p_e rfl (e_ixR rfl rfl) (p_e rfl (zBC (a := (at0 l 0)) rfl hg (by kernel_rfl) (by kernel_rfl) (by kernel_rfl) (zLr (i := 0) (by omega))) (p_e rfl (zAi (v := .ref _ _ _ _) rfl) (p_e rfl (zJ8 rfl (by kernel_rfl)) (p_e rfl (e_sub rfl rfl (by omega)) (p_aS rfl ?_))))));refine p_aS rfl (p_end (hK3 _ ?_));refine zAa rfl fun K4 hK4 => p_e rfl (zAi (v := .ref _ _ _ _) rfl) (p_e rfl (zAi (v := .ref _ _ _ _) rfl) (p_mS rfl (p_e rfl (e_ixR rfl rfl) (p_e rfl (zBC (a := (at0 l ((l.length : Int) - 1).toNat)) rfl hg (by kernel_rfl) (by kernel_rfl) (by kernel_rfl) (zLr (by omega))) (p_e rfl (e_ixR rfl rfl) (zAQ rfl (zCp (zs := (l ++ t)) (a := (at0 l ((l.length : Int) - 1).toNat)) rfl hg rfl (by (first | omega | (simp only [List.length_set]; omega))) (by kernel_rfl) (by kernel_rfl)) trivial ?_))))));refine p_end (hK4 _ ?_);refine zAa rfl fun K5 hK5 => p_e rfl (zAi (v := .ref _ _ _ _) rfl) (p_mS rfl (p_e rfl (e_cutR (n := l.length - 1) rfl (congrArg PV.int (by omega : ((l.length : Int) - 1) = ((l.length - 1 : Nat) : Int))) (by omega) (by kernel_rfl) (by kernel_rfl)) (p_e rfl (zAs (v := .ref _ _ _ _) rfl) (p_end (hK5 _ ?_)))));refine zAa rfl fun K6 hK6 => p_e rfl (zAi (v := .ptr _ _ _ _) rfl) (p_e rfl (zAi (v := .ref _ _ _ _) rfl) (p_e rfl (zBe rfl) (zAQ rfl (zGV rfl (h1_ hb) rfl rfl rfl (by decide) (by kernel_rfl) rfl (by kernel_rfl)) trivial (p_end (hK6 _ ?_)))));refine zAf (zAa rfl fun K7 hK7 => p_aS rfl (p_end (hK7 _ ?_)));refine zAg fun K8 hK8 => zAE (α := Int × (List Int)) [3, 4, 5] (fun (a9 : Int × (List Int)) => [(6, .int (a9.1))]) (fun (a9 : Int × (List Int)) (h : Heap) (_ : Nat → Nat) => (0 ≤ (a9.1) ∧ (a9.1) ≤ (l.length : Int)) ∧ (DownI ((a9.2).take (l.length - 1)) (a9.1).toNat) ∧ ((a9.2).length = l.length + t.length) ∧ ((at0 l 0 :: (a9.2).take (l.length - 1)).Perm l) ∧ (h (4, 0) = some (.rows 1 [[.ref (12, g) 1 0 (l.length - 1)]])) ∧ (∀ k' : Key, k' ≠ (4, 0) → k'.1 ≠ 12 → h k' = h0 k') ∧ (h (12, g) = some (.rows 1 ((a9.2).map ci)))) (fun (a9 : Int × (List Int)) => l.length - (a9.1).toNat) (0, (l ++ t).set ((0 : Int)).toNat (at0 l ((l.length : Int) - 1).toNat)) (by exact ⟨rfl, trivial⟩) (by exact ⟨by omega, by rw [zIc hne]; exact mv0_down hh, by simp, by rw [zIc hne]; exact mv0_perm hne, by exact zBk _ _ _, by exact fun k' q1 q2 => (zAp q1).trans (zAp fun e => q2 (by rw [e])), (h1_ w_)⟩) fun a9 r10 h11 c12 hj13 => ?_;obtain ⟨z, q⟩ := a9;obtain ⟨hz, hD, hql, hpm, hbx, hfx, hihj13_0⟩ := hj13;try dsimp only at hz
 try dsimp only at hD
 try dsimp only at hql
 try dsimp only at hpm
 try dsimp only at hbx
 try dsimp only at hfx
 try dsimp only at hihj13_0
 show pwp _ _ (loopQ _ _ _) ⟨sets (mix _ _ _) [(6, .int z)], _, _⟩;refine zAf (zAa rfl fun K14 hK14 => p_mS rfl (p_e rfl (e_mul rfl rfl (by omega)) (p_e rfl (e_add rfl rfl (by omega)) (p_mS rfl (p_e rfl (e_lt rfl rfl) (p_end (hK14 _ ?_)))))));refine zAe rfl fun K15 hK15 => ⟨fun hb16 => ?_, fun hb16 => ?_⟩
 ·try simp only [zz] at hb16
  refine zAl (zAb (hK15 _ ?_));refine zB2 (zAa rfl fun K17 hK17 => p_mS rfl (p_e rfl (e_mul rfl rfl (by omega)) (p_e rfl (e_add rfl rfl (by omega)) (p_aS rfl (p_end (hK17 _ ?_))))));refine zAf (zAm rfl fun K18 hK18 => zAM (g_mS rfl rfl (g_e rfl (e_add rfl rfl (by omega)) (g_mS rfl rfl (g_e rfl (e_lt rfl rfl) (g_mS rfl rfl ?_))))));refine zAw (fun hb19 => ?_) (fun hb19 => ?_)
  ·try simp only [zz] at hb19
   refine g_e rfl (zAi (v := .ref _ _ _ _) rfl) (g_mS rfl rfl (g_e rfl (e_add rfl rfl (by omega)) (g_e rfl (e_ixR rfl rfl) (g_e rfl (zBC (a := (at0 q (2 * z + 1 + 1).toNat)) rfl hihj13_0 (by kernel_rfl) (by kernel_rfl) (by kernel_rfl) (zBt (by omega))) (g_e rfl (zAi (v := .ref _ _ _ _) rfl) (g_mS rfl rfl (g_e rfl (e_ixR rfl rfl) ?_)))))));refine g_e rfl (zBC (a := (at0 q (2 * z + 1).toNat)) rfl hihj13_0 (by kernel_rfl) (by kernel_rfl) (by kernel_rfl) (zBt (by omega))) (g_e rfl (e_lt rfl rfl) (g_pT rfl rfl rfl (g_end (ds := [42, 43, 44, 45, 46, 47, 48, 49, 50, 51]) (by kernel_rfl) rfl (hK18 _ ?_))));refine zAe rfl fun K20 hK20 => ⟨fun hb21 => ?_, fun hb21 => ?_⟩
   ·try simp only [zz] at hb21
    refine zAn rfl fun K22 hK22 => p_mS rfl (p_e rfl (e_add rfl rfl (by omega)) (p_aS rfl (p_end (hK22 _ ?_))));refine zAb (hK20 _ ?_);refine zAf (zAm rfl fun K23 hK23 => zAM (g_e rfl (zAi (v := .ref _ _ _ _) rfl) (g_mS rfl rfl (g_e rfl (e_ixR rfl rfl) (g_e rfl (zBC (a := (at0 q z.toNat)) rfl hihj13_0 (by kernel_rfl) (by kernel_rfl) (by kernel_rfl) (zBt (by omega))) (g_e rfl (zAi (v := .ref _ _ _ _) rfl) ?_))))));refine g_mS rfl rfl (g_e rfl (e_ixR rfl rfl) (g_e rfl (zBC (a := (at0 q (2 * z + 1 + 1).toNat)) rfl hihj13_0 (by kernel_rfl) (by kernel_rfl) (by kernel_rfl) (zBt (by omega))) (g_e rfl (e_le rfl rfl) (g_end (ds := []) (by kernel_rfl) rfl (hK23 _ ?_)))));refine zAe rfl fun K24 hK24 => ⟨fun hb25 => ?_, fun hb25 => ?_⟩
    ·try simp only [zz] at hb25
     refine zAJ (zAK ?_);clear hK24 K24;refine zFM (by decide) (zAC (zAA (zAb (hK8 _ ?_))));refine zAa rfl fun K26 hK26 => p_mS rfl (p_aS rfl (p_end (hK26 _ ?_)));refine zAh (end1 (v := .sc _) rfl ?_);exact PopR.of hbx (by assumption) (by omega) (pop_stop2 hD (by omega) hz.1 (by omega) (by omega) (by omega)) hpm hfx
    try simp only [zz] at hb25
    refine zAl (zAb (hK24 _ ?_));refine zAm rfl fun K27 hK27 => zA0 (s_e rfl (zAi (v := .ref _ _ _ _) rfl) (s_e rfl (zAi (v := .sc _) rfl) (s_e rfl (zAi (v := .ref _ _ _ _) rfl) (s_e rfl (zAi (v := .sc _) rfl) (s_e rfl (zAi (v := .ref _ _ _ _) rfl) (s_e rfl (zAi (v := .sc _) rfl) ?_))))));refine s_e rfl (e_ixR rfl rfl) (zAz [12] (by simp) rfl rfl rfl rfl (zBC (a := (at0 q (2 * z + 1 + 1).toNat)) rfl hihj13_0 (by kernel_rfl) (by kernel_rfl) (by kernel_rfl) (zBt (by omega))) trivial (s_e rfl (zAi (v := .ref _ _ _ _) rfl) (s_e rfl (zAi (v := .sc _) rfl) (s_e rfl (e_ixR rfl rfl) (zAz [12] (by simp) rfl rfl rfl rfl (zBC (a := (at0 q z.toNat)) rfl hihj13_0 (by kernel_rfl) (by kernel_rfl) (by kernel_rfl) (zBt (by omega))) trivial (s_e rfl (e_ixR rfl rfl) (zA4 [12] (by simp) rfl rfl (zCp (zs := q) (a := (at0 q (2 * z + 1 + 1).toNat)) rfl hihj13_0 rfl (by (first | omega | (simp only [List.length_set]; omega))) (by kernel_rfl) (by kernel_rfl)) trivial ?_)))))));refine s_e rfl (e_ixR rfl rfl) (zA4 [12] (by simp) rfl rfl (zCp (zs := ((q).set (z).toNat (at0 q (2 * z + 1 + 1).toNat))) (a := (at0 q z.toNat)) rfl w_ rfl (by (first | omega | (simp only [List.length_set]; omega))) (by kernel_rfl) (by kernel_rfl)) trivial (s_end (ds := []) (by kernel_rfl) (by kernel_rfl) (hK27 _ ?_)));refine zAn rfl fun K28 hK28 => p_mS rfl (p_aS rfl (p_end (hK28 _ ?_)));refine zAj ?_;exact zAo ((((((2) * z) + (1)) + (1)), swp q z.toNat (((((2) * z) + (1)) + (1))).toNat)) (by show _ < _; simp only; omega) ⟨rfl, rfl, rfl, trivial⟩ ⟨rfl, trivial⟩ (by exact ⟨by (show 0 ≤ _ + _ ∧ _ + _ ≤ _; omega), by first | exact zGy hD (by omega) hz.1 (by omega) (by omega) (by omega) | exact zGx hD (by omega) hz.1 (by omega) (by omega) (by omega), by rw [zEX]; exact hql, by exact zHR hpm (by omega) (by omega) (by omega), by exact h2_ hbx, by exact fun k' q1 q2 => (zAp fun e => q2 (by rw [e])).trans ((zAp fun e => q2 (by rw [e])).trans (hfx k' q1 q2)), (w_.trans (by rfl))⟩)
   try simp only [zz] at hb21
   refine zAl (zAb (hK20 _ ?_));refine zAf (zAm rfl fun K29 hK29 => zAM (g_e rfl (zAi (v := .ref _ _ _ _) rfl) (g_mS rfl rfl (g_e rfl (e_ixR rfl rfl) (g_e rfl (zBC (a := (at0 q z.toNat)) rfl hihj13_0 (by kernel_rfl) (by kernel_rfl) (by kernel_rfl) (zBt (by omega))) (g_e rfl (zAi (v := .ref _ _ _ _) rfl) ?_))))));refine g_mS rfl rfl (g_e rfl (e_ixR rfl rfl) (g_e rfl (zBC (a := (at0 q (2 * z + 1).toNat)) rfl hihj13_0 (by kernel_rfl) (by kernel_rfl) (by kernel_rfl) (zBt (by omega))) (g_e rfl (e_le rfl rfl) (g_end (ds := []) (by kernel_rfl) rfl (hK29 _ ?_)))));refine zAe rfl fun K30 hK30 => ⟨fun hb31 => ?_, fun hb31 => ?_⟩
   ·try simp only [zz] at hb31
    refine zAJ (zAK ?_);clear hK30 K30;refine zFM (by decide) (zAC (zAA (zAb (hK8 _ ?_))));refine zAa rfl fun K32 hK32 => p_mS rfl (p_aS rfl (p_end (hK32 _ ?_)));refine zAh (end1 (v := .sc _) rfl ?_);exact PopR.of hbx (by assumption) (by omega) (zIo hD (by omega) hz.1 (by omega) (by omega) (by omega)) hpm hfx
   try simp only [zz] at hb31
   refine zAl (zAb (hK30 _ ?_));refine zAm rfl fun K33 hK33 => zA0 (s_e rfl (zAi (v := .ref _ _ _ _) rfl) (s_e rfl (zAi (v := .sc _) rfl) (s_e rfl (zAi (v := .ref _ _ _ _) rfl) (s_e rfl (zAi (v := .sc _) rfl) (s_e rfl (zAi (v := .ref _ _ _ _) rfl) (s_e rfl (zAi (v := .sc _) rfl) ?_))))));refine s_e rfl (e_ixR rfl rfl) (zAz [12] (by simp) rfl rfl rfl rfl (zBC (a := (at0 q (2 * z + 1).toNat)) rfl hihj13_0 (by kernel_rfl) (by kernel_rfl) (by kernel_rfl) (zBt (by omega))) trivial (s_e rfl (zAi (v := .ref _ _ _ _) rfl) (s_e rfl (zAi (v := .sc _) rfl) (s_e rfl (e_ixR rfl rfl) (zAz [12] (by simp) rfl rfl rfl rfl (zBC (a := (at0 q z.toNat)) rfl hihj13_0 (by kernel_rfl) (by kernel_rfl) (by kernel_rfl) (zBt (by omega))) trivial (s_e rfl (e_ixR rfl rfl) (zA4 [12] (by simp) rfl rfl (zCp (zs := q) (a := (at0 q (2 * z + 1).toNat)) rfl hihj13_0 rfl (by (first | omega | (simp only [List.length_set]; omega))) (by kernel_rfl) (by kernel_rfl)) trivial ?_)))))));refine s_e rfl (e_ixR rfl rfl) (zA4 [12] (by simp) rfl rfl (zCp (zs := ((q).set (z).toNat (at0 q (2 * z + 1).toNat))) (a := (at0 q z.toNat)) rfl w_ rfl (by (first | omega | (simp only [List.length_set]; omega))) (by kernel_rfl) (by kernel_rfl)) trivial (s_end (ds := []) (by kernel_rfl) (by kernel_rfl) (hK33 _ ?_)));refine zAn rfl fun K34 hK34 => p_mS rfl (p_aS rfl (p_end (hK34 _ ?_)));refine zAj ?_;exact zAo (((((2) * z) + (1)), swp q z.toNat ((((2) * z) + (1))).toNat)) (by show _ < _; simp only; omega) ⟨rfl, rfl, rfl, trivial⟩ ⟨rfl, trivial⟩ (by exact ⟨by (show 0 ≤ _ + _ ∧ _ + _ ≤ _; omega), by first | exact zGy hD (by omega) hz.1 (by omega) (by omega) (by omega) | exact zGx hD (by omega) hz.1 (by omega) (by omega) (by omega), by rw [zEX]; exact hql, by exact zHR hpm (by omega) (by omega) (by omega), by exact h2_ hbx, by exact fun k' q1 q2 => (zAp fun e => q2 (by rw [e])).trans ((zAp fun e => q2 (by rw [e])).trans (hfx k' q1 q2)), (w_.trans (by rfl))⟩)
  try simp only [zz] at hb19
  iterate 10 refine gk_ ?_
  refine g_pF rfl rfl rfl (g_end (ds := [42, 43, 44, 45, 46, 47, 48, 49, 50, 51]) (by kernel_rfl) rfl (hK18 _ ?_));refine zAe (t := false) rfl fun K35 hK35 => ⟨nofun, fun _ => ?_⟩
  refine zAl (zAb (hK35 _ ?_));refine zAf (zAm rfl fun K36 hK36 => zAM (g_e rfl (zAi (v := .ref _ _ _ _) rfl) (g_mS rfl rfl (g_e rfl (e_ixR rfl rfl) (g_e rfl (zBC (a := (at0 q z.toNat)) rfl hihj13_0 (by kernel_rfl) (by kernel_rfl) (by kernel_rfl) (zBt (by omega))) (g_e rfl (zAi (v := .ref _ _ _ _) rfl) ?_))))));refine g_mS rfl rfl (g_e rfl (e_ixR rfl rfl) (g_e rfl (zBC (a := (at0 q (2 * z + 1).toNat)) rfl hihj13_0 (by kernel_rfl) (by kernel_rfl) (by kernel_rfl) (zBt (by omega))) (g_e rfl (e_le rfl rfl) (g_end (ds := []) (by kernel_rfl) rfl (hK36 _ ?_)))));refine zAe rfl fun K37 hK37 => ⟨fun hb38 => ?_, fun hb38 => ?_⟩
  ·try simp only [zz] at hb38
   refine zAJ (zAK ?_);clear hK37 K37;refine zFM (by decide) (zAC (zAA (zAb (hK8 _ ?_))));refine zAa rfl fun K39 hK39 => p_mS rfl (p_aS rfl (p_end (hK39 _ ?_)));refine zAh (end1 (v := .sc _) rfl ?_);exact PopR.of hbx (by assumption) (by omega) (zIo hD (by omega) hz.1 (by omega) (by omega) (by omega)) hpm hfx
  try simp only [zz] at hb38
  refine zAl (zAb (hK37 _ ?_));refine zAm rfl fun K40 hK40 => zA0 (s_e rfl (zAi (v := .ref _ _ _ _) rfl) (s_e rfl (zAi (v := .sc _) rfl) (s_e rfl (zAi (v := .ref _ _ _ _) rfl) (s_e rfl (zAi (v := .sc _) rfl) (s_e rfl (zAi (v := .ref _ _ _ _) rfl) (s_e rfl (zAi (v := .sc _) rfl) ?_))))));refine s_e rfl (e_ixR rfl rfl) (zAz [12] (by simp) rfl rfl rfl rfl (zBC (a := (at0 q (2 * z + 1).toNat)) rfl hihj13_0 (by kernel_rfl) (by kernel_rfl) (by kernel_rfl) (zBt (by omega))) trivial (s_e rfl (zAi (v := .ref _ _ _ _) rfl) (s_e rfl (zAi (v := .sc _) rfl) (s_e rfl (e_ixR rfl rfl) (zAz [12] (by simp) rfl rfl rfl rfl (zBC (a := (at0 q z.toNat)) rfl hihj13_0 (by kernel_rfl) (by kernel_rfl) (by kernel_rfl) (zBt (by omega))) trivial (s_e rfl (e_ixR rfl rfl) (zA4 [12] (by simp) rfl rfl (zCp (zs := q) (a := (at0 q (2 * z + 1).toNat)) rfl hihj13_0 rfl (by (first | omega | (simp only [List.length_set]; omega))) (by kernel_rfl) (by kernel_rfl)) trivial ?_)))))));refine s_e rfl (e_ixR rfl rfl) (zA4 [12] (by simp) rfl rfl (zCp (zs := ((q).set (z).toNat (at0 q (2 * z + 1).toNat))) (a := (at0 q z.toNat)) rfl w_ rfl (by (first | omega | (simp only [List.length_set]; omega))) (by kernel_rfl) (by kernel_rfl)) trivial (s_end (ds := []) (by kernel_rfl) (by kernel_rfl) (hK40 _ ?_)));refine zAn rfl fun K41 hK41 => p_mS rfl (p_aS rfl (p_end (hK41 _ ?_)));refine zAj ?_;exact zAo (((((2) * z) + (1)), swp q z.toNat ((((2) * z) + (1))).toNat)) (by show _ < _; simp only; omega) ⟨rfl, rfl, rfl, trivial⟩ ⟨rfl, trivial⟩ (by exact ⟨by (show 0 ≤ _ + _ ∧ _ + _ ≤ _; omega), by first | exact zGy hD (by omega) hz.1 (by omega) (by omega) (by omega) | exact zGx hD (by omega) hz.1 (by omega) (by omega) (by omega), by rw [zEX]; exact hql, by exact zHR hpm (by omega) (by omega) (by omega), by exact h2_ hbx, by exact fun k' q1 q2 => (zAp fun e => q2 (by rw [e])).trans ((zAp fun e => q2 (by rw [e])).trans (hfx k' q1 q2)), (w_.trans (by rfl))⟩)
 try simp only [zz] at hb16
 refine zAJ (zAK ?_);clear hK15 K15;refine zAC (zAA (zAb (hK8 _ ?_)));refine zAa rfl fun K42 hK42 => p_mS rfl (p_aS rfl (p_end (hK42 _ ?_)));refine zAh (end1 (v := .sc _) rfl ?_);exact PopR.of hbx (by assumption) (by omega) (pop_stop0 hD hz.1 (by omega)) hpm hfx
end Go.Proofs.YtnbcmoaofmkjhaaGreatDoor.E7
