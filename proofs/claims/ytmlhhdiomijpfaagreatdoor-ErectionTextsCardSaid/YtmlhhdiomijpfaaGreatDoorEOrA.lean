import Derived.Test.YtmlhhdiomijpfaaGreatDoorPvGh
set_option linter.unusedSimpArgs false
set_option linter.unusedVariables false
namespace Go.Proofs.YtmlhhdiomijpfaaGreatDoor.E7
open Go.Pv
def at0 (l : List Int) (i : Nat) : Int := l.getD i 0
theorem at0_get {l : List Int} {i : Nat} (h : i < l.length) : l[i]? = some (at0 l i) := by
 simp [at0, List.getElem?_eq_getElem h]
theorem at0_elem {l : List Int} {i : Nat} (h : i < l.length) : l[i] = at0 l i := by
 simp [at0, List.getElem?_eq_getElem h]
theorem at0_set {l : List Int} {i j : Nat} {v : Int} (h : i < l.length) : at0 (l.set i v) j = if i = j then v else at0 l j := by
 simp only [at0, List.getD_eq_getElem?_getD, List.getElem?_set];split
 · rename_i e; subst e; simp [h]
 · rfl
theorem at0_mem {l : List Int} {i : Nat} (h : i < l.length) : at0 l i ∈ l := List.mem_of_getElem? (at0_get h)
theorem mem_at0 {l : List Int} {x : Int} (h : x ∈ l) : ∃ i, i < l.length ∧ at0 l i = x := by
 obtain ⟨i, hi, e⟩ := List.getElem_of_mem h;exact ⟨i, hi, by rw [← at0_elem hi, e]⟩
def swp (l : List Int) (i j : Nat) : List Int := (l.set i (at0 l j)).set j (at0 l i)
theorem swp_len {l : List Int} {i j : Nat} : (swp l i j).length = l.length := by simp [swp]
theorem swp_at {l : List Int} {i j k : Nat} (hi : i < l.length) (hj : j < l.length) : at0 (swp l i j) k = if j = k then at0 l i else if i = k then at0 l j else at0 l k := by
 rw [swp, at0_set (by simpa using hj)];split
 · rfl
 · rw [at0_set hi]
theorem set_perm {l : List Int} {i : Nat} (h : i < l.length) (v : Int) : (at0 l i :: l.set i v).Perm (v :: l) := by
 rw [List.perm_iff_count];intro x;rw [List.count_cons, List.count_cons, List.count_set h, at0_elem h]
 have h1 : (if (at0 l i == x) = true then 1 else 0) ≤ l.count x := by
   split
   · rename_i e;have : at0 l i = x := by simpa using e
     rw [← this]; exact List.count_pos_iff.2 (at0_mem h)
   · omega
 omega
theorem swp_perm {l : List Int} {i j : Nat} (hi : i < l.length) (hj : j < l.length) : (swp l i j).Perm l := by
 have h1 := set_perm (l := l.set i (at0 l j)) (i := j) (by simpa using hj) (at0 l i);have h2 := set_perm hi (at0 l j);have e : at0 (l.set i (at0 l j)) j = at0 l j := by rw [at0_set hi]; split <;> simp_all
 rw [e] at h1;exact ((h1.trans h2).cons_inv)
def up (j : Nat) : Nat := (j - 1) / 2
def HeapL (l : List Int) : Prop := ∀ j, 0 < j → j < l.length → at0 l (up j) ≤ at0 l j
def UpI (l : List Int) (i : Nat) : Prop := i < l.length ∧ (∀ j, 0 < j → j < l.length → j ≠ i → at0 l (up j) ≤ at0 l j) ∧ (∀ j, 0 < j → j < l.length → up j = i → 0 < i → at0 l (up i) ≤ at0 l j)
def DownI (l : List Int) (i : Nat) : Prop := (∀ j, 0 < j → j < l.length → up j ≠ i → at0 l (up j) ≤ at0 l j) ∧ (0 < i → ∀ j, 0 < j → j < l.length → up j = i → at0 l (up i) ≤ at0 l j)
theorem HeapL.nil : HeapL [] := fun j _ h => absurd h (Nat.not_lt_zero _)
theorem UpI.start {l : List Int} {n : Int} (h : HeapL l) : UpI (l ++ [n]) l.length := by
 have ha : ∀ j, j < l.length → at0 (l ++ [n]) j = at0 l j := fun j hj => by simp [at0, List.getElem?_append_left hj]
 refine ⟨by simp, fun j h1 h2 h3 => ?_, fun j h1 h2 h3 h4 => ?_⟩
 · have h5 : j < l.length := by simp at h2; omega
   rw [ha _ (by unfold up; omega), ha _ h5]; exact h j h1 h5
 · exfalso; simp at h2; unfold up at h3; omega
theorem UpI.stop {l : List Int} {i : Nat} (h : UpI l i) (hs : i = 0 ∨ at0 l (up i) ≤ at0 l i) : HeapL l := fun j h1 h2 => by
 by_cases e : j = i
 · subst e; rcases hs with hs | hs
   · omega
   · exact hs
 · exact h.2.1 j h1 h2 e
theorem UpI.step {l : List Int} {i : Nat} (h : UpI l i) (h0 : 0 < i) (hs : at0 l i < at0 l (up i)) : UpI (swp l (up i) i) (up i) := by
 have hu : up i < i := by unfold up; omega
 have hi := h.1;have hp : up i < l.length := by omega
 refine ⟨by rw [swp_len]; exact hp, fun j h1 h2 h3 => ?_, fun j h1 h2 h3 h4 => ?_⟩
 · rw [swp_len] at h2;rw [swp_at hp hi, swp_at hp hi];by_cases e : i = j
   · subst e;rw [if_neg (by omega), if_pos rfl, if_pos rfl]; omega
   · rw [if_neg e, if_neg (show ¬ up i = j from fun q => h3 q.symm)];by_cases e2 : i = up j
     · rw [if_pos e2];exact h.2.2 j h1 h2 e2.symm h0
     · rw [if_neg e2];by_cases e3 : up i = up j
       · rw [if_pos e3];have := h.2.1 j h1 h2 (fun q => e q.symm);rw [← e3] at this; omega
       · rw [if_neg e3]; exact h.2.1 j h1 h2 (fun q => e q.symm)
 · rw [swp_len] at h2;have hq : up (up i) < up i := by unfold up at *; omega
   rw [swp_at hp hi, swp_at hp hi, if_neg (by omega), if_neg (by omega)];have h5 := h.2.1 (up i) (by omega) hp (by omega);by_cases e : i = j
   · rw [if_pos e]; exact h5
   · rw [if_neg e];by_cases e2 : up i = j
     · exfalso; rw [← e2] at h3; unfold up at h3 h4; omega
     · rw [if_neg e2];have := h.2.1 j h1 h2 (fun q => e q.symm);rw [h3] at this; omega
theorem DownI.stop {l : List Int} {i : Nat} (h : DownI l i) (hs : ∀ j, 0 < j → j < l.length → up j = i → at0 l i ≤ at0 l j) : HeapL l := fun j h1 h2 => by
 by_cases e : up j = i
 · rw [e]; exact hs j h1 h2 e
 · exact h.1 j h1 h2 e
theorem DownI.step {l : List Int} {i k : Nat} (h : DownI l i) (hi : i < l.length) (hk : k < l.length) (hk0 : 0 < k) (hu : up k = i) (hm : ∀ j, 0 < j → j < l.length → up j = i → at0 l k ≤ at0 l j) (hs : at0 l k < at0 l i) : DownI (swp l i k) k := by
 have hik : i < k := by unfold up at hu; omega
 refine ⟨fun j h1 h2 h3 => ?_, fun _ j h1 h2 h3 => ?_⟩
 · rw [swp_len] at h2;rw [swp_at hi hk, swp_at hi hk, if_neg (fun q => h3 q.symm)];by_cases e : i = up j
   · rw [if_pos e];by_cases e2 : k = j
     · rw [if_pos e2]; omega
     · rw [if_neg e2];have : i ≠ j := by unfold up at e; omega
       rw [if_neg this]; exact hm j h1 h2 e.symm
   · rw [if_neg e];have e2 : k ≠ j := fun q => e (by rw [← q, hu]);rw [if_neg e2];by_cases e3 : i = j
     · rw [if_pos e3];subst e3;exact h.2 h1 k hk0 hk hu
     · rw [if_neg e3]; exact h.1 j h1 h2 (fun q => e q.symm)
 · rw [swp_len] at h2;have hkj : k < j := by unfold up at h3; omega
   rw [swp_at hi hk, swp_at hi hk, if_neg (by omega), if_pos hu.symm, if_neg (by omega), if_neg (by omega)];rw [← h3]; exact h.1 j h1 h2 (by omega)
theorem HeapL.least {l : List Int} (h : HeapL l) : ∀ (j : Nat), j < l.length → at0 l 0 ≤ at0 l j := by
 intro j;induction j using Nat.strongRecOn with
 | ind j ih =>
   intro hj;by_cases e : j = 0
   · subst e; exact Int.le_refl _
   · have h1 := h j (by omega) hj;have h2 := ih (up j) (by unfold up; omega) (by unfold up; omega);omega
def mv0 (l : List Int) : List Int := (l.set 0 (at0 l (l.length - 1))).take (l.length - 1)
theorem mv0_len {l : List Int} : (mv0 l).length = l.length - 1 := by simp [mv0]
theorem take_at {l : List Int} {n j : Nat} (h : j < n) : at0 (l.take n) j = at0 l j := by
 simp [at0, List.getElem?_take_of_lt h]
theorem mv0_down {l : List Int} (h : HeapL l) : DownI (mv0 l) 0 := by
 refine ⟨fun j h1 h2 h3 => ?_, fun h0 => absurd h0 (Nat.lt_irrefl _)⟩;rw [mv0_len] at h2;have hl : 0 < l.length := by omega
 have hu : up j < j := by unfold up; omega
 rw [mv0, take_at (by omega), take_at h2, at0_set hl, at0_set hl, if_neg (by omega), if_neg (by omega)];exact h j h1 (by omega)
theorem mv0_perm {l : List Int} (h : l ≠ []) : (at0 l 0 :: mv0 l).Perm l := by
 have hl : 0 < l.length := List.length_pos_iff.2 h;have h1 := set_perm hl (at0 l (l.length - 1))
 have h2 : ∀ m : List Int, m ≠ [] → (at0 m (m.length - 1) :: m.take (m.length - 1)).Perm m := fun m hm => by
   have h3 : m.take (m.length - 1) ++ [at0 m (m.length - 1)] = m := by
     have h4 : 0 < m.length := List.length_pos_iff.2 hm;rw [← at0_elem (by omega), List.take_append_getElem];rw [Nat.sub_add_cancel h4, List.take_length]
   exact (List.perm_append_comm (l₁ := [_])).trans (by rw [h3])
 have h4 := h2 (l.set 0 (at0 l (l.length - 1))) (by intro e; apply h; simpa using e);rw [List.length_set, at0_set hl] at h4;have e : (if 0 = l.length - 1 then at0 l (l.length - 1) else at0 l (l.length - 1)) = at0 l (l.length - 1) := by split <;> rfl
 rw [e] at h4;have h5 := (h4.cons (at0 l 0)).trans h1;have h6 := (List.Perm.swap (at0 l 0) (at0 l (l.length - 1)) (mv0 l)).trans h5;exact h6.cons_inv
end Go.Proofs.YtmlhhdiomijpfaaGreatDoor.E7

set_option linter.unusedSimpArgs false
set_option linter.unusedVariables false
namespace Go.Proofs.YtmlhhdiomijpfaaGreatDoor.E7
open Go.Pv
abbrev nd_ (nd : List (List Int)) (i : Nat) : List Int := nd.getD i []
def rdyB (nd : List (List Int)) (D : List Int) (i : Nat) : Bool := decide ((i : Int) ∉ D) && (nd_ nd i).all fun z => decide (z ∈ D)
theorem rdyB_iff {nd : List (List Int)} {D : List Int} {i : Nat} : rdyB nd D i = true ↔ (i : Int) ∉ D ∧ ∀ z ∈ nd_ nd i, z ∈ D := by
 simp [rdyB]
def leastR (nd : List (List Int)) (D : List Int) : Option Nat := (List.range nd.length).find? (rdyB nd D)
def leftR (nd : List (List Int)) (D : List Int) : Nat := ((List.range nd.length).filter fun i : Nat => decide ((i : Int) ∉ D)).length
def ordF (nd : List (List Int)) : Nat → List Int → List Int
 | 0, D => D
 | f + 1, D => match leastR nd D with | none => D | some i => ordF nd f (D ++ [(i : Int)])
def ordR (nd : List (List Int)) : List Int := ordF nd nd.length []
structure OrdAt (nd : List (List Int)) (D : List Int) : Prop where
 ord : ordF nd (leftR nd D) D = ordR nd
 len : D.length + leftR nd D = nd.length
 rng : ∀ x ∈ D, 0 ≤ x ∧ x < nd.length
 nodup : D.Nodup
 clo : ∀ i : Nat, (i : Int) ∈ D → ∀ z ∈ nd_ nd i, z ∈ D
theorem OrdAt.nil {nd : List (List Int)} : OrdAt nd [] := by
 have h : leftR nd [] = nd.length := by
   simp [leftR, List.filter_eq_self.2 (fun a _ => rfl : ∀ a ∈ List.range nd.length, (fun _ => true) a = true)]
 exact ⟨by rw [h]; rfl, by rw [h]; simp, by simp, List.nodup_nil, by simp⟩
theorem filter_less {p : Nat → Bool} {i : Nat} : ∀ {l : List Nat}, l.Nodup → i ∈ l → p i = true → (l.filter p).length = (l.filter fun x => p x && decide (x ≠ i)).length + 1
 | [], _, h, _ => by cases h
 | a :: l, hn, h, hp => by
   have hn' := List.nodup_cons.1 hn;by_cases e : a = i
   · subst e
     have h2 : l.filter (fun x => p x && decide (x ≠ a)) = l.filter p := List.filter_congr fun x hx => by
       have : x ≠ a := fun e => hn'.1 (e ▸ hx);simp [this]
     rw [List.filter_cons_of_pos hp, List.filter_cons_of_neg (by simp), h2]; rfl
   · have h3 := filter_less hn'.2 ((List.mem_cons.1 h).resolve_left (fun q => e q.symm)) hp;by_cases hpa : p a = true
     · rw [List.filter_cons_of_pos hpa, List.filter_cons_of_pos (by simp [hpa, e]), List.length_cons, List.length_cons, h3]
     · rw [List.filter_cons_of_neg hpa, List.filter_cons_of_neg (by simp [hpa]), h3]
theorem left_step {nd : List (List Int)} {D : List Int} {i : Nat} (hi : i < nd.length) (hD : (i : Int) ∉ D) : leftR nd D = leftR nd (D ++ [(i : Int)]) + 1 := by
 rw [leftR, filter_less List.nodup_range (List.mem_range.2 hi) (by simp [hD])]
 have : (fun x : Nat => decide ((x : Int) ∉ D) && decide (x ≠ i)) = fun x : Nat => decide ((x : Int) ∉ D ++ [(i : Int)]) := by
   funext x;rw [Bool.eq_iff_iff];simp only [Bool.and_eq_true, decide_eq_true_eq, List.mem_append, List.mem_singleton, not_or];constructor
   · rintro ⟨h1, h2⟩; exact ⟨h1, by omega⟩
   · rintro ⟨h1, h2⟩; exact ⟨h1, by omega⟩
 rw [this]; rfl
theorem least_some {nd : List (List Int)} {D : List Int} {i : Nat} (hi : i < nd.length) (h : rdyB nd D i = true) (hm : ∀ j, j < nd.length → rdyB nd D j = true → i ≤ j) : leastR nd D = some i := by
 rw [leastR, List.find?_range_eq_some]
 exact ⟨h, List.mem_range.2 hi, fun j hj => by
   cases e : rdyB nd D j with
   | false => rfl
   | true => exact absurd (hm j (by omega) e) (by omega)⟩
theorem least_none {nd : List (List Int)} {D : List Int} (h : ∀ j, j < nd.length → rdyB nd D j = false) : leastR nd D = none := by
 rw [leastR, List.find?_eq_none];intro j hj;rw [h j (List.mem_range.1 hj)]; decide
theorem OrdAt.step {nd : List (List Int)} {D : List Int} {i : Nat} (h : OrdAt nd D) (hi : i < nd.length) (hr : rdyB nd D i = true) (hm : ∀ j, j < nd.length → rdyB nd D j = true → i ≤ j) : OrdAt nd (D ++ [(i : Int)]) := by
 have h1 := rdyB_iff.1 hr;have h2 := left_step hi h1.1;refine ⟨?_, ?_, ?_, ?_, ?_⟩
 · have := h.ord;rw [h2, ordF, least_some hi hr hm] at this;exact this
 · have := h.len;rw [List.length_append, List.length_singleton]; omega
 · intro x hx;rcases List.mem_append.1 hx with h3 | h3
   · exact h.rng x h3
   · rw [List.mem_singleton.1 h3]; omega
 · rw [List.nodup_append];exact ⟨h.nodup, by simp, fun a ha b hb e => h1.1 (by rw [List.mem_singleton.1 hb] at e; exact e ▸ ha)⟩
 · intro j hj z hz;rcases List.mem_append.1 hj with h3 | h3
   · exact List.mem_append_left _ (h.clo j h3 z hz)
   · have : j = i := by have := List.mem_singleton.1 h3; omega
     subst this;exact List.mem_append_left _ (h1.2 z hz)
theorem OrdAt.stop {nd : List (List Int)} {D : List Int} (h : OrdAt nd D) (hr : ∀ j, j < nd.length → rdyB nd D j = false) : D = ordR nd := by
 have := h.ord;cases hl : leftR nd D with
 | zero => rw [hl] at this; exact this
 | succ n => rw [hl, ordF, least_none hr] at this; exact this
theorem pigeon : ∀ (n : Nat) (l : List Int), l.Nodup → (∀ x ∈ l, 0 ≤ x ∧ x < n) → l.length ≤ n
 | 0, l, _, h => by
   cases l with
   | nil => exact Nat.le_refl _
   | cons a l => have := h a (by simp); omega
 | n + 1, l, hn, h => by
   have h1 := pigeon n (l.erase (n : Int)) (hn.erase _) fun x hx => by
     have h2 := hn.mem_erase_iff.1 hx;have h3 := h x h2.2;have := h2.1;omega
   have h4 := List.length_erase (a := (n : Int)) (l := l);split at h4 <;> omega
structure RdI (n : Nat) (rd : List Int) (p : Nat → Prop) : Prop where
 heap : HeapL rd
 nodup : rd.Nodup
 mem : ∀ y, y ∈ rd ↔ ∃ i, i < n ∧ y = (i : Int) ∧ p i
theorem RdI.nil {n : Nat} {p : Nat → Prop} (h : ∀ i, i < n → ¬ p i) : RdI n [] p :=
 ⟨.nil, List.nodup_nil, fun y => ⟨fun h1 => (by cases h1), fun ⟨i, h1, _, h2⟩ => absurd h2 (h i h1)⟩⟩
theorem RdI.congr {n : Nat} {rd : List Int} {p q : Nat → Prop} (h : RdI n rd p) (he : ∀ i, i < n → (p i ↔ q i)) : RdI n rd q :=
 ⟨h.heap, h.nodup, fun y => (h.mem y).trans ⟨fun ⟨i, h1, h2, h3⟩ => ⟨i, h1, h2, (he i h1).1 h3⟩, fun ⟨i, h1, h2, h3⟩ => ⟨i, h1, h2, (he i h1).2 h3⟩⟩⟩
theorem RdI.len {n : Nat} {rd : List Int} {p : Nat → Prop} (h : RdI n rd p) : rd.length ≤ n := pigeon n rd h.nodup fun x hx => by
 obtain ⟨i, h1, rfl, _⟩ := (h.mem x).1 hx; omega
theorem RdI.push {n : Nat} {rd rd' : List Int} {p : Nat → Prop} {i : Nat} (h : RdI n rd p) (hi : i < n) (hp : ¬ p i) (hh : HeapL rd') (hperm : rd'.Perm ((i : Int) :: rd)) : RdI n rd' (fun j => p j ∨ j = i) := by
 have hni : (i : Int) ∉ rd := fun hm => by
   obtain ⟨j, h1, h2, h3⟩ := (h.mem _).1 hm;have : i = j := by omega
   exact hp (this ▸ h3)
 refine ⟨hh, hperm.nodup_iff.2 (List.nodup_cons.2 ⟨hni, h.nodup⟩), fun y => ?_⟩;rw [hperm.mem_iff, List.mem_cons, h.mem];constructor
 · rintro (rfl | ⟨j, h1, h2, h3⟩)
   · exact ⟨i, hi, rfl, .inr rfl⟩
   · exact ⟨j, h1, h2, .inl h3⟩
 · rintro ⟨j, h1, h2, h3 | h3⟩
   · exact .inr ⟨j, h1, h2, h3⟩
   · exact .inl (by rw [h2, h3])
theorem RdI.top {n : Nat} {rd : List Int} {p : Nat → Prop} (h : RdI n rd p) (hne : rd ≠ []) : ∃ i, i < n ∧ at0 rd 0 = (i : Int) ∧ p i ∧ ∀ j, j < n → p j → i ≤ j := by
 have h0 : 0 < rd.length := List.length_pos_iff.2 hne;obtain ⟨i, h1, h2, h3⟩ := (h.mem _).1 (at0_mem h0);refine ⟨i, h1, h2, h3, fun j h4 h5 => ?_⟩;obtain ⟨k, h6, h7⟩ := mem_at0 ((h.mem (j : Int)).2 ⟨j, h4, rfl, h5⟩);have h8 := h.heap.least k h6;omega
theorem RdI.pop {n : Nat} {rd rd' : List Int} {p : Nat → Prop} {i : Nat} (h : RdI n rd p) (hi : at0 rd 0 = (i : Int)) (hh : HeapL rd') (hperm : (at0 rd 0 :: rd').Perm rd) : RdI n rd' (fun j => p j ∧ j ≠ i) := by
 have hnd := List.nodup_cons.1 (hperm.nodup_iff.2 h.nodup);refine ⟨hh, hnd.2, fun y => ?_⟩
 have h1 : y ∈ rd' ↔ y ∈ rd ∧ y ≠ (i : Int) := by
   rw [← hperm.mem_iff, List.mem_cons, hi];constructor
   · intro h2;exact ⟨.inr h2, fun e => hnd.1 (by rw [hi, ← e]; exact h2)⟩
   · rintro ⟨h2 | h2, h3⟩
     · exact absurd h2 h3
     · exact h2
 rw [h1, h.mem];constructor
 · rintro ⟨⟨j, h2, h3, h4⟩, h5⟩
   exact ⟨j, h2, h3, h4, fun e => h5 (by rw [h3, e])⟩
 · rintro ⟨j, h2, h3, h4, h5⟩
   exact ⟨⟨j, h2, h3, h4⟩, by omega⟩
structure NdOK (nd : List (List Int)) : Prop where
 rng : ∀ i, ∀ z ∈ nd_ nd i, 0 ≤ z ∧ z < nd.length
 nodup : ∀ i, (nd_ nd i).Nodup
def cntO (nd : List (List Int)) (D : List Int) (i : Nat) : Nat := ((nd_ nd i).filter fun z => decide (z ∉ D)).length
theorem cntO_nil {nd : List (List Int)} {i : Nat} : cntO nd [] i = (nd_ nd i).length := by
 simp [cntO]
theorem cntO_le {nd : List (List Int)} {D : List Int} {i : Nat} : cntO nd D i ≤ (nd_ nd i).length := List.length_filter_le _ _
theorem cntO_0 {nd : List (List Int)} {D : List Int} {i : Nat} : cntO nd D i = 0 ↔ ∀ z ∈ nd_ nd i, z ∈ D := by
 simp [cntO, List.filter_eq_nil_iff]
theorem cntO_far {nd : List (List Int)} {D : List Int} {i : Nat} {x : Int} (h : x ∉ nd_ nd i) : cntO nd (D ++ [x]) i = cntO nd D i := by
 rw [cntO, cntO];congr 1;refine List.filter_congr fun z hz => ?_;have : z ≠ x := fun e => h (e ▸ hz);simp [this]
theorem filter_less' {p : Int → Bool} {i : Int} : ∀ {l : List Int}, l.Nodup → i ∈ l → p i = true → (l.filter p).length = (l.filter fun x => p x && decide (x ≠ i)).length + 1
 | [], _, h, _ => by cases h
 | a :: l, hn, h, hp => by
   have hn' := List.nodup_cons.1 hn;by_cases e : a = i
   · subst e
     have h2 : l.filter (fun x => p x && decide (x ≠ a)) = l.filter p := List.filter_congr fun x hx => by
       have : x ≠ a := fun e => hn'.1 (e ▸ hx);simp [this]
     rw [List.filter_cons_of_pos hp, List.filter_cons_of_neg (by simp), h2]; rfl
   · have h3 := filter_less' hn'.2 ((List.mem_cons.1 h).resolve_left (fun q => e q.symm)) hp;by_cases hpa : p a = true
     · rw [List.filter_cons_of_pos hpa, List.filter_cons_of_pos (by simp [hpa, e]), List.length_cons, List.length_cons, h3]
     · rw [List.filter_cons_of_neg hpa, List.filter_cons_of_neg (by simp [hpa]), h3]
theorem cntO_near {nd : List (List Int)} {D : List Int} {i : Nat} {x : Int} (hn : (nd_ nd i).Nodup) (h : x ∈ nd_ nd i) (hD : x ∉ D) : cntO nd D i = cntO nd (D ++ [x]) i + 1 := by
 rw [cntO, filter_less' hn h (by simp [hD]), cntO];congr 2;refine List.filter_congr fun z hz => ?_;simp [not_or]
def usR (nd : List (List Int)) (x : Int) : List Int := ((List.range nd.length).filter fun i => decide (x ∈ nd_ nd i)).map fun i : Nat => (i : Int)
theorem usR_mem {nd : List (List Int)} {x : Int} {i : Nat} : (i : Int) ∈ usR nd x ↔ i < nd.length ∧ x ∈ nd_ nd i := by
 simp only [usR, List.mem_map, List.mem_filter, List.mem_range, decide_eq_true_eq];constructor
 · rintro ⟨j, h1, h2⟩
   have : j = i := by omega
   subst this; exact h1
 · intro h; exact ⟨i, h, rfl⟩
theorem usR_rng {nd : List (List Int)} {x y : Int} (h : y ∈ usR nd x) : ∃ i : Nat, y = (i : Int) ∧ i < nd.length ∧ x ∈ nd_ nd i := by
 simp only [usR, List.mem_map, List.mem_filter, List.mem_range, decide_eq_true_eq] at h;obtain ⟨j, h1, rfl⟩ := h;exact ⟨j, rfl, h1⟩
theorem usR_nodup {nd : List (List Int)} {x : Int} : (usR nd x).Nodup := by
 exact List.Pairwise.map _ (fun a b (h : a ≠ b) e => h (by have : (a : Int) = (b : Int) := e; omega)) (List.nodup_range.filter _)
theorem usR_len {nd : List (List Int)} {x : Int} : (usR nd x).length ≤ nd.length := by
 rw [usR, lM];have := List.length_filter_le (fun i : Nat => decide (x ∈ nd_ nd i)) (List.range nd.length);simpa using this
structure OpI (nd : List (List Int)) (op : List Int) (f : Nat → Nat) : Prop where
 len : op.length = nd.length
 val : ∀ i, i < nd.length → at0 op i = (f i : Int)
theorem OpI.set {nd : List (List Int)} {op : List Int} {f g : Nat → Nat} {i : Nat} {v : Int} (h : OpI nd op f) (hi : i < nd.length) (hv : v = (g i : Int)) (hg : ∀ j, j < nd.length → j ≠ i → g j = f j) : OpI nd (op.set i v) g := by
 refine ⟨by rw [List.length_set, h.len], fun j hj => ?_⟩;rw [at0_set (by rw [h.len]; exact hi)];split
 · rename_i e; subst e; exact hv
 · rename_i e;rw [hg j hj (fun q => e q.symm)]; exact h.val j hj
theorem OpI.congr {nd : List (List Int)} {op : List Int} {f g : Nat → Nat} (h : OpI nd op f) (he : ∀ i, i < nd.length → f i = g i) : OpI nd op g := ⟨h.len, fun i hi => by rw [h.val i hi, he i hi]⟩
structure KI (nd : List (List Int)) (D op rd : List Int) : Prop where
 ord : OrdAt nd D
 op : OpI nd op (cntO nd D)
 rd : RdI nd.length rd fun i => rdyB nd D i = true
structure KJ (nd : List (List Int)) (D : List Int) (x : Nat) (k : Nat) (op rd : List Int) : Prop where
 op : OpI nd op fun i => if (i : Int) ∈ (usR nd x).take k then cntO nd (D ++ [(x : Int)]) i else cntO nd D i
 rd : RdI nd.length rd fun i => (rdyB nd D i = true ∧ i ≠ x) ∨ ((i : Int) ∈ (usR nd x).take k ∧ cntO nd (D ++ [(x : Int)]) i = 0)
theorem KI.top {nd : List (List Int)} {D op rd rd' : List Int} (h : KI nd D op rd) (hne : rd ≠ []) (hh : HeapL rd') (hp : (at0 rd 0 :: rd').Perm rd) :
   ∃ x : Nat, x < nd.length ∧ at0 rd 0 = (x : Int) ∧ rdyB nd D x = true ∧ OrdAt nd (D ++ [(x : Int)]) ∧ leftR nd (D ++ [(x : Int)]) < leftR nd D ∧ KJ nd D x 0 op rd' := by
 obtain ⟨x, h1, h2, h3, h4⟩ := h.rd.top hne;refine ⟨x, h1, h2, h3, h.ord.step h1 h3 h4, ?_, ?_, ?_⟩
 · have := left_step h1 (rdyB_iff.1 h3).1; omega
 · exact h.op.congr fun i _ => by simp
 · exact (h.rd.pop h2 hh hp).congr fun i _ => by simp
theorem KJ.val {nd : List (List Int)} {D op rd : List Int} {x k : Nat} (h : KJ nd D x k op rd) (hok : NdOK nd) (hx : rdyB nd D x = true) (hk : k < (usR nd x).length) :
   ∃ u : Nat, at0 (usR nd x) k = (u : Int) ∧ u < nd.length ∧ at0 op u = (cntO nd (D ++ [(x : Int)]) u : Int) + 1 ∧ (u : Int) ∉ (usR nd x).take k ∧ rdyB nd D u = false := by
 have hm := at0_mem hk;obtain ⟨u, h1, h2, h3⟩ := usR_rng hm
 have hnt : (u : Int) ∉ (usR nd x).take k := fun hq => by
   obtain ⟨j, hj, e⟩ := List.getElem_of_mem hq;rw [List.length_take] at hj;rw [List.getElem_take] at e;have h5 : (usR nd x)[k] = (u : Int) := by rw [at0_elem hk]; exact h1
   have := (List.getElem_inj usR_nodup).1 (e.trans h5.symm);omega
 have hxD := (rdyB_iff.1 hx).1;refine ⟨u, h1, h2, ?_, hnt, ?_⟩
 · rw [h.op.val u h2, if_neg hnt, cntO_near (hok.nodup u) h3 hxD]; omega
 · cases e : rdyB nd D u with
   | false => rfl
   | true => exact absurd ((rdyB_iff.1 e).2 _ h3) hxD
theorem take_mem_succ {l : List Int} {k : Nat} (hk : k < l.length) {y : Int} : y ∈ l.take (k + 1) ↔ y ∈ l.take k ∨ y = at0 l k := by
 rw [← List.take_append_getElem hk, List.mem_append, List.mem_singleton, at0_elem hk]
theorem KJ.step {nd : List (List Int)} {D op rd rd' : List Int} {x k u : Nat} (h : KJ nd D x k op rd) (hok : NdOK nd) (hx : rdyB nd D x = true) (hk : k < (usR nd x).length) (hu : at0 (usR nd x) k = (u : Int)) (hul : u < nd.length) (hv : at0 op u = (cntO nd (D ++ [(x : Int)]) u : Int) + 1)
   (hn : (u : Int) ∉ (usR nd x).take k) (hr : rdyB nd D u = false) (hd : (cntO nd (D ++ [(x : Int)]) u = 0 ∧ HeapL rd' ∧ rd'.Perm ((u : Int) :: rd)) ∨ (cntO nd (D ++ [(x : Int)]) u ≠ 0 ∧ rd' = rd)) : KJ nd D x (k + 1) (op.set u (at0 op u - 1)) rd' := by
 refine ⟨?_, ?_⟩
 · refine h.op.set hul ?_ fun j hj hne => ?_
   · rw [if_pos ((take_mem_succ hk).2 (.inr hu.symm)), hv]; omega
   · have : (j : Int) ∈ (usR nd x).take (k + 1) ↔ (j : Int) ∈ (usR nd x).take k := by
       rw [take_mem_succ hk, hu];exact ⟨fun h1 => h1.resolve_right (fun e => hne (by omega)), .inl⟩
     simp only [this]
 · rcases hd with ⟨h1, h2, h3⟩ | ⟨h1, h2⟩
   · refine (h.rd.push hul (by rintro (⟨h4, _⟩ | ⟨h4, _⟩); (rw [hr] at h4; cases h4); exact hn h4) h2 h3).congr fun j hj => ?_;rw [take_mem_succ hk, hu];constructor
     · rintro ((h4 | h4) | h4)
       · exact .inl h4
       · exact .inr ⟨.inl h4.1, h4.2⟩
       · subst h4; exact .inr ⟨.inr rfl, h1⟩
     · rintro (h4 | ⟨h4 | h4, h5⟩)
       · exact .inl (.inl h4)
       · exact .inl (.inr ⟨h4, h5⟩)
       · exact .inr (by omega)
   · subst h2;refine h.rd.congr fun j hj => ?_;rw [take_mem_succ hk, hu];constructor
     · rintro (h4 | h4)
       · exact .inl h4
       · exact .inr ⟨.inl h4.1, h4.2⟩
     · rintro (h4 | ⟨h4 | h4, h5⟩)
       · exact .inl h4
       · exact .inr ⟨h4, h5⟩
       · have : j = u := by omega
         subst this; exact absurd h5 h1
theorem KJ.stop {nd : List (List Int)} {D op rd : List Int} {x k : Nat} (h : KJ nd D x k op rd) (ho : OrdAt nd D) (ho' : OrdAt nd (D ++ [(x : Int)])) (hx : rdyB nd D x = true) (hk : (usR nd x).length ≤ k) : KI nd (D ++ [(x : Int)]) op rd := by
 have ht : (usR nd x).take k = usR nd x := List.take_of_length_le hk;have hxi := rdyB_iff.1 hx;have hop := h.op; have hrd := h.rd;rw [ht] at hop hrd;refine ⟨ho', hop.congr fun i hi => ?_, hrd.congr fun i hi => ?_⟩
 · by_cases e : (i : Int) ∈ usR nd x
   · rw [if_pos e]
   · rw [if_neg e];exact (cntO_far fun h1 => e (usR_mem.2 ⟨hi, h1⟩)).symm
 · refine Iff.trans ?_ rdyB_iff.symm;constructor
   · rintro (⟨h1, h2⟩ | ⟨h1, h2⟩)
     · have h3 := rdyB_iff.1 h1;refine ⟨fun h4 => ?_, fun z hz => List.mem_append_left _ (h3.2 z hz)⟩;rcases List.mem_append.1 h4 with h5 | h5
       · exact h3.1 h5
       · exact h2 (by have := List.mem_singleton.1 h5; omega)
     · have h3 := usR_mem.1 h1;refine ⟨fun h4 => ?_, cntO_0.1 h2⟩;rcases List.mem_append.1 h4 with h5 | h5
       · exact hxi.1 (ho.clo i h5 _ h3.2)
       · have : i = x := by have := List.mem_singleton.1 h5; omega
         subst this;exact hxi.1 (hxi.2 _ h3.2)
   · rintro ⟨h1, h2⟩
     by_cases e : (x : Int) ∈ nd_ nd i
     · exact .inr ⟨usR_mem.2 ⟨hi, e⟩, cntO_0.2 h2⟩
     · refine .inl ⟨rdyB_iff.2 ⟨fun h3 => h1 (List.mem_append_left _ h3), fun z hz => ?_⟩, fun e2 => h1 (by rw [e2]; simp)⟩;rcases List.mem_append.1 (h2 z hz) with h3 | h3
       · exact h3
       · exact absurd (by rw [← List.mem_singleton.1 h3]; exact hz) e
theorem KI.stop {nd : List (List Int)} {D op : List Int} (h : KI nd D op []) : D = ordR nd := h.ord.stop fun j hj => by
 cases e : rdyB nd D j with
 | false => rfl
 | true => exact absurd ((h.rd.mem (j : Int)).2 ⟨j, hj, rfl, e⟩) (by simp)
structure K0 (nd : List (List Int)) (k : Nat) (op rd : List Int) : Prop where
 op : OpI nd op fun i => if i < k then (nd_ nd i).length else 0
 rd : RdI nd.length rd fun i => i < k ∧ nd_ nd i = []
theorem K0.start {nd : List (List Int)} : K0 nd 0 (List.replicate nd.length 0) [] :=
 ⟨⟨by simp, fun i hi => by simp [at0, List.getElem?_replicate, hi]⟩, .nil fun i _ h => absurd h.1 (Nat.not_lt_zero _)⟩
theorem K0.step {nd : List (List Int)} {k : Nat} {op rd rd' : List Int} (h : K0 nd k op rd) (hk : k < nd.length) (hd : ((nd_ nd k).length = 0 ∧ HeapL rd' ∧ rd'.Perm ((k : Int) :: rd)) ∨ ((nd_ nd k).length ≠ 0 ∧ rd' = rd)) : K0 nd (k + 1) (op.set k ((nd_ nd k).length : Int)) rd' := by
 refine ⟨h.op.set hk (by rw [if_pos (Nat.lt_succ_self _)]) fun j hj hne => ?_, ?_⟩
 · by_cases e : j < k
   · rw [if_pos (by omega), if_pos e]
   · rw [if_neg (by omega), if_neg e]
 · rcases hd with ⟨h1, h2, h3⟩ | ⟨h1, h2⟩
   · refine (h.rd.push hk (fun h4 => absurd h4.1 (Nat.lt_irrefl _)) h2 h3).congr fun j hj => ?_;constructor
     · rintro (h4 | h4)
       · exact ⟨by omega, h4.2⟩
       · subst h4; exact ⟨by omega, List.eq_nil_of_length_eq_zero h1⟩
     · rintro ⟨h4, h5⟩
       by_cases e : j = k
       · exact .inr e
       · exact .inl ⟨by omega, h5⟩
   · subst h2;refine h.rd.congr fun j hj => ?_;constructor
     · rintro ⟨h4, h5⟩; exact ⟨by omega, h5⟩
     · rintro ⟨h4, h5⟩
       by_cases e : j = k
       · subst e; rw [h5] at h1; exact absurd rfl h1
       · exact ⟨by omega, h5⟩
theorem K0.stop {nd : List (List Int)} {k : Nat} {op rd : List Int} (h : K0 nd k op rd) (hk : nd.length ≤ k) : KI nd [] op rd := by
 refine ⟨.nil, h.op.congr fun i hi => ?_, h.rd.congr fun i hi => ?_⟩
 · rw [if_pos (by omega), cntO_nil]
 · refine Iff.trans ?_ rdyB_iff.symm;constructor
   · rintro ⟨_, h2⟩; rw [h2]; simp
   · rintro ⟨_, h2⟩
     exact ⟨by omega, List.eq_nil_iff_forall_not_mem.2 fun z hz => absurd (h2 z hz) (by simp)⟩
end Go.Proofs.YtmlhhdiomijpfaaGreatDoor.E7
