import Derived.Test.YtjmjiegplnfiiaaAccA
/- Orders that are right, turned round; the reverse of the reverse plan. Plain laws. No conditions. -/
set_option linter.unusedSimpArgs false
set_option linter.unusedVariables false
namespace Go.Proofs.Ytjmjiegplnfiiaa
open Go Go.Pv

/-! ### Right orders -/
def AccOK (nd : List (List Int)) (D : List Int) : Prop := ∀ k, k < D.length → accE nd (D.take k) (at0 D k) = 0
theorem acE_iff {nd : List (List Int)} {D : List Int} {z : Int} : accE nd D z = 0 ↔ (0 ≤ z ∧ z < nd.length) ∧ z ∉ D ∧ ∀ y ∈ nd_ nd z.toNat, y ∈ D := by
  unfold accE
  split
  · rename_i h; simp; intro h1 h2; omega
  · rename_i h
    split
    · rename_i h2; simp [h2]
    · rename_i h2
      split
      · rename_i h3
        constructor
        · intro q; cases q
        · rintro ⟨_, _, h4⟩; exact absurd h4 h3
      · rename_i h3
        exact ⟨fun _ => ⟨by omega, h2, Classical.not_not.1 h3⟩, fun _ => rfl⟩
theorem acc2_iff {nd : List (List Int)} {ds : List Int} : (accR nd ds).2 = 0 ↔ AccOK nd ds ∧ nd.length ≤ ds.length := by
  by_cases h : AccOK nd ds
  · have h1 := acc_none (nd := nd) (ds := ds) (k := ds.length) h (Nat.le_refl _)
    rw [h1]
    split
    · rename_i h2
      exact ⟨fun q => (by cases q), fun ⟨_, q⟩ => (by omega)⟩
    · rename_i h2
      exact ⟨fun _ => ⟨h, by omega⟩, fun _ => rfl⟩
  · constructor
    · intro q
      refine absurd (fun k hk => ?_) h
      rw [accR] at q
      split at q
      · rename_i j hj
        rw [List.find?_range_eq_some] at hj
        exact absurd q (of_decide_eq_true hj.1)
      · rename_i hj
        rw [List.find?_eq_none] at hj
        have := hj k (List.mem_range.2 hk)
        simpa using this
    · rintro ⟨q, _⟩; exact absurd q h
theorem acc_full {nd : List (List Int)} {ds : List Int} (h : (accR nd ds).2 = 0) : accR nd ds = (-1, 0) := by
  obtain ⟨h1, h2⟩ := acc2_iff.1 h
  exact acc_ok (k := ds.length) h1 (Nat.le_refl _) (by omega)
theorem at0_append {l m : List Int} {i : Nat} (h : i < l.length) : at0 (l ++ m) i = at0 l i := by simp [at0, List.getElem?_append_left h]
theorem at0_last {l : List Int} {x : Int} : at0 (l ++ [x]) l.length = x := by simp [at0]
theorem mem_take {l : List Int} {k : Nat} {x : Int} : x ∈ l.take k ↔ ∃ i, i < k ∧ i < l.length ∧ at0 l i = x := by
  constructor
  · intro h
    obtain ⟨i, hi, e⟩ := mem_at0 h
    rw [List.length_take] at hi
    exact ⟨i, by omega, by omega, by rw [take_at (by omega)] at e; exact e⟩
  · rintro ⟨i, h1, h2, rfl⟩
    rw [← take_at h1]
    exact at0_mem (by rw [List.length_take]; omega)
section
variable {nd : List (List Int)} {D : List Int}
theorem AccOK.rng (h : AccOK nd D) : ∀ x ∈ D, 0 ≤ x ∧ x < nd.length := fun x hx => by
  obtain ⟨k, hk, rfl⟩ := mem_at0 hx
  exact (acE_iff.1 (h k hk)).1
theorem AccOK.ne (h : AccOK nd D) {i j : Nat} (hij : i < j) (hj : j < D.length) : at0 D i ≠ at0 D j := fun e =>
  (acE_iff.1 (h j hj)).2.1 (e ▸ mem_take.2 ⟨i, hij, by omega, rfl⟩)
theorem AccOK.nodup (h : AccOK nd D) : D.Nodup := by
  rw [List.Nodup, List.pairwise_iff_getElem]
  intro i j hi hj hij
  rw [at0_elem hi, at0_elem hj]
  exact h.ne hij hj
theorem AccOK.len (h : AccOK nd D) : D.length ≤ nd.length := pigeon _ _ h.nodup h.rng
theorem AccOK.all (h : AccOK nd D) (hl : nd.length ≤ D.length) {i : Nat} (hi : i < nd.length) : (i : Int) ∈ D := by
  refine Classical.byContradiction fun hn => ?_
  have := pigeon nd.length ((i : Int) :: D) (List.nodup_cons.2 ⟨hn, h.nodup⟩) fun x hx => by
    rcases List.mem_cons.1 hx with rfl | hx
    · omega
    · exact h.rng x hx
  simp only [List.length_cons] at this
  omega
theorem AccOK.nil : AccOK nd [] := fun k hk => absurd hk (Nat.not_lt_zero _)
theorem AccOK.snoc (h : AccOK nd D) {i : Nat} (hi : i < nd.length) (hr : rdyB nd D i = true) : AccOK nd (D ++ [(i : Int)]) := fun k hk => by
  rw [List.length_append, List.length_singleton] at hk
  by_cases e : k = D.length
  · subst e
    rw [at0_last, List.take_left]
    have h1 := rdyB_iff.1 hr
    exact acE_iff.2 ⟨by omega, h1.1, by rw [Int.toNat_natCast]; exact h1.2⟩
  · rw [at0_append (by omega), List.take_append_of_le_length (by omega)]
    exact h k (by omega)
theorem ordF_acc : ∀ (f : Nat) {D : List Int}, AccOK nd D → AccOK nd (ordF nd f D)
  | 0, D, h => h
  | f + 1, D, h => by
    unfold ordF
    cases e : leastR nd D with
    | none => exact h
    | some i =>
      rw [leastR, List.find?_range_eq_some] at e
      exact ordF_acc f (h.snoc (List.mem_range.1 e.2.1) e.1)
theorem ordF_stuck : ∀ (f : Nat) {D : List Int}, OrdAt nd D → leftR nd D ≤ f → ∀ j, j < nd.length → rdyB nd (ordF nd f D) j = false
  | 0, D, h, hf => fun j hj => by
    cases e : rdyB nd (ordF nd 0 D) j with
    | false => rfl
    | true =>
      have h1 := left_step hj (rdyB_iff.1 e).1
      have h2 : leftR nd (ordF nd 0 D) = leftR nd D := rfl
      omega
  | f + 1, D, h, hf => by
    unfold ordF
    cases e : leastR nd D with
    | none =>
      intro j hj
      rw [leastR, List.find?_eq_none] at e
      have := e j (List.mem_range.2 hj)
      simpa using this
    | some i =>
      have e' := e
      rw [leastR, List.find?_range_eq_some] at e'
      obtain ⟨h1, h2, h3⟩ := e'
      have hi := List.mem_range.1 h2
      have hs := h.step hi h1 fun j hj hr => by
        rcases Nat.lt_or_ge j i with h4 | h4
        · have h5 := h3 j h4; rw [hr] at h5; cases h5
        · exact h4
      have := left_step hi (rdyB_iff.1 h1).1
      exact ordF_stuck f hs (by omega)
/-- If there is a right order, the order is full. -/
theorem ord_full {O : List Int} (h : AccOK nd O) (hl : nd.length ≤ O.length) : ¬ (ordR nd).length < nd.length := by
  have hst := ordF_stuck (nd := nd) nd.length .nil (by have := (OrdAt.nil (nd := nd)).len; simpa using Nat.le_of_eq this)
  have hin : ∀ k, k < O.length → at0 O k ∈ ordR nd := by
    intro k
    induction k using Nat.strongRecOn with
    | ind k ih =>
      intro hk
      have h1 := acE_iff.1 (h k hk)
      refine Classical.byContradiction fun hn => ?_
      have h2 := hst (at0 O k).toNat (by omega)
      have h3 : rdyB nd (ordR nd) (at0 O k).toNat = true := by
        rw [rdyB_iff, Int.toNat_of_nonneg h1.1.1]
        refine ⟨hn, fun y hy => ?_⟩
        obtain ⟨i, h4, h5, rfl⟩ := mem_take.1 (h1.2.2 y hy)
        exact ih i h4 h5
      have h4 : rdyB nd (ordR nd) (at0 O k).toNat = false := h2
      rw [h3] at h4; cases h4
  have hO := ordF_acc (nd := nd) nd.length .nil
  have h5 := (ordF_at (nd := nd) nd.length .nil).len
  have h6 : leftR nd (ordR nd) = 0 := by
    rw [leftR, List.length_eq_zero_iff, List.filter_eq_nil_iff]
    intro i hi
    obtain ⟨k, hk, e⟩ := mem_at0 (h.all hl (List.mem_range.1 hi))
    have := hin k hk
    rw [e] at this
    simp [this]
  have h7 : (ordR nd).length + leftR nd (ordR nd) = nd.length := h5
  omega

/-! ### Turned round -/
theorem usL_at {i : Nat} (hi : i < nd.length) : nd_ (usL nd) i = usR nd (i : Int) := by
  simp [nd_, List.getD_eq_getElem?_getD, usL_get hi]
theorem at0_rev {l : List Int} {k : Nat} (hk : k < l.length) : at0 l.reverse k = at0 l (l.length - 1 - k) := by
  rw [at0, List.getD_eq_getElem?_getD, List.getElem?_reverse hk]; rfl
theorem acc_rev (h : AccOK nd D) (hl : nd.length ≤ D.length) : AccOK (usL nd) D.reverse := fun k hk => by
  rw [List.length_reverse] at hk
  have hp : D.length - 1 - k < D.length := by omega
  have h1 := acE_iff.1 (h _ hp)
  rw [at0_rev hk]
  refine acE_iff.2 ⟨by rw [usL_len]; exact h1.1, fun hm => ?_, fun y hy => ?_⟩
  · obtain ⟨j, h2, h3, h4⟩ := mem_take.1 hm
    rw [List.length_reverse] at h3
    rw [at0_rev h3] at h4
    exact h.ne (i := D.length - 1 - k) (j := D.length - 1 - j) (by omega) (by omega) h4.symm
  · rw [usL_at (by omega), Int.toNat_of_nonneg h1.1.1] at hy
    obtain ⟨u, rfl, hu, hx⟩ := usR_rng hy
    obtain ⟨p, hp2, e⟩ := mem_at0 (h.all hl hu)
    have h5 := (acE_iff.1 (h p hp2)).2.2
    rw [e, Int.toNat_natCast] at h5
    obtain ⟨q, h6, h7, h8⟩ := mem_take.1 (h5 _ hx)
    have hq : q = D.length - 1 - k := by
      rcases Nat.lt_trichotomy q (D.length - 1 - k) with h9 | h9 | h9
      · exact absurd h8 (h.ne h9 hp)
      · exact h9
      · exact absurd h8.symm (h.ne h9 h7)
    refine mem_take.2 ⟨D.length - 1 - p, by omega, by rw [List.length_reverse]; omega, ?_⟩
    rw [at0_rev (by omega), show D.length - 1 - (D.length - 1 - p) = p by omega, e]
end
theorem acc_rev2 {nd : List (List Int)} {ds : List Int} (h : (accR nd ds).2 = 0) : (accR (usL nd) ds.reverse).2 = 0 := by
  obtain ⟨h1, h2⟩ := acc2_iff.1 h
  exact acc2_iff.2 ⟨acc_rev h1 h2, by rw [usL_len, List.length_reverse]; exact h2⟩

/-! ### The reverse of the reverse -/
theorem pw_of_asc {l : List Int} (h : ascB l = true) : l.Pairwise (· < ·) := by
  rw [List.pairwise_iff_getElem]
  intro i j hi hj hij
  rw [at0_elem hi, at0_elem hj]
  have := asc_lt h (j - i - 1) i (by omega)
  rw [show i + (j - i - 1) + 1 = j by omega] at this
  exact this
theorem asc_of_pw {l : List Int} (h : l.Pairwise (· < ·)) : ascB l = true := by
  rw [List.pairwise_iff_getElem] at h
  simp only [ascB, decide_eq_true_eq]
  intro i h1 h2
  have := h (i - 1) i (by omega) h1 (by omega)
  rw [at0_elem, at0_elem] at this
  exact this
theorem pw_ext : ∀ {l m : List Int}, l.Pairwise (· < ·) → m.Pairwise (· < ·) → (∀ x, x ∈ l ↔ x ∈ m) → l = m
  | [], [], _, _, _ => rfl
  | [], b :: m, _, _, h => absurd ((h b).2 (by simp)) (by simp)
  | a :: l, [], _, _, h => absurd ((h a).1 (by simp)) (by simp)
  | a :: l, b :: m, h1, h2, h => by
    obtain ⟨h3, h4⟩ := List.pairwise_cons.1 h1
    obtain ⟨h5, h6⟩ := List.pairwise_cons.1 h2
    have e : a = b := by
      rcases List.mem_cons.1 ((h a).1 (by simp)) with e | e
      · exact e
      · rcases List.mem_cons.1 ((h b).2 (by simp)) with e2 | e2
        · exact e2.symm
        · have := h5 a e; have := h3 b e2; omega
    subst e
    rw [pw_ext h4 h6 fun x => ?_]
    have hx := h x
    simp only [List.mem_cons] at hx
    constructor
    · intro hm
      rcases hx.1 (.inr hm) with rfl | q
      · have := h3 x hm; omega
      · exact q
    · intro hm
      rcases hx.2 (.inr hm) with rfl | q
      · have := h5 x hm; omega
      · exact q
theorem usR_pw {nd : List (List Int)} {x : Int} : (usR nd x).Pairwise (· < ·) :=
  List.Pairwise.map _ (fun a b (h : a < b) => by show (a : Int) < (b : Int); omega) (List.pairwise_lt_range.filter _)
theorem usR_usL {nd : List (List Int)} {i : Nat} (hi : i < nd.length) (h : ∀ z ∈ nd_ nd i, 0 ≤ z ∧ z < nd.length) (ha : ascB (nd_ nd i) = true) : usR (usL nd) (i : Int) = nd_ nd i := by
  refine pw_ext usR_pw (pw_of_asc ha) fun x => ?_
  constructor
  · intro hx
    obtain ⟨j, rfl, hj, hm⟩ := usR_rng hx
    rw [usL_len] at hj
    rw [usL_at hj] at hm
    exact (usR_mem.1 hm).2
  · intro hx
    have h1 := h x hx
    obtain ⟨j, rfl⟩ : ∃ j : Nat, x = (j : Int) := ⟨x.toNat, by omega⟩
    rw [usR_mem, usL_len]
    refine ⟨by omega, ?_⟩
    rw [usL_at (by omega)]
    exact usR_mem.2 ⟨hi, hx⟩
theorem nd_rev {xs : List Task} : ndX (revX xs) = usL (ndX xs) := by
  simp only [ndX, revX, List.map_map, usL, List.length_map]
  rfl
theorem revX_get {xs : List Task} {i : Nat} {x : Task} (hx : xs[i]? = some x) : (revX xs)[i]? = some { x with needs := usR (ndX xs) (i : Int) } := by
  have hi := (List.getElem?_eq_some_iff.1 hx).1
  rw [revX, List.getElem?_map, List.getElem?_range hi, Option.map_some, revT, List.getD_eq_getElem?_getD, hx]; rfl
theorem revX_revX {xs : List Task} (h : planE xs = 0) : revX (revX xs) = xs := by
  apply List.ext_getElem?
  intro i
  cases hx : xs[i]? with
  | none =>
    rw [List.getElem?_eq_none_iff] at hx ⊢
    rw [revX_len, revX_len]; exact hx
  | some x =>
    have hi := (List.getElem?_eq_some_iff.1 hx).1
    rw [revX_get (revX_get hx), nd_rev]
    have h1 := task_ok h hx
    have h2 := ndX_at hx
    rw [usR_usL (by rw [ndX_len]; exact hi) (by rw [h2, ndX_len]; exact h1.2.2.2.1) (by rw [h2]; exact h1.2.2.2.2), h2]
theorem tasks_mk {xs : List Task} : ∀ {l : List Task} {k : Nat}, (∀ i t, l[i]? = some t → taskE xs (k + i) t = 0) → tasksF xs k l = 0
  | [], _, _ => rfl
  | t :: l, k, h => by
    rw [tasksF, if_neg (fun q => q (by have := h 0 t rfl; rw [Nat.add_zero] at this; exact this))]
    exact tasks_mk fun i t' h' => by have := h (i + 1) t' h'; rw [Nat.add_assoc, Nat.add_comm 1 i]; exact this
theorem dup_rev {xs : List Task} {k : Nat} {s : ByteArray} : dupB (revX xs) k s = dupB xs k s := by
  have : ∀ ys zs : List Task, ys.map Task.name = zs.map Task.name → (ys.any fun t => decide (t.name = s)) = (zs.any fun t => decide (t.name = s)) := by
    intro ys
    induction ys with
    | nil => intro zs h; cases zs with
      | nil => rfl
      | cons z zs => simp at h
    | cons y ys ih => intro zs h; cases zs with
      | nil => simp at h
      | cons z zs =>
        simp only [List.map_cons, List.cons.injEq] at h
        simp only [List.any_cons, h.1, ih zs h.2]
  refine this _ _ ?_
  rw [List.map_take, List.map_take]
  congr 1
  apply List.ext_getElem?
  intro i
  rw [List.getElem?_map, List.getElem?_map]
  cases hx : xs[i]? with
  | none =>
    rw [List.getElem?_eq_none_iff] at hx
    rw [List.getElem?_eq_none (by rw [revX_len]; exact hx)]
  | some x => rw [revX_get hx]; rfl
theorem listE_0' {l : List Int} {n : Int} (h : ∀ z ∈ l, 0 ≤ z ∧ z < n) (ha : ascB l = true) : listE l n = 0 := by
  refine (listE_0 ?_ ha).symm
  rw [List.any_eq_false]
  intro z hz
  have := h z hz
  simp only [outB, Bool.not_eq_true', decide_eq_false_iff_not, Decidable.not_not]
  omega
/-- The reverse of a right plan is right. -/
theorem plan_rev {xs : List Task} (h : planE xs = 0) : planE (revX xs) = 0 := by
  have hln : ¬ 4000 < xs.length := by
    intro q
    rw [planE, if_pos q] at h; cases h
  have ht : tasksF (revX xs) 0 (revX xs) = 0 := tasks_mk fun i t hi => by
    rw [Nat.zero_add]
    obtain ⟨x, hx⟩ : ∃ x, xs[i]? = some x := by
      have := (List.getElem?_eq_some_iff.1 hi).1
      rw [revX_len] at this
      exact ⟨_, List.getElem?_eq_getElem this⟩
    rw [revX_get hx] at hi
    cases hi
    have h1 := task_ok h hx
    have h0 := tasks_ok (planE_ok h) i x hx
    rw [Nat.zero_add] at h0
    have hdup : dupB xs i x.name = false := by
      cases e : dupB xs i x.name with
      | false => rfl
      | true => rw [← taskE_5 h1.2.1 h1.2.2.1 e] at h0; cases h0
    refine (taskE_l (xs := revX xs) (k := i) (t := { x with needs := usR (ndX xs) (i : Int) }) h1.2.1 h1.2.2.1 (by rw [dup_rev]; exact hdup) h1.1).symm.trans ?_
    refine listE_0' (fun z hz => ?_) (asc_of_pw usR_pw)
    obtain ⟨j, rfl, hj, _⟩ := usR_rng (show z ∈ usR (ndX xs) (i : Int) from hz)
    rw [ndX_len] at hj; rw [revX_len]; omega
  have ho := ordF_acc (nd := ndX xs) (ndX xs).length .nil
  have hf := planE_len h
  have hfr := ord_full (acc_rev (D := ordR (ndX xs)) ho (by omega)) (by rw [usL_len, List.length_reverse]; omega)
  refine (planE_0 (by rw [revX_len]; exact hln) ht ?_).symm
  rw [nd_rev, revX_len]
  rw [usL_len, ndX_len] at hfr
  exact hfr
theorem turn_ok {xs : List Task} {ds : List Int} (h : planE xs = 0) : (accR (ndX xs) ds).2 = 0 ↔ (accR (ndX (revX xs)) ds.reverse).2 = 0 := by
  rw [nd_rev]
  refine ⟨acc_rev2, fun h1 => ?_⟩
  have h2 := acc_rev2 h1
  rw [List.reverse_reverse, ← nd_rev, ← nd_rev, revX_revX h] at h2
  exact h2
end Go.Proofs.Ytjmjiegplnfiiaa

/- An order turned round is one of the reverse plan. No conditions. -/
set_option linter.unusedSimpArgs false
set_option linter.unusedVariables false
set_option maxRecDepth 100000
namespace Go.Proofs.Ytjmjiegplnfiiaa
open Go Go.Pv

theorem raiseF1 {xs : List Task} : Raises [.lit true 6 (xs.map Task.encF)] [.lit true 6 (xs.map Task.enc)] := by
  cases raiseF (xs := xs) .nil with
  | cons h _ => exact .cons h .nil
theorem raiseF2 {xs : List Task} (q : PV) : Raises [.lit true 6 (xs.map Task.encF), q] [.lit true 6 (xs.map Task.enc), q] := raiseF q
theorem fair_rev {xs : List Task} (hl : xs.length ≤ 1000) (h : Fair xs) : Fair (revX xs) := fun x hx => by
  obtain ⟨i, hi, rfl⟩ := List.mem_map.1 hx
  have hi := List.mem_range.1 hi
  have hg : xs[i]? = some (xs.getD i default) := by rw [List.getD_eq_getElem?_getD, List.getElem?_eq_getElem hi]; rfl
  have h1 := h _ (List.mem_of_getElem? hg)
  have h2 := usR_len (nd := ndX xs) (x := (i : Int))
  rw [ndX_len] at h2
  exact ⟨by show (usR (ndX xs) (i : Int)).length ≤ 1000; omega, h1.2⟩
theorem reverseE {xs : List Task} (hp : planE xs = 0) (hl : xs.length ≤ 1000) (hq : Fair xs) : PCalls Try.prog 24 [.lit true 6 ((revE xs).1.map Task.encF)] (.tup [.lit false 6 (xs.map Task.encF), .int 0]) := by
  rw [revE_0 hp]
  have h := PCalls.raise (ReverseC (revX xs) (by rw [revX_len]; exact hl) (fair_rev hl hq)) raiseF1
  rw [revE_0 (plan_rev hp), revX_revX hp] at h
  exact h
theorem sameE {xs : List Task} (hl : xs.length ≤ 1000) (hq : Fair xs) : PCalls Try.prog 28 [.lit true 6 (xs.map Task.encF), .lit true 6 (xs.map Task.enc)] (.bool true) := by
  have h := PCalls.raise (SameTasksC xs xs hl (fun x hx => by have := (hq x hx).1; omega)) (raiseF2 _)
  rw [decide_eq_true rfl] at h; exact h
theorem acceptRev {xs : List Task} {ds : List Int} (hp : planE xs = 0) (hl : (xs.length : Int) ≤ 15) (hq : Fair xs) (hdl : ds.length ≤ 30) : PCalls Try.prog 37 [.lit true 6 ((revE xs).1.map Task.encF), .lit true 1 (ds.map ci)] (.tup [.int (accR (ndX (revX xs)) ds).1, .int (accR (ndX (revX xs)) ds).2]) := by
  rw [revE_0 hp]
  have h := PCalls.raise (AcceptX (revX xs) ds ⟨by rw [revX_len]; exact hl, fair_rev (by omega) hq⟩ hdl) (raiseF2 _)
  rw [acp_0 (plan_rev hp)] at h
  exact h
theorem rev_snoc {ds : List Int} {z : Int} (hz : 0 ≤ z ∧ z < ds.length) : (ds.drop (z + 1).toNat).reverse ++ [at0 ds z.toNat] = (ds.drop z.toNat).reverse := by
  have h : ds.drop z.toNat = at0 ds z.toNat :: ds.drop (z + 1).toNat := by
    rw [show (z + 1).toNat = z.toNat + 1 by omega, ← at0_elem (by omega)]
    exact List.drop_eq_getElem_cons (by omega)
  rw [h, List.reverse_cons]

theorem slz {ds : List Int} {z : Int} (hz : 0 ≤ z ∧ z < ds.length) : (ds.drop (z + 1).toNat).reverse.map ci ++ [ci (at0 ds z.toNat)] = (ds.drop (z - 1 + 1).toNat).reverse.map ci := by
  rw [show z - 1 + 1 = z by omega, ← rev_snoc hz, List.map_append]; rfl

theorem sl0 {h : Heap} {ds : List Int} : SliceAt h 71 .nil 1 ((ds.drop ((((ds.map ci).length : Nat) : Int) - 1 + 1).toNat).reverse.map ci) := by
  rw [List.drop_eq_nil_of_le (by simp only [List.length_map]; omega)]; exact .nil

theorem fr7 : (inFrame Try.f7.ntmps (Try.f7.body.getD .skip) && Try.f7.results.toList.all (resScope Try.f7.ntmps)) = true := by kernel_rfl
theorem hTurned (xs : List Task) (ds : List Int) (hl : xs.length ≤ 9223372036854775807) : PCalls Try.prog 7 [.lit true 6 (xs.map Task.enc), .lit true 1 (ds.map ci)] (.bool true) := by
  refine PCalls.of_code Try.func7 rfl rfl (by kernel_rfl) mixed fr7 (by show _ ≤ 92; simp) (.sc _) ?_
  refine pwp_seq_plain rfl fun K1 hK1 => ?_
  refine p_step rfl (e_assign (v := .sc _) rfl) trivial ?_
  refine p_end (hK1 _ ?_); clear hK1 K1
  refine pwp_seq_seq ?_
  refine pwp_seq_plain rfl fun K2 hK2 => ?_
  refine p_call rfl .nil (awake) ?_
  refine p_step rfl (e_not rfl) trivial ?_
  refine p_end (hK2 _ ?_); clear hK2 K2
  refine pwp_seq_cond (t := false) rfl fun K3 hK3 => ⟨nofun, fun _ => ?_⟩
  refine pwp_skip ?_
  refine seq_norm (hK3 _ ?_); clear hK3 K3
  refine pwp_seq_seq ?_
  refine pwp_seq_gops rfl fun K4 hK4 => ?_
  refine g_begin ?_
  refine g_step rfl rfl rfl rfl (e_move (v := .lit _ _ _) rfl) trivial ?_
  refine g_call rfl rfl rfl rfl (.cons inn_lit (.cons inn_sc .nil)) (FewC _ _ (by omega)) ?_
  refine g_step rfl rfl rfl rfl (e_not rfl) trivial ?_
  refine g_step rfl rfl rfl rfl (e_move (v := .sc _) rfl) trivial ?_
  refine g_cases (fun hb5 => ?_) (fun hb5 => ?_)
  ·have hb5R := hb5; (try simp only [z1, z2, z3, z4, z5, z6, ne_eq, z7, z8, z9, z10, z11, z12] at hb5); (try (have hfw := few_fair hb5))
   refine g_skip rfl rfl rfl ?_
   refine g_nocall rfl rfl rfl ?_
   refine g_skip rfl rfl rfl ?_
   refine g_step rfl rfl rfl rfl (e_pickT (v := .sc _) rfl rfl) trivial ?_
   refine g_step rfl rfl rfl rfl (e_move (v := .sc _) rfl) trivial ?_
   refine g_skip rfl rfl rfl ?_
   refine g_skip rfl rfl rfl ?_
   refine g_skip rfl rfl rfl ?_
   refine g_step rfl rfl rfl rfl (e_pickT (v := .sc _) rfl rfl) trivial ?_
   refine g_end (ds := [21, 22, 23, 26, 27, 28]) rfl rfl (hK4 _ ?_); clear hK4 K4
   refine pwp_seq_cond (t := true) rfl fun K6 hK6 => ⟨fun _ => ?_, nofun⟩
   refine pwp_seq_plain rfl fun K7 hK7 => ?_
   refine p_step rfl (e_assign (v := .sc _) rfl) trivial ?_
   refine p_end (hK7 _ ?_); clear hK7 K7
   refine pwp_ret ?_
   refine ret_seq ?_
   refine end1 (v := .sc _) rfl ?_
   first
     | exact out_b rfl
     | exact out_b (by first | (simp_all; done) | fail)
  ·have hb5R := hb5; (try simp only [z1, z2, z3, z4, z5, z6, ne_eq, z7, z8, z9, z10, z11, z12] at hb5); (try (have hfw := few_fair hb5))
   refine g_step rfl rfl rfl rfl (e_move (v := .lit _ _ _) rfl) trivial ?_
   refine g_call rfl rfl rfl rfl (.cons inn_lit .nil) (refCheckC _ (by omega) hfw.2) ?_
   refine g_step rfl rfl rfl rfl (e_ne rfl rfl) trivial ?_
   refine g_step rfl rfl rfl rfl (e_pickF (v := .sc _) rfl rfl) trivial ?_
   refine g_step rfl rfl rfl rfl (e_move (v := .sc _) rfl) trivial ?_
   refine g_cases (fun hb8 => ?_) (fun hb8 => ?_)
   ·have hb8R := hb8; (try simp only [z1, z2, z3, z4, z5, z6, ne_eq, z7, z8, z9, z10, z11, z12] at hb8); (try (have hfw := few_fair hb8))
    refine g_skip rfl rfl rfl ?_
    refine g_skip rfl rfl rfl ?_
    refine g_skip rfl rfl rfl ?_
    refine g_step rfl rfl rfl rfl (e_pickT (v := .sc _) rfl rfl) trivial ?_
    refine g_end (ds := [21, 22, 23, 26, 27, 28]) rfl rfl (hK4 _ ?_); clear hK4 K4
    refine pwp_seq_cond (t := true) rfl fun K9 hK9 => ⟨fun _ => ?_, nofun⟩
    refine pwp_seq_plain rfl fun K10 hK10 => ?_
    refine p_step rfl (e_assign (v := .sc _) rfl) trivial ?_
    refine p_end (hK10 _ ?_); clear hK10 K10
    refine pwp_ret ?_
    refine ret_seq ?_
    refine end1 (v := .sc _) rfl ?_
    first
      | exact out_b rfl
      | exact out_b (by first | (simp_all; done) | fail)
   ·have hb8R := hb8; (try simp only [z1, z2, z3, z4, z5, z6, ne_eq, z7, z8, z9, z10, z11, z12] at hb8); (try (have hfw := few_fair hb8))
    refine g_step rfl rfl rfl rfl (e_move (v := .lit _ _ _) rfl) trivial ?_
    refine g_step rfl rfl rfl rfl (e_len rfl (by kernel_rfl)) trivial ?_
    refine g_step rfl rfl rfl rfl (e_gt rfl rfl) trivial ?_
    refine g_step rfl rfl rfl rfl (e_pickF (v := .sc _) rfl rfl) trivial ?_
    refine g_end (ds := [21, 22, 23, 26, 27, 28]) rfl rfl (hK4 _ ?_); clear hK4 K4
    refine pwp_seq_cond rfl fun K11 hK11 => ⟨fun hb12 => ?_, fun hb12 => ?_⟩
    ·have hb12R := hb12; (try simp only [z1, z2, z3, z4, z5, z6, ne_eq, z7, z8, z9, z10, z11, z12] at hb12); (try (have hfw := few_fair hb12))
     refine pwp_seq_plain rfl fun K13 hK13 => ?_
     refine p_step rfl (e_assign (v := .sc _) rfl) trivial ?_
     refine p_end (hK13 _ ?_); clear hK13 K13
     refine pwp_ret ?_
     refine ret_seq ?_
     refine end1 (v := .sc _) rfl ?_
     first
       | exact out_b rfl
       | exact out_b (by first | (simp_all; done) | fail)
    ·have hb12R := hb12; (try simp only [z1, z2, z3, z4, z5, z6, ne_eq, z7, z8, z9, z10, z11, z12] at hb12); (try (have hfw := few_fair hb12))
     refine pwp_skip ?_
     refine seq_norm (hK11 _ ?_); clear hK11 K11
     have hp : planE xs = 0 := (by assumption)
     have e0 : (revE xs).2 = 0 := by rw [revE_0 hp]
     refine pwp_seq_plain rfl fun K14 hK14 => ?_
     refine p_step rfl (e_move (v := .lit _ _ _) rfl) trivial ?_
     refine p_call rfl (.cons inn_lit .nil) (ReverseC _ (by omega) hfw.2) ?_
     refine p_step rfl (e_move (v := .tup _) rfl) trivial ?_
     refine p_step rfl (e_ext (v := .lit _ _ _) rfl (by simp) rfl) trivial ?_
     refine p_step rfl (e_ext (v := .sc _) rfl (by simp) rfl) trivial ?_
     refine p_step rfl (e_assign (v := .lit _ _ _) rfl) trivial ?_
     refine p_step rfl (e_assign (v := .sc _) rfl) trivial ?_
     refine p_end (hK14 _ ?_); clear hK14 K14
     refine pwp_seq_plain rfl fun K15 hK15 => ?_
     refine p_step rfl (e_move (v := .lit _ _ _) rfl) trivial ?_
     refine p_call rfl (.cons inn_lit .nil) (reverseE hp (by omega) hfw.2) ?_
     refine p_step rfl (e_move (v := .tup _) rfl) trivial ?_
     refine p_step rfl (e_ext (v := .lit _ _ _) rfl (by simp) rfl) trivial ?_
     refine p_step rfl (e_ext (v := .sc _) rfl (by simp) rfl) trivial ?_
     refine p_step rfl (e_assign (v := .lit _ _ _) rfl) trivial ?_
     refine p_step rfl (e_assign (v := .sc _) rfl) trivial ?_
     refine p_end (hK15 _ ?_); clear hK15 K15
     refine pwp_seq_seq ?_
     refine pwp_seq_gops rfl fun K16 hK16 => ?_
     refine g_begin ?_
     refine g_step rfl rfl rfl rfl (e_move (v := .sc _) rfl) trivial ?_
     refine g_step rfl rfl rfl rfl (e_ne rfl rfl) trivial ?_
     refine g_step rfl rfl rfl rfl (e_move (v := .sc _) rfl) trivial ?_
     refine g_cases (fun hb17 => ?_) (fun hb17 => ?_)
     ·have hb17R := hb17; (try simp only [z1, z2, z3, z4, z5, z6, ne_eq, z7, z8, z9, z10, z11, z12] at hb17); (try (have hfw := few_fair hb17))
      refine g_skip rfl rfl rfl ?_
      refine g_skip rfl rfl rfl ?_
      refine g_step rfl rfl rfl rfl (e_pickT (v := .sc _) rfl rfl) trivial ?_
      refine g_step rfl rfl rfl rfl (e_move (v := .sc _) rfl) trivial ?_
      refine g_skip rfl rfl rfl ?_
      refine g_skip rfl rfl rfl ?_
      refine g_nocall rfl rfl rfl ?_
      refine g_skip rfl rfl rfl ?_
      refine g_step rfl rfl rfl rfl (e_pickT (v := .sc _) rfl rfl) trivial ?_
      refine g_end (ds := [43, 44, 47, 48, 49, 50]) rfl rfl (hK16 _ ?_); clear hK16 K16
      refine pwp_seq_cond (t := true) rfl fun K18 hK18 => ⟨fun _ => ?_, nofun⟩
      refine pwp_seq_plain rfl fun K19 hK19 => ?_
      refine p_step rfl (e_assign (v := .sc _) rfl) trivial ?_
      refine p_end (hK19 _ ?_); clear hK19 K19
      refine pwp_ret ?_
      refine ret_seq ?_
      refine end1 (v := .sc _) rfl ?_
      first
        | exact out_b rfl
        | exact out_b (by first | (simp_all; done) | fail)
     ·have hb17R := hb17; (try simp only [z1, z2, z3, z4, z5, z6, ne_eq, z7, z8, z9, z10, z11, z12] at hb17); (try (have hfw := few_fair hb17))
      refine g_step rfl rfl rfl rfl (e_move (v := .sc _) rfl) trivial ?_
      refine g_step rfl rfl rfl rfl (e_ne rfl rfl) trivial ?_
      refine g_step rfl rfl rfl rfl (e_pickF (v := .sc _) rfl rfl) trivial ?_
      refine g_step rfl rfl rfl rfl (e_move (v := .sc _) rfl) trivial ?_
      refine g_cases (fun hb20 => ?_) (fun hb20 => ?_)
      ·have hb20R := hb20; (try simp only [z1, z2, z3, z4, z5, z6, ne_eq, z7, z8, z9, z10, z11, z12] at hb20); (try (have hfw := few_fair hb20))
       refine g_skip rfl rfl rfl ?_
       refine g_skip rfl rfl rfl ?_
       refine g_nocall rfl rfl rfl ?_
       refine g_skip rfl rfl rfl ?_
       refine g_step rfl rfl rfl rfl (e_pickT (v := .sc _) rfl rfl) trivial ?_
       refine g_end (ds := [43, 44, 47, 48, 49, 50]) rfl rfl (hK16 _ ?_); clear hK16 K16
       refine pwp_seq_cond (t := true) rfl fun K21 hK21 => ⟨fun _ => ?_, nofun⟩
       refine pwp_seq_plain rfl fun K22 hK22 => ?_
       refine p_step rfl (e_assign (v := .sc _) rfl) trivial ?_
       refine p_end (hK22 _ ?_); clear hK22 K22
       refine pwp_ret ?_
       refine ret_seq ?_
       refine end1 (v := .sc _) rfl ?_
       first
         | exact out_b rfl
         | exact out_b (by first | (simp_all; done) | fail)
      ·have hb20R := hb20; (try simp only [z1, z2, z3, z4, z5, z6, ne_eq, z7, z8, z9, z10, z11, z12] at hb20); (try (have hfw := few_fair hb20))
       refine g_step rfl rfl rfl rfl (e_move (v := .lit _ _ _) rfl) trivial ?_
       refine g_step rfl rfl rfl rfl (e_move (v := .lit _ _ _) rfl) trivial ?_
       refine g_call rfl rfl rfl rfl (.cons inn_lit (.cons inn_lit .nil)) (sameE (by omega) hfw.2) ?_
       refine g_step rfl rfl rfl rfl (e_not rfl) trivial ?_
       refine g_step rfl rfl rfl rfl (e_pickF (v := .sc _) rfl rfl) trivial ?_
       refine g_end (ds := [43, 44, 47, 48, 49, 50]) rfl rfl (hK16 _ ?_); clear hK16 K16
       refine pwp_seq_cond (t := false) rfl fun K23 hK23 => ⟨nofun, fun _ => ?_⟩
       refine pwp_skip ?_
       refine seq_norm (hK23 _ ?_); clear hK23 K23
       have e1 := congrArg Prod.fst (acp_0 (ds := ds) hp); have e2 := congrArg Prod.snd (acp_0 (ds := ds) hp)
       refine pwp_seq_plain rfl fun K24 hK24 => ?_
       refine p_step rfl (e_move (v := .lit _ _ _) rfl) trivial ?_
       refine p_step rfl (e_move (v := .lit _ _ _) rfl) trivial ?_
       refine p_call rfl (.cons inn_lit (.cons inn_lit .nil)) (AcceptX _ _ hfw (by simp only [List.length_map] at *; omega)) ?_
       refine p_step rfl (e_move (v := .tup _) rfl) trivial ?_
       refine p_step rfl (e_ext (v := .sc _) rfl (by simp) rfl) trivial ?_
       refine p_step rfl (e_ext (v := .sc _) rfl (by simp) rfl) trivial ?_
       refine p_step rfl (e_assign (v := .sc _) rfl) trivial ?_
       refine p_step rfl (e_assign (v := .sc _) rfl) trivial ?_
       refine p_end (hK24 _ ?_); clear hK24 K24
       refine pwp_seq_plain rfl fun K25 hK25 => ?_
       refine p_step rfl (e_assign (v := .nil) rfl) trivial ?_
       refine p_end (hK25 _ ?_); clear hK25 K25
       refine pwp_seq_seq ?_
       refine pwp_seq_plain rfl fun K26 hK26 => ?_
       refine p_step rfl (e_move (v := .lit _ _ _) rfl) trivial ?_
       refine p_step rfl (e_len rfl (by kernel_rfl)) trivial ?_
       refine p_step rfl (e_sub rfl rfl (by first | omega | (simp only [List.length_map] at *; omega))) trivial ?_
       refine p_step rfl (e_assign (v := .sc _) rfl) trivial ?_
       refine p_end (hK26 _ ?_); clear hK26 K26
       refine pwp_seq_block fun K27 hK27 => ?_
       refine pwp_loopR (α := Int × PV) [1, 5, 9, 10] (fun (a28 : Int × PV) => [(11, (a28.2)), (12, .int (a28.1))]) (fun (a28 : Int × PV) (h : Heap) (_ : Nat → Nat) => (-1 ≤ (a28.1) ∧ (a28.1) < (ds.length : Int)) ∧ (SliceAt h 71 (a28.2) 1 (((ds.drop ((a28.1) + 1).toNat).reverse).map ci))) (fun (a28 : Int × PV) => ((a28.1) + 1).toNat) (((ds.map ci).length : Int) - 1, .nil) (by exact ⟨rfl, rfl, trivial⟩) (by exact ⟨by (simp only [List.length_map]; omega), sl0⟩) fun a28 r29 h30 c31 hj32 => ?_
       obtain ⟨z, v⟩ := a28
       obtain ⟨hz, hihj32_0⟩ := hj32
       try dsimp only at hz
       try dsimp only at hihj32_0
       show pwp _ _ (loopQ _ _ _) ⟨sets (mix _ _ _) [(11, v), (12, .int z)], _, _⟩
       refine pwp_seq_seq ?_
       refine pwp_seq_plain rfl fun K33 hK33 => ?_
       refine p_step rfl (e_move (v := .sc _) rfl) trivial ?_
       refine p_step rfl (e_ge rfl rfl) trivial ?_
       refine p_end (hK33 _ ?_); clear hK33 K33
       refine pwp_seq_cond rfl fun K34 hK34 => ⟨fun hb35 => ?_, fun hb35 => ?_⟩
       ·have hb35R := hb35; (try simp only [z1, z2, z3, z4, z5, z6, ne_eq, z7, z8, z9, z10, z11, z12] at hb35); (try (have hfw := few_fair hb35))
        have hdl0 : (ds.drop (z + 1).toNat).length ≤ ds.length := by rw [List.length_drop]; omega
        have hdl30 : ds.length ≤ 30 := by simp only [List.length_map] at *; omega
        refine pwp_skip ?_
        refine seq_norm (hK34 _ ?_); clear hK34 K34
        refine pwp_seq_block fun K36 hK36 => ?_
        refine pwp_plain rfl fun K37 hK37 => ?_
        refine p_step rfl (e_move (v := _) rfl) trivial ?_
        refine p_step rfl (e_move (v := .lit _ _ _) rfl) trivial ?_
        refine p_step rfl (e_move (v := .sc _) rfl) trivial ?_
        refine p_step rfl (e_ixa rfl rfl (by kernel_rfl) (by kernel_rfl) (by first | omega | (simp only [List.length_map]; omega))) trivial ?_
        refine p_step rfl (e_load (v := .sc _) rfl (by kernel_rfl) (by kernel_rfl) (by kernel_rfl) (by first | omega | (simp only [List.length_map]; omega)) (by decide) ((cell_map (at0_get (l := ds) (i := z.toNat) (by omega)) _).trans rfl)) trivial ?_
        refine p_new rfl (e_bslice (rows := [ci (at0 ds z.toNat)]) (zs := [.int 0]) (sz := 1) (by kernel_rfl) (by kernel_rfl) rfl (by kernel_rfl) (by decide) rfl rfl (by exact ⟨by decide, rfl, rfl, trivial⟩) rfl) trivial ?_
        refine p_app rfl rfl rfl (hihj32_0.keep fun _ => (hset_ne (key_ne rfl)).trans (rfl)) (src_ref (hset_self _ _ _) rfl) (by kernel_rfl) (by simp only [List.length_append, List.length_map, List.length_reverse, List.length_nil, List.length_cons]; omega) fun v38 h39 c40 hs41 hf42 => ?_
        have ho43 := (hf42 (70, _) (key_ne rfl) (fun _ _ => key_ne rfl)).trans (hset_self _ _ _)
        refine p_step rfl (e_assign (v := _) rfl) trivial ?_
        refine p_end (hK37 _ ?_); clear hK37 K37
        refine block_norm ?_
        refine seq_norm (hK36 _ ?_); clear hK36 K36
        refine pwp_plain rfl fun K44 hK44 => ?_
        refine p_step rfl (e_move (v := .sc _) rfl) trivial ?_
        refine p_step rfl (e_sub rfl rfl (by first | omega | (simp only [List.length_map] at *; omega))) trivial ?_
        refine p_step rfl (e_assign (v := .sc _) rfl) trivial ?_
        refine p_end (hK44 _ ?_); clear hK44 K44
        exact loop_again ((z - 1, v38)) (by show _ < _; simp only; omega) ⟨rfl, rfl, rfl, rfl, trivial⟩ ⟨rfl, rfl, trivial⟩ (by exact ⟨by (show -1 ≤ z - 1 ∧ z - 1 < (ds.length : Int); omega), (SliceAt.to hs41 (by exact slz (by omega)))⟩)
       ·have hb35R := hb35; (try simp only [z1, z2, z3, z4, z5, z6, ne_eq, z7, z8, z9, z10, z11, z12] at hb35); (try (have hfw := few_fair hb35))
        have hz1 : z = -1 := by omega
        have hdr : (ds.drop (z + 1).toNat).reverse = ds.reverse := by rw [hz1]; simp
        refine pwp_exit ?_
        refine exit_seq ?_
        clear hK34 K34
        refine exit_loop ?_
        refine exit_here ?_
        refine seq_norm (hK27 _ ?_); clear hK27 K27
        refine pwp_seq_plain rfl fun K45 hK45 => ?_
        refine p_step rfl (e_move (v := .lit _ _ _) rfl) trivial ?_
        refine p_step rfl (e_move (v := _) rfl) trivial ?_
        refine p_call rfl (.cons inn_lit (.cons (SliceAt.inn (rows' := ((ds.drop (z + 1).toNat).reverse).map ci) hihj32_0 (by simp) (by first | exact pure_map ci_pure | (simp only [← List.map_append, List.nil_append]; exact pure_map ci_pure))) .nil)) (acceptRev hp (by omega) hfw.2 (by rw [hdr]; simp only [List.length_reverse]; simp only [List.length_map] at *; omega)) ?_
        refine p_step rfl (e_move (v := .tup _) rfl) trivial ?_
        refine p_step rfl (e_ext (v := .sc _) rfl (by simp) rfl) trivial ?_
        refine p_step rfl (e_ext (v := .sc _) rfl (by simp) rfl) trivial ?_
        refine p_step rfl (e_assign (v := .sc _) rfl) trivial ?_
        refine p_step rfl (e_assign (v := .sc _) rfl) trivial ?_
        refine p_end (hK45 _ ?_); clear hK45 K45
        refine pwp_seq_seq ?_
        have ht := turn_ok (ds := ds) hp
        rw [hdr] at *
        refine pwp_seq_plain rfl fun K46 hK46 => ?_
        refine p_step rfl (e_move (v := .sc _) rfl) trivial ?_
        refine p_step rfl (e_eq rfl rfl) trivial ?_
        refine p_end (hK46 _ ?_); clear hK46 K46
        refine pwp_seq_cond rfl fun K47 hK47 => ⟨fun hb48 => ?_, fun hb48 => ?_⟩
        ·have hb48R := hb48; (try simp only [z1, z2, z3, z4, z5, z6, ne_eq, z7, z8, z9, z10, z11, z12] at hb48); (try (have hfw := few_fair hb48))
         have hk := ht.1 (by rw [← e2]; assumption)
         have f1 := acc_full (ht.2 hk); have f2 := acc_full hk
         rw [f1] at e1
         refine pwp_seq_gops rfl fun K49 hK49 => ?_
         refine g_begin ?_
         refine g_step rfl rfl rfl rfl (e_move (v := .sc _) rfl) trivial ?_
         refine g_step rfl rfl rfl rfl (e_eq rfl rfl) trivial ?_
         refine g_step rfl rfl rfl rfl (e_move (v := .sc _) rfl) trivial ?_
         refine g_cases (fun hb50 => ?_) (fun hb50 => ?_)
         ·have hb50R := hb50; (try simp only [z1, z2, z3, z4, z5, z6, ne_eq, z7, z8, z9, z10, z11, z12] at hb50); (try (have hfw := few_fair hb50))
          refine g_step rfl rfl rfl rfl (e_move (v := .sc _) rfl) trivial ?_
          refine g_step rfl rfl rfl rfl (e_eq rfl rfl) trivial ?_
          refine g_step rfl rfl rfl rfl (e_pickT (v := .sc _) rfl rfl) trivial ?_
          refine g_step rfl rfl rfl rfl (e_move (v := .sc _) rfl) trivial ?_
          refine g_cases (fun hb51 => ?_) (fun hb51 => ?_)
          ·have hb51R := hb51; (try simp only [z1, z2, z3, z4, z5, z6, ne_eq, z7, z8, z9, z10, z11, z12] at hb51); (try (have hfw := few_fair hb51))
           refine g_step rfl rfl rfl rfl (e_move (v := .sc _) rfl) trivial ?_
           refine g_step rfl rfl rfl rfl (e_eq rfl rfl) trivial ?_
           refine g_step rfl rfl rfl rfl (e_pickT (v := .sc _) rfl rfl) trivial ?_
           refine g_step rfl rfl rfl rfl (e_assign (v := .sc _) rfl) trivial ?_
           refine g_end (ds := [83, 84, 87, 88]) rfl rfl (hK49 _ ?_); clear hK49 K49
           refine pwp_ret ?_
           refine ret_seq ?_
           refine end1 (v := .sc _) rfl ?_
           first
             | exact out_b rfl
             | exact out_b (by first | (simp_all; done) | fail)
          ·have hb51R := hb51; (try simp only [z1, z2, z3, z4, z5, z6, ne_eq, z7, z8, z9, z10, z11, z12] at hb51); (try (have hfw := few_fair hb51))
           refine g_skip rfl rfl rfl ?_
           refine g_skip rfl rfl rfl ?_
           refine g_step rfl rfl rfl rfl (e_pickF (v := .sc _) rfl rfl) trivial ?_
           refine g_step rfl rfl rfl rfl (e_assign (v := .sc _) rfl) trivial ?_
           refine g_end (ds := [83, 84, 87, 88]) rfl rfl (hK49 _ ?_); clear hK49 K49
           refine pwp_ret ?_
           refine ret_seq ?_
           refine end1 (v := .sc _) rfl ?_
           first
             | exact out_b rfl
             | exact out_b (by first | (simp_all; done) | fail)
         ·have hb50R := hb50; (try simp only [z1, z2, z3, z4, z5, z6, ne_eq, z7, z8, z9, z10, z11, z12] at hb50); (try (have hfw := few_fair hb50))
          refine g_skip rfl rfl rfl ?_
          refine g_skip rfl rfl rfl ?_
          refine g_step rfl rfl rfl rfl (e_pickF (v := .sc _) rfl rfl) trivial ?_
          refine g_step rfl rfl rfl rfl (e_move (v := .sc _) rfl) trivial ?_
          refine g_skip rfl rfl rfl ?_
          refine g_skip rfl rfl rfl ?_
          refine g_step rfl rfl rfl rfl (e_pickF (v := .sc _) rfl rfl) trivial ?_
          refine g_step rfl rfl rfl rfl (e_assign (v := .sc _) rfl) trivial ?_
          refine g_end (ds := [83, 84, 87, 88]) rfl rfl (hK49 _ ?_); clear hK49 K49
          refine pwp_ret ?_
          refine ret_seq ?_
          refine end1 (v := .sc _) rfl ?_
          first
            | exact out_b rfl
            | exact out_b (by first | (simp_all; done) | fail)
        ·have hb48R := hb48; (try simp only [z1, z2, z3, z4, z5, z6, ne_eq, z7, z8, z9, z10, z11, z12] at hb48); (try (have hfw := few_fair hb48))
         refine pwp_skip ?_
         refine seq_norm (hK47 _ ?_); clear hK47 K47
         have hk : (accR (ndX (revX xs)) ds.reverse).2 ≠ 0 := fun q => absurd (ht.2 q) (by rw [← e2]; assumption)
         refine pwp_seq_plain rfl fun K52 hK52 => ?_
         refine p_step rfl (e_move (v := .sc _) rfl) trivial ?_
         refine p_step rfl (e_ne rfl rfl) trivial ?_
         refine p_step rfl (e_assign (v := .sc _) rfl) trivial ?_
         refine p_end (hK52 _ ?_); clear hK52 K52
         refine pwp_ret ?_
         refine end1 (v := .sc _) rfl ?_
         first
           | exact out_b rfl
           | exact out_b (by first | (simp_all; done) | fail)

end Go.Proofs.Ytjmjiegplnfiiaa
