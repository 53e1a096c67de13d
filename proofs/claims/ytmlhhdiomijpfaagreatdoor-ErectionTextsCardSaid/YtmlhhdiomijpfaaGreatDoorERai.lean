import Derived.Test.YtmlhhdiomijpfaaGreatDoorDatA
set_option linter.unusedSimpArgs false
set_option linter.unusedVariables false
namespace Go.Proofs.YtmlhhdiomijpfaaGreatDoor.E7
open Go Go.Pv Go.Proofs.YtmlhhdiomijpfaaGreatDoor
inductive Raise : PV → PV → Prop where
 | same (p : PV) : Raise p p
 | nil (sz : Nat) : Raise .nil (.lit true sz [])
 | lit {t : Bool} {sz : Nat} {rows rows' : Pv.Rows} (hl : rows.length = rows'.length) (hw : ∀ (i : Nat) (row row' : List PV), rows[i]? = some row → rows'[i]? = some row' → row.length = row'.length)
     (h : ∀ (i j : Nat) (row row' : List PV) (p p' : PV), rows[i]? = some row → rows'[i]? = some row' → row[j]? = some p → row'[j]? = some p' → Raise p p') : Raise (.lit t sz rows) (.lit true sz rows')
theorem Raise.cell {p p' : PV} (h : Raise p p') (hc : p.cell = true) : p'.cell = true := by
 cases h <;> first | exact hc | rfl
theorem at_both {α β : Type} {l : List α} {m : List β} {i : Nat} {b : β} (h : l.length = m.length) (hb : m[i]? = some b) : ∃ a, l[i]? = some a := by
 have := (List.getElem?_eq_some_iff.1 hb).1;exact ⟨l[i]'(by omega), List.getElem?_eq_getElem _⟩
theorem Raise.pure {p p' : PV} (h : Raise p p') : Pure p → Pure p' := by
 induction h with
 | same p => exact id
 | nil sz => intro _; exact .lit _ _ _ (by simp)
 | lit hl hw _ ih =>
   intro hp;cases hp with
   | lit _ _ _ h1 =>
     refine .lit _ _ _ fun row' hr p' hp' => ?_;obtain ⟨i, hi⟩ := List.getElem?_of_mem hr;obtain ⟨j, hj⟩ := List.getElem?_of_mem hp';obtain ⟨row, h2⟩ := at_both hl hi;obtain ⟨p, h3⟩ := at_both (hw i row row' h2 hi) hj;exact ih i j row row' p p' h2 hi h3 hj (h1 row (List.mem_of_getElem? h2) p (List.mem_of_getElem? h3))
theorem rep_raise {E : Env} (htt : E.tt = true) {p p' : PV} (h : Raise p p') : ∀ {v : Value}, Rep E v p → Rep E v p' := by
 induction h with
 | same p => exact id
 | nil sz => intro v hv; cases hv; exact .litE
 | lit hl hw hs ih =>
   rename_i t sz rows rows';intro v hv;cases hv with
   | litE =>
     have : rows' = [] := List.eq_nil_of_length_eq_zero hl.symm;subst this; exact .litE
   | @lit b off c _ _ _ f hm hc hr =>
     rw [hl];refine .lit (f := f) ⟨hm.own, fun h => (by cases h), fun _ => htt, hm.lt, fun row' hr' => ?_, fun i j row' p' h1 h2 => ?_, fun row' hr' p' hp' => ?_, fun row' hr' p' hp' => ?_⟩ (by omega) fun i j row' p' h1 h2 => ?_
     · obtain ⟨i, hi⟩ := List.getElem?_of_mem hr';obtain ⟨row, h2⟩ := at_both hl hi;rw [← hw i row row' h2 hi]; exact hm.width row (List.mem_of_getElem? h2)
     · obtain ⟨row, h3⟩ := at_both hl h1;obtain ⟨p, h4⟩ := at_both (hw i row row' h3 h1) h2;exact hm.cell i j row p h3 h4
     · obtain ⟨i, h1⟩ := List.getElem?_of_mem hr';obtain ⟨j, h2⟩ := List.getElem?_of_mem hp';obtain ⟨row, h3⟩ := at_both hl h1;obtain ⟨p, h4⟩ := at_both (hw i row row' h3 h1) h2;exact (hs i j row row' p p' h3 h1 h4 h2).pure (hm.pure row (List.mem_of_getElem? h3) p (List.mem_of_getElem? h4))
     · obtain ⟨i, h1⟩ := List.getElem?_of_mem hr';obtain ⟨j, h2⟩ := List.getElem?_of_mem hp';obtain ⟨row, h3⟩ := at_both hl h1;obtain ⟨p, h4⟩ := at_both (hw i row row' h3 h1) h2;exact (hs i j row row' p p' h3 h1 h4 h2).cell (hm.one row (List.mem_of_getElem? h3) p (List.mem_of_getElem? h4))
     · obtain ⟨row, h3⟩ := at_both hl h1;obtain ⟨p, h4⟩ := at_both (hw i row row' h3 h1) h2;exact ih i j row row' p p' h3 h1 h4 h2 (hr i j row p h3 h4)
inductive Raises : List PV → List PV → Prop where
 | nil : Raises [] []
 | cons {p p' : PV} {l l' : List PV} (h : Raise p p') (hs : Raises l l') : Raises (p :: l) (p' :: l')
theorem Raises.len : ∀ {l l' : List PV}, Raises l l' → l.length = l'.length
 | _, _, .nil => rfl
 | _, _, .cons _ hs => by simp [hs.len]
theorem Raises.get : ∀ {l l' : List PV}, Raises l l' → ∀ (i : Nat) (p p' : PV), l[i]? = some p → l'[i]? = some p' → Raise p p'
 | _, _, .nil, i, p, p', h1, _ => by cases h1
 | _, _, .cons h hs, 0, p, p', h1, h2 => by cases h1; cases h2; exact h
 | _, _, .cons h hs, i + 1, p, p', h1, h2 => hs.get i p p' h1 h2
theorem Raise.row {t : Bool} {sz : Nat} {rows rows' : Pv.Rows} (hl : rows.length = rows'.length) (h : ∀ (i : Nat) (row row' : List PV), rows[i]? = some row → rows'[i]? = some row' → Raises row row') : Raise (.lit t sz rows) (.lit true sz rows') :=
 .lit hl (fun i row row' h1 h2 => (h i row row' h1 h2).len) fun i j row row' p p' h1 h2 h3 h4 => (h i row row' h1 h2).get j p p' h3 h4
theorem PCalls.raise {P : Program} {f : FuncId} {args args' : List PV} {r : PV} (hc : PCalls P f args' r) (h : Raises args args') : PCalls P f args r :=
 ⟨hc.1, hc.2.1, fun w M vs h1 h2 h3 h4 => hc.2.2 w M vs h1 h2 (h3.trans h.len) fun i u p hu hp => by
   obtain ⟨q, hq⟩ := at_both h.len hp;exact rep_raise rfl (h.get i q p hq hp) (h4 i u q hu hq)⟩
end Go.Proofs.YtmlhhdiomijpfaaGreatDoor.E7
