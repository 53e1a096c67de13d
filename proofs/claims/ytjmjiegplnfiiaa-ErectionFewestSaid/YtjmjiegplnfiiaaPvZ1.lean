/- Arguments of a law, taken apart by their types. -/
import Derived.Test.YtjmjiegplnfiiaaPvW
import Derived.Test.YtjmjiegplnfiiaaPvZ
namespace Go.Pv
open Go Go.RowKit
section
variable {P : Program}

theorem CellP.int_inv {t : TypeId} {q : PV} {k : IntKind} (ht : P.underlying t = some (.int k)) (h : CellP P t q) : ∃ z, q = .sc (.int k z) ∧ (Lit.int k z).wf = true := by
 cases h with
 | int k' z ht' hw => rw [ht] at ht'; cases ht'; exact ⟨z, rfl, hw⟩
 | bool b ht' => rw [ht] at ht'; cases ht'
 | str s ht' hs => rw [ht] at ht'; cases ht'
 | slice rows ht' he hm hl h => rw [ht] at ht'; cases ht'

theorem CellP.str_inv {t : TypeId} {q : PV} (ht : P.underlying t = some .string) (h : CellP P t q) : ∃ s, q = .sc (.string s) ∧ s.size ≤ maxLen := by
 cases h with
 | int k' z ht' hw => rw [ht] at ht'; cases ht'
 | bool b ht' => rw [ht] at ht'; cases ht'
 | str s ht' hs => exact ⟨s, rfl, hs⟩
 | slice rows ht' he hm hl h => rw [ht] at ht'; cases ht'

inductive CellsP (P : Program) : List TypeId → List PV → Prop where
 | nil : CellsP P [] []
 | cons {t : TypeId} {q : PV} {ts : List TypeId} {qs : List PV} (h : CellP P t q) (hs : CellsP P ts qs) : CellsP P (t :: ts) (q :: qs)

theorem CellsP.mk : ∀ {ts : List TypeId} {qs : List PV}, qs.length = ts.length → (∀ (i : Nat) (ty : TypeId) (q : PV), ts[i]? = some ty → qs[i]? = some q → CellP P ty q) → CellsP P ts qs
 | [], [], _, _ => .nil
 | [], _ :: _, h, _ => by simp at h
 | _ :: _, [], h, _ => by simp at h
 | t :: ts, q :: qs, h, hc => .cons (hc 0 t q rfl rfl) (CellsP.mk (by simpa using h) fun i ty p h1 h2 => hc (i + 1) ty p h1 h2)

theorem CellsP.nil_inv {qs : List PV} (h : CellsP P [] qs) : qs = [] := by cases h; rfl
theorem CellsP.cons_inv {t : TypeId} {ts : List TypeId} {qs : List PV} (h : CellsP P (t :: ts) qs) : ∃ q l, qs = q :: l ∧ CellP P t q ∧ CellsP P ts l := by
 cases h with
 | cons h hs => exact ⟨_, _, rfl, h, hs⟩

theorem CellP.slice_inv {t e : TypeId} {q : PV} {tys : List TypeId} (ht : P.underlying t = some (.slice e)) (he : cellTys P 9 e = some tys) (h : CellP P t q) :
   ∃ rows, q = .lit true (P.cellsOf e) rows ∧ rows.length ≤ maxLen ∧ ∀ row ∈ rows, CellsP P tys row := by
 cases h with
 | int k' z ht' hw => rw [ht] at ht'; cases ht'
 | bool b ht' => rw [ht] at ht'; cases ht'
 | str s ht' hs => rw [ht] at ht'; cases ht'
 | slice rows ht' he' hm hl h =>
   rw [ht] at ht'; cases ht'
   rw [he] at he'; cases he'
   exact ⟨rows, rfl, hm, fun row hr => .mk (hl row hr) fun i ty q h1 h2 => h row hr i ty q h1 h2⟩

theorem CellP.slice_at {t e n : Nat} {q : PV} {tys : List TypeId} (ht : P.underlying t = some (.slice e)) (he : cellTys P 9 e = some tys) (hn : P.cellsOf e = n) (h : CellP P t q) :
   ∃ rows, q = .lit true n rows ∧ rows.length ≤ maxLen ∧ ∀ row ∈ rows, CellsP P tys row := by
 subst hn; exact h.slice_inv ht he
theorem ArgP.cell {t : TypeId} {q : PV} (ht : tyAgg P t = false) (h : ArgP P t q) : CellP P t q := by
 unfold ArgP at h; rw [ht] at h; exact h
theorem ArgsP.nil_inv {qs : List PV} (h : ArgsP P [] qs) : qs = [] := by cases h; rfl
theorem ArgsP.cons_inv {t : TypeId} {ts : List TypeId} {qs : List PV} (h : ArgsP P (t :: ts) qs) : ∃ q l, qs = q :: l ∧ ArgP P t q ∧ ArgsP P ts l := by
 cases h with
 | cons h hs => exact ⟨_, _, rfl, h, hs⟩
end
end Go.Pv
