import Derived.Shelf.SlIter.Nil
import Derived.Test.YtigdmkhdmbbfiaaPvGy
set_option linter.unusedSimpArgs false
set_option linter.unusedVariables false
/- The sorted keys of an own map ('slices.Sorted(maps.Keys(m))'), told to the machine from the library's contract. -/
namespace Go.Pv
open Go Go.RowKit Go.Maps Go.Proofs Go.Sort
open Go.WideMaps (keyOf_string_mk)

theorem arr1 {a : Array Value} (h : a.size = 1) : ∃ x, a = #[x] := by
 obtain ⟨l⟩ := a
 match l, h with
 | [x], _ => exact ⟨x, rfl⟩

/-- Go's '<=' on bytes. -/
def leS : List UInt8 → List UInt8 → Bool
 | [], _ => true
 | _ :: _, [] => false
 | a :: xs, b :: ys => bif Nat.blt a.toNat b.toNat then true else bif Nat.beq a.toNat b.toNat then leS xs ys else false

theorem leS_eq : ∀ (x y : List UInt8), leS x y = decide (x ≤ y)
 | [], y => by simp [leS]
 | a :: xs, [] => by simp [leS]
 | a :: xs, b :: ys => by
   have ih := leS_eq xs ys
   unfold leS
   cases h1 : Nat.blt a.toNat b.toNat with
   | true =>
     have : a < b := by rw [Nat.blt_eq] at h1; exact UInt8.lt_iff_toNat_lt.2 h1
     simp only [cond_true]
     symm
     rw [decide_eq_true_eq, List.cons_le_cons_iff]
     exact .inl this
   | false =>
     have hn : ¬ a < b := fun h => by
       have := UInt8.lt_iff_toNat_lt.1 h
       rw [← Nat.blt_eq, h1] at this; cases this
     cases h2 : Nat.beq a.toNat b.toNat with
     | true =>
       have he : a = b := UInt8.toNat_inj.1 (Nat.eq_of_beq_eq_true h2)
       subst he
       simp only [cond_false, cond_true]
       rw [ih]
       simp [List.cons_le_cons_iff]
     | false =>
       have hne : a ≠ b := fun e => by subst e; simp at h2
       simp only [cond_false]
       symm
       rw [decide_eq_false_iff_not, List.cons_le_cons_iff]
       rintro (h | ⟨h, _⟩)
       · exact hn h
       · exact hne h

theorem leS_trans (a b c : List UInt8) (h1 : leS a b = true) (h2 : leS b c = true) : leS a c = true := by
 rw [leS_eq, decide_eq_true_eq] at *
 exact List.le_trans h1 h2
theorem leS_total (a b : List UInt8) : (leS a b || leS b a) = true := by
 rw [leS_eq, leS_eq, Bool.or_eq_true, decide_eq_true_eq, decide_eq_true_eq]
 exact List.le_total a b

variable {P : Program}

end Go.Pv
