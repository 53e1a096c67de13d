import Derived.Test.YtjihcgcbnbaclaaGreatDoorRDatA
import Derived.Test.YtjihcgcbnbaclaaGreatDoorRDayA
import Derived.Test.YtjihcgcbnbaclaaGreatDoorRMovB
set_option linter.unusedSimpArgs false
set_option linter.unusedVariables false
namespace Go.Proofs.YtjihcgcbnbaclaaGreatDoor.Y9
open Go Go.Pv Go.Proofs.YtjihcgcbnbaclaaGreatDoor
def sumA (xs : List Charge) : Int := (xs.map (·.amount)).sum
def goodA (x : Charge) : Prop := 0 ≤ x.amount ∧ x.amount ≤ 1000000000000000
instance (x : Charge) : Decidable (goodA x) := inferInstanceAs (Decidable (_ ∧ _))
end Go.Proofs.YtjihcgcbnbaclaaGreatDoor.Y9

set_option linter.unusedSimpArgs false
set_option linter.unusedVariables false
set_option maxRecDepth 100000
namespace Go.Proofs.YtjihcgcbnbaclaaGreatDoor.Y9
open Go Go.Pv Go.Proofs.YtjihcgcbnbaclaaGreatDoor
end Go.Proofs.YtjihcgcbnbaclaaGreatDoor.Y9

set_option linter.unusedSimpArgs false
set_option linter.unusedVariables false
namespace Go.Proofs.YtjihcgcbnbaclaaGreatDoor.Y9
open Go Go.Pv Go.Proofs.YtjihcgcbnbaclaaGreatDoor
def sumF {α : Type} (f : α → Int) (l : List α) : Int := (l.map f).sum
section
variable {α β : Type} {f g : α → Int}
theorem sumF_nil : sumF f [] = 0 := rfl
theorem sumF_cons (a : α) (l : List α) : sumF f (a :: l) = f a + sumF f l := by simp [sumF]
theorem sumF_app (a b : List α) : sumF f (a ++ b) = sumF f a + sumF f b := by unfold sumF; rw [List.map_append, List.sum_append]
theorem sumF_nonneg {l : List α} (h : ∀ a ∈ l, 0 ≤ f a) : 0 ≤ sumF f l := by
 induction l with
 | nil => exact Int.le_refl _
 | cons a l ih =>
   rw [sumF_cons];have := h a (by simp);have := ih fun b hb => h b (by simp [hb]);omega
theorem sumF_map (h : β → α) (l : List β) : sumF f (l.map h) = sumF (fun b => f (h b)) l := by unfold sumF; rw [List.map_map]; rfl
theorem sumF_take {l : List α} (h : ∀ a ∈ l, 0 ≤ f a) (k : Nat) : 0 ≤ sumF f (l.take k) ∧ sumF f (l.take k) ≤ sumF f l := by
 have h1 : sumF f l = sumF f (l.take k) + sumF f (l.drop k) := by rw [← sumF_app, List.take_append_drop]
 have h2 := sumF_nonneg (f := f) (l := l.take k) fun a ha => h a (List.mem_of_mem_take ha);have h3 := sumF_nonneg (f := f) (l := l.drop k) fun a ha => h a (List.mem_of_mem_drop ha);omega
end
structure SmallA (xs : List Charge) : Prop where
 len : xs.length ≤ 6066450
 pos : ∀ x ∈ xs, 0 ≤ x.amount
 sum : sumA xs ≤ 9000000000000000000
end Go.Proofs.YtjihcgcbnbaclaaGreatDoor.Y9
