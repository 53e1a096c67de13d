import Derived.Test.YtjihcgcbnbaclaaGreatDoorRData
import Derived.Test.YtjihcgcbnbaclaaGreatDoorRWeeks
set_option linter.unusedSimpArgs false
set_option linter.unusedVariables false
namespace Go.Proofs.YtjihcgcbnbaclaaGreatDoor.Y9
open Go Go.Pv Go.Proofs.YtjihcgcbnbaclaaGreatDoor
def sumA (xs : List Charge) : Int := (xs.map (·.amount)).sum
def goodA (x : Charge) : Prop := 0 ≤ x.amount ∧ x.amount ≤ 1000000000000000
instance (x : Charge) : Decidable (goodA x) := inferInstanceAs (Decidable (_ ∧ _))
theorem sumA_take {xs : List Charge} {k : Nat} {x : Charge} (h : xs.take (k + 1) = xs.take k ++ [x]) : sumA (xs.take (k + 1)) = sumA (xs.take k) + x.amount := by
 rw [h]; simp [sumA]
end Go.Proofs.YtjihcgcbnbaclaaGreatDoor.Y9
