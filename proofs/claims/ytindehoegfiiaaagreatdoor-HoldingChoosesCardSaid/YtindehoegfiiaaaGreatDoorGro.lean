/- Grounds. No conditions. -/
import Derived.Test.YtindehoegfiiaaaGreatDoorGrd
set_option linter.unusedSimpArgs false
set_option linter.unusedVariables false
set_option maxRecDepth 100000
namespace Go.Proofs.YtindehoegfiiaaaGreatDoor
open Go Go.Pv
/-! ### The first error of a list -/
def frsF {α : Type} (E : Nat → α → Int) : Nat → List α → Int
 | _, [] => 0
 | k, x :: l => if E k x ≠ 0 then E k x else frsF E (k + 1) l
section
variable {α : Type} {E : Nat → α → Int} {R : Int} {xs : List α} {k : Nat} {x : α}
theorem frs_all : ∀ (l : List α) (k : Nat), frsF E k l = 0 → ∀ i y, l[i]? = some y → E (k + i) y = 0
 | [], _, _, _, _, hy => by simp at hy
 | x :: l, k, h, i, y, hy => by
   rw [frsF] at h
   by_cases h1 : E k x = 0
   · rw [if_neg (fun q => q h1)] at h
     match i, hy with
     | 0, hy => simp at hy; subst hy; exact h1
     | i + 1, hy =>
       have := frs_all l (k + 1) h i y (by simpa using hy)
       rw [show k + (i + 1) = k + 1 + i by omega]; exact this
   · rw [if_pos h1] at h; exact absurd h h1
end
/-! ### Grounds -/
section
variable {l : List Ground} {k : Nat} {s p z : Ground} {x : Int}
end

end Go.Proofs.YtindehoegfiiaaaGreatDoor
