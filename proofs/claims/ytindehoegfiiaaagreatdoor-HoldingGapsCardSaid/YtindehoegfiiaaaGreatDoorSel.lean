/- Patterns of ties. No conditions. -/
import Derived.Test.YtindehoegfiiaaaGreatDoorGro
set_option linter.unusedSimpArgs false
set_option linter.unusedVariables false
set_option maxRecDepth 100000
namespace Go.Proofs.YtindehoegfiiaaaGreatDoor
open Go Go.Pv
section
variable {p : Pattern} {m i r k : Nat} {b : List Tie} {g : Grid}
theorem grd_shape (h : gridE g = 0) : FacOK g ∧ ShpOK g := by
 by_cases h1 : FacOK g
 · by_cases h2 : ShpOK g
   · exact ⟨h1, h2⟩
   · rw [← grd_11 h1 h2] at h; cases h
 · rw [← grd_2f h1] at h; cases h
end
/-! ### Two lists that are the same -/
end Go.Proofs.YtindehoegfiiaaaGreatDoor
