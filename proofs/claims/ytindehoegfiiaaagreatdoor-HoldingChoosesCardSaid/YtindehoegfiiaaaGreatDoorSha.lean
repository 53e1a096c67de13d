/- Shares of the wind. No conditions. -/
import Derived.Test.YtindehoegfiiaaaGreatDoorTis
set_option linter.unusedSimpArgs false
set_option linter.unusedVariables false
set_option maxRecDepth 100000
namespace Go.Proofs.YtindehoegfiiaaaGreatDoor
open Go Go.Pv
/-! ### Shares of the wind -/
section
variable {f : Tie → Int} {l : List Tie} {k i n : Nat} {t : Tie} {g : Grid} {w o : List Int} {v x z b : Int}
theorem any_out {lo hi : Int} (h : w.any (outB lo hi) = false) (hx : x ∈ w) : lo ≤ x ∧ x ≤ hi := by
 rw [List.any_eq_false] at h
 have q := h x hx
 rw [outB, Bool.not_eq_true, Bool.not_eq_false', decide_eq_true_eq] at q
 exact q
theorem al_b (h : gridE g = 0) : (∀ y ∈ g.along, -1000000 ≤ y ∧ y ≤ 1000000) ∧ (∀ y ∈ g.levels, 1 ≤ y ∧ y ≤ 1000000) := by
 obtain ⟨h1, h2⟩ := grd_shape h
 cases h3 : g.along.any (outB (-1000000) 1000000) with
 | true => rw [← grd_2a h1 h2 h3] at h; cases h
 | false =>
   cases h4 : g.levels.any (outB 1 1000000) with
   | true => rw [← grd_2l h1 h2 h3 h4] at h; cases h
   | false => exact ⟨fun y hy => any_out h3 hy, fun y hy => any_out h4 hy⟩
theorem gd0 {l : List Int} {i : Nat} (h : l[i]? = some x) : l.getD i 0 = x := by rw [List.getD_eq_getElem?_getD, h]; rfl
theorem flat_lt {k r A M : Nat} (hk : k < A) (hr : r < M) : k * M + r < A * M := by
 have h1 : (k + 1) * M ≤ A * M := Nat.mul_le_mul_right M hk
 rw [Nat.add_mul, Nat.one_mul] at h1
 omega
theorem few_t {g : Grid} (h : fewB g = true) : g.along.length ≤ 100 ∧ g.levels.length ≤ 100 ∧ (g.along.length ≤ 6 ∧ g.levels.length ≤ 6 ∨ gridE g ≠ 0) := of_decide_eq_true h
end

end Go.Proofs.YtindehoegfiiaaaGreatDoor
