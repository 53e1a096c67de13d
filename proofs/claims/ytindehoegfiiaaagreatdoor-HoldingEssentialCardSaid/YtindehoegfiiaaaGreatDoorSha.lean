/- Shares of the wind. No conditions. -/
import Derived.Test.YtindehoegfiiaaaGreatDoorTis
set_option linter.unusedSimpArgs false
set_option linter.unusedVariables false
set_option maxRecDepth 100000
namespace Go.Proofs.YtindehoegfiiaaaGreatDoor
open Go Go.Pv
/-! ### Shares of the wind -/
section
variable {f : Tie → Int} {l : List Tie} {k i n : Nat} {t : Tie} {g : Grid} {w o : List Int} {v x z b : Int}
theorem any_out {lo hi : Int} (h : w.any (outB lo hi) = false) (hx : x ∈ w) : lo ≤ x ∧ x ≤ hi := by
 rw [List.any_eq_false] at h
 have q := h x hx
 rw [outB, Bool.not_eq_true, Bool.not_eq_false', decide_eq_true_eq] at q
 exact q
theorem flat_lt {k r A M : Nat} (hk : k < A) (hr : r < M) : k * M + r < A * M := by
 have h1 : (k + 1) * M ≤ A * M := Nat.mul_le_mul_right M hk
 rw [Nat.add_mul, Nat.one_mul] at h1
 omega
end

end Go.Proofs.YtindehoegfiiaaaGreatDoor
