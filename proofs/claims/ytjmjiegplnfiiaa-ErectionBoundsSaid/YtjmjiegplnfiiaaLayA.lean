import Derived.Test.YtjmjiegplnfiiaaTrnA
/- Tasks by their depths: plain laws. No conditions. -/
set_option linter.unusedSimpArgs false
set_option linter.unusedVariables false
namespace Go.Proofs.Ytjmjiegplnfiiaa
open Go Go.Pv

/-! ### Depths -/
def InB (b : Int) (d : List Int) : Prop := ∀ i, 0 ≤ at0 d i ∧ at0 d i ≤ b
theorem InB.zero {n : Nat} : InB 0 (List.replicate n 0) := fun i => by
 simp only [at0, List.getD_eq_getElem?_getD, List.getElem?_replicate]
 split <;> simp
theorem InB.le {a b : Int} {d : List Int} (h : InB a d) (hab : a ≤ b) : InB b d := fun i => by have := h i; omega
/-! ### Rows of tasks -/
end Go.Proofs.Ytjmjiegplnfiiaa

/- Tasks by their depths, as the program tells them. No conditions. -/
set_option linter.unusedSimpArgs false
set_option linter.unusedVariables false
set_option maxRecDepth 100000
namespace Go.Proofs.Ytjmjiegplnfiiaa
open Go Go.Pv
theorem ordR_acc {nd : List (List Int)} : AccOK nd (ordR nd) := ordF_acc (nd := nd) nd.length .nil
theorem ordR_len {xs : List Task} (h : AccOK (ndX xs) (ordR (ndX xs))) : (ordR (ndX xs)).length ≤ xs.length := by
 have := h.len; rw [ndX_len] at this; exact this

theorem ordX_p {xs : List Task} (h : (ordX xs).2 = 0) : planE xs = 0 := by
 by_cases hp : planE xs = 0
 · exact hp
 · rw [ordX, if_pos hp] at h; exact h
end Go.Proofs.Ytjmjiegplnfiiaa

/- Plans: orders, the reverse, the layers. No conditions. -/
set_option linter.unusedSimpArgs false
set_option linter.unusedVariables false
set_option maxRecDepth 100000
namespace Go.Proofs.Ytjmjiegplnfiiaa
open Go Go.Pv
end Go.Proofs.Ytjmjiegplnfiiaa
