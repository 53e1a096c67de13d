import Derived.Test.YtjmjiegplnfiiaaAwkA
/- Ends of slots. No conditions. -/
set_option linter.unusedSimpArgs false
set_option linter.unusedVariables false
set_option maxRecDepth 100000
namespace Go.Proofs.Ytjmjiegplnfiiaa
open Go Go.Pv

theorem few_fair {xs : List Task} {n : Int} (h : fewB xs n = true) : (xs.length : Int) ≤ n ∧ Fair xs := by
 simp only [fewB, decide_eq_true_eq] at h
 exact ⟨h.1, fun x hx => by have := h.2 x hx; omega⟩
/-! ### The end of slots -/
section
variable {xs : List Task} {ss : List Slot} {k : Nat} {s : Slot} {x : Task}
end

end Go.Proofs.Ytjmjiegplnfiiaa

/- Stages: what the program tells. No conditions. -/
set_option linter.unusedSimpArgs false
set_option linter.unusedVariables false
set_option maxRecDepth 100000
namespace Go.Proofs.Ytjmjiegplnfiiaa
open Go Go.Pv
/-! ### Stages -/
section
variable {xs : List Task} {D : List Int} {k : Nat}
end
end Go.Proofs.Ytjmjiegplnfiiaa

/- Ready and closed stages. No conditions. -/
set_option linter.unusedSimpArgs false
set_option linter.unusedVariables false
set_option maxRecDepth 100000
namespace Go.Proofs.Ytjmjiegplnfiiaa
open Go Go.Pv
end Go.Proofs.Ytjmjiegplnfiiaa
