/- Ends of slots. No conditions. -/
import Derived.Test.YtjmjiegplnfiiaaAwkA
set_option linter.unusedSimpArgs false
set_option linter.unusedVariables false
set_option maxRecDepth 100000
namespace Go.Proofs.Ytjmjiegplnfiiaa
open Go Go.Pv

theorem few_fair {xs : List Task} {n : Int} (h : fewB xs n = true) : (xs.length : Int) ≤ n ∧ Fair xs := by
  simp only [fewB, decide_eq_true_eq] at h
  exact ⟨h.1, fun x hx => by have := h.2 x hx; omega⟩
/-! ### The end of slots -/
section
variable {xs : List Task} {ss : List Slot} {k : Nat} {s : Slot} {x : Task}
theorem pr2 {h : Heap} {a b : Int} {p : Int × Int} (e : p = (a, b)) : Out h (.tup [.int a, .int b]) (.tup [.int p.1, .int p.2]) := by rw [e]; exact out_2 (out_i rfl) (out_i rfl)
end

end Go.Proofs.Ytjmjiegplnfiiaa
