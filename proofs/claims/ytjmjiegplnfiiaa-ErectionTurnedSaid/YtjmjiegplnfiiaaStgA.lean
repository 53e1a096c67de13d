import Derived.Test.YtjmjiegplnfiiaaAwkA
/- Ends of slots. No conditions. -/
set_option linter.unusedSimpArgs false
set_option linter.unusedVariables false
set_option maxRecDepth 100000
namespace Go.Proofs.Ytjmjiegplnfiiaa
open Go Go.Pv

theorem few_fair {xs : List Task} {n : Int} (h : fewB xs n = true) : (xs.length : Int) ≤ n ∧ Fair xs := by
  simp only [fewB, decide_eq_true_eq] at h
  exact ⟨h.1, fun x hx => by have := h.2 x hx; omega⟩
/-! ### The end of slots -/
section
variable {xs : List Task} {ss : List Slot} {k : Nat} {s : Slot} {x : Task}
theorem pr2 {h : Heap} {a b : Int} {p : Int × Int} (e : p = (a, b)) : Out h (.tup [.int a, .int b]) (.tup [.int p.1, .int p.2]) := by rw [e]; exact out_2 (out_i rfl) (out_i rfl)
end

end Go.Proofs.Ytjmjiegplnfiiaa

/- Stages: what the program tells. No conditions. -/
set_option linter.unusedSimpArgs false
set_option linter.unusedVariables false
set_option maxRecDepth 100000
namespace Go.Proofs.Ytjmjiegplnfiiaa
open Go Go.Pv
/-! ### Stages -/
section
variable {xs : List Task} {D : List Int} {k : Nat}
theorem done_snoc {n u : Nat} (hk : k < D.length) (hu : at0 D k = (u : Int)) (hn : u < n) : (doneB n (D.take k)).set u true = doneB n (D.take (k + 1)) := by
  rw [doneB_set hn, ← List.take_append_getElem hk, at0_elem hk, hu]
theorem done_get {n : Nat} {z : Int} (h : 0 ≤ z ∧ z < n) : (doneB n D)[z.toNat]? = some (decide (z ∈ D)) := by
  rw [doneB_get (by omega), Int.toNat_of_nonneg h.1]
end
theorem any_has (bs : List Bool) (l : List Int) : (l.any fun z => !(bs.getD z.toNat false)) = !(hasB bs l) := by
  rw [hasB, List.all_eq_not_any_not, Bool.not_not]
end Go.Proofs.Ytjmjiegplnfiiaa

/- Ready and closed stages. No conditions. -/
set_option linter.unusedSimpArgs false
set_option linter.unusedVariables false
set_option maxRecDepth 100000
namespace Go.Proofs.Ytjmjiegplnfiiaa
open Go Go.Pv
end Go.Proofs.Ytjmjiegplnfiiaa
