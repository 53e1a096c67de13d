/- Stages: what the program tells. No conditions. -/
import Derived.Test.YtjmjiegplnfiiaaEnd
set_option linter.unusedSimpArgs false
set_option linter.unusedVariables false
set_option maxRecDepth 100000
namespace Go.Proofs.Ytjmjiegplnfiiaa
open Go Go.Pv
/-! ### Stages -/
section
variable {xs : List Task} {D : List Int} {k : Nat}
theorem done_snoc {n u : Nat} (hk : k < D.length) (hu : at0 D k = (u : Int)) (hn : u < n) : (doneB n (D.take k)).set u true = doneB n (D.take (k + 1)) := by
  rw [doneB_set hn, ← List.take_append_getElem hk, at0_elem hk, hu]
theorem done_get {n : Nat} {z : Int} (h : 0 ≤ z ∧ z < n) : (doneB n D)[z.toNat]? = some (decide (z ∈ D)) := by
  rw [doneB_get (by omega), Int.toNat_of_nonneg h.1]
end
theorem any_has (bs : List Bool) (l : List Int) : (l.any fun z => !(bs.getD z.toNat false)) = !(hasB bs l) := by
  rw [hasB, List.all_eq_not_any_not, Bool.not_not]
end Go.Proofs.Ytjmjiegplnfiiaa
