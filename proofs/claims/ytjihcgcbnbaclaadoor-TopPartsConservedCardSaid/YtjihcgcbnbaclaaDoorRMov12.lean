import Derived.Test.YtjihcgcbnbaclaaDoorRMovB
import Derived.Test.YtjihcgcbnbaclaaDoorRMov9
import Derived.Test.YtjihcgcbnbaclaaDoorRMovA
set_option linter.unusedSimpArgs false
set_option linter.unusedVariables false
set_option maxRecDepth 100000
namespace Go.Proofs.YtjihcgcbnbaclaaDoor.Y9
open Go Go.Pv Go.Proofs.YtjihcgcbnbaclaaDoor
theorem lotP_cnt {ts : List Term} {ms : List Move} (h : tmE ts ms = 0) : ∀ x ∈ lotsP ts ms, 0 < x.count ∧ x.count ≤ 100000 := fun x hx => by
 rw [lotsP_0 h] at hx;obtain ⟨t, _, ho⟩ := lotsT_okL (fun m hm => (tm_go h m hm).1) x hx;exact ho.2
theorem lotP_len {ts : List Term} {ms : List Move} (hl : ts.length ≤ 65) (hm : ms.length ≤ 305) : (lotsP ts ms).length ≤ 6066450 := by
 have h1 := lotsT_len ts ms hm;have h2 : ts.length * 93330 ≤ 65 * 93330 := Nat.mul_le_mul_right _ hl;unfold lotsP;split
 · omega
 · simp
end Go.Proofs.YtjihcgcbnbaclaaDoor.Y9
