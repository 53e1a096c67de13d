/- ErectionFewest: Fewest returns the first order with the fewest handlings, and Orders the number of orders, or the errors. No conditions. -/
import Derived.Test.YtjmjiegplnfiiaaRows
import Derived.WalkKit
import Derived.ProofKit
import Derived.OpenShut
import Derived.Test.YtjmjiegplnfiiaaWkA
namespace Go.Proofs.Ytjmjiegplnfiiaa.erectionFewest
open Go.ChangeShapes Go.WideShapes Go.ChangeAt Go.RowKit Go.Pv
theorem own : ownKnob Try.prog.godebug = none := by kernel_rfl
set_option maxRecDepth 100000 in
theorem hlaw : ∀ qs, ArgsP Try.prog [22] qs → PCalls Try.prog 3 qs (.bool true) := by
 intro qs h
 obtain ⟨q1, l1, rfl, h1, h⟩ := h.cons_inv
 obtain rfl := h.nil_inv
 obtain ⟨xs, rfl, hl1, _⟩ := Task.arg h1
 exact hFewest xs (by rw [maxLen_eq] at hl1; exact hl1)

set_option maxRecDepth 100000 in
theorem lifted (os : Os) (started : os.Started) (H : Type) (enc : TypeId × Value → H) :
   ReturnsInHanded {} Try.checked os 3 .any (Rows.erectionFewestSpec.pre6 enc Try.prog Try.f3 Rows.erectionFewestRow.domain false) (Rows.erectionFewestSpec.post enc Try.prog Try.f3 false true false false) := by
 refine returnsInHanded_of_change (C := Try.checked) own started (by kernel_rfl) Try.func3
   (ChangeSpec.witness6 (enc := enc) (C := Try.checked) false ⟨#[], #[.slice none 0 0], []⟩ 8 (by kernel_rfl) (by kernel_rfl) (by kernel_rfl) (by kernel_rfl)) ?_
 intro W base args ds gs before hval0 hW hcnd _
 exact law_step (ts := [22]) (by rw [Try.params3]) (by kernel_rfl) (by kernel_rfl) Try.underlying4 rfl
   (fun ds h => by
     match ds, h with
     | [_], _ => rfl) (by kernel_rfl) (by kernel_rfl) (by kernel_rfl) hlaw hval0 hW

theorem over : Rows.erectionFewestRow.holds Try.pinned (OpenSpec.ofChange Rows.erectionFewestSpec) :=
 OpenClaim.holds_of_wide 3 Try.f3 rfl rfl rfl rfl rfl rfl rfl ⟨rfl, rfl, rfl, rfl, rfl⟩ rfl rfl rfl rfl rfl (by kernel_rfl) Try.func3 (by kernel_rfl)
   (of_decide_eq_true (by kernel_rfl)) (by unfold Func.isWrapper; first | (rw [if_pos (by decide +kernel)]; kernel_rfl) | (rw [if_neg (by decide +kernel)]; exact ⟨rfl, rfl⟩))
   (fun os started H enc _ => lifted os started H enc)

/-- THE STATEMENT -/
theorem proved : Rows.ErectionFewestSaid :=
 over
#print axioms proved
end Go.Proofs.Ytjmjiegplnfiiaa.erectionFewest
