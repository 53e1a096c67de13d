/- Load returns a right loading with the least number of lorries, or the error that the document specifies. No conditions. -/
import Derived.Test.YtigdmkhdmbbfiaaRows
import Derived.WalkKit
import Derived.ProofKit
import Derived.OpenShut
import Derived.Test.YtigdmkhdmbbfiaaLv
namespace Go.Proofs.Ytigdmkhdmbbfiaa.yardLoading
open Go.ChangeShapes Go.WideShapes Go.ChangeAt Go.RowKit Go.Pv
theorem own : ownKnob Try.prog.godebug = none := by kernel_rfl
set_option maxRecDepth 100000 in
theorem hlaw : ∀ qs, ArgsP Try.prog [50, 52] qs → PCalls Try.prog 12 qs (.bool true) := by
 intro qs h
 obtain ⟨q1, l1, rfl, h1, h⟩ := h.cons_inv
 obtain ⟨q2, l2, rfl, h2, h⟩ := h.cons_inv
 obtain rfl := h.nil_inv
 obtain ⟨its, rfl, _, _⟩ := Item.arg h1
 obtain ⟨cs, rfl, hc⟩ := h2.agg (tys := [3, 3]) (by kernel_rfl) (by kernel_rfl)
 obtain ⟨x, rfl, _⟩ := Lorry.of hc
 exact hLoading its x

set_option maxRecDepth 100000 in
theorem lifted (os : Os) (started : os.Started) (H : Type) (enc : TypeId × Value → H) :
   ReturnsInHanded {} Try.checked os 12 .any (Rows.yardLoadingSpec.pre6 enc Try.prog Try.f12 Rows.yardLoadingRow.domain false) (Rows.yardLoadingSpec.post enc Try.prog Try.f12 false true false false) := by
 refine returnsInHanded_of_change (C := Try.checked) own started (by kernel_rfl) Try.func12
   (ChangeSpec.witness6 (enc := enc) (C := Try.checked) false ⟨#[], #[.slice none 0 0, .agg #[.int .i64 0, .int .i64 0]], []⟩ 8 (by kernel_rfl) (by kernel_rfl) (by kernel_rfl) (by kernel_rfl)) ?_
 intro W base args ds gs before hval0 hW hcnd _
 exact law_step (ts := [50, 52]) (by rw [Try.params12]) (by kernel_rfl) (by kernel_rfl) Try.underlying4 rfl
   (fun ds h => by
     match ds, h with
     | [_, _], _ => rfl) (by kernel_rfl) (by kernel_rfl) (by kernel_rfl) hlaw hval0 hW

theorem over : Rows.yardLoadingRow.holds Try.pinned (OpenSpec.ofChange Rows.yardLoadingSpec) :=
 OpenClaim.holds_of_wide 12 Try.f12 rfl rfl rfl rfl rfl rfl rfl ⟨rfl, rfl, rfl, rfl, rfl⟩ rfl rfl rfl rfl rfl (by kernel_rfl) Try.func12 (by kernel_rfl)
   (of_decide_eq_true (by kernel_rfl)) (by unfold Func.isWrapper; first | (rw [if_pos (by decide +kernel)]; kernel_rfl) | (rw [if_neg (by decide +kernel)]; exact ⟨rfl, rfl⟩))
   (fun os started H enc _ => lifted os started H enc)

/-- THE STATEMENT -/
theorem proved : Rows.YardLoadingSaid :=
 over
#print axioms proved
end Go.Proofs.Ytigdmkhdmbbfiaa.yardLoading
