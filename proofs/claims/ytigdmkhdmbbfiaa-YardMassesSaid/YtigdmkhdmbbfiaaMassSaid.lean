/- YardMasses: Mass and Bundles return what the document specifies, or the errors. No conditions. -/
import Derived.Test.YtigdmkhdmbbfiaaRows
import Derived.WalkKit
import Derived.ProofKit
import Derived.OpenShut
import Derived.Test.YtigdmkhdmbbfiaaMasA
namespace Go.Proofs.Ytigdmkhdmbbfiaa.yardMasses
open Go.ChangeShapes Go.WideShapes Go.ChangeAt Go.RowKit Go.Pv
theorem own : ownKnob Try.prog.godebug = none := by kernel_rfl
set_option maxRecDepth 100000 in
theorem hlaw : ∀ qs, ArgsP Try.prog [64, 83, 3] qs → PCalls Try.prog 9 qs (.bool true) := by
  intro qs h
  obtain ⟨q1, l1, rfl, h1, h⟩ := h.cons_inv
  obtain ⟨q2, l2, rfl, h2, h⟩ := h.cons_inv
  obtain ⟨q3, l3, rfl, h3, h⟩ := h.cons_inv
  obtain rfl := h.nil_inv
  obtain ⟨ws, rfl, hl1, _⟩ := Want.arg h1
  obtain ⟨ps, rfl, hl2, _⟩ := Part.arg h2
  obtain ⟨z, rfl, _⟩ := (h3.cell (by kernel_rfl)).int_inv (k := .i64) Try.underlying3
  exact hmass ws ps z

set_option maxRecDepth 100000 in

set_option maxRecDepth 100000 in
theorem lifted (os : Os) (started : os.Started) (H : Type) (enc : TypeId × Value → H) :
    ReturnsInHanded {} Try.checked os 9 .any (Rows.yardMassesSpec.pre6 enc Try.prog Try.f9 Rows.yardMassesRow.domain false) (Rows.yardMassesSpec.post enc Try.prog Try.f9 false true false false) := by
  refine returnsInHanded_of_change (C := Try.checked) own started (by kernel_rfl) Try.func9
    (ChangeSpec.witness6 (enc := enc) (C := Try.checked) false ⟨#[], #[.slice none 0 0, .slice none 0 0, .int .i64 0], []⟩ 8 (by kernel_rfl) (by kernel_rfl) (by kernel_rfl) (by kernel_rfl)) ?_
  intro W base args ds gs before hval0 hW hcnd _
  exact law_step (ts := [64, 83, 3]) (by rw [Try.params9]) (by kernel_rfl) (by kernel_rfl) Try.underlying4 rfl
    (fun ds h => by
      match ds, h with
      | [_, _, _], _ => rfl) (by kernel_rfl) (by kernel_rfl) (by kernel_rfl) hlaw hval0 hW

theorem over : Rows.yardMassesRow.holds Try.pinned (OpenSpec.ofChange Rows.yardMassesSpec) :=
  OpenClaim.holds_of_wide 9 Try.f9 rfl rfl rfl rfl rfl rfl rfl ⟨rfl, rfl, rfl, rfl, rfl⟩ rfl rfl rfl rfl rfl (by kernel_rfl) Try.func9 (by kernel_rfl)
    (of_decide_eq_true (by kernel_rfl)) (by unfold Func.isWrapper; first | (rw [if_pos (by decide +kernel)]; kernel_rfl) | (rw [if_neg (by decide +kernel)]; exact ⟨rfl, rfl⟩))
    (fun os started H enc _ => lifted os started H enc)

/-- THE STATEMENT -/
theorem proved : Rows.YardMassesSaid :=
  over
#print axioms proved
end Go.Proofs.Ytigdmkhdmbbfiaa.yardMasses
