/- RecordChecks returns true at every record and event and changes no argument. No conditions. -/
import Derived.Test.YtdbpfhbppcpbbaaRows
import Derived.WalkKit
import Derived.ProofKit
import Derived.OpenShut
import Derived.Test.YtdbpfhbppcpbbaaChk
namespace Go.Proofs.Ytdbpfhbppcpbbaa.recordChecks
open Go.ChangeShapes Go.WideShapes Go.ChangeAt Go.RowKit Go.Pv
theorem own : ownKnob Try.prog.godebug = none := by kernel_rfl
set_option maxRecDepth 100000 in
theorem hlaw : ∀ qs, ArgsP Try.prog [22, 57] qs → PCalls Try.prog 14 qs (.bool true) := by
  intro qs h
  obtain ⟨q1, l1, rfl, h1, h⟩ := h.cons_inv
  obtain ⟨q2, l2, rfl, h2, h⟩ := h.cons_inv
  obtain rfl := h.nil_inv
  obtain ⟨xs, rfl, _, _⟩ := Ev.arg h1
  obtain ⟨cs, rfl, hc⟩ := h2.agg (tys := [3, 3, 9, 3, 4, 4]) (by kernel_rfl) (by kernel_rfl)
  obtain ⟨e, rfl, _⟩ := Ev.of hc
  exact checks xs e

set_option maxRecDepth 100000 in
theorem lifted (os : Os) (started : os.Started) (H : Type) (enc : TypeId × Value → H) :
    ReturnsInHanded {} Try.checked os 14 .any (Rows.recordChecksSpec.pre6 enc Try.prog Try.f14 Rows.recordChecksRow.domain false) (Rows.recordChecksSpec.post enc Try.prog Try.f14 false true false false) := by
  refine returnsInHanded_of_change (C := Try.checked) own started (by kernel_rfl) Try.func14
    (ChangeSpec.witness6 (enc := enc) (C := Try.checked) false ⟨#[], #[.slice none 0 0, .agg #[.int .i64 0, .int .i64 0, .string ⟨#[]⟩, .int .i64 0, .bool false, .bool false]], []⟩ 8 (by kernel_rfl) (by kernel_rfl) (by kernel_rfl) (by kernel_rfl)) ?_
  intro W base args ds gs before hval0 hW hcnd _
  exact law_step (ts := [22, 57]) (by rw [Try.params14]) (by kernel_rfl) (by kernel_rfl) Try.underlying4 rfl
    (fun ds h => by
      match ds, h with
      | [_, _], _ => rfl) (by kernel_rfl) (by kernel_rfl) (by kernel_rfl) hlaw hval0 hW

theorem over : Rows.recordChecksRow.holds Try.pinned (OpenSpec.ofChange Rows.recordChecksSpec) :=
  OpenClaim.holds_of_wide 14 Try.f14 rfl rfl rfl rfl rfl rfl rfl ⟨rfl, rfl, rfl, rfl, rfl⟩ rfl rfl rfl rfl rfl (by kernel_rfl) Try.func14 (by kernel_rfl)
    (of_decide_eq_true (by kernel_rfl)) (by unfold Func.isWrapper; first | (rw [if_pos (by decide +kernel)]; kernel_rfl) | (rw [if_neg (by decide +kernel)]; exact ⟨rfl, rfl⟩))
    (fun os started H enc _ => lifted os started H enc)

/-- THE STATEMENT -/
theorem proved : Rows.RecordChecksSaid :=
  over
#print axioms proved
end Go.Proofs.Ytdbpfhbppcpbbaa.recordChecks
