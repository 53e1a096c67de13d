/- YardPicks: Pick returns the movements and what is lacking, or the error that the document specifies. No conditions. -/
import Derived.Test.YtigdmkhdmbbfiaaRows
import Derived.WalkKit
import Derived.ProofKit
import Derived.OpenShut
import Derived.Test.YtigdmkhdmbbfiaaPikB
namespace Go.Proofs.Ytigdmkhdmbbfiaa.yardPicks
open Go.ChangeShapes Go.WideShapes Go.ChangeAt Go.RowKit Go.Pv
theorem own : ownKnob Try.prog.godebug = none := by kernel_rfl
set_option maxRecDepth 100000 in
theorem hlaw : ∀ qs, ArgsP Try.prog [34, 67] qs → PCalls Try.prog 7 qs (.bool true) := by
  intro qs h
  obtain ⟨q1, l1, rfl, h1, h⟩ := h.cons_inv
  obtain ⟨q2, l2, rfl, h2, h⟩ := h.cons_inv
  obtain rfl := h.nil_inv
  obtain ⟨xs, rfl, hl, _⟩ := Stock.arg h1
  obtain ⟨cs, rfl, hc⟩ := h2.agg (tys := [3, 64, 65]) (by kernel_rfl) (by kernel_rfl)
  obtain ⟨o, rfl, ok1, ok2⟩ := Order.of hc
  have hx : maxLen ≤ 9223372036854775807 := by decide
  exact hpicks xs o (by omega) (by omega) (by omega)

set_option maxRecDepth 100000 in
theorem lifted (os : Os) (started : os.Started) (H : Type) (enc : TypeId × Value → H) :
    ReturnsInHanded {} Try.checked os 7 .any (Rows.yardPicksSpec.pre6 enc Try.prog Try.f7 Rows.yardPicksRow.domain false) (Rows.yardPicksSpec.post enc Try.prog Try.f7 false true false false) := by
  refine returnsInHanded_of_change (C := Try.checked) own started (by kernel_rfl) Try.func7
    (ChangeSpec.witness6 (enc := enc) (C := Try.checked) false ⟨#[], #[.slice none 0 0, .agg #[.int .i64 0, .slice none 0 0, .slice none 0 0]], []⟩ 8 (by kernel_rfl) (by kernel_rfl) (by kernel_rfl) (by kernel_rfl)) ?_
  intro W base args ds gs before hval0 hW hcnd _
  exact law_step (ts := [34, 67]) (by rw [Try.params7]) (by kernel_rfl) (by kernel_rfl) Try.underlying4 rfl
    (fun ds h => by
      match ds, h with
      | [_, _], _ => rfl) (by kernel_rfl) (by kernel_rfl) (by kernel_rfl) hlaw hval0 hW

theorem over : Rows.yardPicksRow.holds Try.pinned (OpenSpec.ofChange Rows.yardPicksSpec) :=
  OpenClaim.holds_of_wide 7 Try.f7 rfl rfl rfl rfl rfl rfl rfl ⟨rfl, rfl, rfl, rfl, rfl⟩ rfl rfl rfl rfl rfl (by kernel_rfl) Try.func7 (by kernel_rfl)
    (of_decide_eq_true (by kernel_rfl)) (by unfold Func.isWrapper; first | (rw [if_pos (by decide +kernel)]; kernel_rfl) | (rw [if_neg (by decide +kernel)]; exact ⟨rfl, rfl⟩))
    (fun os started H enc _ => lifted os started H enc)

/-- THE STATEMENT -/
theorem proved : Rows.YardPicksSaid :=
  over
#print axioms proved
end Go.Proofs.Ytigdmkhdmbbfiaa.yardPicks
