/- YardLoads: CheckLoads and LeastLorries return what the document specifies. No conditions. -/
import Derived.Test.YtigdmkhdmbbfiaaRows
import Derived.WalkKit
import Derived.ProofKit
import Derived.OpenShut
import Derived.Test.YtigdmkhdmbbfiaaLdsA
namespace Go.Proofs.Ytigdmkhdmbbfiaa.yardLoads
open Go.ChangeShapes Go.WideShapes Go.ChangeAt Go.RowKit Go.Pv
theorem own : ownKnob Try.prog.godebug = none := by kernel_rfl
theorem cl_of {row : List PV} (h : CellsP Try.prog [116] row) : ∃ l : List Int, row = cl l ∧ True := by
  obtain ⟨q, l, rfl, h0, h⟩ := h.cons_inv
  obtain rfl := h.nil_inv
  obtain ⟨rows, rfl, _, h2⟩ := h0.slice_at (tys := [3]) (n := 1) Try.underlying116 (by kernel_rfl) (by kernel_rfl)
  obtain ⟨xs, rfl, _⟩ := rows_of (f := ci) (ok := fun _ => True) fun row hr => by
    obtain ⟨q, l, rfl, h0, h⟩ := (h2 row hr).cons_inv
    obtain rfl := h.nil_inv
    obtain ⟨z, rfl, _⟩ := h0.int_inv (k := .i64) Try.underlying3
    exact ⟨z, rfl, trivial⟩
  exact ⟨xs, rfl, trivial⟩
set_option maxRecDepth 100000 in
theorem hlaw : ∀ qs, ArgsP Try.prog [50, 52, 53] qs → PCalls Try.prog 5 qs (.bool true) := by
  intro qs h
  obtain ⟨q1, l1, rfl, h1, h⟩ := h.cons_inv
  obtain ⟨q2, l2, rfl, h2, h⟩ := h.cons_inv
  obtain ⟨q3, l3, rfl, h3, h⟩ := h.cons_inv
  obtain rfl := h.nil_inv
  obtain ⟨its, rfl, _, _⟩ := Item.arg h1
  obtain ⟨cs, rfl, hc⟩ := h2.agg (tys := [3, 3]) (by kernel_rfl) (by kernel_rfl)
  obtain ⟨x, rfl, _⟩ := Lorry.of hc
  obtain ⟨rows, rfl, hl, h4⟩ := (h3.cell (by kernel_rfl)).slice_at (tys := [116]) (n := 1) Try.underlying53 (by kernel_rfl) (by kernel_rfl)
  obtain ⟨ls, rfl, _⟩ := rows_of fun row hr => cl_of (h4 row hr)
  exact hloads its x ls (by have : maxLen ≤ 9223372036854775807 := by decide
                            simp only [List.length_map] at hl; omega)

set_option maxRecDepth 100000 in
theorem lifted (os : Os) (started : os.Started) (H : Type) (enc : TypeId × Value → H) :
    ReturnsInHanded {} Try.checked os 5 .any (Rows.yardLoadsSpec.pre6 enc Try.prog Try.f5 Rows.yardLoadsRow.domain false) (Rows.yardLoadsSpec.post enc Try.prog Try.f5 false true false false) := by
  refine returnsInHanded_of_change (C := Try.checked) own started (by kernel_rfl) Try.func5
    (ChangeSpec.witness6 (enc := enc) (C := Try.checked) false ⟨#[], #[.slice none 0 0, .agg #[.int .i64 0, .int .i64 0], .slice none 0 0], []⟩ 8 (by kernel_rfl) (by kernel_rfl) (by kernel_rfl) (by kernel_rfl)) ?_
  intro W base args ds gs before hval0 hW hcnd _
  exact law_step (ts := [50, 52, 53]) (by rw [Try.params5]) (by kernel_rfl) (by kernel_rfl) Try.underlying4 rfl
    (fun ds h => by
      match ds, h with
      | [_, _, _], _ => rfl) (by kernel_rfl) (by kernel_rfl) (by kernel_rfl) hlaw hval0 hW

theorem over : Rows.yardLoadsRow.holds Try.pinned (OpenSpec.ofChange Rows.yardLoadsSpec) :=
  OpenClaim.holds_of_wide 5 Try.f5 rfl rfl rfl rfl rfl rfl rfl ⟨rfl, rfl, rfl, rfl, rfl⟩ rfl rfl rfl rfl rfl (by kernel_rfl) Try.func5 (by kernel_rfl)
    (of_decide_eq_true (by kernel_rfl)) (by unfold Func.isWrapper; first | (rw [if_pos (by decide +kernel)]; kernel_rfl) | (rw [if_neg (by decide +kernel)]; exact ⟨rfl, rfl⟩))
    (fun os started H enc _ => lifted os started H enc)

/-- THE STATEMENT -/
theorem proved : Rows.YardLoadsSaid :=
  over
#print axioms proved
end Go.Proofs.Ytigdmkhdmbbfiaa.yardLoads
