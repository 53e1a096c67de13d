/- ErectionStable: Stable returns the first loose standard, or the error that the document specifies, for all scaffolds. No conditions. -/
import Derived.Test.YtjmjiegplnfiiaaRows
import Derived.WalkKit
import Derived.ProofKit
import Derived.OpenShut
import Derived.Test.YtjmjiegplnfiiaaSbB
namespace Go.Proofs.Ytjmjiegplnfiiaa.erectionStable
open Go.ChangeShapes Go.WideShapes Go.ChangeAt Go.RowKit Go.Pv
theorem own : ownKnob Try.prog.godebug = none := by kernel_rfl
set_option maxRecDepth 100000 in
theorem hlaw : ∀ qs, ArgsP Try.prog [75, 3] qs → PCalls Try.prog 12 qs (.bool true) := by
 intro qs h
 obtain ⟨q1, l1, rfl, h1, h⟩ := h.cons_inv
 obtain ⟨q2, l2, rfl, h2, h⟩ := h.cons_inv
 obtain rfl := h.nil_inv
 obtain ⟨s, rfl, hs⟩ := Scaffold.arg h1
 obtain ⟨w, rfl, _⟩ := int_arg h2
 have hn := hs.nodes.1; have hm := hs.members.1
 rw [maxLen_eq] at hn hm
 exact hStable s w hn hm

set_option maxRecDepth 100000 in
theorem lifted (os : Os) (started : os.Started) (H : Type) (enc : TypeId × Value → H) :
   ReturnsInHanded {} Try.checked os 12 .any (Rows.erectionStableSpec.pre6 enc Try.prog Try.f12 Rows.erectionStableRow.domain false) (Rows.erectionStableSpec.post enc Try.prog Try.f12 false true false false) := by
 refine returnsInHanded_of_change (C := Try.checked) own started (by kernel_rfl) Try.func12
   (ChangeSpec.witness6 (enc := enc) (C := Try.checked) false ⟨#[], #[.agg #[.slice none 0 0, .slice none 0 0], .int .i64 0], []⟩ 8 (by kernel_rfl) (by kernel_rfl) (by kernel_rfl) (by kernel_rfl)) ?_
 intro W base args ds gs before hval0 hW hcnd _
 exact law_step (ts := [75, 3]) (by rw [Try.params12]) (by kernel_rfl) (by kernel_rfl) Try.underlying4 rfl
   (fun ds h => by
     match ds, h with
     | [_, _], _ => rfl) (by kernel_rfl) (by kernel_rfl) (by kernel_rfl) hlaw hval0 hW

theorem over : Rows.erectionStableRow.holds Try.pinned (OpenSpec.ofChange Rows.erectionStableSpec) :=
 OpenClaim.holds_of_wide 12 Try.f12 rfl rfl rfl rfl rfl rfl rfl ⟨rfl, rfl, rfl, rfl, rfl⟩ rfl rfl rfl rfl rfl (by kernel_rfl) Try.func12 (by kernel_rfl)
   (of_decide_eq_true (by kernel_rfl)) (by unfold Func.isWrapper; first | (rw [if_pos (by decide +kernel)]; kernel_rfl) | (rw [if_neg (by decide +kernel)]; exact ⟨rfl, rfl⟩))
   (fun os started H enc _ => lifted os started H enc)

/-- THE STATEMENT -/
theorem proved : Rows.ErectionStableSaid :=
 over
#print axioms proved
end Go.Proofs.Ytjmjiegplnfiiaa.erectionStable
