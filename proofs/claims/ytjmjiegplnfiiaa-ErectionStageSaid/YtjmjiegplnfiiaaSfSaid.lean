/- ErectionStage: Stage returns the scaffold with the members of some tasks, or the error that the document specifies. No conditions. -/
import Derived.Test.YtjmjiegplnfiiaaRows
import Derived.WalkKit
import Derived.ProofKit
import Derived.OpenShut
import Derived.Test.YtjmjiegplnfiiaaSfB
namespace Go.Proofs.Ytjmjiegplnfiiaa.erectionStage
open Go.ChangeShapes Go.WideShapes Go.ChangeAt Go.RowKit Go.Pv
theorem own : ownKnob Try.prog.godebug = none := by kernel_rfl
set_option maxRecDepth 100000 in
theorem hlaw : ∀ qs, ArgsP Try.prog [75, 22, 25] qs → PCalls Try.prog 10 qs (.bool true) := by
 intro qs h
 obtain ⟨q1, l1, rfl, h1, h⟩ := h.cons_inv
 obtain ⟨q2, l2, rfl, h2, h⟩ := h.cons_inv
 obtain ⟨q3, l3, rfl, h3, h⟩ := h.cons_inv
 obtain rfl := h.nil_inv
 obtain ⟨s, rfl, hs⟩ := Scaffold.arg h1
 obtain ⟨xs, rfl, hl1, _⟩ := Task.arg h2
 obtain ⟨ds, rfl, hl3, _⟩ := ints_arg h3
 have hn := hs.nodes.1; have hm := hs.members.1
 rw [maxLen_eq] at hl1 hl3 hn hm
 exact hStage s xs ds hn hm hl1 hl3

set_option maxRecDepth 100000 in
theorem lifted (os : Os) (started : os.Started) (H : Type) (enc : TypeId × Value → H) :
   ReturnsInHanded {} Try.checked os 10 .any (Rows.erectionStageSpec.pre6 enc Try.prog Try.f10 Rows.erectionStageRow.domain false) (Rows.erectionStageSpec.post enc Try.prog Try.f10 false true false false) := by
 refine returnsInHanded_of_change (C := Try.checked) own started (by kernel_rfl) Try.func10
   (ChangeSpec.witness6 (enc := enc) (C := Try.checked) false ⟨#[], #[.agg #[.slice none 0 0, .slice none 0 0], .slice none 0 0, .slice none 0 0], []⟩ 8 (by kernel_rfl) (by kernel_rfl) (by kernel_rfl) (by kernel_rfl)) ?_
 intro W base args ds gs before hval0 hW hcnd _
 exact law_step (ts := [75, 22, 25]) (by rw [Try.params10]) (by kernel_rfl) (by kernel_rfl) Try.underlying4 rfl
   (fun ds h => by
     match ds, h with
     | [_, _, _], _ => rfl) (by kernel_rfl) (by kernel_rfl) (by kernel_rfl) hlaw hval0 hW

theorem over : Rows.erectionStageRow.holds Try.pinned (OpenSpec.ofChange Rows.erectionStageSpec) :=
 OpenClaim.holds_of_wide 10 Try.f10 rfl rfl rfl rfl rfl rfl rfl ⟨rfl, rfl, rfl, rfl, rfl⟩ rfl rfl rfl rfl rfl (by kernel_rfl) Try.func10 (by kernel_rfl)
   (of_decide_eq_true (by kernel_rfl)) (by unfold Func.isWrapper; first | (rw [if_pos (by decide +kernel)]; kernel_rfl) | (rw [if_neg (by decide +kernel)]; exact ⟨rfl, rfl⟩))
   (fun os started H enc _ => lifted os started H enc)

/-- THE STATEMENT -/
theorem proved : Rows.ErectionStageSaid :=
 over
#print axioms proved
end Go.Proofs.Ytjmjiegplnfiiaa.erectionStage
