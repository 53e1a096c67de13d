/- ErectionBounds: Fewest is an order with the handlings that it tells, no fewer than the number of different places less 1; a schedule that is made is right, and ends no earlier than the longest chain. No conditions. -/
import Derived.Test.YtjmjiegplnfiiaaRows
import Derived.WalkKit
import Derived.ProofKit
import Derived.OpenShut
import Derived.Test.YtjmjiegplnfiiaaBdB
namespace Go.Proofs.Ytjmjiegplnfiiaa.erectionBounds
open Go.ChangeShapes Go.WideShapes Go.ChangeAt Go.RowKit Go.Pv
theorem own : ownKnob Try.prog.godebug = none := by kernel_rfl
set_option maxRecDepth 100000 in
theorem hlaw : ∀ qs, ArgsP Try.prog [22, 67] qs → PCalls Try.prog 13 qs (.bool true) := by
 intro qs h
 obtain ⟨q1, l1, rfl, h1, h⟩ := h.cons_inv
 obtain ⟨q2, l2, rfl, h2, h⟩ := h.cons_inv
 obtain rfl := h.nil_inv
 obtain ⟨xs, rfl, hl1, _⟩ := Task.arg h1
 obtain ⟨c, rfl, hc⟩ := Crew.arg h2
 have hg1 := hc.gangs.1; have hg2 := hc.closed.1
 rw [maxLen_eq] at hl1 hg1 hg2
 exact hBounds xs c hl1 hg1 hg2 (fun g hg => by have := (hc.gangs.2 g hg).trades.1; rw [maxLen_eq] at this; exact this)

set_option maxRecDepth 100000 in
theorem lifted (os : Os) (started : os.Started) (H : Type) (enc : TypeId × Value → H) :
   ReturnsInHanded {} Try.checked os 13 .any (Rows.erectionBoundsSpec.pre6 enc Try.prog Try.f13 Rows.erectionBoundsRow.domain false) (Rows.erectionBoundsSpec.post enc Try.prog Try.f13 false true false false) := by
 refine returnsInHanded_of_change (C := Try.checked) own started (by kernel_rfl) Try.func13
   (ChangeSpec.witness6 (enc := enc) (C := Try.checked) false ⟨#[], #[.slice none 0 0, .agg #[.slice none 0 0, .slice none 0 0]], []⟩ 8 (by kernel_rfl) (by kernel_rfl) (by kernel_rfl) (by kernel_rfl)) ?_
 intro W base args ds gs before hval0 hW hcnd _
 exact law_step (ts := [22, 67]) (by rw [Try.params13]) (by kernel_rfl) (by kernel_rfl) Try.underlying4 rfl
   (fun ds h => by
     match ds, h with
     | [_, _], _ => rfl) (by kernel_rfl) (by kernel_rfl) (by kernel_rfl) hlaw hval0 hW

theorem over : Rows.erectionBoundsRow.holds Try.pinned (OpenSpec.ofChange Rows.erectionBoundsSpec) :=
 OpenClaim.holds_of_wide 13 Try.f13 rfl rfl rfl rfl rfl rfl rfl ⟨rfl, rfl, rfl, rfl, rfl⟩ rfl rfl rfl rfl rfl (by kernel_rfl) Try.func13 (by kernel_rfl)
   (of_decide_eq_true (by kernel_rfl)) (by unfold Func.isWrapper; first | (rw [if_pos (by decide +kernel)]; kernel_rfl) | (rw [if_neg (by decide +kernel)]; exact ⟨rfl, rfl⟩))
   (fun os started H enc _ => lifted os started H enc)

/-- THE STATEMENT -/
theorem proved : Rows.ErectionBoundsSaid :=
 over
#print axioms proved
end Go.Proofs.Ytjmjiegplnfiiaa.erectionBounds
