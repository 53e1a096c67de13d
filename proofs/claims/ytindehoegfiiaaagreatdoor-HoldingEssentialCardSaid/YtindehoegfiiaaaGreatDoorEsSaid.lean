/- HoldingEssential: Essential returns the essential demands, or the error that the document specifies, for all demands. No conditions but those of the row: the tables of the library as the program lays them. -/
import Derived.Test.YtindehoegfiiaaaGreatDoorCards
import Derived.Test.YtindehoegfiiaaaGreatDoorTie
import Derived.WalkKit
import Derived.ProofKit
import Derived.OpenShut
import Derived.LaidMore
import Derived.Stop.Joined
import Derived.SevenTiedAt
import Derived.Test.YtindehoegfiiaaaGreatDoorGlo
import Derived.Test.YtindehoegfiiaaaGreatDoorEs2
namespace Go.Proofs.YtindehoegfiiaaaGreatDoor.holdingEssential
open Go Go.ChangeShapes Go.WideShapes Go.ChangeAt Go.RowKit Go.Pv
theorem own : ownKnob Tryz.prog.godebug = none := by kernel_rfl
set_option maxRecDepth 100000 in
theorem hlaw : ∀ qs, ArgsP Tryz.prog [43] qs → PCalls Tryz.prog 8 qs (.bool true) := by
 intro qs h
 obtain ⟨q1, l1, rfl, h1, h⟩ := h.cons_inv
 obtain rfl := h.nil_inv
 obtain ⟨d, rfl, hd, _⟩ := Demand.arg h1
 have hx : maxLen ≤ 9223372036854775807 := by decide
 exact hEssential d (by omega)

set_option maxRecDepth 100000 in
theorem lifted (os : Os) (started : os.Started) (H : Type) (enc : TypeId × Value → H) :
   ReturnsInHanded {} Tryz.checked os 8 .any (fun w args => (Rows.holdingEssentialSpec.pre enc Tryz.prog Tryz.f8 [] false w args ∧ laidMetH Tryz.prog laid3 w) ∧ sizedMet enc Tryz.prog Tryz.f8 (OpenSpec.ofChange Rows.holdingEssentialSpec) false w args)
     (Rows.holdingEssentialSpec.post enc Tryz.prog Tryz.f8 false true false false) := by
 refine returnsInHanded_of_change_and (C := Tryz.checked) (X := fun w _ => laidMetH Tryz.prog laid3 w) (fun _ _ _ hh h => h.of_heap hh) own started (by kernel_rfl) Tryz.func8
   (ChangeSpec.witness_shaped (enc := enc) (C := Tryz.checked) (os := os) (X := fun w _ => laidMetH Tryz.prog laid3 w) false (World.doorLaid Tryz.prog 400 os) #[.slice none 0 0] 8 rfl (World.shaped_of_RefB (by kernel_rfl) (by kernel_rfl)) (by kernel_rfl) (by kernel_rfl) (by kernel_rfl) (door_met os _)) ?_
 intro W base args ds gs before hval0 hW _ _ hL _
 exact law_stepG (ts := [43]) (by rw [Tryz.params8]) (by kernel_rfl) (by kernel_rfl) Tryz.underlying4 rfl
   (fun ds h => by
     match ds, h with
     | [_], _ => rfl) (by kernel_rfl) (by kernel_rfl) (by kernel_rfl) hlaw hval0 hW (gw_of_laid hL)

theorem over : Rows.HoldingEssentialSaid :=
 OpenClaim.holds_of_wide 8 Tryz.f8 rfl rfl rfl rfl rfl rfl rfl ⟨rfl, rfl, rfl, rfl, rfl⟩ rfl rfl rfl rfl rfl (by kernel_rfl) Tryz.func8 (by kernel_rfl)
   (of_decide_eq_true (by kernel_rfl)) (by unfold Func.isWrapper; first | (rw [if_pos (by decide +kernel)]; kernel_rfl) | (rw [if_neg (by decide +kernel)]; exact ⟨rfl, rfl⟩))
   (fun os started H enc _ => lifted os started H enc)

/-- THE STATEMENT -/
theorem proved : Rows.HoldingEssentialCardSaid :=
 Claim7.holds_tied_plain_at .later [] [.data, .data, .data] true (true, "37dc0fe45541eb8af0a83ae76d1da2e980cc147a50d9bb090c3ae6f3f207150d") false
   over (fun _ h => by cases h) (by kernel_rfl) (fun _ h => by cases h) holdingEssential_row_tie rfl ⟨rfl, rfl⟩ (by kernel_rfl) rfl
   (fun f fn hf hfn => by
     obtain rfl : f = 8 := Option.some.inj ((show Tryz.prog.funcNamed "putlog/putloglaw06.HoldingEssential" = some 8 by kernel_rfl).symm.trans hf) |>.symm
     obtain rfl : fn = Tryz.f8 := (Option.some.inj (Tryz.func8.symm.trans hfn)).symm
     exact ⟨by kernel_rfl, fun j t ht => by
       rw [Tryz.params8] at ht
       have hm : t ∈ [43] := by simpa using Array.mem_of_getElem? ht
       have hall : ([43].all fun u => !Tryz.prog.wantsStandIn u) = true := by kernel_rfl
       exact (show Tryz.prog.wantsStandIn t = false by simpa using List.all_eq_true.1 hall t hm)⟩)
   (by kernel_rfl)
#print axioms proved
end Go.Proofs.YtindehoegfiiaaaGreatDoor.holdingEssential
