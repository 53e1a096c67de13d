/- HoldingChooses: Choose returns the first least set of ties that holds the grid, or the error that the document specifies. No conditions but those of the row: the tables of the library as the program lays them. -/
import Derived.Test.YtindehoegfiiaaaGreatDoorCards
import Derived.Test.YtindehoegfiiaaaGreatDoorTie
import Derived.WalkKit
import Derived.ProofKit
import Derived.OpenShut
import Derived.LaidMore
import Derived.Stop.Joined
import Derived.SevenTiedAt
import Derived.Test.YtindehoegfiiaaaGreatDoorGlo
import Derived.Test.YtindehoegfiiaaaGreatDoorCh6
namespace Go.Proofs.YtindehoegfiiaaaGreatDoor.holdingChooses
open Go Go.ChangeShapes Go.WideShapes Go.ChangeAt Go.RowKit Go.Pv
theorem own : ownKnob Tryz.prog.godebug = none := by kernel_rfl
set_option maxRecDepth 100000 in
theorem hlaw : ∀ qs, ArgsP Tryz.prog [24, 26, 34] qs → PCalls Tryz.prog 4 qs (.bool true) := by
 intro qs h
 obtain ⟨q1, l1, rfl, h1, h⟩ := h.cons_inv
 obtain ⟨q2, l2, rfl, h2, h⟩ := h.cons_inv
 obtain ⟨q3, l3, rfl, h3, h⟩ := h.cons_inv
 obtain rfl := h.nil_inv
 obtain ⟨g, rfl, hg⟩ := Grid.arg h1
 obtain ⟨r, rfl, hr⟩ := Rule.arg h2
 obtain ⟨l, rfl, ht, _⟩ := Tie.arg h3
 have ha := hg.along.1; have hb := hg.levels.1
 have hx : maxLen ≤ 9223372036854775807 := by decide
 exact hChooses g r l (by omega) (by omega) (by omega)

set_option maxRecDepth 100000 in
theorem lifted (os : Os) (started : os.Started) (H : Type) (enc : TypeId × Value → H) :
   ReturnsInHanded {} Tryz.checked os 4 .any (fun w args => (Rows.holdingChoosesSpec.pre enc Tryz.prog Tryz.f4 [] false w args ∧ laidMetH Tryz.prog laid3 w) ∧ sizedMet enc Tryz.prog Tryz.f4 (OpenSpec.ofChange Rows.holdingChoosesSpec) false w args)
     (Rows.holdingChoosesSpec.post enc Tryz.prog Tryz.f4 false true false false) := by
 refine returnsInHanded_of_change_and (C := Tryz.checked) (X := fun w _ => laidMetH Tryz.prog laid3 w) (fun _ _ _ hh h => h.of_heap hh) own started (by kernel_rfl) Tryz.func4
   (ChangeSpec.witness_shaped (enc := enc) (C := Tryz.checked) (os := os) (X := fun w _ => laidMetH Tryz.prog laid3 w) false (World.doorLaid Tryz.prog 400 os) #[.agg #[.int .i64 0, .slice none 0 0, .slice none 0 0], .agg #[.int .i64 0, .int .i64 0, .int .i64 0, .int .i64 0, .int .i64 0], .slice none 0 0] 8 rfl (World.shaped_of_RefB (by kernel_rfl) (by kernel_rfl)) (by kernel_rfl) (by kernel_rfl) (by kernel_rfl) (door_met os _)) ?_
 intro W base args ds gs before hval0 hW _ _ hL _
 exact law_stepG (ts := [24, 26, 34]) (by rw [Tryz.params4]) (by kernel_rfl) (by kernel_rfl) Tryz.underlying4 rfl
   (fun ds h => by
     match ds, h with
     | [_, _, _], _ => rfl) (by kernel_rfl) (by kernel_rfl) (by kernel_rfl) hlaw hval0 hW (gw_of_laid hL)

theorem over : Rows.HoldingChoosesSaid :=
 OpenClaim.holds_of_wide 4 Tryz.f4 rfl rfl rfl rfl rfl rfl rfl ⟨rfl, rfl, rfl, rfl, rfl⟩ rfl rfl rfl rfl rfl (by kernel_rfl) Tryz.func4 (by kernel_rfl)
   (of_decide_eq_true (by kernel_rfl)) (by unfold Func.isWrapper; first | (rw [if_pos (by decide +kernel)]; kernel_rfl) | (rw [if_neg (by decide +kernel)]; exact ⟨rfl, rfl⟩))
   (fun os started H enc _ => lifted os started H enc)

/-- THE STATEMENT -/
theorem proved : Rows.HoldingChoosesCardSaid :=
 Claim7.holds_tied_plain_at .later [] [.data, .data, .data] true (true, "37dc0fe45541eb8af0a83ae76d1da2e980cc147a50d9bb090c3ae6f3f207150d") false
   over (fun _ h => by cases h) (by kernel_rfl) (fun _ h => by cases h) holdingChooses_row_tie rfl ⟨rfl, rfl⟩ (by kernel_rfl) rfl
   (fun f fn hf hfn => by
     obtain rfl : f = 4 := Option.some.inj ((show Tryz.prog.funcNamed "putlog/putloglaw06.HoldingChooses" = some 4 by kernel_rfl).symm.trans hf) |>.symm
     obtain rfl : fn = Tryz.f4 := (Option.some.inj (Tryz.func4.symm.trans hfn)).symm
     exact ⟨by kernel_rfl, fun j t ht => by
       rw [Tryz.params4] at ht
       have hm : t ∈ [24, 26, 34] := by simpa using Array.mem_of_getElem? ht
       have hall : ([24, 26, 34].all fun u => !Tryz.prog.wantsStandIn u) = true := by kernel_rfl
       exact (show Tryz.prog.wantsStandIn t = false by simpa using List.all_eq_true.1 hall t hm)⟩)
   (by kernel_rfl)
#print axioms proved
end Go.Proofs.YtindehoegfiiaaaGreatDoor.holdingChooses
