import Derived.Test.YtnbcmoaofmkjhaaGreatDoorCards
import Derived.Test.YtnbcmoaofmkjhaaGreatDoorTie
import Derived.WalkKit
import Derived.ProofKit
import Derived.OpenShut
import Derived.LaidMore
import Derived.Stop.Joined
import Derived.SevenTiedAt
import Derived.Test.YtnbcmoaofmkjhaaGreatDoorJ16
import Derived.Test.YtnbcmoaofmkjhaaGreatDoorJ17
set_option linter.unusedSimpArgs false
set_option linter.unusedVariables false
namespace Go.Proofs.YtnbcmoaofmkjhaaGreatDoor.erectionScaffolds
open E7 Go Go.ChangeShapes Go.WideShapes Go.ChangeAt Go.RowKit Go.Pv
theorem own : ownKnob Tryz.prog.godebug = none := by kernel_rfl
set_option maxRecDepth 100000 in
theorem hlaw : ∀ qs, ArgsP Tryz.prog [25] qs → PCalls Tryz.prog 3 qs (.bool true) := by
 intro qs h;obtain ⟨q1, l1, rfl, h1, h⟩ := h.cons_inv;obtain rfl := h.nil_inv;obtain ⟨s, rfl, hs⟩ := Scaffold.arg h1;have ha := hs.nodes.1; have hb := hs.members.1;have hx : maxLen ≤ 9223372036854775807 := by decide
 exact hScaffolds s (by omega) (by omega)
set_option maxRecDepth 100000 in
theorem lifted (os : Os) (started : os.Started) (H : Type) (enc : TypeId × Value → H) :
   ReturnsInHanded {} Tryz.checked os 3 .any (fun w args => (Rows.erectionScaffoldsSpec.pre enc Tryz.prog Tryz.f3 [] false w args ∧ laidMetH Tryz.prog laid3 w) ∧ sizedMet enc Tryz.prog Tryz.f3 (OpenSpec.ofChange Rows.erectionScaffoldsSpec) false w args)
     (Rows.erectionScaffoldsSpec.post enc Tryz.prog Tryz.f3 false true false false) := by
 refine returnsInHanded_of_change_and (C := Tryz.checked) (X := fun w _ => laidMetH Tryz.prog laid3 w) (fun _ _ _ hh h => h.of_heap hh) own started (by kernel_rfl) Tryz.func3
   (ChangeSpec.witness_shaped (enc := enc) (C := Tryz.checked) (os := os) (X := fun w _ => laidMetH Tryz.prog laid3 w) false (World.doorLaid Tryz.prog 400 os) #[.agg #[.slice none 0 0, .slice none 0 0]] 8 rfl (World.shaped_of_RefB (by kernel_rfl) (by kernel_rfl)) (by kernel_rfl) (by kernel_rfl) (by kernel_rfl) (door_met os _)) ?_
 intro W base args ds gs before hval0 hW _ _ hL _
 exact law_stepG (ts := [25]) (by rw [Tryz.params3]) (by kernel_rfl) (by kernel_rfl) Tryz.underlying4 rfl
   (fun ds h => by
     match ds, h with
     | [_], _ => rfl) (by kernel_rfl) (by kernel_rfl) (by kernel_rfl) hlaw hval0 hW (gw_of_laid hL)
theorem over : Rows.ErectionScaffoldsSaid :=
 OpenClaim.holds_of_wide 3 Tryz.f3 rfl rfl rfl rfl rfl rfl rfl ⟨rfl, rfl, rfl, rfl, rfl⟩ rfl rfl rfl rfl rfl (by kernel_rfl) Tryz.func3 (by kernel_rfl)
   (of_decide_eq_true (by kernel_rfl)) (by unfold Func.isWrapper; first | (rw [if_pos (by decide +kernel)]; kernel_rfl) | (rw [if_neg (by decide +kernel)]; exact ⟨rfl, rfl⟩))
   (fun os started H enc _ => lifted os started H enc)
theorem proved : Rows.ErectionScaffoldsCardSaid :=
 Claim7.holds_tied_plain_at .later [] [.data, .data, .data] true (true, "20b49f3d8925777694365d5ae3c651f1a91c56cc02fc5c710fac7eec50368d41") false
   over (fun _ h => by cases h) (by kernel_rfl) (fun _ h => by cases h) erectionScaffolds_row_tie rfl ⟨rfl, rfl⟩ (by kernel_rfl) rfl
   (fun f fn hf hfn => by
     obtain rfl : f = 3 := Option.some.inj ((show Tryz.prog.funcNamed "putlog/putloglaw07.ErectionScaffolds" = some 3 by kernel_rfl).symm.trans hf) |>.symm
     obtain rfl : fn = Tryz.f3 := (Option.some.inj (Tryz.func3.symm.trans hfn)).symm
     exact ⟨by kernel_rfl, fun j t ht => by
       rw [Tryz.params3] at ht;have hm : t ∈ [25] := by simpa using Array.mem_of_getElem? ht
       have hall : ([25].all fun u => !Tryz.prog.wantsStandIn u) = true := by kernel_rfl
       exact (show Tryz.prog.wantsStandIn t = false by simpa using List.all_eq_true.1 hall t hm)⟩)
   (by kernel_rfl)
#print axioms proved
end Go.Proofs.YtnbcmoaofmkjhaaGreatDoor.erectionScaffolds
