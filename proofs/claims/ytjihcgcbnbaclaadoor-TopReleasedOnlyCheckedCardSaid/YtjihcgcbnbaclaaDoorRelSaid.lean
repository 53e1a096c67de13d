import Derived.Test.YtjihcgcbnbaclaaDoorCards
import Derived.Test.YtjihcgcbnbaclaaDoorTie
import Derived.WalkKit
import Derived.ProofKit
import Derived.OpenShut
import Derived.LaidMore
import Derived.Stop.Joined
import Derived.SevenTiedAt
import Derived.Test.YtjihcgcbnbaclaaDoorGlo
import Derived.Test.YtjihcgcbnbaclaaDoorRTop1
set_option linter.unusedSimpArgs false
set_option linter.unusedVariables false
namespace Go.Proofs.YtjihcgcbnbaclaaDoor.topReleasedOnlyChecked
open Go Go.ChangeShapes Go.WideShapes Go.ChangeAt Go.RowKit Go.Pv Go.Proofs.YtjihcgcbnbaclaaDoor.Y9
theorem own : ownKnob Tryd.prog.godebug = none := by kernel_rfl
set_option maxRecDepth 100000 in
theorem hlaw : ∀ qs, ArgsP Tryd.prog [55, 9, 3] qs → PCalls Tryd.prog 4 qs (.bool true) := by
 intro qs h;obtain ⟨q1, l1, rfl, h1, h⟩ := h.cons_inv;obtain ⟨q2, l2, rfl, h2, h⟩ := h.cons_inv;obtain ⟨q3, l3, rfl, h3, h⟩ := h.cons_inv;obtain rfl := h.nil_inv;obtain ⟨evs, rfl, hl, _⟩ := Ev.arg h1;obtain ⟨p, rfl, hp⟩ := (h2.cell (by kernel_rfl)).str_inv Tryd.underlying9;obtain ⟨z, rfl, _⟩ := (h3.cell (by kernel_rfl)).int_inv (k := .i64) Tryd.underlying3;have hx : maxLen ≤ 9223372036854775807 := by decide
 exact releasedLaw evs p z (by omega)
set_option maxRecDepth 100000 in
theorem lifted (os : Os) (started : os.Started) (H : Type) (enc : TypeId × Value → H) :
   ReturnsInHanded {} Tryd.checked os 4 .any (fun w args => (Rows.topReleasedOnlyCheckedSpec.pre enc Tryd.prog Tryd.f4 [] false w args ∧ laidMetH Tryd.prog laid2 w) ∧ sizedMet enc Tryd.prog Tryd.f4 (OpenSpec.ofChange Rows.topReleasedOnlyCheckedSpec) false w args)
     (Rows.topReleasedOnlyCheckedSpec.post enc Tryd.prog Tryd.f4 false true false false) := by
 refine returnsInHanded_of_change_and (C := Tryd.checked) (X := fun w _ => laidMetH Tryd.prog laid2 w) (fun _ _ _ hh h => h.of_heap hh) own started (by kernel_rfl) Tryd.func4
   (ChangeSpec.witness_shaped (enc := enc) (C := Tryd.checked) (os := os) (X := fun w _ => laidMetH Tryd.prog laid2 w) false (World.doorLaid Tryd.prog 400 os) #[.slice none 0 0, .string ⟨#[]⟩, .int .i64 0] 8 rfl (World.shaped_of_RefB (by kernel_rfl) (by kernel_rfl)) (by kernel_rfl) (by kernel_rfl) (by kernel_rfl) (door_met os _)) ?_
 intro W base args ds gs before hval0 hW _ _ hL _
 exact law_stepG (ts := [55, 9, 3]) (by rw [Tryd.params4]) (by kernel_rfl) (by kernel_rfl) Tryd.underlying4 rfl
   (fun ds h => by
     match ds, h with
     | [_, _, _], _ => rfl) (by kernel_rfl) (by kernel_rfl) (by kernel_rfl) hlaw hval0 hW (gw_of_laid hL)
theorem over : Rows.TopReleasedOnlyCheckedSaid :=
 OpenClaim.holds_of_wide 4 Tryd.f4 rfl rfl rfl rfl rfl rfl rfl ⟨rfl, rfl, rfl, rfl, rfl⟩ rfl rfl rfl rfl rfl (by kernel_rfl) Tryd.func4 (by kernel_rfl)
   (of_decide_eq_true (by kernel_rfl)) (by unfold Func.isWrapper; first | (rw [if_pos (by decide +kernel)]; kernel_rfl) | (rw [if_neg (by decide +kernel)]; exact ⟨rfl, rfl⟩))
   (fun os started H enc _ => lifted os started H enc)
theorem proved : Rows.TopReleasedOnlyCheckedCardSaid :=
 Claim7.holds_tied_plain_at .later [] [.widerDeep, .widerDeep] true (true, "3c34a31089346d624674b483a5db051e295259c70c560db9632ddeb54a973886") false
   over (fun _ h => by cases h) (by kernel_rfl) (fun _ h => by cases h) topReleasedOnlyChecked_row_tie rfl ⟨rfl, rfl⟩ (by kernel_rfl) rfl
   (fun f fn hf hfn => by
     obtain rfl : f = 4 := Option.some.inj ((show Tryd.prog.funcNamed "putlog/putlogtop.TopReleasedOnlyChecked" = some 4 by kernel_rfl).symm.trans hf) |>.symm
     obtain rfl : fn = Tryd.f4 := (Option.some.inj (Tryd.func4.symm.trans hfn)).symm
     exact ⟨by kernel_rfl, fun j t ht => by
       rw [Tryd.params4] at ht;have hm : t ∈ [55, 9, 3] := by simpa using Array.mem_of_getElem? ht
       have hall : ([55, 9, 3].all fun u => !Tryd.prog.wantsStandIn u) = true := by kernel_rfl
       exact (show Tryd.prog.wantsStandIn t = false by simpa using List.all_eq_true.1 hall t hm)⟩)
   (by kernel_rfl)
#print axioms proved
end Go.Proofs.YtjihcgcbnbaclaaDoor.topReleasedOnlyChecked
