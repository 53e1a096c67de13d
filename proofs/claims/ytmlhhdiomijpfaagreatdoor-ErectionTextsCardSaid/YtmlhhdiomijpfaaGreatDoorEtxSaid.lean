import Derived.Test.YtmlhhdiomijpfaaGreatDoorCards
import Derived.Test.YtmlhhdiomijpfaaGreatDoorTie
import Derived.WalkKit
import Derived.ProofKit
import Derived.OpenShut
import Derived.LaidMore
import Derived.Lay
import Derived.Stop.Joined
import Derived.SevenTiedAt
import Derived.Test.YtmlhhdiomijpfaaGreatDoorGlo
import Derived.Test.YtmlhhdiomijpfaaGreatDoorELaw
set_option linter.unusedSimpArgs false
set_option linter.unusedVariables false
namespace Go.Proofs.YtmlhhdiomijpfaaGreatDoor.erectionTexts
open Go Go.ChangeShapes Go.WideShapes Go.ChangeAt Go.RowKit Go.Pv
theorem own : ownKnob Tryz.prog.godebug = none := by kernel_rfl
set_option maxRecDepth 100000 in
theorem hlaw : ∀ qs, ArgsP Tryz.prog [35, 9] qs → PCalls Tryz.prog 4 qs (.bool true) := by
 intro qs h;obtain ⟨q1, l1, rfl, h1, h⟩ := h.cons_inv;obtain ⟨q2, l2, rfl, h2, h⟩ := h.cons_inv;obtain rfl := h.nil_inv;obtain ⟨l, rfl, hl, _⟩ := Task.arg h1;obtain ⟨s, rfl, hs⟩ := (h2.cell (by kernel_rfl)).str_inv Tryz.underlying9;have hx : maxLen ≤ 9223372036854775807 := by decide
 exact hETexts l s (by omega) (by omega)
set_option maxRecDepth 100000 in
theorem lifted (os : Os) (started : os.Started) (H : Type) (enc : TypeId × Value → H) :
   ReturnsInHanded {} Tryz.checked os 4 .any (fun w args => (Rows.erectionTextsSpec.pre enc Tryz.prog Tryz.f4 [] false w args ∧ laidMetH Tryz.prog laid7 w) ∧ sizedMet enc Tryz.prog Tryz.f4 (OpenSpec.ofChange Rows.erectionTextsSpec) false w args)
     (Rows.erectionTextsSpec.post enc Tryz.prog Tryz.f4 false true false false) := by
 refine returnsInHanded_of_calls (C := Tryz.checked) own started (by kernel_rfl)
   (ChangeSpec.witness_shaped (enc := enc) (C := Tryz.checked) (os := os) (X := fun w _ => laidMetH Tryz.prog laid7 w) false (World.laidAll Tryz.prog os laid7) #[.slice none 0 0, .string ⟨#[]⟩] 8 (World.laidAll_os _ _ _) (World.shaped_of_ZipB (by kernel_rfl) (by kernel_rfl)) (by kernel_rfl) (by kernel_rfl) (by kernel_rfl) (laid_met os _)) ?_
 intro w tape i _ hsh _ hok hpre hholds;obtain ⟨_, _, _, fn', hfn', _, _, _, _, hval⟩ := hok;obtain rfl := Option.some.inj (hfn'.symm.trans Tryz.func4);obtain ⟨⟨⟨ds, gs, before, hw, hc⟩, hx⟩, hz⟩ := hpre;have hw' := DataW.Whole.of_heap (w' := w.forCall tape i) (by rfl) hw;have hL : laidMetH Tryz.prog laid7 (w.forCall tape i) := (show ∀ w' : World, (w.forCall tape i).memory.heap = w'.heap → laidMetH Tryz.prog laid7 w' from fun w' hh => hx.of_heap hh) _ (by rfl)
 refine (law_stepG (ts := [35, 9]) (by rw [Tryz.params4]) (by kernel_rfl) (by kernel_rfl) Tryz.underlying4 rfl
   (fun ds h => by
     match ds, h with
     | [_, _], _ => rfl) (by kernel_rfl) (by kernel_rfl) (by kernel_rfl) hlaw hval hw' (gw_of_laid hL hsh)).mono fun e W' ⟨v, he, hp⟩ => ?_
 subst he;exact ChangeSpec.post_blind hp
theorem over : Rows.ErectionTextsSaid :=
 OpenClaim.holds_of_wide 4 Tryz.f4 rfl rfl rfl rfl rfl rfl rfl ⟨rfl, rfl, rfl, rfl, rfl⟩ rfl rfl rfl rfl rfl (by kernel_rfl) Tryz.func4 (by kernel_rfl)
   (of_decide_eq_true (by kernel_rfl)) (by unfold Func.isWrapper; first | (rw [if_pos (by decide +kernel)]; kernel_rfl) | (rw [if_neg (by decide +kernel)]; exact ⟨rfl, rfl⟩))
   (fun os started H enc _ => lifted os started H enc)
theorem proved : Rows.ErectionTextsCardSaid :=
 Claim7.holds_tied_plain_at .later [] [.data, .data, .data, .data, .sentinel, .sentinel, .pinned] true (true, "2bd43ad6af1ac61eb3c042fb0c837ccd145afceb81218271fa8cab29554a09b8") true
   over (fun _ h => by cases h) (by kernel_rfl) (fun _ h => by cases h) erectionTexts_row_tie rfl ⟨rfl, rfl⟩ (by kernel_rfl) rfl
   (fun f fn hf hfn => by
     obtain rfl : f = 4 := Option.some.inj ((show Tryz.prog.funcNamed "putlog/putloglaw07.ErectionTexts" = some 4 by kernel_rfl).symm.trans hf) |>.symm
     obtain rfl : fn = Tryz.f4 := (Option.some.inj (Tryz.func4.symm.trans hfn)).symm
     exact ⟨by kernel_rfl, fun j t ht => by
       rw [Tryz.params4] at ht;have hm : t ∈ [35, 9] := by simpa using Array.mem_of_getElem? ht
       have hall : ([35, 9].all fun u => !Tryz.prog.wantsStandIn u) = true := by kernel_rfl
       exact (show Tryz.prog.wantsStandIn t = false by simpa using List.all_eq_true.1 hall t hm)⟩)
   (by kernel_rfl)
#print axioms proved
end Go.Proofs.YtmlhhdiomijpfaaGreatDoor.erectionTexts
