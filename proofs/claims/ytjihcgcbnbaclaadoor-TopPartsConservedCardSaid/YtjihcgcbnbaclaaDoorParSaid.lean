import Derived.Test.YtjihcgcbnbaclaaDoorCards
import Derived.Test.YtjihcgcbnbaclaaDoorTie
import Derived.WalkKit
import Derived.ProofKit
import Derived.OpenShut
import Derived.LaidMore
import Derived.Stop.Joined
import Derived.SevenTiedAt
import Derived.Test.YtjihcgcbnbaclaaDoorGlo
import Derived.Test.YtjihcgcbnbaclaaDoorTop2
set_option linter.unusedSimpArgs false
set_option linter.unusedVariables false
namespace Go.Proofs.YtjihcgcbnbaclaaDoor.topPartsConserved
open Go Go.ChangeShapes Go.WideShapes Go.ChangeAt Go.RowKit Go.Pv Go.Proofs.YtjihcgcbnbaclaaDoor.Y9
theorem own : ownKnob Tryd.prog.godebug = none := by kernel_rfl
set_option maxRecDepth 100000 in
theorem hlaw : ∀ qs, ArgsP Tryd.prog [24] qs → PCalls Tryd.prog 3 qs (.bool true) := by
 intro qs h;obtain ⟨q1, l1, rfl, h1, h⟩ := h.cons_inv;obtain rfl := h.nil_inv;obtain ⟨cs, rfl, hc⟩ := h1.agg (tys := [3, 22]) (by kernel_rfl) (by kernel_rfl);obtain ⟨v, l1, rfl, k1, hc⟩ := hc.cons_inv;obtain ⟨w, l2, rfl, k2, hc⟩ := hc.cons_inv;obtain rfl := hc.nil_inv;obtain ⟨n, rfl, _⟩ := k1.int_inv (k := .i64) Tryd.underlying3;obtain ⟨rows, rfl, hl, hr⟩ := k2.slice_at Tryd.underlying22 (tys := [3, 3, 9, 3]) (n := 4) (by kernel_rfl) (by kernel_rfl);obtain ⟨ms, rfl, hm⟩ := rows_of fun row hrow => Move.of (hr row hrow);have hx : maxLen ≤ 9223372036854775807 := by decide
 simp only [lM] at hl;exact partsLaw ⟨n, ms⟩ (by show ms.length ≤ _; omega)
set_option maxRecDepth 100000 in
theorem lifted (os : Os) (started : os.Started) (H : Type) (enc : TypeId × Value → H) :
   ReturnsInHanded {} Tryd.checked os 3 .any (fun w args => (Rows.topPartsConservedSpec.pre enc Tryd.prog Tryd.f3 [] false w args ∧ laidMetH Tryd.prog laid2 w) ∧ sizedMet enc Tryd.prog Tryd.f3 (OpenSpec.ofChange Rows.topPartsConservedSpec) false w args)
     (Rows.topPartsConservedSpec.post enc Tryd.prog Tryd.f3 false true false false) := by
 refine returnsInHanded_of_change_and (C := Tryd.checked) (X := fun w _ => laidMetH Tryd.prog laid2 w) (fun _ _ _ hh h => h.of_heap hh) own started (by kernel_rfl) Tryd.func3
   (ChangeSpec.witness_shaped (enc := enc) (C := Tryd.checked) (os := os) (X := fun w _ => laidMetH Tryd.prog laid2 w) false (World.doorLaid Tryd.prog 400 os) #[.agg #[.int .i64 0, .slice none 0 0]] 8 rfl (World.shaped_of_RefB (by kernel_rfl) (by kernel_rfl)) (by kernel_rfl) (by kernel_rfl) (by kernel_rfl) (door_met os _)) ?_
 intro W base args ds gs before hval0 hW _ _ hL _
 exact law_stepG (ts := [24]) (by rw [Tryd.params3]) (by kernel_rfl) (by kernel_rfl) Tryd.underlying4 rfl
   (fun ds h => by
     match ds, h with
     | [_], _ => rfl) (by kernel_rfl) (by kernel_rfl) (by kernel_rfl) hlaw hval0 hW (gw_of_laid hL)
theorem over : Rows.TopPartsConservedSaid :=
 OpenClaim.holds_of_wide 3 Tryd.f3 rfl rfl rfl rfl rfl rfl rfl ⟨rfl, rfl, rfl, rfl, rfl⟩ rfl rfl rfl rfl rfl (by kernel_rfl) Tryd.func3 (by kernel_rfl)
   (of_decide_eq_true (by kernel_rfl)) (by unfold Func.isWrapper; first | (rw [if_pos (by decide +kernel)]; kernel_rfl) | (rw [if_neg (by decide +kernel)]; exact ⟨rfl, rfl⟩))
   (fun os started H enc _ => lifted os started H enc)
theorem proved : Rows.TopPartsConservedCardSaid :=
 Claim7.holds_tied_plain_at .later [] [.widerDeep, .widerDeep] true (true, "3c34a31089346d624674b483a5db051e295259c70c560db9632ddeb54a973886") false
   over (fun _ h => by cases h) (by kernel_rfl) (fun _ h => by cases h) topPartsConserved_row_tie rfl ⟨rfl, rfl⟩ (by kernel_rfl) rfl
   (fun f fn hf hfn => by
     obtain rfl : f = 3 := Option.some.inj ((show Tryd.prog.funcNamed "putlog/putlogtop.TopPartsConserved" = some 3 by kernel_rfl).symm.trans hf) |>.symm
     obtain rfl : fn = Tryd.f3 := (Option.some.inj (Tryd.func3.symm.trans hfn)).symm
     exact ⟨by kernel_rfl, fun j t ht => by
       rw [Tryd.params3] at ht;have hm : t ∈ [24] := by simpa using Array.mem_of_getElem? ht
       have hall : ([24].all fun u => !Tryd.prog.wantsStandIn u) = true := by kernel_rfl
       exact (show Tryd.prog.wantsStandIn t = false by simpa using List.all_eq_true.1 hall t hm)⟩)
   (by kernel_rfl)
#print axioms proved
end Go.Proofs.YtjihcgcbnbaclaaDoor.topPartsConserved
