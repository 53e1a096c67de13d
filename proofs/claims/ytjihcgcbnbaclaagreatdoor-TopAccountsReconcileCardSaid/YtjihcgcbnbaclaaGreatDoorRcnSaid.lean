import Derived.Test.YtjihcgcbnbaclaaGreatDoorCards
import Derived.Test.YtjihcgcbnbaclaaGreatDoorTie
import Derived.WalkKit
import Derived.ProofKit
import Derived.OpenShut
import Derived.LaidMore
import Derived.Stop.Joined
import Derived.SevenTiedAt
import Derived.Test.YtjihcgcbnbaclaaGreatDoorGlo
import Derived.Test.YtjihcgcbnbaclaaGreatDoorRcn
set_option linter.unusedSimpArgs false
set_option linter.unusedVariables false
namespace Go.Proofs.YtjihcgcbnbaclaaGreatDoor.topAccountsReconcile
open Go Go.ChangeShapes Go.WideShapes Go.ChangeAt Go.RowKit Go.Pv Go.Proofs.YtjihcgcbnbaclaaGreatDoor.Y9
theorem own : ownKnob Tryz.prog.godebug = none := by kernel_rfl
set_option maxRecDepth 100000 in
theorem hlaw : ∀ qs, ArgsP Tryz.prog [25, 3] qs → PCalls Tryz.prog 4 qs (.bool true) := by
 intro qs h;obtain ⟨q1, l1, rfl, h1, h⟩ := h.cons_inv;obtain ⟨q2, l2, rfl, h2, h⟩ := h.cons_inv;obtain rfl := h.nil_inv;obtain ⟨cs, rfl, hc⟩ := h1.agg (tys := [22, 23]) (by kernel_rfl) (by kernel_rfl);obtain ⟨v, l1, rfl, k1, hc⟩ := hc.cons_inv;obtain ⟨w, l2, rfl, k2, hc⟩ := hc.cons_inv;obtain rfl := hc.nil_inv;obtain ⟨tr, rfl, hl, hr⟩ := k1.slice_at Tryz.underlying22 (tys := [9, 3, 3, 3]) (n := 4) (by kernel_rfl) (by kernel_rfl);obtain ⟨ts, rfl, _⟩ := rows_of fun row hrow => Term.of (hr row hrow);obtain ⟨mr, rfl, hl2, hr2⟩ := k2.slice_at Tryz.underlying23 (tys := [3, 3, 9, 3]) (n := 4) (by kernel_rfl) (by kernel_rfl);obtain ⟨ms, rfl, _⟩ := rows_of fun row hrow => Move.of (hr2 row hrow);obtain ⟨a, rfl, _⟩ := (h2.cell (by kernel_rfl)).int_inv (k := .i64) Tryz.underlying3;have hx : maxLen ≤ 9223372036854775807 := by decide
 simp only [lM] at hl hl2;exact reconLaw ⟨ts, ms⟩ a (by show ts.length ≤ _; omega) (by show ms.length ≤ _; omega)
set_option maxRecDepth 100000 in
theorem lifted (os : Os) (started : os.Started) (H : Type) (enc : TypeId × Value → H) :
   ReturnsInHanded {} Tryz.checked os 4 .any (fun w args => (Rows.topAccountsReconcileSpec.pre enc Tryz.prog Tryz.f4 [] false w args ∧ laidMetH Tryz.prog laid2 w) ∧ sizedMet enc Tryz.prog Tryz.f4 (OpenSpec.ofChange Rows.topAccountsReconcileSpec) false w args)
     (Rows.topAccountsReconcileSpec.post enc Tryz.prog Tryz.f4 false true false false) := by
 refine returnsInHanded_of_change_and (C := Tryz.checked) (X := fun w _ => laidMetH Tryz.prog laid2 w) (fun _ _ _ hh h => h.of_heap hh) own started (by kernel_rfl) Tryz.func4
   (ChangeSpec.witness_shaped (enc := enc) (C := Tryz.checked) (os := os) (X := fun w _ => laidMetH Tryz.prog laid2 w) false (World.doorLaid Tryz.prog 400 os) #[.agg #[.slice none 0 0, .slice none 0 0], .int .i64 0] 8 rfl (World.shaped_of_RefB (by kernel_rfl) (by kernel_rfl)) (by kernel_rfl) (by kernel_rfl) (by kernel_rfl) (door_met os _)) ?_
 intro W base args ds gs before hval0 hW _ _ hL _
 exact law_stepG (ts := [25, 3]) (by rw [Tryz.params4]) (by kernel_rfl) (by kernel_rfl) Tryz.underlying4 rfl
   (fun ds h => by
     match ds, h with
     | [_, _], _ => rfl) (by kernel_rfl) (by kernel_rfl) (by kernel_rfl) hlaw hval0 hW (gw_of_laid hL)
theorem over : Rows.TopAccountsReconcileSaid :=
 OpenClaim.holds_of_wide 4 Tryz.f4 rfl rfl rfl rfl rfl rfl rfl ⟨rfl, rfl, rfl, rfl, rfl⟩ rfl rfl rfl rfl rfl (by kernel_rfl) Tryz.func4 (by kernel_rfl)
   (of_decide_eq_true (by kernel_rfl)) (by unfold Func.isWrapper; first | (rw [if_pos (by decide +kernel)]; kernel_rfl) | (rw [if_neg (by decide +kernel)]; exact ⟨rfl, rfl⟩))
   (fun os started H enc _ => lifted os started H enc)
theorem proved : Rows.TopAccountsReconcileCardSaid :=
 Claim7.holds_tied_plain_at .later [] [.widerDeep, .widerDeep] true (true, "4448379288fa27becfd10fbea6c6ffb6a53c34b1a3dbb65a3b1b107d02839271") false
   over (fun _ h => by cases h) (by kernel_rfl) (fun _ h => by cases h) topAccountsReconcile_row_tie rfl ⟨rfl, rfl⟩ (by kernel_rfl) rfl
   (fun f fn hf hfn => by
     obtain rfl : f = 4 := Option.some.inj ((show Tryz.prog.funcNamed "putlog/putlogtop.TopAccountsReconcile" = some 4 by kernel_rfl).symm.trans hf) |>.symm
     obtain rfl : fn = Tryz.f4 := (Option.some.inj (Tryz.func4.symm.trans hfn)).symm
     exact ⟨by kernel_rfl, fun j t ht => by
       rw [Tryz.params4] at ht;have hm : t ∈ [25, 3] := by simpa using Array.mem_of_getElem? ht
       have hall : ([25, 3].all fun u => !Tryz.prog.wantsStandIn u) = true := by kernel_rfl
       exact (show Tryz.prog.wantsStandIn t = false by simpa using List.all_eq_true.1 hall t hm)⟩)
   (by kernel_rfl)
#print axioms proved
end Go.Proofs.YtjihcgcbnbaclaaGreatDoor.topAccountsReconcile
