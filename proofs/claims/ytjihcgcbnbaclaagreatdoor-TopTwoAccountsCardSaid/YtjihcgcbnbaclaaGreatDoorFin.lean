import Derived.Test.YtjihcgcbnbaclaaGreatDoorRMov17
import Derived.Test.YtjihcgcbnbaclaaGreatDoorPvGh
set_option linter.unusedSimpArgs false
set_option linter.unusedVariables false
set_option maxRecDepth 100000
set_option maxHeartbeats 4000000
namespace Go.Proofs.YtjihcgcbnbaclaaGreatDoor.Y9
open Go Go.Pv Go.Proofs.YtjihcgcbnbaclaaGreatDoor
section
variable {P : Program} {ρ : Operand → PV} {h : Heap} {key : Key} {x y : Operand} {t t' : TypeId} {k : IntKind} {a b : Int}
theorem e_neF (hx : ρ x = .sc (.int k a)) (hy : ρ y = .sc (.int k b)) (hb : ¬ a ≠ b) : eff P ρ h key (.binOp .neq t x y t') = ⟨True, .bool false, [], [], false⟩ := by rw [e_ne hx hy, decide_eq_false hb]
end
structure RentX where
 terms : List Term
 moves : List Move
def RentX.enc (x : RentX) : List PV := [.lit true 4 (x.terms.map Term.enc), .lit true 4 (x.moves.map Move.enc)]
theorem RentX.pure (x : RentX) : ∀ p ∈ x.enc, Pure p := fun p hp => by
 simp only [RentX.enc, List.mem_cons, List.not_mem_nil, or_false] at hp;rcases hp with rfl | rfl
 · exact .lit _ _ _ fun row hr => pure_map Term.pure row hr
 · exact .lit _ _ _ fun row hr => pure_map Move.pure row hr
structure WeeksX where
 rent : RentX
 fro : Int
 til : Int
def WeeksX.enc (x : WeeksX) : List PV := [.lit true 4 (x.rent.terms.map Term.enc), .lit true 4 (x.rent.moves.map Move.enc), .int x.fro, .int x.til]
def fineB (x : RentX) : Bool := decide ((x.terms.length : Int) ≤ 6) && (decide ((x.moves.length : Int) ≤ 24) && decide (tmE x.terms x.moves = 0))
theorem fine_all {x : RentX} (h : fineB x = true) : x.terms.length ≤ 6 ∧ x.moves.length ≤ 24 ∧ tmE x.terms x.moves = 0 := by
 unfold fineB at h;simp only [Bool.and_eq_true, decide_eq_true_eq] at h;exact ⟨by omega, by omega, h.2.2⟩
theorem fr6 : (inFrame Tryz.f6.ntmps (Tryz.f6.body.getD .skip) && Tryz.f6.results.toList.all (resScope Tryz.f6.ntmps)) = true := by kernel_rfl
theorem fine (x : RentX) (hlt : x.terms.length ≤ 9223372036854775807) (hlm : x.moves.length ≤ 9223372036854775807) : PCalls Tryz.prog 6 [.agg x.enc] (.bool (fineB x)) := by
 refine PCalls.of_code Tryz.func6 rfl rfl (by kernel_rfl) mixed fr6 (by show _ ≤ 21; simp) (.sc _) (pwp_seq_plain rfl fun K1 hK1 => p_new rfl (e_box (n := 2) rfl rfl) ⟨rfl, by decide⟩ (p_aS rfl (p_end (hK1 _ ?_)))); clear hK1 K1;refine pwp_seq_cutG [] [(2, .bool (((decide (((((x.terms).map Term.enc).length : Nat) : Int) ≤ (6))) && (decide (((((x.moves).map Move.enc).length : Nat) : Int) ≤ (24)))) && (decide ((tmE x.terms x.moves) = (0)))))] (fun K2 hK2 => ?_) (fun r3 => ?_)
 ·skip
  refine pwp_gops rfl fun K4 hK4 => g_begin (g_e rfl (e_faQ pl2 rfl) (g_e rfl (e_lH (v := .lit _ _ _) rfl (hset_self _ _ _) rfl) (g_e rfl (e_len rfl (by kernel_rfl)) (g_e rfl (e_le rfl rfl) (g_mS rfl rfl ?_)))));refine g_cases (fun hb5 => ?_) (fun hb5 => ?_)
  ·have hb5R := hb5; try simp only [zz] at hb5
   refine g_e rfl (e_faQ pl2 rfl) (g_e rfl (e_lH (v := .lit _ _ _) rfl (hset_self _ _ _) rfl) (g_e rfl (e_len rfl (by kernel_rfl)) (g_e rfl (e_le rfl rfl) (g_pT rfl rfl rfl (g_mS rfl rfl ?_)))));refine g_cases (fun hb6 => ?_) (fun hb6 => ?_)
   ·have hb6R := hb6; try simp only [zz] at hb6
    refine g_e rfl (e_faQ pl2 rfl) (g_e rfl (e_lH (v := .lit _ _ _) rfl (hset_self _ _ _) rfl) (g_e rfl (e_faQ pl2 rfl) (g_e rfl (e_lH (v := .lit _ _ _) rfl (hset_self _ _ _) rfl) (g_call rfl rfl rfl rfl (.cons inn_lit (.cons inn_lit .nil)) (CheckR x.terms x.moves (by first | omega | (simp only [lM] at *; omega)) (by first | omega | (simp only [lM] at *; omega))) (g_e rfl (e_eq rfl rfl) (g_pT rfl rfl rfl (g_aS rfl rfl ?_)))))));refine g_end (ds := [8, 9, 10, 11, 14, 15, 16, 17, 18, 19]) rfl rfl (hK4 _ ?_); clear hK4 K4;exact seq_norm (hK2 _ trivial ⟨(congrArg PV.bool (show ((decide ((tmE x.terms x.moves) = (0))) : Bool) = (((decide (((((x.terms).map Term.enc).length : Nat) : Int) ≤ (6))) && (decide (((((x.moves).map Move.enc).length : Nat) : Int) ≤ (24)))) && (decide ((tmE x.terms x.moves) = (0)))) by first | rfl | ((try rw [hb6R]) <;> (try rw [hb5R]) <;> (first | rfl | (simp only [Bool.and_true, Bool.and_false, Bool.true_and, Bool.false_and, Bool.or_true, Bool.or_false, Bool.true_or, Bool.false_or, Bool.not_true, Bool.not_false, if_true, if_false, Bool.false_eq_true, reduceIte] <;> rfl))) | ((try rw [hb5R]) <;> (try rw [hb6R]) <;> (first | rfl | (simp only [Bool.and_true, Bool.and_false, Bool.true_and, Bool.false_and, Bool.or_true, Bool.or_false, Bool.true_or, Bool.false_or, Bool.not_true, Bool.not_false, if_true, if_false, Bool.false_eq_true, reduceIte] <;> rfl))) | (simp only [hb5R, hb6R, Bool.and_true, Bool.and_false, Bool.true_and, Bool.false_and, Bool.or_true, Bool.or_false, Bool.true_or, Bool.false_or, Bool.not_true, Bool.not_false, if_true, if_false, Bool.false_eq_true, reduceIte] <;> rfl))), trivial⟩)
   ·have hb6R := hb6; try simp only [zz] at hb6
    iterate 4 refine g_skip rfl rfl rfl ?_
    refine g_nocall rfl rfl rfl (g_skip rfl rfl rfl (g_pF rfl rfl rfl (g_aS rfl rfl (g_end (ds := [8, 9, 10, 11, 14, 15, 16, 17, 18, 19]) rfl rfl (hK4 _ ?_))))); clear hK4 K4;exact seq_norm (hK2 _ trivial ⟨(congrArg PV.bool (show (false : Bool) = (((decide (((((x.terms).map Term.enc).length : Nat) : Int) ≤ (6))) && (decide (((((x.moves).map Move.enc).length : Nat) : Int) ≤ (24)))) && (decide ((tmE x.terms x.moves) = (0)))) by first | rfl | ((try rw [hb6R]) <;> (try rw [hb5R]) <;> (first | rfl | (simp only [Bool.and_true, Bool.and_false, Bool.true_and, Bool.false_and, Bool.or_true, Bool.or_false, Bool.true_or, Bool.false_or, Bool.not_true, Bool.not_false, if_true, if_false, Bool.false_eq_true, reduceIte] <;> rfl))) | ((try rw [hb5R]) <;> (try rw [hb6R]) <;> (first | rfl | (simp only [Bool.and_true, Bool.and_false, Bool.true_and, Bool.false_and, Bool.or_true, Bool.or_false, Bool.true_or, Bool.false_or, Bool.not_true, Bool.not_false, if_true, if_false, Bool.false_eq_true, reduceIte] <;> rfl))) | (simp only [hb5R, hb6R, Bool.and_true, Bool.and_false, Bool.true_and, Bool.false_and, Bool.or_true, Bool.or_false, Bool.true_or, Bool.false_or, Bool.not_true, Bool.not_false, if_true, if_false, Bool.false_eq_true, reduceIte] <;> rfl))), trivial⟩)
  ·have hb5R := hb5; try simp only [zz] at hb5
   iterate 4 refine g_skip rfl rfl rfl ?_
   refine g_pF rfl rfl rfl (g_mS rfl rfl ?_);iterate 4 refine g_skip rfl rfl rfl ?_
   refine g_nocall rfl rfl rfl (g_skip rfl rfl rfl (g_pF rfl rfl rfl (g_aS rfl rfl (g_end (ds := [8, 9, 10, 11, 14, 15, 16, 17, 18, 19]) rfl rfl (hK4 _ ?_))))); clear hK4 K4;exact seq_norm (hK2 _ trivial ⟨(congrArg PV.bool (show (false : Bool) = (((decide (((((x.terms).map Term.enc).length : Nat) : Int) ≤ (6))) && (decide (((((x.moves).map Move.enc).length : Nat) : Int) ≤ (24)))) && (decide ((tmE x.terms x.moves) = (0)))) by first | rfl | ((try rw [hb5R]) <;> (first | rfl | (simp only [Bool.and_true, Bool.and_false, Bool.true_and, Bool.false_and, Bool.or_true, Bool.or_false, Bool.true_or, Bool.false_or, Bool.not_true, Bool.not_false, if_true, if_false, Bool.false_eq_true, reduceIte] <;> rfl))) | ((try rw [hb5R]) <;> (first | rfl | (simp only [Bool.and_true, Bool.and_false, Bool.true_and, Bool.false_and, Bool.or_true, Bool.or_false, Bool.true_or, Bool.false_or, Bool.not_true, Bool.not_false, if_true, if_false, Bool.false_eq_true, reduceIte] <;> rfl))) | (simp only [hb5R, Bool.and_true, Bool.and_false, Bool.true_and, Bool.false_and, Bool.or_true, Bool.or_false, Bool.true_or, Bool.false_or, Bool.not_true, Bool.not_false, if_true, if_false, Bool.false_eq_true, reduceIte] <;> rfl))), trivial⟩)
 ·skip
  refine pwp_ret (end1 (v := .sc _) rfl ?_)
  first
    | exact out_b (by simp only [lM, fineB, Bool.and_assoc])
    | exact out_b (fine_1 (by simp only [lM] at *; omega))
    | exact out_b (fine_2 (by simp only [lM] at *; omega))
    | exact out_b (fine_3 (by simp only [lM] at *; omega) (by simp only [lM] at *; omega))
end Go.Proofs.YtjihcgcbnbaclaaGreatDoor.Y9
