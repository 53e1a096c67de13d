/- Feet. No conditions. -/
import Derived.Test.YtindehoegfiiaaaGreatDoorGro
import Derived.Test.YtindehoegfiiaaaGreatDoorSel
set_option linter.unusedSimpArgs false
set_option linter.unusedVariables false
set_option maxRecDepth 100000
namespace Go.Proofs.YtindehoegfiiaaaGreatDoor
open Go Go.Pv
/-! ### The record of ground and jack -/
structure Feet where
 ground : List Ground
 jack : Jack
 deriving Inhabited
def Feet.enc (x : Feet) : List PV := [.lit true 4 (x.ground.map Ground.enc), .int x.jack.least, .int x.jack.most, .int x.jack.sole]
structure Feet.ok (x : Feet) : Prop where
 ground : x.ground.length ≤ maxLen ∧ ∀ z ∈ x.ground, z.ok
 jack : x.jack.ok
theorem Feet.pure (x : Feet) : ∀ p ∈ x.enc, Pure p := fun p hp => by
 simp only [Feet.enc, List.mem_cons, List.not_mem_nil, or_false] at hp
 rcases hp with rfl | rfl | rfl | rfl
 · exact .lit _ _ _ fun row hr => pure_map Ground.pure row hr
 · exact .sc _
 · exact .sc _
 · exact .sc _
/-! ### The greatest and the least of a list -/
section
variable {l : List Int} {k : Nat} {m x : Int}
end
/-! ### Feet and jacks -/
theorem ci_clean (a : Int) : ∀ p ∈ ci a, Go.Pv.Clean p ∧ p.cell = true := fun p hp => by
 simp only [ci, List.mem_cons, List.not_mem_nil, or_false] at hp
 subst hp; exact ⟨.sc _, rfl⟩
section
variable {g : Grid} {l : List Ground} {j : Jack} {x d n : Int} {f : Int → Int} {k : Nat} {xs : List Int} {s : Ground}
end
section
variable {g : Grid} {l : List Ground} {j : Jack} {d : Int} {f : Int → Int}
end
/-! ### The document's extensions -/
section
variable {g : Grid} {l : List Ground} {j : Jack} {d : Int}
end
theorem fr63 : (inFrame Tryz.f63.ntmps (Tryz.f63.body.getD .skip) && Tryz.f63.results.toList.all (resScope Tryz.f63.ntmps)) = true := by kernel_rfl
theorem HasC (t : Bool) (xs : List Int) (n : Int) (hl : xs.length ≤ 1000000) : PCalls Tryz.prog 63 [.lit t 1 (xs.map ci), .int n] (.bool (xs.any fun y => decide (y = n))) := by
 refine PCalls.of_code Tryz.func63 rfl rfl (by kernel_rfl) mixed fr63 (by show _ ≤ 18; simp) (.sc _) ?_
 refine pwp_seq_plain rfl fun K1 hK1 => ?_
 refine p_aS rfl ?_
 refine p_end (hK1 _ ?_); clear hK1 K1
 refine pwp_seq_seq ?_
 refine pwp_seq_plain rfl fun K2 hK2 => ?_
 refine p_aS rfl ?_
 refine p_end (hK2 _ ?_); clear hK2 K2
 refine pwp_seq_block fun K3 hK3 => ?_
 refine pwp_loopR (α := Nat) [0, 1] (fun (k : Nat) => [(5, .int (k))]) (fun (k : Nat) (h : Heap) (_ : Nat → Nat) => ((k) ≤ xs.length) ∧ (∀ i, i < (k) → ∀ y, xs[i]? = some y → (decide (y = n)) = false)) (fun (k : Nat) => xs.length - (k)) (0) (by exact ⟨rfl, trivial⟩) (by exact ⟨by exact Nat.zero_le _, by exact nx_0 (K := fun y => decide (y = n))⟩) fun k r4 h5 c6 hj7 => ?_
 obtain ⟨hk, hin⟩ := hj7
 try dsimp only at hk
 try dsimp only at hin
 show pwp _ _ (loopQ _ _ _) ⟨sets (mix _ _ _) [(5, .int k)], _, _⟩
 refine pwp_seq_seq ?_
 refine pwp_seq_plain rfl fun K8 hK8 => ?_
 refine p_mS rfl ?_
 refine p_e rfl (e_move (v := .lit _ _ _) rfl) ?_
 refine p_e rfl (e_len rfl (by kernel_rfl)) ?_
 refine p_e rfl (e_lt rfl rfl) ?_
 refine p_end (hK8 _ ?_); clear hK8 K8
 refine pwp_seq_cond rfl fun K9 hK9 => ⟨fun hb10 => ?_, fun hb10 => ?_⟩
 ·have hb10R := hb10; try simp only [zz] at hb10
  obtain ⟨x, hx, hd, ht⟩ := get_lt (xs := xs) (i := k) (by omega)
  refine pwp_skip ?_
  refine seq_norm (hK9 _ ?_); clear hK9 K9
  refine pwp_seq_block fun K11 hK11 => ?_
  refine pwp_seq_plain rfl fun K12 hK12 => ?_
  refine p_e rfl (e_move (v := .lit _ _ _) rfl) ?_
  refine p_mS rfl ?_
  refine p_e rfl (e_ixL rfl rfl) ?_
  refine p_e rfl (e_load (v := .sc _) rfl (by kernel_rfl) (by kernel_rfl) (by kernel_rfl) (by first | omega | (simp only [List.length_map]; omega)) (by decide) ((cell_map hx _).trans rfl)) ?_
  refine p_mS rfl ?_
  refine p_e rfl (e_eq rfl rfl) ?_
  refine p_end (hK12 _ ?_); clear hK12 K12
  refine pwp_cond rfl (fun hb13 => ?_) (fun hb13 => ?_)
  ·have hb13R := hb13; try simp only [zz] at hb13
   refine pwp_seq_plain rfl fun K14 hK14 => ?_
   refine p_aS rfl ?_
   refine p_end (hK14 _ ?_); clear hK14 K14
   refine pwp_ret ?_
   refine ret_block ?_
   refine ret_seq ?_
   refine ret_loop ?_
   refine ret_block ?_
   refine ret_seq ?_
   refine end1 (v := .sc _) rfl ?_
   first
     | exact out_b (any_hit (K := fun y => decide (y = n)) hx (decide_eq_true (by assumption))).symm
     | exact out_b (any_no (K := fun y => decide (y = n)) hin (by simp only [List.length_map] at *; omega)).symm
  ·have hb13R := hb13; try simp only [zz] at hb13
   refine pwp_skip ?_
   refine block_norm ?_
   refine seq_norm (hK11 _ ?_); clear hK11 K11
   refine pwp_plain rfl fun K15 hK15 => ?_
   refine p_mS rfl ?_
   refine p_e rfl (e_adL rfl rfl) ?_
   refine p_aS rfl ?_
   refine p_end (hK15 _ ?_); clear hK15 K15
   exact loop_again (k + 1) (by show _ < _; omega) ⟨rfl, rfl, trivial⟩ ⟨rfl, trivial⟩ (by exact ⟨by show _ + 1 ≤ _; simp only [List.length_map] at *; omega, by exact nx_step (K := fun y => decide (y = n)) hin hx (decide_eq_false (by assumption))⟩)
 ·have hb10R := hb10; try simp only [zz] at hb10
  refine pwp_exit ?_
  refine exit_seq ?_
  clear hK9 K9
  refine exit_loop ?_
  refine exit_here ?_
  refine seq_norm (hK3 _ ?_); clear hK3 K3
  refine pwp_seq_plain rfl fun K16 hK16 => ?_
  refine p_aS rfl ?_
  refine p_end (hK16 _ ?_); clear hK16 K16
  refine pwp_ret ?_
  refine end1 (v := .sc _) rfl ?_
  first
    | exact out_b (any_hit (K := fun y => decide (y = n)) hx (decide_eq_true (by assumption))).symm
    | exact out_b (any_no (K := fun y => decide (y = n)) hin (by simp only [List.length_map] at *; omega)).symm

end Go.Proofs.YtindehoegfiiaaaGreatDoor
