/- Grids and rules. No conditions. -/
import Derived.Test.YtindehoegfiiaaaGreatDoorData
import Derived.Test.YtindehoegfiiaaaGreatDoorAwake
set_option linter.unusedSimpArgs false
set_option linter.unusedVariables false
set_option maxRecDepth 100000
namespace Go.Proofs.YtindehoegfiiaaaGreatDoor
open Go Go.Pv
def ixA {α : Type} (K : α → Bool) (l : List α) : Int := match l.findIdx? K with | some i => (i : Int) | none => -1
theorem ixA_hit {α : Type} {K : α → Bool} {l : List α} {k : Nat} {x : α} (hx : l[k]? = some x) (h : ∀ i, i < k → ∀ y, l[i]? = some y → K y = false) (h2 : K x = true) : (k : Int) = ixA K l := by
 have h3 : l.findIdx? K = some k := by
   rw [List.findIdx?_eq_some_iff_getElem]
   obtain ⟨hk, rfl⟩ := List.getElem?_eq_some_iff.1 hx
   exact ⟨hk, h2, fun j hj => by rw [h j hj _ (List.getElem?_eq_getElem (by omega))]; decide⟩
 rw [ixA, h3]
theorem ixA_no {α : Type} {K : α → Bool} {l : List α} {k : Nat} (h : ∀ i, i < k → ∀ y, l[i]? = some y → K y = false) (h2 : l.length ≤ k) : -1 = ixA K l := by
 have h3 : l.findIdx? K = none := by
   rw [List.findIdx?_eq_none_iff]
   intro x hx
   obtain ⟨i, hi, rfl⟩ := List.getElem_of_mem hx
   exact h i (by omega) _ (List.getElem?_eq_getElem hi)
 rw [ixA, h3]
theorem ixA_any {α : Type} {K : α → Bool} {l : List α} : decide (0 ≤ ixA K l) = l.any K := by
 rw [ixA]
 split
 · rename_i i hi
   have := List.findIdx?_eq_some_iff_getElem.1 hi
   obtain ⟨hk, h2, _⟩ := this
   rw [List.any_eq_true.2 ⟨l[i], List.getElem_mem hk, h2⟩]; exact decide_eq_true (by omega)
 · rename_i hi
   have h3 := List.findIdx?_eq_none_iff.1 hi
   have h4 : l.any K = false := by rw [List.any_eq_false]; intro x hx; rw [h3 x hx]; decide
   rw [h4]; exact decide_eq_false (by omega)
theorem nx_step {α : Type} {K : α → Bool} {l : List α} {k : Nat} {x : α} (h : ∀ i, i < k → ∀ y, l[i]? = some y → K y = false) (hx : l[k]? = some x) (h2 : K x = false) : ∀ i, i < k + 1 → ∀ y, l[i]? = some y → K y = false := fun i hi y hy => by
 by_cases e : i = k
 · subst e; rw [hx] at hy; cases hy; exact h2
 · exact h i (by omega) y hy
theorem nx_0 {α : Type} {K : α → Bool} {l : List α} : ∀ i, i < 0 → ∀ y, l[i]? = some y → K y = false := fun i h => absurd h (Nat.not_lt_zero _)
theorem any_hit {α : Type} {K : α → Bool} {l : List α} {k : Nat} {x : α} (hx : l[k]? = some x) (h : K x = true) : l.any K = true := List.any_eq_true.2 ⟨x, List.mem_of_getElem? hx, h⟩
theorem any_no {α : Type} {K : α → Bool} {l : List α} {k : Nat} (h : ∀ i, i < k → ∀ y, l[i]? = some y → K y = false) (hk : l.length ≤ k) : l.any K = false := by
 rw [List.any_eq_false]
 intro y hy
 obtain ⟨i, hi, rfl⟩ := List.getElem_of_mem hy
 rw [h i (by omega) _ (List.getElem?_eq_getElem hi)]; decide
/-! ### Rising lists, grids, rules -/
def RisTo (l : List Int) (k : Nat) : Prop := ∀ i, i + 1 < k → l.getD i 0 < l.getD (i + 1) 0
def risB : List Int → Bool
 | a :: b :: l => decide (a < b) && risB (b :: l)
 | _ => true
theorem risB_iff : ∀ {l : List Int}, risB l = true ↔ RisTo l l.length
 | [] => ⟨fun _ i h => by simp at h, fun _ => rfl⟩
 | [a] => ⟨fun _ i h => by simp at h, fun _ => rfl⟩
 | a :: b :: l => by
   rw [risB, Bool.and_eq_true, decide_eq_true_eq, risB_iff]
   constructor
   · rintro ⟨h1, h2⟩ i hi
     match i with
     | 0 => exact h1
     | i + 1 => exact h2 i (by simpa using hi)
   · intro h
     exact ⟨h 0 (by simp), fun i hi => h (i + 1) (by simpa using hi)⟩
section
variable {l : List Int} {k : Nat} {x y : Int}
theorem ris_y (h1 : 1 ≤ k) (hy : l[((k : Int) - 1).toNat]? = some y) : l.getD (k - 1) 0 = y := by
 rw [show ((k : Int) - 1).toNat = k - 1 by omega] at hy
 rw [List.getD_eq_getElem?_getD, hy]; rfl
theorem ris_x (hx : l[k]? = some x) : l.getD k 0 = x := by rw [List.getD_eq_getElem?_getD, hx]; rfl
theorem ris_f (h1 : 1 ≤ k) (hx : l[k]? = some x) (hy : l[((k : Int) - 1).toNat]? = some y) (h : x ≤ y) : false = risB l := by
 have hk : k < l.length := (List.getElem?_eq_some_iff.1 hx).1
 cases hb : risB l with
 | false => rfl
 | true =>
   have := risB_iff.1 hb (k - 1) (by omega)
   rw [ris_y h1 hy, show k - 1 + 1 = k by omega, ris_x hx] at this
   omega
theorem ris_t (h : RisTo l k) (hk : l.length ≤ k) : true = risB l := (risB_iff.2 fun i hi => h i (by omega)).symm
theorem ris_s (h : RisTo l k) (h1 : 1 ≤ k) (hx : l[k]? = some x) (hy : l[((k : Int) - 1).toNat]? = some y) (hlt : y < x) : RisTo l (k + 1) := fun i hi => by
 by_cases e : i + 1 = k
 · obtain rfl : i = k - 1 := by omega
   rw [ris_y h1 hy, show k - 1 + 1 = k by omega, ris_x hx]; exact hlt
 · exact h i (by omega)
theorem ris_1 : RisTo l 1 := fun i hi => by omega
end
def outB (lo hi z : Int) : Bool := !decide (lo ≤ z ∧ z ≤ hi)
def gridE (g : Grid) : Int :=
 if ¬ (0 ≤ g.facade ∧ g.facade ≤ 39) then 2
 else if ¬ (1 ≤ (g.along.length : Int) ∧ (g.along.length : Int) ≤ 60) ∨ ¬ (1 ≤ (g.levels.length : Int) ∧ (g.levels.length : Int) ≤ 30) then 11
 else if g.along.any (outB (-1000000) 1000000) = true then 2
 else if g.levels.any (outB 1 1000000) = true then 2
 else if risB g.along = false ∨ risB g.levels = false then 10 else 0
def ruleE (r : Rule) : Int :=
 if ¬ (1 ≤ r.every ∧ r.every ≤ 1000000) ∨ ¬ (0 ≤ r.free ∧ r.free ≤ 1000000) ∨ ¬ (0 ≤ r.margin ∧ r.margin ≤ 1000000) ∨ ¬ (0 ≤ r.strength ∧ r.strength ≤ 1000000) ∨ ¬ (0 ≤ r.skip ∧ r.skip ≤ 10) then 2 else 0
section
variable {g : Grid}
abbrev FacOK (g : Grid) : Prop := 0 ≤ g.facade ∧ g.facade ≤ 39
abbrev ShpOK (g : Grid) : Prop := (1 ≤ (g.along.length : Int) ∧ (g.along.length : Int) ≤ 60) ∧ (1 ≤ (g.levels.length : Int) ∧ (g.levels.length : Int) ≤ 30)
theorem grd_2f (h : ¬ FacOK g) : 2 = gridE g := (if_pos h).symm
theorem grd_11 (h : FacOK g) (h1 : ¬ ShpOK g) : 11 = gridE g := by
 rw [gridE, if_neg (fun q => q h), if_pos]
 by_cases q : 1 ≤ (g.along.length : Int) ∧ (g.along.length : Int) ≤ 60
 · exact .inr fun r => h1 ⟨q, r⟩
 · exact .inl q
theorem grd_s (h1 : ShpOK g) : ¬ (¬ (1 ≤ (g.along.length : Int) ∧ (g.along.length : Int) ≤ 60) ∨ ¬ (1 ≤ (g.levels.length : Int) ∧ (g.levels.length : Int) ≤ 30)) := fun q => q.elim (fun q => q h1.1) (fun q => q h1.2)
theorem grd_2a (h : FacOK g) (h1 : ShpOK g) (h2 : g.along.any (outB (-1000000) 1000000) = true) : 2 = gridE g := by
 rw [gridE, if_neg (fun q => q h), if_neg (grd_s h1), if_pos h2]
theorem grd_2l (h : FacOK g) (h1 : ShpOK g) (h2 : g.along.any (outB (-1000000) 1000000) = false) (h3 : g.levels.any (outB 1 1000000) = true) : 2 = gridE g := by
 rw [gridE, if_neg (fun q => q h), if_neg (grd_s h1), if_neg (by rw [h2]; decide), if_pos h3]
theorem grd_10 (h : FacOK g) (h1 : ShpOK g) (h2 : g.along.any (outB (-1000000) 1000000) = false) (h3 : g.levels.any (outB 1 1000000) = false) (h4 : risB g.along = false ∨ risB g.levels = false) : 10 = gridE g := by
 rw [gridE, if_neg (fun q => q h), if_neg (grd_s h1), if_neg (by rw [h2]; decide), if_neg (by rw [h3]; decide), if_pos h4]
theorem grd_0 (h : FacOK g) (h1 : ShpOK g) (h2 : g.along.any (outB (-1000000) 1000000) = false) (h3 : g.levels.any (outB 1 1000000) = false) (h4 : risB g.along = true) (h5 : risB g.levels = true) : 0 = gridE g := by
 rw [gridE, if_neg (fun q => q h), if_neg (grd_s h1), if_neg (by rw [h2]; decide), if_neg (by rw [h3]; decide), if_neg (by rw [h4, h5]; decide)]
end

theorem fr66 : (inFrame Tryz.f66.ntmps (Tryz.f66.body.getD .skip) && Tryz.f66.results.toList.all (resScope Tryz.f66.ntmps)) = true := by kernel_rfl
theorem within (n lo hi : Int) : PCalls Tryz.prog 66 [.int n, .int lo, .int hi] (.bool (decide (lo ≤ n ∧ n ≤ hi))) := by
 refine PCalls.of_code Tryz.func66 rfl rfl (by kernel_rfl) mixed fr66 (by show _ ≤ 15; simp) (.sc _) ?_
 refine pwp_seq_plain rfl fun K1 hK1 => ?_
 refine p_aS rfl ?_
 refine p_end (hK1 _ ?_); clear hK1 K1
 refine pwp_seq_gops rfl fun K2 hK2 => ?_
 refine g_begin ?_
 refine g_mS rfl rfl ?_
 refine g_mS rfl rfl ?_
 refine g_e rfl (e_ge rfl rfl) ?_
 refine g_mS rfl rfl ?_
 refine g_cases (fun hb3 => ?_) (fun hb3 => ?_)
 ·have hb3R := hb3; try simp only [zz] at hb3
  refine g_mS rfl rfl ?_
  refine g_mS rfl rfl ?_
  refine g_e rfl (e_le rfl rfl) ?_
  refine g_pT rfl rfl rfl ?_
  refine g_aS rfl rfl ?_
  refine g_end (ds := [11, 12, 13]) rfl rfl (hK2 _ ?_); clear hK2 K2
  refine pwp_ret ?_
  refine end1 (v := .sc _) rfl ?_
  first
    | exact out_b rfl
    | exact out_b (by rw [Bool.eq_iff_iff]; simp only [decide_eq_true_eq, Bool.false_eq_true, false_iff] <;> omega)
 ·have hb3R := hb3; try simp only [zz] at hb3
  iterate 3 refine g_skip rfl rfl rfl ?_
  refine g_pF rfl rfl rfl ?_
  refine g_aS rfl rfl ?_
  refine g_end (ds := [11, 12, 13]) rfl rfl (hK2 _ ?_); clear hK2 K2
  refine pwp_ret ?_
  refine end1 (v := .sc _) rfl ?_
  first
    | exact out_b rfl
    | exact out_b (by rw [Bool.eq_iff_iff]; simp only [decide_eq_true_eq, Bool.false_eq_true, false_iff] <;> omega)

theorem fr29 : (inFrame Tryz.f29.ntmps (Tryz.f29.body.getD .skip) && Tryz.f29.results.toList.all (resScope Tryz.f29.ntmps)) = true := by kernel_rfl
theorem Within (n lo hi : Int) : PCalls Tryz.prog 29 [.int n, .int lo, .int hi] (.bool (decide (lo ≤ n ∧ n ≤ hi))) := by
 refine PCalls.of_code Tryz.func29 rfl rfl (by kernel_rfl) mixed fr29 (by show _ ≤ 15; simp) (.sc _) ?_
 refine pwp_seq_plain rfl fun K1 hK1 => ?_
 refine p_aS rfl ?_
 refine p_end (hK1 _ ?_); clear hK1 K1
 refine pwp_seq_gops rfl fun K2 hK2 => ?_
 refine g_begin ?_
 refine g_mS rfl rfl ?_
 refine g_mS rfl rfl ?_
 refine g_e rfl (e_ge rfl rfl) ?_
 refine g_mS rfl rfl ?_
 refine g_cases (fun hb3 => ?_) (fun hb3 => ?_)
 ·have hb3R := hb3; try simp only [zz] at hb3
  refine g_mS rfl rfl ?_
  refine g_mS rfl rfl ?_
  refine g_e rfl (e_le rfl rfl) ?_
  refine g_pT rfl rfl rfl ?_
  refine g_aS rfl rfl ?_
  refine g_end (ds := [11, 12, 13]) rfl rfl (hK2 _ ?_); clear hK2 K2
  refine pwp_ret ?_
  refine end1 (v := .sc _) rfl ?_
  first
    | exact out_b rfl
    | exact out_b (by rw [Bool.eq_iff_iff]; simp only [decide_eq_true_eq, Bool.false_eq_true, false_iff] <;> omega)
 ·have hb3R := hb3; try simp only [zz] at hb3
  iterate 3 refine g_skip rfl rfl rfl ?_
  refine g_pF rfl rfl rfl ?_
  refine g_aS rfl rfl ?_
  refine g_end (ds := [11, 12, 13]) rfl rfl (hK2 _ ?_); clear hK2 K2
  refine pwp_ret ?_
  refine end1 (v := .sc _) rfl ?_
  first
    | exact out_b rfl
    | exact out_b (by rw [Bool.eq_iff_iff]; simp only [decide_eq_true_eq, Bool.false_eq_true, false_iff] <;> omega)

theorem fr68 : (inFrame Tryz.f68.ntmps (Tryz.f68.body.getD .skip) && Tryz.f68.results.toList.all (resScope Tryz.f68.ntmps)) = true := by kernel_rfl
theorem outA (z : Int) : PCalls Tryz.prog 68 [.int z] (.bool (outB (-1000000) 1000000 z)) := by
 refine PCalls.of_code Tryz.func68 rfl rfl (by kernel_rfl) mixed fr68 (by show _ ≤ 6; simp) (.sc _) ?_
 refine pwp_seq_plain rfl fun K1 hK1 => ?_
 refine p_aS rfl ?_
 refine p_end (hK1 _ ?_); clear hK1 K1
 refine pwp_seq_plain rfl fun K2 hK2 => ?_
 refine p_mS rfl ?_
 refine p_call rfl (.cons inn_sc (.cons inn_sc (.cons inn_sc .nil))) (within _ _ _) ?_
 refine p_e rfl (e_not rfl) ?_
 refine p_aS rfl ?_
 refine p_end (hK2 _ ?_); clear hK2 K2
 refine pwp_ret ?_
 refine end1 (v := .sc _) rfl ?_
 exact out_b (by rw [outB])

theorem fr69 : (inFrame Tryz.f69.ntmps (Tryz.f69.body.getD .skip) && Tryz.f69.results.toList.all (resScope Tryz.f69.ntmps)) = true := by kernel_rfl
theorem outL (z : Int) : PCalls Tryz.prog 69 [.int z] (.bool (outB 1 1000000 z)) := by
 refine PCalls.of_code Tryz.func69 rfl rfl (by kernel_rfl) mixed fr69 (by show _ ≤ 6; simp) (.sc _) ?_
 refine pwp_seq_plain rfl fun K1 hK1 => ?_
 refine p_aS rfl ?_
 refine p_end (hK1 _ ?_); clear hK1 K1
 refine pwp_seq_plain rfl fun K2 hK2 => ?_
 refine p_mS rfl ?_
 refine p_call rfl (.cons inn_sc (.cons inn_sc (.cons inn_sc .nil))) (within _ _ _) ?_
 refine p_e rfl (e_not rfl) ?_
 refine p_aS rfl ?_
 refine p_end (hK2 _ ?_); clear hK2 K2
 refine pwp_ret ?_
 refine end1 (v := .sc _) rfl ?_
 exact out_b (by rw [outB])

theorem fr90 : (inFrame Tryz.f90.ntmps (Tryz.f90.body.getD .skip) && Tryz.f90.results.toList.all (resScope Tryz.f90.ntmps)) = true := by kernel_rfl
theorem IndexI (gf : FuncId) (K : Int → Bool) (hc : ∀ z, PCalls Tryz.prog gf [.int z] (.bool (K z))) (xs : List Int) (hl : xs.length ≤ 9223372036854775806) : PCalls Tryz.prog 90 [.lit true 1 (xs.map ci), .func (.func gf) [] []] (.int (ixA K xs)) := by
 refine PCalls.of_code Tryz.func90 rfl rfl (by kernel_rfl) mixed fr90 (by show _ ≤ 19; simp) (.sc _) ?_
 refine pwp_seq_plain rfl fun K1 hK1 => ?_
 refine p_aS rfl ?_
 refine p_end (hK1 _ ?_); clear hK1 K1
 refine pwp_seq_seq ?_
 refine pwp_seq_plain rfl fun K2 hK2 => ?_
 refine p_e rfl (e_move (v := .lit _ _ _) rfl) ?_
 refine p_e rfl (e_len rfl (by kernel_rfl)) ?_
 refine p_mS rfl ?_
 refine p_end (hK2 _ ?_); clear hK2 K2
 refine pwp_seq_block fun K3 hK3 => ?_
 refine pwp_loopR (α := Nat) [0, 1, 7] (fun (k : Nat) => [(8, .int (k))]) (fun (k : Nat) (h : Heap) (_ : Nat → Nat) => ((k) ≤ xs.length) ∧ (∀ i, i < (k) → ∀ y, xs[i]? = some y → K y = false)) (fun (k : Nat) => xs.length - (k)) (0) (by exact ⟨rfl, trivial⟩) (by exact ⟨by exact Nat.zero_le _, by exact nx_0⟩) fun k r4 h5 c6 hj7 => ?_
 obtain ⟨hk, hin⟩ := hj7
 try dsimp only at hk
 try dsimp only at hin
 show pwp _ _ (loopQ _ _ _) ⟨sets (mix _ _ _) [(8, .int k)], _, _⟩
 refine pwp_seq_plain rfl fun K8 hK8 => ?_
 refine p_e rfl (e_lt rfl rfl) ?_
 refine p_end (hK8 _ ?_); clear hK8 K8
 refine pwp_seq_cond rfl fun K9 hK9 => ⟨fun hb10 => ?_, fun hb10 => ?_⟩
 ·have hb10R := hb10; try simp only [zz] at hb10
  obtain ⟨x, hx, hd, ht⟩ := get_lt (xs := xs) (i := k) (by omega)
  refine pwp_skip ?_
  refine seq_norm (hK9 _ ?_); clear hK9 K9
  refine pwp_seq_block fun K11 hK11 => ?_
  refine pwp_seq_plain rfl fun K12 hK12 => ?_
  refine p_mS rfl ?_
  refine p_aS rfl ?_
  refine p_end (hK12 _ ?_); clear hK12 K12
  refine pwp_seq_plain rfl fun K13 hK13 => ?_
  refine p_e rfl (e_move (v := .func _ _ _) rfl) ?_
  refine p_e rfl (e_move (v := .lit _ _ _) rfl) ?_
  refine p_mS rfl ?_
  refine p_e rfl (e_ixL rfl rfl) ?_
  refine p_e rfl (e_load (v := .sc _) rfl (by kernel_rfl) (by kernel_rfl) (by kernel_rfl) (by first | omega | (simp only [List.length_map]; omega)) (by decide) ((cell_map hx _).trans rfl)) ?_
  refine p_call rfl (.cons inn_sc .nil) (hc _) ?_
  refine p_end (hK13 _ ?_); clear hK13 K13
  refine pwp_cond rfl (fun hb14 => ?_) (fun hb14 => ?_)
  ·have hb14R := hb14; try simp only [zz] at hb14
   refine pwp_seq_plain rfl fun K15 hK15 => ?_
   refine p_mS rfl ?_
   refine p_aS rfl ?_
   refine p_end (hK15 _ ?_); clear hK15 K15
   refine pwp_ret ?_
   refine ret_block ?_
   refine ret_seq ?_
   refine ret_loop ?_
   refine ret_block ?_
   refine ret_seq ?_
   refine end1 (v := .sc _) rfl ?_
   first
     | exact out_i (ixA_hit (K := K) hx hin (by assumption))
     | exact out_i (ixA_no (K := K) hin (by simp only [List.length_map] at *; omega))
  ·have hb14R := hb14; try simp only [zz] at hb14
   refine pwp_skip ?_
   refine block_norm ?_
   refine seq_norm (hK11 _ ?_); clear hK11 K11
   refine pwp_plain rfl fun K16 hK16 => ?_
   refine p_e rfl (e_adL rfl rfl) ?_
   refine p_mS rfl ?_
   refine p_end (hK16 _ ?_); clear hK16 K16
   exact loop_again (k + 1) (by show _ < _; omega) ⟨rfl, rfl, rfl, trivial⟩ ⟨rfl, trivial⟩ (by exact ⟨by show _ + 1 ≤ _; simp only [List.length_map] at *; omega, by exact nx_step (K := K) hin hx (by assumption)⟩)
 ·have hb10R := hb10; try simp only [zz] at hb10
  refine pwp_exit ?_
  refine exit_seq ?_
  clear hK9 K9
  refine exit_loop ?_
  refine exit_here ?_
  refine seq_norm (hK3 _ ?_); clear hK3 K3
  refine pwp_seq_plain rfl fun K17 hK17 => ?_
  refine p_aS rfl ?_
  refine p_end (hK17 _ ?_); clear hK17 K17
  refine pwp_ret ?_
  refine end1 (v := .sc _) rfl ?_
  first
    | exact out_i (ixA_hit (K := K) hx hin (by assumption))
    | exact out_i (ixA_no (K := K) hin (by simp only [List.length_map] at *; omega))

theorem fr67 : (inFrame Tryz.f67.ntmps (Tryz.f67.body.getD .skip) && Tryz.f67.results.toList.all (resScope Tryz.f67.ntmps)) = true := by kernel_rfl
theorem ContainsI (gf : FuncId) (K : Int → Bool) (hc : ∀ z, PCalls Tryz.prog gf [.int z] (.bool (K z))) (xs : List Int) (hl : xs.length ≤ 9223372036854775806) : PCalls Tryz.prog 67 [.lit true 1 (xs.map ci), .func (.func gf) [] []] (.bool (xs.any K)) := by
 refine PCalls.of_code Tryz.func67 rfl rfl (by kernel_rfl) mixed fr67 (by show _ ≤ 9; simp) (.sc _) ?_
 refine pwp_seq_plain rfl fun K1 hK1 => ?_
 refine p_aS rfl ?_
 refine p_end (hK1 _ ?_); clear hK1 K1
 refine pwp_seq_plain rfl fun K2 hK2 => ?_
 refine p_e rfl (e_move (v := .lit _ _ _) rfl) ?_
 refine p_e rfl (e_move (v := .func _ _ _) rfl) ?_
 refine p_call rfl (.cons inn_lit (.cons inn_func0 .nil)) (IndexI gf K hc xs hl) ?_
 refine p_e rfl (e_ge rfl rfl) ?_
 refine p_aS rfl ?_
 refine p_end (hK2 _ ?_); clear hK2 K2
 refine pwp_ret ?_
 refine end1 (v := .sc _) rfl ?_
 exact out_b ixA_any

theorem fr70 : (inFrame Tryz.f70.ntmps (Tryz.f70.body.getD .skip) && Tryz.f70.results.toList.all (resScope Tryz.f70.ntmps)) = true := by kernel_rfl
theorem risingC (xs : List Int) (hl : xs.length ≤ 1000000) : PCalls Tryz.prog 70 [.lit true 1 (xs.map ci)] (.bool (risB xs)) := by
 refine PCalls.of_code Tryz.func70 rfl rfl (by kernel_rfl) mixed fr70 (by show _ ≤ 20; simp) (.sc _) ?_
 refine pwp_seq_plain rfl fun K1 hK1 => ?_
 refine p_aS rfl ?_
 refine p_end (hK1 _ ?_); clear hK1 K1
 refine pwp_seq_seq ?_
 refine pwp_seq_plain rfl fun K2 hK2 => ?_
 refine p_aS rfl ?_
 refine p_end (hK2 _ ?_); clear hK2 K2
 refine pwp_seq_block fun K3 hK3 => ?_
 refine pwp_loopR (α := Nat) [0] (fun (k : Nat) => [(3, .int (k))]) (fun (k : Nat) (h : Heap) (_ : Nat → Nat) => (1 ≤ (k)) ∧ (RisTo xs (k))) (fun (k : Nat) => xs.length - (k)) (1) (by exact ⟨rfl, trivial⟩) (by exact ⟨by exact Nat.le_refl _, by exact ris_1⟩) fun k r4 h5 c6 hj7 => ?_
 obtain ⟨hk, hin⟩ := hj7
 try dsimp only at hk
 try dsimp only at hin
 show pwp _ _ (loopQ _ _ _) ⟨sets (mix _ _ _) [(3, .int k)], _, _⟩
 refine pwp_seq_seq ?_
 refine pwp_seq_plain rfl fun K8 hK8 => ?_
 refine p_mS rfl ?_
 refine p_e rfl (e_move (v := .lit _ _ _) rfl) ?_
 refine p_e rfl (e_len rfl (by kernel_rfl)) ?_
 refine p_e rfl (e_lt rfl rfl) ?_
 refine p_end (hK8 _ ?_); clear hK8 K8
 refine pwp_seq_cond rfl fun K9 hK9 => ⟨fun hb10 => ?_, fun hb10 => ?_⟩
 ·have hb10R := hb10; try simp only [zz] at hb10
  obtain ⟨x, hx, hd, ht⟩ := get_lt (xs := xs) (i := k) (by omega)
  obtain ⟨y, hy⟩ : ∃ y, xs[((k : Int) - 1).toNat]? = some y := ⟨_, List.getElem?_eq_getElem (by omega)⟩
  refine pwp_skip ?_
  refine seq_norm (hK9 _ ?_); clear hK9 K9
  refine pwp_seq_block fun K11 hK11 => ?_
  refine pwp_seq_gops rfl fun K12 hK12 => ?_
  refine g_begin ?_
  refine g_e rfl (e_move (v := .lit _ _ _) rfl) ?_
  refine g_mS rfl rfl ?_
  refine g_e rfl (e_ixL rfl rfl) ?_
  refine g_e rfl (e_load (v := .sc _) rfl (by kernel_rfl) (by kernel_rfl) (by kernel_rfl) (by first | omega | (simp only [List.length_map]; omega)) (by decide) ((cell_map hx _).trans rfl)) ?_
  refine g_e rfl (e_move (v := .lit _ _ _) rfl) ?_
  refine g_mS rfl rfl ?_
  refine g_e rfl (e_sub rfl rfl (by first | omega | (simp only [List.length_map] at *; omega))) ?_
  refine g_e rfl (e_ixL rfl rfl) ?_
  refine g_e rfl (e_load (v := .sc _) rfl (by kernel_rfl) (by kernel_rfl) (by kernel_rfl) (by first | omega | (simp only [List.length_map]; omega)) (by decide) ((cell_map hy _).trans rfl)) ?_
  refine g_e rfl (e_le rfl rfl) ?_
  refine g_end (ds := []) (by kernel_rfl) rfl (hK12 _ ?_); clear hK12 K12
  refine pwp_cond rfl (fun hb13 => ?_) (fun hb13 => ?_)
  ·have hb13R := hb13; try simp only [zz] at hb13
   refine pwp_seq_plain rfl fun K14 hK14 => ?_
   refine p_aS rfl ?_
   refine p_end (hK14 _ ?_); clear hK14 K14
   refine pwp_ret ?_
   refine ret_block ?_
   refine ret_seq ?_
   refine ret_loop ?_
   refine ret_block ?_
   refine ret_seq ?_
   refine end1 (v := .sc _) rfl ?_
   first
     | exact out_b (ris_f hk hx hy (by omega))
     | exact out_b (ris_t hin (by simp only [List.length_map] at *; omega))
  ·have hb13R := hb13; try simp only [zz] at hb13
   refine pwp_skip ?_
   refine block_norm ?_
   refine seq_norm (hK11 _ ?_); clear hK11 K11
   refine pwp_plain rfl fun K15 hK15 => ?_
   refine p_mS rfl ?_
   refine p_e rfl (e_adL rfl rfl) ?_
   refine p_aS rfl ?_
   refine p_end (hK15 _ ?_); clear hK15 K15
   exact loop_again (k + 1) (by show _ < _; omega) ⟨rfl, trivial⟩ ⟨rfl, trivial⟩ (by exact ⟨by show 1 ≤ _ + 1; omega, by exact ris_s hin hk hx hy (by omega)⟩)
 ·have hb10R := hb10; try simp only [zz] at hb10
  refine pwp_exit ?_
  refine exit_seq ?_
  clear hK9 K9
  refine exit_loop ?_
  refine exit_here ?_
  refine seq_norm (hK3 _ ?_); clear hK3 K3
  refine pwp_seq_plain rfl fun K16 hK16 => ?_
  refine p_aS rfl ?_
  refine p_end (hK16 _ ?_); clear hK16 K16
  refine pwp_ret ?_
  refine end1 (v := .sc _) rfl ?_
  first
    | exact out_b (ris_f hk hx hy (by omega))
    | exact out_b (ris_t hin (by simp only [List.length_map] at *; omega))

theorem fr71 : (inFrame Tryz.f71.ntmps (Tryz.f71.body.getD .skip) && Tryz.f71.results.toList.all (resScope Tryz.f71.ntmps)) = true := by kernel_rfl
theorem ascendsC (xs : List Int) (hl : xs.length ≤ 1000000) : PCalls Tryz.prog 71 [.lit true 1 (xs.map ci)] (.bool (risB xs)) := by
 refine PCalls.of_code Tryz.func71 rfl rfl (by kernel_rfl) mixed fr71 (by show _ ≤ 20; simp) (.sc _) ?_
 refine pwp_seq_plain rfl fun K1 hK1 => ?_
 refine p_aS rfl ?_
 refine p_end (hK1 _ ?_); clear hK1 K1
 refine pwp_seq_seq ?_
 refine pwp_seq_plain rfl fun K2 hK2 => ?_
 refine p_aS rfl ?_
 refine p_end (hK2 _ ?_); clear hK2 K2
 refine pwp_seq_block fun K3 hK3 => ?_
 refine pwp_loopR (α := Nat) [0] (fun (k : Nat) => [(3, .int (k))]) (fun (k : Nat) (h : Heap) (_ : Nat → Nat) => (1 ≤ (k)) ∧ (RisTo xs (k))) (fun (k : Nat) => xs.length - (k)) (1) (by exact ⟨rfl, trivial⟩) (by exact ⟨by exact Nat.le_refl _, by exact ris_1⟩) fun k r4 h5 c6 hj7 => ?_
 obtain ⟨hk, hin⟩ := hj7
 try dsimp only at hk
 try dsimp only at hin
 show pwp _ _ (loopQ _ _ _) ⟨sets (mix _ _ _) [(3, .int k)], _, _⟩
 refine pwp_seq_seq ?_
 refine pwp_seq_plain rfl fun K8 hK8 => ?_
 refine p_mS rfl ?_
 refine p_e rfl (e_move (v := .lit _ _ _) rfl) ?_
 refine p_e rfl (e_len rfl (by kernel_rfl)) ?_
 refine p_e rfl (e_lt rfl rfl) ?_
 refine p_end (hK8 _ ?_); clear hK8 K8
 refine pwp_seq_cond rfl fun K9 hK9 => ⟨fun hb10 => ?_, fun hb10 => ?_⟩
 ·have hb10R := hb10; try simp only [zz] at hb10
  obtain ⟨x, hx, hd, ht⟩ := get_lt (xs := xs) (i := k) (by omega)
  obtain ⟨y, hy⟩ : ∃ y, xs[((k : Int) - 1).toNat]? = some y := ⟨_, List.getElem?_eq_getElem (by omega)⟩
  refine pwp_skip ?_
  refine seq_norm (hK9 _ ?_); clear hK9 K9
  refine pwp_seq_block fun K11 hK11 => ?_
  refine pwp_seq_gops rfl fun K12 hK12 => ?_
  refine g_begin ?_
  refine g_e rfl (e_move (v := .lit _ _ _) rfl) ?_
  refine g_mS rfl rfl ?_
  refine g_e rfl (e_ixL rfl rfl) ?_
  refine g_e rfl (e_load (v := .sc _) rfl (by kernel_rfl) (by kernel_rfl) (by kernel_rfl) (by first | omega | (simp only [List.length_map]; omega)) (by decide) ((cell_map hx _).trans rfl)) ?_
  refine g_e rfl (e_move (v := .lit _ _ _) rfl) ?_
  refine g_mS rfl rfl ?_
  refine g_e rfl (e_sub rfl rfl (by first | omega | (simp only [List.length_map] at *; omega))) ?_
  refine g_e rfl (e_ixL rfl rfl) ?_
  refine g_e rfl (e_load (v := .sc _) rfl (by kernel_rfl) (by kernel_rfl) (by kernel_rfl) (by first | omega | (simp only [List.length_map]; omega)) (by decide) ((cell_map hy _).trans rfl)) ?_
  refine g_e rfl (e_le rfl rfl) ?_
  refine g_end (ds := []) (by kernel_rfl) rfl (hK12 _ ?_); clear hK12 K12
  refine pwp_cond rfl (fun hb13 => ?_) (fun hb13 => ?_)
  ·have hb13R := hb13; try simp only [zz] at hb13
   refine pwp_seq_plain rfl fun K14 hK14 => ?_
   refine p_aS rfl ?_
   refine p_end (hK14 _ ?_); clear hK14 K14
   refine pwp_ret ?_
   refine ret_block ?_
   refine ret_seq ?_
   refine ret_loop ?_
   refine ret_block ?_
   refine ret_seq ?_
   refine end1 (v := .sc _) rfl ?_
   first
     | exact out_b (ris_f hk hx hy (by omega))
     | exact out_b (ris_t hin (by simp only [List.length_map] at *; omega))
  ·have hb13R := hb13; try simp only [zz] at hb13
   refine pwp_skip ?_
   refine block_norm ?_
   refine seq_norm (hK11 _ ?_); clear hK11 K11
   refine pwp_plain rfl fun K15 hK15 => ?_
   refine p_mS rfl ?_
   refine p_e rfl (e_adL rfl rfl) ?_
   refine p_aS rfl ?_
   refine p_end (hK15 _ ?_); clear hK15 K15
   exact loop_again (k + 1) (by show _ < _; omega) ⟨rfl, trivial⟩ ⟨rfl, trivial⟩ (by exact ⟨by show 1 ≤ _ + 1; omega, by exact ris_s hin hk hx hy (by omega)⟩)
 ·have hb10R := hb10; try simp only [zz] at hb10
  refine pwp_exit ?_
  refine exit_seq ?_
  clear hK9 K9
  refine exit_loop ?_
  refine exit_here ?_
  refine seq_norm (hK3 _ ?_); clear hK3 K3
  refine pwp_seq_plain rfl fun K16 hK16 => ?_
  refine p_aS rfl ?_
  refine p_end (hK16 _ ?_); clear hK16 K16
  refine pwp_ret ?_
  refine end1 (v := .sc _) rfl ?_
  first
    | exact out_b (ris_f hk hx hy (by omega))
    | exact out_b (ris_t hin (by simp only [List.length_map] at *; omega))

theorem fr15 : (inFrame Tryz.f15.ntmps (Tryz.f15.body.getD .skip) && Tryz.f15.results.toList.all (resScope Tryz.f15.ntmps)) = true := by kernel_rfl
theorem CheckGridC (g : Grid) (ha : g.along.length ≤ 100) (hb : g.levels.length ≤ 100) : PCalls Tryz.prog 15 [.agg g.enc] (.int (gridE g)) := by
 refine PCalls.of_code Tryz.func15 rfl rfl (by kernel_rfl) mixed fr15 (by show _ ≤ 40; simp) (.sc _) ?_
 refine pwp_seq_plain rfl fun K1 hK1 => ?_
 refine p_new rfl (e_box (n := 3) rfl rfl) ⟨rfl, by decide⟩ ?_
 refine p_aS rfl ?_
 refine p_end (hK1 _ ?_); clear hK1 K1
 refine pwp_seq_block fun K2 hK2 => ?_
 refine pwp_seq_plain rfl fun K3 hK3 => ?_
 refine p_e rfl (e_faQ pl3 rfl) ?_
 refine p_e rfl (e_lH (v := .sc _) rfl (hset_self _ _ _) rfl) ?_
 refine p_call rfl (.cons inn_sc (.cons inn_sc (.cons inn_sc .nil))) (within _ _ _) ?_
 refine p_e rfl (e_not rfl) ?_
 refine p_aS rfl ?_
 refine p_end (hK3 _ ?_); clear hK3 K3
 refine pwp_cond rfl (fun hb4 => ?_) (fun hb4 => ?_)
 ·have hb4R := hb4; try simp only [zz] at hb4
  refine pwp_seq_plain rfl fun K5 hK5 => ?_
  refine p_aS rfl ?_
  refine p_end (hK5 _ ?_); clear hK5 K5
  refine pwp_ret ?_
  refine ret_block ?_
  refine ret_seq ?_
  refine end1 (v := .sc _) rfl ?_
  first
    | exact out_i (grd_2f (by omega))
    | exact out_i (grd_11 (by omega) (by omega))
    | exact out_i (grd_2a (by omega) (by omega) (by assumption))
    | exact out_i (grd_2l (by omega) (by omega) (by assumption) (by assumption))
    | exact out_i (grd_10 (by omega) (by omega) (by assumption) (by assumption) (.inl (by assumption)))
    | exact out_i (grd_10 (by omega) (by omega) (by assumption) (by assumption) (.inr (by assumption)))
    | exact out_i (grd_0 (by omega) (by omega) (by assumption) (by assumption) (by assumption) (by assumption))
 ·have hb4R := hb4; try simp only [zz] at hb4
  refine pwp_seq_gops rfl fun K6 hK6 => ?_
  refine g_begin ?_
  refine g_e rfl (e_faQ pl3 rfl) ?_
  refine g_e rfl (e_lH (v := .lit _ _ _) rfl (hset_self _ _ _) rfl) ?_
  refine g_e rfl (e_len rfl (by kernel_rfl)) ?_
  refine g_call rfl rfl rfl rfl (.cons inn_sc (.cons inn_sc (.cons inn_sc .nil))) (within _ _ _) ?_
  refine g_e rfl (e_not rfl) ?_
  refine g_mS rfl rfl ?_
  refine g_cases (fun hb7 => ?_) (fun hb7 => ?_)
  ·have hb7R := hb7; try simp only [zz] at hb7
   iterate 3 refine g_skip rfl rfl rfl ?_
   refine g_nocall rfl rfl rfl ?_
   refine g_skip rfl rfl rfl ?_
   refine g_pT rfl rfl rfl ?_
   refine g_aS rfl rfl ?_
   refine g_end (ds := [15, 16, 17, 18, 19]) rfl rfl (hK6 _ ?_); clear hK6 K6
   refine pwp_cond (t := true) rfl (fun _ => ?_) nofun
   refine pwp_seq_plain rfl fun K8 hK8 => ?_
   refine p_aS rfl ?_
   refine p_end (hK8 _ ?_); clear hK8 K8
   refine pwp_ret ?_
   refine ret_block ?_
   refine ret_seq ?_
   refine end1 (v := .sc _) rfl ?_
   first
     | exact out_i (grd_2f (by omega))
     | exact out_i (grd_11 (by omega) (by omega))
     | exact out_i (grd_2a (by omega) (by omega) (by assumption))
     | exact out_i (grd_2l (by omega) (by omega) (by assumption) (by assumption))
     | exact out_i (grd_10 (by omega) (by omega) (by assumption) (by assumption) (.inl (by assumption)))
     | exact out_i (grd_10 (by omega) (by omega) (by assumption) (by assumption) (.inr (by assumption)))
     | exact out_i (grd_0 (by omega) (by omega) (by assumption) (by assumption) (by assumption) (by assumption))
  ·have hb7R := hb7; try simp only [zz] at hb7
   refine g_e rfl (e_faQ pl3 rfl) ?_
   refine g_e rfl (e_lH (v := .lit _ _ _) rfl (hset_self _ _ _) rfl) ?_
   refine g_e rfl (e_len rfl (by kernel_rfl)) ?_
   refine g_call rfl rfl rfl rfl (.cons inn_sc (.cons inn_sc (.cons inn_sc .nil))) (within _ _ _) ?_
   refine g_e rfl (e_not rfl) ?_
   refine g_pF rfl rfl rfl ?_
   refine g_aS rfl rfl ?_
   refine g_end (ds := [15, 16, 17, 18, 19]) rfl rfl (hK6 _ ?_); clear hK6 K6
   refine pwp_cond rfl (fun hb9 => ?_) (fun hb9 => ?_)
   ·have hb9R := hb9; try simp only [zz] at hb9
    refine pwp_seq_plain rfl fun K10 hK10 => ?_
    refine p_aS rfl ?_
    refine p_end (hK10 _ ?_); clear hK10 K10
    refine pwp_ret ?_
    refine ret_block ?_
    refine ret_seq ?_
    refine end1 (v := .sc _) rfl ?_
    first
      | exact out_i (grd_2f (by omega))
      | exact out_i (grd_11 (by omega) (by omega))
      | exact out_i (grd_2a (by omega) (by omega) (by assumption))
      | exact out_i (grd_2l (by omega) (by omega) (by assumption) (by assumption))
      | exact out_i (grd_10 (by omega) (by omega) (by assumption) (by assumption) (.inl (by assumption)))
      | exact out_i (grd_10 (by omega) (by omega) (by assumption) (by assumption) (.inr (by assumption)))
      | exact out_i (grd_0 (by omega) (by omega) (by assumption) (by assumption) (by assumption) (by assumption))
   ·have hb9R := hb9; try simp only [zz] at hb9
    have hx24 : True := trivial
    refine pwp_seq_plain rfl fun K11 hK11 => ?_
    refine p_e rfl (e_faQ pl3 rfl) ?_
    refine p_e rfl (e_lH (v := .lit _ _ _) rfl (hset_self _ _ _) rfl) ?_
    refine p_call rfl (.cons inn_lit (.cons inn_func0 .nil)) (ContainsI 68 (outB (-1000000) 1000000) outA _ (by omega)) ?_
    refine p_aS rfl ?_
    refine p_end (hK11 _ ?_); clear hK11 K11
    refine pwp_cond rfl (fun hb12 => ?_) (fun hb12 => ?_)
    ·have hb12R := hb12; try simp only [zz] at hb12
     refine pwp_seq_plain rfl fun K13 hK13 => ?_
     refine p_aS rfl ?_
     refine p_end (hK13 _ ?_); clear hK13 K13
     refine pwp_ret ?_
     refine ret_block ?_
     refine ret_seq ?_
     refine end1 (v := .sc _) rfl ?_
     first
       | exact out_i (grd_2f (by omega))
       | exact out_i (grd_11 (by omega) (by omega))
       | exact out_i (grd_2a (by omega) (by omega) (by assumption))
       | exact out_i (grd_2l (by omega) (by omega) (by assumption) (by assumption))
       | exact out_i (grd_10 (by omega) (by omega) (by assumption) (by assumption) (.inl (by assumption)))
       | exact out_i (grd_10 (by omega) (by omega) (by assumption) (by assumption) (.inr (by assumption)))
       | exact out_i (grd_0 (by omega) (by omega) (by assumption) (by assumption) (by assumption) (by assumption))
    ·have hb12R := hb12; try simp only [zz] at hb12
     refine pwp_seq_plain rfl fun K14 hK14 => ?_
     refine p_e rfl (e_faQ pl3 rfl) ?_
     refine p_e rfl (e_lH (v := .lit _ _ _) rfl (hset_self _ _ _) rfl) ?_
     refine p_call rfl (.cons inn_lit (.cons inn_func0 .nil)) (ContainsI 69 (outB 1 1000000) outL _ (by omega)) ?_
     refine p_aS rfl ?_
     refine p_end (hK14 _ ?_); clear hK14 K14
     refine pwp_cond rfl (fun hb15 => ?_) (fun hb15 => ?_)
     ·have hb15R := hb15; try simp only [zz] at hb15
      refine pwp_seq_plain rfl fun K16 hK16 => ?_
      refine p_aS rfl ?_
      refine p_end (hK16 _ ?_); clear hK16 K16
      refine pwp_ret ?_
      refine ret_block ?_
      refine ret_seq ?_
      refine end1 (v := .sc _) rfl ?_
      first
        | exact out_i (grd_2f (by omega))
        | exact out_i (grd_11 (by omega) (by omega))
        | exact out_i (grd_2a (by omega) (by omega) (by assumption))
        | exact out_i (grd_2l (by omega) (by omega) (by assumption) (by assumption))
        | exact out_i (grd_10 (by omega) (by omega) (by assumption) (by assumption) (.inl (by assumption)))
        | exact out_i (grd_10 (by omega) (by omega) (by assumption) (by assumption) (.inr (by assumption)))
        | exact out_i (grd_0 (by omega) (by omega) (by assumption) (by assumption) (by assumption) (by assumption))
     ·have hb15R := hb15; try simp only [zz] at hb15
      refine pwp_seq_gops rfl fun K17 hK17 => ?_
      refine g_begin ?_
      refine g_e rfl (e_faQ pl3 rfl) ?_
      refine g_e rfl (e_lH (v := .lit _ _ _) rfl (hset_self _ _ _) rfl) ?_
      refine g_call rfl rfl rfl rfl (.cons inn_lit .nil) (risingC _ (by omega)) ?_
      refine g_e rfl (e_not rfl) ?_
      refine g_mS rfl rfl ?_
      refine g_cases (fun hb18 => ?_) (fun hb18 => ?_)
      ·have hb18R := hb18; try simp only [zz] at hb18
       iterate 2 refine g_skip rfl rfl rfl ?_
       refine g_nocall rfl rfl rfl ?_
       refine g_skip rfl rfl rfl ?_
       refine g_pT rfl rfl rfl ?_
       refine g_aS rfl rfl ?_
       refine g_end (ds := [35, 36, 37, 38]) rfl rfl (hK17 _ ?_); clear hK17 K17
       refine pwp_cond (t := true) rfl (fun _ => ?_) nofun
       refine pwp_seq_plain rfl fun K19 hK19 => ?_
       refine p_aS rfl ?_
       refine p_end (hK19 _ ?_); clear hK19 K19
       refine pwp_ret ?_
       refine ret_block ?_
       refine ret_seq ?_
       refine end1 (v := .sc _) rfl ?_
       first
         | exact out_i (grd_2f (by omega))
         | exact out_i (grd_11 (by omega) (by omega))
         | exact out_i (grd_2a (by omega) (by omega) (by assumption))
         | exact out_i (grd_2l (by omega) (by omega) (by assumption) (by assumption))
         | exact out_i (grd_10 (by omega) (by omega) (by assumption) (by assumption) (.inl (by assumption)))
         | exact out_i (grd_10 (by omega) (by omega) (by assumption) (by assumption) (.inr (by assumption)))
         | exact out_i (grd_0 (by omega) (by omega) (by assumption) (by assumption) (by assumption) (by assumption))
      ·have hb18R := hb18; try simp only [zz] at hb18
       refine g_e rfl (e_faQ pl3 rfl) ?_
       refine g_e rfl (e_lH (v := .lit _ _ _) rfl (hset_self _ _ _) rfl) ?_
       refine g_call rfl rfl rfl rfl (.cons inn_lit .nil) (risingC _ (by omega)) ?_
       refine g_e rfl (e_not rfl) ?_
       refine g_pF rfl rfl rfl ?_
       refine g_aS rfl rfl ?_
       refine g_end (ds := [35, 36, 37, 38]) rfl rfl (hK17 _ ?_); clear hK17 K17
       refine pwp_cond rfl (fun hb20 => ?_) (fun hb20 => ?_)
       ·have hb20R := hb20; try simp only [zz] at hb20
        refine pwp_seq_plain rfl fun K21 hK21 => ?_
        refine p_aS rfl ?_
        refine p_end (hK21 _ ?_); clear hK21 K21
        refine pwp_ret ?_
        refine ret_block ?_
        refine ret_seq ?_
        refine end1 (v := .sc _) rfl ?_
        first
          | exact out_i (grd_2f (by omega))
          | exact out_i (grd_11 (by omega) (by omega))
          | exact out_i (grd_2a (by omega) (by omega) (by assumption))
          | exact out_i (grd_2l (by omega) (by omega) (by assumption) (by assumption))
          | exact out_i (grd_10 (by omega) (by omega) (by assumption) (by assumption) (.inl (by assumption)))
          | exact out_i (grd_10 (by omega) (by omega) (by assumption) (by assumption) (.inr (by assumption)))
          | exact out_i (grd_0 (by omega) (by omega) (by assumption) (by assumption) (by assumption) (by assumption))
       ·have hb20R := hb20; try simp only [zz] at hb20
        refine pwp_skip ?_
        refine block_norm ?_
        refine seq_norm (hK2 _ ?_); clear hK2 K2
        refine pwp_seq_plain rfl fun K22 hK22 => ?_
        refine p_aS rfl ?_
        refine p_end (hK22 _ ?_); clear hK22 K22
        refine pwp_ret ?_
        refine end1 (v := .sc _) rfl ?_
        first
          | exact out_i (grd_2f (by omega))
          | exact out_i (grd_11 (by omega) (by omega))
          | exact out_i (grd_2a (by omega) (by omega) (by assumption))
          | exact out_i (grd_2l (by omega) (by omega) (by assumption) (by assumption))
          | exact out_i (grd_10 (by omega) (by omega) (by assumption) (by assumption) (.inl (by assumption)))
          | exact out_i (grd_10 (by omega) (by omega) (by assumption) (by assumption) (.inr (by assumption)))
          | exact out_i (grd_0 (by omega) (by omega) (by assumption) (by assumption) (by assumption) (by assumption))

theorem fr16 : (inFrame Tryz.f16.ntmps (Tryz.f16.body.getD .skip) && Tryz.f16.results.toList.all (resScope Tryz.f16.ntmps)) = true := by kernel_rfl
theorem refGridC (g : Grid) (ha : g.along.length ≤ 100) (hb : g.levels.length ≤ 100) : PCalls Tryz.prog 16 [.agg g.enc] (.int (gridE g)) := by
 refine PCalls.of_code Tryz.func16 rfl rfl (by kernel_rfl) mixed fr16 (by show _ ≤ 59; simp) (.sc _) ?_
 refine pwp_seq_plain rfl fun K1 hK1 => ?_
 refine p_new rfl (e_box (n := 3) rfl rfl) ⟨rfl, by decide⟩ ?_
 refine p_aS rfl ?_
 refine p_end (hK1 _ ?_); clear hK1 K1
 refine pwp_seq_seq ?_
 refine pwp_seq_plain rfl fun K2 hK2 => ?_
 refine p_e rfl (e_faQ pl3 rfl) ?_
 refine p_e rfl (e_lH (v := .sc _) rfl (hset_self _ _ _) rfl) ?_
 refine p_call rfl (.cons inn_sc (.cons inn_sc (.cons inn_sc .nil))) (Within _ _ _) ?_
 refine p_e rfl (e_not rfl) ?_
 refine p_end (hK2 _ ?_); clear hK2 K2
 refine pwp_seq_cond rfl fun K3 hK3 => ⟨fun hb4 => ?_, fun hb4 => ?_⟩
 ·have hb4R := hb4; try simp only [zz] at hb4
  refine pwp_seq_plain rfl fun K5 hK5 => ?_
  refine p_aS rfl ?_
  refine p_end (hK5 _ ?_); clear hK5 K5
  refine pwp_ret ?_
  refine ret_seq ?_
  refine end1 (v := .sc _) rfl ?_
  first
    | exact out_i (grd_2f (by omega))
    | exact out_i (grd_11 (by omega) (by omega))
    | exact out_i (grd_2a (by omega) (by omega) (any_hit hx (by rw [outB, decide_eq_false (by omega)]; rfl)))
    | exact out_i (grd_2l (by omega) (by omega) (by assumption) (any_hit hx (by rw [outB, decide_eq_false (by omega)]; rfl)))
    | exact out_i (grd_10 (by omega) (by omega) (by assumption) (by assumption) (.inl (by assumption)))
    | exact out_i (grd_10 (by omega) (by omega) (by assumption) (by assumption) (.inr (by assumption)))
    | exact out_i (grd_0 (by omega) (by omega) (by assumption) (by assumption) (by assumption) (by assumption))
 ·have hb4R := hb4; try simp only [zz] at hb4
  refine pwp_skip ?_
  refine seq_norm (hK3 _ ?_); clear hK3 K3
  refine pwp_seq_seq ?_
  refine pwp_seq_gops rfl fun K6 hK6 => ?_
  refine g_begin ?_
  refine g_e rfl (e_faQ pl3 rfl) ?_
  refine g_e rfl (e_lH (v := .lit _ _ _) rfl (hset_self _ _ _) rfl) ?_
  refine g_e rfl (e_len rfl (by kernel_rfl)) ?_
  refine g_call rfl rfl rfl rfl (.cons inn_sc (.cons inn_sc (.cons inn_sc .nil))) (Within _ _ _) ?_
  refine g_e rfl (e_not rfl) ?_
  refine g_mS rfl rfl ?_
  refine g_cases (fun hb7 => ?_) (fun hb7 => ?_)
  ·have hb7R := hb7; try simp only [zz] at hb7
   iterate 3 refine g_skip rfl rfl rfl ?_
   refine g_nocall rfl rfl rfl ?_
   refine g_skip rfl rfl rfl ?_
   refine g_pT rfl rfl rfl ?_
   refine g_end (ds := [15, 16, 17, 18, 19]) rfl rfl (hK6 _ ?_); clear hK6 K6
   refine pwp_seq_cond (t := true) rfl fun K8 hK8 => ⟨fun _ => ?_, nofun⟩
   refine pwp_seq_plain rfl fun K9 hK9 => ?_
   refine p_aS rfl ?_
   refine p_end (hK9 _ ?_); clear hK9 K9
   refine pwp_ret ?_
   refine ret_seq ?_
   refine end1 (v := .sc _) rfl ?_
   first
     | exact out_i (grd_2f (by omega))
     | exact out_i (grd_11 (by omega) (by omega))
     | exact out_i (grd_2a (by omega) (by omega) (any_hit hx (by rw [outB, decide_eq_false (by omega)]; rfl)))
     | exact out_i (grd_2l (by omega) (by omega) (by assumption) (any_hit hx (by rw [outB, decide_eq_false (by omega)]; rfl)))
     | exact out_i (grd_10 (by omega) (by omega) (by assumption) (by assumption) (.inl (by assumption)))
     | exact out_i (grd_10 (by omega) (by omega) (by assumption) (by assumption) (.inr (by assumption)))
     | exact out_i (grd_0 (by omega) (by omega) (by assumption) (by assumption) (by assumption) (by assumption))
  ·have hb7R := hb7; try simp only [zz] at hb7
   refine g_e rfl (e_faQ pl3 rfl) ?_
   refine g_e rfl (e_lH (v := .lit _ _ _) rfl (hset_self _ _ _) rfl) ?_
   refine g_e rfl (e_len rfl (by kernel_rfl)) ?_
   refine g_call rfl rfl rfl rfl (.cons inn_sc (.cons inn_sc (.cons inn_sc .nil))) (Within _ _ _) ?_
   refine g_e rfl (e_not rfl) ?_
   refine g_pF rfl rfl rfl ?_
   refine g_end (ds := [15, 16, 17, 18, 19]) rfl rfl (hK6 _ ?_); clear hK6 K6
   refine pwp_seq_cond rfl fun K10 hK10 => ⟨fun hb11 => ?_, fun hb11 => ?_⟩
   ·have hb11R := hb11; try simp only [zz] at hb11
    refine pwp_seq_plain rfl fun K12 hK12 => ?_
    refine p_aS rfl ?_
    refine p_end (hK12 _ ?_); clear hK12 K12
    refine pwp_ret ?_
    refine ret_seq ?_
    refine end1 (v := .sc _) rfl ?_
    first
      | exact out_i (grd_2f (by omega))
      | exact out_i (grd_11 (by omega) (by omega))
      | exact out_i (grd_2a (by omega) (by omega) (any_hit hx (by rw [outB, decide_eq_false (by omega)]; rfl)))
      | exact out_i (grd_2l (by omega) (by omega) (by assumption) (any_hit hx (by rw [outB, decide_eq_false (by omega)]; rfl)))
      | exact out_i (grd_10 (by omega) (by omega) (by assumption) (by assumption) (.inl (by assumption)))
      | exact out_i (grd_10 (by omega) (by omega) (by assumption) (by assumption) (.inr (by assumption)))
      | exact out_i (grd_0 (by omega) (by omega) (by assumption) (by assumption) (by assumption) (by assumption))
   ·have hb11R := hb11; try simp only [zz] at hb11
    refine pwp_skip ?_
    refine seq_norm (hK10 _ ?_); clear hK10 K10
    refine pwp_seq_seq ?_
    refine pwp_seq_plain rfl fun K13 hK13 => ?_
    refine p_aS rfl ?_
    refine p_end (hK13 _ ?_); clear hK13 K13
    refine pwp_seq_block fun K14 hK14 => ?_
    refine pwp_loopR (α := Nat) [1] (fun (k : Nat) => [(3, .int (k))]) (fun (k : Nat) (h : Heap) (_ : Nat → Nat) => ((k) ≤ g.along.length) ∧ (∀ i, i < (k) → ∀ y, g.along[i]? = some y → (outB (-1000000) 1000000) y = false) ∧ (h (1, 0) = some (.rows 3 [Grid.enc g]))) (fun (k : Nat) => g.along.length - (k)) (0) (by exact ⟨rfl, trivial⟩) (by exact ⟨by exact Nat.zero_le _, by exact nx_0, (hset_self _ _ _)⟩) fun k r15 h16 c17 hj18 => ?_
    obtain ⟨hk, hin, hihj18_0⟩ := hj18
    try dsimp only at hk
    try dsimp only at hin
    try dsimp only at hihj18_0
    show pwp _ _ (loopQ _ _ _) ⟨sets (mix _ _ _) [(3, .int k)], _, _⟩
    refine pwp_seq_seq ?_
    refine pwp_seq_plain rfl fun K19 hK19 => ?_
    refine p_mS rfl ?_
    refine p_e rfl (e_faQ pl3 rfl) ?_
    refine p_e rfl (e_lH (v := .lit _ _ _) rfl hihj18_0 rfl) ?_
    refine p_e rfl (e_len rfl (by kernel_rfl)) ?_
    refine p_e rfl (e_lt rfl rfl) ?_
    refine p_end (hK19 _ ?_); clear hK19 K19
    refine pwp_seq_cond rfl fun K20 hK20 => ⟨fun hb21 => ?_, fun hb21 => ?_⟩
    ·have hb21R := hb21; try simp only [zz] at hb21
     obtain ⟨x, hx, hd, ht⟩ := get_lt (xs := g.along) (i := k) (by omega)
     refine pwp_skip ?_
     refine seq_norm (hK20 _ ?_); clear hK20 K20
     refine pwp_seq_block fun K22 hK22 => ?_
     refine pwp_seq_plain rfl fun K23 hK23 => ?_
     refine p_e rfl (e_faQ pl3 rfl) ?_
     refine p_e rfl (e_lH (v := .lit _ _ _) rfl hihj18_0 rfl) ?_
     refine p_mS rfl ?_
     refine p_e rfl (e_ixL rfl rfl) ?_
     refine p_e rfl (e_load (v := .sc _) rfl (by kernel_rfl) (by kernel_rfl) (by kernel_rfl) (by first | omega | (simp only [List.length_map]; omega)) (by decide) ((cell_map hx _).trans rfl)) ?_
     refine p_call rfl (.cons inn_sc (.cons inn_sc (.cons inn_sc .nil))) (Within _ _ _) ?_
     refine p_e rfl (e_not rfl) ?_
     refine p_end (hK23 _ ?_); clear hK23 K23
     refine pwp_cond rfl (fun hb24 => ?_) (fun hb24 => ?_)
     ·have hb24R := hb24; try simp only [zz] at hb24
      refine pwp_seq_plain rfl fun K25 hK25 => ?_
      refine p_aS rfl ?_
      refine p_end (hK25 _ ?_); clear hK25 K25
      refine pwp_ret ?_
      refine ret_block ?_
      refine ret_seq ?_
      refine ret_loop ?_
      refine ret_block ?_
      refine ret_seq ?_
      refine end1 (v := .sc _) rfl ?_
      first
        | exact out_i (grd_2f (by omega))
        | exact out_i (grd_11 (by omega) (by omega))
        | exact out_i (grd_2a (by omega) (by omega) (any_hit hx (by rw [outB, decide_eq_false (by omega)]; rfl)))
        | exact out_i (grd_2l (by omega) (by omega) (by assumption) (any_hit hx (by rw [outB, decide_eq_false (by omega)]; rfl)))
        | exact out_i (grd_10 (by omega) (by omega) (by assumption) (by assumption) (.inl (by assumption)))
        | exact out_i (grd_10 (by omega) (by omega) (by assumption) (by assumption) (.inr (by assumption)))
        | exact out_i (grd_0 (by omega) (by omega) (by assumption) (by assumption) (by assumption) (by assumption))
     ·have hb24R := hb24; try simp only [zz] at hb24
      refine pwp_skip ?_
      refine block_norm ?_
      refine seq_norm (hK22 _ ?_); clear hK22 K22
      refine pwp_plain rfl fun K26 hK26 => ?_
      refine p_mS rfl ?_
      refine p_e rfl (e_adL rfl rfl) ?_
      refine p_aS rfl ?_
      refine p_end (hK26 _ ?_); clear hK26 K26
      exact loop_again (k + 1) (by show _ < _; omega) ⟨rfl, trivial⟩ ⟨rfl, trivial⟩ (by exact ⟨by show _ + 1 ≤ _; simp only [List.length_map] at *; omega, by exact nx_step (K := outB (-1000000) 1000000) hin hx (by rw [outB, decide_eq_true (by omega)]; rfl), hihj18_0⟩)
    ·have hb21R := hb21; try simp only [zz] at hb21
     have ha0 : g.along.any (outB (-1000000) 1000000) = false := any_no hin (by simp only [List.length_map] at *; omega)
     refine pwp_exit ?_
     refine exit_seq ?_
     clear hK20 K20
     refine exit_loop ?_
     refine exit_here ?_
     refine seq_norm (hK14 _ ?_); clear hK14 K14
     refine pwp_seq_seq ?_
     refine pwp_seq_plain rfl fun K27 hK27 => ?_
     refine p_aS rfl ?_
     refine p_end (hK27 _ ?_); clear hK27 K27
     refine pwp_seq_block fun K28 hK28 => ?_
     refine pwp_loopR (α := Nat) [1] (fun (k : Nat) => [(4, .int (k))]) (fun (k : Nat) (h : Heap) (_ : Nat → Nat) => ((k) ≤ g.levels.length) ∧ (∀ i, i < (k) → ∀ y, g.levels[i]? = some y → (outB 1 1000000) y = false) ∧ (h (1, 0) = some (.rows 3 [Grid.enc g]))) (fun (k : Nat) => g.levels.length - (k)) (0) (by exact ⟨rfl, trivial⟩) (by exact ⟨by exact Nat.zero_le _, by exact nx_0, hihj18_0⟩) fun k r29 h30 c31 hj32 => ?_
     obtain ⟨hk, hin, hihj32_0⟩ := hj32
     try dsimp only at hk
     try dsimp only at hin
     try dsimp only at hihj32_0
     show pwp _ _ (loopQ _ _ _) ⟨sets (mix _ _ _) [(4, .int k)], _, _⟩
     refine pwp_seq_seq ?_
     refine pwp_seq_plain rfl fun K33 hK33 => ?_
     refine p_mS rfl ?_
     refine p_e rfl (e_faQ pl3 rfl) ?_
     refine p_e rfl (e_lH (v := .lit _ _ _) rfl hihj32_0 rfl) ?_
     refine p_e rfl (e_len rfl (by kernel_rfl)) ?_
     refine p_e rfl (e_lt rfl rfl) ?_
     refine p_end (hK33 _ ?_); clear hK33 K33
     refine pwp_seq_cond rfl fun K34 hK34 => ⟨fun hb35 => ?_, fun hb35 => ?_⟩
     ·have hb35R := hb35; try simp only [zz] at hb35
      obtain ⟨x, hx, hd, ht⟩ := get_lt (xs := g.levels) (i := k) (by omega)
      refine pwp_skip ?_
      refine seq_norm (hK34 _ ?_); clear hK34 K34
      refine pwp_seq_block fun K36 hK36 => ?_
      refine pwp_seq_plain rfl fun K37 hK37 => ?_
      refine p_e rfl (e_faQ pl3 rfl) ?_
      refine p_e rfl (e_lH (v := .lit _ _ _) rfl hihj32_0 rfl) ?_
      refine p_mS rfl ?_
      refine p_e rfl (e_ixL rfl rfl) ?_
      refine p_e rfl (e_load (v := .sc _) rfl (by kernel_rfl) (by kernel_rfl) (by kernel_rfl) (by first | omega | (simp only [List.length_map]; omega)) (by decide) ((cell_map hx _).trans rfl)) ?_
      refine p_call rfl (.cons inn_sc (.cons inn_sc (.cons inn_sc .nil))) (Within _ _ _) ?_
      refine p_e rfl (e_not rfl) ?_
      refine p_end (hK37 _ ?_); clear hK37 K37
      refine pwp_cond rfl (fun hb38 => ?_) (fun hb38 => ?_)
      ·have hb38R := hb38; try simp only [zz] at hb38
       refine pwp_seq_plain rfl fun K39 hK39 => ?_
       refine p_aS rfl ?_
       refine p_end (hK39 _ ?_); clear hK39 K39
       refine pwp_ret ?_
       refine ret_block ?_
       refine ret_seq ?_
       refine ret_loop ?_
       refine ret_block ?_
       refine ret_seq ?_
       refine end1 (v := .sc _) rfl ?_
       first
         | exact out_i (grd_2f (by omega))
         | exact out_i (grd_11 (by omega) (by omega))
         | exact out_i (grd_2a (by omega) (by omega) (any_hit hx (by rw [outB, decide_eq_false (by omega)]; rfl)))
         | exact out_i (grd_2l (by omega) (by omega) (by assumption) (any_hit hx (by rw [outB, decide_eq_false (by omega)]; rfl)))
         | exact out_i (grd_10 (by omega) (by omega) (by assumption) (by assumption) (.inl (by assumption)))
         | exact out_i (grd_10 (by omega) (by omega) (by assumption) (by assumption) (.inr (by assumption)))
         | exact out_i (grd_0 (by omega) (by omega) (by assumption) (by assumption) (by assumption) (by assumption))
      ·have hb38R := hb38; try simp only [zz] at hb38
       refine pwp_skip ?_
       refine block_norm ?_
       refine seq_norm (hK36 _ ?_); clear hK36 K36
       refine pwp_plain rfl fun K40 hK40 => ?_
       refine p_mS rfl ?_
       refine p_e rfl (e_adL rfl rfl) ?_
       refine p_aS rfl ?_
       refine p_end (hK40 _ ?_); clear hK40 K40
       exact loop_again (k + 1) (by show _ < _; omega) ⟨rfl, trivial⟩ ⟨rfl, trivial⟩ (by exact ⟨by show _ + 1 ≤ _; simp only [List.length_map] at *; omega, by exact nx_step (K := outB 1 1000000) hin hx (by rw [outB, decide_eq_true (by omega)]; rfl), hihj32_0⟩)
     ·have hb35R := hb35; try simp only [zz] at hb35
      have hb0 : g.levels.any (outB 1 1000000) = false := any_no hin (by simp only [List.length_map] at *; omega)
      refine pwp_exit ?_
      refine exit_seq ?_
      clear hK34 K34
      refine exit_loop ?_
      refine exit_here ?_
      refine seq_norm (hK28 _ ?_); clear hK28 K28
      refine pwp_seq_seq ?_
      refine pwp_seq_gops rfl fun K41 hK41 => ?_
      refine g_begin ?_
      refine g_e rfl (e_faQ pl3 rfl) ?_
      refine g_e rfl (e_lH (v := .lit _ _ _) rfl hihj32_0 rfl) ?_
      refine g_call rfl rfl rfl rfl (.cons inn_lit .nil) (ascendsC _ (by omega)) ?_
      refine g_e rfl (e_not rfl) ?_
      refine g_mS rfl rfl ?_
      refine g_cases (fun hb42 => ?_) (fun hb42 => ?_)
      ·have hb42R := hb42; try simp only [zz] at hb42
       iterate 2 refine g_skip rfl rfl rfl ?_
       refine g_nocall rfl rfl rfl ?_
       refine g_skip rfl rfl rfl ?_
       refine g_pT rfl rfl rfl ?_
       refine g_end (ds := [54, 55, 56, 57]) rfl rfl (hK41 _ ?_); clear hK41 K41
       refine pwp_seq_cond (t := true) rfl fun K43 hK43 => ⟨fun _ => ?_, nofun⟩
       refine pwp_seq_plain rfl fun K44 hK44 => ?_
       refine p_aS rfl ?_
       refine p_end (hK44 _ ?_); clear hK44 K44
       refine pwp_ret ?_
       refine ret_seq ?_
       refine end1 (v := .sc _) rfl ?_
       first
         | exact out_i (grd_2f (by omega))
         | exact out_i (grd_11 (by omega) (by omega))
         | exact out_i (grd_2a (by omega) (by omega) (any_hit hx (by rw [outB, decide_eq_false (by omega)]; rfl)))
         | exact out_i (grd_2l (by omega) (by omega) (by assumption) (any_hit hx (by rw [outB, decide_eq_false (by omega)]; rfl)))
         | exact out_i (grd_10 (by omega) (by omega) (by assumption) (by assumption) (.inl (by assumption)))
         | exact out_i (grd_10 (by omega) (by omega) (by assumption) (by assumption) (.inr (by assumption)))
         | exact out_i (grd_0 (by omega) (by omega) (by assumption) (by assumption) (by assumption) (by assumption))
      ·have hb42R := hb42; try simp only [zz] at hb42
       refine g_e rfl (e_faQ pl3 rfl) ?_
       refine g_e rfl (e_lH (v := .lit _ _ _) rfl hihj32_0 rfl) ?_
       refine g_call rfl rfl rfl rfl (.cons inn_lit .nil) (ascendsC _ (by omega)) ?_
       refine g_e rfl (e_not rfl) ?_
       refine g_pF rfl rfl rfl ?_
       refine g_end (ds := [54, 55, 56, 57]) rfl rfl (hK41 _ ?_); clear hK41 K41
       refine pwp_seq_cond rfl fun K45 hK45 => ⟨fun hb46 => ?_, fun hb46 => ?_⟩
       ·have hb46R := hb46; try simp only [zz] at hb46
        refine pwp_seq_plain rfl fun K47 hK47 => ?_
        refine p_aS rfl ?_
        refine p_end (hK47 _ ?_); clear hK47 K47
        refine pwp_ret ?_
        refine ret_seq ?_
        refine end1 (v := .sc _) rfl ?_
        first
          | exact out_i (grd_2f (by omega))
          | exact out_i (grd_11 (by omega) (by omega))
          | exact out_i (grd_2a (by omega) (by omega) (any_hit hx (by rw [outB, decide_eq_false (by omega)]; rfl)))
          | exact out_i (grd_2l (by omega) (by omega) (by assumption) (any_hit hx (by rw [outB, decide_eq_false (by omega)]; rfl)))
          | exact out_i (grd_10 (by omega) (by omega) (by assumption) (by assumption) (.inl (by assumption)))
          | exact out_i (grd_10 (by omega) (by omega) (by assumption) (by assumption) (.inr (by assumption)))
          | exact out_i (grd_0 (by omega) (by omega) (by assumption) (by assumption) (by assumption) (by assumption))
       ·have hb46R := hb46; try simp only [zz] at hb46
        refine pwp_skip ?_
        refine seq_norm (hK45 _ ?_); clear hK45 K45
        refine pwp_seq_plain rfl fun K48 hK48 => ?_
        refine p_aS rfl ?_
        refine p_end (hK48 _ ?_); clear hK48 K48
        refine pwp_ret ?_
        refine end1 (v := .sc _) rfl ?_
        first
          | exact out_i (grd_2f (by omega))
          | exact out_i (grd_11 (by omega) (by omega))
          | exact out_i (grd_2a (by omega) (by omega) (any_hit hx (by rw [outB, decide_eq_false (by omega)]; rfl)))
          | exact out_i (grd_2l (by omega) (by omega) (by assumption) (any_hit hx (by rw [outB, decide_eq_false (by omega)]; rfl)))
          | exact out_i (grd_10 (by omega) (by omega) (by assumption) (by assumption) (.inl (by assumption)))
          | exact out_i (grd_10 (by omega) (by omega) (by assumption) (by assumption) (.inr (by assumption)))
          | exact out_i (grd_0 (by omega) (by omega) (by assumption) (by assumption) (by assumption) (by assumption))

theorem fr17 : (inFrame Tryz.f17.ntmps (Tryz.f17.body.getD .skip) && Tryz.f17.results.toList.all (resScope Tryz.f17.ntmps)) = true := by kernel_rfl
theorem CheckRuleC (r : Rule) : PCalls Tryz.prog 17 [.agg r.enc] (.int (ruleE r)) := by
 refine PCalls.of_code Tryz.func17 rfl rfl (by kernel_rfl) mixed fr17 (by show _ ≤ 31; simp) (.sc _) ?_
 refine pwp_seq_plain rfl fun K1 hK1 => ?_
 refine p_new rfl (e_box (n := 5) rfl rfl) ⟨rfl, by decide⟩ ?_
 refine p_aS rfl ?_
 refine p_end (hK1 _ ?_); clear hK1 K1
 refine pwp_seq_seq ?_
 refine pwp_seq_gops rfl fun K2 hK2 => ?_
 refine g_begin ?_
 refine g_e rfl (e_faQ pl5 rfl) ?_
 refine g_e rfl (e_lH (v := .sc _) rfl (hset_self _ _ _) rfl) ?_
 refine g_call rfl rfl rfl rfl (.cons inn_sc (.cons inn_sc (.cons inn_sc .nil))) (within _ _ _) ?_
 refine g_e rfl (e_not rfl) ?_
 refine g_mS rfl rfl ?_
 refine g_cases (fun hb3 => ?_) (fun hb3 => ?_)
 ·have hb3R := hb3; try simp only [zz] at hb3
  iterate 2 refine g_skip rfl rfl rfl ?_
  refine g_nocall rfl rfl rfl ?_
  refine g_skip rfl rfl rfl ?_
  refine g_pT rfl rfl rfl ?_
  refine g_mS rfl rfl ?_
  iterate 2 refine g_skip rfl rfl rfl ?_
  refine g_nocall rfl rfl rfl ?_
  refine g_skip rfl rfl rfl ?_
  refine g_pT rfl rfl rfl ?_
  refine g_mS rfl rfl ?_
  iterate 2 refine g_skip rfl rfl rfl ?_
  refine g_nocall rfl rfl rfl ?_
  refine g_skip rfl rfl rfl ?_
  refine g_pT rfl rfl rfl ?_
  refine g_mS rfl rfl ?_
  iterate 2 refine g_skip rfl rfl rfl ?_
  refine g_nocall rfl rfl rfl ?_
  refine g_skip rfl rfl rfl ?_
  refine g_pT rfl rfl rfl ?_
  refine g_end (ds := [8, 9, 10, 11, 14, 15, 16, 17, 20, 21, 22, 23, 26, 27, 28, 29]) rfl rfl (hK2 _ ?_); clear hK2 K2
  refine pwp_seq_cond (t := true) rfl fun K4 hK4 => ⟨fun _ => ?_, nofun⟩
  refine pwp_seq_plain rfl fun K5 hK5 => ?_
  refine p_aS rfl ?_
  refine p_end (hK5 _ ?_); clear hK5 K5
  refine pwp_ret ?_
  refine ret_seq ?_
  refine end1 (v := .sc _) rfl ?_
  exact out_i (by unfold ruleE; split <;> first | rfl | omega)
 ·have hb3R := hb3; try simp only [zz] at hb3
  refine g_e rfl (e_faQ pl5 rfl) ?_
  refine g_e rfl (e_lH (v := .sc _) rfl (hset_self _ _ _) rfl) ?_
  refine g_call rfl rfl rfl rfl (.cons inn_sc (.cons inn_sc (.cons inn_sc .nil))) (within _ _ _) ?_
  refine g_e rfl (e_not rfl) ?_
  refine g_pF rfl rfl rfl ?_
  refine g_mS rfl rfl ?_
  refine g_cases (fun hb6 => ?_) (fun hb6 => ?_)
  ·have hb6R := hb6; try simp only [zz] at hb6
   iterate 2 refine g_skip rfl rfl rfl ?_
   refine g_nocall rfl rfl rfl ?_
   refine g_skip rfl rfl rfl ?_
   refine g_pT rfl rfl rfl ?_
   refine g_mS rfl rfl ?_
   iterate 2 refine g_skip rfl rfl rfl ?_
   refine g_nocall rfl rfl rfl ?_
   refine g_skip rfl rfl rfl ?_
   refine g_pT rfl rfl rfl ?_
   refine g_mS rfl rfl ?_
   iterate 2 refine g_skip rfl rfl rfl ?_
   refine g_nocall rfl rfl rfl ?_
   refine g_skip rfl rfl rfl ?_
   refine g_pT rfl rfl rfl ?_
   refine g_end (ds := [8, 9, 10, 11, 14, 15, 16, 17, 20, 21, 22, 23, 26, 27, 28, 29]) rfl rfl (hK2 _ ?_); clear hK2 K2
   refine pwp_seq_cond (t := true) rfl fun K7 hK7 => ⟨fun _ => ?_, nofun⟩
   refine pwp_seq_plain rfl fun K8 hK8 => ?_
   refine p_aS rfl ?_
   refine p_end (hK8 _ ?_); clear hK8 K8
   refine pwp_ret ?_
   refine ret_seq ?_
   refine end1 (v := .sc _) rfl ?_
   exact out_i (by unfold ruleE; split <;> first | rfl | omega)
  ·have hb6R := hb6; try simp only [zz] at hb6
   refine g_e rfl (e_faQ pl5 rfl) ?_
   refine g_e rfl (e_lH (v := .sc _) rfl (hset_self _ _ _) rfl) ?_
   refine g_call rfl rfl rfl rfl (.cons inn_sc (.cons inn_sc (.cons inn_sc .nil))) (within _ _ _) ?_
   refine g_e rfl (e_not rfl) ?_
   refine g_pF rfl rfl rfl ?_
   refine g_mS rfl rfl ?_
   refine g_cases (fun hb9 => ?_) (fun hb9 => ?_)
   ·have hb9R := hb9; try simp only [zz] at hb9
    iterate 2 refine g_skip rfl rfl rfl ?_
    refine g_nocall rfl rfl rfl ?_
    refine g_skip rfl rfl rfl ?_
    refine g_pT rfl rfl rfl ?_
    refine g_mS rfl rfl ?_
    iterate 2 refine g_skip rfl rfl rfl ?_
    refine g_nocall rfl rfl rfl ?_
    refine g_skip rfl rfl rfl ?_
    refine g_pT rfl rfl rfl ?_
    refine g_end (ds := [8, 9, 10, 11, 14, 15, 16, 17, 20, 21, 22, 23, 26, 27, 28, 29]) rfl rfl (hK2 _ ?_); clear hK2 K2
    refine pwp_seq_cond (t := true) rfl fun K10 hK10 => ⟨fun _ => ?_, nofun⟩
    refine pwp_seq_plain rfl fun K11 hK11 => ?_
    refine p_aS rfl ?_
    refine p_end (hK11 _ ?_); clear hK11 K11
    refine pwp_ret ?_
    refine ret_seq ?_
    refine end1 (v := .sc _) rfl ?_
    exact out_i (by unfold ruleE; split <;> first | rfl | omega)
   ·have hb9R := hb9; try simp only [zz] at hb9
    refine g_e rfl (e_faQ pl5 rfl) ?_
    refine g_e rfl (e_lH (v := .sc _) rfl (hset_self _ _ _) rfl) ?_
    refine g_call rfl rfl rfl rfl (.cons inn_sc (.cons inn_sc (.cons inn_sc .nil))) (within _ _ _) ?_
    refine g_e rfl (e_not rfl) ?_
    refine g_pF rfl rfl rfl ?_
    refine g_mS rfl rfl ?_
    refine g_cases (fun hb12 => ?_) (fun hb12 => ?_)
    ·have hb12R := hb12; try simp only [zz] at hb12
     iterate 2 refine g_skip rfl rfl rfl ?_
     refine g_nocall rfl rfl rfl ?_
     refine g_skip rfl rfl rfl ?_
     refine g_pT rfl rfl rfl ?_
     refine g_end (ds := [8, 9, 10, 11, 14, 15, 16, 17, 20, 21, 22, 23, 26, 27, 28, 29]) rfl rfl (hK2 _ ?_); clear hK2 K2
     refine pwp_seq_cond (t := true) rfl fun K13 hK13 => ⟨fun _ => ?_, nofun⟩
     refine pwp_seq_plain rfl fun K14 hK14 => ?_
     refine p_aS rfl ?_
     refine p_end (hK14 _ ?_); clear hK14 K14
     refine pwp_ret ?_
     refine ret_seq ?_
     refine end1 (v := .sc _) rfl ?_
     exact out_i (by unfold ruleE; split <;> first | rfl | omega)
    ·have hb12R := hb12; try simp only [zz] at hb12
     refine g_e rfl (e_faQ pl5 rfl) ?_
     refine g_e rfl (e_lH (v := .sc _) rfl (hset_self _ _ _) rfl) ?_
     refine g_call rfl rfl rfl rfl (.cons inn_sc (.cons inn_sc (.cons inn_sc .nil))) (within _ _ _) ?_
     refine g_e rfl (e_not rfl) ?_
     refine g_pF rfl rfl rfl ?_
     refine g_end (ds := [8, 9, 10, 11, 14, 15, 16, 17, 20, 21, 22, 23, 26, 27, 28, 29]) rfl rfl (hK2 _ ?_); clear hK2 K2
     refine pwp_seq_cond rfl fun K15 hK15 => ⟨fun hb16 => ?_, fun hb16 => ?_⟩
     ·have hb16R := hb16; try simp only [zz] at hb16
      refine pwp_seq_plain rfl fun K17 hK17 => ?_
      refine p_aS rfl ?_
      refine p_end (hK17 _ ?_); clear hK17 K17
      refine pwp_ret ?_
      refine ret_seq ?_
      refine end1 (v := .sc _) rfl ?_
      exact out_i (by unfold ruleE; split <;> first | rfl | omega)
     ·have hb16R := hb16; try simp only [zz] at hb16
      refine pwp_skip ?_
      refine seq_norm (hK15 _ ?_); clear hK15 K15
      refine pwp_seq_plain rfl fun K18 hK18 => ?_
      refine p_aS rfl ?_
      refine p_end (hK18 _ ?_); clear hK18 K18
      refine pwp_ret ?_
      refine end1 (v := .sc _) rfl ?_
      exact out_i (by unfold ruleE; split <;> first | rfl | omega)

theorem fr18 : (inFrame Tryz.f18.ntmps (Tryz.f18.body.getD .skip) && Tryz.f18.results.toList.all (resScope Tryz.f18.ntmps)) = true := by kernel_rfl
theorem refRuleC (r : Rule) : PCalls Tryz.prog 18 [.agg r.enc] (.int (ruleE r)) := by
 refine PCalls.of_code Tryz.func18 rfl rfl (by kernel_rfl) mixed fr18 (by show _ ≤ 31; simp) (.sc _) ?_
 refine pwp_seq_plain rfl fun K1 hK1 => ?_
 refine p_new rfl (e_box (n := 5) rfl rfl) ⟨rfl, by decide⟩ ?_
 refine p_aS rfl ?_
 refine p_end (hK1 _ ?_); clear hK1 K1
 refine pwp_seq_seq ?_
 refine pwp_seq_gops rfl fun K2 hK2 => ?_
 refine g_begin ?_
 refine g_e rfl (e_faQ pl5 rfl) ?_
 refine g_e rfl (e_lH (v := .sc _) rfl (hset_self _ _ _) rfl) ?_
 refine g_call rfl rfl rfl rfl (.cons inn_sc (.cons inn_sc (.cons inn_sc .nil))) (Within _ _ _) ?_
 refine g_e rfl (e_not rfl) ?_
 refine g_mS rfl rfl ?_
 refine g_cases (fun hb3 => ?_) (fun hb3 => ?_)
 ·have hb3R := hb3; try simp only [zz] at hb3
  iterate 2 refine g_skip rfl rfl rfl ?_
  refine g_nocall rfl rfl rfl ?_
  refine g_skip rfl rfl rfl ?_
  refine g_pT rfl rfl rfl ?_
  refine g_mS rfl rfl ?_
  iterate 2 refine g_skip rfl rfl rfl ?_
  refine g_nocall rfl rfl rfl ?_
  refine g_skip rfl rfl rfl ?_
  refine g_pT rfl rfl rfl ?_
  refine g_mS rfl rfl ?_
  iterate 2 refine g_skip rfl rfl rfl ?_
  refine g_nocall rfl rfl rfl ?_
  refine g_skip rfl rfl rfl ?_
  refine g_pT rfl rfl rfl ?_
  refine g_mS rfl rfl ?_
  iterate 2 refine g_skip rfl rfl rfl ?_
  refine g_nocall rfl rfl rfl ?_
  refine g_skip rfl rfl rfl ?_
  refine g_pT rfl rfl rfl ?_
  refine g_end (ds := [8, 9, 10, 11, 14, 15, 16, 17, 20, 21, 22, 23, 26, 27, 28, 29]) rfl rfl (hK2 _ ?_); clear hK2 K2
  refine pwp_seq_cond (t := true) rfl fun K4 hK4 => ⟨fun _ => ?_, nofun⟩
  refine pwp_seq_plain rfl fun K5 hK5 => ?_
  refine p_aS rfl ?_
  refine p_end (hK5 _ ?_); clear hK5 K5
  refine pwp_ret ?_
  refine ret_seq ?_
  refine end1 (v := .sc _) rfl ?_
  exact out_i (by unfold ruleE; split <;> first | rfl | omega)
 ·have hb3R := hb3; try simp only [zz] at hb3
  refine g_e rfl (e_faQ pl5 rfl) ?_
  refine g_e rfl (e_lH (v := .sc _) rfl (hset_self _ _ _) rfl) ?_
  refine g_call rfl rfl rfl rfl (.cons inn_sc (.cons inn_sc (.cons inn_sc .nil))) (Within _ _ _) ?_
  refine g_e rfl (e_not rfl) ?_
  refine g_pF rfl rfl rfl ?_
  refine g_mS rfl rfl ?_
  refine g_cases (fun hb6 => ?_) (fun hb6 => ?_)
  ·have hb6R := hb6; try simp only [zz] at hb6
   iterate 2 refine g_skip rfl rfl rfl ?_
   refine g_nocall rfl rfl rfl ?_
   refine g_skip rfl rfl rfl ?_
   refine g_pT rfl rfl rfl ?_
   refine g_mS rfl rfl ?_
   iterate 2 refine g_skip rfl rfl rfl ?_
   refine g_nocall rfl rfl rfl ?_
   refine g_skip rfl rfl rfl ?_
   refine g_pT rfl rfl rfl ?_
   refine g_mS rfl rfl ?_
   iterate 2 refine g_skip rfl rfl rfl ?_
   refine g_nocall rfl rfl rfl ?_
   refine g_skip rfl rfl rfl ?_
   refine g_pT rfl rfl rfl ?_
   refine g_end (ds := [8, 9, 10, 11, 14, 15, 16, 17, 20, 21, 22, 23, 26, 27, 28, 29]) rfl rfl (hK2 _ ?_); clear hK2 K2
   refine pwp_seq_cond (t := true) rfl fun K7 hK7 => ⟨fun _ => ?_, nofun⟩
   refine pwp_seq_plain rfl fun K8 hK8 => ?_
   refine p_aS rfl ?_
   refine p_end (hK8 _ ?_); clear hK8 K8
   refine pwp_ret ?_
   refine ret_seq ?_
   refine end1 (v := .sc _) rfl ?_
   exact out_i (by unfold ruleE; split <;> first | rfl | omega)
  ·have hb6R := hb6; try simp only [zz] at hb6
   refine g_e rfl (e_faQ pl5 rfl) ?_
   refine g_e rfl (e_lH (v := .sc _) rfl (hset_self _ _ _) rfl) ?_
   refine g_call rfl rfl rfl rfl (.cons inn_sc (.cons inn_sc (.cons inn_sc .nil))) (Within _ _ _) ?_
   refine g_e rfl (e_not rfl) ?_
   refine g_pF rfl rfl rfl ?_
   refine g_mS rfl rfl ?_
   refine g_cases (fun hb9 => ?_) (fun hb9 => ?_)
   ·have hb9R := hb9; try simp only [zz] at hb9
    iterate 2 refine g_skip rfl rfl rfl ?_
    refine g_nocall rfl rfl rfl ?_
    refine g_skip rfl rfl rfl ?_
    refine g_pT rfl rfl rfl ?_
    refine g_mS rfl rfl ?_
    iterate 2 refine g_skip rfl rfl rfl ?_
    refine g_nocall rfl rfl rfl ?_
    refine g_skip rfl rfl rfl ?_
    refine g_pT rfl rfl rfl ?_
    refine g_end (ds := [8, 9, 10, 11, 14, 15, 16, 17, 20, 21, 22, 23, 26, 27, 28, 29]) rfl rfl (hK2 _ ?_); clear hK2 K2
    refine pwp_seq_cond (t := true) rfl fun K10 hK10 => ⟨fun _ => ?_, nofun⟩
    refine pwp_seq_plain rfl fun K11 hK11 => ?_
    refine p_aS rfl ?_
    refine p_end (hK11 _ ?_); clear hK11 K11
    refine pwp_ret ?_
    refine ret_seq ?_
    refine end1 (v := .sc _) rfl ?_
    exact out_i (by unfold ruleE; split <;> first | rfl | omega)
   ·have hb9R := hb9; try simp only [zz] at hb9
    refine g_e rfl (e_faQ pl5 rfl) ?_
    refine g_e rfl (e_lH (v := .sc _) rfl (hset_self _ _ _) rfl) ?_
    refine g_call rfl rfl rfl rfl (.cons inn_sc (.cons inn_sc (.cons inn_sc .nil))) (Within _ _ _) ?_
    refine g_e rfl (e_not rfl) ?_
    refine g_pF rfl rfl rfl ?_
    refine g_mS rfl rfl ?_
    refine g_cases (fun hb12 => ?_) (fun hb12 => ?_)
    ·have hb12R := hb12; try simp only [zz] at hb12
     iterate 2 refine g_skip rfl rfl rfl ?_
     refine g_nocall rfl rfl rfl ?_
     refine g_skip rfl rfl rfl ?_
     refine g_pT rfl rfl rfl ?_
     refine g_end (ds := [8, 9, 10, 11, 14, 15, 16, 17, 20, 21, 22, 23, 26, 27, 28, 29]) rfl rfl (hK2 _ ?_); clear hK2 K2
     refine pwp_seq_cond (t := true) rfl fun K13 hK13 => ⟨fun _ => ?_, nofun⟩
     refine pwp_seq_plain rfl fun K14 hK14 => ?_
     refine p_aS rfl ?_
     refine p_end (hK14 _ ?_); clear hK14 K14
     refine pwp_ret ?_
     refine ret_seq ?_
     refine end1 (v := .sc _) rfl ?_
     exact out_i (by unfold ruleE; split <;> first | rfl | omega)
    ·have hb12R := hb12; try simp only [zz] at hb12
     refine g_e rfl (e_faQ pl5 rfl) ?_
     refine g_e rfl (e_lH (v := .sc _) rfl (hset_self _ _ _) rfl) ?_
     refine g_call rfl rfl rfl rfl (.cons inn_sc (.cons inn_sc (.cons inn_sc .nil))) (Within _ _ _) ?_
     refine g_e rfl (e_not rfl) ?_
     refine g_pF rfl rfl rfl ?_
     refine g_end (ds := [8, 9, 10, 11, 14, 15, 16, 17, 20, 21, 22, 23, 26, 27, 28, 29]) rfl rfl (hK2 _ ?_); clear hK2 K2
     refine pwp_seq_cond rfl fun K15 hK15 => ⟨fun hb16 => ?_, fun hb16 => ?_⟩
     ·have hb16R := hb16; try simp only [zz] at hb16
      refine pwp_seq_plain rfl fun K17 hK17 => ?_
      refine p_aS rfl ?_
      refine p_end (hK17 _ ?_); clear hK17 K17
      refine pwp_ret ?_
      refine ret_seq ?_
      refine end1 (v := .sc _) rfl ?_
      exact out_i (by unfold ruleE; split <;> first | rfl | omega)
     ·have hb16R := hb16; try simp only [zz] at hb16
      refine pwp_skip ?_
      refine seq_norm (hK15 _ ?_); clear hK15 K15
      refine pwp_seq_plain rfl fun K18 hK18 => ?_
      refine p_aS rfl ?_
      refine p_end (hK18 _ ?_); clear hK18 K18
      refine pwp_ret ?_
      refine end1 (v := .sc _) rfl ?_
      exact out_i (by unfold ruleE; split <;> first | rfl | omega)

end Go.Proofs.YtindehoegfiiaaaGreatDoor
