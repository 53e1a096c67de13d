/- Grids and rules. No conditions. -/
import Derived.Test.YtindehoegfiiaaaGreatDoorData
import Derived.Test.YtindehoegfiiaaaGreatDoorAwake
set_option linter.unusedSimpArgs false
set_option linter.unusedVariables false
set_option maxRecDepth 100000
namespace Go.Proofs.YtindehoegfiiaaaGreatDoor
open Go Go.Pv
def ixA {α : Type} (K : α → Bool) (l : List α) : Int := match l.findIdx? K with | some i => (i : Int) | none => -1
theorem ixA_hit {α : Type} {K : α → Bool} {l : List α} {k : Nat} {x : α} (hx : l[k]? = some x) (h : ∀ i, i < k → ∀ y, l[i]? = some y → K y = false) (h2 : K x = true) : (k : Int) = ixA K l := by
 have h3 : l.findIdx? K = some k := by
   rw [List.findIdx?_eq_some_iff_getElem]
   obtain ⟨hk, rfl⟩ := List.getElem?_eq_some_iff.1 hx
   exact ⟨hk, h2, fun j hj => by rw [h j hj _ (List.getElem?_eq_getElem (by omega))]; decide⟩
 rw [ixA, h3]
theorem ixA_no {α : Type} {K : α → Bool} {l : List α} {k : Nat} (h : ∀ i, i < k → ∀ y, l[i]? = some y → K y = false) (h2 : l.length ≤ k) : -1 = ixA K l := by
 have h3 : l.findIdx? K = none := by
   rw [List.findIdx?_eq_none_iff]
   intro x hx
   obtain ⟨i, hi, rfl⟩ := List.getElem_of_mem hx
   exact h i (by omega) _ (List.getElem?_eq_getElem hi)
 rw [ixA, h3]
theorem ixA_any {α : Type} {K : α → Bool} {l : List α} : decide (0 ≤ ixA K l) = l.any K := by
 rw [ixA]
 split
 · rename_i i hi
   have := List.findIdx?_eq_some_iff_getElem.1 hi
   obtain ⟨hk, h2, _⟩ := this
   rw [List.any_eq_true.2 ⟨l[i], List.getElem_mem hk, h2⟩]; exact decide_eq_true (by omega)
 · rename_i hi
   have h3 := List.findIdx?_eq_none_iff.1 hi
   have h4 : l.any K = false := by rw [List.any_eq_false]; intro x hx; rw [h3 x hx]; decide
   rw [h4]; exact decide_eq_false (by omega)
theorem nx_step {α : Type} {K : α → Bool} {l : List α} {k : Nat} {x : α} (h : ∀ i, i < k → ∀ y, l[i]? = some y → K y = false) (hx : l[k]? = some x) (h2 : K x = false) : ∀ i, i < k + 1 → ∀ y, l[i]? = some y → K y = false := fun i hi y hy => by
 by_cases e : i = k
 · subst e; rw [hx] at hy; cases hy; exact h2
 · exact h i (by omega) y hy
theorem nx_0 {α : Type} {K : α → Bool} {l : List α} : ∀ i, i < 0 → ∀ y, l[i]? = some y → K y = false := fun i h => absurd h (Nat.not_lt_zero _)
theorem any_hit {α : Type} {K : α → Bool} {l : List α} {k : Nat} {x : α} (hx : l[k]? = some x) (h : K x = true) : l.any K = true := List.any_eq_true.2 ⟨x, List.mem_of_getElem? hx, h⟩
theorem any_no {α : Type} {K : α → Bool} {l : List α} {k : Nat} (h : ∀ i, i < k → ∀ y, l[i]? = some y → K y = false) (hk : l.length ≤ k) : l.any K = false := by
 rw [List.any_eq_false]
 intro y hy
 obtain ⟨i, hi, rfl⟩ := List.getElem_of_mem hy
 rw [h i (by omega) _ (List.getElem?_eq_getElem hi)]; decide
/-! ### Rising lists, grids, rules -/
def RisTo (l : List Int) (k : Nat) : Prop := ∀ i, i + 1 < k → l.getD i 0 < l.getD (i + 1) 0
def risB : List Int → Bool
 | a :: b :: l => decide (a < b) && risB (b :: l)
 | _ => true
theorem risB_iff : ∀ {l : List Int}, risB l = true ↔ RisTo l l.length
 | [] => ⟨fun _ i h => by simp at h, fun _ => rfl⟩
 | [a] => ⟨fun _ i h => by simp at h, fun _ => rfl⟩
 | a :: b :: l => by
   rw [risB, Bool.and_eq_true, decide_eq_true_eq, risB_iff]
   constructor
   · rintro ⟨h1, h2⟩ i hi
     match i with
     | 0 => exact h1
     | i + 1 => exact h2 i (by simpa using hi)
   · intro h
     exact ⟨h 0 (by simp), fun i hi => h (i + 1) (by simpa using hi)⟩
section
variable {l : List Int} {k : Nat} {x y : Int}
theorem ris_y (h1 : 1 ≤ k) (hy : l[((k : Int) - 1).toNat]? = some y) : l.getD (k - 1) 0 = y := by
 rw [show ((k : Int) - 1).toNat = k - 1 by omega] at hy
 rw [List.getD_eq_getElem?_getD, hy]; rfl
theorem ris_x (hx : l[k]? = some x) : l.getD k 0 = x := by rw [List.getD_eq_getElem?_getD, hx]; rfl
theorem ris_f (h1 : 1 ≤ k) (hx : l[k]? = some x) (hy : l[((k : Int) - 1).toNat]? = some y) (h : x ≤ y) : false = risB l := by
 have hk : k < l.length := (List.getElem?_eq_some_iff.1 hx).1
 cases hb : risB l with
 | false => rfl
 | true =>
   have := risB_iff.1 hb (k - 1) (by omega)
   rw [ris_y h1 hy, show k - 1 + 1 = k by omega, ris_x hx] at this
   omega
theorem ris_t (h : RisTo l k) (hk : l.length ≤ k) : true = risB l := (risB_iff.2 fun i hi => h i (by omega)).symm
theorem ris_s (h : RisTo l k) (h1 : 1 ≤ k) (hx : l[k]? = some x) (hy : l[((k : Int) - 1).toNat]? = some y) (hlt : y < x) : RisTo l (k + 1) := fun i hi => by
 by_cases e : i + 1 = k
 · obtain rfl : i = k - 1 := by omega
   rw [ris_y h1 hy, show k - 1 + 1 = k by omega, ris_x hx]; exact hlt
 · exact h i (by omega)
theorem ris_1 : RisTo l 1 := fun i hi => by omega
end
def outB (lo hi z : Int) : Bool := !decide (lo ≤ z ∧ z ≤ hi)
section
variable {g : Grid}
end

theorem fr66 : (inFrame Tryz.f66.ntmps (Tryz.f66.body.getD .skip) && Tryz.f66.results.toList.all (resScope Tryz.f66.ntmps)) = true := by kernel_rfl
theorem within (n lo hi : Int) : PCalls Tryz.prog 66 [.int n, .int lo, .int hi] (.bool (decide (lo ≤ n ∧ n ≤ hi))) := by
 refine PCalls.of_code Tryz.func66 rfl rfl (by kernel_rfl) mixed fr66 (by show _ ≤ 15; simp) (.sc _) ?_
 refine pwp_seq_plain rfl fun K1 hK1 => ?_
 refine p_aS rfl ?_
 refine p_end (hK1 _ ?_); clear hK1 K1
 refine pwp_seq_gops rfl fun K2 hK2 => ?_
 refine g_begin ?_
 refine g_mS rfl rfl ?_
 refine g_mS rfl rfl ?_
 refine g_e rfl (e_ge rfl rfl) ?_
 refine g_mS rfl rfl ?_
 refine g_cases (fun hb3 => ?_) (fun hb3 => ?_)
 ·have hb3R := hb3; try simp only [zz] at hb3
  refine g_mS rfl rfl ?_
  refine g_mS rfl rfl ?_
  refine g_e rfl (e_le rfl rfl) ?_
  refine g_pT rfl rfl rfl ?_
  refine g_aS rfl rfl ?_
  refine g_end (ds := [11, 12, 13]) rfl rfl (hK2 _ ?_); clear hK2 K2
  refine pwp_ret ?_
  refine end1 (v := .sc _) rfl ?_
  first
    | exact out_b rfl
    | exact out_b (by rw [Bool.eq_iff_iff]; simp only [decide_eq_true_eq, Bool.false_eq_true, false_iff] <;> omega)
 ·have hb3R := hb3; try simp only [zz] at hb3
  iterate 3 refine g_skip rfl rfl rfl ?_
  refine g_pF rfl rfl rfl ?_
  refine g_aS rfl rfl ?_
  refine g_end (ds := [11, 12, 13]) rfl rfl (hK2 _ ?_); clear hK2 K2
  refine pwp_ret ?_
  refine end1 (v := .sc _) rfl ?_
  first
    | exact out_b rfl
    | exact out_b (by rw [Bool.eq_iff_iff]; simp only [decide_eq_true_eq, Bool.false_eq_true, false_iff] <;> omega)

theorem fr29 : (inFrame Tryz.f29.ntmps (Tryz.f29.body.getD .skip) && Tryz.f29.results.toList.all (resScope Tryz.f29.ntmps)) = true := by kernel_rfl
theorem Within (n lo hi : Int) : PCalls Tryz.prog 29 [.int n, .int lo, .int hi] (.bool (decide (lo ≤ n ∧ n ≤ hi))) := by
 refine PCalls.of_code Tryz.func29 rfl rfl (by kernel_rfl) mixed fr29 (by show _ ≤ 15; simp) (.sc _) ?_
 refine pwp_seq_plain rfl fun K1 hK1 => ?_
 refine p_aS rfl ?_
 refine p_end (hK1 _ ?_); clear hK1 K1
 refine pwp_seq_gops rfl fun K2 hK2 => ?_
 refine g_begin ?_
 refine g_mS rfl rfl ?_
 refine g_mS rfl rfl ?_
 refine g_e rfl (e_ge rfl rfl) ?_
 refine g_mS rfl rfl ?_
 refine g_cases (fun hb3 => ?_) (fun hb3 => ?_)
 ·have hb3R := hb3; try simp only [zz] at hb3
  refine g_mS rfl rfl ?_
  refine g_mS rfl rfl ?_
  refine g_e rfl (e_le rfl rfl) ?_
  refine g_pT rfl rfl rfl ?_
  refine g_aS rfl rfl ?_
  refine g_end (ds := [11, 12, 13]) rfl rfl (hK2 _ ?_); clear hK2 K2
  refine pwp_ret ?_
  refine end1 (v := .sc _) rfl ?_
  first
    | exact out_b rfl
    | exact out_b (by rw [Bool.eq_iff_iff]; simp only [decide_eq_true_eq, Bool.false_eq_true, false_iff] <;> omega)
 ·have hb3R := hb3; try simp only [zz] at hb3
  iterate 3 refine g_skip rfl rfl rfl ?_
  refine g_pF rfl rfl rfl ?_
  refine g_aS rfl rfl ?_
  refine g_end (ds := [11, 12, 13]) rfl rfl (hK2 _ ?_); clear hK2 K2
  refine pwp_ret ?_
  refine end1 (v := .sc _) rfl ?_
  first
    | exact out_b rfl
    | exact out_b (by rw [Bool.eq_iff_iff]; simp only [decide_eq_true_eq, Bool.false_eq_true, false_iff] <;> omega)

end Go.Proofs.YtindehoegfiiaaaGreatDoor
