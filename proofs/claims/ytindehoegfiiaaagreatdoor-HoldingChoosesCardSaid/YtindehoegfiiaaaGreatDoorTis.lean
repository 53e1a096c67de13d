/- Ties, and what is checked. No conditions. -/
import Derived.Test.YtindehoegfiiaaaGreatDoorJak
import Derived.Test.YtindehoegfiiaaaGreatDoorPvGh
set_option linter.unusedSimpArgs false
set_option linter.unusedVariables false
set_option maxRecDepth 100000
namespace Go.Proofs.YtindehoegfiiaaaGreatDoor
open Go Go.Pv
/-! ### Three ways to compare -/
def cpI (a b : Int) : Int := if a < b then -1 else if b < a then 1 else 0
theorem cpI_l {a b : Int} (h : a < b) : -1 = cpI a b := (if_pos h).symm
theorem cpI_g {a b : Int} (h : b < a) : 1 = cpI a b := by rw [cpI, if_neg (by omega), if_pos h]
theorem cpI_e {a b : Int} (h : a = b) : 0 = cpI a b := by rw [cpI, if_neg (by omega), if_neg (by omega)]
def orL : List Int → Int
 | [] => 0
 | x :: l => if x ≠ 0 then x else orL l
theorem orL_hit {l : List Int} {k : Nat} {x : Int} (hx : l[k]? = some x) (h : ∀ i, i < k → ∀ y, l[i]? = some y → decide (y ≠ 0) = false) (h2 : x ≠ 0) : x = orL l := by
 induction l generalizing k with
 | nil => simp at hx
 | cons a l ih =>
   match k, hx, h with
   | 0, hx, _ => simp at hx; subst hx; rw [orL, if_pos h2]
   | k + 1, hx, h =>
     have ha := h 0 (by omega) a rfl
     rw [decide_eq_false_iff_not] at ha
     rw [orL, if_neg ha]
     exact ih (by simpa using hx) fun i hi y hy => h (i + 1) (by omega) y (by simpa using hy)
theorem orL_no {l : List Int} {k : Nat} (h : ∀ i, i < k → ∀ y, l[i]? = some y → decide (y ≠ 0) = false) (h2 : l.length ≤ k) : 0 = orL l := by
 induction l generalizing k with
 | nil => rfl
 | cons a l ih =>
   have ha := h 0 (by simp at h2; omega) a rfl
   rw [decide_eq_false_iff_not] at ha
   rw [orL, if_neg ha]
   exact ih (k := k - 1) (fun i hi y hy => h (i + 1) (by omega) y (by simpa using hy)) (by simp at h2; omega)
/-! ### Ties in their order -/
abbrev TLt (a b : Tie) : Prop := a.standard < b.standard ∨ a.standard = b.standard ∧ a.level < b.level
def TsTo (l : List Tie) (k : Nat) : Prop := ∀ i, i + 1 < k → TLt (l.getD i default) (l.getD (i + 1) default)
def tsB : List Tie → Bool
 | a :: b :: l => decide (TLt a b) && tsB (b :: l)
 | _ => true
theorem tsB_iff : ∀ {l : List Tie}, tsB l = true ↔ TsTo l l.length
 | [] => ⟨fun _ i h => by simp at h, fun _ => rfl⟩
 | [a] => ⟨fun _ i h => by simp at h, fun _ => rfl⟩
 | a :: b :: l => by
   rw [tsB, Bool.and_eq_true, decide_eq_true_eq, tsB_iff]
   constructor
   · rintro ⟨h1, h2⟩ i hi
     match i with
     | 0 => exact h1
     | i + 1 => exact h2 i (by simpa using hi)
   · intro h
     exact ⟨h 0 (by simp), fun i hi => h (i + 1) (by simpa using hi)⟩
def tiB (m n : Nat) (t : Tie) : Bool := !decide ((0 ≤ t.standard ∧ t.standard ≤ (m : Int) - 1) ∧ (0 ≤ t.level ∧ t.level ≤ (n : Int) - 1))
def tiesE (g : Grid) (l : List Tie) : Int :=
 if 1800 < (l.length : Int) then 8 else if l.any (tiB g.along.length g.levels.length) = true then 6 else if tsB l = false then 10 else 0
section
variable {l : List Tie} {k : Nat} {x y : Tie} {g : Grid}
theorem ts_y (h1 : 1 ≤ k) (hy : l[((k : Int) - 1).toNat]? = some y) : l.getD (k - 1) default = y := by
 rw [show ((k : Int) - 1).toNat = k - 1 by omega] at hy
 rw [List.getD_eq_getElem?_getD, hy]; rfl
theorem ts_x (hx : l[k]? = some x) : l.getD k default = x := by rw [List.getD_eq_getElem?_getD, hx]; rfl
theorem ts_f (h1 : 1 ≤ k) (hx : l[k]? = some x) (hy : l[((k : Int) - 1).toNat]? = some y) (h : ¬ TLt y x) : tsB l = false := by
 have hk : k < l.length := (List.getElem?_eq_some_iff.1 hx).1
 cases hb : tsB l with
 | false => rfl
 | true =>
   have := tsB_iff.1 hb (k - 1) (by omega)
   rw [ts_y h1 hy, show k - 1 + 1 = k by omega, ts_x hx] at this
   exact absurd this h
theorem ts_t (h : TsTo l k) (hk : l.length ≤ k) : tsB l = true := tsB_iff.2 fun i hi => h i (by omega)
theorem ts_s (h : TsTo l k) (h1 : 1 ≤ k) (hx : l[k]? = some x) (hy : l[((k : Int) - 1).toNat]? = some y) (hlt : TLt y x) : TsTo l (k + 1) := fun i hi => by
 by_cases e : i + 1 = k
 · obtain rfl : i = k - 1 := by omega
   rw [ts_y h1 hy, show k - 1 + 1 = k by omega, ts_x hx]; exact hlt
 · exact h i (by omega)
theorem ts_1 : TsTo l 1 := fun i hi => by omega
theorem tiE_8 (h : 1800 < (l.length : Int)) : 8 = tiesE g l := (if_pos h).symm
theorem tiE_6 (h : (l.length : Int) ≤ 1800) (h1 : l.any (tiB g.along.length g.levels.length) = true) : 6 = tiesE g l := by
 rw [tiesE, if_neg (by omega), if_pos h1]
theorem tiE_10 (h : (l.length : Int) ≤ 1800) (h1 : l.any (tiB g.along.length g.levels.length) = false) (h2 : tsB l = false) : 10 = tiesE g l := by
 rw [tiesE, if_neg (by omega), if_neg (by rw [h1]; decide), if_pos h2]
theorem tiE_0 (h : (l.length : Int) ≤ 1800) (h1 : l.any (tiB g.along.length g.levels.length) = false) (h2 : tsB l = true) : 0 = tiesE g l := by
 rw [tiesE, if_neg (by omega), if_neg (by rw [h1]; decide), if_neg (by rw [h2]; decide)]
theorem tiE_inv (h : tiesE g l = 0) : (l.length : Int) ≤ 1800 ∧ l.any (tiB g.along.length g.levels.length) = false ∧ tsB l = true := by
 by_cases h1 : 1800 < (l.length : Int)
 · rw [← tiE_8 h1] at h; cases h
 · cases h2 : l.any (tiB g.along.length g.levels.length) with
   | true => rw [← tiE_6 (by omega) h2] at h; cases h
   | false =>
     cases h3 : tsB l with
     | false => rw [← tiE_10 (by omega) h2 h3] at h; cases h
     | true => exact ⟨by omega, rfl, rfl⟩
theorem ti_at (h : tiesE g l = 0) (hx : l[k]? = some x) : (0 ≤ x.standard ∧ x.standard ≤ (g.along.length : Int) - 1) ∧ (0 ≤ x.level ∧ x.level ≤ (g.levels.length : Int) - 1) := by
 have := (tiE_inv h).2.1
 rw [List.any_eq_false] at this
 have q := this x (List.mem_of_getElem? hx)
 rw [tiB, Bool.not_eq_true, Bool.not_eq_false', decide_eq_true_eq] at q
 exact q
end
def cmpT (a b : Tie) : Int := orL [cpI a.standard b.standard, cpI a.level b.level]
theorem cmpT_lt {a b : Tie} : cmpT a b < 0 ↔ TLt a b := by
 rw [cmpT, orL, orL, orL, cpI, cpI, TLt]
 split <;> split <;> (try split) <;> (try split) <;> omega
def allE (g : Grid) (r : Rule) (l : List Tie) : Int := if gridE g ≠ 0 then gridE g else if ruleE r ≠ 0 then ruleE r else tiesE g l
def fewB (g : Grid) : Bool := decide (g.along.length ≤ 100 ∧ g.levels.length ≤ 100 ∧ (g.along.length ≤ 6 ∧ g.levels.length ≤ 6 ∨ gridE g ≠ 0))
theorem allE_c (g : Grid) (r : Rule) (l : List Tie) : (gridE g ≠ 0 ∧ allE g r l = gridE g) ∨ (gridE g = 0 ∧ ruleE r ≠ 0 ∧ allE g r l = ruleE r) ∨ (gridE g = 0 ∧ ruleE r = 0 ∧ allE g r l = tiesE g l) := by
 by_cases h : gridE g = 0
 · by_cases h2 : ruleE r = 0
   · exact .inr (.inr ⟨h, h2, by rw [allE, if_neg (fun q => q h), if_neg (fun q => q h2)]⟩)
   · exact .inr (.inl ⟨h, h2, by rw [allE, if_neg (fun q => q h), if_pos h2]⟩)
 · exact .inl ⟨h, by rw [allE, if_pos h]⟩
theorem few_c (g : Grid) : (fewB g = true ∧ g.along.length ≤ 100 ∧ g.levels.length ≤ 100 ∧ (g.along.length ≤ 6 ∧ g.levels.length ≤ 6 ∨ gridE g ≠ 0)) ∨ (fewB g = false ∧ ¬ (g.along.length ≤ 100 ∧ g.levels.length ≤ 100 ∧ (g.along.length ≤ 6 ∧ g.levels.length ≤ 6 ∨ gridE g ≠ 0))) := by
 by_cases h : g.along.length ≤ 100 ∧ g.levels.length ≤ 100 ∧ (g.along.length ≤ 6 ∧ g.levels.length ≤ 6 ∨ gridE g ≠ 0)
 · exact .inl ⟨decide_eq_true h, h⟩
 · exact .inr ⟨decide_eq_false h, h⟩

theorem fr166 : (inFrame Tryz.f166.ntmps (Tryz.f166.body.getD .skip) && Tryz.f166.results.toList.all (resScope Tryz.f166.ntmps)) = true := by kernel_rfl
theorem isNaNC (a : Int) : PCalls Tryz.prog 166 [.int a] (.bool false) := by
 refine PCalls.of_code Tryz.func166 rfl rfl (by kernel_rfl) mixed fr166 (by show _ ≤ 6; simp) (.sc _) ?_
 refine pwp_seq_plain rfl fun K1 hK1 => ?_
 refine p_aS rfl ?_
 refine p_end (hK1 _ ?_); clear hK1 K1
 refine pwp_seq_plain rfl fun K2 hK2 => ?_
 refine p_mS rfl ?_
 refine p_mS rfl ?_
 refine p_e rfl (e_ne rfl rfl) ?_
 refine p_aS rfl ?_
 refine p_end (hK2 _ ?_); clear hK2 K2
 refine pwp_ret ?_
 refine end1 (v := .sc _) rfl ?_
 exact out_b (by simp)

theorem fr144 : (inFrame Tryz.f144.ntmps (Tryz.f144.body.getD .skip) && Tryz.f144.results.toList.all (resScope Tryz.f144.ntmps)) = true := by kernel_rfl
theorem CompareC (a b : Int) : PCalls Tryz.prog 144 [.int a, .int b] (.int (cpI a b)) := by
 refine PCalls.of_code Tryz.func144 rfl rfl (by kernel_rfl) mixed fr144 (by show _ ≤ 20; simp) (.sc _) ?_
 refine pwp_seq_plain rfl fun K1 hK1 => ?_
 refine p_aS rfl ?_
 refine p_end (hK1 _ ?_); clear hK1 K1
 refine pwp_seq_plain rfl fun K2 hK2 => ?_
 refine p_mS rfl ?_
 refine p_call rfl (.cons inn_sc .nil) (isNaNC _) ?_
 refine p_aS rfl ?_
 refine p_end (hK2 _ ?_); clear hK2 K2
 refine pwp_seq_plain rfl fun K3 hK3 => ?_
 refine p_mS rfl ?_
 refine p_call rfl (.cons inn_sc .nil) (isNaNC _) ?_
 refine p_aS rfl ?_
 refine p_end (hK3 _ ?_); clear hK3 K3
 refine pwp_seq_seq ?_
 refine pwp_seq_plain rfl fun K4 hK4 => ?_
 refine p_mS rfl ?_
 refine p_end (hK4 _ ?_); clear hK4 K4
 refine pwp_seq_cond rfl fun K5 hK5 => ⟨fun hb6 => ?_, fun hb6 => ?_⟩
 ·have hb6R := hb6; try simp only [zz] at hb6
  refine pwp_seq_seq ?_
  refine pwp_seq_plain rfl fun K7 hK7 => ?_
  refine p_mS rfl ?_
  refine p_end (hK7 _ ?_); clear hK7 K7
  refine pwp_seq_cond rfl fun K8 hK8 => ⟨fun hb9 => ?_, fun hb9 => ?_⟩
  ·have hb9R := hb9; try simp only [zz] at hb9
   refine pwp_seq_plain rfl fun K10 hK10 => ?_
   refine p_aS rfl ?_
   refine p_end (hK10 _ ?_); clear hK10 K10
   refine pwp_ret ?_
   refine ret_seq ?_
   refine ret_seq ?_
   refine end1 (v := .sc _) rfl ?_
   first
     | exact out_i (cpI_l (by omega))
     | exact out_i (cpI_g (by omega))
     | exact out_i (cpI_e (by omega))
     | (exfalso; simp_all; done)
  ·have hb9R := hb9; try simp only [zz] at hb9
   refine pwp_skip ?_
   refine seq_norm (hK8 _ ?_); clear hK8 K8
   refine pwp_seq_plain rfl fun K11 hK11 => ?_
   refine p_aS rfl ?_
   refine p_end (hK11 _ ?_); clear hK11 K11
   refine pwp_ret ?_
   refine ret_seq ?_
   refine end1 (v := .sc _) rfl ?_
   first
     | exact out_i (cpI_l (by omega))
     | exact out_i (cpI_g (by omega))
     | exact out_i (cpI_e (by omega))
     | (exfalso; simp_all; done)
 ·have hb6R := hb6; try simp only [zz] at hb6
  refine pwp_skip ?_
  refine seq_norm (hK5 _ ?_); clear hK5 K5
  refine pwp_seq_seq ?_
  refine pwp_seq_plain rfl fun K12 hK12 => ?_
  refine p_mS rfl ?_
  refine p_end (hK12 _ ?_); clear hK12 K12
  refine pwp_seq_cond rfl fun K13 hK13 => ⟨fun hb14 => ?_, fun hb14 => ?_⟩
  ·have hb14R := hb14; try simp only [zz] at hb14
   refine pwp_seq_plain rfl fun K15 hK15 => ?_
   refine p_aS rfl ?_
   refine p_end (hK15 _ ?_); clear hK15 K15
   refine pwp_ret ?_
   refine ret_seq ?_
   refine end1 (v := .sc _) rfl ?_
   first
     | exact out_i (cpI_l (by omega))
     | exact out_i (cpI_g (by omega))
     | exact out_i (cpI_e (by omega))
     | (exfalso; simp_all; done)
  ·have hb14R := hb14; try simp only [zz] at hb14
   refine pwp_skip ?_
   refine seq_norm (hK13 _ ?_); clear hK13 K13
   refine pwp_seq_seq ?_
   refine pwp_seq_plain rfl fun K16 hK16 => ?_
   refine p_mS rfl ?_
   refine p_mS rfl ?_
   refine p_e rfl (e_lt rfl rfl) ?_
   refine p_end (hK16 _ ?_); clear hK16 K16
   refine pwp_seq_cond rfl fun K17 hK17 => ⟨fun hb18 => ?_, fun hb18 => ?_⟩
   ·have hb18R := hb18; try simp only [zz] at hb18
    refine pwp_seq_plain rfl fun K19 hK19 => ?_
    refine p_aS rfl ?_
    refine p_end (hK19 _ ?_); clear hK19 K19
    refine pwp_ret ?_
    refine ret_seq ?_
    refine end1 (v := .sc _) rfl ?_
    first
      | exact out_i (cpI_l (by omega))
      | exact out_i (cpI_g (by omega))
      | exact out_i (cpI_e (by omega))
      | (exfalso; simp_all; done)
   ·have hb18R := hb18; try simp only [zz] at hb18
    refine pwp_skip ?_
    refine seq_norm (hK17 _ ?_); clear hK17 K17
    refine pwp_seq_seq ?_
    refine pwp_seq_plain rfl fun K20 hK20 => ?_
    refine p_mS rfl ?_
    refine p_mS rfl ?_
    refine p_e rfl (e_gt rfl rfl) ?_
    refine p_end (hK20 _ ?_); clear hK20 K20
    refine pwp_seq_cond rfl fun K21 hK21 => ⟨fun hb22 => ?_, fun hb22 => ?_⟩
    ·have hb22R := hb22; try simp only [zz] at hb22
     refine pwp_seq_plain rfl fun K23 hK23 => ?_
     refine p_aS rfl ?_
     refine p_end (hK23 _ ?_); clear hK23 K23
     refine pwp_ret ?_
     refine ret_seq ?_
     refine end1 (v := .sc _) rfl ?_
     first
       | exact out_i (cpI_l (by omega))
       | exact out_i (cpI_g (by omega))
       | exact out_i (cpI_e (by omega))
       | (exfalso; simp_all; done)
    ·have hb22R := hb22; try simp only [zz] at hb22
     refine pwp_skip ?_
     refine seq_norm (hK21 _ ?_); clear hK21 K21
     refine pwp_seq_plain rfl fun K24 hK24 => ?_
     refine p_aS rfl ?_
     refine p_end (hK24 _ ?_); clear hK24 K24
     refine pwp_ret ?_
     refine end1 (v := .sc _) rfl ?_
     first
       | exact out_i (cpI_l (by omega))
       | exact out_i (cpI_g (by omega))
       | exact out_i (cpI_e (by omega))
       | (exfalso; simp_all; done)

theorem fr143 : (inFrame Tryz.f143.ntmps (Tryz.f143.body.getD .skip) && Tryz.f143.results.toList.all (resScope Tryz.f143.ntmps)) = true := by kernel_rfl
theorem OrC (t : Bool) (xs : List Int) (hl : xs.length ≤ 1000000) : PCalls Tryz.prog 143 [.lit t 1 (xs.map ci)] (.int (orL xs)) := by
 refine PCalls.of_code Tryz.func143 rfl rfl (by kernel_rfl) mixed fr143 (by show _ ≤ 18; simp) (.sc _) ?_
 refine pwp_seq_plain rfl fun K1 hK1 => ?_
 refine p_aS rfl ?_
 refine p_end (hK1 _ ?_); clear hK1 K1
 refine pwp_seq_plain rfl fun K2 hK2 => ?_
 refine p_aS rfl ?_
 refine p_end (hK2 _ ?_); clear hK2 K2
 refine pwp_seq_seq ?_
 refine pwp_seq_plain rfl fun K3 hK3 => ?_
 refine p_e rfl (e_move (v := .lit _ _ _) rfl) ?_
 refine p_e rfl (e_len rfl (by kernel_rfl)) ?_
 refine p_mS rfl ?_
 refine p_end (hK3 _ ?_); clear hK3 K3
 refine pwp_seq_block fun K4 hK4 => ?_
 refine pwp_loopR (α := Nat) [3, 6, 7] (fun (k : Nat) => [(8, .int (k))]) (fun (k : Nat) (h : Heap) (_ : Nat → Nat) => ((k) ≤ xs.length) ∧ (∀ i, i < (k) → ∀ y, xs[i]? = some y → decide (y ≠ 0) = false)) (fun (k : Nat) => xs.length - (k)) (0) (by exact ⟨rfl, trivial⟩) (by exact ⟨by exact Nat.zero_le _, by exact nx_0 (K := fun y => decide (y ≠ 0))⟩) fun k r5 h6 c7 hj8 => ?_
 obtain ⟨hk, hin⟩ := hj8
 try dsimp only at hk
 try dsimp only at hin
 show pwp _ _ (loopQ _ _ _) ⟨sets (mix _ _ _) [(8, .int k)], _, _⟩
 refine pwp_seq_plain rfl fun K9 hK9 => ?_
 refine p_e rfl (e_lt rfl rfl) ?_
 refine p_end (hK9 _ ?_); clear hK9 K9
 refine pwp_seq_cond rfl fun K10 hK10 => ⟨fun hb11 => ?_, fun hb11 => ?_⟩
 ·have hb11R := hb11; try simp only [zz] at hb11
  obtain ⟨x, hx, hd, ht⟩ := get_lt (xs := xs) (i := k) (by omega)
  refine pwp_skip ?_
  refine seq_norm (hK10 _ ?_); clear hK10 K10
  refine pwp_seq_block fun K12 hK12 => ?_
  refine pwp_seq_plain rfl fun K13 hK13 => ?_
  refine p_e rfl (e_ixL rfl rfl) ?_
  refine p_e rfl (e_load (v := .sc _) rfl (by kernel_rfl) (by kernel_rfl) (by kernel_rfl) (by first | omega | (simp only [List.length_map]; omega)) (by decide) ((cell_map hx _).trans rfl)) ?_
  refine p_aS rfl ?_
  refine p_end (hK13 _ ?_); clear hK13 K13
  refine pwp_seq_plain rfl fun K14 hK14 => ?_
  refine p_mS rfl ?_
  refine p_mS rfl ?_
  refine p_e rfl (e_ne rfl rfl) ?_
  refine p_end (hK14 _ ?_); clear hK14 K14
  refine pwp_cond rfl (fun hb15 => ?_) (fun hb15 => ?_)
  ·have hb15R := hb15; try simp only [zz] at hb15
   refine pwp_seq_plain rfl fun K16 hK16 => ?_
   refine p_mS rfl ?_
   refine p_aS rfl ?_
   refine p_end (hK16 _ ?_); clear hK16 K16
   refine pwp_ret ?_
   refine ret_block ?_
   refine ret_seq ?_
   refine ret_loop ?_
   refine ret_block ?_
   refine ret_seq ?_
   refine end1 (v := .sc _) rfl ?_
   first
     | exact out_i (orL_hit hx hin (by omega))
     | exact out_i (orL_no hin (by simp only [List.length_map] at *; omega))
  ·have hb15R := hb15; try simp only [zz] at hb15
   refine pwp_skip ?_
   refine block_norm ?_
   refine seq_norm (hK12 _ ?_); clear hK12 K12
   refine pwp_plain rfl fun K17 hK17 => ?_
   refine p_e rfl (e_adL rfl rfl) ?_
   refine p_mS rfl ?_
   refine p_end (hK17 _ ?_); clear hK17 K17
   exact loop_again (k + 1) (by show _ < _; omega) ⟨rfl, rfl, rfl, trivial⟩ ⟨rfl, trivial⟩ (by exact ⟨by show _ + 1 ≤ _; simp only [List.length_map] at *; omega, by exact nx_step (K := fun y => decide (y ≠ 0)) hin hx (decide_eq_false (by omega))⟩)
 ·have hb11R := hb11; try simp only [zz] at hb11
  refine pwp_exit ?_
  refine exit_seq ?_
  clear hK10 K10
  refine exit_loop ?_
  refine exit_here ?_
  refine seq_norm (hK4 _ ?_); clear hK4 K4
  refine pwp_seq_plain rfl fun K18 hK18 => ?_
  refine p_mS rfl ?_
  refine p_aS rfl ?_
  refine p_end (hK18 _ ?_); clear hK18 K18
  refine pwp_ret ?_
  refine end1 (v := .sc _) rfl ?_
  first
    | exact out_i (orL_hit hx hin (by omega))
    | exact out_i (orL_no hin (by simp only [List.length_map] at *; omega))

theorem fr121 : (inFrame Tryz.f121.ntmps (Tryz.f121.body.getD .skip) && Tryz.f121.results.toList.all (resScope Tryz.f121.ntmps)) = true := by kernel_rfl
theorem compareTiesC (a b : Tie) : PCalls Tryz.prog 121 [.agg a.enc, .agg b.enc] (.int (cmpT a b)) := by
 refine PCalls.of_code Tryz.func121 rfl rfl (by kernel_rfl) mixed fr121 (by show _ ≤ 17; simp) (.sc _) ?_
 refine pwp_seq_plain rfl fun K1 hK1 => ?_
 refine p_new rfl (e_box (n := 2) rfl rfl) ⟨rfl, by decide⟩ ?_
 refine p_new rfl (e_box (n := 2) rfl rfl) ⟨rfl, by decide⟩ ?_
 refine p_aS rfl ?_
 refine p_end (hK1 _ ?_); clear hK1 K1
 refine pwp_seq_gops rfl fun K2 hK2 => ?_
 refine s_begin ?_
 refine s_e rfl (e_faQ pl2 rfl) ?_
 refine s_step [2] (by simp) rfl rfl rfl rfl (e_lH (v := .sc _) rfl ((hset_ne (key_ne rfl)).trans (hset_self _ _ _)) rfl) trivial ?_
 refine s_e rfl (e_faQ pl2 rfl) ?_
 refine s_step [3] (by simp) rfl rfl rfl rfl (e_lH (v := .sc _) rfl (hset_self _ _ _) rfl) trivial ?_
 refine s_call (args := [.sc _, .sc _]) [] (by intro k hk; simp [keysOf, Go.Pv.keyOf] at hk; try (subst hk; simp)) rfl rfl rfl rfl (.cons inn_sc (.cons inn_sc .nil)) (CompareC _ _) ?_
 refine s_e rfl (e_faQ pl2 rfl) ?_
 refine s_step [2] (by simp) rfl rfl rfl rfl (e_lH (v := .sc _) rfl ((hset_ne (key_ne rfl)).trans (hset_self _ _ _)) rfl) trivial ?_
 refine s_e rfl (e_faQ pl2 rfl) ?_
 refine s_step [3] (by simp) rfl rfl rfl rfl (e_lH (v := .sc _) rfl (hset_self _ _ _) rfl) trivial ?_
 refine s_call (args := [.sc _, .sc _]) [] (by intro k hk; simp [keysOf, Go.Pv.keyOf] at hk; try (subst hk; simp)) rfl rfl rfl rfl (.cons inn_sc (.cons inn_sc .nil)) (CompareC _ _) ?_
 refine s_new [] (by simp) rfl rfl rfl rfl (e_bslice (rows := [ci (cpI a.standard b.standard), ci (cpI a.level b.level)]) (zs := [.int 0]) (sz := 1) (by kernel_rfl) (by kernel_rfl) rfl (by kernel_rfl) (by decide) rfl rfl (by exact ⟨by decide, rfl, rfl, ⟨by decide, rfl, rfl, trivial⟩⟩) rfl) trivial ?_
 refine s_call (args := [.ref _ _ _ _]) [15] (by intro k hk; simp [keysOf, Go.Pv.keyOf] at hk; try (subst hk; simp)) rfl rfl rfl rfl (.cons (inn_ref (rows := [ci (cpI a.standard b.standard), ci (cpI a.level b.level)]) (hset_self _ _ _) (by simp) rfl (by exact fun row hr => pure_map (xs := [cpI a.standard b.standard, cpI a.level b.level]) ci_pure row hr)) .nil) (OrC _ [cpI a.standard b.standard, cpI a.level b.level] (by simp)) ?_
 refine s_e rfl (e_assign (v := .sc _) rfl) ?_
 refine s_end (ds := []) (by kernel_rfl) (by kernel_rfl) (hK2 _ ?_); clear hK2 K2
 refine pwp_ret ?_
 refine end1 (v := .sc _) rfl ?_
 exact out_i rfl

theorem fr115 : (inFrame Tryz.f115.ntmps (Tryz.f115.body.getD .skip) && Tryz.f115.results.toList.all (resScope Tryz.f115.ntmps)) = true := by kernel_rfl
theorem BeforeC (a b : Tie) : PCalls Tryz.prog 115 [.agg a.enc, .agg b.enc] (.bool (decide (TLt a b))) := by
 refine PCalls.of_code Tryz.func115 rfl rfl (by kernel_rfl) mixed fr115 (by show _ ≤ 24; simp) (.sc _) ?_
 refine pwp_seq_plain rfl fun K1 hK1 => ?_
 refine p_new rfl (e_box (n := 2) rfl rfl) ⟨rfl, by decide⟩ ?_
 refine p_new rfl (e_box (n := 2) rfl rfl) ⟨rfl, by decide⟩ ?_
 refine p_aS rfl ?_
 refine p_end (hK1 _ ?_); clear hK1 K1
 refine pwp_seq_gops rfl fun K2 hK2 => ?_
 refine g_begin ?_
 refine g_e rfl (e_faQ pl2 rfl) ?_
 refine g_e rfl (e_lH (v := .sc _) rfl ((hset_ne (key_ne rfl)).trans (hset_self _ _ _)) rfl) ?_
 refine g_e rfl (e_faQ pl2 rfl) ?_
 refine g_e rfl (e_lH (v := .sc _) rfl (hset_self _ _ _) rfl) ?_
 refine g_e rfl (e_lt rfl rfl) ?_
 refine g_mS rfl rfl ?_
 refine g_cases (fun hb3 => ?_) (fun hb3 => ?_)
 ·have hb3R := hb3; try simp only [zz] at hb3
  iterate 12 refine g_skip rfl rfl rfl ?_
  refine g_pT rfl rfl rfl ?_
  refine g_aS rfl rfl ?_
  refine g_end (ds := [11, 12, 13, 14, 15, 16, 17, 18, 19, 20, 21, 22]) rfl rfl (hK2 _ ?_); clear hK2 K2
  refine pwp_ret ?_
  refine end1 (v := .sc _) rfl ?_
  exact out_b (by rw [Bool.eq_iff_iff]; simp only [decide_eq_true_eq, Bool.false_eq_true, eq_self_iff_true, true_iff, false_iff, iff_true, iff_false, TLt]; omega)
 ·have hb3R := hb3; try simp only [zz] at hb3
  refine g_e rfl (e_faQ pl2 rfl) ?_
  refine g_e rfl (e_lH (v := .sc _) rfl ((hset_ne (key_ne rfl)).trans (hset_self _ _ _)) rfl) ?_
  refine g_e rfl (e_faQ pl2 rfl) ?_
  refine g_e rfl (e_lH (v := .sc _) rfl (hset_self _ _ _) rfl) ?_
  refine g_e rfl (e_eq rfl rfl) ?_
  refine g_mS rfl rfl ?_
  refine g_cases (fun hb4 => ?_) (fun hb4 => ?_)
  ·have hb4R := hb4; try simp only [zz] at hb4
   refine g_e rfl (e_faQ pl2 rfl) ?_
   refine g_e rfl (e_lH (v := .sc _) rfl ((hset_ne (key_ne rfl)).trans (hset_self _ _ _)) rfl) ?_
   refine g_e rfl (e_faQ pl2 rfl) ?_
   refine g_e rfl (e_lH (v := .sc _) rfl (hset_self _ _ _) rfl) ?_
   refine g_e rfl (e_lt rfl rfl) ?_
   refine g_pT rfl rfl rfl ?_
   refine g_pF rfl rfl rfl ?_
   refine g_aS rfl rfl ?_
   refine g_end (ds := [11, 12, 13, 14, 15, 16, 17, 18, 19, 20, 21, 22]) rfl rfl (hK2 _ ?_); clear hK2 K2
   refine pwp_ret ?_
   refine end1 (v := .sc _) rfl ?_
   exact out_b (by rw [Bool.eq_iff_iff]; simp only [decide_eq_true_eq, Bool.false_eq_true, eq_self_iff_true, true_iff, false_iff, iff_true, iff_false, TLt]; omega)
  ·have hb4R := hb4; try simp only [zz] at hb4
   iterate 5 refine g_skip rfl rfl rfl ?_
   refine g_pF rfl rfl rfl ?_
   refine g_pF rfl rfl rfl ?_
   refine g_aS rfl rfl ?_
   refine g_end (ds := [11, 12, 13, 14, 15, 16, 17, 18, 19, 20, 21, 22]) rfl rfl (hK2 _ ?_); clear hK2 K2
   refine pwp_ret ?_
   refine end1 (v := .sc _) rfl ?_
   exact out_b (by rw [Bool.eq_iff_iff]; simp only [decide_eq_true_eq, Bool.false_eq_true, eq_self_iff_true, true_iff, false_iff, iff_true, iff_false, TLt]; omega)

theorem fr86 : (inFrame Tryz.f86.ntmps (Tryz.f86.body.getD .skip) && Tryz.f86.results.toList.all (resScope Tryz.f86.ntmps)) = true := by kernel_rfl
theorem checkTiesC (g : Grid) (l : List Tie) (ha : g.along.length ≤ 100) (hb : g.levels.length ≤ 100) (hl : l.length ≤ 100000) : PCalls Tryz.prog 86 [.agg g.enc, .lit true 2 (l.map Tie.enc)] (.int (tiesE g l)) := by
 refine PCalls.of_code Tryz.func86 rfl rfl (by kernel_rfl) mixed fr86 (by show _ ≤ 53; simp) (.sc _) ?_
 refine pwp_seq_plain rfl fun K1 hK1 => ?_
 refine p_new rfl (e_box (n := 3) rfl rfl) ⟨rfl, by decide⟩ ?_
 refine p_aS rfl ?_
 refine p_end (hK1 _ ?_); clear hK1 K1
 refine pwp_seq_seq ?_
 refine pwp_seq_plain rfl fun K2 hK2 => ?_
 refine p_e rfl (e_move (v := .lit _ _ _) rfl) ?_
 refine p_e rfl (e_len rfl (by kernel_rfl)) ?_
 refine p_e rfl (e_gt rfl rfl) ?_
 refine p_end (hK2 _ ?_); clear hK2 K2
 refine pwp_seq_cond rfl fun K3 hK3 => ⟨fun hb4 => ?_, fun hb4 => ?_⟩
 ·have hb4R := hb4; try simp only [zz] at hb4
  refine pwp_seq_plain rfl fun K5 hK5 => ?_
  refine p_aS rfl ?_
  refine p_end (hK5 _ ?_); clear hK5 K5
  refine pwp_ret ?_
  refine ret_seq ?_
  refine end1 (v := .sc _) rfl ?_
  first
    | exact out_i (tiE_8 (by simp only [List.length_map] at *; omega))
    | exact out_i (tiE_6 (by simp only [List.length_map] at *; omega) (any_hit hx (by rw [tiB, decide_eq_false (by omega)]; rfl)))
    | exact out_i (tiE_10 (by simp only [List.length_map] at *; omega) hat (ts_f hk hx hy (by first | assumption | exact fun q => by have := cmpT_lt.2 q; omega)))
    | exact out_i (tiE_0 (by simp only [List.length_map] at *; omega) hat (ts_t hin (by simp only [List.length_map] at *; omega)))
 ·have hb4R := hb4; try simp only [zz] at hb4
  refine pwp_skip ?_
  refine seq_norm (hK3 _ ?_); clear hK3 K3
  refine pwp_seq_seq ?_
  refine pwp_seq_plain rfl fun K6 hK6 => ?_
  refine p_e rfl (e_move (v := .lit _ _ _) rfl) ?_
  refine p_e rfl (e_len rfl (by kernel_rfl)) ?_
  refine p_mS rfl ?_
  refine p_end (hK6 _ ?_); clear hK6 K6
  refine pwp_seq_block fun K7 hK7 => ?_
  refine pwp_loopR (α := Nat) [1, 2, 11, 12] (fun (k : Nat) => [(13, .int (k))]) (fun (k : Nat) (h : Heap) (_ : Nat → Nat) => ((k) ≤ l.length) ∧ (∀ i, i < (k) → ∀ y, l[i]? = some y → (tiB g.along.length g.levels.length) y = false) ∧ (h (2, 0) = some (.rows 3 [Grid.enc g]))) (fun (k : Nat) => l.length - (k)) (0) (by exact ⟨rfl, trivial⟩) (by exact ⟨by exact Nat.zero_le _, by exact nx_0, (hset_self _ _ _)⟩) fun k r8 h9 c10 hj11 => ?_
  obtain ⟨hk, hin, hihj11_0⟩ := hj11
  try dsimp only at hk
  try dsimp only at hin
  try dsimp only at hihj11_0
  show pwp _ _ (loopQ _ _ _) ⟨sets (mix _ _ _) [(13, .int k)], _, _⟩
  refine pwp_seq_plain rfl fun K12 hK12 => ?_
  refine p_e rfl (e_lt rfl rfl) ?_
  refine p_end (hK12 _ ?_); clear hK12 K12
  refine pwp_seq_cond rfl fun K13 hK13 => ⟨fun hb14 => ?_, fun hb14 => ?_⟩
  ·have hb14R := hb14; try simp only [zz] at hb14
   obtain ⟨x, hx, hd, ht⟩ := get_lt (xs := l) (i := k) (by omega)
   refine pwp_skip ?_
   refine seq_norm (hK13 _ ?_); clear hK13 K13
   refine pwp_seq_block fun K15 hK15 => ?_
   refine pwp_seq_plain rfl fun K16 hK16 => ?_
   refine p_e rfl (e_ixL rfl rfl) ?_
   refine p_e rfl (e_loadA (n := 2) rfl (by kernel_rfl) (by kernel_rfl) (by kernel_rfl) (by first | omega | (simp only [List.length_map]; omega)) (by decide) (by first | exact agg_map hx rfl)) ?_
   refine p_new rfl (e_alloc (cs := [.int 0, .int 0]) (n := 2) (by kernel_rfl) rfl (by decide)) (ob_alloc (by decide)) ?_
   refine p_store rfl (e_storeA rfl (hset_self _ _ _) rfl rfl rfl (by kernel_rfl) rfl (by kernel_rfl)) trivial ?_
   refine p_end (hK16 _ ?_); clear hK16 K16
   refine pwp_seq_gops rfl fun K17 hK17 => ?_
   refine g_begin ?_
   refine g_e rfl (e_faQ pl2 rfl) ?_
   refine g_e rfl (e_lH (v := .sc _) rfl (hset_self _ _ _) rfl) ?_
   refine g_e rfl (e_faQ pl3 rfl) ?_
   refine g_e rfl (e_lH (v := .lit _ _ _) rfl ((hset_ne (key_ne rfl)).trans ((hset_ne (key_ne rfl)).trans hihj11_0)) rfl) ?_
   refine g_e rfl (e_len rfl (by kernel_rfl)) ?_
   refine g_e rfl (e_sub rfl rfl (by first | omega | (simp only [List.length_map] at *; omega))) ?_
   refine g_call rfl rfl rfl rfl (.cons inn_sc (.cons inn_sc (.cons inn_sc .nil))) (within _ _ _) ?_
   refine g_e rfl (e_not rfl) ?_
   refine g_mS rfl rfl ?_
   refine g_cases (fun hb18 => ?_) (fun hb18 => ?_)
   ·have hb18R := hb18; try simp only [zz] at hb18
    iterate 6 refine g_skip rfl rfl rfl ?_
    refine g_nocall rfl rfl rfl ?_
    refine g_skip rfl rfl rfl ?_
    refine g_pT rfl rfl rfl ?_
    refine g_end (ds := [26, 27, 28, 29, 30, 31, 32, 33]) rfl rfl (hK17 _ ?_); clear hK17 K17
    refine pwp_cond (t := true) rfl (fun _ => ?_) nofun
    refine pwp_seq_plain rfl fun K19 hK19 => ?_
    refine p_aS rfl ?_
    refine p_end (hK19 _ ?_); clear hK19 K19
    refine pwp_ret ?_
    refine ret_block ?_
    refine ret_seq ?_
    refine ret_loop ?_
    refine ret_block ?_
    refine ret_seq ?_
    refine end1 (v := .sc _) rfl ?_
    first
      | exact out_i (tiE_8 (by simp only [List.length_map] at *; omega))
      | exact out_i (tiE_6 (by simp only [List.length_map] at *; omega) (any_hit hx (by rw [tiB, decide_eq_false (by omega)]; rfl)))
      | exact out_i (tiE_10 (by simp only [List.length_map] at *; omega) hat (ts_f hk hx hy (by first | assumption | exact fun q => by have := cmpT_lt.2 q; omega)))
      | exact out_i (tiE_0 (by simp only [List.length_map] at *; omega) hat (ts_t hin (by simp only [List.length_map] at *; omega)))
   ·have hb18R := hb18; try simp only [zz] at hb18
    refine g_e rfl (e_faQ pl2 rfl) ?_
    refine g_e rfl (e_lH (v := .sc _) rfl (hset_self _ _ _) rfl) ?_
    refine g_e rfl (e_faQ pl3 rfl) ?_
    refine g_e rfl (e_lH (v := .lit _ _ _) rfl ((hset_ne (key_ne rfl)).trans ((hset_ne (key_ne rfl)).trans hihj11_0)) rfl) ?_
    refine g_e rfl (e_len rfl (by kernel_rfl)) ?_
    refine g_e rfl (e_sub rfl rfl (by first | omega | (simp only [List.length_map] at *; omega))) ?_
    refine g_call rfl rfl rfl rfl (.cons inn_sc (.cons inn_sc (.cons inn_sc .nil))) (within _ _ _) ?_
    refine g_e rfl (e_not rfl) ?_
    refine g_pF rfl rfl rfl ?_
    refine g_end (ds := [26, 27, 28, 29, 30, 31, 32, 33]) rfl rfl (hK17 _ ?_); clear hK17 K17
    refine pwp_cond rfl (fun hb20 => ?_) (fun hb20 => ?_)
    ·have hb20R := hb20; try simp only [zz] at hb20
     refine pwp_seq_plain rfl fun K21 hK21 => ?_
     refine p_aS rfl ?_
     refine p_end (hK21 _ ?_); clear hK21 K21
     refine pwp_ret ?_
     refine ret_block ?_
     refine ret_seq ?_
     refine ret_loop ?_
     refine ret_block ?_
     refine ret_seq ?_
     refine end1 (v := .sc _) rfl ?_
     first
       | exact out_i (tiE_8 (by simp only [List.length_map] at *; omega))
       | exact out_i (tiE_6 (by simp only [List.length_map] at *; omega) (any_hit hx (by rw [tiB, decide_eq_false (by omega)]; rfl)))
       | exact out_i (tiE_10 (by simp only [List.length_map] at *; omega) hat (ts_f hk hx hy (by first | assumption | exact fun q => by have := cmpT_lt.2 q; omega)))
       | exact out_i (tiE_0 (by simp only [List.length_map] at *; omega) hat (ts_t hin (by simp only [List.length_map] at *; omega)))
    ·have hb20R := hb20; try simp only [zz] at hb20
     refine pwp_skip ?_
     refine block_norm ?_
     refine seq_norm (hK15 _ ?_); clear hK15 K15
     refine pwp_plain rfl fun K22 hK22 => ?_
     refine p_e rfl (e_adL rfl rfl) ?_
     refine p_mS rfl ?_
     refine p_end (hK22 _ ?_); clear hK22 K22
     exact loop_again (k + 1) (by show _ < _; omega) ⟨rfl, rfl, rfl, rfl, trivial⟩ ⟨rfl, trivial⟩ (by exact ⟨by show _ + 1 ≤ _; simp only [List.length_map] at *; omega, by exact nx_step (K := tiB g.along.length g.levels.length) hin hx (by rw [tiB, decide_eq_true (by omega)]; rfl), ((hset_ne (key_ne rfl)).trans ((hset_ne (key_ne rfl)).trans hihj11_0))⟩)
  ·have hb14R := hb14; try simp only [zz] at hb14
   have hat : l.any (tiB g.along.length g.levels.length) = false := any_no hin (by simp only [List.length_map] at *; omega)
   refine pwp_exit ?_
   refine exit_seq ?_
   clear hK13 K13
   refine exit_loop ?_
   refine exit_here ?_
   refine seq_norm (hK7 _ ?_); clear hK7 K7
   refine pwp_seq_seq ?_
   refine pwp_seq_plain rfl fun K23 hK23 => ?_
   refine p_aS rfl ?_
   refine p_end (hK23 _ ?_); clear hK23 K23
   refine pwp_seq_block fun K24 hK24 => ?_
   refine pwp_loopR (α := Nat) [1] (fun (k : Nat) => [(7, .int (k))]) (fun (k : Nat) (h : Heap) (_ : Nat → Nat) => (1 ≤ (k)) ∧ (TsTo l (k))) (fun (k : Nat) => l.length - (k)) (1) (by exact ⟨rfl, trivial⟩) (by exact ⟨by exact Nat.le_refl _, by exact ts_1⟩) fun k r25 h26 c27 hj28 => ?_
   obtain ⟨hk, hin⟩ := hj28
   try dsimp only at hk
   try dsimp only at hin
   show pwp _ _ (loopQ _ _ _) ⟨sets (mix _ _ _) [(7, .int k)], _, _⟩
   refine pwp_seq_seq ?_
   refine pwp_seq_plain rfl fun K29 hK29 => ?_
   refine p_mS rfl ?_
   refine p_e rfl (e_move (v := .lit _ _ _) rfl) ?_
   refine p_e rfl (e_len rfl (by kernel_rfl)) ?_
   refine p_e rfl (e_lt rfl rfl) ?_
   refine p_end (hK29 _ ?_); clear hK29 K29
   refine pwp_seq_cond rfl fun K30 hK30 => ⟨fun hb31 => ?_, fun hb31 => ?_⟩
   ·have hb31R := hb31; try simp only [zz] at hb31
    obtain ⟨x, hx, hd, ht⟩ := get_lt (xs := l) (i := k) (by omega)
    obtain ⟨y, hy⟩ : ∃ y, l[((k : Int) - 1).toNat]? = some y := ⟨_, List.getElem?_eq_getElem (by omega)⟩
    refine pwp_skip ?_
    refine seq_norm (hK30 _ ?_); clear hK30 K30
    refine pwp_seq_block fun K32 hK32 => ?_
    refine pwp_seq_gops rfl fun K33 hK33 => ?_
    refine g_begin ?_
    refine g_e rfl (e_move (v := .lit _ _ _) rfl) ?_
    refine g_mS rfl rfl ?_
    refine g_e rfl (e_sub rfl rfl (by first | omega | (simp only [List.length_map] at *; omega))) ?_
    refine g_e rfl (e_ixL rfl rfl) ?_
    refine g_e rfl (e_loadA (n := 2) rfl (by kernel_rfl) (by kernel_rfl) (by kernel_rfl) (by first | omega | (simp only [List.length_map]; omega)) (by decide) (by first | exact agg_map hy rfl)) ?_
    refine g_e rfl (e_move (v := .lit _ _ _) rfl) ?_
    refine g_mS rfl rfl ?_
    refine g_e rfl (e_ixL rfl rfl) ?_
    refine g_e rfl (e_loadA (n := 2) rfl (by kernel_rfl) (by kernel_rfl) (by kernel_rfl) (by first | omega | (simp only [List.length_map]; omega)) (by decide) (by first | exact agg_map hx rfl)) ?_
    refine g_call rfl rfl rfl rfl (.cons (inn_agg (Tie.pure _)) (.cons (inn_agg (Tie.pure _)) .nil)) (compareTiesC _ _) ?_
    refine g_e rfl (e_ge rfl rfl) ?_
    refine g_end (ds := []) (by kernel_rfl) rfl (hK33 _ ?_); clear hK33 K33
    refine pwp_cond rfl (fun hb34 => ?_) (fun hb34 => ?_)
    ·have hb34R := hb34; try simp only [zz] at hb34
     refine pwp_seq_plain rfl fun K35 hK35 => ?_
     refine p_aS rfl ?_
     refine p_end (hK35 _ ?_); clear hK35 K35
     refine pwp_ret ?_
     refine ret_block ?_
     refine ret_seq ?_
     refine ret_loop ?_
     refine ret_block ?_
     refine ret_seq ?_
     refine end1 (v := .sc _) rfl ?_
     first
       | exact out_i (tiE_8 (by simp only [List.length_map] at *; omega))
       | exact out_i (tiE_6 (by simp only [List.length_map] at *; omega) (any_hit hx (by rw [tiB, decide_eq_false (by omega)]; rfl)))
       | exact out_i (tiE_10 (by simp only [List.length_map] at *; omega) hat (ts_f hk hx hy (by first | assumption | exact fun q => by have := cmpT_lt.2 q; omega)))
       | exact out_i (tiE_0 (by simp only [List.length_map] at *; omega) hat (ts_t hin (by simp only [List.length_map] at *; omega)))
    ·have hb34R := hb34; try simp only [zz] at hb34
     refine pwp_skip ?_
     refine block_norm ?_
     refine seq_norm (hK32 _ ?_); clear hK32 K32
     refine pwp_plain rfl fun K36 hK36 => ?_
     refine p_mS rfl ?_
     refine p_e rfl (e_adL rfl rfl) ?_
     refine p_aS rfl ?_
     refine p_end (hK36 _ ?_); clear hK36 K36
     exact loop_again (k + 1) (by show _ < _; omega) ⟨rfl, trivial⟩ ⟨rfl, trivial⟩ (by exact ⟨by show 1 ≤ _ + 1; omega, by exact ts_s hin hk hx hy (by first | assumption | exact cmpT_lt.1 (by omega))⟩)
   ·have hb31R := hb31; try simp only [zz] at hb31
    refine pwp_exit ?_
    refine exit_seq ?_
    clear hK30 K30
    refine exit_loop ?_
    refine exit_here ?_
    refine seq_norm (hK24 _ ?_); clear hK24 K24
    refine pwp_seq_plain rfl fun K37 hK37 => ?_
    refine p_aS rfl ?_
    refine p_end (hK37 _ ?_); clear hK37 K37
    refine pwp_ret ?_
    refine end1 (v := .sc _) rfl ?_
    first
      | exact out_i (tiE_8 (by simp only [List.length_map] at *; omega))
      | exact out_i (tiE_6 (by simp only [List.length_map] at *; omega) (any_hit hx (by rw [tiB, decide_eq_false (by omega)]; rfl)))
      | exact out_i (tiE_10 (by simp only [List.length_map] at *; omega) hat (ts_f hk hx hy (by first | assumption | exact fun q => by have := cmpT_lt.2 q; omega)))
      | exact out_i (tiE_0 (by simp only [List.length_map] at *; omega) hat (ts_t hin (by simp only [List.length_map] at *; omega)))

theorem fr76 : (inFrame Tryz.f76.ntmps (Tryz.f76.body.getD .skip) && Tryz.f76.results.toList.all (resScope Tryz.f76.ntmps)) = true := by kernel_rfl
theorem refTiesC (g : Grid) (l : List Tie) (ha : g.along.length ≤ 100) (hb : g.levels.length ≤ 100) (hl : l.length ≤ 100000) : PCalls Tryz.prog 76 [.agg g.enc, .lit true 2 (l.map Tie.enc)] (.int (tiesE g l)) := by
 refine PCalls.of_code Tryz.func76 rfl rfl (by kernel_rfl) mixed fr76 (by show _ ≤ 57; simp) (.sc _) ?_
 refine pwp_seq_plain rfl fun K1 hK1 => ?_
 refine p_new rfl (e_box (n := 3) rfl rfl) ⟨rfl, by decide⟩ ?_
 refine p_aS rfl ?_
 refine p_end (hK1 _ ?_); clear hK1 K1
 refine pwp_seq_seq ?_
 refine pwp_seq_plain rfl fun K2 hK2 => ?_
 refine p_e rfl (e_move (v := .lit _ _ _) rfl) ?_
 refine p_e rfl (e_len rfl (by kernel_rfl)) ?_
 refine p_e rfl (e_gt rfl rfl) ?_
 refine p_end (hK2 _ ?_); clear hK2 K2
 refine pwp_seq_cond rfl fun K3 hK3 => ⟨fun hb4 => ?_, fun hb4 => ?_⟩
 ·have hb4R := hb4; try simp only [zz] at hb4
  refine pwp_seq_plain rfl fun K5 hK5 => ?_
  refine p_aS rfl ?_
  refine p_end (hK5 _ ?_); clear hK5 K5
  refine pwp_ret ?_
  refine ret_seq ?_
  refine end1 (v := .sc _) rfl ?_
  first
    | exact out_i (tiE_8 (by simp only [List.length_map] at *; omega))
    | exact out_i (tiE_6 (by simp only [List.length_map] at *; omega) (any_hit hx (by rw [tiB, decide_eq_false (by omega)]; rfl)))
    | exact out_i (tiE_10 (by simp only [List.length_map] at *; omega) hat (ts_f hk hx hy (by first | assumption | exact fun q => by have := cmpT_lt.2 q; omega)))
    | exact out_i (tiE_0 (by simp only [List.length_map] at *; omega) hat (ts_t hin (by simp only [List.length_map] at *; omega)))
 ·have hb4R := hb4; try simp only [zz] at hb4
  refine pwp_skip ?_
  refine seq_norm (hK3 _ ?_); clear hK3 K3
  refine pwp_seq_seq ?_
  refine pwp_seq_plain rfl fun K6 hK6 => ?_
  refine p_aS rfl ?_
  refine p_end (hK6 _ ?_); clear hK6 K6
  refine pwp_seq_block fun K7 hK7 => ?_
  refine pwp_loopR (α := Nat) [1, 2] (fun (k : Nat) => [(5, .int (k))]) (fun (k : Nat) (h : Heap) (_ : Nat → Nat) => ((k) ≤ l.length) ∧ (∀ i, i < (k) → ∀ y, l[i]? = some y → (tiB g.along.length g.levels.length) y = false) ∧ (h (2, 0) = some (.rows 3 [Grid.enc g]))) (fun (k : Nat) => l.length - (k)) (0) (by exact ⟨rfl, trivial⟩) (by exact ⟨by exact Nat.zero_le _, by exact nx_0, (hset_self _ _ _)⟩) fun k r8 h9 c10 hj11 => ?_
  obtain ⟨hk, hin, hihj11_0⟩ := hj11
  try dsimp only at hk
  try dsimp only at hin
  try dsimp only at hihj11_0
  show pwp _ _ (loopQ _ _ _) ⟨sets (mix _ _ _) [(5, .int k)], _, _⟩
  refine pwp_seq_seq ?_
  refine pwp_seq_plain rfl fun K12 hK12 => ?_
  refine p_mS rfl ?_
  refine p_e rfl (e_move (v := .lit _ _ _) rfl) ?_
  refine p_e rfl (e_len rfl (by kernel_rfl)) ?_
  refine p_e rfl (e_lt rfl rfl) ?_
  refine p_end (hK12 _ ?_); clear hK12 K12
  refine pwp_seq_cond rfl fun K13 hK13 => ⟨fun hb14 => ?_, fun hb14 => ?_⟩
  ·have hb14R := hb14; try simp only [zz] at hb14
   obtain ⟨x, hx, hd, ht⟩ := get_lt (xs := l) (i := k) (by omega)
   refine pwp_skip ?_
   refine seq_norm (hK13 _ ?_); clear hK13 K13
   refine pwp_seq_block fun K15 hK15 => ?_
   refine pwp_seq_gops rfl fun K16 hK16 => ?_
   refine g_begin ?_
   refine g_e rfl (e_move (v := .lit _ _ _) rfl) ?_
   refine g_mS rfl rfl ?_
   refine g_e rfl (e_ixL rfl rfl) ?_
   refine g_e rfl (e_fb pl2 rfl) ?_
   refine g_e rfl (e_load (v := .sc _) rfl (by kernel_rfl) (by kernel_rfl) (by kernel_rfl) (by first | omega | (simp only [List.length_map]; omega)) (by decide) ((cell_map hx _).trans rfl)) ?_
   refine g_e rfl (e_faQ pl3 rfl) ?_
   refine g_e rfl (e_lH (v := .lit _ _ _) rfl hihj11_0 rfl) ?_
   refine g_e rfl (e_len rfl (by kernel_rfl)) ?_
   refine g_e rfl (e_sub rfl rfl (by first | omega | (simp only [List.length_map] at *; omega))) ?_
   refine g_call rfl rfl rfl rfl (.cons inn_sc (.cons inn_sc (.cons inn_sc .nil))) (Within _ _ _) ?_
   refine g_e rfl (e_not rfl) ?_
   refine g_mS rfl rfl ?_
   refine g_cases (fun hb17 => ?_) (fun hb17 => ?_)
   ·have hb17R := hb17; try simp only [zz] at hb17
    iterate 9 refine g_skip rfl rfl rfl ?_
    refine g_nocall rfl rfl rfl ?_
    refine g_skip rfl rfl rfl ?_
    refine g_pT rfl rfl rfl ?_
    refine g_endR (ds := [28, 29, 30, 31, 32, 33, 34, 35, 36, 37, 38]) [0, 0, 3, 7, 15, 0, 32, 96, 224, 511, 1023, 2047, 4095, 4095, 16383, 32767, 65535, 4095, 135167, 397311, 921599, 2097151, 4194303, 8388607] (by kernel_rfl) rfl (hK16 _ ?_); clear hK16 K16
    refine pwp_cond (t := true) rfl (fun _ => ?_) nofun
    refine pwp_seq_plain rfl fun K18 hK18 => ?_
    refine p_aS rfl ?_
    refine p_end (hK18 _ ?_); clear hK18 K18
    refine pwp_ret ?_
    refine ret_block ?_
    refine ret_seq ?_
    refine ret_loop ?_
    refine ret_block ?_
    refine ret_seq ?_
    refine end1 (v := .sc _) rfl ?_
    first
      | exact out_i (tiE_8 (by simp only [List.length_map] at *; omega))
      | exact out_i (tiE_6 (by simp only [List.length_map] at *; omega) (any_hit hx (by rw [tiB, decide_eq_false (by omega)]; rfl)))
      | exact out_i (tiE_10 (by simp only [List.length_map] at *; omega) hat (ts_f hk hx hy (by first | assumption | exact fun q => by have := cmpT_lt.2 q; omega)))
      | exact out_i (tiE_0 (by simp only [List.length_map] at *; omega) hat (ts_t hin (by simp only [List.length_map] at *; omega)))
   ·have hb17R := hb17; try simp only [zz] at hb17
    refine g_e rfl (e_move (v := .lit _ _ _) rfl) ?_
    refine g_mS rfl rfl ?_
    refine g_e rfl (e_ixL rfl rfl) ?_
    refine g_e rfl (e_fb pl2 rfl) ?_
    refine g_e rfl (e_load (v := .sc _) rfl (by kernel_rfl) (by kernel_rfl) (by kernel_rfl) (by first | omega | (simp only [List.length_map]; omega)) (by decide) ((cell_map hx _).trans rfl)) ?_
    refine g_e rfl (e_faQ pl3 rfl) ?_
    refine g_e rfl (e_lH (v := .lit _ _ _) rfl hihj11_0 rfl) ?_
    refine g_e rfl (e_len rfl (by kernel_rfl)) ?_
    refine g_e rfl (e_sub rfl rfl (by first | omega | (simp only [List.length_map] at *; omega))) ?_
    refine g_call rfl rfl rfl rfl (.cons inn_sc (.cons inn_sc (.cons inn_sc .nil))) (Within _ _ _) ?_
    refine g_e rfl (e_not rfl) ?_
    refine g_pF rfl rfl rfl ?_
    refine g_endR (ds := [28, 29, 30, 31, 32, 33, 34, 35, 36, 37, 38]) [0, 0, 3, 7, 15, 0, 32, 96, 224, 511, 1023, 2047, 4095, 4095, 16383, 32767, 65535, 4095, 135167, 397311, 921599, 2097151, 4194303, 8388607] (by kernel_rfl) rfl (hK16 _ ?_); clear hK16 K16
    refine pwp_cond rfl (fun hb19 => ?_) (fun hb19 => ?_)
    ·have hb19R := hb19; try simp only [zz] at hb19
     refine pwp_seq_plain rfl fun K20 hK20 => ?_
     refine p_aS rfl ?_
     refine p_end (hK20 _ ?_); clear hK20 K20
     refine pwp_ret ?_
     refine ret_block ?_
     refine ret_seq ?_
     refine ret_loop ?_
     refine ret_block ?_
     refine ret_seq ?_
     refine end1 (v := .sc _) rfl ?_
     first
       | exact out_i (tiE_8 (by simp only [List.length_map] at *; omega))
       | exact out_i (tiE_6 (by simp only [List.length_map] at *; omega) (any_hit hx (by rw [tiB, decide_eq_false (by omega)]; rfl)))
       | exact out_i (tiE_10 (by simp only [List.length_map] at *; omega) hat (ts_f hk hx hy (by first | assumption | exact fun q => by have := cmpT_lt.2 q; omega)))
       | exact out_i (tiE_0 (by simp only [List.length_map] at *; omega) hat (ts_t hin (by simp only [List.length_map] at *; omega)))
    ·have hb19R := hb19; try simp only [zz] at hb19
     refine pwp_skip ?_
     refine block_norm ?_
     refine seq_norm (hK15 _ ?_); clear hK15 K15
     refine pwp_plain rfl fun K21 hK21 => ?_
     refine p_mS rfl ?_
     refine p_e rfl (e_adL rfl rfl) ?_
     refine p_aS rfl ?_
     refine p_end (hK21 _ ?_); clear hK21 K21
     exact loop_again (k + 1) (by show _ < _; omega) ⟨rfl, rfl, trivial⟩ ⟨rfl, trivial⟩ (by exact ⟨by show _ + 1 ≤ _; simp only [List.length_map] at *; omega, by exact nx_step (K := tiB g.along.length g.levels.length) hin hx (by rw [tiB, decide_eq_true (by omega)]; rfl), hihj11_0⟩)
  ·have hb14R := hb14; try simp only [zz] at hb14
   have hat : l.any (tiB g.along.length g.levels.length) = false := any_no hin (by simp only [List.length_map] at *; omega)
   refine pwp_exit ?_
   refine exit_seq ?_
   clear hK13 K13
   refine exit_loop ?_
   refine exit_here ?_
   refine seq_norm (hK7 _ ?_); clear hK7 K7
   refine pwp_seq_seq ?_
   refine pwp_seq_plain rfl fun K22 hK22 => ?_
   refine p_aS rfl ?_
   refine p_end (hK22 _ ?_); clear hK22 K22
   refine pwp_seq_block fun K23 hK23 => ?_
   refine pwp_loopR (α := Nat) [1] (fun (k : Nat) => [(6, .int (k))]) (fun (k : Nat) (h : Heap) (_ : Nat → Nat) => (1 ≤ (k)) ∧ (TsTo l (k))) (fun (k : Nat) => l.length - (k)) (1) (by exact ⟨rfl, trivial⟩) (by exact ⟨by exact Nat.le_refl _, by exact ts_1⟩) fun k r24 h25 c26 hj27 => ?_
   obtain ⟨hk, hin⟩ := hj27
   try dsimp only at hk
   try dsimp only at hin
   show pwp _ _ (loopQ _ _ _) ⟨sets (mix _ _ _) [(6, .int k)], _, _⟩
   refine pwp_seq_seq ?_
   refine pwp_seq_plain rfl fun K28 hK28 => ?_
   refine p_mS rfl ?_
   refine p_e rfl (e_move (v := .lit _ _ _) rfl) ?_
   refine p_e rfl (e_len rfl (by kernel_rfl)) ?_
   refine p_e rfl (e_lt rfl rfl) ?_
   refine p_end (hK28 _ ?_); clear hK28 K28
   refine pwp_seq_cond rfl fun K29 hK29 => ⟨fun hb30 => ?_, fun hb30 => ?_⟩
   ·have hb30R := hb30; try simp only [zz] at hb30
    obtain ⟨x, hx, hd, ht⟩ := get_lt (xs := l) (i := k) (by omega)
    obtain ⟨y, hy⟩ : ∃ y, l[((k : Int) - 1).toNat]? = some y := ⟨_, List.getElem?_eq_getElem (by omega)⟩
    refine pwp_skip ?_
    refine seq_norm (hK29 _ ?_); clear hK29 K29
    refine pwp_seq_block fun K31 hK31 => ?_
    refine pwp_seq_gops rfl fun K32 hK32 => ?_
    refine g_begin ?_
    refine g_e rfl (e_move (v := .lit _ _ _) rfl) ?_
    refine g_mS rfl rfl ?_
    refine g_e rfl (e_sub rfl rfl (by first | omega | (simp only [List.length_map] at *; omega))) ?_
    refine g_e rfl (e_ixL rfl rfl) ?_
    refine g_e rfl (e_loadA (n := 2) rfl (by kernel_rfl) (by kernel_rfl) (by kernel_rfl) (by first | omega | (simp only [List.length_map]; omega)) (by decide) (by first | exact agg_map hy rfl)) ?_
    refine g_e rfl (e_move (v := .lit _ _ _) rfl) ?_
    refine g_mS rfl rfl ?_
    refine g_e rfl (e_ixL rfl rfl) ?_
    refine g_e rfl (e_loadA (n := 2) rfl (by kernel_rfl) (by kernel_rfl) (by kernel_rfl) (by first | omega | (simp only [List.length_map]; omega)) (by decide) (by first | exact agg_map hx rfl)) ?_
    refine g_call rfl rfl rfl rfl (.cons (inn_agg (Tie.pure _)) (.cons (inn_agg (Tie.pure _)) .nil)) (BeforeC _ _) ?_
    refine g_e rfl (e_not rfl) ?_
    refine g_end (ds := []) (by kernel_rfl) rfl (hK32 _ ?_); clear hK32 K32
    refine pwp_cond rfl (fun hb33 => ?_) (fun hb33 => ?_)
    ·have hb33R := hb33; try simp only [zz] at hb33
     refine pwp_seq_plain rfl fun K34 hK34 => ?_
     refine p_aS rfl ?_
     refine p_end (hK34 _ ?_); clear hK34 K34
     refine pwp_ret ?_
     refine ret_block ?_
     refine ret_seq ?_
     refine ret_loop ?_
     refine ret_block ?_
     refine ret_seq ?_
     refine end1 (v := .sc _) rfl ?_
     first
       | exact out_i (tiE_8 (by simp only [List.length_map] at *; omega))
       | exact out_i (tiE_6 (by simp only [List.length_map] at *; omega) (any_hit hx (by rw [tiB, decide_eq_false (by omega)]; rfl)))
       | exact out_i (tiE_10 (by simp only [List.length_map] at *; omega) hat (ts_f hk hx hy (by first | assumption | exact fun q => by have := cmpT_lt.2 q; omega)))
       | exact out_i (tiE_0 (by simp only [List.length_map] at *; omega) hat (ts_t hin (by simp only [List.length_map] at *; omega)))
    ·have hb33R := hb33; try simp only [zz] at hb33
     refine pwp_skip ?_
     refine block_norm ?_
     refine seq_norm (hK31 _ ?_); clear hK31 K31
     refine pwp_plain rfl fun K35 hK35 => ?_
     refine p_mS rfl ?_
     refine p_e rfl (e_adL rfl rfl) ?_
     refine p_aS rfl ?_
     refine p_end (hK35 _ ?_); clear hK35 K35
     exact loop_again (k + 1) (by show _ < _; omega) ⟨rfl, trivial⟩ ⟨rfl, trivial⟩ (by exact ⟨by show 1 ≤ _ + 1; omega, by exact ts_s hin hk hx hy (by first | assumption | exact cmpT_lt.1 (by omega))⟩)
   ·have hb30R := hb30; try simp only [zz] at hb30
    refine pwp_exit ?_
    refine exit_seq ?_
    clear hK29 K29
    refine exit_loop ?_
    refine exit_here ?_
    refine seq_norm (hK23 _ ?_); clear hK23 K23
    refine pwp_seq_plain rfl fun K36 hK36 => ?_
    refine p_aS rfl ?_
    refine p_end (hK36 _ ?_); clear hK36 K36
    refine pwp_ret ?_
    refine end1 (v := .sc _) rfl ?_
    first
      | exact out_i (tiE_8 (by simp only [List.length_map] at *; omega))
      | exact out_i (tiE_6 (by simp only [List.length_map] at *; omega) (any_hit hx (by rw [tiB, decide_eq_false (by omega)]; rfl)))
      | exact out_i (tiE_10 (by simp only [List.length_map] at *; omega) hat (ts_f hk hx hy (by first | assumption | exact fun q => by have := cmpT_lt.2 q; omega)))
      | exact out_i (tiE_0 (by simp only [List.length_map] at *; omega) hat (ts_t hin (by simp only [List.length_map] at *; omega)))

theorem fr78 : (inFrame Tryz.f78.ntmps (Tryz.f78.body.getD .skip) && Tryz.f78.results.toList.all (resScope Tryz.f78.ntmps)) = true := by kernel_rfl
theorem checkAllC (g : Grid) (r : Rule) (l : List Tie) (ha : g.along.length ≤ 100) (hb : g.levels.length ≤ 100) (hl : l.length ≤ 100000) : PCalls Tryz.prog 78 [.agg g.enc, .agg r.enc, .lit true 2 (l.map Tie.enc)] (.int (allE g r l)) := by
 refine PCalls.of_code Tryz.func78 rfl rfl (by kernel_rfl) mixed fr78 (by show _ ≤ 22; simp) (.sc _) ?_
 refine pwp_seq_plain rfl fun K1 hK1 => ?_
 refine p_new rfl (e_box (n := 3) rfl rfl) ⟨rfl, by decide⟩ ?_
 refine p_new rfl (e_box (n := 5) rfl rfl) ⟨rfl, by decide⟩ ?_
 refine p_aS rfl ?_
 refine p_end (hK1 _ ?_); clear hK1 K1
 refine pwp_seq_seq ?_
 refine pwp_seq_plain rfl fun K2 hK2 => ?_
 refine p_e rfl (e_loadHA (cs := Grid.enc (g)) (n := 3) rfl ((hset_ne (key_ne rfl)).trans (hset_self _ _ _)) (by kernel_rfl) (by kernel_rfl) (by kernel_rfl) (by exact Nat.zero_lt_one) (by decide) rfl) ?_
 refine p_call rfl (.cons (inn_agg (Grid.pure _)) .nil) (CheckGridC g (by omega) (by omega)) ?_
 refine p_aS rfl ?_
 refine p_end (hK2 _ ?_); clear hK2 K2
 refine pwp_seq_seq ?_
 refine pwp_seq_plain rfl fun K3 hK3 => ?_
 refine p_mS rfl ?_
 refine p_e rfl (e_ne rfl rfl) ?_
 refine p_end (hK3 _ ?_); clear hK3 K3
 refine pwp_seq_cond rfl fun K4 hK4 => ⟨fun hb5 => ?_, fun hb5 => ?_⟩
 ·have hb5R := hb5; try simp only [zz] at hb5
  refine pwp_seq_plain rfl fun K6 hK6 => ?_
  refine p_mS rfl ?_
  refine p_aS rfl ?_
  refine p_end (hK6 _ ?_); clear hK6 K6
  refine pwp_ret ?_
  refine ret_seq ?_
  refine end1 (v := .sc _) rfl ?_
  exact out_i (by have q := allE_c g r l; omega)
 ·have hb5R := hb5; try simp only [zz] at hb5
  refine pwp_skip ?_
  refine seq_norm (hK4 _ ?_); clear hK4 K4
  refine pwp_seq_seq ?_
  refine pwp_seq_plain rfl fun K7 hK7 => ?_
  refine p_e rfl (e_loadHA (cs := Rule.enc (r)) (n := 5) rfl (hset_self _ _ _) (by kernel_rfl) (by kernel_rfl) (by kernel_rfl) (by exact Nat.zero_lt_one) (by decide) rfl) ?_
  refine p_call rfl (.cons (inn_agg (Rule.pure _)) .nil) (CheckRuleC r) ?_
  refine p_aS rfl ?_
  refine p_end (hK7 _ ?_); clear hK7 K7
  refine pwp_seq_seq ?_
  refine pwp_seq_plain rfl fun K8 hK8 => ?_
  refine p_mS rfl ?_
  refine p_e rfl (e_ne rfl rfl) ?_
  refine p_end (hK8 _ ?_); clear hK8 K8
  refine pwp_seq_cond rfl fun K9 hK9 => ⟨fun hb10 => ?_, fun hb10 => ?_⟩
  ·have hb10R := hb10; try simp only [zz] at hb10
   refine pwp_seq_plain rfl fun K11 hK11 => ?_
   refine p_mS rfl ?_
   refine p_aS rfl ?_
   refine p_end (hK11 _ ?_); clear hK11 K11
   refine pwp_ret ?_
   refine ret_seq ?_
   refine end1 (v := .sc _) rfl ?_
   exact out_i (by have q := allE_c g r l; omega)
  ·have hb10R := hb10; try simp only [zz] at hb10
   refine pwp_skip ?_
   refine seq_norm (hK9 _ ?_); clear hK9 K9
   refine pwp_seq_plain rfl fun K12 hK12 => ?_
   refine p_e rfl (e_loadHA (cs := Grid.enc (g)) (n := 3) rfl ((hset_ne (key_ne rfl)).trans (hset_self _ _ _)) (by kernel_rfl) (by kernel_rfl) (by kernel_rfl) (by exact Nat.zero_lt_one) (by decide) rfl) ?_
   refine p_e rfl (e_move (v := .lit _ _ _) rfl) ?_
   refine p_call rfl (.cons (inn_agg (Grid.pure _)) (.cons inn_lit .nil)) (checkTiesC g l (by omega) (by omega) (by omega)) ?_
   refine p_aS rfl ?_
   refine p_end (hK12 _ ?_); clear hK12 K12
   refine pwp_ret ?_
   refine end1 (v := .sc _) rfl ?_
   exact out_i (by have q := allE_c g r l; omega)

theorem fr21 : (inFrame Tryz.f21.ntmps (Tryz.f21.body.getD .skip) && Tryz.f21.results.toList.all (resScope Tryz.f21.ntmps)) = true := by kernel_rfl
theorem refAllC (g : Grid) (r : Rule) (l : List Tie) (ha : g.along.length ≤ 100) (hb : g.levels.length ≤ 100) (hl : l.length ≤ 100000) : PCalls Tryz.prog 21 [.agg g.enc, .agg r.enc, .lit true 2 (l.map Tie.enc)] (.int (allE g r l)) := by
 refine PCalls.of_code Tryz.func21 rfl rfl (by kernel_rfl) mixed fr21 (by show _ ≤ 22; simp) (.sc _) ?_
 refine pwp_seq_plain rfl fun K1 hK1 => ?_
 refine p_new rfl (e_box (n := 3) rfl rfl) ⟨rfl, by decide⟩ ?_
 refine p_new rfl (e_box (n := 5) rfl rfl) ⟨rfl, by decide⟩ ?_
 refine p_aS rfl ?_
 refine p_end (hK1 _ ?_); clear hK1 K1
 refine pwp_seq_seq ?_
 refine pwp_seq_plain rfl fun K2 hK2 => ?_
 refine p_e rfl (e_loadHA (cs := Grid.enc (g)) (n := 3) rfl ((hset_ne (key_ne rfl)).trans (hset_self _ _ _)) (by kernel_rfl) (by kernel_rfl) (by kernel_rfl) (by exact Nat.zero_lt_one) (by decide) rfl) ?_
 refine p_call rfl (.cons (inn_agg (Grid.pure _)) .nil) (refGridC g (by omega) (by omega)) ?_
 refine p_aS rfl ?_
 refine p_end (hK2 _ ?_); clear hK2 K2
 refine pwp_seq_seq ?_
 refine pwp_seq_plain rfl fun K3 hK3 => ?_
 refine p_mS rfl ?_
 refine p_e rfl (e_ne rfl rfl) ?_
 refine p_end (hK3 _ ?_); clear hK3 K3
 refine pwp_seq_cond rfl fun K4 hK4 => ⟨fun hb5 => ?_, fun hb5 => ?_⟩
 ·have hb5R := hb5; try simp only [zz] at hb5
  refine pwp_seq_plain rfl fun K6 hK6 => ?_
  refine p_mS rfl ?_
  refine p_aS rfl ?_
  refine p_end (hK6 _ ?_); clear hK6 K6
  refine pwp_ret ?_
  refine ret_seq ?_
  refine end1 (v := .sc _) rfl ?_
  exact out_i (by have q := allE_c g r l; omega)
 ·have hb5R := hb5; try simp only [zz] at hb5
  refine pwp_skip ?_
  refine seq_norm (hK4 _ ?_); clear hK4 K4
  refine pwp_seq_seq ?_
  refine pwp_seq_plain rfl fun K7 hK7 => ?_
  refine p_e rfl (e_loadHA (cs := Rule.enc (r)) (n := 5) rfl (hset_self _ _ _) (by kernel_rfl) (by kernel_rfl) (by kernel_rfl) (by exact Nat.zero_lt_one) (by decide) rfl) ?_
  refine p_call rfl (.cons (inn_agg (Rule.pure _)) .nil) (refRuleC r) ?_
  refine p_aS rfl ?_
  refine p_end (hK7 _ ?_); clear hK7 K7
  refine pwp_seq_seq ?_
  refine pwp_seq_plain rfl fun K8 hK8 => ?_
  refine p_mS rfl ?_
  refine p_e rfl (e_ne rfl rfl) ?_
  refine p_end (hK8 _ ?_); clear hK8 K8
  refine pwp_seq_cond rfl fun K9 hK9 => ⟨fun hb10 => ?_, fun hb10 => ?_⟩
  ·have hb10R := hb10; try simp only [zz] at hb10
   refine pwp_seq_plain rfl fun K11 hK11 => ?_
   refine p_mS rfl ?_
   refine p_aS rfl ?_
   refine p_end (hK11 _ ?_); clear hK11 K11
   refine pwp_ret ?_
   refine ret_seq ?_
   refine end1 (v := .sc _) rfl ?_
   exact out_i (by have q := allE_c g r l; omega)
  ·have hb10R := hb10; try simp only [zz] at hb10
   refine pwp_skip ?_
   refine seq_norm (hK9 _ ?_); clear hK9 K9
   refine pwp_seq_plain rfl fun K12 hK12 => ?_
   refine p_e rfl (e_loadHA (cs := Grid.enc (g)) (n := 3) rfl ((hset_ne (key_ne rfl)).trans (hset_self _ _ _)) (by kernel_rfl) (by kernel_rfl) (by kernel_rfl) (by exact Nat.zero_lt_one) (by decide) rfl) ?_
   refine p_e rfl (e_move (v := .lit _ _ _) rfl) ?_
   refine p_call rfl (.cons (inn_agg (Grid.pure _)) (.cons inn_lit .nil)) (refTiesC g l (by omega) (by omega) (by omega)) ?_
   refine p_aS rfl ?_
   refine p_end (hK12 _ ?_); clear hK12 K12
   refine pwp_ret ?_
   refine end1 (v := .sc _) rfl ?_
   exact out_i (by have q := allE_c g r l; omega)

theorem fr19 : (inFrame Tryz.f19.ntmps (Tryz.f19.body.getD .skip) && Tryz.f19.results.toList.all (resScope Tryz.f19.ntmps)) = true := by kernel_rfl
theorem FewC (g : Grid) (ha : g.along.length ≤ 9223372036854775807) (hb : g.levels.length ≤ 9223372036854775807) : PCalls Tryz.prog 19 [.agg g.enc] (.bool (fewB g)) := by
 refine PCalls.of_code Tryz.func19 rfl rfl (by kernel_rfl) mixed fr19 (by show _ ≤ 28; simp) (.sc _) ?_
 refine pwp_seq_plain rfl fun K1 hK1 => ?_
 refine p_new rfl (e_box (n := 3) rfl rfl) ⟨rfl, by decide⟩ ?_
 refine p_aS rfl ?_
 refine p_end (hK1 _ ?_); clear hK1 K1
 refine pwp_seq_seq ?_
 refine pwp_seq_gops rfl fun K2 hK2 => ?_
 refine g_begin ?_
 refine g_e rfl (e_faQ pl3 rfl) ?_
 refine g_e rfl (e_lH (v := .lit _ _ _) rfl (hset_self _ _ _) rfl) ?_
 refine g_e rfl (e_len rfl (by kernel_rfl)) ?_
 refine g_e rfl (e_gt rfl rfl) ?_
 refine g_mS rfl rfl ?_
 refine g_cases (fun hb3 => ?_) (fun hb3 => ?_)
 ·have hb3R := hb3; try simp only [zz] at hb3
  iterate 4 refine g_skip rfl rfl rfl ?_
  refine g_pT rfl rfl rfl ?_
  refine g_end (ds := [8, 9, 10, 11]) rfl rfl (hK2 _ ?_); clear hK2 K2
  refine pwp_seq_cond (t := true) rfl fun K4 hK4 => ⟨fun _ => ?_, nofun⟩
  refine pwp_seq_plain rfl fun K5 hK5 => ?_
  refine p_aS rfl ?_
  refine p_end (hK5 _ ?_); clear hK5 K5
  refine pwp_ret ?_
  refine ret_seq ?_
  refine end1 (v := .sc _) rfl ?_
  exact out_b (by have q := few_c g; rw [Bool.eq_iff_iff]; rcases q with ⟨q, _⟩ | ⟨q, _⟩ <;> rw [q] <;> first | rfl | (simp only [decide_eq_true_eq, Bool.false_eq_true, eq_self_iff_true, true_iff, false_iff, iff_true, iff_false]; simp only [List.length_map] at *; omega) | (exfalso; simp only [List.length_map] at *; omega))
 ·have hb3R := hb3; try simp only [zz] at hb3
  refine g_e rfl (e_faQ pl3 rfl) ?_
  refine g_e rfl (e_lH (v := .lit _ _ _) rfl (hset_self _ _ _) rfl) ?_
  refine g_e rfl (e_len rfl (by kernel_rfl)) ?_
  refine g_e rfl (e_gt rfl rfl) ?_
  refine g_pF rfl rfl rfl ?_
  refine g_end (ds := [8, 9, 10, 11]) rfl rfl (hK2 _ ?_); clear hK2 K2
  refine pwp_seq_cond rfl fun K6 hK6 => ⟨fun hb7 => ?_, fun hb7 => ?_⟩
  ·have hb7R := hb7; try simp only [zz] at hb7
   refine pwp_seq_plain rfl fun K8 hK8 => ?_
   refine p_aS rfl ?_
   refine p_end (hK8 _ ?_); clear hK8 K8
   refine pwp_ret ?_
   refine ret_seq ?_
   refine end1 (v := .sc _) rfl ?_
   exact out_b (by have q := few_c g; rw [Bool.eq_iff_iff]; rcases q with ⟨q, _⟩ | ⟨q, _⟩ <;> rw [q] <;> first | rfl | (simp only [decide_eq_true_eq, Bool.false_eq_true, eq_self_iff_true, true_iff, false_iff, iff_true, iff_false]; simp only [List.length_map] at *; omega) | (exfalso; simp only [List.length_map] at *; omega))
  ·have hb7R := hb7; try simp only [zz] at hb7
   refine pwp_skip ?_
   refine seq_norm (hK6 _ ?_); clear hK6 K6
   refine pwp_seq_gops rfl fun K9 hK9 => ?_
   refine g_begin ?_
   refine g_e rfl (e_faQ pl3 rfl) ?_
   refine g_e rfl (e_lH (v := .lit _ _ _) rfl (hset_self _ _ _) rfl) ?_
   refine g_e rfl (e_len rfl (by kernel_rfl)) ?_
   refine g_e rfl (e_le rfl rfl) ?_
   refine g_mS rfl rfl ?_
   refine g_cases (fun hb10 => ?_) (fun hb10 => ?_)
   ·have hb10R := hb10; try simp only [zz] at hb10
    refine g_e rfl (e_faQ pl3 rfl) ?_
    refine g_e rfl (e_lH (v := .lit _ _ _) rfl (hset_self _ _ _) rfl) ?_
    refine g_e rfl (e_len rfl (by kernel_rfl)) ?_
    refine g_e rfl (e_le rfl rfl) ?_
    refine g_pT rfl rfl rfl ?_
    refine g_mS rfl rfl ?_
    refine g_cases (fun hb11 => ?_) (fun hb11 => ?_)
    ·have hb11R := hb11; try simp only [zz] at hb11
     refine g_skip rfl rfl rfl ?_
     refine g_nocall rfl rfl rfl ?_
     refine g_skip rfl rfl rfl ?_
     refine g_pT rfl rfl rfl ?_
     refine g_aS rfl rfl ?_
     refine g_end (ds := [18, 19, 20, 21, 24, 25, 26]) rfl rfl (hK9 _ ?_); clear hK9 K9
     refine pwp_ret ?_
     refine end1 (v := .sc _) rfl ?_
     exact out_b (by have q := few_c g; rw [Bool.eq_iff_iff]; rcases q with ⟨q, _⟩ | ⟨q, _⟩ <;> rw [q] <;> first | rfl | (simp only [decide_eq_true_eq, Bool.false_eq_true, eq_self_iff_true, true_iff, false_iff, iff_true, iff_false]; simp only [List.length_map] at *; omega) | (exfalso; simp only [List.length_map] at *; omega))
    ·have hb11R := hb11; try simp only [zz] at hb11
     refine g_e rfl (e_loadHA (cs := Grid.enc (g)) (n := 3) rfl (hset_self _ _ _) (by kernel_rfl) (by kernel_rfl) (by kernel_rfl) (by exact Nat.zero_lt_one) (by decide) rfl) ?_
     refine g_call rfl rfl rfl rfl (.cons (inn_agg (Grid.pure _)) .nil) (refGridC g (by omega) (by omega)) ?_
     refine g_e rfl (e_ne rfl rfl) ?_
     refine g_pF rfl rfl rfl ?_
     refine g_aS rfl rfl ?_
     refine g_end (ds := [18, 19, 20, 21, 24, 25, 26]) rfl rfl (hK9 _ ?_); clear hK9 K9
     refine pwp_ret ?_
     refine end1 (v := .sc _) rfl ?_
     exact out_b (by have q := few_c g; rw [Bool.eq_iff_iff]; rcases q with ⟨q, _⟩ | ⟨q, _⟩ <;> rw [q] <;> first | rfl | (simp only [decide_eq_true_eq, Bool.false_eq_true, eq_self_iff_true, true_iff, false_iff, iff_true, iff_false]; simp only [List.length_map] at *; omega) | (exfalso; simp only [List.length_map] at *; omega))
   ·have hb10R := hb10; try simp only [zz] at hb10
    iterate 4 refine g_skip rfl rfl rfl ?_
    refine g_pF rfl rfl rfl ?_
    refine g_mS rfl rfl ?_
    refine g_e rfl (e_loadHA (cs := Grid.enc (g)) (n := 3) rfl (hset_self _ _ _) (by kernel_rfl) (by kernel_rfl) (by kernel_rfl) (by exact Nat.zero_lt_one) (by decide) rfl) ?_
    refine g_call rfl rfl rfl rfl (.cons (inn_agg (Grid.pure _)) .nil) (refGridC g (by omega) (by omega)) ?_
    refine g_e rfl (e_ne rfl rfl) ?_
    refine g_pF rfl rfl rfl ?_
    refine g_aS rfl rfl ?_
    refine g_end (ds := [18, 19, 20, 21, 24, 25, 26]) rfl rfl (hK9 _ ?_); clear hK9 K9
    refine pwp_ret ?_
    refine end1 (v := .sc _) rfl ?_
    exact out_b (by have q := few_c g; rw [Bool.eq_iff_iff]; rcases q with ⟨q, _⟩ | ⟨q, _⟩ <;> rw [q] <;> first | rfl | (simp only [decide_eq_true_eq, Bool.false_eq_true, eq_self_iff_true, true_iff, false_iff, iff_true, iff_false]; simp only [List.length_map] at *; omega) | (exfalso; simp only [List.length_map] at *; omega))

end Go.Proofs.YtindehoegfiiaaaGreatDoor
