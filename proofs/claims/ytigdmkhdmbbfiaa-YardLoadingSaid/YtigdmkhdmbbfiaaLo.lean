/- Too big items; lorries by trying. No conditions. -/
import Derived.Test.YtigdmkhdmbbfiaaLc
import Derived.Test.YtigdmkhdmbbfiaaRc
set_option linter.unusedSimpArgs false
set_option linter.unusedVariables false
set_option maxRecDepth 100000
namespace Go.Proofs.Ytigdmkhdmbbfiaa
open Go Go.Pv
theorem keysOf_sc {x : Value} : Go.Pv.keysOf (.sc x) = [] := rfl
theorem keysOf_lor {x : Lorry} : Go.Pv.keysOf (.agg x.enc) = [] := rfl
/-! ### The least number of lorries, as the reference tries it -/
def bigB (its : List Item) (x : Lorry) : Bool := its.any fun y => decide (x.length < y.length) || decide (x.mass < y.mass)
/-- Whether the items that are left go on lorries with these masses, and others, at most so many. -/
def fitsV (M most : Int) : List Item → List Int → Bool
 | [], _ => true
 | y :: r, ls => ((List.range ls.length).any fun i => decide (ls.getD i 0 + y.mass ≤ M) && fitsV M most r (ls.set i (ls.getD i 0 + y.mass))) || (decide ((ls.length : Int) < most) && fitsV M most r (ls ++ [y.mass]))
def fitT (M most : Int) (r : List Item) (ls : List Int) (m : Int) (i : Nat) : Bool := decide (ls.getD i 0 + m ≤ M) && fitsV M most r (ls.set i (ls.getD i 0 + m))
section
variable {its : List Item} {x : Lorry} {k i : Nat} {y : Item} {M most m a : Int} {r : List Item} {ls : List Int}
theorem big_t (hy : its[k]? = some y) (h : x.length < y.length ∨ x.mass < y.mass) : true = bigB its x := by
 refine (List.any_eq_true.2 ⟨y, List.mem_of_getElem? hy, ?_⟩).symm
 rw [Bool.or_eq_true, decide_eq_true_eq, decide_eq_true_eq]; exact h
theorem big_f (hin : ∀ j, j < k → ∀ y, its[j]? = some y → ¬ (x.length < y.length ∨ x.mass < y.mass)) (hk : its.length ≤ k) : false = bigB its x := by
 symm
 rw [bigB, List.any_eq_false]
 intro y hy
 obtain ⟨j, hj⟩ := List.getElem?_of_mem hy
 have h1 : j < its.length := (List.getElem?_eq_some_iff.1 hj).1
 rw [Bool.or_eq_true, decide_eq_true_eq, decide_eq_true_eq]
 exact hin j (by omega) y hj
theorem big_s (hin : ∀ j, j < k → ∀ y, its[j]? = some y → ¬ (x.length < y.length ∨ x.mass < y.mass)) (hy : its[k]? = some y) (h : ¬ (x.length < y.length ∨ x.mass < y.mass)) : ∀ j, j < k + 1 → ∀ y, its[j]? = some y → ¬ (x.length < y.length ∨ x.mass < y.mass) := fun j hj z hz => by
 by_cases e : j = k
 · subst e; rw [hy] at hz; cases hz; exact h
 · exact hin j (by omega) z hz
theorem fit_0 (h : its.length ≤ k) : true = fitsV M most (its.drop k) ls := by rw [List.drop_eq_nil_of_le h, fitsV]
theorem fit_t (hd : its.drop k = y :: r) (hi : i < ls.length) (ha : ls[i]? = some a) (h1 : a + y.mass ≤ M) (h2 : fitsV M most r (ls.set i (a + y.mass)) = true) : true = fitsV M most (its.drop k) ls := by
 rw [hd, fitsV]
 symm
 rw [Bool.or_eq_true]
 refine .inl (List.any_eq_true.2 ⟨i, List.mem_range.2 hi, ?_⟩)
 have e : ls.getD i 0 = a := by rw [List.getD_eq_getElem?_getD, ha]; rfl
 rw [e, Bool.and_eq_true, decide_eq_true_eq]; exact ⟨h1, h2⟩
theorem fit_s (hin : ∀ j, j < i → fitT M most r ls m j = false) (ha : ls[i]? = some a) (h : ¬ a + m ≤ M ∨ fitsV M most r (ls.set i (a + m)) = false) : ∀ j, j < i + 1 → fitT M most r ls m j = false := fun j hj => by
 by_cases e : j = i
 · subst e
   have e : ls.getD j 0 = a := by rw [List.getD_eq_getElem?_getD, ha]; rfl
   rw [fitT, e]
   rcases h with h | h
   · rw [decide_eq_false h]; rfl
   · rw [h, Bool.and_false]
 · exact hin j (by omega)
theorem fit_e (hd : its.drop k = y :: r) (hin : ∀ j, j < i → fitT M most r ls y.mass j = false) (hi : ls.length ≤ i) : fitsV M most (its.drop k) ls = (decide ((ls.length : Int) < most) && fitsV M most r (ls ++ [y.mass])) := by
 rw [hd, fitsV]
 have : ((List.range ls.length).any fun i => decide (ls.getD i 0 + y.mass ≤ M) && fitsV M most r (ls.set i (ls.getD i 0 + y.mass))) = false := by
   rw [List.any_eq_false]
   intro j hj
   have := hin j (by have := List.mem_range.1 hj; omega)
   rw [fitT] at this
   rw [this]; decide
 rw [this, Bool.false_or]
theorem fit_f (hd : its.drop k = y :: r) (hin : ∀ j, j < i → fitT M most r ls y.mass j = false) (hi : ls.length ≤ i) (h : ¬ (ls.length : Int) < most) : false = fitsV M most (its.drop k) ls := by
 rw [fit_e hd hin hi, decide_eq_false h]; rfl
theorem fit_l (hd : its.drop k = y :: r) (hin : ∀ j, j < i → fitT M most r ls y.mass j = false) (hi : ls.length ≤ i) (h : (ls.length : Int) < most) : fitsV M most r (ls ++ [y.mass]) = fitsV M most (its.drop k) ls := by
 rw [fit_e hd hin hi, decide_eq_true h, Bool.true_and]
theorem lo_set (hb : ∀ z ∈ ls, 0 ≤ z ∧ z ≤ 100000000) (hm : 0 ≤ m) (ha : ls[i]? = some a) (h : a + m ≤ M) (hM : M ≤ 100000000) : ∀ z ∈ ls.set i (a + m), 0 ≤ z ∧ z ≤ 100000000 := fun z hz => by
 rcases List.mem_or_eq_of_mem_set hz with h1 | h1
 · exact hb z h1
 · have := hb a (List.mem_of_getElem? ha); omega
theorem lo_app (hb : ∀ z ∈ ls, 0 ≤ z ∧ z ≤ 100000000) (hm : 0 ≤ m ∧ m ≤ 100000000) : ∀ z ∈ ls ++ [m], 0 ≤ z ∧ z ≤ 100000000 := fun z hz => by
 rcases List.mem_append.1 hz with h1 | h1
 · exact hb z h1
 · rw [List.mem_singleton.1 h1]; exact hm
end
section
variable {M most : Int}
theorem fits_all : ∀ {r : List Item} {ls : List Int}, (ls.length : Int) + r.length ≤ most → fitsV M most r ls = true
 | [], _, _ => by rw [fitsV]
 | y :: r, ls, h => by
   rw [List.length_cons] at h
   rw [fitsV, decide_eq_true (by omega), fits_all (by rw [List.length_append, List.length_singleton]; omega), Bool.and_true, Bool.or_true]
/-- There is a least number. -/
theorem fits_least {P : Nat → Bool} : ∀ {N : Nat}, P N = true → ∃ n, n ≤ N ∧ P n = true ∧ ∀ j, j < n → P j = false
 | 0, h => ⟨0, Nat.le_refl _, h, fun j hj => absurd hj (Nat.not_lt_zero _)⟩
 | N + 1, h => by
   by_cases h1 : ∃ m, m ≤ N ∧ P m = true
   · obtain ⟨m, h2, h3⟩ := h1
     have main : ∀ K, (∃ m, m ≤ K ∧ P m = true) → ∃ n, n ≤ K ∧ P n = true ∧ ∀ j, j < n → P j = false := fun K => by
       induction K with
       | zero => intro ⟨m, h4, h5⟩; obtain rfl : m = 0 := by omega
                 exact ⟨0, Nat.le_refl _, h5, fun j hj => absurd hj (Nat.not_lt_zero _)⟩
       | succ K ih =>
         intro ⟨m, h4, h5⟩
         by_cases h6 : ∃ m, m ≤ K ∧ P m = true
         · obtain ⟨n, h7, h8⟩ := ih h6; exact ⟨n, by omega, h8⟩
         · refine ⟨K + 1, Nat.le_refl _, ?_, fun j hj => ?_⟩
           · by_cases e : m = K + 1
             · rw [← e]; exact h5
             · exact absurd ⟨m, by omega, h5⟩ h6
           · cases e : P j with
             | false => rfl
             | true => exact absurd ⟨j, by omega, e⟩ h6
     obtain ⟨n, h4, h5⟩ := main N ⟨m, h2, h3⟩
     exact ⟨n, by omega, h5⟩
   · refine ⟨N + 1, Nat.le_refl _, h, fun j hj => ?_⟩
     cases e : P j with
     | false => rfl
     | true => exact absurd ⟨j, by omega, e⟩ h1
end
theorem fr55 : (inFrame Try.f55.ntmps (Try.f55.body.getD .skip) && Try.f55.results.toList.all (resScope Try.f55.ntmps)) = true := by kernel_rfl
theorem tooBigC (its : List Item) (x : Lorry) (hl : its.length ≤ 1000000) : PCalls Try.prog 55 [.lit true 3 (its.map Item.enc), .agg x.enc] (.bool (bigB its x)) := by
 refine PCalls.of_code Try.func55 rfl rfl (by kernel_rfl) mixed fr55 (by show _ ≤ 30; simp) (.sc _) ?_
 refine pwp_seq_plain rfl fun K1 hK1 => ?_
 refine p_new rfl (e_box (n := 2) rfl rfl) ⟨rfl, by decide⟩ ?_
 refine p_aS rfl ?_
 refine p_end (hK1 _ ?_); clear hK1 K1
 refine pwp_seq_seq ?_
 refine pwp_seq_plain rfl fun K2 hK2 => ?_
 refine p_aS rfl ?_
 refine p_end (hK2 _ ?_); clear hK2 K2
 refine pwp_seq_block fun K3 hK3 => ?_
 refine pwp_loopR (α := Nat) [0, 3] (fun (k : Nat) => [(5, .int (k))]) (fun (k : Nat) (h : Heap) (_ : Nat → Nat) => ((k) ≤ its.length) ∧ (∀ j, j < (k) → ∀ y, its[j]? = some y → ¬ (x.length < y.length ∨ x.mass < y.mass)) ∧ (h (3, 0) = some (.rows 2 [Lorry.enc x]))) (fun (k : Nat) => its.length - (k)) (0) (by exact ⟨rfl, trivial⟩) (by exact ⟨by exact Nat.zero_le _, by exact fun j h => absurd h (Nat.not_lt_zero _), (hset_self _ _ _)⟩) fun k r4 h5 c6 hj7 => ?_
 obtain ⟨hk, hin, hihj7_0⟩ := hj7
 try dsimp only at hk
 try dsimp only at hin
 try dsimp only at hihj7_0
 show pwp _ _ (loopQ _ _ _) ⟨sets (mix _ _ _) [(5, .int k)], _, _⟩
 refine pwp_seq_seq ?_
 refine pwp_seq_plain rfl fun K8 hK8 => ?_
 refine p_mS rfl ?_
 refine p_e rfl (e_move (v := .lit _ _ _) rfl) ?_
 refine p_e rfl (e_len rfl (by kernel_rfl)) ?_
 refine p_e rfl (e_lt rfl rfl) ?_
 refine p_end (hK8 _ ?_); clear hK8 K8
 refine pwp_seq_cond rfl fun K9 hK9 => ⟨fun hb10 => ?_, fun hb10 => ?_⟩
 ·have hb10R := hb10; try simp only [zz] at hb10
  have hkl : k < its.length := by simp only [List.length_map] at *; omega
  obtain ⟨y, hy⟩ : ∃ y, its[k]? = some y := ⟨_, List.getElem?_eq_getElem hkl⟩
  refine pwp_skip ?_
  refine seq_norm (hK9 _ ?_); clear hK9 K9
  refine pwp_seq_block fun K11 hK11 => ?_
  refine pwp_seq_gops rfl fun K12 hK12 => ?_
  refine g_begin ?_
  refine g_e rfl (e_move (v := .lit _ _ _) rfl) ?_
  refine g_mS rfl rfl ?_
  refine g_e rfl (e_ixL rfl rfl) ?_
  refine g_e rfl (e_fb pl3 rfl) ?_
  refine g_e rfl (e_load (v := .sc _) rfl (by kernel_rfl) (by kernel_rfl) (by kernel_rfl) (by first | omega | (simp only [List.length_map]; omega)) (by decide) ((cell_map hy _).trans rfl)) ?_
  refine g_e rfl (e_faQ pl2 rfl) ?_
  refine g_e rfl (e_lH (v := .sc _) rfl hihj7_0 rfl) ?_
  refine g_e rfl (e_gt rfl rfl) ?_
  refine g_mS rfl rfl ?_
  refine g_cases (fun hb13 => ?_) (fun hb13 => ?_)
  ·have hb13R := hb13; try simp only [zz] at hb13
   iterate 8 refine g_skip rfl rfl rfl ?_
   refine g_pT rfl rfl rfl ?_
   refine g_end (ds := [21, 22, 23, 24, 25, 26, 27, 28]) (by kernel_rfl) rfl (hK12 _ ?_); clear hK12 K12
   refine pwp_cond (t := true) rfl (fun _ => ?_) nofun
   refine pwp_seq_plain rfl fun K14 hK14 => ?_
   refine p_aS rfl ?_
   refine p_end (hK14 _ ?_); clear hK14 K14
   refine pwp_ret ?_
   refine ret_block ?_
   refine ret_seq ?_
   refine ret_loop ?_
   refine ret_block ?_
   refine ret_seq ?_
   refine end1 (v := .sc _) rfl ?_
   first
     | exact out_b (big_t hy (by omega))
     | exact out_b (big_f hin hkl)
  ·have hb13R := hb13; try simp only [zz] at hb13
   refine g_e rfl (e_move (v := .lit _ _ _) rfl) ?_
   refine g_mS rfl rfl ?_
   refine g_e rfl (e_ixL rfl rfl) ?_
   refine g_e rfl (e_fb pl3 rfl) ?_
   refine g_e rfl (e_load (v := .sc _) rfl (by kernel_rfl) (by kernel_rfl) (by kernel_rfl) (by first | omega | (simp only [List.length_map]; omega)) (by decide) ((cell_map hy _).trans rfl)) ?_
   refine g_e rfl (e_faQ pl2 rfl) ?_
   refine g_e rfl (e_lH (v := .sc _) rfl hihj7_0 rfl) ?_
   refine g_e rfl (e_gt rfl rfl) ?_
   refine g_pF rfl rfl rfl ?_
   refine g_end (ds := [21, 22, 23, 24, 25, 26, 27, 28]) (by kernel_rfl) rfl (hK12 _ ?_); clear hK12 K12
   refine pwp_cond rfl (fun hb15 => ?_) (fun hb15 => ?_)
   ·have hb15R := hb15; try simp only [zz] at hb15
    refine pwp_seq_plain rfl fun K16 hK16 => ?_
    refine p_aS rfl ?_
    refine p_end (hK16 _ ?_); clear hK16 K16
    refine pwp_ret ?_
    refine ret_block ?_
    refine ret_seq ?_
    refine ret_loop ?_
    refine ret_block ?_
    refine ret_seq ?_
    refine end1 (v := .sc _) rfl ?_
    first
      | exact out_b (big_t hy (by omega))
      | exact out_b (big_f hin hkl)
   ·have hb15R := hb15; try simp only [zz] at hb15
    refine pwp_skip ?_
    refine block_norm ?_
    refine seq_norm (hK11 _ ?_); clear hK11 K11
    refine pwp_plain rfl fun K17 hK17 => ?_
    refine p_mS rfl ?_
    refine p_e rfl (e_adL rfl rfl) ?_
    refine p_aS rfl ?_
    refine p_end (hK17 _ ?_); clear hK17 K17
    exact loop_again (k + 1) (by show _ < _; omega) ⟨rfl, rfl, trivial⟩ ⟨rfl, trivial⟩ (by exact ⟨by exact hkl, by exact big_s hin hy (by omega), hihj7_0⟩)
 ·have hb10R := hb10; try simp only [zz] at hb10
  have hkl : its.length ≤ k := by simp only [List.length_map] at *; omega
  refine pwp_exit ?_
  refine exit_seq ?_
  clear hK9 K9
  refine exit_loop ?_
  refine exit_here ?_
  refine seq_norm (hK3 _ ?_); clear hK3 K3
  refine pwp_seq_plain rfl fun K18 hK18 => ?_
  refine p_aS rfl ?_
  refine p_end (hK18 _ ?_); clear hK18 K18
  refine pwp_ret ?_
  refine end1 (v := .sc _) rfl ?_
  first
    | exact out_b (big_t hy (by omega))
    | exact out_b (big_f hin hkl)

theorem fr91 : (inFrame Try.f91.ntmps (Try.f91.body.getD .skip) && Try.f91.results.toList.all (resScope Try.f91.ntmps)) = true := by kernel_rfl
theorem fitsR (its : List Item) (x : Lorry) (hl : its.length ≤ 1000) (hm : ∀ y ∈ its, 0 ≤ y.mass ∧ y.mass ≤ 100000000) (hx : 0 ≤ x.mass ∧ x.mass ≤ 100000000) (most : Int) (k : Nat) (hk : k ≤ its.length) (IH : k < its.length → ∀ ls : List Int, (∀ z ∈ ls, 0 ≤ z ∧ z ≤ 100000000) → ls.length ≤ k + 1 → PCalls Try.prog 91 [.lit true 3 (its.map Item.enc), .agg x.enc, .lit true 1 (ls.map ci), .int ((k : Int) + 1), .int most] (.bool (fitsV x.mass most (its.drop (k + 1)) ls))) (ls : List Int) (hb : ∀ z ∈ ls, 0 ≤ z ∧ z ≤ 100000000) (hll : ls.length ≤ k) : PCalls Try.prog 91 [.lit true 3 (its.map Item.enc), .agg x.enc, .lit true 1 (ls.map ci), .int k, .int most] (.bool (fitsV x.mass most (its.drop k) ls)) := by
 refine PCalls.of_code Try.func91 rfl rfl (by kernel_rfl) mixed fr91 (by show _ ≤ 79; simp) (.sc _) ?_
 refine pwp_seq_plain rfl fun K1 hK1 => ?_
 refine p_new rfl (e_box (n := 2) rfl rfl) ⟨rfl, by decide⟩ ?_
 refine p_aS rfl ?_
 refine p_end (hK1 _ ?_); clear hK1 K1
 refine pwp_seq_seq ?_
 refine pwp_seq_plain rfl fun K2 hK2 => ?_
 refine p_mS rfl ?_
 refine p_e rfl (e_move (v := .lit _ _ _) rfl) ?_
 refine p_e rfl (e_len rfl (by kernel_rfl)) ?_
 refine p_e rfl (e_eq rfl rfl) ?_
 refine p_end (hK2 _ ?_); clear hK2 K2
 refine pwp_seq_cond rfl fun K3 hK3 => ⟨fun hb4 => ?_, fun hb4 => ?_⟩
 ·have hb4R := hb4; try simp only [zz] at hb4
  refine pwp_seq_plain rfl fun K5 hK5 => ?_
  refine p_aS rfl ?_
  refine p_end (hK5 _ ?_); clear hK5 K5
  refine pwp_ret ?_
  refine ret_seq ?_
  refine end1 (v := .sc _) rfl ?_
  first
    | exact out_b (fit_0 (by simp only [List.length_map] at *; omega))
    | exact out_b (fit_t hd hil ha (by omega) (by assumption))
    | exact out_b (fit_f hd hin hil (by omega))
    | exact out_b (fit_l hd hin hil (by omega))
 ·have hb4R := hb4; try simp only [zz] at hb4
  refine pwp_skip ?_
  refine seq_norm (hK3 _ ?_); clear hK3 K3
  refine pwp_seq_seq ?_
  have hkl : k < its.length := by simp only [List.length_map] at *; omega
  replace IH := IH hkl
  obtain ⟨y, hy, hd⟩ : ∃ y, its[k]? = some y ∧ its.drop k = y :: its.drop (k + 1) := ⟨_, List.getElem?_eq_getElem hkl, List.drop_eq_getElem_cons hkl⟩
  have hms := hm y (List.mem_of_getElem? hy)
  refine pwp_seq_plain rfl fun K6 hK6 => ?_
  refine p_aS rfl ?_
  refine p_end (hK6 _ ?_); clear hK6 K6
  refine pwp_seq_block fun K7 hK7 => ?_
  refine pwp_loopR (α := Nat) [0, 2, 3, 4, 6] (fun (i : Nat) => [(11, .int (i))]) (fun (i : Nat) (h : Heap) (_ : Nat → Nat) => ((i) ≤ ls.length) ∧ (∀ j, j < (i) → fitT x.mass most (its.drop (k + 1)) ls y.mass j = false) ∧ (h (6, 0) = some (.rows 2 [Lorry.enc x]))) (fun (i : Nat) => ls.length - (i)) (0) (by exact ⟨rfl, trivial⟩) (by exact ⟨by exact Nat.zero_le _, by exact fun j h => absurd h (Nat.not_lt_zero _), (hset_self _ _ _)⟩) fun i r8 h9 c10 hj11 => ?_
  obtain ⟨hi, hin, hihj11_0⟩ := hj11
  try dsimp only at hi
  try dsimp only at hin
  try dsimp only at hihj11_0
  show pwp _ _ (loopQ _ _ _) ⟨sets (mix _ _ _) [(11, .int i)], _, _⟩
  refine pwp_seq_seq ?_
  refine pwp_seq_plain rfl fun K12 hK12 => ?_
  refine p_mS rfl ?_
  refine p_e rfl (e_move (v := .lit _ _ _) rfl) ?_
  refine p_e rfl (e_len rfl (by kernel_rfl)) ?_
  refine p_e rfl (e_lt rfl rfl) ?_
  refine p_end (hK12 _ ?_); clear hK12 K12
  refine pwp_seq_cond rfl fun K13 hK13 => ⟨fun hb14 => ?_, fun hb14 => ?_⟩
  ·have hb14R := hb14; try simp only [zz] at hb14
   have hil : i < ls.length := by simp only [List.length_map] at *; omega
   obtain ⟨a, ha⟩ : ∃ a, ls[i]? = some a := ⟨_, List.getElem?_eq_getElem hil⟩
   have hab := hb a (List.mem_of_getElem? ha)
   refine pwp_skip ?_
   refine seq_norm (hK13 _ ?_); clear hK13 K13
   refine pwp_seq_block fun K15 hK15 => ?_
   refine pwp_seq_gops rfl fun K16 hK16 => ?_
   refine g_begin ?_
   refine g_e rfl (e_move (v := .lit _ _ _) rfl) ?_
   refine g_mS rfl rfl ?_
   refine g_e rfl (e_ixL rfl rfl) ?_
   refine g_e rfl (e_load (v := .sc _) rfl (by kernel_rfl) (by kernel_rfl) (by kernel_rfl) (by first | omega | (simp only [List.length_map]; omega)) (by decide) ((cell_map ha _).trans rfl)) ?_
   refine g_e rfl (e_move (v := .lit _ _ _) rfl) ?_
   refine g_mS rfl rfl ?_
   refine g_e rfl (e_ixL rfl rfl) ?_
   refine g_e rfl (e_fb pl3 rfl) ?_
   refine g_e rfl (e_load (v := .sc _) rfl (by kernel_rfl) (by kernel_rfl) (by kernel_rfl) (by first | omega | (simp only [List.length_map]; omega)) (by decide) ((cell_map hy _).trans rfl)) ?_
   refine g_e rfl (e_adL rfl rfl) ?_
   refine g_e rfl (e_faQ pl2 rfl) ?_
   refine g_e rfl (e_lH (v := .sc _) rfl hihj11_0 rfl) ?_
   refine g_e rfl (e_le rfl rfl) ?_
   refine g_end (ds := []) (by kernel_rfl) rfl (hK16 _ ?_); clear hK16 K16
   refine pwp_cond rfl (fun hb17 => ?_) (fun hb17 => ?_)
   ·have hb17R := hb17; try simp only [zz] at hb17
    refine pwp_seq_plain rfl fun K18 hK18 => ?_
    refine p_e rfl (e_move (v := .lit _ _ _) rfl) ?_
    refine p_hcall rfl (HCallsR.new1 37 (copyN ls (by omega)) (.cons inn_lit .nil) (by rw [List.length_map])) fun v37 h37 c37 hR37 => ?_
    obtain ⟨rfl, rfl, rfl⟩ := hR37
    refine p_e rfl (e_assign (v := .ref _ _ _ _) rfl) ?_
    refine p_end (hK18 _ ?_); clear hK18 K18
    refine pwp_seq_gops rfl fun K19 hK19 => ?_
    refine s_begin ?_
    refine s_e rfl (e_move (v := .ref _ _ _ _) rfl) ?_
    refine s_e rfl (e_move (v := .sc _) rfl) ?_
    refine s_e rfl (e_move (v := .ref _ _ _ _) rfl) ?_
    refine s_e rfl (e_move (v := .sc _) rfl) ?_
    refine s_e rfl (e_ixaR0 rfl rfl (by kernel_rfl) (by kernel_rfl) (by simp; omega)) ?_
    refine s_step [37] (by simp) rfl rfl rfl rfl (e_loadI (a := a) rfl (hset_self _ _ _) (by kernel_rfl) (by kernel_rfl) (by kernel_rfl) ha) trivial ?_
    refine s_e rfl (e_move (v := .lit _ _ _) rfl) ?_
    refine s_e rfl (e_move (v := .sc _) rfl) ?_
    refine s_e rfl (e_ixL rfl rfl) ?_
    refine s_e rfl (e_fb pl3 rfl) ?_
    refine s_e rfl (e_load (v := .sc _) rfl (by kernel_rfl) (by kernel_rfl) (by kernel_rfl) (by first | omega | (simp only [List.length_map]; omega)) (by decide) ((cell_map hy _).trans rfl)) ?_
    refine s_e rfl (e_adL rfl rfl) ?_
    refine s_e rfl (e_ixaR0 rfl rfl (by kernel_rfl) (by kernel_rfl) (by simp; omega)) ?_
    refine s_store [37] (by simp) rfl rfl (e_storeI (zs := ls) (a := (a + y.mass)) rfl (hset_self _ _ _) rfl (by omega) (by kernel_rfl) (by kernel_rfl)) trivial ?_
    refine s_end (ds := []) (by kernel_rfl) (by kernel_rfl) (hK19 _ ?_); clear hK19 K19
    refine pwp_seq_plain rfl fun K20 hK20 => ?_
    refine p_e rfl (e_move (v := .lit _ _ _) rfl) ?_
    refine p_e rfl (e_loadHA (cs := Lorry.enc (x)) (n := 2) rfl ((hset_ne (key_ne rfl)).trans ((hset_ne (key_ne rfl)).trans hihj11_0)) (by kernel_rfl) (by kernel_rfl) (by kernel_rfl) (by exact Nat.zero_lt_one) (by decide) rfl) ?_
    refine p_e rfl (e_move (v := .ref _ _ _ _) rfl) ?_
    refine p_mS rfl ?_
    refine p_e rfl (e_adL rfl rfl) ?_
    refine p_mS rfl ?_
    refine p_call rfl (.cons inn_lit (.cons (inn_agg (Lorry.pure _)) (.cons (inn_ref (rows := ((ls).set ((i : Int)).toNat (a + y.mass)).map ci) (hset_self _ _ _) (by first | (simp; done) | (simp only [List.length_map]; omega)) rfl (by exact pure_map ci_pure)) (.cons inn_sc (.cons inn_sc .nil))))) (IH _ (by first | exact lo_set hb hms.1 ha (by omega) hx.2 | exact lo_app hb hms) (by simp only [List.length_set, List.length_append, List.length_cons, List.length_nil]; omega)) ?_
    refine p_end (hK20 _ ?_); clear hK20 K20
    refine pwp_cond rfl (fun hb21 => ?_) (fun hb21 => ?_)
    ·have hb21R := hb21; try simp only [zz] at hb21
     refine pwp_seq_plain rfl fun K22 hK22 => ?_
     refine p_aS rfl ?_
     refine p_end (hK22 _ ?_); clear hK22 K22
     refine pwp_ret ?_
     refine ret_block ?_
     refine ret_seq ?_
     refine ret_loop ?_
     refine ret_block ?_
     refine ret_seq ?_
     refine end1 (v := .sc _) rfl ?_
     first
       | exact out_b (fit_0 (by simp only [List.length_map] at *; omega))
       | exact out_b (fit_t hd hil ha (by omega) (by assumption))
       | exact out_b (fit_f hd hin hil (by omega))
       | exact out_b (fit_l hd hin hil (by omega))
    ·have hb21R := hb21; try simp only [zz] at hb21
     refine pwp_skip ?_
     refine block_norm ?_
     refine seq_norm (hK15 _ ?_); clear hK15 K15
     refine pwp_plain rfl fun K23 hK23 => ?_
     refine p_mS rfl ?_
     refine p_e rfl (e_adL rfl rfl) ?_
     refine p_aS rfl ?_
     refine p_end (hK23 _ ?_); clear hK23 K23
     exact loop_again (i + 1) (by show _ < _; omega) ⟨rfl, rfl, rfl, rfl, rfl, trivial⟩ ⟨rfl, trivial⟩ (by exact ⟨by exact hil, by exact fit_s hin ha (by first | exact .inl (by omega) | exact .inr (by assumption)), ((hset_ne (key_ne rfl)).trans ((hset_ne (key_ne rfl)).trans hihj11_0))⟩)
   ·have hb17R := hb17; try simp only [zz] at hb17
    refine pwp_skip ?_
    refine block_norm ?_
    refine seq_norm (hK15 _ ?_); clear hK15 K15
    refine pwp_plain rfl fun K24 hK24 => ?_
    refine p_mS rfl ?_
    refine p_e rfl (e_adL rfl rfl) ?_
    refine p_aS rfl ?_
    refine p_end (hK24 _ ?_); clear hK24 K24
    exact loop_again (i + 1) (by show _ < _; omega) ⟨rfl, rfl, rfl, rfl, rfl, trivial⟩ ⟨rfl, trivial⟩ (by exact ⟨by exact hil, by exact fit_s hin ha (by first | exact .inl (by omega) | exact .inr (by assumption)), hihj11_0⟩)
  ·have hb14R := hb14; try simp only [zz] at hb14
   have hil : ls.length ≤ i := by simp only [List.length_map] at *; omega
   refine pwp_exit ?_
   refine exit_seq ?_
   clear hK13 K13
   refine exit_loop ?_
   refine exit_here ?_
   refine seq_norm (hK7 _ ?_); clear hK7 K7
   refine pwp_seq_gops rfl fun K25 hK25 => ?_
   refine s_begin ?_
   refine s_e rfl (e_move (v := .lit _ _ _) rfl) ?_
   refine s_e rfl (e_len rfl (by kernel_rfl)) ?_
   refine s_e rfl (e_move (v := .sc _) rfl) ?_
   refine s_e rfl (e_lt rfl rfl) ?_
   refine s_e rfl (e_move (v := .sc _) rfl) ?_
   refine s_cases (fun hb26 => ?_) (fun hb26 => ?_)
   ·have hb26R := hb26; try simp only [zz] at hb26
    refine s_e rfl (e_move (v := .lit _ _ _) rfl) ?_
    refine s_step [6] (by simp) rfl rfl rfl rfl (e_loadHA (cs := Lorry.enc (x)) (n := 2) rfl hihj11_0 (by kernel_rfl) (by kernel_rfl) (by kernel_rfl) (by exact Nat.zero_lt_one) (by decide) rfl) trivial ?_
    refine s_e rfl (e_move (v := .lit _ _ _) rfl) ?_
    refine s_callN (args := [.lit _ _ _]) [] (by intro k hk; simp [keysOf, Go.Pv.keyOf] at hk) rfl rfl rfl rfl (.cons inn_lit .nil) (copyN _ (by omega)) ?_
    refine s_e rfl (e_move (v := .lit _ _ _) rfl) ?_
    refine s_e rfl (e_move (v := .sc _) rfl) ?_
    refine s_e rfl (e_ixL rfl rfl) ?_
    refine s_e rfl (e_fb pl3 rfl) ?_
    refine s_e rfl (e_load (v := .sc _) rfl (by kernel_rfl) (by kernel_rfl) (by kernel_rfl) (by first | omega | (simp only [List.length_map]; omega)) (by decide) ((cell_map hy _).trans rfl)) ?_
    refine s_new [] (by simp) rfl rfl rfl rfl (e_bslice (rows := [ci y.mass]) (zs := [.int 0]) (sz := 1) (by kernel_rfl) (by kernel_rfl) rfl (by kernel_rfl) (by decide) rfl rfl (by exact ⟨by decide, rfl, rfl, trivial⟩) rfl) trivial ?_
    refine s_appG [66, 72] [66, 73] rfl rfl (by simp) (by simp) (by simp) rfl rfl rfl (.ofRef ((hset_ne (key_ne rfl)).trans (hset_self _ _ _)) rfl) (SrcAt.ref (hset_self _ _ _) rfl) rfl (by kernel_rfl) (by simp only [List.length_append, List.length_map, List.length_nil, List.length_cons]; omega) fun v27 h28 c29 hs30 hf31 => ?_
    have ho32 := (hf31 (6, _) (key_ne rfl) (fun _ _ => key_ne rfl)).trans ((hset_ne (key_ne rfl)).trans ((hset_ne (key_ne rfl)).trans hihj11_0))
    have ho33 := (hf31 (72, _) (key_ne rfl) (fun _ _ => key_ne rfl)).trans (hset_self _ _ _)
    refine s_e rfl (e_move (v := .sc _) rfl) ?_
    refine s_e rfl (e_adL rfl rfl) ?_
    refine s_e rfl (e_move (v := .sc _) rfl) ?_
    refine s_call (args := [.lit _ _ _, .agg _, v27, .sc _, .sc _]) [73] (by intro k hk; simp only [List.flatMap_cons, List.flatMap_nil, List.append_nil, List.nil_append, keysOf_lit, keysOf_sc, keysOf_lor] at hk; exact List.mem_cons.2 (by have := sl_keys hs30 k hk; first | exact .inl this | exact .inr (by simp [this]))) rfl rfl rfl rfl (.cons inn_lit (.cons (inn_agg (Lorry.pure _)) (.cons (SliceAt.inn (rows' := ((ls ++ [y.mass])).map ci) hs30 (by simp) (by (intro row hr; first | exact pure_map ci_pure row hr | skip; rcases List.mem_append.1 hr with hr | hr; exact pure_map ci_pure row hr; simp at hr; subst hr; exact ci_pure _))) (.cons inn_sc (.cons inn_sc .nil))))) (IH _ (by first | exact lo_set hb hms.1 ha (by omega) hx.2 | exact lo_app hb hms) (by simp only [List.length_set, List.length_append, List.length_cons, List.length_nil]; omega)) ?_
    refine s_e rfl (e_pickT (v := .sc _) rfl rfl) ?_
    refine s_e rfl (e_assign (v := .sc _) rfl) ?_
    refine s_end (ds := [63, 64, 65, 66, 67, 68, 69, 70, 71, 72, 73, 74, 75, 76, 77]) (by kernel_rfl) (by kernel_rfl) (hK25 _ ?_); clear hK25 K25
    refine pwp_ret ?_
    refine end1 (v := .sc _) rfl ?_
    first
      | exact out_b (fit_0 (by simp only [List.length_map] at *; omega))
      | exact out_b (fit_t hd hil ha (by omega) (by assumption))
      | exact out_b (fit_f hd hin hil (by omega))
      | exact out_b (fit_l hd hin hil (by omega))
   ·have hb26R := hb26; try simp only [zz] at hb26
    refine s_skip rfl rfl rfl ?_
    refine s_skip rfl rfl rfl ?_
    refine s_skip rfl rfl rfl ?_
    refine s_nocall (args := [.dead]) [] (by intro k hk; simp [keysOf, Go.Pv.keyOf] at hk) rfl rfl rfl ?_
    refine s_skip rfl rfl rfl ?_
    refine s_skip rfl rfl rfl ?_
    refine s_skip rfl rfl rfl ?_
    refine s_skip rfl rfl rfl ?_
    refine s_skip rfl rfl rfl ?_
    refine s_skip rfl rfl rfl ?_
    refine s_skip rfl rfl rfl ?_
    refine s_skip rfl rfl rfl ?_
    refine s_skip rfl rfl rfl ?_
    refine s_skip rfl rfl rfl ?_
    refine s_nocall (args := [.dead, .dead, .dead, .dead, .dead]) [] (by intro k hk; simp [keysOf, Go.Pv.keyOf] at hk) rfl rfl rfl ?_
    refine s_e rfl (e_pickF (v := .sc _) rfl rfl) ?_
    refine s_e rfl (e_assign (v := .sc _) rfl) ?_
    refine s_end (ds := [63, 64, 65, 66, 67, 68, 69, 70, 71, 72, 73, 74, 75, 76, 77]) (by kernel_rfl) (by kernel_rfl) (hK25 _ ?_); clear hK25 K25
    refine pwp_ret ?_
    refine end1 (v := .sc _) rfl ?_
    first
      | exact out_b (fit_0 (by simp only [List.length_map] at *; omega))
      | exact out_b (fit_t hd hil ha (by omega) (by assumption))
      | exact out_b (fit_f hd hin hil (by omega))
      | exact out_b (fit_l hd hin hil (by omega))

theorem fitsC (its : List Item) (x : Lorry) (hl : its.length ≤ 1000) (hm : ∀ y ∈ its, 0 ≤ y.mass ∧ y.mass ≤ 100000000) (hx : 0 ≤ x.mass ∧ x.mass ≤ 100000000) (most : Int) : ∀ (m k : Nat), k + m = its.length → ∀ ls : List Int, (∀ z ∈ ls, 0 ≤ z ∧ z ≤ 100000000) → ls.length ≤ k → PCalls Try.prog 91 [.lit true 3 (its.map Item.enc), .agg x.enc, .lit true 1 (ls.map ci), .int (k : Int), .int most] (.bool (fitsV x.mass most (its.drop k) ls))
 | 0, k, hk, ls, hb, hll => fitsR its x hl hm hx most k (by omega) (fun h => by omega) ls hb hll
 | m + 1, k, hk, ls, hb, hll => fitsR its x hl hm hx most k (by omega) (fun h ls hb hll => fitsC its x hl hm hx most m (k + 1) (by omega) ls hb hll) ls hb hll
theorem fits0 (its : List Item) (x : Lorry) (hl : its.length ≤ 1000) (hm : ∀ y ∈ its, 0 ≤ y.mass ∧ y.mass ≤ 100000000) (hx : 0 ≤ x.mass ∧ x.mass ≤ 100000000) (most : Int) : PCalls Try.prog 91 [.lit true 3 (its.map Item.enc), .agg x.enc, .lit true 1 [], .int 0, .int most] (.bool (fitsV x.mass most its [])) :=
 fitsC its x hl hm hx most its.length 0 (Nat.zero_add _) [] (fun z hz => absurd hz List.not_mem_nil) (Nat.le_refl _)
theorem fr56 : (inFrame Try.f56.ntmps (Try.f56.body.getD .skip) && Try.f56.results.toList.all (resScope Try.f56.ntmps)) = true := by kernel_rfl
theorem leastLC (its : List Item) (x : Lorry) (hl : its.length ≤ 1000) (hm : ∀ y ∈ its, 0 ≤ y.mass ∧ y.mass ≤ 100000000) (hx : 0 ≤ x.mass ∧ x.mass ≤ 100000000) (n : Nat) (hn : n ≤ 1000) (h1 : fitsV x.mass (n : Int) its [] = true) (h2 : ∀ j : Nat, j < n → fitsV x.mass (j : Int) its [] = false) : PCalls Try.prog 56 [.lit true 3 (its.map Item.enc), .agg x.enc] (.int (n : Int)) := by
 refine PCalls.of_code Try.func56 rfl rfl (by kernel_rfl) mixed fr56 (by show _ ≤ 14; simp) (.sc _) ?_
 refine pwp_seq_plain rfl fun K1 hK1 => ?_
 refine p_new rfl (e_box (n := 2) rfl rfl) ⟨rfl, by decide⟩ ?_
 refine p_aS rfl ?_
 refine p_end (hK1 _ ?_); clear hK1 K1
 refine pwp_seq_plain rfl fun K2 hK2 => ?_
 refine p_aS rfl ?_
 refine p_end (hK2 _ ?_); clear hK2 K2
 refine pwp_seq_block fun K3 hK3 => ?_
 refine pwp_loopR (α := Nat) [0, 3] (fun (k : Nat) => [(5, .int (k))]) (fun (k : Nat) (h : Heap) (_ : Nat → Nat) => ((k) ≤ n) ∧ (h (3, 0) = some (.rows 2 [Lorry.enc x]))) (fun (k : Nat) => n - (k)) (0) (by exact ⟨rfl, trivial⟩) (by exact ⟨by exact Nat.zero_le _, (hset_self _ _ _)⟩) fun k r4 h5 c6 hj7 => ?_
 obtain ⟨hk, hihj7_0⟩ := hj7
 try dsimp only at hk
 try dsimp only at hihj7_0
 show pwp _ _ (loopQ _ _ _) ⟨sets (mix _ _ _) [(5, .int k)], _, _⟩
 refine pwp_seq_seq ?_
 refine pwp_seq_plain rfl fun K8 hK8 => ?_
 refine p_e rfl (e_move (v := .lit _ _ _) rfl) ?_
 refine p_e rfl (e_loadHA (cs := Lorry.enc (x)) (n := 2) rfl hihj7_0 (by kernel_rfl) (by kernel_rfl) (by kernel_rfl) (by exact Nat.zero_lt_one) (by decide) rfl) ?_
 refine p_mS rfl ?_
 refine p_call rfl (.cons inn_lit (.cons (inn_agg (Lorry.pure _)) (.cons inn_nil (.cons inn_sc (.cons inn_sc .nil))))) (fits0 its x hl hm hx (k : Int)) ?_
 refine p_e rfl (e_not rfl) ?_
 refine p_end (hK8 _ ?_); clear hK8 K8
 refine pwp_seq_cond rfl fun K9 hK9 => ⟨fun hb10 => ?_, fun hb10 => ?_⟩
 ·have hb10R := hb10; try simp only [zz] at hb10
  have hkn : k ≠ n := fun e => by subst e; simp_all
  have hkn2 : k < n := by omega
  refine pwp_skip ?_
  refine seq_norm (hK9 _ ?_); clear hK9 K9
  refine pwp_block ?_
  refine pwp_plain rfl fun K11 hK11 => ?_
  refine p_mS rfl ?_
  refine p_e rfl (e_adL rfl rfl) ?_
  refine p_aS rfl ?_
  refine p_end (hK11 _ ?_); clear hK11 K11
  refine block_norm ?_
  exact loop_again (k + 1) (by show _ < _; omega) ⟨rfl, rfl, trivial⟩ ⟨rfl, trivial⟩ (by exact ⟨by exact hkn2, hihj7_0⟩)
 ·have hb10R := hb10; try simp only [zz] at hb10
  have hkn : k = n := by rcases Nat.lt_or_ge k n with q | q; exact absurd (h2 k q) (by simp_all); omega
  refine pwp_exit ?_
  refine exit_seq ?_
  clear hK9 K9
  refine exit_loop ?_
  refine exit_here ?_
  refine seq_norm (hK3 _ ?_); clear hK3 K3
  refine pwp_seq_plain rfl fun K12 hK12 => ?_
  refine p_mS rfl ?_
  refine p_aS rfl ?_
  refine p_end (hK12 _ ?_); clear hK12 K12
  refine pwp_ret ?_
  refine end1 (v := .sc _) rfl ?_
  exact out_i (by rw [hkn])

end Go.Proofs.Ytigdmkhdmbbfiaa
