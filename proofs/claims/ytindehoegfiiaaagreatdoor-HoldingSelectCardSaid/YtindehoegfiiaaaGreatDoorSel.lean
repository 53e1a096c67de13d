/- Patterns of ties. No conditions. -/
import Derived.Test.YtindehoegfiiaaaGreatDoorGro
set_option linter.unusedSimpArgs false
set_option linter.unusedVariables false
set_option maxRecDepth 100000
namespace Go.Proofs.YtindehoegfiiaaaGreatDoor
open Go Go.Pv
theorem eqOk_Tie (a b : Tie) : eqOk Tryz.prog 6 55 (.agg a.enc) (.agg b.enc) = true := by kernel_rfl
theorem eqV_Tie (a b : Tie) : eqV Tryz.prog 6 55 (.agg a.enc) (.agg b.enc) = decide (a = b) := by
 have h : eqV Tryz.prog 6 55 (.agg a.enc) (.agg b.enc) = ((a.standard == b.standard) && ((a.level == b.level) && true)) := by kernel_rfl
 rw [h]
 cases a; cases b
 simp only [Tie.mk.injEq]
 rw [Bool.eq_iff_iff]
 simp
def patE (p : Pattern) : Int := if ¬ (1 ≤ p.step ∧ p.step ≤ 30) ∨ ¬ (1 ≤ p.rise ∧ p.rise ≤ 30) ∨ ¬ (0 ≤ p.shift ∧ p.shift ≤ 30) then 2 else 0
def accR (p : Pattern) (m i : Nat) (b : List Tie) : Nat → List Tie
 | 0 => b
 | r + 1 => if ((r : Int) + 1) * p.rise ≤ (m : Int) ∧ (i : Int) % p.step = (r : Int) * p.shift % p.step then accR p m i b r ++ [⟨(i : Int), ((r : Int) + 1) * p.rise - 1⟩] else accR p m i b r
def accL (p : Pattern) (m : Nat) : Nat → List Tie
 | 0 => []
 | k + 1 => accR p m k (accL p m k) m
def slX (g : Grid) (p : Pattern) : List Tie × Int :=
 if gridE g ≠ 0 then ([], gridE g) else if patE p ≠ 0 then ([], patE p) else (accL p g.levels.length g.along.length, 0)
section
variable {p : Pattern} {m i r k : Nat} {b : List Tie} {g : Grid}
theorem accR_len : (accR p m i b r).length ≤ b.length + r := by
 induction r with
 | zero => exact Nat.le_refl _
 | succ r ih =>
   rw [accR]
   split
   · rw [List.length_append]; simp only [List.length_cons, List.length_nil]; omega
   · omega
theorem accL_len (hm : m ≤ 30) : (accL p m k).length ≤ 30 * k := by
 induction k with
 | zero => exact Nat.le_refl _
 | succ k ih =>
   rw [accL]
   have := accR_len (p := p) (m := m) (i := k) (b := accL p m k) (r := m)
   omega
theorem accR_t (h : ((r : Int) + 1) * p.rise ≤ (m : Int)) (h2 : (i : Int) % p.step = (r : Int) * p.shift % p.step) : accR p m i b (r + 1) = accR p m i b r ++ [⟨(i : Int), ((r : Int) + 1) * p.rise - 1⟩] := by rw [accR, if_pos ⟨h, h2⟩]
theorem accR_f (h2 : ¬ (i : Int) % p.step = (r : Int) * p.shift % p.step) : accR p m i b (r + 1) = accR p m i b r := by rw [accR, if_neg (fun q => h2 q.2)]
theorem accR_stop (hr : 1 ≤ p.rise) (h : ¬ ((r : Int) + 1) * p.rise ≤ (m : Int)) : ∀ d, accR p m i b (r + d) = accR p m i b r
 | 0 => rfl
 | d + 1 => by
   rw [← Nat.add_assoc, accR, if_neg, accR_stop hr h d]
   rintro ⟨q, _⟩
   apply h
   have : ((r : Int) + 1) * p.rise ≤ (((r + d : Nat) : Int) + 1) * p.rise := Int.mul_le_mul_of_nonneg_right (by omega) (by omega)
   omega
theorem accR_end (hr : 1 ≤ p.rise) (h : ¬ ((r : Int) + 1) * p.rise ≤ (m : Int)) (hm : r ≤ m) : accR p m i b r = accR p m i b m := by
 have := accR_stop (b := b) (i := i) hr h (m - r)
 rw [show r + (m - r) = m by omega] at this; exact this.symm
theorem row_le (hr : 1 ≤ p.rise ∧ p.rise ≤ 30) (h : ((r : Int) + 1) * p.rise ≤ (m : Int)) : r + 1 ≤ m := by
 have : ((r : Int) + 1) * 1 ≤ ((r : Int) + 1) * p.rise := Int.mul_le_mul_of_nonneg_left hr.1 (by omega)
 omega
theorem row_b (hr : 1 ≤ p.rise ∧ p.rise ≤ 30) (h : r ≤ 30) : 0 ≤ ((r : Int) + 1) * p.rise ∧ ((r : Int) + 1) * p.rise ≤ 31 * 30 := by
 refine ⟨Int.mul_nonneg (by omega) (by omega), ?_⟩
 have h1 : ((r : Int) + 1) * p.rise ≤ 31 * p.rise := Int.mul_le_mul_of_nonneg_right (by omega) (by omega)
 omega
theorem shift_b (hr : 0 ≤ p.shift ∧ p.shift ≤ 30) (h : r ≤ 30) : 0 ≤ (r : Int) * p.shift ∧ (r : Int) * p.shift ≤ 30 * 30 := by
 refine ⟨Int.mul_nonneg (by omega) (by omega), ?_⟩
 have h1 : (r : Int) * p.shift ≤ 30 * p.shift := Int.mul_le_mul_of_nonneg_right (by omega) (by omega)
 omega
theorem grd_shape (h : gridE g = 0) : FacOK g ∧ ShpOK g := by
 by_cases h1 : FacOK g
 · by_cases h2 : ShpOK g
   · exact ⟨h1, h2⟩
   · rw [← grd_11 h1 h2] at h; cases h
 · rw [← grd_2f h1] at h; cases h
theorem pat_ok (h : patE p = 0) : (1 ≤ p.step ∧ p.step ≤ 30) ∧ (1 ≤ p.rise ∧ p.rise ≤ 30) ∧ (0 ≤ p.shift ∧ p.shift ≤ 30) := by
 rw [patE] at h
 by_cases q : ¬ (1 ≤ p.step ∧ p.step ≤ 30) ∨ ¬ (1 ≤ p.rise ∧ p.rise ≤ 30) ∨ ¬ (0 ≤ p.shift ∧ p.shift ≤ 30)
 · rw [if_pos q] at h; cases h
 · omega
theorem slX_g (h : gridE g ≠ 0) : slX g p = ([], gridE g) := by rw [slX, if_pos h]
theorem slX_p (h : gridE g = 0) (h2 : patE p ≠ 0) : slX g p = ([], patE p) := by rw [slX, if_neg (fun q => q h), if_pos h2]
theorem slX_0 (h : gridE g = 0) (h2 : patE p = 0) : slX g p = (accL p g.levels.length g.along.length, 0) := by rw [slX, if_neg (fun q => q h), if_neg (fun q => q h2)]
theorem tie_clean (a : Tie) : ∀ p ∈ a.enc, Go.Pv.Clean p ∧ p.cell = true := fun p hp => by
 simp only [Tie.enc, List.mem_cons, List.not_mem_nil, or_false] at hp
 rcases hp with rfl | rfl <;> exact ⟨.sc _, rfl⟩
theorem slX_oe {h : Heap} {e : Int} {x : List Tie × Int} (hx : x = ([], e)) : Out h (.tup [.nil, .int e]) (.tup [.lit false 2 (x.1.map Tie.enc), .int x.2]) := by
 subst hx; exact out_2 (.nil 2) (out_i rfl)
theorem slX_o {h : Heap} {v : PV} {d : Nat} {x : List Tie × Int} {l : List Tie} (hv : SliceAt h d v 2 (l.map Tie.enc)) (hx : x = (l, 0)) : Out h (.tup [v, .int 0]) (.tup [.lit false 2 (x.1.map Tie.enc), .int x.2]) := by
 subst hx; exact out_2 (out_slice hv rfl (fun _ => rfl) tie_clean) (out_i rfl)
theorem slX_c (g : Grid) (p : Pattern) : (gridE g ≠ 0 ∧ (slX g p).1.length = 0 ∧ (slX g p).2 = gridE g) ∨ (gridE g = 0 ∧ patE p ≠ 0 ∧ (slX g p).1.length = 0 ∧ (slX g p).2 = patE p) ∨ (gridE g = 0 ∧ patE p = 0 ∧ (slX g p).1 = accL p g.levels.length g.along.length ∧ (slX g p).2 = 0) := by
 by_cases h1 : gridE g = 0
 · by_cases h2 : patE p = 0
   · rw [slX_0 h1 h2]; exact .inr (.inr ⟨h1, h2, rfl, rfl⟩)
   · rw [slX_p h1 h2]; exact .inr (.inl ⟨h1, h2, rfl, rfl⟩)
 · rw [slX_g h1]; exact .inl ⟨h1, rfl, rfl⟩
theorem slX_len (ha : g.along.length ≤ 100) (hb : g.levels.length ≤ 100) : (slX g p).1.length ≤ 3000 := by
 by_cases h1 : gridE g = 0
 · by_cases h2 : patE p = 0
   · rw [slX_0 h1 h2]
     have q := (grd_shape h1).2
     have := accL_len (p := p) (m := g.levels.length) (k := g.along.length) (by omega)
     show (accL p g.levels.length g.along.length).length ≤ 3000
     omega
   · rw [slX_p h1 h2]; exact Nat.zero_le _
 · rw [slX_g h1]; exact Nat.zero_le _
end
/-! ### Two lists that are the same -/
theorem same_f {α : Type} [DecidableEq α] {l m : List α} {k : Nat} {x y : α} (hx : l[k]? = some x) (hy : m[k]? = some y) (h : ¬ x = y) : false = decide (l = m) := (decide_eq_false fun q => by subst q; rw [hx] at hy; exact h (Option.some.inj hy)).symm
theorem same_l {α : Type} [DecidableEq α] {l m : List α} (h : ¬ l.length = m.length) : false = decide (l = m) := (decide_eq_false fun q => h (by rw [q])).symm
abbrev SameTo {α : Type} (l m : List α) (k : Nat) : Prop := ∀ i, i < k → l[i]? = m[i]?
theorem same_s {α : Type} {l m : List α} {k : Nat} {x y : α} (h : SameTo l m k) (hx : l[k]? = some x) (hy : m[k]? = some y) (he : x = y) : SameTo l m (k + 1) := fun i hi => by
 by_cases e : i = k
 · subst e; rw [hx, hy, he]
 · exact h i (by omega)
theorem same_t {α : Type} [DecidableEq α] {l m : List α} {k : Nat} (h : SameTo l m k) (hl : l.length = m.length) (hk : l.length ≤ k) : true = decide (l = m) := (decide_eq_true (List.ext_getElem? fun i => by
 by_cases e : i < k
 · exact h i e
 · rw [List.getElem?_eq_none (by omega), List.getElem?_eq_none (by omega)])).symm

theorem fr23 : (inFrame Tryz.f23.ntmps (Tryz.f23.body.getD .skip) && Tryz.f23.results.toList.all (resScope Tryz.f23.ntmps)) = true := by kernel_rfl
theorem SameTiesC (t t2 : Bool) (l l2 : List Tie) (hl : l.length ≤ 1000000) (hl2 : l2.length ≤ 1000000) : PCalls Tryz.prog 23 [.lit t 2 (l.map Tie.enc), .lit t2 2 (l2.map Tie.enc)] (.bool (decide (l = l2))) := by
 refine PCalls.of_code Tryz.func23 rfl rfl (by kernel_rfl) mixed fr23 (by show _ ≤ 26; simp) (.sc _) ?_
 refine pwp_seq_plain rfl fun K1 hK1 => ?_
 refine p_aS rfl ?_
 refine p_end (hK1 _ ?_); clear hK1 K1
 refine pwp_seq_seq ?_
 refine pwp_seq_plain rfl fun K2 hK2 => ?_
 refine p_e rfl (e_move (v := .lit _ _ _) rfl) ?_
 refine p_e rfl (e_len rfl (by kernel_rfl)) ?_
 refine p_e rfl (e_move (v := .lit _ _ _) rfl) ?_
 refine p_e rfl (e_len rfl (by kernel_rfl)) ?_
 refine p_e rfl (e_ne rfl rfl) ?_
 refine p_end (hK2 _ ?_); clear hK2 K2
 refine pwp_seq_cond rfl fun K3 hK3 => ⟨fun hb4 => ?_, fun hb4 => ?_⟩
 ·have hb4R := hb4; try simp only [zz] at hb4
  refine pwp_seq_plain rfl fun K5 hK5 => ?_
  refine p_aS rfl ?_
  refine p_end (hK5 _ ?_); clear hK5 K5
  refine pwp_ret ?_
  refine ret_seq ?_
  refine end1 (v := .sc _) rfl ?_
  first
    | exact out_b (same_l (by simp only [List.length_map] at *; omega))
    | exact out_b (same_f hx hy (by first | assumption | simp_all))
    | exact out_b (same_t hin hlen (by simp only [List.length_map] at *; omega))
 ·have hb4R := hb4; try simp only [zz] at hb4
  refine pwp_skip ?_
  refine seq_norm (hK3 _ ?_); clear hK3 K3
  refine pwp_seq_seq ?_
  have hlen : l.length = l2.length := by simp only [List.length_map] at *; omega
  refine pwp_seq_plain rfl fun K6 hK6 => ?_
  refine p_aS rfl ?_
  refine p_end (hK6 _ ?_); clear hK6 K6
  refine pwp_seq_block fun K7 hK7 => ?_
  refine pwp_loopR (α := Nat) [0, 1] (fun (k : Nat) => [(5, .int (k))]) (fun (k : Nat) (h : Heap) (_ : Nat → Nat) => ((k) ≤ l.length) ∧ (SameTo l l2 (k))) (fun (k : Nat) => l.length - (k)) (0) (by exact ⟨rfl, trivial⟩) (by exact ⟨by exact Nat.zero_le _, by exact fun i h => absurd h (Nat.not_lt_zero _)⟩) fun k r8 h9 c10 hj11 => ?_
  obtain ⟨hk, hin⟩ := hj11
  try dsimp only at hk
  try dsimp only at hin
  show pwp _ _ (loopQ _ _ _) ⟨sets (mix _ _ _) [(5, .int k)], _, _⟩
  refine pwp_seq_seq ?_
  refine pwp_seq_plain rfl fun K12 hK12 => ?_
  refine p_mS rfl ?_
  refine p_e rfl (e_move (v := .lit _ _ _) rfl) ?_
  refine p_e rfl (e_len rfl (by kernel_rfl)) ?_
  refine p_e rfl (e_lt rfl rfl) ?_
  refine p_end (hK12 _ ?_); clear hK12 K12
  refine pwp_seq_cond rfl fun K13 hK13 => ⟨fun hb14 => ?_, fun hb14 => ?_⟩
  ·have hb14R := hb14; try simp only [zz] at hb14
   obtain ⟨x, hx, hd, ht⟩ := get_lt (xs := l) (i := k) (by omega)
   obtain ⟨y, hy⟩ : ∃ y, l2[k]? = some y := ⟨_, List.getElem?_eq_getElem (by omega)⟩
   refine pwp_skip ?_
   refine seq_norm (hK13 _ ?_); clear hK13 K13
   refine pwp_seq_block fun K15 hK15 => ?_
   refine pwp_seq_gops rfl fun K16 hK16 => ?_
   refine g_begin ?_
   refine g_e rfl (e_move (v := .lit _ _ _) rfl) ?_
   refine g_mS rfl rfl ?_
   refine g_e rfl (e_ixL rfl rfl) ?_
   refine g_e rfl (e_loadA (n := 2) rfl (by kernel_rfl) (by kernel_rfl) (by kernel_rfl) (by first | omega | (simp only [List.length_map]; omega)) (by decide) (by first | exact agg_map hx rfl)) ?_
   refine g_e rfl (e_move (v := .lit _ _ _) rfl) ?_
   refine g_mS rfl rfl ?_
   refine g_e rfl (e_ixL rfl rfl) ?_
   refine g_e rfl (e_loadA (n := 2) rfl (by kernel_rfl) (by kernel_rfl) (by kernel_rfl) (by first | omega | (simp only [List.length_map]; omega)) (by decide) (by first | exact agg_map hy rfl)) ?_
   refine g_e rfl (e_ane rfl rfl (by kernel_rfl) (eqOk_Tie (x) (y)) (eqV_Tie (x) (y))) ?_
   refine g_end (ds := []) (by kernel_rfl) rfl (hK16 _ ?_); clear hK16 K16
   refine pwp_cond rfl (fun hb17 => ?_) (fun hb17 => ?_)
   ·have hb17R := hb17; try simp only [zz] at hb17
    refine pwp_seq_plain rfl fun K18 hK18 => ?_
    refine p_aS rfl ?_
    refine p_end (hK18 _ ?_); clear hK18 K18
    refine pwp_ret ?_
    refine ret_block ?_
    refine ret_seq ?_
    refine ret_loop ?_
    refine ret_block ?_
    refine ret_seq ?_
    refine end1 (v := .sc _) rfl ?_
    first
      | exact out_b (same_l (by simp only [List.length_map] at *; omega))
      | exact out_b (same_f hx hy (by first | assumption | simp_all))
      | exact out_b (same_t hin hlen (by simp only [List.length_map] at *; omega))
   ·have hb17R := hb17; try simp only [zz] at hb17
    refine pwp_skip ?_
    refine block_norm ?_
    refine seq_norm (hK15 _ ?_); clear hK15 K15
    refine pwp_plain rfl fun K19 hK19 => ?_
    refine p_mS rfl ?_
    refine p_e rfl (e_adL rfl rfl) ?_
    refine p_aS rfl ?_
    refine p_end (hK19 _ ?_); clear hK19 K19
    exact loop_again (k + 1) (by show _ < _; omega) ⟨rfl, rfl, trivial⟩ ⟨rfl, trivial⟩ (by exact ⟨by show _ + 1 ≤ _; simp only [List.length_map] at *; omega, by exact same_s hin hx hy (by first | assumption | simp_all)⟩)
  ·have hb14R := hb14; try simp only [zz] at hb14
   refine pwp_exit ?_
   refine exit_seq ?_
   clear hK13 K13
   refine exit_loop ?_
   refine exit_here ?_
   refine seq_norm (hK7 _ ?_); clear hK7 K7
   refine pwp_seq_plain rfl fun K20 hK20 => ?_
   refine p_aS rfl ?_
   refine p_end (hK20 _ ?_); clear hK20 K20
   refine pwp_ret ?_
   refine end1 (v := .sc _) rfl ?_
   first
     | exact out_b (same_l (by simp only [List.length_map] at *; omega))
     | exact out_b (same_f hx hy (by first | assumption | simp_all))
     | exact out_b (same_t hin hlen (by simp only [List.length_map] at *; omega))

theorem fr31 : (inFrame Tryz.f31.ntmps (Tryz.f31.body.getD .skip) && Tryz.f31.results.toList.all (resScope Tryz.f31.ntmps)) = true := by kernel_rfl
theorem refPatC (p : Pattern) : PCalls Tryz.prog 31 [.agg p.enc] (.int (patE p)) := by
 refine PCalls.of_code Tryz.func31 rfl rfl (by kernel_rfl) mixed fr31 (by show _ ≤ 19; simp) (.sc _) ?_
 refine pwp_seq_plain rfl fun K1 hK1 => ?_
 refine p_new rfl (e_box (n := 3) rfl rfl) ⟨rfl, by decide⟩ ?_
 refine p_aS rfl ?_
 refine p_end (hK1 _ ?_); clear hK1 K1
 refine pwp_seq_seq ?_
 refine pwp_seq_gops rfl fun K2 hK2 => ?_
 refine g_begin ?_
 refine g_e rfl (e_faQ pl3 rfl) ?_
 refine g_e rfl (e_lH (v := .sc _) rfl (hset_self _ _ _) rfl) ?_
 refine g_call rfl rfl rfl rfl (.cons inn_sc (.cons inn_sc (.cons inn_sc .nil))) (Within _ _ _) ?_
 refine g_e rfl (e_not rfl) ?_
 refine g_mS rfl rfl ?_
 refine g_cases (fun hb3 => ?_) (fun hb3 => ?_)
 ·have hb3R := hb3; try simp only [zz] at hb3
  iterate 2 refine g_skip rfl rfl rfl ?_
  refine g_nocall rfl rfl rfl ?_
  refine g_skip rfl rfl rfl ?_
  refine g_pT rfl rfl rfl ?_
  refine g_mS rfl rfl ?_
  iterate 2 refine g_skip rfl rfl rfl ?_
  refine g_nocall rfl rfl rfl ?_
  refine g_skip rfl rfl rfl ?_
  refine g_pT rfl rfl rfl ?_
  refine g_end (ds := [8, 9, 10, 11, 14, 15, 16, 17]) rfl rfl (hK2 _ ?_); clear hK2 K2
  refine pwp_seq_cond (t := true) rfl fun K4 hK4 => ⟨fun _ => ?_, nofun⟩
  refine pwp_seq_plain rfl fun K5 hK5 => ?_
  refine p_aS rfl ?_
  refine p_end (hK5 _ ?_); clear hK5 K5
  refine pwp_ret ?_
  refine ret_seq ?_
  refine end1 (v := .sc _) rfl ?_
  exact out_i (by unfold patE; split <;> first | rfl | omega)
 ·have hb3R := hb3; try simp only [zz] at hb3
  refine g_e rfl (e_faQ pl3 rfl) ?_
  refine g_e rfl (e_lH (v := .sc _) rfl (hset_self _ _ _) rfl) ?_
  refine g_call rfl rfl rfl rfl (.cons inn_sc (.cons inn_sc (.cons inn_sc .nil))) (Within _ _ _) ?_
  refine g_e rfl (e_not rfl) ?_
  refine g_pF rfl rfl rfl ?_
  refine g_mS rfl rfl ?_
  refine g_cases (fun hb6 => ?_) (fun hb6 => ?_)
  ·have hb6R := hb6; try simp only [zz] at hb6
   iterate 2 refine g_skip rfl rfl rfl ?_
   refine g_nocall rfl rfl rfl ?_
   refine g_skip rfl rfl rfl ?_
   refine g_pT rfl rfl rfl ?_
   refine g_end (ds := [8, 9, 10, 11, 14, 15, 16, 17]) rfl rfl (hK2 _ ?_); clear hK2 K2
   refine pwp_seq_cond (t := true) rfl fun K7 hK7 => ⟨fun _ => ?_, nofun⟩
   refine pwp_seq_plain rfl fun K8 hK8 => ?_
   refine p_aS rfl ?_
   refine p_end (hK8 _ ?_); clear hK8 K8
   refine pwp_ret ?_
   refine ret_seq ?_
   refine end1 (v := .sc _) rfl ?_
   exact out_i (by unfold patE; split <;> first | rfl | omega)
  ·have hb6R := hb6; try simp only [zz] at hb6
   refine g_e rfl (e_faQ pl3 rfl) ?_
   refine g_e rfl (e_lH (v := .sc _) rfl (hset_self _ _ _) rfl) ?_
   refine g_call rfl rfl rfl rfl (.cons inn_sc (.cons inn_sc (.cons inn_sc .nil))) (Within _ _ _) ?_
   refine g_e rfl (e_not rfl) ?_
   refine g_pF rfl rfl rfl ?_
   refine g_end (ds := [8, 9, 10, 11, 14, 15, 16, 17]) rfl rfl (hK2 _ ?_); clear hK2 K2
   refine pwp_seq_cond rfl fun K9 hK9 => ⟨fun hb10 => ?_, fun hb10 => ?_⟩
   ·have hb10R := hb10; try simp only [zz] at hb10
    refine pwp_seq_plain rfl fun K11 hK11 => ?_
    refine p_aS rfl ?_
    refine p_end (hK11 _ ?_); clear hK11 K11
    refine pwp_ret ?_
    refine ret_seq ?_
    refine end1 (v := .sc _) rfl ?_
    exact out_i (by unfold patE; split <;> first | rfl | omega)
   ·have hb10R := hb10; try simp only [zz] at hb10
    refine pwp_skip ?_
    refine seq_norm (hK9 _ ?_); clear hK9 K9
    refine pwp_seq_plain rfl fun K12 hK12 => ?_
    refine p_aS rfl ?_
    refine p_end (hK12 _ ?_); clear hK12 K12
    refine pwp_ret ?_
    refine end1 (v := .sc _) rfl ?_
    exact out_i (by unfold patE; split <;> first | rfl | omega)

theorem fr30 : (inFrame Tryz.f30.ntmps (Tryz.f30.body.getD .skip) && Tryz.f30.results.toList.all (resScope Tryz.f30.ntmps)) = true := by kernel_rfl
theorem SelectC (g : Grid) (p : Pattern) (ha : g.along.length ≤ 100) (hb : g.levels.length ≤ 100) : PCalls Tryz.prog 30 [.agg g.enc, .agg p.enc] (.tup [.lit false 2 ((slX g p).1.map Tie.enc), .int (slX g p).2]) := by
 refine PCalls.of_code Tryz.func30 rfl rfl (by kernel_rfl) mixed fr30 (by show _ ≤ 73; simp) (pure_2 (.lit _ _ _ fun row hr => pure_map Tie.pure row hr) (.sc _)) ?_
 refine pwp_seq_plain rfl fun K1 hK1 => ?_
 refine p_new rfl (e_box (n := 3) rfl rfl) ⟨rfl, by decide⟩ ?_
 refine p_new rfl (e_box (n := 3) rfl rfl) ⟨rfl, by decide⟩ ?_
 refine p_e rfl (e_assign (v := .nil) rfl) ?_
 refine p_aS rfl ?_
 refine p_end (hK1 _ ?_); clear hK1 K1
 refine pwp_seq_seq ?_
 refine pwp_seq_plain rfl fun K2 hK2 => ?_
 refine p_e rfl (e_loadHA (cs := Grid.enc (g)) (n := 3) rfl ((hset_ne (key_ne rfl)).trans (hset_self _ _ _)) (by kernel_rfl) (by kernel_rfl) (by kernel_rfl) (by exact Nat.zero_lt_one) (by decide) rfl) ?_
 refine p_call rfl (.cons (inn_agg (Grid.pure _)) .nil) (CheckGridC g (by omega) (by omega)) ?_
 refine p_aS rfl ?_
 refine p_end (hK2 _ ?_); clear hK2 K2
 refine pwp_seq_seq ?_
 refine pwp_seq_plain rfl fun K3 hK3 => ?_
 refine p_mS rfl ?_
 refine p_e rfl (e_ne rfl rfl) ?_
 refine p_end (hK3 _ ?_); clear hK3 K3
 refine pwp_seq_cond rfl fun K4 hK4 => ⟨fun hb5 => ?_, fun hb5 => ?_⟩
 ·have hb5R := hb5; try simp only [zz] at hb5
  refine pwp_seq_plain rfl fun K6 hK6 => ?_
  refine p_mS rfl ?_
  refine p_e rfl (e_assign (v := .nil) rfl) ?_
  refine p_aS rfl ?_
  refine p_end (hK6 _ ?_); clear hK6 K6
  refine pwp_ret ?_
  refine ret_seq ?_
  refine end2 (v := .nil) (w := .sc _) rfl rfl ?_
  first
    | exact slX_oe (slX_g (by assumption))
    | exact slX_oe (by rw [slX_p hgg (by unfold patE; rw [if_pos (by omega)]; decide)]; unfold patE; rw [if_pos (by omega)])
 ·have hb5R := hb5; try simp only [zz] at hb5
  refine pwp_skip ?_
  refine seq_norm (hK4 _ ?_); clear hK4 K4
  refine pwp_seq_seq ?_
  have hgg : gridE g = 0 := by omega
  refine pwp_seq_gops rfl fun K7 hK7 => ?_
  refine g_begin ?_
  refine g_e rfl (e_faQ pl3 rfl) ?_
  refine g_e rfl (e_lH (v := .sc _) rfl (hset_self _ _ _) rfl) ?_
  refine g_call rfl rfl rfl rfl (.cons inn_sc (.cons inn_sc (.cons inn_sc .nil))) (within _ _ _) ?_
  refine g_e rfl (e_not rfl) ?_
  refine g_mS rfl rfl ?_
  refine g_cases (fun hb8 => ?_) (fun hb8 => ?_)
  ·have hb8R := hb8; try simp only [zz] at hb8
   iterate 2 refine g_skip rfl rfl rfl ?_
   refine g_nocall rfl rfl rfl ?_
   refine g_skip rfl rfl rfl ?_
   refine g_pT rfl rfl rfl ?_
   refine g_mS rfl rfl ?_
   iterate 2 refine g_skip rfl rfl rfl ?_
   refine g_nocall rfl rfl rfl ?_
   refine g_skip rfl rfl rfl ?_
   refine g_pT rfl rfl rfl ?_
   refine g_end (ds := [20, 21, 22, 23, 26, 27, 28, 29]) rfl rfl (hK7 _ ?_); clear hK7 K7
   refine pwp_seq_cond (t := true) rfl fun K9 hK9 => ⟨fun _ => ?_, nofun⟩
   refine pwp_seq_plain rfl fun K10 hK10 => ?_
   refine p_e rfl (e_assign (v := .nil) rfl) ?_
   refine p_aS rfl ?_
   refine p_end (hK10 _ ?_); clear hK10 K10
   refine pwp_ret ?_
   refine ret_seq ?_
   refine end2 (v := .nil) (w := .sc _) rfl rfl ?_
   first
     | exact slX_oe (slX_g (by assumption))
     | exact slX_oe (by rw [slX_p hgg (by unfold patE; rw [if_pos (by omega)]; decide)]; unfold patE; rw [if_pos (by omega)])
  ·have hb8R := hb8; try simp only [zz] at hb8
   refine g_e rfl (e_faQ pl3 rfl) ?_
   refine g_e rfl (e_lH (v := .sc _) rfl (hset_self _ _ _) rfl) ?_
   refine g_call rfl rfl rfl rfl (.cons inn_sc (.cons inn_sc (.cons inn_sc .nil))) (within _ _ _) ?_
   refine g_e rfl (e_not rfl) ?_
   refine g_pF rfl rfl rfl ?_
   refine g_mS rfl rfl ?_
   refine g_cases (fun hb11 => ?_) (fun hb11 => ?_)
   ·have hb11R := hb11; try simp only [zz] at hb11
    iterate 2 refine g_skip rfl rfl rfl ?_
    refine g_nocall rfl rfl rfl ?_
    refine g_skip rfl rfl rfl ?_
    refine g_pT rfl rfl rfl ?_
    refine g_end (ds := [20, 21, 22, 23, 26, 27, 28, 29]) rfl rfl (hK7 _ ?_); clear hK7 K7
    refine pwp_seq_cond (t := true) rfl fun K12 hK12 => ⟨fun _ => ?_, nofun⟩
    refine pwp_seq_plain rfl fun K13 hK13 => ?_
    refine p_e rfl (e_assign (v := .nil) rfl) ?_
    refine p_aS rfl ?_
    refine p_end (hK13 _ ?_); clear hK13 K13
    refine pwp_ret ?_
    refine ret_seq ?_
    refine end2 (v := .nil) (w := .sc _) rfl rfl ?_
    first
      | exact slX_oe (slX_g (by assumption))
      | exact slX_oe (by rw [slX_p hgg (by unfold patE; rw [if_pos (by omega)]; decide)]; unfold patE; rw [if_pos (by omega)])
   ·have hb11R := hb11; try simp only [zz] at hb11
    refine g_e rfl (e_faQ pl3 rfl) ?_
    refine g_e rfl (e_lH (v := .sc _) rfl (hset_self _ _ _) rfl) ?_
    refine g_call rfl rfl rfl rfl (.cons inn_sc (.cons inn_sc (.cons inn_sc .nil))) (within _ _ _) ?_
    refine g_e rfl (e_not rfl) ?_
    refine g_pF rfl rfl rfl ?_
    refine g_end (ds := [20, 21, 22, 23, 26, 27, 28, 29]) rfl rfl (hK7 _ ?_); clear hK7 K7
    refine pwp_seq_cond rfl fun K14 hK14 => ⟨fun hb15 => ?_, fun hb15 => ?_⟩
    ·have hb15R := hb15; try simp only [zz] at hb15
     refine pwp_seq_plain rfl fun K16 hK16 => ?_
     refine p_e rfl (e_assign (v := .nil) rfl) ?_
     refine p_aS rfl ?_
     refine p_end (hK16 _ ?_); clear hK16 K16
     refine pwp_ret ?_
     refine ret_seq ?_
     refine end2 (v := .nil) (w := .sc _) rfl rfl ?_
     first
       | exact slX_oe (slX_g (by assumption))
       | exact slX_oe (by rw [slX_p hgg (by unfold patE; rw [if_pos (by omega)]; decide)]; unfold patE; rw [if_pos (by omega)])
    ·have hb15R := hb15; try simp only [zz] at hb15
     refine pwp_skip ?_
     refine seq_norm (hK14 _ ?_); clear hK14 K14
     have hpp : patE p = 0 := by unfold patE; rw [if_neg (by omega)]
     have hpt := pat_ok hpp
     have hsh := (grd_shape hgg).2
     refine pwp_seq_plain rfl fun K17 hK17 => ?_
     refine p_e rfl (e_assign (v := .nil) rfl) ?_
     refine p_end (hK17 _ ?_); clear hK17 K17
     refine pwp_seq_seq ?_
     refine pwp_seq_plain rfl fun K18 hK18 => ?_
     refine p_e rfl (e_faQ pl3 rfl) ?_
     refine p_e rfl (e_lH (v := .lit _ _ _) rfl ((hset_ne (key_ne rfl)).trans (hset_self _ _ _)) rfl) ?_
     refine p_e rfl (e_len rfl (by kernel_rfl)) ?_
     refine p_mS rfl ?_
     refine p_end (hK18 _ ?_); clear hK18 K18
     refine pwp_seq_block fun K19 hK19 => ?_
     refine pwp_loopR (α := Nat × PV) [2, 3, 33] (fun (a20 : Nat × PV) => [(7, (a20.2)), (34, .int (a20.1))]) (fun (a20 : Nat × PV) (h : Heap) (_ : Nat → Nat) => ((a20.1) ≤ g.along.length) ∧ (SliceAt h 70 (a20.2) 2 (((accL p g.levels.length (a20.1))).map Tie.enc)) ∧ (h (2, 0) = some (.rows 3 [Grid.enc g])) ∧ (h (3, 0) = some (.rows 3 [Pattern.enc p]))) (fun (a20 : Nat × PV) => g.along.length - (a20.1)) (0, .nil) (by exact ⟨rfl, rfl, trivial⟩) (by exact ⟨by exact Nat.zero_le _, .nil, ((hset_ne (key_ne rfl)).trans (hset_self _ _ _)), (hset_self _ _ _)⟩) fun a20 r21 h22 c23 hj24 => ?_
     obtain ⟨k, v⟩ := a20
     obtain ⟨hk, hihj24_0, hihj24_1, hihj24_2⟩ := hj24
     try dsimp only at hk
     try dsimp only at hihj24_0
     try dsimp only at hihj24_1
     try dsimp only at hihj24_2
     show pwp _ _ (loopQ _ _ _) ⟨sets (mix _ _ _) [(7, v), (34, .int k)], _, _⟩
     refine pwp_seq_plain rfl fun K25 hK25 => ?_
     refine p_e rfl (e_lt rfl rfl) ?_
     refine p_end (hK25 _ ?_); clear hK25 K25
     refine pwp_seq_cond rfl fun K26 hK26 => ⟨fun hb27 => ?_, fun hb27 => ?_⟩
     ·have hb27R := hb27; try simp only [zz] at hb27
      have hkl : k < g.along.length := by simp only [List.length_map] at *; omega
      have hal := accL_len (p := p) (m := g.levels.length) (k := k) (by omega)
      refine pwp_skip ?_
      refine seq_norm (hK26 _ ?_); clear hK26 K26
      refine pwp_seq_block fun K28 hK28 => ?_
      refine pwp_seq_plain rfl fun K29 hK29 => ?_
      refine p_mS rfl ?_
      refine p_aS rfl ?_
      refine p_end (hK29 _ ?_); clear hK29 K29
      refine pwp_seq_plain rfl fun K30 hK30 => ?_
      refine p_aS rfl ?_
      refine p_end (hK30 _ ?_); clear hK30 K30
      refine pwp_block ?_
      refine pwp_loopR (α := Nat × PV) [2, 3, 8, 33, 34] (fun (a31 : Nat × PV) => [(7, (a31.2)), (9, .int (a31.1))]) (fun (a31 : Nat × PV) (h : Heap) (_ : Nat → Nat) => ((a31.1) ≤ g.levels.length) ∧ (SliceAt h 70 (a31.2) 2 (((accR p g.levels.length k (accL p g.levels.length k) (a31.1))).map Tie.enc)) ∧ (h (2, 0) = some (.rows 3 [Grid.enc g])) ∧ (h (3, 0) = some (.rows 3 [Pattern.enc p]))) (fun (a31 : Nat × PV) => g.levels.length - (a31.1)) (0, v) (by exact ⟨rfl, rfl, trivial⟩) (by exact ⟨by exact Nat.zero_le _, hihj24_0, hihj24_1, hihj24_2⟩) fun a31 r32 h33 c34 hj35 => ?_
      obtain ⟨r, v⟩ := a31
      obtain ⟨hr, hihj35_0, hihj35_1, hihj35_2⟩ := hj35
      try dsimp only at hr
      try dsimp only at hihj35_0
      try dsimp only at hihj35_1
      try dsimp only at hihj35_2
      show pwp _ _ (loopQ _ _ _) ⟨sets (mix _ _ _) [(7, v), (9, .int r)], _, _⟩
      refine pwp_seq_seq ?_
      have hrb := row_b hpt.2.1 (r := r) (by omega)
      refine pwp_seq_plain rfl fun K36 hK36 => ?_
      refine p_mS rfl ?_
      refine p_e rfl (e_adL rfl rfl) ?_
      refine p_e rfl (e_faQ pl3 rfl) ?_
      refine p_e rfl (e_lH (v := .sc _) rfl hihj35_2 rfl) ?_
      refine p_e rfl (e_mul rfl rfl (by first | omega | (simp only [List.length_map] at *; omega))) ?_
      refine p_e rfl (e_faQ pl3 rfl) ?_
      refine p_e rfl (e_lH (v := .lit _ _ _) rfl hihj35_1 rfl) ?_
      refine p_e rfl (e_len rfl (by kernel_rfl)) ?_
      refine p_e rfl (e_le rfl rfl) ?_
      refine p_end (hK36 _ ?_); clear hK36 K36
      refine pwp_seq_cond rfl fun K37 hK37 => ⟨fun hb38 => ?_, fun hb38 => ?_⟩
      ·have hb38R := hb38; try simp only [zz] at hb38
       have hle : ((r : Int) + 1) * p.rise ≤ ((g.levels.length : Nat) : Int) := by simp only [List.length_map] at *; omega
       have hrl := row_le hpt.2.1 hle
       have hsb := shift_b hpt.2.2 (r := r) (by omega)
       have hal2 := accR_len (p := p) (m := g.levels.length) (i := k) (b := accL p g.levels.length k) (r := r)
       refine pwp_skip ?_
       refine seq_norm (hK37 _ ?_); clear hK37 K37
       refine pwp_seq_block fun K39 hK39 => ?_
       refine pwp_seq_gops rfl fun K40 hK40 => ?_
       refine g_begin ?_
       refine g_mS rfl rfl ?_
       refine g_e rfl (e_faQ pl3 rfl) ?_
       refine g_e rfl (e_lH (v := .sc _) rfl hihj35_2 rfl) ?_
       refine g_e rfl (e_rem rfl rfl (by omega) (by omega)) ?_
       refine g_mS rfl rfl ?_
       refine g_e rfl (e_faQ pl3 rfl) ?_
       refine g_e rfl (e_lH (v := .sc _) rfl hihj35_2 rfl) ?_
       refine g_e rfl (e_mul rfl rfl (by first | omega | (simp only [List.length_map] at *; omega))) ?_
       refine g_e rfl (e_faQ pl3 rfl) ?_
       refine g_e rfl (e_lH (v := .sc _) rfl hihj35_2 rfl) ?_
       refine g_e rfl (e_rem rfl rfl (by omega) (by omega)) ?_
       refine g_e rfl (e_eq rfl rfl) ?_
       refine g_end (ds := []) (by kernel_rfl) rfl (hK40 _ ?_); clear hK40 K40
       refine pwp_cond rfl (fun hb41 => ?_) (fun hb41 => ?_)
       ·have hb41R := hb41; try simp only [zz] at hb41
        refine pwp_plain rfl fun K42 hK42 => ?_
        refine p_e rfl (e_move (v := _) rfl) ?_
        refine p_mS rfl ?_
        refine p_mS rfl ?_
        refine p_e rfl (e_adL rfl rfl) ?_
        refine p_e rfl (e_faQ pl3 rfl) ?_
        refine p_e rfl (e_lH (v := .sc _) rfl hihj35_2 rfl) ?_
        refine p_e rfl (e_mul rfl rfl (by first | omega | (simp only [List.length_map] at *; omega))) ?_
        refine p_e rfl (e_sub rfl rfl (by first | omega | (simp only [List.length_map] at *; omega))) ?_
        refine p_e rfl (e_build (cs := Tie.enc (⟨(k : Int), ((((r : Int) + (1)) * p.rise) - (1))⟩ : Tie)) (zs := [.int 0, .int 0]) (pl := [(0, 1, false), (1, 1, false)]) (by kernel_rfl) (by kernel_rfl) (by kernel_rfl) rfl rfl (by exact ⟨by decide, rfl, Nat.le_of_ble_eq_true rfl, rfl, ⟨by decide, rfl, Nat.le_of_ble_eq_true rfl, rfl, trivial⟩⟩) rfl) ?_
        refine p_new rfl (e_bslice (rows := [Tie.enc ⟨(k : Int), ((r : Int) + 1) * p.rise - 1⟩]) (zs := [.int 0, .int 0]) (sz := 2) (by kernel_rfl) (by kernel_rfl) rfl (by kernel_rfl) (by decide) rfl rfl (by exact ⟨by decide, rfl, rfl, trivial⟩) rfl) trivial ?_
        refine p_app rfl rfl rfl (hihj35_0.keep fun _ => (hset_ne (key_ne rfl)).trans (rfl)) (src_ref (hset_self _ _ _) rfl) (by kernel_rfl) (by simp only [List.length_append, List.length_map, List.length_nil, List.length_cons]; omega) fun v43 h44 c45 hs46 hf47 => ?_
        have ho48 := (hf47 (2, _) (key_ne rfl) (fun _ _ => key_ne rfl)).trans ((hset_ne (key_ne rfl)).trans hihj35_1)
        have ho49 := (hf47 (3, _) (key_ne rfl) (fun _ _ => key_ne rfl)).trans ((hset_ne (key_ne rfl)).trans hihj35_2)
        have ho50 := (hf47 (69, _) (key_ne rfl) (fun _ _ => key_ne rfl)).trans (hset_self _ _ _)
        refine p_e rfl (e_assign (v := _) rfl) ?_
        refine p_end (hK42 _ ?_); clear hK42 K42
        refine block_norm ?_
        refine seq_norm (hK39 _ ?_); clear hK39 K39
        refine pwp_plain rfl fun K51 hK51 => ?_
        refine p_mS rfl ?_
        refine p_e rfl (e_adL rfl rfl) ?_
        refine p_aS rfl ?_
        refine p_end (hK51 _ ?_); clear hK51 K51
        exact loop_again ((r + 1, v43)) (by show _ < _; simp only; omega) ⟨rfl, rfl, rfl, rfl, rfl, trivial⟩ ⟨rfl, rfl, trivial⟩ (by exact ⟨by show _ + 1 ≤ _; omega, (SliceAt.to hs46 (by first | (rw [accR_t hle (by assumption), List.map_append]; rfl) | (rw [accR_f (by assumption)]))), ho48, ho49⟩)
       ·have hb41R := hb41; try simp only [zz] at hb41
        refine pwp_skip ?_
        refine block_norm ?_
        refine seq_norm (hK39 _ ?_); clear hK39 K39
        refine pwp_plain rfl fun K52 hK52 => ?_
        refine p_mS rfl ?_
        refine p_e rfl (e_adL rfl rfl) ?_
        refine p_aS rfl ?_
        refine p_end (hK52 _ ?_); clear hK52 K52
        exact loop_again ((r + 1, v)) (by show _ < _; simp only; omega) ⟨rfl, rfl, rfl, rfl, rfl, trivial⟩ ⟨rfl, rfl, trivial⟩ (by exact ⟨by show _ + 1 ≤ _; omega, (SliceAt.to hihj35_0 (by first | (rw [accR_t hle (by assumption), List.map_append]; rfl) | (rw [accR_f (by assumption)]))), hihj35_1, hihj35_2⟩)
      ·have hb38R := hb38; try simp only [zz] at hb38
       have hrn : ¬ ((r : Int) + 1) * p.rise ≤ ((g.levels.length : Nat) : Int) := by simp only [List.length_map] at *; omega
       refine pwp_exit ?_
       refine exit_seq ?_
       clear hK37 K37
       refine exit_loop ?_
       refine exit_here ?_
       refine block_norm ?_
       refine seq_norm (hK28 _ ?_); clear hK28 K28
       refine pwp_plain rfl fun K53 hK53 => ?_
       refine p_e rfl (e_adL rfl rfl) ?_
       refine p_mS rfl ?_
       refine p_end (hK53 _ ?_); clear hK53 K53
       exact loop_again ((k + 1, v)) (by show _ < _; simp only; omega) ⟨rfl, rfl, rfl, trivial⟩ ⟨rfl, rfl, trivial⟩ (by exact ⟨by show _ + 1 ≤ _; omega, (SliceAt.to hihj35_0 (by rw [accR_end hpt.2.1.1 hrn hr]; rfl)), hihj35_1, hihj35_2⟩)
     ·have hb27R := hb27; try simp only [zz] at hb27
      have hkk : k = g.along.length := by simp only [List.length_map] at *; omega
      refine pwp_exit ?_
      refine exit_seq ?_
      clear hK26 K26
      refine exit_loop ?_
      refine exit_here ?_
      refine seq_norm (hK19 _ ?_); clear hK19 K19
      refine pwp_seq_plain rfl fun K54 hK54 => ?_
      refine p_e rfl (e_move (v := _) rfl) ?_
      refine p_e rfl (e_assign (v := _) rfl) ?_
      refine p_aS rfl ?_
      refine p_end (hK54 _ ?_); clear hK54 K54
      refine pwp_ret ?_
      refine end2 (v := _) (w := .sc _) rfl rfl ?_
      first
        | exact slX_oe (slX_g (by assumption))
        | exact slX_oe (by rw [slX_p hgg (by unfold patE; rw [if_pos (by omega)]; decide)]; unfold patE; rw [if_pos (by omega)])
        | exact slX_o hihj24_0 (by rw [slX_0 hgg hpp, hkk])

theorem fr32 : (inFrame Tryz.f32.ntmps (Tryz.f32.body.getD .skip) && Tryz.f32.results.toList.all (resScope Tryz.f32.ntmps)) = true := by kernel_rfl
theorem refSelectC (g : Grid) (p : Pattern) (ha : g.along.length ≤ 100) (hb : g.levels.length ≤ 100) (hgg : gridE g = 0) (hpp : patE p = 0) : PCalls Tryz.prog 32 [.agg g.enc, .agg p.enc] (.lit false 2 ((accL p g.levels.length g.along.length).map Tie.enc)) := by
 refine PCalls.of_code Tryz.func32 rfl rfl (by kernel_rfl) mixed fr32 (by show _ ≤ 51; simp) (.lit _ _ _ fun row hr => pure_map Tie.pure row hr) ?_
 have hpt := pat_ok hpp
 have hsh := (grd_shape hgg).2
 refine pwp_seq_plain rfl fun K1 hK1 => ?_
 refine p_new rfl (e_box (n := 3) rfl rfl) ⟨rfl, by decide⟩ ?_
 refine p_new rfl (e_box (n := 3) rfl rfl) ⟨rfl, by decide⟩ ?_
 refine p_e rfl (e_assign (v := .nil) rfl) ?_
 refine p_end (hK1 _ ?_); clear hK1 K1
 refine pwp_seq_plain rfl fun K2 hK2 => ?_
 refine p_e rfl (e_assign (v := .nil) rfl) ?_
 refine p_end (hK2 _ ?_); clear hK2 K2
 refine pwp_seq_seq ?_
 refine pwp_seq_plain rfl fun K3 hK3 => ?_
 refine p_aS rfl ?_
 refine p_end (hK3 _ ?_); clear hK3 K3
 refine pwp_seq_block fun K4 hK4 => ?_
 refine pwp_loopR (α := Nat × PV) [2, 3] (fun (a5 : Nat × PV) => [(5, (a5.2)), (6, .int (a5.1))]) (fun (a5 : Nat × PV) (h : Heap) (_ : Nat → Nat) => ((a5.1) ≤ g.along.length) ∧ (SliceAt h 49 (a5.2) 2 (((accL p g.levels.length (a5.1))).map Tie.enc)) ∧ (h (2, 0) = some (.rows 3 [Grid.enc g])) ∧ (h (3, 0) = some (.rows 3 [Pattern.enc p]))) (fun (a5 : Nat × PV) => g.along.length - (a5.1)) (0, .nil) (by exact ⟨rfl, rfl, trivial⟩) (by exact ⟨by exact Nat.zero_le _, .nil, ((hset_ne (key_ne rfl)).trans (hset_self _ _ _)), (hset_self _ _ _)⟩) fun a5 r6 h7 c8 hj9 => ?_
 obtain ⟨k, v⟩ := a5
 obtain ⟨hk, hihj9_0, hihj9_1, hihj9_2⟩ := hj9
 try dsimp only at hk
 try dsimp only at hihj9_0
 try dsimp only at hihj9_1
 try dsimp only at hihj9_2
 show pwp _ _ (loopQ _ _ _) ⟨sets (mix _ _ _) [(5, v), (6, .int k)], _, _⟩
 refine pwp_seq_seq ?_
 refine pwp_seq_plain rfl fun K10 hK10 => ?_
 refine p_mS rfl ?_
 refine p_e rfl (e_faQ pl3 rfl) ?_
 refine p_e rfl (e_lH (v := .lit _ _ _) rfl hihj9_1 rfl) ?_
 refine p_e rfl (e_len rfl (by kernel_rfl)) ?_
 refine p_e rfl (e_lt rfl rfl) ?_
 refine p_end (hK10 _ ?_); clear hK10 K10
 refine pwp_seq_cond rfl fun K11 hK11 => ⟨fun hb12 => ?_, fun hb12 => ?_⟩
 ·have hb12R := hb12; try simp only [zz] at hb12
  have hkl : k < g.along.length := by simp only [List.length_map] at *; omega
  have hal := accL_len (p := p) (m := g.levels.length) (k := k) (by omega)
  refine pwp_skip ?_
  refine seq_norm (hK11 _ ?_); clear hK11 K11
  refine pwp_seq_block fun K13 hK13 => ?_
  refine pwp_seq_plain rfl fun K14 hK14 => ?_
  refine p_aS rfl ?_
  refine p_end (hK14 _ ?_); clear hK14 K14
  refine pwp_block ?_
  refine pwp_loopR (α := Nat × PV) [2, 3, 6] (fun (a15 : Nat × PV) => [(5, (a15.2)), (7, .int (a15.1))]) (fun (a15 : Nat × PV) (h : Heap) (_ : Nat → Nat) => ((a15.1) ≤ g.levels.length) ∧ (SliceAt h 49 (a15.2) 2 (((accR p g.levels.length k (accL p g.levels.length k) (a15.1))).map Tie.enc)) ∧ (h (2, 0) = some (.rows 3 [Grid.enc g])) ∧ (h (3, 0) = some (.rows 3 [Pattern.enc p]))) (fun (a15 : Nat × PV) => g.levels.length - (a15.1)) (0, v) (by exact ⟨rfl, rfl, trivial⟩) (by exact ⟨by exact Nat.zero_le _, hihj9_0, hihj9_1, hihj9_2⟩) fun a15 r16 h17 c18 hj19 => ?_
  obtain ⟨r, v⟩ := a15
  obtain ⟨hr, hihj19_0, hihj19_1, hihj19_2⟩ := hj19
  try dsimp only at hr
  try dsimp only at hihj19_0
  try dsimp only at hihj19_1
  try dsimp only at hihj19_2
  show pwp _ _ (loopQ _ _ _) ⟨sets (mix _ _ _) [(5, v), (7, .int r)], _, _⟩
  refine pwp_seq_seq ?_
  have hrb := row_b hpt.2.1 (r := r) (by omega)
  refine pwp_seq_plain rfl fun K20 hK20 => ?_
  refine p_mS rfl ?_
  refine p_e rfl (e_adL rfl rfl) ?_
  refine p_e rfl (e_faQ pl3 rfl) ?_
  refine p_e rfl (e_lH (v := .sc _) rfl hihj19_2 rfl) ?_
  refine p_e rfl (e_mul rfl rfl (by first | omega | (simp only [List.length_map] at *; omega))) ?_
  refine p_e rfl (e_sub rfl rfl (by first | omega | (simp only [List.length_map] at *; omega))) ?_
  refine p_e rfl (e_faQ pl3 rfl) ?_
  refine p_e rfl (e_lH (v := .lit _ _ _) rfl hihj19_1 rfl) ?_
  refine p_e rfl (e_len rfl (by kernel_rfl)) ?_
  refine p_e rfl (e_lt rfl rfl) ?_
  refine p_end (hK20 _ ?_); clear hK20 K20
  refine pwp_seq_cond rfl fun K21 hK21 => ⟨fun hb22 => ?_, fun hb22 => ?_⟩
  ·have hb22R := hb22; try simp only [zz] at hb22
   have hle : ((r : Int) + 1) * p.rise ≤ ((g.levels.length : Nat) : Int) := by simp only [List.length_map] at *; omega
   have hrl := row_le hpt.2.1 hle
   have hsb := shift_b hpt.2.2 (r := r) (by omega)
   have hal2 := accR_len (p := p) (m := g.levels.length) (i := k) (b := accL p g.levels.length k) (r := r)
   refine pwp_skip ?_
   refine seq_norm (hK21 _ ?_); clear hK21 K21
   refine pwp_seq_block fun K23 hK23 => ?_
   refine pwp_seq_gops rfl fun K24 hK24 => ?_
   refine g_begin ?_
   refine g_mS rfl rfl ?_
   refine g_e rfl (e_faQ pl3 rfl) ?_
   refine g_e rfl (e_lH (v := .sc _) rfl hihj19_2 rfl) ?_
   refine g_e rfl (e_rem rfl rfl (by omega) (by omega)) ?_
   refine g_mS rfl rfl ?_
   refine g_e rfl (e_faQ pl3 rfl) ?_
   refine g_e rfl (e_lH (v := .sc _) rfl hihj19_2 rfl) ?_
   refine g_e rfl (e_mul rfl rfl (by first | omega | (simp only [List.length_map] at *; omega))) ?_
   refine g_e rfl (e_faQ pl3 rfl) ?_
   refine g_e rfl (e_lH (v := .sc _) rfl hihj19_2 rfl) ?_
   refine g_e rfl (e_rem rfl rfl (by omega) (by omega)) ?_
   refine g_e rfl (e_eq rfl rfl) ?_
   refine g_end (ds := []) (by kernel_rfl) rfl (hK24 _ ?_); clear hK24 K24
   refine pwp_cond rfl (fun hb25 => ?_) (fun hb25 => ?_)
   ·have hb25R := hb25; try simp only [zz] at hb25
    refine pwp_plain rfl fun K26 hK26 => ?_
    refine p_e rfl (e_move (v := _) rfl) ?_
    refine p_mS rfl ?_
    refine p_mS rfl ?_
    refine p_e rfl (e_adL rfl rfl) ?_
    refine p_e rfl (e_faQ pl3 rfl) ?_
    refine p_e rfl (e_lH (v := .sc _) rfl hihj19_2 rfl) ?_
    refine p_e rfl (e_mul rfl rfl (by first | omega | (simp only [List.length_map] at *; omega))) ?_
    refine p_e rfl (e_sub rfl rfl (by first | omega | (simp only [List.length_map] at *; omega))) ?_
    refine p_e rfl (e_build (cs := Tie.enc (⟨(k : Int), ((((r : Int) + (1)) * p.rise) - (1))⟩ : Tie)) (zs := [.int 0, .int 0]) (pl := [(0, 1, false), (1, 1, false)]) (by kernel_rfl) (by kernel_rfl) (by kernel_rfl) rfl rfl (by exact ⟨by decide, rfl, Nat.le_of_ble_eq_true rfl, rfl, ⟨by decide, rfl, Nat.le_of_ble_eq_true rfl, rfl, trivial⟩⟩) rfl) ?_
    refine p_new rfl (e_bslice (rows := [Tie.enc ⟨(k : Int), ((r : Int) + 1) * p.rise - 1⟩]) (zs := [.int 0, .int 0]) (sz := 2) (by kernel_rfl) (by kernel_rfl) rfl (by kernel_rfl) (by decide) rfl rfl (by exact ⟨by decide, rfl, rfl, trivial⟩) rfl) trivial ?_
    refine p_app rfl rfl rfl (hihj19_0.keep fun _ => (hset_ne (key_ne rfl)).trans (rfl)) (src_ref (hset_self _ _ _) rfl) (by kernel_rfl) (by simp only [List.length_append, List.length_map, List.length_nil, List.length_cons]; omega) fun v27 h28 c29 hs30 hf31 => ?_
    have ho32 := (hf31 (2, _) (key_ne rfl) (fun _ _ => key_ne rfl)).trans ((hset_ne (key_ne rfl)).trans hihj19_1)
    have ho33 := (hf31 (3, _) (key_ne rfl) (fun _ _ => key_ne rfl)).trans ((hset_ne (key_ne rfl)).trans hihj19_2)
    have ho34 := (hf31 (48, _) (key_ne rfl) (fun _ _ => key_ne rfl)).trans (hset_self _ _ _)
    refine p_e rfl (e_assign (v := _) rfl) ?_
    refine p_end (hK26 _ ?_); clear hK26 K26
    refine block_norm ?_
    refine seq_norm (hK23 _ ?_); clear hK23 K23
    refine pwp_plain rfl fun K35 hK35 => ?_
    refine p_mS rfl ?_
    refine p_e rfl (e_adL rfl rfl) ?_
    refine p_aS rfl ?_
    refine p_end (hK35 _ ?_); clear hK35 K35
    exact loop_again ((r + 1, v27)) (by show _ < _; simp only; omega) ⟨rfl, rfl, rfl, trivial⟩ ⟨rfl, rfl, trivial⟩ (by exact ⟨by show _ + 1 ≤ _; omega, (SliceAt.to hs30 (by first | (rw [accR_t hle (by assumption), List.map_append]; rfl) | (rw [accR_f (by assumption)]))), ho32, ho33⟩)
   ·have hb25R := hb25; try simp only [zz] at hb25
    refine pwp_skip ?_
    refine block_norm ?_
    refine seq_norm (hK23 _ ?_); clear hK23 K23
    refine pwp_plain rfl fun K36 hK36 => ?_
    refine p_mS rfl ?_
    refine p_e rfl (e_adL rfl rfl) ?_
    refine p_aS rfl ?_
    refine p_end (hK36 _ ?_); clear hK36 K36
    exact loop_again ((r + 1, v)) (by show _ < _; simp only; omega) ⟨rfl, rfl, rfl, trivial⟩ ⟨rfl, rfl, trivial⟩ (by exact ⟨by show _ + 1 ≤ _; omega, (SliceAt.to hihj19_0 (by first | (rw [accR_t hle (by assumption), List.map_append]; rfl) | (rw [accR_f (by assumption)]))), hihj19_1, hihj19_2⟩)
  ·have hb22R := hb22; try simp only [zz] at hb22
   have hrn : ¬ ((r : Int) + 1) * p.rise ≤ ((g.levels.length : Nat) : Int) := by simp only [List.length_map] at *; omega
   refine pwp_exit ?_
   refine exit_seq ?_
   clear hK21 K21
   refine exit_loop ?_
   refine exit_here ?_
   refine block_norm ?_
   refine seq_norm (hK13 _ ?_); clear hK13 K13
   refine pwp_plain rfl fun K37 hK37 => ?_
   refine p_mS rfl ?_
   refine p_e rfl (e_adL rfl rfl) ?_
   refine p_aS rfl ?_
   refine p_end (hK37 _ ?_); clear hK37 K37
   exact loop_again ((k + 1, v)) (by show _ < _; simp only; omega) ⟨rfl, rfl, trivial⟩ ⟨rfl, rfl, trivial⟩ (by exact ⟨by show _ + 1 ≤ _; omega, (SliceAt.to hihj19_0 (by rw [accR_end hpt.2.1.1 hrn hr]; rfl)), hihj19_1, hihj19_2⟩)
 ·have hb12R := hb12; try simp only [zz] at hb12
  have hkk : k = g.along.length := by simp only [List.length_map] at *; omega
  refine pwp_exit ?_
  refine exit_seq ?_
  clear hK11 K11
  refine exit_loop ?_
  refine exit_here ?_
  refine seq_norm (hK4 _ ?_); clear hK4 K4
  refine pwp_seq_plain rfl fun K38 hK38 => ?_
  refine p_e rfl (e_move (v := _) rfl) ?_
  refine p_e rfl (e_assign (v := _) rfl) ?_
  refine p_end (hK38 _ ?_); clear hK38 K38
  refine pwp_ret ?_
  refine end1 (v := _) rfl ?_
  first
    | exact .nil 2
    | exact out_slice (SliceAt.to hihj9_0 (by rw [hkk])) rfl (fun _ => rfl) tie_clean

theorem fr7 : (inFrame Tryz.f7.ntmps (Tryz.f7.body.getD .skip) && Tryz.f7.results.toList.all (resScope Tryz.f7.ntmps)) = true := by kernel_rfl
theorem hSelect (g : Grid) (p : Pattern) (ha : g.along.length ≤ 9223372036854775807) (hb : g.levels.length ≤ 9223372036854775807) : PCalls Tryz.prog 7 [.agg g.enc, .agg p.enc] (.bool true) := by
 refine PCalls.of_code Tryz.func7 rfl rfl (by kernel_rfl) mixed fr7 (by show _ ≤ 51; simp) (.sc _) ?_
 have hst := slX_c g p
 refine pwp_seq_plain rfl fun K1 hK1 => ?_
 refine p_new rfl (e_box (n := 3) rfl rfl) ⟨rfl, by decide⟩ ?_
 refine p_new rfl (e_box (n := 3) rfl rfl) ⟨rfl, by decide⟩ ?_
 refine p_aS rfl ?_
 refine p_end (hK1 _ ?_); clear hK1 K1
 refine pwp_seq_seq ?_
 refine pwp_seq_plain rfl fun K2 hK2 => ?_
 refine p_call rfl .nil (awake) ?_
 refine p_e rfl (e_not rfl) ?_
 refine p_end (hK2 _ ?_); clear hK2 K2
 refine pwp_seq_cond (t := false) rfl fun K3 hK3 => ⟨nofun, fun _ => ?_⟩
 refine pwp_skip ?_
 refine seq_norm (hK3 _ ?_); clear hK3 K3
 refine pwp_seq_seq ?_
 refine pwp_seq_gops rfl fun K4 hK4 => ?_
 refine g_begin ?_
 refine g_e rfl (e_faQ pl3 rfl) ?_
 refine g_e rfl (e_lH (v := .lit _ _ _) rfl ((hset_ne (key_ne rfl)).trans (hset_self _ _ _)) rfl) ?_
 refine g_e rfl (e_len rfl (by kernel_rfl)) ?_
 refine g_e rfl (e_gt rfl rfl) ?_
 refine g_mS rfl rfl ?_
 refine g_cases (fun hb5 => ?_) (fun hb5 => ?_)
 ·have hb5R := hb5; try simp only [zz] at hb5
  iterate 4 refine g_skip rfl rfl rfl ?_
  refine g_pT rfl rfl rfl ?_
  refine g_end (ds := [15, 16, 17, 18]) rfl rfl (hK4 _ ?_); clear hK4 K4
  refine pwp_seq_cond (t := true) rfl fun K6 hK6 => ⟨fun _ => ?_, nofun⟩
  refine pwp_seq_plain rfl fun K7 hK7 => ?_
  refine p_aS rfl ?_
  refine p_end (hK7 _ ?_); clear hK7 K7
  refine pwp_ret ?_
  refine ret_seq ?_
  refine end1 (v := .sc _) rfl ?_
  first
    | exact out_b rfl
    | exact out_b (by rw [decide_eq_true_eq]; simp only [List.length_map] at *; omega)
    | exact out_b (decide_eq_true hsl)
    | (exfalso; simp only [List.length_map] at *; omega)
    | (exfalso; simp_all; done)
 ·have hb5R := hb5; try simp only [zz] at hb5
  refine g_e rfl (e_faQ pl3 rfl) ?_
  refine g_e rfl (e_lH (v := .lit _ _ _) rfl ((hset_ne (key_ne rfl)).trans (hset_self _ _ _)) rfl) ?_
  refine g_e rfl (e_len rfl (by kernel_rfl)) ?_
  refine g_e rfl (e_gt rfl rfl) ?_
  refine g_pF rfl rfl rfl ?_
  refine g_end (ds := [15, 16, 17, 18]) rfl rfl (hK4 _ ?_); clear hK4 K4
  refine pwp_seq_cond rfl fun K8 hK8 => ⟨fun hb9 => ?_, fun hb9 => ?_⟩
  ·have hb9R := hb9; try simp only [zz] at hb9
   refine pwp_seq_plain rfl fun K10 hK10 => ?_
   refine p_aS rfl ?_
   refine p_end (hK10 _ ?_); clear hK10 K10
   refine pwp_ret ?_
   refine ret_seq ?_
   refine end1 (v := .sc _) rfl ?_
   first
     | exact out_b rfl
     | exact out_b (by rw [decide_eq_true_eq]; simp only [List.length_map] at *; omega)
     | exact out_b (decide_eq_true hsl)
     | (exfalso; simp only [List.length_map] at *; omega)
     | (exfalso; simp_all; done)
  ·have hb9R := hb9; try simp only [zz] at hb9
   refine pwp_skip ?_
   refine seq_norm (hK8 _ ?_); clear hK8 K8
   have ha2 : g.along.length ≤ 100 := by simp only [List.length_map] at *; omega
   have hb2 : g.levels.length ≤ 100 := by simp only [List.length_map] at *; omega
   have hsn := slX_len (p := p) ha2 hb2
   refine pwp_seq_plain rfl fun K11 hK11 => ?_
   refine p_e rfl (e_loadHA (cs := Grid.enc (g)) (n := 3) rfl ((hset_ne (key_ne rfl)).trans (hset_self _ _ _)) (by kernel_rfl) (by kernel_rfl) (by kernel_rfl) (by exact Nat.zero_lt_one) (by decide) rfl) ?_
   refine p_e rfl (e_loadHA (cs := Pattern.enc (p)) (n := 3) rfl (hset_self _ _ _) (by kernel_rfl) (by kernel_rfl) (by kernel_rfl) (by exact Nat.zero_lt_one) (by decide) rfl) ?_
   refine p_call rfl (.cons (inn_agg (Grid.pure _)) (.cons (inn_agg (Pattern.pure _)) .nil)) (SelectC g p (by omega) (by omega)) ?_
   refine p_e rfl (e_move (v := .tup _) rfl) ?_
   refine p_e rfl (e_ext (v := .lit _ _ _) rfl (by simp) rfl) ?_
   refine p_e rfl (e_ext (v := .sc _) rfl (by simp) rfl) ?_
   refine p_e rfl (e_assign (v := .lit _ _ _) rfl) ?_
   refine p_aS rfl ?_
   refine p_end (hK11 _ ?_); clear hK11 K11
   refine pwp_seq_plain rfl fun K12 hK12 => ?_
   refine p_e rfl (e_loadHA (cs := Grid.enc (g)) (n := 3) rfl ((hset_ne (key_ne rfl)).trans (hset_self _ _ _)) (by kernel_rfl) (by kernel_rfl) (by kernel_rfl) (by exact Nat.zero_lt_one) (by decide) rfl) ?_
   refine p_call rfl (.cons (inn_agg (Grid.pure _)) .nil) (refGridC g (by omega) (by omega)) ?_
   refine p_aS rfl ?_
   refine p_end (hK12 _ ?_); clear hK12 K12
   refine pwp_seq_seq ?_
   refine pwp_seq_plain rfl fun K13 hK13 => ?_
   refine p_mS rfl ?_
   refine p_e rfl (e_eq rfl rfl) ?_
   refine p_end (hK13 _ ?_); clear hK13 K13
   refine pwp_seq_cond rfl fun K14 hK14 => ⟨fun hb15 => ?_, fun hb15 => ?_⟩
   ·have hb15R := hb15; try simp only [zz] at hb15
    refine pwp_plain rfl fun K16 hK16 => ?_
    refine p_e rfl (e_loadHA (cs := Pattern.enc (p)) (n := 3) rfl (hset_self _ _ _) (by kernel_rfl) (by kernel_rfl) (by kernel_rfl) (by exact Nat.zero_lt_one) (by decide) rfl) ?_
    refine p_call rfl (.cons (inn_agg (Pattern.pure _)) .nil) (refPatC p) ?_
    refine p_aS rfl ?_
    refine p_end (hK16 _ ?_); clear hK16 K16
    refine seq_norm (hK14 _ ?_); clear hK14 K14
    refine pwp_seq_seq ?_
    refine pwp_seq_plain rfl fun K17 hK17 => ?_
    refine p_mS rfl ?_
    refine p_e rfl (e_ne rfl rfl) ?_
    refine p_end (hK17 _ ?_); clear hK17 K17
    refine pwp_seq_cond rfl fun K18 hK18 => ⟨fun hb19 => ?_, fun hb19 => ?_⟩
    ·have hb19R := hb19; try simp only [zz] at hb19
     refine pwp_seq_gops rfl fun K20 hK20 => ?_
     refine g_begin ?_
     refine g_mS rfl rfl ?_
     refine g_mS rfl rfl ?_
     refine g_e rfl (e_eq rfl rfl) ?_
     refine g_mS rfl rfl ?_
     refine g_cases (fun hb21 => ?_) (fun hb21 => ?_)
     ·have hb21R := hb21; try simp only [zz] at hb21
      refine g_e rfl (e_move (v := .lit _ _ _) rfl) ?_
      refine g_e rfl (e_len rfl (by kernel_rfl)) ?_
      refine g_e rfl (e_eq rfl rfl) ?_
      refine g_pT rfl rfl rfl ?_
      refine g_aS rfl rfl ?_
      refine g_end (ds := [38, 39, 40]) rfl rfl (hK20 _ ?_); clear hK20 K20
      refine pwp_ret ?_
      refine ret_seq ?_
      refine end1 (v := .sc _) rfl ?_
      first
        | exact out_b rfl
        | exact out_b (by rw [decide_eq_true_eq]; simp only [List.length_map] at *; omega)
        | exact out_b (decide_eq_true hsl)
        | (exfalso; simp only [List.length_map] at *; omega)
        | (exfalso; simp_all; done)
     ·have hb21R := hb21; try simp only [zz] at hb21
      iterate 3 refine g_skip rfl rfl rfl ?_
      refine g_pF rfl rfl rfl ?_
      refine g_aS rfl rfl ?_
      refine g_end (ds := [38, 39, 40]) rfl rfl (hK20 _ ?_); clear hK20 K20
      refine pwp_ret ?_
      refine ret_seq ?_
      refine end1 (v := .sc _) rfl ?_
      first
        | exact out_b rfl
        | exact out_b (by rw [decide_eq_true_eq]; simp only [List.length_map] at *; omega)
        | exact out_b (decide_eq_true hsl)
        | (exfalso; simp only [List.length_map] at *; omega)
        | (exfalso; simp_all; done)
    ·have hb19R := hb19; try simp only [zz] at hb19
     refine pwp_skip ?_
     refine seq_norm (hK18 _ ?_); clear hK18 K18
     have hgg : gridE g = 0 := by simp only [List.length_map] at *; omega
     have hpp : patE p = 0 := by simp only [List.length_map] at *; omega
     have hsl : (slX g p).1 = accL p g.levels.length g.along.length := by rw [slX_0 hgg hpp]
     have hsm : (accL p g.levels.length g.along.length).length ≤ 3000 := by rw [← hsl]; exact hsn
     refine pwp_seq_gops rfl fun K22 hK22 => ?_
     refine g_begin ?_
     refine g_mS rfl rfl ?_
     refine g_e rfl (e_eq rfl rfl) ?_
     refine g_mS rfl rfl ?_
     refine g_cases (fun hb23 => ?_) (fun hb23 => ?_)
     ·have hb23R := hb23; try simp only [zz] at hb23
      refine g_e rfl (e_move (v := .lit _ _ _) rfl) ?_
      refine g_e rfl (e_loadHA (cs := Grid.enc (g)) (n := 3) rfl ((hset_ne (key_ne rfl)).trans (hset_self _ _ _)) (by kernel_rfl) (by kernel_rfl) (by kernel_rfl) (by exact Nat.zero_lt_one) (by decide) rfl) ?_
      refine g_e rfl (e_loadHA (cs := Pattern.enc (p)) (n := 3) rfl (hset_self _ _ _) (by kernel_rfl) (by kernel_rfl) (by kernel_rfl) (by exact Nat.zero_lt_one) (by decide) rfl) ?_
      refine g_call rfl rfl rfl rfl (.cons (inn_agg (Grid.pure _)) (.cons (inn_agg (Pattern.pure _)) .nil)) (refSelectC g p (by omega) (by omega) (by omega) (by omega)) ?_
      refine g_call rfl rfl rfl rfl (.cons inn_lit (.cons inn_lit .nil)) (SameTiesC _ _ _ _ (by omega) (by omega)) ?_
      refine g_pT rfl rfl rfl ?_
      refine g_aS rfl rfl ?_
      refine g_end (ds := [45, 46, 47, 48, 49]) rfl rfl (hK22 _ ?_); clear hK22 K22
      refine pwp_ret ?_
      refine end1 (v := .sc _) rfl ?_
      first
        | exact out_b rfl
        | exact out_b (by rw [decide_eq_true_eq]; simp only [List.length_map] at *; omega)
        | exact out_b (decide_eq_true hsl)
        | (exfalso; simp only [List.length_map] at *; omega)
        | (exfalso; simp_all; done)
     ·have hb23R := hb23; try simp only [zz] at hb23
      iterate 3 refine g_skip rfl rfl rfl ?_
      refine g_nocall rfl rfl rfl ?_
      refine g_nocall rfl rfl rfl ?_
      refine g_pF rfl rfl rfl ?_
      refine g_aS rfl rfl ?_
      refine g_end (ds := [45, 46, 47, 48, 49]) rfl rfl (hK22 _ ?_); clear hK22 K22
      refine pwp_ret ?_
      refine end1 (v := .sc _) rfl ?_
      first
        | exact out_b rfl
        | exact out_b (by rw [decide_eq_true_eq]; simp only [List.length_map] at *; omega)
        | exact out_b (decide_eq_true hsl)
        | (exfalso; simp only [List.length_map] at *; omega)
        | (exfalso; simp_all; done)
   ·have hb15R := hb15; try simp only [zz] at hb15
    refine pwp_skip ?_
    refine seq_norm (hK14 _ ?_); clear hK14 K14
    refine pwp_seq_seq ?_
    refine pwp_seq_plain rfl fun K24 hK24 => ?_
    refine p_mS rfl ?_
    refine p_e rfl (e_ne rfl rfl) ?_
    refine p_end (hK24 _ ?_); clear hK24 K24
    refine pwp_seq_cond rfl fun K25 hK25 => ⟨fun hb26 => ?_, fun hb26 => ?_⟩
    ·have hb26R := hb26; try simp only [zz] at hb26
     refine pwp_seq_gops rfl fun K27 hK27 => ?_
     refine g_begin ?_
     refine g_mS rfl rfl ?_
     refine g_mS rfl rfl ?_
     refine g_e rfl (e_eq rfl rfl) ?_
     refine g_mS rfl rfl ?_
     refine g_cases (fun hb28 => ?_) (fun hb28 => ?_)
     ·have hb28R := hb28; try simp only [zz] at hb28
      refine g_e rfl (e_move (v := .lit _ _ _) rfl) ?_
      refine g_e rfl (e_len rfl (by kernel_rfl)) ?_
      refine g_e rfl (e_eq rfl rfl) ?_
      refine g_pT rfl rfl rfl ?_
      refine g_aS rfl rfl ?_
      refine g_end (ds := [38, 39, 40]) rfl rfl (hK27 _ ?_); clear hK27 K27
      refine pwp_ret ?_
      refine ret_seq ?_
      refine end1 (v := .sc _) rfl ?_
      first
        | exact out_b rfl
        | exact out_b (by rw [decide_eq_true_eq]; simp only [List.length_map] at *; omega)
        | exact out_b (decide_eq_true hsl)
        | (exfalso; simp only [List.length_map] at *; omega)
        | (exfalso; simp_all; done)
     ·have hb28R := hb28; try simp only [zz] at hb28
      iterate 3 refine g_skip rfl rfl rfl ?_
      refine g_pF rfl rfl rfl ?_
      refine g_aS rfl rfl ?_
      refine g_end (ds := [38, 39, 40]) rfl rfl (hK27 _ ?_); clear hK27 K27
      refine pwp_ret ?_
      refine ret_seq ?_
      refine end1 (v := .sc _) rfl ?_
      first
        | exact out_b rfl
        | exact out_b (by rw [decide_eq_true_eq]; simp only [List.length_map] at *; omega)
        | exact out_b (decide_eq_true hsl)
        | (exfalso; simp only [List.length_map] at *; omega)
        | (exfalso; simp_all; done)
    ·have hb26R := hb26; try simp only [zz] at hb26
     refine pwp_skip ?_
     refine seq_norm (hK25 _ ?_); clear hK25 K25
     have hgg : gridE g = 0 := by simp only [List.length_map] at *; omega
     have hpp : patE p = 0 := by simp only [List.length_map] at *; omega
     have hsl : (slX g p).1 = accL p g.levels.length g.along.length := by rw [slX_0 hgg hpp]
     have hsm : (accL p g.levels.length g.along.length).length ≤ 3000 := by rw [← hsl]; exact hsn
     refine pwp_seq_gops rfl fun K29 hK29 => ?_
     refine g_begin ?_
     refine g_mS rfl rfl ?_
     refine g_e rfl (e_eq rfl rfl) ?_
     refine g_mS rfl rfl ?_
     refine g_cases (fun hb30 => ?_) (fun hb30 => ?_)
     ·have hb30R := hb30; try simp only [zz] at hb30
      refine g_e rfl (e_move (v := .lit _ _ _) rfl) ?_
      refine g_e rfl (e_loadHA (cs := Grid.enc (g)) (n := 3) rfl ((hset_ne (key_ne rfl)).trans (hset_self _ _ _)) (by kernel_rfl) (by kernel_rfl) (by kernel_rfl) (by exact Nat.zero_lt_one) (by decide) rfl) ?_
      refine g_e rfl (e_loadHA (cs := Pattern.enc (p)) (n := 3) rfl (hset_self _ _ _) (by kernel_rfl) (by kernel_rfl) (by kernel_rfl) (by exact Nat.zero_lt_one) (by decide) rfl) ?_
      refine g_call rfl rfl rfl rfl (.cons (inn_agg (Grid.pure _)) (.cons (inn_agg (Pattern.pure _)) .nil)) (refSelectC g p (by omega) (by omega) (by omega) (by omega)) ?_
      refine g_call rfl rfl rfl rfl (.cons inn_lit (.cons inn_lit .nil)) (SameTiesC _ _ _ _ (by omega) (by omega)) ?_
      refine g_pT rfl rfl rfl ?_
      refine g_aS rfl rfl ?_
      refine g_end (ds := [45, 46, 47, 48, 49]) rfl rfl (hK29 _ ?_); clear hK29 K29
      refine pwp_ret ?_
      refine end1 (v := .sc _) rfl ?_
      first
        | exact out_b rfl
        | exact out_b (by rw [decide_eq_true_eq]; simp only [List.length_map] at *; omega)
        | exact out_b (decide_eq_true hsl)
        | (exfalso; simp only [List.length_map] at *; omega)
        | (exfalso; simp_all; done)
     ·have hb30R := hb30; try simp only [zz] at hb30
      iterate 3 refine g_skip rfl rfl rfl ?_
      refine g_nocall rfl rfl rfl ?_
      refine g_nocall rfl rfl rfl ?_
      refine g_pF rfl rfl rfl ?_
      refine g_aS rfl rfl ?_
      refine g_end (ds := [45, 46, 47, 48, 49]) rfl rfl (hK29 _ ?_); clear hK29 K29
      refine pwp_ret ?_
      refine end1 (v := .sc _) rfl ?_
      first
        | exact out_b rfl
        | exact out_b (by rw [decide_eq_true_eq]; simp only [List.length_map] at *; omega)
        | exact out_b (decide_eq_true hsl)
        | (exfalso; simp only [List.length_map] at *; omega)
        | (exfalso; simp_all; done)

end Go.Proofs.YtindehoegfiiaaaGreatDoor
