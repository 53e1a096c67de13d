/- Patterns of ties. No conditions. -/
import Derived.Test.YtindehoegfiiaaaGreatDoorGro
set_option linter.unusedSimpArgs false
set_option linter.unusedVariables false
set_option maxRecDepth 100000
namespace Go.Proofs.YtindehoegfiiaaaGreatDoor
open Go Go.Pv
theorem eqOk_Tie (a b : Tie) : eqOk Tryz.prog 6 55 (.agg a.enc) (.agg b.enc) = true := by kernel_rfl
theorem eqV_Tie (a b : Tie) : eqV Tryz.prog 6 55 (.agg a.enc) (.agg b.enc) = decide (a = b) := by
 have h : eqV Tryz.prog 6 55 (.agg a.enc) (.agg b.enc) = ((a.standard == b.standard) && ((a.level == b.level) && true)) := by kernel_rfl
 rw [h]
 cases a; cases b
 simp only [Tie.mk.injEq]
 rw [Bool.eq_iff_iff]
 simp
section
variable {p : Pattern} {m i r k : Nat} {b : List Tie} {g : Grid}
theorem grd_shape (h : gridE g = 0) : FacOK g ∧ ShpOK g := by
 by_cases h1 : FacOK g
 · by_cases h2 : ShpOK g
   · exact ⟨h1, h2⟩
   · rw [← grd_11 h1 h2] at h; cases h
 · rw [← grd_2f h1] at h; cases h
theorem tie_clean (a : Tie) : ∀ p ∈ a.enc, Go.Pv.Clean p ∧ p.cell = true := fun p hp => by
 simp only [Tie.enc, List.mem_cons, List.not_mem_nil, or_false] at hp
 rcases hp with rfl | rfl <;> exact ⟨.sc _, rfl⟩
theorem slX_oe {h : Heap} {e : Int} {x : List Tie × Int} (hx : x = ([], e)) : Out h (.tup [.nil, .int e]) (.tup [.lit false 2 (x.1.map Tie.enc), .int x.2]) := by
 subst hx; exact out_2 (.nil 2) (out_i rfl)
theorem slX_o {h : Heap} {v : PV} {d : Nat} {x : List Tie × Int} {l : List Tie} (hv : SliceAt h d v 2 (l.map Tie.enc)) (hx : x = (l, 0)) : Out h (.tup [v, .int 0]) (.tup [.lit false 2 (x.1.map Tie.enc), .int x.2]) := by
 subst hx; exact out_2 (out_slice hv rfl (fun _ => rfl) tie_clean) (out_i rfl)
end
/-! ### Two lists that are the same -/
theorem same_f {α : Type} [DecidableEq α] {l m : List α} {k : Nat} {x y : α} (hx : l[k]? = some x) (hy : m[k]? = some y) (h : ¬ x = y) : false = decide (l = m) := (decide_eq_false fun q => by subst q; rw [hx] at hy; exact h (Option.some.inj hy)).symm
theorem same_l {α : Type} [DecidableEq α] {l m : List α} (h : ¬ l.length = m.length) : false = decide (l = m) := (decide_eq_false fun q => h (by rw [q])).symm
abbrev SameTo {α : Type} (l m : List α) (k : Nat) : Prop := ∀ i, i < k → l[i]? = m[i]?
theorem same_s {α : Type} {l m : List α} {k : Nat} {x y : α} (h : SameTo l m k) (hx : l[k]? = some x) (hy : m[k]? = some y) (he : x = y) : SameTo l m (k + 1) := fun i hi => by
 by_cases e : i = k
 · subst e; rw [hx, hy, he]
 · exact h i (by omega)
theorem same_t {α : Type} [DecidableEq α] {l m : List α} {k : Nat} (h : SameTo l m k) (hl : l.length = m.length) (hk : l.length ≤ k) : true = decide (l = m) := (decide_eq_true (List.ext_getElem? fun i => by
 by_cases e : i < k
 · exact h i e
 · rw [List.getElem?_eq_none (by omega), List.getElem?_eq_none (by omega)])).symm

theorem fr23 : (inFrame Tryz.f23.ntmps (Tryz.f23.body.getD .skip) && Tryz.f23.results.toList.all (resScope Tryz.f23.ntmps)) = true := by kernel_rfl
theorem SameTiesC (t t2 : Bool) (l l2 : List Tie) (hl : l.length ≤ 1000000) (hl2 : l2.length ≤ 1000000) : PCalls Tryz.prog 23 [.lit t 2 (l.map Tie.enc), .lit t2 2 (l2.map Tie.enc)] (.bool (decide (l = l2))) := by
 refine PCalls.of_code Tryz.func23 rfl rfl (by kernel_rfl) mixed fr23 (by show _ ≤ 26; simp) (.sc _) ?_
 refine pwp_seq_plain rfl fun K1 hK1 => ?_
 refine p_aS rfl ?_
 refine p_end (hK1 _ ?_); clear hK1 K1
 refine pwp_seq_seq ?_
 refine pwp_seq_plain rfl fun K2 hK2 => ?_
 refine p_e rfl (e_move (v := .lit _ _ _) rfl) ?_
 refine p_e rfl (e_len rfl (by kernel_rfl)) ?_
 refine p_e rfl (e_move (v := .lit _ _ _) rfl) ?_
 refine p_e rfl (e_len rfl (by kernel_rfl)) ?_
 refine p_e rfl (e_ne rfl rfl) ?_
 refine p_end (hK2 _ ?_); clear hK2 K2
 refine pwp_seq_cond rfl fun K3 hK3 => ⟨fun hb4 => ?_, fun hb4 => ?_⟩
 ·have hb4R := hb4; try simp only [zz] at hb4
  refine pwp_seq_plain rfl fun K5 hK5 => ?_
  refine p_aS rfl ?_
  refine p_end (hK5 _ ?_); clear hK5 K5
  refine pwp_ret ?_
  refine ret_seq ?_
  refine end1 (v := .sc _) rfl ?_
  first
    | exact out_b (same_l (by simp only [List.length_map] at *; omega))
    | exact out_b (same_f hx hy (by first | assumption | simp_all))
    | exact out_b (same_t hin hlen (by simp only [List.length_map] at *; omega))
 ·have hb4R := hb4; try simp only [zz] at hb4
  refine pwp_skip ?_
  refine seq_norm (hK3 _ ?_); clear hK3 K3
  refine pwp_seq_seq ?_
  have hlen : l.length = l2.length := by simp only [List.length_map] at *; omega
  refine pwp_seq_plain rfl fun K6 hK6 => ?_
  refine p_aS rfl ?_
  refine p_end (hK6 _ ?_); clear hK6 K6
  refine pwp_seq_block fun K7 hK7 => ?_
  refine pwp_loopR (α := Nat) [0, 1] (fun (k : Nat) => [(5, .int (k))]) (fun (k : Nat) (h : Heap) (_ : Nat → Nat) => ((k) ≤ l.length) ∧ (SameTo l l2 (k))) (fun (k : Nat) => l.length - (k)) (0) (by exact ⟨rfl, trivial⟩) (by exact ⟨by exact Nat.zero_le _, by exact fun i h => absurd h (Nat.not_lt_zero _)⟩) fun k r8 h9 c10 hj11 => ?_
  obtain ⟨hk, hin⟩ := hj11
  try dsimp only at hk
  try dsimp only at hin
  show pwp _ _ (loopQ _ _ _) ⟨sets (mix _ _ _) [(5, .int k)], _, _⟩
  refine pwp_seq_seq ?_
  refine pwp_seq_plain rfl fun K12 hK12 => ?_
  refine p_mS rfl ?_
  refine p_e rfl (e_move (v := .lit _ _ _) rfl) ?_
  refine p_e rfl (e_len rfl (by kernel_rfl)) ?_
  refine p_e rfl (e_lt rfl rfl) ?_
  refine p_end (hK12 _ ?_); clear hK12 K12
  refine pwp_seq_cond rfl fun K13 hK13 => ⟨fun hb14 => ?_, fun hb14 => ?_⟩
  ·have hb14R := hb14; try simp only [zz] at hb14
   obtain ⟨x, hx, hd, ht⟩ := get_lt (xs := l) (i := k) (by omega)
   obtain ⟨y, hy⟩ : ∃ y, l2[k]? = some y := ⟨_, List.getElem?_eq_getElem (by omega)⟩
   refine pwp_skip ?_
   refine seq_norm (hK13 _ ?_); clear hK13 K13
   refine pwp_seq_block fun K15 hK15 => ?_
   refine pwp_seq_gops rfl fun K16 hK16 => ?_
   refine g_begin ?_
   refine g_e rfl (e_move (v := .lit _ _ _) rfl) ?_
   refine g_mS rfl rfl ?_
   refine g_e rfl (e_ixL rfl rfl) ?_
   refine g_e rfl (e_loadA (n := 2) rfl (by kernel_rfl) (by kernel_rfl) (by kernel_rfl) (by first | omega | (simp only [List.length_map]; omega)) (by decide) (by first | exact agg_map hx rfl)) ?_
   refine g_e rfl (e_move (v := .lit _ _ _) rfl) ?_
   refine g_mS rfl rfl ?_
   refine g_e rfl (e_ixL rfl rfl) ?_
   refine g_e rfl (e_loadA (n := 2) rfl (by kernel_rfl) (by kernel_rfl) (by kernel_rfl) (by first | omega | (simp only [List.length_map]; omega)) (by decide) (by first | exact agg_map hy rfl)) ?_
   refine g_e rfl (e_ane rfl rfl (by kernel_rfl) (eqOk_Tie (x) (y)) (eqV_Tie (x) (y))) ?_
   refine g_end (ds := []) (by kernel_rfl) rfl (hK16 _ ?_); clear hK16 K16
   refine pwp_cond rfl (fun hb17 => ?_) (fun hb17 => ?_)
   ·have hb17R := hb17; try simp only [zz] at hb17
    refine pwp_seq_plain rfl fun K18 hK18 => ?_
    refine p_aS rfl ?_
    refine p_end (hK18 _ ?_); clear hK18 K18
    refine pwp_ret ?_
    refine ret_block ?_
    refine ret_seq ?_
    refine ret_loop ?_
    refine ret_block ?_
    refine ret_seq ?_
    refine end1 (v := .sc _) rfl ?_
    first
      | exact out_b (same_l (by simp only [List.length_map] at *; omega))
      | exact out_b (same_f hx hy (by first | assumption | simp_all))
      | exact out_b (same_t hin hlen (by simp only [List.length_map] at *; omega))
   ·have hb17R := hb17; try simp only [zz] at hb17
    refine pwp_skip ?_
    refine block_norm ?_
    refine seq_norm (hK15 _ ?_); clear hK15 K15
    refine pwp_plain rfl fun K19 hK19 => ?_
    refine p_mS rfl ?_
    refine p_e rfl (e_adL rfl rfl) ?_
    refine p_aS rfl ?_
    refine p_end (hK19 _ ?_); clear hK19 K19
    exact loop_again (k + 1) (by show _ < _; omega) ⟨rfl, rfl, trivial⟩ ⟨rfl, trivial⟩ (by exact ⟨by show _ + 1 ≤ _; simp only [List.length_map] at *; omega, by exact same_s hin hx hy (by first | assumption | simp_all)⟩)
  ·have hb14R := hb14; try simp only [zz] at hb14
   refine pwp_exit ?_
   refine exit_seq ?_
   clear hK13 K13
   refine exit_loop ?_
   refine exit_here ?_
   refine seq_norm (hK7 _ ?_); clear hK7 K7
   refine pwp_seq_plain rfl fun K20 hK20 => ?_
   refine p_aS rfl ?_
   refine p_end (hK20 _ ?_); clear hK20 K20
   refine pwp_ret ?_
   refine end1 (v := .sc _) rfl ?_
   first
     | exact out_b (same_l (by simp only [List.length_map] at *; omega))
     | exact out_b (same_f hx hy (by first | assumption | simp_all))
     | exact out_b (same_t hin hlen (by simp only [List.length_map] at *; omega))

end Go.Proofs.YtindehoegfiiaaaGreatDoor
