/- Grounds. No conditions. -/
import Derived.Test.YtindehoegfiiaaaGreatDoorGrd
set_option linter.unusedSimpArgs false
set_option linter.unusedVariables false
set_option maxRecDepth 100000
namespace Go.Proofs.YtindehoegfiiaaaGreatDoor
open Go Go.Pv
/-! ### The first error of a list -/
def frsF {α : Type} (E : Nat → α → Int) : Nat → List α → Int
 | _, [] => 0
 | k, x :: l => if E k x ≠ 0 then E k x else frsF E (k + 1) l
section
variable {α : Type} {E : Nat → α → Int} {R : Int} {xs : List α} {k : Nat} {x : α}
theorem frs_go (h : R = frsF E k (xs.drop k)) (hd : xs.drop k = x :: xs.drop (k + 1)) (h0 : E k x = 0) : R = frsF E (k + 1) (xs.drop (k + 1)) := by
 rw [h, hd, frsF, if_neg (fun q => q h0)]
theorem frs_hit (h : R = frsF E k (xs.drop k)) (hd : xs.drop k = x :: xs.drop (k + 1)) {e : Int} (h0 : E k x = e) (h1 : e ≠ 0) : e = R := by
 rw [h, hd, frsF, if_pos (by rw [h0]; exact h1), h0]
theorem frs_end (h : R = frsF E k (xs.drop k)) (hk : xs.length ≤ k) : R = 0 := by rw [h, List.drop_eq_nil_of_le hk, frsF]
theorem frs_all : ∀ (l : List α) (k : Nat), frsF E k l = 0 → ∀ i y, l[i]? = some y → E (k + i) y = 0
 | [], _, _, _, _, hy => by simp at hy
 | x :: l, k, h, i, y, hy => by
   rw [frsF] at h
   by_cases h1 : E k x = 0
   · rw [if_neg (fun q => q h1)] at h
     match i, hy with
     | 0, hy => simp at hy; subst hy; exact h1
     | i + 1, hy =>
       have := frs_all l (k + 1) h i y (by simpa using hy)
       rw [show k + (i + 1) = k + 1 + i by omega]; exact this
   · rw [if_pos h1] at h; exact absurd h h1
end
/-! ### Grounds -/
abbrev GOK (s : Ground) : Prop := (-1000000 ≤ s.fro ∧ s.fro ≤ 1000000) ∧ (-1000000 ≤ s.til ∧ s.til ≤ 1000000) ∧ (-1000000 ≤ s.height ∧ s.height ≤ 1000000) ∧ (1 ≤ s.bearing ∧ s.bearing ≤ 1000000)
def grK (l : List Ground) (k : Nat) (s : Ground) : Int :=
 if ¬ GOK s then 2 else if s.til ≤ s.fro ∨ (0 < k ∧ s.fro ≠ (l.getD (k - 1) default).til) then 10 else 0
def groundE (l : List Ground) : Int := if ¬ (1 ≤ (l.length : Int) ∧ (l.length : Int) ≤ 20) then 11 else frsF (grK l) 0 l
def inB (x : Int) (s : Ground) : Bool := decide (s.fro ≤ x ∧ x < s.til)
def stX (l : List Ground) (x : Int) : Int := if x = (l.getD (l.length - 1) default).til then (l.length : Int) - 1 else ixA (inB x) l
section
variable {l : List Ground} {k : Nat} {s p z : Ground} {x : Int}
theorem gat {i : Nat} (h : l[i]? = some s) : l.getD i default = s := by rw [List.getD_eq_getElem?_getD, h]; rfl
theorem gat1 (hk : 0 < k) (h : l[((k : Int) - 1).toNat]? = some p) : l.getD (k - 1) default = p := by
 rw [show ((k : Int) - 1).toNat = k - 1 by omega] at h; exact gat h
theorem grK_2 (h : ¬ GOK s) : grK l k s = 2 := if_pos h
theorem grK_10 (h : GOK s) (h1 : s.til ≤ s.fro) : grK l k s = 10 := by rw [grK, if_neg (fun q => q h), if_pos (.inl h1)]
theorem grK_10b (h : GOK s) (hk : 0 < k) (hp : l[((k : Int) - 1).toNat]? = some p) (h1 : s.fro ≠ p.til) : grK l k s = 10 := by
 rw [grK, if_neg (fun q => q h), if_pos (.inr ⟨hk, by rw [gat1 hk hp]; exact h1⟩)]
theorem grK_0 (h : GOK s) (h1 : s.fro < s.til) (hp : l[((k : Int) - 1).toNat]? = some p) (h2 : 0 < k → s.fro = p.til) : grK l k s = 0 := by
 rw [grK, if_neg (fun q => q h), if_neg]
 rintro (q | ⟨q, r⟩)
 · omega
 · rw [gat1 q hp] at r; exact r (h2 q)
theorem gro_11 (h : ¬ (1 ≤ (l.length : Int) ∧ (l.length : Int) ≤ 20)) : 11 = groundE l := (if_pos h).symm
theorem gro_f {e : Int} (h : 1 ≤ (l.length : Int) ∧ (l.length : Int) ≤ 20) (h2 : e = frsF (grK l) 0 l) : e = groundE l := by rw [groundE, if_neg (fun q => q h), h2]
theorem gr_len (h : groundE l = 0) : 1 ≤ l.length ∧ l.length ≤ 20 := by
 by_cases q : 1 ≤ (l.length : Int) ∧ (l.length : Int) ≤ 20
 · omega
 · rw [← gro_11 q] at h; cases h
theorem gr_at (h : groundE l = 0) (hs : l[k]? = some s) : GOK s ∧ s.fro < s.til ∧ (0 < k → s.fro = (l.getD (k - 1) default).til) := by
 have q := gr_len h
 rw [groundE, if_neg (fun r => r (by omega))] at h
 have h1 := frs_all (E := grK l) l 0 h k s hs
 rw [Nat.zero_add, grK] at h1
 by_cases h2 : GOK s
 · rw [if_neg (fun r => r h2)] at h1
   by_cases h3 : s.til ≤ s.fro ∨ (0 < k ∧ s.fro ≠ (l.getD (k - 1) default).til)
   · rw [if_pos h3] at h1; cases h1
   · refine ⟨h2, by have := fun q => h3 (.inl q); omega, fun hk => ?_⟩
     by_cases e : s.fro = (l.getD (k - 1) default).til
     · exact e
     · exact absurd (.inr ⟨hk, e⟩) h3
 · rw [if_pos h2] at h1; cases h1
theorem gr_mono (h : groundE l = 0) : ∀ (d k : Nat), k + d < l.length → (l.getD k default).til ≤ (l.getD (k + d) default).til
 | 0, k, _ => Int.le_refl _
 | d + 1, k, hk => by
   have h1 := gr_mono h d k (by omega)
   have hs : l[k + d + 1]? = some (l.getD (k + d + 1) default) := by rw [List.getD_eq_getElem?_getD, List.getElem?_eq_getElem (by omega)]; rfl
   have h2 := gr_at h hs
   have h3 := h2.2.2 (by omega)
   rw [show k + d + 1 - 1 = k + d by omega] at h3
   have h4 := h2.2.1
   rw [show k + (d + 1) = k + d + 1 by omega]
   omega
theorem lastI (hz : l[(((((l).map Ground.enc).length : Nat) : Int) - (1)).toNat]? = some z) : l.getD (l.length - 1) default = z := by
 rw [List.length_map, show ((l.length : Int) - 1).toNat = l.length - 1 by omega] at hz; exact gat hz
theorem stX_l (hz : l[(((((l).map Ground.enc).length : Nat) : Int) - (1)).toNat]? = some z) (h : x = z.til) : ((((l).map Ground.enc).length : Nat) : Int) - 1 = stX l x := by
 rw [stX, lastI hz, if_pos h, List.length_map]
theorem stX_n (hz : l[(((((l).map Ground.enc).length : Nat) : Int) - (1)).toNat]? = some z) (h : ¬ x = z.til) : ixA (inB x) l = stX l x := by
 rw [stX, lastI hz, if_neg h]
abbrev StI (l : List Ground) (x : Int) (k : Nat) : Prop := ∀ i, i < k → ∀ y, l[i]? = some y → inB x y = false ∧ ¬ ((i : Int) = (l.length : Int) - 1 ∧ x = y.til)
theorem stI_0 : StI l x 0 := fun i h => absurd h (Nat.not_lt_zero _)
theorem stI_s (h : StI l x k) (hs : l[k]? = some s) (h1 : ¬ (s.fro ≤ x ∧ x < s.til)) (h2 : ¬ ((k : Int) = (l.length : Int) - 1 ∧ x = s.til)) : StI l x (k + 1) := fun i hi y hy => by
 by_cases e : i = k
 · subst e; rw [hs] at hy; cases hy; exact ⟨decide_eq_false h1, h2⟩
 · exact h i (by omega) y hy
theorem stR_in (hg : groundE l = 0) (hin : StI l x k) (hs : l[k]? = some s) (h1 : s.fro ≤ x ∧ x < s.til) : (k : Int) = stX l x := by
 have hk : k < l.length := (List.getElem?_eq_some_iff.1 hs).1
 have hm := gr_mono hg (l.length - 1 - k) k (by omega)
 rw [gat hs, show k + (l.length - 1 - k) = l.length - 1 by omega] at hm
 rw [stX, if_neg (by omega)]
 exact ixA_hit (K := inB x) hs (fun i hi y hy => (hin i hi y hy).1) (decide_eq_true h1)
theorem stR_l (hs : l[k]? = some s) (hk : (k : Int) = (l.length : Int) - 1) (h : x = s.til) : (k : Int) = stX l x := by
 rw [stX, show l.length - 1 = k by omega, gat hs, if_pos h]; exact hk
theorem stR_n (h1 : 1 ≤ l.length) (hin : StI l x k) (hk : l.length ≤ k) : -1 = stX l x := by
 have hs : l[l.length - 1]? = some (l.getD (l.length - 1) default) := by rw [List.getD_eq_getElem?_getD, List.getElem?_eq_getElem (by omega)]; rfl
 rw [stX, if_neg (fun q => (hin (l.length - 1) (by omega) _ hs).2 ⟨by omega, q⟩)]
 exact ixA_no (K := inB x) (fun i hi y hy => (hin i hi y hy).1) hk
theorem ixA_lt {α : Type} {K : α → Bool} {l : List α} : ixA K l < l.length := by
 rw [ixA]
 split
 · rename_i i hi
   obtain ⟨hk, _⟩ := List.findIdx?_eq_some_iff_getElem.1 hi
   omega
 · omega
theorem stX_lt (h : 1 ≤ l.length) : stX l x < l.length := by
 rw [stX]; split
 · omega
 · exact ixA_lt
end

theorem fr123 : (inFrame Tryz.f123.ntmps (Tryz.f123.body.getD .skip) && Tryz.f123.results.toList.all (resScope Tryz.f123.ntmps)) = true := by kernel_rfl
theorem inC (s : Ground) (x : Int) : PCalls Tryz.prog 123 [.agg s.enc, .lptr true 1 [[.int x]] 0 0] (.bool (inB x s)) := by
 refine PCalls.of_code Tryz.func123 rfl rfl (by kernel_rfl) mixed fr123 (by show _ ≤ 14; simp) (.sc _) ?_
 refine pwp_seq_plain rfl fun K1 hK1 => ?_
 refine p_new rfl (e_box (n := 4) rfl rfl) ⟨rfl, by decide⟩ ?_
 refine p_aS rfl ?_
 refine p_end (hK1 _ ?_); clear hK1 K1
 refine pwp_seq_gops rfl fun K2 hK2 => ?_
 refine g_begin ?_
 refine g_e rfl (e_load (v := .sc _) rfl (by kernel_rfl) (by kernel_rfl) (by kernel_rfl) (by exact Nat.zero_lt_one) (by decide) rfl) ?_
 refine g_e rfl (e_faQ pl4 rfl) ?_
 refine g_e rfl (e_lH (v := .sc _) rfl (hset_self _ _ _) rfl) ?_
 refine g_e rfl (e_ge rfl rfl) ?_
 refine g_mS rfl rfl ?_
 refine g_cases (fun hb3 => ?_) (fun hb3 => ?_)
 ·have hb3R := hb3; try simp only [zz] at hb3
  refine g_e rfl (e_load (v := .sc _) rfl (by kernel_rfl) (by kernel_rfl) (by kernel_rfl) (by exact Nat.zero_lt_one) (by decide) rfl) ?_
  refine g_e rfl (e_faQ pl4 rfl) ?_
  refine g_e rfl (e_lH (v := .sc _) rfl (hset_self _ _ _) rfl) ?_
  refine g_e rfl (e_lt rfl rfl) ?_
  refine g_pT rfl rfl rfl ?_
  refine g_aS rfl rfl ?_
  refine g_end (ds := [9, 10, 11, 12]) rfl rfl (hK2 _ ?_); clear hK2 K2
  refine pwp_ret ?_
  refine end1 (v := .sc _) rfl ?_
  exact out_b (by rw [inB]; first | (exact (decide_eq_false (by omega)).symm) | (rw [Bool.eq_iff_iff]; simp only [decide_eq_true_eq]; omega))
 ·have hb3R := hb3; try simp only [zz] at hb3
  iterate 4 refine g_skip rfl rfl rfl ?_
  refine g_pF rfl rfl rfl ?_
  refine g_aS rfl rfl ?_
  refine g_end (ds := [9, 10, 11, 12]) rfl rfl (hK2 _ ?_); clear hK2 K2
  refine pwp_ret ?_
  refine end1 (v := .sc _) rfl ?_
  exact out_b (by rw [inB]; first | (exact (decide_eq_false (by omega)).symm) | (rw [Bool.eq_iff_iff]; simp only [decide_eq_true_eq]; omega))

theorem fr122 : (inFrame Tryz.f122.ntmps (Tryz.f122.body.getD .skip) && Tryz.f122.results.toList.all (resScope Tryz.f122.ntmps)) = true := by kernel_rfl
theorem IndexGr (l : List Ground) (x : Int) (hl : l.length ≤ 1000) : PCalls Tryz.prog 122 [.lit true 4 (l.map Ground.enc), .func (.func 123) [] [.lptr true 1 [[.int x]] 0 0]] (.int (ixA (inB x) l)) := by
 refine PCalls.of_code Tryz.func122 rfl rfl (by kernel_rfl) mixed fr122 (by show _ ≤ 19; simp) (.sc _) ?_
 refine pwp_seq_plain rfl fun K1 hK1 => ?_
 refine p_aS rfl ?_
 refine p_end (hK1 _ ?_); clear hK1 K1
 refine pwp_seq_seq ?_
 refine pwp_seq_plain rfl fun K2 hK2 => ?_
 refine p_e rfl (e_move (v := .lit _ _ _) rfl) ?_
 refine p_e rfl (e_len rfl (by kernel_rfl)) ?_
 refine p_mS rfl ?_
 refine p_end (hK2 _ ?_); clear hK2 K2
 refine pwp_seq_block fun K3 hK3 => ?_
 refine pwp_loopR (α := Nat) [0, 1, 7] (fun (k : Nat) => [(8, .int (k))]) (fun (k : Nat) (h : Heap) (_ : Nat → Nat) => ((k) ≤ l.length) ∧ (∀ i, i < (k) → ∀ y, l[i]? = some y → inB x y = false)) (fun (k : Nat) => l.length - (k)) (0) (by exact ⟨rfl, trivial⟩) (by exact ⟨by exact Nat.zero_le _, by exact nx_0⟩) fun k r4 h5 c6 hj7 => ?_
 obtain ⟨hk, hin⟩ := hj7
 try dsimp only at hk
 try dsimp only at hin
 show pwp _ _ (loopQ _ _ _) ⟨sets (mix _ _ _) [(8, .int k)], _, _⟩
 refine pwp_seq_plain rfl fun K8 hK8 => ?_
 refine p_e rfl (e_lt rfl rfl) ?_
 refine p_end (hK8 _ ?_); clear hK8 K8
 refine pwp_seq_cond rfl fun K9 hK9 => ⟨fun hb10 => ?_, fun hb10 => ?_⟩
 ·have hb10R := hb10; try simp only [zz] at hb10
  obtain ⟨s, hs, hd, ht⟩ := get_lt (xs := l) (i := k) (by omega)
  refine pwp_skip ?_
  refine seq_norm (hK9 _ ?_); clear hK9 K9
  refine pwp_seq_block fun K11 hK11 => ?_
  refine pwp_seq_plain rfl fun K12 hK12 => ?_
  refine p_mS rfl ?_
  refine p_aS rfl ?_
  refine p_end (hK12 _ ?_); clear hK12 K12
  refine pwp_seq_plain rfl fun K13 hK13 => ?_
  refine p_e rfl (e_move (v := .func _ _ _) rfl) ?_
  refine p_e rfl (e_move (v := .lit _ _ _) rfl) ?_
  refine p_mS rfl ?_
  refine p_e rfl (e_ixL rfl rfl) ?_
  refine p_e rfl (e_loadA (n := 4) rfl (by kernel_rfl) (by kernel_rfl) (by kernel_rfl) (by first | omega | (simp only [List.length_map]; omega)) (by decide) (by first | exact agg_map hs rfl)) ?_
  refine p_call rfl (.cons (inn_agg (Ground.pure _)) (.cons inn_lptr .nil)) (inC s x) ?_
  refine p_end (hK13 _ ?_); clear hK13 K13
  refine pwp_cond rfl (fun hb14 => ?_) (fun hb14 => ?_)
  ·have hb14R := hb14; try simp only [zz] at hb14
   refine pwp_seq_plain rfl fun K15 hK15 => ?_
   refine p_mS rfl ?_
   refine p_aS rfl ?_
   refine p_end (hK15 _ ?_); clear hK15 K15
   refine pwp_ret ?_
   refine ret_block ?_
   refine ret_seq ?_
   refine ret_loop ?_
   refine ret_block ?_
   refine ret_seq ?_
   refine end1 (v := .sc _) rfl ?_
   first
     | exact out_i (ixA_hit (K := inB x) hs hin (by assumption))
     | exact out_i (ixA_no (K := inB x) hin (by simp only [List.length_map] at *; omega))
  ·have hb14R := hb14; try simp only [zz] at hb14
   refine pwp_skip ?_
   refine block_norm ?_
   refine seq_norm (hK11 _ ?_); clear hK11 K11
   refine pwp_plain rfl fun K16 hK16 => ?_
   refine p_e rfl (e_adL rfl rfl) ?_
   refine p_mS rfl ?_
   refine p_end (hK16 _ ?_); clear hK16 K16
   exact loop_again (k + 1) (by show _ < _; omega) ⟨rfl, rfl, rfl, trivial⟩ ⟨rfl, trivial⟩ (by exact ⟨by show _ + 1 ≤ _; simp only [List.length_map] at *; omega, by exact nx_step (K := inB x) hin hs (by assumption)⟩)
 ·have hb10R := hb10; try simp only [zz] at hb10
  refine pwp_exit ?_
  refine exit_seq ?_
  clear hK9 K9
  refine exit_loop ?_
  refine exit_here ?_
  refine seq_norm (hK3 _ ?_); clear hK3 K3
  refine pwp_seq_plain rfl fun K17 hK17 => ?_
  refine p_aS rfl ?_
  refine p_end (hK17 _ ?_); clear hK17 K17
  refine pwp_ret ?_
  refine end1 (v := .sc _) rfl ?_
  first
    | exact out_i (ixA_hit (K := inB x) hs hin (by assumption))
    | exact out_i (ixA_no (K := inB x) hin (by simp only [List.length_map] at *; omega))

theorem fr89 : (inFrame Tryz.f89.ntmps (Tryz.f89.body.getD .skip) && Tryz.f89.results.toList.all (resScope Tryz.f89.ntmps)) = true := by kernel_rfl
theorem stepC (l : List Ground) (x : Int) (hl : l.length ≤ 1000) (h1 : 1 ≤ l.length) : PCalls Tryz.prog 89 [.lit true 4 (l.map Ground.enc), .int x] (.int (stX l x)) := by
 refine PCalls.of_code Tryz.func89 rfl rfl (by kernel_rfl) mixed fr89 (by show _ ≤ 20; simp) (.sc _) ?_
 obtain ⟨z, hz⟩ : ∃ z, l[((((((l).map Ground.enc).length : Nat) : Int) - (1))).toNat]? = some z := ⟨_, List.getElem?_eq_getElem (by simp only [List.length_map]; omega)⟩
 refine pwp_seq_plain rfl fun K1 hK1 => ?_
 refine p_new rfl (e_box1 rfl rfl) ⟨rfl, by decide⟩ ?_
 refine p_aS rfl ?_
 refine p_end (hK1 _ ?_); clear hK1 K1
 refine pwp_seq_plain rfl fun K2 hK2 => ?_
 refine p_e rfl (e_move (v := .lit _ _ _) rfl) ?_
 refine p_e rfl (e_len rfl (by kernel_rfl)) ?_
 refine p_e rfl (e_sub rfl rfl (by first | omega | (simp only [List.length_map] at *; omega))) ?_
 refine p_aS rfl ?_
 refine p_end (hK2 _ ?_); clear hK2 K2
 refine pwp_seq_seq ?_
 refine pwp_seq_gops rfl fun K3 hK3 => ?_
 refine g_begin ?_
 refine g_e rfl (e_lH (v := .sc _) rfl (hset_self _ _ _) rfl) ?_
 refine g_e rfl (e_move (v := .lit _ _ _) rfl) ?_
 refine g_mS rfl rfl ?_
 refine g_e rfl (e_ixL rfl rfl) ?_
 refine g_e rfl (e_fb pl4 rfl) ?_
 refine g_e rfl (e_load (v := .sc _) rfl (by kernel_rfl) (by kernel_rfl) (by kernel_rfl) (by first | omega | (simp only [List.length_map]; omega)) (by decide) ((cell_map hz _).trans rfl)) ?_
 refine g_e rfl (e_eq rfl rfl) ?_
 refine g_end (ds := []) (by kernel_rfl) rfl (hK3 _ ?_); clear hK3 K3
 refine pwp_seq_cond rfl fun K4 hK4 => ⟨fun hb5 => ?_, fun hb5 => ?_⟩
 ·have hb5R := hb5; try simp only [zz] at hb5
  refine pwp_seq_plain rfl fun K6 hK6 => ?_
  refine p_mS rfl ?_
  refine p_aS rfl ?_
  refine p_end (hK6 _ ?_); clear hK6 K6
  refine pwp_ret ?_
  refine ret_seq ?_
  refine end1 (v := .sc _) rfl ?_
  first
    | exact out_i (stX_l hz (by assumption))
    | exact out_i (stX_n hz (by assumption))
 ·have hb5R := hb5; try simp only [zz] at hb5
  refine pwp_skip ?_
  refine seq_norm (hK4 _ ?_); clear hK4 K4
  refine pwp_seq_plain rfl fun K7 hK7 => ?_
  refine p_e rfl (e_move (v := .lit _ _ _) rfl) ?_
  refine p_e rfl (e_mkf rfl) ?_
  refine p_call rfl (.cons inn_lit (.cons (inn_clos1 (inn_ptr (hset_self _ _ _) (pure_one (.sc _)))) .nil)) (IndexGr l x (by omega)) ?_
  refine p_aS rfl ?_
  refine p_end (hK7 _ ?_); clear hK7 K7
  refine pwp_ret ?_
  refine end1 (v := .sc _) rfl ?_
  first
    | exact out_i (stX_l hz (by assumption))
    | exact out_i (stX_n hz (by assumption))

theorem fr41 : (inFrame Tryz.f41.ntmps (Tryz.f41.body.getD .skip) && Tryz.f41.results.toList.all (resScope Tryz.f41.ntmps)) = true := by kernel_rfl
theorem CheckGroundC (l : List Ground) (hl : l.length ≤ 1000) : PCalls Tryz.prog 41 [.lit true 4 (l.map Ground.enc)] (.int (groundE l)) := by
 refine PCalls.of_code Tryz.func41 rfl rfl (by kernel_rfl) mixed fr41 (by show _ ≤ 61; simp) (.sc _) ?_
 refine pwp_seq_plain rfl fun K1 hK1 => ?_
 refine p_aS rfl ?_
 refine p_end (hK1 _ ?_); clear hK1 K1
 refine pwp_seq_seq ?_
 refine pwp_seq_plain rfl fun K2 hK2 => ?_
 refine p_e rfl (e_move (v := .lit _ _ _) rfl) ?_
 refine p_e rfl (e_len rfl (by kernel_rfl)) ?_
 refine p_call rfl (.cons inn_sc (.cons inn_sc (.cons inn_sc .nil))) (within _ _ _) ?_
 refine p_e rfl (e_not rfl) ?_
 refine p_end (hK2 _ ?_); clear hK2 K2
 refine pwp_seq_cond rfl fun K3 hK3 => ⟨fun hb4 => ?_, fun hb4 => ?_⟩
 ·have hb4R := hb4; try simp only [zz] at hb4
  refine pwp_seq_plain rfl fun K5 hK5 => ?_
  refine p_aS rfl ?_
  refine p_end (hK5 _ ?_); clear hK5 K5
  refine pwp_ret ?_
  refine ret_seq ?_
  refine end1 (v := .sc _) rfl ?_
  first
    | exact out_i (gro_11 (by simp only [List.length_map] at *; omega))
    | exact out_i (gro_f (by simp only [List.length_map] at *; omega) (frs_end hinv (by simp only [List.length_map] at *; omega)).symm)
    | exact out_i (gro_f hlen (frs_hit hinv hd (grK_2 (by omega)) (by decide)))
    | exact out_i (gro_f hlen (frs_hit hinv hd (grK_10 (by omega) (by omega)) (by decide)))
    | exact out_i (gro_f hlen (frs_hit hinv hd (grK_10b (by omega) (by omega) hp (by omega)) (by decide)))
 ·have hb4R := hb4; try simp only [zz] at hb4
  refine pwp_skip ?_
  refine seq_norm (hK3 _ ?_); clear hK3 K3
  refine pwp_seq_seq ?_
  have hlen : 1 ≤ (l.length : Int) ∧ (l.length : Int) ≤ 20 := by simp only [List.length_map] at *; omega
  refine pwp_seq_plain rfl fun K6 hK6 => ?_
  refine p_e rfl (e_move (v := .lit _ _ _) rfl) ?_
  refine p_e rfl (e_len rfl (by kernel_rfl)) ?_
  refine p_mS rfl ?_
  refine p_end (hK6 _ ?_); clear hK6 K6
  refine pwp_seq_block fun K7 hK7 => ?_
  refine pwp_loopR (α := Nat) [0, 9, 10] (fun (k : Nat) => [(11, .int (k))]) (fun (k : Nat) (h : Heap) (_ : Nat → Nat) => ((k) ≤ l.length) ∧ (frsF (grK l) 0 l = frsF (grK l) (k) (l.drop (k)))) (fun (k : Nat) => l.length - (k)) (0) (by exact ⟨rfl, trivial⟩) (by exact ⟨by exact Nat.zero_le _, by exact rfl⟩) fun k r8 h9 c10 hj11 => ?_
  obtain ⟨hk, hinv⟩ := hj11
  try dsimp only at hk
  try dsimp only at hinv
  show pwp _ _ (loopQ _ _ _) ⟨sets (mix _ _ _) [(11, .int k)], _, _⟩
  refine pwp_seq_plain rfl fun K12 hK12 => ?_
  refine p_e rfl (e_lt rfl rfl) ?_
  refine p_end (hK12 _ ?_); clear hK12 K12
  refine pwp_seq_cond rfl fun K13 hK13 => ⟨fun hb14 => ?_, fun hb14 => ?_⟩
  ·have hb14R := hb14; try simp only [zz] at hb14
   obtain ⟨s, hs, hd, ht⟩ := get_lt (xs := l) (i := k) (by omega)
   obtain ⟨p, hp⟩ : ∃ p, l[((k : Int) - (1)).toNat]? = some p := ⟨_, List.getElem?_eq_getElem (by omega)⟩
   refine pwp_skip ?_
   refine seq_norm (hK13 _ ?_); clear hK13 K13
   refine pwp_seq_block fun K15 hK15 => ?_
   refine pwp_seq_plain rfl fun K16 hK16 => ?_
   refine p_mS rfl ?_
   refine p_e rfl (e_ixL rfl rfl) ?_
   refine p_e rfl (e_loadA (n := 4) rfl (by kernel_rfl) (by kernel_rfl) (by kernel_rfl) (by first | omega | (simp only [List.length_map]; omega)) (by decide) (by first | exact agg_map hs rfl)) ?_
   refine p_new rfl (e_alloc (cs := [.int 0, .int 0, .int 0, .int 0]) (n := 4) (by kernel_rfl) rfl (by decide)) (ob_alloc (by decide)) ?_
   refine p_aS rfl ?_
   refine p_store rfl (e_storeA rfl (hset_self _ _ _) rfl rfl rfl (by kernel_rfl) rfl (by kernel_rfl)) trivial ?_
   refine p_end (hK16 _ ?_); clear hK16 K16
   refine pwp_block ?_
   refine pwp_seq_gops rfl fun K17 hK17 => ?_
   refine g_begin ?_
   refine g_e rfl (e_faQ pl4 rfl) ?_
   refine g_e rfl (e_lH (v := .sc _) rfl (hset_self _ _ _) rfl) ?_
   refine g_call rfl rfl rfl rfl (.cons inn_sc (.cons inn_sc (.cons inn_sc .nil))) (within _ _ _) ?_
   refine g_e rfl (e_not rfl) ?_
   refine g_mS rfl rfl ?_
   refine g_cases (fun hb18 => ?_) (fun hb18 => ?_)
   ·have hb18R := hb18; try simp only [zz] at hb18
    iterate 2 refine g_skip rfl rfl rfl ?_
    refine g_nocall rfl rfl rfl ?_
    refine g_skip rfl rfl rfl ?_
    refine g_pT rfl rfl rfl ?_
    refine g_mS rfl rfl ?_
    iterate 2 refine g_skip rfl rfl rfl ?_
    refine g_nocall rfl rfl rfl ?_
    refine g_skip rfl rfl rfl ?_
    refine g_pT rfl rfl rfl ?_
    refine g_mS rfl rfl ?_
    iterate 2 refine g_skip rfl rfl rfl ?_
    refine g_nocall rfl rfl rfl ?_
    refine g_skip rfl rfl rfl ?_
    refine g_pT rfl rfl rfl ?_
    refine g_aS rfl rfl ?_
    refine g_end (ds := [22, 23, 24, 25, 28, 29, 30, 31, 34, 35, 36, 37]) rfl rfl (hK17 _ ?_); clear hK17 K17
    refine pwp_cond (t := true) rfl (fun _ => ?_) nofun
    refine pwp_seq_plain rfl fun K19 hK19 => ?_
    refine p_aS rfl ?_
    refine p_end (hK19 _ ?_); clear hK19 K19
    refine pwp_ret ?_
    refine ret_block ?_
    refine ret_block ?_
    refine ret_seq ?_
    refine ret_loop ?_
    refine ret_block ?_
    refine ret_seq ?_
    refine end1 (v := .sc _) rfl ?_
    first
      | exact out_i (gro_11 (by simp only [List.length_map] at *; omega))
      | exact out_i (gro_f (by simp only [List.length_map] at *; omega) (frs_end hinv (by simp only [List.length_map] at *; omega)).symm)
      | exact out_i (gro_f hlen (frs_hit hinv hd (grK_2 (by omega)) (by decide)))
      | exact out_i (gro_f hlen (frs_hit hinv hd (grK_10 (by omega) (by omega)) (by decide)))
      | exact out_i (gro_f hlen (frs_hit hinv hd (grK_10b (by omega) (by omega) hp (by omega)) (by decide)))
   ·have hb18R := hb18; try simp only [zz] at hb18
    refine g_e rfl (e_faQ pl4 rfl) ?_
    refine g_e rfl (e_lH (v := .sc _) rfl (hset_self _ _ _) rfl) ?_
    refine g_call rfl rfl rfl rfl (.cons inn_sc (.cons inn_sc (.cons inn_sc .nil))) (within _ _ _) ?_
    refine g_e rfl (e_not rfl) ?_
    refine g_pF rfl rfl rfl ?_
    refine g_mS rfl rfl ?_
    refine g_cases (fun hb20 => ?_) (fun hb20 => ?_)
    ·have hb20R := hb20; try simp only [zz] at hb20
     iterate 2 refine g_skip rfl rfl rfl ?_
     refine g_nocall rfl rfl rfl ?_
     refine g_skip rfl rfl rfl ?_
     refine g_pT rfl rfl rfl ?_
     refine g_mS rfl rfl ?_
     iterate 2 refine g_skip rfl rfl rfl ?_
     refine g_nocall rfl rfl rfl ?_
     refine g_skip rfl rfl rfl ?_
     refine g_pT rfl rfl rfl ?_
     refine g_aS rfl rfl ?_
     refine g_end (ds := [22, 23, 24, 25, 28, 29, 30, 31, 34, 35, 36, 37]) rfl rfl (hK17 _ ?_); clear hK17 K17
     refine pwp_cond (t := true) rfl (fun _ => ?_) nofun
     refine pwp_seq_plain rfl fun K21 hK21 => ?_
     refine p_aS rfl ?_
     refine p_end (hK21 _ ?_); clear hK21 K21
     refine pwp_ret ?_
     refine ret_block ?_
     refine ret_block ?_
     refine ret_seq ?_
     refine ret_loop ?_
     refine ret_block ?_
     refine ret_seq ?_
     refine end1 (v := .sc _) rfl ?_
     first
       | exact out_i (gro_11 (by simp only [List.length_map] at *; omega))
       | exact out_i (gro_f (by simp only [List.length_map] at *; omega) (frs_end hinv (by simp only [List.length_map] at *; omega)).symm)
       | exact out_i (gro_f hlen (frs_hit hinv hd (grK_2 (by omega)) (by decide)))
       | exact out_i (gro_f hlen (frs_hit hinv hd (grK_10 (by omega) (by omega)) (by decide)))
       | exact out_i (gro_f hlen (frs_hit hinv hd (grK_10b (by omega) (by omega) hp (by omega)) (by decide)))
    ·have hb20R := hb20; try simp only [zz] at hb20
     refine g_e rfl (e_faQ pl4 rfl) ?_
     refine g_e rfl (e_lH (v := .sc _) rfl (hset_self _ _ _) rfl) ?_
     refine g_call rfl rfl rfl rfl (.cons inn_sc (.cons inn_sc (.cons inn_sc .nil))) (within _ _ _) ?_
     refine g_e rfl (e_not rfl) ?_
     refine g_pF rfl rfl rfl ?_
     refine g_mS rfl rfl ?_
     refine g_cases (fun hb22 => ?_) (fun hb22 => ?_)
     ·have hb22R := hb22; try simp only [zz] at hb22
      iterate 2 refine g_skip rfl rfl rfl ?_
      refine g_nocall rfl rfl rfl ?_
      refine g_skip rfl rfl rfl ?_
      refine g_pT rfl rfl rfl ?_
      refine g_aS rfl rfl ?_
      refine g_end (ds := [22, 23, 24, 25, 28, 29, 30, 31, 34, 35, 36, 37]) rfl rfl (hK17 _ ?_); clear hK17 K17
      refine pwp_cond (t := true) rfl (fun _ => ?_) nofun
      refine pwp_seq_plain rfl fun K23 hK23 => ?_
      refine p_aS rfl ?_
      refine p_end (hK23 _ ?_); clear hK23 K23
      refine pwp_ret ?_
      refine ret_block ?_
      refine ret_block ?_
      refine ret_seq ?_
      refine ret_loop ?_
      refine ret_block ?_
      refine ret_seq ?_
      refine end1 (v := .sc _) rfl ?_
      first
        | exact out_i (gro_11 (by simp only [List.length_map] at *; omega))
        | exact out_i (gro_f (by simp only [List.length_map] at *; omega) (frs_end hinv (by simp only [List.length_map] at *; omega)).symm)
        | exact out_i (gro_f hlen (frs_hit hinv hd (grK_2 (by omega)) (by decide)))
        | exact out_i (gro_f hlen (frs_hit hinv hd (grK_10 (by omega) (by omega)) (by decide)))
        | exact out_i (gro_f hlen (frs_hit hinv hd (grK_10b (by omega) (by omega) hp (by omega)) (by decide)))
     ·have hb22R := hb22; try simp only [zz] at hb22
      refine g_e rfl (e_faQ pl4 rfl) ?_
      refine g_e rfl (e_lH (v := .sc _) rfl (hset_self _ _ _) rfl) ?_
      refine g_call rfl rfl rfl rfl (.cons inn_sc (.cons inn_sc (.cons inn_sc .nil))) (within _ _ _) ?_
      refine g_e rfl (e_not rfl) ?_
      refine g_pF rfl rfl rfl ?_
      refine g_aS rfl rfl ?_
      refine g_end (ds := [22, 23, 24, 25, 28, 29, 30, 31, 34, 35, 36, 37]) rfl rfl (hK17 _ ?_); clear hK17 K17
      refine pwp_cond rfl (fun hb24 => ?_) (fun hb24 => ?_)
      ·have hb24R := hb24; try simp only [zz] at hb24
       refine pwp_seq_plain rfl fun K25 hK25 => ?_
       refine p_aS rfl ?_
       refine p_end (hK25 _ ?_); clear hK25 K25
       refine pwp_ret ?_
       refine ret_block ?_
       refine ret_block ?_
       refine ret_seq ?_
       refine ret_loop ?_
       refine ret_block ?_
       refine ret_seq ?_
       refine end1 (v := .sc _) rfl ?_
       first
         | exact out_i (gro_11 (by simp only [List.length_map] at *; omega))
         | exact out_i (gro_f (by simp only [List.length_map] at *; omega) (frs_end hinv (by simp only [List.length_map] at *; omega)).symm)
         | exact out_i (gro_f hlen (frs_hit hinv hd (grK_2 (by omega)) (by decide)))
         | exact out_i (gro_f hlen (frs_hit hinv hd (grK_10 (by omega) (by omega)) (by decide)))
         | exact out_i (gro_f hlen (frs_hit hinv hd (grK_10b (by omega) (by omega) hp (by omega)) (by decide)))
      ·have hb24R := hb24; try simp only [zz] at hb24
       refine pwp_seq_gops rfl fun K26 hK26 => ?_
       refine g_begin ?_
       refine g_e rfl (e_faQ pl4 rfl) ?_
       refine g_e rfl (e_lH (v := .sc _) rfl (hset_self _ _ _) rfl) ?_
       refine g_e rfl (e_faQ pl4 rfl) ?_
       refine g_e rfl (e_lH (v := .sc _) rfl (hset_self _ _ _) rfl) ?_
       refine g_e rfl (e_ge rfl rfl) ?_
       refine g_mS rfl rfl ?_
       refine g_cases (fun hb27 => ?_) (fun hb27 => ?_)
       ·have hb27R := hb27; try simp only [zz] at hb27
        iterate 13 refine g_skip rfl rfl rfl ?_
        refine g_pT rfl rfl rfl ?_
        refine g_aS rfl rfl ?_
        refine g_end (ds := [46, 47, 48, 49, 50, 51, 52, 53, 54, 55, 56, 57, 58]) (by kernel_rfl) rfl (hK26 _ ?_); clear hK26 K26
        refine pwp_cond (t := true) rfl (fun _ => ?_) nofun
        refine pwp_seq_plain rfl fun K28 hK28 => ?_
        refine p_aS rfl ?_
        refine p_end (hK28 _ ?_); clear hK28 K28
        refine pwp_ret ?_
        refine ret_block ?_
        refine ret_block ?_
        refine ret_seq ?_
        refine ret_loop ?_
        refine ret_block ?_
        refine ret_seq ?_
        refine end1 (v := .sc _) rfl ?_
        first
          | exact out_i (gro_11 (by simp only [List.length_map] at *; omega))
          | exact out_i (gro_f (by simp only [List.length_map] at *; omega) (frs_end hinv (by simp only [List.length_map] at *; omega)).symm)
          | exact out_i (gro_f hlen (frs_hit hinv hd (grK_2 (by omega)) (by decide)))
          | exact out_i (gro_f hlen (frs_hit hinv hd (grK_10 (by omega) (by omega)) (by decide)))
          | exact out_i (gro_f hlen (frs_hit hinv hd (grK_10b (by omega) (by omega) hp (by omega)) (by decide)))
       ·have hb27R := hb27; try simp only [zz] at hb27
        refine g_mS rfl rfl ?_
        refine g_e rfl (e_gt rfl rfl) ?_
        refine g_mS rfl rfl ?_
        refine g_cases (fun hb29 => ?_) (fun hb29 => ?_)
        ·have hb29R := hb29; try simp only [zz] at hb29
         refine g_e rfl (e_faQ pl4 rfl) ?_
         refine g_e rfl (e_lH (v := .sc _) rfl (hset_self _ _ _) rfl) ?_
         refine g_e rfl (e_move (v := .lit _ _ _) rfl) ?_
         refine g_mS rfl rfl ?_
         refine g_e rfl (e_sub rfl rfl (by first | omega | (simp only [List.length_map] at *; omega))) ?_
         refine g_e rfl (e_ixL rfl rfl) ?_
         refine g_e rfl (e_fb pl4 rfl) ?_
         refine g_e rfl (e_load (v := .sc _) rfl (by kernel_rfl) (by kernel_rfl) (by kernel_rfl) (by first | omega | (simp only [List.length_map]; omega)) (by decide) ((cell_map hp _).trans rfl)) ?_
         refine g_e rfl (e_ne rfl rfl) ?_
         refine g_pT rfl rfl rfl ?_
         refine g_pF rfl rfl rfl ?_
         refine g_aS rfl rfl ?_
         refine g_end (ds := [46, 47, 48, 49, 50, 51, 52, 53, 54, 55, 56, 57, 58]) (by kernel_rfl) rfl (hK26 _ ?_); clear hK26 K26
         refine pwp_cond rfl (fun hb30 => ?_) (fun hb30 => ?_)
         ·have hb30R := hb30; try simp only [zz] at hb30
          refine pwp_seq_plain rfl fun K31 hK31 => ?_
          refine p_aS rfl ?_
          refine p_end (hK31 _ ?_); clear hK31 K31
          refine pwp_ret ?_
          refine ret_block ?_
          refine ret_block ?_
          refine ret_seq ?_
          refine ret_loop ?_
          refine ret_block ?_
          refine ret_seq ?_
          refine end1 (v := .sc _) rfl ?_
          first
            | exact out_i (gro_11 (by simp only [List.length_map] at *; omega))
            | exact out_i (gro_f (by simp only [List.length_map] at *; omega) (frs_end hinv (by simp only [List.length_map] at *; omega)).symm)
            | exact out_i (gro_f hlen (frs_hit hinv hd (grK_2 (by omega)) (by decide)))
            | exact out_i (gro_f hlen (frs_hit hinv hd (grK_10 (by omega) (by omega)) (by decide)))
            | exact out_i (gro_f hlen (frs_hit hinv hd (grK_10b (by omega) (by omega) hp (by omega)) (by decide)))
         ·have hb30R := hb30; try simp only [zz] at hb30
          refine pwp_skip ?_
          refine block_norm ?_
          refine block_norm ?_
          refine seq_norm (hK15 _ ?_); clear hK15 K15
          refine pwp_plain rfl fun K32 hK32 => ?_
          refine p_e rfl (e_adL rfl rfl) ?_
          refine p_mS rfl ?_
          refine p_end (hK32 _ ?_); clear hK32 K32
          exact loop_again (k + 1) (by show _ < _; omega) ⟨rfl, rfl, rfl, trivial⟩ ⟨rfl, trivial⟩ (by exact ⟨by show _ + 1 ≤ _; simp only [List.length_map] at *; omega, by exact frs_go hinv hd (grK_0 (by omega) (by omega) hp (by omega))⟩)
        ·have hb29R := hb29; try simp only [zz] at hb29
         iterate 9 refine g_skip rfl rfl rfl ?_
         refine g_pF rfl rfl rfl ?_
         refine g_pF rfl rfl rfl ?_
         refine g_aS rfl rfl ?_
         refine g_end (ds := [46, 47, 48, 49, 50, 51, 52, 53, 54, 55, 56, 57, 58]) (by kernel_rfl) rfl (hK26 _ ?_); clear hK26 K26
         refine pwp_cond (t := false) rfl nofun (fun _ => ?_)
         refine pwp_skip ?_
         refine block_norm ?_
         refine block_norm ?_
         refine seq_norm (hK15 _ ?_); clear hK15 K15
         refine pwp_plain rfl fun K33 hK33 => ?_
         refine p_e rfl (e_adL rfl rfl) ?_
         refine p_mS rfl ?_
         refine p_end (hK33 _ ?_); clear hK33 K33
         exact loop_again (k + 1) (by show _ < _; omega) ⟨rfl, rfl, rfl, trivial⟩ ⟨rfl, trivial⟩ (by exact ⟨by show _ + 1 ≤ _; simp only [List.length_map] at *; omega, by exact frs_go hinv hd (grK_0 (by omega) (by omega) hp (by omega))⟩)
  ·have hb14R := hb14; try simp only [zz] at hb14
   refine pwp_exit ?_
   refine exit_seq ?_
   clear hK13 K13
   refine exit_loop ?_
   refine exit_here ?_
   refine seq_norm (hK7 _ ?_); clear hK7 K7
   refine pwp_seq_plain rfl fun K34 hK34 => ?_
   refine p_aS rfl ?_
   refine p_end (hK34 _ ?_); clear hK34 K34
   refine pwp_ret ?_
   refine end1 (v := .sc _) rfl ?_
   first
     | exact out_i (gro_11 (by simp only [List.length_map] at *; omega))
     | exact out_i (gro_f (by simp only [List.length_map] at *; omega) (frs_end hinv (by simp only [List.length_map] at *; omega)).symm)
     | exact out_i (gro_f hlen (frs_hit hinv hd (grK_2 (by omega)) (by decide)))
     | exact out_i (gro_f hlen (frs_hit hinv hd (grK_10 (by omega) (by omega)) (by decide)))
     | exact out_i (gro_f hlen (frs_hit hinv hd (grK_10b (by omega) (by omega) hp (by omega)) (by decide)))

theorem fr39 : (inFrame Tryz.f39.ntmps (Tryz.f39.body.getD .skip) && Tryz.f39.results.toList.all (resScope Tryz.f39.ntmps)) = true := by kernel_rfl
theorem refGroundC (l : List Ground) (hl : l.length ≤ 1000) : PCalls Tryz.prog 39 [.lit true 4 (l.map Ground.enc)] (.int (groundE l)) := by
 refine PCalls.of_code Tryz.func39 rfl rfl (by kernel_rfl) mixed fr39 (by show _ ≤ 61; simp) (.sc _) ?_
 refine pwp_seq_plain rfl fun K1 hK1 => ?_
 refine p_aS rfl ?_
 refine p_end (hK1 _ ?_); clear hK1 K1
 refine pwp_seq_seq ?_
 refine pwp_seq_plain rfl fun K2 hK2 => ?_
 refine p_e rfl (e_move (v := .lit _ _ _) rfl) ?_
 refine p_e rfl (e_len rfl (by kernel_rfl)) ?_
 refine p_call rfl (.cons inn_sc (.cons inn_sc (.cons inn_sc .nil))) (Within _ _ _) ?_
 refine p_e rfl (e_not rfl) ?_
 refine p_end (hK2 _ ?_); clear hK2 K2
 refine pwp_seq_cond rfl fun K3 hK3 => ⟨fun hb4 => ?_, fun hb4 => ?_⟩
 ·have hb4R := hb4; try simp only [zz] at hb4
  refine pwp_seq_plain rfl fun K5 hK5 => ?_
  refine p_aS rfl ?_
  refine p_end (hK5 _ ?_); clear hK5 K5
  refine pwp_ret ?_
  refine ret_seq ?_
  refine end1 (v := .sc _) rfl ?_
  first
    | exact out_i (gro_11 (by simp only [List.length_map] at *; omega))
    | exact out_i (gro_f (by simp only [List.length_map] at *; omega) (frs_end hinv (by simp only [List.length_map] at *; omega)).symm)
    | exact out_i (gro_f hlen (frs_hit hinv hd (grK_2 (by omega)) (by decide)))
    | exact out_i (gro_f hlen (frs_hit hinv hd (grK_10 (by omega) (by omega)) (by decide)))
    | exact out_i (gro_f hlen (frs_hit hinv hd (grK_10b (by omega) (by omega) hp (by omega)) (by decide)))
 ·have hb4R := hb4; try simp only [zz] at hb4
  refine pwp_skip ?_
  refine seq_norm (hK3 _ ?_); clear hK3 K3
  refine pwp_seq_seq ?_
  have hlen : 1 ≤ (l.length : Int) ∧ (l.length : Int) ≤ 20 := by simp only [List.length_map] at *; omega
  refine pwp_seq_plain rfl fun K6 hK6 => ?_
  refine p_aS rfl ?_
  refine p_end (hK6 _ ?_); clear hK6 K6
  refine pwp_seq_block fun K7 hK7 => ?_
  refine pwp_loopR (α := Nat) [0] (fun (k : Nat) => [(3, .int (k))]) (fun (k : Nat) (h : Heap) (_ : Nat → Nat) => ((k) ≤ l.length) ∧ (frsF (grK l) 0 l = frsF (grK l) (k) (l.drop (k)))) (fun (k : Nat) => l.length - (k)) (0) (by exact ⟨rfl, trivial⟩) (by exact ⟨by exact Nat.zero_le _, by exact rfl⟩) fun k r8 h9 c10 hj11 => ?_
  obtain ⟨hk, hinv⟩ := hj11
  try dsimp only at hk
  try dsimp only at hinv
  show pwp _ _ (loopQ _ _ _) ⟨sets (mix _ _ _) [(3, .int k)], _, _⟩
  refine pwp_seq_seq ?_
  refine pwp_seq_plain rfl fun K12 hK12 => ?_
  refine p_mS rfl ?_
  refine p_e rfl (e_move (v := .lit _ _ _) rfl) ?_
  refine p_e rfl (e_len rfl (by kernel_rfl)) ?_
  refine p_e rfl (e_lt rfl rfl) ?_
  refine p_end (hK12 _ ?_); clear hK12 K12
  refine pwp_seq_cond rfl fun K13 hK13 => ⟨fun hb14 => ?_, fun hb14 => ?_⟩
  ·have hb14R := hb14; try simp only [zz] at hb14
   obtain ⟨s, hs, hd, ht⟩ := get_lt (xs := l) (i := k) (by omega)
   obtain ⟨p, hp⟩ : ∃ p, l[((k : Int) - (1)).toNat]? = some p := ⟨_, List.getElem?_eq_getElem (by omega)⟩
   refine pwp_skip ?_
   refine seq_norm (hK13 _ ?_); clear hK13 K13
   refine pwp_seq_block fun K15 hK15 => ?_
   refine pwp_seq_plain rfl fun K16 hK16 => ?_
   refine p_e rfl (e_move (v := .lit _ _ _) rfl) ?_
   refine p_mS rfl ?_
   refine p_e rfl (e_ixL rfl rfl) ?_
   refine p_e rfl (e_loadA (n := 4) rfl (by kernel_rfl) (by kernel_rfl) (by kernel_rfl) (by first | omega | (simp only [List.length_map]; omega)) (by decide) (by first | exact agg_map hs rfl)) ?_
   refine p_new rfl (e_alloc (cs := [.int 0, .int 0, .int 0, .int 0]) (n := 4) (by kernel_rfl) rfl (by decide)) (ob_alloc (by decide)) ?_
   refine p_store rfl (e_storeA rfl (hset_self _ _ _) rfl rfl rfl (by kernel_rfl) rfl (by kernel_rfl)) trivial ?_
   refine p_end (hK16 _ ?_); clear hK16 K16
   refine pwp_seq_seq ?_
   refine pwp_seq_gops rfl fun K17 hK17 => ?_
   refine g_begin ?_
   refine g_e rfl (e_faQ pl4 rfl) ?_
   refine g_e rfl (e_lH (v := .sc _) rfl (hset_self _ _ _) rfl) ?_
   refine g_call rfl rfl rfl rfl (.cons inn_sc (.cons inn_sc (.cons inn_sc .nil))) (Within _ _ _) ?_
   refine g_e rfl (e_not rfl) ?_
   refine g_mS rfl rfl ?_
   refine g_cases (fun hb18 => ?_) (fun hb18 => ?_)
   ·have hb18R := hb18; try simp only [zz] at hb18
    iterate 2 refine g_skip rfl rfl rfl ?_
    refine g_nocall rfl rfl rfl ?_
    refine g_skip rfl rfl rfl ?_
    refine g_pT rfl rfl rfl ?_
    refine g_mS rfl rfl ?_
    iterate 2 refine g_skip rfl rfl rfl ?_
    refine g_nocall rfl rfl rfl ?_
    refine g_skip rfl rfl rfl ?_
    refine g_pT rfl rfl rfl ?_
    refine g_mS rfl rfl ?_
    iterate 2 refine g_skip rfl rfl rfl ?_
    refine g_nocall rfl rfl rfl ?_
    refine g_skip rfl rfl rfl ?_
    refine g_pT rfl rfl rfl ?_
    refine g_end (ds := [24, 25, 26, 27, 30, 31, 32, 33, 36, 37, 38, 39]) rfl rfl (hK17 _ ?_); clear hK17 K17
    refine pwp_seq_cond (t := true) rfl fun K19 hK19 => ⟨fun _ => ?_, nofun⟩
    refine pwp_seq_plain rfl fun K20 hK20 => ?_
    refine p_aS rfl ?_
    refine p_end (hK20 _ ?_); clear hK20 K20
    refine pwp_ret ?_
    refine ret_seq ?_
    refine ret_block ?_
    refine ret_seq ?_
    refine ret_loop ?_
    refine ret_block ?_
    refine ret_seq ?_
    refine end1 (v := .sc _) rfl ?_
    first
      | exact out_i (gro_11 (by simp only [List.length_map] at *; omega))
      | exact out_i (gro_f (by simp only [List.length_map] at *; omega) (frs_end hinv (by simp only [List.length_map] at *; omega)).symm)
      | exact out_i (gro_f hlen (frs_hit hinv hd (grK_2 (by omega)) (by decide)))
      | exact out_i (gro_f hlen (frs_hit hinv hd (grK_10 (by omega) (by omega)) (by decide)))
      | exact out_i (gro_f hlen (frs_hit hinv hd (grK_10b (by omega) (by omega) hp (by omega)) (by decide)))
   ·have hb18R := hb18; try simp only [zz] at hb18
    refine g_e rfl (e_faQ pl4 rfl) ?_
    refine g_e rfl (e_lH (v := .sc _) rfl (hset_self _ _ _) rfl) ?_
    refine g_call rfl rfl rfl rfl (.cons inn_sc (.cons inn_sc (.cons inn_sc .nil))) (Within _ _ _) ?_
    refine g_e rfl (e_not rfl) ?_
    refine g_pF rfl rfl rfl ?_
    refine g_mS rfl rfl ?_
    refine g_cases (fun hb21 => ?_) (fun hb21 => ?_)
    ·have hb21R := hb21; try simp only [zz] at hb21
     iterate 2 refine g_skip rfl rfl rfl ?_
     refine g_nocall rfl rfl rfl ?_
     refine g_skip rfl rfl rfl ?_
     refine g_pT rfl rfl rfl ?_
     refine g_mS rfl rfl ?_
     iterate 2 refine g_skip rfl rfl rfl ?_
     refine g_nocall rfl rfl rfl ?_
     refine g_skip rfl rfl rfl ?_
     refine g_pT rfl rfl rfl ?_
     refine g_end (ds := [24, 25, 26, 27, 30, 31, 32, 33, 36, 37, 38, 39]) rfl rfl (hK17 _ ?_); clear hK17 K17
     refine pwp_seq_cond (t := true) rfl fun K22 hK22 => ⟨fun _ => ?_, nofun⟩
     refine pwp_seq_plain rfl fun K23 hK23 => ?_
     refine p_aS rfl ?_
     refine p_end (hK23 _ ?_); clear hK23 K23
     refine pwp_ret ?_
     refine ret_seq ?_
     refine ret_block ?_
     refine ret_seq ?_
     refine ret_loop ?_
     refine ret_block ?_
     refine ret_seq ?_
     refine end1 (v := .sc _) rfl ?_
     first
       | exact out_i (gro_11 (by simp only [List.length_map] at *; omega))
       | exact out_i (gro_f (by simp only [List.length_map] at *; omega) (frs_end hinv (by simp only [List.length_map] at *; omega)).symm)
       | exact out_i (gro_f hlen (frs_hit hinv hd (grK_2 (by omega)) (by decide)))
       | exact out_i (gro_f hlen (frs_hit hinv hd (grK_10 (by omega) (by omega)) (by decide)))
       | exact out_i (gro_f hlen (frs_hit hinv hd (grK_10b (by omega) (by omega) hp (by omega)) (by decide)))
    ·have hb21R := hb21; try simp only [zz] at hb21
     refine g_e rfl (e_faQ pl4 rfl) ?_
     refine g_e rfl (e_lH (v := .sc _) rfl (hset_self _ _ _) rfl) ?_
     refine g_call rfl rfl rfl rfl (.cons inn_sc (.cons inn_sc (.cons inn_sc .nil))) (Within _ _ _) ?_
     refine g_e rfl (e_not rfl) ?_
     refine g_pF rfl rfl rfl ?_
     refine g_mS rfl rfl ?_
     refine g_cases (fun hb24 => ?_) (fun hb24 => ?_)
     ·have hb24R := hb24; try simp only [zz] at hb24
      iterate 2 refine g_skip rfl rfl rfl ?_
      refine g_nocall rfl rfl rfl ?_
      refine g_skip rfl rfl rfl ?_
      refine g_pT rfl rfl rfl ?_
      refine g_end (ds := [24, 25, 26, 27, 30, 31, 32, 33, 36, 37, 38, 39]) rfl rfl (hK17 _ ?_); clear hK17 K17
      refine pwp_seq_cond (t := true) rfl fun K25 hK25 => ⟨fun _ => ?_, nofun⟩
      refine pwp_seq_plain rfl fun K26 hK26 => ?_
      refine p_aS rfl ?_
      refine p_end (hK26 _ ?_); clear hK26 K26
      refine pwp_ret ?_
      refine ret_seq ?_
      refine ret_block ?_
      refine ret_seq ?_
      refine ret_loop ?_
      refine ret_block ?_
      refine ret_seq ?_
      refine end1 (v := .sc _) rfl ?_
      first
        | exact out_i (gro_11 (by simp only [List.length_map] at *; omega))
        | exact out_i (gro_f (by simp only [List.length_map] at *; omega) (frs_end hinv (by simp only [List.length_map] at *; omega)).symm)
        | exact out_i (gro_f hlen (frs_hit hinv hd (grK_2 (by omega)) (by decide)))
        | exact out_i (gro_f hlen (frs_hit hinv hd (grK_10 (by omega) (by omega)) (by decide)))
        | exact out_i (gro_f hlen (frs_hit hinv hd (grK_10b (by omega) (by omega) hp (by omega)) (by decide)))
     ·have hb24R := hb24; try simp only [zz] at hb24
      refine g_e rfl (e_faQ pl4 rfl) ?_
      refine g_e rfl (e_lH (v := .sc _) rfl (hset_self _ _ _) rfl) ?_
      refine g_call rfl rfl rfl rfl (.cons inn_sc (.cons inn_sc (.cons inn_sc .nil))) (Within _ _ _) ?_
      refine g_e rfl (e_not rfl) ?_
      refine g_pF rfl rfl rfl ?_
      refine g_end (ds := [24, 25, 26, 27, 30, 31, 32, 33, 36, 37, 38, 39]) rfl rfl (hK17 _ ?_); clear hK17 K17
      refine pwp_seq_cond rfl fun K27 hK27 => ⟨fun hb28 => ?_, fun hb28 => ?_⟩
      ·have hb28R := hb28; try simp only [zz] at hb28
       refine pwp_seq_plain rfl fun K29 hK29 => ?_
       refine p_aS rfl ?_
       refine p_end (hK29 _ ?_); clear hK29 K29
       refine pwp_ret ?_
       refine ret_seq ?_
       refine ret_block ?_
       refine ret_seq ?_
       refine ret_loop ?_
       refine ret_block ?_
       refine ret_seq ?_
       refine end1 (v := .sc _) rfl ?_
       first
         | exact out_i (gro_11 (by simp only [List.length_map] at *; omega))
         | exact out_i (gro_f (by simp only [List.length_map] at *; omega) (frs_end hinv (by simp only [List.length_map] at *; omega)).symm)
         | exact out_i (gro_f hlen (frs_hit hinv hd (grK_2 (by omega)) (by decide)))
         | exact out_i (gro_f hlen (frs_hit hinv hd (grK_10 (by omega) (by omega)) (by decide)))
         | exact out_i (gro_f hlen (frs_hit hinv hd (grK_10b (by omega) (by omega) hp (by omega)) (by decide)))
      ·have hb28R := hb28; try simp only [zz] at hb28
       refine pwp_skip ?_
       refine seq_norm (hK27 _ ?_); clear hK27 K27
       refine pwp_seq_gops rfl fun K30 hK30 => ?_
       refine g_begin ?_
       refine g_e rfl (e_faQ pl4 rfl) ?_
       refine g_e rfl (e_lH (v := .sc _) rfl (hset_self _ _ _) rfl) ?_
       refine g_e rfl (e_faQ pl4 rfl) ?_
       refine g_e rfl (e_lH (v := .sc _) rfl (hset_self _ _ _) rfl) ?_
       refine g_e rfl (e_ge rfl rfl) ?_
       refine g_mS rfl rfl ?_
       refine g_cases (fun hb31 => ?_) (fun hb31 => ?_)
       ·have hb31R := hb31; try simp only [zz] at hb31
        iterate 13 refine g_skip rfl rfl rfl ?_
        refine g_pT rfl rfl rfl ?_
        refine g_end (ds := [47, 48, 49, 50, 51, 52, 53, 54, 55, 56, 57, 58, 59]) (by kernel_rfl) rfl (hK30 _ ?_); clear hK30 K30
        refine pwp_cond (t := true) rfl (fun _ => ?_) nofun
        refine pwp_seq_plain rfl fun K32 hK32 => ?_
        refine p_aS rfl ?_
        refine p_end (hK32 _ ?_); clear hK32 K32
        refine pwp_ret ?_
        refine ret_block ?_
        refine ret_seq ?_
        refine ret_loop ?_
        refine ret_block ?_
        refine ret_seq ?_
        refine end1 (v := .sc _) rfl ?_
        first
          | exact out_i (gro_11 (by simp only [List.length_map] at *; omega))
          | exact out_i (gro_f (by simp only [List.length_map] at *; omega) (frs_end hinv (by simp only [List.length_map] at *; omega)).symm)
          | exact out_i (gro_f hlen (frs_hit hinv hd (grK_2 (by omega)) (by decide)))
          | exact out_i (gro_f hlen (frs_hit hinv hd (grK_10 (by omega) (by omega)) (by decide)))
          | exact out_i (gro_f hlen (frs_hit hinv hd (grK_10b (by omega) (by omega) hp (by omega)) (by decide)))
       ·have hb31R := hb31; try simp only [zz] at hb31
        refine g_mS rfl rfl ?_
        refine g_e rfl (e_gt rfl rfl) ?_
        refine g_mS rfl rfl ?_
        refine g_cases (fun hb33 => ?_) (fun hb33 => ?_)
        ·have hb33R := hb33; try simp only [zz] at hb33
         refine g_e rfl (e_faQ pl4 rfl) ?_
         refine g_e rfl (e_lH (v := .sc _) rfl (hset_self _ _ _) rfl) ?_
         refine g_e rfl (e_move (v := .lit _ _ _) rfl) ?_
         refine g_mS rfl rfl ?_
         refine g_e rfl (e_sub rfl rfl (by first | omega | (simp only [List.length_map] at *; omega))) ?_
         refine g_e rfl (e_ixL rfl rfl) ?_
         refine g_e rfl (e_fb pl4 rfl) ?_
         refine g_e rfl (e_load (v := .sc _) rfl (by kernel_rfl) (by kernel_rfl) (by kernel_rfl) (by first | omega | (simp only [List.length_map]; omega)) (by decide) ((cell_map hp _).trans rfl)) ?_
         refine g_e rfl (e_ne rfl rfl) ?_
         refine g_pT rfl rfl rfl ?_
         refine g_pF rfl rfl rfl ?_
         refine g_end (ds := [47, 48, 49, 50, 51, 52, 53, 54, 55, 56, 57, 58, 59]) (by kernel_rfl) rfl (hK30 _ ?_); clear hK30 K30
         refine pwp_cond rfl (fun hb34 => ?_) (fun hb34 => ?_)
         ·have hb34R := hb34; try simp only [zz] at hb34
          refine pwp_seq_plain rfl fun K35 hK35 => ?_
          refine p_aS rfl ?_
          refine p_end (hK35 _ ?_); clear hK35 K35
          refine pwp_ret ?_
          refine ret_block ?_
          refine ret_seq ?_
          refine ret_loop ?_
          refine ret_block ?_
          refine ret_seq ?_
          refine end1 (v := .sc _) rfl ?_
          first
            | exact out_i (gro_11 (by simp only [List.length_map] at *; omega))
            | exact out_i (gro_f (by simp only [List.length_map] at *; omega) (frs_end hinv (by simp only [List.length_map] at *; omega)).symm)
            | exact out_i (gro_f hlen (frs_hit hinv hd (grK_2 (by omega)) (by decide)))
            | exact out_i (gro_f hlen (frs_hit hinv hd (grK_10 (by omega) (by omega)) (by decide)))
            | exact out_i (gro_f hlen (frs_hit hinv hd (grK_10b (by omega) (by omega) hp (by omega)) (by decide)))
         ·have hb34R := hb34; try simp only [zz] at hb34
          refine pwp_skip ?_
          refine block_norm ?_
          refine seq_norm (hK15 _ ?_); clear hK15 K15
          refine pwp_plain rfl fun K36 hK36 => ?_
          refine p_mS rfl ?_
          refine p_e rfl (e_adL rfl rfl) ?_
          refine p_aS rfl ?_
          refine p_end (hK36 _ ?_); clear hK36 K36
          exact loop_again (k + 1) (by show _ < _; omega) ⟨rfl, trivial⟩ ⟨rfl, trivial⟩ (by exact ⟨by show _ + 1 ≤ _; simp only [List.length_map] at *; omega, by exact frs_go hinv hd (grK_0 (by omega) (by omega) hp (by omega))⟩)
        ·have hb33R := hb33; try simp only [zz] at hb33
         iterate 9 refine g_skip rfl rfl rfl ?_
         refine g_pF rfl rfl rfl ?_
         refine g_pF rfl rfl rfl ?_
         refine g_end (ds := [47, 48, 49, 50, 51, 52, 53, 54, 55, 56, 57, 58, 59]) (by kernel_rfl) rfl (hK30 _ ?_); clear hK30 K30
         refine pwp_cond (t := false) rfl nofun (fun _ => ?_)
         refine pwp_skip ?_
         refine block_norm ?_
         refine seq_norm (hK15 _ ?_); clear hK15 K15
         refine pwp_plain rfl fun K37 hK37 => ?_
         refine p_mS rfl ?_
         refine p_e rfl (e_adL rfl rfl) ?_
         refine p_aS rfl ?_
         refine p_end (hK37 _ ?_); clear hK37 K37
         exact loop_again (k + 1) (by show _ < _; omega) ⟨rfl, trivial⟩ ⟨rfl, trivial⟩ (by exact ⟨by show _ + 1 ≤ _; simp only [List.length_map] at *; omega, by exact frs_go hinv hd (grK_0 (by omega) (by omega) hp (by omega))⟩)
  ·have hb14R := hb14; try simp only [zz] at hb14
   refine pwp_exit ?_
   refine exit_seq ?_
   clear hK13 K13
   refine exit_loop ?_
   refine exit_here ?_
   refine seq_norm (hK7 _ ?_); clear hK7 K7
   refine pwp_seq_plain rfl fun K38 hK38 => ?_
   refine p_aS rfl ?_
   refine p_end (hK38 _ ?_); clear hK38 K38
   refine pwp_ret ?_
   refine end1 (v := .sc _) rfl ?_
   first
     | exact out_i (gro_11 (by simp only [List.length_map] at *; omega))
     | exact out_i (gro_f (by simp only [List.length_map] at *; omega) (frs_end hinv (by simp only [List.length_map] at *; omega)).symm)
     | exact out_i (gro_f hlen (frs_hit hinv hd (grK_2 (by omega)) (by decide)))
     | exact out_i (gro_f hlen (frs_hit hinv hd (grK_10 (by omega) (by omega)) (by decide)))
     | exact out_i (gro_f hlen (frs_hit hinv hd (grK_10b (by omega) (by omega) hp (by omega)) (by decide)))

theorem fr42 : (inFrame Tryz.f42.ntmps (Tryz.f42.body.getD .skip) && Tryz.f42.results.toList.all (resScope Tryz.f42.ntmps)) = true := by kernel_rfl
theorem StepAtC (l : List Ground) (x : Int) (hl : l.length ≤ 1000) (hg : groundE l = 0) : PCalls Tryz.prog 42 [.lit true 4 (l.map Ground.enc), .int x] (.int (stX l x)) := by
 refine PCalls.of_code Tryz.func42 rfl rfl (by kernel_rfl) mixed fr42 (by show _ ≤ 45; simp) (.sc _) ?_
 have hl1 := gr_len hg
 refine pwp_seq_plain rfl fun K1 hK1 => ?_
 refine p_aS rfl ?_
 refine p_end (hK1 _ ?_); clear hK1 K1
 refine pwp_seq_seq ?_
 refine pwp_seq_plain rfl fun K2 hK2 => ?_
 refine p_aS rfl ?_
 refine p_end (hK2 _ ?_); clear hK2 K2
 refine pwp_seq_block fun K3 hK3 => ?_
 refine pwp_loopR (α := Nat) [0, 1] (fun (k : Nat) => [(5, .int (k))]) (fun (k : Nat) (h : Heap) (_ : Nat → Nat) => ((k) ≤ l.length) ∧ (StI l x (k))) (fun (k : Nat) => l.length - (k)) (0) (by exact ⟨rfl, trivial⟩) (by exact ⟨by exact Nat.zero_le _, by exact stI_0⟩) fun k r4 h5 c6 hj7 => ?_
 obtain ⟨hk, hin⟩ := hj7
 try dsimp only at hk
 try dsimp only at hin
 show pwp _ _ (loopQ _ _ _) ⟨sets (mix _ _ _) [(5, .int k)], _, _⟩
 refine pwp_seq_seq ?_
 refine pwp_seq_plain rfl fun K8 hK8 => ?_
 refine p_mS rfl ?_
 refine p_e rfl (e_move (v := .lit _ _ _) rfl) ?_
 refine p_e rfl (e_len rfl (by kernel_rfl)) ?_
 refine p_e rfl (e_lt rfl rfl) ?_
 refine p_end (hK8 _ ?_); clear hK8 K8
 refine pwp_seq_cond rfl fun K9 hK9 => ⟨fun hb10 => ?_, fun hb10 => ?_⟩
 ·have hb10R := hb10; try simp only [zz] at hb10
  obtain ⟨s, hs, hd, ht⟩ := get_lt (xs := l) (i := k) (by omega)
  refine pwp_skip ?_
  refine seq_norm (hK9 _ ?_); clear hK9 K9
  refine pwp_seq_block fun K11 hK11 => ?_
  refine pwp_seq_gops rfl fun K12 hK12 => ?_
  refine g_begin ?_
  refine g_mS rfl rfl ?_
  refine g_e rfl (e_move (v := .lit _ _ _) rfl) ?_
  refine g_mS rfl rfl ?_
  refine g_e rfl (e_ixL rfl rfl) ?_
  refine g_e rfl (e_fb pl4 rfl) ?_
  refine g_e rfl (e_load (v := .sc _) rfl (by kernel_rfl) (by kernel_rfl) (by kernel_rfl) (by first | omega | (simp only [List.length_map]; omega)) (by decide) ((cell_map hs _).trans rfl)) ?_
  refine g_e rfl (e_ge rfl rfl) ?_
  refine g_mS rfl rfl ?_
  refine g_cases (fun hb13 => ?_) (fun hb13 => ?_)
  ·have hb13R := hb13; try simp only [zz] at hb13
   refine g_mS rfl rfl ?_
   refine g_e rfl (e_move (v := .lit _ _ _) rfl) ?_
   refine g_mS rfl rfl ?_
   refine g_e rfl (e_ixL rfl rfl) ?_
   refine g_e rfl (e_fb pl4 rfl) ?_
   refine g_e rfl (e_load (v := .sc _) rfl (by kernel_rfl) (by kernel_rfl) (by kernel_rfl) (by first | omega | (simp only [List.length_map]; omega)) (by decide) ((cell_map hs _).trans rfl)) ?_
   refine g_e rfl (e_lt rfl rfl) ?_
   refine g_pT rfl rfl rfl ?_
   refine g_mS rfl rfl ?_
   refine g_cases (fun hb14 => ?_) (fun hb14 => ?_)
   ·have hb14R := hb14; try simp only [zz] at hb14
    iterate 14 refine g_skip rfl rfl rfl ?_
    refine g_pT rfl rfl rfl ?_
    refine g_end (ds := [20, 21, 22, 23, 24, 25, 26, 29, 30, 31, 32, 33, 34, 35, 36, 37, 38, 39, 40, 41, 42]) rfl rfl (hK12 _ ?_); clear hK12 K12
    refine pwp_cond (t := true) rfl (fun _ => ?_) nofun
    refine pwp_seq_plain rfl fun K15 hK15 => ?_
    refine p_mS rfl ?_
    refine p_aS rfl ?_
    refine p_end (hK15 _ ?_); clear hK15 K15
    refine pwp_ret ?_
    refine ret_block ?_
    refine ret_seq ?_
    refine ret_loop ?_
    refine ret_block ?_
    refine ret_seq ?_
    refine end1 (v := .sc _) rfl ?_
    first
      | exact out_i (stR_n (by omega) hin (by simp only [List.length_map] at *; omega))
      | exact out_i (stR_in hg hin hs (by omega))
      | exact out_i (stR_l hs (by simp only [List.length_map] at *; omega) (by omega))
   ·have hb14R := hb14; try simp only [zz] at hb14
    refine g_mS rfl rfl ?_
    refine g_e rfl (e_move (v := .lit _ _ _) rfl) ?_
    refine g_e rfl (e_len rfl (by kernel_rfl)) ?_
    refine g_e rfl (e_sub rfl rfl (by first | omega | (simp only [List.length_map] at *; omega))) ?_
    refine g_e rfl (e_eq rfl rfl) ?_
    refine g_mS rfl rfl ?_
    refine g_cases (fun hb16 => ?_) (fun hb16 => ?_)
    ·have hb16R := hb16; try simp only [zz] at hb16
     refine g_mS rfl rfl ?_
     refine g_e rfl (e_move (v := .lit _ _ _) rfl) ?_
     refine g_mS rfl rfl ?_
     refine g_e rfl (e_ixL rfl rfl) ?_
     refine g_e rfl (e_fb pl4 rfl) ?_
     refine g_e rfl (e_load (v := .sc _) rfl (by kernel_rfl) (by kernel_rfl) (by kernel_rfl) (by first | omega | (simp only [List.length_map]; omega)) (by decide) ((cell_map hs _).trans rfl)) ?_
     refine g_e rfl (e_eq rfl rfl) ?_
     refine g_pT rfl rfl rfl ?_
     refine g_pF rfl rfl rfl ?_
     refine g_end (ds := [20, 21, 22, 23, 24, 25, 26, 29, 30, 31, 32, 33, 34, 35, 36, 37, 38, 39, 40, 41, 42]) rfl rfl (hK12 _ ?_); clear hK12 K12
     refine pwp_cond rfl (fun hb17 => ?_) (fun hb17 => ?_)
     ·have hb17R := hb17; try simp only [zz] at hb17
      refine pwp_seq_plain rfl fun K18 hK18 => ?_
      refine p_mS rfl ?_
      refine p_aS rfl ?_
      refine p_end (hK18 _ ?_); clear hK18 K18
      refine pwp_ret ?_
      refine ret_block ?_
      refine ret_seq ?_
      refine ret_loop ?_
      refine ret_block ?_
      refine ret_seq ?_
      refine end1 (v := .sc _) rfl ?_
      first
        | exact out_i (stR_n (by omega) hin (by simp only [List.length_map] at *; omega))
        | exact out_i (stR_in hg hin hs (by omega))
        | exact out_i (stR_l hs (by simp only [List.length_map] at *; omega) (by omega))
     ·have hb17R := hb17; try simp only [zz] at hb17
      refine pwp_skip ?_
      refine block_norm ?_
      refine seq_norm (hK11 _ ?_); clear hK11 K11
      refine pwp_plain rfl fun K19 hK19 => ?_
      refine p_mS rfl ?_
      refine p_e rfl (e_adL rfl rfl) ?_
      refine p_aS rfl ?_
      refine p_end (hK19 _ ?_); clear hK19 K19
      exact loop_again (k + 1) (by show _ < _; omega) ⟨rfl, rfl, trivial⟩ ⟨rfl, trivial⟩ (by exact ⟨by show _ + 1 ≤ _; simp only [List.length_map] at *; omega, by exact stI_s hin hs (by omega) (by simp only [List.length_map] at *; omega)⟩)
    ·have hb16R := hb16; try simp only [zz] at hb16
     iterate 7 refine g_skip rfl rfl rfl ?_
     refine g_pF rfl rfl rfl ?_
     refine g_pF rfl rfl rfl ?_
     refine g_end (ds := [20, 21, 22, 23, 24, 25, 26, 29, 30, 31, 32, 33, 34, 35, 36, 37, 38, 39, 40, 41, 42]) rfl rfl (hK12 _ ?_); clear hK12 K12
     refine pwp_cond (t := false) rfl nofun (fun _ => ?_)
     refine pwp_skip ?_
     refine block_norm ?_
     refine seq_norm (hK11 _ ?_); clear hK11 K11
     refine pwp_plain rfl fun K20 hK20 => ?_
     refine p_mS rfl ?_
     refine p_e rfl (e_adL rfl rfl) ?_
     refine p_aS rfl ?_
     refine p_end (hK20 _ ?_); clear hK20 K20
     exact loop_again (k + 1) (by show _ < _; omega) ⟨rfl, rfl, trivial⟩ ⟨rfl, trivial⟩ (by exact ⟨by show _ + 1 ≤ _; simp only [List.length_map] at *; omega, by exact stI_s hin hs (by omega) (by simp only [List.length_map] at *; omega)⟩)
  ·have hb13R := hb13; try simp only [zz] at hb13
   iterate 7 refine g_skip rfl rfl rfl ?_
   refine g_pF rfl rfl rfl ?_
   refine g_mS rfl rfl ?_
   refine g_mS rfl rfl ?_
   refine g_e rfl (e_move (v := .lit _ _ _) rfl) ?_
   refine g_e rfl (e_len rfl (by kernel_rfl)) ?_
   refine g_e rfl (e_sub rfl rfl (by first | omega | (simp only [List.length_map] at *; omega))) ?_
   refine g_e rfl (e_eq rfl rfl) ?_
   refine g_mS rfl rfl ?_
   refine g_cases (fun hb21 => ?_) (fun hb21 => ?_)
   ·have hb21R := hb21; try simp only [zz] at hb21
    refine g_mS rfl rfl ?_
    refine g_e rfl (e_move (v := .lit _ _ _) rfl) ?_
    refine g_mS rfl rfl ?_
    refine g_e rfl (e_ixL rfl rfl) ?_
    refine g_e rfl (e_fb pl4 rfl) ?_
    refine g_e rfl (e_load (v := .sc _) rfl (by kernel_rfl) (by kernel_rfl) (by kernel_rfl) (by first | omega | (simp only [List.length_map]; omega)) (by decide) ((cell_map hs _).trans rfl)) ?_
    refine g_e rfl (e_eq rfl rfl) ?_
    refine g_pT rfl rfl rfl ?_
    refine g_pF rfl rfl rfl ?_
    refine g_end (ds := [20, 21, 22, 23, 24, 25, 26, 29, 30, 31, 32, 33, 34, 35, 36, 37, 38, 39, 40, 41, 42]) rfl rfl (hK12 _ ?_); clear hK12 K12
    refine pwp_cond rfl (fun hb22 => ?_) (fun hb22 => ?_)
    ·have hb22R := hb22; try simp only [zz] at hb22
     refine pwp_seq_plain rfl fun K23 hK23 => ?_
     refine p_mS rfl ?_
     refine p_aS rfl ?_
     refine p_end (hK23 _ ?_); clear hK23 K23
     refine pwp_ret ?_
     refine ret_block ?_
     refine ret_seq ?_
     refine ret_loop ?_
     refine ret_block ?_
     refine ret_seq ?_
     refine end1 (v := .sc _) rfl ?_
     first
       | exact out_i (stR_n (by omega) hin (by simp only [List.length_map] at *; omega))
       | exact out_i (stR_in hg hin hs (by omega))
       | exact out_i (stR_l hs (by simp only [List.length_map] at *; omega) (by omega))
    ·have hb22R := hb22; try simp only [zz] at hb22
     refine pwp_skip ?_
     refine block_norm ?_
     refine seq_norm (hK11 _ ?_); clear hK11 K11
     refine pwp_plain rfl fun K24 hK24 => ?_
     refine p_mS rfl ?_
     refine p_e rfl (e_adL rfl rfl) ?_
     refine p_aS rfl ?_
     refine p_end (hK24 _ ?_); clear hK24 K24
     exact loop_again (k + 1) (by show _ < _; omega) ⟨rfl, rfl, trivial⟩ ⟨rfl, trivial⟩ (by exact ⟨by show _ + 1 ≤ _; simp only [List.length_map] at *; omega, by exact stI_s hin hs (by omega) (by simp only [List.length_map] at *; omega)⟩)
   ·have hb21R := hb21; try simp only [zz] at hb21
    iterate 7 refine g_skip rfl rfl rfl ?_
    refine g_pF rfl rfl rfl ?_
    refine g_pF rfl rfl rfl ?_
    refine g_end (ds := [20, 21, 22, 23, 24, 25, 26, 29, 30, 31, 32, 33, 34, 35, 36, 37, 38, 39, 40, 41, 42]) rfl rfl (hK12 _ ?_); clear hK12 K12
    refine pwp_cond (t := false) rfl nofun (fun _ => ?_)
    refine pwp_skip ?_
    refine block_norm ?_
    refine seq_norm (hK11 _ ?_); clear hK11 K11
    refine pwp_plain rfl fun K25 hK25 => ?_
    refine p_mS rfl ?_
    refine p_e rfl (e_adL rfl rfl) ?_
    refine p_aS rfl ?_
    refine p_end (hK25 _ ?_); clear hK25 K25
    exact loop_again (k + 1) (by show _ < _; omega) ⟨rfl, rfl, trivial⟩ ⟨rfl, trivial⟩ (by exact ⟨by show _ + 1 ≤ _; simp only [List.length_map] at *; omega, by exact stI_s hin hs (by omega) (by simp only [List.length_map] at *; omega)⟩)
 ·have hb10R := hb10; try simp only [zz] at hb10
  refine pwp_exit ?_
  refine exit_seq ?_
  clear hK9 K9
  refine exit_loop ?_
  refine exit_here ?_
  refine seq_norm (hK3 _ ?_); clear hK3 K3
  refine pwp_seq_plain rfl fun K26 hK26 => ?_
  refine p_aS rfl ?_
  refine p_end (hK26 _ ?_); clear hK26 K26
  refine pwp_ret ?_
  refine end1 (v := .sc _) rfl ?_
  first
    | exact out_i (stR_n (by omega) hin (by simp only [List.length_map] at *; omega))
    | exact out_i (stR_in hg hin hs (by omega))
    | exact out_i (stR_l hs (by simp only [List.length_map] at *; omega) (by omega))

end Go.Proofs.YtindehoegfiiaaaGreatDoor
