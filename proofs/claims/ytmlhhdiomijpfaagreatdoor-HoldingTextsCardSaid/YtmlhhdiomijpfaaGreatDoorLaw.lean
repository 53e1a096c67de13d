/- Texts of ties: the law. No conditions. -/
import Derived.Test.YtmlhhdiomijpfaaGreatDoorRpa
import Derived.Test.YtmlhhdiomijpfaaGreatDoorAwake
set_option linter.unusedSimpArgs false
set_option linter.unusedVariables false
set_option maxRecDepth 100000
namespace Go.Proofs.YtmlhhdiomijpfaaGreatDoor
open Go Go.Pv Go.Tx
theorem eqOk_Tie (a b : Tie) : eqOk Tryz.prog 6 55 (.agg a.enc) (.agg b.enc) = true := by kernel_rfl
theorem eqV_Tie (a b : Tie) : eqV Tryz.prog 6 55 (.agg a.enc) (.agg b.enc) = decide (a = b) := by
 have h : eqV Tryz.prog 6 55 (.agg a.enc) (.agg b.enc) = ((a.standard == b.standard) && ((a.level == b.level) && true)) := by kernel_rfl
 rw [h]
 cases a; cases b
 simp only [Tie.mk.injEq]
 rw [Bool.eq_iff_iff]
 simp
/-! ### Two lists that are the same -/
theorem same_f {α : Type} [DecidableEq α] {l m : List α} {k : Nat} {x y : α} (hx : l[k]? = some x) (hy : m[k]? = some y) (h : ¬ x = y) : false = decide (l = m) := (decide_eq_false fun q => by subst q; rw [hx] at hy; exact h (Option.some.inj hy)).symm
theorem same_l {α : Type} [DecidableEq α] {l m : List α} (h : ¬ l.length = m.length) : false = decide (l = m) := (decide_eq_false fun q => h (by rw [q])).symm
abbrev SameTo {α : Type} (l m : List α) (k : Nat) : Prop := ∀ i, i < k → l[i]? = m[i]?
theorem same_s {α : Type} {l m : List α} {k : Nat} {x y : α} (h : SameTo l m k) (hx : l[k]? = some x) (hy : m[k]? = some y) (he : x = y) : SameTo l m (k + 1) := fun i hi => by
 by_cases e : i = k
 · subst e; rw [hx, hy, he]
 · exact h i (by omega)
theorem same_t {α : Type} [DecidableEq α] {l m : List α} {k : Nat} (h : SameTo l m k) (hl : l.length = m.length) (hk : l.length ≤ k) : true = decide (l = m) := (decide_eq_true (List.ext_getElem? fun i => by
 by_cases e : i < k
 · exact h i e
 · rw [List.getElem?_eq_none (by omega), List.getElem?_eq_none (by omega)])).symm
theorem dec2_le {n : Int} (h : 0 ≤ n ∧ n ≤ 99) : Lib.itoa n = dec2 n.toNat ∧ n.toNat < 100 := by
 obtain ⟨i, rfl⟩ := Int.eq_ofNat_of_zero_le h.1
 exact ⟨itoa_small (by omega), by omega⟩
theorem word_eq {t : Tie} (h : In99 t) : ls (wordB t) = dec2 t.standard.toNat ++ 46 :: dec2 t.level.toNat := by
 unfold wordB
 rw [ls_app, ls_app, ls_bs, ls_bs, (dec2_le h.1).1, (dec2_le h.2).1, List.append_assoc]; rfl
theorem word_5 {t : Tie} (h : In99 t) : (ls (wordB t)).length ≤ 5 := by
 rw [word_eq h, List.length_append, List.length_cons]
 have h1 := dec2_len _ (dec2_le h.1).2
 have h2 := dec2_len _ (dec2_le h.2).2
 omega
theorem prt_cases (l : List Tie) : (1800 < l.length ∧ prtX l = (⟨#[]⟩, 8)) ∨ (¬ 1800 < l.length ∧ prtX l = (⟨#[]⟩, 2)) ∨ (¬ 1800 < l.length ∧ (∀ t ∈ l, In99 t) ∧ prtX l = (bs (Lib.join (l.map fun t => ls (wordB t)) [32]), 0)) := by
 unfold prtX
 by_cases h : 1800 < l.length
 · rw [if_pos h]; exact .inl ⟨h, rfl⟩
 · rw [if_neg h]
   by_cases h2 : ∀ t ∈ l, In99 t
   · rw [if_pos h2]; exact .inr (.inr ⟨h, h2, rfl⟩)
   · rw [if_neg h2]; exact .inr (.inl ⟨h, rfl⟩)
theorem prt_size (l : List Tie) : (prtX l).1.size ≤ 10800 := by
 rcases prt_cases l with ⟨_, e⟩ | ⟨_, e⟩ | ⟨h, h2, e⟩ <;> rw [e]
 · exact Nat.zero_le _
 · exact Nat.zero_le _
 · rw [bs_size]
   have := join_len (l.map fun t => ls (wordB t)) 5 fun w hw => by
     obtain ⟨t, ht, rfl⟩ := List.mem_map.1 hw
     exact word_5 (h2 t ht)
   rw [List.length_map] at this
   have h3 : l.length * (5 + 1) ≤ 1800 * 6 := Nat.mul_le_mul_right _ (by omega)
   omega
theorem par_back {l : List Tie} (h : (prtX l).2 = 0) : parX (prtX l).1 = (l, 0) := by
 have hz := prt_size l
 rcases prt_cases l with ⟨_, e⟩ | ⟨_, e⟩ | ⟨h1, h2, e⟩
 · rw [e] at h; cases h
 · rw [e] at h; cases h
 · rw [e] at hz ⊢
   dsimp only at hz ⊢
   have hw : ∀ w ∈ l.map (fun t => ls (wordB t)), ¬ (32 : UInt8) ∈ w := fun w hw => by
     obtain ⟨t, ht, rfl⟩ := List.mem_map.1 hw
     rw [word_eq (h2 t ht)]
     exact word_blank (dec2_le (h2 t ht).1).2 (dec2_le (h2 t ht).2).2
   by_cases hl : l = []
   · subst hl; rfl
   have hne : l.map (fun t => ls (wordB t)) ≠ [] := fun q => hl (List.map_eq_nil_iff.1 q)
   have hc : cutL 32 (ls (bs (Lib.join (l.map fun t => ls (wordB t)) [32]))) = l.map fun t => ls (wordB t) := by
     rw [ls_bs]; exact cutL_join _ hne hw
   have hp : pairsP (l.map fun t => ls (wordB t)) = some (l.map fun t => (t.standard.toNat, t.level.toNat)) := by
     have : (l.map fun t => ls (wordB t)) = (l.map fun t => (t.standard.toNat, t.level.toNat)).map fun p => dec2 p.1 ++ 46 :: dec2 p.2 := by
       rw [List.map_map]
       exact List.map_congr_left fun t ht => word_eq (h2 t ht)
     rw [this]
     exact pairs_words fun p hp => by
       obtain ⟨t, ht, rfl⟩ := List.mem_map.1 hp
       exact ⟨(dec2_le (h2 t ht).1).2, (dec2_le (h2 t ht).2).2⟩
   unfold parX
   rw [if_neg (by omega), if_neg, if_neg, hc, hp]
   · simp only [Prod.mk.injEq, and_true, List.map_map]
     rw [show l = l.map id by rw [List.map_id]]
     rw [List.map_map]
     refine List.map_congr_left fun t ht => ?_
     have q := h2 t ht
     show tieOf (t.standard.toNat, t.level.toNat) = t
     cases t
     simp only [tieOf, In99] at q ⊢
     congr 1 <;> omega
   · unfold cutB; rw [hc, List.length_map, List.length_map]; exact h1
   · intro q
     have : ls (bs (Lib.join (l.map fun t => ls (wordB t)) [32])) = [] := by rw [q]; rfl
     rw [this] at hc
     have h9 := hc.symm
     obtain ⟨t, r, rfl⟩ := List.exists_cons_of_ne_nil hl
     rw [List.map_cons] at h9
     have : cutL 32 ([] : List UInt8) = [[]] := rfl
     rw [this] at h9
     injection h9 with h9 _
     have h10 := word_eq (h2 t (List.mem_cons_self ..))
     rw [h9] at h10
     have := congrArg List.length h10
     simp at this
theorem pairs_len : ∀ {ws : List (List UInt8)} {ps : List (Nat × Nat)}, pairsP ws = some ps → ps.length = ws.length
 | [], ps, h => by unfold pairsP at h; injection h with h; subst h; rfl
 | w :: ws, ps, h => by
   unfold pairsP at h
   split at h
   · rename_i p qs _ h2
     injection h with h; subst h
     rw [List.length_cons, List.length_cons, pairs_len h2]
   · cases h
theorem par_lens (s : ByteArray) : (parX s).1.length ≤ 1800 := by
 unfold parX
 split
 · exact Nat.zero_le _
 · split
   · exact Nat.zero_le _
   · split
     · exact Nat.zero_le _
     · rename_i h
       split
       · rename_i ps hp
         have := pairs_len hp
         unfold cutB at h
         rw [List.length_map] at h
         show (ps.map tieOf).length ≤ 1800
         rw [List.length_map]; omega
       · exact Nat.zero_le _

theorem fr10 : (inFrame Tryz.f10.ntmps (Tryz.f10.body.getD .skip) && Tryz.f10.results.toList.all (resScope Tryz.f10.ntmps)) = true := by kernel_rfl
theorem SameTiesC (t t2 : Bool) (l l2 : List Tie) (hl : l.length ≤ 1000000) (hl2 : l2.length ≤ 1000000) : PCalls Tryz.prog 10 [.lit t 2 (l.map Tie.enc), .lit t2 2 (l2.map Tie.enc)] (.bool (decide (l = l2))) := by
 refine PCalls.of_code Tryz.func10 rfl rfl (by kernel_rfl) mixed fr10 (by show _ ≤ 26; simp) (.sc _) ?_
 refine pwp_seq_plain rfl fun K1 hK1 => ?_
 refine p_aS rfl ?_
 refine p_end (hK1 _ ?_); clear hK1 K1
 refine pwp_seq_seq ?_
 refine pwp_seq_plain rfl fun K2 hK2 => ?_
 refine p_e rfl (e_move (v := .lit _ _ _) rfl) ?_
 refine p_e rfl (e_len rfl (by kernel_rfl)) ?_
 refine p_e rfl (e_move (v := .lit _ _ _) rfl) ?_
 refine p_e rfl (e_len rfl (by kernel_rfl)) ?_
 refine p_e rfl (e_ne rfl rfl) ?_
 refine p_end (hK2 _ ?_); clear hK2 K2
 refine pwp_seq_cond rfl fun K3 hK3 => ⟨fun hb4 => ?_, fun hb4 => ?_⟩
 ·have hb4R := hb4; try simp only [zz] at hb4
  refine pwp_seq_plain rfl fun K5 hK5 => ?_
  refine p_aS rfl ?_
  refine p_end (hK5 _ ?_); clear hK5 K5
  refine pwp_ret ?_
  refine ret_seq ?_
  refine end1 (v := .sc _) rfl ?_
  first
    | exact out_b (same_l (by simp only [List.length_map] at *; omega))
    | exact out_b (same_f hx hy (by first | assumption | simp_all))
    | exact out_b (same_t hin hlen (by simp only [List.length_map] at *; omega))
 ·have hb4R := hb4; try simp only [zz] at hb4
  refine pwp_skip ?_
  refine seq_norm (hK3 _ ?_); clear hK3 K3
  refine pwp_seq_seq ?_
  have hlen : l.length = l2.length := by simp only [List.length_map] at *; omega
  refine pwp_seq_plain rfl fun K6 hK6 => ?_
  refine p_aS rfl ?_
  refine p_end (hK6 _ ?_); clear hK6 K6
  refine pwp_seq_block fun K7 hK7 => ?_
  refine pwp_loopR (α := Nat) [0, 1] (fun (k : Nat) => [(5, .int (k))]) (fun (k : Nat) (h : Heap) (_ : Nat → Nat) => ((k) ≤ l.length) ∧ (SameTo l l2 (k))) (fun (k : Nat) => l.length - (k)) (0) (by exact ⟨rfl, trivial⟩) (by exact ⟨by exact Nat.zero_le _, by exact fun i h => absurd h (Nat.not_lt_zero _)⟩) fun k r8 h9 c10 hj11 => ?_
  obtain ⟨hk, hin⟩ := hj11
  try dsimp only at hk
  try dsimp only at hin
  show pwp _ _ (loopQ _ _ _) ⟨sets (mix _ _ _) [(5, .int k)], _, _⟩
  refine pwp_seq_seq ?_
  refine pwp_seq_plain rfl fun K12 hK12 => ?_
  refine p_mS rfl ?_
  refine p_e rfl (e_move (v := .lit _ _ _) rfl) ?_
  refine p_e rfl (e_len rfl (by kernel_rfl)) ?_
  refine p_e rfl (e_lt rfl rfl) ?_
  refine p_end (hK12 _ ?_); clear hK12 K12
  refine pwp_seq_cond rfl fun K13 hK13 => ⟨fun hb14 => ?_, fun hb14 => ?_⟩
  ·have hb14R := hb14; try simp only [zz] at hb14
   obtain ⟨x, hx, hd, ht⟩ := get_lt (xs := l) (i := k) (by omega)
   obtain ⟨y, hy⟩ : ∃ y, l2[k]? = some y := ⟨_, List.getElem?_eq_getElem (by omega)⟩
   refine pwp_skip ?_
   refine seq_norm (hK13 _ ?_); clear hK13 K13
   refine pwp_seq_block fun K15 hK15 => ?_
   refine pwp_seq_gops rfl fun K16 hK16 => ?_
   refine g_begin ?_
   refine g_e rfl (e_move (v := .lit _ _ _) rfl) ?_
   refine g_mS rfl rfl ?_
   refine g_e rfl (e_ixL rfl rfl) ?_
   refine g_e rfl (e_loadA (n := 2) rfl (by kernel_rfl) (by kernel_rfl) (by kernel_rfl) (by first | omega | (simp only [List.length_map]; omega)) (by decide) (by first | exact agg_map hx rfl)) ?_
   refine g_e rfl (e_move (v := .lit _ _ _) rfl) ?_
   refine g_mS rfl rfl ?_
   refine g_e rfl (e_ixL rfl rfl) ?_
   refine g_e rfl (e_loadA (n := 2) rfl (by kernel_rfl) (by kernel_rfl) (by kernel_rfl) (by first | omega | (simp only [List.length_map]; omega)) (by decide) (by first | exact agg_map hy rfl)) ?_
   refine g_e rfl (e_ane rfl rfl (by kernel_rfl) (eqOk_Tie (x) (y)) (eqV_Tie (x) (y))) ?_
   refine g_end (ds := []) (by kernel_rfl) rfl (hK16 _ ?_); clear hK16 K16
   refine pwp_cond rfl (fun hb17 => ?_) (fun hb17 => ?_)
   ·have hb17R := hb17; try simp only [zz] at hb17
    refine pwp_seq_plain rfl fun K18 hK18 => ?_
    refine p_aS rfl ?_
    refine p_end (hK18 _ ?_); clear hK18 K18
    refine pwp_ret ?_
    refine ret_block ?_
    refine ret_seq ?_
    refine ret_loop ?_
    refine ret_block ?_
    refine ret_seq ?_
    refine end1 (v := .sc _) rfl ?_
    first
      | exact out_b (same_l (by simp only [List.length_map] at *; omega))
      | exact out_b (same_f hx hy (by first | assumption | simp_all))
      | exact out_b (same_t hin hlen (by simp only [List.length_map] at *; omega))
   ·have hb17R := hb17; try simp only [zz] at hb17
    refine pwp_skip ?_
    refine block_norm ?_
    refine seq_norm (hK15 _ ?_); clear hK15 K15
    refine pwp_plain rfl fun K19 hK19 => ?_
    refine p_mS rfl ?_
    refine p_e rfl (e_adL rfl rfl) ?_
    refine p_aS rfl ?_
    refine p_end (hK19 _ ?_); clear hK19 K19
    exact loop_again (k + 1) (by show _ < _; omega) ⟨rfl, rfl, trivial⟩ ⟨rfl, trivial⟩ (by exact ⟨by show _ + 1 ≤ _; simp only [List.length_map] at *; omega, by exact same_s hin hx hy (by first | assumption | simp_all)⟩)
  ·have hb14R := hb14; try simp only [zz] at hb14
   refine pwp_exit ?_
   refine exit_seq ?_
   clear hK13 K13
   refine exit_loop ?_
   refine exit_here ?_
   refine seq_norm (hK7 _ ?_); clear hK7 K7
   refine pwp_seq_plain rfl fun K20 hK20 => ?_
   refine p_aS rfl ?_
   refine p_end (hK20 _ ?_); clear hK20 K20
   refine pwp_ret ?_
   refine end1 (v := .sc _) rfl ?_
   first
     | exact out_b (same_l (by simp only [List.length_map] at *; omega))
     | exact out_b (same_f hx hy (by first | assumption | simp_all))
     | exact out_b (same_t hin hlen (by simp only [List.length_map] at *; omega))

theorem fr3 : (inFrame Tryz.f3.ntmps (Tryz.f3.body.getD .skip) && Tryz.f3.results.toList.all (resScope Tryz.f3.ntmps)) = true := by kernel_rfl
theorem hTexts (l : List Tie) (s : ByteArray) (hl : l.length ≤ 9223372036854775807) (hs : s.size ≤ 9223372036854775807) : PCalls Tryz.prog 3 [.lit true 2 (l.map Tie.enc), .str s] (.bool true) := by
 refine PCalls.of_code Tryz.func3 rfl rfl (by kernel_rfl) mixed fr3 (by show _ ≤ 98; simp) (.sc _) ?_
 refine pwp_seq_plain rfl fun K1 hK1 => ?_
 refine p_aS rfl ?_
 refine p_end (hK1 _ ?_); clear hK1 K1
 refine pwp_seq_seq ?_
 refine pwp_seq_plain rfl fun K2 hK2 => ?_
 refine p_call rfl .nil (awake6) ?_
 refine p_e rfl (e_not rfl) ?_
 refine p_end (hK2 _ ?_); clear hK2 K2
 refine pwp_seq_cond (t := false) rfl fun K3 hK3 => ⟨nofun, fun _ => ?_⟩
 refine pwp_skip ?_
 refine seq_norm (hK3 _ ?_); clear hK3 K3
 refine pwp_seq_seq ?_
 refine pwp_seq_gops rfl fun K4 hK4 => ?_
 refine g_begin ?_
 refine g_e rfl (e_move (v := .lit _ _ _) rfl) ?_
 refine g_e rfl (e_len rfl (by kernel_rfl)) ?_
 refine g_e rfl (e_gt rfl rfl) ?_
 refine g_mS rfl rfl ?_
 refine g_cases (fun hb5 => ?_) (fun hb5 => ?_)
 ·have hb5R := hb5; try simp only [zz] at hb5
  refine g_e rfl (e_move (v := .lit _ _ _) rfl) ?_
  refine g_e rfl (e_len rfl (by kernel_rfl)) ?_
  refine g_e rfl (e_le rfl rfl) ?_
  refine g_pT rfl rfl rfl ?_
  refine g_mS rfl rfl ?_
  refine g_cases (fun hb6 => ?_) (fun hb6 => ?_)
  ·have hb6R := hb6; try simp only [zz] at hb6
   iterate 3 refine g_skip rfl rfl rfl ?_
   refine g_pT rfl rfl rfl ?_
   refine g_mS rfl rfl ?_
   iterate 8 refine g_skip rfl rfl rfl ?_
   refine g_pT rfl rfl rfl ?_
   refine g_mS rfl rfl ?_
   iterate 3 refine g_skip rfl rfl rfl ?_
   refine g_pT rfl rfl rfl ?_
   refine g_end (ds := [21, 22, 23, 26, 27, 28, 31, 32, 33, 34, 35, 36, 37, 38, 41, 42, 43]) rfl rfl (hK4 _ ?_); clear hK4 K4
   refine pwp_seq_cond (t := true) rfl fun K7 hK7 => ⟨fun _ => ?_, nofun⟩
   refine pwp_seq_plain rfl fun K8 hK8 => ?_
   refine p_aS rfl ?_
   refine p_end (hK8 _ ?_); clear hK8 K8
   refine pwp_ret ?_
   refine ret_seq ?_
   refine end1 (v := .sc _) rfl ?_
   first
     | exact out_b rfl
     | exact out_b (by rw [decide_eq_true_eq]; exact hbk1)
     | (exfalso; simp only [List.length_map] at *; omega)
     | (exfalso; simp_all; done)
  ·have hb6R := hb6; try simp only [zz] at hb6
   refine g_e rfl (e_move (v := .lit _ _ _) rfl) ?_
   refine g_e rfl (e_len rfl (by kernel_rfl)) ?_
   refine g_e rfl (e_gt rfl rfl) ?_
   refine g_pF rfl rfl rfl ?_
   refine g_mS rfl rfl ?_
   refine g_cases (fun hb9 => ?_) (fun hb9 => ?_)
   ·have hb9R := hb9; try simp only [zz] at hb9
    iterate 8 refine g_skip rfl rfl rfl ?_
    refine g_pT rfl rfl rfl ?_
    refine g_mS rfl rfl ?_
    iterate 3 refine g_skip rfl rfl rfl ?_
    refine g_pT rfl rfl rfl ?_
    refine g_end (ds := [21, 22, 23, 26, 27, 28, 31, 32, 33, 34, 35, 36, 37, 38, 41, 42, 43]) rfl rfl (hK4 _ ?_); clear hK4 K4
    refine pwp_seq_cond (t := true) rfl fun K10 hK10 => ⟨fun _ => ?_, nofun⟩
    refine pwp_seq_plain rfl fun K11 hK11 => ?_
    refine p_aS rfl ?_
    refine p_end (hK11 _ ?_); clear hK11 K11
    refine pwp_ret ?_
    refine ret_seq ?_
    refine end1 (v := .sc _) rfl ?_
    first
      | exact out_b rfl
      | exact out_b (by rw [decide_eq_true_eq]; exact hbk1)
      | (exfalso; simp only [List.length_map] at *; omega)
      | (exfalso; simp_all; done)
   ·have hb9R := hb9; try simp only [zz] at hb9
    refine g_mS rfl rfl ?_
    refine g_e rfl (e_lenS rfl (by kernel_rfl)) ?_
    refine g_e rfl (e_gt rfl rfl) ?_
    refine g_mS rfl rfl ?_
    refine g_cases (fun hb12 => ?_) (fun hb12 => ?_)
    ·have hb12R := hb12; try simp only [zz] at hb12
     refine g_mS rfl rfl ?_
     refine g_e rfl (e_lenS rfl (by kernel_rfl)) ?_
     refine g_e rfl (e_le rfl rfl) ?_
     refine g_pT rfl rfl rfl ?_
     refine g_pF rfl rfl rfl ?_
     refine g_mS rfl rfl ?_
     refine g_cases (fun hb13 => ?_) (fun hb13 => ?_)
     ·have hb13R := hb13; try simp only [zz] at hb13
      iterate 3 refine g_skip rfl rfl rfl ?_
      refine g_pT rfl rfl rfl ?_
      refine g_end (ds := [21, 22, 23, 26, 27, 28, 31, 32, 33, 34, 35, 36, 37, 38, 41, 42, 43]) rfl rfl (hK4 _ ?_); clear hK4 K4
      refine pwp_seq_cond (t := true) rfl fun K14 hK14 => ⟨fun _ => ?_, nofun⟩
      refine pwp_seq_plain rfl fun K15 hK15 => ?_
      refine p_aS rfl ?_
      refine p_end (hK15 _ ?_); clear hK15 K15
      refine pwp_ret ?_
      refine ret_seq ?_
      refine end1 (v := .sc _) rfl ?_
      first
        | exact out_b rfl
        | exact out_b (by rw [decide_eq_true_eq]; exact hbk1)
        | (exfalso; simp only [List.length_map] at *; omega)
        | (exfalso; simp_all; done)
     ·have hb13R := hb13; try simp only [zz] at hb13
      refine g_mS rfl rfl ?_
      refine g_e rfl (e_lenS rfl (by kernel_rfl)) ?_
      refine g_e rfl (e_gt rfl rfl) ?_
      refine g_pF rfl rfl rfl ?_
      refine g_end (ds := [21, 22, 23, 26, 27, 28, 31, 32, 33, 34, 35, 36, 37, 38, 41, 42, 43]) rfl rfl (hK4 _ ?_); clear hK4 K4
      refine pwp_seq_cond rfl fun K16 hK16 => ⟨fun hb17 => ?_, fun hb17 => ?_⟩
      ·have hb17R := hb17; try simp only [zz] at hb17
       refine pwp_seq_plain rfl fun K18 hK18 => ?_
       refine p_aS rfl ?_
       refine p_end (hK18 _ ?_); clear hK18 K18
       refine pwp_ret ?_
       refine ret_seq ?_
       refine end1 (v := .sc _) rfl ?_
       first
         | exact out_b rfl
         | exact out_b (by rw [decide_eq_true_eq]; exact hbk1)
         | (exfalso; simp only [List.length_map] at *; omega)
         | (exfalso; simp_all; done)
      ·have hb17R := hb17; try simp only [zz] at hb17
       refine pwp_skip ?_
       refine seq_norm (hK16 _ ?_); clear hK16 K16
       have hl2 : l.length ≤ 1900 := by first | omega | (simp only [List.length_map] at *; omega)
       have hs2 : s.size ≤ 120000 := by omega
       have hpz := prt_size l
       have hpl := par_lens s
       refine pwp_seq_plain rfl fun K19 hK19 => ?_
       refine p_e rfl (e_move (v := .lit _ _ _) rfl) ?_
       refine p_call rfl (.cons inn_lit .nil) (PrintC l (by omega)) ?_
       refine p_e rfl (e_move (v := .tup _) rfl) ?_
       refine p_e rfl (e_ext (v := .sc _) rfl (by simp) rfl) ?_
       refine p_e rfl (e_ext (v := .sc _) rfl (by simp) rfl) ?_
       refine p_aS rfl ?_
       refine p_aS rfl ?_
       refine p_end (hK19 _ ?_); clear hK19 K19
       refine pwp_seq_plain rfl fun K20 hK20 => ?_
       refine p_e rfl (e_move (v := .lit _ _ _) rfl) ?_
       refine p_call rfl (.cons inn_lit .nil) (refPrintC l (by omega)) ?_
       refine p_e rfl (e_move (v := .tup _) rfl) ?_
       refine p_e rfl (e_ext (v := .sc _) rfl (by simp) rfl) ?_
       refine p_e rfl (e_ext (v := .sc _) rfl (by simp) rfl) ?_
       refine p_aS rfl ?_
       refine p_aS rfl ?_
       refine p_end (hK20 _ ?_); clear hK20 K20
       refine pwp_seq_plain rfl fun K21 hK21 => ?_
       refine p_mS rfl ?_
       refine p_call rfl (.cons inn_sc .nil) (ParseC _ (by omega)) ?_
       refine p_e rfl (e_move (v := .tup _) rfl) ?_
       refine p_e rfl (e_ext (v := .lit _ _ _) rfl (by simp) rfl) ?_
       refine p_e rfl (e_ext (v := .sc _) rfl (by simp) rfl) ?_
       refine p_e rfl (e_assign (v := .lit _ _ _) rfl) ?_
       refine p_aS rfl ?_
       refine p_end (hK21 _ ?_); clear hK21 K21
       refine pwp_seq_plain rfl fun K22 hK22 => ?_
       refine p_mS rfl ?_
       refine p_call rfl (.cons inn_sc .nil) (refParseC _ (by omega)) ?_
       refine p_e rfl (e_move (v := .tup _) rfl) ?_
       refine p_e rfl (e_ext (v := .lit _ _ _) rfl (by simp) rfl) ?_
       refine p_e rfl (e_ext (v := .sc _) rfl (by simp) rfl) ?_
       refine p_e rfl (e_assign (v := .lit _ _ _) rfl) ?_
       refine p_aS rfl ?_
       refine p_end (hK22 _ ?_); clear hK22 K22
       refine pwp_seq_seq ?_
       refine pwp_seq_gops rfl fun K23 hK23 => ?_
       refine g_begin ?_
       refine g_mS rfl rfl ?_
       refine g_mS rfl rfl ?_
       refine g_e rfl (e_sne rfl rfl) ?_
       refine g_mS rfl rfl ?_
       refine g_cases (fun hb24 => ?_) (fun hb24 => ?_)
       ·have hb24R := hb24; try simp only [zz] at hb24
        iterate 3 refine g_skip rfl rfl rfl ?_
        refine g_pT rfl rfl rfl ?_
        refine g_mS rfl rfl ?_
        iterate 2 refine g_skip rfl rfl rfl ?_
        refine g_nocall rfl rfl rfl ?_
        refine g_skip rfl rfl rfl ?_
        refine g_pT rfl rfl rfl ?_
        refine g_mS rfl rfl ?_
        iterate 3 refine g_skip rfl rfl rfl ?_
        refine g_pT rfl rfl rfl ?_
        refine g_end (ds := [69, 70, 71, 74, 75, 76, 77, 80, 81, 82]) rfl rfl (hK23 _ ?_); clear hK23 K23
        refine pwp_seq_cond (t := true) rfl fun K25 hK25 => ⟨fun _ => ?_, nofun⟩
        refine pwp_seq_plain rfl fun K26 hK26 => ?_
        refine p_aS rfl ?_
        refine p_end (hK26 _ ?_); clear hK26 K26
        refine pwp_ret ?_
        refine ret_seq ?_
        refine end1 (v := .sc _) rfl ?_
        first
          | exact out_b rfl
          | exact out_b (by rw [decide_eq_true_eq]; exact hbk1)
          | (exfalso; simp only [List.length_map] at *; omega)
          | (exfalso; simp_all; done)
       ·have hb24R := hb24; try simp only [zz] at hb24
        refine g_mS rfl rfl ?_
        refine g_mS rfl rfl ?_
        refine g_e rfl (e_ne rfl rfl) ?_
        refine g_pF rfl rfl rfl ?_
        refine g_mS rfl rfl ?_
        refine g_cases (fun hb27 => ?_) (fun hb27 => ?_)
        ·have hb27R := hb27; try simp only [zz] at hb27
         iterate 2 refine g_skip rfl rfl rfl ?_
         refine g_nocall rfl rfl rfl ?_
         refine g_skip rfl rfl rfl ?_
         refine g_pT rfl rfl rfl ?_
         refine g_mS rfl rfl ?_
         iterate 3 refine g_skip rfl rfl rfl ?_
         refine g_pT rfl rfl rfl ?_
         refine g_end (ds := [69, 70, 71, 74, 75, 76, 77, 80, 81, 82]) rfl rfl (hK23 _ ?_); clear hK23 K23
         refine pwp_seq_cond (t := true) rfl fun K28 hK28 => ⟨fun _ => ?_, nofun⟩
         refine pwp_seq_plain rfl fun K29 hK29 => ?_
         refine p_aS rfl ?_
         refine p_end (hK29 _ ?_); clear hK29 K29
         refine pwp_ret ?_
         refine ret_seq ?_
         refine end1 (v := .sc _) rfl ?_
         first
           | exact out_b rfl
           | exact out_b (by rw [decide_eq_true_eq]; exact hbk1)
           | (exfalso; simp only [List.length_map] at *; omega)
           | (exfalso; simp_all; done)
        ·have hb27R := hb27; try simp only [zz] at hb27
         refine g_e rfl (e_move (v := .lit _ _ _) rfl) ?_
         refine g_e rfl (e_move (v := .lit _ _ _) rfl) ?_
         refine g_call rfl rfl rfl rfl (.cons inn_lit (.cons inn_lit .nil)) (SameTiesC _ _ _ _ (by omega) (by omega)) ?_
         refine g_e rfl (e_not rfl) ?_
         refine g_pF rfl rfl rfl ?_
         refine g_mS rfl rfl ?_
         refine g_cases (fun hb30 => ?_) (fun hb30 => ?_)
         ·have hb30R := hb30; try simp only [zz] at hb30
          iterate 3 refine g_skip rfl rfl rfl ?_
          refine g_pT rfl rfl rfl ?_
          refine g_end (ds := [69, 70, 71, 74, 75, 76, 77, 80, 81, 82]) rfl rfl (hK23 _ ?_); clear hK23 K23
          refine pwp_seq_cond (t := true) rfl fun K31 hK31 => ⟨fun _ => ?_, nofun⟩
          refine pwp_seq_plain rfl fun K32 hK32 => ?_
          refine p_aS rfl ?_
          refine p_end (hK32 _ ?_); clear hK32 K32
          refine pwp_ret ?_
          refine ret_seq ?_
          refine end1 (v := .sc _) rfl ?_
          first
            | exact out_b rfl
            | exact out_b (by rw [decide_eq_true_eq]; exact hbk1)
            | (exfalso; simp only [List.length_map] at *; omega)
            | (exfalso; simp_all; done)
         ·have hb30R := hb30; try simp only [zz] at hb30
          refine g_mS rfl rfl ?_
          refine g_mS rfl rfl ?_
          refine g_e rfl (e_ne rfl rfl) ?_
          refine g_pF rfl rfl rfl ?_
          refine g_end (ds := [69, 70, 71, 74, 75, 76, 77, 80, 81, 82]) rfl rfl (hK23 _ ?_); clear hK23 K23
          refine pwp_seq_cond rfl fun K33 hK33 => ⟨fun hb34 => ?_, fun hb34 => ?_⟩
          ·have hb34R := hb34; try simp only [zz] at hb34
           refine pwp_seq_plain rfl fun K35 hK35 => ?_
           refine p_aS rfl ?_
           refine p_end (hK35 _ ?_); clear hK35 K35
           refine pwp_ret ?_
           refine ret_seq ?_
           refine end1 (v := .sc _) rfl ?_
           first
             | exact out_b rfl
             | exact out_b (by rw [decide_eq_true_eq]; exact hbk1)
             | (exfalso; simp only [List.length_map] at *; omega)
             | (exfalso; simp_all; done)
          ·have hb34R := hb34; try simp only [zz] at hb34
           refine pwp_skip ?_
           refine seq_norm (hK33 _ ?_); clear hK33 K33
           refine pwp_seq_seq ?_
           refine pwp_seq_plain rfl fun K36 hK36 => ?_
           refine p_mS rfl ?_
           refine p_e rfl (e_ne rfl rfl) ?_
           refine p_end (hK36 _ ?_); clear hK36 K36
           refine pwp_seq_cond rfl fun K37 hK37 => ⟨fun hb38 => ?_, fun hb38 => ?_⟩
           ·have hb38R := hb38; try simp only [zz] at hb38
            refine pwp_seq_plain rfl fun K39 hK39 => ?_
            refine p_aS rfl ?_
            refine p_end (hK39 _ ?_); clear hK39 K39
            refine pwp_ret ?_
            refine ret_seq ?_
            refine end1 (v := .sc _) rfl ?_
            first
              | exact out_b rfl
              | exact out_b (by rw [decide_eq_true_eq]; exact hbk1)
              | (exfalso; simp only [List.length_map] at *; omega)
              | (exfalso; simp_all; done)
           ·have hb38R := hb38; try simp only [zz] at hb38
            refine pwp_skip ?_
            refine seq_norm (hK37 _ ?_); clear hK37 K37
            have hbk := par_back (l := l) (by omega)
            have hbk1 : (parX (prtX l).1).1 = l := by rw [hbk]
            have hbk2 : (parX (prtX l).1).2 = 0 := by rw [hbk]
            have hpl2 := par_lens (prtX l).1
            refine pwp_seq_plain rfl fun K40 hK40 => ?_
            refine p_mS rfl ?_
            refine p_call rfl (.cons inn_sc .nil) (ParseC _ (by omega)) ?_
            refine p_e rfl (e_move (v := .tup _) rfl) ?_
            refine p_e rfl (e_ext (v := .lit _ _ _) rfl (by simp) rfl) ?_
            refine p_e rfl (e_ext (v := .sc _) rfl (by simp) rfl) ?_
            refine p_e rfl (e_assign (v := .lit _ _ _) rfl) ?_
            refine p_aS rfl ?_
            refine p_end (hK40 _ ?_); clear hK40 K40
            refine pwp_seq_gops rfl fun K41 hK41 => ?_
            refine g_begin ?_
            refine g_mS rfl rfl ?_
            refine g_e rfl (e_eq rfl rfl) ?_
            refine g_mS rfl rfl ?_
            refine g_cases (fun hb42 => ?_) (fun hb42 => ?_)
            ·have hb42R := hb42; try simp only [zz] at hb42
             refine g_e rfl (e_move (v := .lit _ _ _) rfl) ?_
             refine g_e rfl (e_move (v := .lit _ _ _) rfl) ?_
             refine g_call rfl rfl rfl rfl (.cons inn_lit (.cons inn_lit .nil)) (SameTiesC _ _ _ _ (by omega) (by omega)) ?_
             refine g_pT rfl rfl rfl ?_
             refine g_aS rfl rfl ?_
             refine g_end (ds := [94, 95, 96]) rfl rfl (hK41 _ ?_); clear hK41 K41
             refine pwp_ret ?_
             refine end1 (v := .sc _) rfl ?_
             first
               | exact out_b rfl
               | exact out_b (by rw [decide_eq_true_eq]; exact hbk1)
               | (exfalso; simp only [List.length_map] at *; omega)
               | (exfalso; simp_all; done)
            ·have hb42R := hb42; try simp only [zz] at hb42
             iterate 2 refine g_skip rfl rfl rfl ?_
             refine g_nocall rfl rfl rfl ?_
             refine g_pF rfl rfl rfl ?_
             refine g_aS rfl rfl ?_
             refine g_end (ds := [94, 95, 96]) rfl rfl (hK41 _ ?_); clear hK41 K41
             refine pwp_ret ?_
             refine end1 (v := .sc _) rfl ?_
             first
               | exact out_b rfl
               | exact out_b (by rw [decide_eq_true_eq]; exact hbk1)
               | (exfalso; simp only [List.length_map] at *; omega)
               | (exfalso; simp_all; done)
    ·have hb12R := hb12; try simp only [zz] at hb12
     iterate 3 refine g_skip rfl rfl rfl ?_
     refine g_pF rfl rfl rfl ?_
     refine g_pF rfl rfl rfl ?_
     refine g_mS rfl rfl ?_
     refine g_mS rfl rfl ?_
     refine g_e rfl (e_lenS rfl (by kernel_rfl)) ?_
     refine g_e rfl (e_gt rfl rfl) ?_
     refine g_pF rfl rfl rfl ?_
     refine g_end (ds := [21, 22, 23, 26, 27, 28, 31, 32, 33, 34, 35, 36, 37, 38, 41, 42, 43]) rfl rfl (hK4 _ ?_); clear hK4 K4
     refine pwp_seq_cond rfl fun K43 hK43 => ⟨fun hb44 => ?_, fun hb44 => ?_⟩
     ·have hb44R := hb44; try simp only [zz] at hb44
      refine pwp_seq_plain rfl fun K45 hK45 => ?_
      refine p_aS rfl ?_
      refine p_end (hK45 _ ?_); clear hK45 K45
      refine pwp_ret ?_
      refine ret_seq ?_
      refine end1 (v := .sc _) rfl ?_
      first
        | exact out_b rfl
        | exact out_b (by rw [decide_eq_true_eq]; exact hbk1)
        | (exfalso; simp only [List.length_map] at *; omega)
        | (exfalso; simp_all; done)
     ·have hb44R := hb44; try simp only [zz] at hb44
      refine pwp_skip ?_
      refine seq_norm (hK43 _ ?_); clear hK43 K43
      have hl2 : l.length ≤ 1900 := by first | omega | (simp only [List.length_map] at *; omega)
      have hs2 : s.size ≤ 120000 := by omega
      have hpz := prt_size l
      have hpl := par_lens s
      refine pwp_seq_plain rfl fun K46 hK46 => ?_
      refine p_e rfl (e_move (v := .lit _ _ _) rfl) ?_
      refine p_call rfl (.cons inn_lit .nil) (PrintC l (by omega)) ?_
      refine p_e rfl (e_move (v := .tup _) rfl) ?_
      refine p_e rfl (e_ext (v := .sc _) rfl (by simp) rfl) ?_
      refine p_e rfl (e_ext (v := .sc _) rfl (by simp) rfl) ?_
      refine p_aS rfl ?_
      refine p_aS rfl ?_
      refine p_end (hK46 _ ?_); clear hK46 K46
      refine pwp_seq_plain rfl fun K47 hK47 => ?_
      refine p_e rfl (e_move (v := .lit _ _ _) rfl) ?_
      refine p_call rfl (.cons inn_lit .nil) (refPrintC l (by omega)) ?_
      refine p_e rfl (e_move (v := .tup _) rfl) ?_
      refine p_e rfl (e_ext (v := .sc _) rfl (by simp) rfl) ?_
      refine p_e rfl (e_ext (v := .sc _) rfl (by simp) rfl) ?_
      refine p_aS rfl ?_
      refine p_aS rfl ?_
      refine p_end (hK47 _ ?_); clear hK47 K47
      refine pwp_seq_plain rfl fun K48 hK48 => ?_
      refine p_mS rfl ?_
      refine p_call rfl (.cons inn_sc .nil) (ParseC _ (by omega)) ?_
      refine p_e rfl (e_move (v := .tup _) rfl) ?_
      refine p_e rfl (e_ext (v := .lit _ _ _) rfl (by simp) rfl) ?_
      refine p_e rfl (e_ext (v := .sc _) rfl (by simp) rfl) ?_
      refine p_e rfl (e_assign (v := .lit _ _ _) rfl) ?_
      refine p_aS rfl ?_
      refine p_end (hK48 _ ?_); clear hK48 K48
      refine pwp_seq_plain rfl fun K49 hK49 => ?_
      refine p_mS rfl ?_
      refine p_call rfl (.cons inn_sc .nil) (refParseC _ (by omega)) ?_
      refine p_e rfl (e_move (v := .tup _) rfl) ?_
      refine p_e rfl (e_ext (v := .lit _ _ _) rfl (by simp) rfl) ?_
      refine p_e rfl (e_ext (v := .sc _) rfl (by simp) rfl) ?_
      refine p_e rfl (e_assign (v := .lit _ _ _) rfl) ?_
      refine p_aS rfl ?_
      refine p_end (hK49 _ ?_); clear hK49 K49
      refine pwp_seq_seq ?_
      refine pwp_seq_gops rfl fun K50 hK50 => ?_
      refine g_begin ?_
      refine g_mS rfl rfl ?_
      refine g_mS rfl rfl ?_
      refine g_e rfl (e_sne rfl rfl) ?_
      refine g_mS rfl rfl ?_
      refine g_cases (fun hb51 => ?_) (fun hb51 => ?_)
      ·have hb51R := hb51; try simp only [zz] at hb51
       iterate 3 refine g_skip rfl rfl rfl ?_
       refine g_pT rfl rfl rfl ?_
       refine g_mS rfl rfl ?_
       iterate 2 refine g_skip rfl rfl rfl ?_
       refine g_nocall rfl rfl rfl ?_
       refine g_skip rfl rfl rfl ?_
       refine g_pT rfl rfl rfl ?_
       refine g_mS rfl rfl ?_
       iterate 3 refine g_skip rfl rfl rfl ?_
       refine g_pT rfl rfl rfl ?_
       refine g_end (ds := [69, 70, 71, 74, 75, 76, 77, 80, 81, 82]) rfl rfl (hK50 _ ?_); clear hK50 K50
       refine pwp_seq_cond (t := true) rfl fun K52 hK52 => ⟨fun _ => ?_, nofun⟩
       refine pwp_seq_plain rfl fun K53 hK53 => ?_
       refine p_aS rfl ?_
       refine p_end (hK53 _ ?_); clear hK53 K53
       refine pwp_ret ?_
       refine ret_seq ?_
       refine end1 (v := .sc _) rfl ?_
       first
         | exact out_b rfl
         | exact out_b (by rw [decide_eq_true_eq]; exact hbk1)
         | (exfalso; simp only [List.length_map] at *; omega)
         | (exfalso; simp_all; done)
      ·have hb51R := hb51; try simp only [zz] at hb51
       refine g_mS rfl rfl ?_
       refine g_mS rfl rfl ?_
       refine g_e rfl (e_ne rfl rfl) ?_
       refine g_pF rfl rfl rfl ?_
       refine g_mS rfl rfl ?_
       refine g_cases (fun hb54 => ?_) (fun hb54 => ?_)
       ·have hb54R := hb54; try simp only [zz] at hb54
        iterate 2 refine g_skip rfl rfl rfl ?_
        refine g_nocall rfl rfl rfl ?_
        refine g_skip rfl rfl rfl ?_
        refine g_pT rfl rfl rfl ?_
        refine g_mS rfl rfl ?_
        iterate 3 refine g_skip rfl rfl rfl ?_
        refine g_pT rfl rfl rfl ?_
        refine g_end (ds := [69, 70, 71, 74, 75, 76, 77, 80, 81, 82]) rfl rfl (hK50 _ ?_); clear hK50 K50
        refine pwp_seq_cond (t := true) rfl fun K55 hK55 => ⟨fun _ => ?_, nofun⟩
        refine pwp_seq_plain rfl fun K56 hK56 => ?_
        refine p_aS rfl ?_
        refine p_end (hK56 _ ?_); clear hK56 K56
        refine pwp_ret ?_
        refine ret_seq ?_
        refine end1 (v := .sc _) rfl ?_
        first
          | exact out_b rfl
          | exact out_b (by rw [decide_eq_true_eq]; exact hbk1)
          | (exfalso; simp only [List.length_map] at *; omega)
          | (exfalso; simp_all; done)
       ·have hb54R := hb54; try simp only [zz] at hb54
        refine g_e rfl (e_move (v := .lit _ _ _) rfl) ?_
        refine g_e rfl (e_move (v := .lit _ _ _) rfl) ?_
        refine g_call rfl rfl rfl rfl (.cons inn_lit (.cons inn_lit .nil)) (SameTiesC _ _ _ _ (by omega) (by omega)) ?_
        refine g_e rfl (e_not rfl) ?_
        refine g_pF rfl rfl rfl ?_
        refine g_mS rfl rfl ?_
        refine g_cases (fun hb57 => ?_) (fun hb57 => ?_)
        ·have hb57R := hb57; try simp only [zz] at hb57
         iterate 3 refine g_skip rfl rfl rfl ?_
         refine g_pT rfl rfl rfl ?_
         refine g_end (ds := [69, 70, 71, 74, 75, 76, 77, 80, 81, 82]) rfl rfl (hK50 _ ?_); clear hK50 K50
         refine pwp_seq_cond (t := true) rfl fun K58 hK58 => ⟨fun _ => ?_, nofun⟩
         refine pwp_seq_plain rfl fun K59 hK59 => ?_
         refine p_aS rfl ?_
         refine p_end (hK59 _ ?_); clear hK59 K59
         refine pwp_ret ?_
         refine ret_seq ?_
         refine end1 (v := .sc _) rfl ?_
         first
           | exact out_b rfl
           | exact out_b (by rw [decide_eq_true_eq]; exact hbk1)
           | (exfalso; simp only [List.length_map] at *; omega)
           | (exfalso; simp_all; done)
        ·have hb57R := hb57; try simp only [zz] at hb57
         refine g_mS rfl rfl ?_
         refine g_mS rfl rfl ?_
         refine g_e rfl (e_ne rfl rfl) ?_
         refine g_pF rfl rfl rfl ?_
         refine g_end (ds := [69, 70, 71, 74, 75, 76, 77, 80, 81, 82]) rfl rfl (hK50 _ ?_); clear hK50 K50
         refine pwp_seq_cond rfl fun K60 hK60 => ⟨fun hb61 => ?_, fun hb61 => ?_⟩
         ·have hb61R := hb61; try simp only [zz] at hb61
          refine pwp_seq_plain rfl fun K62 hK62 => ?_
          refine p_aS rfl ?_
          refine p_end (hK62 _ ?_); clear hK62 K62
          refine pwp_ret ?_
          refine ret_seq ?_
          refine end1 (v := .sc _) rfl ?_
          first
            | exact out_b rfl
            | exact out_b (by rw [decide_eq_true_eq]; exact hbk1)
            | (exfalso; simp only [List.length_map] at *; omega)
            | (exfalso; simp_all; done)
         ·have hb61R := hb61; try simp only [zz] at hb61
          refine pwp_skip ?_
          refine seq_norm (hK60 _ ?_); clear hK60 K60
          refine pwp_seq_seq ?_
          refine pwp_seq_plain rfl fun K63 hK63 => ?_
          refine p_mS rfl ?_
          refine p_e rfl (e_ne rfl rfl) ?_
          refine p_end (hK63 _ ?_); clear hK63 K63
          refine pwp_seq_cond rfl fun K64 hK64 => ⟨fun hb65 => ?_, fun hb65 => ?_⟩
          ·have hb65R := hb65; try simp only [zz] at hb65
           refine pwp_seq_plain rfl fun K66 hK66 => ?_
           refine p_aS rfl ?_
           refine p_end (hK66 _ ?_); clear hK66 K66
           refine pwp_ret ?_
           refine ret_seq ?_
           refine end1 (v := .sc _) rfl ?_
           first
             | exact out_b rfl
             | exact out_b (by rw [decide_eq_true_eq]; exact hbk1)
             | (exfalso; simp only [List.length_map] at *; omega)
             | (exfalso; simp_all; done)
          ·have hb65R := hb65; try simp only [zz] at hb65
           refine pwp_skip ?_
           refine seq_norm (hK64 _ ?_); clear hK64 K64
           have hbk := par_back (l := l) (by omega)
           have hbk1 : (parX (prtX l).1).1 = l := by rw [hbk]
           have hbk2 : (parX (prtX l).1).2 = 0 := by rw [hbk]
           have hpl2 := par_lens (prtX l).1
           refine pwp_seq_plain rfl fun K67 hK67 => ?_
           refine p_mS rfl ?_
           refine p_call rfl (.cons inn_sc .nil) (ParseC _ (by omega)) ?_
           refine p_e rfl (e_move (v := .tup _) rfl) ?_
           refine p_e rfl (e_ext (v := .lit _ _ _) rfl (by simp) rfl) ?_
           refine p_e rfl (e_ext (v := .sc _) rfl (by simp) rfl) ?_
           refine p_e rfl (e_assign (v := .lit _ _ _) rfl) ?_
           refine p_aS rfl ?_
           refine p_end (hK67 _ ?_); clear hK67 K67
           refine pwp_seq_gops rfl fun K68 hK68 => ?_
           refine g_begin ?_
           refine g_mS rfl rfl ?_
           refine g_e rfl (e_eq rfl rfl) ?_
           refine g_mS rfl rfl ?_
           refine g_cases (fun hb69 => ?_) (fun hb69 => ?_)
           ·have hb69R := hb69; try simp only [zz] at hb69
            refine g_e rfl (e_move (v := .lit _ _ _) rfl) ?_
            refine g_e rfl (e_move (v := .lit _ _ _) rfl) ?_
            refine g_call rfl rfl rfl rfl (.cons inn_lit (.cons inn_lit .nil)) (SameTiesC _ _ _ _ (by omega) (by omega)) ?_
            refine g_pT rfl rfl rfl ?_
            refine g_aS rfl rfl ?_
            refine g_end (ds := [94, 95, 96]) rfl rfl (hK68 _ ?_); clear hK68 K68
            refine pwp_ret ?_
            refine end1 (v := .sc _) rfl ?_
            first
              | exact out_b rfl
              | exact out_b (by rw [decide_eq_true_eq]; exact hbk1)
              | (exfalso; simp only [List.length_map] at *; omega)
              | (exfalso; simp_all; done)
           ·have hb69R := hb69; try simp only [zz] at hb69
            iterate 2 refine g_skip rfl rfl rfl ?_
            refine g_nocall rfl rfl rfl ?_
            refine g_pF rfl rfl rfl ?_
            refine g_aS rfl rfl ?_
            refine g_end (ds := [94, 95, 96]) rfl rfl (hK68 _ ?_); clear hK68 K68
            refine pwp_ret ?_
            refine end1 (v := .sc _) rfl ?_
            first
              | exact out_b rfl
              | exact out_b (by rw [decide_eq_true_eq]; exact hbk1)
              | (exfalso; simp only [List.length_map] at *; omega)
              | (exfalso; simp_all; done)
 ·have hb5R := hb5; try simp only [zz] at hb5
  iterate 3 refine g_skip rfl rfl rfl ?_
  refine g_pF rfl rfl rfl ?_
  refine g_mS rfl rfl ?_
  refine g_e rfl (e_move (v := .lit _ _ _) rfl) ?_
  refine g_e rfl (e_len rfl (by kernel_rfl)) ?_
  refine g_e rfl (e_gt rfl rfl) ?_
  refine g_pF rfl rfl rfl ?_
  refine g_mS rfl rfl ?_
  refine g_cases (fun hb70 => ?_) (fun hb70 => ?_)
  ·have hb70R := hb70; try simp only [zz] at hb70
   iterate 8 refine g_skip rfl rfl rfl ?_
   refine g_pT rfl rfl rfl ?_
   refine g_mS rfl rfl ?_
   iterate 3 refine g_skip rfl rfl rfl ?_
   refine g_pT rfl rfl rfl ?_
   refine g_end (ds := [21, 22, 23, 26, 27, 28, 31, 32, 33, 34, 35, 36, 37, 38, 41, 42, 43]) rfl rfl (hK4 _ ?_); clear hK4 K4
   refine pwp_seq_cond (t := true) rfl fun K71 hK71 => ⟨fun _ => ?_, nofun⟩
   refine pwp_seq_plain rfl fun K72 hK72 => ?_
   refine p_aS rfl ?_
   refine p_end (hK72 _ ?_); clear hK72 K72
   refine pwp_ret ?_
   refine ret_seq ?_
   refine end1 (v := .sc _) rfl ?_
   first
     | exact out_b rfl
     | exact out_b (by rw [decide_eq_true_eq]; exact hbk1)
     | (exfalso; simp only [List.length_map] at *; omega)
     | (exfalso; simp_all; done)
  ·have hb70R := hb70; try simp only [zz] at hb70
   refine g_mS rfl rfl ?_
   refine g_e rfl (e_lenS rfl (by kernel_rfl)) ?_
   refine g_e rfl (e_gt rfl rfl) ?_
   refine g_mS rfl rfl ?_
   refine g_cases (fun hb73 => ?_) (fun hb73 => ?_)
   ·have hb73R := hb73; try simp only [zz] at hb73
    refine g_mS rfl rfl ?_
    refine g_e rfl (e_lenS rfl (by kernel_rfl)) ?_
    refine g_e rfl (e_le rfl rfl) ?_
    refine g_pT rfl rfl rfl ?_
    refine g_pF rfl rfl rfl ?_
    refine g_mS rfl rfl ?_
    refine g_cases (fun hb74 => ?_) (fun hb74 => ?_)
    ·have hb74R := hb74; try simp only [zz] at hb74
     iterate 3 refine g_skip rfl rfl rfl ?_
     refine g_pT rfl rfl rfl ?_
     refine g_end (ds := [21, 22, 23, 26, 27, 28, 31, 32, 33, 34, 35, 36, 37, 38, 41, 42, 43]) rfl rfl (hK4 _ ?_); clear hK4 K4
     refine pwp_seq_cond (t := true) rfl fun K75 hK75 => ⟨fun _ => ?_, nofun⟩
     refine pwp_seq_plain rfl fun K76 hK76 => ?_
     refine p_aS rfl ?_
     refine p_end (hK76 _ ?_); clear hK76 K76
     refine pwp_ret ?_
     refine ret_seq ?_
     refine end1 (v := .sc _) rfl ?_
     first
       | exact out_b rfl
       | exact out_b (by rw [decide_eq_true_eq]; exact hbk1)
       | (exfalso; simp only [List.length_map] at *; omega)
       | (exfalso; simp_all; done)
    ·have hb74R := hb74; try simp only [zz] at hb74
     refine g_mS rfl rfl ?_
     refine g_e rfl (e_lenS rfl (by kernel_rfl)) ?_
     refine g_e rfl (e_gt rfl rfl) ?_
     refine g_pF rfl rfl rfl ?_
     refine g_end (ds := [21, 22, 23, 26, 27, 28, 31, 32, 33, 34, 35, 36, 37, 38, 41, 42, 43]) rfl rfl (hK4 _ ?_); clear hK4 K4
     refine pwp_seq_cond rfl fun K77 hK77 => ⟨fun hb78 => ?_, fun hb78 => ?_⟩
     ·have hb78R := hb78; try simp only [zz] at hb78
      refine pwp_seq_plain rfl fun K79 hK79 => ?_
      refine p_aS rfl ?_
      refine p_end (hK79 _ ?_); clear hK79 K79
      refine pwp_ret ?_
      refine ret_seq ?_
      refine end1 (v := .sc _) rfl ?_
      first
        | exact out_b rfl
        | exact out_b (by rw [decide_eq_true_eq]; exact hbk1)
        | (exfalso; simp only [List.length_map] at *; omega)
        | (exfalso; simp_all; done)
     ·have hb78R := hb78; try simp only [zz] at hb78
      refine pwp_skip ?_
      refine seq_norm (hK77 _ ?_); clear hK77 K77
      have hl2 : l.length ≤ 1900 := by first | omega | (simp only [List.length_map] at *; omega)
      have hs2 : s.size ≤ 120000 := by omega
      have hpz := prt_size l
      have hpl := par_lens s
      refine pwp_seq_plain rfl fun K80 hK80 => ?_
      refine p_e rfl (e_move (v := .lit _ _ _) rfl) ?_
      refine p_call rfl (.cons inn_lit .nil) (PrintC l (by omega)) ?_
      refine p_e rfl (e_move (v := .tup _) rfl) ?_
      refine p_e rfl (e_ext (v := .sc _) rfl (by simp) rfl) ?_
      refine p_e rfl (e_ext (v := .sc _) rfl (by simp) rfl) ?_
      refine p_aS rfl ?_
      refine p_aS rfl ?_
      refine p_end (hK80 _ ?_); clear hK80 K80
      refine pwp_seq_plain rfl fun K81 hK81 => ?_
      refine p_e rfl (e_move (v := .lit _ _ _) rfl) ?_
      refine p_call rfl (.cons inn_lit .nil) (refPrintC l (by omega)) ?_
      refine p_e rfl (e_move (v := .tup _) rfl) ?_
      refine p_e rfl (e_ext (v := .sc _) rfl (by simp) rfl) ?_
      refine p_e rfl (e_ext (v := .sc _) rfl (by simp) rfl) ?_
      refine p_aS rfl ?_
      refine p_aS rfl ?_
      refine p_end (hK81 _ ?_); clear hK81 K81
      refine pwp_seq_plain rfl fun K82 hK82 => ?_
      refine p_mS rfl ?_
      refine p_call rfl (.cons inn_sc .nil) (ParseC _ (by omega)) ?_
      refine p_e rfl (e_move (v := .tup _) rfl) ?_
      refine p_e rfl (e_ext (v := .lit _ _ _) rfl (by simp) rfl) ?_
      refine p_e rfl (e_ext (v := .sc _) rfl (by simp) rfl) ?_
      refine p_e rfl (e_assign (v := .lit _ _ _) rfl) ?_
      refine p_aS rfl ?_
      refine p_end (hK82 _ ?_); clear hK82 K82
      refine pwp_seq_plain rfl fun K83 hK83 => ?_
      refine p_mS rfl ?_
      refine p_call rfl (.cons inn_sc .nil) (refParseC _ (by omega)) ?_
      refine p_e rfl (e_move (v := .tup _) rfl) ?_
      refine p_e rfl (e_ext (v := .lit _ _ _) rfl (by simp) rfl) ?_
      refine p_e rfl (e_ext (v := .sc _) rfl (by simp) rfl) ?_
      refine p_e rfl (e_assign (v := .lit _ _ _) rfl) ?_
      refine p_aS rfl ?_
      refine p_end (hK83 _ ?_); clear hK83 K83
      refine pwp_seq_seq ?_
      refine pwp_seq_gops rfl fun K84 hK84 => ?_
      refine g_begin ?_
      refine g_mS rfl rfl ?_
      refine g_mS rfl rfl ?_
      refine g_e rfl (e_sne rfl rfl) ?_
      refine g_mS rfl rfl ?_
      refine g_cases (fun hb85 => ?_) (fun hb85 => ?_)
      ·have hb85R := hb85; try simp only [zz] at hb85
       iterate 3 refine g_skip rfl rfl rfl ?_
       refine g_pT rfl rfl rfl ?_
       refine g_mS rfl rfl ?_
       iterate 2 refine g_skip rfl rfl rfl ?_
       refine g_nocall rfl rfl rfl ?_
       refine g_skip rfl rfl rfl ?_
       refine g_pT rfl rfl rfl ?_
       refine g_mS rfl rfl ?_
       iterate 3 refine g_skip rfl rfl rfl ?_
       refine g_pT rfl rfl rfl ?_
       refine g_end (ds := [69, 70, 71, 74, 75, 76, 77, 80, 81, 82]) rfl rfl (hK84 _ ?_); clear hK84 K84
       refine pwp_seq_cond (t := true) rfl fun K86 hK86 => ⟨fun _ => ?_, nofun⟩
       refine pwp_seq_plain rfl fun K87 hK87 => ?_
       refine p_aS rfl ?_
       refine p_end (hK87 _ ?_); clear hK87 K87
       refine pwp_ret ?_
       refine ret_seq ?_
       refine end1 (v := .sc _) rfl ?_
       first
         | exact out_b rfl
         | exact out_b (by rw [decide_eq_true_eq]; exact hbk1)
         | (exfalso; simp only [List.length_map] at *; omega)
         | (exfalso; simp_all; done)
      ·have hb85R := hb85; try simp only [zz] at hb85
       refine g_mS rfl rfl ?_
       refine g_mS rfl rfl ?_
       refine g_e rfl (e_ne rfl rfl) ?_
       refine g_pF rfl rfl rfl ?_
       refine g_mS rfl rfl ?_
       refine g_cases (fun hb88 => ?_) (fun hb88 => ?_)
       ·have hb88R := hb88; try simp only [zz] at hb88
        iterate 2 refine g_skip rfl rfl rfl ?_
        refine g_nocall rfl rfl rfl ?_
        refine g_skip rfl rfl rfl ?_
        refine g_pT rfl rfl rfl ?_
        refine g_mS rfl rfl ?_
        iterate 3 refine g_skip rfl rfl rfl ?_
        refine g_pT rfl rfl rfl ?_
        refine g_end (ds := [69, 70, 71, 74, 75, 76, 77, 80, 81, 82]) rfl rfl (hK84 _ ?_); clear hK84 K84
        refine pwp_seq_cond (t := true) rfl fun K89 hK89 => ⟨fun _ => ?_, nofun⟩
        refine pwp_seq_plain rfl fun K90 hK90 => ?_
        refine p_aS rfl ?_
        refine p_end (hK90 _ ?_); clear hK90 K90
        refine pwp_ret ?_
        refine ret_seq ?_
        refine end1 (v := .sc _) rfl ?_
        first
          | exact out_b rfl
          | exact out_b (by rw [decide_eq_true_eq]; exact hbk1)
          | (exfalso; simp only [List.length_map] at *; omega)
          | (exfalso; simp_all; done)
       ·have hb88R := hb88; try simp only [zz] at hb88
        refine g_e rfl (e_move (v := .lit _ _ _) rfl) ?_
        refine g_e rfl (e_move (v := .lit _ _ _) rfl) ?_
        refine g_call rfl rfl rfl rfl (.cons inn_lit (.cons inn_lit .nil)) (SameTiesC _ _ _ _ (by omega) (by omega)) ?_
        refine g_e rfl (e_not rfl) ?_
        refine g_pF rfl rfl rfl ?_
        refine g_mS rfl rfl ?_
        refine g_cases (fun hb91 => ?_) (fun hb91 => ?_)
        ·have hb91R := hb91; try simp only [zz] at hb91
         iterate 3 refine g_skip rfl rfl rfl ?_
         refine g_pT rfl rfl rfl ?_
         refine g_end (ds := [69, 70, 71, 74, 75, 76, 77, 80, 81, 82]) rfl rfl (hK84 _ ?_); clear hK84 K84
         refine pwp_seq_cond (t := true) rfl fun K92 hK92 => ⟨fun _ => ?_, nofun⟩
         refine pwp_seq_plain rfl fun K93 hK93 => ?_
         refine p_aS rfl ?_
         refine p_end (hK93 _ ?_); clear hK93 K93
         refine pwp_ret ?_
         refine ret_seq ?_
         refine end1 (v := .sc _) rfl ?_
         first
           | exact out_b rfl
           | exact out_b (by rw [decide_eq_true_eq]; exact hbk1)
           | (exfalso; simp only [List.length_map] at *; omega)
           | (exfalso; simp_all; done)
        ·have hb91R := hb91; try simp only [zz] at hb91
         refine g_mS rfl rfl ?_
         refine g_mS rfl rfl ?_
         refine g_e rfl (e_ne rfl rfl) ?_
         refine g_pF rfl rfl rfl ?_
         refine g_end (ds := [69, 70, 71, 74, 75, 76, 77, 80, 81, 82]) rfl rfl (hK84 _ ?_); clear hK84 K84
         refine pwp_seq_cond rfl fun K94 hK94 => ⟨fun hb95 => ?_, fun hb95 => ?_⟩
         ·have hb95R := hb95; try simp only [zz] at hb95
          refine pwp_seq_plain rfl fun K96 hK96 => ?_
          refine p_aS rfl ?_
          refine p_end (hK96 _ ?_); clear hK96 K96
          refine pwp_ret ?_
          refine ret_seq ?_
          refine end1 (v := .sc _) rfl ?_
          first
            | exact out_b rfl
            | exact out_b (by rw [decide_eq_true_eq]; exact hbk1)
            | (exfalso; simp only [List.length_map] at *; omega)
            | (exfalso; simp_all; done)
         ·have hb95R := hb95; try simp only [zz] at hb95
          refine pwp_skip ?_
          refine seq_norm (hK94 _ ?_); clear hK94 K94
          refine pwp_seq_seq ?_
          refine pwp_seq_plain rfl fun K97 hK97 => ?_
          refine p_mS rfl ?_
          refine p_e rfl (e_ne rfl rfl) ?_
          refine p_end (hK97 _ ?_); clear hK97 K97
          refine pwp_seq_cond rfl fun K98 hK98 => ⟨fun hb99 => ?_, fun hb99 => ?_⟩
          ·have hb99R := hb99; try simp only [zz] at hb99
           refine pwp_seq_plain rfl fun K100 hK100 => ?_
           refine p_aS rfl ?_
           refine p_end (hK100 _ ?_); clear hK100 K100
           refine pwp_ret ?_
           refine ret_seq ?_
           refine end1 (v := .sc _) rfl ?_
           first
             | exact out_b rfl
             | exact out_b (by rw [decide_eq_true_eq]; exact hbk1)
             | (exfalso; simp only [List.length_map] at *; omega)
             | (exfalso; simp_all; done)
          ·have hb99R := hb99; try simp only [zz] at hb99
           refine pwp_skip ?_
           refine seq_norm (hK98 _ ?_); clear hK98 K98
           have hbk := par_back (l := l) (by omega)
           have hbk1 : (parX (prtX l).1).1 = l := by rw [hbk]
           have hbk2 : (parX (prtX l).1).2 = 0 := by rw [hbk]
           have hpl2 := par_lens (prtX l).1
           refine pwp_seq_plain rfl fun K101 hK101 => ?_
           refine p_mS rfl ?_
           refine p_call rfl (.cons inn_sc .nil) (ParseC _ (by omega)) ?_
           refine p_e rfl (e_move (v := .tup _) rfl) ?_
           refine p_e rfl (e_ext (v := .lit _ _ _) rfl (by simp) rfl) ?_
           refine p_e rfl (e_ext (v := .sc _) rfl (by simp) rfl) ?_
           refine p_e rfl (e_assign (v := .lit _ _ _) rfl) ?_
           refine p_aS rfl ?_
           refine p_end (hK101 _ ?_); clear hK101 K101
           refine pwp_seq_gops rfl fun K102 hK102 => ?_
           refine g_begin ?_
           refine g_mS rfl rfl ?_
           refine g_e rfl (e_eq rfl rfl) ?_
           refine g_mS rfl rfl ?_
           refine g_cases (fun hb103 => ?_) (fun hb103 => ?_)
           ·have hb103R := hb103; try simp only [zz] at hb103
            refine g_e rfl (e_move (v := .lit _ _ _) rfl) ?_
            refine g_e rfl (e_move (v := .lit _ _ _) rfl) ?_
            refine g_call rfl rfl rfl rfl (.cons inn_lit (.cons inn_lit .nil)) (SameTiesC _ _ _ _ (by omega) (by omega)) ?_
            refine g_pT rfl rfl rfl ?_
            refine g_aS rfl rfl ?_
            refine g_end (ds := [94, 95, 96]) rfl rfl (hK102 _ ?_); clear hK102 K102
            refine pwp_ret ?_
            refine end1 (v := .sc _) rfl ?_
            first
              | exact out_b rfl
              | exact out_b (by rw [decide_eq_true_eq]; exact hbk1)
              | (exfalso; simp only [List.length_map] at *; omega)
              | (exfalso; simp_all; done)
           ·have hb103R := hb103; try simp only [zz] at hb103
            iterate 2 refine g_skip rfl rfl rfl ?_
            refine g_nocall rfl rfl rfl ?_
            refine g_pF rfl rfl rfl ?_
            refine g_aS rfl rfl ?_
            refine g_end (ds := [94, 95, 96]) rfl rfl (hK102 _ ?_); clear hK102 K102
            refine pwp_ret ?_
            refine end1 (v := .sc _) rfl ?_
            first
              | exact out_b rfl
              | exact out_b (by rw [decide_eq_true_eq]; exact hbk1)
              | (exfalso; simp only [List.length_map] at *; omega)
              | (exfalso; simp_all; done)
   ·have hb73R := hb73; try simp only [zz] at hb73
    iterate 3 refine g_skip rfl rfl rfl ?_
    refine g_pF rfl rfl rfl ?_
    refine g_pF rfl rfl rfl ?_
    refine g_mS rfl rfl ?_
    refine g_mS rfl rfl ?_
    refine g_e rfl (e_lenS rfl (by kernel_rfl)) ?_
    refine g_e rfl (e_gt rfl rfl) ?_
    refine g_pF rfl rfl rfl ?_
    refine g_end (ds := [21, 22, 23, 26, 27, 28, 31, 32, 33, 34, 35, 36, 37, 38, 41, 42, 43]) rfl rfl (hK4 _ ?_); clear hK4 K4
    refine pwp_seq_cond rfl fun K104 hK104 => ⟨fun hb105 => ?_, fun hb105 => ?_⟩
    ·have hb105R := hb105; try simp only [zz] at hb105
     refine pwp_seq_plain rfl fun K106 hK106 => ?_
     refine p_aS rfl ?_
     refine p_end (hK106 _ ?_); clear hK106 K106
     refine pwp_ret ?_
     refine ret_seq ?_
     refine end1 (v := .sc _) rfl ?_
     first
       | exact out_b rfl
       | exact out_b (by rw [decide_eq_true_eq]; exact hbk1)
       | (exfalso; simp only [List.length_map] at *; omega)
       | (exfalso; simp_all; done)
    ·have hb105R := hb105; try simp only [zz] at hb105
     refine pwp_skip ?_
     refine seq_norm (hK104 _ ?_); clear hK104 K104
     have hl2 : l.length ≤ 1900 := by first | omega | (simp only [List.length_map] at *; omega)
     have hs2 : s.size ≤ 120000 := by omega
     have hpz := prt_size l
     have hpl := par_lens s
     refine pwp_seq_plain rfl fun K107 hK107 => ?_
     refine p_e rfl (e_move (v := .lit _ _ _) rfl) ?_
     refine p_call rfl (.cons inn_lit .nil) (PrintC l (by omega)) ?_
     refine p_e rfl (e_move (v := .tup _) rfl) ?_
     refine p_e rfl (e_ext (v := .sc _) rfl (by simp) rfl) ?_
     refine p_e rfl (e_ext (v := .sc _) rfl (by simp) rfl) ?_
     refine p_aS rfl ?_
     refine p_aS rfl ?_
     refine p_end (hK107 _ ?_); clear hK107 K107
     refine pwp_seq_plain rfl fun K108 hK108 => ?_
     refine p_e rfl (e_move (v := .lit _ _ _) rfl) ?_
     refine p_call rfl (.cons inn_lit .nil) (refPrintC l (by omega)) ?_
     refine p_e rfl (e_move (v := .tup _) rfl) ?_
     refine p_e rfl (e_ext (v := .sc _) rfl (by simp) rfl) ?_
     refine p_e rfl (e_ext (v := .sc _) rfl (by simp) rfl) ?_
     refine p_aS rfl ?_
     refine p_aS rfl ?_
     refine p_end (hK108 _ ?_); clear hK108 K108
     refine pwp_seq_plain rfl fun K109 hK109 => ?_
     refine p_mS rfl ?_
     refine p_call rfl (.cons inn_sc .nil) (ParseC _ (by omega)) ?_
     refine p_e rfl (e_move (v := .tup _) rfl) ?_
     refine p_e rfl (e_ext (v := .lit _ _ _) rfl (by simp) rfl) ?_
     refine p_e rfl (e_ext (v := .sc _) rfl (by simp) rfl) ?_
     refine p_e rfl (e_assign (v := .lit _ _ _) rfl) ?_
     refine p_aS rfl ?_
     refine p_end (hK109 _ ?_); clear hK109 K109
     refine pwp_seq_plain rfl fun K110 hK110 => ?_
     refine p_mS rfl ?_
     refine p_call rfl (.cons inn_sc .nil) (refParseC _ (by omega)) ?_
     refine p_e rfl (e_move (v := .tup _) rfl) ?_
     refine p_e rfl (e_ext (v := .lit _ _ _) rfl (by simp) rfl) ?_
     refine p_e rfl (e_ext (v := .sc _) rfl (by simp) rfl) ?_
     refine p_e rfl (e_assign (v := .lit _ _ _) rfl) ?_
     refine p_aS rfl ?_
     refine p_end (hK110 _ ?_); clear hK110 K110
     refine pwp_seq_seq ?_
     refine pwp_seq_gops rfl fun K111 hK111 => ?_
     refine g_begin ?_
     refine g_mS rfl rfl ?_
     refine g_mS rfl rfl ?_
     refine g_e rfl (e_sne rfl rfl) ?_
     refine g_mS rfl rfl ?_
     refine g_cases (fun hb112 => ?_) (fun hb112 => ?_)
     ·have hb112R := hb112; try simp only [zz] at hb112
      iterate 3 refine g_skip rfl rfl rfl ?_
      refine g_pT rfl rfl rfl ?_
      refine g_mS rfl rfl ?_
      iterate 2 refine g_skip rfl rfl rfl ?_
      refine g_nocall rfl rfl rfl ?_
      refine g_skip rfl rfl rfl ?_
      refine g_pT rfl rfl rfl ?_
      refine g_mS rfl rfl ?_
      iterate 3 refine g_skip rfl rfl rfl ?_
      refine g_pT rfl rfl rfl ?_
      refine g_end (ds := [69, 70, 71, 74, 75, 76, 77, 80, 81, 82]) rfl rfl (hK111 _ ?_); clear hK111 K111
      refine pwp_seq_cond (t := true) rfl fun K113 hK113 => ⟨fun _ => ?_, nofun⟩
      refine pwp_seq_plain rfl fun K114 hK114 => ?_
      refine p_aS rfl ?_
      refine p_end (hK114 _ ?_); clear hK114 K114
      refine pwp_ret ?_
      refine ret_seq ?_
      refine end1 (v := .sc _) rfl ?_
      first
        | exact out_b rfl
        | exact out_b (by rw [decide_eq_true_eq]; exact hbk1)
        | (exfalso; simp only [List.length_map] at *; omega)
        | (exfalso; simp_all; done)
     ·have hb112R := hb112; try simp only [zz] at hb112
      refine g_mS rfl rfl ?_
      refine g_mS rfl rfl ?_
      refine g_e rfl (e_ne rfl rfl) ?_
      refine g_pF rfl rfl rfl ?_
      refine g_mS rfl rfl ?_
      refine g_cases (fun hb115 => ?_) (fun hb115 => ?_)
      ·have hb115R := hb115; try simp only [zz] at hb115
       iterate 2 refine g_skip rfl rfl rfl ?_
       refine g_nocall rfl rfl rfl ?_
       refine g_skip rfl rfl rfl ?_
       refine g_pT rfl rfl rfl ?_
       refine g_mS rfl rfl ?_
       iterate 3 refine g_skip rfl rfl rfl ?_
       refine g_pT rfl rfl rfl ?_
       refine g_end (ds := [69, 70, 71, 74, 75, 76, 77, 80, 81, 82]) rfl rfl (hK111 _ ?_); clear hK111 K111
       refine pwp_seq_cond (t := true) rfl fun K116 hK116 => ⟨fun _ => ?_, nofun⟩
       refine pwp_seq_plain rfl fun K117 hK117 => ?_
       refine p_aS rfl ?_
       refine p_end (hK117 _ ?_); clear hK117 K117
       refine pwp_ret ?_
       refine ret_seq ?_
       refine end1 (v := .sc _) rfl ?_
       first
         | exact out_b rfl
         | exact out_b (by rw [decide_eq_true_eq]; exact hbk1)
         | (exfalso; simp only [List.length_map] at *; omega)
         | (exfalso; simp_all; done)
      ·have hb115R := hb115; try simp only [zz] at hb115
       refine g_e rfl (e_move (v := .lit _ _ _) rfl) ?_
       refine g_e rfl (e_move (v := .lit _ _ _) rfl) ?_
       refine g_call rfl rfl rfl rfl (.cons inn_lit (.cons inn_lit .nil)) (SameTiesC _ _ _ _ (by omega) (by omega)) ?_
       refine g_e rfl (e_not rfl) ?_
       refine g_pF rfl rfl rfl ?_
       refine g_mS rfl rfl ?_
       refine g_cases (fun hb118 => ?_) (fun hb118 => ?_)
       ·have hb118R := hb118; try simp only [zz] at hb118
        iterate 3 refine g_skip rfl rfl rfl ?_
        refine g_pT rfl rfl rfl ?_
        refine g_end (ds := [69, 70, 71, 74, 75, 76, 77, 80, 81, 82]) rfl rfl (hK111 _ ?_); clear hK111 K111
        refine pwp_seq_cond (t := true) rfl fun K119 hK119 => ⟨fun _ => ?_, nofun⟩
        refine pwp_seq_plain rfl fun K120 hK120 => ?_
        refine p_aS rfl ?_
        refine p_end (hK120 _ ?_); clear hK120 K120
        refine pwp_ret ?_
        refine ret_seq ?_
        refine end1 (v := .sc _) rfl ?_
        first
          | exact out_b rfl
          | exact out_b (by rw [decide_eq_true_eq]; exact hbk1)
          | (exfalso; simp only [List.length_map] at *; omega)
          | (exfalso; simp_all; done)
       ·have hb118R := hb118; try simp only [zz] at hb118
        refine g_mS rfl rfl ?_
        refine g_mS rfl rfl ?_
        refine g_e rfl (e_ne rfl rfl) ?_
        refine g_pF rfl rfl rfl ?_
        refine g_end (ds := [69, 70, 71, 74, 75, 76, 77, 80, 81, 82]) rfl rfl (hK111 _ ?_); clear hK111 K111
        refine pwp_seq_cond rfl fun K121 hK121 => ⟨fun hb122 => ?_, fun hb122 => ?_⟩
        ·have hb122R := hb122; try simp only [zz] at hb122
         refine pwp_seq_plain rfl fun K123 hK123 => ?_
         refine p_aS rfl ?_
         refine p_end (hK123 _ ?_); clear hK123 K123
         refine pwp_ret ?_
         refine ret_seq ?_
         refine end1 (v := .sc _) rfl ?_
         first
           | exact out_b rfl
           | exact out_b (by rw [decide_eq_true_eq]; exact hbk1)
           | (exfalso; simp only [List.length_map] at *; omega)
           | (exfalso; simp_all; done)
        ·have hb122R := hb122; try simp only [zz] at hb122
         refine pwp_skip ?_
         refine seq_norm (hK121 _ ?_); clear hK121 K121
         refine pwp_seq_seq ?_
         refine pwp_seq_plain rfl fun K124 hK124 => ?_
         refine p_mS rfl ?_
         refine p_e rfl (e_ne rfl rfl) ?_
         refine p_end (hK124 _ ?_); clear hK124 K124
         refine pwp_seq_cond rfl fun K125 hK125 => ⟨fun hb126 => ?_, fun hb126 => ?_⟩
         ·have hb126R := hb126; try simp only [zz] at hb126
          refine pwp_seq_plain rfl fun K127 hK127 => ?_
          refine p_aS rfl ?_
          refine p_end (hK127 _ ?_); clear hK127 K127
          refine pwp_ret ?_
          refine ret_seq ?_
          refine end1 (v := .sc _) rfl ?_
          first
            | exact out_b rfl
            | exact out_b (by rw [decide_eq_true_eq]; exact hbk1)
            | (exfalso; simp only [List.length_map] at *; omega)
            | (exfalso; simp_all; done)
         ·have hb126R := hb126; try simp only [zz] at hb126
          refine pwp_skip ?_
          refine seq_norm (hK125 _ ?_); clear hK125 K125
          have hbk := par_back (l := l) (by omega)
          have hbk1 : (parX (prtX l).1).1 = l := by rw [hbk]
          have hbk2 : (parX (prtX l).1).2 = 0 := by rw [hbk]
          have hpl2 := par_lens (prtX l).1
          refine pwp_seq_plain rfl fun K128 hK128 => ?_
          refine p_mS rfl ?_
          refine p_call rfl (.cons inn_sc .nil) (ParseC _ (by omega)) ?_
          refine p_e rfl (e_move (v := .tup _) rfl) ?_
          refine p_e rfl (e_ext (v := .lit _ _ _) rfl (by simp) rfl) ?_
          refine p_e rfl (e_ext (v := .sc _) rfl (by simp) rfl) ?_
          refine p_e rfl (e_assign (v := .lit _ _ _) rfl) ?_
          refine p_aS rfl ?_
          refine p_end (hK128 _ ?_); clear hK128 K128
          refine pwp_seq_gops rfl fun K129 hK129 => ?_
          refine g_begin ?_
          refine g_mS rfl rfl ?_
          refine g_e rfl (e_eq rfl rfl) ?_
          refine g_mS rfl rfl ?_
          refine g_cases (fun hb130 => ?_) (fun hb130 => ?_)
          ·have hb130R := hb130; try simp only [zz] at hb130
           refine g_e rfl (e_move (v := .lit _ _ _) rfl) ?_
           refine g_e rfl (e_move (v := .lit _ _ _) rfl) ?_
           refine g_call rfl rfl rfl rfl (.cons inn_lit (.cons inn_lit .nil)) (SameTiesC _ _ _ _ (by omega) (by omega)) ?_
           refine g_pT rfl rfl rfl ?_
           refine g_aS rfl rfl ?_
           refine g_end (ds := [94, 95, 96]) rfl rfl (hK129 _ ?_); clear hK129 K129
           refine pwp_ret ?_
           refine end1 (v := .sc _) rfl ?_
           first
             | exact out_b rfl
             | exact out_b (by rw [decide_eq_true_eq]; exact hbk1)
             | (exfalso; simp only [List.length_map] at *; omega)
             | (exfalso; simp_all; done)
          ·have hb130R := hb130; try simp only [zz] at hb130
           iterate 2 refine g_skip rfl rfl rfl ?_
           refine g_nocall rfl rfl rfl ?_
           refine g_pF rfl rfl rfl ?_
           refine g_aS rfl rfl ?_
           refine g_end (ds := [94, 95, 96]) rfl rfl (hK129 _ ?_); clear hK129 K129
           refine pwp_ret ?_
           refine end1 (v := .sc _) rfl ?_
           first
             | exact out_b rfl
             | exact out_b (by rw [decide_eq_true_eq]; exact hbk1)
             | (exfalso; simp only [List.length_map] at *; omega)
             | (exfalso; simp_all; done)

end Go.Proofs.YtmlhhdiomijpfaaGreatDoor
