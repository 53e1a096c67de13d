/- The search of the program. No conditions. -/
import Derived.Test.YtindehoegfiiaaaGreatDoorCh1
import Derived.Laws.BitsAllLaws
set_option linter.unusedSimpArgs false
set_option linter.unusedVariables false
set_option maxRecDepth 100000
namespace Go.Proofs.YtindehoegfiiaaaGreatDoor
open Go Go.Pv
def fV (ws : List Nat) (n left frm : Nat) (c : List Int) : Nat :=
 if (rsX (wdN c 0) frm left ws [] 0 0).2 = false then 0 else if left = 0 then wdN c 0 else fW (srch (okW ws) n left frm c)
abbrev FstOK (ws : List Nat) (n left : Nat) : Prop := ∀ (t : Bool) (frm : Nat) (c : List Int) (ch : Nat) (zf zl : Int), ch = wdN c 0 → zf = (frm : Int) → zl = (left : Int) → AscTo c frm → frm ≤ n →
 PCalls Tryz.prog 74 [.agg [.lit t 1 (ws.map cwR), .int (n : Int)], cw ch, .int zf, .int zl] (.tup [cw (fV ws n left frm c), .bool (srch (okW ws) n left frm c).isSome])
section
variable {ws : List Nat} {n left frm i : Nat} {c r : List Int} {ok : List Int → Bool}
theorem out_c {h : Heap} {a b : Nat} (hab : a = b) : Out h (cw a) (cw b) := by subst hab; exact .clean (.sc _)
theorem srch_s (h : ¬ left = 0) : srch ok n left frm c = (List.range' frm (n - frm)).findSome? fun i => srch ok n (left - 1) (i + 1) (c ++ [(i : Int)]) := by
 obtain ⟨m, rfl⟩ : ∃ m, left = m + 1 := ⟨left - 1, by omega⟩
 rw [srch]; rfl
theorem fV_f (h : (rsX (wdN c 0) frm left ws [] 0 0).2 = false) : fV ws n left frm c = 0 := if_pos h
theorem fV_0 (h : (rsX (wdN c 0) frm 0 ws [] 0 0).2 = true) : fV ws n 0 frm c = wdN c 0 := by rw [fV, if_neg (by rw [h]; decide), if_pos rfl]
theorem fV_s (h : (rsX (wdN c 0) frm left ws [] 0 0).2 = true) (hl : ¬ left = 0) : fV ws n left frm c = fW (srch (okW ws) n left frm c) := by rw [fV, if_neg (by rw [h]; decide), if_neg hl]
/-- the word is that of what is found -/
theorem fV_some (hc : AscTo c frm) (hf : frm ≤ n) (hn : n ≤ 64) (h : srch (okW ws) n left frm c = some r) : fV ws n left frm c = wdN r 0 := by
 cases q : (rsX (wdN c 0) frm left ws [] 0 0).2 with
 | false => rw [first_no hc hf hn q] at h; cases h
 | true =>
   by_cases hl : left = 0
   · subst hl
     rw [fV_0 q]
     rw [srch] at h
     split at h
     · cases h; rfl
     · cases h
   · rw [fV_s q hl, h]; rfl
theorem fnd_next {f : Nat → Option (List Int)} {R : Option (List Int)} (h : R = (List.range' i (n - i)).findSome? f) (hi : i < n) (h2 : (f i).isSome = false) : R = (List.range' (i + 1) (n - (i + 1))).findSome? f := by
 rw [h, rng_cons hi, List.findSome?_cons]
 cases q : f i with
 | none => rfl
 | some r => rw [q] at h2; cases h2
theorem fnd_hit {f : Nat → Option (List Int)} {R : Option (List Int)} (h : R = (List.range' i (n - i)).findSome? f) (hi : i < n) (h2 : (f i).isSome = true) : R = f i := by
 rw [h, rng_cons hi, List.findSome?_cons]
 cases q : f i with
 | none => rw [q] at h2; cases h2
 | some r => rfl
theorem fnd_end {f : Nat → Option (List Int)} {R : Option (List Int)} (h : R = (List.range' i (n - i)).findSome? f) (hi : n ≤ i) : R = none := by rw [h, rng_nil hi]; rfl
theorem fst_hit {left i : Nat} {R : Option (List Int)} (hR : R = srch (okW ws) n left (i + 1) (c ++ [(i : Int)])) (h : (srch (okW ws) n left (i + 1) (c ++ [(i : Int)])).isSome = true) (hc : AscTo c i) (hi : i < n) (hn : n ≤ 64) : fV ws n left (i + 1) (c ++ [(i : Int)]) = fW R := by
 cases q : srch (okW ws) n left (i + 1) (c ++ [(i : Int)]) with
 | none => rw [q] at h; cases h
 | some r => rw [fV_some (asc_app hc) (by omega) hn q, hR, q]; rfl
end
theorem pureC (ws : List Nat) (n : Nat) (t : Bool) : ∀ p ∈ [PV.lit t 1 (ws.map cwR), .int (n : Int)], Pure p := fun p hp => by
 simp only [List.mem_cons, List.not_mem_nil, or_false] at hp
 rcases hp with rfl | rfl
 · exact .lit _ _ _ fun row hr => pure_map cwR_pure row hr
 · exact .sc _
theorem out_f0 {h : Heap} {ws : List Nat} {n left frm : Nat} {c : List Int} (hl : left = 0) (hr : (rsX (wdN c 0) frm left ws [] 0 0).2 = true) : Out h (.tup [cw (wdN c 0), .bool (decide (((((rsX (wdN c 0) frm left ws [] 0 0).1.map cwR).length : Nat) : Int) = 0))]) (.tup [cw (fV ws n left frm c), .bool (srch (okW ws) n left frm c).isSome]) := by
 subst hl
 refine out_2 (out_c (fV_0 hr).symm) (out_b ?_)
 rw [first_0 hr, List.length_map]
 by_cases q : (rsX (wdN c 0) frm 0 ws [] 0 0).1.length = 0
 · rw [if_pos q, decide_eq_true (by omega)]; rfl
 · rw [if_neg q, decide_eq_false (by omega)]; rfl

theorem fr74 : (inFrame Tryz.f74.ntmps (Tryz.f74.body.getD .skip) && Tryz.f74.results.toList.all (resScope Tryz.f74.ntmps)) = true := by kernel_rfl
theorem firstS (ws : List Nat) (n left : Nat) (hl : ws.length ≤ 100000) (hws : ∀ w ∈ ws, w < 18446744073709551616) (hn : n ≤ 9) (hlf : left ≤ 100) (ih : ∀ m, m < left → FstOK ws n m) (t : Bool) (frm : Nat) (c : List Int) (hc : AscTo c frm) (hf : frm ≤ n) : PCalls Tryz.prog 74 [.agg [.lit t 1 (ws.map cwR), .int (n : Int)], cw (wdN c 0), .int (frm : Int), .int (left : Int)] (.tup [cw (fV ws n left frm c), .bool (srch (okW ws) n left frm c).isSome]) := by
 refine PCalls.of_code Tryz.func74 rfl rfl (by kernel_rfl) mixed fr74 (by show _ ≤ 53; simp) (pure_2 (.sc _) (.sc _)) ?_
 refine pwp_seq_plain rfl fun K1 hK1 => ?_
 refine p_new rfl (e_box (n := 2) rfl rfl) ⟨rfl, by decide⟩ ?_
 refine p_aS rfl ?_
 refine p_aS rfl ?_
 refine p_end (hK1 _ ?_); clear hK1 K1
 refine pwp_seq_plain rfl fun K2 hK2 => ?_
 refine p_e rfl (e_loadHA (n := 2) rfl (hset_self _ _ _) (by kernel_rfl) (by kernel_rfl) (by kernel_rfl) (by exact Nat.zero_lt_one) (by decide) rfl) ?_
 refine p_mS rfl ?_
 refine p_mS rfl ?_
 refine p_mS rfl ?_
 refine p_call rfl (.cons (inn_agg (pureC ws n t)) (.cons inn_sc (.cons inn_sc (.cons inn_sc .nil)))) (restC t ws n (wdN c 0) frm left hl hws wdN_lt (by omega) hlf) ?_
 refine p_e rfl (e_move (v := .tup _) rfl) ?_
 refine p_e rfl (e_ext (v := .lit _ _ _) rfl (by simp) rfl) ?_
 refine p_e rfl (e_ext (v := .sc _) rfl (by simp) rfl) ?_
 refine p_e rfl (e_assign (v := .lit _ _ _) rfl) ?_
 refine p_aS rfl ?_
 refine p_end (hK2 _ ?_); clear hK2 K2
 refine pwp_seq_seq ?_
 refine pwp_seq_plain rfl fun K3 hK3 => ?_
 refine p_mS rfl ?_
 refine p_e rfl (e_not rfl) ?_
 refine p_end (hK3 _ ?_); clear hK3 K3
 refine pwp_seq_cond rfl fun K4 hK4 => ⟨fun hb5 => ?_, fun hb5 => ?_⟩
 ·have hb5R := hb5; try simp only [zz] at hb5
  refine pwp_seq_plain rfl fun K6 hK6 => ?_
  refine p_aS rfl ?_
  refine p_aS rfl ?_
  refine p_end (hK6 _ ?_); clear hK6 K6
  refine pwp_ret ?_
  refine ret_seq ?_
  refine end2 (v := .sc _) (w := .sc _) rfl rfl ?_
  first
    | exact out_2 (out_c (fV_f (by assumption)).symm) (out_b (by rw [first_no hc hf (by omega) (by assumption)]; rfl))
    | exact out_f0 (by omega) (by assumption)
    | exact out_2 (out_c ((fst_hit (fnd_hit hinv hin (by assumption)) (by assumption) (asc_mono hc hir.1) hin (by omega)).trans (fV_s (by assumption) (by omega)).symm)) (out_b (by rw [fnd_hit hinv hin (by assumption)]; symm; assumption))
    | exact out_2 (out_c (by rw [fV_s (by assumption) (by omega), fnd_end hinv (by omega)]; rfl)) (out_b (by rw [fnd_end hinv (by omega)]; rfl))
 ·have hb5R := hb5; try simp only [zz] at hb5
  refine pwp_skip ?_
  refine seq_norm (hK4 _ ?_); clear hK4 K4
  refine pwp_seq_seq ?_
  refine pwp_seq_plain rfl fun K7 hK7 => ?_
  refine p_mS rfl ?_
  refine p_e rfl (e_eq rfl rfl) ?_
  refine p_end (hK7 _ ?_); clear hK7 K7
  refine pwp_seq_cond rfl fun K8 hK8 => ⟨fun hb9 => ?_, fun hb9 => ?_⟩
  ·have hb9R := hb9; try simp only [zz] at hb9
   refine pwp_seq_plain rfl fun K10 hK10 => ?_
   refine p_mS rfl ?_
   refine p_e rfl (e_move (v := .lit _ _ _) rfl) ?_
   refine p_e rfl (e_len rfl (by kernel_rfl)) ?_
   refine p_e rfl (e_eq rfl rfl) ?_
   refine p_aS rfl ?_
   refine p_aS rfl ?_
   refine p_end (hK10 _ ?_); clear hK10 K10
   refine pwp_ret ?_
   refine ret_seq ?_
   refine end2 (v := .sc _) (w := .sc _) rfl rfl ?_
   first
     | exact out_2 (out_c (fV_f (by assumption)).symm) (out_b (by rw [first_no hc hf (by omega) (by assumption)]; rfl))
     | exact out_f0 (by omega) (by assumption)
     | exact out_2 (out_c ((fst_hit (fnd_hit hinv hin (by assumption)) (by assumption) (asc_mono hc hir.1) hin (by omega)).trans (fV_s (by assumption) (by omega)).symm)) (out_b (by rw [fnd_hit hinv hin (by assumption)]; symm; assumption))
     | exact out_2 (out_c (by rw [fV_s (by assumption) (by omega), fnd_end hinv (by omega)]; rfl)) (out_b (by rw [fnd_end hinv (by omega)]; rfl))
  ·have hb9R := hb9; try simp only [zz] at hb9
   refine pwp_skip ?_
   refine seq_norm (hK8 _ ?_); clear hK8 K8
   refine pwp_seq_seq ?_
   refine pwp_seq_plain rfl fun K11 hK11 => ?_
   refine p_mS rfl ?_
   refine p_aS rfl ?_
   refine p_end (hK11 _ ?_); clear hK11 K11
   refine pwp_seq_block fun K12 hK12 => ?_
   refine pwp_loopR (α := Nat) [1, 3, 4] (fun (i : Nat) => [(12, .int (i))]) (fun (i : Nat) (h : Heap) (_ : Nat → Nat) => (frm ≤ (i) ∧ (i) ≤ n) ∧ ((srch (okW ws) n left frm c) = (List.range' (i) (n - (i))).findSome? (fun (i) => srch (okW ws) n (left - 1) ((i) + 1) (c ++ [((i) : Int)]))) ∧ (h (4, 0) = some (.rows 2 [[.lit t 1 (ws.map cwR), .int (n : Int)]]))) (fun (i : Nat) => n - (i)) (frm) (by exact ⟨rfl, trivial⟩) (by exact ⟨by exact ⟨Nat.le_refl _, hf⟩, by exact srch_s (by omega), (hset_self _ _ _)⟩) fun i r13 h14 c15 hj16 => ?_
   obtain ⟨hir, hinv, hihj16_0⟩ := hj16
   try dsimp only at hir
   try dsimp only at hinv
   try dsimp only at hihj16_0
   show pwp _ _ (loopQ _ _ _) ⟨sets (mix _ _ _) [(12, .int i)], _, _⟩
   refine pwp_seq_seq ?_
   refine pwp_seq_plain rfl fun K17 hK17 => ?_
   refine p_mS rfl ?_
   refine p_e rfl (e_faQ pl2 rfl) ?_
   refine p_e rfl (e_lH (v := .sc _) rfl hihj16_0 rfl) ?_
   refine p_e rfl (e_lt rfl rfl) ?_
   refine p_end (hK17 _ ?_); clear hK17 K17
   refine pwp_seq_cond rfl fun K18 hK18 => ⟨fun hb19 => ?_, fun hb19 => ?_⟩
   ·have hb19R := hb19; try simp only [zz] at hb19
    have hin : i < n := by omega
    refine pwp_skip ?_
    refine seq_norm (hK18 _ ?_); clear hK18 K18
    refine pwp_seq_block fun K20 hK20 => ?_
    refine pwp_seq_gops rfl fun K21 hK21 => ?_
    refine g_begin ?_
    refine g_e rfl (e_loadHA (n := 2) rfl hihj16_0 (by kernel_rfl) (by kernel_rfl) (by kernel_rfl) (by exact Nat.zero_lt_one) (by decide) rfl) ?_
    refine g_mS rfl rfl ?_
    refine g_mS rfl rfl ?_
    refine g_e rfl (e_shl64 (k := i) rfl rfl (by omega)) ?_
    refine g_e rfl (e_or64 (a := wdN c 0) (b := 2 ^ i) rfl rfl wdN_lt (Nat.pow_lt_pow_right (n := 64) (by decide) (by omega))) ?_
    refine g_mS rfl rfl ?_
    refine g_e rfl (e_adL rfl rfl) ?_
    refine g_mS rfl rfl ?_
    refine g_e rfl (e_sub rfl rfl (by first | omega | (simp only [List.length_map] at *; omega))) ?_
    refine g_call rfl rfl rfl rfl (.cons (inn_agg (pureC ws n t)) (.cons inn_sc (.cons inn_sc (.cons inn_sc .nil)))) (ih (left - 1) (by omega) _ (i + 1) (c ++ [(i : Int)]) _ _ _ (wd_snoc (by omega)).symm (by omega) (by omega) (asc_app (asc_mono hc hir.1)) (by omega)) ?_
    refine g_e rfl (e_move (v := .tup _) rfl) ?_
    refine g_e rfl (e_ext (v := .sc _) rfl (by simp) rfl) ?_
    refine g_e rfl (e_ext (v := .sc _) rfl (by simp) rfl) ?_
    refine g_aS rfl rfl ?_
    refine g_aS rfl rfl ?_
    refine g_end (ds := []) (by kernel_rfl) rfl (hK21 _ ?_); clear hK21 K21
    refine pwp_seq_plain rfl fun K22 hK22 => ?_
    refine p_mS rfl ?_
    refine p_end (hK22 _ ?_); clear hK22 K22
    refine pwp_cond rfl (fun hb23 => ?_) (fun hb23 => ?_)
    ·have hb23R := hb23; try simp only [zz] at hb23
     refine pwp_seq_plain rfl fun K24 hK24 => ?_
     refine p_mS rfl ?_
     refine p_aS rfl ?_
     refine p_aS rfl ?_
     refine p_end (hK24 _ ?_); clear hK24 K24
     refine pwp_ret ?_
     refine ret_block ?_
     refine ret_seq ?_
     refine ret_loop ?_
     refine ret_block ?_
     refine ret_seq ?_
     refine end2 (v := .sc _) (w := .sc _) rfl rfl ?_
     first
       | exact out_2 (out_c (fV_f (by assumption)).symm) (out_b (by rw [first_no hc hf (by omega) (by assumption)]; rfl))
       | exact out_f0 (by omega) (by assumption)
       | exact out_2 (out_c ((fst_hit (fnd_hit hinv hin (by assumption)) (by assumption) (asc_mono hc hir.1) hin (by omega)).trans (fV_s (by assumption) (by omega)).symm)) (out_b (by rw [fnd_hit hinv hin (by assumption)]; symm; assumption))
       | exact out_2 (out_c (by rw [fV_s (by assumption) (by omega), fnd_end hinv (by omega)]; rfl)) (out_b (by rw [fnd_end hinv (by omega)]; rfl))
    ·have hb23R := hb23; try simp only [zz] at hb23
     refine pwp_skip ?_
     refine block_norm ?_
     refine seq_norm (hK20 _ ?_); clear hK20 K20
     refine pwp_plain rfl fun K25 hK25 => ?_
     refine p_mS rfl ?_
     refine p_e rfl (e_adL rfl rfl) ?_
     refine p_aS rfl ?_
     refine p_end (hK25 _ ?_); clear hK25 K25
     exact loop_again (i + 1) (by show _ < _; omega) ⟨rfl, rfl, rfl, trivial⟩ ⟨rfl, trivial⟩ (by exact ⟨by omega, by exact fnd_next hinv hin (by first | assumption | simp_all), hihj16_0⟩)
   ·have hb19R := hb19; try simp only [zz] at hb19
    refine pwp_exit ?_
    refine exit_seq ?_
    clear hK18 K18
    refine exit_loop ?_
    refine exit_here ?_
    refine seq_norm (hK12 _ ?_); clear hK12 K12
    refine pwp_seq_plain rfl fun K26 hK26 => ?_
    refine p_aS rfl ?_
    refine p_aS rfl ?_
    refine p_end (hK26 _ ?_); clear hK26 K26
    refine pwp_ret ?_
    refine end2 (v := .sc _) (w := .sc _) rfl rfl ?_
    first
      | exact out_2 (out_c (fV_f (by assumption)).symm) (out_b (by rw [first_no hc hf (by omega) (by assumption)]; rfl))
      | exact out_f0 (by omega) (by assumption)
      | exact out_2 (out_c ((fst_hit (fnd_hit hinv hin (by assumption)) (by assumption) (asc_mono hc hir.1) hin (by omega)).trans (fV_s (by assumption) (by omega)).symm)) (out_b (by rw [fnd_hit hinv hin (by assumption)]; symm; assumption))
      | exact out_2 (out_c (by rw [fV_s (by assumption) (by omega), fnd_end hinv (by omega)]; rfl)) (out_b (by rw [fnd_end hinv (by omega)]; rfl))

theorem firstC {ws : List Nat} {n : Nat} (hl : ws.length ≤ 100000) (hws : ∀ w ∈ ws, w < 18446744073709551616) (hn : n ≤ 9) : ∀ left, left ≤ 100 → FstOK ws n left := fun left => by
 induction left using Nat.strongRecOn with
 | ind left ih =>
   intro hlf t frm c ch zf zl h1 h2 h3 hc hf
   subst h1; subst h2; subst h3
   exact firstS ws n left hl hws hn hlf (fun m hm => ih m hm (by omega)) t frm c hc hf
end Go.Proofs.YtindehoegfiiaaaGreatDoor
