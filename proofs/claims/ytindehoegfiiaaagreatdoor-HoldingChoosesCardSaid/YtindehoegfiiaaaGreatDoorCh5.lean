/- The search of the document. No conditions. -/
import Derived.Test.YtindehoegfiiaaaGreatDoorCh4
import Derived.Laws.BitsAllLaws
set_option linter.unusedSimpArgs false
set_option linter.unusedVariables false
set_option maxRecDepth 100000
namespace Go.Proofs.YtindehoegfiiaaaGreatDoor
open Go Go.Pv
theorem frH77 : (inFrame Tryz.f77.ntmps (Tryz.f77.body.getD .skip) && Tryz.f77.results.toList.all (resScope Tryz.f77.ntmps)) = true := by kernel_rfl
theorem firstR (d : List Demand) (n left : Nat) (hd : d.length ≤ 100000) (hp : ∀ x ∈ d, x.places.length ≤ 100000) (hn : n ≤ 1000) (ih : ∀ m, m < left → FrOK d n m) (t t3 : Bool) (frm : Nat) (cs : List Int) (v0 : PV) (h0 : Heap) (c0 : Nat → Nat) (hcl : cs.length ≤ frm) (hfm : frm ≤ n + 1) (hlf : left ≤ 1000) (hs : SliceAt h0 36 v0 1 (cs.map ci)) (hv0 : OwnK c0 36 v0) : HCallsR Tryz.prog 77 [.lit t 3 (d.map (encT t3)), .int (n : Int), v0, .int (frm : Int), .int (left : Int)] h0 c0 (FstR d n left frm cs h0 c0) := by
 refine HCallsR.of_code Tryz.func77 rfl rfl (by kernel_rfl) mixed frH77 (by show _ ≤ 46; simp) ?_
 refine pwp_seq_plain rfl fun K1 hK1 => ?_
 refine p_e rfl (e_assign (v := .nil) rfl) ?_
 refine p_aS rfl ?_
 refine p_end (hK1 _ ?_); clear hK1 K1
 refine pwp_seq_seq ?_
 refine pwp_seq_plain rfl fun K2 hK2 => ?_
 refine p_mS rfl ?_
 refine p_e rfl (e_eq rfl rfl) ?_
 refine p_end (hK2 _ ?_); clear hK2 K2
 refine pwp_seq_cond rfl fun K3 hK3 => ⟨fun hb4 => ?_, fun hb4 => ?_⟩
 ·have hb4R := hb4; try simp only [zz] at hb4
  refine pwp_seq_plain rfl fun K5 hK5 => ?_
  refine p_e rfl (e_move (v := _) rfl) ?_
  refine p_e rfl (e_move (v := .lit _ _ _) rfl) ?_
  refine p_e rfl (e_move (v := _) rfl) ?_
  refine p_call rfl (.cons inn_lit (.cons (SliceAt.inn (rows' := (cs).map ci) hs (by simp) (by first | exact pure_map ci_pure | (simp only [← List.map_append, List.nil_append]; exact pure_map ci_pure))) .nil)) (metC _ _ _ d cs (by omega) hp (by omega)) ?_
  refine p_e rfl (e_assign (v := _) rfl) ?_
  refine p_aS rfl ?_
  refine p_end (hK5 _ ?_); clear hK5 K5
  refine pwp_ret ?_
  refine ret_seq ?_
  refine end2 (v := _) (w := .sc _) rfl rfl ?_
  first
    | (have hz : left = 0 := (by omega); subst hz; exact ⟨⟨v0, (by rw [isS_0]; rfl), fun r hr => by rw [some_0 hr]; exact hs⟩, fun k hk => rfl, fun s_ => Nat.le_refl _⟩)
    | exact ⟨⟨w, (by rw [fnd_hit hinv hin (by assumption)]; rw [show (srch (metB d) n (left - 1) (i + 1) (cs ++ [(i : Int)])).isSome = true by assumption]; rfl), fun r hr => hw r (by rw [← fnd_hit hinv hin (by assumption)]; exact hr)⟩, hag2, hcm2⟩
    | exact ⟨⟨.nil, (by rw [fnd_far hinv (by omega) (by omega)]; rfl), fun r hr => by rw [fnd_far hinv (by omega) (by omega)] at hr; cases hr⟩, hag, hcm⟩
 ·have hb4R := hb4; try simp only [zz] at hb4
  refine pwp_skip ?_
  refine seq_norm (hK3 _ ?_); clear hK3 K3
  refine pwp_seq_seq ?_
  refine pwp_seq_plain rfl fun K6 hK6 => ?_
  refine p_mS rfl ?_
  refine p_aS rfl ?_
  refine p_end (hK6 _ ?_); clear hK6 K6
  refine pwp_seq_block fun K7 hK7 => ?_
  refine pwp_loopR (α := Nat) [0, 1, 2, 4] (fun (i : Nat) => [(12, .int (i))]) (fun (i : Nat) (h : Heap) (c : Nat → Nat) => (frm ≤ (i) ∧ (i) ≤ n + 1) ∧ ((srch (metB d) n left frm cs) = (List.range' (i) (n - (i))).findSome? (fun (i) => srch (metB d) n (left - 1) ((i) + 1) (cs ++ [((i) : Int)]))) ∧ (AgO c0 h0 h) ∧ (MonC c0 c) ∧ (SliceAt h 36 v0 1 (cs.map ci))) (fun (i : Nat) => n - (i)) (frm) (by exact ⟨rfl, trivial⟩) (by exact ⟨by exact ⟨Nat.le_refl _, hfm⟩, by exact srch_s (by omega), by exact fun k hk => rfl, by exact fun s_ => Nat.le_refl _, hs⟩) fun i r8 h9 c10 hj11 => ?_
  obtain ⟨hir, hinv, hag, hcm, hihj11_0⟩ := hj11
  try dsimp only at hir
  try dsimp only at hinv
  try dsimp only at hag
  try dsimp only at hcm
  try dsimp only at hihj11_0
  show pwp _ _ (loopQ _ _ _) ⟨sets (mix _ _ _) [(12, .int i)], _, _⟩
  refine pwp_seq_seq ?_
  refine pwp_seq_plain rfl fun K12 hK12 => ?_
  refine p_mS rfl ?_
  refine p_mS rfl ?_
  refine p_e rfl (e_adL rfl rfl) ?_
  refine p_mS rfl ?_
  refine p_e rfl (e_le rfl rfl) ?_
  refine p_end (hK12 _ ?_); clear hK12 K12
  refine pwp_seq_cond rfl fun K13 hK13 => ⟨fun hb14 => ?_, fun hb14 => ?_⟩
  ·have hb14R := hb14; try simp only [zz] at hb14
   have hin : i < n := by omega
   refine pwp_skip ?_
   refine seq_norm (hK13 _ ?_); clear hK13 K13
   refine pwp_seq_block fun K15 hK15 => ?_
   refine pwp_seq_plain rfl fun K16 hK16 => ?_
   refine p_e rfl (e_move (v := .lit _ _ _) rfl) ?_
   refine p_mS rfl ?_
   refine p_e rfl (e_move (v := _) rfl) ?_
   refine p_hcall rfl (copyH v0 cs h9 c10 hihj11_0 (by omega)) fun v17 h18 c19 hR20 => ?_
   obtain ⟨rfl, hcp, hga, rfl⟩ := hR20
   refine p_mS rfl ?_
   refine p_new rfl (e_bslice (rows := [ci (i : Int)]) (zs := [.int 0]) (sz := 1) (by kernel_rfl) (by kernel_rfl) rfl (by kernel_rfl) (by decide) rfl rfl (by exact ⟨by decide, rfl, rfl, trivial⟩) rfl) trivial ?_
   refine p_appR (rows := cs.map ci) (rows2 := [ci (i : Int)]) rfl rfl rfl ((hset_ne (key_ne rfl)).trans hcp) (src_ref (hset_self _ _ _) rfl) (by kernel_rfl) (by simp only [List.length_map, List.length_cons, List.length_nil]; omega) fun h21 hn22 hf23 => ?_
   have hgb : AgO c10 h9 h21 := fun k' hk' => (hf23 k' (old_ne' hk' rfl) (old_ne' hk' rfl)).trans ((hset_ne (old_ne' hk' rfl)).trans (hga k' hk'))
   refine p_mS rfl ?_
   refine p_e rfl (e_adL rfl rfl) ?_
   refine p_mS rfl ?_
   refine p_e rfl (e_sub rfl rfl (by first | omega | (simp only [List.length_map] at *; omega))) ?_
   refine p_hcall rfl (ih (left - 1) (by omega) t t3 (i + 1) (cs ++ [(i : Int)]) _ _ _ _ _ (by omega) (by omega) (by simp only [List.length_append, List.length_singleton]; omega) (by omega) (sl_to (by rw [List.map_append]; rfl) (.ofRef hn22 (by simp))) (fun g_ sz_ n_ e_ => by cases e_; simp [cset])) fun v24 h25 c26 hR27 => ?_
   obtain ⟨⟨w, rfl, hw⟩, hgc, hmc⟩ := hR27
   have hmB : MonC c0 (cset (cset (cset (cset c10 3) 5) 35) 36) := fun s_ => Nat.le_trans (hcm s_) (Nat.le_trans le_cset (Nat.le_trans le_cset (Nat.le_trans le_cset le_cset)))
   have hag2 : AgO c0 h0 h25 := AgO.tr hmB (AgO.tr hcm hag hgb) hgc
   have hcm2 : MonC c0 c26 := fun s_ => Nat.le_trans (hmB s_) (hmc s_)
   have hsl2 := sl_old hs hv0 hag2
   refine p_e rfl (e_move (v := .tup _) rfl) ?_
   refine p_e rfl (e_ext (v := _) rfl (by simp) rfl) ?_
   refine p_e rfl (e_ext (v := .sc _) rfl (by simp) rfl) ?_
   refine p_e rfl (e_assign (v := _) rfl) ?_
   refine p_aS rfl ?_
   refine p_end (hK16 _ ?_); clear hK16 K16
   refine pwp_seq_plain rfl fun K28 hK28 => ?_
   refine p_mS rfl ?_
   refine p_end (hK28 _ ?_); clear hK28 K28
   refine pwp_cond rfl (fun hb29 => ?_) (fun hb29 => ?_)
   ·have hb29R := hb29; try simp only [zz] at hb29
    refine pwp_seq_plain rfl fun K30 hK30 => ?_
    refine p_e rfl (e_move (v := _) rfl) ?_
    refine p_e rfl (e_assign (v := _) rfl) ?_
    refine p_aS rfl ?_
    refine p_end (hK30 _ ?_); clear hK30 K30
    refine pwp_ret ?_
    refine ret_block ?_
    refine ret_seq ?_
    refine ret_loop ?_
    refine ret_block ?_
    refine ret_seq ?_
    refine end2 (v := _) (w := .sc _) rfl rfl ?_
    first
      | (have hz : left = 0 := (by omega); subst hz; exact ⟨⟨v0, (by rw [isS_0]; rfl), fun r hr => by rw [some_0 hr]; exact hs⟩, fun k hk => rfl, fun s_ => Nat.le_refl _⟩)
      | exact ⟨⟨w, (by rw [fnd_hit hinv hin (by assumption)]; rw [show (srch (metB d) n (left - 1) (i + 1) (cs ++ [(i : Int)])).isSome = true by assumption]; rfl), fun r hr => hw r (by rw [← fnd_hit hinv hin (by assumption)]; exact hr)⟩, hag2, hcm2⟩
      | exact ⟨⟨.nil, (by rw [fnd_far hinv (by omega) (by omega)]; rfl), fun r hr => by rw [fnd_far hinv (by omega) (by omega)] at hr; cases hr⟩, hag, hcm⟩
   ·have hb29R := hb29; try simp only [zz] at hb29
    refine pwp_skip ?_
    refine block_norm ?_
    refine seq_norm (hK15 _ ?_); clear hK15 K15
    refine pwp_plain rfl fun K31 hK31 => ?_
    refine p_mS rfl ?_
    refine p_e rfl (e_adL rfl rfl) ?_
    refine p_aS rfl ?_
    refine p_end (hK31 _ ?_); clear hK31 K31
    exact loop_again (i + 1) (by show _ < _; omega) ⟨rfl, rfl, rfl, rfl, trivial⟩ ⟨rfl, trivial⟩ (by exact ⟨by omega, by exact fnd_next hinv hin (by first | assumption | simp_all), by exact hag2, by exact hcm2, hsl2⟩)
  ·have hb14R := hb14; try simp only [zz] at hb14
   refine pwp_exit ?_
   refine exit_seq ?_
   clear hK13 K13
   refine exit_loop ?_
   refine exit_here ?_
   refine seq_norm (hK7 _ ?_); clear hK7 K7
   refine pwp_seq_plain rfl fun K32 hK32 => ?_
   refine p_e rfl (e_assign (v := .nil) rfl) ?_
   refine p_aS rfl ?_
   refine p_end (hK32 _ ?_); clear hK32 K32
   refine pwp_ret ?_
   refine end2 (v := .nil) (w := .sc _) rfl rfl ?_
   first
     | (have hz : left = 0 := (by omega); subst hz; exact ⟨⟨v0, (by rw [isS_0]; rfl), fun r hr => by rw [some_0 hr]; exact hs⟩, fun k hk => rfl, fun s_ => Nat.le_refl _⟩)
     | exact ⟨⟨w, (by rw [fnd_hit hinv hin (by assumption)]; rw [show (srch (metB d) n (left - 1) (i + 1) (cs ++ [(i : Int)])).isSome = true by assumption]; rfl), fun r hr => hw r (by rw [← fnd_hit hinv hin (by assumption)]; exact hr)⟩, hag2, hcm2⟩
     | exact ⟨⟨.nil, (by rw [fnd_far hinv (by omega) (by omega)]; rfl), fun r hr => by rw [fnd_far hinv (by omega) (by omega)] at hr; cases hr⟩, hag, hcm⟩

theorem firstRC {d : List Demand} {n : Nat} (hd : d.length ≤ 100000) (hp : ∀ x ∈ d, x.places.length ≤ 100000) (hn : n ≤ 1000) : ∀ left, left ≤ 1000 → FrOK d n left := fun left => by
 induction left using Nat.strongRecOn with
 | ind left ih =>
   intro hlf t t3 frm cs v0 zf zl h0 c0 h1 h2 hcl hfm hs hv
   subst h1; subst h2
   exact firstR d n left hd hp hn (fun m hm => ih m hm (by omega)) t t3 frm cs v0 h0 c0 hcl hfm hlf hs hv
end Go.Proofs.YtindehoegfiiaaaGreatDoor
