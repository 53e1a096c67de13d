import Derived.Test.YtjihcgcbnbaclaaDoorRRec3
set_option linter.unusedSimpArgs false
set_option linter.unusedVariables false
set_option maxRecDepth 100000
namespace Go.Proofs.YtjihcgcbnbaclaaDoor.Y9
open Go Go.Pv Go.Proofs.YtjihcgcbnbaclaaDoor
theorem fr52 : (inFrame Tryd.f52.ntmps (Tryd.f52.body.getD .skip) && Tryd.f52.results.toList.all (resScope Tryd.f52.ntmps)) = true := by kernel_rfl
theorem CheckRecord (evs : List Ev) (hl : evs.length ≤ 405) : PCalls Tryd.prog 52 [.lit true 6 (evs.map Ev.enc)] (.int (recE evs)) := by
 refine PCalls.of_code Tryd.func52 rfl rfl (by kernel_rfl) mixed fr52 (by show _ ≤ 28; simp) (.sc _) (pwp_seq_plain rfl fun K1 hK1 => p_step rfl (e_assign (v := .sc _) rfl) trivial (p_end (hK1 _ ?_))); clear hK1 K1;refine pwp_seq_seq (pwp_seq_plain rfl fun K2 hK2 => p_step rfl (e_move (v := .lit _ _ _) rfl) trivial (p_step rfl (e_len rfl (by kernel_rfl)) trivial (p_step rfl (e_gt rfl rfl) trivial (p_end (hK2 _ ?_))))); clear hK2 K2;refine pwp_seq_cond rfl fun K3 hK3 => ⟨fun hb4 => ?_, fun hb4 => ?_⟩
 ·have hb4R := hb4; try simp only [z1, z2, z3, z4, z5, z6, ne_eq, z7, z8, z9, z10, z11, z12] at hb4
  refine pwp_seq_plain rfl fun K5 hK5 => p_step rfl (e_assign (v := .sc _) rfl) trivial (p_end (hK5 _ ?_)); clear hK5 K5;refine pwp_ret (ret_seq (end1 (v := .sc _) rfl ?_))
  first
    | exact out_i (recE_big (by omega))
    | exact out_i (recE_go (by omega) (goR_stop hinv (by assumption) (by rw [← ho])))
    | exact out_i (recE_go (by omega) hinv)
 ·have hb4R := hb4; try simp only [z1, z2, z3, z4, z5, z6, ne_eq, z7, z8, z9, z10, z11, z12] at hb4
  refine pwp_skip (seq_norm (hK3 _ ?_)); clear hK3 K3;refine pwp_seq_plain rfl fun K6 hK6 => p_new rfl (e_mkmap) trivial (p_step rfl (e_assign (v := .map _) rfl) trivial (p_end (hK6 _ ?_))); clear hK6 K6;refine pwp_seq_plain rfl fun K7 hK7 => p_step rfl (e_assign (v := .sc _) rfl) trivial (p_end (hK7 _ ?_)); clear hK7 K7;refine pwp_seq_seq (pwp_seq_plain rfl fun K8 hK8 => p_step rfl (e_move (v := .lit _ _ _) rfl) trivial (p_step rfl (e_len rfl (by kernel_rfl)) trivial (p_step rfl (e_move (v := .sc _) rfl) trivial (p_end (hK8 _ ?_))))); clear hK8 K8;refine pwp_seq_block fun K9 hK9 => pwp_loopR (α := Nat × Int × Opn) [3, 12, 13] (fun (a10 : Nat × Int × Opn) => [(4, .int (a10.2.1)), (14, .int (a10.1))]) (fun (a10 : Nat × Int × Opn) (h : Heap) (_ : Nat → Nat) => ((a10.1) ≤ evs.length) ∧ (goR [] 0 evs = goR (evs.take (a10.1)) (a10.2.1) (evs.drop (a10.1))) ∧ (OpOk (a10.2.2) (evs.take (a10.1))) ∧ (MapAt h (11, 0) (entsOf kpv PV.bool (a10.2.2)))) (fun (a10 : Nat × Int × Opn) => evs.length - (a10.1)) (0, 0, []) (by exact ⟨rfl, rfl, trivial⟩) (by exact ⟨by exact Nat.zero_le _, by exact rfl, by exact OpOk.nil, MapAt.new⟩) fun a10 r11 h12 c13 hj14 => ?_;obtain ⟨k, ld, st⟩ := a10;obtain ⟨hk, hinv, hop, hihj14_0⟩ := hj14;try dsimp only at hk
  try dsimp only at hinv
  try dsimp only at hop
  try dsimp only at hihj14_0
  show pwp _ _ (loopQ _ _ _) ⟨sets (mix _ _ _) [(4, .int ld), (14, .int k)], _, _⟩;refine pwp_seq_plain rfl fun K15 hK15 => p_step rfl (e_lt rfl rfl) trivial (p_end (hK15 _ ?_)); clear hK15 K15;refine pwp_seq_cond rfl fun K16 hK16 => ⟨fun hb17 => ?_, fun hb17 => ?_⟩
  ·have hb17R := hb17; try simp only [z1, z2, z3, z4, z5, z6, ne_eq, z7, z8, z9, z10, z11, z12] at hb17
   obtain ⟨x, hx, hd, ht⟩ := get_lt (xs := evs) (i := k) (by omega);rw [hd] at hinv;have ho := hop.at x;refine pwp_skip (seq_norm (hK16 _ ?_)); clear hK16 K16;refine pwp_seq_block fun K18 hK18 => pwp_seq_plain rfl fun K19 hK19 => p_step rfl (e_ixa rfl rfl (by kernel_rfl) (by kernel_rfl) (by simp only [List.length_map]; omega)) trivial (p_step rfl (e_loadA (n := 6) rfl (by kernel_rfl) (by kernel_rfl) (by kernel_rfl) (by simp only [List.length_map]; omega) (by decide) (by first | exact agg_map hx rfl)) trivial (p_new rfl (e_alloc (cs := [.int 0, .int 0, .str ByteArray.empty, .int 0, .bool false, .bool false]) (n := 6) (by kernel_rfl) rfl (by decide)) (ob_alloc (by decide)) (p_store rfl (e_storeA rfl (hset_self _ _ _) rfl rfl rfl (by kernel_rfl) rfl (by kernel_rfl)) trivial (p_end (hK19 _ ?_))))); clear hK19 K19;refine pwp_seq_seq (pwp_seq_plain rfl fun K20 hK20 => p_step rfl (e_loadHA (n := 6) rfl (hset_self _ _ _) (by kernel_rfl) (by kernel_rfl) (by kernel_rfl) (by exact Nat.zero_lt_one) (by decide) rfl) trivial (p_step rfl (e_move (v := .sc _) rfl) trivial (p_step rfl (e_move (v := .map _) rfl) trivial (p_hcall rfl (checkEvent x ld st _ _ (MapAt.keep hihj14_0 ((hset_ne (key_ne rfl)).trans ((hset_ne (key_ne rfl)).trans (rfl))))) fun v21 h22 c23 hR24 => ?_))));obtain ⟨rfl, hm25, hf26⟩ := hR24;have ho27 := (hf26 6 _ rfl rfl rfl).trans (hset_self _ _ _);refine p_step rfl (e_assign (v := .sc _) rfl) trivial (p_end (hK20 _ ?_)); clear hK20 K20;refine pwp_seq_seq (pwp_seq_plain rfl fun K28 hK28 => p_step rfl (e_move (v := .sc _) rfl) trivial (p_step rfl (e_ne rfl rfl) trivial (p_end (hK28 _ ?_)))); clear hK28 K28;refine pwp_seq_cond rfl fun K29 hK29 => ⟨fun hb30 => ?_, fun hb30 => ?_⟩
   ·have hb30R := hb30; try simp only [z1, z2, z3, z4, z5, z6, ne_eq, z7, z8, z9, z10, z11, z12] at hb30
    refine pwp_seq_plain rfl fun K31 hK31 => p_step rfl (e_move (v := .sc _) rfl) trivial (p_step rfl (e_assign (v := .sc _) rfl) trivial (p_end (hK31 _ ?_))); clear hK31 K31;refine pwp_ret (ret_seq (ret_block (ret_seq (ret_loop (ret_block (ret_seq (end1 (v := .sc _) rfl ?_)))))))
    first
      | exact out_i (recE_big (by omega))
      | exact out_i (recE_go (by omega) (goR_stop hinv (by assumption) (by rw [← ho])))
      | exact out_i (recE_go (by omega) hinv)
   ·have hb30R := hb30; try simp only [z1, z2, z3, z4, z5, z6, ne_eq, z7, z8, z9, z10, z11, z12] at hb30
    refine pwp_skip (seq_norm (hK29 _ ?_)); clear hK29 K29;refine pwp_plain rfl fun K32 hK32 => p_step rfl (e_faP (pl := [(0, 1, false), (1, 1, false), (2, 1, false), (3, 1, false), (4, 1, false), (5, 1, false)]) rfl (by kernel_rfl) (by kernel_rfl) (by decide) rfl) trivial (p_step rfl (e_loadH (v := .sc _) rfl ho27 (by kernel_rfl) (by kernel_rfl) (by kernel_rfl) (by exact Nat.zero_lt_one) (by decide) rfl) trivial (p_step rfl (e_assign (v := .sc _) rfl) trivial (p_end (hK32 _ ?_)))); clear hK32 K32;refine block_norm (seq_norm (hK18 _ ?_)); clear hK18 K18;refine pwp_plain rfl fun K33 hK33 => p_step rfl (e_add rfl rfl (by omega)) trivial (p_step rfl (e_move (v := .sc _) rfl) trivial (p_end (hK33 _ ?_))); clear hK33 K33;exact loop_again ((k + 1, x.day, opStep st x)) (by show _ < _; simp only; omega) ⟨rfl, rfl, rfl, trivial⟩ ⟨rfl, rfl, trivial⟩ (by exact ⟨by show _ + 1 ≤ _; omega, by show goR [] 0 evs = goR (evs.take (k + 1)) x.day (evs.drop (k + 1)); rw [ht]; exact goR_step hinv (by rw [← ho]; assumption), by show OpOk (opStep st x) (evs.take (k + 1)); rw [ht]; exact hop.step x, (hm25 (by assumption))⟩)
  ·have hb17R := hb17; try simp only [z1, z2, z3, z4, z5, z6, ne_eq, z7, z8, z9, z10, z11, z12] at hb17
   obtain rfl : k = evs.length := by omega
   rw [List.drop_length] at hinv; simp only [goR] at hinv;refine pwp_exit (exit_seq ?_);clear hK16 K16;refine exit_loop (exit_here (seq_norm (hK9 _ ?_))); clear hK9 K9;refine pwp_seq_plain rfl fun K34 hK34 => p_step rfl (e_assign (v := .sc _) rfl) trivial (p_end (hK34 _ ?_)); clear hK34 K34;refine pwp_ret (end1 (v := .sc _) rfl ?_)
   first
     | exact out_i (recE_big (by omega))
     | exact out_i (recE_go (by omega) (goR_stop hinv (by assumption) (by rw [← ho])))
     | exact out_i (recE_go (by omega) hinv)
end Go.Proofs.YtjihcgcbnbaclaaDoor.Y9
