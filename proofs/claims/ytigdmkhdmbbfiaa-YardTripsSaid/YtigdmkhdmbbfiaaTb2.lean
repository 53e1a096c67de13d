/- Tables of supplies and needs. No conditions. -/
import Derived.Test.YtigdmkhdmbbfiaaTb1
set_option linter.unusedSimpArgs false
set_option linter.unusedVariables false
set_option maxRecDepth 100000
namespace Go.Proofs.Ytigdmkhdmbbfiaa
open Go Go.Pv
theorem frH77 : (inFrame Try.f77.ntmps (Try.f77.body.getD .skip) && Try.f77.results.toList.all (resScope Try.f77.ntmps)) = true := by kernel_rfl
theorem ledgerC (h0 : Heap) (c0 : Nat → Nat) (t : Traffic) (hTr : TrOK t) : HCallsR Try.prog 77 [.agg t.enc] h0 c0 (TbR 9 19 t.places.toNat t.days.toNat (spM t.supplies t.supplies.length) h0 c0) := by
 refine HCallsR.of_code Try.func77 rfl rfl (by kernel_rfl) mixed frH77 (by show _ ≤ 44; simp) ?_
 have hT := hTr
 have q1 := hT.hA
 have q2 := hT.hB
 have q3 := hT.hr
 have q4 := hT.hs
 have q5 := hT.hn
 refine pwp_seq_plain rfl fun K1 hK1 => ?_
 refine p_new rfl (e_box (n := 5) rfl rfl) ⟨rfl, by decide⟩ ?_
 refine p_e rfl (e_assign (v := .nil) rfl) ?_
 refine p_end (hK1 _ ?_); clear hK1 K1
 refine pwp_seq_plain rfl fun K2 hK2 => ?_
 refine p_e rfl (e_faQ pl5 rfl) ?_
 refine p_e rfl (e_lH (v := .sc _) rfl (hset_self _ _ _) rfl) ?_
 refine p_new rfl (e_mkV (n := t.places.toNat) rfl rfl (by omega) (by kernel_rfl) (by kernel_rfl) (by kernel_rfl) (by decide +kernel) (by omega)) trivial ?_
 refine p_e rfl (e_assign (v := .ref _ _ _ _) rfl) ?_
 refine p_end (hK2 _ ?_); clear hK2 K2
 refine pwp_seq_seq ?_
 refine pwp_seq_plain rfl fun K3 hK3 => ?_
 refine p_e rfl (e_move (v := .ref _ _ _ _) rfl) ?_
 refine p_e rfl (e_lenR rfl (by kernel_rfl)) ?_
 refine p_mS rfl ?_
 refine p_end (hK3 _ ?_); clear hK3 K3
 refine pwp_seq_block fun K4 hK4 => ?_
 refine pwp_loopR (α := Nat × (List Nat)) [1, 3, 11] (fun (a5 : Nat × (List Nat)) => [(12, .int (a5.1))]) (fun (a5 : Nat × (List Nat)) (h : Heap) (c : Nat → Nat) => ((a5.1) ≤ t.places.toNat) ∧ ((a5.2).length = (a5.1)) ∧ (∀ g ∈ (a5.2), c0 19 ≤ g) ∧ (Old c0 h0 h c) ∧ (Mat h (9, c0 9) 19 t.places.toNat t.days.toNat ci (a5.2) (fun _ _ => 0)) ∧ (h (1, c0 1) = some (.rows 5 [Traffic.enc t]))) (fun (a5 : Nat × (List Nat)) => t.places.toNat - (a5.1)) (0, []) (by exact ⟨rfl, trivial⟩) (by exact ⟨by exact Nat.zero_le _, by exact rfl, by exact fun g hg => (by simp at hg), by exact Old.new (Old.new Old.refl), by exact Mat.new, ((hset_ne (key_ne rfl)).trans (hset_self _ _ _))⟩) fun a5 r6 h7 c8 hj9 => ?_
 obtain ⟨k, gs⟩ := a5
 obtain ⟨hk, hgk, hge, hO, hML, hihj9_0⟩ := hj9
 try dsimp only at hk
 try dsimp only at hgk
 try dsimp only at hge
 try dsimp only at hO
 try dsimp only at hML
 try dsimp only at hihj9_0
 show pwp _ _ (loopQ _ _ _) ⟨sets (mix _ _ _) [(12, .int k)], _, _⟩
 refine pwp_seq_plain rfl fun K10 hK10 => ?_
 refine p_e rfl (e_lt rfl rfl) ?_
 refine p_end (hK10 _ ?_); clear hK10 K10
 refine pwp_seq_cond rfl fun K11 hK11 => ⟨fun hb12 => ?_, fun hb12 => ?_⟩
 ·have hb12R := hb12; try simp only [zz] at hb12
  refine pwp_skip ?_
  refine seq_norm (hK11 _ ?_); clear hK11 K11
  refine pwp_seq_block fun K13 hK13 => ?_
  refine pwp_seq_plain rfl fun K14 hK14 => ?_
  refine p_mS rfl ?_
  refine p_aS rfl ?_
  refine p_end (hK14 _ ?_); clear hK14 K14
  refine pwp_plainK rfl fun hkn K15 hK15 => ?_
  refine p_e rfl (e_move (v := .ref _ _ _ _) rfl) ?_
  refine p_mS rfl ?_
  refine p_e rfl (e_faQ pl5 rfl) ?_
  refine p_e rfl (e_lH (v := .sc _) rfl hihj9_0 rfl) ?_
  refine p_new rfl (e_mkI (n := t.days.toNat) rfl rfl (by omega) (by kernel_rfl) (by kernel_rfl) (by kernel_rfl) (by decide +kernel) (by omega)) trivial ?_
  refine p_e rfl (e_ixaR0 rfl rfl (by kernel_rfl) (by kernel_rfl) (by omega)) ?_
  refine p_store rfl (e_storeV rfl ((hset_ne (key_ne rfl)).trans hML.out) rfl rfl rfl (by rw [mrows_len hML.le]; omega) (by kernel_rfl) (by kernel_rfl)) trivial ?_
  refine p_end (hK15 _ ?_); clear hK15 K15
  refine block_norm ?_
  refine seq_norm (hK13 _ ?_); clear hK13 K13
  refine pwp_plain rfl fun K16 hK16 => ?_
  refine p_e rfl (e_adL rfl rfl) ?_
  refine p_mS rfl ?_
  refine p_end (hK16 _ ?_); clear hK16 K16
  exact loop_again ((k + 1, (gs ++ [c8 19]))) (by show _ < _; simp only; omega) ⟨rfl, rfl, rfl, trivial⟩ ⟨rfl, trivial⟩ (by exact ⟨by show _ + 1 ≤ _; omega, by simp only [List.length_append, List.length_cons, List.length_nil]; omega, by exact fun g hg => (by rcases List.mem_append.1 hg with hg | hg; exact hge g hg; simp at hg; subst hg; exact hO.mo 19), by exact Old.upd (Old.new (d := 19) hO) (Nat.le_refl _), by exact (Mat.add rfl hML (fun g' o' hh => hkn.fresh 19 g' o' hh) (by omega) (by omega)), ((hset_ne (key_ne rfl)).trans ((hset_ne (key_ne rfl)).trans hihj9_0))⟩)
 ·have hb12R := hb12; try simp only [zz] at hb12
  have hgl : gs.length = t.places.toNat := by omega
  refine pwp_exit ?_
  refine exit_seq ?_
  clear hK11 K11
  refine exit_loop ?_
  refine exit_here ?_
  refine seq_norm (hK4 _ ?_); clear hK4 K4
  refine pwp_seq_seq ?_
  refine pwp_seq_plain rfl fun K17 hK17 => ?_
  refine p_e rfl (e_faQ pl5 rfl) ?_
  refine p_e rfl (e_lH (v := .lit _ _ _) rfl hihj9_0 rfl) ?_
  refine p_e rfl (e_len rfl (by kernel_rfl)) ?_
  refine p_mS rfl ?_
  refine p_end (hK17 _ ?_); clear hK17 K17
  refine pwp_seq_block fun K18 hK18 => ?_
  refine pwp_loopR (α := Nat) [3, 23, 24] (fun (k : Nat) => [(25, .int (k))]) (fun (k : Nat) (h : Heap) (c : Nat → Nat) => ((k) ≤ t.supplies.length) ∧ (Old c0 h0 h c) ∧ (Mat h (9, c0 9) 19 t.places.toNat t.days.toNat ci gs (spM t.supplies (k)))) (fun (k : Nat) => t.supplies.length - (k)) (0) (by exact ⟨rfl, trivial⟩) (by exact ⟨by exact Nat.zero_le _, by exact hO, by exact Mat.congr hML (fun p d _ _ => rfl)⟩) fun k r19 h20 c21 hj22 => ?_
  obtain ⟨hk, hO2, hML⟩ := hj22
  try dsimp only at hk
  try dsimp only at hO2
  try dsimp only at hML
  show pwp _ _ (loopQ _ _ _) ⟨sets (mix _ _ _) [(25, .int k)], _, _⟩
  refine pwp_seq_plain rfl fun K23 hK23 => ?_
  refine p_e rfl (e_lt rfl rfl) ?_
  refine p_end (hK23 _ ?_); clear hK23 K23
  refine pwp_seq_cond rfl fun K24 hK24 => ⟨fun hb25 => ?_, fun hb25 => ?_⟩
  ·have hb25R := hb25; try simp only [zz] at hb25
   obtain ⟨x, hx, hd, ht⟩ := get_lt (xs := t.supplies) (i := k) (by omega)
   have hxs := hT.sp x (List.mem_of_getElem? hx)
   have hb1 : 0 ≤ spM t.supplies k x.place.toNat x.day.toNat ∧ spM t.supplies k x.place.toNat x.day.toNat ≤ 1000000 * (k : Int) := tab_b (fun y hy => (hT.sp y hy).2.2) (by omega) _ _
   refine pwp_skip ?_
   refine seq_norm (hK24 _ ?_); clear hK24 K24
   refine pwp_seq_block fun K26 hK26 => ?_
   refine pwp_seq_plain rfl fun K27 hK27 => ?_
   refine p_e rfl (e_ixL rfl rfl) ?_
   refine p_e rfl (e_loadA (n := 3) rfl (by kernel_rfl) (by kernel_rfl) (by kernel_rfl) (by first | omega | (simp only [List.length_map]; omega)) (by decide) (by first | exact agg_map hx rfl)) ?_
   refine p_new rfl (e_alloc (cs := [.int 0, .int 0, .int 0]) (n := 3) (by kernel_rfl) rfl (by decide)) (ob_alloc (by decide)) ?_
   refine p_store rfl (e_storeA rfl (hset_self _ _ _) rfl rfl rfl (by kernel_rfl) rfl (by kernel_rfl)) trivial ?_
   refine p_end (hK27 _ ?_); clear hK27 K27
   refine pwp_gops rfl fun K28 hK28 => ?_
   refine s_begin ?_
   refine s_e rfl (e_move (v := .ref _ _ _ _) rfl) ?_
   refine s_e rfl (e_faQ pl3 rfl) ?_
   refine s_step [6] (by simp) rfl rfl rfl rfl (e_lH (v := .sc _) rfl (hset_self _ _ _) rfl) trivial ?_
   refine s_e rfl (e_ixaR0 rfl rfl (by kernel_rfl) (by kernel_rfl) (by omega)) ?_
   refine s_step [9] (by simp) rfl rfl rfl rfl (e_loadV (v := .ref (19, gs.getD (x.place).toNat 0) 1 0 t.days.toNat) rfl (Mat.set rfl rfl (Mat.set rfl rfl hML)).out (by kernel_rfl) (by kernel_rfl) (by kernel_rfl) (hML.row (by omega))) trivial ?_
   refine s_e rfl (e_faQ pl3 rfl) ?_
   refine s_step [6] (by simp) rfl rfl rfl rfl (e_lH (v := .sc _) rfl (hset_self _ _ _) rfl) trivial ?_
   refine s_e rfl (e_ixaR0 rfl rfl (by kernel_rfl) (by kernel_rfl) (by omega)) ?_
   refine s_step [19] (by simp) rfl rfl rfl rfl (e_loadH (v := .int ((spM t.supplies k) (x.place).toNat (x.day).toNat)) rfl ((Mat.set rfl rfl (Mat.set rfl rfl hML)).at (by omega)) (by kernel_rfl) (by kernel_rfl) (by kernel_rfl) (by simp only [List.length_map, List.length_range]; omega) (by decide) ((cell_map (mcell (by omega)) _).trans rfl)) trivial ?_
   refine s_e rfl (e_faQ pl3 rfl) ?_
   refine s_step [6] (by simp) rfl rfl rfl rfl (e_lH (v := .sc _) rfl (hset_self _ _ _) rfl) trivial ?_
   refine s_e rfl (e_adL rfl rfl) ?_
   refine s_e rfl (e_ixaR0 rfl rfl (by kernel_rfl) (by kernel_rfl) (by omega)) ?_
   refine s_store [19] (by simp) rfl rfl (e_storeI (a := (((spM t.supplies k) (x.place).toNat (x.day).toNat) + x.count)) rfl ((Mat.set rfl rfl (Mat.set rfl rfl hML)).at (by omega)) rfl (by simp only [List.length_map, List.length_range]; omega) (by kernel_rfl) (by kernel_rfl)) trivial ?_
   refine s_end (ds := []) (by kernel_rfl) (by kernel_rfl) (hK28 _ ?_); clear hK28 K28
   refine block_norm ?_
   refine seq_norm (hK26 _ ?_); clear hK26 K26
   refine pwp_plain rfl fun K29 hK29 => ?_
   refine p_e rfl (e_adL rfl rfl) ?_
   refine p_mS rfl ?_
   refine p_end (hK29 _ ?_); clear hK29 K29
   exact loop_again (k + 1) (by show _ < _; omega) ⟨rfl, rfl, rfl, trivial⟩ ⟨rfl, trivial⟩ (by exact ⟨by show _ + 1 ≤ _; simp only [List.length_map] at *; omega, by exact Old.upd (Old.upd (Old.new (d := 6) hO2) (hO2.mo 6)) (ge_at hge (by omega)), by exact Mat.congr (Mat.upd rfl (Mat.set rfl rfl (Mat.set rfl rfl hML)) (by omega) (by omega)) (fun p d _ _ => tab_s hx (aS_iff (by omega) (by omega)) p d)⟩)
  ·have hb25R := hb25; try simp only [zz] at hb25
   refine pwp_exit ?_
   refine exit_seq ?_
   clear hK24 K24
   refine exit_loop ?_
   refine exit_here ?_
   refine seq_norm (hK18 _ ?_); clear hK18 K18
   refine pwp_seq_plain rfl fun K30 hK30 => ?_
   refine p_e rfl (e_move (v := .ref _ _ _ _) rfl) ?_
   refine p_e rfl (e_assign (v := .ref _ _ _ _) rfl) ?_
   refine p_end (hK30 _ ?_); clear hK30 K30
   refine pwp_ret ?_
   refine end1 (v := .ref _ _ _ _) rfl ?_
   exact ⟨c0 9, gs, rfl, hgl, Nat.le_refl _, hge, Mat.congr hML (fun p d _ _ => tab_n (by simp only [List.length_map] at *; omega) (Nat.le_refl _) p d), hO2⟩

theorem frH80 : (inFrame Try.f80.ntmps (Try.f80.body.getD .skip) && Try.f80.results.toList.all (resScope Try.f80.ntmps)) = true := by kernel_rfl
theorem sumsX (h0 : Heap) (c0 : Nat → Nat) (t : Traffic) (hTr : TrOK t) (l : List Supply) (hl : l.length ≤ 40) (hls : ∀ s ∈ l, (0 ≤ s.place ∧ s.place ≤ t.places - 1) ∧ (0 ≤ s.day ∧ s.day ≤ t.days - 1) ∧ (0 ≤ s.count ∧ s.count ≤ 1000000)) : (∃ v ha ca, (TbR 19 17 t.places.toNat t.days.toNat (spM l l.length) h0 c0) v ha ca ∧ HCallsR Try.prog 80 [.agg t.enc, .lit true 3 (l.map Supply.enc)] h0 c0 fun v' h' c' => v' = v ∧ h' = ha ∧ c' = ca) ∨ HCallsR Try.prog 80 [.agg t.enc, .lit true 3 (l.map Supply.enc)] h0 c0 fun _ _ _ => False := by
 refine HCallsR.of_codeX (R := TbR 19 17 t.places.toNat t.days.toNat (spM l l.length) h0 c0) Try.func80 rfl rfl (by kernel_rfl) mixed frH80 (by show _ ≤ 62; simp) (by kernel_rfl) ?_
 have hT := hTr
 have q1 := hT.hA
 have q2 := hT.hB
 have q3 := hT.hr
 have q4 := hT.hs
 have q5 := hT.hn
 refine pwp_seq_plain rfl fun K1 hK1 => ?_
 refine p_new rfl (e_box (n := 5) rfl rfl) ⟨rfl, by decide⟩ ?_
 refine p_e rfl (e_assign (v := .nil) rfl) ?_
 refine p_end (hK1 _ ?_); clear hK1 K1
 refine pwp_seq_plain rfl fun K2 hK2 => ?_
 refine p_e rfl (e_assign (v := .nil) rfl) ?_
 refine p_end (hK2 _ ?_); clear hK2 K2
 refine pwp_seq_seq ?_
 refine pwp_seq_plain rfl fun K3 hK3 => ?_
 refine p_aS rfl ?_
 refine p_end (hK3 _ ?_); clear hK3 K3
 refine pwp_seq_block fun K4 hK4 => ?_
 refine pwp_loopR (α := Nat × (List Nat) × PV) [1, 2] (fun (a5 : Nat × (List Nat) × PV) => [(5, (a5.2.2)), (6, .int (a5.1))]) (fun (a5 : Nat × (List Nat) × PV) (h : Heap) (c : Nat → Nat) => ((a5.1) ≤ t.places.toNat) ∧ ((a5.2.1).length = (a5.1)) ∧ (Bld c0 h0 h c (a5.2.2) 19 17 t.days.toNat (a5.2.1)) ∧ (h (2, c0 2) = some (.rows 5 [Traffic.enc t]))) (fun (a5 : Nat × (List Nat) × PV) => t.places.toNat - (a5.1)) (0, [], .nil) (by exact ⟨rfl, rfl, trivial⟩) (by exact ⟨by exact Nat.zero_le _, by exact rfl, by exact Bld.zero (Old.new Old.refl), (hset_self _ _ _)⟩) fun a5 r6 h7 c8 hj9 => ?_
 obtain ⟨k, gs, v⟩ := a5
 obtain ⟨hk, hgk, hB, hihj9_0⟩ := hj9
 try dsimp only at hk
 try dsimp only at hgk
 try dsimp only at hB
 try dsimp only at hihj9_0
 show pwp _ _ (loopQ _ _ _) ⟨sets (mix _ _ _) [(5, v), (6, .int k)], _, _⟩
 refine pwp_seq_seq ?_
 refine pwp_seq_plain rfl fun K10 hK10 => ?_
 refine p_mS rfl ?_
 refine p_e rfl (e_faQ pl5 rfl) ?_
 refine p_e rfl (e_lH (v := .sc _) rfl hihj9_0 rfl) ?_
 refine p_e rfl (e_lt rfl rfl) ?_
 refine p_end (hK10 _ ?_); clear hK10 K10
 refine pwp_seq_cond rfl fun K11 hK11 => ⟨fun hb12 => ?_, fun hb12 => ?_⟩
 ·have hb12R := hb12; try simp only [zz] at hb12
  refine pwp_skip ?_
  refine seq_norm (hK11 _ ?_); clear hK11 K11
  refine pwp_seq_block fun K13 hK13 => ?_
  refine pwp_plainK rfl fun hkn K14 hK14 => ?_
  refine p_e rfl (e_move (v := v) rfl) ?_
  refine p_e rfl (e_faQ pl5 rfl) ?_
  refine p_e rfl (e_lH (v := .sc _) rfl hihj9_0 rfl) ?_
  refine p_new rfl (e_mkI (n := t.days.toNat) rfl rfl (by omega) (by kernel_rfl) (by kernel_rfl) (by kernel_rfl) (by decide +kernel) (by omega)) trivial ?_
  refine p_new rfl (e_bslice (rows := [cv (rfV 17 t.days.toNat (c8 17))]) (zs := [.nil]) (sz := 1) (by kernel_rfl) (by kernel_rfl) rfl (by kernel_rfl) (by decide) rfl rfl (by exact ⟨by decide, rfl, rfl, trivial⟩) rfl) trivial ?_
  refine p_appK (d1 := 19) (rows2 := [cv (rfV 17 t.days.toNat (c8 17))]) rfl rfl rfl (hB.sl.keep fun g => (hset_ne (key_ne rfl)).trans (hset_ne (key_ne rfl))) (src_ref (hset_self _ _ _) rfl) (by kernel_rfl) (by simp only [List.length_map, List.length_cons, List.length_nil]; omega) (by simp) fun hw15 hr16 hf17 => ?_
  refine p_e rfl (e_assign (v := .ref _ _ _ _) rfl) ?_
  have hB18 := Bld.step hB (fun g o hh => hkn.fresh 17 g o hh) rfl rfl rfl rfl rfl hr16 hf17
  have ho19 := (hf17 _ (key_ne rfl) (fun _ _ => key_ne rfl)).trans ((hset_ne (key_ne rfl)).trans ((hset_ne (key_ne rfl)).trans hihj9_0))
  refine p_end (hK14 _ ?_); clear hK14 K14
  refine block_norm ?_
  refine seq_norm (hK13 _ ?_); clear hK13 K13
  refine pwp_plain rfl fun K20 hK20 => ?_
  refine p_mS rfl ?_
  refine p_e rfl (e_adL rfl rfl) ?_
  refine p_aS rfl ?_
  refine p_end (hK20 _ ?_); clear hK20 K20
  exact loop_again ((k + 1, gs ++ [c8 17], (.ref (19, c8 19) 1 0 (((gs.map (rfV 17 t.days.toNat)).map cv).length + [cv (rfV 17 t.days.toNat (c8 17))].length)))) (by show _ < _; simp only; omega) ⟨rfl, rfl, trivial⟩ ⟨rfl, rfl, trivial⟩ (by exact ⟨by show _ + 1 ≤ _; omega, by simp only [List.length_append, List.length_cons, List.length_nil]; omega, by exact hB18, ho19⟩)
 ·have hb12R := hb12; try simp only [zz] at hb12
  have hgl : gs.length = t.places.toNat := by omega
  refine pwp_exit ?_
  refine exit_seq ?_
  clear hK11 K11
  refine exit_loop ?_
  refine exit_here ?_
  refine seq_norm (hK4 _ ?_); clear hK4 K4
  refine pwp_seq_seq ?_
  obtain ⟨g, rfl, hg0, hMS⟩ := hB.mat (n := t.places.toNat) (by omega) (by omega)
  refine pwp_seq_plain rfl fun K21 hK21 => ?_
  refine p_aS rfl ?_
  refine p_end (hK21 _ ?_); clear hK21 K21
  refine pwp_seq_block fun K22 hK22 => ?_
  refine pwp_loopR (α := Nat) [1, 5] (fun (k : Nat) => [(7, .int (k))]) (fun (k : Nat) (h : Heap) (c : Nat → Nat) => ((k) ≤ l.length) ∧ (Old c0 h0 h c) ∧ (Mat h (19, g) 17 t.places.toNat t.days.toNat ci gs (spM l (k)))) (fun (k : Nat) => l.length - (k)) (0) (by exact ⟨rfl, trivial⟩) (by exact ⟨by exact Nat.zero_le _, by exact hB.old, by exact Mat.congr hMS (fun p d _ _ => rfl)⟩) fun k r23 h24 c25 hj26 => ?_
  obtain ⟨hk2, hO2, hMS⟩ := hj26
  try dsimp only at hk2
  try dsimp only at hO2
  try dsimp only at hMS
  show pwp _ _ (loopQ _ _ _) ⟨sets (mix _ _ _) [(7, .int k)], _, _⟩
  refine pwp_seq_seq ?_
  refine pwp_seq_plain rfl fun K27 hK27 => ?_
  refine p_mS rfl ?_
  refine p_e rfl (e_move (v := .lit _ _ _) rfl) ?_
  refine p_e rfl (e_len rfl (by kernel_rfl)) ?_
  refine p_e rfl (e_lt rfl rfl) ?_
  refine p_end (hK27 _ ?_); clear hK27 K27
  refine pwp_seq_cond rfl fun K28 hK28 => ⟨fun hb29 => ?_, fun hb29 => ?_⟩
  ·have hb29R := hb29; try simp only [zz] at hb29
   obtain ⟨x, hx, hd, ht⟩ := get_lt (xs := l) (i := k) (by omega)
   have hxs := hls x (List.mem_of_getElem? hx)
   have hb1 : 0 ≤ spM l k x.place.toNat x.day.toNat ∧ spM l k x.place.toNat x.day.toNat ≤ 1000000 * (k : Int) := tab_b (fun y hy => (hls y hy).2.2) (by omega) _ _
   refine pwp_skip ?_
   refine seq_norm (hK28 _ ?_); clear hK28 K28
   refine pwp_seq_block fun K30 hK30 => ?_
   refine pwp_gops rfl fun K31 hK31 => ?_
   refine s_begin ?_
   refine s_e rfl (e_move (v := .ref _ _ _ _) rfl) ?_
   refine s_e rfl (e_move (v := .lit _ _ _) rfl) ?_
   refine s_e rfl (e_move (v := .sc _) rfl) ?_
   refine s_e rfl (e_ixL rfl rfl) ?_
   refine s_e rfl (e_fb pl3 rfl) ?_
   refine s_e rfl (e_load (v := .sc _) rfl (by kernel_rfl) (by kernel_rfl) (by kernel_rfl) (by first | omega | (simp only [List.length_map]; omega)) (by decide) ((cell_map hx _).trans rfl)) ?_
   refine s_e rfl (e_ixaR0 rfl rfl (by kernel_rfl) (by kernel_rfl) (by omega)) ?_
   refine s_step [19] (by simp) rfl rfl rfl rfl (e_loadV (v := .ref (17, gs.getD (x.place).toNat 0) 1 0 t.days.toNat) rfl hMS.out (by kernel_rfl) (by kernel_rfl) (by kernel_rfl) (hMS.row (by omega))) trivial ?_
   refine s_e rfl (e_move (v := .lit _ _ _) rfl) ?_
   refine s_e rfl (e_move (v := .sc _) rfl) ?_
   refine s_e rfl (e_ixL rfl rfl) ?_
   refine s_e rfl (e_fb pl3 rfl) ?_
   refine s_e rfl (e_load (v := .sc _) rfl (by kernel_rfl) (by kernel_rfl) (by kernel_rfl) (by first | omega | (simp only [List.length_map]; omega)) (by decide) ((cell_map hx _).trans rfl)) ?_
   refine s_e rfl (e_move (v := .ref _ _ _ _) rfl) ?_
   refine s_e rfl (e_move (v := .lit _ _ _) rfl) ?_
   refine s_e rfl (e_move (v := .sc _) rfl) ?_
   refine s_e rfl (e_ixL rfl rfl) ?_
   refine s_e rfl (e_fb pl3 rfl) ?_
   refine s_e rfl (e_load (v := .sc _) rfl (by kernel_rfl) (by kernel_rfl) (by kernel_rfl) (by first | omega | (simp only [List.length_map]; omega)) (by decide) ((cell_map hx _).trans rfl)) ?_
   refine s_e rfl (e_ixaR0 rfl rfl (by kernel_rfl) (by kernel_rfl) (by omega)) ?_
   refine s_step [19] (by simp) rfl rfl rfl rfl (e_loadV (v := .ref (17, gs.getD (x.place).toNat 0) 1 0 t.days.toNat) rfl hMS.out (by kernel_rfl) (by kernel_rfl) (by kernel_rfl) (hMS.row (by omega))) trivial ?_
   refine s_e rfl (e_move (v := .lit _ _ _) rfl) ?_
   refine s_e rfl (e_move (v := .sc _) rfl) ?_
   refine s_e rfl (e_ixL rfl rfl) ?_
   refine s_e rfl (e_fb pl3 rfl) ?_
   refine s_e rfl (e_load (v := .sc _) rfl (by kernel_rfl) (by kernel_rfl) (by kernel_rfl) (by first | omega | (simp only [List.length_map]; omega)) (by decide) ((cell_map hx _).trans rfl)) ?_
   refine s_e rfl (e_ixaR0 rfl rfl (by kernel_rfl) (by kernel_rfl) (by omega)) ?_
   refine s_step [17] (by simp) rfl rfl rfl rfl (e_loadH (v := .int ((spM l k) (x.place).toNat (x.day).toNat)) rfl (hMS.at (by omega)) (by kernel_rfl) (by kernel_rfl) (by kernel_rfl) (by simp only [List.length_map, List.length_range]; omega) (by decide) ((cell_map (mcell (by omega)) _).trans rfl)) trivial ?_
   refine s_e rfl (e_move (v := .lit _ _ _) rfl) ?_
   refine s_e rfl (e_move (v := .sc _) rfl) ?_
   refine s_e rfl (e_ixL rfl rfl) ?_
   refine s_e rfl (e_fb pl3 rfl) ?_
   refine s_e rfl (e_load (v := .sc _) rfl (by kernel_rfl) (by kernel_rfl) (by kernel_rfl) (by first | omega | (simp only [List.length_map]; omega)) (by decide) ((cell_map hx _).trans rfl)) ?_
   refine s_e rfl (e_adL rfl rfl) ?_
   refine s_e rfl (e_ixaR0 rfl rfl (by kernel_rfl) (by kernel_rfl) (by omega)) ?_
   refine s_store [17] (by simp) rfl rfl (e_storeI (a := (((spM l k) (x.place).toNat (x.day).toNat) + x.count)) rfl (hMS.at (by omega)) rfl (by simp only [List.length_map, List.length_range]; omega) (by kernel_rfl) (by kernel_rfl)) trivial ?_
   refine s_end (ds := []) (by kernel_rfl) (by kernel_rfl) (hK31 _ ?_); clear hK31 K31
   refine block_norm ?_
   refine seq_norm (hK30 _ ?_); clear hK30 K30
   refine pwp_plain rfl fun K32 hK32 => ?_
   refine p_mS rfl ?_
   refine p_e rfl (e_adL rfl rfl) ?_
   refine p_aS rfl ?_
   refine p_end (hK32 _ ?_); clear hK32 K32
   exact loop_again (k + 1) (by show _ < _; omega) ⟨rfl, rfl, trivial⟩ ⟨rfl, trivial⟩ (by exact ⟨by show _ + 1 ≤ _; simp only [List.length_map] at *; omega, by exact Old.upd hO2 (ge_at hB.ge (by omega)), by exact Mat.congr (Mat.upd rfl hMS (by omega) (by omega)) (fun p d _ _ => tab_s hx (aS_iff (by omega) (by omega)) p d)⟩)
  ·have hb29R := hb29; try simp only [zz] at hb29
   refine pwp_exit ?_
   refine exit_seq ?_
   clear hK28 K28
   refine exit_loop ?_
   refine exit_here ?_
   refine seq_norm (hK22 _ ?_); clear hK22 K22
   refine pwp_seq_plain rfl fun K33 hK33 => ?_
   refine p_e rfl (e_move (v := .ref _ _ _ _) rfl) ?_
   refine p_e rfl (e_assign (v := .ref _ _ _ _) rfl) ?_
   refine p_end (hK33 _ ?_); clear hK33 K33
   refine pwp_ret ?_
   refine end1 (v := .ref _ _ _ _) rfl ?_
   exact ⟨g, gs, rfl, hgl, hg0, hB.ge, Mat.congr hMS (fun p d _ _ => tab_n (by simp only [List.length_map] at *; omega) (Nat.le_refl _) p d), hO2⟩

theorem fr80 : (inFrame Try.f80.ntmps (Try.f80.body.getD .skip) && Try.f80.results.toList.all (resScope Try.f80.ntmps)) = true := by kernel_rfl
theorem sumsP (t : Traffic) (hTr : TrOK t) (l : List Supply) (hl : l.length ≤ 40) (hls : ∀ s ∈ l, (0 ≤ s.place ∧ s.place ≤ t.places - 1) ∧ (0 ≤ s.day ∧ s.day ≤ t.days - 1) ∧ (0 ≤ s.count ∧ s.count ≤ 1000000)) : PCalls Try.prog 80 [.agg t.enc, .lit true 3 (l.map Supply.enc)] (.lit false 1 ((tabL t.places.toNat t.days.toNat (spM l l.length)).map clF)) := by
 refine PCalls.of_code Try.func80 rfl rfl (by kernel_rfl) mixed fr80 (by show _ ≤ 62; simp) (.lit _ _ _ fun row hr => pure_map clF_pure row hr) ?_
 have hT := hTr
 have q1 := hT.hA
 have q2 := hT.hB
 have q3 := hT.hr
 have q4 := hT.hs
 have q5 := hT.hn
 refine pwp_seq_plain rfl fun K1 hK1 => ?_
 refine p_new rfl (e_box (n := 5) rfl rfl) ⟨rfl, by decide⟩ ?_
 refine p_e rfl (e_assign (v := .nil) rfl) ?_
 refine p_end (hK1 _ ?_); clear hK1 K1
 refine pwp_seq_plain rfl fun K2 hK2 => ?_
 refine p_e rfl (e_assign (v := .nil) rfl) ?_
 refine p_end (hK2 _ ?_); clear hK2 K2
 refine pwp_seq_seq ?_
 refine pwp_seq_plain rfl fun K3 hK3 => ?_
 refine p_aS rfl ?_
 refine p_end (hK3 _ ?_); clear hK3 K3
 refine pwp_seq_block fun K4 hK4 => ?_
 refine pwp_loopR (α := Nat × (List Nat) × PV) [1, 2] (fun (a5 : Nat × (List Nat) × PV) => [(5, (a5.2.2)), (6, .int (a5.1))]) (fun (a5 : Nat × (List Nat) × PV) (h : Heap) (c : Nat → Nat) => ((a5.1) ≤ t.places.toNat) ∧ ((a5.2.1).length = (a5.1)) ∧ (Bld noCnt noHeap h c (a5.2.2) 19 17 t.days.toNat (a5.2.1)) ∧ (h (2, 0) = some (.rows 5 [Traffic.enc t]))) (fun (a5 : Nat × (List Nat) × PV) => t.places.toNat - (a5.1)) (0, [], .nil) (by exact ⟨rfl, rfl, trivial⟩) (by exact ⟨by exact Nat.zero_le _, by exact rfl, by exact Bld.zero (Old.new Old.refl), (hset_self _ _ _)⟩) fun a5 r6 h7 c8 hj9 => ?_
 obtain ⟨k, gs, v⟩ := a5
 obtain ⟨hk, hgk, hB, hihj9_0⟩ := hj9
 try dsimp only at hk
 try dsimp only at hgk
 try dsimp only at hB
 try dsimp only at hihj9_0
 show pwp _ _ (loopQ _ _ _) ⟨sets (mix _ _ _) [(5, v), (6, .int k)], _, _⟩
 refine pwp_seq_seq ?_
 refine pwp_seq_plain rfl fun K10 hK10 => ?_
 refine p_mS rfl ?_
 refine p_e rfl (e_faQ pl5 rfl) ?_
 refine p_e rfl (e_lH (v := .sc _) rfl hihj9_0 rfl) ?_
 refine p_e rfl (e_lt rfl rfl) ?_
 refine p_end (hK10 _ ?_); clear hK10 K10
 refine pwp_seq_cond rfl fun K11 hK11 => ⟨fun hb12 => ?_, fun hb12 => ?_⟩
 ·have hb12R := hb12; try simp only [zz] at hb12
  refine pwp_skip ?_
  refine seq_norm (hK11 _ ?_); clear hK11 K11
  refine pwp_seq_block fun K13 hK13 => ?_
  refine pwp_plainK rfl fun hkn K14 hK14 => ?_
  refine p_e rfl (e_move (v := v) rfl) ?_
  refine p_e rfl (e_faQ pl5 rfl) ?_
  refine p_e rfl (e_lH (v := .sc _) rfl hihj9_0 rfl) ?_
  refine p_new rfl (e_mkI (n := t.days.toNat) rfl rfl (by omega) (by kernel_rfl) (by kernel_rfl) (by kernel_rfl) (by decide +kernel) (by omega)) trivial ?_
  refine p_new rfl (e_bslice (rows := [cv (rfV 17 t.days.toNat (c8 17))]) (zs := [.nil]) (sz := 1) (by kernel_rfl) (by kernel_rfl) rfl (by kernel_rfl) (by decide) rfl rfl (by exact ⟨by decide, rfl, rfl, trivial⟩) rfl) trivial ?_
  refine p_appK (d1 := 19) (rows2 := [cv (rfV 17 t.days.toNat (c8 17))]) rfl rfl rfl (hB.sl.keep fun g => (hset_ne (key_ne rfl)).trans (hset_ne (key_ne rfl))) (src_ref (hset_self _ _ _) rfl) (by kernel_rfl) (by simp only [List.length_map, List.length_cons, List.length_nil]; omega) (by simp) fun hw15 hr16 hf17 => ?_
  refine p_e rfl (e_assign (v := .ref _ _ _ _) rfl) ?_
  have hB18 := Bld.step hB (fun g o hh => hkn.fresh 17 g o hh) rfl rfl rfl rfl rfl hr16 hf17
  have ho19 := (hf17 _ (key_ne rfl) (fun _ _ => key_ne rfl)).trans ((hset_ne (key_ne rfl)).trans ((hset_ne (key_ne rfl)).trans hihj9_0))
  refine p_end (hK14 _ ?_); clear hK14 K14
  refine block_norm ?_
  refine seq_norm (hK13 _ ?_); clear hK13 K13
  refine pwp_plain rfl fun K20 hK20 => ?_
  refine p_mS rfl ?_
  refine p_e rfl (e_adL rfl rfl) ?_
  refine p_aS rfl ?_
  refine p_end (hK20 _ ?_); clear hK20 K20
  exact loop_again ((k + 1, gs ++ [c8 17], (.ref (19, c8 19) 1 0 (((gs.map (rfV 17 t.days.toNat)).map cv).length + [cv (rfV 17 t.days.toNat (c8 17))].length)))) (by show _ < _; simp only; omega) ⟨rfl, rfl, trivial⟩ ⟨rfl, rfl, trivial⟩ (by exact ⟨by show _ + 1 ≤ _; omega, by simp only [List.length_append, List.length_cons, List.length_nil]; omega, by exact hB18, ho19⟩)
 ·have hb12R := hb12; try simp only [zz] at hb12
  have hgl : gs.length = t.places.toNat := by omega
  refine pwp_exit ?_
  refine exit_seq ?_
  clear hK11 K11
  refine exit_loop ?_
  refine exit_here ?_
  refine seq_norm (hK4 _ ?_); clear hK4 K4
  refine pwp_seq_seq ?_
  obtain ⟨g, rfl, hg0, hMS⟩ := hB.mat (n := t.places.toNat) (by omega) (by omega)
  refine pwp_seq_plain rfl fun K21 hK21 => ?_
  refine p_aS rfl ?_
  refine p_end (hK21 _ ?_); clear hK21 K21
  refine pwp_seq_block fun K22 hK22 => ?_
  refine pwp_loopR (α := Nat) [1, 5] (fun (k : Nat) => [(7, .int (k))]) (fun (k : Nat) (h : Heap) (c : Nat → Nat) => ((k) ≤ l.length) ∧ (Old noCnt noHeap h c) ∧ (Mat h (19, g) 17 t.places.toNat t.days.toNat ci gs (spM l (k)))) (fun (k : Nat) => l.length - (k)) (0) (by exact ⟨rfl, trivial⟩) (by exact ⟨by exact Nat.zero_le _, by exact hB.old, by exact Mat.congr hMS (fun p d _ _ => rfl)⟩) fun k r23 h24 c25 hj26 => ?_
  obtain ⟨hk2, hO2, hMS⟩ := hj26
  try dsimp only at hk2
  try dsimp only at hO2
  try dsimp only at hMS
  show pwp _ _ (loopQ _ _ _) ⟨sets (mix _ _ _) [(7, .int k)], _, _⟩
  refine pwp_seq_seq ?_
  refine pwp_seq_plain rfl fun K27 hK27 => ?_
  refine p_mS rfl ?_
  refine p_e rfl (e_move (v := .lit _ _ _) rfl) ?_
  refine p_e rfl (e_len rfl (by kernel_rfl)) ?_
  refine p_e rfl (e_lt rfl rfl) ?_
  refine p_end (hK27 _ ?_); clear hK27 K27
  refine pwp_seq_cond rfl fun K28 hK28 => ⟨fun hb29 => ?_, fun hb29 => ?_⟩
  ·have hb29R := hb29; try simp only [zz] at hb29
   obtain ⟨x, hx, hd, ht⟩ := get_lt (xs := l) (i := k) (by omega)
   have hxs := hls x (List.mem_of_getElem? hx)
   have hb1 : 0 ≤ spM l k x.place.toNat x.day.toNat ∧ spM l k x.place.toNat x.day.toNat ≤ 1000000 * (k : Int) := tab_b (fun y hy => (hls y hy).2.2) (by omega) _ _
   refine pwp_skip ?_
   refine seq_norm (hK28 _ ?_); clear hK28 K28
   refine pwp_seq_block fun K30 hK30 => ?_
   refine pwp_gops rfl fun K31 hK31 => ?_
   refine s_begin ?_
   refine s_e rfl (e_move (v := .ref _ _ _ _) rfl) ?_
   refine s_e rfl (e_move (v := .lit _ _ _) rfl) ?_
   refine s_e rfl (e_move (v := .sc _) rfl) ?_
   refine s_e rfl (e_ixL rfl rfl) ?_
   refine s_e rfl (e_fb pl3 rfl) ?_
   refine s_e rfl (e_load (v := .sc _) rfl (by kernel_rfl) (by kernel_rfl) (by kernel_rfl) (by first | omega | (simp only [List.length_map]; omega)) (by decide) ((cell_map hx _).trans rfl)) ?_
   refine s_e rfl (e_ixaR0 rfl rfl (by kernel_rfl) (by kernel_rfl) (by omega)) ?_
   refine s_step [19] (by simp) rfl rfl rfl rfl (e_loadV (v := .ref (17, gs.getD (x.place).toNat 0) 1 0 t.days.toNat) rfl hMS.out (by kernel_rfl) (by kernel_rfl) (by kernel_rfl) (hMS.row (by omega))) trivial ?_
   refine s_e rfl (e_move (v := .lit _ _ _) rfl) ?_
   refine s_e rfl (e_move (v := .sc _) rfl) ?_
   refine s_e rfl (e_ixL rfl rfl) ?_
   refine s_e rfl (e_fb pl3 rfl) ?_
   refine s_e rfl (e_load (v := .sc _) rfl (by kernel_rfl) (by kernel_rfl) (by kernel_rfl) (by first | omega | (simp only [List.length_map]; omega)) (by decide) ((cell_map hx _).trans rfl)) ?_
   refine s_e rfl (e_move (v := .ref _ _ _ _) rfl) ?_
   refine s_e rfl (e_move (v := .lit _ _ _) rfl) ?_
   refine s_e rfl (e_move (v := .sc _) rfl) ?_
   refine s_e rfl (e_ixL rfl rfl) ?_
   refine s_e rfl (e_fb pl3 rfl) ?_
   refine s_e rfl (e_load (v := .sc _) rfl (by kernel_rfl) (by kernel_rfl) (by kernel_rfl) (by first | omega | (simp only [List.length_map]; omega)) (by decide) ((cell_map hx _).trans rfl)) ?_
   refine s_e rfl (e_ixaR0 rfl rfl (by kernel_rfl) (by kernel_rfl) (by omega)) ?_
   refine s_step [19] (by simp) rfl rfl rfl rfl (e_loadV (v := .ref (17, gs.getD (x.place).toNat 0) 1 0 t.days.toNat) rfl hMS.out (by kernel_rfl) (by kernel_rfl) (by kernel_rfl) (hMS.row (by omega))) trivial ?_
   refine s_e rfl (e_move (v := .lit _ _ _) rfl) ?_
   refine s_e rfl (e_move (v := .sc _) rfl) ?_
   refine s_e rfl (e_ixL rfl rfl) ?_
   refine s_e rfl (e_fb pl3 rfl) ?_
   refine s_e rfl (e_load (v := .sc _) rfl (by kernel_rfl) (by kernel_rfl) (by kernel_rfl) (by first | omega | (simp only [List.length_map]; omega)) (by decide) ((cell_map hx _).trans rfl)) ?_
   refine s_e rfl (e_ixaR0 rfl rfl (by kernel_rfl) (by kernel_rfl) (by omega)) ?_
   refine s_step [17] (by simp) rfl rfl rfl rfl (e_loadH (v := .int ((spM l k) (x.place).toNat (x.day).toNat)) rfl (hMS.at (by omega)) (by kernel_rfl) (by kernel_rfl) (by kernel_rfl) (by simp only [List.length_map, List.length_range]; omega) (by decide) ((cell_map (mcell (by omega)) _).trans rfl)) trivial ?_
   refine s_e rfl (e_move (v := .lit _ _ _) rfl) ?_
   refine s_e rfl (e_move (v := .sc _) rfl) ?_
   refine s_e rfl (e_ixL rfl rfl) ?_
   refine s_e rfl (e_fb pl3 rfl) ?_
   refine s_e rfl (e_load (v := .sc _) rfl (by kernel_rfl) (by kernel_rfl) (by kernel_rfl) (by first | omega | (simp only [List.length_map]; omega)) (by decide) ((cell_map hx _).trans rfl)) ?_
   refine s_e rfl (e_adL rfl rfl) ?_
   refine s_e rfl (e_ixaR0 rfl rfl (by kernel_rfl) (by kernel_rfl) (by omega)) ?_
   refine s_store [17] (by simp) rfl rfl (e_storeI (a := (((spM l k) (x.place).toNat (x.day).toNat) + x.count)) rfl (hMS.at (by omega)) rfl (by simp only [List.length_map, List.length_range]; omega) (by kernel_rfl) (by kernel_rfl)) trivial ?_
   refine s_end (ds := []) (by kernel_rfl) (by kernel_rfl) (hK31 _ ?_); clear hK31 K31
   refine block_norm ?_
   refine seq_norm (hK30 _ ?_); clear hK30 K30
   refine pwp_plain rfl fun K32 hK32 => ?_
   refine p_mS rfl ?_
   refine p_e rfl (e_adL rfl rfl) ?_
   refine p_aS rfl ?_
   refine p_end (hK32 _ ?_); clear hK32 K32
   exact loop_again (k + 1) (by show _ < _; omega) ⟨rfl, rfl, trivial⟩ ⟨rfl, trivial⟩ (by exact ⟨by show _ + 1 ≤ _; simp only [List.length_map] at *; omega, by exact Old.upd hO2 (ge_at hB.ge (by omega)), by exact Mat.congr (Mat.upd rfl hMS (by omega) (by omega)) (fun p d _ _ => tab_s hx (aS_iff (by omega) (by omega)) p d)⟩)
  ·have hb29R := hb29; try simp only [zz] at hb29
   refine pwp_exit ?_
   refine exit_seq ?_
   clear hK28 K28
   refine exit_loop ?_
   refine exit_here ?_
   refine seq_norm (hK22 _ ?_); clear hK22 K22
   refine pwp_seq_plain rfl fun K33 hK33 => ?_
   refine p_e rfl (e_move (v := .ref _ _ _ _) rfl) ?_
   refine p_e rfl (e_assign (v := .ref _ _ _ _) rfl) ?_
   refine p_end (hK33 _ ?_); clear hK33 K33
   refine pwp_ret ?_
   refine end1 (v := .ref _ _ _ _) rfl ?_
   exact out_tab (a := 19) (s := 17) (h0 := noHeap) (c0 := noCnt) (c2 := noCnt) ⟨g, gs, rfl, hgl, hg0, hB.ge, Mat.congr hMS (fun p d _ _ => tab_n (by simp only [List.length_map] at *; omega) (Nat.le_refl _) p d), ⟨hO2.old, fun _ => Nat.le_refl _⟩⟩

theorem sums_ex (h0 : Heap) (c0 : Nat → Nat) (t : Traffic) (hTr : TrOK t) (l : List Supply) (hl : l.length ≤ 40) (hls : ∀ s ∈ l, (0 ≤ s.place ∧ s.place ≤ t.places - 1) ∧ (0 ≤ s.day ∧ s.day ≤ t.days - 1) ∧ (0 ≤ s.count ∧ s.count ≤ 1000000)) :
   ∃ v ha ca, TbR 19 17 t.places.toNat t.days.toNat (spM l l.length) h0 c0 v ha ca ∧ HCallsR Try.prog 80 [.agg t.enc, .lit true 3 (l.map Supply.enc)] h0 c0 fun v' h' c' => v' = v ∧ h' = ha ∧ c' = ca := by
 rcases sumsX h0 c0 t hTr l hl hls with h | h
 · exact h
 · obtain ⟨v, ha, ca, hR⟩ := TbR.ex (a := 19) (s := 17) (n := t.places.toNat) (D := t.days.toNat) (spM l l.length) h0 c0 rfl
   exact ⟨v, ha, ca, hR, HCallsR.mono h fun _ _ _ hf => hf.elim⟩
end Go.Proofs.Ytigdmkhdmbbfiaa
