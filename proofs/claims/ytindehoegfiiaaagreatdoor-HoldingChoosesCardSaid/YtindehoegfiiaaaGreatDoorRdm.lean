/- The demands of the reference. No conditions. -/
import Derived.Test.YtindehoegfiiaaaGreatDoorDmn
set_option linter.unusedSimpArgs false
set_option linter.unusedVariables false
set_option maxRecDepth 100000
namespace Go.Proofs.YtindehoegfiiaaaGreatDoor
open Go Go.Pv
theorem sl_to {h : Heap} {d sz : Nat} {v : PV} {rows rows' : Go.Pv.Rows} (he : rows = rows') (hs : SliceAt h d v sz rows) : SliceAt h d v sz rows' := he ▸ hs
theorem top_h {g : Grid} {z : Int} (h1 : 1 ≤ g.levels.length) (hz : (hts g)[(((((hts g).map ci).length : Nat) : Int) - (1)).toNat]? = some z) : topG g = z := by
 have e : (((((hts g).map ci).length : Nat) : Int) - (1)).toNat = 1 + (g.levels.length - 1) := by simp only [hts, List.length_map, List.length_append, List.length_cons, List.length_nil]; omega
 rw [e, hts, List.getElem?_append_right (by simp only [List.length_cons, List.length_nil]; omega)] at hz
 simp only [List.length_cons, List.length_nil] at hz
 rw [show 1 + (g.levels.length - 1) - (0 + 1) = g.levels.length - 1 by omega] at hz
 rw [topG, List.getD_eq_getElem?_getD, hz]; rfl
theorem len_h (g : Grid) : ([ci 0] ++ List.map ci g.levels).length = g.levels.length + 1 := by simp only [List.length_map, List.length_append, List.length_cons, List.length_nil]; omega

theorem fr83 : (inFrame Tryz.f83.ntmps (Tryz.f83.body.getD .skip) && Tryz.f83.results.toList.all (resScope Tryz.f83.ntmps)) = true := by kernel_rfl
theorem holdsC (g : Grid) (r : Rule) (i x : Int) (t : Tie) (hgz : gridE g = 0) (hrz : ruleE r = 0) (hti : (0 ≤ t.standard ∧ t.standard ≤ (g.along.length : Int) - 1) ∧ (0 ≤ t.level ∧ t.level ≤ (g.levels.length : Int) - 1)) (hi : 0 ≤ i ∧ i < 1000) (hx : 0 ≤ x ∧ x ≤ 1000000) : PCalls Tryz.prog 83 [.agg g.enc, .agg r.enc, .agg t.enc, .int i, .int x] (.bool (mtB g r i x t)) := by
 refine PCalls.of_code Tryz.func83 rfl rfl (by kernel_rfl) mixed fr83 (by show _ ≤ 42; simp) (.sc _) ?_
 have hrr := ru_inv hrz
 obtain ⟨z, hz⟩ : ∃ z, g.levels[t.level.toNat]? = some z := ⟨_, List.getElem?_eq_getElem (by omega)⟩
 have hzb := (al_b hgz).2 z (List.mem_of_getElem? hz)
 refine pwp_seq_plain rfl fun K1 hK1 => ?_
 refine p_new rfl (e_box (n := 3) rfl rfl) ⟨rfl, by decide⟩ ?_
 refine p_new rfl (e_box (n := 5) rfl rfl) ⟨rfl, by decide⟩ ?_
 refine p_new rfl (e_box (n := 2) rfl rfl) ⟨rfl, by decide⟩ ?_
 refine p_aS rfl ?_
 refine p_end (hK1 _ ?_); clear hK1 K1
 refine pwp_seq_plain rfl fun K2 hK2 => ?_
 refine p_e rfl (e_faQ pl3 rfl) ?_
 refine p_e rfl (e_lH (v := .lit _ _ _) rfl ((hset_ne (key_ne rfl)).trans ((hset_ne (key_ne rfl)).trans (hset_self _ _ _))) rfl) ?_
 refine p_e rfl (e_faQ pl2 rfl) ?_
 refine p_e rfl (e_lH (v := .sc _) rfl (hset_self _ _ _) rfl) ?_
 refine p_e rfl (e_ixL rfl rfl) ?_
 refine p_e rfl (e_load (v := .sc _) rfl (by kernel_rfl) (by kernel_rfl) (by kernel_rfl) (by first | omega | (simp only [List.length_map]; omega)) (by decide) ((cell_map hz _).trans rfl)) ?_
 refine p_aS rfl ?_
 refine p_end (hK2 _ ?_); clear hK2 K2
 refine pwp_seq_gops rfl fun K3 hK3 => ?_
 refine g_begin ?_
 refine g_e rfl (e_faQ pl2 rfl) ?_
 refine g_e rfl (e_lH (v := .sc _) rfl (hset_self _ _ _) rfl) ?_
 refine g_mS rfl rfl ?_
 refine g_e rfl (e_faQ pl5 rfl) ?_
 refine g_e rfl (e_lH (v := .sc _) rfl ((hset_ne (key_ne rfl)).trans (hset_self _ _ _)) rfl) ?_
 refine g_e rfl (e_sub rfl rfl (by first | omega | (simp only [List.length_map] at *; omega))) ?_
 refine g_mS rfl rfl ?_
 refine g_e rfl (e_faQ pl5 rfl) ?_
 refine g_e rfl (e_lH (v := .sc _) rfl ((hset_ne (key_ne rfl)).trans (hset_self _ _ _)) rfl) ?_
 refine g_e rfl (e_adL rfl rfl) ?_
 refine g_call rfl rfl rfl rfl (.cons inn_sc (.cons inn_sc (.cons inn_sc .nil))) (Within _ _ _) ?_
 refine g_mS rfl rfl ?_
 refine g_cases (fun hb4 => ?_) (fun hb4 => ?_)
 ·have hb4R := hb4; try simp only [zz] at hb4
  refine g_mS rfl rfl ?_
  refine g_mS rfl rfl ?_
  refine g_e rfl (e_gt rfl rfl) ?_
  refine g_pT rfl rfl rfl ?_
  refine g_mS rfl rfl ?_
  refine g_cases (fun hb5 => ?_) (fun hb5 => ?_)
  ·have hb5R := hb5; try simp only [zz] at hb5
   refine g_mS rfl rfl ?_
   refine g_mS rfl rfl ?_
   refine g_e rfl (e_faQ pl5 rfl) ?_
   refine g_e rfl (e_lH (v := .sc _) rfl ((hset_ne (key_ne rfl)).trans (hset_self _ _ _)) rfl) ?_
   refine g_e rfl (e_adL rfl rfl) ?_
   refine g_e rfl (e_le rfl rfl) ?_
   refine g_pT rfl rfl rfl ?_
   refine g_aS rfl rfl ?_
   refine g_end (ds := [30, 31, 32, 35, 36, 37, 38, 39, 40]) rfl rfl (hK3 _ ?_); clear hK3 K3
   refine pwp_ret ?_
   refine end1 (v := .sc _) rfl ?_
   exact out_b (by first | rfl | (rw [mtB, zT, gd0 hz]; first | exact (decide_eq_false (by omega)).symm | (rw [Bool.eq_iff_iff]; simp only [decide_eq_true_eq, Bool.false_eq_true, eq_self_iff_true, true_iff, false_iff, iff_true, iff_false]; omega)) | (exfalso; simp_all; done))
  ·have hb5R := hb5; try simp only [zz] at hb5
   iterate 6 refine g_skip rfl rfl rfl ?_
   refine g_pF rfl rfl rfl ?_
   refine g_aS rfl rfl ?_
   refine g_end (ds := [30, 31, 32, 35, 36, 37, 38, 39, 40]) rfl rfl (hK3 _ ?_); clear hK3 K3
   refine pwp_ret ?_
   refine end1 (v := .sc _) rfl ?_
   exact out_b (by first | rfl | (rw [mtB, zT, gd0 hz]; first | exact (decide_eq_false (by omega)).symm | (rw [Bool.eq_iff_iff]; simp only [decide_eq_true_eq, Bool.false_eq_true, eq_self_iff_true, true_iff, false_iff, iff_true, iff_false]; omega)) | (exfalso; simp_all; done))
 ·have hb4R := hb4; try simp only [zz] at hb4
  iterate 3 refine g_skip rfl rfl rfl ?_
  refine g_pF rfl rfl rfl ?_
  refine g_mS rfl rfl ?_
  iterate 6 refine g_skip rfl rfl rfl ?_
  refine g_pF rfl rfl rfl ?_
  refine g_aS rfl rfl ?_
  refine g_end (ds := [30, 31, 32, 35, 36, 37, 38, 39, 40]) rfl rfl (hK3 _ ?_); clear hK3 K3
  refine pwp_ret ?_
  refine end1 (v := .sc _) rfl ?_
  exact out_b (by first | rfl | (rw [mtB, zT, gd0 hz]; first | exact (decide_eq_false (by omega)).symm | (rw [Bool.eq_iff_iff]; simp only [decide_eq_true_eq, Bool.false_eq_true, eq_self_iff_true, true_iff, false_iff, iff_true, iff_false]; omega)) | (exfalso; simp_all; done))

theorem fr28 : (inFrame Tryz.f28.ntmps (Tryz.f28.body.getD .skip) && Tryz.f28.results.toList.all (resScope Tryz.f28.ntmps)) = true := by kernel_rfl
theorem refDemandsC (g : Grid) (r : Rule) (l : List Tie) (hl : l.length ≤ 100000) (haz : allE g r l = 0) : PCalls Tryz.prog 28 [.agg g.enc, .agg r.enc, .lit true 2 (l.map Tie.enc)] (.lit false 3 (((dmX g r l).map dF).map encQ)) := by
 refine PCalls.of_code Tryz.func28 rfl rfl (by kernel_rfl) mixed fr28 (by show _ ≤ 81; simp) (pure_lQ _) ?_
 obtain ⟨hgz, hrz, htz⟩ := allE_inv haz
 have hsp := (grd_shape hgz).2
 have hrr := ru_inv hrz
 have htb := top_b hgz
 have hab := al_b hgz
 have hlh := len_h g
 have hhl : (hts g).length = g.levels.length + 1 := by rw [hts, List.length_append, List.length_singleton]; omega
 obtain ⟨z, hz⟩ : ∃ z, (hts g)[((((((([0] ++ g.levels)).map ci).length : Nat) : Int) - (1))).toNat]? = some z := ⟨_, List.getElem?_eq_getElem (by simp only [hts, List.length_map, List.length_append, List.length_cons, List.length_nil]; omega)⟩
 have htzz : topG g = z := top_h (by omega) hz
 refine pwp_seq_plain rfl fun K1 hK1 => ?_
 refine p_new rfl (e_box (n := 3) rfl rfl) ⟨rfl, by decide⟩ ?_
 refine p_new rfl (e_box (n := 5) rfl rfl) ⟨rfl, by decide⟩ ?_
 refine p_e rfl (e_assign (v := .nil) rfl) ?_
 refine p_end (hK1 _ ?_); clear hK1 K1
 refine pwp_seq_plain rfl fun K2 hK2 => ?_
 refine p_new rfl (e_bslice (rows := [ci 0]) (zs := [.int 0]) (sz := 1) (by kernel_rfl) (by kernel_rfl) rfl (by kernel_rfl) (by decide) rfl rfl (by exact ⟨by decide, rfl, rfl, trivial⟩) rfl) trivial ?_
 refine p_e rfl (e_faQ pl3 rfl) ?_
 refine p_e rfl (e_lH (v := .lit _ _ _) rfl ((hset_ne (key_ne rfl)).trans ((hset_ne (key_ne rfl)).trans (hset_self _ _ _))) rfl) ?_
 refine p_app rfl rfl rfl (.ofRef (hset_self _ _ _) rfl) src_lit (by kernel_rfl) (by simp only [List.length_append, List.length_map, List.length_nil, List.length_cons]; omega) fun v3 h4 c5 hs6 hf7 => ?_
 have ho8 := (hf7 (3, _) (key_ne rfl) (fun _ _ => key_ne rfl)).trans ((hset_ne (key_ne rfl)).trans ((hset_ne (key_ne rfl)).trans (hset_self _ _ _)))
 have ho9 := (hf7 (4, _) (key_ne rfl) (fun _ _ => key_ne rfl)).trans ((hset_ne (key_ne rfl)).trans (hset_self _ _ _))
 refine p_e rfl (e_assign (v := _) rfl) ?_
 refine p_end (hK2 _ ?_); clear hK2 K2
 refine pwp_seq_plain rfl fun K10 hK10 => ?_
 refine p_e rfl (e_move (v := _) rfl) ?_
 refine p_e rfl (e_move (v := _) rfl) ?_
 refine p_e rfl (SliceAt.len hs6 rfl (by kernel_rfl)) ?_
 refine p_e rfl (e_sub rfl rfl (by first | omega | (simp only [List.length_map] at *; omega))) ?_
 obtain ⟨g11, rfl, hg12⟩ := SliceAt.isRef (SliceAt.to (rows' := (([0] ++ g.levels)).map ci) hs6 rfl) (by simp)
 refine p_e rfl (e_ixaR0 rfl rfl (by kernel_rfl) (by kernel_rfl) (by first | omega | (simp only [List.length_map, List.length_append, List.length_cons, List.length_nil] at *; omega))) ?_
 refine p_e rfl (e_loadI (a := z) rfl hg12 (by kernel_rfl) (by kernel_rfl) (by kernel_rfl) hz) ?_
 refine p_aS rfl ?_
 refine p_end (hK10 _ ?_); clear hK10 K10
 refine pwp_seq_plain rfl fun K13 hK13 => ?_
 refine p_e rfl (e_assign (v := .nil) rfl) ?_
 refine p_end (hK13 _ ?_); clear hK13 K13
 refine pwp_seq_seq ?_
 refine pwp_seq_plain rfl fun K14 hK14 => ?_
 refine p_aS rfl ?_
 refine p_end (hK14 _ ?_); clear hK14 K14
 refine pwp_seq_block fun K15 hK15 => ?_
 refine pwp_loopR (α := Nat × PV × Go.Pv.Rows) [2, 3, 4, 7, 8] (fun (a16 : Nat × PV × Go.Pv.Rows) => [(9, (a16.2.1)), (10, .int (a16.1))]) (fun (a16 : Nat × PV × Go.Pv.Rows) (h : Heap) (_ : Nat → Nat) => ((a16.1) ≤ g.along.length) ∧ (NestD 74 h (a16.2.2) ((dmL g r (a16.1)).map (dmd g r l))) ∧ (SliceAt h 79 (a16.2.1) 3 ((a16.2.2))) ∧ (h (3, 0) = some (.rows 3 [Grid.enc g])) ∧ (h (4, 0) = some (.rows 5 [Rule.enc r])) ∧ (h (17, g11) = some (.rows 1 ((([0] ++ g.levels)).map ci)))) (fun (a16 : Nat × PV × Go.Pv.Rows) => g.along.length - (a16.1)) (0, .nil, []) (by exact ⟨rfl, rfl, trivial⟩) (by exact ⟨by exact Nat.zero_le _, by exact .nil, .nil, ho8, ho9, hg12⟩) fun a16 r17 h18 c19 hj20 => ?_
 obtain ⟨k, v, rows⟩ := a16
 obtain ⟨hk, hN, hihj20_0, hihj20_1, hihj20_2, hihj20_3⟩ := hj20
 try dsimp only at hk
 try dsimp only at hN
 try dsimp only at hihj20_0
 try dsimp only at hihj20_1
 try dsimp only at hihj20_2
 try dsimp only at hihj20_3
 show pwp _ _ (loopQ _ _ _) ⟨sets (mix _ _ _) [(9, v), (10, .int k)], _, _⟩
 refine pwp_seq_seq ?_
 refine pwp_seq_plain rfl fun K21 hK21 => ?_
 refine p_mS rfl ?_
 refine p_e rfl (e_faQ pl3 rfl) ?_
 refine p_e rfl (e_lH (v := .lit _ _ _) rfl hihj20_1 rfl) ?_
 refine p_e rfl (e_len rfl (by kernel_rfl)) ?_
 refine p_e rfl (e_lt rfl rfl) ?_
 refine p_end (hK21 _ ?_); clear hK21 K21
 refine pwp_seq_cond rfl fun K22 hK22 => ⟨fun hb23 => ?_, fun hb23 => ?_⟩
 ·have hb23R := hb23; try simp only [zz] at hb23
  have hkA : k < g.along.length := by simp only [List.length_map] at *; omega
  have hdl := dmL_len (g := g) (r := r) (k := k)
  have hdm : k * (g.levels.length + 1) ≤ 60 * 31 := Nat.mul_le_mul (by omega) (by omega)
  refine pwp_skip ?_
  refine seq_norm (hK22 _ ?_); clear hK22 K22
  refine pwp_seq_block fun K24 hK24 => ?_
  refine pwp_seq_plain rfl fun K25 hK25 => ?_
  refine p_aS rfl ?_
  refine p_end (hK25 _ ?_); clear hK25 K25
  refine pwp_block ?_
  refine pwp_loopR (α := Nat × PV × Go.Pv.Rows) [2, 3, 4, 7, 8, 10] (fun (a26 : Nat × PV × Go.Pv.Rows) => [(9, (a26.2.1)), (11, .int (a26.1))]) (fun (a26 : Nat × PV × Go.Pv.Rows) (h : Heap) (_ : Nat → Nat) => ((a26.1) ≤ (hts g).length) ∧ (NestD 74 h (a26.2.2) ((dmR g r k (dmL g r k) (a26.1)).map (dmd g r l))) ∧ (SliceAt h 79 (a26.2.1) 3 ((a26.2.2))) ∧ (h (3, 0) = some (.rows 3 [Grid.enc g])) ∧ (h (4, 0) = some (.rows 5 [Rule.enc r])) ∧ (h (17, g11) = some (.rows 1 ((([0] ++ g.levels)).map ci)))) (fun (a26 : Nat × PV × Go.Pv.Rows) => (hts g).length - (a26.1)) (0, v, rows) (by exact ⟨rfl, rfl, trivial⟩) (by exact ⟨by exact Nat.zero_le _, by exact hN, hihj20_0, hihj20_1, hihj20_2, hihj20_3⟩) fun a26 r27 h28 c29 hj30 => ?_
  obtain ⟨j, v, rows⟩ := a26
  obtain ⟨hj, hN, hihj30_0, hihj30_1, hihj30_2, hihj30_3⟩ := hj30
  try dsimp only at hj
  try dsimp only at hN
  try dsimp only at hihj30_0
  try dsimp only at hihj30_1
  try dsimp only at hihj30_2
  try dsimp only at hihj30_3
  show pwp _ _ (loopQ _ _ _) ⟨sets (mix _ _ _) [(9, v), (11, .int j)], _, _⟩
  refine pwp_seq_seq ?_
  refine pwp_seq_plain rfl fun K31 hK31 => ?_
  refine p_mS rfl ?_
  refine p_e rfl (e_move (v := .ref _ _ _ _) rfl) ?_
  refine p_e rfl (e_lenR rfl (by kernel_rfl)) ?_
  refine p_e rfl (e_lt rfl rfl) ?_
  refine p_end (hK31 _ ?_); clear hK31 K31
  refine pwp_seq_cond rfl fun K32 hK32 => ⟨fun hb33 => ?_, fun hb33 => ?_⟩
  ·have hb33R := hb33; try simp only [zz] at hb33
   have hjl : j < (hts g).length := by first | omega | (simp only [List.length_map, List.length_append, List.length_cons, List.length_nil] at *; omega)
   obtain ⟨x, hx⟩ : ∃ x, (hts g)[j]? = some x := ⟨_, List.getElem?_eq_getElem hjl⟩
   have hxb := hts_b hgz (List.mem_of_getElem? hx)
   refine pwp_skip ?_
   refine seq_norm (hK32 _ ?_); clear hK32 K32
   refine pwp_seq_block fun K34 hK34 => ?_
   refine pwp_seq_seq ?_
   refine pwp_seq_gops rfl fun K35 hK35 => ?_
   refine g_begin ?_
   refine g_mS rfl rfl ?_
   refine g_e rfl (e_move (v := .ref _ _ _ _) rfl) ?_
   refine g_mS rfl rfl ?_
   refine g_e rfl (e_ixaR0 rfl rfl (by kernel_rfl) (by kernel_rfl) (by first | omega | (simp only [List.length_map, List.length_append, List.length_cons, List.length_nil] at *; omega))) ?_
   refine g_e rfl (e_loadI (a := x) rfl hihj30_3 (by kernel_rfl) (by kernel_rfl) (by kernel_rfl) hx) ?_
   refine g_e rfl (e_sub rfl rfl (by first | omega | (simp only [List.length_map] at *; omega))) ?_
   refine g_e rfl (e_faQ pl5 rfl) ?_
   refine g_e rfl (e_lH (v := .sc _) rfl hihj30_2 rfl) ?_
   refine g_e rfl (e_le rfl rfl) ?_
   refine g_end (ds := []) (by kernel_rfl) rfl (hK35 _ ?_); clear hK35 K35
   refine pwp_seq_cond rfl fun K36 hK36 => ⟨fun hb37 => ?_, fun hb37 => ?_⟩
   ·have hb37R := hb37; try simp only [zz] at hb37
    refine pwp_exit ?_
    refine exit_seq ?_
    clear hK36 K36
    refine exit_here ?_
    refine seq_norm (hK34 _ ?_); clear hK34 K34
    refine pwp_plain rfl fun K38 hK38 => ?_
    refine p_mS rfl ?_
    refine p_e rfl (e_adL rfl rfl) ?_
    refine p_aS rfl ?_
    refine p_end (hK38 _ ?_); clear hK38 K38
    exact loop_again ((j + 1, v, rows)) (by show _ < _; simp only; omega) ⟨rfl, rfl, rfl, rfl, rfl, rfl, trivial⟩ ⟨rfl, rfl, trivial⟩ (by exact ⟨by show _ + 1 ≤ _; omega, by first | (rw [dmR_t hx (by omega)]; exact hN) | (rw [dmR_f hx (by omega), List.map_append]; exact hN2), (SliceAt.to hihj30_0 (by rfl)), hihj30_1, hihj30_2, hihj30_3⟩)
   ·have hb37R := hb37; try simp only [zz] at hb37
    refine pwp_skip ?_
    refine seq_norm (hK36 _ ?_); clear hK36 K36
    refine pwp_seq_plainK rfl fun hknB K39 hK39 => ?_
    refine p_mS rfl ?_
    refine p_e rfl (e_move (v := .ref _ _ _ _) rfl) ?_
    refine p_mS rfl ?_
    refine p_e rfl (e_ixaR0 rfl rfl (by kernel_rfl) (by kernel_rfl) (by first | omega | (simp only [List.length_map, List.length_append, List.length_cons, List.length_nil] at *; omega))) ?_
    refine p_e rfl (e_loadI (a := x) rfl hihj30_3 (by kernel_rfl) (by kernel_rfl) (by kernel_rfl) hx) ?_
    refine p_e rfl (e_build (zs := [.int 0, .int 0, .nil]) (pl := [(0, 1, false), (1, 1, false), (2, 1, false)]) (by kernel_rfl) (by kernel_rfl) (by kernel_rfl) rfl rfl (by exact ⟨by decide, rfl, Nat.le_of_ble_eq_true rfl, rfl, ⟨by decide, rfl, Nat.le_of_ble_eq_true rfl, rfl, trivial⟩⟩) rfl) ?_
    refine p_new rfl (e_alloc (cs := [.int 0, .int 0, .nil]) (n := 3) (by kernel_rfl) rfl (by decide)) (ob_alloc (by decide)) ?_
    refine p_store rfl (e_storeA rfl (hset_self _ _ _) rfl rfl rfl (by kernel_rfl) rfl (by kernel_rfl)) trivial ?_
    refine p_end (hK39 _ ?_); clear hK39 K39
    refine pwp_seq_seq ?_
    refine pwp_seq_plain rfl fun K40 hK40 => ?_
    refine p_aS rfl ?_
    refine p_end (hK40 _ ?_); clear hK40 K40
    refine pwp_seq_block fun K41 hK41 => ?_
    refine pwp_loopR (α := Nat × PV) [2, 3, 4, 7, 8, 9, 10, 11, 12] (fun (a42 : Nat × PV) => [(13, .int (a42.1))]) (fun (a42 : Nat × PV) (h : Heap) (c : Nat → Nat) => ((a42.1) ≤ l.length) ∧ (SliceAt h 74 (a42.2) 1 ((plT (mtB g r (k : Int) x) l (a42.1)).map ci)) ∧ (PvF c29 74 (a42.2)) ∧ (AgO c29 h28 h) ∧ (c29 73 ≤ c 73 ∧ c29 74 ≤ c 74 ∧ c29 78 ≤ c 78 ∧ c29 79 ≤ c 79) ∧ (SliceAt h 79 v 3 (rows)) ∧ (h (3, 0) = some (.rows 3 [Grid.enc g])) ∧ (h (4, 0) = some (.rows 5 [Rule.enc r])) ∧ (h (17, g11) = some (.rows 1 ((([0] ++ g.levels)).map ci))) ∧ (h (12, c29 12) = some (.rows 3 [[.int (k : Int), .int x, (a42.2)]]))) (fun (a42 : Nat × PV) => l.length - (a42.1)) (0, .nil) (by exact ⟨rfl, trivial⟩) (by exact ⟨by exact Nat.zero_le _, by exact .nil, by exact fun g_ sz_ n_ e_ => (by cases e_), by exact fun k' hk' => (hset_ne (old_ne' hk' rfl)).trans ((hset_ne (old_ne' hk' rfl)).trans (rfl)), by exact ⟨Nat.le_refl _, Nat.le_refl _, Nat.le_refl _, Nat.le_refl _⟩, (hihj30_0.keep fun _ => (hset_ne (key_ne rfl)).trans ((hset_ne (key_ne rfl)).trans (rfl))), ((hset_ne (key_ne rfl)).trans ((hset_ne (key_ne rfl)).trans hihj30_1)), ((hset_ne (key_ne rfl)).trans ((hset_ne (key_ne rfl)).trans hihj30_2)), ((hset_ne (key_ne rfl)).trans ((hset_ne (key_ne rfl)).trans hihj30_3)), (hset_self _ _ _)⟩) fun a42 r43 h44 c45 hj46 => ?_
    obtain ⟨q, pv⟩ := a42
    obtain ⟨hq, hpv, hpf, hag, hcm, hihj46_0, hihj46_1, hihj46_2, hihj46_3, hihj46_4⟩ := hj46
    try dsimp only at hq
    try dsimp only at hpv
    try dsimp only at hpf
    try dsimp only at hag
    try dsimp only at hcm
    try dsimp only at hihj46_0
    try dsimp only at hihj46_1
    try dsimp only at hihj46_2
    try dsimp only at hihj46_3
    try dsimp only at hihj46_4
    show pwp _ _ (loopQ _ _ _) ⟨sets (mix _ _ _) [(13, .int q)], _, _⟩
    refine pwp_seq_seq ?_
    refine pwp_seq_plain rfl fun K47 hK47 => ?_
    refine p_mS rfl ?_
    refine p_e rfl (e_move (v := .lit _ _ _) rfl) ?_
    refine p_e rfl (e_len rfl (by kernel_rfl)) ?_
    refine p_e rfl (e_lt rfl rfl) ?_
    refine p_end (hK47 _ ?_); clear hK47 K47
    refine pwp_seq_cond rfl fun K48 hK48 => ⟨fun hb49 => ?_, fun hb49 => ?_⟩
    ·have hb49R := hb49; try simp only [zz] at hb49
     obtain ⟨t, ht, htd, htt⟩ := get_lt (xs := l) (i := q) (by omega)
     have hti := ti_at htz ht
     refine pwp_skip ?_
     refine seq_norm (hK48 _ ?_); clear hK48 K48
     refine pwp_seq_block fun K50 hK50 => ?_
     refine pwp_seq_gops rfl fun K51 hK51 => ?_
     refine g_begin ?_
     refine g_e rfl (e_loadHA (cs := Grid.enc (g)) (n := 3) rfl hihj46_1 (by kernel_rfl) (by kernel_rfl) (by kernel_rfl) (by exact Nat.zero_lt_one) (by decide) rfl) ?_
     refine g_e rfl (e_loadHA (cs := Rule.enc (r)) (n := 5) rfl hihj46_2 (by kernel_rfl) (by kernel_rfl) (by kernel_rfl) (by exact Nat.zero_lt_one) (by decide) rfl) ?_
     refine g_e rfl (e_move (v := .lit _ _ _) rfl) ?_
     refine g_mS rfl rfl ?_
     refine g_e rfl (e_ixL rfl rfl) ?_
     refine g_e rfl (e_loadA (n := 2) rfl (by kernel_rfl) (by kernel_rfl) (by kernel_rfl) (by first | omega | (simp only [List.length_map]; omega)) (by decide) (by first | exact agg_map ht rfl)) ?_
     refine g_mS rfl rfl ?_
     refine g_e rfl (e_move (v := .ref _ _ _ _) rfl) ?_
     refine g_mS rfl rfl ?_
     refine g_e rfl (e_ixaR0 rfl rfl (by kernel_rfl) (by kernel_rfl) (by first | omega | (simp only [List.length_map, List.length_append, List.length_cons, List.length_nil] at *; omega))) ?_
     refine g_e rfl (e_loadI (a := x) rfl hihj46_3 (by kernel_rfl) (by kernel_rfl) (by kernel_rfl) hx) ?_
     refine g_call rfl rfl rfl rfl (.cons (inn_agg (Grid.pure _)) (.cons (inn_agg (Rule.pure _)) (.cons (inn_agg (Tie.pure _)) (.cons inn_sc (.cons inn_sc .nil))))) (holdsC g r (k : Int) x t hgz hrz hti ⟨by omega, by omega⟩ hxb) ?_
     refine g_end (ds := []) (by kernel_rfl) rfl (hK51 _ ?_); clear hK51 K51
     refine pwp_cond rfl (fun hb52 => ?_) (fun hb52 => ?_)
     ·have hb52R := hb52; try simp only [zz] at hb52
      refine pwp_plain rfl fun K53 hK53 => ?_
      refine p_e rfl (e_faQ pl3 rfl) ?_
      refine p_e rfl (e_lH (v := pv) rfl hihj46_4 rfl) ?_
      refine p_mS rfl ?_
      refine p_new rfl (e_bslice (rows := [ci (q : Int)]) (zs := [.int 0]) (sz := 1) (by kernel_rfl) (by kernel_rfl) rfl (by kernel_rfl) (by decide) rfl rfl (by exact ⟨by decide, rfl, rfl, trivial⟩) rfl) trivial ?_
      refine p_appK (d1 := 74) (rows2 := [ci (q : Int)]) rfl rfl rfl (hpv.keep fun g_ => (hset_ne (key_ne rfl)).trans (rfl)) (src_ref (hset_self _ _ _) rfl) (by kernel_rfl) (by have := plT_len (K := (mtB g r (k : Int) x)) (l := l) (k := q); simp only [List.length_map, List.length_cons, List.length_nil]; omega) (by simp) fun h54 hn55 hf56 => ?_
      have hagA := AgO.app hf56 hcm.2.1 hpf (fun k' hk' => (hset_ne (old_le hk' hcm.1)).trans (hag k' hk'))
      have ho57 := (hf56 _ (key_ne rfl) (fun _ _ => key_ne rfl)).trans ((hset_ne (key_ne rfl)).trans hihj46_1)
      have ho58 := (hf56 _ (key_ne rfl) (fun _ _ => key_ne rfl)).trans ((hset_ne (key_ne rfl)).trans hihj46_2)
      have ho59 := (hf56 _ (key_ne rfl) (fun _ _ => key_ne rfl)).trans ((hset_ne (key_ne rfl)).trans hihj46_3)
      have ho60 := (hf56 _ (key_ne rfl) (fun _ _ => key_ne rfl)).trans ((hset_ne (key_ne rfl)).trans hihj46_4)
      have hs61 := ((hihj46_0.keep fun _ => (hset_ne (key_ne rfl)).trans (rfl))).keep fun g_ => hf56 (79, g_) (key_ne rfl) (fun _ _ => key_ne rfl)
      refine p_e rfl (e_faQ pl3 rfl) ?_
      refine p_store rfl (e_store1 rfl ho60 rfl rfl rfl (by decide) (by kernel_rfl) rfl (by kernel_rfl)) trivial ?_
      refine p_end (hK53 _ ?_); clear hK53 K53
      refine block_norm ?_
      refine seq_norm (hK50 _ ?_); clear hK50 K50
      refine pwp_plain rfl fun K62 hK62 => ?_
      refine p_mS rfl ?_
      refine p_e rfl (e_adL rfl rfl) ?_
      refine p_aS rfl ?_
      refine p_end (hK62 _ ?_); clear hK62 K62
      exact loop_again ((q + 1, (.ref (74, cset c45 73 74) 1 0 (((plT (mtB g r (k : Int) x) l q).map ci).length + [ci (q : Int)].length) : PV))) (by show _ < _; simp only; omega) ⟨rfl, rfl, rfl, rfl, rfl, rfl, rfl, rfl, rfl, trivial⟩ ⟨rfl, trivial⟩ (by exact ⟨by show _ + 1 ≤ _; simp only [List.length_map] at *; omega, by exact SliceAt.to (.ofRef (((hset_ne (key_ne rfl)).trans (rfl)).trans hn55) (by simp)) (by rw [plT_t ht (by assumption), List.map_append]; rfl), by exact fun g_ sz_ n_ e_ => (by cases e_; exact hcm.2.1), by exact fun k' hk' => (hset_ne (old_ne' hk' rfl)).trans (hagA k' hk'), by exact ⟨Nat.le_trans hcm.1 (Nat.le_trans le_cset le_cset), Nat.le_trans hcm.2.1 (Nat.le_trans le_cset le_cset), Nat.le_trans hcm.2.2.1 (Nat.le_trans le_cset le_cset), Nat.le_trans hcm.2.2.2 (Nat.le_trans le_cset le_cset)⟩, (hs61.keep fun _ => (hset_ne (key_ne rfl)).trans (rfl)), ((hset_ne (key_ne rfl)).trans ho57), ((hset_ne (key_ne rfl)).trans ho58), ((hset_ne (key_ne rfl)).trans ho59), (hset_self _ _ _)⟩)
     ·have hb52R := hb52; try simp only [zz] at hb52
      refine pwp_skip ?_
      refine block_norm ?_
      refine seq_norm (hK50 _ ?_); clear hK50 K50
      refine pwp_plain rfl fun K63 hK63 => ?_
      refine p_mS rfl ?_
      refine p_e rfl (e_adL rfl rfl) ?_
      refine p_aS rfl ?_
      refine p_end (hK63 _ ?_); clear hK63 K63
      exact loop_again ((q + 1, pv)) (by show _ < _; simp only; omega) ⟨rfl, rfl, rfl, rfl, rfl, rfl, rfl, rfl, rfl, trivial⟩ ⟨rfl, trivial⟩ (by exact ⟨by show _ + 1 ≤ _; simp only [List.length_map] at *; omega, by exact SliceAt.to (hpv.keep fun g_ => rfl) (by rw [plT_f ht (by assumption)]), by exact hpf, by exact fun k' hk' => hag k' hk', by exact hcm, hihj46_0, hihj46_1, hihj46_2, hihj46_3, hihj46_4⟩)
    ·have hb49R := hb49; try simp only [zz] at hb49
     have hql : q = l.length := by simp only [List.length_map] at *; omega
     refine pwp_exit ?_
     refine exit_seq ?_
     clear hK48 K48
     refine exit_loop ?_
     refine exit_here ?_
     refine seq_norm (hK41 _ ?_); clear hK41 K41
     refine pwp_plain rfl fun K64 hK64 => ?_
     refine p_e rfl (e_move (v := _) rfl) ?_
     refine p_e rfl (e_loadHA (n := 3) rfl hihj46_4 (by kernel_rfl) (by kernel_rfl) (by kernel_rfl) (by exact Nat.zero_lt_one) (by decide) rfl) ?_
     refine p_new rfl (e_bslice (rows := [[.int (k : Int), .int x, pv]]) (zs := [.int 0, .int 0, .nil]) (sz := 3) (by kernel_rfl) (by kernel_rfl) rfl (by kernel_rfl) (by decide) rfl rfl (by exact ⟨by decide, rfl, (by show (true && (true && (pv.cell && true))) = true; rw [slice_cell hpv]; rfl), trivial⟩) rfl) trivial ?_
     refine p_appK (d1 := 79) (rows2 := [[.int (k : Int), .int x, pv]]) rfl rfl rfl (hihj46_0.keep fun _ => (hset_ne (key_ne rfl)).trans (rfl)) (src_ref (hset_self _ _ _) rfl) (by kernel_rfl) (by rw [hN.len, List.length_map]; have := dmR_len (g := g) (r := r) (k := k) (b := dmL g r k) (j := j); simp only [List.length_cons, List.length_nil]; omega) (by simp) fun h65 hn66 hf67 => ?_
     have hN2 : NestD 74 h65 (rows ++ [[.int (k : Int), .int x, pv]]) ((dmR g r k (dmL g r k) j).map (dmd g r l) ++ [dmd g r l ((k : Int), x)]) := NestD.app (x := dmd g r l ((k : Int), x)) (hN.mono fun g_ o_ ho_ => (hf67 _ (key_ne rfl) (fun _ _ => key_ne rfl)).trans ((hset_ne (key_ne rfl)).trans ((hag (74, g_) (hknB _ _ ho_)).trans ho_))) (sl_to (by rw [hql]; rfl) (hpv.keep fun g_ => (hf67 _ (key_ne rfl) (fun _ _ => key_ne rfl)).trans ((hset_ne (key_ne rfl)).trans (rfl))))
     have ho68 := (hf67 _ (key_ne rfl) (fun _ _ => key_ne rfl)).trans ((hset_ne (key_ne rfl)).trans hihj46_1)
     have ho69 := (hf67 _ (key_ne rfl) (fun _ _ => key_ne rfl)).trans ((hset_ne (key_ne rfl)).trans hihj46_2)
     have ho70 := (hf67 _ (key_ne rfl) (fun _ _ => key_ne rfl)).trans ((hset_ne (key_ne rfl)).trans hihj46_3)
     have ho71 := (hf67 _ (key_ne rfl) (fun _ _ => key_ne rfl)).trans ((hset_ne (key_ne rfl)).trans hihj46_4)
     refine p_e rfl (e_assign (v := .ref _ _ _ _) rfl) ?_
     refine p_end (hK64 _ ?_); clear hK64 K64
     refine block_norm ?_
     refine seq_norm (hK34 _ ?_); clear hK34 K34
     refine pwp_plain rfl fun K72 hK72 => ?_
     refine p_mS rfl ?_
     refine p_e rfl (e_adL rfl rfl) ?_
     refine p_aS rfl ?_
     refine p_end (hK72 _ ?_); clear hK72 K72
     exact loop_again ((j + 1, (.ref (79, _) 3 0 (rows.length + [[PV.int (k : Int), .int x, pv]].length) : PV), rows ++ [[.int (k : Int), .int x, pv]])) (by show _ < _; simp only; omega) ⟨rfl, rfl, rfl, rfl, rfl, rfl, trivial⟩ ⟨rfl, rfl, trivial⟩ (by exact ⟨by show _ + 1 ≤ _; omega, by first | (rw [dmR_t hx (by omega)]; exact hN) | (rw [dmR_f hx (by omega), List.map_append]; exact hN2), (.ofRef hn66 (by simp)), ho68, ho69, ho70⟩)
  ·have hb33R := hb33; try simp only [zz] at hb33
   have hjj : j = (hts g).length := by first | omega | (simp only [List.length_map, List.length_append, List.length_cons, List.length_nil] at *; omega)
   refine pwp_exit ?_
   refine exit_seq ?_
   clear hK32 K32
   refine exit_loop ?_
   refine exit_here ?_
   refine block_norm ?_
   refine seq_norm (hK24 _ ?_); clear hK24 K24
   refine pwp_plain rfl fun K73 hK73 => ?_
   refine p_mS rfl ?_
   refine p_e rfl (e_adL rfl rfl) ?_
   refine p_aS rfl ?_
   refine p_end (hK73 _ ?_); clear hK73 K73
   exact loop_again ((k + 1, v, rows)) (by show _ < _; simp only; omega) ⟨rfl, rfl, rfl, rfl, rfl, trivial⟩ ⟨rfl, rfl, trivial⟩ (by exact ⟨by show _ + 1 ≤ _; omega, by rw [dmL, ← hjj]; exact hN, (SliceAt.to hihj30_0 (by rfl)), hihj30_1, hihj30_2, hihj30_3⟩)
 ·have hb23R := hb23; try simp only [zz] at hb23
  obtain rfl : k = g.along.length := by simp only [List.length_map] at *; omega
  refine pwp_exit ?_
  refine exit_seq ?_
  clear hK22 K22
  refine exit_loop ?_
  refine exit_here ?_
  refine seq_norm (hK15 _ ?_); clear hK15 K15
  refine pwp_seq_plain rfl fun K74 hK74 => ?_
  refine p_e rfl (e_move (v := _) rfl) ?_
  refine p_e rfl (e_assign (v := _) rfl) ?_
  refine p_end (hK74 _ ?_); clear hK74 K74
  refine pwp_ret ?_
  refine end1 (v := _) rfl ?_
  first
    | exact by rw [dmX_0 haz]; exact out_nest hihj20_0 hN

end Go.Proofs.YtindehoegfiiaaaGreatDoor
