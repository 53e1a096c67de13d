/- The network of a traffic, as the program makes it. No conditions. -/
import Derived.Test.YtigdmkhdmbbfiaaFi
set_option linter.unusedSimpArgs false
set_option linter.unusedVariables false
set_option maxRecDepth 100000
namespace Go.Proofs.Ytigdmkhdmbbfiaa
open Go Go.Pv
theorem xw2 {ops : Array Oper} {R : List Nat} {i j : Nat} {o o' c c' e e' ft ft' hc hc' ef ef'} (hR : okR ops R = true) (h : (Nat.blt j ops.size && (R.getD j 0).testBit i) = true) : XIndep ops ⟨i, o, c, e, ft, hc, ef⟩ ⟨j, o', c', e', ft', hc', ef'⟩ := xw hR rfl rfl h
theorem xpw_start {ops : Array Oper} {R : List Nat} {L : List XIt} (h : okR ops R = true) (f : okR ops R = true → L.Pairwise (XIndep ops)) : L.Pairwise (XIndep ops) := f h
theorem trm_0 {t : Traffic} : TrM (alR t 0 0) [] := fun j => by
 have h1 : ∀ a ∈ alR t 0 0, a.tg = none := fun a ha => by
   simp only [alR, List.range_zero, List.flatMap_nil, List.map_nil, List.append_nil, List.mem_append, List.mem_map, hldL, List.mem_flatMap] at ha
   rcases ha with ⟨s, _, rfl⟩ | ⟨s, _, rfl⟩ | ⟨p, _, d, _, rfl⟩ <;> rfl
 cases h2 : (alR t 0 0)[j]? with
 | none => rfl
 | some a => simp [aGet, h1 a (List.mem_of_getElem? h2)]
theorem xfree_nc {ops : Array Oper} {x y : XIt} {hb ha : Heap} {c : Nat → Nat} (hy : y.hc = some (hb, ha, c)) (hx : x.hc = none) (hap : x.o.apart ops y.o = true) (hc : Go.Pv.Calm x hb ha) : XFree ops x y := by
 refine ⟨hap, ?_⟩
 rw [hx, hy]
 exact hc
theorem frH59 : (inFrame Try.f59.ntmps (Try.f59.body.getD .skip) && Try.f59.results.toList.all (resScope Try.f59.ntmps)) = true := by kernel_rfl
theorem planH (t : Traffic) (hTr : TrOK t) (h0 : Heap) (c0 : Nat → Nat) : HCallsR Try.prog 59 [.agg t.enc] h0 c0 (PlanR t h0 c0) := by
 refine HCallsR.of_code Try.func59 rfl rfl (by kernel_rfl) mixed frH59 (by show _ ≤ 156; simp) ?_
 have hT := hTr
 have q1 := hT.hA
 have q2 := hT.hB
 have q3 := hT.hr
 have q4 := hT.hs
 have q5 := hT.hn
 have hSd : t.places * t.days = ndS t := rfl
 have hEd : ndE t = ndS t + 1 := rfl
 have hS0 : 0 ≤ ndS t := Int.mul_nonneg (by omega) (by omega)
 have hS1 : ndS t ≤ 8 * 20 := Int.mul_le_mul (by omega) (by omega) (by omega) (by omega)
 have hNN : ((NN t : Nat) : Int) = ndS t + 2 := by rw [NN]; omega
 refine pwp_seq_plain rfl fun K1 hK1 => ?_
 refine p_new rfl (e_box (n := 5) rfl rfl) ⟨rfl, by decide⟩ ?_
 refine p_aS rfl ?_
 refine p_end (hK1 _ ?_); clear hK1 K1
 refine pwp_seq_plain rfl fun K2 hK2 => ?_
 refine p_e rfl (e_faQ pl5 rfl) ?_
 refine p_e rfl (e_lH (v := .sc _) rfl (hset_self _ _ _) rfl) ?_
 refine p_e rfl (e_faQ pl5 rfl) ?_
 refine p_e rfl (e_lH (v := .sc _) rfl (hset_self _ _ _) rfl) ?_
 refine p_e rfl (e_mul rfl rfl (by first | omega | (simp only [List.length_map] at *; omega))) ?_
 refine p_aS rfl ?_
 refine p_end (hK2 _ ?_); clear hK2 K2
 refine pwp_seq_gops rfl fun K3 hK3 => ?_
 refine s_begin ?_
 refine s_step [1] (by simp) rfl rfl rfl rfl (e_loadHA (n := 5) (cs := t.enc) rfl (hset_self _ _ _) (by kernel_rfl) (by kernel_rfl) (by kernel_rfl) (by exact Nat.zero_lt_one) (by decide) rfl) trivial ?_
 refine s_e rfl (e_move (v := .sc _) rfl) ?_
 refine s_e rfl (e_adL rfl rfl) ?_
 refine s_new [] (by simp) rfl rfl rfl rfl (e_mkV (n := NN t) rfl rfl (by rw [NN]; omega) (by kernel_rfl) (by kernel_rfl) (by kernel_rfl) (by decide +kernel) (by rw [NN]; omega)) trivial ?_
 refine s_e rfl (e_build (cs := [.nil, .ref (23, cset c0 1 23) 1 0 (NN t)]) (zs := [.nil, .nil]) (pl := [(0, 1, false), (1, 1, false)]) (by kernel_rfl) (by kernel_rfl) (by kernel_rfl) rfl rfl (by exact ⟨by decide, rfl, Nat.le_of_ble_eq_true rfl, rfl, trivial⟩) rfl) ?_
 refine s_e rfl (e_move (v := .sc _) rfl) ?_
 refine s_e rfl (e_move (v := .sc _) rfl) ?_
 refine s_e rfl (e_adL rfl rfl) ?_
 refine s_new [] (by simp) rfl rfl rfl rfl e_mkmap trivial ?_
 refine s_e rfl (e_build (cs := t.enc ++ [.nil, .ref (23, cset c0 1 23) 1 0 (NN t), .int (ndS t), .int (ndE t), .map (28, cset (cset c0 1) 23 28)]) (zs := [.int 0, .int 0, .nil, .nil, .nil, .nil, .nil, .int 0, .int 0, .sc (.map none)]) (pl := [(0, 5, true), (5, 2, true), (7, 1, false), (8, 1, false), (9, 1, false)]) (by kernel_rfl) (by kernel_rfl) (by kernel_rfl) rfl rfl (by exact ⟨by decide, rfl, Nat.le_of_ble_eq_true rfl, rfl, ⟨by decide, rfl, Nat.le_of_ble_eq_true rfl, rfl, ⟨by decide, rfl, Nat.le_of_ble_eq_true rfl, rfl, ⟨by decide, rfl, Nat.le_of_ble_eq_true rfl, rfl, ⟨by decide, rfl, Nat.le_of_ble_eq_true rfl, rfl, trivial⟩⟩⟩⟩⟩) rfl) ?_
 refine s_new [] (by simp) rfl rfl rfl rfl (e_box (n := 10) rfl rfl) ⟨rfl, by decide⟩ ?_
 refine s_e rfl (e_assign (v := .ptr (30, cset (cset (cset c0 1) 23) 28 30) 10 0 0) rfl) ?_
 refine s_end (ds := []) (by kernel_rfl) (by kernel_rfl) (hK3 _ ?_); clear hK3 K3
 refine pwp_seq_plain rfl fun K4 hK4 => ?_
 refine p_aS rfl ?_
 refine p_end (hK4 _ ?_); clear hK4 K4
 refine pwp_seq_seq ?_
 refine pwp_seq_plain rfl fun K5 hK5 => ?_
 refine p_e rfl (e_faQ pl5 rfl) ?_
 refine p_e rfl (e_lH (v := .lit _ _ _) rfl ((hset_ne (key_ne rfl)).trans ((hset_ne (key_ne rfl)).trans ((hset_ne (key_ne rfl)).trans (hset_self _ _ _)))) rfl) ?_
 refine p_e rfl (e_len rfl (by kernel_rfl)) ?_
 refine p_mS rfl ?_
 refine p_end (hK5 _ ?_); clear hK5 K5
 refine pwp_seq_block fun K6 hK6 => ?_
 refine pwp_loopR (α := Nat × Int) [1, 4, 32, 33] (fun (a7 : Nat × Int) => [(5, .int (a7.2)), (34, .int (a7.1))]) (fun (a7 : Nat × Int) (h : Heap) (c : Nat → Nat) => ((a7.1) ≤ t.supplies.length) ∧ ((a7.2) = capS (fun s : Supply => s.count) t.supplies (a7.1)) ∧ (NetA t (NN t) h (cset (cset (cset c0 1) 23) 28 30) (cset c0 1 23) (cset (cset c0 1) 23 28) (alS t (a7.1))) ∧ (MapAt h (28, (cset (cset c0 1) 23 28)) (entsOf iV trV [])) ∧ (OldS c0 h0 h c) ∧ (h (1, c0 1) = some (.rows 5 [Traffic.enc t]))) (fun (a7 : Nat × Int) => t.supplies.length - (a7.1)) (0, 0) (by exact ⟨rfl, rfl, trivial⟩) (by exact ⟨by exact Nat.zero_le _, by exact rfl, by exact NetH.zero (hset_self _ _ _) ((hset_ne (key_ne rfl)).trans ((hset_ne (key_ne rfl)).trans (hset_self _ _ _))), by exact MapAt.keep MapAt.new (hset_ne (key_ne rfl)), by exact OldS.new (d := 30) (OldS.new (d := 28) (OldS.new (d := 23) (OldS.new (d := 1) OldS.refl))), ((hset_ne (key_ne rfl)).trans ((hset_ne (key_ne rfl)).trans ((hset_ne (key_ne rfl)).trans (hset_self _ _ _))))⟩) fun a7 r8 h9 c10 hj11 => ?_
 obtain ⟨k, a⟩ := a7
 obtain ⟨hk, ha, hNA, hM, hO, hihj11_0⟩ := hj11
 try dsimp only at hk
 try dsimp only at ha
 try dsimp only at hNA
 try dsimp only at hM
 try dsimp only at hO
 try dsimp only at hihj11_0
 show pwp _ _ (loopQ _ _ _) ⟨sets (mix _ _ _) [(5, .int a), (34, .int k)], _, _⟩
 refine pwp_seq_plain rfl fun K12 hK12 => ?_
 refine p_e rfl (e_lt rfl rfl) ?_
 refine p_end (hK12 _ ?_); clear hK12 K12
 refine pwp_seq_cond rfl fun K13 hK13 => ⟨fun hb14 => ?_, fun hb14 => ?_⟩
 ·have hb14R := hb14; try simp only [zz] at hb14
  obtain ⟨x, hx, hd, ht⟩ := get_lt (xs := t.supplies) (i := k) (by omega)
  have hxs := hT.sp x (List.mem_of_getElem? hx)
  have hb1 := (capS_b (f := fun s : Supply => s.count) (l := t.supplies) (m := 1000000) (fun y hy => (hT.sp y hy).2.2) (k := k) (by omega))
  have hnr := nd_rng hT (p := x.place) (d := x.day) (by omega) (by omega)
  have hNA_ := hNA
  obtain ⟨vP, vs, hn⟩ := hNA_
  refine pwp_skip ?_
  refine seq_norm (hK13 _ ?_); clear hK13 K13
  refine pwp_seq_block fun K15 hK15 => ?_
  refine pwp_seq_plain rfl fun K16 hK16 => ?_
  refine p_e rfl (e_ixL rfl rfl) ?_
  refine p_e rfl (e_loadA (n := 3) rfl (by kernel_rfl) (by kernel_rfl) (by kernel_rfl) (by first | omega | (simp only [List.length_map]; omega)) (by decide) (by first | exact agg_map hx rfl)) ?_
  refine p_new rfl (e_alloc (cs := [.int 0, .int 0, .int 0]) (n := 3) (by kernel_rfl) rfl (by decide)) (ob_alloc (by decide)) ?_
  refine p_store rfl (e_storeA rfl (hset_self _ _ _) rfl rfl rfl (by kernel_rfl) rfl (by kernel_rfl)) trivial ?_
  refine p_end (hK16 _ ?_); clear hK16 K16
  refine pwp_seq_gops rfl fun K17 hK17 => ?_
  refine s_begin ?_
  refine s_e rfl (e_move (v := .ptr (30, (cset (cset (cset c0 1) 23) 28 30)) 10 0 0) rfl) ?_
  refine s_e rfl (e_nilc rfl) ?_
  refine s_e rfl (e_faQ [(0, 5, true), (5, 2, true), (7, 1, false), (8, 1, false), (9, 1, false)] rfl) ?_
  refine s_e rfl (e_move (v := .ptr (30, (cset (cset (cset c0 1) 23) 28 30)) 10 0 0) rfl) ?_
  refine s_e rfl (e_nilc rfl) ?_
  refine s_e rfl (e_faQ [(0, 5, true), (5, 2, true), (7, 1, false), (8, 1, false), (9, 1, false)] rfl) ?_
  refine s_step [30] (by simp) rfl rfl rfl rfl (e_lH (v := .sc _) rfl ((hset_ne (key_ne rfl)).trans ((hset_ne (key_ne rfl)).trans hn.row)) rfl) trivial ?_
  refine s_e rfl (e_move (v := .ptr (30, (cset (cset (cset c0 1) 23) 28 30)) 10 0 0) rfl) ?_
  refine s_e rfl (e_faQ [(0, 1, false), (1, 1, false), (2, 1, false)] rfl) ?_
  refine s_step [7] (by simp) rfl rfl rfl rfl (e_lH (v := .sc _) rfl (hset_self _ _ _) rfl) trivial ?_
  refine s_e rfl (e_faQ [(0, 1, false), (1, 1, false), (2, 1, false)] rfl) ?_
  refine s_step [7] (by simp) rfl rfl rfl rfl (e_lH (v := .sc _) rfl (hset_self _ _ _) rfl) trivial ?_
  refine s_callM [(30, (cset (cset (cset c0 1) 23) 28 30))] [30] (by simp) rfl rfl rfl rfl (nodeM (X := [_, _, _, _, _]) (a := x.place) (b := x.day) hT (by exact ((hset_ne (key_ne rfl)).trans ((hset_ne (key_ne rfl)).trans hn.row))) (by omega) (by omega)) ?_
  refine s_e rfl (e_faQ [(0, 1, false), (1, 1, false), (2, 1, false)] rfl) ?_
  refine s_step [7] (by simp) rfl rfl rfl rfl (e_lH (v := .sc _) rfl (hset_self _ _ _) rfl) trivial ?_
  refine s_hcall (by kernel_rfl) rfl rfl rfl rfl (addA (by exact (NetX.set rfl rfl rfl rfl rfl (NetX.set rfl rfl rfl rfl rfl hNA))) (alS_len hT) _ _ _ (by omega) (by omega) (by have h9 := nd_rng hT (p := x.place) (d := x.day) (by omega) (by omega); omega) (arS t x) rfl rfl rfl) fun v_ hq cq hR => ?_
  obtain ⟨rfl, hNAq, hFq⟩ := hR
  refine s_end (ds := []) (by kernel_rfl) (by kernel_rfl) (hK17 _ ?_); clear hK17 K17
  have hOq := OldS.fr (by exact (OldS.upd (OldS.new (d := 7) hO) (hO.2 7))) hFq
  have hb1 := (hFq.1 (1, _) rfl).trans ((hset_ne (key_ne rfl)).trans ((hset_ne (key_ne rfl)).trans hihj11_0))
  have hbo := (hFq.1 (7, _) rfl).trans (hset_self _ _ _)
  have hMq := MapAt.keep hM ((hFq.1 (28, _) rfl).trans ((hset_ne (key_ne rfl)).trans ((hset_ne (key_ne rfl)).trans rfl)))
  have hNA2 := (alS_s hx ▸ hNAq : NetA t _ _ _ _ _ (alS t (k + 1))); clear hNAq
  refine pwp_plain rfl fun K18 hK18 => ?_
  refine p_mS rfl ?_
  refine p_e rfl (e_faQ pl3 rfl) ?_
  refine p_e rfl (e_lH (v := .sc _) rfl hbo rfl) ?_
  refine p_e rfl (e_adL rfl rfl) ?_
  refine p_aS rfl ?_
  refine p_end (hK18 _ ?_); clear hK18 K18
  refine block_norm ?_
  refine seq_norm (hK15 _ ?_); clear hK15 K15
  refine pwp_plain rfl fun K19 hK19 => ?_
  refine p_e rfl (e_adL rfl rfl) ?_
  refine p_mS rfl ?_
  refine p_end (hK19 _ ?_); clear hK19 K19
  exact loop_again ((k + 1, (a + x.count))) (by show _ < _; simp only; omega) ⟨rfl, rfl, rfl, rfl, trivial⟩ ⟨rfl, rfl, trivial⟩ (by exact ⟨by show _ + 1 ≤ _; simp only [List.length_map] at *; omega, by rw [capS_s hx, ← ha], by exact hNA2, by exact hMq, by exact hOq, hb1⟩)
 ·have hb14R := hb14; try simp only [zz] at hb14
  have haC : a = allC t := by rw [ha, capS_n (n := t.supplies.length) (by simp only [List.length_map] at *; omega) (Nat.le_refl _), sumL_cap]; rfl
  have hb1 := (capS_b (f := fun s : Supply => s.count) (l := t.supplies) (m := 1000000) (fun y hy => (hT.sp y hy).2.2) (k := t.supplies.length) (by omega))
  have hal1 : 0 ≤ allC t ∧ allC t ≤ 1000000 * (t.supplies.length : Int) := by rw [allC, ← sumL_cap]; exact hb1
  refine pwp_exit ?_
  refine exit_seq ?_
  clear hK13 K13
  refine exit_loop ?_
  refine exit_here ?_
  refine seq_norm (hK6 _ ?_); clear hK6 K6
  refine pwp_seq_seq ?_
  refine pwp_seq_plain rfl fun K20 hK20 => ?_
  refine p_e rfl (e_faQ pl5 rfl) ?_
  refine p_e rfl (e_lH (v := .lit _ _ _) rfl hihj11_0 rfl) ?_
  refine p_e rfl (e_len rfl (by kernel_rfl)) ?_
  refine p_mS rfl ?_
  refine p_end (hK20 _ ?_); clear hK20 K20
  refine pwp_seq_block fun K21 hK21 => ?_
  refine pwp_loopR (α := Nat) [1, 4, 5, 60, 61] (fun (k : Nat) => [(62, .int (k))]) (fun (k : Nat) (h : Heap) (c : Nat → Nat) => ((k) ≤ t.needs.length) ∧ (NetA t (NN t) h (cset (cset (cset c0 1) 23) 28 30) (cset c0 1 23) (cset (cset c0 1) 23 28) (alN t (k))) ∧ (MapAt h (28, (cset (cset c0 1) 23 28)) (entsOf iV trV [])) ∧ (OldS c0 h0 h c) ∧ (h (1, c0 1) = some (.rows 5 [Traffic.enc t]))) (fun (k : Nat) => t.needs.length - (k)) (0) (by exact ⟨rfl, trivial⟩) (by exact ⟨by exact Nat.zero_le _, by exact (alS_e (t := t) (k := k) (by simp only [List.length_map] at *; omega) ▸ hNA : NetA t _ _ _ _ _ (alN t 0)), by exact hM, by exact hO, hihj11_0⟩) fun k r22 h23 c24 hj25 => ?_
  obtain ⟨hk, hNA, hM, hO, hihj25_0⟩ := hj25
  try dsimp only at hk
  try dsimp only at hNA
  try dsimp only at hM
  try dsimp only at hO
  try dsimp only at hihj25_0
  show pwp _ _ (loopQ _ _ _) ⟨sets (mix _ _ _) [(62, .int k)], _, _⟩
  refine pwp_seq_plain rfl fun K26 hK26 => ?_
  refine p_e rfl (e_lt rfl rfl) ?_
  refine p_end (hK26 _ ?_); clear hK26 K26
  refine pwp_seq_cond rfl fun K27 hK27 => ⟨fun hb28 => ?_, fun hb28 => ?_⟩
  ·have hb28R := hb28; try simp only [zz] at hb28
   obtain ⟨x, hx, hd, ht⟩ := get_lt (xs := t.needs) (i := k) (by omega)
   have hxs := hT.nd x (List.mem_of_getElem? hx)
   have hnr := nd_rng hT (p := x.place) (d := x.day) (by omega) (by omega)
   have hNA_ := hNA
   obtain ⟨vP, vs, hn⟩ := hNA_
   refine pwp_skip ?_
   refine seq_norm (hK27 _ ?_); clear hK27 K27
   refine pwp_seq_block fun K29 hK29 => ?_
   refine pwp_seq_plain rfl fun K30 hK30 => ?_
   refine p_e rfl (e_ixL rfl rfl) ?_
   refine p_e rfl (e_loadA (n := 3) rfl (by kernel_rfl) (by kernel_rfl) (by kernel_rfl) (by first | omega | (simp only [List.length_map]; omega)) (by decide) (by first | exact agg_map hx rfl)) ?_
   refine p_new rfl (e_alloc (cs := [.int 0, .int 0, .int 0]) (n := 3) (by kernel_rfl) rfl (by decide)) (ob_alloc (by decide)) ?_
   refine p_store rfl (e_storeA rfl (hset_self _ _ _) rfl rfl rfl (by kernel_rfl) rfl (by kernel_rfl)) trivial ?_
   refine p_end (hK30 _ ?_); clear hK30 K30
   refine pwp_gops rfl fun K31 hK31 => ?_
   refine s_begin ?_
   refine s_e rfl (e_move (v := .ptr (30, (cset (cset (cset c0 1) 23) 28 30)) 10 0 0) rfl) ?_
   refine s_e rfl (e_nilc rfl) ?_
   refine s_e rfl (e_faQ [(0, 5, true), (5, 2, true), (7, 1, false), (8, 1, false), (9, 1, false)] rfl) ?_
   refine s_e rfl (e_move (v := .ptr (30, (cset (cset (cset c0 1) 23) 28 30)) 10 0 0) rfl) ?_
   refine s_e rfl (e_faQ [(0, 1, false), (1, 1, false), (2, 1, false)] rfl) ?_
   refine s_step [9] (by simp) rfl rfl rfl rfl (e_lH (v := .sc _) rfl (hset_self _ _ _) rfl) trivial ?_
   refine s_e rfl (e_faQ [(0, 1, false), (1, 1, false), (2, 1, false)] rfl) ?_
   refine s_step [9] (by simp) rfl rfl rfl rfl (e_lH (v := .sc _) rfl (hset_self _ _ _) rfl) trivial ?_
   refine s_callM [(30, (cset (cset (cset c0 1) 23) 28 30))] [30] (by simp) rfl rfl rfl rfl (nodeM (X := [_, _, _, _, _]) (a := x.place) (b := x.day) hT (by exact ((hset_ne (key_ne rfl)).trans ((hset_ne (key_ne rfl)).trans hn.row))) (by omega) (by omega)) ?_
   refine s_e rfl (e_move (v := .ptr (30, (cset (cset (cset c0 1) 23) 28 30)) 10 0 0) rfl) ?_
   refine s_e rfl (e_nilc rfl) ?_
   refine s_e rfl (e_faQ [(0, 5, true), (5, 2, true), (7, 1, false), (8, 1, false), (9, 1, false)] rfl) ?_
   refine s_step [30] (by simp) rfl rfl rfl rfl (e_lH (v := .sc _) rfl ((hset_ne (key_ne rfl)).trans ((hset_ne (key_ne rfl)).trans hn.row)) rfl) trivial ?_
   refine s_e rfl (e_faQ [(0, 1, false), (1, 1, false), (2, 1, false)] rfl) ?_
   refine s_step [9] (by simp) rfl rfl rfl rfl (e_lH (v := .sc _) rfl (hset_self _ _ _) rfl) trivial ?_
   refine s_hcall (by kernel_rfl) rfl rfl rfl rfl (addA (by exact (NetX.set rfl rfl rfl rfl rfl (NetX.set rfl rfl rfl rfl rfl hNA))) (alN_len hT) _ _ _ (by omega) (by omega) (by have h9 := nd_rng hT (p := x.place) (d := x.day) (by omega) (by omega); omega) (arN t x) rfl rfl rfl) fun v_ hq cq hR => ?_
   obtain ⟨rfl, hNAq, hFq⟩ := hR
   refine s_end (ds := []) (by kernel_rfl) (by kernel_rfl) (hK31 _ ?_); clear hK31 K31
   have hOq := OldS.fr (by exact (OldS.upd (OldS.new (d := 9) hO) (hO.2 9))) hFq
   have hb1 := (hFq.1 (1, _) rfl).trans ((hset_ne (key_ne rfl)).trans ((hset_ne (key_ne rfl)).trans hihj25_0))
   have hbo := (hFq.1 (9, _) rfl).trans (hset_self _ _ _)
   have hMq := MapAt.keep hM ((hFq.1 (28, _) rfl).trans ((hset_ne (key_ne rfl)).trans ((hset_ne (key_ne rfl)).trans rfl)))
   have hNA2 := (alN_s hx ▸ hNAq : NetA t _ _ _ _ _ (alN t (k + 1))); clear hNAq
   refine block_norm ?_
   refine seq_norm (hK29 _ ?_); clear hK29 K29
   refine pwp_plain rfl fun K32 hK32 => ?_
   refine p_e rfl (e_adL rfl rfl) ?_
   refine p_mS rfl ?_
   refine p_end (hK32 _ ?_); clear hK32 K32
   exact loop_again (k + 1) (by show _ < _; omega) ⟨rfl, rfl, rfl, rfl, rfl, trivial⟩ ⟨rfl, trivial⟩ (by exact ⟨by show _ + 1 ≤ _; simp only [List.length_map] at *; omega, by exact hNA2, by exact hMq, by exact hOq, hb1⟩)
  ·have hb28R := hb28; try simp only [zz] at hb28
   refine pwp_exit ?_
   refine exit_seq ?_
   clear hK27 K27
   refine exit_loop ?_
   refine exit_here ?_
   refine seq_norm (hK21 _ ?_); clear hK21 K21
   refine pwp_seq_seq ?_
   refine pwp_seq_plain rfl fun K33 hK33 => ?_
   refine p_e rfl (e_faQ pl5 rfl) ?_
   refine p_e rfl (e_lH (v := .sc _) rfl hihj25_0 rfl) ?_
   refine p_mS rfl ?_
   refine p_end (hK33 _ ?_); clear hK33 K33
   refine pwp_seq_block fun K34 hK34 => ?_
   refine pwp_loopR (α := Nat) [1, 4, 5, 84] (fun (p : Nat) => [(85, .int (p))]) (fun (p : Nat) (h : Heap) (c : Nat → Nat) => (((p) : Int) ≤ t.places) ∧ (NetA t (NN t) h (cset (cset (cset c0 1) 23) 28 30) (cset c0 1 23) (cset (cset c0 1) 23 28) (alH t (p) 0)) ∧ (MapAt h (28, (cset (cset c0 1) 23 28)) (entsOf iV trV [])) ∧ (OldS c0 h0 h c) ∧ (h (1, c0 1) = some (.rows 5 [Traffic.enc t]))) (fun (p : Nat) => t.places.toNat - (p)) (0) (by exact ⟨rfl, trivial⟩) (by exact ⟨by show (0 : Int) ≤ _; omega, by exact (alN_e (t := t) (k := k) (by simp only [List.length_map] at *; omega) ▸ hNA : NetA t _ _ _ _ _ (alH t 0 0)), by exact hM, by exact hO, hihj25_0⟩) fun p r35 h36 c37 hj38 => ?_
   obtain ⟨hp, hNA, hM, hO, hihj38_0⟩ := hj38
   try dsimp only at hp
   try dsimp only at hNA
   try dsimp only at hM
   try dsimp only at hO
   try dsimp only at hihj38_0
   show pwp _ _ (loopQ _ _ _) ⟨sets (mix _ _ _) [(85, .int p)], _, _⟩
   refine pwp_seq_plain rfl fun K39 hK39 => ?_
   refine p_e rfl (e_lt rfl rfl) ?_
   refine p_end (hK39 _ ?_); clear hK39 K39
   refine pwp_seq_cond rfl fun K40 hK40 => ⟨fun hb41 => ?_, fun hb41 => ?_⟩
   ·have hb41R := hb41; try simp only [zz] at hb41
    have hNA_ := hNA
    obtain ⟨vP, vs, hn⟩ := hNA_
    refine pwp_skip ?_
    refine seq_norm (hK40 _ ?_); clear hK40 K40
    refine pwp_seq_block fun K42 hK42 => ?_
    refine pwp_seq_plain rfl fun K43 hK43 => ?_
    refine p_mS rfl ?_
    refine p_aS rfl ?_
    refine p_end (hK43 _ ?_); clear hK43 K43
    refine pwp_seq_plain rfl fun K44 hK44 => ?_
    refine p_e rfl (e_faQ pl5 rfl) ?_
    refine p_e rfl (e_lH (v := .sc _) rfl hihj38_0 rfl) ?_
    refine p_e rfl (e_sub rfl rfl (by first | omega | (simp only [List.length_map] at *; omega))) ?_
    refine p_mS rfl ?_
    refine p_end (hK44 _ ?_); clear hK44 K44
    refine pwp_block ?_
    refine pwp_loopR (α := Nat) [1, 4, 5, 10, 84, 85, 90] (fun (d : Nat) => [(91, .int (d))]) (fun (d : Nat) (h : Heap) (c : Nat → Nat) => (((d) : Int) ≤ t.days - 1) ∧ (NetA t (NN t) h (cset (cset (cset c0 1) 23) 28 30) (cset c0 1 23) (cset (cset c0 1) 23 28) (alH t p (d))) ∧ (MapAt h (28, (cset (cset c0 1) 23 28)) (entsOf iV trV [])) ∧ (OldS c0 h0 h c) ∧ (h (1, c0 1) = some (.rows 5 [Traffic.enc t]))) (fun (d : Nat) => 20 - (d)) (0) (by exact ⟨rfl, trivial⟩) (by exact ⟨by show (0 : Int) ≤ _; omega, by exact hNA, by exact hM, by exact hO, hihj38_0⟩) fun d r45 h46 c47 hj48 => ?_
    obtain ⟨hd, hNA, hM, hO, hihj48_0⟩ := hj48
    try dsimp only at hd
    try dsimp only at hNA
    try dsimp only at hM
    try dsimp only at hO
    try dsimp only at hihj48_0
    show pwp _ _ (loopQ _ _ _) ⟨sets (mix _ _ _) [(91, .int d)], _, _⟩
    refine pwp_seq_plain rfl fun K49 hK49 => ?_
    refine p_e rfl (e_lt rfl rfl) ?_
    refine p_end (hK49 _ ?_); clear hK49 K49
    refine pwp_seq_cond rfl fun K50 hK50 => ⟨fun hb51 => ?_, fun hb51 => ?_⟩
    ·have hb51R := hb51; try simp only [zz] at hb51
     have hn1 := nd_rng hT (p := (p : Int)) (d := (d : Int)) (by omega) (by omega)
     have hn2 := nd_rng hT (p := (p : Int)) (d := (d : Int) + 1) (by omega) (by omega)
     have hNA_ := hNA
     obtain ⟨vP, vs, hn⟩ := hNA_
     refine pwp_skip ?_
     refine seq_norm (hK50 _ ?_); clear hK50 K50
     refine pwp_seq_block fun K52 hK52 => ?_
     refine pwp_seq_plain rfl fun K53 hK53 => ?_
     refine p_mS rfl ?_
     refine p_aS rfl ?_
     refine p_end (hK53 _ ?_); clear hK53 K53
     refine pwp_gops rfl fun K54 hK54 => ?_
     refine s_begin ?_
     refine s_e rfl (e_move (v := .ptr (30, (cset (cset (cset c0 1) 23) 28 30)) 10 0 0) rfl) ?_
     refine s_e rfl (e_nilc rfl) ?_
     refine s_e rfl (e_faQ [(0, 5, true), (5, 2, true), (7, 1, false), (8, 1, false), (9, 1, false)] rfl) ?_
     refine s_e rfl (e_move (v := .ptr (30, (cset (cset (cset c0 1) 23) 28 30)) 10 0 0) rfl) ?_
     refine s_e rfl (e_move (v := .sc _) rfl) ?_
     refine s_e rfl (e_move (v := .sc _) rfl) ?_
     refine s_callM [(30, (cset (cset (cset c0 1) 23) 28 30))] [30] (by simp) rfl rfl rfl rfl (nodeM (X := [_, _, _, _, _]) (a := (p : Int)) (b := (d : Int)) hT (by exact hn.row) (by omega) (by omega)) ?_
     refine s_e rfl (e_move (v := .ptr (30, (cset (cset (cset c0 1) 23) 28 30)) 10 0 0) rfl) ?_
     refine s_e rfl (e_move (v := .sc _) rfl) ?_
     refine s_e rfl (e_move (v := .sc _) rfl) ?_
     refine s_e rfl (e_adL rfl rfl) ?_
     refine s_callM [(30, (cset (cset (cset c0 1) 23) 28 30))] [30] (by simp) rfl rfl rfl rfl (nodeM (X := [_, _, _, _, _]) (a := (p : Int)) (b := ((d : Int) + 1)) hT (by exact hn.row) (by omega) (by omega)) ?_
     refine s_e rfl (e_move (v := .sc _) rfl) ?_
     refine s_e rfl (e_adL rfl rfl) ?_
     refine s_hcall (by kernel_rfl) rfl rfl rfl rfl (addA (by exact hNA) (alH_len hT (by omega) (by omega)) _ _ _ (by omega) (by omega) nd_n1 (arH t p d) rfl rfl (by rw [haC]; rfl)) fun v_ hq cq hR => ?_
     obtain ⟨rfl, hNAq, hFq⟩ := hR
     refine s_end (ds := []) (by kernel_rfl) (by kernel_rfl) (hK54 _ ?_); clear hK54 K54
     have hOq := OldS.fr (by exact hO) hFq
     have hb1 := (hFq.1 (1, _) rfl).trans hihj48_0
     have hMq := MapAt.keep hM ((hFq.1 (28, _) rfl).trans rfl)
     have hNA2 := (alH_s ▸ hNAq : NetA t _ _ _ _ _ (alH t p (d + 1))); clear hNAq
     refine block_norm ?_
     refine seq_norm (hK52 _ ?_); clear hK52 K52
     refine pwp_plain rfl fun K55 hK55 => ?_
     refine p_e rfl (e_adL rfl rfl) ?_
     refine p_mS rfl ?_
     refine p_end (hK55 _ ?_); clear hK55 K55
     exact loop_again (d + 1) (by show _ < _; omega) ⟨rfl, rfl, rfl, rfl, rfl, rfl, rfl, trivial⟩ ⟨rfl, trivial⟩ (by exact ⟨by show ((_ + 1 : Nat) : Int) ≤ _; omega, by exact hNA2, by exact hMq, by exact hOq, hb1⟩)
    ·have hb51R := hb51; try simp only [zz] at hb51
     refine pwp_exit ?_
     refine exit_seq ?_
     clear hK50 K50
     refine exit_loop ?_
     refine exit_here ?_
     refine block_norm ?_
     refine seq_norm (hK42 _ ?_); clear hK42 K42
     refine pwp_plain rfl fun K56 hK56 => ?_
     refine p_e rfl (e_adL rfl rfl) ?_
     refine p_mS rfl ?_
     refine p_end (hK56 _ ?_); clear hK56 K56
     exact loop_again (p + 1) (by show _ < _; omega) ⟨rfl, rfl, rfl, rfl, trivial⟩ ⟨rfl, trivial⟩ (by exact ⟨by show ((_ + 1 : Nat) : Int) ≤ _; omega, by exact (alH_e (t := t) (p := p) (d := d) (by omega) ▸ hNA : NetA t _ _ _ _ _ (alH t (p + 1) 0)), by exact hM, by exact hO, hihj48_0⟩)
   ·have hb41R := hb41; try simp only [zz] at hb41
    have hpp : p = t.places.toNat := by omega
    refine pwp_exit ?_
    refine exit_seq ?_
    clear hK40 K40
    refine exit_loop ?_
    refine exit_here ?_
    refine seq_norm (hK34 _ ?_); clear hK34 K34
    refine pwp_seq_seq ?_
    refine pwp_seq_plain rfl fun K57 hK57 => ?_
    refine p_e rfl (e_faQ pl5 rfl) ?_
    refine p_e rfl (e_lH (v := .lit _ _ _) rfl hihj38_0 rfl) ?_
    refine p_e rfl (e_len rfl (by kernel_rfl)) ?_
    refine p_mS rfl ?_
    refine p_end (hK57 _ ?_); clear hK57 K57
    refine pwp_seq_block fun K58 hK58 => ?_
    refine pwp_loopR (α := Nat × (List (Int × Trip))) [1, 4, 112, 113] (fun (a59 : Nat × (List (Int × Trip))) => [(114, .int (a59.1))]) (fun (a59 : Nat × (List (Int × Trip))) (h : Heap) (c : Nat → Nat) => ((a59.1) ≤ t.routes.length) ∧ (TrM (alR t (a59.1) 0) (a59.2)) ∧ (NetA t (NN t) h (cset (cset (cset c0 1) 23) 28 30) (cset c0 1 23) (cset (cset c0 1) 23 28) (alR t (a59.1) 0)) ∧ (MapAt h (28, (cset (cset c0 1) 23 28)) (entsOf iV trV (a59.2))) ∧ (OldS c0 h0 h c) ∧ (h (1, c0 1) = some (.rows 5 [Traffic.enc t]))) (fun (a59 : Nat × (List (Int × Trip))) => t.routes.length - (a59.1)) (0, []) (by exact ⟨rfl, trivial⟩) (by exact ⟨by exact Nat.zero_le _, by exact trm_0, by exact (alH_z (t := t) hpp ▸ hNA : NetA t _ _ _ _ _ (alR t 0 0)), by exact hM, by exact hO, hihj38_0⟩) fun a59 r60 h61 c62 hj63 => ?_
    obtain ⟨i, m⟩ := a59
    obtain ⟨hi, hTM, hNA, hM, hO, hihj63_0⟩ := hj63
    try dsimp only at hi
    try dsimp only at hTM
    try dsimp only at hNA
    try dsimp only at hM
    try dsimp only at hO
    try dsimp only at hihj63_0
    show pwp _ _ (loopQ _ _ _) ⟨sets (mix _ _ _) [(114, .int i)], _, _⟩
    refine pwp_seq_plain rfl fun K64 hK64 => ?_
    refine p_e rfl (e_lt rfl rfl) ?_
    refine p_end (hK64 _ ?_); clear hK64 K64
    refine pwp_seq_cond rfl fun K65 hK65 => ⟨fun hb66 => ?_, fun hb66 => ?_⟩
    ·have hb66R := hb66; try simp only [zz] at hb66
     obtain ⟨x, hx, hd, ht⟩ := get_lt (xs := t.routes) (i := i) (by omega)
     have hxs := hT.rt x (List.mem_of_getElem? hx)
     have hxD : t.routes.getD i default = x := by rw [List.getD_eq_getElem?_getD, hx]; rfl
     have hNA_ := hNA
     obtain ⟨vP, vs, hn⟩ := hNA_
     refine pwp_skip ?_
     refine seq_norm (hK65 _ ?_); clear hK65 K65
     refine pwp_seq_block fun K67 hK67 => ?_
     refine pwp_seq_plain rfl fun K68 hK68 => ?_
     refine p_mS rfl ?_
     refine p_e rfl (e_ixL rfl rfl) ?_
     refine p_e rfl (e_loadA (n := 4) rfl (by kernel_rfl) (by kernel_rfl) (by kernel_rfl) (by first | omega | (simp only [List.length_map]; omega)) (by decide) (by first | exact agg_map hx rfl)) ?_
     refine p_new rfl (e_alloc (cs := [.int 0, .int 0, .int 0, .int 0]) (n := 4) (by kernel_rfl) rfl (by decide)) (ob_alloc (by decide)) ?_
     refine p_aS rfl ?_
     refine p_store rfl (e_storeA rfl (hset_self _ _ _) rfl rfl rfl (by kernel_rfl) rfl (by kernel_rfl)) trivial ?_
     refine p_end (hK68 _ ?_); clear hK68 K68
     refine pwp_seq_plain rfl fun K69 hK69 => ?_
     refine p_aS rfl ?_
     refine p_end (hK69 _ ?_); clear hK69 K69
     refine pwp_block ?_
     refine pwp_loopR (α := Nat × (List (Int × Trip))) [1, 4, 12, 13, 112, 113, 114] (fun (a70 : Nat × (List (Int × Trip))) => [(14, .int (a70.1))]) (fun (a70 : Nat × (List (Int × Trip))) (h : Heap) (c : Nat → Nat) => (((a70.1) : Int) = 0 ∨ ((a70.1) : Int) - 1 + x.days < t.days) ∧ (TrM (alR t i (a70.1)) (a70.2)) ∧ (NetA t (NN t) h (cset (cset (cset c0 1) 23) 28 30) (cset c0 1 23) (cset (cset c0 1) 23 28) (alR t i (a70.1))) ∧ (MapAt h (28, (cset (cset c0 1) 23 28)) (entsOf iV trV (a70.2))) ∧ (OldS c0 h0 h c) ∧ (h (1, c0 1) = some (.rows 5 [Traffic.enc t])) ∧ (h (13, c62 13) = some (.rows 4 [Route.enc x]))) (fun (a70 : Nat × (List (Int × Trip))) => 20 - (a70.1)) (0, m) (by exact ⟨rfl, trivial⟩) (by exact ⟨by exact .inl rfl, by exact hTM, by exact (NetX.set rfl rfl rfl rfl rfl (NetX.set rfl rfl rfl rfl rfl hNA)), by exact MapAt.keep hM ((hset_ne (key_ne rfl)).trans ((hset_ne (key_ne rfl)).trans rfl)), by exact (OldS.upd (OldS.new (d := 13) hO) (hO.2 13)), ((hset_ne (key_ne rfl)).trans ((hset_ne (key_ne rfl)).trans hihj63_0)), (hset_self _ _ _)⟩) fun a70 r71 h72 c73 hj74 => ?_
     obtain ⟨d, m2⟩ := a70
     obtain ⟨hd, hTM, hNA, hM, hO, hihj74_0, hihj74_1⟩ := hj74
     try dsimp only at hd
     try dsimp only at hTM
     try dsimp only at hNA
     try dsimp only at hM
     try dsimp only at hO
     try dsimp only at hihj74_0
     try dsimp only at hihj74_1
     show pwp _ _ (loopQ _ _ _) ⟨sets (mix _ _ _) [(14, .int d)], _, _⟩
     refine pwp_seq_seq ?_
     refine pwp_seq_plain rfl fun K75 hK75 => ?_
     refine p_mS rfl ?_
     refine p_e rfl (e_faQ pl4 rfl) ?_
     refine p_e rfl (e_lH (v := .sc _) rfl hihj74_1 rfl) ?_
     refine p_e rfl (e_adL rfl rfl) ?_
     refine p_e rfl (e_faQ pl5 rfl) ?_
     refine p_e rfl (e_lH (v := .sc _) rfl hihj74_0 rfl) ?_
     refine p_e rfl (e_lt rfl rfl) ?_
     refine p_end (hK75 _ ?_); clear hK75 K75
     refine pwp_seq_cond rfl fun K76 hK76 => ⟨fun hb77 => ?_, fun hb77 => ?_⟩
     ·have hb77R := hb77; try simp only [zz] at hb77
      have hn1 := nd_rng hT (p := x.fro) (d := (d : Int)) (by omega) (by omega)
      have hn2 := nd_rng hT (p := x.til) (d := (d : Int) + x.days) (by omega) (by omega)
      have hNA_ := hNA
      obtain ⟨vP, vs, hn⟩ := hNA_
      refine pwp_skip ?_
      refine seq_norm (hK76 _ ?_); clear hK76 K76
      refine pwp_seq_block fun K78 hK78 => ?_
      have hrl := alR_len (i := i) (d := d) hT (by omega) (by omega)
      obtain ⟨hq, cq, hNAq, hFq, hCall⟩ := addA_ex (c0 := c73) hNA hrl (ndI t x.fro (d : Int)) (ndI t x.til ((d : Int) + x.days)) x.most (by omega) (by omega) (nd_ne (by omega) (by omega) (by omega) hxs.2.2.1) (arR t i x d) rfl rfl rfl
      have hMq0 := MapAt.keep hM (hFq.1 (28, _) rfl)
      have hNAq_ := hNAq
      obtain ⟨vP2, vs2, hn2⟩ := hNAq_
      refine pwp_x fun K79 hK79 => ?_
      refine x_step rfl rfl rfl (e_move (v := .ptr (30, (cset (cset (cset c0 1) 23) 28 30)) 10 0 0) rfl) trivial ?_
      refine x_step rfl rfl rfl (e_nilc rfl) trivial ?_
      refine x_step rfl rfl rfl (e_faQ [(0, 5, true), (5, 2, true), (7, 1, false), (8, 1, false), (9, 1, false)] rfl) trivial ?_
      refine x_step rfl rfl rfl (e_lH (v := .map (28, (cset (cset c0 1) 23 28))) rfl hn.row rfl) trivial ?_
      refine x_step rfl rfl rfl (e_move (v := .ptr (30, (cset (cset (cset c0 1) 23) 28 30)) 10 0 0) rfl) trivial ?_
      refine x_step rfl rfl rfl (e_nilc rfl) trivial ?_
      refine x_step rfl rfl rfl (e_faQ [(0, 5, true), (5, 2, true), (7, 1, false), (8, 1, false), (9, 1, false)] rfl) trivial ?_
      refine x_step rfl rfl rfl (e_move (v := .ptr (30, (cset (cset (cset c0 1) 23) 28 30)) 10 0 0) rfl) trivial ?_
      refine x_step rfl rfl rfl (e_faQ [(0, 1, false), (1, 1, false), (2, 1, false), (3, 1, false)] rfl) trivial ?_
      refine x_step rfl rfl rfl (e_lH (v := .sc _) rfl hihj74_1 rfl) trivial ?_
      refine x_step rfl rfl rfl (e_move (v := .sc _) rfl) trivial ?_
      refine x_callM [(30, (cset (cset (cset c0 1) 23) 28 30))] rfl rfl rfl rfl (nodeM (X := [_, _, _, _, _]) (a := x.fro) (b := (d : Int)) hT hn.row (by omega) (by omega)) ?_
      refine x_step rfl rfl rfl (e_move (v := .ptr (30, (cset (cset (cset c0 1) 23) 28 30)) 10 0 0) rfl) trivial ?_
      refine x_step rfl rfl rfl (e_faQ [(0, 1, false), (1, 1, false), (2, 1, false), (3, 1, false)] rfl) trivial ?_
      refine x_step rfl rfl rfl (e_lH (v := .sc _) rfl hihj74_1 rfl) trivial ?_
      refine x_step rfl rfl rfl (e_move (v := .sc _) rfl) trivial ?_
      refine x_step rfl rfl rfl (e_faQ [(0, 1, false), (1, 1, false), (2, 1, false), (3, 1, false)] rfl) trivial ?_
      refine x_step rfl rfl rfl (e_lH (v := .sc _) rfl hihj74_1 rfl) trivial ?_
      refine x_step rfl rfl rfl (e_adL rfl rfl) trivial ?_
      refine x_callM [(30, (cset (cset (cset c0 1) 23) 28 30))] rfl rfl rfl rfl (nodeM (X := [_, _, _, _, _]) (a := x.til) (b := ((d : Int) + x.days)) hT hn.row (by omega) (by omega)) ?_
      refine x_step rfl rfl rfl (e_faQ [(0, 1, false), (1, 1, false), (2, 1, false), (3, 1, false)] rfl) trivial ?_
      refine x_step rfl rfl rfl (e_lH (v := .sc _) rfl hihj74_1 rfl) trivial ?_
      refine x_hcall rfl rfl rfl hCall ?_
      refine x_step rfl rfl rfl (e_move (v := .sc _) rfl) trivial ?_
      refine x_step rfl rfl rfl (e_move (v := .sc _) rfl) trivial ?_
      refine x_step rfl rfl rfl (e_build (cs := Trip.enc ⟨(i : Int), (d : Int), 0⟩) (zs := [.int 0, .int 0, .int 0]) (pl := [(0, 1, false), (1, 1, false), (2, 1, false)]) (by kernel_rfl) (by kernel_rfl) (by kernel_rfl) rfl rfl (by exact ⟨by decide, rfl, Nat.le_of_ble_eq_true rfl, rfl, ⟨by decide, rfl, Nat.le_of_ble_eq_true rfl, rfl, trivial⟩⟩) rfl) trivial ?_
      refine x_store rfl rfl rfl rfl (e_msetV (kt := 3) (et := 146) (f := iV) (g := trV) (a := ((2 * (alR t i d).length : Nat) : Int)) (b := ⟨(i : Int), (d : Int), 0⟩) iV_eq iV_ok rfl rfl rfl rfl hMq0 (by kernel_rfl)) trivial ?_
      refine x_end ?_ rfl (hK79 _ ?_)
      ·skip
       simp only [List.nil_append, List.cons_append]
       refine xpw_start (R := [0, 1, 3, 7, 0, 16, 48, 0, 0, 256, 0, 1920, 0, 0, 8192, 0, 0, 65536, 229376, 524160, 0, 1048576, 4194288, 0, 0, 25165824, 67108863]) (by kernel_rfl) fun hW => ?_
       iterate 26
        refine List.Pairwise.cons (fun y hy => ?_) ?_
        ·simp only [List.mem_cons, List.not_mem_nil] at hy
         repeat
          rcases hy with rfl | hy
          ·first | exact xw2 hW rfl | exact .inr (xfree_nn rfl rfl (by kernel_rfl) rfl rfl rfl) | exact .inr (xfree_cn rfl rfl (by kernel_rfl) ⟨rfl, rfl, rfl, fun _ => rfl⟩) | exact .inr (xfree_nc rfl rfl (by kernel_rfl) ⟨rfl, rfl, rfl, fun _ => rfl⟩) | exact .inr (xfree_nc rfl rfl (by kernel_rfl) ⟨rfl, rfl, rfl, fun _ => (by dsimp only; exact (e_lH (k := (30, (cset (cset (cset c0 1) 23) 28 30))) (sz := 10) (i := 0) (j := 9) (v := .map (28, (cset (cset c0 1) 23 28))) rfl hn.row rfl).trans (e_lH (k := (30, (cset (cset (cset c0 1) 23) 28 30))) (sz := 10) (i := 0) (j := 9) (v := .map (28, (cset (cset c0 1) 23 28))) rfl hn2.row rfl).symm)⟩)
         cases hy
       exact List.Pairwise.cons (by intro y hy; simp at hy) .nil
      clear hK79 K79
      have hOq := OldS.upd (k := (28, (cset (cset c0 1) 23 28))) (o := some (mSet (hq (28, (cset (cset c0 1) 23 28))) (iV ((2 * (alR t i d).length : Nat) : Int)) (trV ⟨(i : Int), (d : Int), 0⟩))) (OldS.fr (by exact hO) hFq) (by show c0 28 ≤ cset (cset c0 1) 23 28; exact Nat.le_trans (cset_le _ 1 _) (cset_le _ 23 _))
      have hMq := MapAt.set (f := iV) (g := trV) iV_eq hMq0 ((2 * (alR t i d).length : Nat) : Int) ⟨(i : Int), (d : Int), 0⟩
      have hNA2 : NetA t (NN t) (hset hq (28, (cset (cset c0 1) 23 28)) (some (mSet (hq (28, (cset (cset c0 1) 23 28))) (iV ((2 * (alR t i d).length : Nat) : Int)) (trV ⟨(i : Int), (d : Int), 0⟩)))) (cset (cset (cset c0 1) 23) 28 30) (cset c0 1 23) (cset (cset c0 1) 23 28) (alR t i (d + 1)) := NetX.set rfl rfl rfl rfl rfl (alR_s hxD ▸ hNAq)
      have hTMq : TrM (alR t i (d + 1)) _ := alR_s hxD ▸ TrM.some (x := arR t i x d) (z := ((i : Int), (d : Int))) hTM rfl
      have hb1 := ((hset_ne (key_ne rfl)).trans ((hFq.1 (1, _) rfl).trans hihj74_0) : (hset hq (28, (cset (cset c0 1) 23 28)) (some (mSet (hq (28, (cset (cset c0 1) 23 28))) (iV ((2 * (alR t i d).length : Nat) : Int)) (trV ⟨(i : Int), (d : Int), 0⟩)))) _ = _)
      have hbo := ((hset_ne (key_ne rfl)).trans ((hFq.1 (13, _) rfl).trans hihj74_1) : (hset hq (28, (cset (cset c0 1) 23 28)) (some (mSet (hq (28, (cset (cset c0 1) 23 28))) (iV ((2 * (alR t i d).length : Nat) : Int)) (trV ⟨(i : Int), (d : Int), 0⟩)))) _ = _)
      refine block_norm ?_
      refine seq_norm (hK78 _ ?_); clear hK78 K78
      refine pwp_plain rfl fun K80 hK80 => ?_
      refine p_mS rfl ?_
      refine p_e rfl (e_adL rfl rfl) ?_
      refine p_aS rfl ?_
      refine p_end (hK80 _ ?_); clear hK80 K80
      exact loop_again ((d + 1, (aSet ((2 * (alR t i d).length : Nat) : Int) ⟨(i : Int), (d : Int), 0⟩ m2))) (by show _ < _; simp only; omega) ⟨rfl, rfl, rfl, rfl, rfl, rfl, rfl, trivial⟩ ⟨rfl, trivial⟩ (by exact ⟨by right; omega, by exact hTMq, by exact hNA2, by exact hMq, by exact hOq, hb1, hbo⟩)
     ·have hb77R := hb77; try simp only [zz] at hb77
      refine pwp_exit ?_
      refine exit_seq ?_
      clear hK76 K76
      refine exit_loop ?_
      refine exit_here ?_
      refine block_norm ?_
      refine seq_norm (hK67 _ ?_); clear hK67 K67
      refine pwp_plain rfl fun K81 hK81 => ?_
      refine p_e rfl (e_adL rfl rfl) ?_
      refine p_mS rfl ?_
      refine p_end (hK81 _ ?_); clear hK81 K81
      exact loop_again ((i + 1, m2)) (by show _ < _; simp only; omega) ⟨rfl, rfl, rfl, rfl, trivial⟩ ⟨rfl, trivial⟩ (by exact ⟨by show _ + 1 ≤ _; simp only [List.length_map] at *; omega, by exact (alR_e (t := t) (i := i) (d := d) (by rw [hxD]; omega) ▸ hTM : TrM (alR t (i + 1) 0) m2), by exact (alR_e (t := t) (i := i) (d := d) (by rw [hxD]; omega) ▸ hNA : NetA t _ _ _ _ _ (alR t (i + 1) 0)), by exact hM, by exact hO, hihj74_0⟩)
    ·have hb66R := hb66; try simp only [zz] at hb66
     have hii : i = t.routes.length := by simp only [List.length_map] at *; omega
     refine pwp_exit ?_
     refine exit_seq ?_
     clear hK65 K65
     refine exit_loop ?_
     refine exit_here ?_
     refine seq_norm (hK58 _ ?_); clear hK58 K58
     refine pwp_seq_plain rfl fun K82 hK82 => ?_
     refine p_e rfl (e_move (v := .ptr _ _ _ _) rfl) ?_
     refine p_e rfl (e_assign (v := .ptr _ _ _ _) rfl) ?_
     refine p_end (hK82 _ ?_); clear hK82 K82
     refine pwp_ret ?_
     refine end1 (v := .ptr _ _ _ _) rfl ?_
     exact ⟨_, _, _, _, rfl, alR_z hii ▸ hNA, hM, alR_z hii ▸ hTM, hO⟩

end Go.Proofs.Ytigdmkhdmbbfiaa
