/- Trips, as the document tells it. No conditions. -/
import Derived.Test.YtigdmkhdmbbfiaaTe0
set_option linter.unusedSimpArgs false
set_option linter.unusedVariables false
set_option maxRecDepth 100000
namespace Go.Proofs.Ytigdmkhdmbbfiaa
open Go Go.Pv
theorem fr44 : (inFrame Try.f44.ntmps (Try.f44.body.getD .skip) && Try.f44.results.toList.all (resScope Try.f44.ntmps)) = true := by kernel_rfl
theorem refTripsC (t : Traffic) (l : List Trip) (htz : trafE t = 0) (hl : l.length ≤ 1000000) : PCalls Try.prog 44 [.agg t.enc, .lit true 3 (l.map Trip.enc)] (.tup [.int (tripE t l).1, .int (tripE t l).2]) := by
 refine PCalls.of_code Try.func44 rfl rfl (by kernel_rfl) mixed fr44 (by show _ ≤ 225; simp) (pure_2 (.sc _) (.sc _)) ?_
 have hT := trafE_inv htz
 have q1 := hT.hA
 have q2 := hT.hB
 have q3 := hT.hr
 have q4 := hT.hs
 have q5 := hT.hn
 refine pwp_seq_plain rfl fun K1 hK1 => ?_
 refine p_new rfl (e_box (n := 5) rfl rfl) ⟨rfl, by decide⟩ ?_
 refine p_aS rfl ?_
 refine p_aS rfl ?_
 refine p_end (hK1 _ ?_); clear hK1 K1
 refine pwp_seq_seq ?_
 refine pwp_seq_plain rfl fun K2 hK2 => ?_
 refine p_e rfl (e_move (v := .lit _ _ _) rfl) ?_
 refine p_e rfl (e_len rfl (by kernel_rfl)) ?_
 refine p_e rfl (e_gt rfl rfl) ?_
 refine p_end (hK2 _ ?_); clear hK2 K2
 refine pwp_seq_cond rfl fun K3 hK3 => ⟨fun hb4 => ?_, fun hb4 => ?_⟩
 ·have hb4R := hb4; try simp only [zz] at hb4
  refine pwp_seq_plain rfl fun K5 hK5 => ?_
  refine p_aS rfl ?_
  refine p_aS rfl ?_
  refine p_end (hK5 _ ?_); clear hK5 K5
  refine pwp_ret ?_
  refine ret_seq ?_
  refine end2 (v := .sc _) (w := .sc _) rfl rfl ?_
  first
    | exact out_p (tr_8 (by omega))
    | exact out_p (tr_hit hin hx (trF_6 (by omega)) (by decide) (by omega))
    | exact out_p (tr_hit hin hx (trF_2 (by omega) hro (by omega)) (by decide) (by omega))
    | exact out_p (tr_18 (by omega) htr (lim_t (i := i) (d := d) (by omega) (by omega) (by rw [hrD]; (try simp only [Int.toNat_natCast] at *); omega)))
    | exact out_p (tr_22 (by omega) htr hlf (stk_of (p := p) (by omega) (by assumption)))
    | exact out_p (by rw [ha]; exact tr_0 (by omega) htr hlf hsf)
 ·have hb4R := hb4; try simp only [zz] at hb4
  refine pwp_skip ?_
  refine seq_norm (hK3 _ ?_); clear hK3 K3
  obtain ⟨vS, hS, cS, hRS, hCall⟩ := sums_ex (hset noHeap (2, 0) (some (.rows 5 [Traffic.enc t]))) (cset noCnt 2) t hT t.supplies hT.hs hT.sp
  obtain ⟨gC, gsC, rfl, hglC, hg0C, hgeC, hMC, hOC⟩ := hRS
  have hbS := (hOC.old (2, 0) (by simp [cset, noCnt])).trans (hset_self noHeap (2, 0) _)
  refine pwp_seq_x fun K6 hK6 => ?_
  refine x_step rfl rfl rfl (e_loadHA (n := 5) (cs := Traffic.enc t) rfl (hset_self noHeap (2, 0) _) (by kernel_rfl) (by kernel_rfl) (by kernel_rfl) (by exact Nat.zero_lt_one) (by decide) rfl) trivial ?_
  refine x_step rfl rfl rfl (e_faQ pl5 rfl) trivial ?_
  refine x_step rfl rfl rfl (e_lH (v := .lit _ _ _) rfl (hset_self noHeap (2, 0) _) rfl) trivial ?_
  refine x_hcall rfl rfl rfl hCall ?_
  refine x_step rfl rfl rfl (e_loadHA (n := 5) (cs := Traffic.enc t) rfl hbS (by kernel_rfl) (by kernel_rfl) (by kernel_rfl) (by exact Nat.zero_lt_one) (by decide) rfl) trivial ?_
  refine x_step rfl rfl rfl (e_faQ pl5 rfl) trivial ?_
  refine x_step rfl rfl rfl (e_lH (v := .lit _ _ _) rfl hbS rfl) trivial ?_
  refine x_pcall (as' := [.agg t.enc, .lit true 3 (t.needs.map Supply.enc)]) rfl rfl rfl rfl (.cons (inn_agg (Traffic.pure t)) (.cons inn_lit .nil)) (sumsP t hT t.needs hT.hn hT.nd) ?_
  refine x_step rfl rfl rfl (e_assign (v := .ref _ _ _ _) rfl) trivial ?_
  refine x_step rfl rfl rfl (e_assign (v := .lit _ _ _) rfl) trivial ?_
  refine x_end ?_ rfl (hK6 _ ?_)
  ·skip
   simp only [List.nil_append, List.cons_append]
   refine List.Pairwise.cons (fun y hy => ?_) ?_
   ·(simp only [List.mem_cons, List.not_mem_nil, or_false] at hy); rcases hy with rfl | rfl | rfl | rfl | rfl | rfl | rfl | rfl | rfl
    ·exact .inr (xfree_nn rfl rfl (by kernel_rfl) rfl rfl rfl)
    ·exact .inr (xfree_nn rfl rfl (by kernel_rfl) rfl rfl rfl)
    ·exact .inl (by kernel_rfl)
    ·exact .inr (xfree_nn rfl rfl (by kernel_rfl) rfl rfl rfl)
    ·exact .inr (xfree_nn rfl rfl (by kernel_rfl) rfl rfl rfl)
    ·exact .inr (xfree_nn rfl rfl (by kernel_rfl) rfl rfl rfl)
    ·exact .inl (by kernel_rfl)
    ·exact .inl (by kernel_rfl)
    ·exact .inl (by kernel_rfl)
   refine List.Pairwise.cons (fun y hy => ?_) ?_
   ·(simp only [List.mem_cons, List.not_mem_nil, or_false] at hy); rcases hy with rfl | rfl | rfl | rfl | rfl | rfl | rfl | rfl
    ·exact .inl (by kernel_rfl)
    ·exact .inl (by kernel_rfl)
    ·exact .inr (xfree_nn rfl rfl (by kernel_rfl) rfl rfl rfl)
    ·exact .inr (xfree_nn rfl rfl (by kernel_rfl) rfl rfl rfl)
    ·exact .inr (xfree_nn rfl rfl (by kernel_rfl) rfl rfl rfl)
    ·exact .inl (by kernel_rfl)
    ·exact .inl (by kernel_rfl)
    ·exact .inl (by kernel_rfl)
   refine List.Pairwise.cons (fun y hy => ?_) ?_
   ·(simp only [List.mem_cons, List.not_mem_nil, or_false] at hy); rcases hy with rfl | rfl | rfl | rfl | rfl | rfl | rfl
    ·exact .inl (by kernel_rfl)
    ·exact .inr (xfree_nn rfl rfl (by kernel_rfl) rfl rfl rfl)
    ·exact .inr (xfree_nn rfl rfl (by kernel_rfl) rfl rfl rfl)
    ·exact .inr (xfree_nn rfl rfl (by kernel_rfl) rfl rfl rfl)
    ·exact .inl (by kernel_rfl)
    ·exact .inl (by kernel_rfl)
    ·exact .inl (by kernel_rfl)
   refine List.Pairwise.cons (fun y hy => ?_) ?_
   ·(simp only [List.mem_cons, List.not_mem_nil, or_false] at hy); rcases hy with rfl | rfl | rfl | rfl | rfl | rfl
    ·exact .inr (xfree_cn rfl rfl (by kernel_rfl) ⟨rfl, rfl, rfl, fun _ => (by dsimp only; exact load_same (k := (2, 0)) rfl (hbS.trans (hset_self _ _ _).symm))⟩)
    ·exact .inr (xfree_cn rfl rfl (by kernel_rfl) ⟨rfl, rfl, rfl, fun _ => rfl⟩)
    ·exact .inr (xfree_cn rfl rfl (by kernel_rfl) ⟨rfl, rfl, rfl, fun _ => (by dsimp only; exact load_same (k := (2, 0)) rfl (hbS.trans (hset_self _ _ _).symm))⟩)
    ·exact .inl (by kernel_rfl)
    ·exact .inl (by kernel_rfl)
    ·exact .inl (by kernel_rfl)
   refine List.Pairwise.cons (fun y hy => ?_) ?_
   ·(simp only [List.mem_cons, List.not_mem_nil, or_false] at hy); rcases hy with rfl | rfl | rfl | rfl | rfl
    ·exact .inr (xfree_nn rfl rfl (by kernel_rfl) rfl rfl rfl)
    ·exact .inr (xfree_nn rfl rfl (by kernel_rfl) rfl rfl rfl)
    ·exact .inl (by kernel_rfl)
    ·exact .inl (by kernel_rfl)
    ·exact .inl (by kernel_rfl)
   refine List.Pairwise.cons (fun y hy => ?_) ?_
   ·(simp only [List.mem_cons, List.not_mem_nil, or_false] at hy); rcases hy with rfl | rfl | rfl | rfl
    ·exact .inl (by kernel_rfl)
    ·exact .inl (by kernel_rfl)
    ·exact .inl (by kernel_rfl)
    ·exact .inl (by kernel_rfl)
   refine List.Pairwise.cons (fun y hy => ?_) ?_
   ·(simp only [List.mem_cons, List.not_mem_nil, or_false] at hy); rcases hy with rfl | rfl | rfl
    ·exact .inl (by kernel_rfl)
    ·exact .inl (by kernel_rfl)
    ·exact .inl (by kernel_rfl)
   refine List.Pairwise.cons (fun y hy => ?_) ?_
   ·(simp only [List.mem_cons, List.not_mem_nil, or_false] at hy); rcases hy with rfl | rfl
    ·exact .inl (by kernel_rfl)
    ·exact .inl (by kernel_rfl)
   refine List.Pairwise.cons (fun y hy => ?_) ?_
   ·(simp only [List.mem_cons, List.not_mem_nil, or_false] at hy); rcases hy with rfl
    ·exact .inl (by kernel_rfl)
   exact List.Pairwise.cons (by intro y hy; simp at hy) .nil
  clear hK6 K6
  refine pwp_seq_plain rfl fun K7 hK7 => ?_
  refine p_e rfl (e_assign (v := .nil) rfl) ?_
  refine p_end (hK7 _ ?_); clear hK7 K7
  refine pwp_seq_seq ?_
  refine pwp_seq_plain rfl fun K8 hK8 => ?_
  refine p_aS rfl ?_
  refine p_end (hK8 _ ?_); clear hK8 K8
  refine pwp_seq_block fun K9 hK9 => ?_
  refine pwp_loopR (α := Nat × (List Nat) × PV) [1, 2, 6, 7] (fun (a10 : Nat × (List Nat) × PV) => [(8, (a10.2.2)), (9, .int (a10.1))]) (fun (a10 : Nat × (List Nat) × PV) (h : Heap) (c : Nat → Nat) => ((a10.1) ≤ t.places.toNat) ∧ ((a10.2.1).length = (a10.1)) ∧ (Bld (fun _ => 0) (fun _ => none) h c (a10.2.2) 43 41 t.days.toNat (a10.2.1)) ∧ (Mat h (19, gC) 17 t.places.toNat t.days.toNat ci gsC (spM t.supplies t.supplies.length)) ∧ (h (2, 0) = some (.rows 5 [Traffic.enc t]))) (fun (a10 : Nat × (List Nat) × PV) => t.places.toNat - (a10.1)) (0, [], .nil) (by exact ⟨rfl, rfl, trivial⟩) (by exact ⟨by exact Nat.zero_le _, by exact rfl, by exact Bld.zero Old.triv, by exact hMC, hbS⟩) fun a10 r11 h12 c13 hj14 => ?_
  obtain ⟨k, gsG, v⟩ := a10
  obtain ⟨hk, hgk, hB, hMC, hihj14_0⟩ := hj14
  try dsimp only at hk
  try dsimp only at hgk
  try dsimp only at hB
  try dsimp only at hMC
  try dsimp only at hihj14_0
  show pwp _ _ (loopQ _ _ _) ⟨sets (mix _ _ _) [(8, v), (9, .int k)], _, _⟩
  refine pwp_seq_seq ?_
  refine pwp_seq_plain rfl fun K15 hK15 => ?_
  refine p_mS rfl ?_
  refine p_e rfl (e_faQ pl5 rfl) ?_
  refine p_e rfl (e_lH (v := .sc _) rfl hihj14_0 rfl) ?_
  refine p_e rfl (e_lt rfl rfl) ?_
  refine p_end (hK15 _ ?_); clear hK15 K15
  refine pwp_seq_cond rfl fun K16 hK16 => ⟨fun hb17 => ?_, fun hb17 => ?_⟩
  ·have hb17R := hb17; try simp only [zz] at hb17
   refine pwp_skip ?_
   refine seq_norm (hK16 _ ?_); clear hK16 K16
   refine pwp_seq_block fun K18 hK18 => ?_
   refine pwp_plainK rfl fun hkn K19 hK19 => ?_
   refine p_e rfl (e_move (v := v) rfl) ?_
   refine p_e rfl (e_faQ pl5 rfl) ?_
   refine p_e rfl (e_lH (v := .sc _) rfl hihj14_0 rfl) ?_
   refine p_new rfl (e_mkI (n := t.days.toNat) rfl rfl (by omega) (by kernel_rfl) (by kernel_rfl) (by kernel_rfl) (by decide +kernel) (by omega)) trivial ?_
   refine p_new rfl (e_bslice (rows := [cv (rfV 41 t.days.toNat (c13 41))]) (zs := [.nil]) (sz := 1) (by kernel_rfl) (by kernel_rfl) rfl (by kernel_rfl) (by decide) rfl rfl (by exact ⟨by decide, rfl, rfl, trivial⟩) rfl) trivial ?_
   refine p_appK (d1 := 43) (rows2 := [cv (rfV 41 t.days.toNat (c13 41))]) rfl rfl rfl (hB.sl.keep fun g => (hset_ne (key_ne rfl)).trans (hset_ne (key_ne rfl))) (src_ref (hset_self _ _ _) rfl) (by kernel_rfl) (by simp only [List.length_map, List.length_cons, List.length_nil]; omega) (by simp) fun hw20 hr21 hf22 => ?_
   refine p_e rfl (e_assign (v := .ref _ _ _ _) rfl) ?_
   have hB23 := Bld.step hB (fun g o hh => hkn.fresh 41 g o hh) rfl rfl rfl rfl rfl hr21 hf22
   have ho24 := (hf22 _ (key_ne rfl) (fun _ _ => key_ne rfl)).trans ((hset_ne (key_ne rfl)).trans ((hset_ne (key_ne rfl)).trans hihj14_0))
   have hM25 := Mat.keep (Mat.set rfl rfl (Mat.set rfl rfl hMC)) (hf22 _ (key_ne rfl) (fun _ _ => key_ne rfl)) (fun g => (hf22 _ (key_ne rfl) (fun _ _ => key_ne rfl)))
   refine p_end (hK19 _ ?_); clear hK19 K19
   refine block_norm ?_
   refine seq_norm (hK18 _ ?_); clear hK18 K18
   refine pwp_plain rfl fun K26 hK26 => ?_
   refine p_mS rfl ?_
   refine p_e rfl (e_adL rfl rfl) ?_
   refine p_aS rfl ?_
   refine p_end (hK26 _ ?_); clear hK26 K26
   exact loop_again ((k + 1, gsG ++ [c13 41], (.ref (43, c13 43) 1 0 (((gsG.map (rfV 41 t.days.toNat)).map cv).length + [cv (rfV 41 t.days.toNat (c13 41))].length)))) (by show _ < _; simp only; omega) ⟨rfl, rfl, rfl, rfl, trivial⟩ ⟨rfl, rfl, trivial⟩ (by exact ⟨by show _ + 1 ≤ _; first | omega | (simp only [List.length_map] at *; omega), by simp only [List.length_append, List.length_cons, List.length_nil]; omega, by exact hB23, by exact hM25, ho24⟩)
  ·have hb17R := hb17; try simp only [zz] at hb17
   have hglgsG : gsG.length = t.places.toNat := by first | omega | (simp only [List.length_map] at *; omega)
   refine pwp_exit ?_
   refine exit_seq ?_
   clear hK16 K16
   refine exit_loop ?_
   refine exit_here ?_
   refine seq_norm (hK9 _ ?_); clear hK9 K9
   obtain ⟨gG, rfl, _, hMG⟩ := hB.mat (n := t.places.toNat) hglgsG (by omega)
   refine pwp_seq_plain rfl fun K27 hK27 => ?_
   refine p_e rfl (e_assign (v := .nil) rfl) ?_
   refine p_end (hK27 _ ?_); clear hK27 K27
   refine pwp_seq_seq ?_
   refine pwp_seq_plain rfl fun K28 hK28 => ?_
   refine p_aS rfl ?_
   refine p_end (hK28 _ ?_); clear hK28 K28
   refine pwp_seq_block fun K29 hK29 => ?_
   refine pwp_loopR (α := Nat × (List Nat) × PV) [1, 2, 6, 7, 8] (fun (a30 : Nat × (List Nat) × PV) => [(10, (a30.2.2)), (11, .int (a30.1))]) (fun (a30 : Nat × (List Nat) × PV) (h : Heap) (c : Nat → Nat) => ((a30.1) ≤ t.routes.length) ∧ ((a30.2.1).length = (a30.1)) ∧ (Bld (fun _ => 0) (fun _ => none) h c (a30.2.2) 56 54 t.days.toNat (a30.2.1)) ∧ (Mat h (19, gC) 17 t.places.toNat t.days.toNat ci gsC (spM t.supplies t.supplies.length)) ∧ (Mat h (43, gG) 41 t.places.toNat t.days.toNat ci gsG (fun _ _ => 0)) ∧ (h (2, 0) = some (.rows 5 [Traffic.enc t]))) (fun (a30 : Nat × (List Nat) × PV) => t.routes.length - (a30.1)) (0, [], .nil) (by exact ⟨rfl, rfl, trivial⟩) (by exact ⟨by exact Nat.zero_le _, by exact rfl, by exact Bld.zero Old.triv, by exact hMC, by exact hMG, hihj14_0⟩) fun a30 r31 h32 c33 hj34 => ?_
   obtain ⟨k, gsU, v⟩ := a30
   obtain ⟨hk, hgk, hB, hMC, hMG, hihj34_0⟩ := hj34
   try dsimp only at hk
   try dsimp only at hgk
   try dsimp only at hB
   try dsimp only at hMC
   try dsimp only at hMG
   try dsimp only at hihj34_0
   show pwp _ _ (loopQ _ _ _) ⟨sets (mix _ _ _) [(10, v), (11, .int k)], _, _⟩
   refine pwp_seq_seq ?_
   refine pwp_seq_plain rfl fun K35 hK35 => ?_
   refine p_mS rfl ?_
   refine p_e rfl (e_faQ pl5 rfl) ?_
   refine p_e rfl (e_lH (v := .lit _ _ _) rfl hihj34_0 rfl) ?_
   refine p_e rfl (e_len rfl (by kernel_rfl)) ?_
   refine p_e rfl (e_lt rfl rfl) ?_
   refine p_end (hK35 _ ?_); clear hK35 K35
   refine pwp_seq_cond rfl fun K36 hK36 => ⟨fun hb37 => ?_, fun hb37 => ?_⟩
   ·have hb37R := hb37; try simp only [zz] at hb37
    refine pwp_skip ?_
    refine seq_norm (hK36 _ ?_); clear hK36 K36
    refine pwp_seq_block fun K38 hK38 => ?_
    refine pwp_plainK rfl fun hkn K39 hK39 => ?_
    refine p_e rfl (e_move (v := v) rfl) ?_
    refine p_e rfl (e_faQ pl5 rfl) ?_
    refine p_e rfl (e_lH (v := .sc _) rfl hihj34_0 rfl) ?_
    refine p_new rfl (e_mkI (n := t.days.toNat) rfl rfl (by omega) (by kernel_rfl) (by kernel_rfl) (by kernel_rfl) (by decide +kernel) (by omega)) trivial ?_
    refine p_new rfl (e_bslice (rows := [cv (rfV 54 t.days.toNat (c33 54))]) (zs := [.nil]) (sz := 1) (by kernel_rfl) (by kernel_rfl) rfl (by kernel_rfl) (by decide) rfl rfl (by exact ⟨by decide, rfl, rfl, trivial⟩) rfl) trivial ?_
    refine p_appK (d1 := 56) (rows2 := [cv (rfV 54 t.days.toNat (c33 54))]) rfl rfl rfl (hB.sl.keep fun g => (hset_ne (key_ne rfl)).trans (hset_ne (key_ne rfl))) (src_ref (hset_self _ _ _) rfl) (by kernel_rfl) (by simp only [List.length_map, List.length_cons, List.length_nil]; omega) (by simp) fun hw40 hr41 hf42 => ?_
    refine p_e rfl (e_assign (v := .ref _ _ _ _) rfl) ?_
    have hB43 := Bld.step hB (fun g o hh => hkn.fresh 54 g o hh) rfl rfl rfl rfl rfl hr41 hf42
    have ho44 := (hf42 _ (key_ne rfl) (fun _ _ => key_ne rfl)).trans ((hset_ne (key_ne rfl)).trans ((hset_ne (key_ne rfl)).trans hihj34_0))
    have hM45 := Mat.keep (Mat.set rfl rfl (Mat.set rfl rfl hMC)) (hf42 _ (key_ne rfl) (fun _ _ => key_ne rfl)) (fun g => (hf42 _ (key_ne rfl) (fun _ _ => key_ne rfl)))
    have hM46 := Mat.keep (Mat.set rfl rfl (Mat.set rfl rfl hMG)) (hf42 _ (key_ne rfl) (fun _ _ => key_ne rfl)) (fun g => (hf42 _ (key_ne rfl) (fun _ _ => key_ne rfl)))
    refine p_end (hK39 _ ?_); clear hK39 K39
    refine block_norm ?_
    refine seq_norm (hK38 _ ?_); clear hK38 K38
    refine pwp_plain rfl fun K47 hK47 => ?_
    refine p_mS rfl ?_
    refine p_e rfl (e_adL rfl rfl) ?_
    refine p_aS rfl ?_
    refine p_end (hK47 _ ?_); clear hK47 K47
    exact loop_again ((k + 1, gsU ++ [c33 54], (.ref (56, c33 56) 1 0 (((gsU.map (rfV 54 t.days.toNat)).map cv).length + [cv (rfV 54 t.days.toNat (c33 54))].length)))) (by show _ < _; simp only; omega) ⟨rfl, rfl, rfl, rfl, rfl, trivial⟩ ⟨rfl, rfl, trivial⟩ (by exact ⟨by show _ + 1 ≤ _; first | omega | (simp only [List.length_map] at *; omega), by simp only [List.length_append, List.length_cons, List.length_nil]; omega, by exact hB43, by exact hM45, by exact hM46, ho44⟩)
   ·have hb37R := hb37; try simp only [zz] at hb37
    have hglgsU : gsU.length = t.routes.length := by first | omega | (simp only [List.length_map] at *; omega)
    refine pwp_exit ?_
    refine exit_seq ?_
    clear hK36 K36
    refine exit_loop ?_
    refine exit_here ?_
    refine seq_norm (hK29 _ ?_); clear hK29 K29
    refine pwp_seq_seq ?_
    obtain ⟨gU, hU⟩ := hB.matU hglgsU
    refine pwp_seq_plain rfl fun K48 hK48 => ?_
    refine p_aS rfl ?_
    refine p_end (hK48 _ ?_); clear hK48 K48
    refine pwp_seq_block fun K49 hK49 => ?_
    refine pwp_loopR (α := Nat) [1, 2, 6, 7, 8, 10] (fun (k : Nat) => [(12, .int (k))]) (fun (k : Nat) (h : Heap) (_ : Nat → Nat) => ((k) ≤ l.length) ∧ (∀ i, i < (k) → ∀ y, l[i]? = some y → decide (trF t y ≠ 0) = false) ∧ (1 ≤ t.routes.length → v = .ref (56, gU) 1 0 t.routes.length ∧ Mat h (56, gU) 54 t.routes.length t.days.toNat ci gsU (usM l (k))) ∧ (Mat h (19, gC) 17 t.places.toNat t.days.toNat ci gsC (coM t l (k))) ∧ (Mat h (43, gG) 41 t.places.toNat t.days.toNat ci gsG (goM t l (k))) ∧ (h (2, 0) = some (.rows 5 [Traffic.enc t]))) (fun (k : Nat) => l.length - (k)) (0) (by exact ⟨rfl, trivial⟩) (by exact ⟨by exact Nat.zero_le _, by exact nx_0 (K := fun y => decide (trF t y ≠ 0)), by exact hU, by exact Mat.congr hMC (fun p d _ _ => co_0 p d), by exact Mat.congr hMG (fun p d _ _ => rfl), hihj34_0⟩) fun k r50 h51 c52 hj53 => ?_
    obtain ⟨hk, hin, hU, hMC, hMG, hihj53_0⟩ := hj53
    try dsimp only at hk
    try dsimp only at hin
    try dsimp only at hU
    try dsimp only at hMC
    try dsimp only at hMG
    try dsimp only at hihj53_0
    show pwp _ _ (loopQ _ _ _) ⟨sets (mix _ _ _) [(12, .int k)], _, _⟩
    refine pwp_seq_seq ?_
    refine pwp_seq_plain rfl fun K54 hK54 => ?_
    refine p_mS rfl ?_
    refine p_e rfl (e_move (v := .lit _ _ _) rfl) ?_
    refine p_e rfl (e_len rfl (by kernel_rfl)) ?_
    refine p_e rfl (e_lt rfl rfl) ?_
    refine p_end (hK54 _ ?_); clear hK54 K54
    refine pwp_seq_cond rfl fun K55 hK55 => ⟨fun hb56 => ?_, fun hb56 => ?_⟩
    ·have hb56R := hb56; try simp only [zz] at hb56
     obtain ⟨x, hx, hd, ht⟩ := get_lt (xs := l) (i := k) (by omega)
     refine pwp_skip ?_
     refine seq_norm (hK55 _ ?_); clear hK55 K55
     refine pwp_seq_block fun K57 hK57 => ?_
     refine pwp_seq_plain rfl fun K58 hK58 => ?_
     refine p_e rfl (e_move (v := .lit _ _ _) rfl) ?_
     refine p_mS rfl ?_
     refine p_e rfl (e_ixL rfl rfl) ?_
     refine p_e rfl (e_loadA (n := 3) rfl (by kernel_rfl) (by kernel_rfl) (by kernel_rfl) (by first | omega | (simp only [List.length_map]; omega)) (by decide) (by first | exact agg_map hx rfl)) ?_
     refine p_new rfl (e_alloc (cs := [.int 0, .int 0, .int 0]) (n := 3) (by kernel_rfl) rfl (by decide)) (ob_alloc (by decide)) ?_
     refine p_store rfl (e_storeA rfl (hset_self _ _ _) rfl rfl rfl (by kernel_rfl) rfl (by kernel_rfl)) trivial ?_
     refine p_end (hK58 _ ?_); clear hK58 K58
     refine pwp_seq_seq ?_
     refine pwp_seq_plain rfl fun K59 hK59 => ?_
     refine p_e rfl (e_faQ pl3 rfl) ?_
     refine p_e rfl (e_lH (v := .sc _) rfl (hset_self _ _ _) rfl) ?_
     refine p_e rfl (e_faQ pl5 rfl) ?_
     refine p_e rfl (e_lH (v := .lit _ _ _) rfl ((hset_ne (key_ne rfl)).trans ((hset_ne (key_ne rfl)).trans hihj53_0)) rfl) ?_
     refine p_e rfl (e_len rfl (by kernel_rfl)) ?_
     refine p_e rfl (e_sub rfl rfl (by first | omega | (simp only [List.length_map] at *; omega))) ?_
     refine p_call rfl (.cons inn_sc (.cons inn_sc (.cons inn_sc .nil))) (Within _ _ _) ?_
     refine p_e rfl (e_not rfl) ?_
     refine p_end (hK59 _ ?_); clear hK59 K59
     refine pwp_seq_cond rfl fun K60 hK60 => ⟨fun hb61 => ?_, fun hb61 => ?_⟩
     ·have hb61R := hb61; try simp only [zz] at hb61
      refine pwp_seq_plain rfl fun K62 hK62 => ?_
      refine p_aS rfl ?_
      refine p_aS rfl ?_
      refine p_end (hK62 _ ?_); clear hK62 K62
      refine pwp_ret ?_
      refine ret_seq ?_
      refine ret_block ?_
      refine ret_seq ?_
      refine ret_loop ?_
      refine ret_block ?_
      refine ret_seq ?_
      refine end2 (v := .sc _) (w := .sc _) rfl rfl ?_
      first
        | exact out_p (tr_8 (by omega))
        | exact out_p (tr_hit hin hx (trF_6 (by omega)) (by decide) (by omega))
        | exact out_p (tr_hit hin hx (trF_2 (by omega) hro (by omega)) (by decide) (by omega))
        | exact out_p (tr_18 (by omega) htr (lim_t (i := i) (d := d) (by omega) (by omega) (by rw [hrD]; (try simp only [Int.toNat_natCast] at *); omega)))
        | exact out_p (tr_22 (by omega) htr hlf (stk_of (p := p) (by omega) (by assumption)))
        | exact out_p (by rw [ha]; exact tr_0 (by omega) htr hlf hsf)
     ·have hb61R := hb61; try simp only [zz] at hb61
      refine pwp_skip ?_
      refine seq_norm (hK60 _ ?_); clear hK60 K60
      obtain ⟨r, hr, hro, hrm⟩ := rt_ex (t := t) (x := x) (by omega)
      have hrt := hT.rt r hrm
      refine pwp_seq_plain rfl fun K63 hK63 => ?_
      refine p_e rfl (e_faQ pl5 rfl) ?_
      refine p_e rfl (e_lH (v := .lit _ _ _) rfl ((hset_ne (key_ne rfl)).trans ((hset_ne (key_ne rfl)).trans hihj53_0)) rfl) ?_
      refine p_e rfl (e_faQ pl3 rfl) ?_
      refine p_e rfl (e_lH (v := .sc _) rfl (hset_self _ _ _) rfl) ?_
      refine p_e rfl (e_ixL rfl rfl) ?_
      refine p_e rfl (e_loadA (n := 4) rfl (by kernel_rfl) (by kernel_rfl) (by kernel_rfl) (by first | omega | (simp only [List.length_map]; omega)) (by decide) (by first | exact agg_map hr rfl)) ?_
      refine p_new rfl (e_alloc (cs := [.int 0, .int 0, .int 0, .int 0]) (n := 4) (by kernel_rfl) rfl (by decide)) (ob_alloc (by decide)) ?_
      refine p_store rfl (e_storeA rfl (hset_self _ _ _) rfl rfl rfl (by kernel_rfl) rfl (by kernel_rfl)) trivial ?_
      refine p_end (hK63 _ ?_); clear hK63 K63
      refine pwp_seq_seq ?_
      refine pwp_seq_gops rfl fun K64 hK64 => ?_
      refine s_begin ?_
      refine s_e rfl (e_faQ pl3 rfl) ?_
      refine s_step [13] (by simp) rfl rfl rfl rfl (e_lH (v := .sc _) rfl ((hset_ne (key_ne rfl)).trans ((hset_ne (key_ne rfl)).trans (hset_self _ _ _))) rfl) trivial ?_
      refine s_e rfl (e_faQ pl5 rfl) ?_
      refine s_step [2] (by simp) rfl rfl rfl rfl (e_lH (v := .sc _) rfl ((hset_ne (key_ne rfl)).trans ((hset_ne (key_ne rfl)).trans ((hset_ne (key_ne rfl)).trans ((hset_ne (key_ne rfl)).trans hihj53_0)))) rfl) trivial ?_
      refine s_e rfl (e_sub rfl rfl (by first | omega | (simp only [List.length_map] at *; omega))) ?_
      refine s_call (args := [.sc _, .sc _, .sc _]) [] (by intro k hk; simp [keysOf, Go.Pv.keyOf] at hk; try (first | (subst hk; simp; done) | (rcases hk with rfl | rfl <;> simp; done))) rfl rfl rfl rfl (.cons inn_sc (.cons inn_sc (.cons inn_sc .nil))) (Within _ _ _) ?_
      refine s_e rfl (e_not rfl) ?_
      refine s_e rfl (e_move (v := .sc _) rfl) ?_
      refine s_cases (fun hb65 => ?_) (fun hb65 => ?_)
      ·have hb65R := hb65; try simp only [zz] at hb65
       refine s_skip rfl rfl rfl ?_
       refine s_skip rfl rfl rfl ?_
       refine s_skip rfl rfl rfl ?_
       refine s_skip rfl rfl rfl ?_
       refine s_skip rfl rfl rfl ?_
       refine s_skip rfl rfl rfl ?_
       refine s_skip rfl rfl rfl ?_
       refine s_skip rfl rfl rfl ?_
       refine s_e rfl (e_pickT (v := .sc _) rfl rfl) ?_
       refine s_e rfl (e_move (v := .sc _) rfl) ?_
       refine s_skip rfl rfl rfl ?_
       refine s_skip rfl rfl rfl ?_
       refine s_nocall (args := [.dead, .sc _, .sc _]) [] (by intro k hk; simp [keysOf, Go.Pv.keyOf] at hk) rfl rfl rfl ?_
       refine s_skip rfl rfl rfl ?_
       refine s_e rfl (e_pickT (v := .sc _) rfl rfl) ?_
       refine s_end (ds := [89, 90, 91, 92, 93, 94, 95, 96, 99, 100, 101, 102]) (by kernel_rfl) (by kernel_rfl) (hK64 _ ?_); clear hK64 K64
       refine pwp_seq_cond (t := true) rfl fun K66 hK66 => ⟨fun _ => ?_, nofun⟩
       refine pwp_seq_plain rfl fun K67 hK67 => ?_
       refine p_aS rfl ?_
       refine p_aS rfl ?_
       refine p_end (hK67 _ ?_); clear hK67 K67
       refine pwp_ret ?_
       refine ret_seq ?_
       refine ret_block ?_
       refine ret_seq ?_
       refine ret_loop ?_
       refine ret_block ?_
       refine ret_seq ?_
       refine end2 (v := .sc _) (w := .sc _) rfl rfl ?_
       first
         | exact out_p (tr_8 (by omega))
         | exact out_p (tr_hit hin hx (trF_6 (by omega)) (by decide) (by omega))
         | exact out_p (tr_hit hin hx (trF_2 (by omega) hro (by omega)) (by decide) (by omega))
         | exact out_p (tr_18 (by omega) htr (lim_t (i := i) (d := d) (by omega) (by omega) (by rw [hrD]; (try simp only [Int.toNat_natCast] at *); omega)))
         | exact out_p (tr_22 (by omega) htr hlf (stk_of (p := p) (by omega) (by assumption)))
         | exact out_p (by rw [ha]; exact tr_0 (by omega) htr hlf hsf)
      ·have hb65R := hb65; try simp only [zz] at hb65
       refine s_e rfl (e_faQ pl3 rfl) ?_
       refine s_step [13] (by simp) rfl rfl rfl rfl (e_lH (v := .sc _) rfl ((hset_ne (key_ne rfl)).trans ((hset_ne (key_ne rfl)).trans (hset_self _ _ _))) rfl) trivial ?_
       refine s_e rfl (e_faQ pl4 rfl) ?_
       refine s_step [14] (by simp) rfl rfl rfl rfl (e_lH (v := .sc _) rfl (hset_self _ _ _) rfl) trivial ?_
       refine s_e rfl (e_adL rfl rfl) ?_
       refine s_e rfl (e_faQ pl5 rfl) ?_
       refine s_step [2] (by simp) rfl rfl rfl rfl (e_lH (v := .sc _) rfl ((hset_ne (key_ne rfl)).trans ((hset_ne (key_ne rfl)).trans ((hset_ne (key_ne rfl)).trans ((hset_ne (key_ne rfl)).trans hihj53_0)))) rfl) trivial ?_
       refine s_e rfl (e_ge rfl rfl) ?_
       refine s_e rfl (e_pickF (v := .sc _) rfl rfl) ?_
       refine s_e rfl (e_move (v := .sc _) rfl) ?_
       refine s_cases (fun hb68 => ?_) (fun hb68 => ?_)
       ·have hb68R := hb68; try simp only [zz] at hb68
        refine s_skip rfl rfl rfl ?_
        refine s_skip rfl rfl rfl ?_
        refine s_nocall (args := [.dead, .sc _, .sc _]) [] (by intro k hk; simp [keysOf, Go.Pv.keyOf] at hk) rfl rfl rfl ?_
        refine s_skip rfl rfl rfl ?_
        refine s_e rfl (e_pickT (v := .sc _) rfl rfl) ?_
        refine s_end (ds := [89, 90, 91, 92, 93, 94, 95, 96, 99, 100, 101, 102]) (by kernel_rfl) (by kernel_rfl) (hK64 _ ?_); clear hK64 K64
        refine pwp_seq_cond (t := true) rfl fun K69 hK69 => ⟨fun _ => ?_, nofun⟩
        refine pwp_seq_plain rfl fun K70 hK70 => ?_
        refine p_aS rfl ?_
        refine p_aS rfl ?_
        refine p_end (hK70 _ ?_); clear hK70 K70
        refine pwp_ret ?_
        refine ret_seq ?_
        refine ret_block ?_
        refine ret_seq ?_
        refine ret_loop ?_
        refine ret_block ?_
        refine ret_seq ?_
        refine end2 (v := .sc _) (w := .sc _) rfl rfl ?_
        first
          | exact out_p (tr_8 (by omega))
          | exact out_p (tr_hit hin hx (trF_6 (by omega)) (by decide) (by omega))
          | exact out_p (tr_hit hin hx (trF_2 (by omega) hro (by omega)) (by decide) (by omega))
          | exact out_p (tr_18 (by omega) htr (lim_t (i := i) (d := d) (by omega) (by omega) (by rw [hrD]; (try simp only [Int.toNat_natCast] at *); omega)))
          | exact out_p (tr_22 (by omega) htr hlf (stk_of (p := p) (by omega) (by assumption)))
          | exact out_p (by rw [ha]; exact tr_0 (by omega) htr hlf hsf)
       ·have hb68R := hb68; try simp only [zz] at hb68
        refine s_e rfl (e_faQ pl3 rfl) ?_
        refine s_step [13] (by simp) rfl rfl rfl rfl (e_lH (v := .sc _) rfl ((hset_ne (key_ne rfl)).trans ((hset_ne (key_ne rfl)).trans (hset_self _ _ _))) rfl) trivial ?_
        refine s_call (args := [.sc _, .sc _, .sc _]) [] (by intro k hk; simp [keysOf, Go.Pv.keyOf] at hk; try (first | (subst hk; simp; done) | (rcases hk with rfl | rfl <;> simp; done))) rfl rfl rfl rfl (.cons inn_sc (.cons inn_sc (.cons inn_sc .nil))) (Within _ _ _) ?_
        refine s_e rfl (e_not rfl) ?_
        refine s_e rfl (e_pickF (v := .sc _) rfl rfl) ?_
        refine s_end (ds := [89, 90, 91, 92, 93, 94, 95, 96, 99, 100, 101, 102]) (by kernel_rfl) (by kernel_rfl) (hK64 _ ?_); clear hK64 K64
        refine pwp_seq_cond rfl fun K71 hK71 => ⟨fun hb72 => ?_, fun hb72 => ?_⟩
        ·have hb72R := hb72; try simp only [zz] at hb72
         refine pwp_seq_plain rfl fun K73 hK73 => ?_
         refine p_aS rfl ?_
         refine p_aS rfl ?_
         refine p_end (hK73 _ ?_); clear hK73 K73
         refine pwp_ret ?_
         refine ret_seq ?_
         refine ret_block ?_
         refine ret_seq ?_
         refine ret_loop ?_
         refine ret_block ?_
         refine ret_seq ?_
         refine end2 (v := .sc _) (w := .sc _) rfl rfl ?_
         first
           | exact out_p (tr_8 (by omega))
           | exact out_p (tr_hit hin hx (trF_6 (by omega)) (by decide) (by omega))
           | exact out_p (tr_hit hin hx (trF_2 (by omega) hro (by omega)) (by decide) (by omega))
           | exact out_p (tr_18 (by omega) htr (lim_t (i := i) (d := d) (by omega) (by omega) (by rw [hrD]; (try simp only [Int.toNat_natCast] at *); omega)))
           | exact out_p (tr_22 (by omega) htr hlf (stk_of (p := p) (by omega) (by assumption)))
           | exact out_p (by rw [ha]; exact tr_0 (by omega) htr hlf hsf)
        ·have hb72R := hb72; try simp only [zz] at hb72
         refine pwp_skip ?_
         refine seq_norm (hK71 _ ?_); clear hK71 K71
         have hb1 := co_b (t := t) (l := l) hT hin (by omega) (by omega) r.til.toNat (x.day + r.days).toNat
         have hb2 := go_b (t := t) (l := l) hin (by omega) (by omega) r.fro.toNat x.day.toNat
         have hb3 := us_bk (t := t) (l := l) hin (by omega) (by omega) x.route.toNat x.day.toNat
         have hU1 := hU (by first | omega | (simp only [List.length_map] at *; omega))
         obtain ⟨hvU, hMU⟩ := hU1
         subst hvU
         refine pwp_seq_gops rfl fun K74 hK74 => ?_
         refine s_begin ?_
         refine s_e rfl (e_move (v := .ref _ _ _ _) rfl) ?_
         refine s_e rfl (e_faQ pl3 rfl) ?_
         refine s_step [13] (by simp) rfl rfl rfl rfl (e_lH (v := .sc _) rfl ((hset_ne (key_ne rfl)).trans ((hset_ne (key_ne rfl)).trans (hset_self _ _ _))) rfl) trivial ?_
         refine s_e rfl (e_ixaR0 rfl rfl (by kernel_rfl) (by kernel_rfl) (by omega)) ?_
         refine s_step [56] (by simp) rfl rfl rfl rfl (e_loadV (v := .ref (54, gsU.getD (x.route).toNat 0) 1 0 t.days.toNat) rfl (Mat.set rfl rfl (Mat.set rfl rfl (Mat.set rfl rfl (Mat.set rfl rfl hMU)))).out (by kernel_rfl) (by kernel_rfl) (by kernel_rfl) (hMU.row (by omega))) trivial ?_
         refine s_e rfl (e_faQ pl3 rfl) ?_
         refine s_step [13] (by simp) rfl rfl rfl rfl (e_lH (v := .sc _) rfl ((hset_ne (key_ne rfl)).trans ((hset_ne (key_ne rfl)).trans (hset_self _ _ _))) rfl) trivial ?_
         refine s_e rfl (e_move (v := .ref _ _ _ _) rfl) ?_
         refine s_e rfl (e_faQ pl3 rfl) ?_
         refine s_step [13] (by simp) rfl rfl rfl rfl (e_lH (v := .sc _) rfl ((hset_ne (key_ne rfl)).trans ((hset_ne (key_ne rfl)).trans (hset_self _ _ _))) rfl) trivial ?_
         refine s_e rfl (e_ixaR0 rfl rfl (by kernel_rfl) (by kernel_rfl) (by omega)) ?_
         refine s_step [56] (by simp) rfl rfl rfl rfl (e_loadV (v := .ref (54, gsU.getD (x.route).toNat 0) 1 0 t.days.toNat) rfl (Mat.set rfl rfl (Mat.set rfl rfl (Mat.set rfl rfl (Mat.set rfl rfl hMU)))).out (by kernel_rfl) (by kernel_rfl) (by kernel_rfl) (hMU.row (by omega))) trivial ?_
         refine s_e rfl (e_faQ pl3 rfl) ?_
         refine s_step [13] (by simp) rfl rfl rfl rfl (e_lH (v := .sc _) rfl ((hset_ne (key_ne rfl)).trans ((hset_ne (key_ne rfl)).trans (hset_self _ _ _))) rfl) trivial ?_
         refine s_e rfl (e_ixaR0 rfl rfl (by kernel_rfl) (by kernel_rfl) (by omega)) ?_
         refine s_step [54] (by simp) rfl rfl rfl rfl (e_loadH (v := .int ((usM l k) (x.route).toNat (x.day).toNat)) rfl ((Mat.set rfl rfl (Mat.set rfl rfl (Mat.set rfl rfl (Mat.set rfl rfl hMU)))).at (by omega)) (by kernel_rfl) (by kernel_rfl) (by kernel_rfl) (by simp only [List.length_map, List.length_range]; omega) (by decide) ((cell_map (mcell (by omega)) _).trans rfl)) trivial ?_
         refine s_e rfl (e_faQ pl3 rfl) ?_
         refine s_step [13] (by simp) rfl rfl rfl rfl (e_lH (v := .sc _) rfl ((hset_ne (key_ne rfl)).trans ((hset_ne (key_ne rfl)).trans (hset_self _ _ _))) rfl) trivial ?_
         refine s_e rfl (e_adL rfl rfl) ?_
         refine s_e rfl (e_ixaR0 rfl rfl (by kernel_rfl) (by kernel_rfl) (by omega)) ?_
         refine s_store [54] (by simp) rfl rfl (e_storeI (a := (((usM l k) (x.route).toNat (x.day).toNat) + x.count)) rfl ((Mat.set rfl rfl (Mat.set rfl rfl (Mat.set rfl rfl (Mat.set rfl rfl hMU)))).at (by omega)) rfl (by simp only [List.length_map, List.length_range]; omega) (by kernel_rfl) (by kernel_rfl)) trivial ?_
         refine s_end (ds := []) (by kernel_rfl) (by kernel_rfl) (hK74 _ ?_); clear hK74 K74
         refine pwp_seq_gops rfl fun K75 hK75 => ?_
         refine s_begin ?_
         refine s_e rfl (e_move (v := .ref _ _ _ _) rfl) ?_
         refine s_e rfl (e_faQ pl4 rfl) ?_
         refine s_step [14] (by simp) rfl rfl rfl rfl (e_lH (v := .sc _) rfl ((hset_ne (key_ne rfl)).trans (hset_self _ _ _)) rfl) trivial ?_
         refine s_e rfl (e_ixaR0 rfl rfl (by kernel_rfl) (by kernel_rfl) (by omega)) ?_
         refine s_step [43] (by simp) rfl rfl rfl rfl (e_loadV (v := .ref (41, gsG.getD (r.fro).toNat 0) 1 0 t.days.toNat) rfl (Mat.set rfl rfl (Mat.set rfl rfl (Mat.set rfl rfl (Mat.set rfl rfl (Mat.set rfl rfl hMG))))).out (by kernel_rfl) (by kernel_rfl) (by kernel_rfl) (hMG.row (by omega))) trivial ?_
         refine s_e rfl (e_faQ pl3 rfl) ?_
         refine s_step [13] (by simp) rfl rfl rfl rfl (e_lH (v := .sc _) rfl ((hset_ne (key_ne rfl)).trans ((hset_ne (key_ne rfl)).trans ((hset_ne (key_ne rfl)).trans (hset_self _ _ _)))) rfl) trivial ?_
         refine s_e rfl (e_move (v := .ref _ _ _ _) rfl) ?_
         refine s_e rfl (e_faQ pl4 rfl) ?_
         refine s_step [14] (by simp) rfl rfl rfl rfl (e_lH (v := .sc _) rfl ((hset_ne (key_ne rfl)).trans (hset_self _ _ _)) rfl) trivial ?_
         refine s_e rfl (e_ixaR0 rfl rfl (by kernel_rfl) (by kernel_rfl) (by omega)) ?_
         refine s_step [43] (by simp) rfl rfl rfl rfl (e_loadV (v := .ref (41, gsG.getD (r.fro).toNat 0) 1 0 t.days.toNat) rfl (Mat.set rfl rfl (Mat.set rfl rfl (Mat.set rfl rfl (Mat.set rfl rfl (Mat.set rfl rfl hMG))))).out (by kernel_rfl) (by kernel_rfl) (by kernel_rfl) (hMG.row (by omega))) trivial ?_
         refine s_e rfl (e_faQ pl3 rfl) ?_
         refine s_step [13] (by simp) rfl rfl rfl rfl (e_lH (v := .sc _) rfl ((hset_ne (key_ne rfl)).trans ((hset_ne (key_ne rfl)).trans ((hset_ne (key_ne rfl)).trans (hset_self _ _ _)))) rfl) trivial ?_
         refine s_e rfl (e_ixaR0 rfl rfl (by kernel_rfl) (by kernel_rfl) (by omega)) ?_
         refine s_step [41] (by simp) rfl rfl rfl rfl (e_loadH (v := .int ((goM t l k) (r.fro).toNat (x.day).toNat)) rfl ((Mat.set rfl rfl (Mat.set rfl rfl (Mat.set rfl rfl (Mat.set rfl rfl (Mat.set rfl rfl hMG))))).at (by omega)) (by kernel_rfl) (by kernel_rfl) (by kernel_rfl) (by simp only [List.length_map, List.length_range]; omega) (by decide) ((cell_map (mcell (by omega)) _).trans rfl)) trivial ?_
         refine s_e rfl (e_faQ pl3 rfl) ?_
         refine s_step [13] (by simp) rfl rfl rfl rfl (e_lH (v := .sc _) rfl ((hset_ne (key_ne rfl)).trans ((hset_ne (key_ne rfl)).trans ((hset_ne (key_ne rfl)).trans (hset_self _ _ _)))) rfl) trivial ?_
         refine s_e rfl (e_adL rfl rfl) ?_
         refine s_e rfl (e_ixaR0 rfl rfl (by kernel_rfl) (by kernel_rfl) (by omega)) ?_
         refine s_store [41] (by simp) rfl rfl (e_storeI (a := (((goM t l k) (r.fro).toNat (x.day).toNat) + x.count)) rfl ((Mat.set rfl rfl (Mat.set rfl rfl (Mat.set rfl rfl (Mat.set rfl rfl (Mat.set rfl rfl hMG))))).at (by omega)) rfl (by simp only [List.length_map, List.length_range]; omega) (by kernel_rfl) (by kernel_rfl)) trivial ?_
         refine s_end (ds := []) (by kernel_rfl) (by kernel_rfl) (hK75 _ ?_); clear hK75 K75
         refine pwp_gops rfl fun K76 hK76 => ?_
         refine s_begin ?_
         refine s_e rfl (e_move (v := .ref _ _ _ _) rfl) ?_
         refine s_e rfl (e_faQ pl4 rfl) ?_
         refine s_step [14] (by simp) rfl rfl rfl rfl (e_lH (v := .sc _) rfl ((hset_ne (key_ne rfl)).trans ((hset_ne (key_ne rfl)).trans (hset_self _ _ _))) rfl) trivial ?_
         refine s_e rfl (e_ixaR0 rfl rfl (by kernel_rfl) (by kernel_rfl) (by omega)) ?_
         refine s_step [19] (by simp) rfl rfl rfl rfl (e_loadV (v := .ref (17, gsC.getD (r.til).toNat 0) 1 0 t.days.toNat) rfl (Mat.set rfl rfl (Mat.set rfl rfl (Mat.set rfl rfl (Mat.set rfl rfl (Mat.set rfl rfl (Mat.set rfl rfl hMC)))))).out (by kernel_rfl) (by kernel_rfl) (by kernel_rfl) (hMC.row (by omega))) trivial ?_
         refine s_e rfl (e_faQ pl3 rfl) ?_
         refine s_step [13] (by simp) rfl rfl rfl rfl (e_lH (v := .sc _) rfl ((hset_ne (key_ne rfl)).trans ((hset_ne (key_ne rfl)).trans ((hset_ne (key_ne rfl)).trans ((hset_ne (key_ne rfl)).trans (hset_self _ _ _))))) rfl) trivial ?_
         refine s_e rfl (e_faQ pl4 rfl) ?_
         refine s_step [14] (by simp) rfl rfl rfl rfl (e_lH (v := .sc _) rfl ((hset_ne (key_ne rfl)).trans ((hset_ne (key_ne rfl)).trans (hset_self _ _ _))) rfl) trivial ?_
         refine s_e rfl (e_adL rfl rfl) ?_
         refine s_e rfl (e_move (v := .ref _ _ _ _) rfl) ?_
         refine s_e rfl (e_faQ pl4 rfl) ?_
         refine s_step [14] (by simp) rfl rfl rfl rfl (e_lH (v := .sc _) rfl ((hset_ne (key_ne rfl)).trans ((hset_ne (key_ne rfl)).trans (hset_self _ _ _))) rfl) trivial ?_
         refine s_e rfl (e_ixaR0 rfl rfl (by kernel_rfl) (by kernel_rfl) (by omega)) ?_
         refine s_step [19] (by simp) rfl rfl rfl rfl (e_loadV (v := .ref (17, gsC.getD (r.til).toNat 0) 1 0 t.days.toNat) rfl (Mat.set rfl rfl (Mat.set rfl rfl (Mat.set rfl rfl (Mat.set rfl rfl (Mat.set rfl rfl (Mat.set rfl rfl hMC)))))).out (by kernel_rfl) (by kernel_rfl) (by kernel_rfl) (hMC.row (by omega))) trivial ?_
         refine s_e rfl (e_faQ pl3 rfl) ?_
         refine s_step [13] (by simp) rfl rfl rfl rfl (e_lH (v := .sc _) rfl ((hset_ne (key_ne rfl)).trans ((hset_ne (key_ne rfl)).trans ((hset_ne (key_ne rfl)).trans ((hset_ne (key_ne rfl)).trans (hset_self _ _ _))))) rfl) trivial ?_
         refine s_e rfl (e_faQ pl4 rfl) ?_
         refine s_step [14] (by simp) rfl rfl rfl rfl (e_lH (v := .sc _) rfl ((hset_ne (key_ne rfl)).trans ((hset_ne (key_ne rfl)).trans (hset_self _ _ _))) rfl) trivial ?_
         refine s_e rfl (e_adL rfl rfl) ?_
         refine s_e rfl (e_ixaR0 rfl rfl (by kernel_rfl) (by kernel_rfl) (by omega)) ?_
         refine s_step [17] (by simp) rfl rfl rfl rfl (e_loadH (v := .int ((coM t l k) (r.til).toNat ((x.day + r.days)).toNat)) rfl ((Mat.set rfl rfl (Mat.set rfl rfl (Mat.set rfl rfl (Mat.set rfl rfl (Mat.set rfl rfl (Mat.set rfl rfl hMC)))))).at (by omega)) (by kernel_rfl) (by kernel_rfl) (by kernel_rfl) (by simp only [List.length_map, List.length_range]; omega) (by decide) ((cell_map (mcell (by omega)) _).trans rfl)) trivial ?_
         refine s_e rfl (e_faQ pl3 rfl) ?_
         refine s_step [13] (by simp) rfl rfl rfl rfl (e_lH (v := .sc _) rfl ((hset_ne (key_ne rfl)).trans ((hset_ne (key_ne rfl)).trans ((hset_ne (key_ne rfl)).trans ((hset_ne (key_ne rfl)).trans (hset_self _ _ _))))) rfl) trivial ?_
         refine s_e rfl (e_adL rfl rfl) ?_
         refine s_e rfl (e_ixaR0 rfl rfl (by kernel_rfl) (by kernel_rfl) (by omega)) ?_
         refine s_store [17] (by simp) rfl rfl (e_storeI (a := (((coM t l k) (r.til).toNat ((x.day + r.days)).toNat) + x.count)) rfl ((Mat.set rfl rfl (Mat.set rfl rfl (Mat.set rfl rfl (Mat.set rfl rfl (Mat.set rfl rfl (Mat.set rfl rfl hMC)))))).at (by omega)) rfl (by simp only [List.length_map, List.length_range]; omega) (by kernel_rfl) (by kernel_rfl)) trivial ?_
         refine s_end (ds := []) (by kernel_rfl) (by kernel_rfl) (hK76 _ ?_); clear hK76 K76
         refine block_norm ?_
         refine seq_norm (hK57 _ ?_); clear hK57 K57
         refine pwp_plain rfl fun K77 hK77 => ?_
         refine p_mS rfl ?_
         refine p_e rfl (e_adL rfl rfl) ?_
         refine p_aS rfl ?_
         refine p_end (hK77 _ ?_); clear hK77 K77
         exact loop_again (k + 1) (by show _ < _; omega) ⟨rfl, rfl, rfl, rfl, rfl, rfl, trivial⟩ ⟨rfl, trivial⟩ (by exact ⟨by show _ + 1 ≤ _; simp only [List.length_map] at *; omega, by exact nx_step (K := fun y => decide (trF t y ≠ 0)) hin hx (by rw [trF_0 (t := t) (by omega) hro (by omega) (by omega) (by omega)]; rfl), by exact fun _ => ⟨rfl, Mat.congr (Mat.set rfl rfl (Mat.set rfl rfl (Mat.upd (i := (x.route).toNat) (j := (x.day).toNat) (w := (((usM l k) (x.route).toNat (x.day).toNat) + x.count)) rfl (Mat.set rfl rfl (Mat.set rfl rfl (Mat.set rfl rfl (Mat.set rfl rfl hMU)))) (by omega) (by omega)))) (fun p d _ _ => tab_s hx (aU_iff (by omega) (by omega)) p d)⟩, by exact Mat.congr (Mat.upd (i := (r.til).toNat) (j := ((x.day + r.days)).toNat) (w := (((coM t l k) (r.til).toNat ((x.day + r.days)).toNat) + x.count)) rfl (Mat.set rfl rfl (Mat.set rfl rfl (Mat.set rfl rfl (Mat.set rfl rfl (Mat.set rfl rfl (Mat.set rfl rfl hMC)))))) (by omega) (by omega)) (fun p d _ _ => co_s hx (aI_iff hro (by omega) (by omega)) p d), by exact Mat.congr (Mat.set rfl rfl (Mat.upd (i := (r.fro).toNat) (j := (x.day).toNat) (w := (((goM t l k) (r.fro).toNat (x.day).toNat) + x.count)) rfl (Mat.set rfl rfl (Mat.set rfl rfl (Mat.set rfl rfl (Mat.set rfl rfl (Mat.set rfl rfl hMG))))) (by omega) (by omega))) (fun p d _ _ => tab_s hx (aG_iff hro (by omega) (by omega)) p d), ((hset_ne (key_ne rfl)).trans ((hset_ne (key_ne rfl)).trans ((hset_ne (key_ne rfl)).trans ((hset_ne (key_ne rfl)).trans ((hset_ne (key_ne rfl)).trans ((hset_ne (key_ne rfl)).trans ((hset_ne (key_ne rfl)).trans hihj53_0)))))))⟩)
    ·have hb56R := hb56; try simp only [zz] at hb56
     have hkk : k = l.length := by simp only [List.length_map] at *; omega
     subst hkk
     have htr : feL (trF t) l = 0 := feL_no hin (Nat.le_refl _)
     refine pwp_exit ?_
     refine exit_seq ?_
     clear hK55 K55
     refine exit_loop ?_
     refine exit_here ?_
     refine seq_norm (hK49 _ ?_); clear hK49 K49
     refine pwp_seq_seq ?_
     refine pwp_seq_plain rfl fun K78 hK78 => ?_
     refine p_aS rfl ?_
     refine p_end (hK78 _ ?_); clear hK78 K78
     refine pwp_seq_block fun K79 hK79 => ?_
     refine pwp_loopR (α := Nat) [2, 6, 7, 8, 10] (fun (i : Nat) => [(15, .int (i))]) (fun (i : Nat) (h : Heap) (_ : Nat → Nat) => ((i) ≤ t.routes.length) ∧ (1 ≤ t.routes.length → v = .ref (56, gU) 1 0 t.routes.length ∧ Mat h (56, gU) 54 t.routes.length t.days.toNat ci gsU (usM l l.length)) ∧ (∀ i_, i_ < (i) → ∀ d, d < t.days.toNat → usM l l.length i_ d ≤ (t.routes.getD i_ default).most) ∧ (Mat h (19, gC) 17 t.places.toNat t.days.toNat ci gsC (coM t l l.length)) ∧ (Mat h (43, gG) 41 t.places.toNat t.days.toNat ci gsG (goM t l l.length)) ∧ (h (2, 0) = some (.rows 5 [Traffic.enc t]))) (fun (i : Nat) => t.routes.length - (i)) (0) (by exact ⟨rfl, trivial⟩) (by exact ⟨by exact Nat.zero_le _, by exact hU, by exact fun i h => absurd h (Nat.not_lt_zero _), by exact hMC, by exact hMG, hihj53_0⟩) fun i r80 h81 c82 hj83 => ?_
     obtain ⟨hi, hU, hlm, hMC, hMG, hihj83_0⟩ := hj83
     try dsimp only at hi
     try dsimp only at hU
     try dsimp only at hlm
     try dsimp only at hMC
     try dsimp only at hMG
     try dsimp only at hihj83_0
     show pwp _ _ (loopQ _ _ _) ⟨sets (mix _ _ _) [(15, .int i)], _, _⟩
     refine pwp_seq_seq ?_
     refine pwp_seq_plain rfl fun K84 hK84 => ?_
     refine p_mS rfl ?_
     refine p_e rfl (e_faQ pl5 rfl) ?_
     refine p_e rfl (e_lH (v := .lit _ _ _) rfl hihj83_0 rfl) ?_
     refine p_e rfl (e_len rfl (by kernel_rfl)) ?_
     refine p_e rfl (e_lt rfl rfl) ?_
     refine p_end (hK84 _ ?_); clear hK84 K84
     refine pwp_seq_cond rfl fun K85 hK85 => ⟨fun hb86 => ?_, fun hb86 => ?_⟩
     ·have hb86R := hb86; try simp only [zz] at hb86
      have hiN : i < t.routes.length := by first | omega | (simp only [List.length_map] at *; omega)
      have hr : t.routes[i]? = some t.routes[i] := List.getElem?_eq_getElem hiN
      have hrD : t.routes.getD i default = t.routes[i] := by rw [List.getD_eq_getElem?_getD, hr]; rfl
      refine pwp_skip ?_
      refine seq_norm (hK85 _ ?_); clear hK85 K85
      refine pwp_seq_block fun K87 hK87 => ?_
      refine pwp_seq_plain rfl fun K88 hK88 => ?_
      refine p_aS rfl ?_
      refine p_end (hK88 _ ?_); clear hK88 K88
      refine pwp_block ?_
      refine pwp_loopR (α := Nat) [2, 6, 7, 8, 10, 15] (fun (d : Nat) => [(16, .int (d))]) (fun (d : Nat) (h : Heap) (_ : Nat → Nat) => (((d) : Int) ≤ t.days) ∧ (1 ≤ t.routes.length → v = .ref (56, gU) 1 0 t.routes.length ∧ Mat h (56, gU) 54 t.routes.length t.days.toNat ci gsU (usM l l.length)) ∧ (∀ e, e < (d) → usM l l.length i e ≤ (t.routes.getD i default).most) ∧ (Mat h (19, gC) 17 t.places.toNat t.days.toNat ci gsC (coM t l l.length)) ∧ (Mat h (43, gG) 41 t.places.toNat t.days.toNat ci gsG (goM t l l.length)) ∧ (h (2, 0) = some (.rows 5 [Traffic.enc t]))) (fun (d : Nat) => 20 - (d)) (0) (by exact ⟨rfl, trivial⟩) (by exact ⟨by show (0 : Int) ≤ _; omega, by exact hU, by exact fun i h => absurd h (Nat.not_lt_zero _), by exact hMC, by exact hMG, hihj83_0⟩) fun d r89 h90 c91 hj92 => ?_
      obtain ⟨hd, hU, hld, hMC, hMG, hihj92_0⟩ := hj92
      try dsimp only at hd
      try dsimp only at hU
      try dsimp only at hld
      try dsimp only at hMC
      try dsimp only at hMG
      try dsimp only at hihj92_0
      show pwp _ _ (loopQ _ _ _) ⟨sets (mix _ _ _) [(16, .int d)], _, _⟩
      refine pwp_seq_seq ?_
      refine pwp_seq_plain rfl fun K93 hK93 => ?_
      refine p_mS rfl ?_
      refine p_e rfl (e_faQ pl5 rfl) ?_
      refine p_e rfl (e_lH (v := .sc _) rfl hihj92_0 rfl) ?_
      refine p_e rfl (e_lt rfl rfl) ?_
      refine p_end (hK93 _ ?_); clear hK93 K93
      refine pwp_seq_cond rfl fun K94 hK94 => ⟨fun hb95 => ?_, fun hb95 => ?_⟩
      ·have hb95R := hb95; try simp only [zz] at hb95
       have hub := us_bk hin (Nat.le_refl _) (by omega) i d
       refine pwp_skip ?_
       refine seq_norm (hK94 _ ?_); clear hK94 K94
       refine pwp_seq_block fun K96 hK96 => ?_
       have hU1 := hU (by first | omega | (simp only [List.length_map] at *; omega))
       obtain ⟨hvU, hMU⟩ := hU1
       subst hvU
       refine pwp_seq_gops rfl fun K97 hK97 => ?_
       refine s_begin ?_
       refine s_e rfl (e_move (v := .ref _ _ _ _) rfl) ?_
       refine s_e rfl (e_move (v := .sc _) rfl) ?_
       refine s_e rfl (e_ixaR0 rfl rfl (by kernel_rfl) (by kernel_rfl) (by omega)) ?_
       refine s_step [56] (by simp) rfl rfl rfl rfl (e_loadV (v := .ref (54, gsU.getD ((i : Int)).toNat 0) 1 0 t.days.toNat) rfl hMU.out (by kernel_rfl) (by kernel_rfl) (by kernel_rfl) (hMU.row (by omega))) trivial ?_
       refine s_e rfl (e_move (v := .sc _) rfl) ?_
       refine s_e rfl (e_ixaR0 rfl rfl (by kernel_rfl) (by kernel_rfl) (by omega)) ?_
       refine s_step [54] (by simp) rfl rfl rfl rfl (e_loadH (v := .int ((usM l l.length) ((i : Int)).toNat ((d : Int)).toNat)) rfl (hMU.at (by omega)) (by kernel_rfl) (by kernel_rfl) (by kernel_rfl) (by simp only [List.length_map, List.length_range]; omega) (by decide) ((cell_map (mcell (by omega)) _).trans rfl)) trivial ?_
       refine s_e rfl (e_faQ pl5 rfl) ?_
       refine s_step [2] (by simp) rfl rfl rfl rfl (e_lH (v := .lit _ _ _) rfl hihj92_0 rfl) trivial ?_
       refine s_e rfl (e_move (v := .sc _) rfl) ?_
       refine s_e rfl (e_ixL rfl rfl) ?_
       refine s_e rfl (e_fb pl4 rfl) ?_
       refine s_e rfl (e_load (v := .sc _) rfl (by kernel_rfl) (by kernel_rfl) (by kernel_rfl) (by first | omega | (simp only [List.length_map]; omega)) (by decide) ((cell_map hr _).trans rfl)) ?_
       refine s_e rfl (e_gt rfl rfl) ?_
       refine s_end (ds := []) (by kernel_rfl) (by kernel_rfl) (hK97 _ ?_); clear hK97 K97
       refine pwp_cond rfl (fun hb98 => ?_) (fun hb98 => ?_)
       ·have hb98R := hb98; try simp only [zz] at hb98
        refine pwp_seq_plain rfl fun K99 hK99 => ?_
        refine p_aS rfl ?_
        refine p_aS rfl ?_
        refine p_end (hK99 _ ?_); clear hK99 K99
        refine pwp_ret ?_
        refine ret_block ?_
        refine ret_seq ?_
        refine ret_loop ?_
        refine ret_block ?_
        refine ret_block ?_
        refine ret_seq ?_
        refine ret_loop ?_
        refine ret_block ?_
        refine ret_seq ?_
        refine end2 (v := .sc _) (w := .sc _) rfl rfl ?_
        first
          | exact out_p (tr_8 (by omega))
          | exact out_p (tr_hit hin hx (trF_6 (by omega)) (by decide) (by omega))
          | exact out_p (tr_hit hin hx (trF_2 (by omega) hro (by omega)) (by decide) (by omega))
          | exact out_p (tr_18 (by omega) htr (lim_t (i := i) (d := d) (by omega) (by omega) (by rw [hrD]; (try simp only [Int.toNat_natCast] at *); omega)))
          | exact out_p (tr_22 (by omega) htr hlf (stk_of (p := p) (by omega) (by assumption)))
          | exact out_p (by rw [ha]; exact tr_0 (by omega) htr hlf hsf)
       ·have hb98R := hb98; try simp only [zz] at hb98
        refine pwp_skip ?_
        refine block_norm ?_
        refine seq_norm (hK96 _ ?_); clear hK96 K96
        refine pwp_plain rfl fun K100 hK100 => ?_
        refine p_mS rfl ?_
        refine p_e rfl (e_adL rfl rfl) ?_
        refine p_aS rfl ?_
        refine p_end (hK100 _ ?_); clear hK100 K100
        exact loop_again (d + 1) (by show _ < _; omega) ⟨rfl, rfl, rfl, rfl, rfl, rfl, trivial⟩ ⟨rfl, trivial⟩ (by exact ⟨by show ((_ + 1 : Nat) : Int) ≤ _; omega, by exact hU, by exact fun e he => (by by_cases q : e = d; (subst q; rw [hrD]; (try simp only [Int.toNat_natCast] at *); omega); exact hld e (by omega)), by exact hMC, by exact hMG, hihj92_0⟩)
      ·have hb95R := hb95; try simp only [zz] at hb95
       refine pwp_exit ?_
       refine exit_seq ?_
       clear hK94 K94
       refine exit_loop ?_
       refine exit_here ?_
       refine block_norm ?_
       refine seq_norm (hK87 _ ?_); clear hK87 K87
       refine pwp_plain rfl fun K101 hK101 => ?_
       refine p_mS rfl ?_
       refine p_e rfl (e_adL rfl rfl) ?_
       refine p_aS rfl ?_
       refine p_end (hK101 _ ?_); clear hK101 K101
       exact loop_again (i + 1) (by show _ < _; omega) ⟨rfl, rfl, rfl, rfl, rfl, trivial⟩ ⟨rfl, trivial⟩ (by exact ⟨by show _ + 1 ≤ _; first | omega | (simp only [List.length_map] at *; omega), by exact hU, by exact fun j hj d hd => (by by_cases e : j = i; (subst e; exact hld d (by omega)); exact hlm j (by omega) d hd), by exact hMC, by exact hMG, hihj92_0⟩)
     ·have hb86R := hb86; try simp only [zz] at hb86
      have hii : i = t.routes.length := by first | omega | (simp only [List.length_map] at *; omega)
      subst hii
      have hlf : limB t l = false := lim_f hlm
      refine pwp_exit ?_
      refine exit_seq ?_
      clear hK85 K85
      refine exit_loop ?_
      refine exit_here ?_
      refine seq_norm (hK79 _ ?_); clear hK79 K79
      refine pwp_seq_plain rfl fun K102 hK102 => ?_
      refine p_aS rfl ?_
      refine p_end (hK102 _ ?_); clear hK102 K102
      refine pwp_seq_seq ?_
      refine pwp_seq_plain rfl fun K103 hK103 => ?_
      refine p_aS rfl ?_
      refine p_end (hK103 _ ?_); clear hK103 K103
      refine pwp_seq_block fun K104 hK104 => ?_
      refine pwp_loopR (α := Nat × Int) [2, 6, 7, 8] (fun (a105 : Nat × Int) => [(17, .int (a105.2)), (18, .int (a105.1))]) (fun (a105 : Nat × Int) (h : Heap) (_ : Nat → Nat) => (((a105.1) : Int) ≤ t.places) ∧ ((a105.2) = lvl (fun p_ => tkN (lvB t l p_) (ndM t p_) t.days.toNat t.days.toNat) (a105.1)) ∧ (∀ i, i < (a105.1) → ∀ d, d < t.days.toNat → 0 ≤ lvB t l i d) ∧ (Mat h (19, gC) 17 t.places.toNat t.days.toNat ci gsC (coM t l l.length)) ∧ (Mat h (43, gG) 41 t.places.toNat t.days.toNat ci gsG (goM t l l.length)) ∧ (h (2, 0) = some (.rows 5 [Traffic.enc t]))) (fun (a105 : Nat × Int) => t.places.toNat - (a105.1)) (0, 0) (by exact ⟨rfl, rfl, trivial⟩) (by exact ⟨by show (0 : Int) ≤ _; omega, by exact rfl, by exact fun i h => absurd h (Nat.not_lt_zero _), by exact hMC, by exact hMG, hihj83_0⟩) fun a105 r106 h107 c108 hj109 => ?_
      obtain ⟨p, a⟩ := a105
      obtain ⟨hp, ha, hst, hMC, hMG, hihj109_0⟩ := hj109
      try dsimp only at hp
      try dsimp only at ha
      try dsimp only at hst
      try dsimp only at hMC
      try dsimp only at hMG
      try dsimp only at hihj109_0
      show pwp _ _ (loopQ _ _ _) ⟨sets (mix _ _ _) [(17, .int a), (18, .int p)], _, _⟩
      refine pwp_seq_seq ?_
      refine pwp_seq_plain rfl fun K110 hK110 => ?_
      refine p_mS rfl ?_
      refine p_e rfl (e_faQ pl5 rfl) ?_
      refine p_e rfl (e_lH (v := .sc _) rfl hihj109_0 rfl) ?_
      refine p_e rfl (e_lt rfl rfl) ?_
      refine p_end (hK110 _ ?_); clear hK110 K110
      refine pwp_seq_cond rfl fun K111 hK111 => ⟨fun hb112 => ?_, fun hb112 => ?_⟩
      ·have hb112R := hb112; try simp only [zz] at hb112
       have htl : (tabL t.places.toNat t.days.toNat (spM t.needs t.needs.length)).length = t.places.toNat := by simp [tabL]
       have hxN : (tabL t.places.toNat t.days.toNat (spM t.needs t.needs.length))[p]? = some ((List.range t.days.toNat).map (spM t.needs t.needs.length p)) := mcell1 (by omega)
       have hb5 := met_b (l := l) hT (p := p) (by omega)
       have hb5b := met_b (l := l) hT (p := p + 1) (by omega)
       rw [lvl] at hb5b
       refine pwp_skip ?_
       refine seq_norm (hK111 _ ?_); clear hK111 K111
       refine pwp_seq_block fun K113 hK113 => ?_
       refine pwp_seq_gops rfl fun K114 hK114 => ?_
       refine s_begin ?_
       refine s_e rfl (e_move (v := .ref _ _ _ _) rfl) ?_
       refine s_e rfl (e_move (v := .sc _) rfl) ?_
       refine s_e rfl (e_ixaR0 rfl rfl (by kernel_rfl) (by kernel_rfl) (by omega)) ?_
       refine s_step [19] (by simp) rfl rfl rfl rfl (e_loadV (v := .ref (17, gsC.getD ((p : Int)).toNat 0) 1 0 t.days.toNat) rfl hMC.out (by kernel_rfl) (by kernel_rfl) (by kernel_rfl) (hMC.row (by omega))) trivial ?_
       refine s_e rfl (e_move (v := .ref _ _ _ _) rfl) ?_
       refine s_e rfl (e_move (v := .sc _) rfl) ?_
       refine s_e rfl (e_ixaR0 rfl rfl (by kernel_rfl) (by kernel_rfl) (by omega)) ?_
       refine s_step [43] (by simp) rfl rfl rfl rfl (e_loadV (v := .ref (41, gsG.getD ((p : Int)).toNat 0) 1 0 t.days.toNat) rfl hMG.out (by kernel_rfl) (by kernel_rfl) (by kernel_rfl) (hMG.row (by omega))) trivial ?_
       refine s_e rfl (e_move (v := .lit _ _ _) rfl) ?_
       refine s_e rfl (e_move (v := .sc _) rfl) ?_
       refine s_e rfl (e_ixL rfl rfl) ?_
       refine s_e rfl (e_load (v := .lit _ _ _) rfl (by kernel_rfl) (by kernel_rfl) (by kernel_rfl) (by first | omega | (simp only [List.length_map]; omega)) (by decide) ((cell_map hxN _).trans rfl)) ?_
       refine s_call (args := [.ref _ _ _ _, .ref _ _ _ _, .lit _ _ _]) [17, 41] (by intro k hk; simp [keysOf, Go.Pv.keyOf] at hk; try (first | (subst hk; simp; done) | (rcases hk with rfl | rfl <;> simp; done))) rfl rfl rfl rfl (.cons (inn_ref (rows := ((List.range t.days.toNat).map (coM t l l.length p)).map ci) (Mat.at (i := p) hMC (by omega)) (by simp) rfl (by exact pure_map ci_pure)) (.cons (inn_ref (rows := ((List.range t.days.toNat).map (goM t l l.length p)).map ci) (Mat.at (i := p) hMG (by omega)) (by simp) rfl (by exact pure_map ci_pure)) (.cons inn_lit .nil))) (takenR true true true t.days.toNat (coM t l l.length p) (goM t l l.length p) (spM t.needs t.needs.length p) (by omega) (fun d _ => by have := co_b (t := t) hT hin (Nat.le_refl _) (by omega) p d; omega) (fun d _ => by have := go_b (t := t) hin (Nat.le_refl _) (by omega) p d; omega) (fun d _ => by have := nd_b hT p d; rw [ndM] at this; omega)) ?_
       refine s_e rfl (e_move (v := .tup _) rfl) ?_
       refine s_e rfl (e_ext (v := .sc _) rfl (by simp) rfl) ?_
       refine s_e rfl (e_ext (v := .sc _) rfl (by simp) rfl) ?_
       refine s_e rfl (e_assign (v := .sc _) rfl) ?_
       refine s_e rfl (e_assign (v := .sc _) rfl) ?_
       refine s_end (ds := []) (by kernel_rfl) (by kernel_rfl) (hK114 _ ?_); clear hK114 K114
       refine pwp_seq_seq ?_
       refine pwp_seq_plain rfl fun K115 hK115 => ?_
       refine p_mS rfl ?_
       refine p_e rfl (e_not rfl) ?_
       refine p_end (hK115 _ ?_); clear hK115 K115
       refine pwp_seq_cond rfl fun K116 hK116 => ⟨fun hb117 => ?_, fun hb117 => ?_⟩
       ·have hb117R := hb117; try simp only [zz] at hb117
        refine pwp_seq_plain rfl fun K118 hK118 => ?_
        refine p_aS rfl ?_
        refine p_aS rfl ?_
        refine p_end (hK118 _ ?_); clear hK118 K118
        refine pwp_ret ?_
        refine ret_seq ?_
        refine ret_block ?_
        refine ret_seq ?_
        refine ret_loop ?_
        refine ret_block ?_
        refine ret_seq ?_
        refine end2 (v := .sc _) (w := .sc _) rfl rfl ?_
        first
          | exact out_p (tr_8 (by omega))
          | exact out_p (tr_hit hin hx (trF_6 (by omega)) (by decide) (by omega))
          | exact out_p (tr_hit hin hx (trF_2 (by omega) hro (by omega)) (by decide) (by omega))
          | exact out_p (tr_18 (by omega) htr (lim_t (i := i) (d := d) (by omega) (by omega) (by rw [hrD]; (try simp only [Int.toNat_natCast] at *); omega)))
          | exact out_p (tr_22 (by omega) htr hlf (stk_of (p := p) (by omega) (by assumption)))
          | exact out_p (by rw [ha]; exact tr_0 (by omega) htr hlf hsf)
       ·have hb117R := hb117; try simp only [zz] at hb117
        refine pwp_skip ?_
        refine seq_norm (hK116 _ ?_); clear hK116 K116
        have hmo := (met_of (t := t) (l := l) (p := p) (by assumption)).1
        refine pwp_plain rfl fun K119 hK119 => ?_
        refine p_mS rfl ?_
        refine p_mS rfl ?_
        refine p_e rfl (e_adL rfl rfl) ?_
        refine p_aS rfl ?_
        refine p_end (hK119 _ ?_); clear hK119 K119
        refine block_norm ?_
        refine seq_norm (hK113 _ ?_); clear hK113 K113
        refine pwp_plain rfl fun K120 hK120 => ?_
        refine p_mS rfl ?_
        refine p_e rfl (e_adL rfl rfl) ?_
        refine p_aS rfl ?_
        refine p_end (hK120 _ ?_); clear hK120 K120
        exact loop_again ((p + 1, (a + (tkR t.days.toNat (coM t l l.length p) (goM t l l.length p) (spM t.needs t.needs.length p)).1))) (by show _ < _; simp only; omega) ⟨rfl, rfl, rfl, rfl, trivial⟩ ⟨rfl, rfl, trivial⟩ (by exact ⟨by show ((_ + 1 : Nat) : Int) ≤ _; omega, by rw [lvl, ha, (met_of (by assumption)).1], by exact fun i hi d hd => (by by_cases e : i = p; (subst e; exact (met_of (by assumption)).2 d hd); exact hst i (by omega) d hd), by exact hMC, by exact hMG, hihj109_0⟩)
      ·have hb112R := hb112; try simp only [zz] at hb112
       have hpp : p = t.places.toNat := by omega
       subst hpp
       have hsf : stkB t l = false := stk_f hst
       refine pwp_exit ?_
       refine exit_seq ?_
       clear hK111 K111
       refine exit_loop ?_
       refine exit_here ?_
       refine seq_norm (hK104 _ ?_); clear hK104 K104
       refine pwp_seq_plain rfl fun K121 hK121 => ?_
       refine p_mS rfl ?_
       refine p_aS rfl ?_
       refine p_aS rfl ?_
       refine p_end (hK121 _ ?_); clear hK121 K121
       refine pwp_ret ?_
       refine end2 (v := .sc _) (w := .sc _) rfl rfl ?_
       first
         | exact out_p (tr_8 (by omega))
         | exact out_p (tr_hit hin hx (trF_6 (by omega)) (by decide) (by omega))
         | exact out_p (tr_hit hin hx (trF_2 (by omega) hro (by omega)) (by decide) (by omega))
         | exact out_p (tr_18 (by omega) htr (lim_t (i := i) (d := d) (by omega) (by omega) (by rw [hrD]; (try simp only [Int.toNat_natCast] at *); omega)))
         | exact out_p (tr_22 (by omega) htr hlf (stk_of (p := p) (by omega) (by assumption)))
         | exact out_p (by rw [ha]; exact tr_0 (by omega) htr hlf hsf)

end Go.Proofs.Ytigdmkhdmbbfiaa
