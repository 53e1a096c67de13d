/- A cut with the least capacity, as the program tells it. No conditions. -/
import Derived.Test.YtigdmkhdmbbfiaaFm
set_option linter.unusedSimpArgs false
set_option linter.unusedVariables false
set_option maxRecDepth 100000
namespace Go.Proofs.Ytigdmkhdmbbfiaa
open Go Go.Pv
/-- The cut as it is built. -/
def cutX (t : Traffic) (bs : List Int) (p d : Nat) : List At := ((List.range p).flatMap fun p : Nat => ((List.range t.days.toNat).filter fun d : Nat => decide (bs.getD (ndI t p d).toNat 0 ≠ -1)).map fun d : Nat => (⟨(p : Int), (d : Int)⟩ : At)) ++ ((List.range d).filter fun d : Nat => decide (bs.getD (ndI t p d).toNat 0 ≠ -1)).map fun d : Nat => (⟨(p : Int), (d : Int)⟩ : At)
section
variable {t : Traffic} {bs : List Int} {p d : Nat}
theorem cutX_t (h : bs.getD (ndI t p d).toNat 0 ≠ -1) : cutX t bs p (d + 1) = cutX t bs p d ++ [⟨(p : Int), (d : Int)⟩] := by
 rw [cutX, cutX, List.range_succ, List.filter_append, List.map_append, List.append_assoc]
 congr 2
 rw [List.filter_cons, if_pos (decide_eq_true h)]; rfl
theorem cutX_f (h : ¬ bs.getD (ndI t p d).toNat 0 ≠ -1) : cutX t bs p (d + 1) = cutX t bs p d := by
 rw [cutX, cutX, List.range_succ, List.filter_append, List.map_append]
 rw [List.filter_cons, if_neg (by rw [decide_eq_false h]; decide)]; simp
theorem cutX_tD {l : List At} (hl : l = cutX t bs p d) (h : decide (bs.getD (ndI t p d).toNat 0 ≠ -1) = true) : l ++ [(⟨(p : Int), (d : Int)⟩ : At)] = cutX t bs p (d + 1) := by rw [cutX_t (of_decide_eq_true h), hl]
theorem cutX_fD {l : List At} (hl : l = cutX t bs p d) (h : decide (bs.getD (ndI t p d).toNat 0 ≠ -1) = false) : l = cutX t bs p (d + 1) := by rw [cutX_f (of_decide_eq_false h), hl]
theorem cutX_e (hd : d = t.days.toNat) : cutX t bs p d = cutX t bs (p + 1) 0 := by
 subst hd
 rw [cutX, cutX, List.range_succ, List.flatMap_append]; simp
theorem cutX_z (hp : p = t.places.toNat) : cutX t bs p 0 = cutL t fun v => decide (bs.getD v.toNat 0 ≠ -1) := by
 subst hp
 rw [cutX, cutL]; simp
theorem cutX_0 : cutX t bs 0 0 = [] := rfl
theorem cutX_len (hp : p ≤ 8) (hd : d ≤ 20) (hD : t.days.toNat ≤ 20) : (cutX t bs p d).length ≤ 180 := by
 have main : ∀ n, n ≤ 8 → ((List.range n).flatMap fun p : Nat => ((List.range t.days.toNat).filter fun d : Nat => decide (bs.getD (ndI t p d).toNat 0 ≠ -1)).map fun d : Nat => (⟨(p : Int), (d : Int)⟩ : At)).length ≤ n * 20 := fun n => by
   induction n with
   | zero => intro _; simp
   | succ n ih =>
     intro hn
     have h1 := ih (by omega)
     rw [List.range_succ, List.flatMap_append, List.length_append]
     have h2 := List.length_filter_le (fun d : Nat => decide (bs.getD (ndI t n d).toNat 0 ≠ -1)) (List.range t.days.toNat)
     rw [List.length_range] at h2
     simp only [List.flatMap_cons, List.flatMap_nil, List.append_nil, List.length_map] at h1 ⊢; omega
 have h1 := main p hp
 have h2 := List.length_filter_le (fun d : Nat => decide (bs.getD (ndI t p d).toNat 0 ≠ -1)) (List.range d)
 rw [List.length_range] at h2
 rw [cutX, List.length_append, List.length_map]; omega
end
theorem frH16 : (inFrame Try.f16.ntmps (Try.f16.body.getD .skip) && Try.f16.results.toList.all (resScope Try.f16.ntmps)) = true := by kernel_rfl
theorem cutH (t : Traffic) (hl1 : t.routes.length ≤ 9223372036854775807) (hl2 : t.supplies.length ≤ 9223372036854775807) (hl3 : t.needs.length ≤ 9223372036854775807) (h0 : Heap) (c0 : Nat → Nat) : HCallsR Try.prog 16 [.agg t.enc] h0 c0 (CutR t h0 c0) := by
 refine HCallsR.of_code Try.func16 rfl rfl (by kernel_rfl) mixed frH16 (by show _ ≤ 67; simp) ?_
 refine pwp_seq_plain rfl fun K1 hK1 => ?_
 refine p_new rfl (e_box (n := 5) rfl rfl) ⟨rfl, by decide⟩ ?_
 refine p_e rfl (e_assign (v := .nil) rfl) ?_
 refine p_aS rfl ?_
 refine p_aS rfl ?_
 refine p_end (hK1 _ ?_); clear hK1 K1
 refine pwp_seq_seq ?_
 refine pwp_seq_plain rfl fun K2 hK2 => ?_
 refine p_e rfl (e_loadHA (cs := Traffic.enc (t)) (n := 5) rfl (hset_self _ _ _) (by kernel_rfl) (by kernel_rfl) (by kernel_rfl) (by exact Nat.zero_lt_one) (by decide) rfl) ?_
 refine p_call rfl (.cons (inn_agg (Traffic.pure _)) .nil) (CheckTrafficC t (by omega) (by omega) (by omega)) ?_
 refine p_aS rfl ?_
 refine p_end (hK2 _ ?_); clear hK2 K2
 refine pwp_seq_seq ?_
 refine pwp_seq_plain rfl fun K3 hK3 => ?_
 refine p_mS rfl ?_
 refine p_e rfl (e_ne rfl rfl) ?_
 refine p_end (hK3 _ ?_); clear hK3 K3
 refine pwp_seq_cond rfl fun K4 hK4 => ⟨fun hb5 => ?_, fun hb5 => ?_⟩
 ·have hb5R := hb5; try simp only [zz] at hb5
  refine pwp_seq_plain rfl fun K6 hK6 => ?_
  refine p_mS rfl ?_
  refine p_e rfl (e_assign (v := .nil) rfl) ?_
  refine p_aS rfl ?_
  refine p_aS rfl ?_
  refine p_end (hK6 _ ?_); clear hK6 K6
  refine pwp_ret ?_
  refine ret_seq ?_
  refine end3 (v := .nil) (w := .sc _) (x := .sc _) rfl rfl rfl ?_
  exact ⟨OldS.new (d := 1) OldS.refl, .inl ⟨by omega, rfl⟩⟩
 have hb5R := hb5; try simp only [zz] at hb5
 refine pwp_skip ?_
 refine seq_norm (hK4 _ ?_); clear hK4 K4
 have htz : trafE t = 0 := by omega
 have hT := trafE_inv htz
 have q1 := hT.hA
 have q2 := hT.hB
 have q3 := hT.hr
 have q4 := hT.hs
 have q5 := hT.hn
 have hEd : ndE t = ndS t + 1 := rfl
 have hS0 : 0 ≤ ndS t := Int.mul_nonneg (by omega) (by omega)
 have hS1 : ndS t ≤ 8 * 20 := Int.mul_le_mul (by omega) (by omega) (by omega) (by omega)
 have hNN : ((NN t : Nat) : Int) = ndS t + 2 := by rw [NN]; omega
 have hal := arcs_len hT
 refine pwp_seq_plainK rfl fun hkn K7 hK7 => ?_
 refine p_e rfl (e_loadHA (n := 5) (cs := t.enc) rfl (hset_self _ _ _) (by kernel_rfl) (by kernel_rfl) (by kernel_rfl) (by exact Nat.zero_lt_one) (by decide) rfl) ?_
 refine p_hcall rfl (planH t hT _ _) fun v18 h18 c18 hR18 => ?_
 obtain ⟨gp, gF, gm, m, rfl, hNA, hM, hTM, hO⟩ := hR18
 obtain ⟨vP0, vs0, hn0⟩ := hNA
 have hOs := (OldS.new (d := 1) OldS.refl).trans hO
 have hbx := (hO.1 (1, c0 1) rfl (hkn (1, c0 1) _ (hset_self _ _ _))).trans (hset_self _ _ _)
 refine p_e rfl (e_assign (v := .ptr _ _ _ _) rfl) ?_
 refine p_end (hK7 _ ?_); clear hK7 K7
 refine pwp_seq_gopsK rfl fun hkn K8 hK8 => ?_
 obtain ⟨gP, hvg⟩ := vpg vP0
 refine s_begin ?_
 refine s_e rfl (e_move (v := .ptr (30, gp) 10 0 0) rfl) ?_
 refine s_e rfl (e_nilc rfl) ?_
 refine s_e rfl (e_faQ [(0, 5, true), (5, 2, true), (7, 1, false), (8, 1, false), (9, 1, false)] rfl) ?_
 refine s_e rfl (e_move (v := .ptr (30, gp) 10 0 0) rfl) ?_
 refine s_e rfl (e_nilc rfl) ?_
 refine s_e rfl (e_faQ [(0, 5, true), (5, 2, true), (7, 1, false), (8, 1, false), (9, 1, false)] rfl) ?_
 refine s_step [30] (by simp) rfl rfl rfl rfl (e_lH (v := .int (ndS t)) rfl hn0.row rfl) trivial ?_
 refine s_e rfl (e_move (v := .ptr (30, gp) 10 0 0) rfl) ?_
 refine s_e rfl (e_nilc rfl) ?_
 refine s_e rfl (e_faQ [(0, 5, true), (5, 2, true), (7, 1, false), (8, 1, false), (9, 1, false)] rfl) ?_
 refine s_step [30] (by simp) rfl rfl rfl rfl (e_lH (v := .int (ndE t)) rfl hn0.row rfl) trivial ?_
 refine s_hcall (by kernel_rfl) rfl rfl rfl rfl (fillH0 t hT gp gF gm gP vP0 vs0 _ rfl hvg _ _ hn0) fun v30 h30 c30 hR30 => ?_
 obtain ⟨af, n, bs, rfl, hNX, hF, hR, hbe, hOP⟩ := hR30
 obtain ⟨vP, vs, hn⟩ := hNX
 have hO2 := hOs.pp hOP
 have hM2 : MapAt h30 (28, gm) (entsOf iV trV m) := by obtain ⟨b1, b2, b3, b4⟩ := hM; exact ⟨b1, b2, (hOP.1 (28, gm) (hkn (28, gm) _ b3) (key_ne rfl)).trans b3, b4⟩
 have hbx2 := (hOP.1 (1, c0 1) (hkn (1, c0 1) _ hbx) (key_ne rfl)).trans hbx
 have hcut := hR.cut hT hF (by omega) rfl hbe
 have htrp := hF.trips hT ⟨_, hcut⟩
 have hafl : af.length = (arcs t).length := by have h2 := congrArg List.length hF.ar; rwa [List.length_map] at h2
 refine s_e rfl (e_assign (v := .sc _) rfl) ?_
 refine s_end (ds := []) (by kernel_rfl) (by kernel_rfl) (hK8 _ ?_); clear hK8 K8
 refine pwp_seq_gopsK rfl fun hkn2 K9 hK9 => ?_
 have hafl2 : (psOf af).length ≤ 2000 := by rw [psOf_len]; omega
 refine s_begin ?_
 refine s_e rfl (e_move (v := .ptr (30, gp) 10 0 0) rfl) ?_
 refine s_e rfl (e_nilc rfl) ?_
 refine s_e rfl (e_faQ [(0, 5, true), (5, 2, true), (7, 1, false), (8, 1, false), (9, 1, false)] rfl) ?_
 refine s_e rfl (e_move (v := .ptr (30, gp) 10 0 0) rfl) ?_
 refine s_e rfl (e_nilc rfl) ?_
 refine s_e rfl (e_faQ [(0, 5, true), (5, 2, true), (7, 1, false), (8, 1, false), (9, 1, false)] rfl) ?_
 refine s_step [30] (by simp) rfl rfl rfl rfl (e_lH (v := .int (ndS t)) rfl hn.row rfl) trivial ?_
 refine s_hcall (by kernel_rfl) rfl rfl rfl rfl (reachH t (NN t) gp gF gm vP vs (psOf af) (arcs t) (2 * (arcs t).length) (ndS t) _ _ hn (adj_ok hT hF.ar (by omega)) (fun k hk => by rw [psOf_len] at hk ⊢; exact op_lt hk) (by omega) (by omega) (by omega) (by omega)) fun v38 h38 c38 hR38 => ?_
 obtain ⟨g16, bs2, rfl, hby, hR2, hOn⟩ := hR38
 have hn2 := NetH.old (kn_keep hkn2 hOn) hn; have hO3 := hO2.old hOn; have hbx3 := kn_keep hkn2 hOn _ _ hbx2
 have hbe2 : bs2.getD (ndE t).toNat 0 = -1 := Classical.byContradiction fun y => Rch.same hR hR2 (fun k hk => by rw [psOf_len] at hk ⊢; exact op_lt hk) (by omega) (by omega) y hbe
 have hcut2 := hR2.cut hT hF (by omega) rfl hbe2
 have hB2 := hR2.ex; obtain ⟨ord2, hB2⟩ := hB2; have hbl2 := hB2.len
 refine s_e rfl (e_assign (v := .ref _ _ _ _) rfl) ?_
 refine s_end (ds := []) (by kernel_rfl) (by kernel_rfl) (hK9 _ ?_); clear hK9 K9
 refine pwp_seq_plain rfl fun K10 hK10 => ?_
 refine p_e rfl (e_assign (v := .nil) rfl) ?_
 refine p_end (hK10 _ ?_); clear hK10 K10
 refine pwp_seq_seq ?_
 refine pwp_seq_plain rfl fun K11 hK11 => ?_
 refine p_e rfl (e_faQ pl5 rfl) ?_
 refine p_e rfl (e_lH (v := .sc _) rfl hbx3 rfl) ?_
 refine p_mS rfl ?_
 refine p_end (hK11 _ ?_); clear hK11 K11
 refine pwp_seq_block fun K12 hK12 => ?_
 refine pwp_loopR (α := Nat × (List At) × PV) [1, 6, 7, 8, 40] (fun (a13 : Nat × (List At) × PV) => [(9, (a13.2.2)), (41, .int (a13.1))]) (fun (a13 : Nat × (List At) × PV) (h : Heap) (c : Nat → Nat) => (((a13.1) : Int) ≤ t.places) ∧ ((a13.2.1) = cutX t bs2 (a13.1) 0) ∧ (NetH t (NN t) h gp gF gm vP vs (psOf af) (adjF (arcs t)) (2 * (arcs t).length)) ∧ (OldS c0 h0 h c) ∧ (∀ g, (a13.2.2) = .ref (62, g) 2 0 ((a13.2.1).map At.enc).length → c0 62 ≤ g) ∧ (SliceAt h 62 (a13.2.2) 2 ((a13.2.1).map At.enc)) ∧ (h (1, c0 1) = some (.rows 5 [Traffic.enc t])) ∧ (h (16, g16) = some (.rows 1 (bs2.map ci)))) (fun (a13 : Nat × (List At) × PV) => t.places.toNat - (a13.1)) (0, [], .nil) (by exact ⟨rfl, rfl, trivial⟩) (by exact ⟨by show (0 : Int) ≤ _; omega, by exact cutX_0.symm, by exact hn2, by exact hO3, by exact fun g hg => (by cases hg), .nil, hbx3, hby⟩) fun a13 r14 h15 c16 hj17 => ?_
 obtain ⟨p, l, v⟩ := a13
 obtain ⟨hp, hl, hn2, hO3, hvo, hsl, hihj17_0, hihj17_1⟩ := hj17
 try dsimp only at hp
 try dsimp only at hl
 try dsimp only at hn2
 try dsimp only at hO3
 try dsimp only at hvo
 try dsimp only at hsl
 try dsimp only at hihj17_0
 try dsimp only at hihj17_1
 show pwp _ _ (loopQ _ _ _) ⟨sets (mix _ _ _) [(9, v), (41, .int p)], _, _⟩
 refine pwp_seq_plain rfl fun K18 hK18 => ?_
 refine p_e rfl (e_lt rfl rfl) ?_
 refine p_end (hK18 _ ?_); clear hK18 K18
 refine pwp_seq_cond rfl fun K19 hK19 => ⟨fun hb20 => ?_, fun hb20 => ?_⟩
 ·have hb20R := hb20; try simp only [zz] at hb20
  refine pwp_skip ?_
  refine seq_norm (hK19 _ ?_); clear hK19 K19
  refine pwp_seq_block fun K21 hK21 => ?_
  refine pwp_seq_plain rfl fun K22 hK22 => ?_
  refine p_mS rfl ?_
  refine p_aS rfl ?_
  refine p_end (hK22 _ ?_); clear hK22 K22
  refine pwp_seq_plain rfl fun K23 hK23 => ?_
  refine p_e rfl (e_faQ pl5 rfl) ?_
  refine p_e rfl (e_lH (v := .sc _) rfl hihj17_0 rfl) ?_
  refine p_mS rfl ?_
  refine p_end (hK23 _ ?_); clear hK23 K23
  refine pwp_block ?_
  refine pwp_loopR (α := Nat × (List At) × PV) [1, 6, 7, 8, 10, 40, 41, 45] (fun (a24 : Nat × (List At) × PV) => [(9, (a24.2.2)), (46, .int (a24.1))]) (fun (a24 : Nat × (List At) × PV) (h : Heap) (c : Nat → Nat) => (((a24.1) : Int) ≤ t.days) ∧ ((a24.2.1) = cutX t bs2 p (a24.1)) ∧ (NetH t (NN t) h gp gF gm vP vs (psOf af) (adjF (arcs t)) (2 * (arcs t).length)) ∧ (OldS c0 h0 h c) ∧ (∀ g, (a24.2.2) = .ref (62, g) 2 0 ((a24.2.1).map At.enc).length → c0 62 ≤ g) ∧ (SliceAt h 62 (a24.2.2) 2 ((a24.2.1).map At.enc)) ∧ (h (1, c0 1) = some (.rows 5 [Traffic.enc t])) ∧ (h (16, g16) = some (.rows 1 (bs2.map ci)))) (fun (a24 : Nat × (List At) × PV) => 20 - (a24.1)) (0, l, v) (by exact ⟨rfl, rfl, trivial⟩) (by exact ⟨by show (0 : Int) ≤ _; omega, by exact hl, by exact hn2, by exact hO3, by exact hvo, hsl, hihj17_0, hihj17_1⟩) fun a24 r25 h26 c27 hj28 => ?_
  obtain ⟨d, l, v⟩ := a24
  obtain ⟨hd, hl, hn2, hO3, hvo, hsl, hihj28_0, hihj28_1⟩ := hj28
  try dsimp only at hd
  try dsimp only at hl
  try dsimp only at hn2
  try dsimp only at hO3
  try dsimp only at hvo
  try dsimp only at hsl
  try dsimp only at hihj28_0
  try dsimp only at hihj28_1
  show pwp _ _ (loopQ _ _ _) ⟨sets (mix _ _ _) [(9, v), (46, .int d)], _, _⟩
  refine pwp_seq_plain rfl fun K29 hK29 => ?_
  refine p_e rfl (e_lt rfl rfl) ?_
  refine p_end (hK29 _ ?_); clear hK29 K29
  refine pwp_seq_cond rfl fun K30 hK30 => ⟨fun hb31 => ?_, fun hb31 => ?_⟩
  ·have hb31R := hb31; try simp only [zz] at hb31
   have hnr := nd_rng hT (p := (p : Int)) (d := (d : Int)) (by omega) (by omega)
   have hbn : bs2[(ndI t p d).toNat]? = some (bs2.getD (ndI t p d).toNat 0) := by rw [List.getD_eq_getElem?_getD, List.getElem?_eq_getElem (by omega)]; rfl
   have hll : l.length ≤ 180 := by rw [hl]; exact cutX_len (by omega) (by omega) (by omega)
   refine pwp_skip ?_
   refine seq_norm (hK30 _ ?_); clear hK30 K30
   refine pwp_seq_block fun K32 hK32 => ?_
   refine pwp_seq_plain rfl fun K33 hK33 => ?_
   refine p_mS rfl ?_
   refine p_aS rfl ?_
   refine p_end (hK33 _ ?_); clear hK33 K33
   refine pwp_seq_plain rfl fun K34 hK34 => ?_
   refine p_e rfl (e_move (v := .ref _ _ _ _) rfl) ?_
   refine p_e rfl (e_move (v := .ptr (30, gp) 10 0 0) rfl) ?_
   refine p_e rfl (e_move (v := .sc _) rfl) ?_
   refine p_e rfl (e_move (v := .sc _) rfl) ?_
   refine p_hcall rfl (nodeM (X := [_, _, _, _, _]) (a := (p : Int)) (b := (d : Int)) hT hn2.row (by omega) (by omega) _ (fun _ _ => rfl) _) fun v_ h_ c_ hR_ => ?_
   obtain ⟨rfl, rfl, rfl⟩ := hR_
   refine p_e rfl (e_ixaR0 rfl rfl (by kernel_rfl) (by kernel_rfl) (by omega)) ?_
   refine p_e rfl (e_loadI (a := (bs2.getD (ndI t p d).toNat 0)) rfl hihj28_1 (by kernel_rfl) (by kernel_rfl) (by kernel_rfl) hbn) ?_
   refine p_e rfl (e_ne rfl rfl) ?_
   refine p_end (hK34 _ ?_); clear hK34 K34
   refine pwp_cond rfl (fun hb35 => ?_) (fun hb35 => ?_)
   ·have hb35R := hb35; try simp only [zz] at hb35
    refine pwp_plain rfl fun K36 hK36 => ?_
    refine p_e rfl (e_move (v := v) rfl) ?_
    refine p_e rfl (e_move (v := .sc _) rfl) ?_
    refine p_e rfl (e_move (v := .sc _) rfl) ?_
    refine p_e rfl (e_buildA (cs := At.enc ⟨(p : Int), (d : Int)⟩) (zs := [.int 0, .int 0]) (pl := [(0, 1, false), (1, 1, false)]) (by kernel_rfl) (by kernel_rfl) (by kernel_rfl) rfl rfl (by exact ⟨by decide, rfl, Nat.le_of_ble_eq_true rfl, rfl, ⟨by decide, rfl, Nat.le_of_ble_eq_true rfl, rfl, trivial⟩⟩) rfl) ?_
    refine p_new rfl (e_bslice (rows := [At.enc ⟨(p : Int), (d : Int)⟩]) (zs := [.int 0, .int 0]) (sz := 2) (by kernel_rfl) (by kernel_rfl) rfl (by kernel_rfl) (by decide) rfl rfl (by exact ⟨by decide, rfl, rfl, trivial⟩) rfl) trivial ?_
    refine p_appK (d1 := 62) (rows2 := [At.enc ⟨(p : Int), (d : Int)⟩]) rfl rfl rfl (hsl.keep fun g => hset_ne (key_ne rfl)) (src_ref (hset_self _ _ _) rfl) (by kernel_rfl) (by simp only [List.length_map, List.length_cons, List.length_nil]; omega) (by simp) fun hp_ hrp hfp => ?_
    refine p_e rfl (e_assign (v := .ref _ _ _ _) rfl) ?_
    refine p_end (hK36 _ ?_); clear hK36 K36
    have hby2 := (hfp (16, g16) (key_ne rfl) (fun _ _ => key_ne rfl)).trans ((hset_ne (key_ne rfl)).trans hihj28_1)
    have hbx4 := (hfp (1, c0 1) (key_ne rfl) (fun _ _ => key_ne rfl)).trans ((hset_ne (key_ne rfl)).trans hihj28_0)
    have hsp : SliceAt hp_ 62 (.ref (62, _) 2 0 ((l.map At.enc).length + [At.enc ⟨(p : Int), (d : Int)⟩].length)) 2 ((l ++ [(⟨(p : Int), (d : Int)⟩ : At)]).map At.enc) := .inr ⟨_, by rw [List.length_map, List.map_append, List.length_append, List.length_map]; rfl, by rw [List.map_append]; exact hrp⟩
    refine block_norm ?_
    refine seq_norm (hK32 _ ?_); clear hK32 K32
    refine pwp_plain rfl fun K37 hK37 => ?_
    refine p_e rfl (e_adL rfl rfl) ?_
    refine p_mS rfl ?_
    refine p_end (hK37 _ ?_); clear hK37 K37
    exact loop_again ((d + 1, (l ++ [(⟨(p : Int), (d : Int)⟩ : At)]), (.ref (62, _) 2 0 ((l.map At.enc).length + [At.enc ⟨(p : Int), (d : Int)⟩].length)))) (by show _ < _; simp only; omega) ⟨rfl, rfl, rfl, rfl, rfl, rfl, rfl, rfl, trivial⟩ ⟨rfl, rfl, trivial⟩ (by exact ⟨by show ((_ + 1 : Nat) : Int) ≤ _; omega, by first | exact cutX_tD hl (by assumption) | exact cutX_fD hl (by assumption), by exact NetH.keep hn2 ((hfp (30, gp) (key_ne rfl) (fun _ _ => key_ne rfl)).trans (hset_ne (key_ne rfl))) (fun g => (hfp (26, g) (key_ne rfl) (fun _ _ => key_ne rfl)).trans (hset_ne (key_ne rfl))) ((hfp (23, gF) (key_ne rfl) (fun _ _ => key_ne rfl)).trans (hset_ne (key_ne rfl))) (fun g => (hfp (48, g) (key_ne rfl) (fun _ _ => key_ne rfl)).trans (hset_ne (key_ne rfl))) (fun g => (hfp (59, g) (key_ne rfl) (fun _ _ => key_ne rfl)).trans (hset_ne (key_ne rfl))), by exact OldS.app (d := 62) (OldS.new (d := 61) hO3) (by exact hvo) (by exact hfp) (cset_le _ 62), by exact fun g_ hg_ => (by have e1 := (Prod.mk.inj (PV.ref.inj hg_).1).2; rw [← e1]; exact Nat.le_trans (hO3.2 62) (cset_le _ 61 62)), (SliceAt.to hsp (by simp)), hbx4, hby2⟩)
   have hb35R := hb35; try simp only [zz] at hb35
   refine pwp_skip ?_
   refine block_norm ?_
   refine seq_norm (hK32 _ ?_); clear hK32 K32
   refine pwp_plain rfl fun K38 hK38 => ?_
   refine p_e rfl (e_adL rfl rfl) ?_
   refine p_mS rfl ?_
   refine p_end (hK38 _ ?_); clear hK38 K38
   exact loop_again ((d + 1, l, v)) (by show _ < _; simp only; omega) ⟨rfl, rfl, rfl, rfl, rfl, rfl, rfl, rfl, trivial⟩ ⟨rfl, rfl, trivial⟩ (by exact ⟨by show ((_ + 1 : Nat) : Int) ≤ _; omega, by first | exact cutX_tD hl (by assumption) | exact cutX_fD hl (by assumption), by exact hn2, by exact hO3, by exact hvo, (SliceAt.to hsl (by simp)), hihj28_0, hihj28_1⟩)
  have hb31R := hb31; try simp only [zz] at hb31
  refine pwp_exit ?_
  refine exit_seq ?_
  clear hK30 K30
  refine exit_loop ?_
  refine exit_here ?_
  refine block_norm ?_
  refine seq_norm (hK21 _ ?_); clear hK21 K21
  refine pwp_plain rfl fun K39 hK39 => ?_
  refine p_e rfl (e_adL rfl rfl) ?_
  refine p_mS rfl ?_
  refine p_end (hK39 _ ?_); clear hK39 K39
  exact loop_again ((p + 1, l, v)) (by show _ < _; simp only; omega) ⟨rfl, rfl, rfl, rfl, rfl, trivial⟩ ⟨rfl, rfl, trivial⟩ (by exact ⟨by show ((_ + 1 : Nat) : Int) ≤ _; omega, by exact hl.trans (cutX_e (by omega)), by exact hn2, by exact hO3, by exact hvo, (SliceAt.to hsl (by simp)), hihj28_0, hihj28_1⟩)
 have hb20R := hb20; try simp only [zz] at hb20
 have hpp : p = t.places.toNat := by omega
 rw [cutX_z hpp] at hl
 refine pwp_exit ?_
 refine exit_seq ?_
 clear hK19 K19
 refine exit_loop ?_
 refine exit_here ?_
 refine seq_norm (hK12 _ ?_); clear hK12 K12
 refine pwp_seq_plain rfl fun K40 hK40 => ?_
 refine p_e rfl (e_move (v := _) rfl) ?_
 refine p_mS rfl ?_
 refine p_e rfl (e_assign (v := _) rfl) ?_
 refine p_aS rfl ?_
 refine p_aS rfl ?_
 refine p_end (hK40 _ ?_); clear hK40 K40
 refine pwp_ret ?_
 refine end3 (v := _) (w := .sc _) (x := .sc _) rfl rfl rfl ?_
 exact ⟨hO3, .inr ⟨htz, _, l, n, rfl, hsl, by rw [hl]; exact cut_len hT, by rw [hl]; exact hcut2, _, htrp⟩⟩

end Go.Proofs.Ytigdmkhdmbbfiaa
