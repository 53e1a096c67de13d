/- Nodes and pipes of the network, as the program makes them. No conditions. -/
import Derived.Test.YtigdmkhdmbbfiaaFg
set_option linter.unusedSimpArgs false
set_option linter.unusedVariables false
set_option maxRecDepth 100000
namespace Go.Proofs.Ytigdmkhdmbbfiaa
open Go Go.Pv
theorem frH62 : (inFrame Try.f62.ntmps (Try.f62.body.getD .skip) && Try.f62.results.toList.all (resScope Try.f62.ntmps)) = true := by kernel_rfl
theorem nodeH (t : Traffic) (gp : Nat) (X : List PV) (a b : Int) (h0 : Heap) (c0 : Nat → Nat) (hN : h0 (30, gp) = some (.rows 10 [t.enc ++ X])) (hm : 0 ≤ a * t.days ∧ a * t.days ≤ 100000) (hb : 0 ≤ b ∧ b ≤ 100000) : HCallsR Try.prog 62 [.ptr (30, gp) 10 0 0, .int a, .int b] h0 c0 (fun v h2 c2 => v = .int (ndI t a b) ∧ h2 = h0 ∧ c2 = c0) := by
 refine HCallsR.of_code Try.func62 rfl rfl (by kernel_rfl) mixed frH62 (by show _ ≤ 16; simp) ?_
 refine pwp_seq_plain rfl fun K1 hK1 => ?_
 refine p_aS rfl ?_
 refine p_end (hK1 _ ?_); clear hK1 K1
 refine pwp_seq_plain rfl fun K2 hK2 => ?_
 refine p_mS rfl ?_
 refine p_e rfl (e_move (v := .ptr _ _ _ _) rfl) ?_
 refine p_e rfl (e_nilc rfl) ?_
 refine p_e rfl (e_faQ [(0, 5, true), (5, 2, true), (7, 1, false), (8, 1, false), (9, 1, false)] rfl) ?_
 refine p_e rfl (e_faQ pl5 rfl) ?_
 refine p_e rfl (e_lH (v := .sc _) rfl hN rfl) ?_
 refine p_e rfl (e_mul rfl rfl (by first | omega | (simp only [List.length_map] at *; omega))) ?_
 refine p_mS rfl ?_
 refine p_e rfl (e_adL rfl rfl) ?_
 refine p_aS rfl ?_
 refine p_end (hK2 _ ?_); clear hK2 K2
 refine pwp_ret ?_
 refine end1 (v := .sc _) rfl ?_
 exact ⟨rfl, rfl, rfl⟩

theorem nodeM {t : Traffic} {gp : Nat} {X : List PV} {a b : Int} {h0 : Heap} (hT : TrOK t) (hN : h0 (30, gp) = some (.rows 10 [t.enc ++ X])) (ha : 0 ≤ a ∧ a ≤ t.places - 1) (hb : 0 ≤ b ∧ b ≤ t.days - 1) :
   ∀ h' : Heap, (∀ k ∈ [((30, gp) : Key)], h' k = h0 k) → ∀ c', HCallsR Try.prog 62 [.ptr (30, gp) 10 0 0, .int a, .int b] h' c' fun v h2 c2 => v = .int (ndI t a b) ∧ h2 = h' ∧ c2 = c' := fun h' hh c' => by
 have hA := hT.hA; have hB := hT.hB
 have h1 : 0 ≤ a * t.days := Int.mul_nonneg ha.1 (by omega)
 have h2 : a * t.days ≤ 8 * 20 := Int.mul_le_mul (by omega) hB.2 (by omega) (by omega)
 exact nodeH t gp X a b h' c' ((hh _ (by simp)).trans hN) (by omega) (by omega)
theorem frH92 : (inFrame Try.f92.ntmps (Try.f92.body.getD .skip) && Try.f92.results.toList.all (resScope Try.f92.ntmps)) = true := by kernel_rfl
theorem addH (t : Traffic) (N gp gF gm : Nat) (vP : PV) (vs : List PV) (ps : List Pipe) (al : List Arc) (x : Arc) (a b room : Int) (h0 : Heap) (c0 : Nat → Nat) (hN : NetH t N h0 gp gF gm vP vs ps (adjF al) (2 * al.length)) (hps : ps.length = 2 * al.length) (hal : al.length ≤ 100000) (ha : 0 ≤ a ∧ a < (N : Int)) (hb : 0 ≤ b ∧ b < (N : Int)) (hab : a ≠ b) (hxa : x.a = a) (hxb : x.b = b) : HCallsR Try.prog 92 [.ptr (30, gp) 10 0 5, .int a, .int b, .int room] h0 c0 (fun v h c => v = .int ((2 * al.length : Nat) : Int) ∧ NetX t N h gp gF gm (ps ++ [⟨b, room⟩, ⟨a, 0⟩]) (al ++ [x]) ∧ FrS [25, 26, 47, 48, 58, 59, 23, 30] h0 c0 h c) := by
 refine HCallsR.of_code Try.func92 rfl rfl (by kernel_rfl) mixed frH92 (by show _ ≤ 63; simp) ?_
 refine pwp_seq_plain rfl fun K1 hK1 => ?_
 refine p_aS rfl ?_
 refine p_end (hK1 _ ?_); clear hK1 K1
 refine pwp_seq_plain rfl fun K2 hK2 => ?_
 refine p_e rfl (e_move (v := .ptr _ _ _ _) rfl) ?_
 refine p_e rfl (e_nilc rfl) ?_
 refine p_e rfl (e_faQ pl2 rfl) ?_
 refine p_e rfl (e_lH (v := vP) rfl hN.row rfl) ?_
 refine p_e rfl (SliceAt.len hN.pip rfl (by kernel_rfl)) ?_
 refine p_aS rfl ?_
 refine p_end (hK2 _ ?_); clear hK2 K2
 refine pwp_seq_plain rfl fun K3 hK3 => ?_
 refine p_e rfl (e_move (v := .ptr (30, gp) 10 0 5) rfl) ?_
 refine p_e rfl (e_move (v := .ptr (30, gp) 10 0 5) rfl) ?_
 refine p_e rfl (e_nilc rfl) ?_
 refine p_e rfl (e_faQ [(0, 1, false), (1, 1, false)] rfl) ?_
 refine p_e rfl (e_lH (v := vP) rfl hN.row rfl) ?_
 refine p_e rfl (e_move (v := .sc _) rfl) ?_
 refine p_e rfl (e_move (v := .sc _) rfl) ?_
 refine p_e rfl (e_build (cs := Pipe.enc ⟨b, room⟩) (zs := [.int 0, .int 0]) (pl := [(0, 1, false), (1, 1, false)]) (by kernel_rfl) (by kernel_rfl) (by kernel_rfl) rfl rfl (by exact ⟨by decide, rfl, Nat.le_of_ble_eq_true rfl, rfl, ⟨by decide, rfl, Nat.le_of_ble_eq_true rfl, rfl, trivial⟩⟩) rfl) ?_
 refine p_e rfl (e_move (v := .sc _) rfl) ?_
 refine p_e rfl (e_build (cs := Pipe.enc ⟨a, 0⟩) (zs := [.int 0, .int 0]) (pl := [(0, 1, false), (1, 1, false)]) (by kernel_rfl) (by kernel_rfl) (by kernel_rfl) rfl rfl (by exact ⟨by decide, rfl, Nat.le_of_ble_eq_true rfl, rfl, ⟨by decide, rfl, Nat.le_of_ble_eq_true rfl, rfl, trivial⟩⟩) rfl) ?_
 refine p_new rfl (e_bslice (rows := [Pipe.enc ⟨b, room⟩, Pipe.enc ⟨a, 0⟩]) (zs := [.int 0, .int 0]) (sz := 2) (by kernel_rfl) (by kernel_rfl) rfl (by kernel_rfl) (by decide) rfl rfl (by exact ⟨by decide, rfl, rfl, ⟨by decide, rfl, rfl, trivial⟩⟩) rfl) trivial ?_
 refine p_appK (d1 := 26) (rows2 := [Pipe.enc ⟨b, room⟩, Pipe.enc ⟨a, 0⟩]) rfl rfl rfl (hN.pip.keep fun g => hset_ne (key_ne rfl)) (src_ref (hset_self _ _ _) rfl) (by kernel_rfl) (by simp only [List.length_map, List.length_cons, List.length_nil]; omega) (by simp) fun hp hrp hfp => ?_
 refine p_e rfl (e_nilc rfl) ?_
 refine p_e rfl (e_faQ [(0, 1, false), (1, 1, false)] rfl) ?_
 refine p_store rfl (e_store1 rfl ((hfp _ (key_ne rfl) (fun _ _ => key_ne rfl)).trans ((hset_ne (key_ne rfl)).trans hN.row)) rfl rfl rfl (by decide) (by kernel_rfl) rfl (by kernel_rfl)) trivial ?_
 refine p_end (hK3 _ ?_); clear hK3 K3
 refine pwp_seq_gopsK rfl fun hkn K4 hK4 => ?_
 have hf48 := hkn.fresh 48; have hf59 := hkn.fresh 59
 have hFam := hN.fam.keep (h' := hset hp (30, gp) (some (.rows 10 [t.enc ++ [.ref (26, cset c0 25 26) 2 0 ((ps.map Pipe.enc).length + 2), .ref (23, gF) 1 0 N, .int (ndS t), .int (ndE t), .map (28, gm)]]))) (fun g => ((hset_ne (key_ne rfl)).trans ((hfp (48, g) (key_ne rfl) (fun _ _ => key_ne rfl)).trans (hset_ne (key_ne rfl))))) (fun g => ((hset_ne (key_ne rfl)).trans ((hfp (59, g) (key_ne rfl) (fun _ _ => key_ne rfl)).trans (hset_ne (key_ne rfl)))))
 have hOut := (((hset_ne (key_ne rfl)).trans ((hfp (23, gF) (key_ne rfl) (fun _ _ => key_ne rfl)).trans (hset_ne (key_ne rfl)))) : (hset hp (30, gp) (some (.rows 10 [t.enc ++ [.ref (26, cset c0 25 26) 2 0 ((ps.map Pipe.enc).length + 2), .ref (23, gF) 1 0 N, .int (ndS t), .int (ndE t), .map (28, gm)]]))) (23, gF) = _).trans hN.out
 have hvl := hN.len
 obtain ⟨ua, hua⟩ : ∃ u, vs[a.toNat]? = some u := ⟨_, List.getElem?_eq_getElem (by omega)⟩
 obtain ⟨ub, hub⟩ : ∃ u, vs[b.toNat]? = some u := ⟨_, List.getElem?_eq_getElem (by omega)⟩
 have hsa := hFam.sl _ _ hua
 have hal := adj_len al a.toNat; have hbl := adj_len al b.toNat
 refine s_begin ?_
 refine s_e rfl (e_move (v := .ptr (30, gp) 10 0 5) rfl) ?_
 refine s_e rfl (e_nilc rfl) ?_
 refine s_e rfl (e_faQ [(0, 1, false), (1, 1, false)] rfl) ?_
 refine s_step [30] (by simp) rfl rfl rfl rfl (e_lH (v := .ref (23, gF) 1 0 N) rfl (hset_self _ _ _) rfl) trivial ?_
 refine s_e rfl (e_move (v := .sc _) rfl) ?_
 refine s_e rfl (e_move (v := .ptr (30, gp) 10 0 5) rfl) ?_
 refine s_e rfl (e_nilc rfl) ?_
 refine s_e rfl (e_faQ [(0, 1, false), (1, 1, false)] rfl) ?_
 refine s_step [30] (by simp) rfl rfl rfl rfl (e_lH (v := .ref (23, gF) 1 0 N) rfl (hset_self _ _ _) rfl) trivial ?_
 refine s_e rfl (e_move (v := .sc _) rfl) ?_
 refine s_e rfl (e_move (v := .ptr (30, gp) 10 0 5) rfl) ?_
 refine s_e rfl (e_nilc rfl) ?_
 refine s_e rfl (e_faQ [(0, 1, false), (1, 1, false)] rfl) ?_
 refine s_step [30] (by simp) rfl rfl rfl rfl (e_lH (v := .ref (23, gF) 1 0 N) rfl (hset_self _ _ _) rfl) trivial ?_
 refine s_e rfl (e_move (v := .sc _) rfl) ?_
 refine s_e rfl (e_ixaR0 rfl rfl (by kernel_rfl) (by kernel_rfl) (by omega)) ?_
 refine s_step [23] (by simp) rfl rfl rfl rfl (e_loadV (v := ua) rfl hOut (by kernel_rfl) (by kernel_rfl) (by kernel_rfl) hua) trivial ?_
 refine s_e rfl (e_move (v := .sc _) rfl) ?_
 refine s_new [] (by simp) rfl rfl rfl rfl (e_bslice (rows := [ci (((ps.map Pipe.enc).length : Nat) : Int)]) (zs := [.int 0]) (sz := 1) (by kernel_rfl) (by kernel_rfl) rfl (by kernel_rfl) (by decide) rfl rfl (by exact ⟨by decide, rfl, rfl, trivial⟩) rfl) trivial ?_
 refine s_appK2 (u := ua) (sz := 1) (d1 := 48) (d2 := 59) (rows := (adjF al a.toNat).map ci) (rows2 := [ci (((ps.map Pipe.enc).length : Nat) : Int)]) (ds := [47]) [48, 59, 47] [48, 59] (by simp) (by simp) (by simp) rfl rfl rfl (hsa.1.imp (fun q => q.keep fun g => hset_ne (key_ne rfl)) (fun q => q.keep fun g => hset_ne (key_ne rfl))) (SrcAt.ref (hset_self _ _ _) rfl) rfl (by kernel_rfl) (by simp only [List.length_map, List.length_cons, List.length_nil]; omega) (by simp) fun h1 hr1 hf1 => ?_
 have hA1 : ApK _ h1 48 _ 48 59 ua ((adjF al a.toNat).map ci).length := hf1
 have hFam1 : Fam h1 48 59 (vs.set a.toNat (.ref (48, cset (cset (cset c0 25) 26) 47 48) 1 0 (((adjF al a.toNat).map ci).length + 1))) (fun j => if j = a.toNat then adjF al a.toNat ++ [(((ps.map Pipe.enc).length : Nat) : Int)] else adjF al j) (2 * al.length + 1) := Fam.app (i := a.toNat) (hFam.keep (h' := hset _ (47, _) _) (fun g => hset_ne (key_ne rfl)) (fun g => hset_ne (key_ne rfl))) (.inl rfl) (fun g o hh => hf48 g o ((hset_ne (key_ne rfl)).symm.trans hh)) hua hr1 hA1
 have hf59b := hA1.fresh (e := 59) (hsa.1.imp (fun q => q.keep fun g => hset_ne (key_ne rfl)) (fun q => q.keep fun g => hset_ne (key_ne rfl))) rfl (fun g o hh => hf59 g o ((hset_ne (key_ne rfl)).symm.trans hh))
 have hub1 : ∀ w, (vs.set a.toNat w)[b.toNat]? = some ub := fun w => (List.getElem?_set_ne (by omega)).trans hub
 have hsb := hFam1.sl _ _ (hub1 _)
 rw [if_neg (by omega : ¬ b.toNat = a.toNat)] at hsb
 refine s_e rfl (e_move (v := .ptr (30, gp) 10 0 5) rfl) ?_
 refine s_e rfl (e_nilc rfl) ?_
 refine s_e rfl (e_faQ [(0, 1, false), (1, 1, false)] rfl) ?_
 refine s_step [30] (by simp) rfl rfl rfl rfl (e_lH (v := .ref (23, gF) 1 0 N) rfl ((hA1.ne rfl rfl rfl).trans ((hset_ne (key_ne rfl)).trans (hset_self _ _ _))) rfl) trivial ?_
 refine s_e rfl (e_move (v := .sc _) rfl) ?_
 refine s_e rfl (e_ixaR0 rfl rfl (by kernel_rfl) (by kernel_rfl) (by omega)) ?_
 refine s_step [23] (by simp) rfl rfl rfl rfl (e_loadV (v := ub) rfl ((hA1.ne rfl rfl rfl).trans ((hset_ne (key_ne rfl)).trans hOut)) (by kernel_rfl) (by kernel_rfl) (by kernel_rfl) hub) trivial ?_
 refine s_e rfl (e_move (v := .sc _) rfl) ?_
 refine s_e rfl (e_adL rfl rfl (by rw [List.length_map]; omega)) ?_
 refine s_new [] (by simp) rfl rfl rfl rfl (e_bslice (rows := [ci ((((ps.map Pipe.enc).length : Nat) : Int) + 1)]) (zs := [.int 0]) (sz := 1) (by kernel_rfl) (by kernel_rfl) rfl (by kernel_rfl) (by decide) rfl rfl (by exact ⟨by decide, rfl, rfl, trivial⟩) rfl) trivial ?_
 refine s_appK2 (u := ub) (sz := 1) (d1 := 48) (d2 := 59) (rows := (adjF al b.toNat).map ci) (rows2 := [ci ((((ps.map Pipe.enc).length : Nat) : Int) + 1)]) (ds := [58]) [48, 59, 58] [48, 59] (by simp) (by simp) (by simp) rfl rfl rfl (hsb.1.imp (fun q => q.keep fun g => hset_ne (key_ne rfl)) (fun q => q.keep fun g => hset_ne (key_ne rfl))) (SrcAt.ref (hset_self _ _ _) rfl) rfl (by kernel_rfl) (by simp only [List.length_map, List.length_cons, List.length_nil]; omega) (by simp) fun h2 hr2 hf2 => ?_
 have hA2 : ApK _ h2 59 _ 48 59 ub ((adjF al b.toNat).map ci).length := hf2
 have hFam2 : Fam h2 48 59 ((vs.set a.toNat (.ref (48, cset (cset (cset c0 25) 26) 47 48) 1 0 (((adjF al a.toNat).map ci).length + 1))).set b.toNat (.ref (59, cset (cset (cset (cset (cset c0 25) 26) 47) 48) 58 59) 1 0 (((adjF al b.toNat).map ci).length + 1))) (fun j => if j = b.toNat then (if b.toNat = a.toNat then adjF al a.toNat ++ [(((ps.map Pipe.enc).length : Nat) : Int)] else adjF al b.toNat) ++ [((((ps.map Pipe.enc).length : Nat) : Int) + 1)] else if j = a.toNat then adjF al a.toNat ++ [(((ps.map Pipe.enc).length : Nat) : Int)] else adjF al j) (2 * al.length + 1 + 1) := (by have q := Fam.app (i := b.toNat) (k := ((((ps.map Pipe.enc).length : Nat) : Int) + 1)) (hFam1.keep (h' := hset _ (58, _) _) (fun g => hset_ne (key_ne rfl)) (fun g => hset_ne (key_ne rfl))) (.inr rfl) (fun g o hh => hf59b g o ((hset_ne (key_ne rfl)).symm.trans hh)) (hub1 _) (by rw [if_neg (by omega : ¬ b.toNat = a.toNat)]; exact hr2) (by rw [if_neg (by omega : ¬ b.toNat = a.toNat)]; exact hA2); dsimp only at q; rw [if_neg (by omega : ¬ b.toNat = a.toNat)] at q ⊢; exact q)
 refine s_e rfl (e_ixaR0 rfl rfl (by kernel_rfl) (by kernel_rfl) (by omega)) ?_
 refine s_store [23] (by simp) rfl rfl (e_storeV (v := .ref (48, cset (cset (cset c0 25) 26) 47 48) 1 0 (((adjF al a.toNat).map ci).length + 1)) rfl ((hA2.ne rfl rfl rfl).trans ((hset_ne (key_ne rfl)).trans ((hA1.ne rfl rfl rfl).trans ((hset_ne (key_ne rfl)).trans hOut)))) rfl rfl rfl (by omega) (by kernel_rfl) (by kernel_rfl)) trivial ?_
 refine s_e rfl (e_ixaR0 rfl rfl (by kernel_rfl) (by kernel_rfl) (by omega)) ?_
 refine s_store [23] (by simp) rfl rfl (e_storeV (v := .ref (59, cset (cset (cset (cset (cset c0 25) 26) 47) 48) 58 59) 1 0 (((adjF al b.toNat).map ci).length + 1)) rfl (hset_self _ _ _) rfl rfl rfl (by rw [List.length_set]; omega) (by kernel_rfl) (by kernel_rfl)) trivial ?_
 refine s_end (ds := []) (by kernel_rfl) (by kernel_rfl) (hK4 _ ?_); clear hK4 K4
 refine pwp_seq_plain rfl fun K5 hK5 => ?_
 refine p_mS rfl ?_
 refine p_aS rfl ?_
 refine p_end (hK5 _ ?_); clear hK5 K5
 refine pwp_ret ?_
 refine end1 (v := .sc _) rfl ?_
 refine ⟨by rw [List.length_map, hps], ⟨_, _, ⟨(hset_ne (key_ne rfl)).trans ((hset_ne (key_ne rfl)).trans ((hA2.ne rfl rfl rfl).trans ((hset_ne (key_ne rfl)).trans ((hA1.ne rfl rfl rfl).trans ((hset_ne (key_ne rfl)).trans (hset_self _ _ _)))))), .inr ⟨cset c0 25 26, (by show PV.ref (26, cset c0 25 26) 2 0 ((ps.map Pipe.enc).length + 2) = _; congr 1; simp), ((hset_ne (key_ne rfl)).trans ((hset_ne (key_ne rfl)).trans ((hA2.ne rfl rfl rfl).trans ((hset_ne (key_ne rfl)).trans ((hA1.ne rfl rfl rfl).trans ((hset_ne (key_ne rfl)).trans ((hset_ne (key_ne rfl)).trans hrp))))))).trans (by rw [List.map_append]; rfl)⟩, hset_self _ _ _, by rw [List.length_set, List.length_set]; exact hN.len, ?_⟩⟩, fun k hk => ?_, fun x_ => ?_⟩
 ·refine Fam.mono (b := 2 * al.length + 1 + 1) (Fam.keep (h := h2) (Fam.congr hFam2 (cs' := adjF (al ++ [x])) fun u_ hu_ => ?_) (fun g => (hset_ne (key_ne rfl)).trans (hset_ne (key_ne rfl))) (fun g => (hset_ne (key_ne rfl)).trans (hset_ne (key_ne rfl)))) (by rw [List.length_append, List.length_singleton]; omega)
  have hq := adj_add (al := al) (x := x) (a := a.toNat) (b := b.toNat) (by omega) (by omega) (by omega) u_
  have hkw : (((ps.map Pipe.enc).length : Nat) : Int) = ((2 * al.length : Nat) : Int) := by rw [List.length_map, hps]
  rw [hkw]; exact hq
 ·have hne := inS_ne hk
  exact (hset_ne (hne 23 (by simp) _)).trans ((hset_ne (hne 23 (by simp) _)).trans ((hA2 k (hne 59 (by simp) _) (fun _ _ => (hne 48 (by simp) _)) (fun _ _ => (hne 59 (by simp) _))).trans ((hset_ne (hne 58 (by simp) _)).trans ((hA1 k (hne 48 (by simp) _) (fun _ _ => (hne 48 (by simp) _)) (fun _ _ => (hne 59 (by simp) _))).trans ((hset_ne (hne 47 (by simp) _)).trans ((hset_ne (hne 30 (by simp) _)).trans ((hfp k (hne 26 (by simp) _) (fun _ _ => (hne 26 (by simp) _))).trans (hset_ne (hne 25 (by simp) _)))))))))
 exact Nat.le_trans (cset_le _ 25 _) (Nat.le_trans (cset_le _ 26 _) (Nat.le_trans (cset_le _ 47 _) (Nat.le_trans (cset_le _ 48 _) (Nat.le_trans (cset_le _ 58 _) (cset_le _ 59 _)))))

end Go.Proofs.Ytigdmkhdmbbfiaa
