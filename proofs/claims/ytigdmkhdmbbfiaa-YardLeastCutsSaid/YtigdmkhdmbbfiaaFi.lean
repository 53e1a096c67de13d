/- Pipes are added, told in full. No conditions. -/
import Derived.Test.YtigdmkhdmbbfiaaFi0
set_option linter.unusedSimpArgs false
set_option linter.unusedVariables false
set_option maxRecDepth 100000
namespace Go.Proofs.Ytigdmkhdmbbfiaa
open Go Go.Pv
def AddR (t : Traffic) (N gp gF gm : Nat) (ps : List Pipe) (al : List Arc) (x : Arc) (a b room : Int) (h0 : Heap) (c0 : Nat → Nat) (v : PV) (h : Heap) (c : Nat → Nat) : Prop := v = .int ((2 * al.length : Nat) : Int) ∧ NetX t N h gp gF gm (ps ++ [⟨b, room⟩, ⟨a, 0⟩]) (al ++ [x]) ∧ FrS [25, 26, 47, 48, 58, 59, 23, 30] h0 c0 h c
theorem frH92x : (inFrame Try.f92.ntmps (Try.f92.body.getD .skip) && Try.f92.results.toList.all (resScope Try.f92.ntmps)) = true := by kernel_rfl
theorem addX (t : Traffic) (N gp gF gm : Nat) (vP : PV) (vs : List PV) (ps : List Pipe) (al : List Arc) (x : Arc) (a b room : Int) (h0 : Heap) (c0 : Nat → Nat) (hN : NetH t N h0 gp gF gm vP vs ps (adjF al) (2 * al.length)) (hps : ps.length = 2 * al.length) (hal : al.length ≤ 100000) (ha : 0 ≤ a ∧ a < (N : Int)) (hb : 0 ≤ b ∧ b < (N : Int)) (hab : a ≠ b) (hxa : x.a = a) (hxb : x.b = b) : (∃ v ha ca, (AddR t N gp gF gm ps al x a b room h0 c0) v ha ca ∧ HCallsR Try.prog 92 [.ptr (30, gp) 10 0 5, .int a, .int b, .int room] h0 c0 fun v' h' c' => v' = v ∧ h' = ha ∧ c' = ca) ∨ HCallsR Try.prog 92 [.ptr (30, gp) 10 0 5, .int a, .int b, .int room] h0 c0 fun _ _ _ => False := by
 refine HCallsR.of_codeX (R := AddR t N gp gF gm ps al x a b room h0 c0) Try.func92 rfl rfl (by kernel_rfl) mixed frH92x (by show _ ≤ 63; simp) (by kernel_rfl) ?_
 refine pwp_seq_plain rfl fun K1 hK1 => ?_
 refine p_aS rfl ?_
 refine p_end (hK1 _ ?_); clear hK1 K1
 refine pwp_seq_plain rfl fun K2 hK2 => ?_
 refine p_e rfl (e_move (v := .ptr _ _ _ _) rfl) ?_
 refine p_e rfl (e_nilc rfl) ?_
 refine p_e rfl (e_faQ pl2 rfl) ?_
 refine p_e rfl (e_lH (v := vP) rfl hN.row rfl) ?_
 refine p_e rfl (SliceAt.len hN.pip rfl (by kernel_rfl)) ?_
 refine p_aS rfl ?_
 refine p_end (hK2 _ ?_); clear hK2 K2
 refine pwp_seq_plain rfl fun K3 hK3 => ?_
 refine p_e rfl (e_move (v := .ptr (30, gp) 10 0 5) rfl) ?_
 refine p_e rfl (e_move (v := .ptr (30, gp) 10 0 5) rfl) ?_
 refine p_e rfl (e_nilc rfl) ?_
 refine p_e rfl (e_faQ [(0, 1, false), (1, 1, false)] rfl) ?_
 refine p_e rfl (e_lH (v := vP) rfl hN.row rfl) ?_
 refine p_e rfl (e_move (v := .sc _) rfl) ?_
 refine p_e rfl (e_move (v := .sc _) rfl) ?_
 refine p_e rfl (e_build (cs := Pipe.enc ⟨b, room⟩) (zs := [.int 0, .int 0]) (pl := [(0, 1, false), (1, 1, false)]) (by kernel_rfl) (by kernel_rfl) (by kernel_rfl) rfl rfl (by exact ⟨by decide, rfl, Nat.le_of_ble_eq_true rfl, rfl, ⟨by decide, rfl, Nat.le_of_ble_eq_true rfl, rfl, trivial⟩⟩) rfl) ?_
 refine p_e rfl (e_move (v := .sc _) rfl) ?_
 refine p_e rfl (e_build (cs := Pipe.enc ⟨a, 0⟩) (zs := [.int 0, .int 0]) (pl := [(0, 1, false), (1, 1, false)]) (by kernel_rfl) (by kernel_rfl) (by kernel_rfl) rfl rfl (by exact ⟨by decide, rfl, Nat.le_of_ble_eq_true rfl, rfl, ⟨by decide, rfl, Nat.le_of_ble_eq_true rfl, rfl, trivial⟩⟩) rfl) ?_
 refine p_new rfl (e_bslice (rows := [Pipe.enc ⟨b, room⟩, Pipe.enc ⟨a, 0⟩]) (zs := [.int 0, .int 0]) (sz := 2) (by kernel_rfl) (by kernel_rfl) rfl (by kernel_rfl) (by decide) rfl rfl (by exact ⟨by decide, rfl, rfl, ⟨by decide, rfl, rfl, trivial⟩⟩) rfl) trivial ?_
 refine p_appK (d1 := 26) (rows2 := [Pipe.enc ⟨b, room⟩, Pipe.enc ⟨a, 0⟩]) rfl rfl rfl (hN.pip.keep fun g => hset_ne (key_ne rfl)) (src_ref (hset_self _ _ _) rfl) (by kernel_rfl) (by simp only [List.length_map, List.length_cons, List.length_nil]; omega) (by simp) fun hp hrp hfp => ?_
 refine p_e rfl (e_nilc rfl) ?_
 refine p_e rfl (e_faQ [(0, 1, false), (1, 1, false)] rfl) ?_
 refine p_store rfl (e_store1 rfl ((hfp _ (key_ne rfl) (fun _ _ => key_ne rfl)).trans ((hset_ne (key_ne rfl)).trans hN.row)) rfl rfl rfl (by decide) (by kernel_rfl) rfl (by kernel_rfl)) trivial ?_
 refine p_end (hK3 _ ?_); clear hK3 K3
 refine pwp_seq_gopsK rfl fun hkn K4 hK4 => ?_
 have hf48 := hkn.fresh 48; have hf59 := hkn.fresh 59
 have hFam := hN.fam.keep (h' := hset hp (30, gp) (some (.rows 10 [t.enc ++ [.ref (26, cset c0 25 26) 2 0 ((ps.map Pipe.enc).length + 2), .ref (23, gF) 1 0 N, .int (ndS t), .int (ndE t), .map (28, gm)]]))) (fun g => ((hset_ne (key_ne rfl)).trans ((hfp (48, g) (key_ne rfl) (fun _ _ => key_ne rfl)).trans (hset_ne (key_ne rfl))))) (fun g => ((hset_ne (key_ne rfl)).trans ((hfp (59, g) (key_ne rfl) (fun _ _ => key_ne rfl)).trans (hset_ne (key_ne rfl)))))
 have hOut := (((hset_ne (key_ne rfl)).trans ((hfp (23, gF) (key_ne rfl) (fun _ _ => key_ne rfl)).trans (hset_ne (key_ne rfl)))) : (hset hp (30, gp) (some (.rows 10 [t.enc ++ [.ref (26, cset c0 25 26) 2 0 ((ps.map Pipe.enc).length + 2), .ref (23, gF) 1 0 N, .int (ndS t), .int (ndE t), .map (28, gm)]]))) (23, gF) = _).trans hN.out
 have hvl := hN.len
 obtain ⟨ua, hua⟩ : ∃ u, vs[a.toNat]? = some u := ⟨_, List.getElem?_eq_getElem (by omega)⟩
 obtain ⟨ub, hub⟩ : ∃ u, vs[b.toNat]? = some u := ⟨_, List.getElem?_eq_getElem (by omega)⟩
 have hsa := hFam.sl _ _ hua
 have hal := adj_len al a.toNat; have hbl := adj_len al b.toNat
 refine s_begin ?_
 refine s_e rfl (e_move (v := .ptr (30, gp) 10 0 5) rfl) ?_
 refine s_e rfl (e_nilc rfl) ?_
 refine s_e rfl (e_faQ [(0, 1, false), (1, 1, false)] rfl) ?_
 refine s_step [30] (by simp) rfl rfl rfl rfl (e_lH (v := .ref (23, gF) 1 0 N) rfl (hset_self _ _ _) rfl) trivial ?_
 refine s_e rfl (e_move (v := .sc _) rfl) ?_
 refine s_e rfl (e_move (v := .ptr (30, gp) 10 0 5) rfl) ?_
 refine s_e rfl (e_nilc rfl) ?_
 refine s_e rfl (e_faQ [(0, 1, false), (1, 1, false)] rfl) ?_
 refine s_step [30] (by simp) rfl rfl rfl rfl (e_lH (v := .ref (23, gF) 1 0 N) rfl (hset_self _ _ _) rfl) trivial ?_
 refine s_e rfl (e_move (v := .sc _) rfl) ?_
 refine s_e rfl (e_move (v := .ptr (30, gp) 10 0 5) rfl) ?_
 refine s_e rfl (e_nilc rfl) ?_
 refine s_e rfl (e_faQ [(0, 1, false), (1, 1, false)] rfl) ?_
 refine s_step [30] (by simp) rfl rfl rfl rfl (e_lH (v := .ref (23, gF) 1 0 N) rfl (hset_self _ _ _) rfl) trivial ?_
 refine s_e rfl (e_move (v := .sc _) rfl) ?_
 refine s_e rfl (e_ixaR0 rfl rfl (by kernel_rfl) (by kernel_rfl) (by omega)) ?_
 refine s_step [23] (by simp) rfl rfl rfl rfl (e_loadV (v := ua) rfl hOut (by kernel_rfl) (by kernel_rfl) (by kernel_rfl) hua) trivial ?_
 refine s_e rfl (e_move (v := .sc _) rfl) ?_
 refine s_new [] (by simp) rfl rfl rfl rfl (e_bslice (rows := [ci (((ps.map Pipe.enc).length : Nat) : Int)]) (zs := [.int 0]) (sz := 1) (by kernel_rfl) (by kernel_rfl) rfl (by kernel_rfl) (by decide) rfl rfl (by exact ⟨by decide, rfl, rfl, trivial⟩) rfl) trivial ?_
 refine s_appK2 (u := ua) (sz := 1) (d1 := 48) (d2 := 59) (rows := (adjF al a.toNat).map ci) (rows2 := [ci (((ps.map Pipe.enc).length : Nat) : Int)]) (ds := [47]) [48, 59, 47] [48, 59] (by simp) (by simp) (by simp) rfl rfl rfl (hsa.1.imp (fun q => q.keep fun g => hset_ne (key_ne rfl)) (fun q => q.keep fun g => hset_ne (key_ne rfl))) (SrcAt.ref (hset_self _ _ _) rfl) rfl (by kernel_rfl) (by simp only [List.length_map, List.length_cons, List.length_nil]; omega) (by simp) fun h1 hr1 hf1 => ?_
 have hA1 : ApK _ h1 48 _ 48 59 ua ((adjF al a.toNat).map ci).length := hf1
 have hFam1 : Fam h1 48 59 (vs.set a.toNat (.ref (48, cset (cset (cset c0 25) 26) 47 48) 1 0 (((adjF al a.toNat).map ci).length + 1))) (fun j => if j = a.toNat then adjF al a.toNat ++ [(((ps.map Pipe.enc).length : Nat) : Int)] else adjF al j) (2 * al.length + 1) := Fam.app (i := a.toNat) (hFam.keep (h' := hset _ (47, _) _) (fun g => hset_ne (key_ne rfl)) (fun g => hset_ne (key_ne rfl))) (.inl rfl) (fun g o hh => hf48 g o ((hset_ne (key_ne rfl)).symm.trans hh)) hua hr1 hA1
 have hf59b := hA1.fresh (e := 59) (hsa.1.imp (fun q => q.keep fun g => hset_ne (key_ne rfl)) (fun q => q.keep fun g => hset_ne (key_ne rfl))) rfl (fun g o hh => hf59 g o ((hset_ne (key_ne rfl)).symm.trans hh))
 have hub1 : ∀ w, (vs.set a.toNat w)[b.toNat]? = some ub := fun w => (List.getElem?_set_ne (by omega)).trans hub
 have hsb := hFam1.sl _ _ (hub1 _)
 rw [if_neg (by omega : ¬ b.toNat = a.toNat)] at hsb
 refine s_e rfl (e_move (v := .ptr (30, gp) 10 0 5) rfl) ?_
 refine s_e rfl (e_nilc rfl) ?_
 refine s_e rfl (e_faQ [(0, 1, false), (1, 1, false)] rfl) ?_
 refine s_step [30] (by simp) rfl rfl rfl rfl (e_lH (v := .ref (23, gF) 1 0 N) rfl ((hA1.ne rfl rfl rfl).trans ((hset_ne (key_ne rfl)).trans (hset_self _ _ _))) rfl) trivial ?_
 refine s_e rfl (e_move (v := .sc _) rfl) ?_
 refine s_e rfl (e_ixaR0 rfl rfl (by kernel_rfl) (by kernel_rfl) (by omega)) ?_
 refine s_step [23] (by simp) rfl rfl rfl rfl (e_loadV (v := ub) rfl ((hA1.ne rfl rfl rfl).trans ((hset_ne (key_ne rfl)).trans hOut)) (by kernel_rfl) (by kernel_rfl) (by kernel_rfl) hub) trivial ?_
 refine s_e rfl (e_move (v := .sc _) rfl) ?_
 refine s_e rfl (e_adL rfl rfl (by rw [List.length_map]; omega)) ?_
 refine s_new [] (by simp) rfl rfl rfl rfl (e_bslice (rows := [ci ((((ps.map Pipe.enc).length : Nat) : Int) + 1)]) (zs := [.int 0]) (sz := 1) (by kernel_rfl) (by kernel_rfl) rfl (by kernel_rfl) (by decide) rfl rfl (by exact ⟨by decide, rfl, rfl, trivial⟩) rfl) trivial ?_
 refine s_appK2 (u := ub) (sz := 1) (d1 := 48) (d2 := 59) (rows := (adjF al b.toNat).map ci) (rows2 := [ci ((((ps.map Pipe.enc).length : Nat) : Int) + 1)]) (ds := [58]) [48, 59, 58] [48, 59] (by simp) (by simp) (by simp) rfl rfl rfl (hsb.1.imp (fun q => q.keep fun g => hset_ne (key_ne rfl)) (fun q => q.keep fun g => hset_ne (key_ne rfl))) (SrcAt.ref (hset_self _ _ _) rfl) rfl (by kernel_rfl) (by simp only [List.length_map, List.length_cons, List.length_nil]; omega) (by simp) fun h2 hr2 hf2 => ?_
 have hA2 : ApK _ h2 59 _ 48 59 ub ((adjF al b.toNat).map ci).length := hf2
 have hFam2 : Fam h2 48 59 ((vs.set a.toNat (.ref (48, cset (cset (cset c0 25) 26) 47 48) 1 0 (((adjF al a.toNat).map ci).length + 1))).set b.toNat (.ref (59, cset (cset (cset (cset (cset c0 25) 26) 47) 48) 58 59) 1 0 (((adjF al b.toNat).map ci).length + 1))) (fun j => if j = b.toNat then (if b.toNat = a.toNat then adjF al a.toNat ++ [(((ps.map Pipe.enc).length : Nat) : Int)] else adjF al b.toNat) ++ [((((ps.map Pipe.enc).length : Nat) : Int) + 1)] else if j = a.toNat then adjF al a.toNat ++ [(((ps.map Pipe.enc).length : Nat) : Int)] else adjF al j) (2 * al.length + 1 + 1) := (by have q := Fam.app (i := b.toNat) (k := ((((ps.map Pipe.enc).length : Nat) : Int) + 1)) (hFam1.keep (h' := hset _ (58, _) _) (fun g => hset_ne (key_ne rfl)) (fun g => hset_ne (key_ne rfl))) (.inr rfl) (fun g o hh => hf59b g o ((hset_ne (key_ne rfl)).symm.trans hh)) (hub1 _) (by rw [if_neg (by omega : ¬ b.toNat = a.toNat)]; exact hr2) (by rw [if_neg (by omega : ¬ b.toNat = a.toNat)]; exact hA2); dsimp only at q; rw [if_neg (by omega : ¬ b.toNat = a.toNat)] at q ⊢; exact q)
 refine s_e rfl (e_ixaR0 rfl rfl (by kernel_rfl) (by kernel_rfl) (by omega)) ?_
 refine s_store [23] (by simp) rfl rfl (e_storeV (v := .ref (48, cset (cset (cset c0 25) 26) 47 48) 1 0 (((adjF al a.toNat).map ci).length + 1)) rfl ((hA2.ne rfl rfl rfl).trans ((hset_ne (key_ne rfl)).trans ((hA1.ne rfl rfl rfl).trans ((hset_ne (key_ne rfl)).trans hOut)))) rfl rfl rfl (by omega) (by kernel_rfl) (by kernel_rfl)) trivial ?_
 refine s_e rfl (e_ixaR0 rfl rfl (by kernel_rfl) (by kernel_rfl) (by omega)) ?_
 refine s_store [23] (by simp) rfl rfl (e_storeV (v := .ref (59, cset (cset (cset (cset (cset c0 25) 26) 47) 48) 58 59) 1 0 (((adjF al b.toNat).map ci).length + 1)) rfl (hset_self _ _ _) rfl rfl rfl (by rw [List.length_set]; omega) (by kernel_rfl) (by kernel_rfl)) trivial ?_
 refine s_end (ds := []) (by kernel_rfl) (by kernel_rfl) (hK4 _ ?_); clear hK4 K4
 refine pwp_seq_plain rfl fun K5 hK5 => ?_
 refine p_mS rfl ?_
 refine p_aS rfl ?_
 refine p_end (hK5 _ ?_); clear hK5 K5
 refine pwp_ret ?_
 refine end1 (v := .sc _) rfl ?_
 unfold AddR
 refine ⟨by rw [List.length_map, hps], ⟨_, _, ⟨(hset_ne (key_ne rfl)).trans ((hset_ne (key_ne rfl)).trans ((hA2.ne rfl rfl rfl).trans ((hset_ne (key_ne rfl)).trans ((hA1.ne rfl rfl rfl).trans ((hset_ne (key_ne rfl)).trans (hset_self _ _ _)))))), .inr ⟨cset c0 25 26, (by show PV.ref (26, cset c0 25 26) 2 0 ((ps.map Pipe.enc).length + 2) = _; congr 1; simp), ((hset_ne (key_ne rfl)).trans ((hset_ne (key_ne rfl)).trans ((hA2.ne rfl rfl rfl).trans ((hset_ne (key_ne rfl)).trans ((hA1.ne rfl rfl rfl).trans ((hset_ne (key_ne rfl)).trans ((hset_ne (key_ne rfl)).trans hrp))))))).trans (by rw [List.map_append]; rfl)⟩, hset_self _ _ _, by rw [List.length_set, List.length_set]; exact hN.len, ?_⟩⟩, fun k hk => ?_, fun x_ => ?_⟩
 ·refine Fam.mono (b := 2 * al.length + 1 + 1) (Fam.keep (h := h2) (Fam.congr hFam2 (cs' := adjF (al ++ [x])) fun u_ hu_ => ?_) (fun g => (hset_ne (key_ne rfl)).trans (hset_ne (key_ne rfl))) (fun g => (hset_ne (key_ne rfl)).trans (hset_ne (key_ne rfl)))) (by rw [List.length_append, List.length_singleton]; omega)
  have hq := adj_add (al := al) (x := x) (a := a.toNat) (b := b.toNat) (by omega) (by omega) (by omega) u_
  have hkw : (((ps.map Pipe.enc).length : Nat) : Int) = ((2 * al.length : Nat) : Int) := by rw [List.length_map, hps]
  rw [hkw]; exact hq
 ·have hne := inS_ne hk
  exact (hset_ne (hne 23 (by simp) _)).trans ((hset_ne (hne 23 (by simp) _)).trans ((hA2 k (hne 59 (by simp) _) (fun _ _ => (hne 48 (by simp) _)) (fun _ _ => (hne 59 (by simp) _))).trans ((hset_ne (hne 58 (by simp) _)).trans ((hA1 k (hne 48 (by simp) _) (fun _ _ => (hne 48 (by simp) _)) (fun _ _ => (hne 59 (by simp) _))).trans ((hset_ne (hne 47 (by simp) _)).trans ((hset_ne (hne 30 (by simp) _)).trans ((hfp k (hne 26 (by simp) _) (fun _ _ => (hne 26 (by simp) _))).trans (hset_ne (hne 25 (by simp) _)))))))))
 exact Nat.le_trans (cset_le _ 25 _) (Nat.le_trans (cset_le _ 26 _) (Nat.le_trans (cset_le _ 47 _) (Nat.le_trans (cset_le _ 48 _) (Nat.le_trans (cset_le _ 58 _) (cset_le _ 59 _)))))

def iV (a : Int) : PV := .int a
theorem iV_eq (a b : Int) : keyEq (iV a) (iV b) = decide (a = b) := by
 show (a == b) = _
 rw [Bool.eq_iff_iff]; simp
theorem iV_ok (a : Int) : keyOk Try.prog 3 (iV a) := by
 show intKind Try.prog 3 = some .i64
 kernel_rfl
def NN (t : Traffic) : Nat := (ndS t).toNat + 2
def PlanR (t : Traffic) (h0 : Heap) (c0 : Nat → Nat) (v : PV) (h : Heap) (c : Nat → Nat) : Prop :=
 ∃ gp gF gm m, v = .ptr (30, gp) 10 0 0 ∧ NetA t (NN t) h gp gF gm (arcs t) ∧ MapAt h (28, gm) (entsOf iV trV m) ∧ TrM (arcs t) m ∧ OldS c0 h0 h c
theorem nd_ne {t : Traffic} (hD : 1 ≤ t.days) {p q d e : Int} (h1 : 0 ≤ d ∧ d ≤ t.days - 1) (h2 : 0 ≤ e ∧ e ≤ t.days - 1) (hpq : ¬ p = q) : ndI t p d ≠ ndI t q e := fun z => hpq (by
 have h3 : ndI t p d / t.days = ndI t q e / t.days := congrArg (fun y => y / t.days) z
 rwa [pl_nd hD h1.1 h1.2, pl_nd hD h2.1 h2.2] at h3)
theorem nd_n1 {t : Traffic} {p d : Int} : ndI t p d ≠ ndI t p (d + 1) := by rw [ndI, ndI]; omega
theorem NetH.zero {t : Traffic} {N gp gF gm : Nat} {h : Heap} (h1 : h (30, gp) = some (.rows 10 [t.enc ++ [.nil, .ref (23, gF) 1 0 N, .int (ndS t), .int (ndE t), .map (28, gm)]])) (h2 : h (23, gF) = some (.rows 1 ((List.replicate N PV.nil).map cv))) : NetA t N h gp gF gm [] :=
 ⟨.nil, _, h1, .nil, h2, List.length_replicate, Fam.zero⟩
theorem addA_ex {t : Traffic} {N : Nat} {h0 : Heap} {gp gF gm : Nat} {al : List Arc} {c0 : Nat → Nat} (hN : NetA t N h0 gp gF gm al) (hal : al.length ≤ 100000) (a b room : Int) (ha : 0 ≤ a ∧ a < (N : Int)) (hb : 0 ≤ b ∧ b < (N : Int)) (hab : a ≠ b) (x : Arc) (hxa : x.a = a) (hxb : x.b = b) (hxc : x.cap = room) :
   ∃ ha ca, NetA t N ha gp gF gm (al ++ [x]) ∧ FrS siS h0 c0 ha ca ∧ HCallsR Try.prog 92 [.ptr (30, gp) 10 0 5, .int a, .int b, .int room] h0 c0 fun v' h' c' => v' = .int ((2 * al.length : Nat) : Int) ∧ h' = ha ∧ c' = ca := by
 obtain ⟨vP, vs, hn⟩ := hN
 rcases addX t N gp gF gm vP vs _ al x a b room h0 c0 hn psA_len hal ha hb hab hxa hxb with ⟨v, h1, c1, hR, hC⟩ | hC
 · obtain ⟨rfl, h2, h3⟩ := hR
   exact ⟨h1, c1, by rw [NetA, psOf_snoc, hxa, hxb, hxc]; exact h2, h3, hC⟩
 · obtain ⟨h1, h2, h3⟩ := NetX.ex (t := t) (N := N) (gp := gp) (gF := gF) (gm := gm) (ps := psOf ((al ++ [x]).map fun a => (a, 0))) (al := al ++ [x]) h0 c0
   exact ⟨h1, c0, h2, h3, HCallsR.mono hC fun _ _ _ q => q.elim⟩
theorem pwp_x {P : Program} {r : Nat → PV} {h : Heap} {cnt : Nat → Nat} {Q : Exit → PS → Prop} {id : Nat} {ops : Array Oper} (hx : ∀ K : PS → Prop, (∀ s', Q .normal s' → K s') → xS P ops K ops.toList 0 ⟨⟨r, h, cnt⟩, fun _ => true⟩ []) : pwp P (.region id ops true) Q ⟨r, h, cnt⟩ := by
 show pRegion P ops true (Q .normal) _
 unfold pRegion
 intro _
 rw [show (noGuards ops && !true) = false by simp]
 obtain ⟨L, σ', h1, h2, h3, h4⟩ := hx _ fun _ h => h
 exact .inr ⟨rfl, L, σ', h1, by rw [h2, List.range_eq_range']; simp, by simpa using h3, h4⟩

end Go.Proofs.Ytigdmkhdmbbfiaa
