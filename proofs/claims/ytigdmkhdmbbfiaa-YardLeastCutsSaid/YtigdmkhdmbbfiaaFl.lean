/- A network is filled, as the program does it. No conditions. -/
import Derived.Test.YtigdmkhdmbbfiaaRc
set_option linter.unusedSimpArgs false
set_option linter.unusedVariables false
set_option maxRecDepth 100000
namespace Go.Proofs.Ytigdmkhdmbbfiaa
open Go Go.Pv
/-! ### What stays when a network is filled -/
/-- What was there ahead of a call is there still, but for the pipes. -/
def OldP (gP : Nat) (c0 : Nat → Nat) (h0 h : Heap) (c : Nat → Nat) : Prop := (∀ k : Key, k.2 < c0 k.1 → k ≠ (26, gP) → h k = h0 k) ∧ ∀ x, c0 x ≤ c x
section
variable {t : Traffic} {N : Nat} {h h' h0 : Heap} {gp gF gm gP b n : Nat} {vP : PV} {vs : List PV} {ps ps' : List Pipe} {cs : Nat → List Int} {c0 c c' : Nat → Nat} {r : Nat → PV}
theorem OldP.refl : OldP gP c0 h0 h0 c0 := ⟨fun _ _ _ => rfl, fun _ => Nat.le_refl _⟩
theorem OldP.old (hO : OldP gP c0 h0 h c) (hN : Old c h h' c') : OldP gP c0 h0 h' c' :=
 ⟨fun k hk hne => (hN.get (Nat.lt_of_lt_of_le hk (hO.2 _))).trans (hO.1 k hk hne), fun x => Nat.le_trans (hO.2 x) (hN.mo x)⟩
theorem OldP.pip {o : Option PObj} (hO : OldP gP c0 h0 h c) : OldP gP c0 h0 (hset h (26, gP) o) c :=
 ⟨fun k hk hne => (hset_ne hne).trans (hO.1 k hk hne), hO.2⟩
theorem kn_keep (hk : Known ⟨r, h, c⟩) (hO : Old c h h' c') : ∀ (k : Key) (o : PObj), h k = some o → h' k = some o := fun k o h1 => (hO.get (hk k o h1)).trans h1
theorem sl_keep {d : Nat} {v : PV} {sz : Nat} {rows : Pv.Rows} (hk : ∀ (k : Key) (o : PObj), h k = some o → h' k = some o) (hs : SliceAt h d v sz rows) : SliceAt h' d v sz rows := by
 rcases hs with h1 | ⟨g, h1, h2⟩
 · exact .inl h1
 · exact .inr ⟨g, h1, hk _ _ h2⟩
theorem NetH.old (hk : ∀ (k : Key) (o : PObj), h k = some o → h' k = some o) (hn : NetH t N h gp gF gm vP vs ps cs b) : NetH t N h' gp gF gm vP vs ps cs b :=
 ⟨hk _ _ hn.row, sl_keep hk hn.pip, hk _ _ hn.out, hn.len, ⟨⟨fun i v hv => by obtain ⟨rows, h1, h2⟩ := hn.fam.of.at_ i v hv; exact ⟨rows, h1.imp (sl_keep hk) (sl_keep hk), h2⟩, hn.fam.of.one⟩, fun u v hv => ⟨(hn.fam.sl u v hv).1.imp (sl_keep hk) (sl_keep hk), (hn.fam.sl u v hv).2⟩⟩⟩
theorem pip_at {g m : Nat} {rows : Pv.Rows} (hs : SliceAt h 26 (.ref (26, g) 2 0 m) 2 rows) : h (26, g) = some (.rows 2 rows) ∧ m = rows.length := by
 rcases hs with ⟨_, h1⟩ | ⟨g', h1, h2⟩
 · cases h1
 · cases h1; exact ⟨h2, rfl⟩
theorem NetH.pips (hn : NetH t N h gp gF gm (.ref (26, gP) 2 0 n) vs ps cs b) (hl : ps'.length = ps.length) : NetH t N (hset h (26, gP) (some (.rows 2 (ps'.map Pipe.enc)))) gp gF gm (.ref (26, gP) 2 0 n) vs ps' cs b := by
 obtain ⟨h1, h2⟩ := pip_at hn.pip
 exact ⟨(hset_ne (key_ne rfl)).trans hn.row, .inr ⟨gP, by rw [h2, List.length_map, List.length_map, hl], hset_self _ _ _⟩, (hset_ne (key_ne rfl)).trans hn.out, hn.len, hn.fam.keep (fun _ => hset_ne (key_ne rfl)) fun _ => hset_ne (key_ne rfl)⟩
end
section
variable {t : Traffic} {af af' : List (Arc × Int)} {N k i M : Nat} {s e m z n : Int} {bs ord : List Int} {q : Arc × Int}
theorem it_s {f : Int → Int} (h : z = itP f i e) : f z = itP f (i + 1) e := by rw [h]; rfl
/-- The pipes behind a step of the way. -/
theorem ps_step (hq : af'[k / 2]? = some q) : ((psOf af').set ((k : Int)).toNat { (⟨pT q k, pR q k⟩ : Pipe) with room := pR q k - m })[opP k]? = some ⟨pT q (opP k), pR q (opP k)⟩ := by
 rw [Int.toNat_natCast, List.getElem?_set_ne (fun h => op_ne h.symm)]; exact psOf_op hq
theorem ps_two (hq : af'[k / 2]? = some q) : ((psOf af').set ((k : Int)).toNat { (⟨pT q k, pR q k⟩ : Pipe) with room := pR q k - m }).set (((opP k : Nat) : Int)).toNat { (⟨pT q (opP k), pR q (opP k)⟩ : Pipe) with room := pR q (opP k) + m } = psOf (af'.set (k / 2) (push q k m)) := by
 rw [Int.toNat_natCast, Int.toNat_natCast]; exact psOf_push hq
end

theorem allC_b {t : Traffic} (hT : TrOK t) : allC t ≤ 40000000 := by
 have h1 := capS_b (f := fun s : Supply => s.count) (l := t.supplies) (m := 1000000) (fun y hy => (hT.sp y hy).2.2) (k := t.supplies.length) (Nat.le_refl _)
 rw [sumL_cap] at h1
 have := hT.hs
 rw [allC]; omega
theorem hset_two {h : Heap} {k : Key} {o o' : Option PObj} : hset h k o' = hset (hset h k o) k o' := by
 funext x; unfold hset; split <;> rfl
theorem room_b {t : Traffic} {af : List (Arc × Int)} {n : Int} (hF : Flow t af n) (hT : TrOK t) {k : Nat} (hk : k < (psOf af).length) : roomP (psOf af) k ≤ 42000000 := by
 rw [psOf_len] at hk
 have h1 : af[k / 2]? = some (af[k / 2]'(by omega)) := List.getElem?_eq_getElem (by omega)
 rw [roomP_of h1]
 exact ((Aug.zero (s := 0) (m := 0) (bs := []) (e := 0) (ord := [0]) hF.cap (by simp)).room hT hF.ar (List.getElem_mem _) k).2
theorem frH60 : (inFrame Try.f60.ntmps (Try.f60.body.getD .skip) && Try.f60.results.toList.all (resScope Try.f60.ntmps)) = true := by kernel_rfl
theorem fillH0 (t : Traffic) (hT : TrOK t) (gp gF gm gP0 : Nat) (vP : PV) (vs : List PV) (b : Nat) (hbq : b = 2 * (arcs t).length) (hvg : ∀ g m, vP = .ref (26, g) 2 0 m → g = gP0) (h0 : Heap) (c0 : Nat → Nat) (hn0 : NetH t (NN t) h0 gp gF gm vP vs (psOf ((arcs t).map fun a => (a, 0))) (adjF (arcs t)) b) : HCallsR Try.prog 60 [.ptr (30, gp) 10 0 5, .int (ndS t), .int (ndE t)] h0 c0 (fun v h c => ∃ af n bs, v = .int n ∧ NetX t (NN t) h gp gF gm (psOf af) (arcs t) ∧ Flow t af n ∧ Rch (psOf af) (NN t) (ndS t) bs ∧ bs.getD (ndE t).toNat 0 = -1 ∧ OldP gP0 c0 h0 h c) := by
 refine HCallsR.of_code Try.func60 rfl rfl (by kernel_rfl) mixed frH60 (by show _ ≤ 113; simp) ?_
 have q1 := hT.hA
 have q2 := hT.hB
 have q3 := hT.hr
 have q4 := hT.hs
 have q5 := hT.hn
 have hEd : ndE t = ndS t + 1 := rfl
 have hS0 : 0 ≤ ndS t := Int.mul_nonneg (by omega) (by omega)
 have hS1 : ndS t ≤ 8 * 20 := Int.mul_le_mul (by omega) (by omega) (by omega) (by omega)
 have hNN : ((NN t : Nat) : Int) = ndS t + 2 := by rw [NN]; omega
 have hal := arcs_len hT
 refine pwp_seq_plain rfl fun K1 hK1 => ?_
 refine p_aS rfl ?_
 refine p_end (hK1 _ ?_); clear hK1 K1
 refine pwp_seq_plain rfl fun K2 hK2 => ?_
 refine p_aS rfl ?_
 refine p_end (hK2 _ ?_); clear hK2 K2
 refine pwp_block ?_
 refine pwp_loopR (α := (List (Arc × Int)) × Int) [0, 1, 2] (fun (a3 : (List (Arc × Int)) × Int) => [(7, .int (a3.2))]) (fun (a3 : (List (Arc × Int)) × Int) (h : Heap) (c : Nat → Nat) => (Flow t (a3.1) (a3.2)) ∧ (0 ≤ (a3.2)) ∧ (NetH t (NN t) h gp gF gm vP vs (psOf (a3.1)) (adjF (arcs t)) b) ∧ (OldP gP0 c0 h0 h c)) (fun (a3 : (List (Arc × Int)) × Int) => (allC t - (a3.2)).toNat) ((arcs t).map fun a => (a, 0), 0) (by exact ⟨rfl, trivial⟩) (by exact ⟨by exact flow0 hT, by exact Int.le_refl _, by exact hn0, by exact OldP.refl⟩) fun a3 r4 h5 c6 hj7 => ?_
 obtain ⟨af, n⟩ := a3
 obtain ⟨hF, hn0_, hn, hO⟩ := hj7
 try dsimp only at hF
 try dsimp only at hn0_
 try dsimp only at hn
 try dsimp only at hO
 show pwp _ _ (loopQ _ _ _) ⟨sets (mix _ _ _) [(7, .int n)], _, _⟩
 refine pwp_block ?_
 refine pwp_seq_plainK rfl fun hkn K8 hK8 => ?_
 refine p_e rfl (e_move (v := .ptr (30, gp) 10 0 5) rfl) ?_
 refine p_e rfl (e_move (v := .sc _) rfl) ?_
 have hafl : af.length = (arcs t).length := by have h2 := congrArg List.length hF.ar; rwa [List.length_map] at h2
 have hapl : (psOf af).length ≤ 2000 := by rw [psOf_len]; omega
 refine p_hcall rfl (reachH t (NN t) gp gF gm vP vs (psOf af) (arcs t) b (ndS t) _ _ hn (adj_ok hT hF.ar (by omega)) (fun k hk => by rw [psOf_len] at hk ⊢; exact op_lt hk) (by omega) (by rw [psOf_len]; omega) (by omega) (by omega)) fun v15 h15 c15 hR15 => ?_
 obtain ⟨g16, bs, rfl, hby, hR, hOn⟩ := hR15
 have hn5 := NetH.old (kn_keep hkn hOn) hn; have hO5 := hO.old hOn
 refine p_e rfl (e_assign (v := .ref _ _ _ _) rfl) ?_
 refine p_end (hK8 _ ?_); clear hK8 K8
 have hRx := hR.ex; obtain ⟨ord, hB⟩ := hRx; have hbl := hB.len
 have hbe : bs[(ndE t).toNat]? = some (bs.getD (ndE t).toNat 0) := by rw [List.getD_eq_getElem?_getD, List.getElem?_eq_getElem (by omega)]; rfl
 refine pwp_seq_seq ?_
 refine pwp_seq_plain rfl fun K9 hK9 => ?_
 refine p_e rfl (e_move (v := .ref _ _ _ _) rfl) ?_
 refine p_mS rfl ?_
 refine p_e rfl (e_ixaR0 rfl rfl (by kernel_rfl) (by kernel_rfl) (by omega)) ?_
 refine p_e rfl (e_loadI (a := (bs.getD (ndE t).toNat 0)) rfl hby (by kernel_rfl) (by kernel_rfl) (by kernel_rfl) hbe) ?_
 refine p_e rfl (e_eq rfl rfl) ?_
 refine p_end (hK9 _ ?_); clear hK9 K9
 refine pwp_seq_cond rfl fun K10 hK10 => ⟨fun hb11 => ?_, fun hb11 => ?_⟩
 ·have hb11R := hb11; try simp only [zz] at hb11
  subst hbq
  refine pwp_seq_plain rfl fun K12 hK12 => ?_
  refine p_mS rfl ?_
  refine p_aS rfl ?_
  refine p_end (hK12 _ ?_); clear hK12 K12
  refine pwp_ret ?_
  refine ret_seq ?_
  refine ret_block ?_
  refine ret_loop ?_
  refine ret_block ?_
  refine end1 (v := .sc _) rfl ?_
  exact ⟨af, n, bs, rfl, ⟨vP, vs, hn5⟩, hF, hR, by omega, hO5⟩
 have hb11R := hb11; try simp only [zz] at hb11
 refine pwp_skip ?_
 refine seq_norm (hK10 _ ?_); clear hK10 K10
 have hene : bs.getD (ndE t).toNat 0 ≠ -1 := by omega
 have hem : ndE t ∈ ord := (hB.mem (ndE t) (by omega) (by omega)).1 hene
 have hes : ndE t ≠ ndS t := by omega
 obtain ⟨he1, he2, he3, he4, he5, he6⟩ := hB.pred hem hes
 obtain ⟨gP, hvP, hgP⟩ := SliceAt.isRef hn5.pip (by intro y; have := congrArg List.length y; rw [List.length_map, List.length_nil] at this; omega)
 rw [List.length_map] at hvP
 have hgg := hvg _ _ hvP
 subst hvP
 subst hgg
 have hpe0 : (psOf af)[byN bs (ndE t)]? = some ((psOf af)[byN bs (ndE t)]) := List.getElem?_eq_getElem he1
 obtain ⟨pe, hpeq⟩ : ∃ pe, pe = (psOf af)[byN bs (ndE t)] := ⟨_, rfl⟩
 rw [← hpeq] at hpe0
 have hpe : (psOf af)[(bs.getD (ndE t).toNat 0).toNat]? = some pe := by rw [he2, Int.toNat_natCast]; exact hpe0
 have hmr : 1 ≤ pe.room ∧ pe.room ≤ 42000000 := by have := room_b hF hT he1; rw [roomP_at hpe0] at this he4; omega
 refine pwp_seq_plain rfl fun K13 hK13 => ?_
 refine p_e rfl (e_move (v := .ref _ _ _ _) rfl) ?_
 refine p_mS rfl ?_
 refine p_e rfl (e_ixaR0 rfl rfl (by kernel_rfl) (by kernel_rfl) (by omega)) ?_
 refine p_e rfl (e_loadI (a := (bs.getD (ndE t).toNat 0)) rfl hby (by kernel_rfl) (by kernel_rfl) (by kernel_rfl) hbe) ?_
 refine p_aS rfl ?_
 refine p_end (hK13 _ ?_); clear hK13 K13
 refine pwp_seq_plain rfl fun K14 hK14 => ?_
 refine p_e rfl (e_move (v := .ptr (30, gp) 10 0 5) rfl) ?_
 refine p_e rfl (e_nilc rfl) ?_
 refine p_e rfl (e_faQ [(0, 1, false), (1, 1, false)] rfl) ?_
 refine p_e rfl (e_lH (v := .ref (26, gP) 2 0 (psOf af).length) rfl hn5.row rfl) ?_
 refine p_e rfl (e_move (v := .sc _) rfl) ?_
 refine p_e rfl (e_ixaR0 rfl rfl (by kernel_rfl) (by kernel_rfl) (by omega)) ?_
 refine p_e rfl (e_faQ [(0, 1, false), (1, 1, false)] rfl) ?_
 refine p_e rfl (e_loadH (v := .int pe.room) rfl hgP (by kernel_rfl) (by kernel_rfl) (by kernel_rfl) (by rw [List.length_map]; omega) (by decide) ((cell_map hpe _).trans rfl)) ?_
 refine p_e rfl (e_assign (v := .sc _) rfl) ?_
 refine p_end (hK14 _ ?_); clear hK14 K14
 refine pwp_seq_seq ?_
 refine pwp_seq_plain rfl fun K15 hK15 => ?_
 refine p_mS rfl ?_
 refine p_aS rfl ?_
 refine p_end (hK15 _ ?_); clear hK15 K15
 refine pwp_seq_block fun K16 hK16 => ?_
 refine pwp_loopR (α := Nat × Int × Int) [0, 1, 2, 7, 8] (fun (a17 : Nat × Int × Int) => [(10, .int (a17.2.2)), (11, .int (a17.2.1))]) (fun (a17 : Nat × Int × Int) (h : Heap) (c : Nat → Nat) => ((a17.2.1) = itP (pdP (psOf af) bs) (a17.1) (ndE t)) ∧ ((a17.2.1) ∈ ord) ∧ (1 ≤ (a17.2.2) ∧ (a17.2.2) ≤ 42000000) ∧ (∀ j, j < (a17.1) → (a17.2.2) ≤ roomP (psOf af) (byN bs (itP (pdP (psOf af) bs) j (ndE t)))) ∧ (NetH t (NN t) h gp gF gm (.ref (26, gP) 2 0 (psOf af).length) vs (psOf af) (adjF (arcs t)) b) ∧ (OldP gP c0 h0 h c) ∧ (h (16, g16) = some (.rows 1 (bs.map ci)))) (fun (a17 : Nat × Int × Int) => ord.idxOf (a17.2.1)) (0, (ndE t), pe.room) (by exact ⟨rfl, rfl, trivial⟩) (by exact ⟨by exact rfl, by exact hem, by exact hmr, by exact fun j hj => absurd hj (Nat.not_lt_zero _), by exact hn5, by exact hO5, hby⟩) fun a17 r18 h19 c20 hj21 => ?_
 obtain ⟨i, z, m⟩ := a17
 obtain ⟨hzi, hz, hm, hmin, hn5, hO5, hihj21_0⟩ := hj21
 try dsimp only at hzi
 try dsimp only at hz
 try dsimp only at hm
 try dsimp only at hmin
 try dsimp only at hn5
 try dsimp only at hO5
 try dsimp only at hihj21_0
 show pwp _ _ (loopQ _ _ _) ⟨sets (mix _ _ _) [(10, .int m), (11, .int z)], _, _⟩
 refine pwp_seq_seq ?_
 refine pwp_seq_plain rfl fun K22 hK22 => ?_
 refine p_mS rfl ?_
 refine p_mS rfl ?_
 refine p_e rfl (e_ne rfl rfl) ?_
 refine p_end (hK22 _ ?_); clear hK22 K22
 refine pwp_seq_cond rfl fun K23 hK23 => ⟨fun hb24 => ?_, fun hb24 => ?_⟩
 ·have hb24R := hb24; try simp only [zz] at hb24
  have hpz := hB.pred hz (by omega)
  obtain ⟨hz1, hz2, hz3, hz4, hz5, hz6⟩ := hpz
  have hzr := hB.rng z hz
  have hbz : bs[z.toNat]? = some ((byN bs z : Nat) : Int) := by rw [← hz2, List.getD_eq_getElem?_getD, List.getElem?_eq_getElem (by omega)]; rfl
  have hgP := (pip_at hn5.pip).1
  have hpz0 : (psOf af)[byN bs z]? = some ((psOf af)[byN bs z]) := List.getElem?_eq_getElem hz1
  have hpz : (psOf af)[((byN bs z : Nat) : Int).toNat]? = some ((psOf af)[byN bs z]) := by rw [Int.toNat_natCast]; exact hpz0
  have hol : opP (byN bs z) < (psOf af).length := by rw [psOf_len] at hz1 ⊢; exact op_lt hz1
  have hpo0 : (psOf af)[opP (byN bs z)]? = some ((psOf af)[opP (byN bs z)]) := List.getElem?_eq_getElem hol
  have hpo : (psOf af)[((opP (byN bs z) : Nat) : Int).toNat]? = some ((psOf af)[opP (byN bs z)]) := by rw [Int.toNat_natCast]; exact hpo0
  refine pwp_skip ?_
  refine seq_norm (hK23 _ ?_); clear hK23 K23
  refine pwp_seq_block fun K25 hK25 => ?_
  refine pwp_gops rfl fun K26 hK26 => ?_
  refine s_begin ?_
  refine s_e rfl (e_move (v := .sc _) rfl) ?_
  refine s_e rfl (e_move (v := .ptr (30, gp) 10 0 5) rfl) ?_
  refine s_e rfl (e_nilc rfl) ?_
  refine s_e rfl (e_faQ [(0, 1, false), (1, 1, false)] rfl) ?_
  refine s_step [30] (by simp) rfl rfl rfl rfl (e_lH (v := .ref (26, gP) 2 0 (psOf af).length) rfl hn5.row rfl) trivial ?_
  refine s_e rfl (e_move (v := .ref _ _ _ _) rfl) ?_
  refine s_e rfl (e_move (v := .sc _) rfl) ?_
  refine s_e rfl (e_ixaR0 rfl rfl (by kernel_rfl) (by kernel_rfl) (by omega)) ?_
  refine s_step [16] (by simp) rfl rfl rfl rfl (e_loadI (a := ((byN bs z : Nat) : Int)) rfl hihj21_0 (by kernel_rfl) (by kernel_rfl) (by kernel_rfl) hbz) trivial ?_
  refine s_e rfl (e_ixaR0 rfl rfl (by kernel_rfl) (by kernel_rfl) (by omega)) ?_
  refine s_e rfl (e_faQ [(0, 1, false), (1, 1, false)] rfl) ?_
  refine s_step [26] (by simp) rfl rfl rfl rfl (e_loadH (v := .int (roomP (psOf af) (byN bs z))) rfl hgP (by kernel_rfl) (by kernel_rfl) (by kernel_rfl) (by rw [List.length_map]; omega) (by decide) ((cell_map hpz _).trans (by rw [roomP_at hpz0]; rfl))) trivial ?_
  refine s_e rfl (e_min rfl rfl) ?_
  refine s_e rfl (e_assign (v := .sc _) rfl) ?_
  refine s_end (ds := []) (by kernel_rfl) (by kernel_rfl) (hK26 _ ?_); clear hK26 K26
  refine block_norm ?_
  refine seq_norm (hK25 _ ?_); clear hK25 K25
  refine pwp_gops rfl fun K27 hK27 => ?_
  refine s_begin ?_
  refine s_e rfl (e_move (v := .ptr (30, gp) 10 0 5) rfl) ?_
  refine s_e rfl (e_nilc rfl) ?_
  refine s_e rfl (e_faQ [(0, 1, false), (1, 1, false)] rfl) ?_
  refine s_step [30] (by simp) rfl rfl rfl rfl (e_lH (v := .ref (26, gP) 2 0 (psOf af).length) rfl hn5.row rfl) trivial ?_
  refine s_e rfl (e_move (v := .ref _ _ _ _) rfl) ?_
  refine s_e rfl (e_move (v := .sc _) rfl) ?_
  refine s_e rfl (e_ixaR0 rfl rfl (by kernel_rfl) (by kernel_rfl) (by omega)) ?_
  refine s_step [16] (by simp) rfl rfl rfl rfl (e_loadI (a := ((byN bs z : Nat) : Int)) rfl hihj21_0 (by kernel_rfl) (by kernel_rfl) (by kernel_rfl) hbz) trivial ?_
  refine s_e rfl (e_xor1 rfl rfl (by omega)) ?_
  refine s_e rfl (e_ixaR0 rfl rfl (by kernel_rfl) (by kernel_rfl) (by omega)) ?_
  refine s_e rfl (e_faQ [(0, 1, false), (1, 1, false)] rfl) ?_
  refine s_step [26] (by simp) rfl rfl rfl rfl (e_loadH (v := .int (pdP (psOf af) bs z)) rfl hgP (by kernel_rfl) (by kernel_rfl) (by kernel_rfl) (by rw [List.length_map]; omega) (by decide) ((cell_map hpo _).trans (by rw [pdP, froP, tilP_at hpo0]; rfl))) trivial ?_
  refine s_e rfl (e_assign (v := .sc _) rfl) ?_
  refine s_end (ds := []) (by kernel_rfl) (by kernel_rfl) (hK27 _ ?_); clear hK27 K27
  exact loop_again ((i + 1, (pdP (psOf af) bs z), (min m (roomP (psOf af) (byN bs z))))) (by show _ < _; simp only; exact hz6) ⟨rfl, rfl, rfl, rfl, rfl, trivial⟩ ⟨rfl, rfl, trivial⟩ (by exact ⟨by exact it_s hzi, by exact hz5, by show 1 ≤ min m _ ∧ min m _ ≤ 42000000; omega, by exact fun j hj => (by by_cases e : j = i; (subst e; rw [← hzi]; exact Int.min_le_right _ _); exact Int.le_trans (Int.min_le_left _ _) (hmin j (by omega))), by exact hn5, by exact hO5, hihj21_0⟩)
 have hb24R := hb24; try simp only [zz] at hb24
 have hzs : z = ndS t := by omega
 refine pwp_exit ?_
 refine exit_seq ?_
 clear hK23 K23
 refine exit_loop ?_
 refine exit_here ?_
 refine seq_norm (hK16 _ ?_); clear hK16 K16
 refine pwp_seq_seq ?_
 have hzi0 := hzi
 rw [hzs] at hzi0
 refine pwp_seq_plain rfl fun K28 hK28 => ?_
 refine p_mS rfl ?_
 refine p_aS rfl ?_
 refine p_end (hK28 _ ?_); clear hK28 K28
 refine pwp_seq_block fun K29 hK29 => ?_
 refine pwp_loopR (α := Nat × Int × (List (Arc × Int))) [0, 1, 2, 7, 8, 10] (fun (a30 : Nat × Int × (List (Arc × Int))) => [(12, .int (a30.2.1))]) (fun (a30 : Nat × Int × (List (Arc × Int))) (h : Heap) (c : Nat → Nat) => ((a30.2.1) = itP (pdP (psOf af) bs) (a30.1) (ndE t)) ∧ ((a30.1) ≤ i) ∧ (Aug af bs ord (ndS t) (ndE t) m (a30.2.1) (a30.2.2)) ∧ (NetH t (NN t) h gp gF gm (.ref (26, gP) 2 0 (psOf af).length) vs (psOf (a30.2.2)) (adjF (arcs t)) b) ∧ (OldP gP c0 h0 h c) ∧ (h (16, g16) = some (.rows 1 (bs.map ci)))) (fun (a30 : Nat × Int × (List (Arc × Int))) => ord.idxOf (a30.2.1)) (0, (ndE t), af) (by exact ⟨rfl, trivial⟩) (by exact ⟨by exact rfl, by exact Nat.zero_le _, by exact Aug.zero hF.cap hem, by exact hn5, by exact hO5, hihj21_0⟩) fun a30 r31 h32 c33 hj34 => ?_
 obtain ⟨j, z, af2⟩ := a30
 obtain ⟨hzj, hji, hAug, hn6, hO6, hihj34_0⟩ := hj34
 try dsimp only at hzj
 try dsimp only at hji
 try dsimp only at hAug
 try dsimp only at hn6
 try dsimp only at hO6
 try dsimp only at hihj34_0
 show pwp _ _ (loopQ _ _ _) ⟨sets (mix _ _ _) [(12, .int z)], _, _⟩
 refine pwp_seq_seq ?_
 refine pwp_seq_plain rfl fun K35 hK35 => ?_
 refine p_mS rfl ?_
 refine p_mS rfl ?_
 refine p_e rfl (e_ne rfl rfl) ?_
 refine p_end (hK35 _ ?_); clear hK35 K35
 refine pwp_seq_cond rfl fun K36 hK36 => ⟨fun hb37 => ?_, fun hb37 => ?_⟩
 ·have hb37R := hb37; try simp only [zz] at hb37
  have hz := hAug.mem
  have hpz := hB.pred hz (by omega)
  obtain ⟨hz1, hz2, hz3, hz4, hz5, hz6⟩ := hpz
  have hzr := hB.rng z hz
  have hbz : bs[z.toNat]? = some ((byN bs z : Nat) : Int) := by rw [← hz2, List.getD_eq_getElem?_getD, List.getElem?_eq_getElem (by omega)]; rfl
  have hjl : j < i := Classical.byContradiction fun y => (by have hyi : j = i := (by omega); rw [hyi, ← hzi0] at hzj; omega)
  obtain ⟨q, hq, hq4, hq5, hqt, hqf, hqr⟩ := hAug.here hB (by omega)
  have hmr2 := hmin j hjl
  rw [← hzj] at hmr2
  have hgP2 := (pip_at hn6.pip).1
  have hl2 := hAug.len
  have hr1 := hAug.room hT hF.ar (List.mem_of_getElem? hq) (byN bs z)
  have hr2 := hAug.room hT hF.ar (List.mem_of_getElem? hq) (opP (byN bs z))
  have hol : opP (byN bs z) < (psOf af2).length := by rw [psOf_len] at hq4 ⊢; exact op_lt hq4
  have hl3 : (psOf af).length = (psOf af2).length := by rw [psOf_len, psOf_len, hl2]
  have hq1 : (psOf af2)[((byN bs z : Nat) : Int).toNat]? = some (⟨pT q (byN bs z), pR q (byN bs z)⟩ : Pipe) := by rw [Int.toNat_natCast]; exact psOf_at hq
  have hq2 : ((psOf af2).set ((byN bs z : Nat) : Int).toNat { (⟨pT q (byN bs z), pR q (byN bs z)⟩ : Pipe) with room := pR q (byN bs z) - m })[((opP (byN bs z) : Nat) : Int).toNat]? = some (⟨pT q (opP (byN bs z)), pR q (opP (byN bs z))⟩ : Pipe) := by rw [Int.toNat_natCast (opP (byN bs z))]; exact ps_step hq
  have hq3 : (((psOf af2).set ((byN bs z : Nat) : Int).toNat { (⟨pT q (byN bs z), pR q (byN bs z)⟩ : Pipe) with room := pR q (byN bs z) - m }).set ((opP (byN bs z) : Nat) : Int).toNat { (⟨pT q (opP (byN bs z)), pR q (opP (byN bs z))⟩ : Pipe) with room := pR q (opP (byN bs z)) + m })[((opP (byN bs z) : Nat) : Int).toNat]? = some { (⟨pT q (opP (byN bs z)), pR q (opP (byN bs z))⟩ : Pipe) with room := pR q (opP (byN bs z)) + m } := List.getElem?_set_self (by rw [List.length_set]; omega)
  refine pwp_skip ?_
  refine seq_norm (hK36 _ ?_); clear hK36 K36
  refine pwp_seq_block fun K38 hK38 => ?_
  refine pwp_seq_gops rfl fun K39 hK39 => ?_
  refine s_begin ?_
  refine s_e rfl (e_move (v := .ptr (30, gp) 10 0 5) rfl) ?_
  refine s_e rfl (e_nilc rfl) ?_
  refine s_e rfl (e_faQ [(0, 1, false), (1, 1, false)] rfl) ?_
  refine s_step [30] (by simp) rfl rfl rfl rfl (e_lH (v := .ref (26, gP) 2 0 (psOf af).length) rfl hn6.row rfl) trivial ?_
  refine s_e rfl (e_move (v := .ref _ _ _ _) rfl) ?_
  refine s_e rfl (e_move (v := .sc _) rfl) ?_
  refine s_e rfl (e_ixaR0 rfl rfl (by kernel_rfl) (by kernel_rfl) (by omega)) ?_
  refine s_step [16] (by simp) rfl rfl rfl rfl (e_loadI (a := ((byN bs z : Nat) : Int)) rfl hihj34_0 (by kernel_rfl) (by kernel_rfl) (by kernel_rfl) hbz) trivial ?_
  refine s_e rfl (e_ixaR0 rfl rfl (by kernel_rfl) (by kernel_rfl) (by omega)) ?_
  refine s_e rfl (e_faQ [(0, 1, false), (1, 1, false)] rfl) ?_
  refine s_step [26] (by simp) rfl rfl rfl rfl (e_loadH (v := .int (pR q (byN bs z))) rfl hgP2 (by kernel_rfl) (by kernel_rfl) (by kernel_rfl) (by rw [List.length_map]; omega) (by decide) ((cell_map hq1 _).trans rfl)) trivial ?_
  refine s_e rfl (e_move (v := .sc _) rfl) ?_
  refine s_e rfl (e_sub rfl rfl (by omega)) ?_
  refine s_e rfl (e_ixaR0 rfl rfl (by kernel_rfl) (by kernel_rfl) (by omega)) ?_
  refine s_e rfl (e_faQ [(0, 1, false), (1, 1, false)] rfl) ?_
  refine s_store [26] (by simp) rfl rfl (e_storeF (xs := psOf af2) (a := (⟨pT q (byN bs z), pR q (byN bs z)⟩ : Pipe)) (a' := { (⟨pT q (byN bs z), pR q (byN bs z)⟩ : Pipe) with room := pR q (byN bs z) - m }) rfl hgP2 rfl hq1 rfl (by kernel_rfl) (by kernel_rfl) rfl rfl) trivial ?_
  refine s_end (ds := []) (by kernel_rfl) (by kernel_rfl) (hK39 _ ?_); clear hK39 K39
  refine pwp_gops rfl fun K40 hK40 => ?_
  refine s_begin ?_
  refine s_e rfl (e_move (v := .ptr (30, gp) 10 0 5) rfl) ?_
  refine s_e rfl (e_nilc rfl) ?_
  refine s_e rfl (e_faQ [(0, 1, false), (1, 1, false)] rfl) ?_
  refine s_step [30] (by simp) rfl rfl rfl rfl (e_lH (v := .ref (26, gP) 2 0 (psOf af).length) rfl ((hset_ne (key_ne rfl)).trans hn6.row) rfl) trivial ?_
  refine s_e rfl (e_move (v := .ref _ _ _ _) rfl) ?_
  refine s_e rfl (e_move (v := .sc _) rfl) ?_
  refine s_e rfl (e_ixaR0 rfl rfl (by kernel_rfl) (by kernel_rfl) (by omega)) ?_
  refine s_step [16] (by simp) rfl rfl rfl rfl (e_loadI (a := ((byN bs z : Nat) : Int)) rfl ((hset_ne (key_ne rfl)).trans hihj34_0) (by kernel_rfl) (by kernel_rfl) (by kernel_rfl) hbz) trivial ?_
  refine s_e rfl (e_xor1 rfl rfl (by omega)) ?_
  refine s_e rfl (e_ixaR0 rfl rfl (by kernel_rfl) (by kernel_rfl) (by omega)) ?_
  refine s_e rfl (e_faQ [(0, 1, false), (1, 1, false)] rfl) ?_
  refine s_step [26] (by simp) rfl rfl rfl rfl (e_loadH (v := .int (pR q (opP (byN bs z)))) rfl (hset_self _ _ _) (by kernel_rfl) (by kernel_rfl) (by kernel_rfl) (by rw [List.length_map, List.length_set]; omega) (by decide) ((cell_map hq2 _).trans rfl)) trivial ?_
  refine s_e rfl (e_move (v := .sc _) rfl) ?_
  refine s_e rfl (e_adL rfl rfl (by omega)) ?_
  refine s_e rfl (e_ixaR0 rfl rfl (by kernel_rfl) (by kernel_rfl) (by omega)) ?_
  refine s_e rfl (e_faQ [(0, 1, false), (1, 1, false)] rfl) ?_
  refine s_store [26] (by simp) rfl rfl (e_storeF (xs := ((psOf af2).set ((byN bs z : Nat) : Int).toNat { (⟨pT q (byN bs z), pR q (byN bs z)⟩ : Pipe) with room := pR q (byN bs z) - m })) (a := (⟨pT q (opP (byN bs z)), pR q (opP (byN bs z))⟩ : Pipe)) (a' := { (⟨pT q (opP (byN bs z)), pR q (opP (byN bs z))⟩ : Pipe) with room := pR q (opP (byN bs z)) + m }) rfl (hset_self _ _ _) rfl hq2 rfl (by kernel_rfl) (by kernel_rfl) rfl rfl) trivial ?_
  refine s_end (ds := []) (by kernel_rfl) (by kernel_rfl) (hK40 _ ?_); clear hK40 K40
  refine block_norm ?_
  refine seq_norm (hK38 _ ?_); clear hK38 K38
  refine pwp_gops rfl fun K41 hK41 => ?_
  refine s_begin ?_
  refine s_e rfl (e_move (v := .ptr (30, gp) 10 0 5) rfl) ?_
  refine s_e rfl (e_nilc rfl) ?_
  refine s_e rfl (e_faQ [(0, 1, false), (1, 1, false)] rfl) ?_
  refine s_step [30] (by simp) rfl rfl rfl rfl (e_lH (v := .ref (26, gP) 2 0 (psOf af).length) rfl ((hset_ne (key_ne rfl)).trans ((hset_ne (key_ne rfl)).trans hn6.row)) rfl) trivial ?_
  refine s_e rfl (e_move (v := .ref _ _ _ _) rfl) ?_
  refine s_e rfl (e_move (v := .sc _) rfl) ?_
  refine s_e rfl (e_ixaR0 rfl rfl (by kernel_rfl) (by kernel_rfl) (by omega)) ?_
  refine s_step [16] (by simp) rfl rfl rfl rfl (e_loadI (a := ((byN bs z : Nat) : Int)) rfl ((hset_ne (key_ne rfl)).trans ((hset_ne (key_ne rfl)).trans hihj34_0)) (by kernel_rfl) (by kernel_rfl) (by kernel_rfl) hbz) trivial ?_
  refine s_e rfl (e_xor1 rfl rfl (by omega)) ?_
  refine s_e rfl (e_ixaR0 rfl rfl (by kernel_rfl) (by kernel_rfl) (by omega)) ?_
  refine s_e rfl (e_faQ [(0, 1, false), (1, 1, false)] rfl) ?_
  refine s_step [26] (by simp) rfl rfl rfl rfl (e_loadH (v := .int (pdP (psOf af) bs z)) rfl (hset_self _ _ _) (by kernel_rfl) (by kernel_rfl) (by kernel_rfl) (by rw [List.length_map, List.length_set, List.length_set]; omega) (by decide) ((cell_map hq3 _).trans (by rw [← hqf]; rfl))) trivial ?_
  refine s_e rfl (e_assign (v := .sc _) rfl) ?_
  refine s_end (ds := []) (by kernel_rfl) (by kernel_rfl) (hK41 _ ?_); clear hK41 K41
  exact loop_again ((j + 1, (pdP (psOf af) bs z), (af2.set (byN bs z / 2) (push q (byN bs z) m)))) (by show _ < _; simp only; exact hz6) ⟨rfl, rfl, rfl, rfl, rfl, rfl, trivial⟩ ⟨rfl, trivial⟩ (by exact ⟨by exact it_s hzj, by show _ + 1 ≤ _; omega, by exact hAug.step hB (by omega) (by omega) hmr2 hq, by rw [← ps_two hq, ← hset_two]; exact NetH.pips hn6 (by rw [List.length_set, List.length_set]), by exact OldP.pip (OldP.pip hO6), ((hset_ne (key_ne rfl)).trans ((hset_ne (key_ne rfl)).trans hihj34_0))⟩)
 have hb37R := hb37; try simp only [zz] at hb37
 have hzs2 : z = ndS t := by omega
 rw [hzs2] at hAug
 have hFn := hAug.flow hF rfl rfl
 have hna := hFn.all hT
 have hnb := hF.all hT
 have hac := allC_b hT
 refine pwp_exit ?_
 refine exit_seq ?_
 clear hK36 K36
 refine exit_loop ?_
 refine exit_here ?_
 refine seq_norm (hK29 _ ?_); clear hK29 K29
 refine pwp_plain rfl fun K42 hK42 => ?_
 refine p_mS rfl ?_
 refine p_mS rfl ?_
 refine p_e rfl (e_adL rfl rfl) ?_
 refine p_aS rfl ?_
 refine p_end (hK42 _ ?_); clear hK42 K42
 refine block_norm ?_
 exact loop_again ((af2, (n + m))) (by show _ < _; have h1 := hFn.all hT; simp only; omega) ⟨rfl, rfl, rfl, trivial⟩ ⟨rfl, trivial⟩ (by exact ⟨by exact hFn, by show 0 ≤ n + m; omega, by exact hn6, by exact hO6⟩)

end Go.Proofs.Ytigdmkhdmbbfiaa
