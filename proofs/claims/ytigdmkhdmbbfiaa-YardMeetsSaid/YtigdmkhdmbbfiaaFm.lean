import Derived.Test.YtigdmkhdmbbfiaaFl
set_option linter.unusedSimpArgs false
set_option linter.unusedVariables false
set_option maxRecDepth 100000
namespace Go.Proofs.Ytigdmkhdmbbfiaa
open Go Go.Pv
theorem vpg (vP : PV) : ∃ gP, ∀ g m, vP = .ref (26, g) 2 0 m → g = gP := by
 by_cases h : ∃ g m, vP = .ref (26, g) 2 0 m
 · obtain ⟨g0, m0, h0⟩ := h;exact ⟨g0, fun g m h1 => by rw [h0] at h1; cases h1; rfl⟩
 · exact ⟨0, fun g m h1 => absurd ⟨g, m, h1⟩ h⟩
section
variable {t : Traffic} {N : Nat} {h h' h0 : Heap} {gp gF gm gP b n d : Nat} {vP v : PV} {vs : List PV} {ps : List Pipe} {cs : Nat → List Int} {c0 c c' : Nat → Nat} {r : Nat → PV} {af : List (Arc × Int)} {q : Arc × Int} {j : Nat} {s : Int} {bs bs2 : List Int}
theorem OldS.pp (hO : OldS c0 h0 h c) (hP : OldP gP c h h' c') : OldS c0 h0 h' c' :=
 ⟨fun k h1 hk => (hP.1 k (Nat.lt_of_lt_of_le hk (hO.2 _)) (zKV h1 26 (by simp [siS]) _)).trans (hO.1 k h1 hk), fun x => Nat.le_trans (hO.2 x) (hP.2 x)⟩
theorem OldS.old (hO : OldS c0 h0 h c) (hN : Old c h h' c') : OldS c0 h0 h' c' :=
 ⟨fun k h1 hk => (hN.get (Nat.lt_of_lt_of_le hk (hO.2 _))).trans (hO.1 k h1 hk), fun x => Nat.le_trans (hO.2 x) (hN.mo x)⟩
theorem OldS.trans (hO : OldS c0 h0 h c) (hN : OldS c h h' c') : OldS c0 h0 h' c' :=
 ⟨fun k h1 hk => (hN.1 k h1 (Nat.lt_of_lt_of_le hk (hO.2 _))).trans (hO.1 k h1 hk), fun x => Nat.le_trans (hO.2 x) (hN.2 x)⟩
theorem OldS.app {u : PV} {m : Nat} (hO : OldS c0 h0 h c) (hu : ∀ g, u = .ref (d, g) m 0 n → c0 d ≤ g) (hf : ∀ k' : Key, k' ≠ (d, c d) → (∀ g, u = .ref (d, g) m 0 n → k' ≠ (d, g)) → h' k' = h k') (hc : ∀ x, c x ≤ c' x) : OldS c0 h0 h' c' :=
 ⟨fun k h1 hk => (hf k (fun e => by rw [e] at hk; exact absurd (Nat.lt_of_lt_of_le hk (hO.2 d)) (Nat.lt_irrefl _)) (fun g hg e => by rw [e] at hk; exact absurd (Nat.lt_of_lt_of_le hk (hu g hg)) (Nat.lt_irrefl _))).trans (hO.1 k h1 hk), fun x => Nat.le_trans (hO.2 x) (hc x)⟩
theorem sl_old {sz : Nat} {rows : Pv.Rows} (hk : Known ⟨r, h, c⟩) (hO : OldS c h h' c') (hd : inS siS d = false) (hs : zAE h d v sz rows) : zAE h' d v sz rows := by
 rcases hs with h1 | ⟨g, h1, h2⟩
 · exact .inl h1
 · exact .inr ⟨g, h1, (hO.1 (d, g) hd (hk (d, g) _ h2)).trans h2⟩
theorem zJM (hq : af[j]? = some q) : zBz (af.take (j + 1)) = zBz (af.take j) ++ (trO q).toList := by
 rw [zLu hq, zBz, zBz, List.filterMap_append];congr 1
theorem tr_some {z : Int × Int} (h : q.1.tg = some z) (h0 : 0 < q.2) : trO q = some ⟨z.1, z.2, q.2⟩ := by rw [trO, h]; exact if_pos h0
theorem tr_none1 (h : q.1.tg = none) : trO q = none := by rw [trO, h]
theorem zIj (h0 : ¬ 0 < q.2) : trO q = none := by
 rw [trO]; cases q.1.tg with
 | none => rfl
 | some z => exact if_neg h0
theorem trm_at {m : List (Int × Trip)} (hM : TrM (arcs t) m) (har : af.map (·.1) = arcs t) (hq : af[j]? = some q) : aGet ((2 * j : Nat) : Int) m = q.1.tg.map fun z => (⟨z.1, z.2, 0⟩ : Trip) := by
 rw [hM j, ← har, List.getElem?_map, hq]; rfl
theorem trN {k : Int} {m : List (Int × Trip)} (htm : aGet k m = q.1.tg.map fun z => (⟨z.1, z.2, 0⟩ : Trip)) (h : (aGet k m).isSome = false) : trO q = none := by
 rw [htm] at h;cases hz : q.1.tg with
 | none => exact tr_none1 hz
 | some z => rw [hz] at h; cases h
theorem trS {k : Int} {m : List (Int × Trip)} (htm : aGet k m = q.1.tg.map fun z => (⟨z.1, z.2, 0⟩ : Trip)) (h : (aGet k m).isSome = true) (h0 : 0 < q.2) : trO q = some { ((aGet k m).getD ⟨0, 0, 0⟩) with count := q.2 } := by
 rw [htm] at h ⊢;cases hz : q.1.tg with
 | none => rw [hz] at h; cases h
 | some z => rw [tr_some hz h0]; rfl
theorem Rch.same (h1 : Rch ps N s bs) (h2 : Rch ps N s bs2) (hop : ∀ k, k < ps.length → opP k < ps.length) {v : Int} (h0 : 0 ≤ v) (hN : v < (N : Int)) (hv : bs2.getD v.toNat 0 ≠ -1) : bs.getD v.toNat 0 ≠ -1 := by
 obtain ⟨ord, hB⟩ := h1.ex;obtain ⟨ord2, hB2⟩ := h2.ex
 have main : ∀ n, ∀ v ∈ ord2, ord2.idxOf v ≤ n → bs.getD v.toNat 0 ≠ -1 := fun n => by
   induction n with
   | zero =>
     intro v hv hn;by_cases e : v = s
     · subst e; rw [hB.s2]; decide
     · obtain ⟨_, _, _, _, _, h6⟩ := hB2.pred hv e; omega
   | succ n ih =>
     intro v hv hn;by_cases e : v = s
     · subst e; rw [hB.s2]; decide
     · obtain ⟨k1, k2, k3, k4, k5, k6⟩ := hB2.pred hv e;have h7 := ih _ k5 (by omega);have h8 := h1.cl (byN bs2 v) k1 h7 k4
       rwa [k3] at h8
 exact main _ v ((hB2.mem v h0 hN).1 hv) (Nat.le_refl _)
end
def MeetR (t : Traffic) (h0 : Heap) (c0 : Nat → Nat) (v : PV) (h : Heap) (c : Nat → Nat) : Prop :=
 OldS c0 h0 h c ∧ ((trafE t ≠ 0 ∧ v = .tup [.nil, .int 0, .int (trafE t)]) ∨ (trafE t = 0 ∧ ∃ u l n, v = .tup [u, .int n, .int 0] ∧ zAE h 78 u 3 (l.map Trip.enc) ∧ l.length ≤ 2000 ∧ tripE t l = (n, 0) ∧ ∃ k, cutV t k = (n, 0)))
def CutR (t : Traffic) (h0 : Heap) (c0 : Nat → Nat) (v : PV) (h : Heap) (c : Nat → Nat) : Prop :=
 OldS c0 h0 h c ∧ ((trafE t ≠ 0 ∧ v = .tup [.nil, .int 0, .int (trafE t)]) ∨ (trafE t = 0 ∧ ∃ u k n, v = .tup [u, .int n, .int 0] ∧ zAE h 62 u 2 (k.map At.enc) ∧ k.length ≤ 160 ∧ cutV t k = (n, 0) ∧ ∃ l, tripE t l = (n, 0)))
theorem frH53 : (zAK Try.f53.ntmps (Try.f53.body.getD .skip) && Try.f53.results.toList.all (zAL Try.f53.ntmps)) = true := by kernel_rfl
theorem meetH (t : Traffic) (hl1 : t.routes.length ≤ 9223372036854775807) (hl2 : t.supplies.length ≤ 9223372036854775807) (hl3 : t.needs.length ≤ 9223372036854775807) (h0 : Heap) (c0 : Nat → Nat) : zAA Try.prog 53 [.agg t.enc] h0 c0 (MeetR t h0 c0) := by
 refine zAA.of_code Try.func53 rfl rfl (by kernel_rfl) mixed frH53 (by show _ ≤ 81; simp) (zAa rfl fun K1 hK1 => p_new rfl (e_box (n := 5) rfl rfl) ⟨rfl, by decide⟩ (p_e rfl (zAt (v := .nil) rfl) (p_aS rfl (p_aS rfl (p_end (hK1 _ ?_)))))); clear hK1 K1;refine zAf (zAa rfl fun K2 hK2 => p_e rfl (e_lA (cs := Traffic.enc (t)) (n := 5) rfl (zAd _ _ _)) (zCo rfl (.cons (zCu (Traffic.pure _)) .nil) (zC1 t (by omega) (by omega) (by omega)) (p_aS rfl (p_end (hK2 _ ?_))))); clear hK2 K2;refine zAf (zAa rfl fun K3 hK3 => p_mS rfl (p_e rfl (e_ne rfl rfl) (p_end (hK3 _ ?_)))); clear hK3 K3;refine zAg rfl fun K4 hK4 => ⟨fun hb5 => ?_, fun hb5 => ?_⟩
 ·have hb5R := hb5; try simp only [zz] at hb5
  refine zAa rfl fun K6 hK6 => p_mS rfl (p_e rfl (zAt (v := .nil) rfl) (p_aS rfl (p_aS rfl (p_end (hK6 _ ?_))))); clear hK6 K6;refine zAr (zAo (end3 (v := .nil) (w := .sc _) (x := .sc _) rfl rfl rfl ?_));exact ⟨OldS.new (d := 1) OldS.refl, .inl ⟨by omega, rfl⟩⟩
 have hb5R := hb5; try simp only [zz] at hb5
 refine zAk (zAh (hK4 _ ?_)); clear hK4 K4;have htz : trafE t = 0 := by omega
 have hT := zDf htz;have q1 := hT.hA;have q2 := hT.hB;have q3 := hT.hr;have q4 := hT.hs;have q5 := hT.hn;have hEd : ndE t = ndS t + 1 := rfl;have hS0 : 0 ≤ ndS t := Int.mul_nonneg (by omega) (by omega);have hS1 : ndS t ≤ 8 * 20 := Int.mul_le_mul (by omega) (by omega) (by omega) (by omega);have hNN : ((NN t : Nat) : Int) = ndS t + 2 := by rw [NN]; omega
 have hal := zHj hT;refine zBm rfl fun hkn K7 hK7 => p_e rfl (e_lA (n := 5) (cs := t.enc) rfl (zAd _ _ _)) (zDI rfl (planH t hT _ _) fun v18 h18 c18 hR18 => ?_);obtain ⟨gp, gF, gm, m, rfl, hNA, hM, hTM, hO⟩ := hR18;obtain ⟨vP0, vs0, hn0⟩ := hNA;have hOs := (OldS.new (d := 1) OldS.refl).trans hO;have hbx := (hO.1 (1, c0 1) rfl (hkn (1, c0 1) _ (zAd _ _ _))).trans (zAd _ _ _);refine p_e rfl (zAt (v := .ptr _ _ _ _) rfl) (p_end (hK7 _ ?_)); clear hK7 K7;refine zCs rfl fun hkn K8 hK8 => ?_;obtain ⟨gP, hvg⟩ := vpg vP0;refine zA1 (s_e rfl (zAi (v := .ptr (30, gp) 10 0 0) rfl) (s_e rfl (zBs rfl) (s_e rfl (e_faQ [(0, 5, true), (5, 2, true), (7, 1, false), (8, 1, false), (9, 1, false)] rfl) (s_e rfl (zAi (v := .ptr (30, gp) 10 0 0) rfl) (s_e rfl (zBs rfl) (s_e rfl (e_faQ [(0, 5, true), (5, 2, true), (7, 1, false), (8, 1, false), (9, 1, false)] rfl) (s_eR [30] rfl (e_lH (v := .int (ndS t)) rfl hn0.row rfl) ?_)))))));refine s_e rfl (zAi (v := .ptr (30, gp) 10 0 0) rfl) (s_e rfl (zBs rfl) (s_e rfl (e_faQ [(0, 5, true), (5, 2, true), (7, 1, false), (8, 1, false), (9, 1, false)] rfl) (s_eR [30] rfl (e_lH (v := .int (ndE t)) rfl hn0.row rfl) (zGk (by kernel_rfl) rfl rfl rfl rfl (zL4 t hT gp gF gm gP vP0 vs0 _ rfl hvg _ _ hn0) fun v30 h30 c30 hR30 => ?_))));obtain ⟨af, n, bs, rfl, hNX, hF, hR, hbe, hOP⟩ := hR30;obtain ⟨vP, vs, hn⟩ := hNX;have hO2 := hOs.pp hOP;have hM2 : MapAt h30 (28, gm) (zAQ iV trV m) := by obtain ⟨b1, b2, b3, b4⟩ := hM; exact ⟨b1, b2, (hOP.1 (28, gm) (hkn (28, gm) _ b3) (zAc rfl)).trans b3, b4⟩
 have hbx2 := (hOP.1 (1, c0 1) (hkn (1, c0 1) _ hbx) (zAc rfl)).trans hbx;have hcut := hR.cut hT hF (by omega) rfl hbe;have htrp := hF.trips hT ⟨_, hcut⟩;have hafl : af.length = (arcs t).length := by have h2 := congrArg List.length hF.ar; rwa [lM] at h2
 refine s_e rfl (zAt (v := .sc _) rfl) (s_end (ds := []) (by kernel_rfl) (by kernel_rfl) (hK8 _ ?_)); clear hK8 K8;refine zAa rfl fun K9 hK9 => p_e rfl (zAt (v := .nil) rfl) (p_end (hK9 _ ?_)); clear hK9 K9;refine zAf (zAa rfl fun K10 hK10 => p_aS rfl (p_end (hK10 _ ?_))); clear hK10 K10;refine zAe fun K11 hK11 => zAw (α := Nat × (List Trip) × PV) [6, 7] (fun (a12 : Nat × (List Trip) × PV) => [(8, (a12.2.2)), (9, .int ((2 * (a12.1) : Nat) : Int))]) (fun (a12 : Nat × (List Trip) × PV) (h : Heap) (c : Nat → Nat) => ((a12.1) ≤ af.length) ∧ ((a12.2.1) = zBz (af.take (a12.1))) ∧ (NetH t (NN t) h gp gF gm vP vs (psOf af) (adjF (arcs t)) (2 * (arcs t).length)) ∧ (MapAt h (28, gm) (zAQ iV trV m)) ∧ (OldS c0 h0 h c) ∧ (∀ g, (a12.2.2) = .ref (78, g) 3 0 ((a12.2.1).map Trip.enc).length → c0 78 ≤ g) ∧ (zAE h 78 (a12.2.2) 3 ((a12.2.1).map Trip.enc))) (fun (a12 : Nat × (List Trip) × PV) => af.length - (a12.1)) (0, [], .nil) (by exact ⟨rfl, rfl, trivial⟩) (by exact ⟨by exact Nat.zero_le _, by exact rfl, by exact hn, by exact hM2, by exact hO2, by exact fun g hg => (by cases hg), .nil⟩) fun a12 r13 h14 c15 hj16 => ?_;obtain ⟨j, l, v⟩ := a12;obtain ⟨hj, hl, hn, hM2, hO2, hvo, hsl⟩ := hj16;try dsimp only at hj
 try dsimp only at hl
 try dsimp only at hn
 try dsimp only at hM2
 try dsimp only at hO2
 try dsimp only at hvo
 try dsimp only at hsl
 show pwp _ _ (loopQ _ _ _) ⟨sets (mix _ _ _) [(8, v), (9, .int ((2 * j : Nat) : Int))], _, _⟩;refine zAf (zAa rfl fun K17 hK17 => p_e rfl (zAi (v := .sc _) rfl) (p_e rfl (zAi (v := .ptr (30, gp) 10 0 0) rfl) (p_e rfl (zBs rfl) (p_e rfl (e_faQ [(0, 5, true), (5, 2, true), (7, 1, false), (8, 1, false), (9, 1, false)] rfl) (p_e rfl (e_faQ [(0, 1, false), (1, 1, false)] rfl) (p_e rfl (e_lH (v := vP) rfl hn.row rfl) ?_))))));refine p_e rfl (zAE.len hn.pip rfl (by kernel_rfl)) (p_e rfl (e_lt rfl rfl) (p_end (hK17 _ ?_))); clear hK17 K17;refine zAg rfl fun K18 hK18 => ⟨fun hb19 => ?_, fun hb19 => ?_⟩
 ·have hb19R := hb19; try simp only [zz] at hb19
  have hpl := zBk (af := af);have hjl : j < af.length := by omega
  obtain ⟨q, hq⟩ : ∃ q, af[j]? = some q := ⟨_, List.getElem?_eq_getElem hjl⟩
  have htm := trm_at hTM hF.ar hq;obtain ⟨gP2, hvP, hgP2⟩ := zAE.isRef hn.pip (by intro y; have := congrArg List.length y; rw [lM, List.length_nil] at this; omega);rw [lM] at hvP;subst hvP;have hq1 : (psOf af)[(((2 * j : Nat) : Int) + 1).toNat]? = some ⟨q.1.a, q.2⟩ := by have h1 := zGr (k := 2 * j + 1) (q := q) (by rw [show (2 * j + 1) / 2 = j by omega]; exact hq); rw [show (((2 * j : Nat) : Int) + 1).toNat = 2 * j + 1 by omega, h1, pT, pR, if_neg (by omega), if_neg (by omega)]
  have hqc := hF.cap q (List.mem_of_getElem? hq);have hll : l.length ≤ af.length := by rw [hl]; exact Nat.le_trans zGL (by rw [List.length_take]; omega)
  refine zAk (zAh (hK18 _ ?_)); clear hK18 K18;refine zAe fun K20 hK20 => zAa rfl fun K21 hK21 => p_e rfl (zAi (v := .ptr (30, gp) 10 0 0) rfl) (p_e rfl (zBs rfl) (p_e rfl (e_faQ [(0, 5, true), (5, 2, true), (7, 1, false), (8, 1, false), (9, 1, false)] rfl) (p_e rfl (e_lH (v := .map (28, gm)) rfl hn.row rfl) (p_e rfl (zAi (v := .sc _) rfl) (p_e rfl (e_lookOk (kt := 3) (et := 146) (f := iV) (g := trV) (a := ((2 * j : Nat) : Int)) (l := m) (z := ⟨0, 0, 0⟩) iV_eq iV_ok rfl rfl hM2 (by kernel_rfl) (by kernel_rfl) (by first | rfl | kernel_rfl)) ?_)))));refine p_e rfl (zAi (v := .tup [trV ((aGet ((2 * j : Nat) : Int) m).getD ⟨0, 0, 0⟩), .bool (aGet ((2 * j : Nat) : Int) m).isSome]) rfl) (p_e rfl (e_ext (v := .agg (Trip.enc ((aGet ((2 * j : Nat) : Int) m).getD ⟨0, 0, 0⟩))) rfl (by simp) rfl) (p_e rfl (e_ext (v := .sc _) rfl (by simp) rfl) (p_new rfl (zB1 (cs := [.int 0, .int 0, .int 0]) (n := 3) (by kernel_rfl) rfl (by decide)) (zBp (by decide)) (zBn rfl (zBr rfl (zAd _ _ _) rfl rfl rfl (by kernel_rfl) rfl (by kernel_rfl)) trivial (p_e rfl (zAt (v := .sc _) rfl) (p_end (hK21 _ ?_))))))); clear hK21 K21;refine zAs rfl fun K22 hK22 => zBt (g_mS rfl rfl (g_mS rfl rfl ?_));refine zAT (fun hb23 => ?_) (fun hb23 => ?_)
  ·have hb23R := hb23; try simp only [zz] at hb23
   refine g_e rfl (zAi (v := .ptr (30, gp) 10 0 0) rfl) (g_e rfl (zBs rfl) (g_e rfl (e_faQ [(0, 5, true), (5, 2, true), (7, 1, false), (8, 1, false), (9, 1, false)] rfl) (g_e rfl (e_faQ [(0, 1, false), (1, 1, false)] rfl) (g_e rfl (e_lH (v := .ref (26, gP2) 2 0 (psOf af).length) rfl (hzM rfl (hzM rfl hn.row)) rfl) (g_mS rfl rfl (g_e rfl (e_adL rfl rfl) (g_e rfl (e_ixR rfl rfl) ?_)))))));refine g_e rfl (e_faQ [(0, 1, false), (1, 1, false)] rfl) (g_e rfl (zBw (v := .int q.2) rfl (hzM rfl (hzM rfl hgP2)) (by kernel_rfl) (by kernel_rfl) (by kernel_rfl) (by rw [lM]; omega) (by decide) ((zAz hq1 _).trans rfl)) (g_e rfl (e_gt rfl rfl) (g_pT rfl rfl rfl (g_end (ds := [52, 53, 54, 55, 56, 57, 58, 59, 60, 61, 62]) rfl rfl (hK22 _ ?_))))); clear hK22 K22;refine zAR rfl (fun hb24 => ?_) (fun hb24 => ?_)
   ·have hb24R := hb24; try simp only [zz] at hb24
    refine zAa rfl fun K25 hK25 => p_e rfl (zAi (v := .ptr (30, gp) 10 0 0) rfl) (p_e rfl (zBs rfl) (p_e rfl (e_faQ [(0, 5, true), (5, 2, true), (7, 1, false), (8, 1, false), (9, 1, false)] rfl) (p_e rfl (e_faQ [(0, 1, false), (1, 1, false)] rfl) (p_e rfl (e_lH (v := .ref (26, gP2) 2 0 (psOf af).length) rfl (hzM rfl (hzM rfl hn.row)) rfl) (p_mS rfl (p_e rfl (e_adL rfl rfl) ?_))))));refine p_e rfl (e_ixR rfl rfl) (p_e rfl (e_faQ [(0, 1, false), (1, 1, false)] rfl) (p_e rfl (zBw (v := .int q.2) rfl (hzM rfl (hzM rfl hgP2)) (by kernel_rfl) (by kernel_rfl) (by kernel_rfl) (by rw [lM]; omega) (by decide) ((zAz hq1 _).trans rfl)) (p_e rfl (e_faQ pl3 rfl) (zBn rfl (zIB rfl (zAd _ _ _) rfl rfl rfl (by decide) (by kernel_rfl) rfl (by kernel_rfl)) trivial (p_end (hK25 _ ?_)))))); clear hK25 K25;refine zCt rfl fun hkn K26 hK26 => p_e rfl (zAi (v := v) rfl) (p_e rfl (e_lA (n := 3) (cs := Trip.enc ({ ((aGet ((2 * j : Nat) : Int) m).getD ⟨0, 0, 0⟩) with count := q.2 })) rfl (zAd _ _ _)) (p_new rfl (zBN (rows := [Trip.enc ({ ((aGet ((2 * j : Nat) : Int) m).getD ⟨0, 0, 0⟩) with count := q.2 })]) (zs := [.int 0, .int 0, .int 0]) (sz := 3) (by kernel_rfl) (by kernel_rfl) rfl (by kernel_rfl) (by decide) rfl rfl (by exact ⟨by decide, rfl, rfl, trivial⟩) rfl) trivial ?_));have hs8 := hsl;refine zHJ (d1 := 78) (rows2 := [Trip.enc ({ ((aGet ((2 * j : Nat) : Int) m).getD ⟨0, 0, 0⟩) with count := q.2 })]) rfl rfl rfl (hsl.keep fun g => hzM rfl (hzM rfl (hzM rfl (zAb (zAc rfl))))) (zDD (zAd _ _ _) rfl) (by kernel_rfl) (by simp only [lM, List.length_cons, List.length_nil]; omega) (by simp) fun hp hrp hfp => p_e rfl (zAt (v := .ref _ _ _ _) rfl) (p_end (hK26 _ ?_)); clear hK26 K26;have hsp : zAE hp 78 (.ref (78, _) 3 0 ((l.map Trip.enc).length + [Trip.enc ({ ((aGet ((2 * j : Nat) : Int) m).getD ⟨0, 0, 0⟩) with count := q.2 })].length)) 3 ((l ++ [{ ((aGet ((2 * j : Nat) : Int) m).getD ⟨0, 0, 0⟩) with count := q.2 }]).map Trip.enc) := .inr ⟨_, by rw [lM, List.map_append, List.length_append, lM]; rfl, by rw [List.map_append]; exact hrp⟩;refine zAl (zAh (hK20 _ ?_)); clear hK20 K20;refine zAp rfl fun K27 hK27 => p_mS rfl (p_e rfl (e_adL rfl rfl) (p_aS rfl (p_end (hK27 _ ?_)))); clear hK27 K27;exact zAm ((j + 1, (l ++ [{ ((aGet ((2 * j : Nat) : Int) m).getD ⟨0, 0, 0⟩) with count := q.2 }]), (.ref (78, _) 3 0 ((l.map Trip.enc).length + [Trip.enc ({ ((aGet ((2 * j : Nat) : Int) m).getD ⟨0, 0, 0⟩) with count := q.2 })].length)))) (by show _ < _; simp only; omega) ⟨rfl, rfl, trivial⟩ ⟨rfl, rfl, trivial⟩ (by exact ⟨by show _ + 1 ≤ _; omega, by rw [zJM hq, hl]; first | (rw [zIj (by omega)]; exact (List.append_nil _).symm) | (rw [trN htm (by assumption)]; exact (List.append_nil _).symm) | (rw [trS htm (by assumption) (by omega)]; rfl), by exact NetH.keep hn ((hfp (30, gp) (zAc rfl) (fun _ _ => zAc rfl)).trans (hzM rfl (hzM rfl (hzM rfl (zAb (zAc rfl)))))) (fun g => (hfp (26, g) (zAc rfl) (fun _ _ => zAc rfl)).trans (hzM rfl (hzM rfl (hzM rfl (zAb (zAc rfl)))))) ((hfp (23, gF) (zAc rfl) (fun _ _ => zAc rfl)).trans (hzM rfl (hzM rfl (hzM rfl (zAb (zAc rfl)))))) (fun g => (hfp (48, g) (zAc rfl) (fun _ _ => zAc rfl)).trans (hzM rfl (hzM rfl (hzM rfl (zAb (zAc rfl)))))) (fun g => (hfp (59, g) (zAc rfl) (fun _ _ => zAc rfl)).trans (hzM rfl (hzM rfl (hzM rfl (zAb (zAc rfl)))))), by exact MapAt.keep hM2 ((hfp (28, gm) (zAc rfl) (fun _ _ => zAc rfl)).trans (hzM rfl (hzM rfl (hzM rfl (zAb (zAc rfl)))))), by exact OldS.app (d := 78) (OldS.new (d := 77) (OldS.upd (OldS.upd (OldS.new (d := 10) hO2) (hO2.2 10)) (hO2.2 10))) (by exact hvo) (by exact hfp) (zBJ _ 78), by exact fun g_ hg_ => (by have e1 := (Prod.mk.inj (PV.ref.inj hg_).1).2; rw [← e1]; exact Nat.le_trans (hO2.2 78) (Nat.le_trans (zBJ _ 10 78) (zBJ _ 77 78))), (zAE.to hsp (by simp))⟩)
   have hb24R := hb24; try simp only [zz] at hb24
   refine zAk (zAl (zAh (hK20 _ ?_))); clear hK20 K20;refine zAp rfl fun K28 hK28 => p_mS rfl (p_e rfl (e_adL rfl rfl) (p_aS rfl (p_end (hK28 _ ?_)))); clear hK28 K28;exact zAm ((j + 1, l, v)) (by show _ < _; simp only; omega) ⟨rfl, rfl, trivial⟩ ⟨rfl, rfl, trivial⟩ (by exact ⟨by show _ + 1 ≤ _; omega, by rw [zJM hq, hl]; first | (rw [zIj (by omega)]; exact (List.append_nil _).symm) | (rw [trN htm (by assumption)]; exact (List.append_nil _).symm) | (rw [trS htm (by assumption) (by omega)]; rfl), by exact NetH.set (NetH.set hn rfl rfl rfl rfl rfl) rfl rfl rfl rfl rfl, by exact MapAt.keep hM2 (hzM rfl (zAb (zAc rfl))), by exact OldS.upd (OldS.new (d := 10) hO2) (hO2.2 10), by exact hvo, (zAE.to (hsl.keep fun _ => hzM rfl (hzM rfl (rfl))) (by simp))⟩)
  have hb23R := hb23; try simp only [zz] at hb23
  iterate 11 refine zAD rfl rfl rfl ?_
  refine g_pF rfl rfl rfl (g_end (ds := [52, 53, 54, 55, 56, 57, 58, 59, 60, 61, 62]) rfl rfl (hK22 _ ?_)); clear hK22 K22;refine zAR (t := false) rfl nofun (fun _ => ?_);refine zAk (zAl (zAh (hK20 _ ?_))); clear hK20 K20;refine zAp rfl fun K29 hK29 => p_mS rfl (p_e rfl (e_adL rfl rfl) (p_aS rfl (p_end (hK29 _ ?_)))); clear hK29 K29;exact zAm ((j + 1, l, v)) (by show _ < _; simp only; omega) ⟨rfl, rfl, trivial⟩ ⟨rfl, rfl, trivial⟩ (by exact ⟨by show _ + 1 ≤ _; omega, by rw [zJM hq, hl]; first | (rw [zIj (by omega)]; exact (List.append_nil _).symm) | (rw [trN htm (by assumption)]; exact (List.append_nil _).symm) | (rw [trS htm (by assumption) (by omega)]; rfl), by exact NetH.set (NetH.set hn rfl rfl rfl rfl rfl) rfl rfl rfl rfl rfl, by exact MapAt.keep hM2 (hzM rfl (zAb (zAc rfl))), by exact OldS.upd (OldS.new (d := 10) hO2) (hO2.2 10), by exact hvo, (zAE.to (hsl.keep fun _ => hzM rfl (hzM rfl (rfl))) (by simp))⟩)
 have hb19R := hb19; try simp only [zz] at hb19
 have hpl := zBk (af := af);have hje : j = af.length := by omega
 rw [hje, List.take_length] at hl;refine zAF (zAG ?_);clear hK18 K18;refine zAx (zAy (zAh (hK11 _ ?_))); clear hK11 K11;refine zAa rfl fun K30 hK30 => p_e rfl (zAi (v := _) rfl) (p_mS rfl (p_e rfl (zAt (v := _) rfl) (p_aS rfl (p_aS rfl (p_end (hK30 _ ?_)))))); clear hK30 K30;refine zAr (end3 (v := _) (w := .sc _) (x := .sc _) rfl rfl rfl ?_);refine ⟨hO2, .inr ⟨htz, _, l, n, rfl, hsl, ?_, ?_, _, hcut⟩⟩
 ·rw [hl]; have := zGL (af := af); omega
 rw [hl]; exact htrp
end Go.Proofs.Ytigdmkhdmbbfiaa
