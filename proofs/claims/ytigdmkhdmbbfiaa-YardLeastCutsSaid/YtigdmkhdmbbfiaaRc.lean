/- Which nodes are reached, as the program tells it. No conditions. -/
import Derived.Test.YtigdmkhdmbbfiaaRp
import Derived.Test.YtigdmkhdmbbfiaaFj
import Derived.Test.YtigdmkhdmbbfiaaTb1
set_option linter.unusedSimpArgs false
set_option linter.unusedVariables false
set_option maxRecDepth 100000
namespace Go.Proofs.Ytigdmkhdmbbfiaa
open Go Go.Pv
/-! ### A queue: an own slice from a place on -/
section
variable {P : Program} {ρ : Operand → PV} {h : Heap} {key : Key} {x y : Operand} {t : TypeId}
theorem e_ixaO {k : Key} {off len : Nat} {i : Int} (hx : ρ x = .ref k 1 off len) (hy : ρ y = .int i) (ht : sliceOk P t = true) (hs : tySize P (elemTy P t) = 1) (hi : 0 ≤ i ∧ i < len) : eff P ρ h key (.indexAddr t x y) = ⟨True, .ptr k 1 (off + i.toNat) 0, [], [], false⟩ := by
 simp only [eff, hx, hy, indexAddrEff, ht, hs]; simp [hi]
theorem e_cut1 {k : Key} {off len : Nat} (hx : ρ x = .ref k 1 off len) (hy : ρ y = .int 1) (hn : 1 ≤ len) (ht : sliceOk P t = true) (hz : tySize P (elemTy P t) = 1) :
   eff P ρ h key (.slice t x (some y) none none) = ⟨True, .ref k 1 (off + 1) (len - 1), [], [], false⟩ := by
 simp only [eff, Option.map_none, Option.map_some, hx, hy, sliceEff, bound, ht, hz]; simp; omega
end
/-- Something is appended to an own slice from a place on. -/
theorem p_appO {P : Program} {K : PS → Prop} {d : Nat} {ty t : TypeId} {pos : String} {aft : Array Edge} {gd : Option (Nat × Bool)} {rest : List Oper} {r : Nat → PV} {h : Heap} {cnt : Nat → Nat} {x y : Operand} {ts : Array TypeId} {t2 : TypeId} {k k2 : Key} {sz off len n2 m : Nat} {rs rows2 : Pv.Rows} (hm : len + n2 = m) (hts : ts.toList = [t, t2]) (hx : ev r x = .ref k sz off len) (hy : ev r y = .ref k2 sz 0 n2) (hk : h k = some (.rows sz rs)) (hk2 : h k2 = some (.rows sz rows2)) (hn2 : rows2.length = n2)
   (hok : (sliceOk P t && (decide (P.bytesOf (elemTy P t) < 2 ^ 15) && (decide (intKind P t2 = none) && (zeroOk P (elemTy P t) && ((P.underlying t2).isSome && decide (tySize P (elemTy P t) = sz)))))) = true) (hl : off + len ≤ rs.length) (hlen : len + n2 < 2 ^ 32)
   (hK : pOps P K rest ⟨setT r d (.ref (d, cnt d) sz 0 m), hset (hset h k none) (d, cnt d) (some (.rows sz ((rs.drop off).take len ++ rows2))), cset cnt d⟩) :
   pOps P K (⟨some d, .call { callee := .builtin .append, args := #[x, y], argTypes := ts }, ty, pos, aft, gd⟩ :: rest) ⟨r, h, cnt⟩ := by
 subst hm
 simp only [Bool.and_eq_true, decide_eq_true_eq] at hok
 obtain ⟨o1, o2, o3, o4, o5, o6⟩ := hok
 subst o6
 have he : eff P (ev r) h (d, cnt d) (.call { callee := .builtin .append, args := #[x, y], argTypes := ts }) = appendEff P h (d, cnt d) t t2 (.ref k (tySize P (elemTy P t)) off len) (.ref k2 (tySize P (elemTy P t)) 0 n2) := by
   show builtinEff P h (d, cnt d) .append ts.toList [ev r x, ev r y] = _
   rw [hts, hx, hy]; rfl
 have hsr := src_ref (n2 := n2) hk2 hn2
 unfold appendEff at he
 simp only [hk, hsr.2, hn2] at he
 exact p_renew rfl he ⟨⟨o1, o2, o3, o4, o5⟩, hsr.1, trivial, hl, hlen⟩ hK
theorem HCallsR.new1 {P : Program} {f : FuncId} {args as' : List PV} {h : Heap} {cnt : Nat → Nat} {sz N : Nat} {rows : Pv.Rows} (site : Nat) (hc : PNew P f as' sz rows) (ha : Inns h args as') (hN : rows.length = N) :
   HCallsR P f args h cnt fun v h' cnt' => v = .ref (site, cnt site) sz 0 N ∧ h' = hset h (site, cnt site) (some (.rows sz rows)) ∧ cnt' = cset cnt site := by
 subst hN
 exact HCallsR.mono (HCallsR.of_new site hc ha) fun v h' c' q => ⟨q.1, q.2.1, q.2.2⟩
/-- What is done of the pipes of a node. -/
def Cl2 (ps : List Pipe) (l : List Int) (i : Nat) (bs : List Int) : Prop := ∀ j, j < i → ∀ k, l[j]? = some k → 0 < roomP ps k.toNat → bs.getD (tilP ps k.toNat).toNat 0 ≠ -1
section
variable {ps : List Pipe} {l bs done : List Int} {fs : List (List Int)} {i N : Nat} {u w k : Int} {p : Pipe}
theorem cl2_0 : Cl2 ps l 0 bs := fun j hj => absurd hj (Nat.not_lt_zero _)
theorem cl2_s (h : Cl2 ps l i bs) (hk : l[i]? = some k) (h1 : 0 < roomP ps k.toNat → bs.getD (tilP ps k.toNat).toNat 0 ≠ -1) : Cl2 ps l (i + 1) bs := fun j hj k' hk' => by
 by_cases e : j = i
 · subst e; rw [hk] at hk'; cases hk'; exact h1
 · exact h j (by omega) k' hk'
theorem cl2_m {kn : Nat} (h : Cl2 ps l i bs) (hw : w.toNat < bs.length) : Cl2 ps l i (bs.set w.toNat (kn : Int)) := fun j hj k' hk' hr => by
 rw [getD_set hw]
 split
 · omega
 · exact h j hj k' hk' hr
theorem cl2_end (h : Cl2 ps l i bs) (hc : ClOK ps fs bs done) (hl : fs.getD u.toNat [] = l) (hi : l.length ≤ i) : ClOK ps fs bs (done ++ [u]) := fun u' hu' k' hk' hr => by
 rcases List.mem_append.1 hu' with hu' | hu'
 · exact hc u' hu' k' hk' hr
 · simp at hu'; subst hu'
   rw [hl] at hk'
   obtain ⟨j, hj⟩ := List.mem_iff_getElem?.1 hk'
   have := (List.getElem?_eq_some_iff.1 hj).1
   exact h j (by omega) k' hj hr
end
theorem qd {rs : List Int} {off : Nat} {u : Int} {qt : List Int} (h : (rs.drop off).take (qt.length + 1) = u :: qt) : rs[off]? = some u := by
 have h1 : ((rs.drop off).take (qt.length + 1))[0]? = some u := by rw [h]; rfl
 rw [List.getElem?_take_of_lt (by omega), List.getElem?_drop] at h1
 simpa using h1
theorem qt_s {rs : List Int} {off n : Nat} {u : Int} {qt : List Int} (hn : n = qt.length + 1) (h : (rs.drop off).take n = u :: qt) : (rs.drop (off + 1)).take (n - 1) = qt := by
 subst hn
 have h2 : ((rs.drop off).take (qt.length + 1)).tail = (rs.drop (off + 1)).take (qt.length + 1 - 1) := by rw [← List.drop_one, List.drop_take, List.drop_drop]
 rw [← h2, h]; rfl

theorem len_fam {P : Program} {ρ : Operand → PV} {h0 h : Heap} {key : Key} {d1 d2 : Nat} {v : PV} {l : List Int} {x : Operand} {t2 : TypeId} (hs : SliceAt h0 d1 v 1 (l.map ci) ∨ SliceAt h0 d2 v 1 (l.map ci)) (hx : ρ x = v) (ht : sliceOk P t2 = true) : eff P ρ h key (.call { callee := .builtin .len, args := #[x], argTypes := #[t2] }) = ⟨True, .int ((l.length : Nat) : Int), [], [], false⟩ := by
 rcases hs with hs | hs <;> rcases hs with ⟨h1, h2⟩ | ⟨g, h1, h2⟩
 · have h3 := congrArg List.length h1; simp only [List.length_map, List.length_nil] at h3; rw [h3]; exact e_lenN (hx.trans h2) ht
 · rw [e_lenR (hx.trans h1) ht, List.length_map]
 · have h3 := congrArg List.length h1; simp only [List.length_map, List.length_nil] at h3; rw [h3]; exact e_lenN (hx.trans h2) ht
 · rw [e_lenR (hx.trans h1) ht, List.length_map]
theorem fam_ref {h : Heap} {d1 d2 : Nat} {v : PV} {l : List Int} (hs : SliceAt h d1 v 1 (l.map ci) ∨ SliceAt h d2 v 1 (l.map ci)) (hl : 1 ≤ l.length) : ∃ d g, (d = d1 ∨ d = d2) ∧ v = .ref (d, g) 1 0 l.length ∧ h (d, g) = some (.rows 1 (l.map ci)) := by
 rcases hs with hs | hs <;> rcases hs with ⟨h1, _⟩ | ⟨g, h1, h2⟩
 · have := congrArg List.length h1; simp at this; rw [this] at hl; simp at hl
 · exact ⟨_, g, .inl rfl, by rw [h1, List.length_map], h2⟩
 · have := congrArg List.length h1; simp at this; rw [this] at hl; simp at hl
 · exact ⟨_, g, .inr rfl, by rw [h1, List.length_map], h2⟩
theorem adj_at {ps : List Pipe} {N i : Nat} {al : List Arc} {u : Int} (hA : AdjOK ps N ((List.range N).map (adjF al))) (hu : u.toNat < N) (hi : i < (adjF al u.toNat).length) (h0 : 0 ≤ u) (h1 : u < (N : Int)) : ∃ kn : Nat, (adjF al u.toNat)[i]? = some (kn : Int) ∧ kn < ps.length ∧ froP ps kn = u ∧ ∃ p, ps[kn]? = some p ∧ True := by
 have h2 : (adjF al u.toNat)[i]? = some (adjF al u.toNat)[i] := List.getElem?_eq_getElem hi
 have h3 : ((List.range N).map (adjF al)).getD u.toNat [] = adjF al u.toNat := by rw [List.getD_eq_getElem?_getD, mcell1 hu]; rfl
 obtain ⟨j, h4, h5, h6⟩ := hA.inn u.toNat hu (adjF al u.toNat)[i] (by rw [h3]; exact List.getElem_mem hi)
 exact ⟨j, by rw [h2, h4], h5, by rw [h6]; omega, ps[j], List.getElem?_eq_getElem h5, trivial⟩
theorem take_app {rs : List Int} {off n : Nat} {u w : Int} {qt : List Int} (h : (rs.drop off).take n = u :: qt) : ((rs.map ci).drop off).take n ++ [w].map ci = (u :: (qt ++ [w])).map ci := by
 rw [← List.map_drop, ← List.map_take, h]; simp
theorem take_full {l : List Int} {n : Nat} (h : n = l.length) : l.take n = l := by rw [h, List.take_length]
theorem frH61 : (inFrame Try.f61.ntmps (Try.f61.body.getD .skip) && Try.f61.results.toList.all (resScope Try.f61.ntmps)) = true := by kernel_rfl
theorem reachH (t : Traffic) (N gp gF gm : Nat) (vP : PV) (vs : List PV) (ps : List Pipe) (al : List Arc) (b : Nat) (s : Int) (h0 : Heap) (c0 : Nat → Nat) (hn : NetH t N h0 gp gF gm vP vs ps (adjF al) b) (hA : AdjOK ps N ((List.range N).map (adjF al))) (hop : ∀ k, k < ps.length → opP k < ps.length) (hal : al.length ≤ 2000) (hpl : ps.length ≤ 4000) (hN : N ≤ 1000) (hs : 0 ≤ s ∧ s < (N : Int)) : HCallsR Try.prog 61 [.ptr (30, gp) 10 0 5, .int s] h0 c0 (fun v h c => ∃ g bs, v = .ref (16, g) 1 0 N ∧ h (16, g) = some (.rows 1 (bs.map ci)) ∧ Rch ps N s bs ∧ Old c0 h0 h c) := by
 refine HCallsR.of_code Try.func61 rfl rfl (by kernel_rfl) mixed frH61 (by show _ ≤ 71; simp) ?_
 refine pwp_seq_plain rfl fun K1 hK1 => ?_
 refine p_e rfl (e_assign (v := .nil) rfl) ?_
 refine p_end (hK1 _ ?_); clear hK1 K1
 refine pwp_seq_plainK rfl fun hkn K2 hK2 => ?_
 have hrd : ∀ (k : Key) (o : PObj), h0 k = some o → ∀ (h : Heap) (c : Nat → Nat), Old c0 h0 h c → h k = some o := fun k o hk h c hO => (hO.get (hkn k o hk)).trans hk
 refine p_new rfl (e_bslice (rows := [(-1 : Int)].map ci) (zs := [.int 0]) (sz := 1) (by kernel_rfl) (by kernel_rfl) rfl (by kernel_rfl) (by decide) rfl rfl (by exact ⟨by decide, rfl, rfl, trivial⟩) rfl) trivial ?_
 refine p_e rfl (e_move (v := .ptr (30, gp) 10 0 5) rfl) ?_
 refine p_e rfl (e_nilc rfl) ?_
 refine p_e rfl (e_faQ [(0, 1, false), (1, 1, false)] rfl) ?_
 refine p_e rfl (e_lH (v := .ref (23, gF) 1 0 N) rfl ((hset_ne (key_ne rfl)).trans hn.row) rfl) ?_
 refine p_e rfl (e_lenR rfl (by kernel_rfl)) ?_
 refine p_hcall rfl (HCallsR.new1 16 (repeatN N ⟨by omega, by omega⟩) (.cons (inn_ref (hset_self _ _ _) rfl rfl (by exact pure_map ci_pure)) (.cons inn_sc .nil)) (by rw [List.length_map, List.length_replicate])) fun v16 h16 c16 hR16 => ?_
 obtain ⟨rfl, rfl, rfl⟩ := hR16
 refine p_e rfl (e_assign (v := .ref _ _ _ _) rfl) ?_
 refine p_end (hK2 _ ?_); clear hK2 K2
 refine pwp_seq_plain rfl fun K3 hK3 => ?_
 refine p_e rfl (e_move (v := .ref _ _ _ _) rfl) ?_
 refine p_mS rfl ?_
 refine p_e rfl (e_ixaR0 rfl rfl (by kernel_rfl) (by kernel_rfl) (by first | (simp; omega) | omega)) ?_
 refine p_store rfl (e_storeI (zs := (List.replicate N (-1 : Int))) (a := (-2)) rfl (hset_self _ _ _) rfl (by first | (simp; omega) | omega) (by kernel_rfl) (by kernel_rfl)) trivial ?_
 refine p_end (hK3 _ ?_); clear hK3 K3
 refine pwp_seq_seq ?_
 refine pwp_seq_plain rfl fun K4 hK4 => ?_
 refine p_e rfl (e_move (v := .sc _) rfl) ?_
 refine p_new rfl (e_bslice (rows := [s].map ci) (zs := [.int 0]) (sz := 1) (by kernel_rfl) (by kernel_rfl) rfl (by kernel_rfl) (by decide) rfl rfl (by exact ⟨by decide, rfl, rfl, trivial⟩) rfl) trivial ?_
 refine p_e rfl (e_assign (v := .ref _ _ _ _) rfl) ?_
 refine p_end (hK4 _ ?_); clear hK4 K4
 refine pwp_seq_block fun K5 hK5 => ?_
 refine pwp_loopR (α := (List Int) × (List Int) × (List Int) × (List Int) × Nat × Nat × Nat) [0, 5] (fun (a6 : (List Int) × (List Int) × (List Int) × (List Int) × Nat × Nat × Nat) => [(6, .ref ((a6.2.2.2.2.1), (a6.2.2.2.2.2.1)) 1 (a6.2.2.2.2.2.2) (a6.1).length)]) (fun (a6 : (List Int) × (List Int) × (List Int) × (List Int) × Nat × Nat × Nat) (h : Heap) (c : Nat → Nat) => (Bfs ps N s (a6.2.2.1) ((a6.2.1) ++ (a6.1))) ∧ (ClOK ps ((List.range N).map (adjF al)) (a6.2.2.1) (a6.2.1)) ∧ (Old c0 h0 h c) ∧ ((a6.2.2.2.2.1) = 21 ∨ (a6.2.2.2.2.1) = 68) ∧ (h ((a6.2.2.2.2.1), (a6.2.2.2.2.2.1)) = some (.rows 1 ((a6.2.2.2.1).map ci))) ∧ ((a6.2.2.2.2.2.2) + (a6.1).length ≤ (a6.2.2.2.1).length) ∧ (((a6.2.2.2.1).drop (a6.2.2.2.2.2.2)).take (a6.1).length = (a6.1)) ∧ (c0 (a6.2.2.2.2.1) ≤ (a6.2.2.2.2.2.1)) ∧ ((a6.2.2.2.1).length ≤ 100000) ∧ (h (16, (cset c0 10 16)) = some (.rows 1 ((a6.2.2.1).map ci)))) (fun (a6 : (List Int) × (List Int) × (List Int) × (List Int) × Nat × Nat × Nat) => N - (a6.2.1).length) ([s], [], ((List.replicate N (-1 : Int)).set s.toNat (-2)), [s], 21, (cset (cset c0 10) 16 21), 0) (by exact ⟨rfl, trivial⟩) (by exact ⟨by exact Bfs.zero hs, by exact fun u hu => (by simp at hu), by exact Old.new (d := 21) (Old.upd (Old.new (d := 16) (Old.new (d := 10) Old.refl)) (cset_le c0 10 16)), by exact .inl rfl, by exact hset_self _ _ _, by exact Nat.le_refl _, by exact rfl, by exact Nat.le_trans (cset_le c0 10 21) (cset_le _ 16 21), by show 1 ≤ 100000; omega, ((hset_ne (key_ne rfl)).trans (hset_self _ _ _))⟩) fun a6 r7 h8 c9 hj10 => ?_
 obtain ⟨q, done, bs, rs, dq, gq, off⟩ := a6
 obtain ⟨hB, hC, hO, hdq, hQ, hoff, hqe, hgq, hrl, hihj10_0⟩ := hj10
 try dsimp only at hB
 try dsimp only at hC
 try dsimp only at hO
 try dsimp only at hdq
 try dsimp only at hQ
 try dsimp only at hoff
 try dsimp only at hqe
 try dsimp only at hgq
 try dsimp only at hrl
 try dsimp only at hihj10_0
 show pwp _ _ (loopQ _ _ _) ⟨sets (mix _ _ _) [(6, .ref (dq, gq) 1 off q.length)], _, _⟩
 refine pwp_seq_seq ?_
 refine pwp_seq_plain rfl fun K11 hK11 => ?_
 refine p_e rfl (e_move (v := .ref _ _ _ _) rfl) ?_
 refine p_e rfl (e_lenR rfl (by kernel_rfl)) ?_
 refine p_e rfl (e_gt rfl rfl) ?_
 refine p_end (hK11 _ ?_); clear hK11 K11
 refine pwp_seq_cond rfl fun K12 hK12 => ⟨fun hb13 => ?_, fun hb13 => ?_⟩
 ·have hb13R := hb13; try simp only [zz] at hb13
  have hql := Bfs.len_le hB
  rw [List.length_append] at hql
  obtain ⟨u, qt, rfl⟩ : ∃ u qt, q = u :: qt := (by cases q with | nil => simp at hb13 | cons u qt => exact ⟨u, qt, rfl⟩)
  have hur := hB.rng u (by simp)
  have hqu : rs[(off + (0 : Int).toNat)]? = some u := by rw [Int.toNat_zero, Nat.add_zero]; exact qd hqe
  obtain ⟨vu, hvu⟩ : ∃ v, vs[u.toNat]? = some v := ⟨_, List.getElem?_eq_getElem (by rw [hn.len]; omega)⟩
  have hsu := hn.fam.sl _ _ hvu
  have hal2 := adj_len al u.toNat
  refine pwp_skip ?_
  refine seq_norm (hK12 _ ?_); clear hK12 K12
  refine pwp_seq_block fun K14 hK14 => ?_
  refine pwp_seq_gops rfl fun K15 hK15 => ?_
  refine s_begin ?_
  refine s_e rfl (e_move (v := .ptr (30, gp) 10 0 5) rfl) ?_
  refine s_e rfl (e_nilc rfl) ?_
  refine s_e rfl (e_faQ [(0, 1, false), (1, 1, false)] rfl) ?_
  refine s_step [30] (by simp) rfl rfl rfl rfl (e_lH (v := .ref (23, gF) 1 0 N) rfl (hrd _ _ hn.row _ _ hO) rfl) trivial ?_
  refine s_e rfl (e_move (v := .ref _ _ _ _) rfl) ?_
  refine s_e rfl (e_ixaO rfl rfl (by kernel_rfl) (by kernel_rfl) (by simp only [List.length_cons]; omega)) ?_
  refine s_step [dq] (by simp) rfl rfl rfl rfl (e_loadI (a := u) rfl hQ (by kernel_rfl) (by kernel_rfl) (by kernel_rfl) hqu) trivial ?_
  refine s_e rfl (e_ixaR0 rfl rfl (by kernel_rfl) (by kernel_rfl) (by omega)) ?_
  refine s_step [23] (by simp) rfl rfl rfl rfl (e_loadV (v := vu) rfl (hrd _ _ hn.out _ _ hO) (by kernel_rfl) (by kernel_rfl) (by kernel_rfl) hvu) trivial ?_
  refine s_e rfl (len_fam hsu.1 rfl (by kernel_rfl)) ?_
  refine s_e rfl (e_move (v := .sc _) rfl) ?_
  refine s_end (ds := []) (by kernel_rfl) (by kernel_rfl) (hK15 _ ?_); clear hK15 K15
  refine pwp_block ?_
  refine pwp_loopR (α := Nat × (List Int) × (List Int) × (List Int) × Nat × Nat × Nat) [0, 5, 35, 36] (fun (a16 : Nat × (List Int) × (List Int) × (List Int) × Nat × Nat × Nat) => [(6, .ref ((a16.2.2.2.2.1), (a16.2.2.2.2.2.1)) 1 (a16.2.2.2.2.2.2) (u :: (a16.2.1)).length), (37, .int (a16.1))]) (fun (a16 : Nat × (List Int) × (List Int) × (List Int) × Nat × Nat × Nat) (h : Heap) (c : Nat → Nat) => ((a16.1) ≤ (adjF al u.toNat).length) ∧ (Bfs ps N s (a16.2.2.1) (done ++ (u :: (a16.2.1)))) ∧ (ClOK ps ((List.range N).map (adjF al)) (a16.2.2.1) done) ∧ (Cl2 ps (adjF al u.toNat) (a16.1) (a16.2.2.1)) ∧ (Old c0 h0 h c) ∧ ((a16.2.2.2.2.1) = 21 ∨ (a16.2.2.2.2.1) = 68) ∧ (h ((a16.2.2.2.2.1), (a16.2.2.2.2.2.1)) = some (.rows 1 ((a16.2.2.2.1).map ci))) ∧ ((a16.2.2.2.2.2.2) + (u :: (a16.2.1)).length ≤ (a16.2.2.2.1).length) ∧ (((a16.2.2.2.1).drop (a16.2.2.2.2.2.2)).take (u :: (a16.2.1)).length = u :: (a16.2.1)) ∧ (c0 (a16.2.2.2.2.1) ≤ (a16.2.2.2.2.2.1)) ∧ ((a16.2.2.2.1).length ≤ 100000) ∧ (h (16, (cset c0 10 16)) = some (.rows 1 ((a16.2.2.1).map ci)))) (fun (a16 : Nat × (List Int) × (List Int) × (List Int) × Nat × Nat × Nat) => (adjF al u.toNat).length - (a16.1)) (0, qt, bs, rs, dq, gq, off) (by exact ⟨rfl, rfl, trivial⟩) (by exact ⟨by exact Nat.zero_le _, by exact hB, by exact hC, by exact cl2_0, by exact hO, by exact hdq, by exact hQ, by exact hoff, by exact hqe, by exact hgq, by exact hrl, hihj10_0⟩) fun a16 r17 h18 c19 hj20 => ?_
  obtain ⟨i, qt2, bs, rs, dq, gq, off⟩ := a16
  obtain ⟨hi, hB, hC, hc2, hO, hdq, hQ, hoff, hqe, hgq, hrl, hihj20_0⟩ := hj20
  try dsimp only at hi
  try dsimp only at hB
  try dsimp only at hC
  try dsimp only at hc2
  try dsimp only at hO
  try dsimp only at hdq
  try dsimp only at hQ
  try dsimp only at hoff
  try dsimp only at hqe
  try dsimp only at hgq
  try dsimp only at hrl
  try dsimp only at hihj20_0
  show pwp _ _ (loopQ _ _ _) ⟨sets (mix _ _ _) [(6, .ref (dq, gq) 1 off (u :: qt2).length), (37, .int i)], _, _⟩
  refine pwp_seq_plain rfl fun K21 hK21 => ?_
  refine p_e rfl (e_lt rfl rfl) ?_
  refine p_end (hK21 _ ?_); clear hK21 K21
  refine pwp_seq_cond rfl fun K22 hK22 => ⟨fun hb23 => ?_, fun hb23 => ?_⟩
  ·have hb23R := hb23; try simp only [zz] at hb23
   have hiL : i < (adjF al u.toNat).length := by omega
   obtain ⟨kn, hki, hkl, hkf, p, hpk, hpt⟩ := adj_at hA (by omega) hiL hur.1 hur.2
   have hpr := hA.rng kn hkl
   rw [tilP_at hpk] at hpr
   have hbl := hB.len
   have hbp : bs[p.til.toNat]? = some (bs.getD p.til.toNat 0) := by rw [List.getD_eq_getElem?_getD, List.getElem?_eq_getElem (by omega)]; rfl
   obtain ⟨gP, hvP, hgP⟩ := SliceAt.isRef hn.pip (by intro q; have := congrArg List.length q; rw [List.length_map, List.length_nil] at this; omega)
   rw [List.length_map] at hvP
   subst hvP
   obtain ⟨du, gu, hdu, hvu2, hgu⟩ := fam_ref hsu.1 (by omega)
   subst hvu2
   have hql2 := Bfs.len_le hB
   rw [List.length_append, List.length_cons] at hql2
   refine pwp_skip ?_
   refine seq_norm (hK22 _ ?_); clear hK22 K22
   refine pwp_seq_block fun K24 hK24 => ?_
   refine pwp_seq_plain rfl fun K25 hK25 => ?_
   refine p_e rfl (e_ixaR0 rfl rfl (by kernel_rfl) (by kernel_rfl) (by omega)) ?_
   refine p_e rfl (e_loadI (a := (kn : Int)) rfl (hrd _ _ hgu _ _ hO) (by kernel_rfl) (by kernel_rfl) (by kernel_rfl) (by rw [Int.toNat_natCast]; exact hki)) ?_
   refine p_e rfl (e_assign (v := .sc _) rfl) ?_
   refine p_end (hK25 _ ?_); clear hK25 K25
   refine pwp_seq_plain rfl fun K26 hK26 => ?_
   refine p_e rfl (e_move (v := .ptr (30, gp) 10 0 5) rfl) ?_
   refine p_e rfl (e_nilc rfl) ?_
   refine p_e rfl (e_faQ [(0, 1, false), (1, 1, false)] rfl) ?_
   refine p_e rfl (e_lH (v := .ref (26, gP) 2 0 ps.length) rfl (hrd _ _ hn.row _ _ hO) rfl) ?_
   refine p_e rfl (e_move (v := .sc _) rfl) ?_
   refine p_e rfl (e_ixaR0 rfl rfl (by kernel_rfl) (by kernel_rfl) (by omega)) ?_
   refine p_e rfl (e_loadHA (n := 2) (cs := Pipe.enc p) rfl (hrd _ _ hgP _ _ hO) (by kernel_rfl) (by kernel_rfl) (by kernel_rfl) (by rw [List.length_map]; omega) (by decide) (agg_map (by rw [Int.toNat_natCast]; exact hpk) rfl)) ?_
   refine p_new rfl (e_alloc (cs := [.int 0, .int 0]) (n := 2) (by kernel_rfl) rfl (by decide)) (ob_alloc (by decide)) ?_
   refine p_store rfl (e_storeA rfl (hset_self _ _ _) rfl rfl rfl (by kernel_rfl) rfl (by kernel_rfl)) trivial ?_
   refine p_end (hK26 _ ?_); clear hK26 K26
   refine pwp_seq_gops rfl fun K27 hK27 => ?_
   refine g_begin ?_
   refine g_e rfl (e_faQ pl2 rfl) ?_
   refine g_e rfl (e_lH (v := .sc _) rfl (hset_self _ _ _) rfl) ?_
   refine g_e rfl (e_gt rfl rfl) ?_
   refine g_mS rfl rfl ?_
   refine g_cases (fun hb28 => ?_) (fun hb28 => ?_)
   ·have hb28R := hb28; try simp only [zz] at hb28
    refine g_e rfl (e_move (v := .ref _ _ _ _) rfl) ?_
    refine g_e rfl (e_faQ pl2 rfl) ?_
    refine g_e rfl (e_lH (v := .sc _) rfl (hset_self _ _ _) rfl) ?_
    refine g_e rfl (e_ixaR0 rfl rfl (by kernel_rfl) (by kernel_rfl) (by first | (simp; omega) | omega)) ?_
    refine g_e rfl (e_loadI (a := (bs.getD p.til.toNat 0)) rfl ((hset_ne (key_ne rfl)).trans ((hset_ne (key_ne rfl)).trans hihj20_0)) (by kernel_rfl) (by kernel_rfl) (by kernel_rfl) hbp) ?_
    refine g_e rfl (e_eq rfl rfl) ?_
    refine g_pT rfl rfl rfl ?_
    refine g_end (ds := [52, 53, 54, 55, 56, 57]) rfl rfl (hK27 _ ?_); clear hK27 K27
    refine pwp_cond rfl (fun hb29 => ?_) (fun hb29 => ?_)
    ·have hb29R := hb29; try simp only [zz] at hb29
     refine pwp_seq_plain rfl fun K30 hK30 => ?_
     refine p_e rfl (e_move (v := .ref _ _ _ _) rfl) ?_
     refine p_e rfl (e_faQ pl2 rfl) ?_
     refine p_e rfl (e_lH (v := .sc _) rfl (hset_self _ _ _) rfl) ?_
     refine p_mS rfl ?_
     refine p_e rfl (e_ixaR0 rfl rfl (by kernel_rfl) (by kernel_rfl) (by first | (simp; omega) | omega)) ?_
     refine p_store rfl (e_storeI (zs := bs) (a := (kn : Int)) rfl ((hset_ne (key_ne rfl)).trans ((hset_ne (key_ne rfl)).trans hihj20_0)) rfl (by first | (simp; omega) | omega) (by kernel_rfl) (by kernel_rfl)) trivial ?_
     refine p_end (hK30 _ ?_); clear hK30 K30
     refine pwp_plainK rfl fun hkn2 K31 hK31 => ?_
     refine p_e rfl (e_move (v := .ref _ _ _ _) rfl) ?_
     refine p_e rfl (e_faQ [(0, 1, false), (1, 1, false)] rfl) ?_
     refine p_e rfl (e_lH (v := .sc _) rfl ((hset_ne (key_ne rfl)).trans (hset_self _ _ _)) rfl) ?_
     refine p_new rfl (e_bslice (rows := [p.til].map ci) (zs := [.int 0]) (sz := 1) (by kernel_rfl) (by kernel_rfl) rfl (by kernel_rfl) (by decide) rfl rfl (by exact ⟨by decide, rfl, rfl, trivial⟩) rfl) trivial ?_
     refine p_appO (t := 116) (m := (u :: (qt2 ++ [p.til])).length) (rs := rs.map ci) (rows2 := [p.til].map ci) (by simp only [List.length_append, List.length_cons, List.length_nil]) rfl rfl rfl ((hset_ne (by rcases hdq with rfl | rfl <;> exact key_ne rfl)).trans ((hset_ne (by rcases hdq with rfl | rfl <;> exact key_ne rfl)).trans ((hset_ne (by rcases hdq with rfl | rfl <;> exact key_ne rfl)).trans ((hset_ne (by rcases hdq with rfl | rfl <;> exact key_ne rfl)).trans hQ)))) (hset_self _ _ _) rfl (by kernel_rfl) (by rw [List.length_map]; omega) (by omega) ?_
     refine p_e rfl (e_assign (v := .ref _ _ _ _) rfl) ?_
     refine p_end (hK31 _ ?_); clear hK31 K31
     have hgq2 : (dq, gq) ≠ ((68, (cset c19 9) 68) : Key) := fun e => (by have := hkn2 (dq, gq) _ ((hset_ne (by rcases hdq with rfl | rfl <;> exact key_ne rfl)).trans ((hset_ne (by rcases hdq with rfl | rfl <;> exact key_ne rfl)).trans ((hset_ne (by rcases hdq with rfl | rfl <;> exact key_ne rfl)).trans hQ))); rw [(Prod.mk.inj e).1, (Prod.mk.inj e).2] at this; exact absurd this (Nat.lt_irrefl _))
     refine block_norm ?_
     refine seq_norm (hK24 _ ?_); clear hK24 K24
     refine pwp_plain rfl fun K32 hK32 => ?_
     refine p_e rfl (e_adL rfl rfl) ?_
     refine p_mS rfl ?_
     refine p_end (hK32 _ ?_); clear hK32 K32
     exact loop_again ((i + 1, qt2 ++ [p.til], (bs.set p.til.toNat (kn : Int)), (u :: (qt2 ++ [p.til])), 68, (c19 68), 0)) (by show _ < _; simp only; omega) ⟨rfl, rfl, rfl, rfl, trivial⟩ ⟨rfl, rfl, trivial⟩ (by exact ⟨by show _ + 1 ≤ _; omega, by rw [← List.cons_append, ← List.append_assoc]; exact Bfs.step hB hkl (tilP_at hpk) (by rw [roomP_at hpk]; omega) hpr (by omega) (by rw [hkf]; simp), by exact ClOK.mono hC (by omega) (by omega), by exact cl2_s (cl2_m hc2 (by omega)) hki (fun _ => by rw [Int.toNat_natCast, tilP_at hpk, getD_set (by omega), if_pos rfl]; omega), by exact Old.new (d := 68) (Old.upd (k := (dq, gq)) (Old.new (d := 67) (Old.upd (k := (16, (cset c0 10 16))) (Old.upd (Old.new (d := 9) hO) (hO.mo 9)) (cset_le c0 10 16))) hgq), by exact .inr rfl, by rw [← take_app hqe]; exact hset_self _ _ _, by simp only [List.length_append, List.length_cons, List.length_take, List.length_drop] at hoff ⊢; simp only [List.length_nil]; omega, by rw [List.drop_zero, take_full (by simp only [List.length_append, List.length_cons, List.length_nil])], by exact Nat.le_trans (hO.mo 68) (Nat.le_of_eq rfl), by simp only [List.length_append, List.length_cons, List.length_nil]; omega, ((hset_ne (key_ne rfl)).trans ((hset_ne ((by rcases hdq with rfl | rfl <;> exact key_ne rfl))).trans ((hset_ne (key_ne rfl)).trans (hset_self _ _ _))))⟩)
    have hb29R := hb29; try simp only [zz] at hb29
    refine pwp_skip ?_
    refine block_norm ?_
    refine seq_norm (hK24 _ ?_); clear hK24 K24
    refine pwp_plain rfl fun K33 hK33 => ?_
    refine p_e rfl (e_adL rfl rfl) ?_
    refine p_mS rfl ?_
    refine p_end (hK33 _ ?_); clear hK33 K33
    exact loop_again ((i + 1, qt2, bs, rs, dq, gq, off)) (by show _ < _; simp only; omega) ⟨rfl, rfl, rfl, rfl, trivial⟩ ⟨rfl, rfl, trivial⟩ (by exact ⟨by show _ + 1 ≤ _; omega, by exact hB, by exact hC, by exact cl2_s hc2 hki (fun hr => by rw [Int.toNat_natCast, roomP_at hpk] at hr; rw [Int.toNat_natCast, tilP_at hpk]; first | omega | assumption), by exact Old.upd (Old.new (d := 9) hO) (hO.mo 9), by exact hdq, by exact (hset_ne (by rcases hdq with rfl | rfl <;> exact key_ne rfl)).trans ((hset_ne (by rcases hdq with rfl | rfl <;> exact key_ne rfl)).trans hQ), by exact hoff, by exact hqe, by exact hgq, by exact hrl, ((hset_ne (key_ne rfl)).trans ((hset_ne (key_ne rfl)).trans hihj20_0))⟩)
   have hb28R := hb28; try simp only [zz] at hb28
   iterate 6 refine g_skip rfl rfl rfl ?_
   refine g_pF rfl rfl rfl ?_
   refine g_end (ds := [52, 53, 54, 55, 56, 57]) rfl rfl (hK27 _ ?_); clear hK27 K27
   refine pwp_cond (t := false) rfl nofun (fun _ => ?_)
   refine pwp_skip ?_
   refine block_norm ?_
   refine seq_norm (hK24 _ ?_); clear hK24 K24
   refine pwp_plain rfl fun K34 hK34 => ?_
   refine p_e rfl (e_adL rfl rfl) ?_
   refine p_mS rfl ?_
   refine p_end (hK34 _ ?_); clear hK34 K34
   exact loop_again ((i + 1, qt2, bs, rs, dq, gq, off)) (by show _ < _; simp only; omega) ⟨rfl, rfl, rfl, rfl, trivial⟩ ⟨rfl, rfl, trivial⟩ (by exact ⟨by show _ + 1 ≤ _; omega, by exact hB, by exact hC, by exact cl2_s hc2 hki (fun hr => by rw [Int.toNat_natCast, roomP_at hpk] at hr; rw [Int.toNat_natCast, tilP_at hpk]; first | omega | assumption), by exact Old.upd (Old.new (d := 9) hO) (hO.mo 9), by exact hdq, by exact (hset_ne (by rcases hdq with rfl | rfl <;> exact key_ne rfl)).trans ((hset_ne (by rcases hdq with rfl | rfl <;> exact key_ne rfl)).trans hQ), by exact hoff, by exact hqe, by exact hgq, by exact hrl, ((hset_ne (key_ne rfl)).trans ((hset_ne (key_ne rfl)).trans hihj20_0))⟩)
  have hb23R := hb23; try simp only [zz] at hb23
  have hii : i = (adjF al u.toNat).length := by omega
  refine pwp_exit ?_
  refine exit_seq ?_
  clear hK22 K22
  refine exit_loop ?_
  refine exit_here ?_
  refine block_norm ?_
  refine seq_norm (hK14 _ ?_); clear hK14 K14
  refine pwp_plain rfl fun K35 hK35 => ?_
  refine p_e rfl (e_move (v := .ref _ _ _ _) rfl) ?_
  refine p_e rfl (e_cut1 rfl rfl (by simp only [List.length_cons]; omega) (by kernel_rfl) (by kernel_rfl)) ?_
  refine p_e rfl (e_assign (v := .ref _ _ _ _) rfl) ?_
  refine p_end (hK35 _ ?_); clear hK35 K35
  exact loop_again ((qt2, done ++ [u], bs, rs, dq, gq, off + 1)) (by show _ < _; simp only [List.length_append, List.length_singleton] at *; omega) ⟨rfl, rfl, trivial⟩ ⟨rfl, trivial⟩ (by exact ⟨by rw [List.append_assoc]; exact hB, by exact cl2_end hc2 hC (by rw [List.getD_eq_getElem?_getD, mcell1 (by omega)]; rfl) (by omega), by exact hO, by exact hdq, by exact hQ, by show off + 1 + qt2.length ≤ rs.length; simp only [List.length_cons] at hoff; omega, by exact qt_s (by rw [List.length_cons]) hqe, by exact hgq, by exact hrl, hihj20_0⟩)
 have hb13R := hb13; try simp only [zz] at hb13
 have hqn : q = [] := by cases q with | nil => rfl | cons u qt => (exfalso; simp only [List.length_cons] at *; omega)
 subst hqn
 rw [List.append_nil] at hB
 refine pwp_exit ?_
 refine exit_seq ?_
 clear hK12 K12
 refine exit_loop ?_
 refine exit_here ?_
 refine seq_norm (hK5 _ ?_); clear hK5 K5
 refine pwp_seq_plain rfl fun K36 hK36 => ?_
 refine p_e rfl (e_move (v := .ref _ _ _ _) rfl) ?_
 refine p_e rfl (e_assign (v := .ref _ _ _ _) rfl) ?_
 refine p_end (hK36 _ ?_); clear hK36 K36
 refine pwp_ret ?_
 refine end1 (v := .ref _ _ _ _) rfl ?_
 exact ⟨(cset c0 10 16), bs, rfl, hihj10_0, hB.rch hA hop hC, hO⟩

end Go.Proofs.Ytigdmkhdmbbfiaa
