/- The least cut, by trying. No conditions. -/
import Derived.Test.YtigdmkhdmbbfiaaCu4
set_option linter.unusedSimpArgs false
set_option linter.unusedVariables false
set_option maxRecDepth 100000
namespace Go.Proofs.Ytigdmkhdmbbfiaa
open Go Go.Pv
/-! ### Least cuts by trying -/
/-- The cut as it is built: the places before p whole, p up to day d. -/
def thrL (t : Traffic) (fr : List Int) (p d : Nat) : List At := ((List.range p).flatMap fun p : Nat => ((List.range t.days.toNat).filter fun d : Nat => decide (fr.getD p 0 ≤ (d : Int))).map fun d : Nat => (⟨(p : Int), (d : Int)⟩ : At)) ++ ((List.range d).filter fun d : Nat => decide (fr.getD p 0 ≤ (d : Int))).map fun d : Nat => (⟨(p : Int), (d : Int)⟩ : At)
section
variable {t : Traffic} {fr : List Int} {p d : Nat}
theorem thr_s (h : fr.getD p 0 ≤ (d : Int)) : thrL t fr p (d + 1) = thrL t fr p d ++ [⟨(p : Int), (d : Int)⟩] := by
 rw [thrL, thrL, List.range_succ, List.filter_append, List.map_append, List.append_assoc]
 congr 2
 rw [List.filter_cons, if_pos (decide_eq_true h)]; rfl
theorem thr_0 : ∀ {d : Nat}, (d : Int) ≤ fr.getD p 0 → thrL t fr p d = thrL t fr p 0
 | 0, _ => rfl
 | d + 1, h => by
   rw [← thr_0 (d := d) (by omega), thrL, thrL, List.range_succ, List.filter_append, List.map_append]
   rw [List.filter_cons, if_neg (by rw [decide_eq_false (by omega)]; decide)]; simp
/-- Row by row, from day a on. -/
def thrN (t : Traffic) (fr : List Int) (p : Nat) (a : Int) : Nat → List At
 | 0 => thrL t fr p 0
 | n + 1 => thrN t fr p a n ++ [⟨(p : Int), a + (n : Int)⟩]
theorem thr_N {a : Int} (ha : fr.getD p 0 = a) (h0 : 0 ≤ a) : ∀ {n : Nat}, thrN t fr p a n = thrL t fr p (a.toNat + n)
 | 0 => (thr_0 (by omega)).symm
 | n + 1 => by
   rw [thrN, thr_N ha h0, ← Nat.add_assoc, thr_s (by omega)]
   congr 3; omega
theorem thrN_s {a e : Int} {n : Nat} (he : e = a + (n : Int)) : thrN t fr p a (n + 1) = thrN t fr p a n ++ [⟨(p : Int), e⟩] := by rw [he]; rfl
theorem nx_e {a e : Int} {n : Nat} (he : e = a + (n : Int)) : e + 1 = a + ((n + 1 : Nat) : Int) := by omega
theorem thr_e (hd : d = t.days.toNat) : thrL t fr p d = thrL t fr (p + 1) 0 := by
 subst hd
 rw [thrL, thrL, List.range_succ, List.flatMap_append]; simp
theorem thrN_e {a : Int} {n : Nat} (ha : fr.getD p 0 = a) (h0 : 0 ≤ a) (h : a + (n : Int) = t.days) : thrN t fr p a n = thrL t fr (p + 1) 0 := by
 rw [thr_N ha h0, thr_e (by omega)]
theorem thr_len (hp : p ≤ 8) (hd : d ≤ 20) (hD : t.days.toNat ≤ 20) : (thrL t fr p d).length ≤ 180 := by
 have main : ∀ n, n ≤ 8 → ((List.range n).flatMap fun p : Nat => ((List.range t.days.toNat).filter fun d : Nat => decide (fr.getD p 0 ≤ (d : Int))).map fun d : Nat => (⟨(p : Int), (d : Int)⟩ : At)).length ≤ n * 20 := fun n => by
   induction n with
   | zero => intro _; simp
   | succ n ih =>
     intro hn
     have h1 := ih (by omega)
     rw [List.range_succ, List.flatMap_append, List.length_append]
     have h2 := List.length_filter_le (fun d : Nat => decide (fr.getD n 0 ≤ (d : Int))) (List.range t.days.toNat)
     rw [List.length_range] at h2
     simp only [List.flatMap_cons, List.flatMap_nil, List.append_nil, List.length_map] at h1 ⊢; omega
 have h1 := main p hp
 have h2 := List.length_filter_le (fun d : Nat => decide (fr.getD p 0 ≤ (d : Int))) (List.range d)
 rw [List.length_range] at h2
 rw [thrL, List.length_append, List.length_map]; omega
end
def minB (b n : Int) : Int := if b < 0 ∨ n < b then n else b
/-- The least cut behind given beginnings: m places are still to be chosen. -/
def leastV (t : Traffic) : Nat → List Int → Int
 | 0, fr => (cutV t (thrL t fr t.places.toNat 0)).1
 | m + 1, fr => (List.range (t.days.toNat + 1)).foldl (fun (b : Int) (d : Nat) => minB b (leastV t m (fr ++ [(d : Int)]))) (-1)
def lfold (t : Traffic) (m : Nat) (fr : List Int) (d : Nat) : Int := (List.range d).foldl (fun (b : Int) (d : Nat) => minB b (leastV t m (fr ++ [(d : Int)]))) (-1)
section
variable {t : Traffic} {fr : List Int} {m d k : Nat} {b : Int}
theorem lf_s : lfold t m fr (d + 1) = minB (lfold t m fr d) (leastV t m (fr ++ [(d : Int)])) := by
 rw [lfold, List.range_succ, List.foldl_append]; rfl
theorem lf_t (hb : b = lfold t m fr d) (h : b < 0 ∨ leastV t m (fr ++ [(d : Int)]) < b) : leastV t m (fr ++ [(d : Int)]) = lfold t m fr (d + 1) := by
 rw [lf_s, ← hb, minB, if_pos h]
theorem lf_f (hb : b = lfold t m fr d) (h : ¬ (b < 0 ∨ leastV t m (fr ++ [(d : Int)]) < b)) : b = lfold t m fr (d + 1) := by
 rw [lf_s, ← hb, minB, if_neg h]
theorem lc_e (hb : b = lfold t m fr d) (hd : d = t.days.toNat + 1) : b = leastV t (m + 1) fr := by rw [hb, hd]; rfl
theorem lc_0 (hm : m = 0) (hk : k = t.places.toNat) : (cutV t (thrL t fr k 0)).1 = leastV t m fr := by rw [hm, hk]; rfl
theorem lc_b (hfr : ∀ x ∈ fr, 0 ≤ x ∧ x ≤ t.days) (h : (d : Int) ≤ t.days) : ∀ x ∈ fr ++ [(d : Int)], 0 ≤ x ∧ x ≤ t.days := fun x hx => by
 rcases List.mem_append.1 hx with hx | hx
 · exact hfr x hx
 · rw [List.mem_singleton.1 hx]; exact ⟨Int.natCast_nonneg d, h⟩
end
theorem keysOf_lit {t : Bool} {sz : Nat} {rows : Go.Pv.Rows} : Go.Pv.keysOf (.lit t sz rows) = [] := rfl
theorem sl_keys {h : Heap} {d sz : Nat} {v : PV} {rows : Go.Pv.Rows} (hs : SliceAt h d v sz rows) : ∀ k ∈ Go.Pv.keysOf v, k.1 = d := by
 rcases hs with ⟨_, rfl⟩ | ⟨g, rfl, _⟩
 · intro k hk; cases hk
 · intro k hk
   have : k = (d, g) := by simpa [Go.Pv.keysOf, Go.Pv.keyOf] using hk
   rw [this]
theorem p_appR {P : Program} {K : PS → Prop} {d : Nat} {ty t : TypeId} {pos : String} {aft : Array Edge} {gd : Option (Nat × Bool)} {rest : List Oper} {r : Nat → PV} {h : Heap} {cnt : Nat → Nat} {x y : Operand} {ts : Array TypeId} {t2 : TypeId} {u2 : PV} {sz d1 g : Nat} {rows rows2 : Pv.Rows} (hts : ts.toList = [t, t2]) (hx : ev r x = .ref (d1, g) sz 0 rows.length) (hy : ev r y = u2) (hg : h (d1, g) = some (.rows sz rows)) (hsr : (srcRows h sz u2).1 ∧ (srcRows h sz u2).2.1 = rows2)
   (hok : (sliceOk P t && (decide (P.bytesOf (elemTy P t) < 2 ^ 15) && (decide (intKind P t2 = none) && (zeroOk P (elemTy P t) && ((P.underlying t2).isSome && decide (tySize P (elemTy P t) = sz)))))) = true) (hlen : rows.length + rows2.length < 2 ^ 32)
   (hk : ∀ v' h' c', (∃ g', v' = .ref (d, g') sz 0 (rows ++ rows2).length ∧ h' (d, g') = some (.rows sz (rows ++ rows2))) → pOps P K rest ⟨setT r d v', h', c'⟩) :
   pOps P K (⟨some d, .call { callee := .builtin .append, args := #[x, y], argTypes := ts }, ty, pos, aft, gd⟩ :: rest) ⟨r, h, cnt⟩ := by
 simp only [Bool.and_eq_true, decide_eq_true_eq] at hok
 obtain ⟨o1, o2, o3, o4, o5, o6⟩ := hok
 subst o6
 have hq : eff P (ev r) h (d, cnt d) (.call { callee := .builtin .append, args := #[x, y], argTypes := ts }) = appendEff P h (d, cnt d) t t2 (.ref (d1, g) (tySize P (elemTy P t)) 0 rows.length) u2 := by
   show builtinEff P h (d, cnt d) .append ts.toList [ev r x, ev r y] = _
   rw [hts, hx, hy]; rfl
 unfold appendEff at hq
 simp only [hg, hsr.2] at hq
 refine p_renew rfl hq (by refine ⟨⟨o1, o2, o3, o4, o5⟩, hsr.1, ?_⟩; simp; omega) (hk _ _ _ ⟨cnt d, by rw [List.length_append], ?_⟩)
 rw [hset_self, List.drop_zero, List.take_length]
theorem frH63 : (inFrame Try.f63.ntmps (Try.f63.body.getD .skip) && Try.f63.results.toList.all (resScope Try.f63.ntmps)) = true := by kernel_rfl
theorem copyH (l : List Int) (hl : l.length ≤ 1000000) : HCallsR Try.prog 63 [.lit true 1 (l.map ci)] (fun _ => none) (fun _ => 0) fun v h _ => ∃ g, v = .ref (5, g) 1 0 (l.map ci).length ∧ h (5, g) = some (.rows 1 (l.map ci)) := by
 refine HCallsR.of_code Try.func63 rfl rfl (by kernel_rfl) mixed frH63 (by show _ ≤ 6; simp) (pwp_seq_plain rfl fun K1 hK1 => p_e rfl (e_assign (v := .nil) rfl) (p_end (hK1 _ ?_))); clear hK1 K1
 refine pwp_seq_plain rfl fun K2 hK2 => p_new rfl (e_bslice (rows := []) (zs := [.int 0]) (sz := 1) (by kernel_rfl) (by kernel_rfl) rfl (by kernel_rfl) (by decide) rfl rfl (by exact trivial) rfl) trivial (p_e rfl (e_move (v := .lit _ _ _) rfl) (p_appR (rows := []) rfl rfl rfl (hset_self _ _ _) src_lit (by kernel_rfl) (by simp only [List.length_append, List.length_map, List.length_nil, List.length_cons]; omega) fun v3 h4 c5 hs6 => p_e rfl (e_assign (v := _) rfl) (p_end (hK2 _ ?_)))); clear hK2 K2
 refine pwp_ret (end1 (v := _) rfl ?_)
 exact hs6
theorem copyN (l : List Int) (hl : l.length ≤ 1000000) : PNew Try.prog 63 [.lit true 1 (l.map ci)] 1 (l.map ci) := by
 refine PNew.of_calls (d := 5) (by omega) (fun row hr => ?_) (fun row hr p hp => ?_) (copyH l hl)
 · obtain ⟨e, _, rfl⟩ := List.mem_map.1 hr; rfl
 · obtain ⟨e, _, rfl⟩ := List.mem_map.1 hr
   simp only [ci, List.mem_cons, List.not_mem_nil, or_false] at hp
   subst hp; exact ⟨_, rfl, rfl⟩
theorem fr17 : (inFrame Try.f17.ntmps (Try.f17.body.getD .skip) && Try.f17.results.toList.all (resScope Try.f17.ntmps)) = true := by kernel_rfl
theorem leastR (t : Traffic) (htz : trafE t = 0) (fr : List Int) (hfr : ∀ x ∈ fr, 0 ≤ x ∧ x ≤ t.days) (m : Nat) (hm : (fr.length : Int) + m = t.places) (IH : ∀ m', m' < m → ∀ fr' : List Int, (∀ x ∈ fr', 0 ≤ x ∧ x ≤ t.days) → (fr'.length : Int) + m' = t.places → PCalls Try.prog 17 [.agg t.enc, .lit true 1 (fr'.map ci)] (.int (leastV t m' fr'))) : PCalls Try.prog 17 [.agg t.enc, .lit true 1 (fr.map ci)] (.int (leastV t m fr)) := by
 refine PCalls.of_code Try.func17 rfl rfl (by kernel_rfl) mixed fr17 (by show _ ≤ 69; simp) (.sc _) ?_
 have hT := trafE_inv htz
 have q1 := hT.hA
 have q2 := hT.hB
 have hfl : (fr.map ci).length = fr.length := List.length_map _
 refine pwp_seq_plain rfl fun K1 hK1 => ?_
 refine p_new rfl (e_box (n := 5) rfl rfl) ⟨rfl, by decide⟩ ?_
 refine p_aS rfl ?_
 refine p_end (hK1 _ ?_); clear hK1 K1
 refine pwp_seq_seq ?_
 refine pwp_seq_plain rfl fun K2 hK2 => ?_
 refine p_e rfl (e_move (v := .lit _ _ _) rfl) ?_
 refine p_e rfl (e_len rfl (by kernel_rfl)) ?_
 refine p_e rfl (e_faQ pl5 rfl) ?_
 refine p_e rfl (e_lH (v := .sc _) rfl (hset_self _ _ _) rfl) ?_
 refine p_e rfl (e_eq rfl rfl) ?_
 refine p_end (hK2 _ ?_); clear hK2 K2
 refine pwp_seq_cond rfl fun K3 hK3 => ⟨fun hb4 => ?_, fun hb4 => ?_⟩
 ·have hb4R := hb4; try simp only [zz] at hb4
  have hm0 : m = 0 := by omega
  refine pwp_seq_plain rfl fun K5 hK5 => ?_
  refine p_e rfl (e_assign (v := .nil) rfl) ?_
  refine p_end (hK5 _ ?_); clear hK5 K5
  refine pwp_seq_seq ?_
  refine pwp_seq_plain rfl fun K6 hK6 => ?_
  refine p_aS rfl ?_
  refine p_end (hK6 _ ?_); clear hK6 K6
  refine pwp_seq_block fun K7 hK7 => ?_
  refine pwp_loopR (α := Nat × PV) [1, 2] (fun (a8 : Nat × PV) => [(5, (a8.2)), (6, .int (a8.1))]) (fun (a8 : Nat × PV) (h : Heap) (_ : Nat → Nat) => (((a8.1) : Int) ≤ t.places) ∧ (SliceAt h 39 (a8.2) 2 (((thrL t fr (a8.1) 0)).map At.enc)) ∧ (h (2, 0) = some (.rows 5 [Traffic.enc t]))) (fun (a8 : Nat × PV) => t.places.toNat - (a8.1)) (0, .nil) (by exact ⟨rfl, rfl, trivial⟩) (by exact ⟨by omega, .nil, (hset_self _ _ _)⟩) fun a8 r9 h10 c11 hj12 => ?_
  obtain ⟨k, v⟩ := a8
  obtain ⟨hk, hihj12_0, hihj12_1⟩ := hj12
  try dsimp only at hk
  try dsimp only at hihj12_0
  try dsimp only at hihj12_1
  show pwp _ _ (loopQ _ _ _) ⟨sets (mix _ _ _) [(5, v), (6, .int k)], _, _⟩
  refine pwp_seq_seq ?_
  refine pwp_seq_plain rfl fun K13 hK13 => ?_
  refine p_mS rfl ?_
  refine p_e rfl (e_faQ pl5 rfl) ?_
  refine p_e rfl (e_lH (v := .sc _) rfl hihj12_1 rfl) ?_
  refine p_e rfl (e_lt rfl rfl) ?_
  refine p_end (hK13 _ ?_); clear hK13 K13
  refine pwp_seq_cond rfl fun K14 hK14 => ⟨fun hb15 => ?_, fun hb15 => ?_⟩
  ·have hb15R := hb15; try simp only [zz] at hb15
   have hkl : k < fr.length := by omega
   obtain ⟨x, hx⟩ : ∃ x, fr[k]? = some x := ⟨_, List.getElem?_eq_getElem hkl⟩
   have hxs := hfr x (List.mem_of_getElem? hx)
   have hxD : fr.getD k 0 = x := by rw [List.getD_eq_getElem?_getD, hx]; rfl
   have htl := thr_len (t := t) (fr := fr) (p := k) (d := 0) (by omega) (by omega) (by omega)
   refine pwp_skip ?_
   refine seq_norm (hK14 _ ?_); clear hK14 K14
   refine pwp_seq_block fun K16 hK16 => ?_
   refine pwp_seq_plain rfl fun K17 hK17 => ?_
   refine p_e rfl (e_move (v := .lit _ _ _) rfl) ?_
   refine p_mS rfl ?_
   refine p_e rfl (e_ixL rfl rfl) ?_
   refine p_e rfl (e_load (v := .sc _) rfl (by kernel_rfl) (by kernel_rfl) (by kernel_rfl) (by first | omega | (simp only [List.length_map]; omega)) (by decide) ((cell_map hx _).trans rfl)) ?_
   refine p_aS rfl ?_
   refine p_end (hK17 _ ?_); clear hK17 K17
   refine pwp_block ?_
   refine pwp_loopR (α := Nat × Int × PV) [1, 2, 6] (fun (a18 : Nat × Int × PV) => [(5, (a18.2.2)), (7, .int (a18.2.1))]) (fun (a18 : Nat × Int × PV) (h : Heap) (_ : Nat → Nat) => ((a18.2.1) = x + ((a18.1) : Int)) ∧ ((a18.2.1) ≤ t.days) ∧ (SliceAt h 39 (a18.2.2) 2 (((thrN t fr k x (a18.1))).map At.enc)) ∧ (h (2, 0) = some (.rows 5 [Traffic.enc t]))) (fun (a18 : Nat × Int × PV) => t.days.toNat - (a18.1)) (0, x, v) (by exact ⟨rfl, rfl, trivial⟩) (by exact ⟨by exact (Int.add_zero x).symm, by exact hxs.2, hihj12_0, hihj12_1⟩) fun a18 r19 h20 c21 hj22 => ?_
   obtain ⟨n, e, w⟩ := a18
   obtain ⟨he, hed, hihj22_0, hihj22_1⟩ := hj22
   try dsimp only at he
   try dsimp only at hed
   try dsimp only at hihj22_0
   try dsimp only at hihj22_1
   show pwp _ _ (loopQ _ _ _) ⟨sets (mix _ _ _) [(5, w), (7, .int e)], _, _⟩
   refine pwp_seq_seq ?_
   refine pwp_seq_plain rfl fun K23 hK23 => ?_
   refine p_mS rfl ?_
   refine p_e rfl (e_faQ pl5 rfl) ?_
   refine p_e rfl (e_lH (v := .sc _) rfl hihj22_1 rfl) ?_
   refine p_e rfl (e_lt rfl rfl) ?_
   refine p_end (hK23 _ ?_); clear hK23 K23
   refine pwp_seq_cond rfl fun K24 hK24 => ⟨fun hb25 => ?_, fun hb25 => ?_⟩
   ·have hb25R := hb25; try simp only [zz] at hb25
    have htl2 := thr_len (t := t) (fr := fr) (p := k) (d := x.toNat + n) (by omega) (by omega) (by omega)
    rw [← thr_N hxD hxs.1] at htl2
    refine pwp_skip ?_
    refine seq_norm (hK24 _ ?_); clear hK24 K24
    refine pwp_seq_block fun K26 hK26 => ?_
    refine pwp_plain rfl fun K27 hK27 => ?_
    refine p_e rfl (e_move (v := _) rfl) ?_
    refine p_mS rfl ?_
    refine p_mS rfl ?_
    refine p_e rfl (e_buildA (cs := At.enc (⟨(k : Int), e⟩ : At)) (zs := [.int 0, .int 0]) (pl := [(0, 1, false), (1, 1, false)]) (by kernel_rfl) (by kernel_rfl) (by kernel_rfl) rfl rfl (by exact ⟨by decide, rfl, Nat.le_of_ble_eq_true rfl, rfl, ⟨by decide, rfl, Nat.le_of_ble_eq_true rfl, rfl, trivial⟩⟩) rfl) ?_
    refine p_new rfl (e_bslice (rows := [At.enc ⟨(k : Int), e⟩]) (zs := [.int 0, .int 0]) (sz := 2) (by kernel_rfl) (by kernel_rfl) rfl (by kernel_rfl) (by decide) rfl rfl (by exact ⟨by decide, rfl, rfl, trivial⟩) rfl) trivial ?_
    refine p_app rfl rfl rfl (hihj22_0.keep fun _ => (hset_ne (key_ne rfl)).trans (rfl)) (src_ref (hset_self _ _ _) rfl) (by kernel_rfl) (by simp only [List.length_append, List.length_map, List.length_nil, List.length_cons]; omega) fun v28 h29 c30 hs31 hf32 => ?_
    have ho33 := (hf32 (2, _) (key_ne rfl) (fun _ _ => key_ne rfl)).trans ((hset_ne (key_ne rfl)).trans hihj22_1)
    have ho34 := (hf32 (38, _) (key_ne rfl) (fun _ _ => key_ne rfl)).trans (hset_self _ _ _)
    refine p_e rfl (e_assign (v := _) rfl) ?_
    refine p_end (hK27 _ ?_); clear hK27 K27
    refine block_norm ?_
    refine seq_norm (hK26 _ ?_); clear hK26 K26
    refine pwp_plain rfl fun K35 hK35 => ?_
    refine p_mS rfl ?_
    refine p_e rfl (e_adL rfl rfl) ?_
    refine p_aS rfl ?_
    refine p_end (hK35 _ ?_); clear hK35 K35
    exact loop_again ((n + 1, (e + (1)), v28)) (by show _ < _; simp only; omega) ⟨rfl, rfl, rfl, trivial⟩ ⟨rfl, rfl, trivial⟩ (by exact ⟨by exact nx_e he, by show _ + 1 ≤ _; omega, (SliceAt.to hs31 (by rw [thrN_s he, List.map_append]; rfl)), ho33⟩)
   ·have hb25R := hb25; try simp only [zz] at hb25
    have hne := thrN_e (t := t) hxD hxs.1 (n := n) (by omega)
    refine pwp_exit ?_
    refine exit_seq ?_
    clear hK24 K24
    refine exit_loop ?_
    refine exit_here ?_
    refine block_norm ?_
    refine seq_norm (hK16 _ ?_); clear hK16 K16
    refine pwp_plain rfl fun K36 hK36 => ?_
    refine p_mS rfl ?_
    refine p_e rfl (e_adL rfl rfl) ?_
    refine p_aS rfl ?_
    refine p_end (hK36 _ ?_); clear hK36 K36
    exact loop_again ((k + 1, w)) (by show _ < _; simp only; omega) ⟨rfl, rfl, trivial⟩ ⟨rfl, rfl, trivial⟩ (by exact ⟨by omega, (SliceAt.to hihj22_0 (by rw [hne])), hihj22_1⟩)
  ·have hb15R := hb15; try simp only [zz] at hb15
   have hkp : k = t.places.toNat := by omega
   refine pwp_exit ?_
   refine exit_seq ?_
   clear hK14 K14
   refine exit_loop ?_
   refine exit_here ?_
   refine seq_norm (hK7 _ ?_); clear hK7 K7
   refine pwp_seq_plain rfl fun K37 hK37 => ?_
   refine p_e rfl (e_loadHA (cs := Traffic.enc (t)) (n := 5) rfl hihj12_1 (by kernel_rfl) (by kernel_rfl) (by kernel_rfl) (by exact Nat.zero_lt_one) (by decide) rfl) ?_
   refine p_e rfl (e_move (v := _) rfl) ?_
   refine p_call rfl (.cons (inn_agg (Traffic.pure _)) (.cons (SliceAt.inn (rows' := ((thrL t fr k 0)).map At.enc) hihj12_0 (by simp) (by (intro row hr; first | exact pure_map At.pure row hr | skip; rcases List.mem_append.1 hr with hr | hr; exact pure_map ci_pure row hr; simp at hr; subst hr; exact ci_pure _))) .nil)) (refCutC t _ htz (by have := thr_len (t := t) (fr := fr) (p := k) (d := 0) (by omega) (by omega) (by omega); omega)) ?_
   refine p_e rfl (e_move (v := .tup _) rfl) ?_
   refine p_e rfl (e_ext (v := .sc _) rfl (by simp) rfl) ?_
   refine p_e rfl (e_ext (v := .sc _) rfl (by simp) rfl) ?_
   refine p_aS rfl ?_
   refine p_aS rfl ?_
   refine p_end (hK37 _ ?_); clear hK37 K37
   refine pwp_seq_plain rfl fun K38 hK38 => ?_
   refine p_mS rfl ?_
   refine p_aS rfl ?_
   refine p_end (hK38 _ ?_); clear hK38 K38
   refine pwp_ret ?_
   refine ret_seq ?_
   refine end1 (v := .sc _) rfl ?_
   first
     | exact out_i (lc_0 hm0 hkp)
     | exact out_i (lc_e hb hde)
 ·have hb4R := hb4; try simp only [zz] at hb4
  refine pwp_skip ?_
  refine seq_norm (hK3 _ ?_); clear hK3 K3
  obtain ⟨m', rfl⟩ : ∃ m', m = m' + 1 := ⟨m - 1, by omega⟩
  refine pwp_seq_plain rfl fun K39 hK39 => ?_
  refine p_aS rfl ?_
  refine p_end (hK39 _ ?_); clear hK39 K39
  refine pwp_seq_seq ?_
  refine pwp_seq_plain rfl fun K40 hK40 => ?_
  refine p_aS rfl ?_
  refine p_end (hK40 _ ?_); clear hK40 K40
  refine pwp_seq_block fun K41 hK41 => ?_
  refine pwp_loopR (α := Nat × Int) [1, 2] (fun (a42 : Nat × Int) => [(10, .int (a42.2)), (11, .int (a42.1))]) (fun (a42 : Nat × Int) (h : Heap) (_ : Nat → Nat) => ((a42.1) ≤ t.days.toNat + 1) ∧ ((a42.2) = lfold t m' fr (a42.1)) ∧ (h (2, 0) = some (.rows 5 [Traffic.enc t]))) (fun (a42 : Nat × Int) => t.days.toNat + 1 - (a42.1)) (0, (-1)) (by exact ⟨rfl, rfl, trivial⟩) (by exact ⟨by omega, by exact rfl, (hset_self _ _ _)⟩) fun a42 r43 h44 c45 hj46 => ?_
  obtain ⟨d, b⟩ := a42
  obtain ⟨hd, hb, hihj46_0⟩ := hj46
  try dsimp only at hd
  try dsimp only at hb
  try dsimp only at hihj46_0
  show pwp _ _ (loopQ _ _ _) ⟨sets (mix _ _ _) [(10, .int b), (11, .int d)], _, _⟩
  refine pwp_seq_seq ?_
  refine pwp_seq_plain rfl fun K47 hK47 => ?_
  refine p_mS rfl ?_
  refine p_e rfl (e_faQ pl5 rfl) ?_
  refine p_e rfl (e_lH (v := .sc _) rfl hihj46_0 rfl) ?_
  refine p_e rfl (e_le rfl rfl) ?_
  refine p_end (hK47 _ ?_); clear hK47 K47
  refine pwp_seq_cond rfl fun K48 hK48 => ⟨fun hb49 => ?_, fun hb49 => ?_⟩
  ·have hb49R := hb49; try simp only [zz] at hb49
   refine pwp_skip ?_
   refine seq_norm (hK48 _ ?_); clear hK48 K48
   refine pwp_seq_block fun K50 hK50 => ?_
   refine pwp_seq_gops rfl fun K51 hK51 => ?_
   refine s_begin ?_
   refine s_step [2] (by simp) rfl rfl rfl rfl (e_loadHA (cs := Traffic.enc (t)) (n := 5) rfl hihj46_0 (by kernel_rfl) (by kernel_rfl) (by kernel_rfl) (by exact Nat.zero_lt_one) (by decide) rfl) trivial ?_
   refine s_e rfl (e_move (v := .lit _ _ _) rfl) ?_
   refine s_callN (args := [.lit _ _ _]) [] (by intro k hk; simp [keysOf, Go.Pv.keyOf] at hk) rfl rfl rfl rfl (.cons inn_lit .nil) (copyN _ (by omega)) ?_
   refine s_e rfl (e_move (v := .sc _) rfl) ?_
   refine s_new [] (by simp) rfl rfl rfl rfl (e_bslice (rows := [ci (d : Int)]) (zs := [.int 0]) (sz := 1) (by kernel_rfl) (by kernel_rfl) rfl (by kernel_rfl) (by decide) rfl rfl (by exact ⟨by decide, rfl, rfl, trivial⟩) rfl) trivial ?_
   refine s_app [55, 57] [55, 58] (by simp) (by simp) (by simp) rfl rfl rfl (.ofRef ((hset_ne (key_ne rfl)).trans (hset_self _ _ _)) rfl) (SrcAt.ref (hset_self _ _ _) rfl) rfl (by kernel_rfl) (by simp only [List.length_append, List.length_map, List.length_nil, List.length_cons]; omega) fun v52 h53 c54 hs55 hf56 => ?_
   have ho57 := (hf56 (2, _) (key_ne rfl) (fun _ _ => key_ne rfl)).trans ((hset_ne (key_ne rfl)).trans ((hset_ne (key_ne rfl)).trans hihj46_0))
   have ho58 := (hf56 (57, _) (key_ne rfl) (fun _ _ => key_ne rfl)).trans (hset_self _ _ _)
   refine s_call (args := [.agg _, v52]) [58] (by intro k hk; simp only [List.flatMap_cons, List.flatMap_nil, List.append_nil, List.nil_append, keysOf_lit] at hk; exact List.mem_cons.2 (by have := sl_keys hs55 k hk; first | exact .inl this | exact .inr (by simp [this]))) rfl rfl rfl rfl (.cons (inn_agg (Traffic.pure _)) (.cons (SliceAt.inn (rows' := ((fr ++ [(d : Int)])).map ci) hs55 (by simp) (by (intro row hr; first | exact pure_map At.pure row hr | skip; rcases List.mem_append.1 hr with hr | hr; exact pure_map ci_pure row hr; simp at hr; subst hr; exact ci_pure _))) .nil)) (IH m' (by omega) ((fr ++ [(d : Int)])) (lc_b hfr (by omega)) (by simp only [List.length_append, List.length_cons, List.length_nil]; omega)) ?_
   refine s_e rfl (e_assign (v := .sc _) rfl) ?_
   refine s_end (ds := []) (by kernel_rfl) (by kernel_rfl) (hK51 _ ?_); clear hK51 K51
   refine pwp_seq_gops rfl fun K59 hK59 => ?_
   refine g_begin ?_
   refine g_mS rfl rfl ?_
   refine g_e rfl (e_lt rfl rfl) ?_
   refine g_mS rfl rfl ?_
   refine g_cases (fun hb60 => ?_) (fun hb60 => ?_)
   ·have hb60R := hb60; try simp only [zz] at hb60
    iterate 3 refine g_skip rfl rfl rfl ?_
    refine g_pT rfl rfl rfl ?_
    refine g_end (ds := [63, 64, 65]) rfl rfl (hK59 _ ?_); clear hK59 K59
    refine pwp_cond (t := true) rfl (fun _ => ?_) nofun
    refine pwp_plain rfl fun K61 hK61 => ?_
    refine p_mS rfl ?_
    refine p_aS rfl ?_
    refine p_end (hK61 _ ?_); clear hK61 K61
    refine block_norm ?_
    refine seq_norm (hK50 _ ?_); clear hK50 K50
    refine pwp_plain rfl fun K62 hK62 => ?_
    refine p_mS rfl ?_
    refine p_e rfl (e_adL rfl rfl) ?_
    refine p_aS rfl ?_
    refine p_end (hK62 _ ?_); clear hK62 K62
    exact loop_again ((d + 1, (leastV t m' ((fr ++ [(d : Int)]))))) (by show _ < _; simp only; omega) ⟨rfl, rfl, trivial⟩ ⟨rfl, rfl, trivial⟩ (by exact ⟨by omega, by first | exact lf_t hb (by omega) | exact lf_f hb (by omega), ho57⟩)
   ·have hb60R := hb60; try simp only [zz] at hb60
    refine g_mS rfl rfl ?_
    refine g_mS rfl rfl ?_
    refine g_e rfl (e_lt rfl rfl) ?_
    refine g_pF rfl rfl rfl ?_
    refine g_end (ds := [63, 64, 65]) rfl rfl (hK59 _ ?_); clear hK59 K59
    refine pwp_cond rfl (fun hb63 => ?_) (fun hb63 => ?_)
    ·have hb63R := hb63; try simp only [zz] at hb63
     refine pwp_plain rfl fun K64 hK64 => ?_
     refine p_mS rfl ?_
     refine p_aS rfl ?_
     refine p_end (hK64 _ ?_); clear hK64 K64
     refine block_norm ?_
     refine seq_norm (hK50 _ ?_); clear hK50 K50
     refine pwp_plain rfl fun K65 hK65 => ?_
     refine p_mS rfl ?_
     refine p_e rfl (e_adL rfl rfl) ?_
     refine p_aS rfl ?_
     refine p_end (hK65 _ ?_); clear hK65 K65
     exact loop_again ((d + 1, (leastV t m' ((fr ++ [(d : Int)]))))) (by show _ < _; simp only; omega) ⟨rfl, rfl, trivial⟩ ⟨rfl, rfl, trivial⟩ (by exact ⟨by omega, by first | exact lf_t hb (by omega) | exact lf_f hb (by omega), ho57⟩)
    ·have hb63R := hb63; try simp only [zz] at hb63
     refine pwp_skip ?_
     refine block_norm ?_
     refine seq_norm (hK50 _ ?_); clear hK50 K50
     refine pwp_plain rfl fun K66 hK66 => ?_
     refine p_mS rfl ?_
     refine p_e rfl (e_adL rfl rfl) ?_
     refine p_aS rfl ?_
     refine p_end (hK66 _ ?_); clear hK66 K66
     exact loop_again ((d + 1, b)) (by show _ < _; simp only; omega) ⟨rfl, rfl, trivial⟩ ⟨rfl, rfl, trivial⟩ (by exact ⟨by omega, by first | exact lf_t hb (by omega) | exact lf_f hb (by omega), ho57⟩)
  ·have hb49R := hb49; try simp only [zz] at hb49
   have hde : d = t.days.toNat + 1 := by omega
   refine pwp_exit ?_
   refine exit_seq ?_
   clear hK48 K48
   refine exit_loop ?_
   refine exit_here ?_
   refine seq_norm (hK41 _ ?_); clear hK41 K41
   refine pwp_seq_plain rfl fun K67 hK67 => ?_
   refine p_mS rfl ?_
   refine p_aS rfl ?_
   refine p_end (hK67 _ ?_); clear hK67 K67
   refine pwp_ret ?_
   refine end1 (v := .sc _) rfl ?_
   first
     | exact out_i (lc_0 hm0 hkp)
     | exact out_i (lc_e hb hde)

theorem leastC (t : Traffic) (htz : trafE t = 0) : ∀ (m : Nat) (fr : List Int), (∀ x ∈ fr, 0 ≤ x ∧ x ≤ t.days) → (fr.length : Int) + m = t.places → PCalls Try.prog 17 [.agg t.enc, .lit true 1 (fr.map ci)] (.int (leastV t m fr)) := fun m => by
 induction m using Nat.strongRecOn with
 | ind m ih => exact fun fr hfr hm => leastR t htz fr hfr m hm ih
end Go.Proofs.Ytigdmkhdmbbfiaa
