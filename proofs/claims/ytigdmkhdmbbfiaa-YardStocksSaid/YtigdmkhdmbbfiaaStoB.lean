import Derived.Test.YtigdmkhdmbbfiaaStoA
import Derived.Test.YtigdmkhdmbbfiaaSrtB
/- The store of a stock. No conditions. -/
set_option linter.unusedSimpArgs false
set_option linter.unusedVariables false
set_option maxRecDepth 100000
namespace Go.Proofs.Ytigdmkhdmbbfiaa
open Go Go.Pv

/-! ### The store: a map by shelves -/
def kx (k : Shelf) : PV := .agg k.enc
theorem kx_eq (a b : Shelf) : keyEq (kx a) (kx b) = decide (a = b) := by
  show scsEq a.enc b.enc = _
  rw [Bool.eq_iff_iff]
  cases a; cases b
  simp [Shelf.enc, scsEq, scEq, and_assoc]
theorem kx_ok (a : Shelf) : keyOk Try.prog 124 (kx a) := by
  show keyAgg Try.prog 124 a.enc = true
  kernel_rfl
theorem shOf_kx : ∀ (m : Sto), (∀ e ∈ m, e.1.part.size ≤ 1000000) → shOf (entsOf kx PV.int m) = some (m.map fun e => kSh e.1)
  | [], _ => rfl
  | e :: m, h => by
    have ih := shOf_kx m fun x hx => h x (List.mem_cons_of_mem _ hx)
    have h1 : e.1.part.data.size ≤ 1000000 := h e List.mem_cons_self
    show shOf ((kx e.1, PV.int e.2) :: entsOf kx PV.int m) = _
    simp only [shOf, kx, Shelf.enc, ih]
    rw [show Nat.ble e.1.part.data.size 1000000 = true by rw [Nat.ble_eq]; exact h1]
    rfl
theorem shRows_kx (m : Sto) : shRows (sortSh (m.map fun e => kSh e.1)) = (keysS m).map Shelf.enc := by
  simp only [shRows, keysS, List.map_map]; rfl
theorem sumS_size {xs : List Stock} (hs : ∀ x ∈ xs, x.part.size ≤ 30) : ∀ e ∈ sumS [] xs, e.1.part.size ≤ 1000000 := fun e he => by
  have : e.1 ∈ (sumS [] xs).map (·.1) := List.mem_map.2 ⟨e, he, rfl⟩
  rw [sumS_keys] at this
  rcases this with h | h
  · simp at h
  · obtain ⟨x, hx, hk⟩ := List.mem_map.1 h
    rw [← hk]; exact Nat.le_trans (hs x hx) (by decide)
theorem aSet_le {α β : Type} [DecidableEq α] (a : α) (b : β) : ∀ l : List (α × β), (aSet a b l).length ≤ l.length + 1
  | [] => by simp [aSet]
  | e :: l => by
    by_cases he : a = e.1
    · rw [aSet_eq he]; simp
    · rw [aSet_ne he]; simpa using aSet_le a b l
theorem sumS_len : ∀ (xs : List Stock) (m : Sto), (sumS m xs).length ≤ m.length + xs.length
  | [], m => Nat.le_refl _
  | x :: xs, m => by
    have := sumS_len xs (aSet (keyS x) (getS (keyS x) m + x.count) m)
    have := aSet_le (keyS x) (getS (keyS x) m + x.count) m
    simp only [sumS, List.length_cons]; omega
theorem keysS_len (m : Sto) : (keysS m).length = m.length := by
  unfold keysS; rw [List.length_map, (sortSh_perm _).length_eq, List.length_map]
theorem old_ne {a b g : Nat} {n : Nat} (hc : n ≤ g) (h5 : a = 5 → b < n) : ((a, b) : Key) ≠ (5, g) := fun e => by
  cases e
  have := h5 rfl; omega
theorem old6 {a b q : Nat} (h : a = 6 → b < q) : ((a, b) : Key) ≠ (6, q) := fun e => by
  cases e
  have := h rfl; omega
def StoR (xs : List Stock) (h0 : Heap) (c0 : Nat → Nat) (v : PV) (h : Heap) : Prop := v = .map (6, c0 6) ∧ MapAt h (6, c0 6) (entsOf kx PV.int (sumS [] xs)) ∧ ∀ a b, (a = 5 → b < c0 5) → (a = 6 → b < c0 6) → h (a, b) = h0 (a, b)

theorem frH64 : (inFrame Try.f64.ntmps (Try.f64.body.getD .skip) && Try.f64.results.toList.all (resScope Try.f64.ntmps)) = true := by kernel_rfl
theorem storeOf (xs : List Stock) (h0 : Heap) (c0 : Nat → Nat) (hl : xs.length ≤ 200) (hc : ∀ x ∈ xs, 0 ≤ x.count ∧ x.count ≤ 1000000) : HCallsR Try.prog 64 [.lit true 4 (xs.map Stock.enc)] h0 c0 (fun v h _ => StoR xs h0 c0 v h) := by
  refine HCallsR.of_code Try.func64 rfl rfl (by kernel_rfl) mixed frH64 (by show _ ≤ 29; simp) ?_
  refine pwp_seq_plain rfl fun K1 hK1 => ?_
  refine p_step rfl (e_assign (v := .sc _) rfl) trivial ?_
  refine p_end (hK1 _ ?_); clear hK1 K1
  refine pwp_seq_plain rfl fun K2 hK2 => ?_
  refine p_new rfl (e_mkmap) trivial ?_
  refine p_step rfl (e_assign (v := .map _) rfl) trivial ?_
  refine p_end (hK2 _ ?_); clear hK2 K2
  refine pwp_seq_seq ?_
  refine pwp_seq_plain rfl fun K3 hK3 => ?_
  refine p_step rfl (e_move (v := .lit _ _ _) rfl) trivial ?_
  refine p_step rfl (e_len rfl (by kernel_rfl)) trivial ?_
  refine p_step rfl (e_move (v := .sc _) rfl) trivial ?_
  refine p_end (hK3 _ ?_); clear hK3 K3
  refine pwp_seq_block fun K4 hK4 => ?_
  refine pwp_loopR (α := Nat × Sto) [3, 7, 8] (fun (a5 : Nat × Sto) => [(9, .int (a5.1))]) (fun (a5 : Nat × Sto) (h : Heap) (c : Nat → Nat) => ((a5.1) ≤ xs.length) ∧ (sumS [] xs = sumS (a5.2) (xs.drop (a5.1))) ∧ (c0 5 ≤ c 5) ∧ (∀ a b, (a = 5 → b < c0 5) → (a = 6 → b < c0 6) → h (a, b) = h0 (a, b)) ∧ (∀ q, 0 ≤ getS q (a5.2) ∧ getS q (a5.2) ≤ 1000000 * ((a5.1) : Int)) ∧ (MapAt h (6, c0 6) (entsOf kx PV.int (a5.2)))) (fun (a5 : Nat × Sto) => xs.length - (a5.1)) (0, []) (by exact ⟨rfl, trivial⟩) (by exact ⟨by exact Nat.zero_le _, by exact rfl, by (simp [cset]), by exact fun a b _ h6 => hset_ne (old6 h6), by (intro q; simp [getS, aGet]), MapAt.new⟩) fun a5 r6 h7 c8 hj9 => ?_
  obtain ⟨k, m⟩ := a5
  obtain ⟨hk, hinv, hcc, hfr, hbd, hihj9_0⟩ := hj9
  try dsimp only at hk
  try dsimp only at hinv
  try dsimp only at hcc
  try dsimp only at hfr
  try dsimp only at hbd
  try dsimp only at hihj9_0
  show pwp _ _ (loopQ _ _ _) ⟨sets (mix _ _ _) [(9, .int k)], _, _⟩
  refine pwp_seq_plain rfl fun K10 hK10 => ?_
  refine p_step rfl (e_lt rfl rfl) trivial ?_
  refine p_end (hK10 _ ?_); clear hK10 K10
  refine pwp_seq_cond rfl fun K11 hK11 => ⟨fun hb12 => ?_, fun hb12 => ?_⟩
  ·have hb12R := hb12; try simp only [z1, z2, z3, z4, z5, z6, ne_eq, z7, z8, z9, z10, z11, z12] at hb12
   obtain ⟨x, hx, hd, ht⟩ := get_lt (xs := xs) (i := k) (by omega)
   rw [hd] at hinv; simp only [sumS] at hinv
   have hxc := hc x (List.mem_of_getElem? hx)
   have hgb : 0 ≤ ((aGet (⟨x.part, x.place, x.state⟩ : Shelf) m).getD 0) ∧ ((aGet (⟨x.part, x.place, x.state⟩ : Shelf) m).getD 0) ≤ 1000000 * (k : Int) := hbd (⟨x.part, x.place, x.state⟩ : Shelf)
   refine pwp_skip ?_
   refine seq_norm (hK11 _ ?_); clear hK11 K11
   refine pwp_seq_block fun K13 hK13 => ?_
   refine pwp_seq_plain rfl fun K14 hK14 => ?_
   refine p_step rfl (e_ixa rfl rfl (by kernel_rfl) (by kernel_rfl) (by simp only [List.length_map]; omega)) trivial ?_
   refine p_step rfl (e_loadA (n := 4) rfl (by kernel_rfl) (by kernel_rfl) (by kernel_rfl) (by simp only [List.length_map]; omega) (by decide) (by first | exact agg_map hx rfl)) trivial ?_
   refine p_new rfl (e_alloc (cs := [.str ByteArray.empty, .int 0, .int 0, .int 0]) (n := 4) (by kernel_rfl) rfl (by decide)) (ob_alloc (by decide)) ?_
   refine p_store rfl (e_storeA rfl (hset_self _ _ _) rfl rfl rfl (by kernel_rfl) rfl (by kernel_rfl)) trivial ?_
   refine p_end (hK14 _ ?_); clear hK14 K14
   refine pwp_gops rfl fun K15 hK15 => ?_
   refine s_begin ?_
   refine s_step [] (by simp) rfl rfl rfl rfl (e_move (v := .map _) rfl) trivial ?_
   refine s_step [] (by simp) rfl rfl rfl rfl (e_faP (pl := [(0, 1, false), (1, 1, false), (2, 1, false), (3, 1, false)]) rfl (by kernel_rfl) (by kernel_rfl) (by decide) rfl) trivial ?_
   refine s_step [5] (by simp) rfl rfl rfl rfl (e_loadH (v := .sc _) rfl (hset_self _ _ _) (by kernel_rfl) (by kernel_rfl) (by kernel_rfl) (by exact Nat.zero_lt_one) (by decide) rfl) trivial ?_
   refine s_step [] (by simp) rfl rfl rfl rfl (e_faP (pl := [(0, 1, false), (1, 1, false), (2, 1, false), (3, 1, false)]) rfl (by kernel_rfl) (by kernel_rfl) (by decide) rfl) trivial ?_
   refine s_step [5] (by simp) rfl rfl rfl rfl (e_loadH (v := .sc _) rfl (hset_self _ _ _) (by kernel_rfl) (by kernel_rfl) (by kernel_rfl) (by exact Nat.zero_lt_one) (by decide) rfl) trivial ?_
   refine s_step [] (by simp) rfl rfl rfl rfl (e_faP (pl := [(0, 1, false), (1, 1, false), (2, 1, false), (3, 1, false)]) rfl (by kernel_rfl) (by kernel_rfl) (by decide) rfl) trivial ?_
   refine s_step [5] (by simp) rfl rfl rfl rfl (e_loadH (v := .sc _) rfl (hset_self _ _ _) (by kernel_rfl) (by kernel_rfl) (by kernel_rfl) (by exact Nat.zero_lt_one) (by decide) rfl) trivial ?_
   refine s_step [] (by simp) rfl rfl rfl rfl (e_build (zs := [.str ByteArray.empty, .int 0, .int 0]) (pl := [(0, 1, false), (1, 1, false), (2, 1, false)]) (by kernel_rfl) (by kernel_rfl) (by kernel_rfl) rfl rfl (by exact ⟨by decide, rfl, Nat.le_of_ble_eq_true rfl, rfl, ⟨by decide, rfl, Nat.le_of_ble_eq_true rfl, rfl, ⟨by decide, rfl, Nat.le_of_ble_eq_true rfl, rfl, trivial⟩⟩⟩) rfl) trivial ?_
   refine s_step [6] (by simp) rfl rfl rfl rfl (e_look (kt := 124) (et := 3) (f := kx) (g := PV.int) (a := (⟨x.part, x.place, x.state⟩ : Shelf)) (l := m) (z := 0) kx_eq kx_ok rfl rfl (MapAt.keep hihj9_0 ((hset_ne (key_ne rfl)).trans ((hset_ne (key_ne rfl)).trans (rfl)))) (by kernel_rfl) (by kernel_rfl) (by first | rfl | kernel_rfl)) trivial ?_
   refine s_step [] (by simp) rfl rfl rfl rfl (e_faP (pl := [(0, 1, false), (1, 1, false), (2, 1, false), (3, 1, false)]) rfl (by kernel_rfl) (by kernel_rfl) (by decide) rfl) trivial ?_
   refine s_step [5] (by simp) rfl rfl rfl rfl (e_loadH (v := .sc _) rfl (hset_self _ _ _) (by kernel_rfl) (by kernel_rfl) (by kernel_rfl) (by exact Nat.zero_lt_one) (by decide) rfl) trivial ?_
   refine s_step [] (by simp) rfl rfl rfl rfl (e_add rfl rfl (by omega)) trivial ?_
   refine s_mentry (kt := 124) (et := 3) (m := 6) (f := kx) (g := PV.int) (a := (⟨x.part, x.place, x.state⟩ : Shelf)) (l := m) (z := 0) kx_eq kx_ok rfl rfl rfl rfl rfl (MapAt.keep hihj9_0 ((hset_ne (key_ne rfl)).trans ((hset_ne (key_ne rfl)).trans (rfl)))) (by kernel_rfl) (by kernel_rfl) (by first | rfl | kernel_rfl) (fun _ => rfl) fun h16 sp17 hst18 hfr19 => ?_
   have ho20 := (hfr19 (5, _) (key_ne rfl)).trans (hset_self _ _ _)
   refine s_step [] (by simp) rfl rfl rfl rfl (e_ext (v := .sc _) rfl (by simp) rfl) trivial ?_
   refine s_estore (f := kx) (g := PV.int) (a := (⟨x.part, x.place, x.state⟩ : Shelf)) (b := (((aGet (⟨x.part, x.place, x.state⟩ : Shelf) m).getD 0) + x.count)) (u := ((aGet (⟨x.part, x.place, x.state⟩ : Shelf) m).getD 0)) (l := m) rfl rfl rfl rfl hst18 rfl fun h21 hm22 hfr23 => ?_
   have ho24 := (hfr23 (5, _) (key_ne rfl)).trans ho20
   refine s_end (ds := []) (by kernel_rfl) (by kernel_rfl) (hK15 _ ?_); clear hK15 K15
   refine block_norm ?_
   refine seq_norm (hK13 _ ?_); clear hK13 K13
   refine pwp_plain rfl fun K25 hK25 => ?_
   refine p_step rfl (e_add rfl rfl (by omega)) trivial ?_
   refine p_step rfl (e_move (v := .sc _) rfl) trivial ?_
   refine p_end (hK25 _ ?_); clear hK25 K25
   exact loop_again ((k + 1, aSet (⟨x.part, x.place, x.state⟩ : Shelf) (((aGet (⟨x.part, x.place, x.state⟩ : Shelf) m).getD 0) + x.count) m)) (by show _ < _; simp only; omega) ⟨rfl, rfl, rfl, trivial⟩ ⟨rfl, trivial⟩ (by exact ⟨by show _ + 1 ≤ _; omega, by exact hinv, by (first | (simp [cset]; done) | (simp [cset]; omega)), by exact fun a b h5 h6 => (hfr23 _ (old6 h6)).trans ((hfr19 _ (old6 h6)).trans ((hset_ne (old_ne hcc h5)).trans ((hset_ne (old_ne hcc h5)).trans (hfr a b h5 h6)))), by (show ∀ q, 0 ≤ getS q (aSet (⟨x.part, x.place, x.state⟩ : Shelf) (((aGet (⟨x.part, x.place, x.state⟩ : Shelf) m).getD 0) + x.count) m) ∧ getS q (aSet (⟨x.part, x.place, x.state⟩ : Shelf) (((aGet (⟨x.part, x.place, x.state⟩ : Shelf) m).getD 0) + x.count) m) ≤ 1000000 * ((k + 1 : Nat) : Int); intro q; have hq := hbd q; rw [getS_aSet]; split <;> omega), hm22⟩)
  ·have hb12R := hb12; try simp only [z1, z2, z3, z4, z5, z6, ne_eq, z7, z8, z9, z10, z11, z12] at hb12
   obtain rfl : k = xs.length := by omega
   rw [List.drop_length] at hinv; simp only [sumS] at hinv
   refine pwp_exit ?_
   refine exit_seq ?_
   clear hK11 K11
   refine exit_loop ?_
   refine exit_here ?_
   refine seq_norm (hK4 _ ?_); clear hK4 K4
   refine pwp_seq_plain rfl fun K26 hK26 => ?_
   refine p_step rfl (e_move (v := .map _) rfl) trivial ?_
   refine p_step rfl (e_assign (v := .map _) rfl) trivial ?_
   refine p_end (hK26 _ ?_); clear hK26 K26
   refine pwp_ret ?_
   refine end1 (v := .map _) rfl ?_
   exact ⟨rfl, by rw [hinv]; exact hihj9_0, hfr⟩

end Go.Proofs.Ytigdmkhdmbbfiaa

/- The normal form of a stock. No conditions. -/
set_option linter.unusedSimpArgs false
set_option linter.unusedVariables false
set_option maxRecDepth 100000
namespace Go.Proofs.Ytigdmkhdmbbfiaa
open Go Go.Pv

def LR (m : Sto) (v : PV) (h : Heap) : Prop := ∃ u, v = .tup [u, .int (listS m).1] ∧ SliceAt h 37 u 4 ((listS m).2.map Stock.enc)
theorem lr_out {m : Sto} {h : Heap} {z : Int} {acc : List Stock} {u : PV} (hr : listS m = (z, acc)) (hs : SliceAt h 37 u 4 (acc.map Stock.enc)) : LR m (.tup [u, .int z]) h := ⟨u, by rw [hr], by rw [hr]; exact hs⟩
theorem lr_out0 {m : Sto} {h : Heap} {z : Int} (hr : listS m = (z, [])) : LR m (.tup [.nil, .int z]) h := ⟨_, by rw [hr], by rw [hr]; exact .nil⟩
theorem ls_8 {m : Sto} (h : lstG m [] (keysS m) = (8, [])) : listS m = (8, []) := by unfold listS; rw [h]; rfl
theorem ls_big {m : Sto} {acc : List Stock} (h : lstG m [] (keysS m) = (0, acc)) (h2 : 200 < acc.length) : listS m = (8, []) := by unfold listS; rw [h]; simp [h2]
theorem ls_ok {m : Sto} {acc : List Stock} (h : lstG m [] (keysS m) = (0, acc)) (h2 : ¬ 200 < acc.length) : listS m = (0, acc) := by unfold listS; rw [h]; simp [h2]
theorem lg_8 {m : Sto} {acc : List Stock} {k : Shelf} {ks : List Shelf} {R : Int × List Stock} (h : R = lstG m acc (k :: ks)) (h2 : 1000000 < (aGet k m).getD 0) : R = (8, []) := by rw [h, lstG, if_pos (show 1000000 < getS k m from h2)]
theorem lg_t {m : Sto} {acc : List Stock} {k : Shelf} {ks : List Shelf} {R : Int × List Stock} (h : R = lstG m acc (k :: ks)) (h2 : ¬ 1000000 < (aGet k m).getD 0) (h3 : 0 < (aGet k m).getD 0) : R = lstG m (acc ++ [⟨k.part, k.place, k.state, (aGet k m).getD 0⟩]) ks := by rw [h, lstG, if_neg (show ¬ 1000000 < getS k m from h2), if_pos (show 0 < getS k m from h3)]; rfl
theorem lg_f {m : Sto} {acc : List Stock} {k : Shelf} {ks : List Shelf} {R : Int × List Stock} (h : R = lstG m acc (k :: ks)) (h2 : ¬ 1000000 < (aGet k m).getD 0) (h3 : ¬ 0 < (aGet k m).getD 0) : R = lstG m acc ks := by rw [h, lstG, if_neg (show ¬ 1000000 < getS k m from h2), if_neg (show ¬ 0 < getS k m from h3)]
def mkRG (km : Key) (h0 : Heap) (c0 : Nat → Nat) (v : PV) (h : Heap) : Prop := v = .func (.func 111) [] [.ptr (1, c0 1) 1 0 0] ∧ h (1, c0 1) = some (.rows 1 [[.map km]]) ∧ ∀ a b, Nat.beq a 1 = false → h (a, b) = h0 (a, b)

theorem frH95 : (inFrame Try.f95.ntmps (Try.f95.body.getD .skip) && Try.f95.results.toList.all (resScope Try.f95.ntmps)) = true := by kernel_rfl
theorem mapsKeysG (km : Key) (h0 : Heap) (c0 : Nat → Nat) : HCallsR Try.prog 95 [.map km] h0 c0 (fun v h _ => mkRG km h0 c0 v h) := by
  refine HCallsR.of_code Try.func95 rfl rfl (by kernel_rfl) mixed frH95 (by show _ ≤ 4; simp) ?_
  refine pwp_seq_plain rfl fun K1 hK1 => ?_
  refine p_new rfl (e_box1 rfl rfl) ⟨rfl, by decide⟩ ?_
  refine p_step rfl (e_assign (v := .sc _) rfl) trivial ?_
  refine p_end (hK1 _ ?_); clear hK1 K1
  refine pwp_seq_plain rfl fun K2 hK2 => ?_
  refine p_step rfl (e_mkf rfl) trivial ?_
  refine p_step rfl (e_assign (v := .func _ _ _) rfl) trivial ?_
  refine p_end (hK2 _ ?_); clear hK2 K2
  refine pwp_ret ?_
  refine end1 (v := .func _ _ _) rfl ?_
  exact ⟨rfl, (hset_self _ _ _), fun a b h1 => by simp only [hset_ne (key_ne h1)]⟩

theorem frH65 : (inFrame Try.f65.ntmps (Try.f65.body.getD .skip) && Try.f65.results.toList.all (resScope Try.f65.ntmps)) = true := by kernel_rfl
theorem listO (m : Sto) (q : Nat) (h0 : Heap) (c0 : Nat → Nat) (hm0 : MapAt h0 (6, q) (entsOf kx PV.int m)) (hsz : ∀ e ∈ m, e.1.part.size ≤ 1000000) (hlz : m.length ≤ 1000000) : HCallsR Try.prog 65 [.map (6, q)] h0 c0 (fun v h _ => LR m v h) := by
  refine HCallsR.of_code Try.func65 rfl rfl (by kernel_rfl) mixed frH65 (by show _ ≤ 43; simp) ?_
  have hkl := keysS_len m
  refine pwp_seq_plain rfl fun K1 hK1 => ?_
  refine p_step rfl (e_assign (v := .nil) rfl) trivial ?_
  refine p_step rfl (e_assign (v := .sc _) rfl) trivial ?_
  refine p_end (hK1 _ ?_); clear hK1 K1
  refine pwp_seq_plain rfl fun K2 hK2 => ?_
  refine p_step rfl (e_move (v := .map _) rfl) trivial ?_
  refine p_hcall rfl (mapsKeysG _ _ _) fun v3 h4 c5 hR6 => ?_
  obtain ⟨rfl, hb7, hf8⟩ := hR6
  refine p_hcall rfl (sortedF_core (R := fun v h c => v = .lit false 3 ((keysS m).map Shelf.enc) ∧ MapAt h (6, q) (entsOf kx PV.int m)) hb7 (by obtain ⟨bs, clk, hq, _⟩ := ((MapAt.keep hm0 (hf8 6 _ rfl))); exact ⟨bs, clk, hq⟩) (shOf_kx m hsz) (by simpa [entsOf] using hlz) ⟨by rw [shRows_kx], (MapAt.keep hm0 (hf8 6 _ rfl))⟩) fun v9 h10 c11 hR12 => ?_
  obtain ⟨rfl, hm13⟩ := hR12
  refine p_step rfl (e_assign (v := .lit _ _ _) rfl) trivial ?_
  refine p_end (hK2 _ ?_); clear hK2 K2
  refine pwp_seq_plain rfl fun K14 hK14 => ?_
  refine p_step rfl (e_assign (v := .nil) rfl) trivial ?_
  refine p_end (hK14 _ ?_); clear hK14 K14
  refine pwp_seq_seq ?_
  refine pwp_seq_plain rfl fun K15 hK15 => ?_
  refine p_step rfl (e_move (v := .lit _ _ _) rfl) trivial ?_
  refine p_step rfl (e_len rfl (by kernel_rfl)) trivial ?_
  refine p_step rfl (e_move (v := .sc _) rfl) trivial ?_
  refine p_end (hK15 _ ?_); clear hK15 K15
  refine pwp_seq_block fun K16 hK16 => ?_
  refine pwp_loopR (α := Nat × (List Stock) × PV) [0, 11, 12] (fun (a17 : Nat × (List Stock) × PV) => [(5, (a17.2.2)), (13, .int (a17.1))]) (fun (a17 : Nat × (List Stock) × PV) (h : Heap) (_ : Nat → Nat) => ((a17.1) ≤ (keysS m).length) ∧ (lstG m [] (keysS m) = lstG m (a17.2.1) ((keysS m).drop (a17.1))) ∧ ((a17.2.1).length ≤ (a17.1)) ∧ (SliceAt h 37 (a17.2.2) 4 ((a17.2.1).map Stock.enc)) ∧ (MapAt h (6, q) (entsOf kx PV.int m))) (fun (a17 : Nat × (List Stock) × PV) => (keysS m).length - (a17.1)) (0, [], _) (by exact ⟨rfl, rfl, trivial⟩) (by exact ⟨by exact Nat.zero_le _, by exact rfl, by exact Nat.le_refl _, .nil, hm13⟩) fun a17 r18 h19 c20 hj21 => ?_
  obtain ⟨k, acc, v⟩ := a17
  obtain ⟨hk, hinv, hal, hihj21_0, hihj21_1⟩ := hj21
  try dsimp only at hk
  try dsimp only at hinv
  try dsimp only at hal
  try dsimp only at hihj21_0
  try dsimp only at hihj21_1
  show pwp _ _ (loopQ _ _ _) ⟨sets (mix _ _ _) [(5, v), (13, .int k)], _, _⟩
  refine pwp_seq_plain rfl fun K22 hK22 => ?_
  refine p_step rfl (e_lt rfl rfl) trivial ?_
  refine p_end (hK22 _ ?_); clear hK22 K22
  refine pwp_seq_cond rfl fun K23 hK23 => ⟨fun hb24 => ?_, fun hb24 => ?_⟩
  ·have hb24R := hb24; try simp only [z1, z2, z3, z4, z5, z6, ne_eq, z7, z8, z9, z10, z11, z12] at hb24
   obtain ⟨x, hx, hd, ht⟩ := get_lt (xs := (keysS m)) (i := k) (by omega)
   rw [hd] at hinv
   refine pwp_skip ?_
   refine seq_norm (hK23 _ ?_); clear hK23 K23
   refine pwp_seq_block fun K25 hK25 => ?_
   refine pwp_seq_plain rfl fun K26 hK26 => ?_
   refine p_step rfl (e_ixa rfl rfl (by kernel_rfl) (by kernel_rfl) (by simp only [List.length_map]; omega)) trivial ?_
   refine p_step rfl (e_loadA (n := 3) rfl (by kernel_rfl) (by kernel_rfl) (by kernel_rfl) (by simp only [List.length_map]; omega) (by decide) (by first | exact agg_map hx rfl)) trivial ?_
   refine p_new rfl (e_alloc (cs := [.str ByteArray.empty, .int 0, .int 0]) (n := 3) (by kernel_rfl) rfl (by decide)) (ob_alloc (by decide)) ?_
   refine p_store rfl (e_storeA rfl (hset_self _ _ _) rfl rfl rfl (by kernel_rfl) rfl (by kernel_rfl)) trivial ?_
   refine p_end (hK26 _ ?_); clear hK26 K26
   refine pwp_seq_seq ?_
   refine pwp_seq_plain rfl fun K27 hK27 => ?_
   refine p_step rfl (e_move (v := .map _) rfl) trivial ?_
   refine p_step rfl (e_loadHA (n := 3) rfl (hset_self _ _ _) (by kernel_rfl) (by kernel_rfl) (by kernel_rfl) (by exact Nat.zero_lt_one) (by decide) rfl) trivial ?_
   refine p_step rfl (e_look (kt := 124) (et := 3) (f := kx) (g := PV.int) (a := x) (l := m) (z := 0) kx_eq kx_ok rfl rfl (MapAt.keep hihj21_1 ((hset_ne (key_ne rfl)).trans ((hset_ne (key_ne rfl)).trans (rfl)))) (by kernel_rfl) (by kernel_rfl) (by first | rfl | kernel_rfl)) trivial ?_
   refine p_step rfl (e_gt rfl rfl) trivial ?_
   refine p_end (hK27 _ ?_); clear hK27 K27
   refine pwp_seq_cond rfl fun K28 hK28 => ⟨fun hb29 => ?_, fun hb29 => ?_⟩
   ·have hb29R := hb29; try simp only [z1, z2, z3, z4, z5, z6, ne_eq, z7, z8, z9, z10, z11, z12] at hb29
    refine pwp_seq_plain rfl fun K30 hK30 => ?_
    refine p_step rfl (e_assign (v := .nil) rfl) trivial ?_
    refine p_step rfl (e_assign (v := .sc _) rfl) trivial ?_
    refine p_end (hK30 _ ?_); clear hK30 K30
    refine pwp_ret ?_
    refine ret_seq ?_
    refine ret_block ?_
    refine ret_seq ?_
    refine ret_loop ?_
    refine ret_block ?_
    refine ret_seq ?_
    refine end2 (v := .nil) (w := .sc _) rfl rfl ?_
    first
      | exact lr_out0 (ls_8 (lg_8 hinv (by omega)))
      | exact lr_out0 (ls_big hinv (by first | omega | (simp only [List.length_map] at *; omega)))
      | exact lr_out (ls_ok hinv (by first | omega | (simp only [List.length_map] at *; omega))) (hihj21_0.keep fun _ => (hset_ne (key_ne rfl)).trans ((hset_ne (key_ne rfl)).trans (rfl)))
   ·have hb29R := hb29; try simp only [z1, z2, z3, z4, z5, z6, ne_eq, z7, z8, z9, z10, z11, z12] at hb29
    refine pwp_skip ?_
    refine seq_norm (hK28 _ ?_); clear hK28 K28
    refine pwp_seq_plain rfl fun K31 hK31 => ?_
    refine p_step rfl (e_move (v := .map _) rfl) trivial ?_
    refine p_step rfl (e_loadHA (n := 3) rfl (hset_self _ _ _) (by kernel_rfl) (by kernel_rfl) (by kernel_rfl) (by exact Nat.zero_lt_one) (by decide) rfl) trivial ?_
    refine p_step rfl (e_look (kt := 124) (et := 3) (f := kx) (g := PV.int) (a := x) (l := m) (z := 0) kx_eq kx_ok rfl rfl (MapAt.keep hihj21_1 ((hset_ne (key_ne rfl)).trans ((hset_ne (key_ne rfl)).trans (rfl)))) (by kernel_rfl) (by kernel_rfl) (by first | rfl | kernel_rfl)) trivial ?_
    refine p_step rfl (e_gt rfl rfl) trivial ?_
    refine p_end (hK31 _ ?_); clear hK31 K31
    refine pwp_cond rfl (fun hb32 => ?_) (fun hb32 => ?_)
    ·have hb32R := hb32; try simp only [z1, z2, z3, z4, z5, z6, ne_eq, z7, z8, z9, z10, z11, z12] at hb32
     refine pwp_gops rfl fun K33 hK33 => ?_
     refine s_begin ?_
     refine s_step [] (by simp) rfl rfl rfl rfl (e_move (v := _) rfl) trivial ?_
     refine s_step [] (by simp) rfl rfl rfl rfl (e_faP (pl := [(0, 1, false), (1, 1, false), (2, 1, false)]) rfl (by kernel_rfl) (by kernel_rfl) (by decide) rfl) trivial ?_
     refine s_step [7] (by simp) rfl rfl rfl rfl (e_loadH (v := .sc _) rfl (hset_self _ _ _) (by kernel_rfl) (by kernel_rfl) (by kernel_rfl) (by exact Nat.zero_lt_one) (by decide) rfl) trivial ?_
     refine s_step [] (by simp) rfl rfl rfl rfl (e_faP (pl := [(0, 1, false), (1, 1, false), (2, 1, false)]) rfl (by kernel_rfl) (by kernel_rfl) (by decide) rfl) trivial ?_
     refine s_step [7] (by simp) rfl rfl rfl rfl (e_loadH (v := .sc _) rfl (hset_self _ _ _) (by kernel_rfl) (by kernel_rfl) (by kernel_rfl) (by exact Nat.zero_lt_one) (by decide) rfl) trivial ?_
     refine s_step [] (by simp) rfl rfl rfl rfl (e_faP (pl := [(0, 1, false), (1, 1, false), (2, 1, false)]) rfl (by kernel_rfl) (by kernel_rfl) (by decide) rfl) trivial ?_
     refine s_step [7] (by simp) rfl rfl rfl rfl (e_loadH (v := .sc _) rfl (hset_self _ _ _) (by kernel_rfl) (by kernel_rfl) (by kernel_rfl) (by exact Nat.zero_lt_one) (by decide) rfl) trivial ?_
     refine s_step [] (by simp) rfl rfl rfl rfl (e_move (v := .map _) rfl) trivial ?_
     refine s_step [7] (by simp) rfl rfl rfl rfl (e_loadHA (n := 3) rfl (hset_self _ _ _) (by kernel_rfl) (by kernel_rfl) (by kernel_rfl) (by exact Nat.zero_lt_one) (by decide) rfl) trivial ?_
     refine s_step [6] (by simp) rfl rfl rfl rfl (e_look (kt := 124) (et := 3) (f := kx) (g := PV.int) (a := x) (l := m) (z := 0) kx_eq kx_ok rfl rfl (MapAt.keep hihj21_1 ((hset_ne (key_ne rfl)).trans ((hset_ne (key_ne rfl)).trans (rfl)))) (by kernel_rfl) (by kernel_rfl) (by first | rfl | kernel_rfl)) trivial ?_
     refine s_step [] (by simp) rfl rfl rfl rfl (e_build (zs := [.str ByteArray.empty, .int 0, .int 0, .int 0]) (pl := [(0, 1, false), (1, 1, false), (2, 1, false), (3, 1, false)]) (by kernel_rfl) (by kernel_rfl) (by kernel_rfl) rfl rfl (by exact ⟨by decide, rfl, Nat.le_of_ble_eq_true rfl, rfl, ⟨by decide, rfl, Nat.le_of_ble_eq_true rfl, rfl, ⟨by decide, rfl, Nat.le_of_ble_eq_true rfl, rfl, ⟨by decide, rfl, Nat.le_of_ble_eq_true rfl, rfl, trivial⟩⟩⟩⟩) rfl) trivial ?_
     refine s_new [] (by simp) rfl rfl rfl rfl (e_bslice (rows := [Stock.enc ⟨x.part, x.place, x.state, ((aGet x m).getD 0)⟩]) (zs := [.str ByteArray.empty, .int 0, .int 0, .int 0]) (sz := 4) (by kernel_rfl) (by kernel_rfl) rfl (by kernel_rfl) (by decide) rfl rfl (by exact ⟨by decide, rfl, rfl, trivial⟩) rfl) trivial ?_
     refine s_app [37, 36] [37, 37] (by simp) (by simp) (by simp) rfl rfl rfl (hihj21_0.keep fun _ => (hset_ne (key_ne rfl)).trans ((hset_ne (key_ne rfl)).trans ((hset_ne (key_ne rfl)).trans (rfl)))) (SrcAt.ref (hset_self _ _ _) rfl) rfl (by kernel_rfl) (by simp only [List.length_append, List.length_map, List.length_nil, List.length_cons]; omega) fun v34 h35 c36 hs37 hf38 => ?_
     have ho39 := MapAt.keep (MapAt.keep hihj21_1 ((hset_ne (key_ne rfl)).trans ((hset_ne (key_ne rfl)).trans ((hset_ne (key_ne rfl)).trans (rfl))))) (hf38 (6, _) (key_ne rfl) (fun _ _ => key_ne rfl))
     have ho40 := (hf38 (7, _) (key_ne rfl) (fun _ _ => key_ne rfl)).trans ((hset_ne (key_ne rfl)).trans (hset_self _ _ _))
     have ho41 := (hf38 (36, _) (key_ne rfl) (fun _ _ => key_ne rfl)).trans (hset_self _ _ _)
     refine s_step [] (by simp) rfl rfl rfl rfl (e_assign (v := _) rfl) trivial ?_
     refine s_end (ds := []) (by kernel_rfl) (by kernel_rfl) (hK33 _ ?_); clear hK33 K33
     refine block_norm ?_
     refine seq_norm (hK25 _ ?_); clear hK25 K25
     refine pwp_plain rfl fun K42 hK42 => ?_
     refine p_step rfl (e_add rfl rfl (by omega)) trivial ?_
     refine p_step rfl (e_move (v := .sc _) rfl) trivial ?_
     refine p_end (hK42 _ ?_); clear hK42 K42
     exact loop_again ((k + 1, (acc ++ [(⟨x.part, x.place, x.state, ((aGet x m).getD 0)⟩ : Stock)]), v34)) (by show _ < _; simp only; omega) ⟨rfl, rfl, rfl, trivial⟩ ⟨rfl, rfl, trivial⟩ (by exact ⟨by show _ + 1 ≤ _; omega, by first | exact lg_t hinv (by omega) (by omega) | exact lg_f hinv (by omega) (by omega), by first | (show (acc ++ [_]).length ≤ k + 1; simp only [List.length_append, List.length_cons, List.length_nil]; omega) | (show acc.length ≤ k + 1; omega), (SliceAt.to hs37 (by (first | rfl | (simp only [List.map_append, List.map_cons, List.map_nil] <;> rfl)))), ho39⟩)
    ·have hb32R := hb32; try simp only [z1, z2, z3, z4, z5, z6, ne_eq, z7, z8, z9, z10, z11, z12] at hb32
     refine pwp_skip ?_
     refine block_norm ?_
     refine seq_norm (hK25 _ ?_); clear hK25 K25
     refine pwp_plain rfl fun K43 hK43 => ?_
     refine p_step rfl (e_add rfl rfl (by omega)) trivial ?_
     refine p_step rfl (e_move (v := .sc _) rfl) trivial ?_
     refine p_end (hK43 _ ?_); clear hK43 K43
     exact loop_again ((k + 1, acc, v)) (by show _ < _; simp only; omega) ⟨rfl, rfl, rfl, trivial⟩ ⟨rfl, rfl, trivial⟩ (by exact ⟨by show _ + 1 ≤ _; omega, by first | exact lg_t hinv (by omega) (by omega) | exact lg_f hinv (by omega) (by omega), by first | (show (acc ++ [_]).length ≤ k + 1; simp only [List.length_append, List.length_cons, List.length_nil]; omega) | (show acc.length ≤ k + 1; omega), (SliceAt.to (hihj21_0.keep fun _ => (hset_ne (key_ne rfl)).trans ((hset_ne (key_ne rfl)).trans (rfl))) (by (first | rfl | (simp only [List.map_append, List.map_cons, List.map_nil] <;> rfl)))), (MapAt.keep hihj21_1 ((hset_ne (key_ne rfl)).trans ((hset_ne (key_ne rfl)).trans (rfl))))⟩)
  ·have hb24R := hb24; try simp only [z1, z2, z3, z4, z5, z6, ne_eq, z7, z8, z9, z10, z11, z12] at hb24
   obtain rfl : k = (keysS m).length := by omega
   rw [List.drop_length] at hinv; simp only [lstG] at hinv
   refine pwp_exit ?_
   refine exit_seq ?_
   clear hK23 K23
   refine exit_loop ?_
   refine exit_here ?_
   refine seq_norm (hK16 _ ?_); clear hK16 K16
   refine pwp_seq_seq ?_
   refine pwp_seq_plain rfl fun K44 hK44 => ?_
   refine p_step rfl (e_move (v := _) rfl) trivial ?_
   refine p_step rfl (SliceAt.len hihj21_0 rfl (by kernel_rfl)) trivial ?_
   refine p_step rfl (e_gt rfl rfl) trivial ?_
   refine p_end (hK44 _ ?_); clear hK44 K44
   refine pwp_seq_cond rfl fun K45 hK45 => ⟨fun hb46 => ?_, fun hb46 => ?_⟩
   ·have hb46R := hb46; try simp only [z1, z2, z3, z4, z5, z6, ne_eq, z7, z8, z9, z10, z11, z12] at hb46
    refine pwp_seq_plain rfl fun K47 hK47 => ?_
    refine p_step rfl (e_assign (v := .nil) rfl) trivial ?_
    refine p_step rfl (e_assign (v := .sc _) rfl) trivial ?_
    refine p_end (hK47 _ ?_); clear hK47 K47
    refine pwp_ret ?_
    refine ret_seq ?_
    refine end2 (v := .nil) (w := .sc _) rfl rfl ?_
    first
      | exact lr_out0 (ls_8 (lg_8 hinv (by omega)))
      | exact lr_out0 (ls_big hinv (by first | omega | (simp only [List.length_map] at *; omega)))
      | exact lr_out (ls_ok hinv (by first | omega | (simp only [List.length_map] at *; omega))) hihj21_0
   ·have hb46R := hb46; try simp only [z1, z2, z3, z4, z5, z6, ne_eq, z7, z8, z9, z10, z11, z12] at hb46
    refine pwp_skip ?_
    refine seq_norm (hK45 _ ?_); clear hK45 K45
    refine pwp_seq_plain rfl fun K48 hK48 => ?_
    refine p_step rfl (e_move (v := _) rfl) trivial ?_
    refine p_step rfl (e_assign (v := _) rfl) trivial ?_
    refine p_step rfl (e_assign (v := .sc _) rfl) trivial ?_
    refine p_end (hK48 _ ?_); clear hK48 K48
    refine pwp_ret ?_
    refine end2 (v := _) (w := .sc _) rfl rfl ?_
    first
      | exact lr_out0 (ls_8 (lg_8 hinv (by omega)))
      | exact lr_out0 (ls_big hinv (by first | omega | (simp only [List.length_map] at *; omega)))
      | exact lr_out (ls_ok hinv (by first | omega | (simp only [List.length_map] at *; omega))) hihj21_0


/-- The normal form, or the error. -/
def normR (xs : List Stock) : Int × List Stock := if stockE xs = 0 then listS (sumS [] xs) else (stockE xs, [])
theorem norm_0 {xs : List Stock} (h : stockE xs = 0) : normR xs = ((listS (sumS [] xs)).1, (listS (sumS [] xs)).2) := by rw [normR, if_pos h]
theorem norm_1 {xs : List Stock} (h : ¬ stockE xs = 0) : normR xs = (stockE xs, []) := by rw [normR, if_neg h]

theorem fr19 : (inFrame Try.f19.ntmps (Try.f19.body.getD .skip) && Try.f19.results.toList.all (resScope Try.f19.ntmps)) = true := by kernel_rfl
theorem NormalS (xs : List Stock) (hl : xs.length ≤ 220) (hs : ∀ x ∈ xs, x.part.size ≤ 30) : PCalls Try.prog 19 [.lit true 4 (xs.map Stock.enc)] (.tup [.lit false 4 ((normR xs).2.map Stock.enc), .int (normR xs).1]) := by
  refine PCalls.of_code Try.func19 rfl rfl (by kernel_rfl) mixed fr19 (by show _ ≤ 15; simp) (pure_2 (.lit _ _ _ fun row hr => pure_map Stock.pure row hr) (.sc _)) ?_
  refine pwp_seq_plain rfl fun K1 hK1 => ?_
  refine p_step rfl (e_assign (v := .nil) rfl) trivial ?_
  refine p_step rfl (e_assign (v := .sc _) rfl) trivial ?_
  refine p_end (hK1 _ ?_); clear hK1 K1
  refine pwp_seq_seq ?_
  refine pwp_seq_plain rfl fun K2 hK2 => ?_
  refine p_step rfl (e_move (v := .lit _ _ _) rfl) trivial ?_
  refine p_call rfl (.cons inn_lit .nil) (CheckS _ (by omega) (by assumption)) ?_
  refine p_step rfl (e_assign (v := .sc _) rfl) trivial ?_
  refine p_end (hK2 _ ?_); clear hK2 K2
  refine pwp_seq_seq ?_
  refine pwp_seq_plain rfl fun K3 hK3 => ?_
  refine p_step rfl (e_move (v := .sc _) rfl) trivial ?_
  refine p_step rfl (e_ne rfl rfl) trivial ?_
  refine p_end (hK3 _ ?_); clear hK3 K3
  refine pwp_seq_cond rfl fun K4 hK4 => ⟨fun hb5 => ?_, fun hb5 => ?_⟩
  ·have hb5R := hb5; (try simp only [z1, z2, z3, z4, z5, z6, ne_eq, z7, z8, z9, z10, z11, z12] at hb5); (try (have hok := stockE_ok hb5))
   refine pwp_seq_plain rfl fun K6 hK6 => ?_
   refine p_step rfl (e_move (v := .sc _) rfl) trivial ?_
   refine p_step rfl (e_assign (v := .nil) rfl) trivial ?_
   refine p_step rfl (e_assign (v := .sc _) rfl) trivial ?_
   refine p_end (hK6 _ ?_); clear hK6 K6
   refine pwp_ret ?_
   refine ret_seq ?_
   refine end2 (v := .nil) (w := .sc _) rfl rfl ?_
   first
     | exact pr_out0 (norm_1 (by assumption))
  ·have hb5R := hb5; (try simp only [z1, z2, z3, z4, z5, z6, ne_eq, z7, z8, z9, z10, z11, z12] at hb5); (try (have hok := stockE_ok hb5))
   refine pwp_skip ?_
   refine seq_norm (hK4 _ ?_); clear hK4 K4
   refine pwp_seq_plain rfl fun K7 hK7 => ?_
   refine p_step rfl (e_move (v := .lit _ _ _) rfl) trivial ?_
   refine p_hcall rfl (storeOf xs _ _ hok.1 (fun x hx => (hok.2 x hx).2.2)) fun v8 h9 c10 hR11 => ?_
   obtain ⟨rfl, hm12, hf13⟩ := hR11
   refine p_hcall rfl (listO (sumS [] xs) _ _ _ hm12 (sumS_size hs) (by have := sumS_len xs []; simp only [List.length_nil] at this; omega)) fun v14 h15 c16 hR17 => ?_
   obtain ⟨u18, rfl, hs19⟩ := hR17
   refine p_step rfl (e_ext (v := _) rfl (by simp) rfl) trivial ?_
   refine p_step rfl (e_ext (v := .sc _) rfl (by simp) rfl) trivial ?_
   refine p_step rfl (e_assign (v := _) rfl) trivial ?_
   refine p_step rfl (e_assign (v := .sc _) rfl) trivial ?_
   refine p_end (hK7 _ ?_); clear hK7 K7
   refine pwp_ret ?_
   refine end2 (v := _) (w := .sc _) rfl rfl ?_
   first
     | exact pr_out0 (norm_1 (by assumption))
     | exact pr_out (norm_0 (by assumption)) hs19

end Go.Proofs.Ytigdmkhdmbbfiaa

/- The store of a stock, with its memory told in full. No conditions. -/
set_option linter.unusedSimpArgs false
set_option linter.unusedVariables false
set_option maxRecDepth 100000
namespace Go.Proofs.Ytigdmkhdmbbfiaa
open Go Go.Pv

/-! ### The store, with its memory told in full -/
section
variable {α β : Type} [DecidableEq α] {f : α → PV} {g : β → PV}
variable {P : Program} {K : PS → Prop} {d : Nat} {ty : TypeId} {pos : String} {aft : Array Edge} {gd : Option (Nat × Bool)} {rest : List Oper} {r : Nat → PV} {h : Heap} {cnt : Nat → Nat} {ops : Array Oper} {i : Nat} {G : Nat → Bool} {dd : Bool} {x y w : Operand} {t : TypeId}
theorem s_mentryE {kt et : TypeId} {m q : Nat} {l : List (α × β)} {a : α} {z : β} {bs : List Nat} {clk : Nat} {ts : List Ft} (hf : ∀ a b, keyEq (f a) (f b) = decide (a = b)) (hko : ∀ a, keyOk P kt (f a)) (hg : gobB ops r G gd = true) (hgv : gval ops ⟨⟨r, h, cnt⟩, G⟩ gd = true) (hv : validB r G (.mapEntry t x y) = true) (hx : ev r x = .map (m, q)) (hy : ev r y = f a) (hm : h (m, q) = some (.map (entsOf f g l) bs clk)) (ht : mapTy P t = some (kt, et)) (hz : zeroFit P et = true) (hw : Nat.beq m m = true) (hzv : zeroVal P et = g z) (hmv : ∀ b, mval (g b) = true)
    (hk : sRun P ops dd K rest (i + 1) ⟨setT r d (.tup [g ((aGet a l).getD z), .int (stampOf (f a) (entsOf f g l) bs clk : Nat)]), hset h (m, q) (some (.map (entsOf f g (aSet a ((aGet a l).getD z) l)) (stB (f a) (entsOf f g l) bs clk) (stC (f a) (entsOf f g l) clk))), cnt⟩ (setB G d true) (ts ++ [⟨i, [m], [m]⟩])) :
    sRun P ops dd K (⟨some d, .mapEntry t x y, ty, pos, aft, gd⟩ :: rest) i ⟨r, h, cnt⟩ G ts := by
  have hvv : (mapFind (f a) (entsOf f g l)).getD (zeroVal P et) = g ((aGet a l).getD z) := by
    rw [mapFind_of hf, hzv]; cases aGet a l <;> rfl
  have he : eff P (ev r) h (d, cnt d) (.mapEntry t x y) = ⟨True, .tup [g ((aGet a l).getD z), .int (stampOf (f a) (entsOf f g l) bs clk : Nat)], [((m, q), some (.map (entsOf f g (aSet a ((aGet a l).getD z) l)) (stB (f a) (entsOf f g l) bs clk) (stC (f a) (entsOf f g l) clk)))], [(m, q)], false⟩ := by
    simp only [eff, mapEntryEff, hx, hy, ht, hm, hvv, mapSet_of hf]
    simp [hko a, hz, hmv]
    exact fun u w hu => ents_ok (g := g) (l := l) hko (u, w) hu
  exact s_any [m] [m] hg hgv (by rw [he]; simp) (by rw [he]; simp) rfl hv rfl (by rw [he]; trivial) (by rw [he]; exact hk)
theorem s_estoreE {m q : Nat} {l : List (α × β)} {a : α} {b u : β} {bs : List Nat} {clk : Nat} {ts : List Ft} (hf : ∀ a b, keyEq (f a) (f b) = decide (a = b)) (hv : validB r G (.entryStore t x y w) = true) (hx : ev r x = .map (m, q)) (hy : ev r y = .int (stampOf (f a) (entsOf f g l) bs clk : Nat)) (hw : ev r w = g b) (hm : h (m, q) = some (.map (entsOf f g (aSet a u l)) (stB (f a) (entsOf f g l) bs clk) (stC (f a) (entsOf f g l) clk)))
    (hvl : bs.length = l.length) (hvn : bs.Nodup) (hvb : ∀ b ∈ bs, b < clk) (hmv : mval (g b) = true)
    (hk : sRun P ops dd K rest (i + 1) ⟨r, hset h (m, q) (some (.map (entsOf f g (aSet a b l)) (stB (f a) (entsOf f g l) bs clk) (stC (f a) (entsOf f g l) clk))), cnt⟩ G (ts ++ [⟨i, [m], [m]⟩])) :
    sRun P ops dd K (⟨none, .entryStore t x y w, ty, pos, aft, none⟩ :: rest) i ⟨r, h, cnt⟩ G ts := by
  have h5 := stampOf_set (g := g) hf a u l bs clk hvl hvn hvb b
  refine s_store [m] (by simp) rfl hv (ob := True) (rd := [(m, q)]) (o := some (.map (entsOf f g (aSet a b l)) (stB (f a) (entsOf f g l) bs clk) (stC (f a) (entsOf f g l) clk))) (v := .dead) ?_ trivial hk
  simp only [eff, entryStoreEff, hx, hy, hw, hm, h5]
  simp [hmv]
end
/-- The store's map while entries are added: the memory, the generations, what the map holds. -/
def stoI (q : Nat) : Heap → (Nat → Nat) → Sto → List Nat → Nat → List Stock → Heap × (Nat → Nat)
  | h, c, _, _, _, [] => (h, c)
  | h, c, m, bs, clk, x :: l =>
    stoI q (hset (hset (hset (hset h (5, c 5) (some (.rows 4 [[.str ByteArray.empty, .int 0, .int 0, .int 0]]))) (5, c 5) (some (.rows 4 [x.enc])))
        (6, q) (some (.map (entsOf kx PV.int (aSet (keyS x) (getS (keyS x) m) m)) (stB (kx (keyS x)) (entsOf kx PV.int m) bs clk) (stC (kx (keyS x)) (entsOf kx PV.int m) clk))))
        (6, q) (some (.map (entsOf kx PV.int (aSet (keyS x) (getS (keyS x) m + x.count) m)) (stB (kx (keyS x)) (entsOf kx PV.int m) bs clk) (stC (kx (keyS x)) (entsOf kx PV.int m) clk))))
      (cset c 5) (aSet (keyS x) (getS (keyS x) m + x.count) m) (stB (kx (keyS x)) (entsOf kx PV.int m) bs clk) (stC (kx (keyS x)) (entsOf kx PV.int m) clk) l
def stoX (xs : List Stock) (h0 : Heap) (c0 : Nat → Nat) : Heap × (Nat → Nat) := stoI (c0 6) (hset h0 (6, c0 6) (some (.map [] [] 0))) (cset c0 6) [] [] 0 xs
/-- Stamps fit their entries. -/
def VX (m : Sto) (bs : List Nat) (clk : Nat) : Prop := bs.length = m.length ∧ bs.Nodup ∧ ∀ b ∈ bs, b < clk
theorem VX.step {m : Sto} {bs : List Nat} {clk : Nat} (h : VX m bs clk) (a : Shelf) (v : Int) : VX (aSet a v m) (stB (kx a) (entsOf kx PV.int m) bs clk) (stC (kx a) (entsOf kx PV.int m) clk) := by
  have := MapAt.set (f := kx) (g := PV.int) (h := fun _ => some (.map (entsOf kx PV.int m) bs clk)) (k := (0, 0)) kx_eq ⟨bs, clk, rfl, by simp [entsOf, h.1], h.2.1, h.2.2⟩ a v
  obtain ⟨bs', clk', q1, q2, q3, q4⟩ := this
  simp only [hset, if_true, mSet, mapSet_of kx_eq, Option.some.injEq, PObj.map.injEq] at q1
  obtain ⟨_, rfl, rfl⟩ := q1
  exact ⟨by rw [q2]; simp [entsOf], q3, q4⟩
theorem stoI_spec (q : Nat) : ∀ (l : List Stock) {h : Heap} {c : Nat → Nat} {m : Sto} {bs : List Nat} {clk : Nat}, h (6, q) = some (.map (entsOf kx PV.int m) bs clk) → VX m bs clk →
    MapAt (stoI q h c m bs clk l).1 (6, q) (entsOf kx PV.int (sumS m l)) ∧ ∀ a b, (a = 5 → b < c 5) → (a = 6 → b ≠ q) → (stoI q h c m bs clk l).1 (a, b) = h (a, b)
  | [], h, c, m, bs, clk, hm, hv => ⟨⟨bs, clk, hm, by simpa [entsOf, sumS] using hv.1, hv.2.1, hv.2.2⟩, fun _ _ _ _ => rfl⟩
  | x :: l, h, c, m, bs, clk, hm, hv => by
    have ih := stoI_spec q l (h := hset (hset (hset (hset h (5, c 5) (some (.rows 4 [[.str ByteArray.empty, .int 0, .int 0, .int 0]]))) (5, c 5) (some (.rows 4 [x.enc])))
        (6, q) (some (.map (entsOf kx PV.int (aSet (keyS x) (getS (keyS x) m) m)) (stB (kx (keyS x)) (entsOf kx PV.int m) bs clk) (stC (kx (keyS x)) (entsOf kx PV.int m) clk))))
        (6, q) (some (.map (entsOf kx PV.int (aSet (keyS x) (getS (keyS x) m + x.count) m)) (stB (kx (keyS x)) (entsOf kx PV.int m) bs clk) (stC (kx (keyS x)) (entsOf kx PV.int m) clk)))) (c := cset c 5) (hset_self _ _ _) (hv.step _ _)
    refine ⟨ih.1, fun a b h5 h6 => (ih.2 a b (fun e => ?_) h6).trans ?_⟩
    · have := h5 e; simp [cset]; omega
    · have n6 : ((a, b) : Key) ≠ (6, q) := fun e => by cases e; exact h6 rfl rfl
      have n5 : ((a, b) : Key) ≠ (5, c 5) := fun e => by cases e; have := h5 rfl; omega
      rw [hset_ne n6, hset_ne n6, hset_ne n5, hset_ne n5]
theorem stoX_spec (xs : List Stock) (h0 : Heap) (c0 : Nat → Nat) : StoR xs h0 c0 (.map (6, c0 6)) (stoX xs h0 c0).1 := by
  have := stoI_spec (c0 6) xs (h := hset h0 (6, c0 6) (some (.map [] [] 0))) (c := cset c0 6) (m := []) (bs := []) (clk := 0) (hset_self _ _ _) ⟨rfl, List.nodup_nil, by simp⟩
  refine ⟨rfl, this.1, fun a b h5 h6 => (this.2 a b (fun e => ?_) (fun e => ?_)).trans (hset_ne fun e => ?_)⟩
  · have := h5 e; simp [cset]; omega
  · have := h6 e; omega
  · cases e; have := h6 rfl; omega

theorem frH64X : (inFrame Try.f64.ntmps (Try.f64.body.getD .skip) && Try.f64.results.toList.all (resScope Try.f64.ntmps)) = true := by kernel_rfl
theorem storeOfX (xs : List Stock) (h0 : Heap) (c0 : Nat → Nat) (hl : xs.length ≤ 200) (hc : ∀ x ∈ xs, 0 ≤ x.count ∧ x.count ≤ 1000000) : HCallsR Try.prog 64 [.lit true 4 (xs.map Stock.enc)] h0 c0 (fun v h c => v = .map (6, c0 6) ∧ h = (stoX xs h0 c0).1 ∧ c = (stoX xs h0 c0).2) := by
  refine HCallsR.of_code Try.func64 rfl rfl (by kernel_rfl) mixed frH64X (by show _ ≤ 29; simp) ?_
  refine pwp_seq_plain rfl fun K1 hK1 => ?_
  refine p_step rfl (e_assign (v := .sc _) rfl) trivial ?_
  refine p_end (hK1 _ ?_); clear hK1 K1
  refine pwp_seq_plain rfl fun K2 hK2 => ?_
  refine p_new rfl (e_mkmap) trivial ?_
  refine p_step rfl (e_assign (v := .map _) rfl) trivial ?_
  refine p_end (hK2 _ ?_); clear hK2 K2
  refine pwp_seq_seq ?_
  refine pwp_seq_plain rfl fun K3 hK3 => ?_
  refine p_step rfl (e_move (v := .lit _ _ _) rfl) trivial ?_
  refine p_step rfl (e_len rfl (by kernel_rfl)) trivial ?_
  refine p_step rfl (e_move (v := .sc _) rfl) trivial ?_
  refine p_end (hK3 _ ?_); clear hK3 K3
  refine pwp_seq_block fun K4 hK4 => ?_
  refine pwp_loopR (α := Nat × Sto × (List Nat) × Nat) [3, 7, 8] (fun (a5 : Nat × Sto × (List Nat) × Nat) => [(9, .int (a5.1))]) (fun (a5 : Nat × Sto × (List Nat) × Nat) (h : Heap) (c : Nat → Nat) => ((a5.1) ≤ xs.length) ∧ (stoX xs h0 c0 = stoI (c0 6) h c (a5.2.1) (a5.2.2.1) (a5.2.2.2) (xs.drop (a5.1))) ∧ (VX (a5.2.1) (a5.2.2.1) (a5.2.2.2)) ∧ (∀ q, 0 ≤ getS q (a5.2.1) ∧ getS q (a5.2.1) ≤ 1000000 * ((a5.1) : Int)) ∧ (h (6, c0 6) = some (.map (entsOf kx PV.int (a5.2.1)) (a5.2.2.1) (a5.2.2.2)))) (fun (a5 : Nat × Sto × (List Nat) × Nat) => xs.length - (a5.1)) (0, [], [], 0) (by exact ⟨rfl, trivial⟩) (by exact ⟨by exact Nat.zero_le _, by exact rfl, by exact ⟨rfl, List.nodup_nil, by simp⟩, by (intro q; simp [getS, aGet]), (hset_self _ _ _)⟩) fun a5 r6 h7 c8 hj9 => ?_
  obtain ⟨k, m, bs, clk⟩ := a5
  obtain ⟨hk, hinv, hvx, hbd, hihj9_0⟩ := hj9
  try dsimp only at hk
  try dsimp only at hinv
  try dsimp only at hvx
  try dsimp only at hbd
  try dsimp only at hihj9_0
  show pwp _ _ (loopQ _ _ _) ⟨sets (mix _ _ _) [(9, .int k)], _, _⟩
  refine pwp_seq_plain rfl fun K10 hK10 => ?_
  refine p_step rfl (e_lt rfl rfl) trivial ?_
  refine p_end (hK10 _ ?_); clear hK10 K10
  refine pwp_seq_cond rfl fun K11 hK11 => ⟨fun hb12 => ?_, fun hb12 => ?_⟩
  ·have hb12R := hb12; try simp only [z1, z2, z3, z4, z5, z6, ne_eq, z7, z8, z9, z10, z11, z12] at hb12
   obtain ⟨x, hx, hd, ht⟩ := get_lt (xs := xs) (i := k) (by omega)
   rw [hd] at hinv; simp only [stoI] at hinv
   have hxc := hc x (List.mem_of_getElem? hx)
   have hgb : 0 ≤ ((aGet (⟨x.part, x.place, x.state⟩ : Shelf) m).getD 0) ∧ ((aGet (⟨x.part, x.place, x.state⟩ : Shelf) m).getD 0) ≤ 1000000 * (k : Int) := hbd (⟨x.part, x.place, x.state⟩ : Shelf)
   obtain ⟨hvl, hvn, hvb⟩ := id hvx
   refine pwp_skip ?_
   refine seq_norm (hK11 _ ?_); clear hK11 K11
   refine pwp_seq_block fun K13 hK13 => ?_
   refine pwp_seq_plain rfl fun K14 hK14 => ?_
   refine p_step rfl (e_ixa rfl rfl (by kernel_rfl) (by kernel_rfl) (by simp only [List.length_map]; omega)) trivial ?_
   refine p_step rfl (e_loadA (n := 4) rfl (by kernel_rfl) (by kernel_rfl) (by kernel_rfl) (by simp only [List.length_map]; omega) (by decide) (by first | exact agg_map hx rfl)) trivial ?_
   refine p_new rfl (e_alloc (cs := [.str ByteArray.empty, .int 0, .int 0, .int 0]) (n := 4) (by kernel_rfl) rfl (by decide)) (ob_alloc (by decide)) ?_
   refine p_store rfl (e_storeA rfl (hset_self _ _ _) rfl rfl rfl (by kernel_rfl) rfl (by kernel_rfl)) trivial ?_
   refine p_end (hK14 _ ?_); clear hK14 K14
   refine pwp_gops rfl fun K15 hK15 => ?_
   refine s_begin ?_
   refine s_step [] (by simp) rfl rfl rfl rfl (e_move (v := .map _) rfl) trivial ?_
   refine s_step [] (by simp) rfl rfl rfl rfl (e_faP (pl := [(0, 1, false), (1, 1, false), (2, 1, false), (3, 1, false)]) rfl (by kernel_rfl) (by kernel_rfl) (by decide) rfl) trivial ?_
   refine s_step [5] (by simp) rfl rfl rfl rfl (e_loadH (v := .sc _) rfl (hset_self _ _ _) (by kernel_rfl) (by kernel_rfl) (by kernel_rfl) (by exact Nat.zero_lt_one) (by decide) rfl) trivial ?_
   refine s_step [] (by simp) rfl rfl rfl rfl (e_faP (pl := [(0, 1, false), (1, 1, false), (2, 1, false), (3, 1, false)]) rfl (by kernel_rfl) (by kernel_rfl) (by decide) rfl) trivial ?_
   refine s_step [5] (by simp) rfl rfl rfl rfl (e_loadH (v := .sc _) rfl (hset_self _ _ _) (by kernel_rfl) (by kernel_rfl) (by kernel_rfl) (by exact Nat.zero_lt_one) (by decide) rfl) trivial ?_
   refine s_step [] (by simp) rfl rfl rfl rfl (e_faP (pl := [(0, 1, false), (1, 1, false), (2, 1, false), (3, 1, false)]) rfl (by kernel_rfl) (by kernel_rfl) (by decide) rfl) trivial ?_
   refine s_step [5] (by simp) rfl rfl rfl rfl (e_loadH (v := .sc _) rfl (hset_self _ _ _) (by kernel_rfl) (by kernel_rfl) (by kernel_rfl) (by exact Nat.zero_lt_one) (by decide) rfl) trivial ?_
   refine s_step [] (by simp) rfl rfl rfl rfl (e_build (zs := [.str ByteArray.empty, .int 0, .int 0]) (pl := [(0, 1, false), (1, 1, false), (2, 1, false)]) (by kernel_rfl) (by kernel_rfl) (by kernel_rfl) rfl rfl (by exact ⟨by decide, rfl, Nat.le_of_ble_eq_true rfl, rfl, ⟨by decide, rfl, Nat.le_of_ble_eq_true rfl, rfl, ⟨by decide, rfl, Nat.le_of_ble_eq_true rfl, rfl, trivial⟩⟩⟩) rfl) trivial ?_
   refine s_step [6] (by simp) rfl rfl rfl rfl (e_look (kt := 124) (et := 3) (f := kx) (g := PV.int) (a := (⟨x.part, x.place, x.state⟩ : Shelf)) (l := m) (z := 0) kx_eq kx_ok rfl rfl ⟨_, _, ((hset_ne (key_ne rfl)).trans ((hset_ne (key_ne rfl)).trans hihj9_0)), by simpa [entsOf] using hvl, hvn, hvb⟩ (by kernel_rfl) (by kernel_rfl) (by first | rfl | kernel_rfl)) trivial ?_
   refine s_step [] (by simp) rfl rfl rfl rfl (e_faP (pl := [(0, 1, false), (1, 1, false), (2, 1, false), (3, 1, false)]) rfl (by kernel_rfl) (by kernel_rfl) (by decide) rfl) trivial ?_
   refine s_step [5] (by simp) rfl rfl rfl rfl (e_loadH (v := .sc _) rfl (hset_self _ _ _) (by kernel_rfl) (by kernel_rfl) (by kernel_rfl) (by exact Nat.zero_lt_one) (by decide) rfl) trivial ?_
   refine s_step [] (by simp) rfl rfl rfl rfl (e_add rfl rfl (by omega)) trivial ?_
   refine s_mentryE (kt := 124) (et := 3) (m := 6) (f := kx) (g := PV.int) (a := (⟨x.part, x.place, x.state⟩ : Shelf)) (l := m) (z := 0) (bs := bs) (clk := clk) kx_eq kx_ok rfl rfl rfl rfl rfl ((hset_ne (key_ne rfl)).trans ((hset_ne (key_ne rfl)).trans hihj9_0)) (by kernel_rfl) (by kernel_rfl) (by kernel_rfl) (by first | rfl | kernel_rfl) (fun _ => rfl) ?_
   refine s_step [] (by simp) rfl rfl rfl rfl (e_ext (v := .sc _) rfl (by simp) rfl) trivial ?_
   refine s_estoreE (m := 6) (f := kx) (g := PV.int) (a := (⟨x.part, x.place, x.state⟩ : Shelf)) (b := (((aGet (⟨x.part, x.place, x.state⟩ : Shelf) m).getD 0) + x.count)) (u := ((aGet (⟨x.part, x.place, x.state⟩ : Shelf) m).getD 0)) (l := m) (bs := bs) (clk := clk) kx_eq rfl rfl rfl rfl (hset_self _ _ _) hvl hvn hvb rfl ?_
   refine s_end (ds := []) (by kernel_rfl) (by kernel_rfl) (hK15 _ ?_); clear hK15 K15
   refine block_norm ?_
   refine seq_norm (hK13 _ ?_); clear hK13 K13
   refine pwp_plain rfl fun K16 hK16 => ?_
   refine p_step rfl (e_add rfl rfl (by omega)) trivial ?_
   refine p_step rfl (e_move (v := .sc _) rfl) trivial ?_
   refine p_end (hK16 _ ?_); clear hK16 K16
   exact loop_again ((k + 1, aSet (⟨x.part, x.place, x.state⟩ : Shelf) (((aGet (⟨x.part, x.place, x.state⟩ : Shelf) m).getD 0) + x.count) m, (stB (kx (⟨x.part, x.place, x.state⟩ : Shelf)) (entsOf kx PV.int m) bs clk), (stC (kx (⟨x.part, x.place, x.state⟩ : Shelf)) (entsOf kx PV.int m) clk))) (by show _ < _; simp only; omega) ⟨rfl, rfl, rfl, trivial⟩ ⟨rfl, trivial⟩ (by exact ⟨by show _ + 1 ≤ _; omega, by exact hinv, by exact hvx.step _ _, by (show ∀ q, 0 ≤ getS q (aSet (⟨x.part, x.place, x.state⟩ : Shelf) (((aGet (⟨x.part, x.place, x.state⟩ : Shelf) m).getD 0) + x.count) m) ∧ getS q (aSet (⟨x.part, x.place, x.state⟩ : Shelf) (((aGet (⟨x.part, x.place, x.state⟩ : Shelf) m).getD 0) + x.count) m) ≤ 1000000 * ((k + 1 : Nat) : Int); intro q; have hq := hbd q; rw [getS_aSet]; split <;> omega), (hset_self _ _ _)⟩)
  ·have hb12R := hb12; try simp only [z1, z2, z3, z4, z5, z6, ne_eq, z7, z8, z9, z10, z11, z12] at hb12
   obtain rfl : k = xs.length := by omega
   rw [List.drop_length] at hinv; simp only [stoI] at hinv
   refine pwp_exit ?_
   refine exit_seq ?_
   clear hK11 K11
   refine exit_loop ?_
   refine exit_here ?_
   refine seq_norm (hK4 _ ?_); clear hK4 K4
   refine pwp_seq_plain rfl fun K17 hK17 => ?_
   refine p_step rfl (e_move (v := .map _) rfl) trivial ?_
   refine p_step rfl (e_assign (v := .map _) rfl) trivial ?_
   refine p_end (hK17 _ ?_); clear hK17 K17
   refine pwp_ret ?_
   refine end1 (v := .map _) rfl ?_
   exact ⟨rfl, by rw [hinv], by rw [hinv]⟩

end Go.Proofs.Ytigdmkhdmbbfiaa
