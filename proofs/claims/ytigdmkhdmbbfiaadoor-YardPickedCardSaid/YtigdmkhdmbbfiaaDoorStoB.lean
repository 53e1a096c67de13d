import Derived.Test.YtigdmkhdmbbfiaaDoorStoA
import Derived.Test.YtigdmkhdmbbfiaaDoorSrtA
/- The normal form of a stock. No conditions. -/
set_option linter.unusedSimpArgs false
set_option linter.unusedVariables false
set_option maxRecDepth 100000
namespace Go.Proofs.YtigdmkhdmbbfiaaDoor
open Go Go.Pv

def LR (m : Sto) (v : PV) (h : Heap) : Prop := ∃ u, v = .tup [u, .int (listS m).1] ∧ SliceAt h 37 u 4 ((listS m).2.map Stock.enc)
theorem lr_out {m : Sto} {h : Heap} {z : Int} {acc : List Stock} {u : PV} (hr : listS m = (z, acc)) (hs : SliceAt h 37 u 4 (acc.map Stock.enc)) : LR m (.tup [u, .int z]) h := ⟨u, by rw [hr], by rw [hr]; exact hs⟩
theorem lr_out0 {m : Sto} {h : Heap} {z : Int} (hr : listS m = (z, [])) : LR m (.tup [.nil, .int z]) h := ⟨_, by rw [hr], by rw [hr]; exact .nil⟩
theorem ls_8 {m : Sto} (h : lstG m [] (keysS m) = (8, [])) : listS m = (8, []) := by unfold listS; rw [h]; rfl
theorem ls_big {m : Sto} {acc : List Stock} (h : lstG m [] (keysS m) = (0, acc)) (h2 : 200 < acc.length) : listS m = (8, []) := by unfold listS; rw [h]; simp [h2]
theorem ls_ok {m : Sto} {acc : List Stock} (h : lstG m [] (keysS m) = (0, acc)) (h2 : ¬ 200 < acc.length) : listS m = (0, acc) := by unfold listS; rw [h]; simp [h2]
theorem lg_8 {m : Sto} {acc : List Stock} {k : Shelf} {ks : List Shelf} {R : Int × List Stock} (h : R = lstG m acc (k :: ks)) (h2 : 1000000 < (aGet k m).getD 0) : R = (8, []) := by rw [h, lstG, if_pos (show 1000000 < getS k m from h2)]
theorem lg_t {m : Sto} {acc : List Stock} {k : Shelf} {ks : List Shelf} {R : Int × List Stock} (h : R = lstG m acc (k :: ks)) (h2 : ¬ 1000000 < (aGet k m).getD 0) (h3 : 0 < (aGet k m).getD 0) : R = lstG m (acc ++ [⟨k.part, k.place, k.state, (aGet k m).getD 0⟩]) ks := by rw [h, lstG, if_neg (show ¬ 1000000 < getS k m from h2), if_pos (show 0 < getS k m from h3)]; rfl
theorem lg_f {m : Sto} {acc : List Stock} {k : Shelf} {ks : List Shelf} {R : Int × List Stock} (h : R = lstG m acc (k :: ks)) (h2 : ¬ 1000000 < (aGet k m).getD 0) (h3 : ¬ 0 < (aGet k m).getD 0) : R = lstG m acc ks := by rw [h, lstG, if_neg (show ¬ 1000000 < getS k m from h2), if_neg (show ¬ 0 < getS k m from h3)]
def mkRG (km : Key) (h0 : Heap) (c0 : Nat → Nat) (v : PV) (h : Heap) : Prop := v = .func (.func 63) [] [.ptr (1, c0 1) 1 0 0] ∧ h (1, c0 1) = some (.rows 1 [[.map km]]) ∧ ∀ a b, Nat.beq a 1 = false → h (a, b) = h0 (a, b)

theorem frH49 : (inFrame Tryd.f49.ntmps (Tryd.f49.body.getD .skip) && Tryd.f49.results.toList.all (resScope Tryd.f49.ntmps)) = true := by kernel_rfl
theorem mapsKeysG (km : Key) (h0 : Heap) (c0 : Nat → Nat) : HCallsR Tryd.prog 49 [.map km] h0 c0 (fun v h _ => mkRG km h0 c0 v h) := by
  refine HCallsR.of_code Tryd.func49 rfl rfl (by kernel_rfl) mixed frH49 (by show _ ≤ 4; simp) ?_
  refine pwp_seq_plain rfl fun K1 hK1 => ?_
  refine p_new rfl (e_box1 rfl rfl) ⟨rfl, by decide⟩ ?_
  refine p_step rfl (e_assign (v := .sc _) rfl) trivial ?_
  refine p_end (hK1 _ ?_); clear hK1 K1
  refine pwp_seq_plain rfl fun K2 hK2 => ?_
  refine p_step rfl (e_mkf rfl) trivial ?_
  refine p_step rfl (e_assign (v := .func _ _ _) rfl) trivial ?_
  refine p_end (hK2 _ ?_); clear hK2 K2
  refine pwp_ret ?_
  refine end1 (v := .func _ _ _) rfl ?_
  exact ⟨rfl, (hset_self _ _ _), fun a b h1 => by simp only [hset_ne (key_ne h1)]⟩

theorem frH36 : (inFrame Tryd.f36.ntmps (Tryd.f36.body.getD .skip) && Tryd.f36.results.toList.all (resScope Tryd.f36.ntmps)) = true := by kernel_rfl
theorem listO (m : Sto) (q : Nat) (h0 : Heap) (c0 : Nat → Nat) (hm0 : MapAt h0 (6, q) (entsOf kx PV.int m)) (hsz : ∀ e ∈ m, e.1.part.size ≤ 1000000) (hlz : m.length ≤ 1000000) : HCallsR Tryd.prog 36 [.map (6, q)] h0 c0 (fun v h _ => LR m v h) := by
  refine HCallsR.of_code Tryd.func36 rfl rfl (by kernel_rfl) mixed frH36 (by show _ ≤ 43; simp) ?_
  have hkl := keysS_len m
  refine pwp_seq_plain rfl fun K1 hK1 => ?_
  refine p_step rfl (e_assign (v := .nil) rfl) trivial ?_
  refine p_step rfl (e_assign (v := .sc _) rfl) trivial ?_
  refine p_end (hK1 _ ?_); clear hK1 K1
  refine pwp_seq_plain rfl fun K2 hK2 => ?_
  refine p_step rfl (e_move (v := .map _) rfl) trivial ?_
  refine p_hcall rfl (mapsKeysG _ _ _) fun v3 h4 c5 hR6 => ?_
  obtain ⟨rfl, hb7, hf8⟩ := hR6
  refine p_hcall rfl (sortedF_core (R := fun v h c => v = .lit false 3 ((keysS m).map Shelf.enc) ∧ MapAt h (6, q) (entsOf kx PV.int m)) hb7 (by obtain ⟨bs, clk, hq, _⟩ := ((MapAt.keep hm0 (hf8 6 _ rfl))); exact ⟨bs, clk, hq⟩) (shOf_kx m hsz) (by simpa [entsOf] using hlz) ⟨by rw [shRows_kx], (MapAt.keep hm0 (hf8 6 _ rfl))⟩) fun v9 h10 c11 hR12 => ?_
  obtain ⟨rfl, hm13⟩ := hR12
  refine p_step rfl (e_assign (v := .lit _ _ _) rfl) trivial ?_
  refine p_end (hK2 _ ?_); clear hK2 K2
  refine pwp_seq_plain rfl fun K14 hK14 => ?_
  refine p_step rfl (e_assign (v := .nil) rfl) trivial ?_
  refine p_end (hK14 _ ?_); clear hK14 K14
  refine pwp_seq_seq ?_
  refine pwp_seq_plain rfl fun K15 hK15 => ?_
  refine p_step rfl (e_move (v := .lit _ _ _) rfl) trivial ?_
  refine p_step rfl (e_len rfl (by kernel_rfl)) trivial ?_
  refine p_step rfl (e_move (v := .sc _) rfl) trivial ?_
  refine p_end (hK15 _ ?_); clear hK15 K15
  refine pwp_seq_block fun K16 hK16 => ?_
  refine pwp_loopR (α := Nat × (List Stock) × PV) [0, 11, 12] (fun (a17 : Nat × (List Stock) × PV) => [(5, (a17.2.2)), (13, .int (a17.1))]) (fun (a17 : Nat × (List Stock) × PV) (h : Heap) (_ : Nat → Nat) => ((a17.1) ≤ (keysS m).length) ∧ (lstG m [] (keysS m) = lstG m (a17.2.1) ((keysS m).drop (a17.1))) ∧ ((a17.2.1).length ≤ (a17.1)) ∧ (SliceAt h 37 (a17.2.2) 4 ((a17.2.1).map Stock.enc)) ∧ (MapAt h (6, q) (entsOf kx PV.int m))) (fun (a17 : Nat × (List Stock) × PV) => (keysS m).length - (a17.1)) (0, [], _) (by exact ⟨rfl, rfl, trivial⟩) (by exact ⟨by exact Nat.zero_le _, by exact rfl, by exact Nat.le_refl _, .nil, hm13⟩) fun a17 r18 h19 c20 hj21 => ?_
  obtain ⟨k, acc, v⟩ := a17
  obtain ⟨hk, hinv, hal, hihj21_0, hihj21_1⟩ := hj21
  try dsimp only at hk
  try dsimp only at hinv
  try dsimp only at hal
  try dsimp only at hihj21_0
  try dsimp only at hihj21_1
  show pwp _ _ (loopQ _ _ _) ⟨sets (mix _ _ _) [(5, v), (13, .int k)], _, _⟩
  refine pwp_seq_plain rfl fun K22 hK22 => ?_
  refine p_step rfl (e_lt rfl rfl) trivial ?_
  refine p_end (hK22 _ ?_); clear hK22 K22
  refine pwp_seq_cond rfl fun K23 hK23 => ⟨fun hb24 => ?_, fun hb24 => ?_⟩
  ·have hb24R := hb24; try simp only [z1, z2, z3, z4, z5, z6, ne_eq, z7, z8, z9, z10, z11, z12] at hb24
   obtain ⟨x, hx, hd, ht⟩ := get_lt (xs := (keysS m)) (i := k) (by omega)
   rw [hd] at hinv
   refine pwp_skip ?_
   refine seq_norm (hK23 _ ?_); clear hK23 K23
   refine pwp_seq_block fun K25 hK25 => ?_
   refine pwp_seq_plain rfl fun K26 hK26 => ?_
   refine p_step rfl (e_ixa rfl rfl (by kernel_rfl) (by kernel_rfl) (by simp only [List.length_map]; omega)) trivial ?_
   refine p_step rfl (e_loadA (n := 3) rfl (by kernel_rfl) (by kernel_rfl) (by kernel_rfl) (by simp only [List.length_map]; omega) (by decide) (by first | exact agg_map hx rfl)) trivial ?_
   refine p_new rfl (e_alloc (cs := [.str ByteArray.empty, .int 0, .int 0]) (n := 3) (by kernel_rfl) rfl (by decide)) (ob_alloc (by decide)) ?_
   refine p_store rfl (e_storeA rfl (hset_self _ _ _) rfl rfl rfl (by kernel_rfl) rfl (by kernel_rfl)) trivial ?_
   refine p_end (hK26 _ ?_); clear hK26 K26
   refine pwp_seq_seq ?_
   refine pwp_seq_plain rfl fun K27 hK27 => ?_
   refine p_step rfl (e_move (v := .map _) rfl) trivial ?_
   refine p_step rfl (e_loadHA (n := 3) rfl (hset_self _ _ _) (by kernel_rfl) (by kernel_rfl) (by kernel_rfl) (by exact Nat.zero_lt_one) (by decide) rfl) trivial ?_
   refine p_step rfl (e_look (kt := 93) (et := 3) (f := kx) (g := PV.int) (a := x) (l := m) (z := 0) kx_eq kx_ok rfl rfl (MapAt.keep hihj21_1 ((hset_ne (key_ne rfl)).trans ((hset_ne (key_ne rfl)).trans (rfl)))) (by kernel_rfl) (by kernel_rfl) (by first | rfl | kernel_rfl)) trivial ?_
   refine p_step rfl (e_gt rfl rfl) trivial ?_
   refine p_end (hK27 _ ?_); clear hK27 K27
   refine pwp_seq_cond rfl fun K28 hK28 => ⟨fun hb29 => ?_, fun hb29 => ?_⟩
   ·have hb29R := hb29; try simp only [z1, z2, z3, z4, z5, z6, ne_eq, z7, z8, z9, z10, z11, z12] at hb29
    refine pwp_seq_plain rfl fun K30 hK30 => ?_
    refine p_step rfl (e_assign (v := .nil) rfl) trivial ?_
    refine p_step rfl (e_assign (v := .sc _) rfl) trivial ?_
    refine p_end (hK30 _ ?_); clear hK30 K30
    refine pwp_ret ?_
    refine ret_seq ?_
    refine ret_block ?_
    refine ret_seq ?_
    refine ret_loop ?_
    refine ret_block ?_
    refine ret_seq ?_
    refine end2 (v := .nil) (w := .sc _) rfl rfl ?_
    exact lr_out0 (ls_8 (lg_8 hinv (by omega)))
   have hb29R := hb29; try simp only [z1, z2, z3, z4, z5, z6, ne_eq, z7, z8, z9, z10, z11, z12] at hb29
   refine pwp_skip ?_
   refine seq_norm (hK28 _ ?_); clear hK28 K28
   refine pwp_seq_plain rfl fun K31 hK31 => ?_
   refine p_step rfl (e_move (v := .map _) rfl) trivial ?_
   refine p_step rfl (e_loadHA (n := 3) rfl (hset_self _ _ _) (by kernel_rfl) (by kernel_rfl) (by kernel_rfl) (by exact Nat.zero_lt_one) (by decide) rfl) trivial ?_
   refine p_step rfl (e_look (kt := 93) (et := 3) (f := kx) (g := PV.int) (a := x) (l := m) (z := 0) kx_eq kx_ok rfl rfl (MapAt.keep hihj21_1 ((hset_ne (key_ne rfl)).trans ((hset_ne (key_ne rfl)).trans (rfl)))) (by kernel_rfl) (by kernel_rfl) (by first | rfl | kernel_rfl)) trivial ?_
   refine p_step rfl (e_gt rfl rfl) trivial ?_
   refine p_end (hK31 _ ?_); clear hK31 K31
   refine pwp_cond rfl (fun hb32 => ?_) (fun hb32 => ?_)
   ·have hb32R := hb32; try simp only [z1, z2, z3, z4, z5, z6, ne_eq, z7, z8, z9, z10, z11, z12] at hb32
    refine pwp_gops rfl fun K33 hK33 => ?_
    refine s_begin ?_
    refine s_step [] (by simp) rfl rfl rfl rfl (e_move (v := _) rfl) trivial ?_
    refine s_step [] (by simp) rfl rfl rfl rfl (e_faP (pl := [(0, 1, false), (1, 1, false), (2, 1, false)]) rfl (by kernel_rfl) (by kernel_rfl) (by decide) rfl) trivial ?_
    refine s_step [7] (by simp) rfl rfl rfl rfl (e_loadH (v := .sc _) rfl (hset_self _ _ _) (by kernel_rfl) (by kernel_rfl) (by kernel_rfl) (by exact Nat.zero_lt_one) (by decide) rfl) trivial ?_
    refine s_step [] (by simp) rfl rfl rfl rfl (e_faP (pl := [(0, 1, false), (1, 1, false), (2, 1, false)]) rfl (by kernel_rfl) (by kernel_rfl) (by decide) rfl) trivial ?_
    refine s_step [7] (by simp) rfl rfl rfl rfl (e_loadH (v := .sc _) rfl (hset_self _ _ _) (by kernel_rfl) (by kernel_rfl) (by kernel_rfl) (by exact Nat.zero_lt_one) (by decide) rfl) trivial ?_
    refine s_step [] (by simp) rfl rfl rfl rfl (e_faP (pl := [(0, 1, false), (1, 1, false), (2, 1, false)]) rfl (by kernel_rfl) (by kernel_rfl) (by decide) rfl) trivial ?_
    refine s_step [7] (by simp) rfl rfl rfl rfl (e_loadH (v := .sc _) rfl (hset_self _ _ _) (by kernel_rfl) (by kernel_rfl) (by kernel_rfl) (by exact Nat.zero_lt_one) (by decide) rfl) trivial ?_
    refine s_step [] (by simp) rfl rfl rfl rfl (e_move (v := .map _) rfl) trivial ?_
    refine s_step [7] (by simp) rfl rfl rfl rfl (e_loadHA (n := 3) rfl (hset_self _ _ _) (by kernel_rfl) (by kernel_rfl) (by kernel_rfl) (by exact Nat.zero_lt_one) (by decide) rfl) trivial ?_
    refine s_step [6] (by simp) rfl rfl rfl rfl (e_look (kt := 93) (et := 3) (f := kx) (g := PV.int) (a := x) (l := m) (z := 0) kx_eq kx_ok rfl rfl (MapAt.keep hihj21_1 ((hset_ne (key_ne rfl)).trans ((hset_ne (key_ne rfl)).trans (rfl)))) (by kernel_rfl) (by kernel_rfl) (by first | rfl | kernel_rfl)) trivial ?_
    refine s_step [] (by simp) rfl rfl rfl rfl (e_build (zs := [.str ByteArray.empty, .int 0, .int 0, .int 0]) (pl := [(0, 1, false), (1, 1, false), (2, 1, false), (3, 1, false)]) (by kernel_rfl) (by kernel_rfl) (by kernel_rfl) rfl rfl (by exact ⟨by decide, rfl, Nat.le_of_ble_eq_true rfl, rfl, ⟨by decide, rfl, Nat.le_of_ble_eq_true rfl, rfl, ⟨by decide, rfl, Nat.le_of_ble_eq_true rfl, rfl, ⟨by decide, rfl, Nat.le_of_ble_eq_true rfl, rfl, trivial⟩⟩⟩⟩) rfl) trivial ?_
    refine s_new [] (by simp) rfl rfl rfl rfl (e_bslice (rows := [Stock.enc ⟨x.part, x.place, x.state, ((aGet x m).getD 0)⟩]) (zs := [.str ByteArray.empty, .int 0, .int 0, .int 0]) (sz := 4) (by kernel_rfl) (by kernel_rfl) rfl (by kernel_rfl) (by decide) rfl rfl (by exact ⟨by decide, rfl, rfl, trivial⟩) rfl) trivial ?_
    refine s_app [37, 36] [37, 37] (by simp) (by simp) (by simp) rfl rfl rfl (hihj21_0.keep fun _ => (hset_ne (key_ne rfl)).trans ((hset_ne (key_ne rfl)).trans ((hset_ne (key_ne rfl)).trans (rfl)))) (SrcAt.ref (hset_self _ _ _) rfl) rfl (by kernel_rfl) (by simp only [List.length_append, List.length_map, List.length_nil, List.length_cons]; omega) fun v34 h35 c36 hs37 hf38 => ?_
    have ho39 := MapAt.keep (MapAt.keep hihj21_1 ((hset_ne (key_ne rfl)).trans ((hset_ne (key_ne rfl)).trans ((hset_ne (key_ne rfl)).trans (rfl))))) (hf38 (6, _) (key_ne rfl) (fun _ _ => key_ne rfl))
    have ho40 := (hf38 (7, _) (key_ne rfl) (fun _ _ => key_ne rfl)).trans ((hset_ne (key_ne rfl)).trans (hset_self _ _ _))
    have ho41 := (hf38 (36, _) (key_ne rfl) (fun _ _ => key_ne rfl)).trans (hset_self _ _ _)
    refine s_step [] (by simp) rfl rfl rfl rfl (e_assign (v := _) rfl) trivial ?_
    refine s_end (ds := []) (by kernel_rfl) (by kernel_rfl) (hK33 _ ?_); clear hK33 K33
    refine block_norm ?_
    refine seq_norm (hK25 _ ?_); clear hK25 K25
    refine pwp_plain rfl fun K42 hK42 => ?_
    refine p_step rfl (e_add rfl rfl (by omega)) trivial ?_
    refine p_step rfl (e_move (v := .sc _) rfl) trivial ?_
    refine p_end (hK42 _ ?_); clear hK42 K42
    exact loop_again ((k + 1, (acc ++ [(⟨x.part, x.place, x.state, ((aGet x m).getD 0)⟩ : Stock)]), v34)) (by show _ < _; simp only; omega) ⟨rfl, rfl, rfl, trivial⟩ ⟨rfl, rfl, trivial⟩ (by exact ⟨by show _ + 1 ≤ _; omega, by first | exact lg_t hinv (by omega) (by omega) | exact lg_f hinv (by omega) (by omega), by first | (show (acc ++ [_]).length ≤ k + 1; simp only [List.length_append, List.length_cons, List.length_nil]; omega) | (show acc.length ≤ k + 1; omega), (SliceAt.to hs37 (by (first | rfl | (simp only [List.map_append, List.map_cons, List.map_nil] <;> rfl)))), ho39⟩)
   have hb32R := hb32; try simp only [z1, z2, z3, z4, z5, z6, ne_eq, z7, z8, z9, z10, z11, z12] at hb32
   refine pwp_skip ?_
   refine block_norm ?_
   refine seq_norm (hK25 _ ?_); clear hK25 K25
   refine pwp_plain rfl fun K43 hK43 => ?_
   refine p_step rfl (e_add rfl rfl (by omega)) trivial ?_
   refine p_step rfl (e_move (v := .sc _) rfl) trivial ?_
   refine p_end (hK43 _ ?_); clear hK43 K43
   exact loop_again ((k + 1, acc, v)) (by show _ < _; simp only; omega) ⟨rfl, rfl, rfl, trivial⟩ ⟨rfl, rfl, trivial⟩ (by exact ⟨by show _ + 1 ≤ _; omega, by first | exact lg_t hinv (by omega) (by omega) | exact lg_f hinv (by omega) (by omega), by first | (show (acc ++ [_]).length ≤ k + 1; simp only [List.length_append, List.length_cons, List.length_nil]; omega) | (show acc.length ≤ k + 1; omega), (SliceAt.to (hihj21_0.keep fun _ => (hset_ne (key_ne rfl)).trans ((hset_ne (key_ne rfl)).trans (rfl))) (by (first | rfl | (simp only [List.map_append, List.map_cons, List.map_nil] <;> rfl)))), (MapAt.keep hihj21_1 ((hset_ne (key_ne rfl)).trans ((hset_ne (key_ne rfl)).trans (rfl))))⟩)
  have hb24R := hb24; try simp only [z1, z2, z3, z4, z5, z6, ne_eq, z7, z8, z9, z10, z11, z12] at hb24
  obtain rfl : k = (keysS m).length := by omega
  rw [List.drop_length] at hinv; simp only [lstG] at hinv
  refine pwp_exit ?_
  refine exit_seq ?_
  clear hK23 K23
  refine exit_loop ?_
  refine exit_here ?_
  refine seq_norm (hK16 _ ?_); clear hK16 K16
  refine pwp_seq_seq ?_
  refine pwp_seq_plain rfl fun K44 hK44 => ?_
  refine p_step rfl (e_move (v := _) rfl) trivial ?_
  refine p_step rfl (SliceAt.len hihj21_0 rfl (by kernel_rfl)) trivial ?_
  refine p_step rfl (e_gt rfl rfl) trivial ?_
  refine p_end (hK44 _ ?_); clear hK44 K44
  refine pwp_seq_cond rfl fun K45 hK45 => ⟨fun hb46 => ?_, fun hb46 => ?_⟩
  ·have hb46R := hb46; try simp only [z1, z2, z3, z4, z5, z6, ne_eq, z7, z8, z9, z10, z11, z12] at hb46
   refine pwp_seq_plain rfl fun K47 hK47 => ?_
   refine p_step rfl (e_assign (v := .nil) rfl) trivial ?_
   refine p_step rfl (e_assign (v := .sc _) rfl) trivial ?_
   refine p_end (hK47 _ ?_); clear hK47 K47
   refine pwp_ret ?_
   refine ret_seq ?_
   refine end2 (v := .nil) (w := .sc _) rfl rfl ?_
   exact lr_out0 (ls_big hinv (by first | omega | (simp only [List.length_map] at *; omega)))
  have hb46R := hb46; try simp only [z1, z2, z3, z4, z5, z6, ne_eq, z7, z8, z9, z10, z11, z12] at hb46
  refine pwp_skip ?_
  refine seq_norm (hK45 _ ?_); clear hK45 K45
  refine pwp_seq_plain rfl fun K48 hK48 => ?_
  refine p_step rfl (e_move (v := _) rfl) trivial ?_
  refine p_step rfl (e_assign (v := _) rfl) trivial ?_
  refine p_step rfl (e_assign (v := .sc _) rfl) trivial ?_
  refine p_end (hK48 _ ?_); clear hK48 K48
  refine pwp_ret ?_
  refine end2 (v := _) (w := .sc _) rfl rfl ?_
  exact lr_out (ls_ok hinv (by first | omega | (simp only [List.length_map] at *; omega))) hihj21_0


/-- The normal form, or the error. -/
def normR (xs : List Stock) : Int × List Stock := if stockE xs = 0 then listS (sumS [] xs) else (stockE xs, [])
theorem norm_0 {xs : List Stock} (h : stockE xs = 0) : normR xs = ((listS (sumS [] xs)).1, (listS (sumS [] xs)).2) := by rw [normR, if_pos h]
theorem norm_1 {xs : List Stock} (h : ¬ stockE xs = 0) : normR xs = (stockE xs, []) := by rw [normR, if_neg h]

theorem fr21 : (inFrame Tryd.f21.ntmps (Tryd.f21.body.getD .skip) && Tryd.f21.results.toList.all (resScope Tryd.f21.ntmps)) = true := by kernel_rfl
theorem NormalS (xs : List Stock) (hl : xs.length ≤ 220) (hs : ∀ x ∈ xs, x.part.size ≤ 30) : PCalls Tryd.prog 21 [.lit true 4 (xs.map Stock.enc)] (.tup [.lit false 4 ((normR xs).2.map Stock.enc), .int (normR xs).1]) := by
  refine PCalls.of_code Tryd.func21 rfl rfl (by kernel_rfl) mixed fr21 (by show _ ≤ 15; simp) (pure_2 (.lit _ _ _ fun row hr => pure_map Stock.pure row hr) (.sc _)) ?_
  refine pwp_seq_plain rfl fun K1 hK1 => ?_
  refine p_step rfl (e_assign (v := .nil) rfl) trivial ?_
  refine p_step rfl (e_assign (v := .sc _) rfl) trivial ?_
  refine p_end (hK1 _ ?_); clear hK1 K1
  refine pwp_seq_seq ?_
  refine pwp_seq_plain rfl fun K2 hK2 => ?_
  refine p_step rfl (e_move (v := .lit _ _ _) rfl) trivial ?_
  refine p_call rfl (.cons inn_lit .nil) (CheckS _ (by omega) (by assumption)) ?_
  refine p_step rfl (e_assign (v := .sc _) rfl) trivial ?_
  refine p_end (hK2 _ ?_); clear hK2 K2
  refine pwp_seq_seq ?_
  refine pwp_seq_plain rfl fun K3 hK3 => ?_
  refine p_step rfl (e_move (v := .sc _) rfl) trivial ?_
  refine p_step rfl (e_ne rfl rfl) trivial ?_
  refine p_end (hK3 _ ?_); clear hK3 K3
  refine pwp_seq_cond rfl fun K4 hK4 => ⟨fun hb5 => ?_, fun hb5 => ?_⟩
  ·have hb5R := hb5; simp only [z1, z2, z3, z4, z5, z6, ne_eq, z7, z8, z9, z10, z11, z12] at hb5
   refine pwp_seq_plain rfl fun K6 hK6 => ?_
   refine p_step rfl (e_move (v := .sc _) rfl) trivial ?_
   refine p_step rfl (e_assign (v := .nil) rfl) trivial ?_
   refine p_step rfl (e_assign (v := .sc _) rfl) trivial ?_
   refine p_end (hK6 _ ?_); clear hK6 K6
   refine pwp_ret ?_
   refine ret_seq ?_
   refine end2 (v := .nil) (w := .sc _) rfl rfl ?_
   exact pr_out0 (norm_1 (by assumption))
  have hb5R := hb5; simp only [z1, z2, z3, z4, z5, z6, ne_eq, z7, z8, z9, z10, z11, z12] at hb5; have hok := stockE_ok hb5
  refine pwp_skip ?_
  refine seq_norm (hK4 _ ?_); clear hK4 K4
  refine pwp_seq_plain rfl fun K7 hK7 => ?_
  refine p_step rfl (e_move (v := .lit _ _ _) rfl) trivial ?_
  refine p_hcall rfl (storeOf xs _ _ hok.1 (fun x hx => (hok.2 x hx).2.2)) fun v8 h9 c10 hR11 => ?_
  obtain ⟨rfl, hm12, hf13⟩ := hR11
  refine p_hcall rfl (listO (sumS [] xs) _ _ _ hm12 (sumS_size hs) (by have := sumS_len xs []; simp only [List.length_nil] at this; omega)) fun v14 h15 c16 hR17 => ?_
  obtain ⟨u18, rfl, hs19⟩ := hR17
  refine p_step rfl (e_ext (v := _) rfl (by simp) rfl) trivial ?_
  refine p_step rfl (e_ext (v := .sc _) rfl (by simp) rfl) trivial ?_
  refine p_step rfl (e_assign (v := _) rfl) trivial ?_
  refine p_step rfl (e_assign (v := .sc _) rfl) trivial ?_
  refine p_end (hK7 _ ?_); clear hK7 K7
  refine pwp_ret ?_
  refine end2 (v := _) (w := .sc _) rfl rfl ?_
  exact pr_out (norm_0 (by assumption)) hs19

end Go.Proofs.YtigdmkhdmbbfiaaDoor

/- Movements, as the program and the reference read them. No conditions. -/
set_option linter.unusedSimpArgs false
set_option linter.unusedVariables false
set_option maxRecDepth 100000
set_option maxHeartbeats 8000000
namespace Go.Proofs.YtigdmkhdmbbfiaaDoor
open Go Go.Pv

/-! ### Movements -/
def chQ (a b : Int) : Prop := (a = 0 ∧ b = 1) ∨ (a = 0 ∧ b = 3) ∨ (a = 1 ∧ b = 3)
def rpQ (a b : Int) : Prop := (a = 1 ∧ b = 2) ∨ (a = 2 ∧ b = 0) ∨ (a = 2 ∧ b = 1) ∨ (a = 3 ∧ b = 0) ∨ (a = 3 ∧ b = 1)
instance (a b : Int) : Decidable (chQ a b) := inferInstanceAs (Decidable (_ ∨ _))
instance (a b : Int) : Decidable (rpQ a b) := inferInstanceAs (Decidable (_ ∨ _))
/-- May a movement be made? -/
def permQ (m : Movement) : Prop := (m.fro = -1 ∧ m.til = 0 ∧ m.before = 0 ∧ m.after = 0) ∨ (m.fro ≠ -1 ∧ m.til = -1 ∧ m.after = m.before) ∨ (m.fro ≠ -1 ∧ m.til ≠ -1 ∧ m.fro ≠ m.til ∧ m.after = m.before ∧ (m.til = 0 ∨ m.before = 0)) ∨ (m.fro ≠ -1 ∧ m.til ≠ -1 ∧ m.fro = m.til ∧ (chQ m.before m.after ∨ (m.fro = 0 ∧ rpQ m.before m.after)))
instance (m : Movement) : Decidable (permQ m) := inferInstanceAs (Decidable (_ ∨ _))
def permP (m : Movement) : Bool := decide (permQ m)
theorem perm_t {m : Movement} (h : permQ m) : true = permP m := (decide_eq_true h).symm
theorem perm_f {m : Movement} (h : ¬ permQ m) : false = permP m := (decide_eq_false h).symm
theorem perm_d {m : Movement} {p : Prop} [Decidable p] (h : p ↔ permQ m) : decide p = permP m := decide_eq_decide.2 h
def gchA : List At := [⟨0, 1⟩, ⟨0, 3⟩, ⟨1, 3⟩]
def grpA : List At := [⟨1, 2⟩, ⟨2, 0⟩, ⟨2, 1⟩, ⟨3, 0⟩, ⟨3, 1⟩]
theorem gchA_iff {a b : Int} : (⟨a, b⟩ : At) ∈ gchA ↔ chQ a b := by
  simp only [gchA, chQ, List.mem_cons, List.not_mem_nil, or_false, At.mk.injEq]
theorem grpA_iff {a b : Int} : (⟨a, b⟩ : At) ∈ grpA ↔ rpQ a b := by
  simp only [grpA, rpQ, List.mem_cons, List.not_mem_nil, or_false, At.mk.injEq]
theorem pq {m : Movement} (h1 : ¬ m.fro = -1) (h2 : ¬ m.til = -1) (h3 : m.fro = m.til) : permQ m ↔ (chQ m.before m.after ∨ (m.fro = 0 ∧ rpQ m.before m.after)) := by
  unfold permQ
  constructor
  · rintro (⟨h, _⟩ | ⟨_, h, _⟩ | ⟨_, _, h, _⟩ | ⟨_, _, _, h⟩)
    · exact absurd h h1
    · exact absurd h h2
    · exact absurd h3 h
    · exact h
  · intro h; exact .inr (.inr (.inr ⟨h1, h2, h3, h⟩))
theorem ch_no {a b : Int} (h1 : ¬ (⟨a, b⟩ : At) = ⟨0, 1⟩) (h2 : ¬ (⟨a, b⟩ : At) = ⟨0, 3⟩) (h3 : ¬ (⟨a, b⟩ : At) = ⟨1, 3⟩) : ¬ chQ a b := by
  rw [At.mk.injEq] at h1 h2 h3; unfold chQ; omega
theorem ch_y {a b : Int} (h : (⟨a, b⟩ : At) = ⟨0, 1⟩ ∨ (⟨a, b⟩ : At) = ⟨0, 3⟩ ∨ (⟨a, b⟩ : At) = ⟨1, 3⟩) : chQ a b := by
  simp only [At.mk.injEq] at h; exact h
theorem rp_y {a b : Int} (h : (⟨a, b⟩ : At) = ⟨1, 2⟩ ∨ (⟨a, b⟩ : At) = ⟨2, 0⟩ ∨ (⟨a, b⟩ : At) = ⟨2, 1⟩ ∨ (⟨a, b⟩ : At) = ⟨3, 0⟩ ∨ (⟨a, b⟩ : At) = ⟨3, 1⟩) : rpQ a b := by
  simp only [At.mk.injEq] at h; exact h
theorem rp_l {a b : Int} (h1 : ¬ (⟨a, b⟩ : At) = ⟨1, 2⟩) (h2 : ¬ (⟨a, b⟩ : At) = ⟨2, 0⟩) (h3 : ¬ (⟨a, b⟩ : At) = ⟨2, 1⟩) (h4 : ¬ (⟨a, b⟩ : At) = ⟨3, 0⟩) (h : rpQ a b) : (⟨a, b⟩ : At) = ⟨3, 1⟩ := by
  simp only [At.mk.injEq] at h1 h2 h3 h4 ⊢; unfold rpQ at h; omega
/-- The place of a pair, told on from k; or -1. -/
def ixA (b : At) : List At → Int → Int
  | [], _ => -1
  | y :: l, k => if b = y then k else ixA b l (k + 1)
theorem ixA_mem (b : At) : ∀ (l : List At) (k : Int), 0 ≤ k → decide (0 ≤ ixA b l k) = decide (b ∈ l)
  | [], k, _ => by simp [ixA]
  | y :: l, k, hk => by
    unfold ixA
    by_cases h : b = y
    · rw [if_pos h]; simp [h, hk]
    · rw [if_neg h, ixA_mem b l (k + 1) (by omega)]; simp [h]
theorem eqOk_At (a b : At) : eqOk Tryd.prog 6 82 (.agg a.enc) (.agg b.enc) = true := by kernel_rfl
theorem eqV_At (a b : At) : eqV Tryd.prog 6 82 (.agg a.enc) (.agg b.enc) = decide (a = b) := by
  have h : eqV Tryd.prog 6 82 (.agg a.enc) (.agg b.enc) = ((a.a0 == b.a0) && ((a.a1 == b.a1) && true)) := by kernel_rfl
  rw [h]
  cases a; cases b
  simp only [At.mk.injEq]
  rw [Bool.eq_iff_iff]
  simp
def rngQ (m : Movement) : Prop := (-1 ≤ m.fro ∧ m.fro ≤ 99) ∧ (-1 ≤ m.til ∧ m.til ≤ 99) ∧ (0 ≤ m.before ∧ m.before ≤ 3) ∧ (0 ≤ m.after ∧ m.after ≤ 3) ∧ (1 ≤ m.count ∧ m.count ≤ 1000000)
instance (m : Movement) : Decidable (rngQ m) := inferInstanceAs (Decidable (_ ∧ _))
/-- The error of a movement, or 0. -/
def mvE (m : Movement) : Int := if isNm m.part = false then 4 else if ¬ rngQ m then 2 else if permP m = false then 21 else 0
theorem mv_4 {m : Movement} (h : isNm m.part = false) : (4 : Int) = mvE m := (if_pos h).symm
theorem mv_2 {m : Movement} (h : isNm m.part = true) (h2 : ¬ rngQ m) : (2 : Int) = mvE m := by rw [mvE, if_neg (by simp [h]), if_pos h2]
theorem mv_21 {m : Movement} (h : isNm m.part = true) (h2 : rngQ m) (h3 : permP m = false) : (21 : Int) = mvE m := by rw [mvE, if_neg (by simp [h]), if_neg (by simpa using h2), if_pos h3]
theorem mv_0 {m : Movement} (h : isNm m.part = true) (h2 : rngQ m) (h3 : permP m = true) : (0 : Int) = mvE m := by rw [mvE, if_neg (by simp [h]), if_neg (by simpa using h2), if_neg (by simp [h3])]
theorem mvE_ok {m : Movement} (h : mvE m = 0) : isNm m.part = true ∧ rngQ m ∧ permP m = true := by
  unfold mvE at h
  split at h
  · cases h
  · split at h
    · cases h
    · split at h
      · cases h
      · rename_i h1 h2 h3
        exact ⟨by simpa using h1, by simpa using h2, by simpa using h3⟩
theorem fr12 : (inFrame Tryd.f12.ntmps (Tryd.f12.body.getD .skip) && Tryd.f12.results.toList.all (resScope Tryd.f12.ntmps)) = true := by kernel_rfl
theorem refPermitted (m : Movement) : PCalls Tryd.prog 12 [.agg m.enc] (.bool (permP m)) := by
  refine PCalls.of_code Tryd.func12 rfl rfl (by kernel_rfl) mixed fr12 (by show _ ≤ 94; simp) (.sc _) ?_
  refine pwp_seq_plain rfl fun K1 hK1 => ?_
  refine p_new rfl (e_box (n := 6) rfl rfl) ⟨rfl, by decide⟩ ?_
  refine p_step rfl (e_assign (v := .sc _) rfl) trivial ?_
  refine p_end (hK1 _ ?_); clear hK1 K1
  refine pwp_seq_seq ?_
  refine pwp_seq_plain rfl fun K2 hK2 => ?_
  refine p_step rfl (e_faP (pl := [(0, 1, false), (1, 1, false), (2, 1, false), (3, 1, false), (4, 1, false), (5, 1, false)]) rfl (by kernel_rfl) (by kernel_rfl) (by decide) rfl) trivial ?_
  refine p_step rfl (e_loadH (v := .sc _) rfl (hset_self _ _ _) (by kernel_rfl) (by kernel_rfl) (by kernel_rfl) (by exact Nat.zero_lt_one) (by decide) rfl) trivial ?_
  refine p_step rfl (e_eq rfl rfl) trivial ?_
  refine p_end (hK2 _ ?_); clear hK2 K2
  refine pwp_seq_cond rfl fun K3 hK3 => ⟨fun hb4 => ?_, fun hb4 => ?_⟩
  ·have hb4R := hb4; try simp only [z1, z2, z3, z4, z5, z6, ne_eq, z7, z8, z9, z10, z11, z12] at hb4
   refine pwp_seq_gops rfl fun K5 hK5 => ?_
   refine g_begin ?_
   refine g_step rfl rfl rfl rfl (e_faP (pl := [(0, 1, false), (1, 1, false), (2, 1, false), (3, 1, false), (4, 1, false), (5, 1, false)]) rfl (by kernel_rfl) (by kernel_rfl) (by decide) rfl) trivial ?_
   refine g_step rfl rfl rfl rfl (e_loadH (v := .sc _) rfl (hset_self _ _ _) (by kernel_rfl) (by kernel_rfl) (by kernel_rfl) (by exact Nat.zero_lt_one) (by decide) rfl) trivial ?_
   refine g_step rfl rfl rfl rfl (e_eq rfl rfl) trivial ?_
   refine g_step rfl rfl rfl rfl (e_move (v := .sc _) rfl) trivial ?_
   refine g_cases (fun hb6 => ?_) (fun hb6 => ?_)
   ·have hb6R := hb6; try simp only [z1, z2, z3, z4, z5, z6, ne_eq, z7, z8, z9, z10, z11, z12] at hb6
    refine g_step rfl rfl rfl rfl (e_faP (pl := [(0, 1, false), (1, 1, false), (2, 1, false), (3, 1, false), (4, 1, false), (5, 1, false)]) rfl (by kernel_rfl) (by kernel_rfl) (by decide) rfl) trivial ?_
    refine g_step rfl rfl rfl rfl (e_loadH (v := .sc _) rfl (hset_self _ _ _) (by kernel_rfl) (by kernel_rfl) (by kernel_rfl) (by exact Nat.zero_lt_one) (by decide) rfl) trivial ?_
    refine g_step rfl rfl rfl rfl (e_eq rfl rfl) trivial ?_
    refine g_step rfl rfl rfl rfl (e_pickT (v := .sc _) rfl rfl) trivial ?_
    refine g_step rfl rfl rfl rfl (e_move (v := .sc _) rfl) trivial ?_
    refine g_cases (fun hb7 => ?_) (fun hb7 => ?_)
    ·have hb7R := hb7; try simp only [z1, z2, z3, z4, z5, z6, ne_eq, z7, z8, z9, z10, z11, z12] at hb7
     refine g_step rfl rfl rfl rfl (e_faP (pl := [(0, 1, false), (1, 1, false), (2, 1, false), (3, 1, false), (4, 1, false), (5, 1, false)]) rfl (by kernel_rfl) (by kernel_rfl) (by decide) rfl) trivial ?_
     refine g_step rfl rfl rfl rfl (e_loadH (v := .sc _) rfl (hset_self _ _ _) (by kernel_rfl) (by kernel_rfl) (by kernel_rfl) (by exact Nat.zero_lt_one) (by decide) rfl) trivial ?_
     refine g_step rfl rfl rfl rfl (e_eq rfl rfl) trivial ?_
     refine g_step rfl rfl rfl rfl (e_pickT (v := .sc _) rfl rfl) trivial ?_
     refine g_step rfl rfl rfl rfl (e_assign (v := .sc _) rfl) trivial ?_
     refine g_end (ds := [11, 12, 13, 16, 17, 18]) rfl rfl (hK5 _ ?_); clear hK5 K5
     refine pwp_ret ?_
     refine ret_seq ?_
     refine end1 (v := .sc _) rfl ?_
     (refine out_b (perm_d ?_); (try simp only [At.mk.injEq]); unfold permQ; omega)
    have hb7R := hb7; try simp only [z1, z2, z3, z4, z5, z6, ne_eq, z7, z8, z9, z10, z11, z12] at hb7
    refine g_skip rfl rfl rfl ?_
    refine g_skip rfl rfl rfl ?_
    refine g_skip rfl rfl rfl ?_
    refine g_step rfl rfl rfl rfl (e_pickF (v := .sc _) rfl rfl) trivial ?_
    refine g_step rfl rfl rfl rfl (e_assign (v := .sc _) rfl) trivial ?_
    refine g_end (ds := [11, 12, 13, 16, 17, 18]) rfl rfl (hK5 _ ?_); clear hK5 K5
    refine pwp_ret ?_
    refine ret_seq ?_
    refine end1 (v := .sc _) rfl ?_
    exact out_b (perm_f (by unfold permQ; omega))
   have hb6R := hb6; try simp only [z1, z2, z3, z4, z5, z6, ne_eq, z7, z8, z9, z10, z11, z12] at hb6
   refine g_skip rfl rfl rfl ?_
   refine g_skip rfl rfl rfl ?_
   refine g_skip rfl rfl rfl ?_
   refine g_step rfl rfl rfl rfl (e_pickF (v := .sc _) rfl rfl) trivial ?_
   refine g_step rfl rfl rfl rfl (e_move (v := .sc _) rfl) trivial ?_
   refine g_skip rfl rfl rfl ?_
   refine g_skip rfl rfl rfl ?_
   refine g_skip rfl rfl rfl ?_
   refine g_step rfl rfl rfl rfl (e_pickF (v := .sc _) rfl rfl) trivial ?_
   refine g_step rfl rfl rfl rfl (e_assign (v := .sc _) rfl) trivial ?_
   refine g_end (ds := [11, 12, 13, 16, 17, 18]) rfl rfl (hK5 _ ?_); clear hK5 K5
   refine pwp_ret ?_
   refine ret_seq ?_
   refine end1 (v := .sc _) rfl ?_
   exact out_b (perm_f (by unfold permQ; omega))
  have hb4R := hb4; try simp only [z1, z2, z3, z4, z5, z6, ne_eq, z7, z8, z9, z10, z11, z12] at hb4
  refine pwp_skip ?_
  refine seq_norm (hK3 _ ?_); clear hK3 K3
  refine pwp_seq_seq ?_
  refine pwp_seq_plain rfl fun K8 hK8 => ?_
  refine p_step rfl (e_faP (pl := [(0, 1, false), (1, 1, false), (2, 1, false), (3, 1, false), (4, 1, false), (5, 1, false)]) rfl (by kernel_rfl) (by kernel_rfl) (by decide) rfl) trivial ?_
  refine p_step rfl (e_loadH (v := .sc _) rfl (hset_self _ _ _) (by kernel_rfl) (by kernel_rfl) (by kernel_rfl) (by exact Nat.zero_lt_one) (by decide) rfl) trivial ?_
  refine p_step rfl (e_eq rfl rfl) trivial ?_
  refine p_end (hK8 _ ?_); clear hK8 K8
  refine pwp_seq_cond rfl fun K9 hK9 => ⟨fun hb10 => ?_, fun hb10 => ?_⟩
  ·have hb10R := hb10; try simp only [z1, z2, z3, z4, z5, z6, ne_eq, z7, z8, z9, z10, z11, z12] at hb10
   refine pwp_seq_plain rfl fun K11 hK11 => ?_
   refine p_step rfl (e_faP (pl := [(0, 1, false), (1, 1, false), (2, 1, false), (3, 1, false), (4, 1, false), (5, 1, false)]) rfl (by kernel_rfl) (by kernel_rfl) (by decide) rfl) trivial ?_
   refine p_step rfl (e_loadH (v := .sc _) rfl (hset_self _ _ _) (by kernel_rfl) (by kernel_rfl) (by kernel_rfl) (by exact Nat.zero_lt_one) (by decide) rfl) trivial ?_
   refine p_step rfl (e_faP (pl := [(0, 1, false), (1, 1, false), (2, 1, false), (3, 1, false), (4, 1, false), (5, 1, false)]) rfl (by kernel_rfl) (by kernel_rfl) (by decide) rfl) trivial ?_
   refine p_step rfl (e_loadH (v := .sc _) rfl (hset_self _ _ _) (by kernel_rfl) (by kernel_rfl) (by kernel_rfl) (by exact Nat.zero_lt_one) (by decide) rfl) trivial ?_
   refine p_step rfl (e_eq rfl rfl) trivial ?_
   refine p_step rfl (e_assign (v := .sc _) rfl) trivial ?_
   refine p_end (hK11 _ ?_); clear hK11 K11
   refine pwp_ret ?_
   refine ret_seq ?_
   refine end1 (v := .sc _) rfl ?_
   (refine out_b (perm_d ?_); (try simp only [At.mk.injEq]); unfold permQ; omega)
  have hb10R := hb10; try simp only [z1, z2, z3, z4, z5, z6, ne_eq, z7, z8, z9, z10, z11, z12] at hb10
  refine pwp_skip ?_
  refine seq_norm (hK9 _ ?_); clear hK9 K9
  refine pwp_seq_seq ?_
  refine pwp_seq_plain rfl fun K12 hK12 => ?_
  refine p_step rfl (e_faP (pl := [(0, 1, false), (1, 1, false), (2, 1, false), (3, 1, false), (4, 1, false), (5, 1, false)]) rfl (by kernel_rfl) (by kernel_rfl) (by decide) rfl) trivial ?_
  refine p_step rfl (e_loadH (v := .sc _) rfl (hset_self _ _ _) (by kernel_rfl) (by kernel_rfl) (by kernel_rfl) (by exact Nat.zero_lt_one) (by decide) rfl) trivial ?_
  refine p_step rfl (e_faP (pl := [(0, 1, false), (1, 1, false), (2, 1, false), (3, 1, false), (4, 1, false), (5, 1, false)]) rfl (by kernel_rfl) (by kernel_rfl) (by decide) rfl) trivial ?_
  refine p_step rfl (e_loadH (v := .sc _) rfl (hset_self _ _ _) (by kernel_rfl) (by kernel_rfl) (by kernel_rfl) (by exact Nat.zero_lt_one) (by decide) rfl) trivial ?_
  refine p_step rfl (e_ne rfl rfl) trivial ?_
  refine p_end (hK12 _ ?_); clear hK12 K12
  refine pwp_seq_cond rfl fun K13 hK13 => ⟨fun hb14 => ?_, fun hb14 => ?_⟩
  ·have hb14R := hb14; try simp only [z1, z2, z3, z4, z5, z6, ne_eq, z7, z8, z9, z10, z11, z12] at hb14
   refine pwp_seq_gops rfl fun K15 hK15 => ?_
   refine g_begin ?_
   refine g_step rfl rfl rfl rfl (e_faP (pl := [(0, 1, false), (1, 1, false), (2, 1, false), (3, 1, false), (4, 1, false), (5, 1, false)]) rfl (by kernel_rfl) (by kernel_rfl) (by decide) rfl) trivial ?_
   refine g_step rfl rfl rfl rfl (e_loadH (v := .sc _) rfl (hset_self _ _ _) (by kernel_rfl) (by kernel_rfl) (by kernel_rfl) (by exact Nat.zero_lt_one) (by decide) rfl) trivial ?_
   refine g_step rfl rfl rfl rfl (e_faP (pl := [(0, 1, false), (1, 1, false), (2, 1, false), (3, 1, false), (4, 1, false), (5, 1, false)]) rfl (by kernel_rfl) (by kernel_rfl) (by decide) rfl) trivial ?_
   refine g_step rfl rfl rfl rfl (e_loadH (v := .sc _) rfl (hset_self _ _ _) (by kernel_rfl) (by kernel_rfl) (by kernel_rfl) (by exact Nat.zero_lt_one) (by decide) rfl) trivial ?_
   refine g_step rfl rfl rfl rfl (e_eq rfl rfl) trivial ?_
   refine g_step rfl rfl rfl rfl (e_move (v := .sc _) rfl) trivial ?_
   refine g_cases (fun hb16 => ?_) (fun hb16 => ?_)
   ·have hb16R := hb16; try simp only [z1, z2, z3, z4, z5, z6, ne_eq, z7, z8, z9, z10, z11, z12] at hb16
    refine g_step rfl rfl rfl rfl (e_faP (pl := [(0, 1, false), (1, 1, false), (2, 1, false), (3, 1, false), (4, 1, false), (5, 1, false)]) rfl (by kernel_rfl) (by kernel_rfl) (by decide) rfl) trivial ?_
    refine g_step rfl rfl rfl rfl (e_loadH (v := .sc _) rfl (hset_self _ _ _) (by kernel_rfl) (by kernel_rfl) (by kernel_rfl) (by exact Nat.zero_lt_one) (by decide) rfl) trivial ?_
    refine g_step rfl rfl rfl rfl (e_eq rfl rfl) trivial ?_
    refine g_step rfl rfl rfl rfl (e_move (v := .sc _) rfl) trivial ?_
    refine g_cases (fun hb17 => ?_) (fun hb17 => ?_)
    ·have hb17R := hb17; try simp only [z1, z2, z3, z4, z5, z6, ne_eq, z7, z8, z9, z10, z11, z12] at hb17
     refine g_skip rfl rfl rfl ?_
     refine g_skip rfl rfl rfl ?_
     refine g_skip rfl rfl rfl ?_
     refine g_step rfl rfl rfl rfl (e_pickT (v := .sc _) rfl rfl) trivial ?_
     refine g_step rfl rfl rfl rfl (e_pickT (v := .sc _) rfl rfl) trivial ?_
     refine g_step rfl rfl rfl rfl (e_assign (v := .sc _) rfl) trivial ?_
     refine g_end (ds := [39, 40, 41, 42, 43, 44, 45, 46]) rfl rfl (hK15 _ ?_); clear hK15 K15
     refine pwp_ret ?_
     refine ret_seq ?_
     refine end1 (v := .sc _) rfl ?_
     exact out_b (perm_t (by unfold permQ; omega))
    have hb17R := hb17; try simp only [z1, z2, z3, z4, z5, z6, ne_eq, z7, z8, z9, z10, z11, z12] at hb17
    refine g_step rfl rfl rfl rfl (e_faP (pl := [(0, 1, false), (1, 1, false), (2, 1, false), (3, 1, false), (4, 1, false), (5, 1, false)]) rfl (by kernel_rfl) (by kernel_rfl) (by decide) rfl) trivial ?_
    refine g_step rfl rfl rfl rfl (e_loadH (v := .sc _) rfl (hset_self _ _ _) (by kernel_rfl) (by kernel_rfl) (by kernel_rfl) (by exact Nat.zero_lt_one) (by decide) rfl) trivial ?_
    refine g_step rfl rfl rfl rfl (e_eq rfl rfl) trivial ?_
    refine g_step rfl rfl rfl rfl (e_pickF (v := .sc _) rfl rfl) trivial ?_
    refine g_step rfl rfl rfl rfl (e_pickT (v := .sc _) rfl rfl) trivial ?_
    refine g_step rfl rfl rfl rfl (e_assign (v := .sc _) rfl) trivial ?_
    refine g_end (ds := [39, 40, 41, 42, 43, 44, 45, 46]) rfl rfl (hK15 _ ?_); clear hK15 K15
    refine pwp_ret ?_
    refine ret_seq ?_
    refine end1 (v := .sc _) rfl ?_
    (refine out_b (perm_d ?_); (try simp only [At.mk.injEq]); unfold permQ; omega)
   have hb16R := hb16; try simp only [z1, z2, z3, z4, z5, z6, ne_eq, z7, z8, z9, z10, z11, z12] at hb16
   refine g_skip rfl rfl rfl ?_
   refine g_skip rfl rfl rfl ?_
   refine g_skip rfl rfl rfl ?_
   refine g_skip rfl rfl rfl ?_
   refine g_skip rfl rfl rfl ?_
   refine g_skip rfl rfl rfl ?_
   refine g_skip rfl rfl rfl ?_
   refine g_skip rfl rfl rfl ?_
   refine g_step rfl rfl rfl rfl (e_pickF (v := .sc _) rfl rfl) trivial ?_
   refine g_step rfl rfl rfl rfl (e_assign (v := .sc _) rfl) trivial ?_
   refine g_end (ds := [39, 40, 41, 42, 43, 44, 45, 46]) rfl rfl (hK15 _ ?_); clear hK15 K15
   refine pwp_ret ?_
   refine ret_seq ?_
   refine end1 (v := .sc _) rfl ?_
   exact out_b (perm_f (by unfold permQ; omega))
  have hb14R := hb14; try simp only [z1, z2, z3, z4, z5, z6, ne_eq, z7, z8, z9, z10, z11, z12] at hb14
  refine pwp_skip ?_
  refine seq_norm (hK13 _ ?_); clear hK13 K13
  refine pwp_seq_plain rfl fun K18 hK18 => ?_
  refine p_step rfl (e_faP (pl := [(0, 1, false), (1, 1, false), (2, 1, false), (3, 1, false), (4, 1, false), (5, 1, false)]) rfl (by kernel_rfl) (by kernel_rfl) (by decide) rfl) trivial ?_
  refine p_step rfl (e_loadH (v := .sc _) rfl (hset_self _ _ _) (by kernel_rfl) (by kernel_rfl) (by kernel_rfl) (by exact Nat.zero_lt_one) (by decide) rfl) trivial ?_
  refine p_step rfl (e_faP (pl := [(0, 1, false), (1, 1, false), (2, 1, false), (3, 1, false), (4, 1, false), (5, 1, false)]) rfl (by kernel_rfl) (by kernel_rfl) (by decide) rfl) trivial ?_
  refine p_step rfl (e_loadH (v := .sc _) rfl (hset_self _ _ _) (by kernel_rfl) (by kernel_rfl) (by kernel_rfl) (by exact Nat.zero_lt_one) (by decide) rfl) trivial ?_
  refine p_step rfl (e_buildA (cs := At.enc (⟨m.before, m.after⟩ : At)) (zs := [.int 0, .int 0]) (pl := [(0, 1, false), (1, 1, false)]) (by kernel_rfl) (by kernel_rfl) (by kernel_rfl) rfl rfl (by exact ⟨by decide, rfl, Nat.le_of_ble_eq_true rfl, rfl, ⟨by decide, rfl, Nat.le_of_ble_eq_true rfl, rfl, trivial⟩⟩) rfl) trivial ?_
  refine p_new rfl (e_alloc (cs := [.int 0, .int 0]) (n := 2) (by kernel_rfl) rfl (by decide)) (ob_alloc (by decide)) ?_
  refine p_store rfl (e_storeA rfl (hset_self _ _ _) rfl rfl rfl (by kernel_rfl) rfl (by kernel_rfl)) trivial ?_
  refine p_end (hK18 _ ?_); clear hK18 K18
  refine pwp_seq_seq ?_
  refine pwp_seq_gops rfl fun K19 hK19 => ?_
  refine g_begin ?_
  refine g_step rfl rfl rfl rfl (e_loadHA (cs := At.enc ((⟨m.before, m.after⟩ : At))) (n := 2) rfl (hset_self _ _ _) (by kernel_rfl) (by kernel_rfl) (by kernel_rfl) (by exact Nat.zero_lt_one) (by decide) rfl) trivial ?_
  refine g_step rfl rfl rfl rfl (e_buildA (cs := At.enc (⟨(0), (1)⟩ : At)) (zs := [.int 0, .int 0]) (pl := [(0, 1, false), (1, 1, false)]) (by kernel_rfl) (by kernel_rfl) (by kernel_rfl) rfl rfl (by exact ⟨by decide, rfl, Nat.le_of_ble_eq_true rfl, rfl, ⟨by decide, rfl, Nat.le_of_ble_eq_true rfl, rfl, trivial⟩⟩) rfl) trivial ?_
  refine g_step rfl rfl rfl rfl (e_aeq rfl rfl (by kernel_rfl) (eqOk_At ((⟨m.before, m.after⟩ : At)) ((⟨(0), (1)⟩ : At))) (eqV_At ((⟨m.before, m.after⟩ : At)) ((⟨(0), (1)⟩ : At)))) trivial ?_
  refine g_step rfl rfl rfl rfl (e_move (v := .sc _) rfl) trivial ?_
  refine g_cases (fun hb20 => ?_) (fun hb20 => ?_)
  ·have hb20R := hb20; try simp only [z1, z2, z3, z4, z5, z6, ne_eq, z7, z8, z9, z10, z11, z12] at hb20
   refine g_skip rfl rfl rfl ?_
   refine g_skip rfl rfl rfl ?_
   refine g_skip rfl rfl rfl ?_
   refine g_step rfl rfl rfl rfl (e_pickT (v := .sc _) rfl rfl) trivial ?_
   refine g_step rfl rfl rfl rfl (e_move (v := .sc _) rfl) trivial ?_
   refine g_skip rfl rfl rfl ?_
   refine g_skip rfl rfl rfl ?_
   refine g_skip rfl rfl rfl ?_
   refine g_step rfl rfl rfl rfl (e_pickT (v := .sc _) rfl rfl) trivial ?_
   refine g_end (ds := [57, 58, 59, 62, 63, 64]) rfl rfl (hK19 _ ?_); clear hK19 K19
   refine pwp_seq_cond (t := true) rfl fun K21 hK21 => ⟨fun _ => ?_, nofun⟩
   refine pwp_seq_plain rfl fun K22 hK22 => ?_
   refine p_step rfl (e_assign (v := .sc _) rfl) trivial ?_
   refine p_end (hK22 _ ?_); clear hK22 K22
   refine pwp_ret ?_
   refine ret_seq ?_
   refine end1 (v := .sc _) rfl ?_
   exact out_b (perm_t ((pq (by omega) (by omega) (by omega)).2 (.inl (ch_y (.inl (by assumption))))))
  have hb20R := hb20; try simp only [z1, z2, z3, z4, z5, z6, ne_eq, z7, z8, z9, z10, z11, z12] at hb20
  refine g_step rfl rfl rfl rfl (e_loadHA (cs := At.enc ((⟨m.before, m.after⟩ : At))) (n := 2) rfl (hset_self _ _ _) (by kernel_rfl) (by kernel_rfl) (by kernel_rfl) (by exact Nat.zero_lt_one) (by decide) rfl) trivial ?_
  refine g_step rfl rfl rfl rfl (e_buildA (cs := At.enc (⟨(0), (3)⟩ : At)) (zs := [.int 0, .int 0]) (pl := [(0, 1, false), (1, 1, false)]) (by kernel_rfl) (by kernel_rfl) (by kernel_rfl) rfl rfl (by exact ⟨by decide, rfl, Nat.le_of_ble_eq_true rfl, rfl, ⟨by decide, rfl, Nat.le_of_ble_eq_true rfl, rfl, trivial⟩⟩) rfl) trivial ?_
  refine g_step rfl rfl rfl rfl (e_aeq rfl rfl (by kernel_rfl) (eqOk_At ((⟨m.before, m.after⟩ : At)) ((⟨(0), (3)⟩ : At))) (eqV_At ((⟨m.before, m.after⟩ : At)) ((⟨(0), (3)⟩ : At)))) trivial ?_
  refine g_step rfl rfl rfl rfl (e_pickF (v := .sc _) rfl rfl) trivial ?_
  refine g_step rfl rfl rfl rfl (e_move (v := .sc _) rfl) trivial ?_
  refine g_cases (fun hb23 => ?_) (fun hb23 => ?_)
  ·have hb23R := hb23; try simp only [z1, z2, z3, z4, z5, z6, ne_eq, z7, z8, z9, z10, z11, z12] at hb23
   refine g_skip rfl rfl rfl ?_
   refine g_skip rfl rfl rfl ?_
   refine g_skip rfl rfl rfl ?_
   refine g_step rfl rfl rfl rfl (e_pickT (v := .sc _) rfl rfl) trivial ?_
   refine g_end (ds := [57, 58, 59, 62, 63, 64]) rfl rfl (hK19 _ ?_); clear hK19 K19
   refine pwp_seq_cond (t := true) rfl fun K24 hK24 => ⟨fun _ => ?_, nofun⟩
   refine pwp_seq_plain rfl fun K25 hK25 => ?_
   refine p_step rfl (e_assign (v := .sc _) rfl) trivial ?_
   refine p_end (hK25 _ ?_); clear hK25 K25
   refine pwp_ret ?_
   refine ret_seq ?_
   refine end1 (v := .sc _) rfl ?_
   exact out_b (perm_t ((pq (by omega) (by omega) (by omega)).2 (.inl (ch_y (.inr (.inl (by assumption)))))))
  have hb23R := hb23; try simp only [z1, z2, z3, z4, z5, z6, ne_eq, z7, z8, z9, z10, z11, z12] at hb23
  refine g_step rfl rfl rfl rfl (e_loadHA (cs := At.enc ((⟨m.before, m.after⟩ : At))) (n := 2) rfl (hset_self _ _ _) (by kernel_rfl) (by kernel_rfl) (by kernel_rfl) (by exact Nat.zero_lt_one) (by decide) rfl) trivial ?_
  refine g_step rfl rfl rfl rfl (e_buildA (cs := At.enc (⟨(1), (3)⟩ : At)) (zs := [.int 0, .int 0]) (pl := [(0, 1, false), (1, 1, false)]) (by kernel_rfl) (by kernel_rfl) (by kernel_rfl) rfl rfl (by exact ⟨by decide, rfl, Nat.le_of_ble_eq_true rfl, rfl, ⟨by decide, rfl, Nat.le_of_ble_eq_true rfl, rfl, trivial⟩⟩) rfl) trivial ?_
  refine g_step rfl rfl rfl rfl (e_aeq rfl rfl (by kernel_rfl) (eqOk_At ((⟨m.before, m.after⟩ : At)) ((⟨(1), (3)⟩ : At))) (eqV_At ((⟨m.before, m.after⟩ : At)) ((⟨(1), (3)⟩ : At)))) trivial ?_
  refine g_step rfl rfl rfl rfl (e_pickF (v := .sc _) rfl rfl) trivial ?_
  refine g_end (ds := [57, 58, 59, 62, 63, 64]) rfl rfl (hK19 _ ?_); clear hK19 K19
  refine pwp_seq_cond rfl fun K26 hK26 => ⟨fun hb27 => ?_, fun hb27 => ?_⟩
  ·have hb27R := hb27; try simp only [z1, z2, z3, z4, z5, z6, ne_eq, z7, z8, z9, z10, z11, z12] at hb27
   refine pwp_seq_plain rfl fun K28 hK28 => ?_
   refine p_step rfl (e_assign (v := .sc _) rfl) trivial ?_
   refine p_end (hK28 _ ?_); clear hK28 K28
   refine pwp_ret ?_
   refine ret_seq ?_
   refine end1 (v := .sc _) rfl ?_
   exact out_b (perm_t ((pq (by omega) (by omega) (by omega)).2 (.inl (ch_y (.inr (.inr (by assumption)))))))
  have hb27R := hb27; try simp only [z1, z2, z3, z4, z5, z6, ne_eq, z7, z8, z9, z10, z11, z12] at hb27
  refine pwp_skip ?_
  refine seq_norm (hK26 _ ?_); clear hK26 K26
  refine pwp_seq_gops rfl fun K29 hK29 => ?_
  refine g_begin ?_
  refine g_step rfl rfl rfl rfl (e_faP (pl := [(0, 1, false), (1, 1, false), (2, 1, false), (3, 1, false), (4, 1, false), (5, 1, false)]) rfl (by kernel_rfl) (by kernel_rfl) (by decide) rfl) trivial ?_
  refine g_step rfl rfl rfl rfl (e_loadH (v := .sc _) rfl ((hset_ne (key_ne rfl)).trans ((hset_ne (key_ne rfl)).trans (hset_self _ _ _))) (by kernel_rfl) (by kernel_rfl) (by kernel_rfl) (by exact Nat.zero_lt_one) (by decide) rfl) trivial ?_
  refine g_step rfl rfl rfl rfl (e_eq rfl rfl) trivial ?_
  refine g_step rfl rfl rfl rfl (e_move (v := .sc _) rfl) trivial ?_
  refine g_cases (fun hb30 => ?_) (fun hb30 => ?_)
  ·have hb30R := hb30; try simp only [z1, z2, z3, z4, z5, z6, ne_eq, z7, z8, z9, z10, z11, z12] at hb30
   refine g_step rfl rfl rfl rfl (e_loadHA (cs := At.enc ((⟨m.before, m.after⟩ : At))) (n := 2) rfl (hset_self _ _ _) (by kernel_rfl) (by kernel_rfl) (by kernel_rfl) (by exact Nat.zero_lt_one) (by decide) rfl) trivial ?_
   refine g_step rfl rfl rfl rfl (e_buildA (cs := At.enc (⟨(1), (2)⟩ : At)) (zs := [.int 0, .int 0]) (pl := [(0, 1, false), (1, 1, false)]) (by kernel_rfl) (by kernel_rfl) (by kernel_rfl) rfl rfl (by exact ⟨by decide, rfl, Nat.le_of_ble_eq_true rfl, rfl, ⟨by decide, rfl, Nat.le_of_ble_eq_true rfl, rfl, trivial⟩⟩) rfl) trivial ?_
   refine g_step rfl rfl rfl rfl (e_aeq rfl rfl (by kernel_rfl) (eqOk_At ((⟨m.before, m.after⟩ : At)) ((⟨(1), (2)⟩ : At))) (eqV_At ((⟨m.before, m.after⟩ : At)) ((⟨(1), (2)⟩ : At)))) trivial ?_
   refine g_step rfl rfl rfl rfl (e_move (v := .sc _) rfl) trivial ?_
   refine g_cases (fun hb31 => ?_) (fun hb31 => ?_)
   ·have hb31R := hb31; try simp only [z1, z2, z3, z4, z5, z6, ne_eq, z7, z8, z9, z10, z11, z12] at hb31
    refine g_skip rfl rfl rfl ?_
    refine g_skip rfl rfl rfl ?_
    refine g_skip rfl rfl rfl ?_
    refine g_step rfl rfl rfl rfl (e_pickT (v := .sc _) rfl rfl) trivial ?_
    refine g_step rfl rfl rfl rfl (e_move (v := .sc _) rfl) trivial ?_
    refine g_skip rfl rfl rfl ?_
    refine g_skip rfl rfl rfl ?_
    refine g_skip rfl rfl rfl ?_
    refine g_step rfl rfl rfl rfl (e_pickT (v := .sc _) rfl rfl) trivial ?_
    refine g_step rfl rfl rfl rfl (e_move (v := .sc _) rfl) trivial ?_
    refine g_skip rfl rfl rfl ?_
    refine g_skip rfl rfl rfl ?_
    refine g_skip rfl rfl rfl ?_
    refine g_step rfl rfl rfl rfl (e_pickT (v := .sc _) rfl rfl) trivial ?_
    refine g_step rfl rfl rfl rfl (e_move (v := .sc _) rfl) trivial ?_
    refine g_skip rfl rfl rfl ?_
    refine g_skip rfl rfl rfl ?_
    refine g_skip rfl rfl rfl ?_
    refine g_step rfl rfl rfl rfl (e_pickT (v := .sc _) rfl rfl) trivial ?_
    refine g_step rfl rfl rfl rfl (e_pickT (v := .sc _) rfl rfl) trivial ?_
    refine g_step rfl rfl rfl rfl (e_assign (v := .sc _) rfl) trivial ?_
    refine g_end (ds := [70, 71, 72, 73, 74, 75, 76, 77, 78, 79, 80, 81, 82, 83, 84, 85, 86, 87, 88, 89, 90, 91, 92]) rfl rfl (hK29 _ ?_); clear hK29 K29
    refine pwp_ret ?_
    refine end1 (v := .sc _) rfl ?_
    exact out_b (perm_t ((pq (by omega) (by omega) (by omega)).2 (.inr ⟨by assumption, rp_y (.inl (by assumption))⟩)))
   have hb31R := hb31; try simp only [z1, z2, z3, z4, z5, z6, ne_eq, z7, z8, z9, z10, z11, z12] at hb31
   refine g_step rfl rfl rfl rfl (e_loadHA (cs := At.enc ((⟨m.before, m.after⟩ : At))) (n := 2) rfl (hset_self _ _ _) (by kernel_rfl) (by kernel_rfl) (by kernel_rfl) (by exact Nat.zero_lt_one) (by decide) rfl) trivial ?_
   refine g_step rfl rfl rfl rfl (e_buildA (cs := At.enc (⟨(2), (0)⟩ : At)) (zs := [.int 0, .int 0]) (pl := [(0, 1, false), (1, 1, false)]) (by kernel_rfl) (by kernel_rfl) (by kernel_rfl) rfl rfl (by exact ⟨by decide, rfl, Nat.le_of_ble_eq_true rfl, rfl, ⟨by decide, rfl, Nat.le_of_ble_eq_true rfl, rfl, trivial⟩⟩) rfl) trivial ?_
   refine g_step rfl rfl rfl rfl (e_aeq rfl rfl (by kernel_rfl) (eqOk_At ((⟨m.before, m.after⟩ : At)) ((⟨(2), (0)⟩ : At))) (eqV_At ((⟨m.before, m.after⟩ : At)) ((⟨(2), (0)⟩ : At)))) trivial ?_
   refine g_step rfl rfl rfl rfl (e_pickF (v := .sc _) rfl rfl) trivial ?_
   refine g_step rfl rfl rfl rfl (e_move (v := .sc _) rfl) trivial ?_
   refine g_cases (fun hb32 => ?_) (fun hb32 => ?_)
   ·have hb32R := hb32; try simp only [z1, z2, z3, z4, z5, z6, ne_eq, z7, z8, z9, z10, z11, z12] at hb32
    refine g_skip rfl rfl rfl ?_
    refine g_skip rfl rfl rfl ?_
    refine g_skip rfl rfl rfl ?_
    refine g_step rfl rfl rfl rfl (e_pickT (v := .sc _) rfl rfl) trivial ?_
    refine g_step rfl rfl rfl rfl (e_move (v := .sc _) rfl) trivial ?_
    refine g_skip rfl rfl rfl ?_
    refine g_skip rfl rfl rfl ?_
    refine g_skip rfl rfl rfl ?_
    refine g_step rfl rfl rfl rfl (e_pickT (v := .sc _) rfl rfl) trivial ?_
    refine g_step rfl rfl rfl rfl (e_move (v := .sc _) rfl) trivial ?_
    refine g_skip rfl rfl rfl ?_
    refine g_skip rfl rfl rfl ?_
    refine g_skip rfl rfl rfl ?_
    refine g_step rfl rfl rfl rfl (e_pickT (v := .sc _) rfl rfl) trivial ?_
    refine g_step rfl rfl rfl rfl (e_pickT (v := .sc _) rfl rfl) trivial ?_
    refine g_step rfl rfl rfl rfl (e_assign (v := .sc _) rfl) trivial ?_
    refine g_end (ds := [70, 71, 72, 73, 74, 75, 76, 77, 78, 79, 80, 81, 82, 83, 84, 85, 86, 87, 88, 89, 90, 91, 92]) rfl rfl (hK29 _ ?_); clear hK29 K29
    refine pwp_ret ?_
    refine end1 (v := .sc _) rfl ?_
    exact out_b (perm_t ((pq (by omega) (by omega) (by omega)).2 (.inr ⟨by assumption, rp_y (.inr (.inl (by assumption)))⟩)))
   have hb32R := hb32; try simp only [z1, z2, z3, z4, z5, z6, ne_eq, z7, z8, z9, z10, z11, z12] at hb32
   refine g_step rfl rfl rfl rfl (e_loadHA (cs := At.enc ((⟨m.before, m.after⟩ : At))) (n := 2) rfl (hset_self _ _ _) (by kernel_rfl) (by kernel_rfl) (by kernel_rfl) (by exact Nat.zero_lt_one) (by decide) rfl) trivial ?_
   refine g_step rfl rfl rfl rfl (e_buildA (cs := At.enc (⟨(2), (1)⟩ : At)) (zs := [.int 0, .int 0]) (pl := [(0, 1, false), (1, 1, false)]) (by kernel_rfl) (by kernel_rfl) (by kernel_rfl) rfl rfl (by exact ⟨by decide, rfl, Nat.le_of_ble_eq_true rfl, rfl, ⟨by decide, rfl, Nat.le_of_ble_eq_true rfl, rfl, trivial⟩⟩) rfl) trivial ?_
   refine g_step rfl rfl rfl rfl (e_aeq rfl rfl (by kernel_rfl) (eqOk_At ((⟨m.before, m.after⟩ : At)) ((⟨(2), (1)⟩ : At))) (eqV_At ((⟨m.before, m.after⟩ : At)) ((⟨(2), (1)⟩ : At)))) trivial ?_
   refine g_step rfl rfl rfl rfl (e_pickF (v := .sc _) rfl rfl) trivial ?_
   refine g_step rfl rfl rfl rfl (e_move (v := .sc _) rfl) trivial ?_
   refine g_cases (fun hb33 => ?_) (fun hb33 => ?_)
   ·have hb33R := hb33; try simp only [z1, z2, z3, z4, z5, z6, ne_eq, z7, z8, z9, z10, z11, z12] at hb33
    refine g_skip rfl rfl rfl ?_
    refine g_skip rfl rfl rfl ?_
    refine g_skip rfl rfl rfl ?_
    refine g_step rfl rfl rfl rfl (e_pickT (v := .sc _) rfl rfl) trivial ?_
    refine g_step rfl rfl rfl rfl (e_move (v := .sc _) rfl) trivial ?_
    refine g_skip rfl rfl rfl ?_
    refine g_skip rfl rfl rfl ?_
    refine g_skip rfl rfl rfl ?_
    refine g_step rfl rfl rfl rfl (e_pickT (v := .sc _) rfl rfl) trivial ?_
    refine g_step rfl rfl rfl rfl (e_pickT (v := .sc _) rfl rfl) trivial ?_
    refine g_step rfl rfl rfl rfl (e_assign (v := .sc _) rfl) trivial ?_
    refine g_end (ds := [70, 71, 72, 73, 74, 75, 76, 77, 78, 79, 80, 81, 82, 83, 84, 85, 86, 87, 88, 89, 90, 91, 92]) rfl rfl (hK29 _ ?_); clear hK29 K29
    refine pwp_ret ?_
    refine end1 (v := .sc _) rfl ?_
    exact out_b (perm_t ((pq (by omega) (by omega) (by omega)).2 (.inr ⟨by assumption, rp_y (.inr (.inr (.inl (by assumption))))⟩)))
   have hb33R := hb33; try simp only [z1, z2, z3, z4, z5, z6, ne_eq, z7, z8, z9, z10, z11, z12] at hb33
   refine g_step rfl rfl rfl rfl (e_loadHA (cs := At.enc ((⟨m.before, m.after⟩ : At))) (n := 2) rfl (hset_self _ _ _) (by kernel_rfl) (by kernel_rfl) (by kernel_rfl) (by exact Nat.zero_lt_one) (by decide) rfl) trivial ?_
   refine g_step rfl rfl rfl rfl (e_buildA (cs := At.enc (⟨(3), (0)⟩ : At)) (zs := [.int 0, .int 0]) (pl := [(0, 1, false), (1, 1, false)]) (by kernel_rfl) (by kernel_rfl) (by kernel_rfl) rfl rfl (by exact ⟨by decide, rfl, Nat.le_of_ble_eq_true rfl, rfl, ⟨by decide, rfl, Nat.le_of_ble_eq_true rfl, rfl, trivial⟩⟩) rfl) trivial ?_
   refine g_step rfl rfl rfl rfl (e_aeq rfl rfl (by kernel_rfl) (eqOk_At ((⟨m.before, m.after⟩ : At)) ((⟨(3), (0)⟩ : At))) (eqV_At ((⟨m.before, m.after⟩ : At)) ((⟨(3), (0)⟩ : At)))) trivial ?_
   refine g_step rfl rfl rfl rfl (e_pickF (v := .sc _) rfl rfl) trivial ?_
   refine g_step rfl rfl rfl rfl (e_move (v := .sc _) rfl) trivial ?_
   refine g_cases (fun hb34 => ?_) (fun hb34 => ?_)
   ·have hb34R := hb34; try simp only [z1, z2, z3, z4, z5, z6, ne_eq, z7, z8, z9, z10, z11, z12] at hb34
    refine g_skip rfl rfl rfl ?_
    refine g_skip rfl rfl rfl ?_
    refine g_skip rfl rfl rfl ?_
    refine g_step rfl rfl rfl rfl (e_pickT (v := .sc _) rfl rfl) trivial ?_
    refine g_step rfl rfl rfl rfl (e_pickT (v := .sc _) rfl rfl) trivial ?_
    refine g_step rfl rfl rfl rfl (e_assign (v := .sc _) rfl) trivial ?_
    refine g_end (ds := [70, 71, 72, 73, 74, 75, 76, 77, 78, 79, 80, 81, 82, 83, 84, 85, 86, 87, 88, 89, 90, 91, 92]) rfl rfl (hK29 _ ?_); clear hK29 K29
    refine pwp_ret ?_
    refine end1 (v := .sc _) rfl ?_
    exact out_b (perm_t ((pq (by omega) (by omega) (by omega)).2 (.inr ⟨by assumption, rp_y (.inr (.inr (.inr (.inl (by assumption)))))⟩)))
   have hb34R := hb34; try simp only [z1, z2, z3, z4, z5, z6, ne_eq, z7, z8, z9, z10, z11, z12] at hb34
   refine g_step rfl rfl rfl rfl (e_loadHA (cs := At.enc ((⟨m.before, m.after⟩ : At))) (n := 2) rfl (hset_self _ _ _) (by kernel_rfl) (by kernel_rfl) (by kernel_rfl) (by exact Nat.zero_lt_one) (by decide) rfl) trivial ?_
   refine g_step rfl rfl rfl rfl (e_buildA (cs := At.enc (⟨(3), (1)⟩ : At)) (zs := [.int 0, .int 0]) (pl := [(0, 1, false), (1, 1, false)]) (by kernel_rfl) (by kernel_rfl) (by kernel_rfl) rfl rfl (by exact ⟨by decide, rfl, Nat.le_of_ble_eq_true rfl, rfl, ⟨by decide, rfl, Nat.le_of_ble_eq_true rfl, rfl, trivial⟩⟩) rfl) trivial ?_
   refine g_step rfl rfl rfl rfl (e_aeq rfl rfl (by kernel_rfl) (eqOk_At ((⟨m.before, m.after⟩ : At)) ((⟨(3), (1)⟩ : At))) (eqV_At ((⟨m.before, m.after⟩ : At)) ((⟨(3), (1)⟩ : At)))) trivial ?_
   refine g_step rfl rfl rfl rfl (e_pickF (v := .sc _) rfl rfl) trivial ?_
   refine g_step rfl rfl rfl rfl (e_pickT (v := .sc _) rfl rfl) trivial ?_
   refine g_step rfl rfl rfl rfl (e_assign (v := .sc _) rfl) trivial ?_
   refine g_end (ds := [70, 71, 72, 73, 74, 75, 76, 77, 78, 79, 80, 81, 82, 83, 84, 85, 86, 87, 88, 89, 90, 91, 92]) rfl rfl (hK29 _ ?_); clear hK29 K29
   refine pwp_ret ?_
   refine end1 (v := .sc _) rfl ?_
   exact out_b (perm_d ⟨fun h8 => (pq (by omega) (by omega) (by omega)).2 (.inr ⟨by assumption, rp_y (.inr (.inr (.inr (.inr h8))))⟩), fun h8 => ((pq (by omega) (by omega) (by omega)).1 h8).elim (fun h9 => absurd h9 (ch_no (by assumption) (by assumption) (by assumption))) (fun h9 => rp_l (by assumption) (by assumption) (by assumption) (by assumption) h9.2)⟩)
  have hb30R := hb30; try simp only [z1, z2, z3, z4, z5, z6, ne_eq, z7, z8, z9, z10, z11, z12] at hb30
  refine g_skip rfl rfl rfl ?_
  refine g_skip rfl rfl rfl ?_
  refine g_skip rfl rfl rfl ?_
  refine g_skip rfl rfl rfl ?_
  refine g_skip rfl rfl rfl ?_
  refine g_skip rfl rfl rfl ?_
  refine g_skip rfl rfl rfl ?_
  refine g_skip rfl rfl rfl ?_
  refine g_skip rfl rfl rfl ?_
  refine g_skip rfl rfl rfl ?_
  refine g_skip rfl rfl rfl ?_
  refine g_skip rfl rfl rfl ?_
  refine g_skip rfl rfl rfl ?_
  refine g_skip rfl rfl rfl ?_
  refine g_skip rfl rfl rfl ?_
  refine g_skip rfl rfl rfl ?_
  refine g_skip rfl rfl rfl ?_
  refine g_skip rfl rfl rfl ?_
  refine g_skip rfl rfl rfl ?_
  refine g_skip rfl rfl rfl ?_
  refine g_skip rfl rfl rfl ?_
  refine g_skip rfl rfl rfl ?_
  refine g_skip rfl rfl rfl ?_
  refine g_step rfl rfl rfl rfl (e_pickF (v := .sc _) rfl rfl) trivial ?_
  refine g_step rfl rfl rfl rfl (e_assign (v := .sc _) rfl) trivial ?_
  refine g_end (ds := [70, 71, 72, 73, 74, 75, 76, 77, 78, 79, 80, 81, 82, 83, 84, 85, 86, 87, 88, 89, 90, 91, 92]) rfl rfl (hK29 _ ?_); clear hK29 K29
  refine pwp_ret ?_
  refine end1 (v := .sc _) rfl ?_
  exact out_b (perm_f (fun h8 => ((pq (by omega) (by omega) (by omega)).1 h8).elim (ch_no (by assumption) (by assumption) (by assumption)) (fun h9 => absurd h9.1 (by assumption))))

theorem fr60 : (inFrame Tryd.f60.ntmps (Tryd.f60.body.getD .skip) && Tryd.f60.results.toList.all (resScope Tryd.f60.ntmps)) = true := by kernel_rfl
theorem indexA (zs : List At) (z : At) (hl : zs.length ≤ 1000000) : PCalls Tryd.prog 60 [.lit true 2 (zs.map At.enc), .agg z.enc] (.int (ixA z zs 0)) := by
  refine PCalls.of_code Tryd.func60 rfl rfl (by kernel_rfl) mixed fr60 (by show _ ≤ 19; simp) (.sc _) ?_
  refine pwp_seq_plain rfl fun K1 hK1 => ?_
  refine p_new rfl (e_box (n := 2) rfl rfl) ⟨rfl, by decide⟩ ?_
  refine p_step rfl (e_assign (v := .sc _) rfl) trivial ?_
  refine p_end (hK1 _ ?_); clear hK1 K1
  refine pwp_seq_seq ?_
  refine pwp_seq_plain rfl fun K2 hK2 => ?_
  refine p_step rfl (e_move (v := .lit _ _ _) rfl) trivial ?_
  refine p_step rfl (e_len rfl (by kernel_rfl)) trivial ?_
  refine p_step rfl (e_move (v := .sc _) rfl) trivial ?_
  refine p_end (hK2 _ ?_); clear hK2 K2
  refine pwp_seq_block fun K3 hK3 => ?_
  refine pwp_loopR (α := Nat) [0, 3, 7] (fun (k : Nat) => [(8, .int (k))]) (fun (k : Nat) (h : Heap) (_ : Nat → Nat) => ((k) ≤ zs.length) ∧ (ixA z zs 0 = ixA z (zs.drop (k)) ((k) : Int)) ∧ (h (3, 0) = some (.rows 2 [At.enc z]))) (fun (k : Nat) => zs.length - (k)) (0) (by exact ⟨rfl, trivial⟩) (by exact ⟨by exact Nat.zero_le _, by exact rfl, (hset_self _ _ _)⟩) fun k r4 h5 c6 hj7 => ?_
  obtain ⟨hk, hinv, hihj7_0⟩ := hj7
  try dsimp only at hk
  try dsimp only at hinv
  try dsimp only at hihj7_0
  show pwp _ _ (loopQ _ _ _) ⟨sets (mix _ _ _) [(8, .int k)], _, _⟩
  refine pwp_seq_plain rfl fun K8 hK8 => ?_
  refine p_step rfl (e_lt rfl rfl) trivial ?_
  refine p_end (hK8 _ ?_); clear hK8 K8
  refine pwp_seq_cond rfl fun K9 hK9 => ⟨fun hb10 => ?_, fun hb10 => ?_⟩
  ·have hb10R := hb10; try simp only [z1, z2, z3, z4, z5, z6, ne_eq, z7, z8, z9, z10, z11, z12] at hb10
   obtain ⟨y, hy, hd, ht⟩ := get_lt (xs := zs) (i := k) (by omega)
   rw [hd] at hinv; simp only [ixA] at hinv
   refine pwp_skip ?_
   refine seq_norm (hK9 _ ?_); clear hK9 K9
   refine pwp_seq_block fun K11 hK11 => ?_
   refine pwp_seq_plain rfl fun K12 hK12 => ?_
   refine p_step rfl (e_move (v := .sc _) rfl) trivial ?_
   refine p_step rfl (e_assign (v := .sc _) rfl) trivial ?_
   refine p_end (hK12 _ ?_); clear hK12 K12
   refine pwp_seq_gops rfl fun K13 hK13 => ?_
   refine g_begin ?_
   refine g_step rfl rfl rfl rfl (e_loadHA (n := 2) rfl hihj7_0 (by kernel_rfl) (by kernel_rfl) (by kernel_rfl) (by exact Nat.zero_lt_one) (by decide) rfl) trivial ?_
   refine g_step rfl rfl rfl rfl (e_move (v := .lit _ _ _) rfl) trivial ?_
   refine g_step rfl rfl rfl rfl (e_move (v := .sc _) rfl) trivial ?_
   refine g_step rfl rfl rfl rfl (e_ixa rfl rfl (by kernel_rfl) (by kernel_rfl) (by simp only [List.length_map]; omega)) trivial ?_
   refine g_step rfl rfl rfl rfl (e_loadA (n := 2) rfl (by kernel_rfl) (by kernel_rfl) (by kernel_rfl) (by simp only [List.length_map]; omega) (by decide) (by first | exact agg_map hy rfl)) trivial ?_
   refine g_step rfl rfl rfl rfl (e_aeq rfl rfl (by kernel_rfl) (eqOk_At (z) (y)) (eqV_At (z) (y))) trivial ?_
   refine g_end (ds := []) (by kernel_rfl) rfl (hK13 _ ?_); clear hK13 K13
   refine pwp_cond rfl (fun hb14 => ?_) (fun hb14 => ?_)
   ·have hb14R := hb14; try simp only [z1, z2, z3, z4, z5, z6, ne_eq, z7, z8, z9, z10, z11, z12] at hb14
    refine pwp_seq_plain rfl fun K15 hK15 => ?_
    refine p_step rfl (e_move (v := .sc _) rfl) trivial ?_
    refine p_step rfl (e_assign (v := .sc _) rfl) trivial ?_
    refine p_end (hK15 _ ?_); clear hK15 K15
    refine pwp_ret ?_
    refine ret_block ?_
    refine ret_seq ?_
    refine ret_loop ?_
    refine ret_block ?_
    refine ret_seq ?_
    refine end1 (v := .sc _) rfl ?_
    exact out_i (by rw [hinv, if_pos (by assumption)])
   have hb14R := hb14; try simp only [z1, z2, z3, z4, z5, z6, ne_eq, z7, z8, z9, z10, z11, z12] at hb14
   refine pwp_skip ?_
   refine block_norm ?_
   refine seq_norm (hK11 _ ?_); clear hK11 K11
   refine pwp_plain rfl fun K16 hK16 => ?_
   refine p_step rfl (e_add rfl rfl (by omega)) trivial ?_
   refine p_step rfl (e_move (v := .sc _) rfl) trivial ?_
   refine p_end (hK16 _ ?_); clear hK16 K16
   rw [if_neg (by assumption)] at hinv
   exact loop_again (k + 1) (by show _ < _; omega) ⟨rfl, rfl, rfl, trivial⟩ ⟨rfl, trivial⟩ (by exact ⟨by show _ + 1 ≤ _; omega, by exact hinv, hihj7_0⟩)
  have hb10R := hb10; try simp only [z1, z2, z3, z4, z5, z6, ne_eq, z7, z8, z9, z10, z11, z12] at hb10
  obtain rfl : k = zs.length := by omega
  rw [List.drop_length] at hinv; simp only [ixA] at hinv
  refine pwp_exit ?_
  refine exit_seq ?_
  clear hK9 K9
  refine exit_loop ?_
  refine exit_here ?_
  refine seq_norm (hK3 _ ?_); clear hK3 K3
  refine pwp_seq_plain rfl fun K17 hK17 => ?_
  refine p_step rfl (e_assign (v := .sc _) rfl) trivial ?_
  refine p_end (hK17 _ ?_); clear hK17 K17
  refine pwp_ret ?_
  refine end1 (v := .sc _) rfl ?_
  exact out_i (by rw [hinv])

theorem fr47 : (inFrame Tryd.f47.ntmps (Tryd.f47.body.getD .skip) && Tryd.f47.results.toList.all (resScope Tryd.f47.ntmps)) = true := by kernel_rfl
theorem containsA (zs : List At) (z : At) (hl : zs.length ≤ 1000000) : PCalls Tryd.prog 47 [.lit true 2 (zs.map At.enc), .agg z.enc] (.bool (decide (z ∈ zs))) := by
  refine PCalls.of_code Tryd.func47 rfl rfl (by kernel_rfl) mixed fr47 (by show _ ≤ 9; simp) (.sc _) ?_
  refine pwp_seq_plain rfl fun K1 hK1 => ?_
  refine p_new rfl (e_box (n := 2) rfl rfl) ⟨rfl, by decide⟩ ?_
  refine p_step rfl (e_assign (v := .sc _) rfl) trivial ?_
  refine p_end (hK1 _ ?_); clear hK1 K1
  refine pwp_seq_plain rfl fun K2 hK2 => ?_
  refine p_step rfl (e_move (v := .lit _ _ _) rfl) trivial ?_
  refine p_step rfl (e_loadHA (n := 2) rfl (hset_self _ _ _) (by kernel_rfl) (by kernel_rfl) (by kernel_rfl) (by exact Nat.zero_lt_one) (by decide) rfl) trivial ?_
  refine p_call rfl (.cons inn_lit (.cons (inn_agg (At.pure _)) .nil)) (indexA _ _ (by omega)) ?_
  refine p_step rfl (e_ge rfl rfl) trivial ?_
  refine p_step rfl (e_assign (v := .sc _) rfl) trivial ?_
  refine p_end (hK2 _ ?_); clear hK2 K2
  refine pwp_ret ?_
  refine end1 (v := .sc _) rfl ?_
  exact out_b (ixA_mem z zs 0 (Int.le_refl _))

theorem fr32 : (inFrame Tryd.f32.ntmps (Tryd.f32.body.getD .skip) && Tryd.f32.results.toList.all (resScope Tryd.f32.ntmps)) = true := by kernel_rfl
theorem permitted (m : Movement) : PCalls Tryd.prog 32 [.agg m.enc] (.bool (permP m)) := by
  refine PCalls.of_code Tryd.func32 rfl rfl (by kernel_rfl) mixed fr32 (by show _ ≤ 64; simp) (.sc _) ?_
  refine pwp_seq_plain rfl fun K1 hK1 => ?_
  refine p_new rfl (e_box (n := 6) rfl rfl) ⟨rfl, by decide⟩ ?_
  refine p_step rfl (e_assign (v := .sc _) rfl) trivial ?_
  refine p_end (hK1 _ ?_); clear hK1 K1
  refine pwp_seq_plain rfl fun K2 hK2 => ?_
  refine p_step rfl (e_faP (pl := [(0, 1, false), (1, 1, false), (2, 1, false), (3, 1, false), (4, 1, false), (5, 1, false)]) rfl (by kernel_rfl) (by kernel_rfl) (by decide) rfl) trivial ?_
  refine p_step rfl (e_loadH (v := .sc _) rfl (hset_self _ _ _) (by kernel_rfl) (by kernel_rfl) (by kernel_rfl) (by exact Nat.zero_lt_one) (by decide) rfl) trivial ?_
  refine p_step rfl (e_faP (pl := [(0, 1, false), (1, 1, false), (2, 1, false), (3, 1, false), (4, 1, false), (5, 1, false)]) rfl (by kernel_rfl) (by kernel_rfl) (by decide) rfl) trivial ?_
  refine p_step rfl (e_loadH (v := .sc _) rfl (hset_self _ _ _) (by kernel_rfl) (by kernel_rfl) (by kernel_rfl) (by exact Nat.zero_lt_one) (by decide) rfl) trivial ?_
  refine p_step rfl (e_buildA (cs := At.enc (⟨m.before, m.after⟩ : At)) (zs := [.int 0, .int 0]) (pl := [(0, 1, false), (1, 1, false)]) (by kernel_rfl) (by kernel_rfl) (by kernel_rfl) rfl rfl (by exact ⟨by decide, rfl, Nat.le_of_ble_eq_true rfl, rfl, ⟨by decide, rfl, Nat.le_of_ble_eq_true rfl, rfl, trivial⟩⟩) rfl) trivial ?_
  refine p_new rfl (e_alloc (cs := [.int 0, .int 0]) (n := 2) (by kernel_rfl) rfl (by decide)) (ob_alloc (by decide)) ?_
  refine p_store rfl (e_storeA rfl (hset_self _ _ _) rfl rfl rfl (by kernel_rfl) rfl (by kernel_rfl)) trivial ?_
  refine p_end (hK2 _ ?_); clear hK2 K2
  refine pwp_seq_block fun K3 hK3 => ?_
  refine pwp_seq_plain rfl fun K4 hK4 => ?_
  refine p_step rfl (e_faP (pl := [(0, 1, false), (1, 1, false), (2, 1, false), (3, 1, false), (4, 1, false), (5, 1, false)]) rfl (by kernel_rfl) (by kernel_rfl) (by decide) rfl) trivial ?_
  refine p_step rfl (e_loadH (v := .sc _) rfl ((hset_ne (key_ne rfl)).trans ((hset_ne (key_ne rfl)).trans (hset_self _ _ _))) (by kernel_rfl) (by kernel_rfl) (by kernel_rfl) (by exact Nat.zero_lt_one) (by decide) rfl) trivial ?_
  refine p_step rfl (e_eq rfl rfl) trivial ?_
  refine p_step rfl (e_assign (v := .sc _) rfl) trivial ?_
  refine p_end (hK4 _ ?_); clear hK4 K4
  refine pwp_cond rfl (fun hb5 => ?_) (fun hb5 => ?_)
  ·have hb5R := hb5; try simp only [z1, z2, z3, z4, z5, z6, ne_eq, z7, z8, z9, z10, z11, z12] at hb5
   refine pwp_seq_gops rfl fun K6 hK6 => ?_
   refine g_begin ?_
   refine g_step rfl rfl rfl rfl (e_faP (pl := [(0, 1, false), (1, 1, false), (2, 1, false), (3, 1, false), (4, 1, false), (5, 1, false)]) rfl (by kernel_rfl) (by kernel_rfl) (by decide) rfl) trivial ?_
   refine g_step rfl rfl rfl rfl (e_loadH (v := .sc _) rfl ((hset_ne (key_ne rfl)).trans ((hset_ne (key_ne rfl)).trans (hset_self _ _ _))) (by kernel_rfl) (by kernel_rfl) (by kernel_rfl) (by exact Nat.zero_lt_one) (by decide) rfl) trivial ?_
   refine g_step rfl rfl rfl rfl (e_eq rfl rfl) trivial ?_
   refine g_step rfl rfl rfl rfl (e_move (v := .sc _) rfl) trivial ?_
   refine g_cases (fun hb7 => ?_) (fun hb7 => ?_)
   ·have hb7R := hb7; try simp only [z1, z2, z3, z4, z5, z6, ne_eq, z7, z8, z9, z10, z11, z12] at hb7
    refine g_step rfl rfl rfl rfl (e_loadHA (cs := At.enc ((⟨m.before, m.after⟩ : At))) (n := 2) rfl (hset_self _ _ _) (by kernel_rfl) (by kernel_rfl) (by kernel_rfl) (by exact Nat.zero_lt_one) (by decide) rfl) trivial ?_
    refine g_step rfl rfl rfl rfl (e_buildA (cs := At.enc (⟨(0), (0)⟩ : At)) (zs := [.int 0, .int 0]) (pl := [(0, 1, false), (1, 1, false)]) (by kernel_rfl) (by kernel_rfl) (by kernel_rfl) rfl rfl (by exact ⟨by decide, rfl, Nat.le_of_ble_eq_true rfl, rfl, ⟨by decide, rfl, Nat.le_of_ble_eq_true rfl, rfl, trivial⟩⟩) rfl) trivial ?_
    refine g_step rfl rfl rfl rfl (e_aeq rfl rfl (by kernel_rfl) (eqOk_At ((⟨m.before, m.after⟩ : At)) ((⟨(0), (0)⟩ : At))) (eqV_At ((⟨m.before, m.after⟩ : At)) ((⟨(0), (0)⟩ : At)))) trivial ?_
    refine g_step rfl rfl rfl rfl (e_pickT (v := .sc _) rfl rfl) trivial ?_
    refine g_step rfl rfl rfl rfl (e_assign (v := .sc _) rfl) trivial ?_
    refine g_end (ds := [17, 18, 19]) rfl rfl (hK6 _ ?_); clear hK6 K6
    refine pwp_ret ?_
    refine ret_block ?_
    refine ret_seq ?_
    refine end1 (v := .sc _) rfl ?_
    (refine out_b (perm_d ?_); (try simp only [At.mk.injEq]); unfold permQ; omega)
   have hb7R := hb7; try simp only [z1, z2, z3, z4, z5, z6, ne_eq, z7, z8, z9, z10, z11, z12] at hb7
   refine g_skip rfl rfl rfl ?_
   refine g_skip rfl rfl rfl ?_
   refine g_skip rfl rfl rfl ?_
   refine g_step rfl rfl rfl rfl (e_pickF (v := .sc _) rfl rfl) trivial ?_
   refine g_step rfl rfl rfl rfl (e_assign (v := .sc _) rfl) trivial ?_
   refine g_end (ds := [17, 18, 19]) rfl rfl (hK6 _ ?_); clear hK6 K6
   refine pwp_ret ?_
   refine ret_block ?_
   refine ret_seq ?_
   refine end1 (v := .sc _) rfl ?_
   exact out_b (perm_f (by unfold permQ; omega))
  have hb5R := hb5; try simp only [z1, z2, z3, z4, z5, z6, ne_eq, z7, z8, z9, z10, z11, z12] at hb5
  refine pwp_seq_plain rfl fun K8 hK8 => ?_
  refine p_step rfl (e_faP (pl := [(0, 1, false), (1, 1, false), (2, 1, false), (3, 1, false), (4, 1, false), (5, 1, false)]) rfl (by kernel_rfl) (by kernel_rfl) (by decide) rfl) trivial ?_
  refine p_step rfl (e_loadH (v := .sc _) rfl ((hset_ne (key_ne rfl)).trans ((hset_ne (key_ne rfl)).trans (hset_self _ _ _))) (by kernel_rfl) (by kernel_rfl) (by kernel_rfl) (by exact Nat.zero_lt_one) (by decide) rfl) trivial ?_
  refine p_step rfl (e_eq rfl rfl) trivial ?_
  refine p_step rfl (e_assign (v := .sc _) rfl) trivial ?_
  refine p_end (hK8 _ ?_); clear hK8 K8
  refine pwp_cond rfl (fun hb9 => ?_) (fun hb9 => ?_)
  ·have hb9R := hb9; try simp only [z1, z2, z3, z4, z5, z6, ne_eq, z7, z8, z9, z10, z11, z12] at hb9
   refine pwp_seq_plain rfl fun K10 hK10 => ?_
   refine p_step rfl (e_faP (pl := [(0, 1, false), (1, 1, false), (2, 1, false), (3, 1, false), (4, 1, false), (5, 1, false)]) rfl (by kernel_rfl) (by kernel_rfl) (by decide) rfl) trivial ?_
   refine p_step rfl (e_loadH (v := .sc _) rfl ((hset_ne (key_ne rfl)).trans ((hset_ne (key_ne rfl)).trans (hset_self _ _ _))) (by kernel_rfl) (by kernel_rfl) (by kernel_rfl) (by exact Nat.zero_lt_one) (by decide) rfl) trivial ?_
   refine p_step rfl (e_faP (pl := [(0, 1, false), (1, 1, false), (2, 1, false), (3, 1, false), (4, 1, false), (5, 1, false)]) rfl (by kernel_rfl) (by kernel_rfl) (by decide) rfl) trivial ?_
   refine p_step rfl (e_loadH (v := .sc _) rfl ((hset_ne (key_ne rfl)).trans ((hset_ne (key_ne rfl)).trans (hset_self _ _ _))) (by kernel_rfl) (by kernel_rfl) (by kernel_rfl) (by exact Nat.zero_lt_one) (by decide) rfl) trivial ?_
   refine p_step rfl (e_eq rfl rfl) trivial ?_
   refine p_step rfl (e_assign (v := .sc _) rfl) trivial ?_
   refine p_end (hK10 _ ?_); clear hK10 K10
   refine pwp_ret ?_
   refine ret_block ?_
   refine ret_seq ?_
   refine end1 (v := .sc _) rfl ?_
   (refine out_b (perm_d ?_); (try simp only [At.mk.injEq]); unfold permQ; omega)
  have hb9R := hb9; try simp only [z1, z2, z3, z4, z5, z6, ne_eq, z7, z8, z9, z10, z11, z12] at hb9
  refine pwp_seq_plain rfl fun K11 hK11 => ?_
  refine p_step rfl (e_faP (pl := [(0, 1, false), (1, 1, false), (2, 1, false), (3, 1, false), (4, 1, false), (5, 1, false)]) rfl (by kernel_rfl) (by kernel_rfl) (by decide) rfl) trivial ?_
  refine p_step rfl (e_loadH (v := .sc _) rfl ((hset_ne (key_ne rfl)).trans ((hset_ne (key_ne rfl)).trans (hset_self _ _ _))) (by kernel_rfl) (by kernel_rfl) (by kernel_rfl) (by exact Nat.zero_lt_one) (by decide) rfl) trivial ?_
  refine p_step rfl (e_faP (pl := [(0, 1, false), (1, 1, false), (2, 1, false), (3, 1, false), (4, 1, false), (5, 1, false)]) rfl (by kernel_rfl) (by kernel_rfl) (by decide) rfl) trivial ?_
  refine p_step rfl (e_loadH (v := .sc _) rfl ((hset_ne (key_ne rfl)).trans ((hset_ne (key_ne rfl)).trans (hset_self _ _ _))) (by kernel_rfl) (by kernel_rfl) (by kernel_rfl) (by exact Nat.zero_lt_one) (by decide) rfl) trivial ?_
  refine p_step rfl (e_ne rfl rfl) trivial ?_
  refine p_step rfl (e_assign (v := .sc _) rfl) trivial ?_
  refine p_end (hK11 _ ?_); clear hK11 K11
  refine pwp_cond rfl (fun hb12 => ?_) (fun hb12 => ?_)
  ·have hb12R := hb12; try simp only [z1, z2, z3, z4, z5, z6, ne_eq, z7, z8, z9, z10, z11, z12] at hb12
   refine pwp_seq_gops rfl fun K13 hK13 => ?_
   refine g_begin ?_
   refine g_step rfl rfl rfl rfl (e_faP (pl := [(0, 1, false), (1, 1, false), (2, 1, false), (3, 1, false), (4, 1, false), (5, 1, false)]) rfl (by kernel_rfl) (by kernel_rfl) (by decide) rfl) trivial ?_
   refine g_step rfl rfl rfl rfl (e_loadH (v := .sc _) rfl ((hset_ne (key_ne rfl)).trans ((hset_ne (key_ne rfl)).trans (hset_self _ _ _))) (by kernel_rfl) (by kernel_rfl) (by kernel_rfl) (by exact Nat.zero_lt_one) (by decide) rfl) trivial ?_
   refine g_step rfl rfl rfl rfl (e_faP (pl := [(0, 1, false), (1, 1, false), (2, 1, false), (3, 1, false), (4, 1, false), (5, 1, false)]) rfl (by kernel_rfl) (by kernel_rfl) (by decide) rfl) trivial ?_
   refine g_step rfl rfl rfl rfl (e_loadH (v := .sc _) rfl ((hset_ne (key_ne rfl)).trans ((hset_ne (key_ne rfl)).trans (hset_self _ _ _))) (by kernel_rfl) (by kernel_rfl) (by kernel_rfl) (by exact Nat.zero_lt_one) (by decide) rfl) trivial ?_
   refine g_step rfl rfl rfl rfl (e_eq rfl rfl) trivial ?_
   refine g_step rfl rfl rfl rfl (e_move (v := .sc _) rfl) trivial ?_
   refine g_cases (fun hb14 => ?_) (fun hb14 => ?_)
   ·have hb14R := hb14; try simp only [z1, z2, z3, z4, z5, z6, ne_eq, z7, z8, z9, z10, z11, z12] at hb14
    refine g_step rfl rfl rfl rfl (e_faP (pl := [(0, 1, false), (1, 1, false), (2, 1, false), (3, 1, false), (4, 1, false), (5, 1, false)]) rfl (by kernel_rfl) (by kernel_rfl) (by decide) rfl) trivial ?_
    refine g_step rfl rfl rfl rfl (e_loadH (v := .sc _) rfl ((hset_ne (key_ne rfl)).trans ((hset_ne (key_ne rfl)).trans (hset_self _ _ _))) (by kernel_rfl) (by kernel_rfl) (by kernel_rfl) (by exact Nat.zero_lt_one) (by decide) rfl) trivial ?_
    refine g_step rfl rfl rfl rfl (e_eq rfl rfl) trivial ?_
    refine g_step rfl rfl rfl rfl (e_move (v := .sc _) rfl) trivial ?_
    refine g_cases (fun hb15 => ?_) (fun hb15 => ?_)
    ·have hb15R := hb15; try simp only [z1, z2, z3, z4, z5, z6, ne_eq, z7, z8, z9, z10, z11, z12] at hb15
     refine g_skip rfl rfl rfl ?_
     refine g_skip rfl rfl rfl ?_
     refine g_skip rfl rfl rfl ?_
     refine g_step rfl rfl rfl rfl (e_pickT (v := .sc _) rfl rfl) trivial ?_
     refine g_step rfl rfl rfl rfl (e_pickT (v := .sc _) rfl rfl) trivial ?_
     refine g_step rfl rfl rfl rfl (e_assign (v := .sc _) rfl) trivial ?_
     refine g_end (ds := [42, 43, 44, 45, 46, 47, 48, 49]) rfl rfl (hK13 _ ?_); clear hK13 K13
     refine pwp_ret ?_
     refine ret_block ?_
     refine ret_seq ?_
     refine end1 (v := .sc _) rfl ?_
     exact out_b (perm_t (by unfold permQ; omega))
    have hb15R := hb15; try simp only [z1, z2, z3, z4, z5, z6, ne_eq, z7, z8, z9, z10, z11, z12] at hb15
    refine g_step rfl rfl rfl rfl (e_faP (pl := [(0, 1, false), (1, 1, false), (2, 1, false), (3, 1, false), (4, 1, false), (5, 1, false)]) rfl (by kernel_rfl) (by kernel_rfl) (by decide) rfl) trivial ?_
    refine g_step rfl rfl rfl rfl (e_loadH (v := .sc _) rfl ((hset_ne (key_ne rfl)).trans ((hset_ne (key_ne rfl)).trans (hset_self _ _ _))) (by kernel_rfl) (by kernel_rfl) (by kernel_rfl) (by exact Nat.zero_lt_one) (by decide) rfl) trivial ?_
    refine g_step rfl rfl rfl rfl (e_eq rfl rfl) trivial ?_
    refine g_step rfl rfl rfl rfl (e_pickF (v := .sc _) rfl rfl) trivial ?_
    refine g_step rfl rfl rfl rfl (e_pickT (v := .sc _) rfl rfl) trivial ?_
    refine g_step rfl rfl rfl rfl (e_assign (v := .sc _) rfl) trivial ?_
    refine g_end (ds := [42, 43, 44, 45, 46, 47, 48, 49]) rfl rfl (hK13 _ ?_); clear hK13 K13
    refine pwp_ret ?_
    refine ret_block ?_
    refine ret_seq ?_
    refine end1 (v := .sc _) rfl ?_
    (refine out_b (perm_d ?_); (try simp only [At.mk.injEq]); unfold permQ; omega)
   have hb14R := hb14; try simp only [z1, z2, z3, z4, z5, z6, ne_eq, z7, z8, z9, z10, z11, z12] at hb14
   refine g_skip rfl rfl rfl ?_
   refine g_skip rfl rfl rfl ?_
   refine g_skip rfl rfl rfl ?_
   refine g_skip rfl rfl rfl ?_
   refine g_skip rfl rfl rfl ?_
   refine g_skip rfl rfl rfl ?_
   refine g_skip rfl rfl rfl ?_
   refine g_skip rfl rfl rfl ?_
   refine g_step rfl rfl rfl rfl (e_pickF (v := .sc _) rfl rfl) trivial ?_
   refine g_step rfl rfl rfl rfl (e_assign (v := .sc _) rfl) trivial ?_
   refine g_end (ds := [42, 43, 44, 45, 46, 47, 48, 49]) rfl rfl (hK13 _ ?_); clear hK13 K13
   refine pwp_ret ?_
   refine ret_block ?_
   refine ret_seq ?_
   refine end1 (v := .sc _) rfl ?_
   exact out_b (perm_f (by unfold permQ; omega))
  have hb12R := hb12; try simp only [z1, z2, z3, z4, z5, z6, ne_eq, z7, z8, z9, z10, z11, z12] at hb12
  refine pwp_skip ?_
  refine block_norm ?_
  refine seq_norm (hK3 _ ?_); clear hK3 K3
  refine pwp_seq_gops rfl fun K16 hK16 => ?_
  refine g_begin ?_
  refine g_step rfl rfl rfl rfl (e_load (v := .lit _ _ _) rfl (by kernel_rfl) (by kernel_rfl) (by kernel_rfl) (by exact Nat.zero_lt_one) (by decide) rfl) trivial ?_
  refine g_step rfl rfl rfl rfl (e_loadHA (cs := At.enc ((⟨m.before, m.after⟩ : At))) (n := 2) rfl (hset_self _ _ _) (by kernel_rfl) (by kernel_rfl) (by kernel_rfl) (by exact Nat.zero_lt_one) (by decide) rfl) trivial ?_
  refine g_call rfl rfl rfl rfl (.cons inn_lit (.cons (inn_agg (At.pure ((⟨m.before, m.after⟩ : At)))) .nil)) (containsA gchA (⟨m.before, m.after⟩ : At) (by decide)) ?_
  refine g_step rfl rfl rfl rfl (e_move (v := .sc _) rfl) trivial ?_
  refine g_cases (fun hb17 => ?_) (fun hb17 => ?_)
  ·have hb17R := hb17; try simp only [z1, z2, z3, z4, z5, z6, ne_eq, z7, z8, z9, z10, z11, z12] at hb17
   refine g_skip rfl rfl rfl ?_
   refine g_skip rfl rfl rfl ?_
   refine g_skip rfl rfl rfl ?_
   refine g_skip rfl rfl rfl ?_
   refine g_skip rfl rfl rfl ?_
   refine g_skip rfl rfl rfl ?_
   refine g_nocall rfl rfl rfl ?_
   refine g_skip rfl rfl rfl ?_
   refine g_step rfl rfl rfl rfl (e_pickT (v := .sc _) rfl rfl) trivial ?_
   refine g_step rfl rfl rfl rfl (e_assign (v := .sc _) rfl) trivial ?_
   refine g_end (ds := [55, 56, 57, 58, 59, 60, 61, 62]) rfl rfl (hK16 _ ?_); clear hK16 K16
   refine pwp_ret ?_
   refine end1 (v := .sc _) rfl ?_
   exact out_b (perm_t ((pq (by omega) (by omega) (by omega)).2 (.inl (gchA_iff.1 (by assumption)))))
  have hb17R := hb17; try simp only [z1, z2, z3, z4, z5, z6, ne_eq, z7, z8, z9, z10, z11, z12] at hb17
  refine g_step rfl rfl rfl rfl (e_faP (pl := [(0, 1, false), (1, 1, false), (2, 1, false), (3, 1, false), (4, 1, false), (5, 1, false)]) rfl (by kernel_rfl) (by kernel_rfl) (by decide) rfl) trivial ?_
  refine g_step rfl rfl rfl rfl (e_loadH (v := .sc _) rfl ((hset_ne (key_ne rfl)).trans ((hset_ne (key_ne rfl)).trans (hset_self _ _ _))) (by kernel_rfl) (by kernel_rfl) (by kernel_rfl) (by exact Nat.zero_lt_one) (by decide) rfl) trivial ?_
  refine g_step rfl rfl rfl rfl (e_eq rfl rfl) trivial ?_
  refine g_step rfl rfl rfl rfl (e_move (v := .sc _) rfl) trivial ?_
  refine g_cases (fun hb18 => ?_) (fun hb18 => ?_)
  ·have hb18R := hb18; try simp only [z1, z2, z3, z4, z5, z6, ne_eq, z7, z8, z9, z10, z11, z12] at hb18
   refine g_step rfl rfl rfl rfl (e_load (v := .lit _ _ _) rfl (by kernel_rfl) (by kernel_rfl) (by kernel_rfl) (by exact Nat.zero_lt_one) (by decide) rfl) trivial ?_
   refine g_step rfl rfl rfl rfl (e_loadHA (cs := At.enc ((⟨m.before, m.after⟩ : At))) (n := 2) rfl (hset_self _ _ _) (by kernel_rfl) (by kernel_rfl) (by kernel_rfl) (by exact Nat.zero_lt_one) (by decide) rfl) trivial ?_
   refine g_call rfl rfl rfl rfl (.cons inn_lit (.cons (inn_agg (At.pure ((⟨m.before, m.after⟩ : At)))) .nil)) (containsA grpA (⟨m.before, m.after⟩ : At) (by decide)) ?_
   refine g_step rfl rfl rfl rfl (e_pickT (v := .sc _) rfl rfl) trivial ?_
   refine g_step rfl rfl rfl rfl (e_pickF (v := .sc _) rfl rfl) trivial ?_
   refine g_step rfl rfl rfl rfl (e_assign (v := .sc _) rfl) trivial ?_
   refine g_end (ds := [55, 56, 57, 58, 59, 60, 61, 62]) rfl rfl (hK16 _ ?_); clear hK16 K16
   refine pwp_ret ?_
   refine end1 (v := .sc _) rfl ?_
   exact out_b (perm_d ⟨fun h8 => (pq (by omega) (by omega) (by omega)).2 (.inr ⟨by assumption, grpA_iff.1 h8⟩), fun h8 => ((pq (by omega) (by omega) (by omega)).1 h8).elim (fun h9 => absurd (gchA_iff.2 h9) (by assumption)) (fun h9 => grpA_iff.2 h9.2)⟩)
  have hb18R := hb18; try simp only [z1, z2, z3, z4, z5, z6, ne_eq, z7, z8, z9, z10, z11, z12] at hb18
  refine g_skip rfl rfl rfl ?_
  refine g_skip rfl rfl rfl ?_
  refine g_nocall rfl rfl rfl ?_
  refine g_step rfl rfl rfl rfl (e_pickF (v := .sc _) rfl rfl) trivial ?_
  refine g_step rfl rfl rfl rfl (e_pickF (v := .sc _) rfl rfl) trivial ?_
  refine g_step rfl rfl rfl rfl (e_assign (v := .sc _) rfl) trivial ?_
  refine g_end (ds := [55, 56, 57, 58, 59, 60, 61, 62]) rfl rfl (hK16 _ ?_); clear hK16 K16
  refine pwp_ret ?_
  refine end1 (v := .sc _) rfl ?_
  exact out_b (perm_f (fun h8 => ((pq (by omega) (by omega) (by omega)).1 h8).elim (fun h9 => absurd (gchA_iff.2 h9) (by assumption)) (fun h9 => absurd h9.1 (by assumption))))

theorem fr11 : (inFrame Tryd.f11.ntmps (Tryd.f11.body.getD .skip) && Tryd.f11.results.toList.all (resScope Tryd.f11.ntmps)) = true := by kernel_rfl
theorem CheckMovement (m : Movement) (hs : m.part.size ≤ 30) : PCalls Tryd.prog 11 [.agg m.enc] (.int (mvE m)) := by
  refine PCalls.of_code Tryd.func11 rfl rfl (by kernel_rfl) mixed fr11 (by show _ ≤ 41; simp) (.sc _) ?_
  refine pwp_seq_plain rfl fun K1 hK1 => ?_
  refine p_new rfl (e_box (n := 6) rfl rfl) ⟨rfl, by decide⟩ ?_
  refine p_step rfl (e_assign (v := .sc _) rfl) trivial ?_
  refine p_end (hK1 _ ?_); clear hK1 K1
  refine pwp_seq_block fun K2 hK2 => ?_
  refine pwp_seq_plain rfl fun K3 hK3 => ?_
  refine p_step rfl (e_faP (pl := [(0, 1, false), (1, 1, false), (2, 1, false), (3, 1, false), (4, 1, false), (5, 1, false)]) rfl (by kernel_rfl) (by kernel_rfl) (by decide) rfl) trivial ?_
  refine p_step rfl (e_loadH (v := .sc _) rfl (hset_self _ _ _) (by kernel_rfl) (by kernel_rfl) (by kernel_rfl) (by exact Nat.zero_lt_one) (by decide) rfl) trivial ?_
  refine p_call rfl (.cons inn_sc .nil) (isName _ (by omega)) ?_
  refine p_step rfl (e_not rfl) trivial ?_
  refine p_step rfl (e_assign (v := .sc _) rfl) trivial ?_
  refine p_end (hK3 _ ?_); clear hK3 K3
  refine pwp_cond rfl (fun hb4 => ?_) (fun hb4 => ?_)
  ·have hb4R := hb4; try simp only [z1, z2, z3, z4, z5, z6, ne_eq, z7, z8, z9, z10, z11, z12] at hb4
   refine pwp_seq_plain rfl fun K5 hK5 => ?_
   refine p_step rfl (e_assign (v := .sc _) rfl) trivial ?_
   refine p_end (hK5 _ ?_); clear hK5 K5
   refine pwp_ret ?_
   refine ret_block ?_
   refine ret_seq ?_
   refine end1 (v := .sc _) rfl ?_
   exact out_i (mv_4 (by assumption))
  have hb4R := hb4; try simp only [z1, z2, z3, z4, z5, z6, ne_eq, z7, z8, z9, z10, z11, z12] at hb4
  refine pwp_seq_cutG [1] [(8, .bool (((((!(decide ((-1) ≤ m.fro ∧ m.fro ≤ (99)))) || (!(decide ((-1) ≤ m.til ∧ m.til ≤ (99))))) || (!(decide ((0) ≤ m.before ∧ m.before ≤ (3))))) || (!(decide ((0) ≤ m.after ∧ m.after ≤ (3))))) || (!(decide ((1) ≤ m.count ∧ m.count ≤ (1000000))))))] (fun K6 hK6 => ?_) (fun r7 => ?_)
  ·skip
   refine pwp_gops rfl fun K8 hK8 => ?_
   refine g_begin ?_
   refine g_step rfl rfl rfl rfl (e_faP (pl := [(0, 1, false), (1, 1, false), (2, 1, false), (3, 1, false), (4, 1, false), (5, 1, false)]) rfl (by kernel_rfl) (by kernel_rfl) (by decide) rfl) trivial ?_
   refine g_step rfl rfl rfl rfl (e_loadH (v := .sc _) rfl (hset_self _ _ _) (by kernel_rfl) (by kernel_rfl) (by kernel_rfl) (by exact Nat.zero_lt_one) (by decide) rfl) trivial ?_
   refine g_call rfl rfl rfl rfl (.cons inn_sc (.cons inn_sc (.cons inn_sc .nil))) (within _ _ _) ?_
   refine g_step rfl rfl rfl rfl (e_not rfl) trivial ?_
   refine g_step rfl rfl rfl rfl (e_move (v := .sc _) rfl) trivial ?_
   refine g_cases (fun hb9 => ?_) (fun hb9 => ?_)
   ·have hb9R := hb9; try simp only [z1, z2, z3, z4, z5, z6, ne_eq, z7, z8, z9, z10, z11, z12] at hb9
    refine g_skip rfl rfl rfl ?_
    refine g_skip rfl rfl rfl ?_
    refine g_nocall rfl rfl rfl ?_
    refine g_skip rfl rfl rfl ?_
    refine g_step rfl rfl rfl rfl (e_pickT (v := .sc _) rfl rfl) trivial ?_
    refine g_step rfl rfl rfl rfl (e_move (v := .sc _) rfl) trivial ?_
    refine g_skip rfl rfl rfl ?_
    refine g_skip rfl rfl rfl ?_
    refine g_nocall rfl rfl rfl ?_
    refine g_skip rfl rfl rfl ?_
    refine g_step rfl rfl rfl rfl (e_pickT (v := .sc _) rfl rfl) trivial ?_
    refine g_step rfl rfl rfl rfl (e_move (v := .sc _) rfl) trivial ?_
    refine g_skip rfl rfl rfl ?_
    refine g_skip rfl rfl rfl ?_
    refine g_nocall rfl rfl rfl ?_
    refine g_skip rfl rfl rfl ?_
    refine g_step rfl rfl rfl rfl (e_pickT (v := .sc _) rfl rfl) trivial ?_
    refine g_step rfl rfl rfl rfl (e_move (v := .sc _) rfl) trivial ?_
    refine g_skip rfl rfl rfl ?_
    refine g_skip rfl rfl rfl ?_
    refine g_nocall rfl rfl rfl ?_
    refine g_skip rfl rfl rfl ?_
    refine g_step rfl rfl rfl rfl (e_pickT (v := .sc _) rfl rfl) trivial ?_
    refine g_step rfl rfl rfl rfl (e_assign (v := .sc _) rfl) trivial ?_
    refine g_end (ds := [14, 15, 16, 17, 20, 21, 22, 23, 26, 27, 28, 29, 32, 33, 34, 35]) rfl rfl (hK8 _ ?_); clear hK8 K8
    exact seq_norm (hK6 _ ⟨rfl, trivial⟩ ⟨(congrArg PV.bool (show (true : Bool) = (((((!(decide ((-1) ≤ m.fro ∧ m.fro ≤ (99)))) || (!(decide ((-1) ≤ m.til ∧ m.til ≤ (99))))) || (!(decide ((0) ≤ m.before ∧ m.before ≤ (3))))) || (!(decide ((0) ≤ m.after ∧ m.after ≤ (3))))) || (!(decide ((1) ≤ m.count ∧ m.count ≤ (1000000))))) by first | rfl | ((try rw [hb9R]) <;> (first | rfl | (simp only [Bool.and_true, Bool.and_false, Bool.true_and, Bool.false_and, Bool.or_true, Bool.or_false, Bool.true_or, Bool.false_or, Bool.not_true, Bool.not_false, if_true, if_false, Bool.false_eq_true, reduceIte] <;> rfl))) | (simp only [hb9R, Bool.and_true, Bool.and_false, Bool.true_and, Bool.false_and, Bool.or_true, Bool.or_false, Bool.true_or, Bool.false_or, Bool.not_true, Bool.not_false, if_true, if_false, Bool.false_eq_true, reduceIte] <;> rfl))), trivial⟩)
   have hb9R := hb9; try simp only [z1, z2, z3, z4, z5, z6, ne_eq, z7, z8, z9, z10, z11, z12] at hb9
   refine g_step rfl rfl rfl rfl (e_faP (pl := [(0, 1, false), (1, 1, false), (2, 1, false), (3, 1, false), (4, 1, false), (5, 1, false)]) rfl (by kernel_rfl) (by kernel_rfl) (by decide) rfl) trivial ?_
   refine g_step rfl rfl rfl rfl (e_loadH (v := .sc _) rfl (hset_self _ _ _) (by kernel_rfl) (by kernel_rfl) (by kernel_rfl) (by exact Nat.zero_lt_one) (by decide) rfl) trivial ?_
   refine g_call rfl rfl rfl rfl (.cons inn_sc (.cons inn_sc (.cons inn_sc .nil))) (within _ _ _) ?_
   refine g_step rfl rfl rfl rfl (e_not rfl) trivial ?_
   refine g_step rfl rfl rfl rfl (e_pickF (v := .sc _) rfl rfl) trivial ?_
   refine g_step rfl rfl rfl rfl (e_move (v := .sc _) rfl) trivial ?_
   refine g_cases (fun hb10 => ?_) (fun hb10 => ?_)
   ·have hb10R := hb10; try simp only [z1, z2, z3, z4, z5, z6, ne_eq, z7, z8, z9, z10, z11, z12] at hb10
    refine g_skip rfl rfl rfl ?_
    refine g_skip rfl rfl rfl ?_
    refine g_nocall rfl rfl rfl ?_
    refine g_skip rfl rfl rfl ?_
    refine g_step rfl rfl rfl rfl (e_pickT (v := .sc _) rfl rfl) trivial ?_
    refine g_step rfl rfl rfl rfl (e_move (v := .sc _) rfl) trivial ?_
    refine g_skip rfl rfl rfl ?_
    refine g_skip rfl rfl rfl ?_
    refine g_nocall rfl rfl rfl ?_
    refine g_skip rfl rfl rfl ?_
    refine g_step rfl rfl rfl rfl (e_pickT (v := .sc _) rfl rfl) trivial ?_
    refine g_step rfl rfl rfl rfl (e_move (v := .sc _) rfl) trivial ?_
    refine g_skip rfl rfl rfl ?_
    refine g_skip rfl rfl rfl ?_
    refine g_nocall rfl rfl rfl ?_
    refine g_skip rfl rfl rfl ?_
    refine g_step rfl rfl rfl rfl (e_pickT (v := .sc _) rfl rfl) trivial ?_
    refine g_step rfl rfl rfl rfl (e_assign (v := .sc _) rfl) trivial ?_
    refine g_end (ds := [14, 15, 16, 17, 20, 21, 22, 23, 26, 27, 28, 29, 32, 33, 34, 35]) rfl rfl (hK8 _ ?_); clear hK8 K8
    exact seq_norm (hK6 _ ⟨rfl, trivial⟩ ⟨(congrArg PV.bool (show (true : Bool) = (((((!(decide ((-1) ≤ m.fro ∧ m.fro ≤ (99)))) || (!(decide ((-1) ≤ m.til ∧ m.til ≤ (99))))) || (!(decide ((0) ≤ m.before ∧ m.before ≤ (3))))) || (!(decide ((0) ≤ m.after ∧ m.after ≤ (3))))) || (!(decide ((1) ≤ m.count ∧ m.count ≤ (1000000))))) by first | rfl | ((try rw [hb10R]) <;> (try rw [hb9R]) <;> (first | rfl | (simp only [Bool.and_true, Bool.and_false, Bool.true_and, Bool.false_and, Bool.or_true, Bool.or_false, Bool.true_or, Bool.false_or, Bool.not_true, Bool.not_false, if_true, if_false, Bool.false_eq_true, reduceIte] <;> rfl))) | (simp only [hb9R, hb10R, Bool.and_true, Bool.and_false, Bool.true_and, Bool.false_and, Bool.or_true, Bool.or_false, Bool.true_or, Bool.false_or, Bool.not_true, Bool.not_false, if_true, if_false, Bool.false_eq_true, reduceIte] <;> rfl))), trivial⟩)
   have hb10R := hb10; try simp only [z1, z2, z3, z4, z5, z6, ne_eq, z7, z8, z9, z10, z11, z12] at hb10
   refine g_step rfl rfl rfl rfl (e_faP (pl := [(0, 1, false), (1, 1, false), (2, 1, false), (3, 1, false), (4, 1, false), (5, 1, false)]) rfl (by kernel_rfl) (by kernel_rfl) (by decide) rfl) trivial ?_
   refine g_step rfl rfl rfl rfl (e_loadH (v := .sc _) rfl (hset_self _ _ _) (by kernel_rfl) (by kernel_rfl) (by kernel_rfl) (by exact Nat.zero_lt_one) (by decide) rfl) trivial ?_
   refine g_call rfl rfl rfl rfl (.cons inn_sc (.cons inn_sc (.cons inn_sc .nil))) (within _ _ _) ?_
   refine g_step rfl rfl rfl rfl (e_not rfl) trivial ?_
   refine g_step rfl rfl rfl rfl (e_pickF (v := .sc _) rfl rfl) trivial ?_
   refine g_step rfl rfl rfl rfl (e_move (v := .sc _) rfl) trivial ?_
   refine g_cases (fun hb11 => ?_) (fun hb11 => ?_)
   ·have hb11R := hb11; try simp only [z1, z2, z3, z4, z5, z6, ne_eq, z7, z8, z9, z10, z11, z12] at hb11
    refine g_skip rfl rfl rfl ?_
    refine g_skip rfl rfl rfl ?_
    refine g_nocall rfl rfl rfl ?_
    refine g_skip rfl rfl rfl ?_
    refine g_step rfl rfl rfl rfl (e_pickT (v := .sc _) rfl rfl) trivial ?_
    refine g_step rfl rfl rfl rfl (e_move (v := .sc _) rfl) trivial ?_
    refine g_skip rfl rfl rfl ?_
    refine g_skip rfl rfl rfl ?_
    refine g_nocall rfl rfl rfl ?_
    refine g_skip rfl rfl rfl ?_
    refine g_step rfl rfl rfl rfl (e_pickT (v := .sc _) rfl rfl) trivial ?_
    refine g_step rfl rfl rfl rfl (e_assign (v := .sc _) rfl) trivial ?_
    refine g_end (ds := [14, 15, 16, 17, 20, 21, 22, 23, 26, 27, 28, 29, 32, 33, 34, 35]) rfl rfl (hK8 _ ?_); clear hK8 K8
    exact seq_norm (hK6 _ ⟨rfl, trivial⟩ ⟨(congrArg PV.bool (show (true : Bool) = (((((!(decide ((-1) ≤ m.fro ∧ m.fro ≤ (99)))) || (!(decide ((-1) ≤ m.til ∧ m.til ≤ (99))))) || (!(decide ((0) ≤ m.before ∧ m.before ≤ (3))))) || (!(decide ((0) ≤ m.after ∧ m.after ≤ (3))))) || (!(decide ((1) ≤ m.count ∧ m.count ≤ (1000000))))) by first | rfl | ((try rw [hb11R]) <;> (try rw [hb10R]) <;> (try rw [hb9R]) <;> (first | rfl | (simp only [Bool.and_true, Bool.and_false, Bool.true_and, Bool.false_and, Bool.or_true, Bool.or_false, Bool.true_or, Bool.false_or, Bool.not_true, Bool.not_false, if_true, if_false, Bool.false_eq_true, reduceIte] <;> rfl))) | (simp only [hb9R, hb10R, hb11R, Bool.and_true, Bool.and_false, Bool.true_and, Bool.false_and, Bool.or_true, Bool.or_false, Bool.true_or, Bool.false_or, Bool.not_true, Bool.not_false, if_true, if_false, Bool.false_eq_true, reduceIte] <;> rfl))), trivial⟩)
   have hb11R := hb11; try simp only [z1, z2, z3, z4, z5, z6, ne_eq, z7, z8, z9, z10, z11, z12] at hb11
   refine g_step rfl rfl rfl rfl (e_faP (pl := [(0, 1, false), (1, 1, false), (2, 1, false), (3, 1, false), (4, 1, false), (5, 1, false)]) rfl (by kernel_rfl) (by kernel_rfl) (by decide) rfl) trivial ?_
   refine g_step rfl rfl rfl rfl (e_loadH (v := .sc _) rfl (hset_self _ _ _) (by kernel_rfl) (by kernel_rfl) (by kernel_rfl) (by exact Nat.zero_lt_one) (by decide) rfl) trivial ?_
   refine g_call rfl rfl rfl rfl (.cons inn_sc (.cons inn_sc (.cons inn_sc .nil))) (within _ _ _) ?_
   refine g_step rfl rfl rfl rfl (e_not rfl) trivial ?_
   refine g_step rfl rfl rfl rfl (e_pickF (v := .sc _) rfl rfl) trivial ?_
   refine g_step rfl rfl rfl rfl (e_move (v := .sc _) rfl) trivial ?_
   refine g_cases (fun hb12 => ?_) (fun hb12 => ?_)
   ·have hb12R := hb12; try simp only [z1, z2, z3, z4, z5, z6, ne_eq, z7, z8, z9, z10, z11, z12] at hb12
    refine g_skip rfl rfl rfl ?_
    refine g_skip rfl rfl rfl ?_
    refine g_nocall rfl rfl rfl ?_
    refine g_skip rfl rfl rfl ?_
    refine g_step rfl rfl rfl rfl (e_pickT (v := .sc _) rfl rfl) trivial ?_
    refine g_step rfl rfl rfl rfl (e_assign (v := .sc _) rfl) trivial ?_
    refine g_end (ds := [14, 15, 16, 17, 20, 21, 22, 23, 26, 27, 28, 29, 32, 33, 34, 35]) rfl rfl (hK8 _ ?_); clear hK8 K8
    exact seq_norm (hK6 _ ⟨rfl, trivial⟩ ⟨(congrArg PV.bool (show (true : Bool) = (((((!(decide ((-1) ≤ m.fro ∧ m.fro ≤ (99)))) || (!(decide ((-1) ≤ m.til ∧ m.til ≤ (99))))) || (!(decide ((0) ≤ m.before ∧ m.before ≤ (3))))) || (!(decide ((0) ≤ m.after ∧ m.after ≤ (3))))) || (!(decide ((1) ≤ m.count ∧ m.count ≤ (1000000))))) by first | rfl | ((try rw [hb12R]) <;> (try rw [hb11R]) <;> (try rw [hb10R]) <;> (try rw [hb9R]) <;> (first | rfl | (simp only [Bool.and_true, Bool.and_false, Bool.true_and, Bool.false_and, Bool.or_true, Bool.or_false, Bool.true_or, Bool.false_or, Bool.not_true, Bool.not_false, if_true, if_false, Bool.false_eq_true, reduceIte] <;> rfl))) | (simp only [hb9R, hb10R, hb11R, hb12R, Bool.and_true, Bool.and_false, Bool.true_and, Bool.false_and, Bool.or_true, Bool.or_false, Bool.true_or, Bool.false_or, Bool.not_true, Bool.not_false, if_true, if_false, Bool.false_eq_true, reduceIte] <;> rfl))), trivial⟩)
   have hb12R := hb12; try simp only [z1, z2, z3, z4, z5, z6, ne_eq, z7, z8, z9, z10, z11, z12] at hb12
   refine g_step rfl rfl rfl rfl (e_faP (pl := [(0, 1, false), (1, 1, false), (2, 1, false), (3, 1, false), (4, 1, false), (5, 1, false)]) rfl (by kernel_rfl) (by kernel_rfl) (by decide) rfl) trivial ?_
   refine g_step rfl rfl rfl rfl (e_loadH (v := .sc _) rfl (hset_self _ _ _) (by kernel_rfl) (by kernel_rfl) (by kernel_rfl) (by exact Nat.zero_lt_one) (by decide) rfl) trivial ?_
   refine g_call rfl rfl rfl rfl (.cons inn_sc (.cons inn_sc (.cons inn_sc .nil))) (within _ _ _) ?_
   refine g_step rfl rfl rfl rfl (e_not rfl) trivial ?_
   refine g_step rfl rfl rfl rfl (e_pickF (v := .sc _) rfl rfl) trivial ?_
   refine g_step rfl rfl rfl rfl (e_assign (v := .sc _) rfl) trivial ?_
   refine g_end (ds := [14, 15, 16, 17, 20, 21, 22, 23, 26, 27, 28, 29, 32, 33, 34, 35]) rfl rfl (hK8 _ ?_); clear hK8 K8
   exact seq_norm (hK6 _ ⟨rfl, trivial⟩ ⟨(congrArg PV.bool (show ((!(decide ((1) ≤ m.count ∧ m.count ≤ (1000000)))) : Bool) = (((((!(decide ((-1) ≤ m.fro ∧ m.fro ≤ (99)))) || (!(decide ((-1) ≤ m.til ∧ m.til ≤ (99))))) || (!(decide ((0) ≤ m.before ∧ m.before ≤ (3))))) || (!(decide ((0) ≤ m.after ∧ m.after ≤ (3))))) || (!(decide ((1) ≤ m.count ∧ m.count ≤ (1000000))))) by first | rfl | ((try rw [hb12R]) <;> (try rw [hb11R]) <;> (try rw [hb10R]) <;> (try rw [hb9R]) <;> (first | rfl | (simp only [Bool.and_true, Bool.and_false, Bool.true_and, Bool.false_and, Bool.or_true, Bool.or_false, Bool.true_or, Bool.false_or, Bool.not_true, Bool.not_false, if_true, if_false, Bool.false_eq_true, reduceIte] <;> rfl))) | (simp only [hb9R, hb10R, hb11R, hb12R, Bool.and_true, Bool.and_false, Bool.true_and, Bool.false_and, Bool.or_true, Bool.or_false, Bool.true_or, Bool.false_or, Bool.not_true, Bool.not_false, if_true, if_false, Bool.false_eq_true, reduceIte] <;> rfl))), trivial⟩)
  refine pwp_cond rfl (fun hb13 => ?_) (fun hb13 => ?_)
  ·have hb13R := hb13; try simp only [z1, z2, z3, z4, z5, z6, ne_eq, z7, z8, z9, z10, z11, z12] at hb13
   refine pwp_seq_plain rfl fun K14 hK14 => ?_
   refine p_step rfl (e_assign (v := .sc _) rfl) trivial ?_
   refine p_end (hK14 _ ?_); clear hK14 K14
   refine pwp_ret ?_
   refine ret_block ?_
   refine ret_seq ?_
   refine end1 (v := .sc _) rfl ?_
   exact out_i (mv_2 (by assumption) (by unfold rngQ; omega))
  have hb13R := hb13; try simp only [z1, z2, z3, z4, z5, z6, ne_eq, z7, z8, z9, z10, z11, z12] at hb13
  refine pwp_seq_plain rfl fun K15 hK15 => ?_
  refine p_step rfl (e_loadHA (n := 6) rfl (hset_self _ _ _) (by kernel_rfl) (by kernel_rfl) (by kernel_rfl) (by exact Nat.zero_lt_one) (by decide) rfl) trivial ?_
  refine p_call rfl (.cons (inn_agg (Movement.pure _)) .nil) (permitted m) ?_
  refine p_step rfl (e_not rfl) trivial ?_
  refine p_step rfl (e_assign (v := .sc _) rfl) trivial ?_
  refine p_end (hK15 _ ?_); clear hK15 K15
  refine pwp_cond rfl (fun hb16 => ?_) (fun hb16 => ?_)
  ·have hb16R := hb16; try simp only [z1, z2, z3, z4, z5, z6, ne_eq, z7, z8, z9, z10, z11, z12] at hb16
   refine pwp_seq_plain rfl fun K17 hK17 => ?_
   refine p_step rfl (e_assign (v := .sc _) rfl) trivial ?_
   refine p_end (hK17 _ ?_); clear hK17 K17
   refine pwp_ret ?_
   refine ret_block ?_
   refine ret_seq ?_
   refine end1 (v := .sc _) rfl ?_
   exact out_i (mv_21 (by assumption) (by unfold rngQ; omega) (by assumption))
  have hb16R := hb16; try simp only [z1, z2, z3, z4, z5, z6, ne_eq, z7, z8, z9, z10, z11, z12] at hb16
  refine pwp_skip ?_
  refine block_norm ?_
  refine seq_norm (hK2 _ ?_); clear hK2 K2
  refine pwp_seq_plain rfl fun K18 hK18 => ?_
  refine p_step rfl (e_assign (v := .sc _) rfl) trivial ?_
  refine p_end (hK18 _ ?_); clear hK18 K18
  refine pwp_ret ?_
  refine end1 (v := .sc _) rfl ?_
  exact out_i (mv_0 (by assumption) (by unfold rngQ; omega) (by assumption))

theorem fr9 : (inFrame Tryd.f9.ntmps (Tryd.f9.body.getD .skip) && Tryd.f9.results.toList.all (resScope Tryd.f9.ntmps)) = true := by kernel_rfl
theorem refCheckMovement (m : Movement) (hs : m.part.size ≤ 30) : PCalls Tryd.prog 9 [.agg m.enc] (.int (mvE m)) := by
  refine PCalls.of_code Tryd.func9 rfl rfl (by kernel_rfl) mixed fr9 (by show _ ≤ 38; simp) (.sc _) ?_
  refine pwp_seq_plain rfl fun K1 hK1 => ?_
  refine p_new rfl (e_box (n := 6) rfl rfl) ⟨rfl, by decide⟩ ?_
  refine p_step rfl (e_assign (v := .sc _) rfl) trivial ?_
  refine p_end (hK1 _ ?_); clear hK1 K1
  refine pwp_seq_seq ?_
  refine pwp_seq_plain rfl fun K2 hK2 => ?_
  refine p_step rfl (e_faP (pl := [(0, 1, false), (1, 1, false), (2, 1, false), (3, 1, false), (4, 1, false), (5, 1, false)]) rfl (by kernel_rfl) (by kernel_rfl) (by decide) rfl) trivial ?_
  refine p_step rfl (e_loadH (v := .sc _) rfl (hset_self _ _ _) (by kernel_rfl) (by kernel_rfl) (by kernel_rfl) (by exact Nat.zero_lt_one) (by decide) rfl) trivial ?_
  refine p_call rfl (.cons inn_sc .nil) (IsName _) ?_
  refine p_step rfl (e_not rfl) trivial ?_
  refine p_end (hK2 _ ?_); clear hK2 K2
  refine pwp_seq_cond rfl fun K3 hK3 => ⟨fun hb4 => ?_, fun hb4 => ?_⟩
  ·have hb4R := hb4; try simp only [z1, z2, z3, z4, z5, z6, ne_eq, z7, z8, z9, z10, z11, z12] at hb4
   refine pwp_seq_plain rfl fun K5 hK5 => ?_
   refine p_step rfl (e_assign (v := .sc _) rfl) trivial ?_
   refine p_end (hK5 _ ?_); clear hK5 K5
   refine pwp_ret ?_
   refine ret_seq ?_
   refine end1 (v := .sc _) rfl ?_
   exact out_i (mv_4 (by assumption))
  have hb4R := hb4; try simp only [z1, z2, z3, z4, z5, z6, ne_eq, z7, z8, z9, z10, z11, z12] at hb4
  refine pwp_skip ?_
  refine seq_norm (hK3 _ ?_); clear hK3 K3
  refine pwp_seq_seq ?_
  refine pwp_seq_cutG [1] [(34, .bool (((((!(decide ((-1) ≤ m.fro ∧ m.fro ≤ (99)))) || (!(decide ((-1) ≤ m.til ∧ m.til ≤ (99))))) || (!(decide ((0) ≤ m.before ∧ m.before ≤ (3))))) || (!(decide ((0) ≤ m.after ∧ m.after ≤ (3))))) || (!(decide ((1) ≤ m.count ∧ m.count ≤ (1000000))))))] (fun K6 hK6 => ?_) (fun r7 => ?_)
  ·skip
   refine pwp_gops rfl fun K8 hK8 => ?_
   refine g_begin ?_
   refine g_step rfl rfl rfl rfl (e_faP (pl := [(0, 1, false), (1, 1, false), (2, 1, false), (3, 1, false), (4, 1, false), (5, 1, false)]) rfl (by kernel_rfl) (by kernel_rfl) (by decide) rfl) trivial ?_
   refine g_step rfl rfl rfl rfl (e_loadH (v := .sc _) rfl (hset_self _ _ _) (by kernel_rfl) (by kernel_rfl) (by kernel_rfl) (by exact Nat.zero_lt_one) (by decide) rfl) trivial ?_
   refine g_call rfl rfl rfl rfl (.cons inn_sc (.cons inn_sc (.cons inn_sc .nil))) (Within _ _ _) ?_
   refine g_step rfl rfl rfl rfl (e_not rfl) trivial ?_
   refine g_step rfl rfl rfl rfl (e_move (v := .sc _) rfl) trivial ?_
   refine g_cases (fun hb9 => ?_) (fun hb9 => ?_)
   ·have hb9R := hb9; try simp only [z1, z2, z3, z4, z5, z6, ne_eq, z7, z8, z9, z10, z11, z12] at hb9
    refine g_skip rfl rfl rfl ?_
    refine g_skip rfl rfl rfl ?_
    refine g_nocall rfl rfl rfl ?_
    refine g_skip rfl rfl rfl ?_
    refine g_step rfl rfl rfl rfl (e_pickT (v := .sc _) rfl rfl) trivial ?_
    refine g_step rfl rfl rfl rfl (e_move (v := .sc _) rfl) trivial ?_
    refine g_skip rfl rfl rfl ?_
    refine g_skip rfl rfl rfl ?_
    refine g_nocall rfl rfl rfl ?_
    refine g_skip rfl rfl rfl ?_
    refine g_step rfl rfl rfl rfl (e_pickT (v := .sc _) rfl rfl) trivial ?_
    refine g_step rfl rfl rfl rfl (e_move (v := .sc _) rfl) trivial ?_
    refine g_skip rfl rfl rfl ?_
    refine g_skip rfl rfl rfl ?_
    refine g_nocall rfl rfl rfl ?_
    refine g_skip rfl rfl rfl ?_
    refine g_step rfl rfl rfl rfl (e_pickT (v := .sc _) rfl rfl) trivial ?_
    refine g_step rfl rfl rfl rfl (e_move (v := .sc _) rfl) trivial ?_
    refine g_skip rfl rfl rfl ?_
    refine g_skip rfl rfl rfl ?_
    refine g_nocall rfl rfl rfl ?_
    refine g_skip rfl rfl rfl ?_
    refine g_step rfl rfl rfl rfl (e_pickT (v := .sc _) rfl rfl) trivial ?_
    refine g_end (ds := [12, 13, 14, 15, 18, 19, 20, 21, 24, 25, 26, 27, 30, 31, 32, 33]) rfl rfl (hK8 _ ?_); clear hK8 K8
    exact seq_norm (hK6 _ ⟨rfl, trivial⟩ ⟨(congrArg PV.bool (show (true : Bool) = (((((!(decide ((-1) ≤ m.fro ∧ m.fro ≤ (99)))) || (!(decide ((-1) ≤ m.til ∧ m.til ≤ (99))))) || (!(decide ((0) ≤ m.before ∧ m.before ≤ (3))))) || (!(decide ((0) ≤ m.after ∧ m.after ≤ (3))))) || (!(decide ((1) ≤ m.count ∧ m.count ≤ (1000000))))) by first | rfl | ((try rw [hb9R]) <;> (first | rfl | (simp only [Bool.and_true, Bool.and_false, Bool.true_and, Bool.false_and, Bool.or_true, Bool.or_false, Bool.true_or, Bool.false_or, Bool.not_true, Bool.not_false, if_true, if_false, Bool.false_eq_true, reduceIte] <;> rfl))) | (simp only [hb9R, Bool.and_true, Bool.and_false, Bool.true_and, Bool.false_and, Bool.or_true, Bool.or_false, Bool.true_or, Bool.false_or, Bool.not_true, Bool.not_false, if_true, if_false, Bool.false_eq_true, reduceIte] <;> rfl))), trivial⟩)
   have hb9R := hb9; try simp only [z1, z2, z3, z4, z5, z6, ne_eq, z7, z8, z9, z10, z11, z12] at hb9
   refine g_step rfl rfl rfl rfl (e_faP (pl := [(0, 1, false), (1, 1, false), (2, 1, false), (3, 1, false), (4, 1, false), (5, 1, false)]) rfl (by kernel_rfl) (by kernel_rfl) (by decide) rfl) trivial ?_
   refine g_step rfl rfl rfl rfl (e_loadH (v := .sc _) rfl (hset_self _ _ _) (by kernel_rfl) (by kernel_rfl) (by kernel_rfl) (by exact Nat.zero_lt_one) (by decide) rfl) trivial ?_
   refine g_call rfl rfl rfl rfl (.cons inn_sc (.cons inn_sc (.cons inn_sc .nil))) (Within _ _ _) ?_
   refine g_step rfl rfl rfl rfl (e_not rfl) trivial ?_
   refine g_step rfl rfl rfl rfl (e_pickF (v := .sc _) rfl rfl) trivial ?_
   refine g_step rfl rfl rfl rfl (e_move (v := .sc _) rfl) trivial ?_
   refine g_cases (fun hb10 => ?_) (fun hb10 => ?_)
   ·have hb10R := hb10; try simp only [z1, z2, z3, z4, z5, z6, ne_eq, z7, z8, z9, z10, z11, z12] at hb10
    refine g_skip rfl rfl rfl ?_
    refine g_skip rfl rfl rfl ?_
    refine g_nocall rfl rfl rfl ?_
    refine g_skip rfl rfl rfl ?_
    refine g_step rfl rfl rfl rfl (e_pickT (v := .sc _) rfl rfl) trivial ?_
    refine g_step rfl rfl rfl rfl (e_move (v := .sc _) rfl) trivial ?_
    refine g_skip rfl rfl rfl ?_
    refine g_skip rfl rfl rfl ?_
    refine g_nocall rfl rfl rfl ?_
    refine g_skip rfl rfl rfl ?_
    refine g_step rfl rfl rfl rfl (e_pickT (v := .sc _) rfl rfl) trivial ?_
    refine g_step rfl rfl rfl rfl (e_move (v := .sc _) rfl) trivial ?_
    refine g_skip rfl rfl rfl ?_
    refine g_skip rfl rfl rfl ?_
    refine g_nocall rfl rfl rfl ?_
    refine g_skip rfl rfl rfl ?_
    refine g_step rfl rfl rfl rfl (e_pickT (v := .sc _) rfl rfl) trivial ?_
    refine g_end (ds := [12, 13, 14, 15, 18, 19, 20, 21, 24, 25, 26, 27, 30, 31, 32, 33]) rfl rfl (hK8 _ ?_); clear hK8 K8
    exact seq_norm (hK6 _ ⟨rfl, trivial⟩ ⟨(congrArg PV.bool (show (true : Bool) = (((((!(decide ((-1) ≤ m.fro ∧ m.fro ≤ (99)))) || (!(decide ((-1) ≤ m.til ∧ m.til ≤ (99))))) || (!(decide ((0) ≤ m.before ∧ m.before ≤ (3))))) || (!(decide ((0) ≤ m.after ∧ m.after ≤ (3))))) || (!(decide ((1) ≤ m.count ∧ m.count ≤ (1000000))))) by first | rfl | ((try rw [hb10R]) <;> (try rw [hb9R]) <;> (first | rfl | (simp only [Bool.and_true, Bool.and_false, Bool.true_and, Bool.false_and, Bool.or_true, Bool.or_false, Bool.true_or, Bool.false_or, Bool.not_true, Bool.not_false, if_true, if_false, Bool.false_eq_true, reduceIte] <;> rfl))) | (simp only [hb9R, hb10R, Bool.and_true, Bool.and_false, Bool.true_and, Bool.false_and, Bool.or_true, Bool.or_false, Bool.true_or, Bool.false_or, Bool.not_true, Bool.not_false, if_true, if_false, Bool.false_eq_true, reduceIte] <;> rfl))), trivial⟩)
   have hb10R := hb10; try simp only [z1, z2, z3, z4, z5, z6, ne_eq, z7, z8, z9, z10, z11, z12] at hb10
   refine g_step rfl rfl rfl rfl (e_faP (pl := [(0, 1, false), (1, 1, false), (2, 1, false), (3, 1, false), (4, 1, false), (5, 1, false)]) rfl (by kernel_rfl) (by kernel_rfl) (by decide) rfl) trivial ?_
   refine g_step rfl rfl rfl rfl (e_loadH (v := .sc _) rfl (hset_self _ _ _) (by kernel_rfl) (by kernel_rfl) (by kernel_rfl) (by exact Nat.zero_lt_one) (by decide) rfl) trivial ?_
   refine g_call rfl rfl rfl rfl (.cons inn_sc (.cons inn_sc (.cons inn_sc .nil))) (Within _ _ _) ?_
   refine g_step rfl rfl rfl rfl (e_not rfl) trivial ?_
   refine g_step rfl rfl rfl rfl (e_pickF (v := .sc _) rfl rfl) trivial ?_
   refine g_step rfl rfl rfl rfl (e_move (v := .sc _) rfl) trivial ?_
   refine g_cases (fun hb11 => ?_) (fun hb11 => ?_)
   ·have hb11R := hb11; try simp only [z1, z2, z3, z4, z5, z6, ne_eq, z7, z8, z9, z10, z11, z12] at hb11
    refine g_skip rfl rfl rfl ?_
    refine g_skip rfl rfl rfl ?_
    refine g_nocall rfl rfl rfl ?_
    refine g_skip rfl rfl rfl ?_
    refine g_step rfl rfl rfl rfl (e_pickT (v := .sc _) rfl rfl) trivial ?_
    refine g_step rfl rfl rfl rfl (e_move (v := .sc _) rfl) trivial ?_
    refine g_skip rfl rfl rfl ?_
    refine g_skip rfl rfl rfl ?_
    refine g_nocall rfl rfl rfl ?_
    refine g_skip rfl rfl rfl ?_
    refine g_step rfl rfl rfl rfl (e_pickT (v := .sc _) rfl rfl) trivial ?_
    refine g_end (ds := [12, 13, 14, 15, 18, 19, 20, 21, 24, 25, 26, 27, 30, 31, 32, 33]) rfl rfl (hK8 _ ?_); clear hK8 K8
    exact seq_norm (hK6 _ ⟨rfl, trivial⟩ ⟨(congrArg PV.bool (show (true : Bool) = (((((!(decide ((-1) ≤ m.fro ∧ m.fro ≤ (99)))) || (!(decide ((-1) ≤ m.til ∧ m.til ≤ (99))))) || (!(decide ((0) ≤ m.before ∧ m.before ≤ (3))))) || (!(decide ((0) ≤ m.after ∧ m.after ≤ (3))))) || (!(decide ((1) ≤ m.count ∧ m.count ≤ (1000000))))) by first | rfl | ((try rw [hb11R]) <;> (try rw [hb10R]) <;> (try rw [hb9R]) <;> (first | rfl | (simp only [Bool.and_true, Bool.and_false, Bool.true_and, Bool.false_and, Bool.or_true, Bool.or_false, Bool.true_or, Bool.false_or, Bool.not_true, Bool.not_false, if_true, if_false, Bool.false_eq_true, reduceIte] <;> rfl))) | (simp only [hb9R, hb10R, hb11R, Bool.and_true, Bool.and_false, Bool.true_and, Bool.false_and, Bool.or_true, Bool.or_false, Bool.true_or, Bool.false_or, Bool.not_true, Bool.not_false, if_true, if_false, Bool.false_eq_true, reduceIte] <;> rfl))), trivial⟩)
   have hb11R := hb11; try simp only [z1, z2, z3, z4, z5, z6, ne_eq, z7, z8, z9, z10, z11, z12] at hb11
   refine g_step rfl rfl rfl rfl (e_faP (pl := [(0, 1, false), (1, 1, false), (2, 1, false), (3, 1, false), (4, 1, false), (5, 1, false)]) rfl (by kernel_rfl) (by kernel_rfl) (by decide) rfl) trivial ?_
   refine g_step rfl rfl rfl rfl (e_loadH (v := .sc _) rfl (hset_self _ _ _) (by kernel_rfl) (by kernel_rfl) (by kernel_rfl) (by exact Nat.zero_lt_one) (by decide) rfl) trivial ?_
   refine g_call rfl rfl rfl rfl (.cons inn_sc (.cons inn_sc (.cons inn_sc .nil))) (Within _ _ _) ?_
   refine g_step rfl rfl rfl rfl (e_not rfl) trivial ?_
   refine g_step rfl rfl rfl rfl (e_pickF (v := .sc _) rfl rfl) trivial ?_
   refine g_step rfl rfl rfl rfl (e_move (v := .sc _) rfl) trivial ?_
   refine g_cases (fun hb12 => ?_) (fun hb12 => ?_)
   ·have hb12R := hb12; try simp only [z1, z2, z3, z4, z5, z6, ne_eq, z7, z8, z9, z10, z11, z12] at hb12
    refine g_skip rfl rfl rfl ?_
    refine g_skip rfl rfl rfl ?_
    refine g_nocall rfl rfl rfl ?_
    refine g_skip rfl rfl rfl ?_
    refine g_step rfl rfl rfl rfl (e_pickT (v := .sc _) rfl rfl) trivial ?_
    refine g_end (ds := [12, 13, 14, 15, 18, 19, 20, 21, 24, 25, 26, 27, 30, 31, 32, 33]) rfl rfl (hK8 _ ?_); clear hK8 K8
    exact seq_norm (hK6 _ ⟨rfl, trivial⟩ ⟨(congrArg PV.bool (show (true : Bool) = (((((!(decide ((-1) ≤ m.fro ∧ m.fro ≤ (99)))) || (!(decide ((-1) ≤ m.til ∧ m.til ≤ (99))))) || (!(decide ((0) ≤ m.before ∧ m.before ≤ (3))))) || (!(decide ((0) ≤ m.after ∧ m.after ≤ (3))))) || (!(decide ((1) ≤ m.count ∧ m.count ≤ (1000000))))) by first | rfl | ((try rw [hb12R]) <;> (try rw [hb11R]) <;> (try rw [hb10R]) <;> (try rw [hb9R]) <;> (first | rfl | (simp only [Bool.and_true, Bool.and_false, Bool.true_and, Bool.false_and, Bool.or_true, Bool.or_false, Bool.true_or, Bool.false_or, Bool.not_true, Bool.not_false, if_true, if_false, Bool.false_eq_true, reduceIte] <;> rfl))) | (simp only [hb9R, hb10R, hb11R, hb12R, Bool.and_true, Bool.and_false, Bool.true_and, Bool.false_and, Bool.or_true, Bool.or_false, Bool.true_or, Bool.false_or, Bool.not_true, Bool.not_false, if_true, if_false, Bool.false_eq_true, reduceIte] <;> rfl))), trivial⟩)
   have hb12R := hb12; try simp only [z1, z2, z3, z4, z5, z6, ne_eq, z7, z8, z9, z10, z11, z12] at hb12
   refine g_step rfl rfl rfl rfl (e_faP (pl := [(0, 1, false), (1, 1, false), (2, 1, false), (3, 1, false), (4, 1, false), (5, 1, false)]) rfl (by kernel_rfl) (by kernel_rfl) (by decide) rfl) trivial ?_
   refine g_step rfl rfl rfl rfl (e_loadH (v := .sc _) rfl (hset_self _ _ _) (by kernel_rfl) (by kernel_rfl) (by kernel_rfl) (by exact Nat.zero_lt_one) (by decide) rfl) trivial ?_
   refine g_call rfl rfl rfl rfl (.cons inn_sc (.cons inn_sc (.cons inn_sc .nil))) (Within _ _ _) ?_
   refine g_step rfl rfl rfl rfl (e_not rfl) trivial ?_
   refine g_step rfl rfl rfl rfl (e_pickF (v := .sc _) rfl rfl) trivial ?_
   refine g_end (ds := [12, 13, 14, 15, 18, 19, 20, 21, 24, 25, 26, 27, 30, 31, 32, 33]) rfl rfl (hK8 _ ?_); clear hK8 K8
   exact seq_norm (hK6 _ ⟨rfl, trivial⟩ ⟨(congrArg PV.bool (show ((!(decide ((1) ≤ m.count ∧ m.count ≤ (1000000)))) : Bool) = (((((!(decide ((-1) ≤ m.fro ∧ m.fro ≤ (99)))) || (!(decide ((-1) ≤ m.til ∧ m.til ≤ (99))))) || (!(decide ((0) ≤ m.before ∧ m.before ≤ (3))))) || (!(decide ((0) ≤ m.after ∧ m.after ≤ (3))))) || (!(decide ((1) ≤ m.count ∧ m.count ≤ (1000000))))) by first | rfl | ((try rw [hb12R]) <;> (try rw [hb11R]) <;> (try rw [hb10R]) <;> (try rw [hb9R]) <;> (first | rfl | (simp only [Bool.and_true, Bool.and_false, Bool.true_and, Bool.false_and, Bool.or_true, Bool.or_false, Bool.true_or, Bool.false_or, Bool.not_true, Bool.not_false, if_true, if_false, Bool.false_eq_true, reduceIte] <;> rfl))) | (simp only [hb9R, hb10R, hb11R, hb12R, Bool.and_true, Bool.and_false, Bool.true_and, Bool.false_and, Bool.or_true, Bool.or_false, Bool.true_or, Bool.false_or, Bool.not_true, Bool.not_false, if_true, if_false, Bool.false_eq_true, reduceIte] <;> rfl))), trivial⟩)
  refine pwp_seq_cond rfl fun K13 hK13 => ⟨fun hb14 => ?_, fun hb14 => ?_⟩
  ·have hb14R := hb14; try simp only [z1, z2, z3, z4, z5, z6, ne_eq, z7, z8, z9, z10, z11, z12] at hb14
   refine pwp_seq_plain rfl fun K15 hK15 => ?_
   refine p_step rfl (e_assign (v := .sc _) rfl) trivial ?_
   refine p_end (hK15 _ ?_); clear hK15 K15
   refine pwp_ret ?_
   refine ret_seq ?_
   refine end1 (v := .sc _) rfl ?_
   exact out_i (mv_2 (by assumption) (by unfold rngQ; omega))
  have hb14R := hb14; try simp only [z1, z2, z3, z4, z5, z6, ne_eq, z7, z8, z9, z10, z11, z12] at hb14
  refine pwp_skip ?_
  refine seq_norm (hK13 _ ?_); clear hK13 K13
  refine pwp_seq_seq ?_
  refine pwp_seq_plain rfl fun K16 hK16 => ?_
  refine p_step rfl (e_loadHA (n := 6) rfl (hset_self _ _ _) (by kernel_rfl) (by kernel_rfl) (by kernel_rfl) (by exact Nat.zero_lt_one) (by decide) rfl) trivial ?_
  refine p_call rfl (.cons (inn_agg (Movement.pure _)) .nil) (refPermitted m) ?_
  refine p_step rfl (e_not rfl) trivial ?_
  refine p_end (hK16 _ ?_); clear hK16 K16
  refine pwp_seq_cond rfl fun K17 hK17 => ⟨fun hb18 => ?_, fun hb18 => ?_⟩
  ·have hb18R := hb18; try simp only [z1, z2, z3, z4, z5, z6, ne_eq, z7, z8, z9, z10, z11, z12] at hb18
   refine pwp_seq_plain rfl fun K19 hK19 => ?_
   refine p_step rfl (e_assign (v := .sc _) rfl) trivial ?_
   refine p_end (hK19 _ ?_); clear hK19 K19
   refine pwp_ret ?_
   refine ret_seq ?_
   refine end1 (v := .sc _) rfl ?_
   exact out_i (mv_21 (by assumption) (by unfold rngQ; omega) (by assumption))
  have hb18R := hb18; try simp only [z1, z2, z3, z4, z5, z6, ne_eq, z7, z8, z9, z10, z11, z12] at hb18
  refine pwp_skip ?_
  refine seq_norm (hK17 _ ?_); clear hK17 K17
  refine pwp_seq_plain rfl fun K20 hK20 => ?_
  refine p_step rfl (e_assign (v := .sc _) rfl) trivial ?_
  refine p_end (hK20 _ ?_); clear hK20 K20
  refine pwp_ret ?_
  refine end1 (v := .sc _) rfl ?_
  exact out_i (mv_0 (by assumption) (by unfold rngQ; omega) (by assumption))

end Go.Proofs.YtigdmkhdmbbfiaaDoor
