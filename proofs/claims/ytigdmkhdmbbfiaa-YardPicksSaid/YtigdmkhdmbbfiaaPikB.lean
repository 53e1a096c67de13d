import Derived.Test.YtigdmkhdmbbfiaaPikA
import Derived.Test.YtigdmkhdmbbfiaaAwake
/- Picking, as the reference does it. No conditions. -/
set_option linter.unusedSimpArgs false
set_option linter.unusedVariables false
set_option maxRecDepth 100000
set_option maxHeartbeats 8000000
namespace Go.Proofs.Ytigdmkhdmbbfiaa
open Go Go.Pv

/-! ### The reference's picking -/
theorem sl_keys {h : Heap} {d sz : Nat} {v : PV} {rows : Go.Pv.Rows} (hs : SliceAt h d v sz rows) : ∀ k ∈ Go.Pv.keysOf v, k.1 = d := by
  rcases hs with ⟨_, rfl⟩ | ⟨g, rfl, _⟩
  · intro k hk; cases hk
  · intro k hk
    have : k = (d, g) := by simpa [Go.Pv.keysOf, Go.Pv.keyOf] using hk
    rw [this]
/-- What the reference's taking leaves. -/
def TR (pl : Int) (xs : List Stock) (mv : List Movement) (p : ByteArray) (n : Int) (h0 : Heap) (w : PV) (h : Heap) : Prop :=
  ∃ u0 u1, w = .tup [u0, u1] ∧ SliceAt h 24 u0 4 ((tkL xs p n).map Stock.enc) ∧ SliceAt h 31 u1 6 ((tkV pl mv p n).map Movement.enc) ∧
    ∀ a b, Nat.beq a 16 = false → Nat.beq a 18 = false → Nat.beq a 23 = false → Nat.beq a 24 = false → Nat.beq a 30 = false → Nat.beq a 31 = false → h (a, b) = h0 (a, b)
theorem tr_0 {pl : Int} {xs : List Stock} {mv : List Movement} {p : ByteArray} {n : Int} {h0 : Heap} {u0 u1 : PV} (hn : n = 0) (h1 : SliceAt h0 24 u0 4 (xs.map Stock.enc)) (h2 : SliceAt h0 31 u1 6 (mv.map Movement.enc)) : TR pl xs mv p n h0 (.tup [u0, u1]) h0 :=
  ⟨u0, u1, rfl, by rw [tkL, if_pos hn]; exact h1, by rw [tkV_f (by omega)]; exact h2, fun _ _ _ _ _ _ _ _ => rfl⟩
theorem tr_1 {pl : Int} {xs : List Stock} {mv : List Movement} {p : ByteArray} {n : Int} {h0 h : Heap} {u0 u1 : PV} (hn : 0 < n) (h1 : SliceAt h 24 u0 4 ((xs ++ [(⟨p, 0, 0, 0 - n⟩ : Stock)]).map Stock.enc)) (h2 : SliceAt h 31 u1 6 ((mv ++ [(⟨p, 0, pl, 0, 0, n⟩ : Movement)]).map Movement.enc))
    (hf : ∀ a b, Nat.beq a 16 = false → Nat.beq a 18 = false → Nat.beq a 23 = false → Nat.beq a 24 = false → Nat.beq a 30 = false → Nat.beq a 31 = false → h (a, b) = h0 (a, b)) : TR pl xs mv p n h0 (.tup [u0, u1]) h :=
  ⟨u0, u1, rfl, by rw [tkL, if_neg (by omega)]; exact h1, by rw [tkV_t hn]; exact h2, hf⟩
theorem refCountZ (xs : List Stock) (p : ByteArray) (hl : xs.length ≤ 1000000) (hc : ∀ x ∈ xs, -1000000000 ≤ x.count ∧ x.count ≤ 1000000000) : PCalls Try.prog 26 [.lit true 4 (xs.map Stock.enc), .str p, .agg (At.enc ⟨0, 0⟩)] (.int (gL xs p)) := refCount xs p ⟨0, 0⟩ hl hc
theorem gL_bd {xs : List Stock} (h : ∀ p, 0 ≤ gL xs p ∧ gL xs p ≤ 1000000000) {p : ByteArray} {n : Int} (h1 : 0 ≤ n) (h2 : n ≤ gL xs p) : ∀ p', 0 ≤ gL (tkL xs p n) p' ∧ gL (tkL xs p n) p' ≤ 1000000000 := fun p' => by
  rw [gL_tk]
  have q1 := h p'
  have q2 := h p
  by_cases h3 : p' = p
  · subst h3; rw [if_pos rfl]; omega
  · rw [if_neg h3]; exact q1
theorem tkL_len {xs : List Stock} {p : ByteArray} {n : Int} : (tkL xs p n).length ≤ xs.length + 1 := by
  unfold tkL; split <;> simp
theorem tkL_cts {xs : List Stock} (h : ∀ x ∈ xs, -1000000000 ≤ x.count ∧ x.count ≤ 1000000000) {p : ByteArray} {n : Int} (h1 : 0 ≤ n) (h2 : n ≤ 1000000000) : ∀ x ∈ tkL xs p n, -1000000000 ≤ x.count ∧ x.count ≤ 1000000000 := fun x hx => by
  unfold tkL at hx
  split at hx
  · exact h x hx
  · rcases List.mem_append.1 hx with hx | hx
    · exact h x hx
    · simp only [List.mem_singleton] at hx; subst hx
      exact ⟨show -1000000000 ≤ 0 - n by omega, show 0 - n ≤ 1000000000 by omega⟩
theorem gL_sum {xs : List Stock} (h : stockE xs = 0) : ∀ p, 0 ≤ gL xs p ∧ gL xs p ≤ 1000000000 := fun p => by
  have hok := stockE_ok h
  unfold gL
  rw [cntA_eq]
  have h2 := cntS_0 (k := ⟨p, 0, 0⟩) fun x hx => (hok.2 x hx).2.2.1
  have h3 := cntS_le (k := ⟨p, 0, 0⟩) fun x hx => (hok.2 x hx).2.2
  omega
theorem rp_out {xs : List Stock} {o : Order} {h : Heap} {a : List Movement} {b : List Want} {u u2 : PV} (hr : refPickR xs o = (a, b)) (hs : SliceAt h 31 u 6 (a.map Movement.enc)) (hs2 : SliceAt h 104 u2 2 (b.map Want.enc)) :
    Out h (.tup [u, u2]) (.tup [.lit false 6 ((refPickR xs o).1.map Movement.enc), .lit false 2 ((refPickR xs o).2.map Want.enc)]) := by
  rw [hr]
  exact out_2 (out_slice hs rfl (fun _ => rfl) mv_clean) (out_slice hs2 rfl (fun _ => rfl) wa_clean)

theorem frH76 : (inFrame Try.f76.ntmps (Try.f76.body.getD .skip) && Try.f76.results.toList.all (resScope Try.f76.ntmps)) = true := by kernel_rfl
theorem refTake (xs : List Stock) (mv : List Movement) (v0 v1 : PV) (pl : Int) (p : ByteArray) (n : Int) (h0 : Heap) (c0 : Nat → Nat) (hs0 : SliceAt h0 24 v0 4 (xs.map Stock.enc)) (hs1 : SliceAt h0 31 v1 6 (mv.map Movement.enc)) (hn : 0 ≤ n ∧ n ≤ 1000000000) (hxl : xs.length ≤ 100000) (hml : mv.length ≤ 100000) : HCallsR Try.prog 76 [v0, v1, .int pl, .str p, .int n] h0 c0 (fun w h _ => TR pl xs mv p n h0 w h) := by
  refine HCallsR.of_code Try.func76 rfl rfl (by kernel_rfl) mixed frH76 (by show _ ≤ 32; simp) ?_
  refine pwp_seq_plain rfl fun K1 hK1 => ?_
  refine p_step rfl (e_assign (v := .nil) rfl) trivial ?_
  refine p_step rfl (e_assign (v := .nil) rfl) trivial ?_
  refine p_end (hK1 _ ?_); clear hK1 K1
  refine pwp_seq_seq ?_
  refine pwp_seq_plain rfl fun K2 hK2 => ?_
  refine p_step rfl (e_move (v := .sc _) rfl) trivial ?_
  refine p_step rfl (e_eq rfl rfl) trivial ?_
  refine p_end (hK2 _ ?_); clear hK2 K2
  refine pwp_seq_cond rfl fun K3 hK3 => ⟨fun hb4 => ?_, fun hb4 => ?_⟩
  ·have hb4R := hb4; try simp only [z1, z2, z3, z4, z5, z6, ne_eq, z7, z8, z9, z10, z11, z12] at hb4
   refine pwp_seq_plain rfl fun K5 hK5 => ?_
   refine p_step rfl (e_move (v := _) rfl) trivial ?_
   refine p_step rfl (e_move (v := _) rfl) trivial ?_
   refine p_step rfl (e_assign (v := _) rfl) trivial ?_
   refine p_step rfl (e_assign (v := _) rfl) trivial ?_
   refine p_end (hK5 _ ?_); clear hK5 K5
   refine pwp_ret ?_
   refine ret_seq ?_
   refine end2 (v := _) (w := _) rfl rfl ?_
   exact tr_0 (by omega) hs0 hs1
  have hb4R := hb4; try simp only [z1, z2, z3, z4, z5, z6, ne_eq, z7, z8, z9, z10, z11, z12] at hb4
  refine pwp_skip ?_
  refine seq_norm (hK3 _ ?_); clear hK3 K3
  refine pwp_seq_plain rfl fun K6 hK6 => ?_
  refine p_new rfl (e_bslice (rows := []) (zs := [.str ByteArray.empty, .int 0, .int 0, .int 0]) (sz := 4) (by kernel_rfl) (by kernel_rfl) rfl (by kernel_rfl) (by decide) rfl rfl (by exact trivial) rfl) trivial ?_
  refine p_step rfl (e_move (v := _) rfl) trivial ?_
  refine p_app rfl rfl rfl (.ofRef (hset_self _ _ _) rfl) (src_slice (hs0.keep fun _ => (hset_ne (key_ne rfl)).trans (rfl))) (by kernel_rfl) (by simp only [List.length_append, List.length_map, List.length_nil, List.length_cons]; omega) fun v7 h8 c9 hs10 hf11 => ?_
  have hs12 := ((hs0.keep fun _ => (hset_ne (key_ne rfl)).trans (rfl))).keep fun g => (hf11 (24, g) (key_ne rfl) (fun _ _ => key_ne rfl))
  have hs13 := ((hs1.keep fun _ => (hset_ne (key_ne rfl)).trans (rfl))).keep fun g => (hf11 (31, g) (key_ne rfl) (fun _ _ => key_ne rfl))
  refine p_step rfl (e_move (v := .sc _) rfl) trivial ?_
  refine p_step rfl (e_move (v := .sc _) rfl) trivial ?_
  refine p_step rfl (e_neg rfl (by omega)) trivial ?_
  refine p_step rfl (e_build (cs := Stock.enc (⟨p, 0, 0, (0 - n)⟩ : Stock)) (zs := [.str ByteArray.empty, .int 0, .int 0, .int 0]) (pl := [(0, 1, false), (1, 1, false), (2, 1, false), (3, 1, false)]) (by kernel_rfl) (by kernel_rfl) (by kernel_rfl) rfl rfl (by exact ⟨by decide, rfl, Nat.le_of_ble_eq_true rfl, rfl, ⟨by decide, rfl, Nat.le_of_ble_eq_true rfl, rfl, trivial⟩⟩) rfl) trivial ?_
  refine p_new rfl (e_bslice (rows := [Stock.enc ⟨p, 0, 0, 0 - n⟩]) (zs := [.str ByteArray.empty, .int 0, .int 0, .int 0]) (sz := 4) (by kernel_rfl) (by kernel_rfl) rfl (by kernel_rfl) (by decide) rfl rfl (by exact ⟨by decide, rfl, rfl, trivial⟩) rfl) trivial ?_
  refine p_app rfl rfl rfl (hs10.keep fun _ => (hset_ne (key_ne rfl)).trans (rfl)) (src_ref (hset_self _ _ _) rfl) (by kernel_rfl) (by simp only [List.length_append, List.length_map, List.length_nil, List.length_cons]; omega) fun v14 h15 c16 hs17 hf18 => ?_
  have ho19 := (hf18 (23, _) (key_ne rfl) (fun _ _ => key_ne rfl)).trans (hset_self _ _ _)
  have hs20 := ((hs13.keep fun _ => (hset_ne (key_ne rfl)).trans (rfl))).keep fun g => (hf18 (31, g) (key_ne rfl) (fun _ _ => key_ne rfl))
  refine p_step rfl (e_move (v := _) rfl) trivial ?_
  refine p_step rfl (e_move (v := .sc _) rfl) trivial ?_
  refine p_step rfl (e_move (v := .sc _) rfl) trivial ?_
  refine p_step rfl (e_move (v := .sc _) rfl) trivial ?_
  refine p_step rfl (e_build (cs := Movement.enc (⟨p, 0, pl, 0, 0, n⟩ : Movement)) (zs := [.str ByteArray.empty, .int 0, .int 0, .int 0, .int 0, .int 0]) (pl := [(0, 1, false), (1, 1, false), (2, 1, false), (3, 1, false), (4, 1, false), (5, 1, false)]) (by kernel_rfl) (by kernel_rfl) (by kernel_rfl) rfl rfl (by exact ⟨by decide, rfl, Nat.le_of_ble_eq_true rfl, rfl, ⟨by decide, rfl, Nat.le_of_ble_eq_true rfl, rfl, ⟨by decide, rfl, Nat.le_of_ble_eq_true rfl, rfl, trivial⟩⟩⟩) rfl) trivial ?_
  refine p_new rfl (e_bslice (rows := [Movement.enc ⟨p, 0, pl, 0, 0, n⟩]) (zs := [.str ByteArray.empty, .int 0, .int 0, .int 0, .int 0, .int 0]) (sz := 6) (by kernel_rfl) (by kernel_rfl) rfl (by kernel_rfl) (by decide) rfl rfl (by exact ⟨by decide, rfl, rfl, trivial⟩) rfl) trivial ?_
  refine p_app rfl rfl rfl (hs20.keep fun _ => (hset_ne (key_ne rfl)).trans (rfl)) (src_ref (hset_self _ _ _) rfl) (by kernel_rfl) (by simp only [List.length_append, List.length_map, List.length_nil, List.length_cons]; omega) fun v21 h22 c23 hs24 hf25 => ?_
  have ho26 := (hf25 (23, _) (key_ne rfl) (fun _ _ => key_ne rfl)).trans ((hset_ne (key_ne rfl)).trans ho19)
  have ho27 := (hf25 (30, _) (key_ne rfl) (fun _ _ => key_ne rfl)).trans (hset_self _ _ _)
  have hs28 := ((hs17.keep fun _ => (hset_ne (key_ne rfl)).trans (rfl))).keep fun g => (hf25 (24, g) (key_ne rfl) (fun _ _ => key_ne rfl))
  refine p_step rfl (e_assign (v := _) rfl) trivial ?_
  refine p_step rfl (e_assign (v := _) rfl) trivial ?_
  refine p_end (hK6 _ ?_); clear hK6 K6
  refine pwp_ret ?_
  refine end2 (v := _) (w := _) rfl rfl ?_
  exact tr_1 (by omega) (by rw [List.map_append]; exact hs28) (by rw [List.map_append]; exact hs24) fun a b n16 n18 n23 n24 n30 n31 => (hf25 (a, b) (key_ne n31) (fun _ _ => key_ne n31)).trans ((hset_ne (key_ne n30)).trans ((hf18 (a, b) (key_ne n24) (fun _ _ => key_ne n18)).trans ((hset_ne (key_ne n23)).trans ((hf11 (a, b) (key_ne n18) (fun _ _ => key_ne n16)).trans (hset_ne (key_ne n16))))))

theorem fr39 : (inFrame Try.f39.ntmps (Try.f39.body.getD .skip) && Try.f39.results.toList.all (resScope Try.f39.ntmps)) = true := by kernel_rfl
theorem refPick (xs : List Stock) (o : Order) (h0 : stockE xs = 0) (ho0 : orderE o = 0) : PCalls Try.prog 39 [.lit true 4 (xs.map Stock.enc), .agg o.enc] (.tup [.lit false 6 ((refPickR xs o).1.map Movement.enc), .lit false 2 ((refPickR xs o).2.map Want.enc)]) := by
  refine PCalls.of_code Try.func39 rfl rfl (by kernel_rfl) mixed fr39 (by show _ ≤ 107; simp) (pure_2 (.lit _ _ _ fun row hr => pure_map Movement.pure row hr) (.lit _ _ _ fun row hr => pure_map Want.pure row hr)) ?_
  have hok := stockE_ok h0
  have ho := orderE_ok ho0
  refine pwp_seq_plain rfl fun K1 hK1 => ?_
  refine p_new rfl (e_box (n := 3) rfl rfl) ⟨rfl, by decide⟩ ?_
  refine p_step rfl (e_assign (v := .nil) rfl) trivial ?_
  refine p_step rfl (e_assign (v := .nil) rfl) trivial ?_
  refine p_end (hK1 _ ?_); clear hK1 K1
  refine pwp_seq_plain rfl fun K2 hK2 => ?_
  refine p_new rfl (e_bslice (rows := []) (zs := [.str ByteArray.empty, .int 0, .int 0, .int 0]) (sz := 4) (by kernel_rfl) (by kernel_rfl) rfl (by kernel_rfl) (by decide) rfl rfl (by exact trivial) rfl) trivial ?_
  refine p_step rfl (e_move (v := .lit _ _ _) rfl) trivial ?_
  refine p_app rfl rfl rfl (.ofRef (hset_self _ _ _) rfl) src_lit (by kernel_rfl) (by simp only [List.length_append, List.length_map, List.length_nil, List.length_cons]; omega) fun v3 h4 c5 hs6 hf7 => ?_
  have ho8 := (hf7 (3, _) (key_ne rfl) (fun _ _ => key_ne rfl)).trans ((hset_ne (key_ne rfl)).trans (hset_self _ _ _))
  refine p_renS 24 rfl hs6 fun v9 h10 c11 hs12 hf13 => ?_
  have ho14 := (hf13 (3, _) (key_ne rfl) (fun _ _ => key_ne rfl)).trans ho8
  refine p_end (hK2 _ ?_); clear hK2 K2
  refine pwp_seq_plain rfl fun K15 hK15 => ?_
  refine p_step rfl (e_assign (v := .nil) rfl) trivial ?_
  refine p_end (hK15 _ ?_); clear hK15 K15
  refine pwp_seq_plain rfl fun K16 hK16 => ?_
  refine p_step rfl (e_assign (v := .nil) rfl) trivial ?_
  refine p_end (hK16 _ ?_); clear hK16 K16
  refine pwp_seq_seq ?_
  refine pwp_seq_plain rfl fun K17 hK17 => ?_
  refine p_step rfl (e_assign (v := .sc _) rfl) trivial ?_
  refine p_end (hK17 _ ?_); clear hK17 K17
  refine pwp_seq_block fun K18 hK18 => ?_
  refine pwp_loopR (α := Nat × (List Stock) × (List Movement) × (List Want) × PV × PV × PV) [3] (fun (a19 : Nat × (List Stock) × (List Movement) × (List Want) × PV × PV × PV) => [(0, (a19.2.2.2.2.1)), (6, (a19.2.2.2.2.2.1)), (7, (a19.2.2.2.2.2.2)), (8, .int (a19.1))]) (fun (a19 : Nat × (List Stock) × (List Movement) × (List Want) × PV × PV × PV) (h : Heap) (_ : Nat → Nat) => ((a19.1) ≤ o.wants.length) ∧ (refPickR xs o = pkG gL tkL o.place o.swaps (a19.2.1) (a19.2.2.1) (a19.2.2.2.1) (o.wants.drop (a19.1))) ∧ (∀ p, 0 ≤ gL (a19.2.1) p ∧ gL (a19.2.1) p ≤ 1000000000) ∧ (∀ x ∈ (a19.2.1), -1000000000 ≤ x.count ∧ x.count ≤ 1000000000) ∧ ((a19.2.1).length ≤ 220 + 61 * (a19.1)) ∧ ((a19.2.2.1).length ≤ 61 * (a19.1)) ∧ ((a19.2.2.2.1).length ≤ (a19.1)) ∧ (SliceAt h 24 (a19.2.2.2.2.1) 4 ((a19.2.1).map Stock.enc)) ∧ (SliceAt h 31 (a19.2.2.2.2.2.1) 6 ((a19.2.2.1).map Movement.enc)) ∧ (SliceAt h 104 (a19.2.2.2.2.2.2) 2 ((a19.2.2.2.1).map Want.enc)) ∧ (h (3, 0) = some (.rows 3 [Order.enc o]))) (fun (a19 : Nat × (List Stock) × (List Movement) × (List Want) × PV × PV × PV) => o.wants.length - (a19.1)) (0, xs, [], [], _, _, _) (by exact ⟨rfl, rfl, rfl, rfl, trivial⟩) (by exact ⟨by exact Nat.zero_le _, by exact rfl, by exact gL_sum h0, by exact fun x hx => by have := (hok.2 x hx).2.2; omega, by (dsimp only; omega), by exact Nat.zero_le _, by exact Nat.zero_le _, hs12, .nil, .nil, ho14⟩) fun a19 r20 h21 c22 hj23 => ?_
  obtain ⟨k, ys, mv, la, v0, v1, vl⟩ := a19
  obtain ⟨hk, hinv, hbd, hcb, hyl, hml, hll, hihj23_0, hihj23_1, hihj23_2, hihj23_3⟩ := hj23
  try dsimp only at hk
  try dsimp only at hinv
  try dsimp only at hbd
  try dsimp only at hcb
  try dsimp only at hyl
  try dsimp only at hml
  try dsimp only at hll
  try dsimp only at hihj23_0
  try dsimp only at hihj23_1
  try dsimp only at hihj23_2
  try dsimp only at hihj23_3
  show pwp _ _ (loopQ _ _ _) ⟨sets (mix _ _ _) [(0, v0), (6, v1), (7, vl), (8, .int k)], _, _⟩
  refine pwp_seq_seq ?_
  refine pwp_seq_plain rfl fun K24 hK24 => ?_
  refine p_step rfl (e_move (v := .sc _) rfl) trivial ?_
  refine p_step rfl (e_faP (pl := [(0, 1, false), (1, 1, false), (2, 1, false)]) rfl (by kernel_rfl) (by kernel_rfl) (by decide) rfl) trivial ?_
  refine p_step rfl (e_loadH (v := .lit _ _ _) rfl hihj23_3 (by kernel_rfl) (by kernel_rfl) (by kernel_rfl) (by exact Nat.zero_lt_one) (by decide) rfl) trivial ?_
  refine p_step rfl (e_len rfl (by kernel_rfl)) trivial ?_
  refine p_step rfl (e_lt rfl rfl) trivial ?_
  refine p_end (hK24 _ ?_); clear hK24 K24
  refine pwp_seq_cond rfl fun K25 hK25 => ⟨fun hb26 => ?_, fun hb26 => ?_⟩
  ·have hb26R := hb26; try simp only [z1, z2, z3, z4, z5, z6, ne_eq, z7, z8, z9, z10, z11, z12] at hb26
   obtain ⟨w, hw, hdw, htw⟩ := get_lt (xs := o.wants) (i := k) (by omega)
   rw [hdw] at hinv
   have hwc := (wntE_ok ho.2.2.2.1 w (List.mem_of_getElem? hw)).2
   have hg1 := hbd w.part
   refine pwp_skip ?_
   refine seq_norm (hK25 _ ?_); clear hK25 K25
   refine pwp_seq_block fun K27 hK27 => ?_
   refine pwp_seq_plain rfl fun K28 hK28 => ?_
   refine p_step rfl (e_faP (pl := [(0, 1, false), (1, 1, false), (2, 1, false)]) rfl (by kernel_rfl) (by kernel_rfl) (by decide) rfl) trivial ?_
   refine p_step rfl (e_loadH (v := .lit _ _ _) rfl hihj23_3 (by kernel_rfl) (by kernel_rfl) (by kernel_rfl) (by exact Nat.zero_lt_one) (by decide) rfl) trivial ?_
   refine p_step rfl (e_move (v := .sc _) rfl) trivial ?_
   refine p_step rfl (e_ixa rfl rfl (by kernel_rfl) (by kernel_rfl) (by simp only [List.length_map]; omega)) trivial ?_
   refine p_step rfl (e_loadA (n := 2) rfl (by kernel_rfl) (by kernel_rfl) (by kernel_rfl) (by simp only [List.length_map]; omega) (by decide) (by first | exact agg_map hw rfl)) trivial ?_
   refine p_new rfl (e_alloc (cs := [.str ByteArray.empty, .int 0]) (n := 2) (by kernel_rfl) rfl (by decide)) (ob_alloc (by decide)) ?_
   refine p_store rfl (e_storeA rfl (hset_self _ _ _) rfl rfl rfl (by kernel_rfl) rfl (by kernel_rfl)) trivial ?_
   refine p_end (hK28 _ ?_); clear hK28 K28
   refine pwp_seq_gops rfl fun K29 hK29 => ?_
   refine s_begin ?_
   refine s_step [] (by simp) rfl rfl rfl rfl (e_faP (pl := [(0, 1, false), (1, 1, false)]) rfl (by kernel_rfl) (by kernel_rfl) (by decide) rfl) trivial ?_
   refine s_step [9] (by simp) rfl rfl rfl rfl (e_loadH (v := .sc _) rfl (hset_self _ _ _) (by kernel_rfl) (by kernel_rfl) (by kernel_rfl) (by exact Nat.zero_lt_one) (by decide) rfl) trivial ?_
   refine s_step [] (by simp) rfl rfl rfl rfl (e_move (v := _) rfl) trivial ?_
   refine s_step [] (by simp) rfl rfl rfl rfl (e_faP (pl := [(0, 1, false), (1, 1, false)]) rfl (by kernel_rfl) (by kernel_rfl) (by decide) rfl) trivial ?_
   refine s_step [9] (by simp) rfl rfl rfl rfl (e_loadH (v := .sc _) rfl (hset_self _ _ _) (by kernel_rfl) (by kernel_rfl) (by kernel_rfl) (by exact Nat.zero_lt_one) (by decide) rfl) trivial ?_
   refine s_step [] (by simp) rfl rfl rfl rfl (e_buildA (cs := At.enc (⟨0, 0⟩ : At)) (zs := [.int 0, .int 0]) (pl := [(0, 1, false), (1, 1, false)]) (by kernel_rfl) (by kernel_rfl) (by kernel_rfl) rfl rfl (by exact trivial) rfl) trivial ?_
   refine s_call (args := [v0, .sc _, .agg _]) [24] (by intro k hk; replace hk : k ∈ keysOf v0 := (by simpa [keysOf, Go.Pv.keyOf, At.enc] using hk); exact List.mem_cons.2 (by have := sl_keys hihj23_0 k hk; first | exact .inl this | exact .inr (by simp [this]))) rfl rfl rfl rfl (.cons (SliceAt.inn (rows' := (ys).map Stock.enc) (hihj23_0.keep fun _ => (hset_ne (key_ne rfl)).trans ((hset_ne (key_ne rfl)).trans (rfl))) (by simp) (by first | exact pure_map Stock.pure | (simp only [← List.map_append, List.nil_append]; exact pure_map Stock.pure))) (.cons inn_sc (.cons (inn_agg (At.pure ((⟨0, 0⟩ : At)))) .nil))) (refCountZ ys w.part (by omega) hcb) ?_
   refine s_step [] (by simp) rfl rfl rfl rfl (e_min rfl rfl) trivial ?_
   refine s_step [] (by simp) rfl rfl rfl rfl (e_assign (v := .sc _) rfl) trivial ?_
   refine s_end (ds := []) (by kernel_rfl) (by kernel_rfl) (hK29 _ ?_); clear hK29 K29
   refine pwp_seq_plain rfl fun K30 hK30 => ?_
   refine p_step rfl (e_move (v := _) rfl) trivial ?_
   refine p_step rfl (e_move (v := _) rfl) trivial ?_
   refine p_step rfl (e_faP (pl := [(0, 1, false), (1, 1, false), (2, 1, false)]) rfl (by kernel_rfl) (by kernel_rfl) (by decide) rfl) trivial ?_
   refine p_step rfl (e_loadH (v := .sc _) rfl ((hset_ne (key_ne rfl)).trans ((hset_ne (key_ne rfl)).trans hihj23_3)) (by kernel_rfl) (by kernel_rfl) (by kernel_rfl) (by exact Nat.zero_lt_one) (by decide) rfl) trivial ?_
   refine p_step rfl (e_faP (pl := [(0, 1, false), (1, 1, false)]) rfl (by kernel_rfl) (by kernel_rfl) (by decide) rfl) trivial ?_
   refine p_step rfl (e_loadH (v := .sc _) rfl (hset_self _ _ _) (by kernel_rfl) (by kernel_rfl) (by kernel_rfl) (by exact Nat.zero_lt_one) (by decide) rfl) trivial ?_
   refine p_step rfl (e_move (v := .sc _) rfl) trivial ?_
   refine p_hcall rfl (refTake ys mv _ _ _ w.part (min w.count (gL ys w.part)) _ _ (hihj23_0.keep fun _ => (hset_ne (key_ne rfl)).trans ((hset_ne (key_ne rfl)).trans (rfl))) (hihj23_1.keep fun _ => (hset_ne (key_ne rfl)).trans ((hset_ne (key_ne rfl)).trans (rfl))) ⟨by omega, by omega⟩ (by omega) (by omega)) fun w31 h32 c33 hR34 => ?_
   obtain ⟨u35, u36, rfl, hs37, hs38, hf39⟩ := hR34
   have hbd40 := gL_bd hbd (p := w.part) (n := (min w.count (gL ys w.part))) (by omega) (by omega)
   have hcb41 := tkL_cts hcb (p := w.part) (n := (min w.count (gL ys w.part))) (by omega) (by omega)
   have hlnhbd40 := tkV_len (pl := o.place) (mv := mv) (p := w.part) (n := (min w.count (gL ys w.part))); have hlxhbd40 := tkL_len (xs := ys) (p := w.part) (n := (min w.count (gL ys w.part)))
   have ho42 := (hf39 3 _ rfl rfl rfl rfl rfl rfl).trans ((hset_ne (key_ne rfl)).trans ((hset_ne (key_ne rfl)).trans hihj23_3))
   have ho43 := (hf39 9 _ rfl rfl rfl rfl rfl rfl).trans (hset_self _ _ _)
   have hs44 := ((hihj23_2.keep fun _ => (hset_ne (key_ne rfl)).trans ((hset_ne (key_ne rfl)).trans (rfl)))).keep fun g => hf39 104 g rfl rfl rfl rfl rfl rfl
   refine p_step rfl (e_move (v := .tup _) rfl) trivial ?_
   refine p_step rfl (e_ext (v := _) rfl (by simp) rfl) trivial ?_
   refine p_step rfl (e_ext (v := _) rfl (by simp) rfl) trivial ?_
   refine p_step rfl (e_assign (v := _) rfl) trivial ?_
   refine p_step rfl (e_assign (v := _) rfl) trivial ?_
   refine p_end (hK30 _ ?_); clear hK30 K30
   refine pwp_seq_plain rfl fun K50 hK50 => ?_
   refine p_step rfl (e_faP (pl := [(0, 1, false), (1, 1, false)]) rfl (by kernel_rfl) (by kernel_rfl) (by decide) rfl) trivial ?_
   refine p_step rfl (e_loadH (v := .sc _) rfl ho43 (by kernel_rfl) (by kernel_rfl) (by kernel_rfl) (by exact Nat.zero_lt_one) (by decide) rfl) trivial ?_
   refine p_step rfl (e_move (v := .sc _) rfl) trivial ?_
   refine p_step rfl (e_sub rfl rfl (by omega)) trivial ?_
   refine p_step rfl (e_assign (v := .sc _) rfl) trivial ?_
   refine p_end (hK50 _ ?_); clear hK50 K50
   refine pwp_seq_seq ?_
   refine pwp_seq_plain rfl fun K51 hK51 => ?_
   refine p_step rfl (e_assign (v := .sc _) rfl) trivial ?_
   refine p_end (hK51 _ ?_); clear hK51 K51
   refine pwp_seq_block fun K52 hK52 => ?_
   refine pwp_loopR (α := Nat × Int × (List Stock) × (List Movement) × PV × PV) [3, 7, 8, 9] (fun (a53 : Nat × Int × (List Stock) × (List Movement) × PV × PV) => [(0, (a53.2.2.2.2.1)), (6, (a53.2.2.2.2.2)), (11, .int (a53.2.1)), (12, .int (a53.1))]) (fun (a53 : Nat × Int × (List Stock) × (List Movement) × PV × PV) (h : Heap) (_ : Nat → Nat) => ((a53.1) ≤ o.swaps.length) ∧ (swG gL tkL o.place w.part (w.count - min w.count (gL ys w.part)) (tkL ys w.part (min w.count (gL ys w.part))) (tkV o.place mv w.part (min w.count (gL ys w.part))) o.swaps = swG gL tkL o.place w.part (a53.2.1) (a53.2.2.1) (a53.2.2.2.1) (o.swaps.drop (a53.1))) ∧ (∀ p, 0 ≤ gL (a53.2.2.1) p ∧ gL (a53.2.2.1) p ≤ 1000000000) ∧ (∀ x ∈ (a53.2.2.1), -1000000000 ≤ x.count ∧ x.count ≤ 1000000000) ∧ (0 ≤ (a53.2.1) ∧ (a53.2.1) ≤ 1000000) ∧ ((a53.2.2.1).length ≤ 220 + 61 * k + 1 + (a53.1)) ∧ ((a53.2.2.2.1).length ≤ 61 * k + 1 + (a53.1)) ∧ (SliceAt h 24 (a53.2.2.2.2.1) 4 ((a53.2.2.1).map Stock.enc)) ∧ (SliceAt h 31 (a53.2.2.2.2.2) 6 ((a53.2.2.2.1).map Movement.enc)) ∧ (SliceAt h 104 vl 2 (la.map Want.enc)) ∧ (h (3, 0) = some (.rows 3 [Order.enc o])) ∧ (h (9, c22 9) = some (.rows 2 [Want.enc w]))) (fun (a53 : Nat × Int × (List Stock) × (List Movement) × PV × PV) => o.swaps.length - (a53.1)) (0, _, (tkL ys w.part (min w.count (gL ys w.part))), (tkV o.place mv w.part (min w.count (gL ys w.part))), _, _) (by exact ⟨rfl, rfl, rfl, rfl, trivial⟩) (by exact ⟨by exact Nat.zero_le _, by exact rfl, by exact hbd40, by exact hcb41, by (dsimp only; constructor <;> omega), by (dsimp only; omega), by (dsimp only; omega), hs37, hs38, hs44, ho42, ho43⟩) fun a53 r54 h55 c56 hj57 => ?_
   obtain ⟨j, nd, ys2, mv2, v2, v3⟩ := a53
   obtain ⟨hj, hinv2, hbd2, hcb2, hnd, hyl2, hml2, hihj57_0, hihj57_1, hihj57_2, hihj57_3, hihj57_4⟩ := hj57
   try dsimp only at hj
   try dsimp only at hinv2
   try dsimp only at hbd2
   try dsimp only at hcb2
   try dsimp only at hnd
   try dsimp only at hyl2
   try dsimp only at hml2
   try dsimp only at hihj57_0
   try dsimp only at hihj57_1
   try dsimp only at hihj57_2
   try dsimp only at hihj57_3
   try dsimp only at hihj57_4
   show pwp _ _ (loopQ _ _ _) ⟨sets (mix _ _ _) [(0, v2), (6, v3), (11, .int nd), (12, .int j)], _, _⟩
   refine pwp_seq_seq ?_
   refine pwp_seq_plain rfl fun K58 hK58 => ?_
   refine p_step rfl (e_move (v := .sc _) rfl) trivial ?_
   refine p_step rfl (e_faP (pl := [(0, 1, false), (1, 1, false), (2, 1, false)]) rfl (by kernel_rfl) (by kernel_rfl) (by decide) rfl) trivial ?_
   refine p_step rfl (e_loadH (v := .lit _ _ _) rfl hihj57_3 (by kernel_rfl) (by kernel_rfl) (by kernel_rfl) (by exact Nat.zero_lt_one) (by decide) rfl) trivial ?_
   refine p_step rfl (e_len rfl (by kernel_rfl)) trivial ?_
   refine p_step rfl (e_lt rfl rfl) trivial ?_
   refine p_end (hK58 _ ?_); clear hK58 K58
   refine pwp_seq_cond rfl fun K59 hK59 => ⟨fun hb60 => ?_, fun hb60 => ?_⟩
   ·have hb60R := hb60; try simp only [z1, z2, z3, z4, z5, z6, ne_eq, z7, z8, z9, z10, z11, z12] at hb60
    obtain ⟨x, hx, hdx, htx⟩ := get_lt (xs := o.swaps) (i := j) (by omega)
    rw [hdx] at hinv2
    have hxc := swapsE_ok ho.2.2.2.2 x (List.mem_of_getElem? hx)
    have hg2 := hbd2 x.via
    have hmm := min_mul (nd := nd) (g := gL ys2 x.via) (c := x.count) (by omega) (by omega) (by omega)
    refine pwp_skip ?_
    refine seq_norm (hK59 _ ?_); clear hK59 K59
    refine pwp_seq_block fun K61 hK61 => ?_
    refine pwp_seq_plain rfl fun K62 hK62 => ?_
    refine p_step rfl (e_faP (pl := [(0, 1, false), (1, 1, false), (2, 1, false)]) rfl (by kernel_rfl) (by kernel_rfl) (by decide) rfl) trivial ?_
    refine p_step rfl (e_loadH (v := .lit _ _ _) rfl hihj57_3 (by kernel_rfl) (by kernel_rfl) (by kernel_rfl) (by exact Nat.zero_lt_one) (by decide) rfl) trivial ?_
    refine p_step rfl (e_move (v := .sc _) rfl) trivial ?_
    refine p_step rfl (e_ixa rfl rfl (by kernel_rfl) (by kernel_rfl) (by simp only [List.length_map]; omega)) trivial ?_
    refine p_step rfl (e_loadA (n := 3) rfl (by kernel_rfl) (by kernel_rfl) (by kernel_rfl) (by simp only [List.length_map]; omega) (by decide) (by first | exact agg_map hx rfl)) trivial ?_
    refine p_new rfl (e_alloc (cs := [.str ByteArray.empty, .str ByteArray.empty, .int 0]) (n := 3) (by kernel_rfl) rfl (by decide)) (ob_alloc (by decide)) ?_
    refine p_store rfl (e_storeA rfl (hset_self _ _ _) rfl rfl rfl (by kernel_rfl) rfl (by kernel_rfl)) trivial ?_
    refine p_end (hK62 _ ?_); clear hK62 K62
    refine pwp_seq_plain rfl fun K63 hK63 => ?_
    refine p_step rfl (e_faP (pl := [(0, 1, false), (1, 1, false), (2, 1, false)]) rfl (by kernel_rfl) (by kernel_rfl) (by decide) rfl) trivial ?_
    refine p_step rfl (e_loadH (v := .sc _) rfl (hset_self _ _ _) (by kernel_rfl) (by kernel_rfl) (by kernel_rfl) (by exact Nat.zero_lt_one) (by decide) rfl) trivial ?_
    refine p_step rfl (e_faP (pl := [(0, 1, false), (1, 1, false)]) rfl (by kernel_rfl) (by kernel_rfl) (by decide) rfl) trivial ?_
    refine p_step rfl (e_loadH (v := .sc _) rfl ((hset_ne (key_ne rfl)).trans ((hset_ne (key_ne rfl)).trans hihj57_4)) (by kernel_rfl) (by kernel_rfl) (by kernel_rfl) (by exact Nat.zero_lt_one) (by decide) rfl) trivial ?_
    refine p_step rfl (e_seq rfl rfl) trivial ?_
    refine p_end (hK63 _ ?_); clear hK63 K63
    refine pwp_cond rfl (fun hb64 => ?_) (fun hb64 => ?_)
    ·have hb64R := hb64; try simp only [z1, z2, z3, z4, z5, z6, ne_eq, z7, z8, z9, z10, z11, z12] at hb64
     refine pwp_seq_gops rfl fun K65 hK65 => ?_
     refine s_begin ?_
     refine s_step [] (by simp) rfl rfl rfl rfl (e_move (v := .sc _) rfl) trivial ?_
     refine s_step [] (by simp) rfl rfl rfl rfl (e_move (v := _) rfl) trivial ?_
     refine s_step [] (by simp) rfl rfl rfl rfl (e_faP (pl := [(0, 1, false), (1, 1, false), (2, 1, false)]) rfl (by kernel_rfl) (by kernel_rfl) (by decide) rfl) trivial ?_
     refine s_step [13] (by simp) rfl rfl rfl rfl (e_loadH (v := .sc _) rfl (hset_self _ _ _) (by kernel_rfl) (by kernel_rfl) (by kernel_rfl) (by exact Nat.zero_lt_one) (by decide) rfl) trivial ?_
     refine s_step [] (by simp) rfl rfl rfl rfl (e_buildA (cs := At.enc (⟨0, 0⟩ : At)) (zs := [.int 0, .int 0]) (pl := [(0, 1, false), (1, 1, false)]) (by kernel_rfl) (by kernel_rfl) (by kernel_rfl) rfl rfl (by exact trivial) rfl) trivial ?_
     refine s_call (args := [v2, .sc _, .agg _]) [24] (by intro k hk; replace hk : k ∈ keysOf v2 := (by simpa [keysOf, Go.Pv.keyOf, At.enc] using hk); exact List.mem_cons.2 (by have := sl_keys hihj57_0 k hk; first | exact .inl this | exact .inr (by simp [this]))) rfl rfl rfl rfl (.cons (SliceAt.inn (rows' := (ys2).map Stock.enc) (hihj57_0.keep fun _ => (hset_ne (key_ne rfl)).trans ((hset_ne (key_ne rfl)).trans (rfl))) (by simp) (by first | exact pure_map Stock.pure | (simp only [← List.map_append, List.nil_append]; exact pure_map Stock.pure))) (.cons inn_sc (.cons (inn_agg (At.pure ((⟨0, 0⟩ : At)))) .nil))) (refCountZ ys2 x.via (by omega) hcb2) ?_
     refine s_step [] (by simp) rfl rfl rfl rfl (e_faP (pl := [(0, 1, false), (1, 1, false), (2, 1, false)]) rfl (by kernel_rfl) (by kernel_rfl) (by decide) rfl) trivial ?_
     refine s_step [13] (by simp) rfl rfl rfl rfl (e_loadH (v := .sc _) rfl (hset_self _ _ _) (by kernel_rfl) (by kernel_rfl) (by kernel_rfl) (by exact Nat.zero_lt_one) (by decide) rfl) trivial ?_
     refine s_step [] (by simp) rfl rfl rfl rfl (e_quo rfl rfl (by omega) (by omega) (by omega)) trivial ?_
     refine s_step [] (by simp) rfl rfl rfl rfl (e_min rfl rfl) trivial ?_
     refine s_step [] (by simp) rfl rfl rfl rfl (e_assign (v := .sc _) rfl) trivial ?_
     refine s_end (ds := []) (by kernel_rfl) (by kernel_rfl) (hK65 _ ?_); clear hK65 K65
     refine pwp_seq_plain rfl fun K66 hK66 => ?_
     refine p_step rfl (e_move (v := _) rfl) trivial ?_
     refine p_step rfl (e_move (v := _) rfl) trivial ?_
     refine p_step rfl (e_faP (pl := [(0, 1, false), (1, 1, false), (2, 1, false)]) rfl (by kernel_rfl) (by kernel_rfl) (by decide) rfl) trivial ?_
     refine p_step rfl (e_loadH (v := .sc _) rfl ((hset_ne (key_ne rfl)).trans ((hset_ne (key_ne rfl)).trans hihj57_3)) (by kernel_rfl) (by kernel_rfl) (by kernel_rfl) (by exact Nat.zero_lt_one) (by decide) rfl) trivial ?_
     refine p_step rfl (e_faP (pl := [(0, 1, false), (1, 1, false), (2, 1, false)]) rfl (by kernel_rfl) (by kernel_rfl) (by decide) rfl) trivial ?_
     refine p_step rfl (e_loadH (v := .sc _) rfl (hset_self _ _ _) (by kernel_rfl) (by kernel_rfl) (by kernel_rfl) (by exact Nat.zero_lt_one) (by decide) rfl) trivial ?_
     refine p_step rfl (e_move (v := .sc _) rfl) trivial ?_
     refine p_step rfl (e_faP (pl := [(0, 1, false), (1, 1, false), (2, 1, false)]) rfl (by kernel_rfl) (by kernel_rfl) (by decide) rfl) trivial ?_
     refine p_step rfl (e_loadH (v := .sc _) rfl (hset_self _ _ _) (by kernel_rfl) (by kernel_rfl) (by kernel_rfl) (by exact Nat.zero_lt_one) (by decide) rfl) trivial ?_
     refine p_step rfl (e_mul rfl rfl (by omega)) trivial ?_
     refine p_hcall rfl (refTake ys2 mv2 _ _ _ x.via ((min nd ((gL ys2 x.via) / x.count)) * x.count) _ _ (hihj57_0.keep fun _ => (hset_ne (key_ne rfl)).trans ((hset_ne (key_ne rfl)).trans (rfl))) (hihj57_1.keep fun _ => (hset_ne (key_ne rfl)).trans ((hset_ne (key_ne rfl)).trans (rfl))) ⟨by omega, by omega⟩ (by omega) (by omega)) fun w67 h68 c69 hR70 => ?_
     obtain ⟨u71, u72, rfl, hs73, hs74, hf75⟩ := hR70
     have hbd76 := gL_bd hbd2 (p := x.via) (n := ((min nd ((gL ys2 x.via) / x.count)) * x.count)) (by omega) (by omega)
     have hcb77 := tkL_cts hcb2 (p := x.via) (n := ((min nd ((gL ys2 x.via) / x.count)) * x.count)) (by omega) (by omega)
     have hlnhbd76 := tkV_len (pl := o.place) (mv := mv2) (p := x.via) (n := ((min nd ((gL ys2 x.via) / x.count)) * x.count)); have hlxhbd76 := tkL_len (xs := ys2) (p := x.via) (n := ((min nd ((gL ys2 x.via) / x.count)) * x.count))
     have ho78 := (hf75 3 _ rfl rfl rfl rfl rfl rfl).trans ((hset_ne (key_ne rfl)).trans ((hset_ne (key_ne rfl)).trans hihj57_3))
     have ho79 := (hf75 9 _ rfl rfl rfl rfl rfl rfl).trans ((hset_ne (key_ne rfl)).trans ((hset_ne (key_ne rfl)).trans hihj57_4))
     have ho80 := (hf75 13 _ rfl rfl rfl rfl rfl rfl).trans (hset_self _ _ _)
     have hs81 := ((hihj57_2.keep fun _ => (hset_ne (key_ne rfl)).trans ((hset_ne (key_ne rfl)).trans (rfl)))).keep fun g => hf75 104 g rfl rfl rfl rfl rfl rfl
     refine p_step rfl (e_move (v := .tup _) rfl) trivial ?_
     refine p_step rfl (e_ext (v := _) rfl (by simp) rfl) trivial ?_
     refine p_step rfl (e_ext (v := _) rfl (by simp) rfl) trivial ?_
     refine p_step rfl (e_assign (v := _) rfl) trivial ?_
     refine p_step rfl (e_assign (v := _) rfl) trivial ?_
     refine p_end (hK66 _ ?_); clear hK66 K66
     refine pwp_plain rfl fun K87 hK87 => ?_
     refine p_step rfl (e_move (v := .sc _) rfl) trivial ?_
     refine p_step rfl (e_move (v := .sc _) rfl) trivial ?_
     refine p_step rfl (e_sub rfl rfl (by omega)) trivial ?_
     refine p_step rfl (e_assign (v := .sc _) rfl) trivial ?_
     refine p_end (hK87 _ ?_); clear hK87 K87
     refine block_norm ?_
     refine seq_norm (hK61 _ ?_); clear hK61 K61
     refine pwp_plain rfl fun K88 hK88 => ?_
     refine p_step rfl (e_move (v := .sc _) rfl) trivial ?_
     refine p_step rfl (e_add rfl rfl (by omega)) trivial ?_
     refine p_step rfl (e_assign (v := .sc _) rfl) trivial ?_
     refine p_end (hK88 _ ?_); clear hK88 K88
     exact loop_again ((j + 1, (nd - (min nd ((gL ys2 x.via) / x.count))), (tkL ys2 x.via ((min nd ((gL ys2 x.via) / x.count)) * x.count)), (tkV o.place mv2 x.via ((min nd ((gL ys2 x.via) / x.count)) * x.count)), _, _)) (by show _ < _; simp only; omega) ⟨rfl, rfl, rfl, rfl, trivial⟩ ⟨rfl, rfl, rfl, rfl, trivial⟩ (by exact ⟨by show _ + 1 ≤ _; omega, by first | exact sg_t hinv2 (by assumption) | exact sg_f hinv2 (by assumption), by first | exact gL_bd hbd2 hmm.2.1 hmm.2.2 | exact hbd2, by first | exact hcb2 | exact tkL_cts hcb2 hmm.2.1 (by omega), by (dsimp only; constructor <;> omega), by first | exact Nat.le_trans tkL_len (by omega) | (show ys2.length ≤ 220 + 61 * k + 1 + (j + 1); omega), by first | exact Nat.le_trans tkV_len (by omega) | (show mv2.length ≤ 61 * k + 1 + (j + 1); omega), (SliceAt.to hs73 (by rfl)), (SliceAt.to hs74 (by rfl)), hs81, ho78, ho79⟩)
    have hb64R := hb64; try simp only [z1, z2, z3, z4, z5, z6, ne_eq, z7, z8, z9, z10, z11, z12] at hb64
    refine pwp_skip ?_
    refine block_norm ?_
    refine seq_norm (hK61 _ ?_); clear hK61 K61
    refine pwp_plain rfl fun K89 hK89 => ?_
    refine p_step rfl (e_move (v := .sc _) rfl) trivial ?_
    refine p_step rfl (e_add rfl rfl (by omega)) trivial ?_
    refine p_step rfl (e_assign (v := .sc _) rfl) trivial ?_
    refine p_end (hK89 _ ?_); clear hK89 K89
    exact loop_again ((j + 1, nd, ys2, mv2, _, _)) (by show _ < _; simp only; omega) ⟨rfl, rfl, rfl, rfl, trivial⟩ ⟨rfl, rfl, rfl, rfl, trivial⟩ (by exact ⟨by show _ + 1 ≤ _; omega, by first | exact sg_t hinv2 (by assumption) | exact sg_f hinv2 (by assumption), by first | exact gL_bd hbd2 hmm.2.1 hmm.2.2 | exact hbd2, by first | exact hcb2 | exact tkL_cts hcb2 hmm.2.1 (by omega), by (dsimp only; constructor <;> omega), by first | exact Nat.le_trans tkL_len (by omega) | (show ys2.length ≤ 220 + 61 * k + 1 + (j + 1); omega), by first | exact Nat.le_trans tkV_len (by omega) | (show mv2.length ≤ 61 * k + 1 + (j + 1); omega), (SliceAt.to (hihj57_0.keep fun _ => (hset_ne (key_ne rfl)).trans ((hset_ne (key_ne rfl)).trans (rfl))) (by rfl)), (SliceAt.to (hihj57_1.keep fun _ => (hset_ne (key_ne rfl)).trans ((hset_ne (key_ne rfl)).trans (rfl))) (by rfl)), (hihj57_2.keep fun _ => (hset_ne (key_ne rfl)).trans ((hset_ne (key_ne rfl)).trans (rfl))), ((hset_ne (key_ne rfl)).trans ((hset_ne (key_ne rfl)).trans hihj57_3)), ((hset_ne (key_ne rfl)).trans ((hset_ne (key_ne rfl)).trans hihj57_4))⟩)
   have hb60R := hb60; try simp only [z1, z2, z3, z4, z5, z6, ne_eq, z7, z8, z9, z10, z11, z12] at hb60
   obtain rfl : j = o.swaps.length := by omega
   rw [List.drop_length] at hinv2; simp only [swG] at hinv2
   refine pwp_exit ?_
   refine exit_seq ?_
   clear hK59 K59
   refine exit_loop ?_
   refine exit_here ?_
   refine seq_norm (hK52 _ ?_); clear hK52 K52
   refine pwp_seq_plain rfl fun K90 hK90 => ?_
   refine p_step rfl (e_move (v := .sc _) rfl) trivial ?_
   refine p_step rfl (e_gt rfl rfl) trivial ?_
   refine p_end (hK90 _ ?_); clear hK90 K90
   refine pwp_cond rfl (fun hb91 => ?_) (fun hb91 => ?_)
   ·have hb91R := hb91; try simp only [z1, z2, z3, z4, z5, z6, ne_eq, z7, z8, z9, z10, z11, z12] at hb91
    refine pwp_plain rfl fun K92 hK92 => ?_
    refine p_step rfl (e_move (v := _) rfl) trivial ?_
    refine p_step rfl (e_faP (pl := [(0, 1, false), (1, 1, false)]) rfl (by kernel_rfl) (by kernel_rfl) (by decide) rfl) trivial ?_
    refine p_step rfl (e_loadH (v := .sc _) rfl hihj57_4 (by kernel_rfl) (by kernel_rfl) (by kernel_rfl) (by exact Nat.zero_lt_one) (by decide) rfl) trivial ?_
    refine p_step rfl (e_move (v := .sc _) rfl) trivial ?_
    refine p_step rfl (e_build (cs := Want.enc (⟨w.part, nd⟩ : Want)) (zs := [.str ByteArray.empty, .int 0]) (pl := [(0, 1, false), (1, 1, false)]) (by kernel_rfl) (by kernel_rfl) (by kernel_rfl) rfl rfl (by exact ⟨by decide, rfl, Nat.le_of_ble_eq_true rfl, rfl, ⟨by decide, rfl, Nat.le_of_ble_eq_true rfl, rfl, trivial⟩⟩) rfl) trivial ?_
    refine p_new rfl (e_bslice (rows := [Want.enc ⟨w.part, nd⟩]) (zs := [.str ByteArray.empty, .int 0]) (sz := 2) (by kernel_rfl) (by kernel_rfl) rfl (by kernel_rfl) (by decide) rfl rfl (by exact ⟨by decide, rfl, rfl, trivial⟩) rfl) trivial ?_
    refine p_app rfl rfl rfl (hihj57_2.keep fun _ => (hset_ne (key_ne rfl)).trans (rfl)) (src_ref (hset_self _ _ _) rfl) (by kernel_rfl) (by simp only [List.length_append, List.length_map, List.length_nil, List.length_cons]; omega) fun v93 h94 c95 hs96 hf97 => ?_
    have ho98 := (hf97 (3, _) (key_ne rfl) (fun _ _ => key_ne rfl)).trans ((hset_ne (key_ne rfl)).trans hihj57_3)
    have ho99 := (hf97 (9, _) (key_ne rfl) (fun _ _ => key_ne rfl)).trans ((hset_ne (key_ne rfl)).trans hihj57_4)
    have ho100 := (hf97 (103, _) (key_ne rfl) (fun _ _ => key_ne rfl)).trans (hset_self _ _ _)
    have hs101 := ((hihj57_0.keep fun _ => (hset_ne (key_ne rfl)).trans (rfl))).keep fun g => (hf97 (24, g) (key_ne rfl) (fun _ _ => key_ne rfl))
    have hs102 := ((hihj57_1.keep fun _ => (hset_ne (key_ne rfl)).trans (rfl))).keep fun g => (hf97 (31, g) (key_ne rfl) (fun _ _ => key_ne rfl))
    refine p_step rfl (e_assign (v := _) rfl) trivial ?_
    refine p_end (hK92 _ ?_); clear hK92 K92
    refine block_norm ?_
    refine seq_norm (hK27 _ ?_); clear hK27 K27
    refine pwp_plain rfl fun K103 hK103 => ?_
    refine p_step rfl (e_move (v := .sc _) rfl) trivial ?_
    refine p_step rfl (e_add rfl rfl (by omega)) trivial ?_
    refine p_step rfl (e_assign (v := .sc _) rfl) trivial ?_
    refine p_end (hK103 _ ?_); clear hK103 K103
    exact loop_again ((k + 1, ys2, mv2, (la ++ [(⟨w.part, nd⟩ : Want)]), _, _, v93)) (by show _ < _; simp only; omega) ⟨rfl, trivial⟩ ⟨rfl, rfl, rfl, rfl, trivial⟩ (by exact ⟨by show _ + 1 ≤ _; omega, by (have h9 := pg_s hinv hinv2; first | (rw [if_pos (by omega)] at h9; exact h9) | (rw [if_neg (by omega)] at h9; exact h9)), by exact hbd2, by exact hcb2, by (show ys2.length ≤ 220 + 61 * (k + 1); omega), by (show mv2.length ≤ 61 * (k + 1); omega), by first | (show (la ++ [_]).length ≤ k + 1; simp only [List.length_append, List.length_cons, List.length_nil]; omega) | (show la.length ≤ k + 1; omega), (SliceAt.to hs101 (by (first | rfl | (simp only [List.map_append, List.map_cons, List.map_nil] <;> rfl)))), (SliceAt.to hs102 (by (first | rfl | (simp only [List.map_append, List.map_cons, List.map_nil] <;> rfl)))), (SliceAt.to hs96 (by (first | rfl | (simp only [List.map_append, List.map_cons, List.map_nil] <;> rfl)))), ho98⟩)
   have hb91R := hb91; try simp only [z1, z2, z3, z4, z5, z6, ne_eq, z7, z8, z9, z10, z11, z12] at hb91
   refine pwp_skip ?_
   refine block_norm ?_
   refine seq_norm (hK27 _ ?_); clear hK27 K27
   refine pwp_plain rfl fun K104 hK104 => ?_
   refine p_step rfl (e_move (v := .sc _) rfl) trivial ?_
   refine p_step rfl (e_add rfl rfl (by omega)) trivial ?_
   refine p_step rfl (e_assign (v := .sc _) rfl) trivial ?_
   refine p_end (hK104 _ ?_); clear hK104 K104
   exact loop_again ((k + 1, ys2, mv2, la, _, _, vl)) (by show _ < _; simp only; omega) ⟨rfl, trivial⟩ ⟨rfl, rfl, rfl, rfl, trivial⟩ (by exact ⟨by show _ + 1 ≤ _; omega, by (have h9 := pg_s hinv hinv2; first | (rw [if_pos (by omega)] at h9; exact h9) | (rw [if_neg (by omega)] at h9; exact h9)), by exact hbd2, by exact hcb2, by (show ys2.length ≤ 220 + 61 * (k + 1); omega), by (show mv2.length ≤ 61 * (k + 1); omega), by first | (show (la ++ [_]).length ≤ k + 1; simp only [List.length_append, List.length_cons, List.length_nil]; omega) | (show la.length ≤ k + 1; omega), (SliceAt.to hihj57_0 (by (first | rfl | (simp only [List.map_append, List.map_cons, List.map_nil] <;> rfl)))), (SliceAt.to hihj57_1 (by (first | rfl | (simp only [List.map_append, List.map_cons, List.map_nil] <;> rfl)))), (SliceAt.to hihj57_2 (by (first | rfl | (simp only [List.map_append, List.map_cons, List.map_nil] <;> rfl)))), hihj57_3⟩)
  have hb26R := hb26; try simp only [z1, z2, z3, z4, z5, z6, ne_eq, z7, z8, z9, z10, z11, z12] at hb26
  obtain rfl : k = o.wants.length := by omega
  rw [List.drop_length] at hinv; simp only [pkG] at hinv
  refine pwp_exit ?_
  refine exit_seq ?_
  clear hK25 K25
  refine exit_loop ?_
  refine exit_here ?_
  refine seq_norm (hK18 _ ?_); clear hK18 K18
  refine pwp_seq_plain rfl fun K105 hK105 => ?_
  refine p_step rfl (e_move (v := _) rfl) trivial ?_
  refine p_step rfl (e_move (v := _) rfl) trivial ?_
  refine p_step rfl (e_assign (v := _) rfl) trivial ?_
  refine p_step rfl (e_assign (v := _) rfl) trivial ?_
  refine p_end (hK105 _ ?_); clear hK105 K105
  refine pwp_ret ?_
  refine end2 (v := _) (w := _) rfl rfl ?_
  exact rp_out hinv hihj23_1 hihj23_2

end Go.Proofs.Ytigdmkhdmbbfiaa

/- The law of picks. No conditions. -/
set_option linter.unusedSimpArgs false
set_option linter.unusedVariables false
set_option maxRecDepth 100000
set_option maxHeartbeats 8000000
namespace Go.Proofs.Ytigdmkhdmbbfiaa
open Go Go.Pv

/-! ### The law of picks -/
section
variable {σ : Type} {gt : σ → ByteArray → Int} {tk : σ → ByteArray → Int → σ}
theorem swG_len {pl : Int} {wp : ByteArray} : ∀ (l : List Swap) (nd : Int) (s : σ) (mv : List Movement), (swG gt tk pl wp nd s mv l).2.2.length ≤ mv.length + l.length
  | [], _, _, _ => Nat.le_refl _
  | x :: l, nd, s, mv => by
    unfold swG
    split
    · have h1 := swG_len (pl := pl) (wp := wp) l (nd - min nd (gt s x.via / x.count)) (tk s x.via (min nd (gt s x.via / x.count) * x.count)) (tkV pl mv x.via (min nd (gt s x.via / x.count) * x.count))
      have h2 := tkV_len (pl := pl) (mv := mv) (p := x.via) (n := min nd (gt s x.via / x.count) * x.count)
      simp only [List.length_cons]; omega
    · have h1 := swG_len (pl := pl) (wp := wp) l nd s mv
      simp only [List.length_cons]; omega
theorem pkG_len {pl : Int} {ss : List Swap} : ∀ (l : List Want) (s : σ) (mv : List Movement) (la : List Want), ss.length ≤ 100 → (pkG gt tk pl ss s mv la l).1.length ≤ mv.length + 101 * l.length ∧ (pkG gt tk pl ss s mv la l).2.length ≤ la.length + l.length
  | [], _, _, _, _ => ⟨Nat.le_refl _, Nat.le_refl _⟩
  | w :: l, s, mv, la, hs => by
    unfold pkG
    generalize hr : swG gt tk pl w.part (w.count - min w.count (gt s w.part)) (tk s w.part (min w.count (gt s w.part))) (tkV pl mv w.part (min w.count (gt s w.part))) ss = r
    have h1 := swG_len (gt := gt) (tk := tk) (pl := pl) (wp := w.part) ss (w.count - min w.count (gt s w.part)) (tk s w.part (min w.count (gt s w.part))) (tkV pl mv w.part (min w.count (gt s w.part)))
    rw [hr] at h1
    have h2 := tkV_len (pl := pl) (mv := mv) (p := w.part) (n := min w.count (gt s w.part))
    have h3 := pkG_len (pl := pl) l r.2.1 r.2.2 (if 0 < r.1 then la ++ [⟨w.part, r.1⟩] else la) hs
    have h4 : (if 0 < r.1 then la ++ [(⟨w.part, r.1⟩ : Want)] else la).length ≤ la.length + 1 := by split <;> simp
    simp only [List.length_cons]
    omega
end
theorem pickX_len (xs : List Stock) (o : Order) : (pickX xs o).2.1.length ≤ 10000 ∧ (pickX xs o).2.2.length ≤ 10000 := by
  unfold pickX
  split
  · simp
  · split
    · simp
    · rename_i h1 h2
      obtain ⟨_, h3, h4, _⟩ := orderE_ok (by simpa using h2)
      have := pkG_len (gt := gM) (tk := tkM) (pl := o.place) (ss := o.swaps) o.wants (sumS [] xs) [] [] (by omega)
      simp only [List.length_nil] at this
      show (pickR xs o).1.length ≤ _ ∧ (pickR xs o).2.length ≤ _
      unfold pickR
      omega
theorem px_ref {xs : List Stock} {o : Order} (h : stockE xs = 0) (ho : orderE o = 0) : pickX xs o = (0, (refPickR xs o).1, (refPickR xs o).2) := by
  rw [px_3 h ho (a := (pickR xs o).1) (b := (pickR xs o).2) rfl, pick_ref h ho]
theorem eqOk_Want (a b : Want) : eqOk Try.prog 6 136 (.agg a.enc) (.agg b.enc) = true := by kernel_rfl
theorem eqV_Want (a b : Want) : eqV Try.prog 6 136 (.agg a.enc) (.agg b.enc) = decide (a = b) := by
  have h : eqV Try.prog 6 136 (.agg a.enc) (.agg b.enc) = (decide (a.part = b.part) && ((a.count == b.count) && true)) := by kernel_rfl
  rw [h]
  cases a; cases b
  simp only [Want.mk.injEq]
  rw [Bool.eq_iff_iff]
  simp
theorem eqOk_Movement (a b : Movement) : eqOk Try.prog 6 141 (.agg a.enc) (.agg b.enc) = true := by kernel_rfl
theorem eqV_Movement (a b : Movement) : eqV Try.prog 6 141 (.agg a.enc) (.agg b.enc) = decide (a = b) := by
  have h : eqV Try.prog 6 141 (.agg a.enc) (.agg b.enc) = (decide (a.part = b.part) && ((a.fro == b.fro) && ((a.til == b.til) && ((a.before == b.before) && ((a.after == b.after) && ((a.count == b.count) && true)))))) := by kernel_rfl
  rw [h]
  cases a; cases b
  simp only [Movement.mk.injEq]
  rw [Bool.eq_iff_iff]
  simp

theorem fr40 : (inFrame Try.f40.ntmps (Try.f40.body.getD .skip) && Try.f40.results.toList.all (resScope Try.f40.ntmps)) = true := by kernel_rfl
theorem sameMoves (xs ys : List Movement) (hl : xs.length ≤ 10000000) : PCalls Try.prog 40 [.lit true 6 (xs.map Movement.enc), .lit true 6 (ys.map Movement.enc)] (.bool (decide (xs = ys))) := by
  refine PCalls.of_code Try.func40 rfl rfl (by kernel_rfl) mixed fr40 (by show _ ≤ 26; simp) (.sc _) ?_
  refine pwp_seq_plain rfl fun K1 hK1 => ?_
  refine p_step rfl (e_assign (v := .sc _) rfl) trivial ?_
  refine p_end (hK1 _ ?_); clear hK1 K1
  refine pwp_seq_seq ?_
  refine pwp_seq_plain rfl fun K2 hK2 => ?_
  refine p_step rfl (e_move (v := .lit _ _ _) rfl) trivial ?_
  refine p_step rfl (e_len rfl (by kernel_rfl)) trivial ?_
  refine p_step rfl (e_move (v := .lit _ _ _) rfl) trivial ?_
  refine p_step rfl (e_len rfl (by kernel_rfl)) trivial ?_
  refine p_step rfl (e_ne rfl rfl) trivial ?_
  refine p_end (hK2 _ ?_); clear hK2 K2
  refine pwp_seq_cond rfl fun K3 hK3 => ⟨fun hb4 => ?_, fun hb4 => ?_⟩
  ·have hb4R := hb4; try simp only [z1, z2, z3, z4, z5, z6, ne_eq, z7, z8, z9, z10, z11, z12] at hb4
   refine pwp_seq_plain rfl fun K5 hK5 => ?_
   refine p_step rfl (e_assign (v := .sc _) rfl) trivial ?_
   refine p_end (hK5 _ ?_); clear hK5 K5
   refine pwp_ret ?_
   refine ret_seq ?_
   refine end1 (v := .sc _) rfl ?_
   exact out_b (decide_eq_false (by first | (intro hc; subst hc; omega) | exact same_badL hx hy (by assumption))).symm
  have hb4R := hb4; try simp only [z1, z2, z3, z4, z5, z6, ne_eq, z7, z8, z9, z10, z11, z12] at hb4
  refine pwp_skip ?_
  refine seq_norm (hK3 _ ?_); clear hK3 K3
  refine pwp_seq_seq ?_
  refine pwp_seq_plain rfl fun K6 hK6 => ?_
  refine p_step rfl (e_assign (v := .sc _) rfl) trivial ?_
  refine p_end (hK6 _ ?_); clear hK6 K6
  refine pwp_seq_block fun K7 hK7 => ?_
  refine pwp_loopR (α := Nat) [0, 1] (fun (k : Nat) => [(5, .int (k))]) (fun (k : Nat) (h : Heap) (_ : Nat → Nat) => ((k) ≤ xs.length) ∧ (xs.take (k) = ys.take (k))) (fun (k : Nat) => xs.length - (k)) (0) (by exact ⟨rfl, trivial⟩) (by exact ⟨by exact Nat.zero_le _, by exact rfl⟩) fun k r8 h9 c10 hj11 => ?_
  obtain ⟨hk, he⟩ := hj11
  try dsimp only at hk
  try dsimp only at he
  show pwp _ _ (loopQ _ _ _) ⟨sets (mix _ _ _) [(5, .int k)], _, _⟩
  refine pwp_seq_seq ?_
  refine pwp_seq_plain rfl fun K12 hK12 => ?_
  refine p_step rfl (e_move (v := .sc _) rfl) trivial ?_
  refine p_step rfl (e_move (v := .lit _ _ _) rfl) trivial ?_
  refine p_step rfl (e_len rfl (by kernel_rfl)) trivial ?_
  refine p_step rfl (e_lt rfl rfl) trivial ?_
  refine p_end (hK12 _ ?_); clear hK12 K12
  refine pwp_seq_cond rfl fun K13 hK13 => ⟨fun hb14 => ?_, fun hb14 => ?_⟩
  ·have hb14R := hb14; try simp only [z1, z2, z3, z4, z5, z6, ne_eq, z7, z8, z9, z10, z11, z12] at hb14
   obtain ⟨x, hx, hd, ht⟩ := get_lt (xs := xs) (i := k) (by omega)
   obtain ⟨y, hy, hdy, hty⟩ := get_lt (xs := ys) (i := k) (by omega)
   refine pwp_skip ?_
   refine seq_norm (hK13 _ ?_); clear hK13 K13
   refine pwp_seq_block fun K15 hK15 => ?_
   refine pwp_seq_gops rfl fun K16 hK16 => ?_
   refine g_begin ?_
   refine g_step rfl rfl rfl rfl (e_move (v := .lit _ _ _) rfl) trivial ?_
   refine g_step rfl rfl rfl rfl (e_move (v := .sc _) rfl) trivial ?_
   refine g_step rfl rfl rfl rfl (e_ixa rfl rfl (by kernel_rfl) (by kernel_rfl) (by simp only [List.length_map]; omega)) trivial ?_
   refine g_step rfl rfl rfl rfl (e_loadA (n := 6) rfl (by kernel_rfl) (by kernel_rfl) (by kernel_rfl) (by simp only [List.length_map]; omega) (by decide) (by first | exact agg_map hx rfl)) trivial ?_
   refine g_step rfl rfl rfl rfl (e_move (v := .lit _ _ _) rfl) trivial ?_
   refine g_step rfl rfl rfl rfl (e_move (v := .sc _) rfl) trivial ?_
   refine g_step rfl rfl rfl rfl (e_ixa rfl rfl (by kernel_rfl) (by kernel_rfl) (by simp only [List.length_map]; omega)) trivial ?_
   refine g_step rfl rfl rfl rfl (e_loadA (n := 6) rfl (by kernel_rfl) (by kernel_rfl) (by kernel_rfl) (by simp only [List.length_map]; omega) (by decide) (by first | exact agg_map hy rfl)) trivial ?_
   refine g_step rfl rfl rfl rfl (e_ane rfl rfl (by kernel_rfl) (eqOk_Movement (x) (y)) (eqV_Movement (x) (y))) trivial ?_
   refine g_end (ds := []) (by kernel_rfl) rfl (hK16 _ ?_); clear hK16 K16
   refine pwp_cond rfl (fun hb17 => ?_) (fun hb17 => ?_)
   ·have hb17R := hb17; try simp only [z1, z2, z3, z4, z5, z6, ne_eq, z7, z8, z9, z10, z11, z12] at hb17
    refine pwp_seq_plain rfl fun K18 hK18 => ?_
    refine p_step rfl (e_assign (v := .sc _) rfl) trivial ?_
    refine p_end (hK18 _ ?_); clear hK18 K18
    refine pwp_ret ?_
    refine ret_block ?_
    refine ret_seq ?_
    refine ret_loop ?_
    refine ret_block ?_
    refine ret_seq ?_
    refine end1 (v := .sc _) rfl ?_
    exact out_b (decide_eq_false (by first | (intro hc; subst hc; omega) | exact same_badL hx hy (by assumption))).symm
   have hb17R := hb17; try simp only [z1, z2, z3, z4, z5, z6, ne_eq, z7, z8, z9, z10, z11, z12] at hb17
   refine pwp_skip ?_
   refine block_norm ?_
   refine seq_norm (hK15 _ ?_); clear hK15 K15
   refine pwp_plain rfl fun K19 hK19 => ?_
   refine p_step rfl (e_move (v := .sc _) rfl) trivial ?_
   refine p_step rfl (e_add rfl rfl (by omega)) trivial ?_
   refine p_step rfl (e_assign (v := .sc _) rfl) trivial ?_
   refine p_end (hK19 _ ?_); clear hK19 K19
   exact loop_again (k + 1) (by show _ < _; omega) ⟨rfl, rfl, trivial⟩ ⟨rfl, trivial⟩ (by exact ⟨by show _ + 1 ≤ _; omega, by exact take_snoc2 ht hty he (by assumption)⟩)
  have hb14R := hb14; try simp only [z1, z2, z3, z4, z5, z6, ne_eq, z7, z8, z9, z10, z11, z12] at hb14
  obtain rfl : k = xs.length := by omega
  refine pwp_exit ?_
  refine exit_seq ?_
  clear hK13 K13
  refine exit_loop ?_
  refine exit_here ?_
  refine seq_norm (hK7 _ ?_); clear hK7 K7
  refine pwp_seq_plain rfl fun K20 hK20 => ?_
  refine p_step rfl (e_assign (v := .sc _) rfl) trivial ?_
  refine p_end (hK20 _ ?_); clear hK20 K20
  refine pwp_ret ?_
  refine end1 (v := .sc _) rfl ?_
  exact out_b (decide_eq_true (same_endL (by omega) he)).symm

theorem fr41 : (inFrame Try.f41.ntmps (Try.f41.body.getD .skip) && Try.f41.results.toList.all (resScope Try.f41.ntmps)) = true := by kernel_rfl
theorem sameWants (xs ys : List Want) (hl : xs.length ≤ 10000000) : PCalls Try.prog 41 [.lit true 2 (xs.map Want.enc), .lit true 2 (ys.map Want.enc)] (.bool (decide (xs = ys))) := by
  refine PCalls.of_code Try.func41 rfl rfl (by kernel_rfl) mixed fr41 (by show _ ≤ 26; simp) (.sc _) ?_
  refine pwp_seq_plain rfl fun K1 hK1 => ?_
  refine p_step rfl (e_assign (v := .sc _) rfl) trivial ?_
  refine p_end (hK1 _ ?_); clear hK1 K1
  refine pwp_seq_seq ?_
  refine pwp_seq_plain rfl fun K2 hK2 => ?_
  refine p_step rfl (e_move (v := .lit _ _ _) rfl) trivial ?_
  refine p_step rfl (e_len rfl (by kernel_rfl)) trivial ?_
  refine p_step rfl (e_move (v := .lit _ _ _) rfl) trivial ?_
  refine p_step rfl (e_len rfl (by kernel_rfl)) trivial ?_
  refine p_step rfl (e_ne rfl rfl) trivial ?_
  refine p_end (hK2 _ ?_); clear hK2 K2
  refine pwp_seq_cond rfl fun K3 hK3 => ⟨fun hb4 => ?_, fun hb4 => ?_⟩
  ·have hb4R := hb4; try simp only [z1, z2, z3, z4, z5, z6, ne_eq, z7, z8, z9, z10, z11, z12] at hb4
   refine pwp_seq_plain rfl fun K5 hK5 => ?_
   refine p_step rfl (e_assign (v := .sc _) rfl) trivial ?_
   refine p_end (hK5 _ ?_); clear hK5 K5
   refine pwp_ret ?_
   refine ret_seq ?_
   refine end1 (v := .sc _) rfl ?_
   exact out_b (decide_eq_false (by first | (intro hc; subst hc; omega) | exact same_badL hx hy (by assumption))).symm
  have hb4R := hb4; try simp only [z1, z2, z3, z4, z5, z6, ne_eq, z7, z8, z9, z10, z11, z12] at hb4
  refine pwp_skip ?_
  refine seq_norm (hK3 _ ?_); clear hK3 K3
  refine pwp_seq_seq ?_
  refine pwp_seq_plain rfl fun K6 hK6 => ?_
  refine p_step rfl (e_assign (v := .sc _) rfl) trivial ?_
  refine p_end (hK6 _ ?_); clear hK6 K6
  refine pwp_seq_block fun K7 hK7 => ?_
  refine pwp_loopR (α := Nat) [0, 1] (fun (k : Nat) => [(5, .int (k))]) (fun (k : Nat) (h : Heap) (_ : Nat → Nat) => ((k) ≤ xs.length) ∧ (xs.take (k) = ys.take (k))) (fun (k : Nat) => xs.length - (k)) (0) (by exact ⟨rfl, trivial⟩) (by exact ⟨by exact Nat.zero_le _, by exact rfl⟩) fun k r8 h9 c10 hj11 => ?_
  obtain ⟨hk, he⟩ := hj11
  try dsimp only at hk
  try dsimp only at he
  show pwp _ _ (loopQ _ _ _) ⟨sets (mix _ _ _) [(5, .int k)], _, _⟩
  refine pwp_seq_seq ?_
  refine pwp_seq_plain rfl fun K12 hK12 => ?_
  refine p_step rfl (e_move (v := .sc _) rfl) trivial ?_
  refine p_step rfl (e_move (v := .lit _ _ _) rfl) trivial ?_
  refine p_step rfl (e_len rfl (by kernel_rfl)) trivial ?_
  refine p_step rfl (e_lt rfl rfl) trivial ?_
  refine p_end (hK12 _ ?_); clear hK12 K12
  refine pwp_seq_cond rfl fun K13 hK13 => ⟨fun hb14 => ?_, fun hb14 => ?_⟩
  ·have hb14R := hb14; try simp only [z1, z2, z3, z4, z5, z6, ne_eq, z7, z8, z9, z10, z11, z12] at hb14
   obtain ⟨x, hx, hd, ht⟩ := get_lt (xs := xs) (i := k) (by omega)
   obtain ⟨y, hy, hdy, hty⟩ := get_lt (xs := ys) (i := k) (by omega)
   refine pwp_skip ?_
   refine seq_norm (hK13 _ ?_); clear hK13 K13
   refine pwp_seq_block fun K15 hK15 => ?_
   refine pwp_seq_gops rfl fun K16 hK16 => ?_
   refine g_begin ?_
   refine g_step rfl rfl rfl rfl (e_move (v := .lit _ _ _) rfl) trivial ?_
   refine g_step rfl rfl rfl rfl (e_move (v := .sc _) rfl) trivial ?_
   refine g_step rfl rfl rfl rfl (e_ixa rfl rfl (by kernel_rfl) (by kernel_rfl) (by simp only [List.length_map]; omega)) trivial ?_
   refine g_step rfl rfl rfl rfl (e_loadA (n := 2) rfl (by kernel_rfl) (by kernel_rfl) (by kernel_rfl) (by simp only [List.length_map]; omega) (by decide) (by first | exact agg_map hx rfl)) trivial ?_
   refine g_step rfl rfl rfl rfl (e_move (v := .lit _ _ _) rfl) trivial ?_
   refine g_step rfl rfl rfl rfl (e_move (v := .sc _) rfl) trivial ?_
   refine g_step rfl rfl rfl rfl (e_ixa rfl rfl (by kernel_rfl) (by kernel_rfl) (by simp only [List.length_map]; omega)) trivial ?_
   refine g_step rfl rfl rfl rfl (e_loadA (n := 2) rfl (by kernel_rfl) (by kernel_rfl) (by kernel_rfl) (by simp only [List.length_map]; omega) (by decide) (by first | exact agg_map hy rfl)) trivial ?_
   refine g_step rfl rfl rfl rfl (e_ane rfl rfl (by kernel_rfl) (eqOk_Want (x) (y)) (eqV_Want (x) (y))) trivial ?_
   refine g_end (ds := []) (by kernel_rfl) rfl (hK16 _ ?_); clear hK16 K16
   refine pwp_cond rfl (fun hb17 => ?_) (fun hb17 => ?_)
   ·have hb17R := hb17; try simp only [z1, z2, z3, z4, z5, z6, ne_eq, z7, z8, z9, z10, z11, z12] at hb17
    refine pwp_seq_plain rfl fun K18 hK18 => ?_
    refine p_step rfl (e_assign (v := .sc _) rfl) trivial ?_
    refine p_end (hK18 _ ?_); clear hK18 K18
    refine pwp_ret ?_
    refine ret_block ?_
    refine ret_seq ?_
    refine ret_loop ?_
    refine ret_block ?_
    refine ret_seq ?_
    refine end1 (v := .sc _) rfl ?_
    exact out_b (decide_eq_false (by first | (intro hc; subst hc; omega) | exact same_badL hx hy (by assumption))).symm
   have hb17R := hb17; try simp only [z1, z2, z3, z4, z5, z6, ne_eq, z7, z8, z9, z10, z11, z12] at hb17
   refine pwp_skip ?_
   refine block_norm ?_
   refine seq_norm (hK15 _ ?_); clear hK15 K15
   refine pwp_plain rfl fun K19 hK19 => ?_
   refine p_step rfl (e_move (v := .sc _) rfl) trivial ?_
   refine p_step rfl (e_add rfl rfl (by omega)) trivial ?_
   refine p_step rfl (e_assign (v := .sc _) rfl) trivial ?_
   refine p_end (hK19 _ ?_); clear hK19 K19
   exact loop_again (k + 1) (by show _ < _; omega) ⟨rfl, rfl, trivial⟩ ⟨rfl, trivial⟩ (by exact ⟨by show _ + 1 ≤ _; omega, by exact take_snoc2 ht hty he (by assumption)⟩)
  have hb14R := hb14; try simp only [z1, z2, z3, z4, z5, z6, ne_eq, z7, z8, z9, z10, z11, z12] at hb14
  obtain rfl : k = xs.length := by omega
  refine pwp_exit ?_
  refine exit_seq ?_
  clear hK13 K13
  refine exit_loop ?_
  refine exit_here ?_
  refine seq_norm (hK7 _ ?_); clear hK7 K7
  refine pwp_seq_plain rfl fun K20 hK20 => ?_
  refine p_step rfl (e_assign (v := .sc _) rfl) trivial ?_
  refine p_end (hK20 _ ?_); clear hK20 K20
  refine pwp_ret ?_
  refine end1 (v := .sc _) rfl ?_
  exact out_b (decide_eq_true (same_endL (by omega) he)).symm

theorem fr7 : (inFrame Try.f7.ntmps (Try.f7.body.getD .skip) && Try.f7.results.toList.all (resScope Try.f7.ntmps)) = true := by kernel_rfl
theorem hpicks (xs : List Stock) (o : Order) (hlx : xs.length ≤ 9223372036854775807) (hwx : o.wants.length ≤ 9223372036854775807) (hsx : o.swaps.length ≤ 9223372036854775807) : PCalls Try.prog 7 [.lit true 4 (xs.map Stock.enc), .agg o.enc] (.bool true) := by
  refine PCalls.of_code Try.func7 rfl rfl (by kernel_rfl) mixed fr7 (by show _ ≤ 67; simp) (.sc _) ?_
  refine pwp_seq_plain rfl fun K1 hK1 => ?_
  refine p_new rfl (e_box (n := 3) rfl rfl) ⟨rfl, by decide⟩ ?_
  refine p_step rfl (e_assign (v := .sc _) rfl) trivial ?_
  refine p_end (hK1 _ ?_); clear hK1 K1
  refine pwp_seq_seq ?_
  refine pwp_seq_plain rfl fun K2 hK2 => ?_
  refine p_call rfl .nil (awake) ?_
  refine p_step rfl (e_not rfl) trivial ?_
  refine p_end (hK2 _ ?_); clear hK2 K2
  refine pwp_seq_cond (t := false) rfl fun K3 hK3 => ⟨nofun, fun _ => ?_⟩
  refine pwp_skip ?_
  refine seq_norm (hK3 _ ?_); clear hK3 K3
  refine pwp_seq_seq ?_
  refine pwp_seq_gops rfl fun K4 hK4 => ?_
  refine g_begin ?_
  refine g_step rfl rfl rfl rfl (e_move (v := .lit _ _ _) rfl) trivial ?_
  refine g_call rfl rfl rfl rfl (.cons inn_lit .nil) (ShortS _ hlx) ?_
  refine g_step rfl rfl rfl rfl (e_not rfl) trivial ?_
  refine g_step rfl rfl rfl rfl (e_move (v := .sc _) rfl) trivial ?_
  refine g_cases (fun hb5 => ?_) (fun hb5 => ?_)
  ·have hb5R := hb5; simp only [z1, z2, z3, z4, z5, z6, ne_eq, z7, z8, z9, z10, z11, z12] at hb5
   refine g_skip rfl rfl rfl ?_
   refine g_nocall rfl rfl rfl ?_
   refine g_skip rfl rfl rfl ?_
   refine g_step rfl rfl rfl rfl (e_pickT (v := .sc _) rfl rfl) trivial ?_
   refine g_end (ds := [17, 18, 19]) rfl rfl (hK4 _ ?_); clear hK4 K4
   refine pwp_seq_cond (t := true) rfl fun K6 hK6 => ⟨fun _ => ?_, nofun⟩
   refine pwp_seq_plain rfl fun K7 hK7 => ?_
   refine p_step rfl (e_assign (v := .sc _) rfl) trivial ?_
   refine p_end (hK7 _ ?_); clear hK7 K7
   refine pwp_ret ?_
   refine ret_seq ?_
   refine end1 (v := .sc _) rfl ?_
   exact out_b rfl
  have hb5R := hb5; simp only [z1, z2, z3, z4, z5, z6, ne_eq, z7, z8, z9, z10, z11, z12] at hb5; have hsh := shortB_iff hb5
  refine g_step rfl rfl rfl rfl (e_loadHA (cs := Order.enc (o)) (n := 3) rfl (hset_self _ _ _) (by kernel_rfl) (by kernel_rfl) (by kernel_rfl) (by exact Nat.zero_lt_one) (by decide) rfl) trivial ?_
  refine g_call rfl rfl rfl rfl (.cons (inn_agg (Order.pure (o))) .nil) (slight _ hwx hsx) ?_
  refine g_step rfl rfl rfl rfl (e_not rfl) trivial ?_
  refine g_step rfl rfl rfl rfl (e_pickF (v := .sc _) rfl rfl) trivial ?_
  refine g_end (ds := [17, 18, 19]) rfl rfl (hK4 _ ?_); clear hK4 K4
  refine pwp_seq_cond rfl fun K8 hK8 => ⟨fun hb9 => ?_, fun hb9 => ?_⟩
  ·have hb9R := hb9; simp only [z1, z2, z3, z4, z5, z6, ne_eq, z7, z8, z9, z10, z11, z12] at hb9
   refine pwp_seq_plain rfl fun K10 hK10 => ?_
   refine p_step rfl (e_assign (v := .sc _) rfl) trivial ?_
   refine p_end (hK10 _ ?_); clear hK10 K10
   refine pwp_ret ?_
   refine ret_seq ?_
   refine end1 (v := .sc _) rfl ?_
   exact out_b rfl
  have hb9R := hb9; simp only [z1, z2, z3, z4, z5, z6, ne_eq, z7, z8, z9, z10, z11, z12] at hb9; have hso := slightB_iff hb9
  refine pwp_skip ?_
  refine seq_norm (hK8 _ ?_); clear hK8 K8
  refine pwp_seq_plain rfl fun K11 hK11 => ?_
  refine p_step rfl (e_move (v := .lit _ _ _) rfl) trivial ?_
  refine p_step rfl (e_loadHA (cs := Order.enc (o)) (n := 3) rfl (hset_self _ _ _) (by kernel_rfl) (by kernel_rfl) (by kernel_rfl) (by exact Nat.zero_lt_one) (by decide) rfl) trivial ?_
  refine p_call rfl (.cons inn_lit (.cons (inn_agg (Order.pure (o))) .nil)) (PickS _ _ hsh.2.1 hsh.2.2 hso.1 hso.2.1 hso.2.2.1 hso.2.2.2) ?_
  refine p_step rfl (e_move (v := .tup _) rfl) trivial ?_
  refine p_step rfl (e_ext (v := .lit _ _ _) rfl (by simp) rfl) trivial ?_
  refine p_step rfl (e_ext (v := .lit _ _ _) rfl (by simp) rfl) trivial ?_
  refine p_step rfl (e_ext (v := .sc _) rfl (by simp) rfl) trivial ?_
  refine p_step rfl (e_assign (v := .lit _ _ _) rfl) trivial ?_
  refine p_step rfl (e_assign (v := .lit _ _ _) rfl) trivial ?_
  refine p_step rfl (e_assign (v := .sc _) rfl) trivial ?_
  refine p_end (hK11 _ ?_); clear hK11 K11
  refine pwp_seq_plain rfl fun K12 hK12 => ?_
  refine p_step rfl (e_move (v := .lit _ _ _) rfl) trivial ?_
  refine p_call rfl (.cons inn_lit .nil) (refCheckS _ hsh.2.1 hsh.2.2) ?_
  refine p_step rfl (e_assign (v := .sc _) rfl) trivial ?_
  refine p_end (hK12 _ ?_); clear hK12 K12
  refine pwp_seq_seq ?_
  refine pwp_seq_plain rfl fun K13 hK13 => ?_
  refine p_step rfl (e_move (v := .sc _) rfl) trivial ?_
  refine p_step rfl (e_eq rfl rfl) trivial ?_
  refine p_end (hK13 _ ?_); clear hK13 K13
  refine pwp_seq_cond rfl fun K14 hK14 => ⟨fun hb15 => ?_, fun hb15 => ?_⟩
  ·have hb15R := hb15; simp only [z1, z2, z3, z4, z5, z6, ne_eq, z7, z8, z9, z10, z11, z12] at hb15; have hst : stockE xs = 0 := hb15
   refine pwp_plain rfl fun K16 hK16 => ?_
   refine p_step rfl (e_loadHA (cs := Order.enc (o)) (n := 3) rfl (hset_self _ _ _) (by kernel_rfl) (by kernel_rfl) (by kernel_rfl) (by exact Nat.zero_lt_one) (by decide) rfl) trivial ?_
   refine p_call rfl (.cons (inn_agg (Order.pure (o))) .nil) (refCheckOrder _ hso.1 hso.2.1 hso.2.2.1 hso.2.2.2) ?_
   refine p_step rfl (e_assign (v := .sc _) rfl) trivial ?_
   refine p_end (hK16 _ ?_); clear hK16 K16
   refine seq_norm (hK14 _ ?_); clear hK14 K14
   refine pwp_seq_seq ?_
   refine pwp_seq_plain rfl fun K17 hK17 => ?_
   refine p_step rfl (e_move (v := .sc _) rfl) trivial ?_
   refine p_step rfl (e_ne rfl rfl) trivial ?_
   refine p_end (hK17 _ ?_); clear hK17 K17
   refine pwp_seq_cond rfl fun K18 hK18 => ⟨fun hb19 => ?_, fun hb19 => ?_⟩
   ·have hb19R := hb19; simp only [z1, z2, z3, z4, z5, z6, ne_eq, z7, z8, z9, z10, z11, z12] at hb19; have he2 := px_2 hst hb19
    refine pwp_seq_gops rfl fun K20 hK20 => ?_
    refine g_begin ?_
    refine g_step rfl rfl rfl rfl (e_move (v := .sc _) rfl) trivial ?_
    refine g_step rfl rfl rfl rfl (e_move (v := .sc _) rfl) trivial ?_
    refine g_step rfl rfl rfl rfl (e_eq rfl rfl) trivial ?_
    refine g_step rfl rfl rfl rfl (e_move (v := .sc _) rfl) trivial ?_
    refine g_cases (fun hb21 => ?_) (fun hb21 => ?_)
    ·have hb21R := hb21; simp only [z1, z2, z3, z4, z5, z6, ne_eq, z7, z8, z9, z10, z11, z12] at hb21
     refine g_step rfl rfl rfl rfl (e_move (v := .lit _ _ _) rfl) trivial ?_
     refine g_step rfl rfl rfl rfl (e_len rfl (by kernel_rfl)) trivial ?_
     refine g_step rfl rfl rfl rfl (e_eq rfl rfl) trivial ?_
     refine g_step rfl rfl rfl rfl (e_pickT (v := .sc _) rfl rfl) trivial ?_
     refine g_step rfl rfl rfl rfl (e_move (v := .sc _) rfl) trivial ?_
     refine g_cases (fun hb22 => ?_) (fun hb22 => ?_)
     ·have hb22R := hb22; simp only [z1, z2, z3, z4, z5, z6, ne_eq, z7, z8, z9, z10, z11, z12] at hb22
      refine g_step rfl rfl rfl rfl (e_move (v := .lit _ _ _) rfl) trivial ?_
      refine g_step rfl rfl rfl rfl (e_len rfl (by kernel_rfl)) trivial ?_
      refine g_step rfl rfl rfl rfl (e_eq rfl rfl) trivial ?_
      refine g_step rfl rfl rfl rfl (e_pickT (v := .sc _) rfl rfl) trivial ?_
      refine g_step rfl rfl rfl rfl (e_assign (v := .sc _) rfl) trivial ?_
      refine g_end (ds := [40, 41, 42, 45, 46, 47]) rfl rfl (hK20 _ ?_); clear hK20 K20
      refine pwp_ret ?_
      refine ret_seq ?_
      refine end1 (v := .sc _) rfl ?_
      (refine out_b ?_; simp [he2]; done)
     have hb22R := hb22; simp only [z1, z2, z3, z4, z5, z6, ne_eq, z7, z8, z9, z10, z11, z12] at hb22
     refine g_skip rfl rfl rfl ?_
     refine g_skip rfl rfl rfl ?_
     refine g_skip rfl rfl rfl ?_
     refine g_step rfl rfl rfl rfl (e_pickF (v := .sc _) rfl rfl) trivial ?_
     refine g_step rfl rfl rfl rfl (e_assign (v := .sc _) rfl) trivial ?_
     refine g_end (ds := [40, 41, 42, 45, 46, 47]) rfl rfl (hK20 _ ?_); clear hK20 K20
     refine pwp_ret ?_
     refine ret_seq ?_
     refine end1 (v := .sc _) rfl ?_
     (exfalso; rw [he2] at *; simp_all; done)
    have hb21R := hb21; simp only [z1, z2, z3, z4, z5, z6, ne_eq, z7, z8, z9, z10, z11, z12] at hb21
    refine g_skip rfl rfl rfl ?_
    refine g_skip rfl rfl rfl ?_
    refine g_skip rfl rfl rfl ?_
    refine g_step rfl rfl rfl rfl (e_pickF (v := .sc _) rfl rfl) trivial ?_
    refine g_step rfl rfl rfl rfl (e_move (v := .sc _) rfl) trivial ?_
    refine g_skip rfl rfl rfl ?_
    refine g_skip rfl rfl rfl ?_
    refine g_skip rfl rfl rfl ?_
    refine g_step rfl rfl rfl rfl (e_pickF (v := .sc _) rfl rfl) trivial ?_
    refine g_step rfl rfl rfl rfl (e_assign (v := .sc _) rfl) trivial ?_
    refine g_end (ds := [40, 41, 42, 45, 46, 47]) rfl rfl (hK20 _ ?_); clear hK20 K20
    refine pwp_ret ?_
    refine ret_seq ?_
    refine end1 (v := .sc _) rfl ?_
    (exfalso; rw [he2] at *; simp_all; done)
   have hb19R := hb19; simp only [z1, z2, z3, z4, z5, z6, ne_eq, z7, z8, z9, z10, z11, z12] at hb19; have he3 := px_ref hst hb19
   refine pwp_skip ?_
   refine seq_norm (hK18 _ ?_); clear hK18 K18
   refine pwp_seq_plain rfl fun K23 hK23 => ?_
   refine p_step rfl (e_move (v := .lit _ _ _) rfl) trivial ?_
   refine p_step rfl (e_loadHA (cs := Order.enc (o)) (n := 3) rfl (hset_self _ _ _) (by kernel_rfl) (by kernel_rfl) (by kernel_rfl) (by exact Nat.zero_lt_one) (by decide) rfl) trivial ?_
   refine p_call rfl (.cons inn_lit (.cons (inn_agg (Order.pure (o))) .nil)) (refPick _ _ (by first | assumption | omega) (by first | assumption | omega)) ?_
   refine p_step rfl (e_move (v := .tup _) rfl) trivial ?_
   refine p_step rfl (e_ext (v := .lit _ _ _) rfl (by simp) rfl) trivial ?_
   refine p_step rfl (e_ext (v := .lit _ _ _) rfl (by simp) rfl) trivial ?_
   refine p_step rfl (e_assign (v := .lit _ _ _) rfl) trivial ?_
   refine p_step rfl (e_assign (v := .lit _ _ _) rfl) trivial ?_
   refine p_end (hK23 _ ?_); clear hK23 K23
   refine pwp_seq_gops rfl fun K24 hK24 => ?_
   refine g_begin ?_
   refine g_step rfl rfl rfl rfl (e_move (v := .sc _) rfl) trivial ?_
   refine g_step rfl rfl rfl rfl (e_eq rfl rfl) trivial ?_
   refine g_step rfl rfl rfl rfl (e_move (v := .sc _) rfl) trivial ?_
   refine g_cases (fun hb25 => ?_) (fun hb25 => ?_)
   ·have hb25R := hb25; simp only [z1, z2, z3, z4, z5, z6, ne_eq, z7, z8, z9, z10, z11, z12] at hb25
    refine g_step rfl rfl rfl rfl (e_move (v := .lit _ _ _) rfl) trivial ?_
    refine g_step rfl rfl rfl rfl (e_move (v := .lit _ _ _) rfl) trivial ?_
    refine g_call rfl rfl rfl rfl (.cons inn_lit (.cons inn_lit .nil)) (sameMoves _ _ (Nat.le_trans (pickX_len xs o).1 (by decide))) ?_
    refine g_step rfl rfl rfl rfl (e_pickT (v := .sc _) rfl rfl) trivial ?_
    refine g_step rfl rfl rfl rfl (e_move (v := .sc _) rfl) trivial ?_
    refine g_cases (fun hb26 => ?_) (fun hb26 => ?_)
    ·have hb26R := hb26; simp only [z1, z2, z3, z4, z5, z6, ne_eq, z7, z8, z9, z10, z11, z12] at hb26
     refine g_step rfl rfl rfl rfl (e_move (v := .lit _ _ _) rfl) trivial ?_
     refine g_step rfl rfl rfl rfl (e_move (v := .lit _ _ _) rfl) trivial ?_
     refine g_call rfl rfl rfl rfl (.cons inn_lit (.cons inn_lit .nil)) (sameWants _ _ (Nat.le_trans (pickX_len xs o).2 (by decide))) ?_
     refine g_step rfl rfl rfl rfl (e_pickT (v := .sc _) rfl rfl) trivial ?_
     refine g_step rfl rfl rfl rfl (e_assign (v := .sc _) rfl) trivial ?_
     refine g_end (ds := [58, 59, 60, 63, 64, 65]) rfl rfl (hK24 _ ?_); clear hK24 K24
     refine pwp_ret ?_
     refine end1 (v := .sc _) rfl ?_
     (refine out_b ?_; simp [he3]; done)
    have hb26R := hb26; simp only [z1, z2, z3, z4, z5, z6, ne_eq, z7, z8, z9, z10, z11, z12] at hb26
    refine g_skip rfl rfl rfl ?_
    refine g_skip rfl rfl rfl ?_
    refine g_nocall rfl rfl rfl ?_
    refine g_step rfl rfl rfl rfl (e_pickF (v := .sc _) rfl rfl) trivial ?_
    refine g_step rfl rfl rfl rfl (e_assign (v := .sc _) rfl) trivial ?_
    refine g_end (ds := [58, 59, 60, 63, 64, 65]) rfl rfl (hK24 _ ?_); clear hK24 K24
    refine pwp_ret ?_
    refine end1 (v := .sc _) rfl ?_
    (exfalso; rw [he3] at *; simp_all; done)
   have hb25R := hb25; simp only [z1, z2, z3, z4, z5, z6, ne_eq, z7, z8, z9, z10, z11, z12] at hb25
   refine g_skip rfl rfl rfl ?_
   refine g_skip rfl rfl rfl ?_
   refine g_nocall rfl rfl rfl ?_
   refine g_step rfl rfl rfl rfl (e_pickF (v := .sc _) rfl rfl) trivial ?_
   refine g_step rfl rfl rfl rfl (e_move (v := .sc _) rfl) trivial ?_
   refine g_skip rfl rfl rfl ?_
   refine g_skip rfl rfl rfl ?_
   refine g_nocall rfl rfl rfl ?_
   refine g_step rfl rfl rfl rfl (e_pickF (v := .sc _) rfl rfl) trivial ?_
   refine g_step rfl rfl rfl rfl (e_assign (v := .sc _) rfl) trivial ?_
   refine g_end (ds := [58, 59, 60, 63, 64, 65]) rfl rfl (hK24 _ ?_); clear hK24 K24
   refine pwp_ret ?_
   refine end1 (v := .sc _) rfl ?_
   (exfalso; rw [he3] at *; simp_all; done)
  have hb15R := hb15; simp only [z1, z2, z3, z4, z5, z6, ne_eq, z7, z8, z9, z10, z11, z12] at hb15; have he1 := px_1 (o := o) hb15
  refine pwp_skip ?_
  refine seq_norm (hK14 _ ?_); clear hK14 K14
  refine pwp_seq_seq ?_
  refine pwp_seq_plain rfl fun K27 hK27 => ?_
  refine p_step rfl (e_move (v := .sc _) rfl) trivial ?_
  refine p_step rfl (e_ne rfl rfl) trivial ?_
  refine p_end (hK27 _ ?_); clear hK27 K27
  refine pwp_seq_cond rfl fun K28 hK28 => ⟨fun hb29 => ?_, fun hb29 => ?_⟩
  ·have hb29R := hb29; simp only [z1, z2, z3, z4, z5, z6, ne_eq, z7, z8, z9, z10, z11, z12] at hb29; have he1 := px_1 (o := o) hb29
   refine pwp_seq_gops rfl fun K30 hK30 => ?_
   refine g_begin ?_
   refine g_step rfl rfl rfl rfl (e_move (v := .sc _) rfl) trivial ?_
   refine g_step rfl rfl rfl rfl (e_move (v := .sc _) rfl) trivial ?_
   refine g_step rfl rfl rfl rfl (e_eq rfl rfl) trivial ?_
   refine g_step rfl rfl rfl rfl (e_move (v := .sc _) rfl) trivial ?_
   refine g_cases (fun hb31 => ?_) (fun hb31 => ?_)
   ·have hb31R := hb31; simp only [z1, z2, z3, z4, z5, z6, ne_eq, z7, z8, z9, z10, z11, z12] at hb31
    refine g_step rfl rfl rfl rfl (e_move (v := .lit _ _ _) rfl) trivial ?_
    refine g_step rfl rfl rfl rfl (e_len rfl (by kernel_rfl)) trivial ?_
    refine g_step rfl rfl rfl rfl (e_eq rfl rfl) trivial ?_
    refine g_step rfl rfl rfl rfl (e_pickT (v := .sc _) rfl rfl) trivial ?_
    refine g_step rfl rfl rfl rfl (e_move (v := .sc _) rfl) trivial ?_
    refine g_cases (fun hb32 => ?_) (fun hb32 => ?_)
    ·have hb32R := hb32; simp only [z1, z2, z3, z4, z5, z6, ne_eq, z7, z8, z9, z10, z11, z12] at hb32
     refine g_step rfl rfl rfl rfl (e_move (v := .lit _ _ _) rfl) trivial ?_
     refine g_step rfl rfl rfl rfl (e_len rfl (by kernel_rfl)) trivial ?_
     refine g_step rfl rfl rfl rfl (e_eq rfl rfl) trivial ?_
     refine g_step rfl rfl rfl rfl (e_pickT (v := .sc _) rfl rfl) trivial ?_
     refine g_step rfl rfl rfl rfl (e_assign (v := .sc _) rfl) trivial ?_
     refine g_end (ds := [40, 41, 42, 45, 46, 47]) rfl rfl (hK30 _ ?_); clear hK30 K30
     refine pwp_ret ?_
     refine ret_seq ?_
     refine end1 (v := .sc _) rfl ?_
     (refine out_b ?_; simp [he1]; done)
    have hb32R := hb32; simp only [z1, z2, z3, z4, z5, z6, ne_eq, z7, z8, z9, z10, z11, z12] at hb32
    refine g_skip rfl rfl rfl ?_
    refine g_skip rfl rfl rfl ?_
    refine g_skip rfl rfl rfl ?_
    refine g_step rfl rfl rfl rfl (e_pickF (v := .sc _) rfl rfl) trivial ?_
    refine g_step rfl rfl rfl rfl (e_assign (v := .sc _) rfl) trivial ?_
    refine g_end (ds := [40, 41, 42, 45, 46, 47]) rfl rfl (hK30 _ ?_); clear hK30 K30
    refine pwp_ret ?_
    refine ret_seq ?_
    refine end1 (v := .sc _) rfl ?_
    (exfalso; rw [he1] at *; simp_all; done)
   have hb31R := hb31; simp only [z1, z2, z3, z4, z5, z6, ne_eq, z7, z8, z9, z10, z11, z12] at hb31
   refine g_skip rfl rfl rfl ?_
   refine g_skip rfl rfl rfl ?_
   refine g_skip rfl rfl rfl ?_
   refine g_step rfl rfl rfl rfl (e_pickF (v := .sc _) rfl rfl) trivial ?_
   refine g_step rfl rfl rfl rfl (e_move (v := .sc _) rfl) trivial ?_
   refine g_skip rfl rfl rfl ?_
   refine g_skip rfl rfl rfl ?_
   refine g_skip rfl rfl rfl ?_
   refine g_step rfl rfl rfl rfl (e_pickF (v := .sc _) rfl rfl) trivial ?_
   refine g_step rfl rfl rfl rfl (e_assign (v := .sc _) rfl) trivial ?_
   refine g_end (ds := [40, 41, 42, 45, 46, 47]) rfl rfl (hK30 _ ?_); clear hK30 K30
   refine pwp_ret ?_
   refine ret_seq ?_
   refine end1 (v := .sc _) rfl ?_
   (exfalso; rw [he1] at *; simp_all; done)
  have hb29R := hb29; simp only [z1, z2, z3, z4, z5, z6, ne_eq, z7, z8, z9, z10, z11, z12] at hb29; have hst : stockE xs = 0 := hb29
  refine pwp_skip ?_
  refine seq_norm (hK28 _ ?_); clear hK28 K28
  refine pwp_seq_plain rfl fun K33 hK33 => ?_
  refine p_step rfl (e_move (v := .lit _ _ _) rfl) trivial ?_
  refine p_step rfl (e_loadHA (cs := Order.enc (o)) (n := 3) rfl (hset_self _ _ _) (by kernel_rfl) (by kernel_rfl) (by kernel_rfl) (by exact Nat.zero_lt_one) (by decide) rfl) trivial ?_
  refine p_call rfl (.cons inn_lit (.cons (inn_agg (Order.pure (o))) .nil)) (refPick _ _ (by first | assumption | omega) (by first | assumption | omega)) ?_
  refine p_step rfl (e_move (v := .tup _) rfl) trivial ?_
  refine p_step rfl (e_ext (v := .lit _ _ _) rfl (by simp) rfl) trivial ?_
  refine p_step rfl (e_ext (v := .lit _ _ _) rfl (by simp) rfl) trivial ?_
  refine p_step rfl (e_assign (v := .lit _ _ _) rfl) trivial ?_
  refine p_step rfl (e_assign (v := .lit _ _ _) rfl) trivial ?_
  refine p_end (hK33 _ ?_); clear hK33 K33
  refine pwp_seq_gops rfl fun K34 hK34 => ?_
  refine g_begin ?_
  refine g_step rfl rfl rfl rfl (e_move (v := .sc _) rfl) trivial ?_
  refine g_step rfl rfl rfl rfl (e_eq rfl rfl) trivial ?_
  refine g_step rfl rfl rfl rfl (e_move (v := .sc _) rfl) trivial ?_
  refine g_cases (fun hb35 => ?_) (fun hb35 => ?_)
  ·have hb35R := hb35; simp only [z1, z2, z3, z4, z5, z6, ne_eq, z7, z8, z9, z10, z11, z12] at hb35
   refine g_step rfl rfl rfl rfl (e_move (v := .lit _ _ _) rfl) trivial ?_
   refine g_step rfl rfl rfl rfl (e_move (v := .lit _ _ _) rfl) trivial ?_
   refine g_call rfl rfl rfl rfl (.cons inn_lit (.cons inn_lit .nil)) (sameMoves _ _ (Nat.le_trans (pickX_len xs o).1 (by decide))) ?_
   refine g_step rfl rfl rfl rfl (e_pickT (v := .sc _) rfl rfl) trivial ?_
   refine g_step rfl rfl rfl rfl (e_move (v := .sc _) rfl) trivial ?_
   refine g_cases (fun hb36 => ?_) (fun hb36 => ?_)
   ·have hb36R := hb36; simp only [z1, z2, z3, z4, z5, z6, ne_eq, z7, z8, z9, z10, z11, z12] at hb36
    refine g_step rfl rfl rfl rfl (e_move (v := .lit _ _ _) rfl) trivial ?_
    refine g_step rfl rfl rfl rfl (e_move (v := .lit _ _ _) rfl) trivial ?_
    refine g_call rfl rfl rfl rfl (.cons inn_lit (.cons inn_lit .nil)) (sameWants _ _ (Nat.le_trans (pickX_len xs o).2 (by decide))) ?_
    refine g_step rfl rfl rfl rfl (e_pickT (v := .sc _) rfl rfl) trivial ?_
    refine g_step rfl rfl rfl rfl (e_assign (v := .sc _) rfl) trivial ?_
    refine g_end (ds := [58, 59, 60, 63, 64, 65]) rfl rfl (hK34 _ ?_); clear hK34 K34
    refine pwp_ret ?_
    refine end1 (v := .sc _) rfl ?_
    (exfalso; omega)
   have hb36R := hb36; simp only [z1, z2, z3, z4, z5, z6, ne_eq, z7, z8, z9, z10, z11, z12] at hb36
   refine g_skip rfl rfl rfl ?_
   refine g_skip rfl rfl rfl ?_
   refine g_nocall rfl rfl rfl ?_
   refine g_step rfl rfl rfl rfl (e_pickF (v := .sc _) rfl rfl) trivial ?_
   refine g_step rfl rfl rfl rfl (e_assign (v := .sc _) rfl) trivial ?_
   refine g_end (ds := [58, 59, 60, 63, 64, 65]) rfl rfl (hK34 _ ?_); clear hK34 K34
   refine pwp_ret ?_
   refine end1 (v := .sc _) rfl ?_
   (exfalso; omega)
  have hb35R := hb35; simp only [z1, z2, z3, z4, z5, z6, ne_eq, z7, z8, z9, z10, z11, z12] at hb35
  refine g_skip rfl rfl rfl ?_
  refine g_skip rfl rfl rfl ?_
  refine g_nocall rfl rfl rfl ?_
  refine g_step rfl rfl rfl rfl (e_pickF (v := .sc _) rfl rfl) trivial ?_
  refine g_step rfl rfl rfl rfl (e_move (v := .sc _) rfl) trivial ?_
  refine g_skip rfl rfl rfl ?_
  refine g_skip rfl rfl rfl ?_
  refine g_nocall rfl rfl rfl ?_
  refine g_step rfl rfl rfl rfl (e_pickF (v := .sc _) rfl rfl) trivial ?_
  refine g_step rfl rfl rfl rfl (e_assign (v := .sc _) rfl) trivial ?_
  refine g_end (ds := [58, 59, 60, 63, 64, 65]) rfl rfl (hK34 _ ?_); clear hK34 K34
  refine pwp_ret ?_
  refine end1 (v := .sc _) rfl ?_
  (exfalso; omega)

end Go.Proofs.Ytigdmkhdmbbfiaa
