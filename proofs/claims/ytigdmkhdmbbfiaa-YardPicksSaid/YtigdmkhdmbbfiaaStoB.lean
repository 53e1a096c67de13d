import Derived.Test.YtigdmkhdmbbfiaaStoA
import Derived.Test.YtigdmkhdmbbfiaaSrtB
/- The store of a stock. No conditions. -/
set_option linter.unusedSimpArgs false
set_option linter.unusedVariables false
set_option maxRecDepth 100000
namespace Go.Proofs.Ytigdmkhdmbbfiaa
open Go Go.Pv

/-! ### The store: a map by shelves -/
def kx (k : Shelf) : PV := .agg k.enc
theorem kx_eq (a b : Shelf) : keyEq (kx a) (kx b) = decide (a = b) := by
  show scsEq a.enc b.enc = _
  rw [Bool.eq_iff_iff]
  cases a; cases b
  simp [Shelf.enc, scsEq, scEq, and_assoc]
theorem kx_ok (a : Shelf) : keyOk Try.prog 124 (kx a) := by
  show keyAgg Try.prog 124 a.enc = true
  kernel_rfl
theorem old_ne {a b g : Nat} {n : Nat} (hc : n ≤ g) (h5 : a = 5 → b < n) : ((a, b) : Key) ≠ (5, g) := fun e => by
  cases e
  have := h5 rfl; omega
theorem old6 {a b q : Nat} (h : a = 6 → b < q) : ((a, b) : Key) ≠ (6, q) := fun e => by
  cases e
  have := h rfl; omega
def StoR (xs : List Stock) (h0 : Heap) (c0 : Nat → Nat) (v : PV) (h : Heap) : Prop := v = .map (6, c0 6) ∧ MapAt h (6, c0 6) (entsOf kx PV.int (sumS [] xs)) ∧ ∀ a b, (a = 5 → b < c0 5) → (a = 6 → b < c0 6) → h (a, b) = h0 (a, b)

theorem frH64 : (inFrame Try.f64.ntmps (Try.f64.body.getD .skip) && Try.f64.results.toList.all (resScope Try.f64.ntmps)) = true := by kernel_rfl
theorem storeOf (xs : List Stock) (h0 : Heap) (c0 : Nat → Nat) (hl : xs.length ≤ 200) (hc : ∀ x ∈ xs, 0 ≤ x.count ∧ x.count ≤ 1000000) : HCallsR Try.prog 64 [.lit true 4 (xs.map Stock.enc)] h0 c0 (fun v h _ => StoR xs h0 c0 v h) := by
  refine HCallsR.of_code Try.func64 rfl rfl (by kernel_rfl) mixed frH64 (by show _ ≤ 29; simp) ?_
  refine pwp_seq_plain rfl fun K1 hK1 => ?_
  refine p_step rfl (e_assign (v := .sc _) rfl) trivial ?_
  refine p_end (hK1 _ ?_); clear hK1 K1
  refine pwp_seq_plain rfl fun K2 hK2 => ?_
  refine p_new rfl (e_mkmap) trivial ?_
  refine p_step rfl (e_assign (v := .map _) rfl) trivial ?_
  refine p_end (hK2 _ ?_); clear hK2 K2
  refine pwp_seq_seq ?_
  refine pwp_seq_plain rfl fun K3 hK3 => ?_
  refine p_step rfl (e_move (v := .lit _ _ _) rfl) trivial ?_
  refine p_step rfl (e_len rfl (by kernel_rfl)) trivial ?_
  refine p_step rfl (e_move (v := .sc _) rfl) trivial ?_
  refine p_end (hK3 _ ?_); clear hK3 K3
  refine pwp_seq_block fun K4 hK4 => ?_
  refine pwp_loopR (α := Nat × Sto) [3, 7, 8] (fun (a5 : Nat × Sto) => [(9, .int (a5.1))]) (fun (a5 : Nat × Sto) (h : Heap) (c : Nat → Nat) => ((a5.1) ≤ xs.length) ∧ (sumS [] xs = sumS (a5.2) (xs.drop (a5.1))) ∧ (c0 5 ≤ c 5) ∧ (∀ a b, (a = 5 → b < c0 5) → (a = 6 → b < c0 6) → h (a, b) = h0 (a, b)) ∧ (∀ q, 0 ≤ getS q (a5.2) ∧ getS q (a5.2) ≤ 1000000 * ((a5.1) : Int)) ∧ (MapAt h (6, c0 6) (entsOf kx PV.int (a5.2)))) (fun (a5 : Nat × Sto) => xs.length - (a5.1)) (0, []) (by exact ⟨rfl, trivial⟩) (by exact ⟨by exact Nat.zero_le _, by exact rfl, by (simp [cset]), by exact fun a b _ h6 => hset_ne (old6 h6), by (intro q; simp [getS, aGet]), MapAt.new⟩) fun a5 r6 h7 c8 hj9 => ?_
  obtain ⟨k, m⟩ := a5
  obtain ⟨hk, hinv, hcc, hfr, hbd, hihj9_0⟩ := hj9
  try dsimp only at hk
  try dsimp only at hinv
  try dsimp only at hcc
  try dsimp only at hfr
  try dsimp only at hbd
  try dsimp only at hihj9_0
  show pwp _ _ (loopQ _ _ _) ⟨sets (mix _ _ _) [(9, .int k)], _, _⟩
  refine pwp_seq_plain rfl fun K10 hK10 => ?_
  refine p_step rfl (e_lt rfl rfl) trivial ?_
  refine p_end (hK10 _ ?_); clear hK10 K10
  refine pwp_seq_cond rfl fun K11 hK11 => ⟨fun hb12 => ?_, fun hb12 => ?_⟩
  ·have hb12R := hb12; try simp only [z1, z2, z3, z4, z5, z6, ne_eq, z7, z8, z9, z10, z11, z12] at hb12
   obtain ⟨x, hx, hd, ht⟩ := get_lt (xs := xs) (i := k) (by omega)
   rw [hd] at hinv; simp only [sumS] at hinv
   have hxc := hc x (List.mem_of_getElem? hx)
   have hgb : 0 ≤ ((aGet (⟨x.part, x.place, x.state⟩ : Shelf) m).getD 0) ∧ ((aGet (⟨x.part, x.place, x.state⟩ : Shelf) m).getD 0) ≤ 1000000 * (k : Int) := hbd (⟨x.part, x.place, x.state⟩ : Shelf)
   refine pwp_skip ?_
   refine seq_norm (hK11 _ ?_); clear hK11 K11
   refine pwp_seq_block fun K13 hK13 => ?_
   refine pwp_seq_plain rfl fun K14 hK14 => ?_
   refine p_step rfl (e_ixa rfl rfl (by kernel_rfl) (by kernel_rfl) (by simp only [List.length_map]; omega)) trivial ?_
   refine p_step rfl (e_loadA (n := 4) rfl (by kernel_rfl) (by kernel_rfl) (by kernel_rfl) (by simp only [List.length_map]; omega) (by decide) (by first | exact agg_map hx rfl)) trivial ?_
   refine p_new rfl (e_alloc (cs := [.str ByteArray.empty, .int 0, .int 0, .int 0]) (n := 4) (by kernel_rfl) rfl (by decide)) (ob_alloc (by decide)) ?_
   refine p_store rfl (e_storeA rfl (hset_self _ _ _) rfl rfl rfl (by kernel_rfl) rfl (by kernel_rfl)) trivial ?_
   refine p_end (hK14 _ ?_); clear hK14 K14
   refine pwp_gops rfl fun K15 hK15 => ?_
   refine s_begin ?_
   refine s_step [] (by simp) rfl rfl rfl rfl (e_move (v := .map _) rfl) trivial ?_
   refine s_step [] (by simp) rfl rfl rfl rfl (e_faP (pl := [(0, 1, false), (1, 1, false), (2, 1, false), (3, 1, false)]) rfl (by kernel_rfl) (by kernel_rfl) (by decide) rfl) trivial ?_
   refine s_step [5] (by simp) rfl rfl rfl rfl (e_loadH (v := .sc _) rfl (hset_self _ _ _) (by kernel_rfl) (by kernel_rfl) (by kernel_rfl) (by exact Nat.zero_lt_one) (by decide) rfl) trivial ?_
   refine s_step [] (by simp) rfl rfl rfl rfl (e_faP (pl := [(0, 1, false), (1, 1, false), (2, 1, false), (3, 1, false)]) rfl (by kernel_rfl) (by kernel_rfl) (by decide) rfl) trivial ?_
   refine s_step [5] (by simp) rfl rfl rfl rfl (e_loadH (v := .sc _) rfl (hset_self _ _ _) (by kernel_rfl) (by kernel_rfl) (by kernel_rfl) (by exact Nat.zero_lt_one) (by decide) rfl) trivial ?_
   refine s_step [] (by simp) rfl rfl rfl rfl (e_faP (pl := [(0, 1, false), (1, 1, false), (2, 1, false), (3, 1, false)]) rfl (by kernel_rfl) (by kernel_rfl) (by decide) rfl) trivial ?_
   refine s_step [5] (by simp) rfl rfl rfl rfl (e_loadH (v := .sc _) rfl (hset_self _ _ _) (by kernel_rfl) (by kernel_rfl) (by kernel_rfl) (by exact Nat.zero_lt_one) (by decide) rfl) trivial ?_
   refine s_step [] (by simp) rfl rfl rfl rfl (e_build (zs := [.str ByteArray.empty, .int 0, .int 0]) (pl := [(0, 1, false), (1, 1, false), (2, 1, false)]) (by kernel_rfl) (by kernel_rfl) (by kernel_rfl) rfl rfl (by exact ⟨by decide, rfl, Nat.le_of_ble_eq_true rfl, rfl, ⟨by decide, rfl, Nat.le_of_ble_eq_true rfl, rfl, ⟨by decide, rfl, Nat.le_of_ble_eq_true rfl, rfl, trivial⟩⟩⟩) rfl) trivial ?_
   refine s_step [6] (by simp) rfl rfl rfl rfl (e_look (kt := 124) (et := 3) (f := kx) (g := PV.int) (a := (⟨x.part, x.place, x.state⟩ : Shelf)) (l := m) (z := 0) kx_eq kx_ok rfl rfl (MapAt.keep hihj9_0 ((hset_ne (key_ne rfl)).trans ((hset_ne (key_ne rfl)).trans (rfl)))) (by kernel_rfl) (by kernel_rfl) (by first | rfl | kernel_rfl)) trivial ?_
   refine s_step [] (by simp) rfl rfl rfl rfl (e_faP (pl := [(0, 1, false), (1, 1, false), (2, 1, false), (3, 1, false)]) rfl (by kernel_rfl) (by kernel_rfl) (by decide) rfl) trivial ?_
   refine s_step [5] (by simp) rfl rfl rfl rfl (e_loadH (v := .sc _) rfl (hset_self _ _ _) (by kernel_rfl) (by kernel_rfl) (by kernel_rfl) (by exact Nat.zero_lt_one) (by decide) rfl) trivial ?_
   refine s_step [] (by simp) rfl rfl rfl rfl (e_add rfl rfl (by omega)) trivial ?_
   refine s_mentry (kt := 124) (et := 3) (m := 6) (f := kx) (g := PV.int) (a := (⟨x.part, x.place, x.state⟩ : Shelf)) (l := m) (z := 0) kx_eq kx_ok rfl rfl rfl rfl rfl (MapAt.keep hihj9_0 ((hset_ne (key_ne rfl)).trans ((hset_ne (key_ne rfl)).trans (rfl)))) (by kernel_rfl) (by kernel_rfl) (by first | rfl | kernel_rfl) (fun _ => rfl) fun h16 sp17 hst18 hfr19 => ?_
   have ho20 := (hfr19 (5, _) (key_ne rfl)).trans (hset_self _ _ _)
   refine s_step [] (by simp) rfl rfl rfl rfl (e_ext (v := .sc _) rfl (by simp) rfl) trivial ?_
   refine s_estore (f := kx) (g := PV.int) (a := (⟨x.part, x.place, x.state⟩ : Shelf)) (b := (((aGet (⟨x.part, x.place, x.state⟩ : Shelf) m).getD 0) + x.count)) (u := ((aGet (⟨x.part, x.place, x.state⟩ : Shelf) m).getD 0)) (l := m) rfl rfl rfl rfl hst18 rfl fun h21 hm22 hfr23 => ?_
   have ho24 := (hfr23 (5, _) (key_ne rfl)).trans ho20
   refine s_end (ds := []) (by kernel_rfl) (by kernel_rfl) (hK15 _ ?_); clear hK15 K15
   refine block_norm ?_
   refine seq_norm (hK13 _ ?_); clear hK13 K13
   refine pwp_plain rfl fun K25 hK25 => ?_
   refine p_step rfl (e_add rfl rfl (by omega)) trivial ?_
   refine p_step rfl (e_move (v := .sc _) rfl) trivial ?_
   refine p_end (hK25 _ ?_); clear hK25 K25
   exact loop_again ((k + 1, aSet (⟨x.part, x.place, x.state⟩ : Shelf) (((aGet (⟨x.part, x.place, x.state⟩ : Shelf) m).getD 0) + x.count) m)) (by show _ < _; simp only; omega) ⟨rfl, rfl, rfl, trivial⟩ ⟨rfl, trivial⟩ (by exact ⟨by show _ + 1 ≤ _; omega, by exact hinv, by (first | (simp [cset]; done) | (simp [cset]; omega)), by exact fun a b h5 h6 => (hfr23 _ (old6 h6)).trans ((hfr19 _ (old6 h6)).trans ((hset_ne (old_ne hcc h5)).trans ((hset_ne (old_ne hcc h5)).trans (hfr a b h5 h6)))), by (show ∀ q, 0 ≤ getS q (aSet (⟨x.part, x.place, x.state⟩ : Shelf) (((aGet (⟨x.part, x.place, x.state⟩ : Shelf) m).getD 0) + x.count) m) ∧ getS q (aSet (⟨x.part, x.place, x.state⟩ : Shelf) (((aGet (⟨x.part, x.place, x.state⟩ : Shelf) m).getD 0) + x.count) m) ≤ 1000000 * ((k + 1 : Nat) : Int); intro q; have hq := hbd q; rw [getS_aSet]; split <;> omega), hm22⟩)
  ·have hb12R := hb12; try simp only [z1, z2, z3, z4, z5, z6, ne_eq, z7, z8, z9, z10, z11, z12] at hb12
   obtain rfl : k = xs.length := by omega
   rw [List.drop_length] at hinv; simp only [sumS] at hinv
   refine pwp_exit ?_
   refine exit_seq ?_
   clear hK11 K11
   refine exit_loop ?_
   refine exit_here ?_
   refine seq_norm (hK4 _ ?_); clear hK4 K4
   refine pwp_seq_plain rfl fun K26 hK26 => ?_
   refine p_step rfl (e_move (v := .map _) rfl) trivial ?_
   refine p_step rfl (e_assign (v := .map _) rfl) trivial ?_
   refine p_end (hK26 _ ?_); clear hK26 K26
   refine pwp_ret ?_
   refine end1 (v := .map _) rfl ?_
   exact ⟨rfl, by rw [hinv]; exact hihj9_0, hfr⟩

end Go.Proofs.Ytigdmkhdmbbfiaa

/- The normal form of a stock. No conditions. -/
set_option linter.unusedSimpArgs false
set_option linter.unusedVariables false
set_option maxRecDepth 100000
namespace Go.Proofs.Ytigdmkhdmbbfiaa
open Go Go.Pv

end Go.Proofs.Ytigdmkhdmbbfiaa
