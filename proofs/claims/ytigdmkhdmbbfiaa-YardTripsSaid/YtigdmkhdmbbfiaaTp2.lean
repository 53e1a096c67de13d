/- What needs can take, as the program tells it. No conditions. -/
import Derived.Test.YtigdmkhdmbbfiaaTp1
set_option linter.unusedSimpArgs false
set_option linter.unusedVariables false
set_option maxRecDepth 100000
namespace Go.Proofs.Ytigdmkhdmbbfiaa
open Go Go.Pv
theorem mcell1 {α : Type} {f : Nat → α} {D j : Nat} (hj : j < D) : ((List.range D).map f)[j]? = some (f j) := by rw [List.getElem?_map, List.getElem?_range hj]; rfl
theorem slD {h : Heap} {d D : Nat} {v : PV} {xs : List Int} (hs : SliceAt h d v 1 (xs.map ci)) (hl : xs.length = D) (hD : 1 ≤ D) : ∃ g, v = .ref (d, g) 1 0 D ∧ h (d, g) = some (.rows 1 (xs.map ci)) := by
 rcases hs with ⟨h1, rfl⟩ | ⟨g, rfl, hg⟩
 · have := congrArg List.length h1; simp at this; subst this; simp at hl; omega
 · exact ⟨g, by rw [List.length_map, hl], hg⟩
/-- What the document's walk over a place gives. -/
def tkR (D : Nat) (C G N : Nat → Int) : Int × Bool :=
 if (List.range D).any (fun d => decide (lvl (fun i => C i - G i) (d + 1) < 0)) = true then (0, false) else (tkN (fun d => lvl (fun i => C i - G i) (d + 1)) N D D, true)
theorem tkR_f {D d : Nat} {C G N : Nat → Int} (hd : d < D) (h : lvl (fun i => C i - G i) (d + 1) < 0) : tkR D C G N = (0, false) :=
 if_pos (List.any_eq_true.2 ⟨d, List.mem_range.2 hd, decide_eq_true h⟩)
theorem tkR_t {D : Nat} {C G N : Nat → Int} (h : ∀ d, d < D → 0 ≤ lvl (fun i => C i - G i) (d + 1)) : tkR D C G N = (tkN (fun d => lvl (fun i => C i - G i) (d + 1)) N D D, true) := by
 refine if_neg ?_
 rw [Bool.not_eq_true, List.any_eq_false]
 intro d hd
 have h1 := h d (List.mem_range.1 hd)
 exact fun q => by have h2 := of_decide_eq_true q; omega
theorem out_pb {h : Heap} {p : Int × Bool} {a : Int} {b : Bool} (e : p = (a, b)) : Out h (.tup [.int a, .bool b]) (.tup [.int p.1, .bool p.2]) := by
 subst e; exact out_2 (out_i rfl) (out_b rfl)
theorem acc_s {L : Nat → Int} {k : Nat} {z : Int} (hz : z = L k) : ((List.range k).map L).map ci ++ [ci z] = ((List.range (k + 1)).map L).map ci := by
 rw [List.range_succ, List.map_append (f := L), List.map_append (f := ci), hz]; rfl

theorem frH103 : (inFrame Try.f103.ntmps (Try.f103.body.getD .skip) && Try.f103.results.toList.all (resScope Try.f103.ntmps)) = true := by kernel_rfl
theorem cloneN (t1 : Bool) (xs : List Int) (hl : xs.length ≤ 10000) (hne : xs ≠ []) : HCallsR Try.prog 103 [.lit t1 1 (xs.map ci)] (fun _ => none) (fun _ => 0) (fun v h _ => SliceAt h 7 v 1 (xs.map ci)) := by
 refine HCallsR.of_code Try.func103 rfl rfl (by kernel_rfl) mixed frH103 (by show _ ≤ 8; simp) ?_
 refine pwp_seq_plain rfl fun K1 hK1 => ?_
 refine p_e rfl (e_assign (v := .nil) rfl) ?_
 refine p_end (hK1 _ ?_); clear hK1 K1
 refine pwp_seq_seq ?_
 refine pwp_seq_plain rfl fun K2 hK2 => ?_
 refine p_e rfl (e_move (v := .lit _ _ _) rfl) ?_
 refine p_e rfl (e_nileq rfl (by simpa using hne) rfl (by kernel_rfl)) ?_
 refine p_end (hK2 _ ?_); clear hK2 K2
 refine pwp_seq_cond (t := false) rfl fun K3 hK3 => ⟨nofun, fun _ => ?_⟩
 refine pwp_skip ?_
 refine seq_norm (hK3 _ ?_); clear hK3 K3
 refine pwp_seq_plain rfl fun K4 hK4 => ?_
 refine p_new rfl (e_bslice (rows := []) (zs := [.int 0]) (sz := 1) (by kernel_rfl) (by kernel_rfl) rfl (by kernel_rfl) (by decide) rfl rfl (by exact trivial) rfl) trivial ?_
 refine p_e rfl (e_move (v := .lit _ _ _) rfl) ?_
 refine p_app rfl rfl rfl (.ofRef (hset_self _ _ _) rfl) src_lit (by kernel_rfl) (by simp only [List.length_append, List.length_map, List.length_range, List.length_nil, List.length_cons]; omega) fun v5 h6 c7 hs8 hf9 => ?_
 refine p_e rfl (e_assign (v := _) rfl) ?_
 refine p_end (hK4 _ ?_); clear hK4 K4
 refine pwp_ret ?_
 refine end1 (v := _) rfl ?_
 first
   | exact .nil
   | exact SliceAt.to hs8 (by simp)

theorem mn_up {L : Nat → Int} {D n : Nat} {z : Int} {zs : List Int} (hl : zs.length = D) (h1 : 1 ≤ n) (hn : n ≤ D - 1) (hz : z = (n : Int) - 1) (hB : ∀ i, n ≤ i → i < D → zs[i]? = some (mnF L i (D - 1 - i))) (i : Nat) (hi : n - 1 ≤ i) (hD : i < D) :
   (zs.set z.toNat (min (L (n - 1)) (mnF L n (D - 1 - n))))[i]? = some (mnF L i (D - 1 - i)) := by
 rw [show z.toNat = n - 1 by omega]
 by_cases e : i = n - 1
 · subst e
   rw [List.getElem?_set_self (by omega), show D - 1 - (n - 1) = (D - 1 - n) + 1 by omega, mnF, show n - 1 + 1 = n by omega]
 · rw [List.getElem?_set_ne (by omega)]; exact hB i (by omega) hD
theorem fr78 : (inFrame Try.f78.ntmps (Try.f78.body.getD .skip) && Try.f78.results.toList.all (resScope Try.f78.ntmps)) = true := by kernel_rfl
theorem takenP (t1 t2 : Bool) (D : Nat) (L N : Nat → Int) (hD : 1 ≤ D ∧ D ≤ 20) (hL : ∀ d, d < D → -1000000000000 ≤ L d ∧ L d ≤ 1000000000000) (hN : ∀ d, d < D → 0 ≤ N d ∧ N d ≤ 1000000000) : PCalls Try.prog 78 [.lit t1 1 (((List.range D).map L).map ci), .lit t2 1 (((List.range D).map N).map ci)] (.int (tkN L N D D)) := by
 refine PCalls.of_code Try.func78 rfl rfl (by kernel_rfl) mixed fr78 (by show _ ≤ 52; simp) (.sc _) ?_
 refine pwp_seq_plain rfl fun K1 hK1 => ?_
 refine p_aS rfl ?_
 refine p_end (hK1 _ ?_); clear hK1 K1
 refine pwp_seq_plain rfl fun K2 hK2 => ?_
 refine p_e rfl (e_move (v := .lit _ _ _) rfl) ?_
 refine p_hcall rfl (cloneN t1 ((List.range D).map L) (by simp only [List.length_map, List.length_range]; omega) (by intro q; have q2 := congrArg List.length q; simp only [List.length_map, List.length_range, List.length_nil] at q2; omega)) fun v11 h11 c11 hR11 => ?_
 obtain ⟨g, rfl, hg⟩ := slD hR11 (by simp only [List.length_map, List.length_range]) hD.1
 refine p_e rfl (e_assign (v := .ref _ _ _ _) rfl) ?_
 refine p_end (hK2 _ ?_); clear hK2 K2
 refine pwp_seq_seq ?_
 refine pwp_seq_plain rfl fun K3 hK3 => ?_
 refine p_e rfl (e_move (v := .ref _ _ _ _) rfl) ?_
 refine p_e rfl (e_lenR rfl (by kernel_rfl)) ?_
 refine p_e rfl (e_sub rfl rfl (by first | omega | (simp only [List.length_map, List.length_range] at *; omega))) ?_
 refine p_aS rfl ?_
 refine p_end (hK3 _ ?_); clear hK3 K3
 refine pwp_seq_block fun K4 hK4 => ?_
 refine pwp_loopR (α := Nat × Int × (List Int)) [1, 5] (fun (a5 : Nat × Int × (List Int)) => [(6, .int (a5.2.1))]) (fun (a5 : Nat × Int × (List Int)) (h : Heap) (_ : Nat → Nat) => ((a5.2.1) = ((a5.1) : Int) - 1) ∧ ((a5.1) ≤ D - 1) ∧ ((a5.2.2).length = D) ∧ (∀ i, i < (a5.1) → (a5.2.2)[i]? = some (L i)) ∧ (∀ i, (a5.1) ≤ i → i < D → (a5.2.2)[i]? = some (mnF L i (D - 1 - i))) ∧ (h (7, g) = some (.rows 1 ((a5.2.2).map ci)))) (fun (a5 : Nat × Int × (List Int)) => (a5.1)) (D - 1, (((D : Nat) : Int) - (2)), ((List.range D).map L)) (by exact ⟨rfl, trivial⟩) (by exact ⟨by dsimp only; omega, by exact Nat.le_refl _, by simp only [List.length_map, List.length_range], by exact fun i hi => mcell1 (by omega), by exact fun i h1 h2 => (by rw [mcell1 h2, show D - 1 - i = 0 by omega]; rfl), hg⟩) fun a5 r6 h7 c8 hj9 => ?_
 obtain ⟨n, z, zs⟩ := a5
 obtain ⟨hz, hn, hzl, hA, hB, hihj9_0⟩ := hj9
 try dsimp only at hz
 try dsimp only at hn
 try dsimp only at hzl
 try dsimp only at hA
 try dsimp only at hB
 try dsimp only at hihj9_0
 show pwp _ _ (loopQ _ _ _) ⟨sets (mix _ _ _) [(6, .int z)], _, _⟩
 refine pwp_seq_seq ?_
 refine pwp_seq_plain rfl fun K10 hK10 => ?_
 refine p_mS rfl ?_
 refine p_e rfl (e_ge rfl rfl) ?_
 refine p_end (hK10 _ ?_); clear hK10 K10
 refine pwp_seq_cond rfl fun K11 hK11 => ⟨fun hb12 => ?_, fun hb12 => ?_⟩
 ·have hb12R := hb12; try simp only [zz] at hb12
  have hn1 : 1 ≤ n := by omega
  have hza : zs[z.toNat]? = some (L (n - 1)) := by rw [show z.toNat = n - 1 by omega]; exact hA _ (by omega)
  have hzb : zs[(z + 1).toNat]? = some (mnF L n (D - 1 - n)) := by rw [show (z + 1).toNat = n by omega]; exact hB _ (by omega) (by omega)
  have hmb := hL (n - 1) (by omega)
  refine pwp_skip ?_
  refine seq_norm (hK11 _ ?_); clear hK11 K11
  refine pwp_seq_block fun K13 hK13 => ?_
  refine pwp_gops rfl fun K14 hK14 => ?_
  refine s_begin ?_
  refine s_e rfl (e_move (v := .ref _ _ _ _) rfl) ?_
  refine s_e rfl (e_move (v := .sc _) rfl) ?_
  refine s_e rfl (e_move (v := .ref _ _ _ _) rfl) ?_
  refine s_e rfl (e_move (v := .sc _) rfl) ?_
  refine s_e rfl (e_ixaR0 rfl rfl (by kernel_rfl) (by kernel_rfl) (by omega)) ?_
  refine s_step [7] (by simp) rfl rfl rfl rfl (e_loadI (a := (L (n - 1))) rfl hihj9_0 (by kernel_rfl) (by kernel_rfl) (by kernel_rfl) hza) trivial ?_
  refine s_e rfl (e_move (v := .ref _ _ _ _) rfl) ?_
  refine s_e rfl (e_move (v := .sc _) rfl) ?_
  refine s_e rfl (e_add rfl rfl (by first | omega | (simp only [List.length_map, List.length_range] at *; omega))) ?_
  refine s_e rfl (e_ixaR0 rfl rfl (by kernel_rfl) (by kernel_rfl) (by omega)) ?_
  refine s_step [7] (by simp) rfl rfl rfl rfl (e_loadI (a := (mnF L n (D - 1 - n))) rfl hihj9_0 (by kernel_rfl) (by kernel_rfl) (by kernel_rfl) hzb) trivial ?_
  refine s_e rfl (e_min rfl rfl) ?_
  refine s_e rfl (e_ixaR0 rfl rfl (by kernel_rfl) (by kernel_rfl) (by omega)) ?_
  refine s_store [7] (by simp) rfl rfl (e_storeI (zs := zs) (a := (min (L (n - 1)) (mnF L n (D - 1 - n)))) rfl hihj9_0 rfl (by omega) (by kernel_rfl) (by kernel_rfl)) trivial ?_
  refine s_end (ds := []) (by kernel_rfl) (by kernel_rfl) (hK14 _ ?_); clear hK14 K14
  refine block_norm ?_
  refine seq_norm (hK13 _ ?_); clear hK13 K13
  refine pwp_plain rfl fun K15 hK15 => ?_
  refine p_mS rfl ?_
  refine p_e rfl (e_sub rfl rfl (by first | omega | (simp only [List.length_map, List.length_range] at *; omega))) ?_
  refine p_aS rfl ?_
  refine p_end (hK15 _ ?_); clear hK15 K15
  exact loop_again ((n - 1, (z - (1)), ((zs).set (z).toNat (min (L (n - 1)) (mnF L n (D - 1 - n)))))) (by show _ < _; simp only; omega) ⟨rfl, rfl, trivial⟩ ⟨rfl, trivial⟩ (by exact ⟨by dsimp only; omega, by dsimp only; omega, by rw [List.length_set]; exact hzl, by exact fun i hi => (by rw [List.getElem?_set_ne (by omega)]; exact hA i (by omega)), by exact fun i h1 h2 => mn_up hzl hn1 (by omega) hz hB i h1 h2, (hset_self _ _ _)⟩)
 ·have hb12R := hb12; try simp only [zz] at hb12
  have hn0 : n = 0 := by omega
  refine pwp_exit ?_
  refine exit_seq ?_
  clear hK11 K11
  refine exit_loop ?_
  refine exit_here ?_
  refine seq_norm (hK4 _ ?_); clear hK4 K4
  refine pwp_seq_plain rfl fun K16 hK16 => ?_
  refine p_aS rfl ?_
  refine p_end (hK16 _ ?_); clear hK16 K16
  refine pwp_seq_seq ?_
  refine pwp_seq_plain rfl fun K17 hK17 => ?_
  refine p_e rfl (e_move (v := .lit _ _ _) rfl) ?_
  refine p_e rfl (e_len rfl (by kernel_rfl)) ?_
  refine p_mS rfl ?_
  refine p_end (hK17 _ ?_); clear hK17 K17
  refine pwp_seq_block fun K18 hK18 => ?_
  refine pwp_loopR (α := Nat × Int) [5, 32, 33] (fun (a19 : Nat × Int) => [(7, .int (a19.2)), (34, .int (a19.1))]) (fun (a19 : Nat × Int) (h : Heap) (_ : Nat → Nat) => ((a19.1) ≤ D) ∧ ((a19.2) = tkN L N D (a19.1)) ∧ (h (7, g) = some (.rows 1 (zs.map ci)))) (fun (a19 : Nat × Int) => D - (a19.1)) (0, 0) (by exact ⟨rfl, rfl, trivial⟩) (by exact ⟨by exact Nat.zero_le _, by exact rfl, hihj9_0⟩) fun a19 r20 h21 c22 hj23 => ?_
  obtain ⟨k, a⟩ := a19
  obtain ⟨hk, ha, hihj23_0⟩ := hj23
  try dsimp only at hk
  try dsimp only at ha
  try dsimp only at hihj23_0
  show pwp _ _ (loopQ _ _ _) ⟨sets (mix _ _ _) [(7, .int a), (34, .int k)], _, _⟩
  refine pwp_seq_plain rfl fun K24 hK24 => ?_
  refine p_e rfl (e_lt rfl rfl) ?_
  refine p_end (hK24 _ ?_); clear hK24 K24
  refine pwp_seq_cond rfl fun K25 hK25 => ⟨fun hb26 => ?_, fun hb26 => ?_⟩
  ·have hb26R := hb26; try simp only [zz] at hb26
   have hkD : k < D := by first | omega | (simp only [List.length_map, List.length_range] at *; omega)
   have hx : ((List.range D).map N)[k]? = some (N k) := mcell1 hkD
   have hsp : zs[k]? = some (mnF L k (D - 1 - k)) := hB k (by omega) hkD
   have hb1 := hN k hkD
   have hb2 := mnF_b (D := D) (m := 1000000000000) hL hkD
   have hb3 := tkN_b (L := L) (D := D) hN (d := k) (by omega)
   refine pwp_skip ?_
   refine seq_norm (hK25 _ ?_); clear hK25 K25
   refine pwp_seq_block fun K27 hK27 => ?_
   refine pwp_seq_plain rfl fun K28 hK28 => ?_
   refine p_mS rfl ?_
   refine p_e rfl (e_ixa rfl rfl (by kernel_rfl) (by kernel_rfl) (by first | omega | (simp only [List.length_map, List.length_range]; omega))) ?_
   refine p_e rfl (e_load (v := .sc _) rfl (by kernel_rfl) (by kernel_rfl) (by kernel_rfl) (by first | omega | (simp only [List.length_map, List.length_range]; omega)) (by decide) ((cell_map hx _).trans rfl)) ?_
   refine p_aS rfl ?_
   refine p_aS rfl ?_
   refine p_end (hK28 _ ?_); clear hK28 K28
   refine pwp_plain rfl fun K29 hK29 => ?_
   refine p_mS rfl ?_
   refine p_mS rfl ?_
   refine p_e rfl (e_move (v := .ref _ _ _ _) rfl) ?_
   refine p_mS rfl ?_
   refine p_e rfl (e_ixaR0 rfl rfl (by kernel_rfl) (by kernel_rfl) (by omega)) ?_
   refine p_e rfl (e_loadI (a := (mnF L k (D - 1 - k))) rfl hihj23_0 (by kernel_rfl) (by kernel_rfl) (by kernel_rfl) hsp) ?_
   refine p_mS rfl ?_
   refine p_e rfl (e_sub rfl rfl (by first | omega | (simp only [List.length_map, List.length_range] at *; omega))) ?_
   refine p_e rfl (e_min rfl rfl) ?_
   refine p_e rfl (e_max rfl rfl) ?_
   refine p_e rfl (e_add rfl rfl (by first | omega | (simp only [List.length_map, List.length_range] at *; omega))) ?_
   refine p_aS rfl ?_
   refine p_end (hK29 _ ?_); clear hK29 K29
   refine block_norm ?_
   refine seq_norm (hK27 _ ?_); clear hK27 K27
   refine pwp_plain rfl fun K30 hK30 => ?_
   refine p_e rfl (e_add rfl rfl (by first | omega | (simp only [List.length_map, List.length_range] at *; omega))) ?_
   refine p_mS rfl ?_
   refine p_end (hK30 _ ?_); clear hK30 K30
   exact loop_again ((k + 1, (a + (max (0) (min (N k) ((mnF L k (D - 1 - k)) - a)))))) (by show _ < _; simp only; omega) ⟨rfl, rfl, rfl, trivial⟩ ⟨rfl, rfl, trivial⟩ (by exact ⟨by show _ + 1 ≤ _; omega, by rw [ha]; exact tk_prog hb1.1, hihj23_0⟩)
  ·have hb26R := hb26; try simp only [zz] at hb26
   have hkk : k = D := by first | omega | (simp only [List.length_map, List.length_range] at *; omega)
   refine pwp_exit ?_
   refine exit_seq ?_
   clear hK25 K25
   refine exit_loop ?_
   refine exit_here ?_
   refine seq_norm (hK18 _ ?_); clear hK18 K18
   refine pwp_seq_plain rfl fun K31 hK31 => ?_
   refine p_mS rfl ?_
   refine p_aS rfl ?_
   refine p_end (hK31 _ ?_); clear hK31 K31
   refine pwp_ret ?_
   refine end1 (v := .sc _) rfl ?_
   exact out_i (by rw [ha, hkk])

end Go.Proofs.Ytigdmkhdmbbfiaa
