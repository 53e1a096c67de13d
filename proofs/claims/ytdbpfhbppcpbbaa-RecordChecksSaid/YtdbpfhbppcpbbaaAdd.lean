/- Another event at the end of a record. No conditions. -/
import Derived.Test.YtdbpfhbppcpbbaaCor1
import Derived.Test.YtdbpfhbppcpbbaaOrcG
set_option linter.unusedSimpArgs false
set_option linter.unusedVariables false
set_option maxRecDepth 100000
namespace Go.Proofs.Ytdbpfhbppcpbbaa
open Go Go.Pv
theorem frH102 : (inFrame Try.f102.ntmps (Try.f102.body.getD .skip) && Try.f102.results.toList.all (resScope Try.f102.ntmps)) = true := by kernel_rfl
theorem concatH (xs : List Ev) (e : Ev) (g1 g2 : Nat) (h0 : Heap) (c0 : Nat → Nat) (hl : xs.length ≤ 405) (h15 : h0 (15, g1) = some (.rows 1 [[.lit true 6 (xs.map Ev.enc)], [.ref (14, g2) 6 0 1]])) (h14 : h0 (14, g2) = some (.rows 6 [e.enc])) : HCallsR Try.prog 102 [.ref (15, g1) 1 0 2] h0 c0 (fun v h _ => SliceAt h 33 v 6 ((xs ++ [e]).map Ev.enc)) := by
  refine HCallsR.of_code Try.func102 rfl rfl (by kernel_rfl) mixed frH102 (by show _ ≤ 36; simp) ?_
  refine pwp_seq_plain rfl fun K1 hK1 => ?_
  refine p_step rfl (e_assign (v := .nil) rfl) trivial ?_
  refine p_end (hK1 _ ?_); clear hK1 K1
  refine pwp_seq_plain rfl fun K2 hK2 => ?_
  refine p_step rfl (e_assign (v := .sc _) rfl) trivial ?_
  refine p_end (hK2 _ ?_); clear hK2 K2
  refine pwp_seq_seq ?_
  refine pwp_seq_plain rfl fun K3 hK3 => ?_
  refine p_step rfl (e_move (v := .ref _ _ _ _) rfl) trivial ?_
  refine p_step rfl (e_lenR rfl (by kernel_rfl)) trivial ?_
  refine p_step rfl (e_move (v := .sc _) rfl) trivial ?_
  refine p_end (hK3 _ ?_); clear hK3 K3
  refine pwp_seq_block fun K4 hK4 => ?_
  refine pwp_loopR (α := Nat × Int) [0, 9, 10] (fun (a5 : Nat × Int) => [(3, .int (a5.2)), (11, .int (a5.1))]) (fun (a5 : Nat × Int) (h : Heap) (_ : Nat → Nat) => ((a5.1) ≤ 2) ∧ (((a5.1) = 0 → (a5.2) = 0) ∧ ((a5.1) = 1 → (a5.2) = (xs.length : Int)) ∧ ((a5.1) = 2 → (a5.2) = (xs.length : Int) + 1)) ∧ (h (15, g1) = some (.rows 1 [[.lit true 6 (xs.map Ev.enc)], [.ref (14, g2) 6 0 1]])) ∧ (h (14, g2) = some (.rows 6 [e.enc]))) (fun (a5 : Nat × Int) => 2 - (a5.1)) (0, 0) (by exact ⟨rfl, rfl, trivial⟩) (by exact ⟨by omega, by (refine ⟨fun _ => rfl, fun h => ?_, fun h => ?_⟩ <;> cases h), h15, h14⟩) fun a5 r6 h7 c8 hj9 => ?_
  obtain ⟨k, s⟩ := a5
  obtain ⟨hk, hs, hihj9_0, hihj9_1⟩ := hj9
  try dsimp only at hk
  try dsimp only at hs
  try dsimp only at hihj9_0
  try dsimp only at hihj9_1
  show pwp _ _ (loopQ _ _ _) ⟨sets (mix _ _ _) [(3, .int s), (11, .int k)], _, _⟩
  refine pwp_seq_plain rfl fun K10 hK10 => ?_
  refine p_step rfl (e_lt rfl rfl) trivial ?_
  refine p_end (hK10 _ ?_); clear hK10 K10
  refine pwp_seq_cond rfl fun K11 hK11 => ⟨fun hb12 => ?_, fun hb12 => ?_⟩
  ·have hb12R := hb12; try simp only [z1, z2, z3, z4, z5, z6, ne_eq, z7, z8, z9, z10, z11, z12] at hb12
   rcases (by omega : k = 0 ∨ k = 1) with hc13 | hc13
   ·skip
    refine pwp_skip ?_
    refine seq_norm (hK11 _ ?_); clear hK11 K11
    refine pwp_seq_block fun K14 hK14 => ?_
    refine pwp_seq_plain rfl fun K15 hK15 => ?_
    refine p_step rfl (e_ixaR0 rfl rfl (by kernel_rfl) (by kernel_rfl) (by omega)) trivial ?_
    refine p_step rfl (e_loadH (v := .lit _ _ _) rfl hihj9_0 (by kernel_rfl) (by kernel_rfl) (by kernel_rfl) (by subst hc13; exact (by decide : (0 : Nat) < 2)) (by decide) (by subst hc13; rfl)) trivial ?_
    refine p_step rfl (e_assign (v := .lit _ _ _) rfl) trivial ?_
    refine p_end (hK15 _ ?_); clear hK15 K15
    refine pwp_seq_plain rfl fun K16 hK16 => ?_
    refine p_step rfl (e_move (v := .sc _) rfl) trivial ?_
    refine p_step rfl (e_move (v := .lit _ _ _) rfl) trivial ?_
    refine p_step rfl (e_len rfl (by kernel_rfl)) trivial ?_
    refine p_step rfl (e_add rfl rfl (by first | omega | (simp only [List.length_map]; omega))) trivial ?_
    refine p_step rfl (e_assign (v := .sc _) rfl) trivial ?_
    refine p_end (hK16 _ ?_); clear hK16 K16
    refine pwp_seq_plain rfl fun K17 hK17 => ?_
    refine p_step rfl (e_move (v := .sc _) rfl) trivial ?_
    refine p_step rfl (e_lt rfl rfl) trivial ?_
    refine p_end (hK17 _ ?_); clear hK17 K17
    refine pwp_cond rfl (fun hb18 => ?_) (fun hb18 => ?_)
    ·have hb18R := hb18; try simp only [z1, z2, z3, z4, z5, z6, ne_eq, z7, z8, z9, z10, z11, z12] at hb18
     exfalso; omega
    ·have hb18R := hb18; try simp only [z1, z2, z3, z4, z5, z6, ne_eq, z7, z8, z9, z10, z11, z12] at hb18
     refine pwp_skip ?_
     refine block_norm ?_
     refine seq_norm (hK14 _ ?_); clear hK14 K14
     refine pwp_plain rfl fun K19 hK19 => ?_
     refine p_step rfl (e_add rfl rfl (by first | omega | (simp only [List.length_map]; omega))) trivial ?_
     refine p_step rfl (e_move (v := .sc _) rfl) trivial ?_
     refine p_end (hK19 _ ?_); clear hK19 K19
     exact loop_again ((k + 1, _)) (by show _ < _; simp only; omega) ⟨rfl, rfl, rfl, trivial⟩ ⟨rfl, rfl, trivial⟩ (by exact ⟨by show _ + 1 ≤ _; omega, by show (_ → _ = _) ∧ (_ → _ = _) ∧ (_ → _ = _); (try simp only [List.length_map, List.length_cons, List.length_nil]); omega, hihj9_0, hihj9_1⟩)
   ·skip
    refine pwp_skip ?_
    refine seq_norm (hK11 _ ?_); clear hK11 K11
    refine pwp_seq_block fun K20 hK20 => ?_
    refine pwp_seq_plain rfl fun K21 hK21 => ?_
    refine p_step rfl (e_ixaR0 rfl rfl (by kernel_rfl) (by kernel_rfl) (by omega)) trivial ?_
    refine p_step rfl (e_loadH (v := .ref _ _ _ _) rfl hihj9_0 (by kernel_rfl) (by kernel_rfl) (by kernel_rfl) (by subst hc13; exact (by decide : (1 : Nat) < 2)) (by decide) (by subst hc13; rfl)) trivial ?_
    refine p_step rfl (e_assign (v := .ref _ _ _ _) rfl) trivial ?_
    refine p_end (hK21 _ ?_); clear hK21 K21
    refine pwp_seq_plain rfl fun K22 hK22 => ?_
    refine p_step rfl (e_move (v := .sc _) rfl) trivial ?_
    refine p_step rfl (e_move (v := .ref _ _ _ _) rfl) trivial ?_
    refine p_step rfl (e_lenR rfl (by kernel_rfl)) trivial ?_
    refine p_step rfl (e_add rfl rfl (by first | omega | (simp only [List.length_map]; omega))) trivial ?_
    refine p_step rfl (e_assign (v := .sc _) rfl) trivial ?_
    refine p_end (hK22 _ ?_); clear hK22 K22
    refine pwp_seq_plain rfl fun K23 hK23 => ?_
    refine p_step rfl (e_move (v := .sc _) rfl) trivial ?_
    refine p_step rfl (e_lt rfl rfl) trivial ?_
    refine p_end (hK23 _ ?_); clear hK23 K23
    refine pwp_cond rfl (fun hb24 => ?_) (fun hb24 => ?_)
    ·have hb24R := hb24; try simp only [z1, z2, z3, z4, z5, z6, ne_eq, z7, z8, z9, z10, z11, z12] at hb24
     exfalso; omega
    ·have hb24R := hb24; try simp only [z1, z2, z3, z4, z5, z6, ne_eq, z7, z8, z9, z10, z11, z12] at hb24
     refine pwp_skip ?_
     refine block_norm ?_
     refine seq_norm (hK20 _ ?_); clear hK20 K20
     refine pwp_plain rfl fun K25 hK25 => ?_
     refine p_step rfl (e_add rfl rfl (by first | omega | (simp only [List.length_map]; omega))) trivial ?_
     refine p_step rfl (e_move (v := .sc _) rfl) trivial ?_
     refine p_end (hK25 _ ?_); clear hK25 K25
     exact loop_again ((k + 1, _)) (by show _ < _; simp only; omega) ⟨rfl, rfl, rfl, trivial⟩ ⟨rfl, rfl, trivial⟩ (by exact ⟨by show _ + 1 ≤ _; omega, by show (_ → _ = _) ∧ (_ → _ = _) ∧ (_ → _ = _); (try simp only [List.length_map, List.length_cons, List.length_nil]); omega, hihj9_0, hihj9_1⟩)
  ·have hb12R := hb12; try simp only [z1, z2, z3, z4, z5, z6, ne_eq, z7, z8, z9, z10, z11, z12] at hb12
   obtain rfl : s = ((xs.length + 1 : Nat) : Int) := by omega
   refine pwp_exit ?_
   refine exit_seq ?_
   clear hK11 K11
   refine exit_loop ?_
   refine exit_here ?_
   refine seq_norm (hK4 _ ?_); clear hK4 K4
   refine pwp_seq_plain rfl fun K26 hK26 => ?_
   refine p_step rfl (e_move (v := .sc _) rfl) trivial ?_
   refine p_hcall rfl (growH1 33 (xs.length + 1) (by omega) (by omega)) fun v27 h28 c29 hR30 => ?_
   obtain ⟨hs31, hf32⟩ := hR30
   have ho33 := (hf32 15 _ rfl).trans hihj9_0
   have ho34 := (hf32 14 _ rfl).trans hihj9_1
   refine p_step rfl (e_assign (v := _) rfl) trivial ?_
   refine p_end (hK26 _ ?_); clear hK26 K26
   refine pwp_seq_seq ?_
   refine pwp_seq_plain rfl fun K35 hK35 => ?_
   refine p_step rfl (e_move (v := .ref _ _ _ _) rfl) trivial ?_
   refine p_step rfl (e_lenR rfl (by kernel_rfl)) trivial ?_
   refine p_step rfl (e_move (v := .sc _) rfl) trivial ?_
   refine p_end (hK35 _ ?_); clear hK35 K35
   refine pwp_seq_block fun K36 hK36 => ?_
   refine pwp_loopR (α := Nat × (List Ev) × PV) [25, 26] (fun (a37 : Nat × (List Ev) × PV) => [(6, (a37.2.2)), (27, .int (a37.1))]) (fun (a37 : Nat × (List Ev) × PV) (h : Heap) (_ : Nat → Nat) => ((a37.1) ≤ 2) ∧ (((a37.1) = 0 → (a37.2.1) = []) ∧ ((a37.1) = 1 → (a37.2.1) = xs) ∧ ((a37.1) = 2 → (a37.2.1) = xs ++ [e])) ∧ (SliceAt h 33 (a37.2.2) 6 ((a37.2.1).map Ev.enc)) ∧ (h (15, g1) = some (.rows 1 [[.lit true 6 (xs.map Ev.enc)], [.ref (14, g2) 6 0 1]])) ∧ (h (14, g2) = some (.rows 6 [e.enc]))) (fun (a37 : Nat × (List Ev) × PV) => 2 - (a37.1)) (0, [], _) (by exact ⟨rfl, rfl, trivial⟩) (by exact ⟨by omega, by (refine ⟨fun _ => rfl, fun h => ?_, fun h => ?_⟩ <;> cases h), hs31, ho33, ho34⟩) fun a37 r38 h39 c40 hj41 => ?_
   obtain ⟨k, acc, v⟩ := a37
   obtain ⟨hk, hacc, hihj41_0, hihj41_1, hihj41_2⟩ := hj41
   try dsimp only at hk
   try dsimp only at hacc
   try dsimp only at hihj41_0
   try dsimp only at hihj41_1
   try dsimp only at hihj41_2
   show pwp _ _ (loopQ _ _ _) ⟨sets (mix _ _ _) [(6, v), (27, .int k)], _, _⟩
   refine pwp_seq_plain rfl fun K42 hK42 => ?_
   refine p_step rfl (e_lt rfl rfl) trivial ?_
   refine p_end (hK42 _ ?_); clear hK42 K42
   refine pwp_seq_cond rfl fun K43 hK43 => ⟨fun hb44 => ?_, fun hb44 => ?_⟩
   ·have hb44R := hb44; try simp only [z1, z2, z3, z4, z5, z6, ne_eq, z7, z8, z9, z10, z11, z12] at hb44
    rcases (by omega : k = 0 ∨ k = 1) with hc45 | hc45
    ·skip
     have hal : acc.length = 0 := by rw [hacc.1 hc45]; rfl
     refine pwp_skip ?_
     refine seq_norm (hK43 _ ?_); clear hK43 K43
     refine pwp_seq_block fun K46 hK46 => ?_
     refine pwp_seq_plain rfl fun K47 hK47 => ?_
     refine p_step rfl (e_ixaR0 rfl rfl (by kernel_rfl) (by kernel_rfl) (by omega)) trivial ?_
     refine p_step rfl (e_loadH (v := .lit _ _ _) rfl hihj41_1 (by kernel_rfl) (by kernel_rfl) (by kernel_rfl) (by subst hc45; exact (by decide : (0 : Nat) < 2)) (by decide) (by subst hc45; rfl)) trivial ?_
     refine p_step rfl (e_assign (v := .lit _ _ _) rfl) trivial ?_
     refine p_end (hK47 _ ?_); clear hK47 K47
     refine pwp_plain rfl fun K48 hK48 => ?_
     refine p_step rfl (e_move (v := _) rfl) trivial ?_
     refine p_step rfl (e_move (v := .lit _ _ _) rfl) trivial ?_
     refine p_app rfl rfl rfl hihj41_0 src_lit (by kernel_rfl) (by simp only [List.length_append, List.length_map, List.length_nil, List.length_cons]; omega) fun v49 h50 c51 hs52 hf53 => ?_
     have ho54 := (hf53 (15, _) (key_ne rfl) (fun _ _ => key_ne rfl)).trans hihj41_1
     have ho55 := (hf53 (14, _) (key_ne rfl) (fun _ _ => key_ne rfl)).trans hihj41_2
     refine p_step rfl (e_assign (v := _) rfl) trivial ?_
     refine p_end (hK48 _ ?_); clear hK48 K48
     refine block_norm ?_
     refine seq_norm (hK46 _ ?_); clear hK46 K46
     refine pwp_plain rfl fun K56 hK56 => ?_
     refine p_step rfl (e_add rfl rfl (by first | omega | (simp only [List.length_map]; omega))) trivial ?_
     refine p_step rfl (e_move (v := .sc _) rfl) trivial ?_
     refine p_end (hK56 _ ?_); clear hK56 K56
     exact loop_again ((k + 1, (acc ++ xs), v49)) (by show _ < _; simp only; omega) ⟨rfl, rfl, trivial⟩ ⟨rfl, rfl, trivial⟩ (by exact ⟨by show _ + 1 ≤ _; omega, by first | (exact ⟨fun h => absurd h (by omega), fun _ => (by rw [hacc.1 (by omega)]; rfl), fun h => absurd h (by omega)⟩) | (exact ⟨fun h => absurd h (by omega), fun h => absurd h (by omega), fun _ => (by rw [hacc.2.1 (by omega)])⟩), (SliceAt.to hs52 (by simp)), ho54, ho55⟩)
    ·skip
     have hal : acc.length = xs.length := by rw [hacc.2.1 hc45]
     refine pwp_skip ?_
     refine seq_norm (hK43 _ ?_); clear hK43 K43
     refine pwp_seq_block fun K57 hK57 => ?_
     refine pwp_seq_plain rfl fun K58 hK58 => ?_
     refine p_step rfl (e_ixaR0 rfl rfl (by kernel_rfl) (by kernel_rfl) (by omega)) trivial ?_
     refine p_step rfl (e_loadH (v := .ref _ _ _ _) rfl hihj41_1 (by kernel_rfl) (by kernel_rfl) (by kernel_rfl) (by subst hc45; exact (by decide : (1 : Nat) < 2)) (by decide) (by subst hc45; rfl)) trivial ?_
     refine p_step rfl (e_assign (v := .ref _ _ _ _) rfl) trivial ?_
     refine p_end (hK58 _ ?_); clear hK58 K58
     refine pwp_plain rfl fun K59 hK59 => ?_
     refine p_step rfl (e_move (v := _) rfl) trivial ?_
     refine p_step rfl (e_move (v := .ref _ _ _ _) rfl) trivial ?_
     refine p_app rfl rfl rfl hihj41_0 (src_ref hihj41_2 rfl) (by kernel_rfl) (by simp only [List.length_append, List.length_map, List.length_nil, List.length_cons]; omega) fun v60 h61 c62 hs63 hf64 => ?_
     have ho65 := (hf64 (15, _) (key_ne rfl) (fun _ _ => key_ne rfl)).trans hihj41_1
     have ho66 := (hf64 (14, _) (key_ne rfl) (fun _ _ => key_ne rfl)).trans hihj41_2
     refine p_step rfl (e_assign (v := _) rfl) trivial ?_
     refine p_end (hK59 _ ?_); clear hK59 K59
     refine block_norm ?_
     refine seq_norm (hK57 _ ?_); clear hK57 K57
     refine pwp_plain rfl fun K67 hK67 => ?_
     refine p_step rfl (e_add rfl rfl (by first | omega | (simp only [List.length_map]; omega))) trivial ?_
     refine p_step rfl (e_move (v := .sc _) rfl) trivial ?_
     refine p_end (hK67 _ ?_); clear hK67 K67
     exact loop_again ((k + 1, (acc ++ [e]), v60)) (by show _ < _; simp only; omega) ⟨rfl, rfl, trivial⟩ ⟨rfl, rfl, trivial⟩ (by exact ⟨by show _ + 1 ≤ _; omega, by first | (exact ⟨fun h => absurd h (by omega), fun _ => (by rw [hacc.1 (by omega)]; rfl), fun h => absurd h (by omega)⟩) | (exact ⟨fun h => absurd h (by omega), fun h => absurd h (by omega), fun _ => (by rw [hacc.2.1 (by omega)])⟩), (SliceAt.to hs63 (by simp)), ho65, ho66⟩)
   ·have hb44R := hb44; try simp only [z1, z2, z3, z4, z5, z6, ne_eq, z7, z8, z9, z10, z11, z12] at hb44
    have hfin := hacc.2.2 (by omega)
    refine pwp_exit ?_
    refine exit_seq ?_
    clear hK43 K43
    refine exit_loop ?_
    refine exit_here ?_
    refine seq_norm (hK36 _ ?_); clear hK36 K36
    refine pwp_seq_plain rfl fun K68 hK68 => ?_
    refine p_step rfl (e_move (v := _) rfl) trivial ?_
    refine p_step rfl (e_assign (v := _) rfl) trivial ?_
    refine p_end (hK68 _ ?_); clear hK68 K68
    refine pwp_ret ?_
    refine end1 (v := _) rfl ?_
    rw [← hfin]
    exact hihj41_0


/-- What Add answers. -/
def addE (evs : List Ev) (e : Ev) : Int := if recE evs ≠ 0 then recE evs else recE (evs ++ [e])
def addL (evs : List Ev) (e : Ev) : List Ev := if addE evs e = 0 then evs ++ [e] else []
theorem add_1 {evs : List Ev} {e : Ev} (h : ¬ recE evs = 0) : addE evs e = recE evs ∧ addL evs e = [] := by
  have h1 : addE evs e = recE evs := by rw [addE, if_pos h]
  exact ⟨h1, by rw [addL, h1, if_neg h]⟩
theorem add_2 {evs : List Ev} {e : Ev} (h : recE evs = 0) : addE evs e = recE (evs ++ [e]) ∧ addL evs e = if recE (evs ++ [e]) = 0 then evs ++ [e] else [] := by
  have h1 : addE evs e = recE (evs ++ [e]) := by rw [addE, if_neg (by simpa using h)]
  exact ⟨h1, by rw [addL, h1]⟩
theorem rec_len {evs : List Ev} (h : recE evs = 0) : evs.length ≤ 400 := by
  unfold recE at h
  split at h
  · cases h
  · omega
theorem addL_len (evs : List Ev) (e : Ev) : (addL evs e).length ≤ 405 := by
  unfold addL
  split
  · rename_i h
    unfold addE at h
    split at h
    · rename_i h2; exact absurd h h2
    · have := rec_len h; omega
  · exact Nat.zero_le _
theorem ev_out {h : Heap} {d : Nat} {v : PV} {xs : List Ev} {rows : Go.Pv.Rows} (hs : SliceAt h d v 6 rows) (he : rows = xs.map Ev.enc) : Out h v (.lit false 6 (xs.map Ev.enc)) := out_slice hs he (fun _ => rfl) ev_clean
theorem tup_ev (xs : List Ev) (z : Int) : Pure (.tup [.lit false 6 (xs.map Ev.enc), .int z]) := pure_2 (ev_lit_pure _) pure_int
theorem add_out1 {h : Heap} {evs : List Ev} {e : Ev} (h1 : addE evs e = recE evs ∧ addL evs e = []) : Out h (.tup [.nil, .int (recE evs)]) (.tup [.lit false 6 ((addL evs e).map Ev.enc), .int (addE evs e)]) := by
  rw [h1.1, h1.2]; exact out_2 out_nil (out_i rfl)
theorem add_out2 {h : Heap} {evs : List Ev} {e : Ev} {d : Nat} {u : PV} (h1 : addE evs e = recE (evs ++ [e]) ∧ addL evs e = if recE (evs ++ [e]) = 0 then evs ++ [e] else []) (hs : SliceAt h d u 6 ((evs ++ [e]).map Ev.enc)) :
    Out h (.tup [if recE (evs ++ [e]) = 0 then u else .nil, .int (recE (evs ++ [e]))]) (.tup [.lit false 6 ((addL evs e).map Ev.enc), .int (addE evs e)]) := by
  rw [h1.1, h1.2]
  by_cases h0 : recE (evs ++ [e]) = 0
  · rw [if_pos h0, if_pos h0]; exact out_2 (ev_out hs rfl) (out_i rfl)
  · rw [if_neg h0, if_neg h0]; exact out_2 out_nil (out_i rfl)

theorem fr68 : (inFrame Try.f68.ntmps (Try.f68.body.getD .skip) && Try.f68.results.toList.all (resScope Try.f68.ntmps)) = true := by kernel_rfl
theorem Add (evs : List Ev) (e : Ev) (hl : evs.length ≤ 405) : PCalls Try.prog 68 [.lit true 6 (evs.map Ev.enc), .agg e.enc] (.tup [.lit false 6 ((addL evs e).map Ev.enc), .int (addE evs e)]) := by
  refine PCalls.of_code Try.func68 rfl rfl (by kernel_rfl) mixed fr68 (by show _ ≤ 20; simp) (tup_ev _ _) ?_
  refine pwp_seq_plain rfl fun K1 hK1 => ?_
  refine p_new rfl (e_box (n := 6) rfl rfl) ⟨rfl, by decide⟩ ?_
  refine p_step rfl (e_assign (v := .nil) rfl) trivial ?_
  refine p_step rfl (e_assign (v := .sc _) rfl) trivial ?_
  refine p_end (hK1 _ ?_); clear hK1 K1
  refine pwp_seq_seq ?_
  refine pwp_seq_plain rfl fun K2 hK2 => ?_
  refine p_step rfl (e_move (v := .lit _ _ _) rfl) trivial ?_
  refine p_call rfl (.cons inn_lit .nil) (CheckRecord _ (by omega)) ?_
  refine p_step rfl (e_assign (v := .sc _) rfl) trivial ?_
  refine p_end (hK2 _ ?_); clear hK2 K2
  refine pwp_seq_seq ?_
  refine pwp_seq_plain rfl fun K3 hK3 => ?_
  refine p_step rfl (e_move (v := .sc _) rfl) trivial ?_
  refine p_step rfl (e_ne rfl rfl) trivial ?_
  refine p_end (hK3 _ ?_); clear hK3 K3
  refine pwp_seq_cond rfl fun K4 hK4 => ⟨fun hb5 => ?_, fun hb5 => ?_⟩
  ·have hb5R := hb5; (try simp only [z1, z2, z3, z4, z5, z6, ne_eq, z7, z8, z9, z10, z11, z12] at hb5); (try (have hrl := rec_len (evs := evs) hb5))
   refine pwp_seq_plain rfl fun K6 hK6 => ?_
   refine p_step rfl (e_move (v := .sc _) rfl) trivial ?_
   refine p_step rfl (e_assign (v := .nil) rfl) trivial ?_
   refine p_step rfl (e_assign (v := .sc _) rfl) trivial ?_
   refine p_end (hK6 _ ?_); clear hK6 K6
   refine pwp_ret ?_
   refine ret_seq ?_
   refine end2 (v := .nil) (w := .sc _) rfl rfl ?_
   first
     | exact add_out1 (add_1 (by assumption))
     | exact add_out2 (add_2 (by assumption)) (by assumption)
  ·have hb5R := hb5; (try simp only [z1, z2, z3, z4, z5, z6, ne_eq, z7, z8, z9, z10, z11, z12] at hb5); (try (have hrl := rec_len (evs := evs) hb5))
   refine pwp_skip ?_
   refine seq_norm (hK4 _ ?_); clear hK4 K4
   refine pwp_seq_plain rfl fun K7 hK7 => ?_
   refine p_step rfl (e_move (v := .lit _ _ _) rfl) trivial ?_
   refine p_step rfl (e_loadHA (n := 6) rfl (hset_self _ _ _) (by kernel_rfl) (by kernel_rfl) (by kernel_rfl) (by exact Nat.zero_lt_one) (by decide) rfl) trivial ?_
   refine p_new rfl (e_bslice (rows := [e.enc]) (zs := [.int 0, .int 0, .str ByteArray.empty, .int 0, .bool false, .bool false]) (sz := 6) (by kernel_rfl) (by kernel_rfl) rfl (by kernel_rfl) (by decide) rfl rfl (by exact ⟨by decide, rfl, rfl, trivial⟩) rfl) trivial ?_
   refine p_new rfl (e_bslice (rows := [[.lit true 6 (evs.map Ev.enc)], [.ref (14, _) 6 0 1]]) (zs := [.nil]) (sz := 1) (by kernel_rfl) (by kernel_rfl) rfl (by kernel_rfl) (by decide) rfl rfl (by exact ⟨by decide, rfl, rfl, ⟨by decide, rfl, rfl, trivial⟩⟩) rfl) trivial ?_
   refine p_hcall rfl (concatH evs e _ _ _ _ (by omega) (hset_self _ _ _) ((hset_ne (key_ne rfl)).trans (hset_self _ _ _))) fun v8 h9 c10 hR11 => ?_
   refine p_hcall rfl (acceptedH (evs ++ [e]) (by simp only [List.length_append, List.length_cons, List.length_nil]; omega) 33 _ _ _ hR11) fun v12 h13 c14 hR15 => ?_
   obtain ⟨rfl, rfl⟩ := hR15
   refine p_step rfl (e_ext (v := _) rfl (by simp) rfl) trivial ?_
   refine p_step rfl (e_ext (v := .sc _) rfl (by simp) rfl) trivial ?_
   refine p_step rfl (e_assign (v := _) rfl) trivial ?_
   refine p_step rfl (e_assign (v := .sc _) rfl) trivial ?_
   refine p_end (hK7 _ ?_); clear hK7 K7
   refine pwp_ret ?_
   refine end2 (v := _) (w := .sc _) rfl rfl ?_
   first
     | exact add_out1 (add_1 (by assumption))
     | exact add_out2 (add_2 (by assumption)) hR11

end Go.Proofs.Ytdbpfhbppcpbbaa
