/- What needs can take, as the document tells it. No conditions. -/
import Derived.Test.YtigdmkhdmbbfiaaTp2
set_option linter.unusedSimpArgs false
set_option linter.unusedVariables false
set_option maxRecDepth 100000
namespace Go.Proofs.Ytigdmkhdmbbfiaa
open Go Go.Pv
theorem fr81 : (inFrame Try.f81.ntmps (Try.f81.body.getD .skip) && Try.f81.results.toList.all (resScope Try.f81.ntmps)) = true := by kernel_rfl
theorem takenR (t1 t2 t3 : Bool) (D : Nat) (C G N : Nat → Int) (hD : 1 ≤ D ∧ D ≤ 20) (hC : ∀ d, d < D → 0 ≤ C d ∧ C d ≤ 10000000000) (hG : ∀ d, d < D → 0 ≤ G d ∧ G d ≤ 10000000000) (hN : ∀ d, d < D → 0 ≤ N d ∧ N d ≤ 1000000000) : PCalls Try.prog 81 [.lit t1 1 (((List.range D).map C).map ci), .lit t2 1 (((List.range D).map G).map ci), .lit t3 1 (((List.range D).map N).map ci)] (.tup [.int (tkR D C G N).1, .bool (tkR D C G N).2]) := by
 refine PCalls.of_code Try.func81 rfl rfl (by kernel_rfl) mixed fr81 (by show _ ≤ 72; simp) (pure_2 (.sc _) (.sc _)) ?_
 refine pwp_seq_plain rfl fun K1 hK1 => ?_
 refine p_aS rfl ?_
 refine p_aS rfl ?_
 refine p_end (hK1 _ ?_); clear hK1 K1
 refine pwp_seq_plain rfl fun K2 hK2 => ?_
 refine p_e rfl (e_assign (v := .nil) rfl) ?_
 refine p_end (hK2 _ ?_); clear hK2 K2
 refine pwp_seq_plain rfl fun K3 hK3 => ?_
 refine p_aS rfl ?_
 refine p_end (hK3 _ ?_); clear hK3 K3
 refine pwp_seq_seq ?_
 refine pwp_seq_plain rfl fun K4 hK4 => ?_
 refine p_aS rfl ?_
 refine p_end (hK4 _ ?_); clear hK4 K4
 refine pwp_seq_block fun K5 hK5 => ?_
 refine pwp_loopR (α := Nat × Int × PV) [0, 1, 2] (fun (a6 : Nat × Int × PV) => [(8, (a6.2.2)), (9, .int (a6.2.1)), (10, .int (a6.1))]) (fun (a6 : Nat × Int × PV) (h : Heap) (_ : Nat → Nat) => ((a6.1) ≤ D) ∧ ((a6.2.1) = lvl (fun i => C i - G i) (a6.1)) ∧ (∀ d, d < (a6.1) → 0 ≤ lvl (fun i => C i - G i) (d + 1)) ∧ (SliceAt h 37 (a6.2.2) 1 ((((List.range (a6.1)).map (fun e_ => lvl (fun i_ => C i_ - G i_) (e_ + 1)))).map ci))) (fun (a6 : Nat × Int × PV) => D - (a6.1)) (0, 0, .nil) (by exact ⟨rfl, rfl, rfl, trivial⟩) (by exact ⟨by exact Nat.zero_le _, by exact rfl, by exact fun d h => absurd h (Nat.not_lt_zero _), .nil⟩) fun a6 r7 h8 c9 hj10 => ?_
 obtain ⟨k, a, v⟩ := a6
 obtain ⟨hk, ha, hin, hihj10_0⟩ := hj10
 try dsimp only at hk
 try dsimp only at ha
 try dsimp only at hin
 try dsimp only at hihj10_0
 show pwp _ _ (loopQ _ _ _) ⟨sets (mix _ _ _) [(8, v), (9, .int a), (10, .int k)], _, _⟩
 refine pwp_seq_seq ?_
 refine pwp_seq_plain rfl fun K11 hK11 => ?_
 refine p_mS rfl ?_
 refine p_e rfl (e_move (v := .lit _ _ _) rfl) ?_
 refine p_e rfl (e_len rfl (by kernel_rfl)) ?_
 refine p_e rfl (e_lt rfl rfl) ?_
 refine p_end (hK11 _ ?_); clear hK11 K11
 refine pwp_seq_cond rfl fun K12 hK12 => ⟨fun hb13 => ?_, fun hb13 => ?_⟩
 ·have hb13R := hb13; try simp only [zz] at hb13
  have hkD : k < D := by first | omega | (simp only [List.length_map, List.length_range] at *; omega)
  have hx : ((List.range D).map C)[k]? = some (C k) := mcell1 hkD
  have hy : ((List.range D).map G)[k]? = some (G k) := mcell1 hkD
  have hb1 := hC k hkD
  have hb2 := hG k hkD
  have hb3 := lvl_b (f := fun i => C i - G i) (m := 20000000000) (D := D) (fun d hd => by have q1 := hC d hd; have q2 := hG d hd; (try dsimp only); omega) (d := k) (by omega)
  have hs1 : lvl (fun i => C i - G i) (k + 1) = a + C k - G k := by rw [lvl, ha]; (try dsimp only); omega
  refine pwp_skip ?_
  refine seq_norm (hK12 _ ?_); clear hK12 K12
  refine pwp_seq_block fun K14 hK14 => ?_
  refine pwp_seq_gops rfl fun K15 hK15 => ?_
  refine g_begin ?_
  refine g_mS rfl rfl ?_
  refine g_e rfl (e_move (v := .lit _ _ _) rfl) ?_
  refine g_mS rfl rfl ?_
  refine g_e rfl (e_ixa rfl rfl (by kernel_rfl) (by kernel_rfl) (by first | omega | (simp only [List.length_map, List.length_range]; omega))) ?_
  refine g_e rfl (e_load (v := .sc _) rfl (by kernel_rfl) (by kernel_rfl) (by kernel_rfl) (by first | omega | (simp only [List.length_map, List.length_range]; omega)) (by decide) ((cell_map hx _).trans rfl)) ?_
  refine g_e rfl (e_add rfl rfl (by first | omega | (simp only [List.length_map, List.length_range] at *; omega))) ?_
  refine g_e rfl (e_move (v := .lit _ _ _) rfl) ?_
  refine g_mS rfl rfl ?_
  refine g_e rfl (e_ixa rfl rfl (by kernel_rfl) (by kernel_rfl) (by first | omega | (simp only [List.length_map, List.length_range]; omega))) ?_
  refine g_e rfl (e_load (v := .sc _) rfl (by kernel_rfl) (by kernel_rfl) (by kernel_rfl) (by first | omega | (simp only [List.length_map, List.length_range]; omega)) (by decide) ((cell_map hy _).trans rfl)) ?_
  refine g_e rfl (e_sub rfl rfl (by first | omega | (simp only [List.length_map, List.length_range] at *; omega))) ?_
  refine g_aS rfl rfl ?_
  refine g_end (ds := []) (by kernel_rfl) rfl (hK15 _ ?_); clear hK15 K15
  refine pwp_seq_seq ?_
  refine pwp_seq_plain rfl fun K16 hK16 => ?_
  refine p_mS rfl ?_
  refine p_e rfl (e_lt rfl rfl) ?_
  refine p_end (hK16 _ ?_); clear hK16 K16
  refine pwp_seq_cond rfl fun K17 hK17 => ⟨fun hb18 => ?_, fun hb18 => ?_⟩
  ·have hb18R := hb18; try simp only [zz] at hb18
   refine pwp_seq_plain rfl fun K19 hK19 => ?_
   refine p_aS rfl ?_
   refine p_aS rfl ?_
   refine p_end (hK19 _ ?_); clear hK19 K19
   refine pwp_ret ?_
   refine ret_seq ?_
   refine ret_block ?_
   refine ret_seq ?_
   refine ret_loop ?_
   refine ret_block ?_
   refine ret_seq ?_
   refine end2 (v := .sc _) (w := .sc _) rfl rfl ?_
   first
     | exact out_pb (tkR_f (C := C) (G := G) (N := N) hkD (by omega))
     | exact out_pb (by rw [hs, hdd]; exact tkR_t (fun d hd => hin d (by omega)))
  ·have hb18R := hb18; try simp only [zz] at hb18
   refine pwp_skip ?_
   refine seq_norm (hK17 _ ?_); clear hK17 K17
   refine pwp_plain rfl fun K20 hK20 => ?_
   refine p_e rfl (e_move (v := _) rfl) ?_
   refine p_mS rfl ?_
   refine p_new rfl (e_bslice (rows := [ci ((a + (C k)) - (G k))]) (zs := [.int 0]) (sz := 1) (by kernel_rfl) (by kernel_rfl) rfl (by kernel_rfl) (by decide) rfl rfl (by exact ⟨by decide, rfl, rfl, trivial⟩) rfl) trivial ?_
   refine p_app rfl rfl rfl (hihj10_0.keep fun _ => (hset_ne (key_ne rfl)).trans (rfl)) (src_ref (hset_self _ _ _) rfl) (by kernel_rfl) (by simp only [List.length_append, List.length_map, List.length_range, List.length_nil, List.length_cons]; omega) fun v21 h22 c23 hs24 hf25 => ?_
   have ho26 := (hf25 (36, _) (key_ne rfl) (fun _ _ => key_ne rfl)).trans (hset_self _ _ _)
   refine p_e rfl (e_assign (v := _) rfl) ?_
   refine p_end (hK20 _ ?_); clear hK20 K20
   refine block_norm ?_
   refine seq_norm (hK14 _ ?_); clear hK14 K14
   refine pwp_plain rfl fun K27 hK27 => ?_
   refine p_mS rfl ?_
   refine p_e rfl (e_add rfl rfl (by first | omega | (simp only [List.length_map, List.length_range] at *; omega))) ?_
   refine p_aS rfl ?_
   refine p_end (hK27 _ ?_); clear hK27 K27
   exact loop_again ((k + 1, ((a + (C k)) - (G k)), v21)) (by show _ < _; simp only; omega) ⟨rfl, rfl, rfl, trivial⟩ ⟨rfl, rfl, rfl, trivial⟩ (by exact ⟨by show _ + 1 ≤ _; omega, by rw [hs1], by exact fun d hd => (by by_cases e : d = k; (subst e; omega); exact hin d (by omega)), (SliceAt.to hs24 (by exact acc_s (L := (fun e_ => lvl (fun i_ => C i_ - G i_) (e_ + 1))) (by rw [hs1])))⟩)
 ·have hb13R := hb13; try simp only [zz] at hb13
  have hkk : k = D := by first | omega | (simp only [List.length_map, List.length_range] at *; omega)
  refine pwp_exit ?_
  refine exit_seq ?_
  clear hK12 K12
  refine exit_loop ?_
  refine exit_here ?_
  refine seq_norm (hK5 _ ?_); clear hK5 K5
  obtain ⟨g28, ev30, hg29⟩ := SliceAt.isRef hihj10_0 (by intro q; have q2 := congrArg List.length q; simp only [List.length_map, List.length_range, List.length_nil] at q2; omega)
  subst ev30
  refine pwp_seq_plain rfl fun K31 hK31 => ?_
  refine p_aS rfl ?_
  refine p_end (hK31 _ ?_); clear hK31 K31
  refine pwp_seq_seq ?_
  refine pwp_seq_plain rfl fun K32 hK32 => ?_
  refine p_aS rfl ?_
  refine p_end (hK32 _ ?_); clear hK32 K32
  refine pwp_seq_block fun K33 hK33 => ?_
  refine pwp_loopR (α := Nat × Int) [0, 2, 8] (fun (a34 : Nat × Int) => [(11, .int (a34.2)), (12, .int (a34.1))]) (fun (a34 : Nat × Int) (h : Heap) (_ : Nat → Nat) => ((a34.1) ≤ D) ∧ ((a34.2) = tkN (fun e_ => lvl (fun i_ => C i_ - G i_) (e_ + 1)) N D (a34.1)) ∧ (h (37, g28) = some (.rows 1 ((((List.range k).map (fun e_ => lvl (fun i_ => C i_ - G i_) (e_ + 1)))).map ci)))) (fun (a34 : Nat × Int) => D - (a34.1)) (0, 0) (by exact ⟨rfl, rfl, trivial⟩) (by exact ⟨by exact Nat.zero_le _, by exact rfl, hg29⟩) fun a34 r35 h36 c37 hj38 => ?_
  obtain ⟨d, s⟩ := a34
  obtain ⟨hd, hs, hihj38_0⟩ := hj38
  try dsimp only at hd
  try dsimp only at hs
  try dsimp only at hihj38_0
  show pwp _ _ (loopQ _ _ _) ⟨sets (mix _ _ _) [(11, .int s), (12, .int d)], _, _⟩
  refine pwp_seq_seq ?_
  refine pwp_seq_plain rfl fun K39 hK39 => ?_
  refine p_mS rfl ?_
  refine p_e rfl (e_move (v := .lit _ _ _) rfl) ?_
  refine p_e rfl (e_len rfl (by kernel_rfl)) ?_
  refine p_e rfl (e_lt rfl rfl) ?_
  refine p_end (hK39 _ ?_); clear hK39 K39
  refine pwp_seq_cond rfl fun K40 hK40 => ⟨fun hb41 => ?_, fun hb41 => ?_⟩
  ·have hb41R := hb41; try simp only [zz] at hb41
   have hdD : d < D := by first | omega | (simp only [List.length_map, List.length_range] at *; omega)
   have hxn : ((List.range D).map N)[d]? = some (N d) := mcell1 hdD
   have hxl : ((List.range k).map (fun e_ => lvl (fun i_ => C i_ - G i_) (e_ + 1)))[d]? = some ((fun e_ => lvl (fun i_ => C i_ - G i_) (e_ + 1)) d) := mcell1 (by omega)
   have hb1 := hN d hdD
   have hb2 := tkN_b (L := (fun e_ => lvl (fun i_ => C i_ - G i_) (e_ + 1))) (D := D) hN (d := d) (by omega)
   refine pwp_skip ?_
   refine seq_norm (hK40 _ ?_); clear hK40 K40
   refine pwp_seq_block fun K42 hK42 => ?_
   refine pwp_seq_plain rfl fun K43 hK43 => ?_
   refine p_e rfl (e_move (v := .ref _ _ _ _) rfl) ?_
   refine p_mS rfl ?_
   refine p_e rfl (e_ixaR0 rfl rfl (by kernel_rfl) (by kernel_rfl) (by first | omega | (simp only [List.length_map, List.length_range]; omega))) ?_
   refine p_e rfl (e_loadI (a := ((fun e_ => lvl (fun i_ => C i_ - G i_) (e_ + 1)) d)) rfl hihj38_0 (by kernel_rfl) (by kernel_rfl) (by kernel_rfl) hxl) ?_
   refine p_aS rfl ?_
   refine p_end (hK43 _ ?_); clear hK43 K43
   refine pwp_seq_seq ?_
   refine pwp_seq_plain rfl fun K44 hK44 => ?_
   refine p_mS rfl ?_
   refine p_aS rfl ?_
   refine p_end (hK44 _ ?_); clear hK44 K44
   refine pwp_seq_block fun K45 hK45 => ?_
   refine pwp_loopR (α := Nat × Int) [0, 2, 8, 11, 12] (fun (a46 : Nat × Int) => [(13, .int (a46.2)), (14, .int (a46.1))]) (fun (a46 : Nat × Int) (h : Heap) (_ : Nat → Nat) => (d ≤ (a46.1)) ∧ ((a46.1) ≤ D) ∧ (MnTo (fun e_ => lvl (fun i_ => C i_ - G i_) (e_ + 1)) D d (a46.1) (a46.2)) ∧ (h (37, g28) = some (.rows 1 ((((List.range k).map (fun e_ => lvl (fun i_ => C i_ - G i_) (e_ + 1)))).map ci)))) (fun (a46 : Nat × Int) => D - (a46.1)) (d, ((fun e_ => lvl (fun i_ => C i_ - G i_) (e_ + 1)) d)) (by exact ⟨rfl, rfl, trivial⟩) (by exact ⟨by exact Nat.le_refl _, by omega, by exact mn_0 hdD, hihj38_0⟩) fun a46 r47 h48 c49 hj50 => ?_
   obtain ⟨j, m⟩ := a46
   obtain ⟨hj, hj2, hm, hihj50_0⟩ := hj50
   try dsimp only at hj
   try dsimp only at hj2
   try dsimp only at hm
   try dsimp only at hihj50_0
   show pwp _ _ (loopQ _ _ _) ⟨sets (mix _ _ _) [(13, .int m), (14, .int j)], _, _⟩
   refine pwp_seq_seq ?_
   refine pwp_seq_plain rfl fun K51 hK51 => ?_
   refine p_mS rfl ?_
   refine p_e rfl (e_move (v := .ref _ _ _ _) rfl) ?_
   refine p_e rfl (e_lenR rfl (by kernel_rfl)) ?_
   refine p_e rfl (e_lt rfl rfl) ?_
   refine p_end (hK51 _ ?_); clear hK51 K51
   refine pwp_seq_cond rfl fun K52 hK52 => ⟨fun hb53 => ?_, fun hb53 => ?_⟩
   ·have hb53R := hb53; try simp only [zz] at hb53
    have hjD : j < D := by first | omega | (simp only [List.length_map, List.length_range] at *; omega)
    have hxj : ((List.range k).map (fun e_ => lvl (fun i_ => C i_ - G i_) (e_ + 1)))[j]? = some ((fun e_ => lvl (fun i_ => C i_ - G i_) (e_ + 1)) j) := mcell1 (by omega)
    refine pwp_skip ?_
    refine seq_norm (hK52 _ ?_); clear hK52 K52
    refine pwp_seq_block fun K54 hK54 => ?_
    refine pwp_plain rfl fun K55 hK55 => ?_
    refine p_mS rfl ?_
    refine p_e rfl (e_move (v := .ref _ _ _ _) rfl) ?_
    refine p_mS rfl ?_
    refine p_e rfl (e_ixaR0 rfl rfl (by kernel_rfl) (by kernel_rfl) (by first | omega | (simp only [List.length_map, List.length_range]; omega))) ?_
    refine p_e rfl (e_loadI (a := ((fun e_ => lvl (fun i_ => C i_ - G i_) (e_ + 1)) j)) rfl hihj50_0 (by kernel_rfl) (by kernel_rfl) (by kernel_rfl) hxj) ?_
    refine p_e rfl (e_min rfl rfl) ?_
    refine p_aS rfl ?_
    refine p_end (hK55 _ ?_); clear hK55 K55
    refine block_norm ?_
    refine seq_norm (hK54 _ ?_); clear hK54 K54
    refine pwp_plain rfl fun K56 hK56 => ?_
    refine p_mS rfl ?_
    refine p_e rfl (e_add rfl rfl (by first | omega | (simp only [List.length_map, List.length_range] at *; omega))) ?_
    refine p_aS rfl ?_
    refine p_end (hK56 _ ?_); clear hK56 K56
    exact loop_again ((j + 1, (min m ((fun e_ => lvl (fun i_ => C i_ - G i_) (e_ + 1)) j)))) (by show _ < _; simp only; omega) ⟨rfl, rfl, rfl, rfl, rfl, trivial⟩ ⟨rfl, rfl, trivial⟩ (by exact ⟨by dsimp only; omega, by dsimp only; omega, by exact mn_s hm hj hjD, hihj50_0⟩)
   ·have hb53R := hb53; try simp only [zz] at hb53
    have hjj : j = D := by first | omega | (simp only [List.length_map, List.length_range] at *; omega)
    have hmm := mn_end (hjj ▸ hm) hdD
    refine pwp_exit ?_
    refine exit_seq ?_
    clear hK52 K52
    refine exit_loop ?_
    refine exit_here ?_
    refine seq_norm (hK45 _ ?_); clear hK45 K45
    refine pwp_plain rfl fun K57 hK57 => ?_
    refine p_mS rfl ?_
    refine p_e rfl (e_move (v := .lit _ _ _) rfl) ?_
    refine p_mS rfl ?_
    refine p_e rfl (e_ixa rfl rfl (by kernel_rfl) (by kernel_rfl) (by first | omega | (simp only [List.length_map, List.length_range]; omega))) ?_
    refine p_e rfl (e_load (v := .sc _) rfl (by kernel_rfl) (by kernel_rfl) (by kernel_rfl) (by first | omega | (simp only [List.length_map, List.length_range]; omega)) (by decide) ((cell_map hxn _).trans rfl)) ?_
    refine p_e rfl (e_add rfl rfl (by first | omega | (simp only [List.length_map, List.length_range] at *; omega))) ?_
    refine p_mS rfl ?_
    refine p_mS rfl ?_
    refine p_e rfl (e_max rfl rfl) ?_
    refine p_e rfl (e_min rfl rfl) ?_
    refine p_aS rfl ?_
    refine p_end (hK57 _ ?_); clear hK57 K57
    refine block_norm ?_
    refine seq_norm (hK42 _ ?_); clear hK42 K42
    refine pwp_plain rfl fun K58 hK58 => ?_
    refine p_mS rfl ?_
    refine p_e rfl (e_add rfl rfl (by first | omega | (simp only [List.length_map, List.length_range] at *; omega))) ?_
    refine p_aS rfl ?_
    refine p_end (hK58 _ ?_); clear hK58 K58
    exact loop_again ((d + 1, (min (s + (N d)) (max m s)))) (by show _ < _; simp only; omega) ⟨rfl, rfl, rfl, trivial⟩ ⟨rfl, rfl, trivial⟩ (by exact ⟨by show _ + 1 ≤ _; omega, by rw [tkN, ← hs, ← hmm], hihj50_0⟩)
  ·have hb41R := hb41; try simp only [zz] at hb41
   have hdd : d = D := by first | omega | (simp only [List.length_map, List.length_range] at *; omega)
   refine pwp_exit ?_
   refine exit_seq ?_
   clear hK40 K40
   refine exit_loop ?_
   refine exit_here ?_
   refine seq_norm (hK33 _ ?_); clear hK33 K33
   refine pwp_seq_plain rfl fun K59 hK59 => ?_
   refine p_mS rfl ?_
   refine p_aS rfl ?_
   refine p_aS rfl ?_
   refine p_end (hK59 _ ?_); clear hK59 K59
   refine pwp_ret ?_
   refine end2 (v := .sc _) (w := .sc _) rfl rfl ?_
   first
     | exact out_pb (tkR_f (C := C) (G := G) (N := N) hkD (by omega))
     | exact out_pb (by rw [hs, hdd]; exact tkR_t (fun d hd => hin d (by omega)))

end Go.Proofs.Ytigdmkhdmbbfiaa
