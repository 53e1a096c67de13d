/- Stages: what the program tells. No conditions. -/
import Derived.Test.YtjmjiegplnfiiaaEnd
set_option linter.unusedSimpArgs false
set_option linter.unusedVariables false
set_option maxRecDepth 100000
namespace Go.Proofs.Ytjmjiegplnfiiaa
open Go Go.Pv
/-! ### Stages -/
def clN (xs : List Task) (D : List Int) (z : Int) : Bool := (nd_ (ndX xs) z.toNat).all fun y => decide (y ∈ D)
/-- A list is a stage. -/
def closedB (xs : List Task) (D : List Int) : Bool := D.all (clN xs D)
def readyL (xs : List Task) (D : List Int) : List Int := ((List.range xs.length).filter fun i => rdyB (ndX xs) D i).map fun i : Nat => (i : Int)
def withE (xs : List Task) (D : List Int) : Int := if planE xs ≠ 0 then planE xs else listE D xs.length
def readyX (xs : List Task) (D : List Int) : List Int × Int := if withE xs D ≠ 0 then ([], withE xs D) else if closedB xs D = false then ([], 21) else (readyL xs D, 0)
def closedX (xs : List Task) (D : List Int) : Bool × Int := if withE xs D ≠ 0 then (false, withE xs D) else (closedB xs D, 0)
section
variable {xs : List Task} {D : List Int} {k : Nat}
theorem closed_no (hk : k < D.length) {y : Int} (hy : y ∈ nd_ (ndX xs) (at0 D k).toNat) (h : y ∉ D) : false = closedB xs D := by
  symm; simp only [closedB, List.all_eq_false]
  refine ⟨_, at0_mem hk, ?_⟩
  rw [Bool.not_eq_true, clN, List.all_eq_false]
  exact ⟨y, hy, by simpa using h⟩
theorem closed_nB (hk : k < D.length) (h : clN xs D (at0 D k) = false) : false = closedB xs D := by
  symm; simp only [closedB, List.all_eq_false]
  exact ⟨_, at0_mem hk, by rw [h]; decide⟩
theorem closed_yes (h : ∀ i, i < k → clN xs D (at0 D i) = true) (hk : D.length ≤ k) : true = closedB xs D := by
  symm; simp only [closedB, List.all_eq_true]
  intro z hz
  obtain ⟨i, h1, rfl⟩ := mem_at0 hz
  exact h i (by omega)
theorem cl_all {l : List Int} (he : nd_ (ndX xs) (at0 D k).toNat = l) {j : Nat} (h : ∀ i, i < j → at0 l i ∈ D) (hj : l.length ≤ j) : clN xs D (at0 D k) = true := by
  rw [clN, he, List.all_eq_true]
  intro z hz
  obtain ⟨i, h1, rfl⟩ := mem_at0 hz
  exact decide_eq_true (h i (by omega))
theorem cl_has {x : Task} (hx : xs[(at0 D k).toNat]? = some x) (h : ∀ z ∈ x.needs, 0 ≤ z ∧ z < xs.length) : hasB (doneB xs.length D) x.needs = clN xs D (at0 D k) := by
  rw [has_done h, clN, ndX_at hx]
theorem done_snoc {n u : Nat} (hk : k < D.length) (hu : at0 D k = (u : Int)) (hn : u < n) : (doneB n (D.take k)).set u true = doneB n (D.take (k + 1)) := by
  rw [doneB_set hn, ← List.take_append_getElem hk, at0_elem hk, hu]
theorem done_get {n : Nat} {z : Int} (h : 0 ≤ z ∧ z < n) : (doneB n D)[z.toNat]? = some (decide (z ∈ D)) := by
  rw [doneB_get (by omega), Int.toNat_of_nonneg h.1]
theorem mem_rng {l : List Int} {n : Int} (h : ∀ z ∈ l, 0 ≤ z ∧ z < n) (hk : k < l.length) : ∃ u : Nat, at0 l k = (u : Int) ∧ (u : Int) < n := by
  have := h _ (at0_mem hk)
  exact ⟨(at0 l k).toNat, by omega, by omega⟩
def readyP (xs : List Task) (D : List Int) (k : Nat) : List Int := ((List.range k).filter fun i => rdyB (ndX xs) D i).map fun i : Nat => (i : Int)
theorem readyP_t (h : rdyB (ndX xs) D k = true) : readyP xs D (k + 1) = readyP xs D k ++ [(k : Int)] := by
  simp only [readyP, List.range_succ, List.filter_append, List.map_append]
  rw [List.filter_cons_of_pos h]; rfl
theorem readyP_f (h : rdyB (ndX xs) D k = false) : readyP xs D (k + 1) = readyP xs D k := by
  simp only [readyP, List.range_succ, List.filter_append, List.map_append]
  rw [List.filter_cons_of_neg (by rw [h]; decide)]; simp
theorem rows_t (h : rdyB (ndX xs) D k = true) : (readyP xs D k).map ci ++ [ci (k : Int)] = (readyP xs D (k + 1)).map ci := by
  rw [readyP_t h, List.map_append]; rfl
theorem rows_f (h : rdyB (ndX xs) D k = false) : (readyP xs D k).map ci = (readyP xs D (k + 1)).map ci := by rw [readyP_f h]
theorem readyP_len : (readyP xs D k).length ≤ k := by
  simp only [readyP, List.length_map]
  have := List.length_filter_le (fun i => rdyB (ndX xs) D i) (List.range k)
  simpa using this
theorem withE_ok (h : withE xs D = 0) : planE xs = 0 ∧ (∀ z ∈ D, 0 ≤ z ∧ z < xs.length) ∧ ascB D = true := by
  unfold withE at h
  split at h
  · rename_i h1; exact absurd h h1
  · rename_i h1
    exact ⟨Decidable.not_not.1 h1, listE_ok h⟩
theorem with_p (h : planE xs ≠ 0) : planE xs = withE xs D := (if_pos h).symm
theorem with_l (h : planE xs = 0) : listE D xs.length = withE xs D := (if_neg (fun q => q h)).symm
theorem ready_w (h : withE xs D ≠ 0) : readyX xs D = ([], withE xs D) := if_pos h
theorem ready_c (h : withE xs D = 0) (h2 : closedB xs D = false) : readyX xs D = ([], 21) := by rw [readyX, if_neg (fun q => q h), if_pos h2]
theorem ready_0 (h : withE xs D = 0) (h2 : closedB xs D = true) : readyX xs D = (readyL xs D, 0) := by rw [readyX, if_neg (fun q => q h), if_neg (by rw [h2]; decide)]
theorem closedX_w (h : withE xs D ≠ 0) : closedX xs D = (false, withE xs D) := if_pos h
theorem closedX_0 (h : withE xs D = 0) : closedX xs D = (closedB xs D, 0) := if_neg (fun q => q h)
theorem ready_out0 {h : Heap} {e : Int} (he : readyX xs D = ([], e)) : Out h (.tup [.nil, .int e]) (.tup [.lit false 1 ((readyX xs D).1.map ci), .int (readyX xs D).2]) := by
  rw [he]; exact out_2 (.nil 1) (out_i rfl)
theorem ready_out {h : Heap} {d : Nat} {v : PV} {rows : Pv.Rows} (he : readyX xs D = (readyL xs D, 0)) (hv : SliceAt h d v 1 rows) (hr : rows = (readyP xs D k).map ci) (hk : k = xs.length) : Out h (.tup [v, .int 0]) (.tup [.lit false 1 ((readyX xs D).1.map ci), .int (readyX xs D).2]) := by
  subst hk; rw [he]
  exact out_2 (out_slice hv hr (fun _ => rfl) fun a p hp => by simp [ci] at hp; subst hp; exact ⟨.sc _, rfl⟩) (out_i rfl)
theorem closed_out {h : Heap} {a : Bool} {e : Int} (he : closedX xs D = (a, e)) : Out h (.tup [.bool a, .int e]) (.tup [.bool (closedX xs D).1, .int (closedX xs D).2]) := by
  rw [he]; exact out_2 (out_b rfl) (out_i rfl)
end
theorem out_bools {h : Heap} {d g n : Nat} {bs : List Bool} (hk : h (d, g) = some (.rows 1 (bs.map cbo))) (hl : bs.length = n) : Out h (.ref (d, g) 1 0 n) (.lit false 1 (bs.map cbo)) :=
  out_slice (.ofRef hk (by rw [List.length_map, hl])) rfl (fun _ => rfl) fun a p hp => by simp [cbo] at hp; subst hp; exact ⟨.sc _, rfl⟩

theorem fr68 : (inFrame Try.f68.ntmps (Try.f68.body.getD .skip) && Try.f68.results.toList.all (resScope Try.f68.ntmps)) = true := by kernel_rfl
theorem marksC (xs : List Task) (ds : List Int) (hxl : xs.length ≤ 15) (hdl : ds.length ≤ 30) (hdr : ∀ z ∈ ds, 0 ≤ z ∧ z < xs.length) : PCalls Try.prog 68 [.lit true 6 (xs.map Task.enc), .lit true 1 (ds.map ci)] (.lit false 1 ((doneB xs.length ds).map cbo)) := by
  refine PCalls.of_code Try.func68 rfl rfl (by kernel_rfl) mixed fr68 (by show _ ≤ 23; simp) (.lit _ _ _ fun row hr => pure_map cbo_pure row hr) ?_
  refine pwp_seq_plain rfl fun K1 hK1 => ?_
  refine p_step rfl (e_assign (v := .nil) rfl) trivial ?_
  refine p_end (hK1 _ ?_); clear hK1 K1
  refine pwp_seq_plain rfl fun K2 hK2 => ?_
  refine p_step rfl (e_move (v := .lit _ _ _) rfl) trivial ?_
  refine p_step rfl (e_len rfl (by kernel_rfl)) trivial ?_
  refine p_new rfl (e_mkB (n := xs.length) rfl rfl (by rw [List.length_map]) (by kernel_rfl) (by kernel_rfl) (by kernel_rfl) (by decide +kernel) (by omega)) trivial ?_
  rw [← doneB_nil (n := xs.length), ← List.take_zero (l := ds)]
  refine p_step rfl (e_assign (v := .ref _ _ _ _) rfl) trivial ?_
  refine p_end (hK2 _ ?_); clear hK2 K2
  refine pwp_seq_seq ?_
  refine pwp_seq_plain rfl fun K3 hK3 => ?_
  refine p_step rfl (e_assign (v := .sc _) rfl) trivial ?_
  refine p_end (hK3 _ ?_); clear hK3 K3
  refine pwp_seq_block fun K4 hK4 => ?_
  refine pwp_loopR (α := Nat) [1, 5] (fun (k : Nat) => [(6, .int (k))]) (fun (k : Nat) (h : Heap) (_ : Nat → Nat) => ((k) ≤ ds.length) ∧ (h (9, 0) = some (.rows 1 ((doneB xs.length (ds.take (k))).map cbo)))) (fun (k : Nat) => ds.length - (k)) (0) (by exact ⟨rfl, trivial⟩) (by exact ⟨by exact Nat.zero_le _, (hset_self _ _ _)⟩) fun k r5 h6 c7 hj8 => ?_
  obtain ⟨hk, hihj8_0⟩ := hj8
  try dsimp only at hk
  try dsimp only at hihj8_0
  show pwp _ _ (loopQ _ _ _) ⟨sets (mix _ _ _) [(6, .int k)], _, _⟩
  refine pwp_seq_seq ?_
  refine pwp_seq_plain rfl fun K9 hK9 => ?_
  refine p_step rfl (e_move (v := .sc _) rfl) trivial ?_
  refine p_step rfl (e_move (v := .lit _ _ _) rfl) trivial ?_
  refine p_step rfl (e_len rfl (by kernel_rfl)) trivial ?_
  refine p_step rfl (e_lt rfl rfl) trivial ?_
  refine p_end (hK9 _ ?_); clear hK9 K9
  refine pwp_seq_cond rfl fun K10 hK10 => ⟨fun hb11 => ?_, fun hb11 => ?_⟩
  ·have hb11R := hb11; try simp only [z1, z2, z3, z4, z5, z6, ne_eq, z7, z8, z9, z10, z11, z12] at hb11
   obtain ⟨u, hu, hul⟩ := mem_rng hdr (k := k) (by simp only [List.length_map] at *; omega)
   have hgu : ds[k]? = some (u : Int) := by rw [at0_get (by simp only [List.length_map] at *; omega), hu]
   refine pwp_skip ?_
   refine seq_norm (hK10 _ ?_); clear hK10 K10
   refine pwp_seq_block fun K12 hK12 => ?_
   refine pwp_plain rfl fun K13 hK13 => ?_
   refine p_step rfl (e_move (v := .ref _ _ _ _) rfl) trivial ?_
   refine p_step rfl (e_move (v := .lit _ _ _) rfl) trivial ?_
   refine p_step rfl (e_move (v := .sc _) rfl) trivial ?_
   refine p_step rfl (e_ixa rfl rfl (by kernel_rfl) (by kernel_rfl) (by first | omega | (simp only [List.length_map]; omega))) trivial ?_
   refine p_step rfl (e_load (v := .sc _) rfl (by kernel_rfl) (by kernel_rfl) (by kernel_rfl) (by first | omega | (simp only [List.length_map]; omega)) (by decide) ((cell_map hgu _).trans rfl)) trivial ?_
   refine p_step rfl (e_ixaR0 rfl rfl (by kernel_rfl) (by kernel_rfl) (by omega)) trivial ?_
   refine p_store rfl (e_storeB (zs := (doneB xs.length (ds.take k))) (a := true) rfl hihj8_0 rfl (by (first | omega | (rw [doneB_len]; omega))) (by kernel_rfl) (by kernel_rfl)) trivial ?_
   refine p_end (hK13 _ ?_); clear hK13 K13
   refine block_norm ?_
   refine seq_norm (hK12 _ ?_); clear hK12 K12
   refine pwp_plain rfl fun K14 hK14 => ?_
   refine p_step rfl (e_move (v := .sc _) rfl) trivial ?_
   refine p_step rfl (e_add rfl rfl (by first | omega | (simp only [List.length_map] at *; omega))) trivial ?_
   refine p_step rfl (e_assign (v := .sc _) rfl) trivial ?_
   refine p_end (hK14 _ ?_); clear hK14 K14
   exact loop_again (k + 1) (by show _ < _; omega) ⟨rfl, rfl, trivial⟩ ⟨rfl, trivial⟩ (by exact ⟨by show _ + 1 ≤ _; simp only [List.length_map] at *; omega, ((hset_self _ _ _).trans (by (rw [← done_snoc (by omega) hu (by omega)]; rfl)))⟩)
  ·have hb11R := hb11; try simp only [z1, z2, z3, z4, z5, z6, ne_eq, z7, z8, z9, z10, z11, z12] at hb11
   obtain rfl : k = ds.length := by simp only [List.length_map] at *; omega
   refine pwp_exit ?_
   refine exit_seq ?_
   clear hK10 K10
   refine exit_loop ?_
   refine exit_here ?_
   refine seq_norm (hK4 _ ?_); clear hK4 K4
   refine pwp_seq_plain rfl fun K15 hK15 => ?_
   refine p_step rfl (e_move (v := .ref _ _ _ _) rfl) trivial ?_
   refine p_step rfl (e_assign (v := .ref _ _ _ _) rfl) trivial ?_
   refine p_end (hK15 _ ?_); clear hK15 K15
   refine pwp_ret ?_
   refine end1 (v := .ref _ _ _ _) rfl ?_
   simp only [List.take_length] at *
   exact out_bools (by assumption) doneB_len

theorem fr78 : (inFrame Try.f78.ntmps (Try.f78.body.getD .skip) && Try.f78.results.toList.all (resScope Try.f78.ntmps)) = true := by kernel_rfl
theorem stageC (xs : List Task) (ds : List Int) (hp : planE xs = 0) (hxl : xs.length ≤ 15) (hdl : ds.length ≤ 30) (hdr : ∀ z ∈ ds, 0 ≤ z ∧ z < xs.length) (hnl : ∀ x ∈ xs, x.needs.length ≤ 1000) : PCalls Try.prog 78 [.lit true 6 (xs.map Task.enc), .lit true 1 (ds.map ci)] (.tup [.lit false 1 ((doneB xs.length ds).map cbo), .bool (closedB xs ds)]) := by
  refine PCalls.of_code Try.func78 rfl rfl (by kernel_rfl) mixed fr78 (by show _ ≤ 51; simp) (pure_2 (.lit _ _ _ fun row hr => pure_map cbo_pure row hr) (.sc _)) ?_
  refine pwp_seq_plain rfl fun K1 hK1 => ?_
  refine p_step rfl (e_assign (v := .nil) rfl) trivial ?_
  refine p_step rfl (e_assign (v := .sc _) rfl) trivial ?_
  refine p_end (hK1 _ ?_); clear hK1 K1
  refine pwp_seq_plain rfl fun K2 hK2 => ?_
  refine p_step rfl (e_move (v := .lit _ _ _) rfl) trivial ?_
  refine p_step rfl (e_len rfl (by kernel_rfl)) trivial ?_
  refine p_new rfl (e_mkB (n := xs.length) rfl rfl (by rw [List.length_map]) (by kernel_rfl) (by kernel_rfl) (by kernel_rfl) (by decide +kernel) (by omega)) trivial ?_
  rw [← doneB_nil (n := xs.length), ← List.take_zero (l := ds)]
  refine p_step rfl (e_assign (v := .ref _ _ _ _) rfl) trivial ?_
  refine p_end (hK2 _ ?_); clear hK2 K2
  refine pwp_seq_seq ?_
  refine pwp_seq_plain rfl fun K3 hK3 => ?_
  refine p_step rfl (e_move (v := .lit _ _ _) rfl) trivial ?_
  refine p_step rfl (e_len rfl (by kernel_rfl)) trivial ?_
  refine p_step rfl (e_move (v := .sc _) rfl) trivial ?_
  refine p_end (hK3 _ ?_); clear hK3 K3
  refine pwp_seq_block fun K4 hK4 => ?_
  refine pwp_loopR (α := Nat) [0, 1, 6, 16, 17] (fun (k : Nat) => [(18, .int (k))]) (fun (k : Nat) (h : Heap) (_ : Nat → Nat) => ((k) ≤ ds.length) ∧ (h (15, 0) = some (.rows 1 ((doneB xs.length (ds.take (k))).map cbo)))) (fun (k : Nat) => ds.length - (k)) (0) (by exact ⟨rfl, trivial⟩) (by exact ⟨by exact Nat.zero_le _, (hset_self _ _ _)⟩) fun k r5 h6 c7 hj8 => ?_
  obtain ⟨hk, hihj8_0⟩ := hj8
  try dsimp only at hk
  try dsimp only at hihj8_0
  show pwp _ _ (loopQ _ _ _) ⟨sets (mix _ _ _) [(18, .int k)], _, _⟩
  refine pwp_seq_plain rfl fun K9 hK9 => ?_
  refine p_step rfl (e_lt rfl rfl) trivial ?_
  refine p_end (hK9 _ ?_); clear hK9 K9
  refine pwp_seq_cond rfl fun K10 hK10 => ⟨fun hb11 => ?_, fun hb11 => ?_⟩
  ·have hb11R := hb11; try simp only [z1, z2, z3, z4, z5, z6, ne_eq, z7, z8, z9, z10, z11, z12] at hb11
   obtain ⟨u, hu, hul⟩ := mem_rng hdr (k := k) (by simp only [List.length_map] at *; omega)
   have hgu : ds[k]? = some (u : Int) := by rw [at0_get (by simp only [List.length_map] at *; omega), hu]
   refine pwp_skip ?_
   refine seq_norm (hK10 _ ?_); clear hK10 K10
   refine pwp_seq_block fun K12 hK12 => ?_
   refine pwp_seq_plain rfl fun K13 hK13 => ?_
   refine p_step rfl (e_ixa rfl rfl (by kernel_rfl) (by kernel_rfl) (by first | omega | (simp only [List.length_map]; omega))) trivial ?_
   refine p_step rfl (e_load (v := .sc _) rfl (by kernel_rfl) (by kernel_rfl) (by kernel_rfl) (by first | omega | (simp only [List.length_map]; omega)) (by decide) ((cell_map hgu _).trans rfl)) trivial ?_
   refine p_step rfl (e_assign (v := .sc _) rfl) trivial ?_
   refine p_end (hK13 _ ?_); clear hK13 K13
   refine pwp_plain rfl fun K14 hK14 => ?_
   refine p_step rfl (e_move (v := .ref _ _ _ _) rfl) trivial ?_
   refine p_step rfl (e_move (v := .sc _) rfl) trivial ?_
   refine p_step rfl (e_ixaR0 rfl rfl (by kernel_rfl) (by kernel_rfl) (by omega)) trivial ?_
   refine p_store rfl (e_storeB (zs := (doneB xs.length (ds.take k))) (a := true) rfl hihj8_0 rfl (by (first | omega | (rw [doneB_len]; omega))) (by kernel_rfl) (by kernel_rfl)) trivial ?_
   refine p_end (hK14 _ ?_); clear hK14 K14
   refine block_norm ?_
   refine seq_norm (hK12 _ ?_); clear hK12 K12
   refine pwp_plain rfl fun K15 hK15 => ?_
   refine p_step rfl (e_add rfl rfl (by first | omega | (simp only [List.length_map] at *; omega))) trivial ?_
   refine p_step rfl (e_move (v := .sc _) rfl) trivial ?_
   refine p_end (hK15 _ ?_); clear hK15 K15
   exact loop_again (k + 1) (by show _ < _; omega) ⟨rfl, rfl, rfl, rfl, rfl, trivial⟩ ⟨rfl, trivial⟩ (by exact ⟨by show _ + 1 ≤ _; simp only [List.length_map] at *; omega, ((hset_self _ _ _).trans (by (rw [← done_snoc (by omega) hu (by omega)]; rfl)))⟩)
  ·have hb11R := hb11; try simp only [z1, z2, z3, z4, z5, z6, ne_eq, z7, z8, z9, z10, z11, z12] at hb11
   obtain rfl : k = ds.length := by simp only [List.length_map] at *; omega
   refine pwp_exit ?_
   refine exit_seq ?_
   clear hK10 K10
   refine exit_loop ?_
   refine exit_here ?_
   refine seq_norm (hK4 _ ?_); clear hK4 K4
   refine pwp_seq_seq ?_
   simp only [List.take_length] at *
   refine pwp_seq_plain rfl fun K16 hK16 => ?_
   refine p_step rfl (e_move (v := .lit _ _ _) rfl) trivial ?_
   refine p_step rfl (e_len rfl (by kernel_rfl)) trivial ?_
   refine p_step rfl (e_move (v := .sc _) rfl) trivial ?_
   refine p_end (hK16 _ ?_); clear hK16 K16
   refine pwp_seq_block fun K17 hK17 => ?_
   refine pwp_loopR (α := Nat) [0, 6, 26, 27] (fun (k : Nat) => [(28, .int (k))]) (fun (k : Nat) (h : Heap) (_ : Nat → Nat) => ((k) ≤ ds.length) ∧ (∀ i, i < (k) → clN xs ds (at0 ds i) = true) ∧ (h (15, 0) = some (.rows 1 ((doneB xs.length ds).map cbo)))) (fun (k : Nat) => ds.length - (k)) (0) (by exact ⟨rfl, trivial⟩) (by exact ⟨by exact Nat.zero_le _, by exact upto_0, hihj8_0⟩) fun k r18 h19 c20 hj21 => ?_
   obtain ⟨hk, hcl, hihj21_0⟩ := hj21
   try dsimp only at hk
   try dsimp only at hcl
   try dsimp only at hihj21_0
   show pwp _ _ (loopQ _ _ _) ⟨sets (mix _ _ _) [(28, .int k)], _, _⟩
   refine pwp_seq_plain rfl fun K22 hK22 => ?_
   refine p_step rfl (e_lt rfl rfl) trivial ?_
   refine p_end (hK22 _ ?_); clear hK22 K22
   refine pwp_seq_cond rfl fun K23 hK23 => ⟨fun hb24 => ?_, fun hb24 => ?_⟩
   ·have hb24R := hb24; try simp only [z1, z2, z3, z4, z5, z6, ne_eq, z7, z8, z9, z10, z11, z12] at hb24
    obtain ⟨u, hu, hul⟩ := mem_rng hdr (k := k) (by simp only [List.length_map] at *; omega)
    have hgu : ds[k]? = some (u : Int) := by rw [at0_get (by simp only [List.length_map] at *; omega), hu]
    obtain ⟨x, hx, _, _⟩ := get_lt (xs := xs) (i := u) (by omega)
    have hxn := (task_ok hp hx).2.2.2.1
    have hxn2 : nd_ (ndX xs) (at0 ds k).toNat = x.needs := by rw [hu]; exact ndX_at hx
    have hxl1 := hnl x (List.mem_of_getElem? hx)
    refine pwp_skip ?_
    refine seq_norm (hK23 _ ?_); clear hK23 K23
    refine pwp_seq_block fun K25 hK25 => ?_
    refine pwp_seq_plain rfl fun K26 hK26 => ?_
    refine p_step rfl (e_ixa rfl rfl (by kernel_rfl) (by kernel_rfl) (by first | omega | (simp only [List.length_map]; omega))) trivial ?_
    refine p_step rfl (e_load (v := .sc _) rfl (by kernel_rfl) (by kernel_rfl) (by kernel_rfl) (by first | omega | (simp only [List.length_map]; omega)) (by decide) ((cell_map hgu _).trans rfl)) trivial ?_
    refine p_step rfl (e_assign (v := .sc _) rfl) trivial ?_
    refine p_end (hK26 _ ?_); clear hK26 K26
    refine pwp_seq_plain rfl fun K27 hK27 => ?_
    refine p_step rfl (e_move (v := .lit _ _ _) rfl) trivial ?_
    refine p_step rfl (e_move (v := .sc _) rfl) trivial ?_
    refine p_step rfl (e_ixa rfl rfl (by kernel_rfl) (by kernel_rfl) (by first | omega | (simp only [List.length_map]; omega))) trivial ?_
    refine p_step rfl (e_fa (pl := [(0, 1, false), (1, 1, false), (2, 1, false), (3, 1, false), (4, 1, false), (5, 1, false)]) rfl (by kernel_rfl) (by kernel_rfl) (by decide) rfl) trivial ?_
    refine p_step rfl (e_load (v := .lit _ _ _) rfl (by kernel_rfl) (by kernel_rfl) (by kernel_rfl) (by first | omega | (simp only [List.length_map]; omega)) (by decide) ((cell_map hx _).trans rfl)) trivial ?_
    refine p_step rfl (e_len rfl (by kernel_rfl)) trivial ?_
    refine p_step rfl (e_move (v := .sc _) rfl) trivial ?_
    refine p_end (hK27 _ ?_); clear hK27 K27
    refine pwp_block ?_
    refine pwp_loopR (α := Nat) [0, 6, 26, 27, 28, 36, 37] (fun (j : Nat) => [(38, .int (j))]) (fun (j : Nat) (h : Heap) (_ : Nat → Nat) => ((j) ≤ x.needs.length) ∧ (∀ i, i < (j) → at0 x.needs i ∈ ds) ∧ (h (15, 0) = some (.rows 1 ((doneB xs.length ds).map cbo)))) (fun (j : Nat) => x.needs.length - (j)) (0) (by exact ⟨rfl, trivial⟩) (by exact ⟨by exact Nat.zero_le _, by exact upto_0, hihj21_0⟩) fun j r28 h29 c30 hj31 => ?_
    obtain ⟨hj, hin, hihj31_0⟩ := hj31
    try dsimp only at hj
    try dsimp only at hin
    try dsimp only at hihj31_0
    show pwp _ _ (loopQ _ _ _) ⟨sets (mix _ _ _) [(38, .int j)], _, _⟩
    refine pwp_seq_plain rfl fun K32 hK32 => ?_
    refine p_step rfl (e_lt rfl rfl) trivial ?_
    refine p_end (hK32 _ ?_); clear hK32 K32
    refine pwp_seq_cond rfl fun K33 hK33 => ⟨fun hb34 => ?_, fun hb34 => ?_⟩
    ·have hb34R := hb34; try simp only [z1, z2, z3, z4, z5, z6, ne_eq, z7, z8, z9, z10, z11, z12] at hb34
     have hz := hxn _ (at0_mem (l := x.needs) (i := j) (by simp only [List.length_map] at *; omega))
     refine pwp_skip ?_
     refine seq_norm (hK33 _ ?_); clear hK33 K33
     refine pwp_seq_block fun K35 hK35 => ?_
     refine pwp_seq_plain rfl fun K36 hK36 => ?_
     refine p_step rfl (e_ixa rfl rfl (by kernel_rfl) (by kernel_rfl) (by first | omega | (simp only [List.length_map]; omega))) trivial ?_
     refine p_step rfl (e_load (v := .sc _) rfl (by kernel_rfl) (by kernel_rfl) (by kernel_rfl) (by first | omega | (simp only [List.length_map]; omega)) (by decide) ((cell_map (at0_get (l := x.needs) (i := j) (by omega)) _).trans rfl)) trivial ?_
     refine p_step rfl (e_assign (v := .sc _) rfl) trivial ?_
     refine p_end (hK36 _ ?_); clear hK36 K36
     refine pwp_seq_plain rfl fun K37 hK37 => ?_
     refine p_step rfl (e_move (v := .ref _ _ _ _) rfl) trivial ?_
     refine p_step rfl (e_move (v := .sc _) rfl) trivial ?_
     refine p_step rfl (e_ixaR0 rfl rfl (by kernel_rfl) (by kernel_rfl) (by omega)) trivial ?_
     refine p_step rfl (e_loadH (v := .sc _) rfl hihj31_0 (by kernel_rfl) (by kernel_rfl) (by kernel_rfl) (by simp only [List.length_map, doneB_len]; omega) (by decide) ((cell_map (done_get hz) _).trans rfl)) trivial ?_
     refine p_step rfl (e_not rfl) trivial ?_
     refine p_end (hK37 _ ?_); clear hK37 K37
     refine pwp_cond rfl (fun hb38 => ?_) (fun hb38 => ?_)
     ·have hb38R := hb38; try simp only [z1, z2, z3, z4, z5, z6, ne_eq, z7, z8, z9, z10, z11, z12] at hb38
      refine pwp_seq_plain rfl fun K39 hK39 => ?_
      refine p_step rfl (e_move (v := .ref _ _ _ _) rfl) trivial ?_
      refine p_step rfl (e_assign (v := .ref _ _ _ _) rfl) trivial ?_
      refine p_step rfl (e_assign (v := .sc _) rfl) trivial ?_
      refine p_end (hK39 _ ?_); clear hK39 K39
      refine pwp_ret ?_
      refine ret_block ?_
      refine ret_seq ?_
      refine ret_loop ?_
      refine ret_block ?_
      refine ret_block ?_
      refine ret_seq ?_
      refine ret_loop ?_
      refine ret_block ?_
      refine ret_seq ?_
      refine end2 (v := .ref _ _ _ _) (w := .sc _) rfl rfl ?_
      first
        | exact out_2 (out_bools (by assumption) doneB_len) (out_b (closed_no (k := k) (by simp only [List.length_map] at *; omega) (by rw [hxn2]; exact at0_mem (i := j) (by simp only [List.length_map] at *; omega)) (of_decide_eq_false (by simp_all))))
        | exact out_2 (out_bools (by assumption) doneB_len) (out_b (closed_yes hcl (by omega)))
     ·have hb38R := hb38; try simp only [z1, z2, z3, z4, z5, z6, ne_eq, z7, z8, z9, z10, z11, z12] at hb38
      refine pwp_skip ?_
      refine block_norm ?_
      refine seq_norm (hK35 _ ?_); clear hK35 K35
      refine pwp_plain rfl fun K40 hK40 => ?_
      refine p_step rfl (e_add rfl rfl (by first | omega | (simp only [List.length_map] at *; omega))) trivial ?_
      refine p_step rfl (e_move (v := .sc _) rfl) trivial ?_
      refine p_end (hK40 _ ?_); clear hK40 K40
      exact loop_again (j + 1) (by show _ < _; omega) ⟨rfl, rfl, rfl, rfl, rfl, rfl, rfl, trivial⟩ ⟨rfl, trivial⟩ (by exact ⟨by show _ + 1 ≤ _; simp only [List.length_map] at *; omega, by exact upto_step (p := fun i => at0 x.needs i ∈ ds) hin (by first | assumption | simp_all), hihj31_0⟩)
    ·have hb34R := hb34; try simp only [z1, z2, z3, z4, z5, z6, ne_eq, z7, z8, z9, z10, z11, z12] at hb34
     obtain rfl : j = x.needs.length := by simp only [List.length_map] at *; omega
     refine pwp_exit ?_
     refine exit_seq ?_
     clear hK33 K33
     refine exit_loop ?_
     refine exit_here ?_
     refine block_norm ?_
     refine seq_norm (hK25 _ ?_); clear hK25 K25
     refine pwp_plain rfl fun K41 hK41 => ?_
     refine p_step rfl (e_add rfl rfl (by first | omega | (simp only [List.length_map] at *; omega))) trivial ?_
     refine p_step rfl (e_move (v := .sc _) rfl) trivial ?_
     refine p_end (hK41 _ ?_); clear hK41 K41
     exact loop_again (k + 1) (by show _ < _; omega) ⟨rfl, rfl, rfl, rfl, trivial⟩ ⟨rfl, trivial⟩ (by exact ⟨by show _ + 1 ≤ _; simp only [List.length_map] at *; omega, by exact upto_step (p := fun i => clN xs ds (at0 ds i) = true) hcl (cl_all hxn2 hin (by omega)), hihj31_0⟩)
   ·have hb24R := hb24; try simp only [z1, z2, z3, z4, z5, z6, ne_eq, z7, z8, z9, z10, z11, z12] at hb24
    obtain rfl : k = ds.length := by simp only [List.length_map] at *; omega
    refine pwp_exit ?_
    refine exit_seq ?_
    clear hK23 K23
    refine exit_loop ?_
    refine exit_here ?_
    refine seq_norm (hK17 _ ?_); clear hK17 K17
    refine pwp_seq_plain rfl fun K42 hK42 => ?_
    refine p_step rfl (e_move (v := .ref _ _ _ _) rfl) trivial ?_
    refine p_step rfl (e_assign (v := .ref _ _ _ _) rfl) trivial ?_
    refine p_step rfl (e_assign (v := .sc _) rfl) trivial ?_
    refine p_end (hK42 _ ?_); clear hK42 K42
    refine pwp_ret ?_
    refine end2 (v := .ref _ _ _ _) (w := .sc _) rfl rfl ?_
    first
      | exact out_2 (out_bools (by assumption) doneB_len) (out_b (closed_no (k := k) (by simp only [List.length_map] at *; omega) (by rw [hxn2]; exact at0_mem (i := j) (by simp only [List.length_map] at *; omega)) (of_decide_eq_false (by simp_all))))
      | exact out_2 (out_bools (by assumption) doneB_len) (out_b (closed_yes hcl (by omega)))

theorem fr77 : (inFrame Try.f77.ntmps (Try.f77.body.getD .skip) && Try.f77.results.toList.all (resScope Try.f77.ntmps)) = true := by kernel_rfl
theorem withC (xs : List Task) (ds : List Int) (hfw : (xs.length : Int) ≤ 15 ∧ Fair xs) (hdl : ds.length ≤ 30) : PCalls Try.prog 77 [.lit true 6 (xs.map Task.enc), .lit true 1 (ds.map ci)] (.int (withE xs ds)) := by
  refine PCalls.of_code Try.func77 rfl rfl (by kernel_rfl) mixed fr77 (by show _ ≤ 15; simp) (.sc _) ?_
  refine pwp_seq_plain rfl fun K1 hK1 => ?_
  refine p_step rfl (e_assign (v := .sc _) rfl) trivial ?_
  refine p_end (hK1 _ ?_); clear hK1 K1
  refine pwp_seq_seq ?_
  refine pwp_seq_plain rfl fun K2 hK2 => ?_
  refine p_step rfl (e_move (v := .lit _ _ _) rfl) trivial ?_
  refine p_call rfl (.cons inn_lit .nil) (CheckC _ (by omega) hfw.2) ?_
  refine p_step rfl (e_assign (v := .sc _) rfl) trivial ?_
  refine p_end (hK2 _ ?_); clear hK2 K2
  refine pwp_seq_seq ?_
  refine pwp_seq_plain rfl fun K3 hK3 => ?_
  refine p_step rfl (e_move (v := .sc _) rfl) trivial ?_
  refine p_step rfl (e_ne rfl rfl) trivial ?_
  refine p_end (hK3 _ ?_); clear hK3 K3
  refine pwp_seq_cond rfl fun K4 hK4 => ⟨fun hb5 => ?_, fun hb5 => ?_⟩
  ·have hb5R := hb5; try simp only [z1, z2, z3, z4, z5, z6, ne_eq, z7, z8, z9, z10, z11, z12] at hb5
   refine pwp_seq_plain rfl fun K6 hK6 => ?_
   refine p_step rfl (e_move (v := .sc _) rfl) trivial ?_
   refine p_step rfl (e_assign (v := .sc _) rfl) trivial ?_
   refine p_end (hK6 _ ?_); clear hK6 K6
   refine pwp_ret ?_
   refine ret_seq ?_
   refine end1 (v := .sc _) rfl ?_
   first
     | exact out_i (with_p (by assumption))
     | exact out_i (by simp only [List.length_map]; exact with_l (by assumption))
  ·have hb5R := hb5; try simp only [z1, z2, z3, z4, z5, z6, ne_eq, z7, z8, z9, z10, z11, z12] at hb5
   refine pwp_skip ?_
   refine seq_norm (hK4 _ ?_); clear hK4 K4
   refine pwp_seq_plain rfl fun K7 hK7 => ?_
   refine p_step rfl (e_move (v := .lit _ _ _) rfl) trivial ?_
   refine p_step rfl (e_move (v := .lit _ _ _) rfl) trivial ?_
   refine p_step rfl (e_len rfl (by kernel_rfl)) trivial ?_
   refine p_call rfl (.cons inn_lit (.cons inn_sc .nil)) (listedC _ _ (by omega) (by simp only [List.length_map] at *; omega)) ?_
   refine p_step rfl (e_assign (v := .sc _) rfl) trivial ?_
   refine p_end (hK7 _ ?_); clear hK7 K7
   refine pwp_ret ?_
   refine end1 (v := .sc _) rfl ?_
   first
     | exact out_i (with_p (by assumption))
     | exact out_i (by simp only [List.length_map]; exact with_l (by assumption))

theorem fr33 : (inFrame Try.f33.ntmps (Try.f33.body.getD .skip) && Try.f33.results.toList.all (resScope Try.f33.ntmps)) = true := by kernel_rfl
theorem ClosedC (xs : List Task) (ds : List Int) (hfw : (xs.length : Int) ≤ 15 ∧ Fair xs) (hdl : ds.length ≤ 30) : PCalls Try.prog 33 [.lit true 6 (xs.map Task.enc), .lit true 1 (ds.map ci)] (.tup [.bool (closedX xs ds).1, .int (closedX xs ds).2]) := by
  refine PCalls.of_code Try.func33 rfl rfl (by kernel_rfl) mixed fr33 (by show _ ≤ 22; simp) (pure_2 (.sc _) (.sc _)) ?_
  refine pwp_seq_plain rfl fun K1 hK1 => ?_
  refine p_step rfl (e_assign (v := .sc _) rfl) trivial ?_
  refine p_step rfl (e_assign (v := .sc _) rfl) trivial ?_
  refine p_end (hK1 _ ?_); clear hK1 K1
  refine pwp_seq_seq ?_
  refine pwp_seq_plain rfl fun K2 hK2 => ?_
  refine p_step rfl (e_move (v := .lit _ _ _) rfl) trivial ?_
  refine p_step rfl (e_move (v := .lit _ _ _) rfl) trivial ?_
  refine p_call rfl (.cons inn_lit (.cons inn_lit .nil)) (withC _ _ hfw hdl) ?_
  refine p_step rfl (e_assign (v := .sc _) rfl) trivial ?_
  refine p_end (hK2 _ ?_); clear hK2 K2
  refine pwp_seq_seq ?_
  refine pwp_seq_plain rfl fun K3 hK3 => ?_
  refine p_step rfl (e_move (v := .sc _) rfl) trivial ?_
  refine p_step rfl (e_ne rfl rfl) trivial ?_
  refine p_end (hK3 _ ?_); clear hK3 K3
  refine pwp_seq_cond rfl fun K4 hK4 => ⟨fun hb5 => ?_, fun hb5 => ?_⟩
  ·have hb5R := hb5; try simp only [z1, z2, z3, z4, z5, z6, ne_eq, z7, z8, z9, z10, z11, z12] at hb5
   refine pwp_seq_plain rfl fun K6 hK6 => ?_
   refine p_step rfl (e_move (v := .sc _) rfl) trivial ?_
   refine p_step rfl (e_assign (v := .sc _) rfl) trivial ?_
   refine p_step rfl (e_assign (v := .sc _) rfl) trivial ?_
   refine p_end (hK6 _ ?_); clear hK6 K6
   refine pwp_ret ?_
   refine ret_seq ?_
   refine end2 (v := .sc _) (w := .sc _) rfl rfl ?_
   first
     | exact closed_out (closedX_w (by assumption))
     | exact closed_out (closedX_0 (by assumption))
  ·have hb5R := hb5; try simp only [z1, z2, z3, z4, z5, z6, ne_eq, z7, z8, z9, z10, z11, z12] at hb5
   refine pwp_skip ?_
   refine seq_norm (hK4 _ ?_); clear hK4 K4
   have hw := withE_ok (xs := xs) (D := ds) (by assumption)
   refine pwp_seq_plain rfl fun K7 hK7 => ?_
   refine p_step rfl (e_move (v := .lit _ _ _) rfl) trivial ?_
   refine p_step rfl (e_move (v := .lit _ _ _) rfl) trivial ?_
   refine p_call rfl (.cons inn_lit (.cons inn_lit .nil)) (stageC _ _ hw.1 (by omega) hdl hw.2.1 (fun x hx => (hfw.2 x hx).1)) ?_
   refine p_step rfl (e_move (v := .tup _) rfl) trivial ?_
   refine p_step rfl (e_ext (v := .lit _ _ _) rfl (by simp) rfl) trivial ?_
   refine p_step rfl (e_ext (v := .sc _) rfl (by simp) rfl) trivial ?_
   refine p_step rfl (e_assign (v := .lit _ _ _) rfl) trivial ?_
   refine p_step rfl (e_assign (v := .sc _) rfl) trivial ?_
   refine p_end (hK7 _ ?_); clear hK7 K7
   refine pwp_seq_plain rfl fun K8 hK8 => ?_
   refine p_step rfl (e_move (v := .sc _) rfl) trivial ?_
   refine p_step rfl (e_assign (v := .sc _) rfl) trivial ?_
   refine p_step rfl (e_assign (v := .sc _) rfl) trivial ?_
   refine p_end (hK8 _ ?_); clear hK8 K8
   refine pwp_ret ?_
   refine end2 (v := .sc _) (w := .sc _) rfl rfl ?_
   first
     | exact closed_out (closedX_w (by assumption))
     | exact closed_out (closedX_0 (by assumption))


theorem fr80 : (inFrame Try.f80.ntmps (Try.f80.body.getD .skip) && Try.f80.results.toList.all (resScope Try.f80.ntmps)) = true := by kernel_rfl
theorem ready1 (bs : List Bool) (z : Int) (h : 0 ≤ z ∧ z < bs.length) : PCalls Try.prog 80 [.int z, .lptr true 1 [[.lit false 1 (bs.map cbo)]] 0 0] (.bool (!(bs.getD z.toNat false))) := by
  refine PCalls.of_code Try.func80 rfl rfl (by kernel_rfl) mixed fr80 (by show _ ≤ 9; simp) (.sc _) ?_
  refine pwp_seq_plain rfl fun K1 hK1 => ?_
  refine p_step rfl (e_assign (v := .sc _) rfl) trivial ?_
  refine p_end (hK1 _ ?_); clear hK1 K1
  refine pwp_seq_plain rfl fun K2 hK2 => ?_
  refine p_step rfl (e_load (v := .lit _ _ _) rfl (by kernel_rfl) (by kernel_rfl) (by kernel_rfl) (by exact Nat.zero_lt_one) (by decide) rfl) trivial ?_
  refine p_step rfl (e_move (v := .sc _) rfl) trivial ?_
  refine p_step rfl (e_ixa rfl rfl (by kernel_rfl) (by kernel_rfl) (by first | omega | (simp only [List.length_map]; omega))) trivial ?_
  refine p_step rfl (e_load (v := .sc _) rfl (by kernel_rfl) (by kernel_rfl) (by kernel_rfl) (by first | omega | (simp only [List.length_map]; omega)) (by decide) ((cell_map (bs_get h) _).trans rfl)) trivial ?_
  refine p_step rfl (e_not rfl) trivial ?_
  refine p_step rfl (e_assign (v := .sc _) rfl) trivial ?_
  refine p_end (hK2 _ ?_); clear hK2 K2
  refine pwp_ret ?_
  refine end1 (v := .sc _) rfl ?_
  exact out_b rfl


theorem any_has (bs : List Bool) (l : List Int) : (l.any fun z => !(bs.getD z.toNat false)) = !(hasB bs l) := by
  rw [hasB, List.all_eq_not_any_not, Bool.not_not]
theorem containsHas (bs : List Bool) (l : List Int) (hl : l.length ≤ 1000000) (h : ∀ z ∈ l, 0 ≤ z ∧ z < bs.length) : PCalls Try.prog 79 [.lit true 1 (l.map ci), .func (.func 80) [] [.lptr true 1 [[.lit false 1 (bs.map cbo)]] 0 0]] (.bool (!(hasB bs l))) := by
  rw [← any_has]
  exact ContainsFZ 80 [[.lit false 1 (bs.map cbo)]] (fun z => !(bs.getD z.toNat false)) l hl fun i hi => ready1 bs _ (h _ (at0_mem hi))
theorem not_has {xs : List Task} {D : List Int} {k : Nat} {x : Task} (hx : xs[k]? = some x) (h : ∀ z ∈ x.needs, 0 ≤ z ∧ z < xs.length) : rdyB (ndX xs) D k = (!decide ((k : Int) ∈ D) && hasB (doneB xs.length D) x.needs) := by
  have := rdy_has (D := D) (z := (k : Int)) (by omega) (by simpa using hx) h
  simpa using this

theorem fr32 : (inFrame Try.f32.ntmps (Try.f32.body.getD .skip) && Try.f32.results.toList.all (resScope Try.f32.ntmps)) = true := by kernel_rfl
theorem ReadyC (xs : List Task) (ds : List Int) (hfw : (xs.length : Int) ≤ 15 ∧ Fair xs) (hdl : ds.length ≤ 30) : PCalls Try.prog 32 [.lit true 6 (xs.map Task.enc), .lit true 1 (ds.map ci)] (.tup [.lit false 1 ((readyX xs ds).1.map ci), .int (readyX xs ds).2]) := by
  refine PCalls.of_code Try.func32 rfl rfl (by kernel_rfl) mixed fr32 (by show _ ≤ 51; simp) (pure_2 (.lit _ _ _ fun row hr => pure_map ci_pure row hr) (.sc _)) ?_
  refine pwp_seq_plain rfl fun K1 hK1 => ?_
  refine p_step rfl (e_assign (v := .nil) rfl) trivial ?_
  refine p_step rfl (e_assign (v := .sc _) rfl) trivial ?_
  refine p_end (hK1 _ ?_); clear hK1 K1
  refine pwp_seq_seq ?_
  refine pwp_seq_plain rfl fun K2 hK2 => ?_
  refine p_step rfl (e_move (v := .lit _ _ _) rfl) trivial ?_
  refine p_step rfl (e_move (v := .lit _ _ _) rfl) trivial ?_
  refine p_call rfl (.cons inn_lit (.cons inn_lit .nil)) (withC _ _ hfw hdl) ?_
  refine p_step rfl (e_assign (v := .sc _) rfl) trivial ?_
  refine p_end (hK2 _ ?_); clear hK2 K2
  refine pwp_seq_seq ?_
  refine pwp_seq_plain rfl fun K3 hK3 => ?_
  refine p_step rfl (e_move (v := .sc _) rfl) trivial ?_
  refine p_step rfl (e_ne rfl rfl) trivial ?_
  refine p_end (hK3 _ ?_); clear hK3 K3
  refine pwp_seq_cond rfl fun K4 hK4 => ⟨fun hb5 => ?_, fun hb5 => ?_⟩
  ·have hb5R := hb5; try simp only [z1, z2, z3, z4, z5, z6, ne_eq, z7, z8, z9, z10, z11, z12] at hb5
   refine pwp_seq_plain rfl fun K6 hK6 => ?_
   refine p_step rfl (e_move (v := .sc _) rfl) trivial ?_
   refine p_step rfl (e_assign (v := .nil) rfl) trivial ?_
   refine p_step rfl (e_assign (v := .sc _) rfl) trivial ?_
   refine p_end (hK6 _ ?_); clear hK6 K6
   refine pwp_ret ?_
   refine ret_seq ?_
   refine end2 (v := .nil) (w := .sc _) rfl rfl ?_
   first
     | exact ready_out0 (ready_w (by assumption))
     | exact ready_out0 (ready_c (by assumption) (by assumption))
  ·have hb5R := hb5; try simp only [z1, z2, z3, z4, z5, z6, ne_eq, z7, z8, z9, z10, z11, z12] at hb5
   refine pwp_skip ?_
   refine seq_norm (hK4 _ ?_); clear hK4 K4
   have hw := withE_ok (xs := xs) (D := ds) (by assumption)
   refine pwp_seq_plain rfl fun K7 hK7 => ?_
   refine p_step rfl (e_move (v := .lit _ _ _) rfl) trivial ?_
   refine p_step rfl (e_move (v := .lit _ _ _) rfl) trivial ?_
   refine p_call rfl (.cons inn_lit (.cons inn_lit .nil)) (stageC _ _ hw.1 (by omega) hdl hw.2.1 (fun x hx => (hfw.2 x hx).1)) ?_
   refine p_step rfl (e_move (v := .tup _) rfl) trivial ?_
   refine p_step rfl (e_ext (v := .lit _ _ _) rfl (by simp) rfl) trivial ?_
   refine p_step rfl (e_ext (v := .sc _) rfl (by simp) rfl) trivial ?_
   refine p_new rfl (e_alloc (cs := [.nil]) (n := 1) (by kernel_rfl) rfl (by decide)) (ob_alloc (by decide)) ?_
   refine p_store rfl (e_store1 rfl (hset_self _ _ _) rfl rfl rfl (by decide) (by kernel_rfl) rfl (by kernel_rfl)) trivial ?_
   refine p_step rfl (e_assign (v := .sc _) rfl) trivial ?_
   refine p_end (hK7 _ ?_); clear hK7 K7
   refine pwp_seq_seq ?_
   refine pwp_seq_plain rfl fun K8 hK8 => ?_
   refine p_step rfl (e_move (v := .sc _) rfl) trivial ?_
   refine p_step rfl (e_not rfl) trivial ?_
   refine p_end (hK8 _ ?_); clear hK8 K8
   refine pwp_seq_cond rfl fun K9 hK9 => ⟨fun hb10 => ?_, fun hb10 => ?_⟩
   ·have hb10R := hb10; try simp only [z1, z2, z3, z4, z5, z6, ne_eq, z7, z8, z9, z10, z11, z12] at hb10
    refine pwp_seq_plain rfl fun K11 hK11 => ?_
    refine p_step rfl (e_assign (v := .nil) rfl) trivial ?_
    refine p_step rfl (e_assign (v := .sc _) rfl) trivial ?_
    refine p_end (hK11 _ ?_); clear hK11 K11
    refine pwp_ret ?_
    refine ret_seq ?_
    refine end2 (v := .nil) (w := .sc _) rfl rfl ?_
    first
      | exact ready_out0 (ready_w (by assumption))
      | exact ready_out0 (ready_c (by assumption) (by assumption))
   ·have hb10R := hb10; try simp only [z1, z2, z3, z4, z5, z6, ne_eq, z7, z8, z9, z10, z11, z12] at hb10
    refine pwp_skip ?_
    refine seq_norm (hK9 _ ?_); clear hK9 K9
    refine pwp_seq_plain rfl fun K12 hK12 => ?_
    refine p_step rfl (e_assign (v := .nil) rfl) trivial ?_
    refine p_end (hK12 _ ?_); clear hK12 K12
    refine pwp_seq_seq ?_
    refine pwp_seq_plain rfl fun K13 hK13 => ?_
    refine p_step rfl (e_move (v := .lit _ _ _) rfl) trivial ?_
    refine p_step rfl (e_len rfl (by kernel_rfl)) trivial ?_
    refine p_step rfl (e_move (v := .sc _) rfl) trivial ?_
    refine p_end (hK13 _ ?_); clear hK13 K13
    refine pwp_seq_block fun K14 hK14 => ?_
    refine pwp_loopR (α := Nat × PV) [7, 26, 27] (fun (a15 : Nat × PV) => [(9, (a15.2)), (28, .int (a15.1))]) (fun (a15 : Nat × PV) (h : Heap) (_ : Nat → Nat) => ((a15.1) ≤ xs.length) ∧ (SliceAt h 48 (a15.2) 1 ((readyP xs ds (a15.1)).map ci)) ∧ (h (7, 0) = some (.rows 1 [[.lit false 1 ((doneB xs.length ds).map cbo)]]))) (fun (a15 : Nat × PV) => xs.length - (a15.1)) (0, .nil) (by exact ⟨rfl, rfl, trivial⟩) (by exact ⟨by exact Nat.zero_le _, .nil, (hset_self _ _ _)⟩) fun a15 r16 h17 c18 hj19 => ?_
    obtain ⟨k, v⟩ := a15
    obtain ⟨hk, hihj19_0, hihj19_1⟩ := hj19
    try dsimp only at hk
    try dsimp only at hihj19_0
    try dsimp only at hihj19_1
    show pwp _ _ (loopQ _ _ _) ⟨sets (mix _ _ _) [(9, v), (28, .int k)], _, _⟩
    refine pwp_seq_plain rfl fun K20 hK20 => ?_
    refine p_step rfl (e_lt rfl rfl) trivial ?_
    refine p_end (hK20 _ ?_); clear hK20 K20
    refine pwp_seq_cond rfl fun K21 hK21 => ⟨fun hb22 => ?_, fun hb22 => ?_⟩
    ·have hb22R := hb22; try simp only [z1, z2, z3, z4, z5, z6, ne_eq, z7, z8, z9, z10, z11, z12] at hb22
     obtain ⟨x, hx, hd, ht⟩ := get_lt (xs := xs) (i := k) (by omega)
     have hxn := (task_ok hw.1 hx).2.2.2.1
     have hxl1 := (hfw.2 x (List.mem_of_getElem? hx)).1
     have hrd := not_has (D := ds) hx hxn
     have hrp := readyP_len (xs := xs) (D := ds) (k := k)
     have hdb := doneB_len (n := xs.length) (D := ds)
     refine pwp_skip ?_
     refine seq_norm (hK21 _ ?_); clear hK21 K21
     refine pwp_seq_block fun K23 hK23 => ?_
     refine pwp_seq_plain rfl fun K24 hK24 => ?_
     refine p_step rfl (e_move (v := .sc _) rfl) trivial ?_
     refine p_step rfl (e_ixa rfl rfl (by kernel_rfl) (by kernel_rfl) (by first | omega | (simp only [List.length_map, doneB_len]; omega))) trivial ?_
     refine p_step rfl (e_loadA (n := 6) rfl (by kernel_rfl) (by kernel_rfl) (by kernel_rfl) (by first | omega | (simp only [List.length_map, doneB_len]; omega)) (by decide) (by first | exact agg_map hx rfl)) trivial ?_
     refine p_new rfl (e_alloc (cs := [.str ByteArray.empty, .str ByteArray.empty, .int 0, .int 0, .int 0, .nil]) (n := 6) (by kernel_rfl) rfl (by decide)) (ob_alloc (by decide)) ?_
     refine p_step rfl (e_assign (v := .sc _) rfl) trivial ?_
     refine p_store rfl (e_storeA rfl (hset_self _ _ _) rfl rfl rfl (by kernel_rfl) rfl (by kernel_rfl)) trivial ?_
     refine p_end (hK24 _ ?_); clear hK24 K24
     refine pwp_seq_gops rfl fun K25 hK25 => ?_
     refine g_begin ?_
     refine g_step rfl rfl rfl rfl (e_loadH (v := .lit _ _ _) rfl ((hset_ne (key_ne rfl)).trans ((hset_ne (key_ne rfl)).trans hihj19_1)) (by kernel_rfl) (by kernel_rfl) (by kernel_rfl) (by exact Nat.zero_lt_one) (by decide) rfl) trivial ?_
     refine g_step rfl rfl rfl rfl (e_move (v := .sc _) rfl) trivial ?_
     refine g_step rfl rfl rfl rfl (e_ixa rfl rfl (by kernel_rfl) (by kernel_rfl) (by first | omega | (simp only [List.length_map, doneB_len]; omega))) trivial ?_
     refine g_step rfl rfl rfl rfl (e_load (v := .sc _) rfl (by kernel_rfl) (by kernel_rfl) (by kernel_rfl) (by first | omega | (simp only [List.length_map, doneB_len]; omega)) (by decide) ((cell_map (doneB_get (i := k) (by omega)) _).trans rfl)) trivial ?_
     refine g_step rfl rfl rfl rfl (e_not rfl) trivial ?_
     refine g_step rfl rfl rfl rfl (e_move (v := .sc _) rfl) trivial ?_
     refine g_cases (fun hb26 => ?_) (fun hb26 => ?_)
     ·have hb26R := hb26; try simp only [z1, z2, z3, z4, z5, z6, ne_eq, z7, z8, z9, z10, z11, z12] at hb26
      refine g_step rfl rfl rfl rfl (e_faP (pl := [(0, 1, false), (1, 1, false), (2, 1, false), (3, 1, false), (4, 1, false), (5, 1, false)]) rfl (by kernel_rfl) (by kernel_rfl) (by decide) rfl) trivial ?_
      refine g_step rfl rfl rfl rfl (e_loadH (v := .lit _ _ _) rfl (hset_self _ _ _) (by kernel_rfl) (by kernel_rfl) (by kernel_rfl) (by exact Nat.zero_lt_one) (by decide) rfl) trivial ?_
      refine g_step rfl rfl rfl rfl (e_mkf rfl) trivial ?_
      refine g_call rfl rfl rfl rfl (.cons inn_lit (.cons (inn_clos1 (inn_ptr ((hset_ne (key_ne rfl)).trans ((hset_ne (key_ne rfl)).trans hihj19_1)) (pure_one (.lit _ _ _ fun row hr => pure_map cbo_pure row hr)))) .nil)) (containsHas (doneB xs.length ds) x.needs (by omega) (by rw [doneB_len]; exact hxn)) ?_
      refine g_step rfl rfl rfl rfl (e_not rfl) trivial ?_
      refine g_step rfl rfl rfl rfl (e_pickT (v := .sc _) rfl rfl) trivial ?_
      refine g_end (ds := [39, 40, 41, 42, 43]) rfl rfl (hK25 _ ?_); clear hK25 K25
      refine pwp_cond rfl (fun hb27 => ?_) (fun hb27 => ?_)
      ·have hb27R := hb27; try simp only [z1, z2, z3, z4, z5, z6, ne_eq, z7, z8, z9, z10, z11, z12] at hb27
       refine pwp_plain rfl fun K28 hK28 => ?_
       refine p_step rfl (e_move (v := _) rfl) trivial ?_
       refine p_step rfl (e_move (v := .sc _) rfl) trivial ?_
       refine p_new rfl (e_bslice (rows := [ci (k : Int)]) (zs := [.int 0]) (sz := 1) (by kernel_rfl) (by kernel_rfl) rfl (by kernel_rfl) (by decide) rfl rfl (by exact ⟨by decide, rfl, rfl, trivial⟩) rfl) trivial ?_
       refine p_app rfl rfl rfl (hihj19_0.keep fun _ => (hset_ne (key_ne rfl)).trans ((hset_ne (key_ne rfl)).trans ((hset_ne (key_ne rfl)).trans (rfl)))) (src_ref (hset_self _ _ _) rfl) (by kernel_rfl) (by simp only [List.length_append, List.length_map, List.length_nil, List.length_cons]; omega) fun v29 h30 c31 hs32 hf33 => ?_
       have ho34 := (hf33 (7, _) (key_ne rfl) (fun _ _ => key_ne rfl)).trans ((hset_ne (key_ne rfl)).trans ((hset_ne (key_ne rfl)).trans ((hset_ne (key_ne rfl)).trans hihj19_1)))
       have ho35 := (hf33 (11, _) (key_ne rfl) (fun _ _ => key_ne rfl)).trans ((hset_ne (key_ne rfl)).trans (hset_self _ _ _))
       have ho36 := (hf33 (47, _) (key_ne rfl) (fun _ _ => key_ne rfl)).trans (hset_self _ _ _)
       refine p_step rfl (e_assign (v := _) rfl) trivial ?_
       refine p_end (hK28 _ ?_); clear hK28 K28
       refine block_norm ?_
       refine seq_norm (hK23 _ ?_); clear hK23 K23
       refine pwp_plain rfl fun K37 hK37 => ?_
       refine p_step rfl (e_add rfl rfl (by first | omega | (simp only [List.length_map] at *; omega))) trivial ?_
       refine p_step rfl (e_move (v := .sc _) rfl) trivial ?_
       refine p_end (hK37 _ ?_); clear hK37 K37
       exact loop_again ((k + 1, v29)) (by show _ < _; simp only; omega) ⟨rfl, rfl, rfl, trivial⟩ ⟨rfl, rfl, trivial⟩ (by exact ⟨by show _ + 1 ≤ _; simp only [List.length_map] at *; omega, (SliceAt.to hs32 (by (first | exact rows_t (by rw [hrd]; simp_all) | exact rows_f (by rw [hrd]; simp_all)))), ho34⟩)
      ·have hb27R := hb27; try simp only [z1, z2, z3, z4, z5, z6, ne_eq, z7, z8, z9, z10, z11, z12] at hb27
       refine pwp_skip ?_
       refine block_norm ?_
       refine seq_norm (hK23 _ ?_); clear hK23 K23
       refine pwp_plain rfl fun K38 hK38 => ?_
       refine p_step rfl (e_add rfl rfl (by first | omega | (simp only [List.length_map] at *; omega))) trivial ?_
       refine p_step rfl (e_move (v := .sc _) rfl) trivial ?_
       refine p_end (hK38 _ ?_); clear hK38 K38
       exact loop_again ((k + 1, v)) (by show _ < _; simp only; omega) ⟨rfl, rfl, rfl, trivial⟩ ⟨rfl, rfl, trivial⟩ (by exact ⟨by show _ + 1 ≤ _; simp only [List.length_map] at *; omega, (SliceAt.to (hihj19_0.keep fun _ => (hset_ne (key_ne rfl)).trans ((hset_ne (key_ne rfl)).trans (rfl))) (by (first | exact rows_t (by rw [hrd]; simp_all) | exact rows_f (by rw [hrd]; simp_all)))), ((hset_ne (key_ne rfl)).trans ((hset_ne (key_ne rfl)).trans hihj19_1))⟩)
     ·have hb26R := hb26; try simp only [z1, z2, z3, z4, z5, z6, ne_eq, z7, z8, z9, z10, z11, z12] at hb26
      refine g_skip rfl rfl rfl ?_
      refine g_skip rfl rfl rfl ?_
      refine g_skip rfl rfl rfl ?_
      refine g_nocall rfl rfl rfl ?_
      refine g_skip rfl rfl rfl ?_
      refine g_step rfl rfl rfl rfl (e_pickF (v := .sc _) rfl rfl) trivial ?_
      refine g_end (ds := [39, 40, 41, 42, 43]) rfl rfl (hK25 _ ?_); clear hK25 K25
      refine pwp_cond (t := false) rfl nofun (fun _ => ?_)
      refine pwp_skip ?_
      refine block_norm ?_
      refine seq_norm (hK23 _ ?_); clear hK23 K23
      refine pwp_plain rfl fun K39 hK39 => ?_
      refine p_step rfl (e_add rfl rfl (by first | omega | (simp only [List.length_map] at *; omega))) trivial ?_
      refine p_step rfl (e_move (v := .sc _) rfl) trivial ?_
      refine p_end (hK39 _ ?_); clear hK39 K39
      exact loop_again ((k + 1, v)) (by show _ < _; simp only; omega) ⟨rfl, rfl, rfl, trivial⟩ ⟨rfl, rfl, trivial⟩ (by exact ⟨by show _ + 1 ≤ _; simp only [List.length_map] at *; omega, (SliceAt.to (hihj19_0.keep fun _ => (hset_ne (key_ne rfl)).trans ((hset_ne (key_ne rfl)).trans (rfl))) (by (first | exact rows_t (by rw [hrd]; simp_all) | exact rows_f (by rw [hrd]; simp_all)))), ((hset_ne (key_ne rfl)).trans ((hset_ne (key_ne rfl)).trans hihj19_1))⟩)
    ·have hb22R := hb22; try simp only [z1, z2, z3, z4, z5, z6, ne_eq, z7, z8, z9, z10, z11, z12] at hb22
     have hkx : k = xs.length := by simp only [List.length_map] at *; omega
     refine pwp_exit ?_
     refine exit_seq ?_
     clear hK21 K21
     refine exit_loop ?_
     refine exit_here ?_
     refine seq_norm (hK14 _ ?_); clear hK14 K14
     refine pwp_seq_plain rfl fun K40 hK40 => ?_
     refine p_step rfl (e_move (v := _) rfl) trivial ?_
     refine p_step rfl (e_assign (v := _) rfl) trivial ?_
     refine p_step rfl (e_assign (v := .sc _) rfl) trivial ?_
     refine p_end (hK40 _ ?_); clear hK40 K40
     refine pwp_ret ?_
     refine end2 (v := _) (w := .sc _) rfl rfl ?_
     first
       | exact ready_out0 (ready_w (by assumption))
       | exact ready_out0 (ready_c (by assumption) (by assumption))
       | exact ready_out (ready_0 (by assumption) (by assumption)) hihj19_0 rfl hkx

end Go.Proofs.Ytjmjiegplnfiiaa
