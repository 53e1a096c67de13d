import Derived.Test.YtjmjiegplnfiiaaStgA
/- Orders that are accepted. No conditions. -/
set_option linter.unusedSimpArgs false
set_option linter.unusedVariables false
set_option maxRecDepth 100000
namespace Go.Proofs.Ytjmjiegplnfiiaa
open Go Go.Pv
/-! ### Orders that are accepted -/
section
variable {nd : List (List Int)} {ds : List Int} {k : Nat}
end
end Go.Proofs.Ytjmjiegplnfiiaa

/- The reverse of a plan, as the program makes it. No conditions. -/
set_option linter.unusedSimpArgs false
set_option linter.unusedVariables false
set_option maxRecDepth 100000
namespace Go.Proofs.Ytjmjiegplnfiiaa
open Go Go.Pv
/-! ### The reverse plan -/
end Go.Proofs.Ytjmjiegplnfiiaa

/- The reverse of a plan, as the reference makes it. No conditions. -/
set_option linter.unusedSimpArgs false
set_option linter.unusedVariables false
set_option maxRecDepth 100000
namespace Go.Proofs.Ytjmjiegplnfiiaa
open Go Go.Pv
/-! ### The reverse plan of the reference -/
end Go.Proofs.Ytjmjiegplnfiiaa

/- Orders, handlings and orders of the reverse plan. No conditions. -/
set_option linter.unusedSimpArgs false
set_option linter.unusedVariables false
set_option maxRecDepth 100000
namespace Go.Proofs.Ytjmjiegplnfiiaa
open Go Go.Pv

def hndK (xs : List Task) (ds : List Int) : Nat → Int
 | 0 => 0
 | k + 1 => hndK xs ds k + if 0 < k ∧ plc xs (at0 ds (k - 1)) ≠ plc xs (at0 ds k) then 1 else 0
section
variable {xs : List Task} {ds : List Int} {k : Nat}
theorem hndK_b : ∀ k : Nat, 0 ≤ hndK xs ds k ∧ hndK xs ds k ≤ k
 | 0 => by unfold hndK; omega
 | k + 1 => by
   have := hndK_b k
   unfold hndK
   split <;> omega
theorem hndK_t (h0 : 0 < k) (h : plc xs (at0 ds (k - 1)) ≠ plc xs (at0 ds k)) {n : Int} (hn : n = hndK xs ds k) : n + 1 = hndK xs ds (k + 1) := by rw [hndK, if_pos ⟨h0, h⟩, hn]
theorem hndK_f (h : ¬ (0 < k ∧ plc xs (at0 ds (k - 1)) ≠ plc xs (at0 ds k))) {n : Int} (hn : n = hndK xs ds k) : n = hndK xs ds (k + 1) := by rw [hndK, if_neg h, hn]; omega
theorem plc_eq {z : Int} {x : Task} (hx : xs[z.toNat]? = some x) : plc xs z = x.place := by
 rw [plc, List.getD_eq_getElem?_getD, hx]; rfl
end
theorem hnd_end {xs : List Task} {ds : List Int} {k : Nat} {n : Int} (hk : 1 ≤ k) (hn : n = hndK xs ds k) (he : k ≤ ds.length ∨ k = 1) (hl : ds.length ≤ k) : n = hndK xs ds ds.length := by
 rcases Nat.eq_zero_or_pos ds.length with q | q
 · obtain rfl : k = 1 := by omega
   rw [hn, q]; rfl
 · obtain rfl : k = ds.length := by omega
   exact hn

theorem fr41 : (inFrame Try.f41.ntmps (Try.f41.body.getD .skip) && Try.f41.results.toList.all (resScope Try.f41.ntmps)) = true := by kernel_rfl
theorem refHandlingsX (xs : List Task) (ds : List Int) (hxl : xs.length ≤ 15) (hdl : ds.length ≤ 30) (hdr : ∀ z ∈ ds, 0 ≤ z ∧ z < (xs.length : Int)) : PCalls Try.prog 41 [.lit true 6 (xs.map Task.enc), .lit true 1 (ds.map ci)] (.int (hndK xs ds ds.length)) := by
 refine PCalls.of_code Try.func41 rfl rfl (by kernel_rfl) mixed fr41 (by show _ ≤ 34; simp) (.sc _) ?_
 refine pwp_seq_plain rfl fun K1 hK1 => ?_
 refine p_step rfl (e_assign (v := .sc _) rfl) trivial ?_
 refine p_end (hK1 _ ?_); clear hK1 K1
 refine pwp_seq_plain rfl fun K2 hK2 => ?_
 refine p_step rfl (e_assign (v := .sc _) rfl) trivial ?_
 refine p_end (hK2 _ ?_); clear hK2 K2
 refine pwp_seq_seq ?_
 refine pwp_seq_plain rfl fun K3 hK3 => ?_
 refine p_step rfl (e_assign (v := .sc _) rfl) trivial ?_
 refine p_end (hK3 _ ?_); clear hK3 K3
 refine pwp_seq_block fun K4 hK4 => ?_
 refine pwp_loopR (α := Nat × Int) [0, 1] (fun (a5 : Nat × Int) => [(5, .int (a5.2)), (6, .int (a5.1))]) (fun (a5 : Nat × Int) (h : Heap) (_ : Nat → Nat) => (1 ≤ (a5.1)) ∧ ((a5.2) = hndK xs ds (a5.1)) ∧ ((a5.1) ≤ ds.length ∨ (a5.1) = 1)) (fun (a5 : Nat × Int) => ds.length - (a5.1)) (1, 0) (by exact ⟨rfl, rfl, trivial⟩) (by exact ⟨by exact Nat.le_refl _, by exact rfl, by exact .inr rfl⟩) fun a5 r6 h7 c8 hj9 => ?_
 obtain ⟨k, n⟩ := a5
 obtain ⟨hk, hnn, hke⟩ := hj9
 try dsimp only at hk
 try dsimp only at hnn
 try dsimp only at hke
 show pwp _ _ (loopQ _ _ _) ⟨sets (mix _ _ _) [(5, .int n), (6, .int k)], _, _⟩
 refine pwp_seq_seq ?_
 refine pwp_seq_plain rfl fun K10 hK10 => ?_
 refine p_step rfl (e_move (v := .sc _) rfl) trivial ?_
 refine p_step rfl (e_move (v := .lit _ _ _) rfl) trivial ?_
 refine p_step rfl (e_len rfl (by kernel_rfl)) trivial ?_
 refine p_step rfl (e_lt rfl rfl) trivial ?_
 refine p_end (hK10 _ ?_); clear hK10 K10
 refine pwp_seq_cond rfl fun K11 hK11 => ⟨fun hb12 => ?_, fun hb12 => ?_⟩
 ·have hb12R := hb12; try simp only [z1, z2, z3, z4, z5, z6, ne_eq, z7, z8, z9, z10, z11, z12] at hb12
  have hyr := hdr _ (at0_mem (l := ds) (i := k) (by simp only [List.length_map] at *; omega))
  have hxr := hdr _ (at0_mem (l := ds) (i := k - 1) (by simp only [List.length_map] at *; omega))
  obtain ⟨y, hy, _, _⟩ := get_lt (xs := xs) (i := (at0 ds k).toNat) (by omega)
  obtain ⟨x, hx, _, _⟩ := get_lt (xs := xs) (i := (at0 ds (k - 1)).toNat) (by omega)
  have hpx := plc_eq hx; have hpy := plc_eq hy
  have hnb := hndK_b (xs := xs) (ds := ds) k
  refine pwp_skip ?_
  refine seq_norm (hK11 _ ?_); clear hK11 K11
  refine pwp_seq_block fun K13 hK13 => ?_
  refine pwp_seq_gops rfl fun K14 hK14 => ?_
  refine g_begin ?_
  refine g_step rfl rfl rfl rfl (e_move (v := .lit _ _ _) rfl) trivial ?_
  refine g_step rfl rfl rfl rfl (e_move (v := .lit _ _ _) rfl) trivial ?_
  refine g_step rfl rfl rfl rfl (e_move (v := .sc _) rfl) trivial ?_
  refine g_step rfl rfl rfl rfl (e_ixa rfl rfl (by kernel_rfl) (by kernel_rfl) (by first | omega | (simp only [List.length_map]; omega))) trivial ?_
  refine g_step rfl rfl rfl rfl (e_load (v := .sc _) rfl (by kernel_rfl) (by kernel_rfl) (by kernel_rfl) (by first | omega | (simp only [List.length_map]; omega)) (by decide) ((cell_map (at0_get (l := ds) (i := k) (by simp only [List.length_map] at *; omega)) _).trans rfl)) trivial ?_
  refine g_step rfl rfl rfl rfl (e_ixa rfl rfl (by kernel_rfl) (by kernel_rfl) (by first | omega | (simp only [List.length_map]; omega))) trivial ?_
  refine g_step rfl rfl rfl rfl (e_fa (pl := [(0, 1, false), (1, 1, false), (2, 1, false), (3, 1, false), (4, 1, false), (5, 1, false)]) rfl (by kernel_rfl) (by kernel_rfl) (by decide) rfl) trivial ?_
  refine g_step rfl rfl rfl rfl (e_load (v := .sc _) rfl (by kernel_rfl) (by kernel_rfl) (by kernel_rfl) (by first | omega | (simp only [List.length_map]; omega)) (by decide) ((cell_map hy _).trans rfl)) trivial ?_
  refine g_step rfl rfl rfl rfl (e_move (v := .lit _ _ _) rfl) trivial ?_
  refine g_step rfl rfl rfl rfl (e_move (v := .lit _ _ _) rfl) trivial ?_
  refine g_step rfl rfl rfl rfl (e_move (v := .sc _) rfl) trivial ?_
  refine g_step rfl rfl rfl rfl (e_sub rfl rfl (by first | omega | (simp only [List.length_map] at *; omega))) trivial ?_
  refine g_step rfl rfl rfl rfl (e_ixa rfl rfl (by kernel_rfl) (by kernel_rfl) (by first | omega | (simp only [List.length_map]; omega))) trivial ?_
  refine g_step rfl rfl rfl rfl (e_load (v := .sc _) rfl (by kernel_rfl) (by kernel_rfl) (by kernel_rfl) (by first | omega | (simp only [List.length_map]; omega)) (by decide) ((cell_map (at0_prev (l := ds) (k := k) (by omega) (by simp only [List.length_map] at *; omega)) _).trans rfl)) trivial ?_
  refine g_step rfl rfl rfl rfl (e_ixa rfl rfl (by kernel_rfl) (by kernel_rfl) (by first | omega | (simp only [List.length_map]; omega))) trivial ?_
  refine g_step rfl rfl rfl rfl (e_fa (pl := [(0, 1, false), (1, 1, false), (2, 1, false), (3, 1, false), (4, 1, false), (5, 1, false)]) rfl (by kernel_rfl) (by kernel_rfl) (by decide) rfl) trivial ?_
  refine g_step rfl rfl rfl rfl (e_load (v := .sc _) rfl (by kernel_rfl) (by kernel_rfl) (by kernel_rfl) (by first | omega | (simp only [List.length_map]; omega)) (by decide) ((cell_map hx _).trans rfl)) trivial ?_
  refine g_step rfl rfl rfl rfl (e_ne rfl rfl) trivial ?_
  refine g_end (ds := []) (by kernel_rfl) rfl (hK14 _ ?_); clear hK14 K14
  refine pwp_cond rfl (fun hb15 => ?_) (fun hb15 => ?_)
  ·have hb15R := hb15; try simp only [z1, z2, z3, z4, z5, z6, ne_eq, z7, z8, z9, z10, z11, z12] at hb15
   refine pwp_plain rfl fun K16 hK16 => ?_
   refine p_step rfl (e_move (v := .sc _) rfl) trivial ?_
   refine p_step rfl (e_add rfl rfl (by first | omega | (simp only [List.length_map] at *; omega))) trivial ?_
   refine p_step rfl (e_assign (v := .sc _) rfl) trivial ?_
   refine p_end (hK16 _ ?_); clear hK16 K16
   refine block_norm ?_
   refine seq_norm (hK13 _ ?_); clear hK13 K13
   refine pwp_plain rfl fun K17 hK17 => ?_
   refine p_step rfl (e_move (v := .sc _) rfl) trivial ?_
   refine p_step rfl (e_add rfl rfl (by first | omega | (simp only [List.length_map] at *; omega))) trivial ?_
   refine p_step rfl (e_assign (v := .sc _) rfl) trivial ?_
   refine p_end (hK17 _ ?_); clear hK17 K17
   exact loop_again ((k + 1, (n + (1)))) (by show _ < _; simp only; omega) ⟨rfl, rfl, trivial⟩ ⟨rfl, rfl, trivial⟩ (by exact ⟨by show 1 ≤ k + 1; omega, by first | exact hndK_t (n := n) (by omega) (by rw [hpx, hpy]; exact fun q => absurd q.symm (by assumption)) hnn | exact hndK_f (n := n) (by rw [hpx, hpy]; omega) hnn, by exact .inl (by show k + 1 ≤ _; simp only [List.length_map] at *; omega)⟩)
  ·have hb15R := hb15; try simp only [z1, z2, z3, z4, z5, z6, ne_eq, z7, z8, z9, z10, z11, z12] at hb15
   refine pwp_skip ?_
   refine block_norm ?_
   refine seq_norm (hK13 _ ?_); clear hK13 K13
   refine pwp_plain rfl fun K18 hK18 => ?_
   refine p_step rfl (e_move (v := .sc _) rfl) trivial ?_
   refine p_step rfl (e_add rfl rfl (by first | omega | (simp only [List.length_map] at *; omega))) trivial ?_
   refine p_step rfl (e_assign (v := .sc _) rfl) trivial ?_
   refine p_end (hK18 _ ?_); clear hK18 K18
   exact loop_again ((k + 1, n)) (by show _ < _; simp only; omega) ⟨rfl, rfl, trivial⟩ ⟨rfl, rfl, trivial⟩ (by exact ⟨by show 1 ≤ k + 1; omega, by first | exact hndK_t (n := n) (by omega) (by rw [hpx, hpy]; exact fun q => absurd q.symm (by assumption)) hnn | exact hndK_f (n := n) (by rw [hpx, hpy]; omega) hnn, by exact .inl (by show k + 1 ≤ _; simp only [List.length_map] at *; omega)⟩)
 ·have hb12R := hb12; try simp only [z1, z2, z3, z4, z5, z6, ne_eq, z7, z8, z9, z10, z11, z12] at hb12
  have hkx : n = hndK xs ds ds.length := hnd_end hk hnn hke (by simp only [List.length_map] at *; omega)
  refine pwp_exit ?_
  refine exit_seq ?_
  clear hK11 K11
  refine exit_loop ?_
  refine exit_here ?_
  refine seq_norm (hK4 _ ?_); clear hK4 K4
  refine pwp_seq_plain rfl fun K19 hK19 => ?_
  refine p_step rfl (e_move (v := .sc _) rfl) trivial ?_
  refine p_step rfl (e_assign (v := .sc _) rfl) trivial ?_
  refine p_end (hK19 _ ?_); clear hK19 K19
  refine pwp_ret ?_
  refine end1 (v := .sc _) rfl ?_
  exact out_i hkx

end Go.Proofs.Ytjmjiegplnfiiaa
