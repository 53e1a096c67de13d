/- Orders, handlings and orders of the reverse plan. No conditions. -/
import Derived.Test.YtjmjiegplnfiiaaRrf
set_option linter.unusedSimpArgs false
set_option linter.unusedVariables false
set_option maxRecDepth 100000
namespace Go.Proofs.Ytjmjiegplnfiiaa
open Go Go.Pv

def acpX (xs : List Task) (ds : List Int) : Int × Int := if planE xs ≠ 0 then (0, planE xs) else accR (ndX xs) ds
def hndK (xs : List Task) (ds : List Int) : Nat → Int
  | 0 => 0
  | k + 1 => hndK xs ds k + if 0 < k ∧ plc xs (at0 ds (k - 1)) ≠ plc xs (at0 ds k) then 1 else 0
def hndX (xs : List Task) (ds : List Int) : Int × Int := if (acpX xs ds).2 ≠ 0 then (0, (acpX xs ds).2) else (hndK xs ds ds.length, 0)
def disX (xs : List Task) (ds : List Int) : Int × Int := if planE xs ≠ 0 then (0, planE xs) else accR (ndX (revX xs)) ds
section
variable {xs : List Task} {ds : List Int} {k : Nat}
theorem acp_e (h : planE xs ≠ 0) : acpX xs ds = (0, planE xs) := if_pos h
theorem acp_0 (h : planE xs = 0) : acpX xs ds = accR (ndX xs) ds := if_neg (fun q => q h)
theorem hnd_e (h : (acpX xs ds).2 ≠ 0) : hndX xs ds = (0, (acpX xs ds).2) := if_pos h
theorem hnd_0 (h : (acpX xs ds).2 = 0) : hndX xs ds = (hndK xs ds ds.length, 0) := if_neg (fun q => q h)
theorem dis_e (h : planE xs ≠ 0) : disX xs ds = (0, planE xs) := if_pos h
theorem dis_0 (h : planE xs = 0) : disX xs ds = accR (ndX (revX xs)) ds := if_neg (fun q => q h)
theorem hndK_b : ∀ k : Nat, 0 ≤ hndK xs ds k ∧ hndK xs ds k ≤ k
  | 0 => by unfold hndK; omega
  | k + 1 => by
    have := hndK_b k
    unfold hndK
    split <;> omega
theorem hndK_t (h0 : 0 < k) (h : plc xs (at0 ds (k - 1)) ≠ plc xs (at0 ds k)) {n : Int} (hn : n = hndK xs ds k) : n + 1 = hndK xs ds (k + 1) := by rw [hndK, if_pos ⟨h0, h⟩, hn]
theorem hndK_f (h : ¬ (0 < k ∧ plc xs (at0 ds (k - 1)) ≠ plc xs (at0 ds k))) {n : Int} (hn : n = hndK xs ds k) : n = hndK xs ds (k + 1) := by rw [hndK, if_neg h, hn]; omega
theorem plc_eq {z : Int} {x : Task} (hx : xs[z.toNat]? = some x) : plc xs z = x.place := by
  rw [plc, List.getD_eq_getElem?_getD, hx]; rfl
theorem accR_all {nd : List (List Int)} (h : (accR nd ds).2 = 0) : ∀ z ∈ ds, 0 ≤ z ∧ z < nd.length := fun z hz => by
  obtain ⟨i, hi, rfl⟩ := mem_at0 hz
  have h0 : ∀ k, k < ds.length → accE nd (ds.take k) (at0 ds k) = 0 := fun k hk => by
    rw [accR] at h
    split at h
    · rename_i j hj
      rw [List.find?_range_eq_some] at hj
      exact absurd h (of_decide_eq_true hj.1)
    · rename_i hj
      rw [List.find?_eq_none] at hj
      have := hj k (List.mem_range.2 hk)
      simpa using this
  exact acE_in (h0 i hi)
theorem rngOK (h : planE xs = 0) (hq : Fair xs) : RngOK xs := fun x hx => by
  obtain ⟨i, hi⟩ := List.getElem?_of_mem hx
  exact ⟨(hq x hx).1, (task_ok h hi).2.2.2.1⟩
theorem rngRev (hl : xs.length ≤ 1000) : RngOK (revX xs) := fun x hx => by
  obtain ⟨i, hi, rfl⟩ := List.mem_map.1 hx
  refine ⟨?_, fun z hz => ?_⟩
  · have := usR_len (nd := ndX xs) (x := (i : Int))
    rw [ndX_len] at this
    show (usR (ndX xs) (i : Int)).length ≤ 1000
    omega
  · obtain ⟨j, h1, h2, _⟩ := usR_rng (show z ∈ usR (ndX xs) (i : Int) from hz)
    rw [ndX_len] at h2; rw [revX_len]; omega
theorem raiseF (q : PV) : Raises [.lit true 6 (xs.map Task.encF), q] [.lit true 6 (xs.map Task.enc), q] := by
  refine .cons (.row (by simp) fun i row row' h1 h2 => ?_) (.cons (.same _) .nil)
  rw [List.getElem?_map] at h1 h2
  cases hx : xs[i]? with
  | none => rw [hx] at h1; cases h1
  | some x =>
    rw [hx] at h1 h2; cases h1; cases h2
    refine .cons (.same _) (.cons (.same _) (.cons (.same _) (.cons (.same _) (.cons (.same _) (.cons (.row rfl fun i row row' h1 h2 => ?_) .nil)))))
    rw [h1] at h2; cases h2
    exact sameR row
end
theorem revE_0 {xs : List Task} (h : planE xs = 0) : revE xs = (revX xs, 0) := if_neg (fun q => q h)
theorem revE_e {xs : List Task} (h : planE xs ≠ 0) : revE xs = ([], planE xs) := if_pos h
theorem acceptF (xs : List Task) (ds : List Int) (hxl : xs.length ≤ 15) (hdl : ds.length ≤ 30) (hr : RngOK xs) : PCalls Try.prog 82 [.lit true 6 (xs.map Task.encF), .lit true 1 (ds.map ci)] (.tup [.int (accR (ndX xs) ds).1, .int (accR (ndX xs) ds).2]) := PCalls.raise (acceptC xs ds hxl hdl hr) (raiseF _)
theorem refAcceptF (xs : List Task) (ds : List Int) (hxl : xs.length ≤ 15) (hdl : ds.length ≤ 30) (hr : RngOK xs) : PCalls Try.prog 40 [.lit true 6 (xs.map Task.encF), .lit true 1 (ds.map ci)] (.tup [.int (accR (ndX xs) ds).1, .int (accR (ndX xs) ds).2]) := PCalls.raise (refAcceptC xs ds hxl hdl hr) (raiseF _)
theorem acceptE (xs : List Task) (ds : List Int) (hp : planE xs = 0) (hxl : xs.length ≤ 15) (hdl : ds.length ≤ 30) : PCalls Try.prog 82 [.lit true 6 ((revE xs).1.map Task.encF), .lit true 1 (ds.map ci)] (.tup [.int (accR (ndX (revX xs)) ds).1, .int (accR (ndX (revX xs)) ds).2]) := by
  rw [revE_0 hp]
  exact acceptF (revX xs) ds (by rw [revX_len]; exact hxl) hdl (rngRev (by omega))

theorem fr37 : (inFrame Try.f37.ntmps (Try.f37.body.getD .skip) && Try.f37.results.toList.all (resScope Try.f37.ntmps)) = true := by kernel_rfl
theorem AcceptX (xs : List Task) (ds : List Int) (hfw : (xs.length : Int) ≤ 15 ∧ Fair xs) (hdl : ds.length ≤ 30) : PCalls Try.prog 37 [.lit true 6 (xs.map Task.enc), .lit true 1 (ds.map ci)] (.tup [.int (acpX xs ds).1, .int (acpX xs ds).2]) := by
  refine PCalls.of_code Try.func37 rfl rfl (by kernel_rfl) mixed fr37 (by show _ ≤ 17; simp) (pure_2 (.sc _) (.sc _)) ?_
  refine pwp_seq_plain rfl fun K1 hK1 => ?_
  refine p_step rfl (e_assign (v := .sc _) rfl) trivial ?_
  refine p_step rfl (e_assign (v := .sc _) rfl) trivial ?_
  refine p_end (hK1 _ ?_); clear hK1 K1
  refine pwp_seq_seq ?_
  refine pwp_seq_plain rfl fun K2 hK2 => ?_
  refine p_step rfl (e_move (v := .lit _ _ _) rfl) trivial ?_
  refine p_call rfl (.cons inn_lit .nil) (CheckC _ (by omega) hfw.2) ?_
  refine p_step rfl (e_assign (v := .sc _) rfl) trivial ?_
  refine p_end (hK2 _ ?_); clear hK2 K2
  refine pwp_seq_seq ?_
  refine pwp_seq_plain rfl fun K3 hK3 => ?_
  refine p_step rfl (e_move (v := .sc _) rfl) trivial ?_
  refine p_step rfl (e_ne rfl rfl) trivial ?_
  refine p_end (hK3 _ ?_); clear hK3 K3
  refine pwp_seq_cond rfl fun K4 hK4 => ⟨fun hb5 => ?_, fun hb5 => ?_⟩
  ·have hb5R := hb5; try simp only [z1, z2, z3, z4, z5, z6, ne_eq, z7, z8, z9, z10, z11, z12] at hb5
   refine pwp_seq_plain rfl fun K6 hK6 => ?_
   refine p_step rfl (e_move (v := .sc _) rfl) trivial ?_
   refine p_step rfl (e_assign (v := .sc _) rfl) trivial ?_
   refine p_step rfl (e_assign (v := .sc _) rfl) trivial ?_
   refine p_end (hK6 _ ?_); clear hK6 K6
   refine pwp_ret ?_
   refine ret_seq ?_
   refine end2 (v := .sc _) (w := .sc _) rfl rfl ?_
   first
     | exact pr2 (acp_e (by assumption))
     | exact (by rw [acp_0 hp]; exact pr2 rfl)
  ·have hb5R := hb5; try simp only [z1, z2, z3, z4, z5, z6, ne_eq, z7, z8, z9, z10, z11, z12] at hb5
   refine pwp_skip ?_
   refine seq_norm (hK4 _ ?_); clear hK4 K4
   have hp : planE xs = 0 := (by assumption)
   refine pwp_seq_plain rfl fun K7 hK7 => ?_
   refine p_step rfl (e_move (v := .lit _ _ _) rfl) trivial ?_
   refine p_step rfl (e_move (v := .lit _ _ _) rfl) trivial ?_
   refine p_call rfl (.cons inn_lit (.cons inn_lit .nil)) (acceptC _ _ (by omega) hdl (rngOK hp hfw.2)) ?_
   refine p_step rfl (e_ext (v := .sc _) rfl (by simp) rfl) trivial ?_
   refine p_step rfl (e_ext (v := .sc _) rfl (by simp) rfl) trivial ?_
   refine p_step rfl (e_assign (v := .sc _) rfl) trivial ?_
   refine p_step rfl (e_assign (v := .sc _) rfl) trivial ?_
   refine p_end (hK7 _ ?_); clear hK7 K7
   refine pwp_ret ?_
   refine end2 (v := .sc _) (w := .sc _) rfl rfl ?_
   first
     | exact pr2 (acp_e (by assumption))
     | exact (by rw [acp_0 hp]; exact pr2 rfl)

theorem fr38 : (inFrame Try.f38.ntmps (Try.f38.body.getD .skip) && Try.f38.results.toList.all (resScope Try.f38.ntmps)) = true := by kernel_rfl
theorem HandlingsX (xs : List Task) (ds : List Int) (hfw : (xs.length : Int) ≤ 15 ∧ Fair xs) (hdl : ds.length ≤ 30) : PCalls Try.prog 38 [.lit true 6 (xs.map Task.enc), .lit true 1 (ds.map ci)] (.tup [.int (hndX xs ds).1, .int (hndX xs ds).2]) := by
  refine PCalls.of_code Try.func38 rfl rfl (by kernel_rfl) mixed fr38 (by show _ ≤ 50; simp) (pure_2 (.sc _) (.sc _)) ?_
  refine pwp_seq_plain rfl fun K1 hK1 => ?_
  refine p_step rfl (e_assign (v := .sc _) rfl) trivial ?_
  refine p_step rfl (e_assign (v := .sc _) rfl) trivial ?_
  refine p_end (hK1 _ ?_); clear hK1 K1
  refine pwp_seq_seq ?_
  refine pwp_seq_plain rfl fun K2 hK2 => ?_
  refine p_step rfl (e_move (v := .lit _ _ _) rfl) trivial ?_
  refine p_step rfl (e_move (v := .lit _ _ _) rfl) trivial ?_
  refine p_call rfl (.cons inn_lit (.cons inn_lit .nil)) (AcceptX _ _ hfw hdl) ?_
  refine p_step rfl (e_move (v := .tup _) rfl) trivial ?_
  refine p_step rfl (e_ext (v := .sc _) rfl (by simp) rfl) trivial ?_
  refine p_step rfl (e_ext (v := .sc _) rfl (by simp) rfl) trivial ?_
  refine p_step rfl (e_assign (v := .sc _) rfl) trivial ?_
  refine p_step rfl (e_assign (v := .sc _) rfl) trivial ?_
  refine p_end (hK2 _ ?_); clear hK2 K2
  refine pwp_seq_seq ?_
  refine pwp_seq_plain rfl fun K3 hK3 => ?_
  refine p_step rfl (e_move (v := .sc _) rfl) trivial ?_
  refine p_step rfl (e_ne rfl rfl) trivial ?_
  refine p_end (hK3 _ ?_); clear hK3 K3
  refine pwp_seq_cond rfl fun K4 hK4 => ⟨fun hb5 => ?_, fun hb5 => ?_⟩
  ·have hb5R := hb5; try simp only [z1, z2, z3, z4, z5, z6, ne_eq, z7, z8, z9, z10, z11, z12] at hb5
   refine pwp_seq_plain rfl fun K6 hK6 => ?_
   refine p_step rfl (e_move (v := .sc _) rfl) trivial ?_
   refine p_step rfl (e_assign (v := .sc _) rfl) trivial ?_
   refine p_step rfl (e_assign (v := .sc _) rfl) trivial ?_
   refine p_end (hK6 _ ?_); clear hK6 K6
   refine pwp_ret ?_
   refine ret_seq ?_
   refine end2 (v := .sc _) (w := .sc _) rfl rfl ?_
   first
     | exact pr2 (hnd_e (by assumption))
     | exact pr2 ((hnd_0 ha).trans (by rw [hnn]))
  ·have hb5R := hb5; try simp only [z1, z2, z3, z4, z5, z6, ne_eq, z7, z8, z9, z10, z11, z12] at hb5
   refine pwp_skip ?_
   refine seq_norm (hK4 _ ?_); clear hK4 K4
   refine pwp_seq_plain rfl fun K7 hK7 => ?_
   refine p_step rfl (e_assign (v := .sc _) rfl) trivial ?_
   refine p_end (hK7 _ ?_); clear hK7 K7
   refine pwp_seq_seq ?_
   have ha : (acpX xs ds).2 = 0 := (by assumption)
   have hdr : ∀ z ∈ ds, 0 ≤ z ∧ z < (xs.length : Int) := fun z hz => by (by_cases hp : planE xs = 0); (rw [acp_0 hp] at ha; have := accR_all ha z hz; rw [ndX_len] at this; exact this); (rw [acp_e hp] at ha; exact absurd ha hp)
   refine pwp_seq_plain rfl fun K8 hK8 => ?_
   refine p_step rfl (e_move (v := .lit _ _ _) rfl) trivial ?_
   refine p_step rfl (e_len rfl (by kernel_rfl)) trivial ?_
   refine p_step rfl (e_move (v := .sc _) rfl) trivial ?_
   refine p_end (hK8 _ ?_); clear hK8 K8
   refine pwp_seq_block fun K9 hK9 => ?_
   refine pwp_loopR (α := Nat × Int) [0, 1, 20, 21] (fun (a10 : Nat × Int) => [(8, .int (a10.2)), (22, .int (a10.1))]) (fun (a10 : Nat × Int) (h : Heap) (_ : Nat → Nat) => ((a10.1) ≤ ds.length) ∧ ((a10.2) = hndK xs ds (a10.1))) (fun (a10 : Nat × Int) => ds.length - (a10.1)) (0, 0) (by exact ⟨rfl, rfl, trivial⟩) (by exact ⟨by exact Nat.zero_le _, by exact rfl⟩) fun a10 r11 h12 c13 hj14 => ?_
   obtain ⟨k, n⟩ := a10
   obtain ⟨hk, hnn⟩ := hj14
   try dsimp only at hk
   try dsimp only at hnn
   show pwp _ _ (loopQ _ _ _) ⟨sets (mix _ _ _) [(8, .int n), (22, .int k)], _, _⟩
   refine pwp_seq_plain rfl fun K15 hK15 => ?_
   refine p_step rfl (e_lt rfl rfl) trivial ?_
   refine p_end (hK15 _ ?_); clear hK15 K15
   refine pwp_seq_cond rfl fun K16 hK16 => ⟨fun hb17 => ?_, fun hb17 => ?_⟩
   ·have hb17R := hb17; try simp only [z1, z2, z3, z4, z5, z6, ne_eq, z7, z8, z9, z10, z11, z12] at hb17
    have hyr := hdr _ (at0_mem (l := ds) (i := k) (by simp only [List.length_map] at *; omega))
    have hxr := hdr _ (at0_mem (l := ds) (i := k - 1) (by simp only [List.length_map] at *; omega))
    obtain ⟨y, hy, _, _⟩ := get_lt (xs := xs) (i := (at0 ds k).toNat) (by omega)
    obtain ⟨x, hx, _, _⟩ := get_lt (xs := xs) (i := (at0 ds (k - 1)).toNat) (by omega)
    have hpx := plc_eq hx; have hpy := plc_eq hy
    have hnb := hndK_b (xs := xs) (ds := ds) k
    refine pwp_skip ?_
    refine seq_norm (hK16 _ ?_); clear hK16 K16
    refine pwp_seq_block fun K18 hK18 => ?_
    refine pwp_seq_plain rfl fun K19 hK19 => ?_
    refine p_step rfl (e_move (v := .sc _) rfl) trivial ?_
    refine p_step rfl (e_ixa rfl rfl (by kernel_rfl) (by kernel_rfl) (by first | omega | (simp only [List.length_map]; omega))) trivial ?_
    refine p_step rfl (e_load (v := .sc _) rfl (by kernel_rfl) (by kernel_rfl) (by kernel_rfl) (by first | omega | (simp only [List.length_map]; omega)) (by decide) ((cell_map (at0_get (l := ds) (i := k) (by simp only [List.length_map] at *; omega)) _).trans rfl)) trivial ?_
    refine p_step rfl (e_assign (v := .sc _) rfl) trivial ?_
    refine p_step rfl (e_assign (v := .sc _) rfl) trivial ?_
    refine p_end (hK19 _ ?_); clear hK19 K19
    refine pwp_seq_gops rfl fun K20 hK20 => ?_
    refine g_begin ?_
    refine g_step rfl rfl rfl rfl (e_move (v := .sc _) rfl) trivial ?_
    refine g_step rfl rfl rfl rfl (e_gt rfl rfl) trivial ?_
    refine g_step rfl rfl rfl rfl (e_move (v := .sc _) rfl) trivial ?_
    refine g_cases (fun hb21 => ?_) (fun hb21 => ?_)
    ·have hb21R := hb21; try simp only [z1, z2, z3, z4, z5, z6, ne_eq, z7, z8, z9, z10, z11, z12] at hb21
     refine g_step rfl rfl rfl rfl (e_move (v := .lit _ _ _) rfl) trivial ?_
     refine g_step rfl rfl rfl rfl (e_move (v := .lit _ _ _) rfl) trivial ?_
     refine g_step rfl rfl rfl rfl (e_move (v := .sc _) rfl) trivial ?_
     refine g_step rfl rfl rfl rfl (e_sub rfl rfl (by first | omega | (simp only [List.length_map] at *; omega))) trivial ?_
     refine g_step rfl rfl rfl rfl (e_ixa rfl rfl (by kernel_rfl) (by kernel_rfl) (by first | omega | (simp only [List.length_map]; omega))) trivial ?_
     refine g_step rfl rfl rfl rfl (e_load (v := .sc _) rfl (by kernel_rfl) (by kernel_rfl) (by kernel_rfl) (by first | omega | (simp only [List.length_map]; omega)) (by decide) ((cell_map (at0_prev (l := ds) (k := k) (by omega) (by simp only [List.length_map] at *; omega)) _).trans rfl)) trivial ?_
     refine g_step rfl rfl rfl rfl (e_ixa rfl rfl (by kernel_rfl) (by kernel_rfl) (by first | omega | (simp only [List.length_map]; omega))) trivial ?_
     refine g_step rfl rfl rfl rfl (e_fa (pl := [(0, 1, false), (1, 1, false), (2, 1, false), (3, 1, false), (4, 1, false), (5, 1, false)]) rfl (by kernel_rfl) (by kernel_rfl) (by decide) rfl) trivial ?_
     refine g_step rfl rfl rfl rfl (e_load (v := .sc _) rfl (by kernel_rfl) (by kernel_rfl) (by kernel_rfl) (by first | omega | (simp only [List.length_map]; omega)) (by decide) ((cell_map hx _).trans rfl)) trivial ?_
     refine g_step rfl rfl rfl rfl (e_move (v := .lit _ _ _) rfl) trivial ?_
     refine g_step rfl rfl rfl rfl (e_move (v := .sc _) rfl) trivial ?_
     refine g_step rfl rfl rfl rfl (e_ixa rfl rfl (by kernel_rfl) (by kernel_rfl) (by first | omega | (simp only [List.length_map]; omega))) trivial ?_
     refine g_step rfl rfl rfl rfl (e_fa (pl := [(0, 1, false), (1, 1, false), (2, 1, false), (3, 1, false), (4, 1, false), (5, 1, false)]) rfl (by kernel_rfl) (by kernel_rfl) (by decide) rfl) trivial ?_
     refine g_step rfl rfl rfl rfl (e_load (v := .sc _) rfl (by kernel_rfl) (by kernel_rfl) (by kernel_rfl) (by first | omega | (simp only [List.length_map]; omega)) (by decide) ((cell_map hy _).trans rfl)) trivial ?_
     refine g_step rfl rfl rfl rfl (e_ne rfl rfl) trivial ?_
     refine g_step rfl rfl rfl rfl (e_pickT (v := .sc _) rfl rfl) trivial ?_
     refine g_end (ds := [30, 31, 32, 33, 34, 35, 36, 37, 38, 39, 40, 41, 42, 43, 44]) (by kernel_rfl) rfl (hK20 _ ?_); clear hK20 K20
     refine pwp_cond rfl (fun hb22 => ?_) (fun hb22 => ?_)
     ·have hb22R := hb22; try simp only [z1, z2, z3, z4, z5, z6, ne_eq, z7, z8, z9, z10, z11, z12] at hb22
      refine pwp_plain rfl fun K23 hK23 => ?_
      refine p_step rfl (e_move (v := .sc _) rfl) trivial ?_
      refine p_step rfl (e_add rfl rfl (by first | omega | (simp only [List.length_map] at *; omega))) trivial ?_
      refine p_step rfl (e_assign (v := .sc _) rfl) trivial ?_
      refine p_end (hK23 _ ?_); clear hK23 K23
      refine block_norm ?_
      refine seq_norm (hK18 _ ?_); clear hK18 K18
      refine pwp_plain rfl fun K24 hK24 => ?_
      refine p_step rfl (e_add rfl rfl (by first | omega | (simp only [List.length_map] at *; omega))) trivial ?_
      refine p_step rfl (e_move (v := .sc _) rfl) trivial ?_
      refine p_end (hK24 _ ?_); clear hK24 K24
      exact loop_again ((k + 1, (n + (1)))) (by show _ < _; simp only; omega) ⟨rfl, rfl, rfl, rfl, trivial⟩ ⟨rfl, rfl, trivial⟩ (by exact ⟨by show _ + 1 ≤ _; simp only [List.length_map] at *; omega, by first | exact hndK_t (n := n) (by omega) (by rw [hpx, hpy]; assumption) hnn | exact hndK_f (n := n) (by rw [hpx, hpy]; omega) hnn⟩)
     ·have hb22R := hb22; try simp only [z1, z2, z3, z4, z5, z6, ne_eq, z7, z8, z9, z10, z11, z12] at hb22
      refine pwp_skip ?_
      refine block_norm ?_
      refine seq_norm (hK18 _ ?_); clear hK18 K18
      refine pwp_plain rfl fun K25 hK25 => ?_
      refine p_step rfl (e_add rfl rfl (by first | omega | (simp only [List.length_map] at *; omega))) trivial ?_
      refine p_step rfl (e_move (v := .sc _) rfl) trivial ?_
      refine p_end (hK25 _ ?_); clear hK25 K25
      exact loop_again ((k + 1, n)) (by show _ < _; simp only; omega) ⟨rfl, rfl, rfl, rfl, trivial⟩ ⟨rfl, rfl, trivial⟩ (by exact ⟨by show _ + 1 ≤ _; simp only [List.length_map] at *; omega, by first | exact hndK_t (n := n) (by omega) (by rw [hpx, hpy]; assumption) hnn | exact hndK_f (n := n) (by rw [hpx, hpy]; omega) hnn⟩)
    ·have hb21R := hb21; try simp only [z1, z2, z3, z4, z5, z6, ne_eq, z7, z8, z9, z10, z11, z12] at hb21
     refine g_skip rfl rfl rfl ?_
     refine g_skip rfl rfl rfl ?_
     refine g_skip rfl rfl rfl ?_
     refine g_skip rfl rfl rfl ?_
     refine g_skip rfl rfl rfl ?_
     refine g_skip rfl rfl rfl ?_
     refine g_skip rfl rfl rfl ?_
     refine g_skip rfl rfl rfl ?_
     refine g_skip rfl rfl rfl ?_
     refine g_skip rfl rfl rfl ?_
     refine g_skip rfl rfl rfl ?_
     refine g_skip rfl rfl rfl ?_
     refine g_skip rfl rfl rfl ?_
     refine g_skip rfl rfl rfl ?_
     refine g_skip rfl rfl rfl ?_
     refine g_step rfl rfl rfl rfl (e_pickF (v := .sc _) rfl rfl) trivial ?_
     refine g_end (ds := [30, 31, 32, 33, 34, 35, 36, 37, 38, 39, 40, 41, 42, 43, 44]) (by kernel_rfl) rfl (hK20 _ ?_); clear hK20 K20
     refine pwp_cond (t := false) rfl nofun (fun _ => ?_)
     refine pwp_skip ?_
     refine block_norm ?_
     refine seq_norm (hK18 _ ?_); clear hK18 K18
     refine pwp_plain rfl fun K26 hK26 => ?_
     refine p_step rfl (e_add rfl rfl (by first | omega | (simp only [List.length_map] at *; omega))) trivial ?_
     refine p_step rfl (e_move (v := .sc _) rfl) trivial ?_
     refine p_end (hK26 _ ?_); clear hK26 K26
     exact loop_again ((k + 1, n)) (by show _ < _; simp only; omega) ⟨rfl, rfl, rfl, rfl, trivial⟩ ⟨rfl, rfl, trivial⟩ (by exact ⟨by show _ + 1 ≤ _; simp only [List.length_map] at *; omega, by first | exact hndK_t (n := n) (by omega) (by rw [hpx, hpy]; assumption) hnn | exact hndK_f (n := n) (by rw [hpx, hpy]; omega) hnn⟩)
   ·have hb17R := hb17; try simp only [z1, z2, z3, z4, z5, z6, ne_eq, z7, z8, z9, z10, z11, z12] at hb17
    obtain rfl : k = ds.length := by simp only [List.length_map] at *; omega
    refine pwp_exit ?_
    refine exit_seq ?_
    clear hK16 K16
    refine exit_loop ?_
    refine exit_here ?_
    refine seq_norm (hK9 _ ?_); clear hK9 K9
    refine pwp_seq_plain rfl fun K27 hK27 => ?_
    refine p_step rfl (e_move (v := .sc _) rfl) trivial ?_
    refine p_step rfl (e_assign (v := .sc _) rfl) trivial ?_
    refine p_step rfl (e_assign (v := .sc _) rfl) trivial ?_
    refine p_end (hK27 _ ?_); clear hK27 K27
    refine pwp_ret ?_
    refine end2 (v := .sc _) (w := .sc _) rfl rfl ?_
    first
      | exact pr2 (hnd_e (by assumption))
      | exact pr2 ((hnd_0 ha).trans (by rw [hnn]))

theorem hnd_end {xs : List Task} {ds : List Int} {k : Nat} {n : Int} (hk : 1 ≤ k) (hn : n = hndK xs ds k) (he : k ≤ ds.length ∨ k = 1) (hl : ds.length ≤ k) : n = hndK xs ds ds.length := by
  rcases Nat.eq_zero_or_pos ds.length with q | q
  · obtain rfl : k = 1 := by omega
    rw [hn, q]; rfl
  · obtain rfl : k = ds.length := by omega
    exact hn

theorem fr41 : (inFrame Try.f41.ntmps (Try.f41.body.getD .skip) && Try.f41.results.toList.all (resScope Try.f41.ntmps)) = true := by kernel_rfl
theorem refHandlingsX (xs : List Task) (ds : List Int) (hxl : xs.length ≤ 15) (hdl : ds.length ≤ 30) (hdr : ∀ z ∈ ds, 0 ≤ z ∧ z < (xs.length : Int)) : PCalls Try.prog 41 [.lit true 6 (xs.map Task.enc), .lit true 1 (ds.map ci)] (.int (hndK xs ds ds.length)) := by
  refine PCalls.of_code Try.func41 rfl rfl (by kernel_rfl) mixed fr41 (by show _ ≤ 34; simp) (.sc _) ?_
  refine pwp_seq_plain rfl fun K1 hK1 => ?_
  refine p_step rfl (e_assign (v := .sc _) rfl) trivial ?_
  refine p_end (hK1 _ ?_); clear hK1 K1
  refine pwp_seq_plain rfl fun K2 hK2 => ?_
  refine p_step rfl (e_assign (v := .sc _) rfl) trivial ?_
  refine p_end (hK2 _ ?_); clear hK2 K2
  refine pwp_seq_seq ?_
  refine pwp_seq_plain rfl fun K3 hK3 => ?_
  refine p_step rfl (e_assign (v := .sc _) rfl) trivial ?_
  refine p_end (hK3 _ ?_); clear hK3 K3
  refine pwp_seq_block fun K4 hK4 => ?_
  refine pwp_loopR (α := Nat × Int) [0, 1] (fun (a5 : Nat × Int) => [(5, .int (a5.2)), (6, .int (a5.1))]) (fun (a5 : Nat × Int) (h : Heap) (_ : Nat → Nat) => (1 ≤ (a5.1)) ∧ ((a5.2) = hndK xs ds (a5.1)) ∧ ((a5.1) ≤ ds.length ∨ (a5.1) = 1)) (fun (a5 : Nat × Int) => ds.length - (a5.1)) (1, 0) (by exact ⟨rfl, rfl, trivial⟩) (by exact ⟨by exact Nat.le_refl _, by exact rfl, by exact .inr rfl⟩) fun a5 r6 h7 c8 hj9 => ?_
  obtain ⟨k, n⟩ := a5
  obtain ⟨hk, hnn, hke⟩ := hj9
  try dsimp only at hk
  try dsimp only at hnn
  try dsimp only at hke
  show pwp _ _ (loopQ _ _ _) ⟨sets (mix _ _ _) [(5, .int n), (6, .int k)], _, _⟩
  refine pwp_seq_seq ?_
  refine pwp_seq_plain rfl fun K10 hK10 => ?_
  refine p_step rfl (e_move (v := .sc _) rfl) trivial ?_
  refine p_step rfl (e_move (v := .lit _ _ _) rfl) trivial ?_
  refine p_step rfl (e_len rfl (by kernel_rfl)) trivial ?_
  refine p_step rfl (e_lt rfl rfl) trivial ?_
  refine p_end (hK10 _ ?_); clear hK10 K10
  refine pwp_seq_cond rfl fun K11 hK11 => ⟨fun hb12 => ?_, fun hb12 => ?_⟩
  ·have hb12R := hb12; try simp only [z1, z2, z3, z4, z5, z6, ne_eq, z7, z8, z9, z10, z11, z12] at hb12
   have hyr := hdr _ (at0_mem (l := ds) (i := k) (by simp only [List.length_map] at *; omega))
   have hxr := hdr _ (at0_mem (l := ds) (i := k - 1) (by simp only [List.length_map] at *; omega))
   obtain ⟨y, hy, _, _⟩ := get_lt (xs := xs) (i := (at0 ds k).toNat) (by omega)
   obtain ⟨x, hx, _, _⟩ := get_lt (xs := xs) (i := (at0 ds (k - 1)).toNat) (by omega)
   have hpx := plc_eq hx; have hpy := plc_eq hy
   have hnb := hndK_b (xs := xs) (ds := ds) k
   refine pwp_skip ?_
   refine seq_norm (hK11 _ ?_); clear hK11 K11
   refine pwp_seq_block fun K13 hK13 => ?_
   refine pwp_seq_gops rfl fun K14 hK14 => ?_
   refine g_begin ?_
   refine g_step rfl rfl rfl rfl (e_move (v := .lit _ _ _) rfl) trivial ?_
   refine g_step rfl rfl rfl rfl (e_move (v := .lit _ _ _) rfl) trivial ?_
   refine g_step rfl rfl rfl rfl (e_move (v := .sc _) rfl) trivial ?_
   refine g_step rfl rfl rfl rfl (e_ixa rfl rfl (by kernel_rfl) (by kernel_rfl) (by first | omega | (simp only [List.length_map]; omega))) trivial ?_
   refine g_step rfl rfl rfl rfl (e_load (v := .sc _) rfl (by kernel_rfl) (by kernel_rfl) (by kernel_rfl) (by first | omega | (simp only [List.length_map]; omega)) (by decide) ((cell_map (at0_get (l := ds) (i := k) (by simp only [List.length_map] at *; omega)) _).trans rfl)) trivial ?_
   refine g_step rfl rfl rfl rfl (e_ixa rfl rfl (by kernel_rfl) (by kernel_rfl) (by first | omega | (simp only [List.length_map]; omega))) trivial ?_
   refine g_step rfl rfl rfl rfl (e_fa (pl := [(0, 1, false), (1, 1, false), (2, 1, false), (3, 1, false), (4, 1, false), (5, 1, false)]) rfl (by kernel_rfl) (by kernel_rfl) (by decide) rfl) trivial ?_
   refine g_step rfl rfl rfl rfl (e_load (v := .sc _) rfl (by kernel_rfl) (by kernel_rfl) (by kernel_rfl) (by first | omega | (simp only [List.length_map]; omega)) (by decide) ((cell_map hy _).trans rfl)) trivial ?_
   refine g_step rfl rfl rfl rfl (e_move (v := .lit _ _ _) rfl) trivial ?_
   refine g_step rfl rfl rfl rfl (e_move (v := .lit _ _ _) rfl) trivial ?_
   refine g_step rfl rfl rfl rfl (e_move (v := .sc _) rfl) trivial ?_
   refine g_step rfl rfl rfl rfl (e_sub rfl rfl (by first | omega | (simp only [List.length_map] at *; omega))) trivial ?_
   refine g_step rfl rfl rfl rfl (e_ixa rfl rfl (by kernel_rfl) (by kernel_rfl) (by first | omega | (simp only [List.length_map]; omega))) trivial ?_
   refine g_step rfl rfl rfl rfl (e_load (v := .sc _) rfl (by kernel_rfl) (by kernel_rfl) (by kernel_rfl) (by first | omega | (simp only [List.length_map]; omega)) (by decide) ((cell_map (at0_prev (l := ds) (k := k) (by omega) (by simp only [List.length_map] at *; omega)) _).trans rfl)) trivial ?_
   refine g_step rfl rfl rfl rfl (e_ixa rfl rfl (by kernel_rfl) (by kernel_rfl) (by first | omega | (simp only [List.length_map]; omega))) trivial ?_
   refine g_step rfl rfl rfl rfl (e_fa (pl := [(0, 1, false), (1, 1, false), (2, 1, false), (3, 1, false), (4, 1, false), (5, 1, false)]) rfl (by kernel_rfl) (by kernel_rfl) (by decide) rfl) trivial ?_
   refine g_step rfl rfl rfl rfl (e_load (v := .sc _) rfl (by kernel_rfl) (by kernel_rfl) (by kernel_rfl) (by first | omega | (simp only [List.length_map]; omega)) (by decide) ((cell_map hx _).trans rfl)) trivial ?_
   refine g_step rfl rfl rfl rfl (e_ne rfl rfl) trivial ?_
   refine g_end (ds := []) (by kernel_rfl) rfl (hK14 _ ?_); clear hK14 K14
   refine pwp_cond rfl (fun hb15 => ?_) (fun hb15 => ?_)
   ·have hb15R := hb15; try simp only [z1, z2, z3, z4, z5, z6, ne_eq, z7, z8, z9, z10, z11, z12] at hb15
    refine pwp_plain rfl fun K16 hK16 => ?_
    refine p_step rfl (e_move (v := .sc _) rfl) trivial ?_
    refine p_step rfl (e_add rfl rfl (by first | omega | (simp only [List.length_map] at *; omega))) trivial ?_
    refine p_step rfl (e_assign (v := .sc _) rfl) trivial ?_
    refine p_end (hK16 _ ?_); clear hK16 K16
    refine block_norm ?_
    refine seq_norm (hK13 _ ?_); clear hK13 K13
    refine pwp_plain rfl fun K17 hK17 => ?_
    refine p_step rfl (e_move (v := .sc _) rfl) trivial ?_
    refine p_step rfl (e_add rfl rfl (by first | omega | (simp only [List.length_map] at *; omega))) trivial ?_
    refine p_step rfl (e_assign (v := .sc _) rfl) trivial ?_
    refine p_end (hK17 _ ?_); clear hK17 K17
    exact loop_again ((k + 1, (n + (1)))) (by show _ < _; simp only; omega) ⟨rfl, rfl, trivial⟩ ⟨rfl, rfl, trivial⟩ (by exact ⟨by show 1 ≤ k + 1; omega, by first | exact hndK_t (n := n) (by omega) (by rw [hpx, hpy]; exact fun q => absurd q.symm (by assumption)) hnn | exact hndK_f (n := n) (by rw [hpx, hpy]; omega) hnn, by exact .inl (by show k + 1 ≤ _; simp only [List.length_map] at *; omega)⟩)
   ·have hb15R := hb15; try simp only [z1, z2, z3, z4, z5, z6, ne_eq, z7, z8, z9, z10, z11, z12] at hb15
    refine pwp_skip ?_
    refine block_norm ?_
    refine seq_norm (hK13 _ ?_); clear hK13 K13
    refine pwp_plain rfl fun K18 hK18 => ?_
    refine p_step rfl (e_move (v := .sc _) rfl) trivial ?_
    refine p_step rfl (e_add rfl rfl (by first | omega | (simp only [List.length_map] at *; omega))) trivial ?_
    refine p_step rfl (e_assign (v := .sc _) rfl) trivial ?_
    refine p_end (hK18 _ ?_); clear hK18 K18
    exact loop_again ((k + 1, n)) (by show _ < _; simp only; omega) ⟨rfl, rfl, trivial⟩ ⟨rfl, rfl, trivial⟩ (by exact ⟨by show 1 ≤ k + 1; omega, by first | exact hndK_t (n := n) (by omega) (by rw [hpx, hpy]; exact fun q => absurd q.symm (by assumption)) hnn | exact hndK_f (n := n) (by rw [hpx, hpy]; omega) hnn, by exact .inl (by show k + 1 ≤ _; simp only [List.length_map] at *; omega)⟩)
  ·have hb12R := hb12; try simp only [z1, z2, z3, z4, z5, z6, ne_eq, z7, z8, z9, z10, z11, z12] at hb12
   have hkx : n = hndK xs ds ds.length := hnd_end hk hnn hke (by simp only [List.length_map] at *; omega)
   refine pwp_exit ?_
   refine exit_seq ?_
   clear hK11 K11
   refine exit_loop ?_
   refine exit_here ?_
   refine seq_norm (hK4 _ ?_); clear hK4 K4
   refine pwp_seq_plain rfl fun K19 hK19 => ?_
   refine p_step rfl (e_move (v := .sc _) rfl) trivial ?_
   refine p_step rfl (e_assign (v := .sc _) rfl) trivial ?_
   refine p_end (hK19 _ ?_); clear hK19 K19
   refine pwp_ret ?_
   refine end1 (v := .sc _) rfl ?_
   exact out_i hkx

theorem dis_x {xs : List Task} {ds : List Int} (h : (revE xs).2 ≠ 0) : disX xs ds = (0, (revE xs).2) := by
  by_cases hp : planE xs = 0
  · rw [revE_0 hp] at h; exact absurd rfl h
  · rw [dis_e hp, revE_e hp]
theorem revE_p {xs : List Task} (h : (revE xs).2 = 0) : planE xs = 0 := by
  by_cases hp : planE xs = 0
  · exact hp
  · rw [revE_e hp] at h; exact h

theorem fr39 : (inFrame Try.f39.ntmps (Try.f39.body.getD .skip) && Try.f39.results.toList.all (resScope Try.f39.ntmps)) = true := by kernel_rfl
theorem DismantlesX (xs : List Task) (ds : List Int) (hfw : (xs.length : Int) ≤ 15 ∧ Fair xs) (hdl : ds.length ≤ 30) : PCalls Try.prog 39 [.lit true 6 (xs.map Task.enc), .lit true 1 (ds.map ci)] (.tup [.int (disX xs ds).1, .int (disX xs ds).2]) := by
  refine PCalls.of_code Try.func39 rfl rfl (by kernel_rfl) mixed fr39 (by show _ ≤ 21; simp) (pure_2 (.sc _) (.sc _)) ?_
  refine pwp_seq_plain rfl fun K1 hK1 => ?_
  refine p_step rfl (e_assign (v := .sc _) rfl) trivial ?_
  refine p_step rfl (e_assign (v := .sc _) rfl) trivial ?_
  refine p_end (hK1 _ ?_); clear hK1 K1
  refine pwp_seq_plain rfl fun K2 hK2 => ?_
  refine p_step rfl (e_move (v := .lit _ _ _) rfl) trivial ?_
  refine p_call rfl (.cons inn_lit .nil) (ReverseC _ (by omega) hfw.2) ?_
  refine p_step rfl (e_move (v := .tup _) rfl) trivial ?_
  refine p_step rfl (e_ext (v := .lit _ _ _) rfl (by simp) rfl) trivial ?_
  refine p_step rfl (e_ext (v := .sc _) rfl (by simp) rfl) trivial ?_
  refine p_step rfl (e_assign (v := .lit _ _ _) rfl) trivial ?_
  refine p_step rfl (e_assign (v := .sc _) rfl) trivial ?_
  refine p_end (hK2 _ ?_); clear hK2 K2
  refine pwp_seq_seq ?_
  refine pwp_seq_plain rfl fun K3 hK3 => ?_
  refine p_step rfl (e_move (v := .sc _) rfl) trivial ?_
  refine p_step rfl (e_ne rfl rfl) trivial ?_
  refine p_end (hK3 _ ?_); clear hK3 K3
  refine pwp_seq_cond rfl fun K4 hK4 => ⟨fun hb5 => ?_, fun hb5 => ?_⟩
  ·have hb5R := hb5; try simp only [z1, z2, z3, z4, z5, z6, ne_eq, z7, z8, z9, z10, z11, z12] at hb5
   refine pwp_seq_plain rfl fun K6 hK6 => ?_
   refine p_step rfl (e_move (v := .sc _) rfl) trivial ?_
   refine p_step rfl (e_assign (v := .sc _) rfl) trivial ?_
   refine p_step rfl (e_assign (v := .sc _) rfl) trivial ?_
   refine p_end (hK6 _ ?_); clear hK6 K6
   refine pwp_ret ?_
   refine ret_seq ?_
   refine end2 (v := .sc _) (w := .sc _) rfl rfl ?_
   first
     | exact pr2 (dis_x (by assumption))
     | exact (by rw [dis_0 hp]; exact pr2 rfl)
  ·have hb5R := hb5; try simp only [z1, z2, z3, z4, z5, z6, ne_eq, z7, z8, z9, z10, z11, z12] at hb5
   refine pwp_skip ?_
   refine seq_norm (hK4 _ ?_); clear hK4 K4
   have hp : planE xs = 0 := revE_p (by assumption)
   refine pwp_seq_plain rfl fun K7 hK7 => ?_
   refine p_step rfl (e_move (v := .lit _ _ _) rfl) trivial ?_
   refine p_step rfl (e_move (v := .lit _ _ _) rfl) trivial ?_
   refine p_call rfl (.cons inn_lit (.cons inn_lit .nil)) (acceptE xs ds hp (by omega) hdl) ?_
   refine p_step rfl (e_ext (v := .sc _) rfl (by simp) rfl) trivial ?_
   refine p_step rfl (e_ext (v := .sc _) rfl (by simp) rfl) trivial ?_
   refine p_step rfl (e_assign (v := .sc _) rfl) trivial ?_
   refine p_step rfl (e_assign (v := .sc _) rfl) trivial ?_
   refine p_end (hK7 _ ?_); clear hK7 K7
   refine pwp_ret ?_
   refine end2 (v := .sc _) (w := .sc _) rfl rfl ?_
   first
     | exact pr2 (dis_x (by assumption))
     | exact (by rw [dis_0 hp]; exact pr2 rfl)


theorem fr8 : (inFrame Try.f8.ntmps (Try.f8.body.getD .skip) && Try.f8.results.toList.all (resScope Try.f8.ntmps)) = true := by kernel_rfl
theorem hAccepts (xs : List Task) (ds : List Int) (hl : xs.length ≤ 9223372036854775807) : PCalls Try.prog 8 [.lit true 6 (xs.map Task.enc), .lit true 1 (ds.map ci)] (.bool true) := by
  refine PCalls.of_code Try.func8 rfl rfl (by kernel_rfl) mixed fr8 (by show _ ≤ 122; simp) (.sc _) ?_
  refine pwp_seq_plain rfl fun K1 hK1 => ?_
  refine p_step rfl (e_assign (v := .sc _) rfl) trivial ?_
  refine p_end (hK1 _ ?_); clear hK1 K1
  refine pwp_seq_seq ?_
  refine pwp_seq_plain rfl fun K2 hK2 => ?_
  refine p_call rfl .nil (awake) ?_
  refine p_step rfl (e_not rfl) trivial ?_
  refine p_end (hK2 _ ?_); clear hK2 K2
  refine pwp_seq_cond (t := false) rfl fun K3 hK3 => ⟨nofun, fun _ => ?_⟩
  refine pwp_skip ?_
  refine seq_norm (hK3 _ ?_); clear hK3 K3
  refine pwp_seq_seq ?_
  refine pwp_seq_gops rfl fun K4 hK4 => ?_
  refine g_begin ?_
  refine g_step rfl rfl rfl rfl (e_move (v := .lit _ _ _) rfl) trivial ?_
  refine g_call rfl rfl rfl rfl (.cons inn_lit (.cons inn_sc .nil)) (FewC _ _ (by omega)) ?_
  refine g_step rfl rfl rfl rfl (e_not rfl) trivial ?_
  refine g_step rfl rfl rfl rfl (e_move (v := .sc _) rfl) trivial ?_
  refine g_cases (fun hb5 => ?_) (fun hb5 => ?_)
  ·have hb5R := hb5; try simp only [z1, z2, z3, z4, z5, z6, ne_eq, z7, z8, z9, z10, z11, z12] at hb5
   refine g_skip rfl rfl rfl ?_
   refine g_skip rfl rfl rfl ?_
   refine g_skip rfl rfl rfl ?_
   refine g_step rfl rfl rfl rfl (e_pickT (v := .sc _) rfl rfl) trivial ?_
   refine g_end (ds := [22, 23, 24]) rfl rfl (hK4 _ ?_); clear hK4 K4
   refine pwp_seq_cond (t := true) rfl fun K6 hK6 => ⟨fun _ => ?_, nofun⟩
   refine pwp_seq_plain rfl fun K7 hK7 => ?_
   refine p_step rfl (e_assign (v := .sc _) rfl) trivial ?_
   refine p_end (hK7 _ ?_); clear hK7 K7
   refine pwp_ret ?_
   refine ret_seq ?_
   refine end1 (v := .sc _) rfl ?_
   first
     | exact out_b rfl
     | exact out_b (by first | (simp_all; done) | fail)
  ·have hb5R := hb5; try simp only [z1, z2, z3, z4, z5, z6, ne_eq, z7, z8, z9, z10, z11, z12] at hb5
   refine g_step rfl rfl rfl rfl (e_move (v := .lit _ _ _) rfl) trivial ?_
   refine g_step rfl rfl rfl rfl (e_len rfl (by kernel_rfl)) trivial ?_
   refine g_step rfl rfl rfl rfl (e_gt rfl rfl) trivial ?_
   refine g_step rfl rfl rfl rfl (e_pickF (v := .sc _) rfl rfl) trivial ?_
   refine g_end (ds := [22, 23, 24]) rfl rfl (hK4 _ ?_); clear hK4 K4
   refine pwp_seq_cond rfl fun K8 hK8 => ⟨fun hb9 => ?_, fun hb9 => ?_⟩
   ·have hb9R := hb9; try simp only [z1, z2, z3, z4, z5, z6, ne_eq, z7, z8, z9, z10, z11, z12] at hb9
    refine pwp_seq_plain rfl fun K10 hK10 => ?_
    refine p_step rfl (e_assign (v := .sc _) rfl) trivial ?_
    refine p_end (hK10 _ ?_); clear hK10 K10
    refine pwp_ret ?_
    refine ret_seq ?_
    refine end1 (v := .sc _) rfl ?_
    first
      | exact out_b rfl
      | exact out_b (by first | (simp_all; done) | fail)
   ·have hb9R := hb9; try simp only [z1, z2, z3, z4, z5, z6, ne_eq, z7, z8, z9, z10, z11, z12] at hb9
    refine pwp_skip ?_
    refine seq_norm (hK8 _ ?_); clear hK8 K8
    have hfw := few_fair (by assumption)
    refine pwp_seq_plain rfl fun K11 hK11 => ?_
    refine p_step rfl (e_move (v := .lit _ _ _) rfl) trivial ?_
    refine p_step rfl (e_move (v := .lit _ _ _) rfl) trivial ?_
    refine p_call rfl (.cons inn_lit (.cons inn_lit .nil)) (AcceptX _ _ hfw (by simp only [List.length_map] at *; omega)) ?_
    refine p_step rfl (e_move (v := .tup _) rfl) trivial ?_
    refine p_step rfl (e_ext (v := .sc _) rfl (by simp) rfl) trivial ?_
    refine p_step rfl (e_ext (v := .sc _) rfl (by simp) rfl) trivial ?_
    refine p_step rfl (e_assign (v := .sc _) rfl) trivial ?_
    refine p_step rfl (e_assign (v := .sc _) rfl) trivial ?_
    refine p_end (hK11 _ ?_); clear hK11 K11
    refine pwp_seq_plain rfl fun K12 hK12 => ?_
    refine p_step rfl (e_move (v := .lit _ _ _) rfl) trivial ?_
    refine p_step rfl (e_move (v := .lit _ _ _) rfl) trivial ?_
    refine p_call rfl (.cons inn_lit (.cons inn_lit .nil)) (HandlingsX _ _ hfw (by simp only [List.length_map] at *; omega)) ?_
    refine p_step rfl (e_move (v := .tup _) rfl) trivial ?_
    refine p_step rfl (e_ext (v := .sc _) rfl (by simp) rfl) trivial ?_
    refine p_step rfl (e_ext (v := .sc _) rfl (by simp) rfl) trivial ?_
    refine p_step rfl (e_assign (v := .sc _) rfl) trivial ?_
    refine p_step rfl (e_assign (v := .sc _) rfl) trivial ?_
    refine p_end (hK12 _ ?_); clear hK12 K12
    refine pwp_seq_plain rfl fun K13 hK13 => ?_
    refine p_step rfl (e_move (v := .lit _ _ _) rfl) trivial ?_
    refine p_step rfl (e_move (v := .lit _ _ _) rfl) trivial ?_
    refine p_call rfl (.cons inn_lit (.cons inn_lit .nil)) (DismantlesX _ _ hfw (by simp only [List.length_map] at *; omega)) ?_
    refine p_step rfl (e_move (v := .tup _) rfl) trivial ?_
    refine p_step rfl (e_ext (v := .sc _) rfl (by simp) rfl) trivial ?_
    refine p_step rfl (e_ext (v := .sc _) rfl (by simp) rfl) trivial ?_
    refine p_step rfl (e_assign (v := .sc _) rfl) trivial ?_
    refine p_step rfl (e_assign (v := .sc _) rfl) trivial ?_
    refine p_end (hK13 _ ?_); clear hK13 K13
    refine pwp_seq_seq ?_
    refine pwp_seq_plain rfl fun K14 hK14 => ?_
    refine p_step rfl (e_move (v := .lit _ _ _) rfl) trivial ?_
    refine p_call rfl (.cons inn_lit .nil) (refCheckC _ (by omega) hfw.2) ?_
    refine p_step rfl (e_assign (v := .sc _) rfl) trivial ?_
    refine p_end (hK14 _ ?_); clear hK14 K14
    refine pwp_seq_seq ?_
    refine pwp_seq_plain rfl fun K15 hK15 => ?_
    refine p_step rfl (e_move (v := .sc _) rfl) trivial ?_
    refine p_step rfl (e_ne rfl rfl) trivial ?_
    refine p_end (hK15 _ ?_); clear hK15 K15
    refine pwp_seq_cond rfl fun K16 hK16 => ⟨fun hb17 => ?_, fun hb17 => ?_⟩
    ·have hb17R := hb17; try simp only [z1, z2, z3, z4, z5, z6, ne_eq, z7, z8, z9, z10, z11, z12] at hb17
     have hpe : planE xs ≠ 0 := (by assumption)
     have e11 := congrArg Prod.fst (acp_e (ds := ds) hpe); have e12 := congrArg Prod.snd (acp_e (ds := ds) hpe); try dsimp only at e11 e12
     have ha : (acpX xs ds).2 ≠ 0 := by rw [acp_e hpe]; exact hpe
     have e21 := congrArg Prod.fst (hnd_e ha); have e22 := congrArg Prod.snd (hnd_e ha); try dsimp only at e21 e22
     have e31 := congrArg Prod.fst (dis_e (ds := ds) hpe); have e32 := congrArg Prod.snd (dis_e (ds := ds) hpe); try dsimp only at e31 e32
     refine pwp_seq_gops rfl fun K18 hK18 => ?_
     refine g_begin ?_
     refine g_step rfl rfl rfl rfl (e_move (v := .sc _) rfl) trivial ?_
     refine g_step rfl rfl rfl rfl (e_move (v := .sc _) rfl) trivial ?_
     refine g_step rfl rfl rfl rfl (e_eq rfl rfl) trivial ?_
     refine g_step rfl rfl rfl rfl (e_move (v := .sc _) rfl) trivial ?_
     refine g_cases (fun hb19 => ?_) (fun hb19 => ?_)
     ·have hb19R := hb19; try simp only [z1, z2, z3, z4, z5, z6, ne_eq, z7, z8, z9, z10, z11, z12] at hb19
      refine g_step rfl rfl rfl rfl (e_move (v := .sc _) rfl) trivial ?_
      refine g_step rfl rfl rfl rfl (e_move (v := .sc _) rfl) trivial ?_
      refine g_step rfl rfl rfl rfl (e_eq rfl rfl) trivial ?_
      refine g_step rfl rfl rfl rfl (e_pickT (v := .sc _) rfl rfl) trivial ?_
      refine g_step rfl rfl rfl rfl (e_move (v := .sc _) rfl) trivial ?_
      refine g_cases (fun hb20 => ?_) (fun hb20 => ?_)
      ·have hb20R := hb20; try simp only [z1, z2, z3, z4, z5, z6, ne_eq, z7, z8, z9, z10, z11, z12] at hb20
       refine g_step rfl rfl rfl rfl (e_move (v := .sc _) rfl) trivial ?_
       refine g_step rfl rfl rfl rfl (e_move (v := .sc _) rfl) trivial ?_
       refine g_step rfl rfl rfl rfl (e_eq rfl rfl) trivial ?_
       refine g_step rfl rfl rfl rfl (e_pickT (v := .sc _) rfl rfl) trivial ?_
       refine g_step rfl rfl rfl rfl (e_move (v := .sc _) rfl) trivial ?_
       refine g_cases (fun hb21 => ?_) (fun hb21 => ?_)
       ·have hb21R := hb21; try simp only [z1, z2, z3, z4, z5, z6, ne_eq, z7, z8, z9, z10, z11, z12] at hb21
        refine g_step rfl rfl rfl rfl (e_move (v := .sc _) rfl) trivial ?_
        refine g_step rfl rfl rfl rfl (e_eq rfl rfl) trivial ?_
        refine g_step rfl rfl rfl rfl (e_pickT (v := .sc _) rfl rfl) trivial ?_
        refine g_step rfl rfl rfl rfl (e_move (v := .sc _) rfl) trivial ?_
        refine g_cases (fun hb22 => ?_) (fun hb22 => ?_)
        ·have hb22R := hb22; try simp only [z1, z2, z3, z4, z5, z6, ne_eq, z7, z8, z9, z10, z11, z12] at hb22
         refine g_step rfl rfl rfl rfl (e_move (v := .sc _) rfl) trivial ?_
         refine g_step rfl rfl rfl rfl (e_eq rfl rfl) trivial ?_
         refine g_step rfl rfl rfl rfl (e_pickT (v := .sc _) rfl rfl) trivial ?_
         refine g_step rfl rfl rfl rfl (e_move (v := .sc _) rfl) trivial ?_
         refine g_cases (fun hb23 => ?_) (fun hb23 => ?_)
         ·have hb23R := hb23; try simp only [z1, z2, z3, z4, z5, z6, ne_eq, z7, z8, z9, z10, z11, z12] at hb23
          refine g_step rfl rfl rfl rfl (e_move (v := .sc _) rfl) trivial ?_
          refine g_step rfl rfl rfl rfl (e_eq rfl rfl) trivial ?_
          refine g_step rfl rfl rfl rfl (e_pickT (v := .sc _) rfl rfl) trivial ?_
          refine g_step rfl rfl rfl rfl (e_assign (v := .sc _) rfl) trivial ?_
          refine g_end (ds := [52, 53, 54, 57, 58, 59, 62, 63, 66, 67, 70, 71]) rfl rfl (hK18 _ ?_); clear hK18 K18
          refine pwp_ret ?_
          refine ret_seq ?_
          refine end1 (v := .sc _) rfl ?_
          first
            | exact out_b rfl
            | exact out_b (by first | (simp_all; done) | fail)
         ·have hb23R := hb23; try simp only [z1, z2, z3, z4, z5, z6, ne_eq, z7, z8, z9, z10, z11, z12] at hb23
          refine g_skip rfl rfl rfl ?_
          refine g_skip rfl rfl rfl ?_
          refine g_step rfl rfl rfl rfl (e_pickF (v := .sc _) rfl rfl) trivial ?_
          refine g_step rfl rfl rfl rfl (e_assign (v := .sc _) rfl) trivial ?_
          refine g_end (ds := [52, 53, 54, 57, 58, 59, 62, 63, 66, 67, 70, 71]) rfl rfl (hK18 _ ?_); clear hK18 K18
          refine pwp_ret ?_
          refine ret_seq ?_
          refine end1 (v := .sc _) rfl ?_
          first
            | exact out_b rfl
            | exact out_b (by first | (simp_all; done) | fail)
        ·have hb22R := hb22; try simp only [z1, z2, z3, z4, z5, z6, ne_eq, z7, z8, z9, z10, z11, z12] at hb22
         refine g_skip rfl rfl rfl ?_
         refine g_skip rfl rfl rfl ?_
         refine g_step rfl rfl rfl rfl (e_pickF (v := .sc _) rfl rfl) trivial ?_
         refine g_step rfl rfl rfl rfl (e_move (v := .sc _) rfl) trivial ?_
         refine g_skip rfl rfl rfl ?_
         refine g_skip rfl rfl rfl ?_
         refine g_step rfl rfl rfl rfl (e_pickF (v := .sc _) rfl rfl) trivial ?_
         refine g_step rfl rfl rfl rfl (e_assign (v := .sc _) rfl) trivial ?_
         refine g_end (ds := [52, 53, 54, 57, 58, 59, 62, 63, 66, 67, 70, 71]) rfl rfl (hK18 _ ?_); clear hK18 K18
         refine pwp_ret ?_
         refine ret_seq ?_
         refine end1 (v := .sc _) rfl ?_
         first
           | exact out_b rfl
           | exact out_b (by first | (simp_all; done) | fail)
       ·have hb21R := hb21; try simp only [z1, z2, z3, z4, z5, z6, ne_eq, z7, z8, z9, z10, z11, z12] at hb21
        refine g_skip rfl rfl rfl ?_
        refine g_skip rfl rfl rfl ?_
        refine g_step rfl rfl rfl rfl (e_pickF (v := .sc _) rfl rfl) trivial ?_
        refine g_step rfl rfl rfl rfl (e_move (v := .sc _) rfl) trivial ?_
        refine g_skip rfl rfl rfl ?_
        refine g_skip rfl rfl rfl ?_
        refine g_step rfl rfl rfl rfl (e_pickF (v := .sc _) rfl rfl) trivial ?_
        refine g_step rfl rfl rfl rfl (e_move (v := .sc _) rfl) trivial ?_
        refine g_skip rfl rfl rfl ?_
        refine g_skip rfl rfl rfl ?_
        refine g_step rfl rfl rfl rfl (e_pickF (v := .sc _) rfl rfl) trivial ?_
        refine g_step rfl rfl rfl rfl (e_assign (v := .sc _) rfl) trivial ?_
        refine g_end (ds := [52, 53, 54, 57, 58, 59, 62, 63, 66, 67, 70, 71]) rfl rfl (hK18 _ ?_); clear hK18 K18
        refine pwp_ret ?_
        refine ret_seq ?_
        refine end1 (v := .sc _) rfl ?_
        first
          | exact out_b rfl
          | exact out_b (by first | (simp_all; done) | fail)
      ·have hb20R := hb20; try simp only [z1, z2, z3, z4, z5, z6, ne_eq, z7, z8, z9, z10, z11, z12] at hb20
       refine g_skip rfl rfl rfl ?_
       refine g_skip rfl rfl rfl ?_
       refine g_skip rfl rfl rfl ?_
       refine g_step rfl rfl rfl rfl (e_pickF (v := .sc _) rfl rfl) trivial ?_
       refine g_step rfl rfl rfl rfl (e_move (v := .sc _) rfl) trivial ?_
       refine g_skip rfl rfl rfl ?_
       refine g_skip rfl rfl rfl ?_
       refine g_step rfl rfl rfl rfl (e_pickF (v := .sc _) rfl rfl) trivial ?_
       refine g_step rfl rfl rfl rfl (e_move (v := .sc _) rfl) trivial ?_
       refine g_skip rfl rfl rfl ?_
       refine g_skip rfl rfl rfl ?_
       refine g_step rfl rfl rfl rfl (e_pickF (v := .sc _) rfl rfl) trivial ?_
       refine g_step rfl rfl rfl rfl (e_move (v := .sc _) rfl) trivial ?_
       refine g_skip rfl rfl rfl ?_
       refine g_skip rfl rfl rfl ?_
       refine g_step rfl rfl rfl rfl (e_pickF (v := .sc _) rfl rfl) trivial ?_
       refine g_step rfl rfl rfl rfl (e_assign (v := .sc _) rfl) trivial ?_
       refine g_end (ds := [52, 53, 54, 57, 58, 59, 62, 63, 66, 67, 70, 71]) rfl rfl (hK18 _ ?_); clear hK18 K18
       refine pwp_ret ?_
       refine ret_seq ?_
       refine end1 (v := .sc _) rfl ?_
       first
         | exact out_b rfl
         | exact out_b (by first | (simp_all; done) | fail)
     ·have hb19R := hb19; try simp only [z1, z2, z3, z4, z5, z6, ne_eq, z7, z8, z9, z10, z11, z12] at hb19
      refine g_skip rfl rfl rfl ?_
      refine g_skip rfl rfl rfl ?_
      refine g_skip rfl rfl rfl ?_
      refine g_step rfl rfl rfl rfl (e_pickF (v := .sc _) rfl rfl) trivial ?_
      refine g_step rfl rfl rfl rfl (e_move (v := .sc _) rfl) trivial ?_
      refine g_skip rfl rfl rfl ?_
      refine g_skip rfl rfl rfl ?_
      refine g_skip rfl rfl rfl ?_
      refine g_step rfl rfl rfl rfl (e_pickF (v := .sc _) rfl rfl) trivial ?_
      refine g_step rfl rfl rfl rfl (e_move (v := .sc _) rfl) trivial ?_
      refine g_skip rfl rfl rfl ?_
      refine g_skip rfl rfl rfl ?_
      refine g_step rfl rfl rfl rfl (e_pickF (v := .sc _) rfl rfl) trivial ?_
      refine g_step rfl rfl rfl rfl (e_move (v := .sc _) rfl) trivial ?_
      refine g_skip rfl rfl rfl ?_
      refine g_skip rfl rfl rfl ?_
      refine g_step rfl rfl rfl rfl (e_pickF (v := .sc _) rfl rfl) trivial ?_
      refine g_step rfl rfl rfl rfl (e_move (v := .sc _) rfl) trivial ?_
      refine g_skip rfl rfl rfl ?_
      refine g_skip rfl rfl rfl ?_
      refine g_step rfl rfl rfl rfl (e_pickF (v := .sc _) rfl rfl) trivial ?_
      refine g_step rfl rfl rfl rfl (e_assign (v := .sc _) rfl) trivial ?_
      refine g_end (ds := [52, 53, 54, 57, 58, 59, 62, 63, 66, 67, 70, 71]) rfl rfl (hK18 _ ?_); clear hK18 K18
      refine pwp_ret ?_
      refine ret_seq ?_
      refine end1 (v := .sc _) rfl ?_
      first
        | exact out_b rfl
        | exact out_b (by first | (simp_all; done) | fail)
    ·have hb17R := hb17; try simp only [z1, z2, z3, z4, z5, z6, ne_eq, z7, z8, z9, z10, z11, z12] at hb17
     refine pwp_skip ?_
     refine seq_norm (hK16 _ ?_); clear hK16 K16
     have hp : planE xs = 0 := (by assumption)
     have e11 := congrArg Prod.fst (acp_0 (ds := ds) hp); have e12 := congrArg Prod.snd (acp_0 (ds := ds) hp); try dsimp only at e11 e12
     have e31 := congrArg Prod.fst (dis_0 (ds := ds) hp); have e32 := congrArg Prod.snd (dis_0 (ds := ds) hp); try dsimp only at e31 e32
     refine pwp_seq_plain rfl fun K24 hK24 => ?_
     refine p_step rfl (e_move (v := .lit _ _ _) rfl) trivial ?_
     refine p_step rfl (e_move (v := .lit _ _ _) rfl) trivial ?_
     refine p_call rfl (.cons inn_lit (.cons inn_lit .nil)) (refAcceptC _ _ (by omega) (by simp only [List.length_map] at *; omega) (rngOK hp hfw.2)) ?_
     refine p_step rfl (e_move (v := .tup _) rfl) trivial ?_
     refine p_step rfl (e_ext (v := .sc _) rfl (by simp) rfl) trivial ?_
     refine p_step rfl (e_ext (v := .sc _) rfl (by simp) rfl) trivial ?_
     refine p_step rfl (e_assign (v := .sc _) rfl) trivial ?_
     refine p_step rfl (e_assign (v := .sc _) rfl) trivial ?_
     refine p_end (hK24 _ ?_); clear hK24 K24
     refine pwp_seq_plain rfl fun K25 hK25 => ?_
     refine p_step rfl (e_move (v := .lit _ _ _) rfl) trivial ?_
     refine p_call rfl (.cons inn_lit .nil) (refReverseC _ (by omega) (fun x hx => by have := (hfw.2 x hx).1; omega)) ?_
     refine p_step rfl (e_move (v := .lit _ _ _) rfl) trivial ?_
     refine p_call rfl (.cons inn_lit (.cons inn_lit .nil)) (refAcceptF _ _ (by rw [revX_len]; omega) (by simp only [List.length_map] at *; omega) (rngRev (by omega))) ?_
     refine p_step rfl (e_move (v := .tup _) rfl) trivial ?_
     refine p_step rfl (e_ext (v := .sc _) rfl (by simp) rfl) trivial ?_
     refine p_step rfl (e_ext (v := .sc _) rfl (by simp) rfl) trivial ?_
     refine p_step rfl (e_assign (v := .sc _) rfl) trivial ?_
     refine p_step rfl (e_assign (v := .sc _) rfl) trivial ?_
     refine p_end (hK25 _ ?_); clear hK25 K25
     refine pwp_seq_seq ?_
     refine pwp_seq_gops rfl fun K26 hK26 => ?_
     refine g_begin ?_
     refine g_step rfl rfl rfl rfl (e_move (v := .sc _) rfl) trivial ?_
     refine g_step rfl rfl rfl rfl (e_move (v := .sc _) rfl) trivial ?_
     refine g_step rfl rfl rfl rfl (e_ne rfl rfl) trivial ?_
     refine g_step rfl rfl rfl rfl (e_move (v := .sc _) rfl) trivial ?_
     refine g_cases (fun hb27 => ?_) (fun hb27 => ?_)
     ·have hb27R := hb27; try simp only [z1, z2, z3, z4, z5, z6, ne_eq, z7, z8, z9, z10, z11, z12] at hb27
      refine g_skip rfl rfl rfl ?_
      refine g_skip rfl rfl rfl ?_
      refine g_skip rfl rfl rfl ?_
      refine g_step rfl rfl rfl rfl (e_pickT (v := .sc _) rfl rfl) trivial ?_
      refine g_step rfl rfl rfl rfl (e_move (v := .sc _) rfl) trivial ?_
      refine g_skip rfl rfl rfl ?_
      refine g_skip rfl rfl rfl ?_
      refine g_skip rfl rfl rfl ?_
      refine g_step rfl rfl rfl rfl (e_pickT (v := .sc _) rfl rfl) trivial ?_
      refine g_step rfl rfl rfl rfl (e_move (v := .sc _) rfl) trivial ?_
      refine g_skip rfl rfl rfl ?_
      refine g_skip rfl rfl rfl ?_
      refine g_skip rfl rfl rfl ?_
      refine g_step rfl rfl rfl rfl (e_pickT (v := .sc _) rfl rfl) trivial ?_
      refine g_end (ds := [90, 91, 92, 95, 96, 97, 100, 101, 102]) rfl rfl (hK26 _ ?_); clear hK26 K26
      refine pwp_seq_cond (t := true) rfl fun K28 hK28 => ⟨fun _ => ?_, nofun⟩
      refine pwp_seq_plain rfl fun K29 hK29 => ?_
      refine p_step rfl (e_assign (v := .sc _) rfl) trivial ?_
      refine p_end (hK29 _ ?_); clear hK29 K29
      refine pwp_ret ?_
      refine ret_seq ?_
      refine end1 (v := .sc _) rfl ?_
      first
        | exact out_b rfl
        | exact out_b (by first | (simp_all; done) | fail)
     ·have hb27R := hb27; try simp only [z1, z2, z3, z4, z5, z6, ne_eq, z7, z8, z9, z10, z11, z12] at hb27
      refine g_step rfl rfl rfl rfl (e_move (v := .sc _) rfl) trivial ?_
      refine g_step rfl rfl rfl rfl (e_move (v := .sc _) rfl) trivial ?_
      refine g_step rfl rfl rfl rfl (e_ne rfl rfl) trivial ?_
      refine g_step rfl rfl rfl rfl (e_pickF (v := .sc _) rfl rfl) trivial ?_
      refine g_step rfl rfl rfl rfl (e_move (v := .sc _) rfl) trivial ?_
      refine g_cases (fun hb30 => ?_) (fun hb30 => ?_)
      ·have hb30R := hb30; try simp only [z1, z2, z3, z4, z5, z6, ne_eq, z7, z8, z9, z10, z11, z12] at hb30
       refine g_skip rfl rfl rfl ?_
       refine g_skip rfl rfl rfl ?_
       refine g_skip rfl rfl rfl ?_
       refine g_step rfl rfl rfl rfl (e_pickT (v := .sc _) rfl rfl) trivial ?_
       refine g_step rfl rfl rfl rfl (e_move (v := .sc _) rfl) trivial ?_
       refine g_skip rfl rfl rfl ?_
       refine g_skip rfl rfl rfl ?_
       refine g_skip rfl rfl rfl ?_
       refine g_step rfl rfl rfl rfl (e_pickT (v := .sc _) rfl rfl) trivial ?_
       refine g_end (ds := [90, 91, 92, 95, 96, 97, 100, 101, 102]) rfl rfl (hK26 _ ?_); clear hK26 K26
       refine pwp_seq_cond (t := true) rfl fun K31 hK31 => ⟨fun _ => ?_, nofun⟩
       refine pwp_seq_plain rfl fun K32 hK32 => ?_
       refine p_step rfl (e_assign (v := .sc _) rfl) trivial ?_
       refine p_end (hK32 _ ?_); clear hK32 K32
       refine pwp_ret ?_
       refine ret_seq ?_
       refine end1 (v := .sc _) rfl ?_
       first
         | exact out_b rfl
         | exact out_b (by first | (simp_all; done) | fail)
      ·have hb30R := hb30; try simp only [z1, z2, z3, z4, z5, z6, ne_eq, z7, z8, z9, z10, z11, z12] at hb30
       refine g_step rfl rfl rfl rfl (e_move (v := .sc _) rfl) trivial ?_
       refine g_step rfl rfl rfl rfl (e_move (v := .sc _) rfl) trivial ?_
       refine g_step rfl rfl rfl rfl (e_ne rfl rfl) trivial ?_
       refine g_step rfl rfl rfl rfl (e_pickF (v := .sc _) rfl rfl) trivial ?_
       refine g_step rfl rfl rfl rfl (e_move (v := .sc _) rfl) trivial ?_
       refine g_cases (fun hb33 => ?_) (fun hb33 => ?_)
       ·have hb33R := hb33; try simp only [z1, z2, z3, z4, z5, z6, ne_eq, z7, z8, z9, z10, z11, z12] at hb33
        refine g_skip rfl rfl rfl ?_
        refine g_skip rfl rfl rfl ?_
        refine g_skip rfl rfl rfl ?_
        refine g_step rfl rfl rfl rfl (e_pickT (v := .sc _) rfl rfl) trivial ?_
        refine g_end (ds := [90, 91, 92, 95, 96, 97, 100, 101, 102]) rfl rfl (hK26 _ ?_); clear hK26 K26
        refine pwp_seq_cond (t := true) rfl fun K34 hK34 => ⟨fun _ => ?_, nofun⟩
        refine pwp_seq_plain rfl fun K35 hK35 => ?_
        refine p_step rfl (e_assign (v := .sc _) rfl) trivial ?_
        refine p_end (hK35 _ ?_); clear hK35 K35
        refine pwp_ret ?_
        refine ret_seq ?_
        refine end1 (v := .sc _) rfl ?_
        first
          | exact out_b rfl
          | exact out_b (by first | (simp_all; done) | fail)
       ·have hb33R := hb33; try simp only [z1, z2, z3, z4, z5, z6, ne_eq, z7, z8, z9, z10, z11, z12] at hb33
        refine g_step rfl rfl rfl rfl (e_move (v := .sc _) rfl) trivial ?_
        refine g_step rfl rfl rfl rfl (e_move (v := .sc _) rfl) trivial ?_
        refine g_step rfl rfl rfl rfl (e_ne rfl rfl) trivial ?_
        refine g_step rfl rfl rfl rfl (e_pickF (v := .sc _) rfl rfl) trivial ?_
        refine g_end (ds := [90, 91, 92, 95, 96, 97, 100, 101, 102]) rfl rfl (hK26 _ ?_); clear hK26 K26
        refine pwp_seq_cond rfl fun K36 hK36 => ⟨fun hb37 => ?_, fun hb37 => ?_⟩
        ·have hb37R := hb37; try simp only [z1, z2, z3, z4, z5, z6, ne_eq, z7, z8, z9, z10, z11, z12] at hb37
         refine pwp_seq_plain rfl fun K38 hK38 => ?_
         refine p_step rfl (e_assign (v := .sc _) rfl) trivial ?_
         refine p_end (hK38 _ ?_); clear hK38 K38
         refine pwp_ret ?_
         refine ret_seq ?_
         refine end1 (v := .sc _) rfl ?_
         first
           | exact out_b rfl
           | exact out_b (by first | (simp_all; done) | fail)
        ·have hb37R := hb37; try simp only [z1, z2, z3, z4, z5, z6, ne_eq, z7, z8, z9, z10, z11, z12] at hb37
         refine pwp_skip ?_
         refine seq_norm (hK36 _ ?_); clear hK36 K36
         refine pwp_seq_seq ?_
         refine pwp_seq_plain rfl fun K39 hK39 => ?_
         refine p_step rfl (e_move (v := .sc _) rfl) trivial ?_
         refine p_step rfl (e_ne rfl rfl) trivial ?_
         refine p_end (hK39 _ ?_); clear hK39 K39
         refine pwp_seq_cond rfl fun K40 hK40 => ⟨fun hb41 => ?_, fun hb41 => ?_⟩
         ·have hb41R := hb41; try simp only [z1, z2, z3, z4, z5, z6, ne_eq, z7, z8, z9, z10, z11, z12] at hb41
          have ha : (acpX xs ds).2 ≠ 0 := by rw [e12]; assumption
          have e21 := congrArg Prod.fst (hnd_e ha); have e22 := congrArg Prod.snd (hnd_e ha); try dsimp only at e21 e22
          refine pwp_seq_gops rfl fun K42 hK42 => ?_
          refine g_begin ?_
          refine g_step rfl rfl rfl rfl (e_move (v := .sc _) rfl) trivial ?_
          refine g_step rfl rfl rfl rfl (e_move (v := .sc _) rfl) trivial ?_
          refine g_step rfl rfl rfl rfl (e_eq rfl rfl) trivial ?_
          refine g_step rfl rfl rfl rfl (e_move (v := .sc _) rfl) trivial ?_
          refine g_cases (fun hb43 => ?_) (fun hb43 => ?_)
          ·have hb43R := hb43; try simp only [z1, z2, z3, z4, z5, z6, ne_eq, z7, z8, z9, z10, z11, z12] at hb43
           refine g_step rfl rfl rfl rfl (e_move (v := .sc _) rfl) trivial ?_
           refine g_step rfl rfl rfl rfl (e_eq rfl rfl) trivial ?_
           refine g_step rfl rfl rfl rfl (e_pickT (v := .sc _) rfl rfl) trivial ?_
           refine g_step rfl rfl rfl rfl (e_assign (v := .sc _) rfl) trivial ?_
           refine g_end (ds := [110, 111]) rfl rfl (hK42 _ ?_); clear hK42 K42
           refine pwp_ret ?_
           refine ret_seq ?_
           refine end1 (v := .sc _) rfl ?_
           first
             | exact out_b rfl
             | exact out_b (by first | (simp_all; done) | fail)
          ·have hb43R := hb43; try simp only [z1, z2, z3, z4, z5, z6, ne_eq, z7, z8, z9, z10, z11, z12] at hb43
           refine g_skip rfl rfl rfl ?_
           refine g_skip rfl rfl rfl ?_
           refine g_step rfl rfl rfl rfl (e_pickF (v := .sc _) rfl rfl) trivial ?_
           refine g_step rfl rfl rfl rfl (e_assign (v := .sc _) rfl) trivial ?_
           refine g_end (ds := [110, 111]) rfl rfl (hK42 _ ?_); clear hK42 K42
           refine pwp_ret ?_
           refine ret_seq ?_
           refine end1 (v := .sc _) rfl ?_
           first
             | exact out_b rfl
             | exact out_b (by first | (simp_all; done) | fail)
         ·have hb41R := hb41; try simp only [z1, z2, z3, z4, z5, z6, ne_eq, z7, z8, z9, z10, z11, z12] at hb41
          refine pwp_skip ?_
          refine seq_norm (hK40 _ ?_); clear hK40 K40
          have ha : (acpX xs ds).2 = 0 := by rw [e12]; assumption
          have e21 := congrArg Prod.fst (hnd_0 ha); have e22 := congrArg Prod.snd (hnd_0 ha); try dsimp only at e21 e22
          have hdr : ∀ z ∈ ds, 0 ≤ z ∧ z < (xs.length : Int) := fun z hz => by have := accR_all (nd := ndX xs) (by assumption) z hz; rw [ndX_len] at this; exact this
          refine pwp_seq_gops rfl fun K44 hK44 => ?_
          refine g_begin ?_
          refine g_step rfl rfl rfl rfl (e_move (v := .sc _) rfl) trivial ?_
          refine g_step rfl rfl rfl rfl (e_eq rfl rfl) trivial ?_
          refine g_step rfl rfl rfl rfl (e_move (v := .sc _) rfl) trivial ?_
          refine g_cases (fun hb45 => ?_) (fun hb45 => ?_)
          ·have hb45R := hb45; try simp only [z1, z2, z3, z4, z5, z6, ne_eq, z7, z8, z9, z10, z11, z12] at hb45
           refine g_step rfl rfl rfl rfl (e_move (v := .sc _) rfl) trivial ?_
           refine g_step rfl rfl rfl rfl (e_move (v := .lit _ _ _) rfl) trivial ?_
           refine g_step rfl rfl rfl rfl (e_move (v := .lit _ _ _) rfl) trivial ?_
           refine g_call rfl rfl rfl rfl (.cons inn_lit (.cons inn_lit .nil)) (refHandlingsX _ _ (by omega) (by simp only [List.length_map] at *; omega) hdr) ?_
           refine g_step rfl rfl rfl rfl (e_eq rfl rfl) trivial ?_
           refine g_step rfl rfl rfl rfl (e_pickT (v := .sc _) rfl rfl) trivial ?_
           refine g_step rfl rfl rfl rfl (e_assign (v := .sc _) rfl) trivial ?_
           refine g_end (ds := [116, 117, 118, 119, 120]) rfl rfl (hK44 _ ?_); clear hK44 K44
           refine pwp_ret ?_
           refine end1 (v := .sc _) rfl ?_
           first
             | exact out_b rfl
             | exact out_b (by first | (simp_all; done) | fail)
          ·have hb45R := hb45; try simp only [z1, z2, z3, z4, z5, z6, ne_eq, z7, z8, z9, z10, z11, z12] at hb45
           refine g_skip rfl rfl rfl ?_
           refine g_skip rfl rfl rfl ?_
           refine g_skip rfl rfl rfl ?_
           refine g_nocall rfl rfl rfl ?_
           refine g_skip rfl rfl rfl ?_
           refine g_step rfl rfl rfl rfl (e_pickF (v := .sc _) rfl rfl) trivial ?_
           refine g_step rfl rfl rfl rfl (e_assign (v := .sc _) rfl) trivial ?_
           refine g_end (ds := [116, 117, 118, 119, 120]) rfl rfl (hK44 _ ?_); clear hK44 K44
           refine pwp_ret ?_
           refine end1 (v := .sc _) rfl ?_
           first
             | exact out_b rfl
             | exact out_b (by first | (simp_all; done) | fail)

end Go.Proofs.Ytjmjiegplnfiiaa
