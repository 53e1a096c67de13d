/- Ends of slots. No conditions. -/
import Derived.Test.YtjmjiegplnfiiaaAwkA
set_option linter.unusedSimpArgs false
set_option linter.unusedVariables false
set_option maxRecDepth 100000
namespace Go.Proofs.Ytjmjiegplnfiiaa
open Go Go.Pv

theorem few_fair {xs : List Task} {n : Int} (h : fewB xs n = true) : (xs.length : Int) ≤ n ∧ Fair xs := by
  simp only [fewB, decide_eq_true_eq] at h
  exact ⟨h.1, fun x hx => by have := h.2 x hx; omega⟩
/-! ### The end of slots -/
def startB (ss : List Slot) (k : Nat) : Bool := (ss.take k).all fun s => decide (0 ≤ s.start ∧ s.start ≤ 1000000)
def endK (xs : List Task) (ss : List Slot) : Nat → Int
  | 0 => 0
  | k + 1 => max (endK xs ss k) ((ss.getD k default).start + (xs.getD k default).minutes)
def endsR (xs : List Task) (ss : List Slot) : Int × Int := if ss.length ≠ xs.length then (0, 11) else if startB ss ss.length then (endK xs ss ss.length, 0) else (0, 2)
def endsX (xs : List Task) (ss : List Slot) : Int × Int := if planE xs ≠ 0 then (0, planE xs) else endsR xs ss
section
variable {xs : List Task} {ss : List Slot} {k : Nat} {s : Slot} {x : Task}
theorem start_0 : startB ss 0 = true := by simp [startB]
theorem start_t (ht : ss.take (k + 1) = ss.take k ++ [s]) (h : startB ss k = true) (h2 : 0 ≤ s.start ∧ s.start ≤ 1000000) : startB ss (k + 1) = true := by
  simp only [startB, ht, List.all_append, List.all_cons, List.all_nil, Bool.and_true, decide_eq_true h2]; exact h
theorem start_f (hs : ss[k]? = some s) (h : ¬ (0 ≤ s.start ∧ s.start ≤ 1000000)) : startB ss ss.length = false := by
  simp only [startB, List.take_length, List.all_eq_false]
  exact ⟨s, List.mem_of_getElem? hs, by simpa using h⟩
theorem endK_s (hs : ss[k]? = some s) (hx : xs[k]? = some x) {e : Int} (he : e = endK xs ss k) : max e (s.start + x.minutes) = endK xs ss (k + 1) := by
  simp only [endK, List.getD_eq_getElem?_getD, hs, hx, Option.getD_some, he]
theorem ends_11 (h : ss.length ≠ xs.length) : endsR xs ss = (0, 11) := if_pos h
theorem ends_2 (h : ss.length = xs.length) (h2 : startB ss ss.length = false) : endsR xs ss = (0, 2) := by rw [endsR, if_neg (fun q => q h), if_neg (by rw [h2]; decide)]
theorem ends_0 (h : ss.length = xs.length) (h2 : startB ss ss.length = true) : endsR xs ss = (endK xs ss ss.length, 0) := by rw [endsR, if_neg (fun q => q h), if_pos h2]
theorem endsX_e (h : planE xs ≠ 0) : endsX xs ss = (0, planE xs) := if_pos h
theorem endsX_r (h : planE xs = 0) : endsX xs ss = endsR xs ss := if_neg (fun q => q h)
theorem pr2 {h : Heap} {a b : Int} {p : Int × Int} (e : p = (a, b)) : Out h (.tup [.int a, .int b]) (.tup [.int p.1, .int p.2]) := by rw [e]; exact out_2 (out_i rfl) (out_i rfl)
end

theorem fr21 : (inFrame Try.f21.ntmps (Try.f21.body.getD .skip) && Try.f21.results.toList.all (resScope Try.f21.ntmps)) = true := by kernel_rfl
theorem EndsC (xs : List Task) (ss : List Slot) (hfw : (xs.length : Int) ≤ 15 ∧ Fair xs) (hsl : ss.length ≤ 30) : PCalls Try.prog 21 [.lit true 6 (xs.map Task.enc), .lit true 3 (ss.map Slot.enc)] (.tup [.int (endsX xs ss).1, .int (endsX xs ss).2]) := by
  refine PCalls.of_code Try.func21 rfl rfl (by kernel_rfl) mixed fr21 (by show _ ≤ 43; simp) (pure_2 (.sc _) (.sc _)) ?_
  refine pwp_seq_plain rfl fun K1 hK1 => ?_
  refine p_step rfl (e_assign (v := .sc _) rfl) trivial ?_
  refine p_step rfl (e_assign (v := .sc _) rfl) trivial ?_
  refine p_end (hK1 _ ?_); clear hK1 K1
  refine pwp_seq_seq ?_
  refine pwp_seq_plain rfl fun K2 hK2 => ?_
  refine p_step rfl (e_move (v := .lit _ _ _) rfl) trivial ?_
  refine p_call rfl (.cons inn_lit .nil) (CheckC _ (by omega) hfw.2) ?_
  refine p_step rfl (e_assign (v := .sc _) rfl) trivial ?_
  refine p_end (hK2 _ ?_); clear hK2 K2
  refine pwp_seq_seq ?_
  refine pwp_seq_plain rfl fun K3 hK3 => ?_
  refine p_step rfl (e_move (v := .sc _) rfl) trivial ?_
  refine p_step rfl (e_ne rfl rfl) trivial ?_
  refine p_end (hK3 _ ?_); clear hK3 K3
  refine pwp_seq_cond rfl fun K4 hK4 => ⟨fun hb5 => ?_, fun hb5 => ?_⟩
  ·have hb5R := hb5; try simp only [z1, z2, z3, z4, z5, z6, ne_eq, z7, z8, z9, z10, z11, z12] at hb5
   refine pwp_seq_plain rfl fun K6 hK6 => ?_
   refine p_step rfl (e_move (v := .sc _) rfl) trivial ?_
   refine p_step rfl (e_assign (v := .sc _) rfl) trivial ?_
   refine p_step rfl (e_assign (v := .sc _) rfl) trivial ?_
   refine p_end (hK6 _ ?_); clear hK6 K6
   refine pwp_ret ?_
   refine ret_seq ?_
   refine end2 (v := .sc _) (w := .sc _) rfl rfl ?_
   first
     | exact pr2 (endsX_e (by assumption))
     | exact pr2 ((endsX_r hp).trans (ends_11 (by omega)))
     | exact pr2 ((endsX_r hp).trans (ends_2 (by omega) (start_f hs (by omega))))
     | exact pr2 ((endsX_r hp).trans ((ends_0 (by omega) hst).trans (by rw [he])))
  ·have hb5R := hb5; try simp only [z1, z2, z3, z4, z5, z6, ne_eq, z7, z8, z9, z10, z11, z12] at hb5
   refine pwp_skip ?_
   refine seq_norm (hK4 _ ?_); clear hK4 K4
   refine pwp_seq_seq ?_
   have hp : planE xs = 0 := (by assumption)
   refine pwp_seq_plain rfl fun K7 hK7 => ?_
   refine p_step rfl (e_move (v := .lit _ _ _) rfl) trivial ?_
   refine p_step rfl (e_len rfl (by kernel_rfl)) trivial ?_
   refine p_step rfl (e_move (v := .lit _ _ _) rfl) trivial ?_
   refine p_step rfl (e_len rfl (by kernel_rfl)) trivial ?_
   refine p_step rfl (e_ne rfl rfl) trivial ?_
   refine p_end (hK7 _ ?_); clear hK7 K7
   refine pwp_seq_cond rfl fun K8 hK8 => ⟨fun hb9 => ?_, fun hb9 => ?_⟩
   ·have hb9R := hb9; try simp only [z1, z2, z3, z4, z5, z6, ne_eq, z7, z8, z9, z10, z11, z12] at hb9
    refine pwp_seq_plain rfl fun K10 hK10 => ?_
    refine p_step rfl (e_assign (v := .sc _) rfl) trivial ?_
    refine p_step rfl (e_assign (v := .sc _) rfl) trivial ?_
    refine p_end (hK10 _ ?_); clear hK10 K10
    refine pwp_ret ?_
    refine ret_seq ?_
    refine end2 (v := .sc _) (w := .sc _) rfl rfl ?_
    first
      | exact pr2 (endsX_e (by assumption))
      | exact pr2 ((endsX_r hp).trans (ends_11 (by omega)))
      | exact pr2 ((endsX_r hp).trans (ends_2 (by omega) (start_f hs (by omega))))
      | exact pr2 ((endsX_r hp).trans ((ends_0 (by omega) hst).trans (by rw [he])))
   ·have hb9R := hb9; try simp only [z1, z2, z3, z4, z5, z6, ne_eq, z7, z8, z9, z10, z11, z12] at hb9
    refine pwp_skip ?_
    refine seq_norm (hK8 _ ?_); clear hK8 K8
    refine pwp_seq_plain rfl fun K11 hK11 => ?_
    refine p_step rfl (e_assign (v := .sc _) rfl) trivial ?_
    refine p_end (hK11 _ ?_); clear hK11 K11
    refine pwp_seq_seq ?_
    refine pwp_seq_plain rfl fun K12 hK12 => ?_
    refine p_step rfl (e_move (v := .lit _ _ _) rfl) trivial ?_
    refine p_step rfl (e_len rfl (by kernel_rfl)) trivial ?_
    refine p_step rfl (e_move (v := .sc _) rfl) trivial ?_
    refine p_end (hK12 _ ?_); clear hK12 K12
    refine pwp_seq_block fun K13 hK13 => ?_
    refine pwp_loopR (α := Nat × Int) [0, 20, 21] (fun (a14 : Nat × Int) => [(7, .int (a14.2)), (22, .int (a14.1))]) (fun (a14 : Nat × Int) (h : Heap) (_ : Nat → Nat) => ((a14.1) ≤ ss.length) ∧ (startB ss (a14.1) = true) ∧ ((a14.2) = endK xs ss (a14.1)) ∧ (0 ≤ (a14.2) ∧ (a14.2) ≤ 1010000)) (fun (a14 : Nat × Int) => ss.length - (a14.1)) (0, 0) (by exact ⟨rfl, rfl, trivial⟩) (by exact ⟨by exact Nat.zero_le _, by exact start_0, by exact rfl, by omega⟩) fun a14 r15 h16 c17 hj18 => ?_
    obtain ⟨k, e⟩ := a14
    obtain ⟨hk, hst, he, heb⟩ := hj18
    try dsimp only at hk
    try dsimp only at hst
    try dsimp only at he
    try dsimp only at heb
    show pwp _ _ (loopQ _ _ _) ⟨sets (mix _ _ _) [(7, .int e), (22, .int k)], _, _⟩
    refine pwp_seq_plain rfl fun K19 hK19 => ?_
    refine p_step rfl (e_lt rfl rfl) trivial ?_
    refine p_end (hK19 _ ?_); clear hK19 K19
    refine pwp_seq_cond rfl fun K20 hK20 => ⟨fun hb21 => ?_, fun hb21 => ?_⟩
    ·have hb21R := hb21; try simp only [z1, z2, z3, z4, z5, z6, ne_eq, z7, z8, z9, z10, z11, z12] at hb21
     obtain ⟨s, hs, hd, ht⟩ := get_lt (xs := ss) (i := k) (by omega)
     obtain ⟨x, hx, _, _⟩ := get_lt (xs := xs) (i := k) (by omega)
     have hrx := (task_ok hp hx).1; unfold rngT at hrx
     refine pwp_skip ?_
     refine seq_norm (hK20 _ ?_); clear hK20 K20
     refine pwp_seq_block fun K22 hK22 => ?_
     refine pwp_seq_plain rfl fun K23 hK23 => ?_
     refine p_step rfl (e_move (v := .sc _) rfl) trivial ?_
     refine p_step rfl (e_ixa rfl rfl (by kernel_rfl) (by kernel_rfl) (by first | omega | (simp only [List.length_map]; omega))) trivial ?_
     refine p_step rfl (e_loadA (n := 3) rfl (by kernel_rfl) (by kernel_rfl) (by kernel_rfl) (by first | omega | (simp only [List.length_map]; omega)) (by decide) (by first | exact agg_map hs rfl)) trivial ?_
     refine p_new rfl (e_alloc (cs := [.int 0, .int 0, .int 0]) (n := 3) (by kernel_rfl) rfl (by decide)) (ob_alloc (by decide)) ?_
     refine p_step rfl (e_assign (v := .sc _) rfl) trivial ?_
     refine p_store rfl (e_storeA rfl (hset_self _ _ _) rfl rfl rfl (by kernel_rfl) rfl (by kernel_rfl)) trivial ?_
     refine p_end (hK23 _ ?_); clear hK23 K23
     refine pwp_seq_seq ?_
     refine pwp_seq_plain rfl fun K24 hK24 => ?_
     refine p_step rfl (e_faP (pl := [(0, 1, false), (1, 1, false), (2, 1, false)]) rfl (by kernel_rfl) (by kernel_rfl) (by decide) rfl) trivial ?_
     refine p_step rfl (e_loadH (v := .sc _) rfl (hset_self _ _ _) (by kernel_rfl) (by kernel_rfl) (by kernel_rfl) (by exact Nat.zero_lt_one) (by decide) rfl) trivial ?_
     refine p_call rfl (.cons inn_sc (.cons inn_sc (.cons inn_sc .nil))) (within _ _ _) ?_
     refine p_step rfl (e_not rfl) trivial ?_
     refine p_end (hK24 _ ?_); clear hK24 K24
     refine pwp_seq_cond rfl fun K25 hK25 => ⟨fun hb26 => ?_, fun hb26 => ?_⟩
     ·have hb26R := hb26; try simp only [z1, z2, z3, z4, z5, z6, ne_eq, z7, z8, z9, z10, z11, z12] at hb26
      refine pwp_seq_plain rfl fun K27 hK27 => ?_
      refine p_step rfl (e_assign (v := .sc _) rfl) trivial ?_
      refine p_step rfl (e_assign (v := .sc _) rfl) trivial ?_
      refine p_end (hK27 _ ?_); clear hK27 K27
      refine pwp_ret ?_
      refine ret_seq ?_
      refine ret_block ?_
      refine ret_seq ?_
      refine ret_loop ?_
      refine ret_block ?_
      refine ret_seq ?_
      refine end2 (v := .sc _) (w := .sc _) rfl rfl ?_
      first
        | exact pr2 (endsX_e (by assumption))
        | exact pr2 ((endsX_r hp).trans (ends_11 (by omega)))
        | exact pr2 ((endsX_r hp).trans (ends_2 (by omega) (start_f hs (by omega))))
        | exact pr2 ((endsX_r hp).trans ((ends_0 (by omega) hst).trans (by rw [he])))
     ·have hb26R := hb26; try simp only [z1, z2, z3, z4, z5, z6, ne_eq, z7, z8, z9, z10, z11, z12] at hb26
      refine pwp_skip ?_
      refine seq_norm (hK25 _ ?_); clear hK25 K25
      refine pwp_gops rfl fun K28 hK28 => ?_
      refine g_begin ?_
      refine g_step rfl rfl rfl rfl (e_move (v := .sc _) rfl) trivial ?_
      refine g_step rfl rfl rfl rfl (e_faP (pl := [(0, 1, false), (1, 1, false), (2, 1, false)]) rfl (by kernel_rfl) (by kernel_rfl) (by decide) rfl) trivial ?_
      refine g_step rfl rfl rfl rfl (e_loadH (v := .sc _) rfl (hset_self _ _ _) (by kernel_rfl) (by kernel_rfl) (by kernel_rfl) (by exact Nat.zero_lt_one) (by decide) rfl) trivial ?_
      refine g_step rfl rfl rfl rfl (e_move (v := .lit _ _ _) rfl) trivial ?_
      refine g_step rfl rfl rfl rfl (e_move (v := .sc _) rfl) trivial ?_
      refine g_step rfl rfl rfl rfl (e_ixa rfl rfl (by kernel_rfl) (by kernel_rfl) (by first | omega | (simp only [List.length_map]; omega))) trivial ?_
      refine g_step rfl rfl rfl rfl (e_fa (pl := [(0, 1, false), (1, 1, false), (2, 1, false), (3, 1, false), (4, 1, false), (5, 1, false)]) rfl (by kernel_rfl) (by kernel_rfl) (by decide) rfl) trivial ?_
      refine g_step rfl rfl rfl rfl (e_load (v := .sc _) rfl (by kernel_rfl) (by kernel_rfl) (by kernel_rfl) (by first | omega | (simp only [List.length_map]; omega)) (by decide) ((cell_map hx _).trans rfl)) trivial ?_
      refine g_step rfl rfl rfl rfl (e_add rfl rfl (by first | omega | (simp only [List.length_map] at *; omega))) trivial ?_
      refine g_step rfl rfl rfl rfl (e_max rfl rfl) trivial ?_
      refine g_step rfl rfl rfl rfl (e_assign (v := .sc _) rfl) trivial ?_
      refine g_end (ds := []) (by kernel_rfl) rfl (hK28 _ ?_); clear hK28 K28
      refine block_norm ?_
      refine seq_norm (hK22 _ ?_); clear hK22 K22
      refine pwp_plain rfl fun K29 hK29 => ?_
      refine p_step rfl (e_add rfl rfl (by first | omega | (simp only [List.length_map] at *; omega))) trivial ?_
      refine p_step rfl (e_move (v := .sc _) rfl) trivial ?_
      refine p_end (hK29 _ ?_); clear hK29 K29
      exact loop_again ((k + 1, (max e (s.start + x.minutes)))) (by show _ < _; simp only; omega) ⟨rfl, rfl, rfl, trivial⟩ ⟨rfl, rfl, trivial⟩ (by exact ⟨by show _ + 1 ≤ _; omega, by exact start_t ht hst (by omega), by exact endK_s hs hx he, by (show 0 ≤ max e (s.start + x.minutes) ∧ max e (s.start + x.minutes) ≤ 1010000; omega)⟩)
    ·have hb21R := hb21; try simp only [z1, z2, z3, z4, z5, z6, ne_eq, z7, z8, z9, z10, z11, z12] at hb21
     obtain rfl : k = ss.length := by simp only [List.length_map] at *; omega
     refine pwp_exit ?_
     refine exit_seq ?_
     clear hK20 K20
     refine exit_loop ?_
     refine exit_here ?_
     refine seq_norm (hK13 _ ?_); clear hK13 K13
     refine pwp_seq_plain rfl fun K30 hK30 => ?_
     refine p_step rfl (e_move (v := .sc _) rfl) trivial ?_
     refine p_step rfl (e_assign (v := .sc _) rfl) trivial ?_
     refine p_step rfl (e_assign (v := .sc _) rfl) trivial ?_
     refine p_end (hK30 _ ?_); clear hK30 K30
     refine pwp_ret ?_
     refine end2 (v := .sc _) (w := .sc _) rfl rfl ?_
     first
       | exact pr2 (endsX_e (by assumption))
       | exact pr2 ((endsX_r hp).trans (ends_11 (by omega)))
       | exact pr2 ((endsX_r hp).trans (ends_2 (by omega) (start_f hs (by omega))))
       | exact pr2 ((endsX_r hp).trans ((ends_0 (by omega) hst).trans (by rw [he])))

theorem start_at {ss : List Slot} {k : Nat} {s : Slot} (h : startB ss ss.length = true) (hs : ss[k]? = some s) : 0 ≤ s.start ∧ s.start ≤ 1000000 := by
  simp only [startB, List.take_length, List.all_eq_true, decide_eq_true_eq] at h
  exact h s (List.mem_of_getElem? hs)

theorem fr22 : (inFrame Try.f22.ntmps (Try.f22.body.getD .skip) && Try.f22.results.toList.all (resScope Try.f22.ntmps)) = true := by kernel_rfl
theorem refEndsC (xs : List Task) (ss : List Slot) (hp : planE xs = 0) (hxl : xs.length ≤ 15) (hsl : ss.length ≤ 30) : PCalls Try.prog 22 [.lit true 6 (xs.map Task.enc), .lit true 3 (ss.map Slot.enc)] (.tup [.int (endsR xs ss).1, .int (endsR xs ss).2]) := by
  refine PCalls.of_code Try.func22 rfl rfl (by kernel_rfl) mixed fr22 (by show _ ≤ 47; simp) (pure_2 (.sc _) (.sc _)) ?_
  refine pwp_seq_plain rfl fun K1 hK1 => ?_
  refine p_step rfl (e_assign (v := .sc _) rfl) trivial ?_
  refine p_step rfl (e_assign (v := .sc _) rfl) trivial ?_
  refine p_end (hK1 _ ?_); clear hK1 K1
  refine pwp_seq_seq ?_
  refine pwp_seq_plain rfl fun K2 hK2 => ?_
  refine p_step rfl (e_move (v := .lit _ _ _) rfl) trivial ?_
  refine p_step rfl (e_len rfl (by kernel_rfl)) trivial ?_
  refine p_step rfl (e_move (v := .lit _ _ _) rfl) trivial ?_
  refine p_step rfl (e_len rfl (by kernel_rfl)) trivial ?_
  refine p_step rfl (e_ne rfl rfl) trivial ?_
  refine p_end (hK2 _ ?_); clear hK2 K2
  refine pwp_seq_cond rfl fun K3 hK3 => ⟨fun hb4 => ?_, fun hb4 => ?_⟩
  ·have hb4R := hb4; try simp only [z1, z2, z3, z4, z5, z6, ne_eq, z7, z8, z9, z10, z11, z12] at hb4
   refine pwp_seq_plain rfl fun K5 hK5 => ?_
   refine p_step rfl (e_assign (v := .sc _) rfl) trivial ?_
   refine p_step rfl (e_assign (v := .sc _) rfl) trivial ?_
   refine p_end (hK5 _ ?_); clear hK5 K5
   refine pwp_ret ?_
   refine ret_seq ?_
   refine end2 (v := .sc _) (w := .sc _) rfl rfl ?_
   first
     | exact pr2 (ends_11 (by omega))
     | exact pr2 (ends_2 (by omega) (start_f hs (by omega)))
     | exact pr2 ((ends_0 (by omega) hst).trans (by rw [he]))
  ·have hb4R := hb4; try simp only [z1, z2, z3, z4, z5, z6, ne_eq, z7, z8, z9, z10, z11, z12] at hb4
   refine pwp_skip ?_
   refine seq_norm (hK3 _ ?_); clear hK3 K3
   refine pwp_seq_plain rfl fun K6 hK6 => ?_
   refine p_step rfl (e_assign (v := .sc _) rfl) trivial ?_
   refine p_end (hK6 _ ?_); clear hK6 K6
   refine pwp_seq_seq ?_
   refine pwp_seq_plain rfl fun K7 hK7 => ?_
   refine p_step rfl (e_assign (v := .sc _) rfl) trivial ?_
   refine p_end (hK7 _ ?_); clear hK7 K7
   refine pwp_seq_block fun K8 hK8 => ?_
   refine pwp_loopR (α := Nat) [0, 1, 6] (fun (k : Nat) => [(7, .int (k))]) (fun (k : Nat) (h : Heap) (_ : Nat → Nat) => ((k) ≤ ss.length) ∧ (startB ss (k) = true)) (fun (k : Nat) => ss.length - (k)) (0) (by exact ⟨rfl, trivial⟩) (by exact ⟨by exact Nat.zero_le _, by exact start_0⟩) fun k r9 h10 c11 hj12 => ?_
   obtain ⟨hk, hst⟩ := hj12
   try dsimp only at hk
   try dsimp only at hst
   show pwp _ _ (loopQ _ _ _) ⟨sets (mix _ _ _) [(7, .int k)], _, _⟩
   refine pwp_seq_seq ?_
   refine pwp_seq_plain rfl fun K13 hK13 => ?_
   refine p_step rfl (e_move (v := .sc _) rfl) trivial ?_
   refine p_step rfl (e_move (v := .lit _ _ _) rfl) trivial ?_
   refine p_step rfl (e_len rfl (by kernel_rfl)) trivial ?_
   refine p_step rfl (e_lt rfl rfl) trivial ?_
   refine p_end (hK13 _ ?_); clear hK13 K13
   refine pwp_seq_cond rfl fun K14 hK14 => ⟨fun hb15 => ?_, fun hb15 => ?_⟩
   ·have hb15R := hb15; try simp only [z1, z2, z3, z4, z5, z6, ne_eq, z7, z8, z9, z10, z11, z12] at hb15
    obtain ⟨s, hs, hd, ht⟩ := get_lt (xs := ss) (i := k) (by omega)
    refine pwp_skip ?_
    refine seq_norm (hK14 _ ?_); clear hK14 K14
    refine pwp_seq_block fun K16 hK16 => ?_
    refine pwp_seq_plain rfl fun K17 hK17 => ?_
    refine p_step rfl (e_move (v := .lit _ _ _) rfl) trivial ?_
    refine p_step rfl (e_move (v := .sc _) rfl) trivial ?_
    refine p_step rfl (e_ixa rfl rfl (by kernel_rfl) (by kernel_rfl) (by first | omega | (simp only [List.length_map]; omega))) trivial ?_
    refine p_step rfl (e_fa (pl := [(0, 1, false), (1, 1, false), (2, 1, false)]) rfl (by kernel_rfl) (by kernel_rfl) (by decide) rfl) trivial ?_
    refine p_step rfl (e_load (v := .sc _) rfl (by kernel_rfl) (by kernel_rfl) (by kernel_rfl) (by first | omega | (simp only [List.length_map]; omega)) (by decide) ((cell_map hs _).trans rfl)) trivial ?_
    refine p_call rfl (.cons inn_sc (.cons inn_sc (.cons inn_sc .nil))) (Within _ _ _) ?_
    refine p_step rfl (e_not rfl) trivial ?_
    refine p_end (hK17 _ ?_); clear hK17 K17
    refine pwp_cond rfl (fun hb18 => ?_) (fun hb18 => ?_)
    ·have hb18R := hb18; try simp only [z1, z2, z3, z4, z5, z6, ne_eq, z7, z8, z9, z10, z11, z12] at hb18
     refine pwp_seq_plain rfl fun K19 hK19 => ?_
     refine p_step rfl (e_assign (v := .sc _) rfl) trivial ?_
     refine p_step rfl (e_assign (v := .sc _) rfl) trivial ?_
     refine p_end (hK19 _ ?_); clear hK19 K19
     refine pwp_ret ?_
     refine ret_block ?_
     refine ret_seq ?_
     refine ret_loop ?_
     refine ret_block ?_
     refine ret_seq ?_
     refine end2 (v := .sc _) (w := .sc _) rfl rfl ?_
     first
       | exact pr2 (ends_11 (by omega))
       | exact pr2 (ends_2 (by omega) (start_f hs (by omega)))
       | exact pr2 ((ends_0 (by omega) hst).trans (by rw [he]))
    ·have hb18R := hb18; try simp only [z1, z2, z3, z4, z5, z6, ne_eq, z7, z8, z9, z10, z11, z12] at hb18
     refine pwp_skip ?_
     refine block_norm ?_
     refine seq_norm (hK16 _ ?_); clear hK16 K16
     refine pwp_plain rfl fun K20 hK20 => ?_
     refine p_step rfl (e_move (v := .sc _) rfl) trivial ?_
     refine p_step rfl (e_add rfl rfl (by first | omega | (simp only [List.length_map] at *; omega))) trivial ?_
     refine p_step rfl (e_assign (v := .sc _) rfl) trivial ?_
     refine p_end (hK20 _ ?_); clear hK20 K20
     exact loop_again (k + 1) (by show _ < _; omega) ⟨rfl, rfl, rfl, trivial⟩ ⟨rfl, trivial⟩ (by exact ⟨by show _ + 1 ≤ _; omega, by exact start_t ht hst (by omega)⟩)
   ·have hb15R := hb15; try simp only [z1, z2, z3, z4, z5, z6, ne_eq, z7, z8, z9, z10, z11, z12] at hb15
    obtain rfl : k = ss.length := by simp only [List.length_map] at *; omega
    refine pwp_exit ?_
    refine exit_seq ?_
    clear hK14 K14
    refine exit_loop ?_
    refine exit_here ?_
    refine seq_norm (hK8 _ ?_); clear hK8 K8
    refine pwp_seq_seq ?_
    refine pwp_seq_plain rfl fun K21 hK21 => ?_
    refine p_step rfl (e_assign (v := .sc _) rfl) trivial ?_
    refine p_end (hK21 _ ?_); clear hK21 K21
    refine pwp_seq_block fun K22 hK22 => ?_
    refine pwp_loopR (α := Nat × Int) [0, 1] (fun (a23 : Nat × Int) => [(6, .int (a23.2)), (8, .int (a23.1))]) (fun (a23 : Nat × Int) (h : Heap) (_ : Nat → Nat) => ((a23.1) ≤ ss.length) ∧ ((a23.2) = endK xs ss (a23.1)) ∧ (0 ≤ (a23.2) ∧ (a23.2) ≤ 1010000)) (fun (a23 : Nat × Int) => ss.length - (a23.1)) (0, 0) (by exact ⟨rfl, rfl, trivial⟩) (by exact ⟨by exact Nat.zero_le _, by exact rfl, by omega⟩) fun a23 r24 h25 c26 hj27 => ?_
    obtain ⟨k, e⟩ := a23
    obtain ⟨hk, he, heb⟩ := hj27
    try dsimp only at hk
    try dsimp only at he
    try dsimp only at heb
    show pwp _ _ (loopQ _ _ _) ⟨sets (mix _ _ _) [(6, .int e), (8, .int k)], _, _⟩
    refine pwp_seq_seq ?_
    refine pwp_seq_plain rfl fun K28 hK28 => ?_
    refine p_step rfl (e_move (v := .sc _) rfl) trivial ?_
    refine p_step rfl (e_move (v := .lit _ _ _) rfl) trivial ?_
    refine p_step rfl (e_len rfl (by kernel_rfl)) trivial ?_
    refine p_step rfl (e_lt rfl rfl) trivial ?_
    refine p_end (hK28 _ ?_); clear hK28 K28
    refine pwp_seq_cond rfl fun K29 hK29 => ⟨fun hb30 => ?_, fun hb30 => ?_⟩
    ·have hb30R := hb30; try simp only [z1, z2, z3, z4, z5, z6, ne_eq, z7, z8, z9, z10, z11, z12] at hb30
     obtain ⟨s, hs, hd, ht⟩ := get_lt (xs := ss) (i := k) (by omega)
     obtain ⟨x, hx, _, _⟩ := get_lt (xs := xs) (i := k) (by omega)
     have hrx := (task_ok hp hx).1; unfold rngT at hrx
     have hsx := start_at hst hs
     refine pwp_skip ?_
     refine seq_norm (hK29 _ ?_); clear hK29 K29
     refine pwp_seq_block fun K31 hK31 => ?_
     refine pwp_gops rfl fun K32 hK32 => ?_
     refine g_begin ?_
     refine g_step rfl rfl rfl rfl (e_move (v := .sc _) rfl) trivial ?_
     refine g_step rfl rfl rfl rfl (e_move (v := .lit _ _ _) rfl) trivial ?_
     refine g_step rfl rfl rfl rfl (e_move (v := .sc _) rfl) trivial ?_
     refine g_step rfl rfl rfl rfl (e_ixa rfl rfl (by kernel_rfl) (by kernel_rfl) (by first | omega | (simp only [List.length_map]; omega))) trivial ?_
     refine g_step rfl rfl rfl rfl (e_fa (pl := [(0, 1, false), (1, 1, false), (2, 1, false)]) rfl (by kernel_rfl) (by kernel_rfl) (by decide) rfl) trivial ?_
     refine g_step rfl rfl rfl rfl (e_load (v := .sc _) rfl (by kernel_rfl) (by kernel_rfl) (by kernel_rfl) (by first | omega | (simp only [List.length_map]; omega)) (by decide) ((cell_map hs _).trans rfl)) trivial ?_
     refine g_step rfl rfl rfl rfl (e_move (v := .lit _ _ _) rfl) trivial ?_
     refine g_step rfl rfl rfl rfl (e_move (v := .sc _) rfl) trivial ?_
     refine g_step rfl rfl rfl rfl (e_ixa rfl rfl (by kernel_rfl) (by kernel_rfl) (by first | omega | (simp only [List.length_map]; omega))) trivial ?_
     refine g_step rfl rfl rfl rfl (e_fa (pl := [(0, 1, false), (1, 1, false), (2, 1, false), (3, 1, false), (4, 1, false), (5, 1, false)]) rfl (by kernel_rfl) (by kernel_rfl) (by decide) rfl) trivial ?_
     refine g_step rfl rfl rfl rfl (e_load (v := .sc _) rfl (by kernel_rfl) (by kernel_rfl) (by kernel_rfl) (by first | omega | (simp only [List.length_map]; omega)) (by decide) ((cell_map hx _).trans rfl)) trivial ?_
     refine g_step rfl rfl rfl rfl (e_add rfl rfl (by first | omega | (simp only [List.length_map] at *; omega))) trivial ?_
     refine g_step rfl rfl rfl rfl (e_max rfl rfl) trivial ?_
     refine g_step rfl rfl rfl rfl (e_assign (v := .sc _) rfl) trivial ?_
     refine g_end (ds := []) (by kernel_rfl) rfl (hK32 _ ?_); clear hK32 K32
     refine block_norm ?_
     refine seq_norm (hK31 _ ?_); clear hK31 K31
     refine pwp_plain rfl fun K33 hK33 => ?_
     refine p_step rfl (e_move (v := .sc _) rfl) trivial ?_
     refine p_step rfl (e_add rfl rfl (by first | omega | (simp only [List.length_map] at *; omega))) trivial ?_
     refine p_step rfl (e_assign (v := .sc _) rfl) trivial ?_
     refine p_end (hK33 _ ?_); clear hK33 K33
     exact loop_again ((k + 1, (max e (s.start + x.minutes)))) (by show _ < _; simp only; omega) ⟨rfl, rfl, trivial⟩ ⟨rfl, rfl, trivial⟩ (by exact ⟨by show _ + 1 ≤ _; omega, by exact endK_s hs hx he, by (show 0 ≤ max e (s.start + x.minutes) ∧ max e (s.start + x.minutes) ≤ 1010000; omega)⟩)
    ·have hb30R := hb30; try simp only [z1, z2, z3, z4, z5, z6, ne_eq, z7, z8, z9, z10, z11, z12] at hb30
     obtain rfl : k = ss.length := by simp only [List.length_map] at *; omega
     refine pwp_exit ?_
     refine exit_seq ?_
     clear hK29 K29
     refine exit_loop ?_
     refine exit_here ?_
     refine seq_norm (hK22 _ ?_); clear hK22 K22
     refine pwp_seq_plain rfl fun K34 hK34 => ?_
     refine p_step rfl (e_move (v := .sc _) rfl) trivial ?_
     refine p_step rfl (e_assign (v := .sc _) rfl) trivial ?_
     refine p_step rfl (e_assign (v := .sc _) rfl) trivial ?_
     refine p_end (hK34 _ ?_); clear hK34 K34
     refine pwp_ret ?_
     refine end2 (v := .sc _) (w := .sc _) rfl rfl ?_
     first
       | exact pr2 (ends_11 (by omega))
       | exact pr2 (ends_2 (by omega) (start_f hs (by omega)))
       | exact pr2 ((ends_0 (by omega) hst).trans (by rw [he]))

theorem fr4 : (inFrame Try.f4.ntmps (Try.f4.body.getD .skip) && Try.f4.results.toList.all (resScope Try.f4.ntmps)) = true := by kernel_rfl
theorem hEnds (xs : List Task) (ss : List Slot) (hl : xs.length ≤ 9223372036854775807) : PCalls Try.prog 4 [.lit true 6 (xs.map Task.enc), .lit true 3 (ss.map Slot.enc)] (.bool true) := by
  refine PCalls.of_code Try.func4 rfl rfl (by kernel_rfl) mixed fr4 (by show _ ≤ 51; simp) (.sc _) ?_
  refine pwp_seq_plain rfl fun K1 hK1 => ?_
  refine p_step rfl (e_assign (v := .sc _) rfl) trivial ?_
  refine p_end (hK1 _ ?_); clear hK1 K1
  refine pwp_seq_seq ?_
  refine pwp_seq_plain rfl fun K2 hK2 => ?_
  refine p_call rfl .nil (awake) ?_
  refine p_step rfl (e_not rfl) trivial ?_
  refine p_end (hK2 _ ?_); clear hK2 K2
  refine pwp_seq_cond (t := false) rfl fun K3 hK3 => ⟨nofun, fun _ => ?_⟩
  refine pwp_skip ?_
  refine seq_norm (hK3 _ ?_); clear hK3 K3
  refine pwp_seq_seq ?_
  refine pwp_seq_gops rfl fun K4 hK4 => ?_
  refine g_begin ?_
  refine g_step rfl rfl rfl rfl (e_move (v := .lit _ _ _) rfl) trivial ?_
  refine g_call rfl rfl rfl rfl (.cons inn_lit (.cons inn_sc .nil)) (FewC _ _ (by omega)) ?_
  refine g_step rfl rfl rfl rfl (e_not rfl) trivial ?_
  refine g_step rfl rfl rfl rfl (e_move (v := .sc _) rfl) trivial ?_
  refine g_cases (fun hb5 => ?_) (fun hb5 => ?_)
  ·have hb5R := hb5; try simp only [z1, z2, z3, z4, z5, z6, ne_eq, z7, z8, z9, z10, z11, z12] at hb5
   refine g_skip rfl rfl rfl ?_
   refine g_skip rfl rfl rfl ?_
   refine g_skip rfl rfl rfl ?_
   refine g_step rfl rfl rfl rfl (e_pickT (v := .sc _) rfl rfl) trivial ?_
   refine g_end (ds := [16, 17, 18]) rfl rfl (hK4 _ ?_); clear hK4 K4
   refine pwp_seq_cond (t := true) rfl fun K6 hK6 => ⟨fun _ => ?_, nofun⟩
   refine pwp_seq_plain rfl fun K7 hK7 => ?_
   refine p_step rfl (e_assign (v := .sc _) rfl) trivial ?_
   refine p_end (hK7 _ ?_); clear hK7 K7
   refine pwp_ret ?_
   refine ret_seq ?_
   refine end1 (v := .sc _) rfl ?_
   first
     | exact out_b rfl
     | exact out_b (by rw [endsX_e (by assumption)] at *; simp_all)
     | exact out_b (by rw [endsX_r hp] at *; simp_all)
  ·have hb5R := hb5; try simp only [z1, z2, z3, z4, z5, z6, ne_eq, z7, z8, z9, z10, z11, z12] at hb5
   refine g_step rfl rfl rfl rfl (e_move (v := .lit _ _ _) rfl) trivial ?_
   refine g_step rfl rfl rfl rfl (e_len rfl (by kernel_rfl)) trivial ?_
   refine g_step rfl rfl rfl rfl (e_gt rfl rfl) trivial ?_
   refine g_step rfl rfl rfl rfl (e_pickF (v := .sc _) rfl rfl) trivial ?_
   refine g_end (ds := [16, 17, 18]) rfl rfl (hK4 _ ?_); clear hK4 K4
   refine pwp_seq_cond rfl fun K8 hK8 => ⟨fun hb9 => ?_, fun hb9 => ?_⟩
   ·have hb9R := hb9; try simp only [z1, z2, z3, z4, z5, z6, ne_eq, z7, z8, z9, z10, z11, z12] at hb9
    refine pwp_seq_plain rfl fun K10 hK10 => ?_
    refine p_step rfl (e_assign (v := .sc _) rfl) trivial ?_
    refine p_end (hK10 _ ?_); clear hK10 K10
    refine pwp_ret ?_
    refine ret_seq ?_
    refine end1 (v := .sc _) rfl ?_
    first
      | exact out_b rfl
      | exact out_b (by rw [endsX_e (by assumption)] at *; simp_all)
      | exact out_b (by rw [endsX_r hp] at *; simp_all)
   ·have hb9R := hb9; try simp only [z1, z2, z3, z4, z5, z6, ne_eq, z7, z8, z9, z10, z11, z12] at hb9
    refine pwp_skip ?_
    refine seq_norm (hK8 _ ?_); clear hK8 K8
    have hfw := few_fair (by assumption)
    refine pwp_seq_plain rfl fun K11 hK11 => ?_
    refine p_step rfl (e_move (v := .lit _ _ _) rfl) trivial ?_
    refine p_step rfl (e_move (v := .lit _ _ _) rfl) trivial ?_
    refine p_call rfl (.cons inn_lit (.cons inn_lit .nil)) (EndsC _ _ hfw (by simp only [List.length_map] at *; omega)) ?_
    refine p_step rfl (e_move (v := .tup _) rfl) trivial ?_
    refine p_step rfl (e_ext (v := .sc _) rfl (by simp) rfl) trivial ?_
    refine p_step rfl (e_ext (v := .sc _) rfl (by simp) rfl) trivial ?_
    refine p_step rfl (e_assign (v := .sc _) rfl) trivial ?_
    refine p_step rfl (e_assign (v := .sc _) rfl) trivial ?_
    refine p_end (hK11 _ ?_); clear hK11 K11
    refine pwp_seq_seq ?_
    refine pwp_seq_plain rfl fun K12 hK12 => ?_
    refine p_step rfl (e_move (v := .lit _ _ _) rfl) trivial ?_
    refine p_call rfl (.cons inn_lit .nil) (refCheckC _ (by omega) hfw.2) ?_
    refine p_step rfl (e_assign (v := .sc _) rfl) trivial ?_
    refine p_end (hK12 _ ?_); clear hK12 K12
    refine pwp_seq_seq ?_
    refine pwp_seq_plain rfl fun K13 hK13 => ?_
    refine p_step rfl (e_move (v := .sc _) rfl) trivial ?_
    refine p_step rfl (e_ne rfl rfl) trivial ?_
    refine p_end (hK13 _ ?_); clear hK13 K13
    refine pwp_seq_cond rfl fun K14 hK14 => ⟨fun hb15 => ?_, fun hb15 => ?_⟩
    ·have hb15R := hb15; try simp only [z1, z2, z3, z4, z5, z6, ne_eq, z7, z8, z9, z10, z11, z12] at hb15
     refine pwp_seq_gops rfl fun K16 hK16 => ?_
     refine g_begin ?_
     refine g_step rfl rfl rfl rfl (e_move (v := .sc _) rfl) trivial ?_
     refine g_step rfl rfl rfl rfl (e_move (v := .sc _) rfl) trivial ?_
     refine g_step rfl rfl rfl rfl (e_eq rfl rfl) trivial ?_
     refine g_step rfl rfl rfl rfl (e_move (v := .sc _) rfl) trivial ?_
     refine g_cases (fun hb17 => ?_) (fun hb17 => ?_)
     ·have hb17R := hb17; try simp only [z1, z2, z3, z4, z5, z6, ne_eq, z7, z8, z9, z10, z11, z12] at hb17
      refine g_step rfl rfl rfl rfl (e_move (v := .sc _) rfl) trivial ?_
      refine g_step rfl rfl rfl rfl (e_eq rfl rfl) trivial ?_
      refine g_step rfl rfl rfl rfl (e_pickT (v := .sc _) rfl rfl) trivial ?_
      refine g_step rfl rfl rfl rfl (e_assign (v := .sc _) rfl) trivial ?_
      refine g_end (ds := [34, 35]) rfl rfl (hK16 _ ?_); clear hK16 K16
      refine pwp_ret ?_
      refine ret_seq ?_
      refine end1 (v := .sc _) rfl ?_
      first
        | exact out_b rfl
        | exact out_b (by rw [endsX_e (by assumption)] at *; simp_all)
        | exact out_b (by rw [endsX_r hp] at *; simp_all)
     ·have hb17R := hb17; try simp only [z1, z2, z3, z4, z5, z6, ne_eq, z7, z8, z9, z10, z11, z12] at hb17
      refine g_skip rfl rfl rfl ?_
      refine g_skip rfl rfl rfl ?_
      refine g_step rfl rfl rfl rfl (e_pickF (v := .sc _) rfl rfl) trivial ?_
      refine g_step rfl rfl rfl rfl (e_assign (v := .sc _) rfl) trivial ?_
      refine g_end (ds := [34, 35]) rfl rfl (hK16 _ ?_); clear hK16 K16
      refine pwp_ret ?_
      refine ret_seq ?_
      refine end1 (v := .sc _) rfl ?_
      first
        | exact out_b rfl
        | exact out_b (by rw [endsX_e (by assumption)] at *; simp_all)
        | exact out_b (by rw [endsX_r hp] at *; simp_all)
    ·have hb15R := hb15; try simp only [z1, z2, z3, z4, z5, z6, ne_eq, z7, z8, z9, z10, z11, z12] at hb15
     refine pwp_skip ?_
     refine seq_norm (hK14 _ ?_); clear hK14 K14
     have hp : planE xs = 0 := (by assumption)
     refine pwp_seq_plain rfl fun K18 hK18 => ?_
     refine p_step rfl (e_move (v := .lit _ _ _) rfl) trivial ?_
     refine p_step rfl (e_move (v := .lit _ _ _) rfl) trivial ?_
     refine p_call rfl (.cons inn_lit (.cons inn_lit .nil)) (refEndsC _ _ hp (by omega) (by simp only [List.length_map] at *; omega)) ?_
     refine p_step rfl (e_move (v := .tup _) rfl) trivial ?_
     refine p_step rfl (e_ext (v := .sc _) rfl (by simp) rfl) trivial ?_
     refine p_step rfl (e_ext (v := .sc _) rfl (by simp) rfl) trivial ?_
     refine p_step rfl (e_assign (v := .sc _) rfl) trivial ?_
     refine p_step rfl (e_assign (v := .sc _) rfl) trivial ?_
     refine p_end (hK18 _ ?_); clear hK18 K18
     refine pwp_seq_gops rfl fun K19 hK19 => ?_
     refine g_begin ?_
     refine g_step rfl rfl rfl rfl (e_move (v := .sc _) rfl) trivial ?_
     refine g_step rfl rfl rfl rfl (e_move (v := .sc _) rfl) trivial ?_
     refine g_step rfl rfl rfl rfl (e_eq rfl rfl) trivial ?_
     refine g_step rfl rfl rfl rfl (e_move (v := .sc _) rfl) trivial ?_
     refine g_cases (fun hb20 => ?_) (fun hb20 => ?_)
     ·have hb20R := hb20; try simp only [z1, z2, z3, z4, z5, z6, ne_eq, z7, z8, z9, z10, z11, z12] at hb20
      refine g_step rfl rfl rfl rfl (e_move (v := .sc _) rfl) trivial ?_
      refine g_step rfl rfl rfl rfl (e_move (v := .sc _) rfl) trivial ?_
      refine g_step rfl rfl rfl rfl (e_eq rfl rfl) trivial ?_
      refine g_step rfl rfl rfl rfl (e_pickT (v := .sc _) rfl rfl) trivial ?_
      refine g_step rfl rfl rfl rfl (e_assign (v := .sc _) rfl) trivial ?_
      refine g_end (ds := [47, 48, 49]) rfl rfl (hK19 _ ?_); clear hK19 K19
      refine pwp_ret ?_
      refine end1 (v := .sc _) rfl ?_
      first
        | exact out_b rfl
        | exact out_b (by rw [endsX_e (by assumption)] at *; simp_all)
        | exact out_b (by rw [endsX_r hp] at *; simp_all)
     ·have hb20R := hb20; try simp only [z1, z2, z3, z4, z5, z6, ne_eq, z7, z8, z9, z10, z11, z12] at hb20
      refine g_skip rfl rfl rfl ?_
      refine g_skip rfl rfl rfl ?_
      refine g_skip rfl rfl rfl ?_
      refine g_step rfl rfl rfl rfl (e_pickF (v := .sc _) rfl rfl) trivial ?_
      refine g_step rfl rfl rfl rfl (e_assign (v := .sc _) rfl) trivial ?_
      refine g_end (ds := [47, 48, 49]) rfl rfl (hK19 _ ?_); clear hK19 K19
      refine pwp_ret ?_
      refine end1 (v := .sc _) rfl ?_
      first
        | exact out_b rfl
        | exact out_b (by rw [endsX_e (by assumption)] at *; simp_all)
        | exact out_b (by rw [endsX_r hp] at *; simp_all)

end Go.Proofs.Ytjmjiegplnfiiaa
