import Derived.Test.YtjmjiegplnfiiaaAwkA
/- Ends of slots. No conditions. -/
set_option linter.unusedSimpArgs false
set_option linter.unusedVariables false
set_option maxRecDepth 100000
namespace Go.Proofs.Ytjmjiegplnfiiaa
open Go Go.Pv

theorem few_fair {xs : List Task} {n : Int} (h : fewB xs n = true) : (xs.length : Int) ≤ n ∧ Fair xs := by
 simp only [fewB, decide_eq_true_eq] at h
 exact ⟨h.1, fun x hx => by have := h.2 x hx; omega⟩
/-! ### The end of slots -/
def startB (ss : List Slot) (k : Nat) : Bool := (ss.take k).all fun s => decide (0 ≤ s.start ∧ s.start ≤ 1000000)
def endK (xs : List Task) (ss : List Slot) : Nat → Int
 | 0 => 0
 | k + 1 => max (endK xs ss k) ((ss.getD k default).start + (xs.getD k default).minutes)
def endsR (xs : List Task) (ss : List Slot) : Int × Int := if ss.length ≠ xs.length then (0, 11) else if startB ss ss.length then (endK xs ss ss.length, 0) else (0, 2)
def endsX (xs : List Task) (ss : List Slot) : Int × Int := if planE xs ≠ 0 then (0, planE xs) else endsR xs ss
section
variable {xs : List Task} {ss : List Slot} {k : Nat} {s : Slot} {x : Task}
theorem start_0 : startB ss 0 = true := by simp [startB]
theorem start_t (ht : ss.take (k + 1) = ss.take k ++ [s]) (h : startB ss k = true) (h2 : 0 ≤ s.start ∧ s.start ≤ 1000000) : startB ss (k + 1) = true := by
 simp only [startB, ht, List.all_append, List.all_cons, List.all_nil, Bool.and_true, decide_eq_true h2]; exact h
theorem start_f (hs : ss[k]? = some s) (h : ¬ (0 ≤ s.start ∧ s.start ≤ 1000000)) : startB ss ss.length = false := by
 simp only [startB, List.take_length, List.all_eq_false]
 exact ⟨s, List.mem_of_getElem? hs, by simpa using h⟩
theorem endK_s (hs : ss[k]? = some s) (hx : xs[k]? = some x) {e : Int} (he : e = endK xs ss k) : max e (s.start + x.minutes) = endK xs ss (k + 1) := by
 simp only [endK, List.getD_eq_getElem?_getD, hs, hx, Option.getD_some, he]
theorem ends_11 (h : ss.length ≠ xs.length) : endsR xs ss = (0, 11) := if_pos h
theorem ends_2 (h : ss.length = xs.length) (h2 : startB ss ss.length = false) : endsR xs ss = (0, 2) := by rw [endsR, if_neg (fun q => q h), if_neg (by rw [h2]; decide)]
theorem ends_0 (h : ss.length = xs.length) (h2 : startB ss ss.length = true) : endsR xs ss = (endK xs ss ss.length, 0) := by rw [endsR, if_neg (fun q => q h), if_pos h2]
theorem endsX_e (h : planE xs ≠ 0) : endsX xs ss = (0, planE xs) := if_pos h
theorem endsX_r (h : planE xs = 0) : endsX xs ss = endsR xs ss := if_neg (fun q => q h)
theorem pr2 {h : Heap} {a b : Int} {p : Int × Int} (e : p = (a, b)) : Out h (.tup [.int a, .int b]) (.tup [.int p.1, .int p.2]) := by rw [e]; exact out_2 (out_i rfl) (out_i rfl)
end

theorem fr21 : (inFrame Try.f21.ntmps (Try.f21.body.getD .skip) && Try.f21.results.toList.all (resScope Try.f21.ntmps)) = true := by kernel_rfl
theorem EndsC (xs : List Task) (ss : List Slot) (hfw : (xs.length : Int) ≤ 15 ∧ Fair xs) (hsl : ss.length ≤ 30) : PCalls Try.prog 21 [.lit true 6 (xs.map Task.enc), .lit true 3 (ss.map Slot.enc)] (.tup [.int (endsX xs ss).1, .int (endsX xs ss).2]) := by
 refine PCalls.of_code Try.func21 rfl rfl (by kernel_rfl) mixed fr21 (by show _ ≤ 43; simp) (pure_2 (.sc _) (.sc _)) (pwp_seq_plain rfl fun K1 hK1 => p_aS rfl (p_aS rfl (p_end (hK1 _ ?_)))); clear hK1 K1
 refine pwp_seq_seq (pwp_seq_plain rfl fun K2 hK2 => p_e rfl (e_move (v := .lit _ _ _) rfl) (p_call rfl (.cons inn_lit .nil) (CheckC _ (by omega) hfw.2) (p_aS rfl (p_end (hK2 _ ?_))))); clear hK2 K2
 refine pwp_seq_seq (pwp_seq_plain rfl fun K3 hK3 => p_mS rfl (p_e rfl (e_ne rfl rfl) (p_end (hK3 _ ?_)))); clear hK3 K3
 refine pwp_seq_cond rfl fun K4 hK4 => ⟨fun hb5 => ?_, fun hb5 => ?_⟩
 ·have hb5R := hb5; try simp only [zz] at hb5
  refine pwp_seq_plain rfl fun K6 hK6 => p_mS rfl (p_aS rfl (p_aS rfl (p_end (hK6 _ ?_)))); clear hK6 K6
  refine pwp_ret (ret_seq (end2 (v := .sc _) (w := .sc _) rfl rfl ?_))
  exact pr2 (endsX_e (by assumption))
 have hb5R := hb5; try simp only [zz] at hb5
 refine pwp_skip (seq_norm (hK4 _ ?_)); clear hK4 K4
 refine pwp_seq_seq ?_
 have hp : planE xs = 0 := (by assumption)
 refine pwp_seq_plain rfl fun K7 hK7 => p_e rfl (e_move (v := .lit _ _ _) rfl) (p_e rfl (e_len rfl (by kernel_rfl)) (p_e rfl (e_move (v := .lit _ _ _) rfl) (p_e rfl (e_len rfl (by kernel_rfl)) (p_e rfl (e_ne rfl rfl) (p_end (hK7 _ ?_)))))); clear hK7 K7
 refine pwp_seq_cond rfl fun K8 hK8 => ⟨fun hb9 => ?_, fun hb9 => ?_⟩
 ·have hb9R := hb9; try simp only [zz] at hb9
  refine pwp_seq_plain rfl fun K10 hK10 => p_aS rfl (p_aS rfl (p_end (hK10 _ ?_))); clear hK10 K10
  refine pwp_ret (ret_seq (end2 (v := .sc _) (w := .sc _) rfl rfl ?_))
  exact pr2 ((endsX_r hp).trans (ends_11 (by omega)))
 have hb9R := hb9; try simp only [zz] at hb9
 refine pwp_skip (seq_norm (hK8 _ ?_)); clear hK8 K8
 refine pwp_seq_plain rfl fun K11 hK11 => p_aS rfl (p_end (hK11 _ ?_)); clear hK11 K11
 refine pwp_seq_seq (pwp_seq_plain rfl fun K12 hK12 => p_e rfl (e_move (v := .lit _ _ _) rfl) (p_e rfl (e_len rfl (by kernel_rfl)) (p_mS rfl (p_end (hK12 _ ?_))))); clear hK12 K12
 refine pwp_seq_block fun K13 hK13 => pwp_loopR (α := Nat × Int) [0, 20, 21] (fun (a14 : Nat × Int) => [(7, .int (a14.2)), (22, .int (a14.1))]) (fun (a14 : Nat × Int) (h : Heap) (_ : Nat → Nat) => ((a14.1) ≤ ss.length) ∧ (startB ss (a14.1) = true) ∧ ((a14.2) = endK xs ss (a14.1)) ∧ (0 ≤ (a14.2) ∧ (a14.2) ≤ 1010000)) (fun (a14 : Nat × Int) => ss.length - (a14.1)) (0, 0) (by exact ⟨rfl, rfl, trivial⟩) (by exact ⟨by exact Nat.zero_le _, by exact start_0, by exact rfl, by omega⟩) fun a14 r15 h16 c17 hj18 => ?_
 obtain ⟨k, e⟩ := a14
 obtain ⟨hk, hst, he, heb⟩ := hj18
 try dsimp only at hk
 try dsimp only at hst
 try dsimp only at he
 try dsimp only at heb
 show pwp _ _ (loopQ _ _ _) ⟨sets (mix _ _ _) [(7, .int e), (22, .int k)], _, _⟩
 refine pwp_seq_plain rfl fun K19 hK19 => p_e rfl (e_lt rfl rfl) (p_end (hK19 _ ?_)); clear hK19 K19
 refine pwp_seq_cond rfl fun K20 hK20 => ⟨fun hb21 => ?_, fun hb21 => ?_⟩
 ·have hb21R := hb21; try simp only [zz] at hb21
  obtain ⟨s, hs, hd, ht⟩ := get_lt (xs := ss) (i := k) (by omega)
  obtain ⟨x, hx, _, _⟩ := get_lt (xs := xs) (i := k) (by omega)
  have hrx := (task_ok hp hx).1; unfold rngT at hrx
  refine pwp_skip (seq_norm (hK20 _ ?_)); clear hK20 K20
  refine pwp_seq_block fun K22 hK22 => pwp_seq_plain rfl fun K23 hK23 => p_mS rfl (p_e rfl (e_ixL rfl rfl) (p_e rfl (e_loadA (n := 3) rfl (by kernel_rfl) (by kernel_rfl) (by kernel_rfl) (by first | omega | (simp only [List.length_map]; omega)) (by decide) (by first | exact agg_map hs rfl)) (p_new rfl (e_alloc (cs := [.int 0, .int 0, .int 0]) (n := 3) (by kernel_rfl) rfl (by decide)) (ob_alloc (by decide)) (p_aS rfl (p_store rfl (e_storeA rfl (hset_self _ _ _) rfl rfl rfl (by kernel_rfl) rfl (by kernel_rfl)) trivial ?_)))))
  refine p_end (hK23 _ ?_); clear hK23 K23
  refine pwp_seq_seq (pwp_seq_plain rfl fun K24 hK24 => p_e rfl (e_faQ pl3 rfl) (p_e rfl (e_lH (v := .sc _) rfl (hset_self _ _ _) rfl) (p_call rfl (.cons inn_sc (.cons inn_sc (.cons inn_sc .nil))) (within _ _ _) (p_e rfl (e_not rfl) (p_end (hK24 _ ?_)))))); clear hK24 K24
  refine pwp_seq_cond rfl fun K25 hK25 => ⟨fun hb26 => ?_, fun hb26 => ?_⟩
  ·have hb26R := hb26; try simp only [zz] at hb26
   refine pwp_seq_plain rfl fun K27 hK27 => p_aS rfl (p_aS rfl (p_end (hK27 _ ?_))); clear hK27 K27
   refine pwp_ret (ret_seq (ret_block (ret_seq (ret_loop (ret_block (ret_seq (end2 (v := .sc _) (w := .sc _) rfl rfl ?_)))))))
   exact pr2 ((endsX_r hp).trans (ends_2 (by omega) (start_f hs (by omega))))
  have hb26R := hb26; try simp only [zz] at hb26
  refine pwp_skip (seq_norm (hK25 _ ?_)); clear hK25 K25
  refine pwp_gops rfl fun K28 hK28 => g_begin (g_mS rfl rfl (g_e rfl (e_faQ pl3 rfl) (g_e rfl (e_lH (v := .sc _) rfl (hset_self _ _ _) rfl) (g_e rfl (e_move (v := .lit _ _ _) rfl) (g_mS rfl rfl (g_e rfl (e_ixL rfl rfl) ?_))))))
  refine g_e rfl (e_fb pl6 rfl) (g_e rfl (e_load (v := .sc _) rfl (by kernel_rfl) (by kernel_rfl) (by kernel_rfl) (by first | omega | (simp only [List.length_map]; omega)) (by decide) ((cell_map hx _).trans rfl)) (g_e rfl (e_adL rfl rfl) (g_e rfl (e_max rfl rfl) (g_aS rfl rfl (g_end (ds := []) (by kernel_rfl) rfl (hK28 _ ?_)))))); clear hK28 K28
  refine block_norm (seq_norm (hK22 _ ?_)); clear hK22 K22
  refine pwp_plain rfl fun K29 hK29 => p_e rfl (e_adL rfl rfl) (p_mS rfl (p_end (hK29 _ ?_))); clear hK29 K29
  exact loop_again ((k + 1, (max e (s.start + x.minutes)))) (by show _ < _; simp only; omega) ⟨rfl, rfl, rfl, trivial⟩ ⟨rfl, rfl, trivial⟩ (by exact ⟨by show _ + 1 ≤ _; omega, by exact start_t ht hst (by omega), by exact endK_s hs hx he, by (show 0 ≤ max e (s.start + x.minutes) ∧ max e (s.start + x.minutes) ≤ 1010000; omega)⟩)
 have hb21R := hb21; try simp only [zz] at hb21
 obtain rfl : k = ss.length := by simp only [List.length_map] at *; omega
 refine pwp_exit (exit_seq ?_)
 clear hK20 K20
 refine exit_loop (exit_here (seq_norm (hK13 _ ?_))); clear hK13 K13
 refine pwp_seq_plain rfl fun K30 hK30 => p_mS rfl (p_aS rfl (p_aS rfl (p_end (hK30 _ ?_)))); clear hK30 K30
 refine pwp_ret (end2 (v := .sc _) (w := .sc _) rfl rfl ?_)
 exact pr2 ((endsX_r hp).trans ((ends_0 (by omega) hst).trans (by rw [he])))

end Go.Proofs.Ytjmjiegplnfiiaa

/- Stages: what the program tells. No conditions. -/
set_option linter.unusedSimpArgs false
set_option linter.unusedVariables false
set_option maxRecDepth 100000
namespace Go.Proofs.Ytjmjiegplnfiiaa
open Go Go.Pv
/-! ### Stages -/
section
variable {xs : List Task} {D : List Int} {k : Nat}
theorem done_snoc {n u : Nat} (hk : k < D.length) (hu : at0 D k = (u : Int)) (hn : u < n) : (doneB n (D.take k)).set u true = doneB n (D.take (k + 1)) := by
 rw [doneB_set hn, ← List.take_append_getElem hk, at0_elem hk, hu]
theorem done_get {n : Nat} {z : Int} (h : 0 ≤ z ∧ z < n) : (doneB n D)[z.toNat]? = some (decide (z ∈ D)) := by
 rw [doneB_get (by omega), Int.toNat_of_nonneg h.1]
end
theorem any_has (bs : List Bool) (l : List Int) : (l.any fun z => !(bs.getD z.toNat false)) = !(hasB bs l) := by
 rw [hasB, List.all_eq_not_any_not, Bool.not_not]
end Go.Proofs.Ytjmjiegplnfiiaa

/- Ready and closed stages. No conditions. -/
set_option linter.unusedSimpArgs false
set_option linter.unusedVariables false
set_option maxRecDepth 100000
namespace Go.Proofs.Ytjmjiegplnfiiaa
open Go Go.Pv
end Go.Proofs.Ytjmjiegplnfiiaa
