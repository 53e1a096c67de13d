/- Records: copies, comparison, as contracts on pure values. No conditions. -/
import Derived.Test.YtdbpfhbppcpbbaaRec4
import Derived.Test.YtdbpfhbppcpbbaaPvZ5
set_option linter.unusedSimpArgs false
set_option linter.unusedVariables false
set_option maxRecDepth 100000
namespace Go.Proofs.Ytdbpfhbppcpbbaa
open Go Go.Pv

/-- Short records, or such as are refused for their size. -/
def shortB (evs : List Ev) : Bool := (decide (evs.length ≤ 60) && decide (∀ x ∈ evs, x.platform.size ≤ 30)) || (decide (400 < evs.length) && decide (evs.length ≤ 405))
theorem short_bad {evs : List Ev} {k : Nat} {x : Ev} (hx : evs[k]? = some x) (hl : evs.length ≤ 60) (h : 30 < x.platform.size) : false = shortB evs := by
  have h1 : ¬ ∀ y ∈ evs, y.platform.size ≤ 30 := fun hn => by have := hn x (List.mem_of_getElem? hx); omega
  have h2 : ¬ 400 < evs.length := by omega
  simp [shortB, h1, h2]
theorem short_end {evs : List Ev} {k : Nat} (h : ∀ y ∈ evs.take k, y.platform.size ≤ 30) (hk : evs.length ≤ 60 → evs.length ≤ k) : (decide (((evs.length : Nat) : Int) ≤ 60) || (decide ((400 : Int) < ((evs.length : Nat) : Int)) && decide (((evs.length : Nat) : Int) ≤ 405))) = shortB evs := by
  unfold shortB
  by_cases hl : evs.length ≤ 60
  · rw [List.take_of_length_le (hk hl)] at h
    have h1 : (((evs.length : Nat) : Int) ≤ 60) := by omega
    simp only [decide_eq_true h, decide_eq_true hl, decide_eq_true h1, Bool.true_or, Bool.true_and]
  · have h1 : ¬ (((evs.length : Nat) : Int) ≤ 60) := by omega
    simp only [decide_eq_false h1, decide_eq_false hl, Bool.false_or, Bool.false_and]
    rw [Bool.eq_iff_iff]; simp only [Bool.and_eq_true, decide_eq_true_eq]; omega
theorem short_len {evs : List Ev} (h : shortB evs = true) : evs.length ≤ 405 := by
  simp only [shortB, Bool.or_eq_true, Bool.and_eq_true, decide_eq_true_eq] at h; omega

theorem fr17 : (inFrame Try.f17.ntmps (Try.f17.body.getD .skip) && Try.f17.results.toList.all (resScope Try.f17.ntmps)) = true := by kernel_rfl
theorem short (evs : List Ev) : PCalls Try.prog 17 [.lit true 6 (evs.map Ev.enc)] (.bool (shortB evs)) := by
  refine PCalls.of_code Try.func17 rfl rfl (by kernel_rfl) mixed fr17 (by show _ ≤ 35; simp) (.sc _) ?_
  refine pwp_seq_plain rfl fun K1 hK1 => ?_
  refine p_step rfl (e_assign (v := .sc _) rfl) trivial ?_
  refine p_end (hK1 _ ?_); clear hK1 K1
  refine pwp_seq_seq ?_
  refine pwp_seq_plain rfl fun K2 hK2 => ?_
  refine p_step rfl (e_assign (v := .sc _) rfl) trivial ?_
  refine p_end (hK2 _ ?_); clear hK2 K2
  refine pwp_seq_block fun K3 hK3 => ?_
  refine pwp_loopR (α := Nat) [0] (fun (k : Nat) => [(3, .int (k))]) (fun (k : Nat) (h : Heap) (_ : Nat → Nat) => ((k) ≤ evs.length) ∧ (∀ y ∈ evs.take (k), y.platform.size ≤ 30)) (fun (k : Nat) => evs.length - (k)) (0) (by exact ⟨rfl, trivial⟩) (by exact ⟨by exact Nat.zero_le _, by simp⟩) fun k r4 h5 c6 hj7 => ?_
  obtain ⟨hk, hs⟩ := hj7
  try dsimp only at hk
  try dsimp only at hs
  show pwp _ _ (loopQ _ _ _) ⟨sets (mix _ _ _) [(3, .int k)], _, _⟩
  refine pwp_seq_seq ?_
  refine pwp_seq_cutG [0, 3] [(12, .bool ((decide ((k : Int) < ((((evs).map Ev.enc).length : Nat) : Int))) && (decide (((((evs).map Ev.enc).length : Nat) : Int) ≤ (60)))))] (fun K8 hK8 => ?_) (fun r9 => ?_)
  ·skip
   refine pwp_gops rfl fun K10 hK10 => ?_
   refine g_begin ?_
   refine g_step rfl rfl rfl rfl (e_move (v := .sc _) rfl) trivial ?_
   refine g_step rfl rfl rfl rfl (e_move (v := .lit _ _ _) rfl) trivial ?_
   refine g_step rfl rfl rfl rfl (e_len rfl (by kernel_rfl)) trivial ?_
   refine g_step rfl rfl rfl rfl (e_lt rfl rfl) trivial ?_
   refine g_step rfl rfl rfl rfl (e_move (v := .sc _) rfl) trivial ?_
   refine g_cases (fun hb11 => ?_) (fun hb11 => ?_)
   ·have hb11R := hb11; try simp only [z1, z2, z3, z4, z5, z6, ne_eq, z7, z8, z9, z10, z11, z12] at hb11
    refine g_step rfl rfl rfl rfl (e_move (v := .lit _ _ _) rfl) trivial ?_
    refine g_step rfl rfl rfl rfl (e_len rfl (by kernel_rfl)) trivial ?_
    refine g_step rfl rfl rfl rfl (e_le rfl rfl) trivial ?_
    refine g_step rfl rfl rfl rfl (e_pickT (v := .sc _) rfl rfl) trivial ?_
    refine g_end (ds := [9, 10, 11]) rfl rfl (hK10 _ ?_); clear hK10 K10
    exact seq_norm (hK8 _ ⟨rfl, rfl, trivial⟩ ⟨(congrArg PV.bool (show ((decide (((((evs).map Ev.enc).length : Nat) : Int) ≤ (60))) : Bool) = ((decide ((k : Int) < ((((evs).map Ev.enc).length : Nat) : Int))) && (decide (((((evs).map Ev.enc).length : Nat) : Int) ≤ (60)))) by first | rfl | ((try rw [hb11R]) <;> (first | rfl | (simp only [Bool.and_true, Bool.and_false, Bool.true_and, Bool.false_and, Bool.or_true, Bool.or_false, Bool.true_or, Bool.false_or, Bool.not_true, Bool.not_false, if_true, if_false, Bool.false_eq_true, reduceIte] <;> rfl))) | (simp only [hb11R, Bool.and_true, Bool.and_false, Bool.true_and, Bool.false_and, Bool.or_true, Bool.or_false, Bool.true_or, Bool.false_or, Bool.not_true, Bool.not_false, if_true, if_false, Bool.false_eq_true, reduceIte] <;> rfl))), trivial⟩)
   ·have hb11R := hb11; try simp only [z1, z2, z3, z4, z5, z6, ne_eq, z7, z8, z9, z10, z11, z12] at hb11
    refine g_skip rfl rfl rfl ?_
    refine g_skip rfl rfl rfl ?_
    refine g_skip rfl rfl rfl ?_
    refine g_step rfl rfl rfl rfl (e_pickF (v := .sc _) rfl rfl) trivial ?_
    refine g_end (ds := [9, 10, 11]) rfl rfl (hK10 _ ?_); clear hK10 K10
    exact seq_norm (hK8 _ ⟨rfl, rfl, trivial⟩ ⟨(congrArg PV.bool (show (false : Bool) = ((decide ((k : Int) < ((((evs).map Ev.enc).length : Nat) : Int))) && (decide (((((evs).map Ev.enc).length : Nat) : Int) ≤ (60)))) by first | rfl | ((try rw [hb11R]) <;> (first | rfl | (simp only [Bool.and_true, Bool.and_false, Bool.true_and, Bool.false_and, Bool.or_true, Bool.or_false, Bool.true_or, Bool.false_or, Bool.not_true, Bool.not_false, if_true, if_false, Bool.false_eq_true, reduceIte] <;> rfl))) | (simp only [hb11R, Bool.and_true, Bool.and_false, Bool.true_and, Bool.false_and, Bool.or_true, Bool.or_false, Bool.true_or, Bool.false_or, Bool.not_true, Bool.not_false, if_true, if_false, Bool.false_eq_true, reduceIte] <;> rfl))), trivial⟩)
  ·skip
   refine pwp_seq_cond rfl fun K12 hK12 => ⟨fun hb13 => ?_, fun hb13 => ?_⟩
   ·have hb13R := hb13; try simp only [z1, z2, z3, z4, z5, z6, ne_eq, z7, z8, z9, z10, z11, z12] at hb13
    obtain ⟨x, hx, hd, ht⟩ := get_lt (xs := evs) (i := k) (by omega)
    refine pwp_skip ?_
    refine seq_norm (hK12 _ ?_); clear hK12 K12
    refine pwp_seq_block fun K14 hK14 => ?_
    refine pwp_seq_plain rfl fun K15 hK15 => ?_
    refine p_step rfl (e_move (v := .lit _ _ _) rfl) trivial ?_
    refine p_step rfl (e_move (v := .sc _) rfl) trivial ?_
    refine p_step rfl (e_ixa rfl rfl (by kernel_rfl) (by kernel_rfl) (by simp only [List.length_map]; omega)) trivial ?_
    refine p_step rfl (e_fa (pl := [(0, 1, false), (1, 1, false), (2, 1, false), (3, 1, false), (4, 1, false), (5, 1, false)]) rfl (by kernel_rfl) (by kernel_rfl) (by decide) rfl) trivial ?_
    refine p_step rfl (e_load (v := .sc _) rfl (by kernel_rfl) (by kernel_rfl) (by kernel_rfl) (by simp only [List.length_map]; omega) (by decide) ((cell_map hx _).trans rfl)) trivial ?_
    refine p_step rfl (e_lenS rfl (by kernel_rfl)) trivial ?_
    refine p_step rfl (e_gt rfl rfl) trivial ?_
    refine p_end (hK15 _ ?_); clear hK15 K15
    refine pwp_cond rfl (fun hb16 => ?_) (fun hb16 => ?_)
    ·have hb16R := hb16; try simp only [z1, z2, z3, z4, z5, z6, ne_eq, z7, z8, z9, z10, z11, z12] at hb16
     refine pwp_seq_plain rfl fun K17 hK17 => ?_
     refine p_step rfl (e_assign (v := .sc _) rfl) trivial ?_
     refine p_end (hK17 _ ?_); clear hK17 K17
     refine pwp_ret ?_
     refine ret_block ?_
     refine ret_seq ?_
     refine ret_loop ?_
     refine ret_block ?_
     refine ret_seq ?_
     refine end1 (v := .sc _) rfl ?_
     first
       | exact out_b (short_bad hx (by omega) (by omega))
       | exact out_b (by simp only [List.length_map]; exact short_end hs (by omega))
    ·have hb16R := hb16; try simp only [z1, z2, z3, z4, z5, z6, ne_eq, z7, z8, z9, z10, z11, z12] at hb16
     refine pwp_skip ?_
     refine block_norm ?_
     refine seq_norm (hK14 _ ?_); clear hK14 K14
     refine pwp_plain rfl fun K18 hK18 => ?_
     refine p_step rfl (e_move (v := .sc _) rfl) trivial ?_
     refine p_step rfl (e_add rfl rfl (by omega)) trivial ?_
     refine p_step rfl (e_assign (v := .sc _) rfl) trivial ?_
     refine p_end (hK18 _ ?_); clear hK18 K18
     exact loop_again (k + 1) (by show _ < _; omega) ⟨rfl, trivial⟩ ⟨rfl, trivial⟩ (by exact ⟨by show _ + 1 ≤ _; omega, by exact all_snoc hs (by omega) ht⟩)
   ·have hb13R := hb13; try simp only [z1, z2, z3, z4, z5, z6, ne_eq, z7, z8, z9, z10, z11, z12] at hb13
    refine pwp_exit ?_
    refine exit_seq ?_
    clear hK12 K12
    refine exit_loop ?_
    refine exit_here ?_
    refine seq_norm (hK3 _ ?_); clear hK3 K3
    refine pwp_seq_cutG [] [(2, .bool ((decide (((((evs).map Ev.enc).length : Nat) : Int) ≤ (60))) || ((decide ((400) < ((((evs).map Ev.enc).length : Nat) : Int))) && (decide (((((evs).map Ev.enc).length : Nat) : Int) ≤ (405))))))] (fun K19 hK19 => ?_) (fun r20 => ?_)
    ·skip
     refine pwp_gops rfl fun K21 hK21 => ?_
     refine g_begin ?_
     refine g_step rfl rfl rfl rfl (e_move (v := .lit _ _ _) rfl) trivial ?_
     refine g_step rfl rfl rfl rfl (e_len rfl (by kernel_rfl)) trivial ?_
     refine g_step rfl rfl rfl rfl (e_le rfl rfl) trivial ?_
     refine g_step rfl rfl rfl rfl (e_move (v := .sc _) rfl) trivial ?_
     refine g_cases (fun hb22 => ?_) (fun hb22 => ?_)
     ·have hb22R := hb22; try simp only [z1, z2, z3, z4, z5, z6, ne_eq, z7, z8, z9, z10, z11, z12] at hb22
      refine g_skip rfl rfl rfl ?_
      refine g_skip rfl rfl rfl ?_
      refine g_skip rfl rfl rfl ?_
      refine g_skip rfl rfl rfl ?_
      refine g_skip rfl rfl rfl ?_
      refine g_skip rfl rfl rfl ?_
      refine g_skip rfl rfl rfl ?_
      refine g_skip rfl rfl rfl ?_
      refine g_step rfl rfl rfl rfl (e_pickT (v := .sc _) rfl rfl) trivial ?_
      refine g_step rfl rfl rfl rfl (e_assign (v := .sc _) rfl) trivial ?_
      refine g_end (ds := [26, 27, 28, 29, 30, 31, 32, 33]) rfl rfl (hK21 _ ?_); clear hK21 K21
      exact seq_norm (hK19 _ trivial ⟨(congrArg PV.bool (show (true : Bool) = ((decide (((((evs).map Ev.enc).length : Nat) : Int) ≤ (60))) || ((decide ((400) < ((((evs).map Ev.enc).length : Nat) : Int))) && (decide (((((evs).map Ev.enc).length : Nat) : Int) ≤ (405))))) by first | rfl | ((try rw [hb22R]) <;> (first | rfl | (simp only [Bool.and_true, Bool.and_false, Bool.true_and, Bool.false_and, Bool.or_true, Bool.or_false, Bool.true_or, Bool.false_or, Bool.not_true, Bool.not_false, if_true, if_false, Bool.false_eq_true, reduceIte] <;> rfl))) | (simp only [hb22R, Bool.and_true, Bool.and_false, Bool.true_and, Bool.false_and, Bool.or_true, Bool.or_false, Bool.true_or, Bool.false_or, Bool.not_true, Bool.not_false, if_true, if_false, Bool.false_eq_true, reduceIte] <;> rfl))), trivial⟩)
     ·have hb22R := hb22; try simp only [z1, z2, z3, z4, z5, z6, ne_eq, z7, z8, z9, z10, z11, z12] at hb22
      refine g_step rfl rfl rfl rfl (e_move (v := .lit _ _ _) rfl) trivial ?_
      refine g_step rfl rfl rfl rfl (e_len rfl (by kernel_rfl)) trivial ?_
      refine g_step rfl rfl rfl rfl (e_gt rfl rfl) trivial ?_
      refine g_step rfl rfl rfl rfl (e_move (v := .sc _) rfl) trivial ?_
      refine g_cases (fun hb23 => ?_) (fun hb23 => ?_)
      ·have hb23R := hb23; try simp only [z1, z2, z3, z4, z5, z6, ne_eq, z7, z8, z9, z10, z11, z12] at hb23
       refine g_step rfl rfl rfl rfl (e_move (v := .lit _ _ _) rfl) trivial ?_
       refine g_step rfl rfl rfl rfl (e_len rfl (by kernel_rfl)) trivial ?_
       refine g_step rfl rfl rfl rfl (e_le rfl rfl) trivial ?_
       refine g_step rfl rfl rfl rfl (e_pickT (v := .sc _) rfl rfl) trivial ?_
       refine g_step rfl rfl rfl rfl (e_pickF (v := .sc _) rfl rfl) trivial ?_
       refine g_step rfl rfl rfl rfl (e_assign (v := .sc _) rfl) trivial ?_
       refine g_end (ds := [26, 27, 28, 29, 30, 31, 32, 33]) rfl rfl (hK21 _ ?_); clear hK21 K21
       exact seq_norm (hK19 _ trivial ⟨(congrArg PV.bool (show ((decide (((((evs).map Ev.enc).length : Nat) : Int) ≤ (405))) : Bool) = ((decide (((((evs).map Ev.enc).length : Nat) : Int) ≤ (60))) || ((decide ((400) < ((((evs).map Ev.enc).length : Nat) : Int))) && (decide (((((evs).map Ev.enc).length : Nat) : Int) ≤ (405))))) by first | rfl | ((try rw [hb23R]) <;> (try rw [hb22R]) <;> (first | rfl | (simp only [Bool.and_true, Bool.and_false, Bool.true_and, Bool.false_and, Bool.or_true, Bool.or_false, Bool.true_or, Bool.false_or, Bool.not_true, Bool.not_false, if_true, if_false, Bool.false_eq_true, reduceIte] <;> rfl))) | (simp only [hb22R, hb23R, Bool.and_true, Bool.and_false, Bool.true_and, Bool.false_and, Bool.or_true, Bool.or_false, Bool.true_or, Bool.false_or, Bool.not_true, Bool.not_false, if_true, if_false, Bool.false_eq_true, reduceIte] <;> rfl))), trivial⟩)
      ·have hb23R := hb23; try simp only [z1, z2, z3, z4, z5, z6, ne_eq, z7, z8, z9, z10, z11, z12] at hb23
       refine g_skip rfl rfl rfl ?_
       refine g_skip rfl rfl rfl ?_
       refine g_skip rfl rfl rfl ?_
       refine g_step rfl rfl rfl rfl (e_pickF (v := .sc _) rfl rfl) trivial ?_
       refine g_step rfl rfl rfl rfl (e_pickF (v := .sc _) rfl rfl) trivial ?_
       refine g_step rfl rfl rfl rfl (e_assign (v := .sc _) rfl) trivial ?_
       refine g_end (ds := [26, 27, 28, 29, 30, 31, 32, 33]) rfl rfl (hK21 _ ?_); clear hK21 K21
       exact seq_norm (hK19 _ trivial ⟨(congrArg PV.bool (show (false : Bool) = ((decide (((((evs).map Ev.enc).length : Nat) : Int) ≤ (60))) || ((decide ((400) < ((((evs).map Ev.enc).length : Nat) : Int))) && (decide (((((evs).map Ev.enc).length : Nat) : Int) ≤ (405))))) by first | rfl | ((try rw [hb23R]) <;> (try rw [hb22R]) <;> (first | rfl | (simp only [Bool.and_true, Bool.and_false, Bool.true_and, Bool.false_and, Bool.or_true, Bool.or_false, Bool.true_or, Bool.false_or, Bool.not_true, Bool.not_false, if_true, if_false, Bool.false_eq_true, reduceIte] <;> rfl))) | (simp only [hb22R, hb23R, Bool.and_true, Bool.and_false, Bool.true_and, Bool.false_and, Bool.or_true, Bool.or_false, Bool.true_or, Bool.false_or, Bool.not_true, Bool.not_false, if_true, if_false, Bool.false_eq_true, reduceIte] <;> rfl))), trivial⟩)
    ·skip
     refine pwp_ret ?_
     refine end1 (v := .sc _) rfl ?_
     first
       | exact out_b (short_bad hx (by omega) (by omega))
       | exact out_b (by simp only [List.length_map]; exact short_end hs (by omega))


theorem ev_clean (a : Ev) (q : PV) (hq : q ∈ a.enc) : Go.Pv.Clean q ∧ q.cell = true := by
  simp only [Ev.enc, List.mem_cons, List.not_mem_nil, or_false] at hq
  rcases hq with rfl | rfl | rfl | rfl | rfl | rfl <;> exact ⟨.sc _, rfl⟩
theorem ev_lit_pure {t : Bool} (xs : List Ev) : Pure (.lit t 6 (xs.map Ev.enc)) := .lit _ _ _ fun row hr => pure_map Ev.pure row hr

theorem fr20 : (inFrame Try.f20.ntmps (Try.f20.body.getD .skip) && Try.f20.results.toList.all (resScope Try.f20.ntmps)) = true := by kernel_rfl
theorem copied (evs : List Ev) (hl : evs.length ≤ 405) : PCalls Try.prog 20 [.lit true 6 (evs.map Ev.enc)] (.lit false 6 (evs.map Ev.enc)) := by
  refine PCalls.of_code Try.func20 rfl rfl (by kernel_rfl) mixed fr20 (by show _ ≤ 6; simp) (ev_lit_pure _) ?_
  refine pwp_seq_plain rfl fun K1 hK1 => ?_
  refine p_step rfl (e_assign (v := .nil) rfl) trivial ?_
  refine p_end (hK1 _ ?_); clear hK1 K1
  refine pwp_seq_plain rfl fun K2 hK2 => ?_
  refine p_new rfl (e_bslice (rows := []) (zs := [.int 0, .int 0, .str ByteArray.empty, .int 0, .bool false, .bool false]) (sz := 6) (by kernel_rfl) (by kernel_rfl) rfl (by kernel_rfl) (by decide) rfl rfl (by exact trivial) rfl) trivial ?_
  refine p_step rfl (e_move (v := .lit _ _ _) rfl) trivial ?_
  refine p_app rfl rfl rfl (.ofRef (hset_self _ _ _) rfl) src_lit (by kernel_rfl) (by simp only [List.length_append, List.length_map, List.length_nil, List.length_cons]; omega) fun v3 h4 c5 hs6 hf7 => ?_
  refine p_step rfl (e_assign (v := _) rfl) trivial ?_
  refine p_end (hK2 _ ?_); clear hK2 K2
  refine pwp_ret ?_
  refine end1 (v := _) rfl ?_
  exact out_slice (by assumption) (List.nil_append _) (fun _ => rfl) (fun a q hq => ev_clean a q hq)

theorem frH20 : (inFrame Try.f20.ntmps (Try.f20.body.getD .skip) && Try.f20.results.toList.all (resScope Try.f20.ntmps)) = true := by kernel_rfl
theorem copiedH (evs : List Ev) (hl : evs.length ≤ 405) (h0 : Heap) (c0 : Nat → Nat) : HCallsR Try.prog 20 [.lit true 6 (evs.map Ev.enc)] h0 c0 (fun v h _ => SliceAt h 5 v 6 (evs.map Ev.enc) ∧ ∀ a b, b < c0 a → h (a, b) = h0 (a, b)) := by
  refine HCallsR.of_code Try.func20 rfl rfl (by kernel_rfl) mixed frH20 (by show _ ≤ 6; simp) ?_
  refine pwp_seq_plain rfl fun K1 hK1 => ?_
  refine p_step rfl (e_assign (v := .nil) rfl) trivial ?_
  refine p_end (hK1 _ ?_); clear hK1 K1
  refine pwp_seq_plain rfl fun K2 hK2 => ?_
  refine p_new rfl (e_bslice (rows := []) (zs := [.int 0, .int 0, .str ByteArray.empty, .int 0, .bool false, .bool false]) (sz := 6) (by kernel_rfl) (by kernel_rfl) rfl (by kernel_rfl) (by decide) rfl rfl (by exact trivial) rfl) trivial ?_
  refine p_step rfl (e_move (v := .lit _ _ _) rfl) trivial ?_
  refine p_app rfl rfl rfl (.ofRef (hset_self _ _ _) rfl) src_lit (by kernel_rfl) (by simp only [List.length_append, List.length_map, List.length_nil, List.length_cons]; omega) fun v3 h4 c5 hs6 hf7 => ?_
  refine p_step rfl (e_assign (v := _) rfl) trivial ?_
  refine p_end (hK2 _ ?_); clear hK2 K2
  refine pwp_ret ?_
  refine end1 (v := _) rfl ?_
  refine ⟨SliceAt.to hs6 (List.nil_append _), fun a b hb => ?_⟩
  exact (hf7 (a, b) (knownk_ne (c := c0) hb) (by intro g hg; cases hg; exact knownk_ne hb)).trans (hset_ne (knownk_ne hb))

theorem frH93 : (inFrame Try.f93.ntmps (Try.f93.body.getD .skip) && Try.f93.results.toList.all (resScope Try.f93.ntmps)) = true := by kernel_rfl
theorem cloneH (evs : List Ev) (hl : evs.length ≤ 405) (hne : evs ≠ []) (h0 : Heap) (c0 : Nat → Nat) : HCallsR Try.prog 93 [.lit true 6 (evs.map Ev.enc)] h0 c0 (fun v h _ => SliceAt h 7 v 6 (evs.map Ev.enc) ∧ ∀ a b, b < c0 a → h (a, b) = h0 (a, b)) := by
  refine HCallsR.of_code Try.func93 rfl rfl (by kernel_rfl) mixed frH93 (by show _ ≤ 8; simp) ?_
  refine pwp_seq_plain rfl fun K1 hK1 => ?_
  refine p_step rfl (e_assign (v := .nil) rfl) trivial ?_
  refine p_end (hK1 _ ?_); clear hK1 K1
  refine pwp_seq_seq ?_
  refine pwp_seq_plain rfl fun K2 hK2 => ?_
  refine p_step rfl (e_move (v := .lit _ _ _) rfl) trivial ?_
  refine p_step rfl (e_nileq rfl (by simpa using hne) rfl (by kernel_rfl)) trivial ?_
  refine p_end (hK2 _ ?_); clear hK2 K2
  refine pwp_seq_cond (t := false) rfl fun K3 hK3 => ⟨nofun, fun _ => ?_⟩
  refine pwp_skip ?_
  refine seq_norm (hK3 _ ?_); clear hK3 K3
  refine pwp_seq_plain rfl fun K4 hK4 => ?_
  refine p_new rfl (e_bslice (rows := []) (zs := [.int 0, .int 0, .str ByteArray.empty, .int 0, .bool false, .bool false]) (sz := 6) (by kernel_rfl) (by kernel_rfl) rfl (by kernel_rfl) (by decide) rfl rfl (by exact trivial) rfl) trivial ?_
  refine p_step rfl (e_move (v := .lit _ _ _) rfl) trivial ?_
  refine p_app rfl rfl rfl (.ofRef (hset_self _ _ _) rfl) src_lit (by kernel_rfl) (by simp only [List.length_append, List.length_map, List.length_nil, List.length_cons]; omega) fun v5 h6 c7 hs8 hf9 => ?_
  refine p_step rfl (e_assign (v := _) rfl) trivial ?_
  refine p_end (hK4 _ ?_); clear hK4 K4
  refine pwp_ret ?_
  refine end1 (v := _) rfl ?_
  refine ⟨SliceAt.to hs8 (List.nil_append _), fun a b hb => ?_⟩
  exact (hf9 (a, b) (knownk_ne (c := c0) hb) (by intro g hg; cases hg; exact knownk_ne hb)).trans (hset_ne (knownk_ne hb))

theorem frH94 : (inFrame Try.f94.ntmps (Try.f94.body.getD .skip) && Try.f94.results.toList.all (resScope Try.f94.ntmps)) = true := by kernel_rfl
theorem acceptedH (evs : List Ev) (hl : evs.length ≤ 405) (d : Nat) (u : PV) (h0 : Heap) (c0 : Nat → Nat) (hs : SliceAt h0 d u 6 (evs.map Ev.enc)) : HCallsR Try.prog 94 [u] h0 c0 (fun v h _ => v = .tup [if recE evs = 0 then u else .nil, .int (recE evs)] ∧ h = h0) := by
  refine HCallsR.of_code Try.func94 rfl rfl (by kernel_rfl) mixed frH94 (by show _ ≤ 11; simp) ?_
  refine pwp_seq_plain rfl fun K1 hK1 => ?_
  refine p_step rfl (e_assign (v := .nil) rfl) trivial ?_
  refine p_step rfl (e_assign (v := .sc _) rfl) trivial ?_
  refine p_end (hK1 _ ?_); clear hK1 K1
  refine pwp_seq_seq ?_
  refine pwp_seq_plain rfl fun K2 hK2 => ?_
  refine p_step rfl (e_move (v := _) rfl) trivial ?_
  refine p_call rfl (.cons (SliceAt.inn (rows' := (evs).map Ev.enc) hs (by simp) (by first | exact pure_map Ev.pure | (simp only [← List.map_append, List.nil_append]; exact pure_map Ev.pure))) .nil) (CheckRecord _ (by first | omega | (simp only [List.length_set]; omega))) ?_
  refine p_step rfl (e_assign (v := .sc _) rfl) trivial ?_
  refine p_end (hK2 _ ?_); clear hK2 K2
  refine pwp_seq_seq ?_
  refine pwp_seq_plain rfl fun K3 hK3 => ?_
  refine p_step rfl (e_move (v := .sc _) rfl) trivial ?_
  refine p_step rfl (e_ne rfl rfl) trivial ?_
  refine p_end (hK3 _ ?_); clear hK3 K3
  refine pwp_seq_cond rfl fun K4 hK4 => ⟨fun hb5 => ?_, fun hb5 => ?_⟩
  ·have hb5R := hb5; try simp only [z1, z2, z3, z4, z5, z6, ne_eq, z7, z8, z9, z10, z11, z12] at hb5
   refine pwp_seq_plain rfl fun K6 hK6 => ?_
   refine p_step rfl (e_move (v := .sc _) rfl) trivial ?_
   refine p_step rfl (e_assign (v := .nil) rfl) trivial ?_
   refine p_step rfl (e_assign (v := .sc _) rfl) trivial ?_
   refine p_end (hK6 _ ?_); clear hK6 K6
   refine pwp_ret ?_
   refine ret_seq ?_
   refine end2 (v := .nil) (w := .sc _) rfl rfl ?_
   first
     | exact ⟨by rw [if_neg (by assumption)], rfl⟩
     | exact ⟨by rw [if_pos (by assumption)]; congr 2; rw [show recE evs = 0 by assumption], rfl⟩
  ·have hb5R := hb5; try simp only [z1, z2, z3, z4, z5, z6, ne_eq, z7, z8, z9, z10, z11, z12] at hb5
   refine pwp_skip ?_
   refine seq_norm (hK4 _ ?_); clear hK4 K4
   refine pwp_seq_plain rfl fun K7 hK7 => ?_
   refine p_step rfl (e_move (v := _) rfl) trivial ?_
   refine p_step rfl (e_assign (v := _) rfl) trivial ?_
   refine p_step rfl (e_assign (v := .sc _) rfl) trivial ?_
   refine p_end (hK7 _ ?_); clear hK7 K7
   refine pwp_ret ?_
   refine end2 (v := _) (w := .sc _) rfl rfl ?_
   first
     | exact ⟨by rw [if_neg (by assumption)], rfl⟩
     | exact ⟨by rw [if_pos (by assumption)]; congr 2; rw [show recE evs = 0 by assumption], rfl⟩


theorem same_end {α : Type} {xs ys : List α} (hl : xs.length = ys.length) (h : xs.take xs.length = ys.take xs.length) : xs = ys := by
  rw [List.take_length] at h
  rw [h, hl, List.take_length]
theorem same_bad {α : Type} {xs ys : List α} {k : Nat} {x y : α} (hx : xs[k]? = some x) (hy : ys[k]? = some y) (hn : ¬ x = y) : ¬ xs = ys := fun h => by subst h; rw [hx] at hy; cases hy; exact hn rfl

theorem fr57 : (inFrame Try.f57.ntmps (Try.f57.body.getD .skip) && Try.f57.results.toList.all (resScope Try.f57.ntmps)) = true := by kernel_rfl
theorem sameRecord (xs ys : List Ev) (hl : xs.length ≤ 405) : PCalls Try.prog 57 [.lit true 6 (xs.map Ev.enc), .lit true 6 (ys.map Ev.enc)] (.bool (decide (xs = ys))) := by
  refine PCalls.of_code Try.func57 rfl rfl (by kernel_rfl) mixed fr57 (by show _ ≤ 26; simp) (.sc _) ?_
  refine pwp_seq_plain rfl fun K1 hK1 => ?_
  refine p_step rfl (e_assign (v := .sc _) rfl) trivial ?_
  refine p_end (hK1 _ ?_); clear hK1 K1
  refine pwp_seq_seq ?_
  refine pwp_seq_plain rfl fun K2 hK2 => ?_
  refine p_step rfl (e_move (v := .lit _ _ _) rfl) trivial ?_
  refine p_step rfl (e_len rfl (by kernel_rfl)) trivial ?_
  refine p_step rfl (e_move (v := .lit _ _ _) rfl) trivial ?_
  refine p_step rfl (e_len rfl (by kernel_rfl)) trivial ?_
  refine p_step rfl (e_ne rfl rfl) trivial ?_
  refine p_end (hK2 _ ?_); clear hK2 K2
  refine pwp_seq_cond rfl fun K3 hK3 => ⟨fun hb4 => ?_, fun hb4 => ?_⟩
  ·have hb4R := hb4; try simp only [z1, z2, z3, z4, z5, z6, ne_eq, z7, z8, z9, z10, z11, z12] at hb4
   refine pwp_seq_plain rfl fun K5 hK5 => ?_
   refine p_step rfl (e_assign (v := .sc _) rfl) trivial ?_
   refine p_end (hK5 _ ?_); clear hK5 K5
   refine pwp_ret ?_
   refine ret_seq ?_
   refine end1 (v := .sc _) rfl ?_
   first
     | exact out_b (decide_eq_false fun h => by subst h; omega).symm
     | exact out_b (decide_eq_false (same_bad hx hy (by assumption))).symm
     | exact out_b (decide_eq_true (same_end (by omega) he)).symm
  ·have hb4R := hb4; try simp only [z1, z2, z3, z4, z5, z6, ne_eq, z7, z8, z9, z10, z11, z12] at hb4
   refine pwp_skip ?_
   refine seq_norm (hK3 _ ?_); clear hK3 K3
   refine pwp_seq_seq ?_
   refine pwp_seq_plain rfl fun K6 hK6 => ?_
   refine p_step rfl (e_assign (v := .sc _) rfl) trivial ?_
   refine p_end (hK6 _ ?_); clear hK6 K6
   refine pwp_seq_block fun K7 hK7 => ?_
   refine pwp_loopR (α := Nat) [0, 1] (fun (k : Nat) => [(5, .int (k))]) (fun (k : Nat) (h : Heap) (_ : Nat → Nat) => ((k) ≤ xs.length) ∧ (xs.take (k) = ys.take (k))) (fun (k : Nat) => xs.length - (k)) (0) (by exact ⟨rfl, trivial⟩) (by exact ⟨by exact Nat.zero_le _, by exact rfl⟩) fun k r8 h9 c10 hj11 => ?_
   obtain ⟨hk, he⟩ := hj11
   try dsimp only at hk
   try dsimp only at he
   show pwp _ _ (loopQ _ _ _) ⟨sets (mix _ _ _) [(5, .int k)], _, _⟩
   refine pwp_seq_seq ?_
   refine pwp_seq_plain rfl fun K12 hK12 => ?_
   refine p_step rfl (e_move (v := .sc _) rfl) trivial ?_
   refine p_step rfl (e_move (v := .lit _ _ _) rfl) trivial ?_
   refine p_step rfl (e_len rfl (by kernel_rfl)) trivial ?_
   refine p_step rfl (e_lt rfl rfl) trivial ?_
   refine p_end (hK12 _ ?_); clear hK12 K12
   refine pwp_seq_cond rfl fun K13 hK13 => ⟨fun hb14 => ?_, fun hb14 => ?_⟩
   ·have hb14R := hb14; try simp only [z1, z2, z3, z4, z5, z6, ne_eq, z7, z8, z9, z10, z11, z12] at hb14
    obtain ⟨x, hx, hd, ht⟩ := get_lt (xs := xs) (i := k) (by omega)
    obtain ⟨y, hy, hd2, ht2⟩ := get_lt (xs := ys) (i := k) (by omega)
    refine pwp_skip ?_
    refine seq_norm (hK13 _ ?_); clear hK13 K13
    refine pwp_seq_block fun K15 hK15 => ?_
    refine pwp_seq_gops rfl fun K16 hK16 => ?_
    refine g_begin ?_
    refine g_step rfl rfl rfl rfl (e_move (v := .lit _ _ _) rfl) trivial ?_
    refine g_step rfl rfl rfl rfl (e_move (v := .sc _) rfl) trivial ?_
    refine g_step rfl rfl rfl rfl (e_ixa rfl rfl (by kernel_rfl) (by kernel_rfl) (by simp only [List.length_map]; omega)) trivial ?_
    refine g_step rfl rfl rfl rfl (e_loadA (n := 6) rfl (by kernel_rfl) (by kernel_rfl) (by kernel_rfl) (by simp only [List.length_map]; omega) (by decide) (by first | exact agg_map hx rfl)) trivial ?_
    refine g_step rfl rfl rfl rfl (e_move (v := .lit _ _ _) rfl) trivial ?_
    refine g_step rfl rfl rfl rfl (e_move (v := .sc _) rfl) trivial ?_
    refine g_step rfl rfl rfl rfl (e_ixa rfl rfl (by kernel_rfl) (by kernel_rfl) (by simp only [List.length_map]; omega)) trivial ?_
    refine g_step rfl rfl rfl rfl (e_loadA (n := 6) rfl (by kernel_rfl) (by kernel_rfl) (by kernel_rfl) (by simp only [List.length_map]; omega) (by decide) (by first | exact agg_map hy rfl)) trivial ?_
    refine g_step rfl rfl rfl rfl (e_ane rfl rfl (by kernel_rfl) (eqOk_Ev (x) (y)) (eqV_Ev (x) (y))) trivial ?_
    refine g_end (ds := []) (by kernel_rfl) rfl (hK16 _ ?_); clear hK16 K16
    refine pwp_cond rfl (fun hb17 => ?_) (fun hb17 => ?_)
    ·have hb17R := hb17; try simp only [z1, z2, z3, z4, z5, z6, ne_eq, z7, z8, z9, z10, z11, z12] at hb17
     refine pwp_seq_plain rfl fun K18 hK18 => ?_
     refine p_step rfl (e_assign (v := .sc _) rfl) trivial ?_
     refine p_end (hK18 _ ?_); clear hK18 K18
     refine pwp_ret ?_
     refine ret_block ?_
     refine ret_seq ?_
     refine ret_loop ?_
     refine ret_block ?_
     refine ret_seq ?_
     refine end1 (v := .sc _) rfl ?_
     first
       | exact out_b (decide_eq_false fun h => by subst h; omega).symm
       | exact out_b (decide_eq_false (same_bad hx hy (by assumption))).symm
       | exact out_b (decide_eq_true (same_end (by omega) he)).symm
    ·have hb17R := hb17; try simp only [z1, z2, z3, z4, z5, z6, ne_eq, z7, z8, z9, z10, z11, z12] at hb17
     refine pwp_skip ?_
     refine block_norm ?_
     refine seq_norm (hK15 _ ?_); clear hK15 K15
     refine pwp_plain rfl fun K19 hK19 => ?_
     refine p_step rfl (e_move (v := .sc _) rfl) trivial ?_
     refine p_step rfl (e_add rfl rfl (by omega)) trivial ?_
     refine p_step rfl (e_assign (v := .sc _) rfl) trivial ?_
     refine p_end (hK19 _ ?_); clear hK19 K19
     exact loop_again (k + 1) (by show _ < _; omega) ⟨rfl, rfl, trivial⟩ ⟨rfl, trivial⟩ (by exact ⟨by show _ + 1 ≤ _; omega, by rw [ht, ht2, he]; congr 2⟩)
   ·have hb14R := hb14; try simp only [z1, z2, z3, z4, z5, z6, ne_eq, z7, z8, z9, z10, z11, z12] at hb14
    obtain rfl : k = xs.length := by omega
    refine pwp_exit ?_
    refine exit_seq ?_
    clear hK13 K13
    refine exit_loop ?_
    refine exit_here ?_
    refine seq_norm (hK7 _ ?_); clear hK7 K7
    refine pwp_seq_plain rfl fun K20 hK20 => ?_
    refine p_step rfl (e_assign (v := .sc _) rfl) trivial ?_
    refine p_end (hK20 _ ?_); clear hK20 K20
    refine pwp_ret ?_
    refine end1 (v := .sc _) rfl ?_
    first
      | exact out_b (decide_eq_false fun h => by subst h; omega).symm
      | exact out_b (decide_eq_false (same_bad hx hy (by assumption))).symm
      | exact out_b (decide_eq_true (same_end (by omega) he)).symm

end Go.Proofs.Ytdbpfhbppcpbbaa
