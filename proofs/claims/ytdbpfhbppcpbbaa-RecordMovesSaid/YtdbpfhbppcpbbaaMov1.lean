/- Few terms and moves; copies; lists of lots compared. No conditions. -/
import Derived.Test.YtdbpfhbppcpbbaaTerms
import Derived.Test.YtdbpfhbppcpbbaaDataL
import Derived.Test.YtdbpfhbppcpbbaaPvZ7
set_option linter.unusedSimpArgs false
set_option linter.unusedVariables false
set_option maxRecDepth 100000
namespace Go.Proofs.Ytdbpfhbppcpbbaa
open Go Go.Pv
/-! ### Few terms and moves -/
def hireB (ts : List Term) (ms : List Move) : Bool :=
  decide ((ts.length ≤ 8 ∨ (60 < ts.length ∧ ts.length ≤ 65)) ∧ (ms.length ≤ 40 ∨ (300 < ms.length ∧ ms.length ≤ 305))) && (decide (∀ t ∈ ts, t.part.size ≤ 30) && decide (∀ m ∈ ms, m.part.size ≤ 30))
theorem hire_big {ts : List Term} {ms : List Move} (h : ¬ ((ts.length ≤ 8 ∨ (60 < ts.length ∧ ts.length ≤ 65)) ∧ (ms.length ≤ 40 ∨ (300 < ms.length ∧ ms.length ≤ 305)))) : false = hireB ts ms := by
  unfold hireB; rw [decide_eq_false h]; rfl
theorem hire_t {ts : List Term} {ms : List Move} {k : Nat} {x : Term} (hx : ts[k]? = some x) (h : 30 < (x.part.size : Int)) : false = hireB ts ms := by
  have h1 : ¬ ∀ t ∈ ts, t.part.size ≤ 30 := fun hc => by have := hc x (List.mem_of_getElem? hx); omega
  unfold hireB; rw [decide_eq_false h1]; simp
theorem hire_m {ts : List Term} {ms : List Move} {k : Nat} {x : Move} (hx : ms[k]? = some x) (h : 30 < (x.part.size : Int)) : false = hireB ts ms := by
  have h1 : ¬ ∀ m ∈ ms, m.part.size ≤ 30 := fun hc => by have := hc x (List.mem_of_getElem? hx); omega
  unfold hireB; rw [decide_eq_false h1]; simp
theorem hire_ok {ts : List Term} {ms : List Move} (h : ((ts.length ≤ 8 ∨ (60 < ts.length ∧ ts.length ≤ 65)) ∧ (ms.length ≤ 40 ∨ (300 < ms.length ∧ ms.length ≤ 305)))) (h1 : ∀ t ∈ ts, t.part.size ≤ 30) (h2 : ∀ m ∈ ms, m.part.size ≤ 30) : true = hireB ts ms := by
  unfold hireB; rw [decide_eq_true h, decide_eq_true h1, decide_eq_true h2]; rfl
theorem hire_len {ts : List Term} {ms : List Move} (h : hireB ts ms = true) : ts.length ≤ 65 ∧ ms.length ≤ 305 := by
  unfold hireB at h
  rw [Bool.and_eq_true, decide_eq_true_eq] at h
  omega
theorem take_t {α : Type} {f : α → Nat} {xs : List α} {k : Nat} {x : α} (h : ∀ y ∈ xs.take k, f y ≤ 30) (hx : xs[k]? = some x) (hl : (f x : Int) ≤ 30) : ∀ y ∈ xs.take (k + 1), f y ≤ 30 := by
  intro y hy
  rw [List.take_add_one, hx] at hy
  rcases List.mem_append.1 hy with hy | hy
  · exact h y hy
  · simp at hy; rw [hy]; omega

theorem fr26 : (inFrame Try.f26.ntmps (Try.f26.body.getD .skip) && Try.f26.results.toList.all (resScope Try.f26.ntmps)) = true := by kernel_rfl
theorem hire (ts : List Term) (ms : List Move) (hl : ts.length ≤ 9223372036854775807) (hm : ms.length ≤ 9223372036854775807) : PCalls Try.prog 26 [.lit true 4 (ts.map Term.enc), .lit true 4 (ms.map Move.enc)] (.bool (hireB ts ms)) := by
  refine PCalls.of_code Try.func26 rfl rfl (by kernel_rfl) mixed fr26 (by show _ ≤ 61; simp) (.sc _) ?_
  refine pwp_seq_plain rfl fun K1 hK1 => ?_
  refine p_step rfl (e_assign (v := .sc _) rfl) trivial ?_
  refine p_end (hK1 _ ?_); clear hK1 K1
  refine pwp_seq_seq ?_
  refine pwp_seq_gops rfl fun K2 hK2 => ?_
  refine g_begin ?_
  refine g_step rfl rfl rfl rfl (e_move (v := .lit _ _ _) rfl) trivial ?_
  refine g_step rfl rfl rfl rfl (e_len rfl (by kernel_rfl)) trivial ?_
  refine g_step rfl rfl rfl rfl (e_gt rfl rfl) trivial ?_
  refine g_step rfl rfl rfl rfl (e_move (v := .sc _) rfl) trivial ?_
  refine g_cases (fun hb3 => ?_) (fun hb3 => ?_)
  ·have hb3R := hb3; try simp only [z1, z2, z3, z4, z5, z6, ne_eq, z7, z8, z9, z10, z11, z12] at hb3
   refine g_step rfl rfl rfl rfl (e_move (v := .lit _ _ _) rfl) trivial ?_
   refine g_step rfl rfl rfl rfl (e_len rfl (by kernel_rfl)) trivial ?_
   refine g_step rfl rfl rfl rfl (e_le rfl rfl) trivial ?_
   refine g_step rfl rfl rfl rfl (e_pickT (v := .sc _) rfl rfl) trivial ?_
   refine g_step rfl rfl rfl rfl (e_move (v := .sc _) rfl) trivial ?_
   refine g_cases (fun hb4 => ?_) (fun hb4 => ?_)
   ·have hb4R := hb4; try simp only [z1, z2, z3, z4, z5, z6, ne_eq, z7, z8, z9, z10, z11, z12] at hb4
    refine g_skip rfl rfl rfl ?_
    refine g_skip rfl rfl rfl ?_
    refine g_skip rfl rfl rfl ?_
    refine g_step rfl rfl rfl rfl (e_pickT (v := .sc _) rfl rfl) trivial ?_
    refine g_step rfl rfl rfl rfl (e_move (v := .sc _) rfl) trivial ?_
    refine g_skip rfl rfl rfl ?_
    refine g_skip rfl rfl rfl ?_
    refine g_skip rfl rfl rfl ?_
    refine g_skip rfl rfl rfl ?_
    refine g_skip rfl rfl rfl ?_
    refine g_skip rfl rfl rfl ?_
    refine g_skip rfl rfl rfl ?_
    refine g_skip rfl rfl rfl ?_
    refine g_step rfl rfl rfl rfl (e_pickT (v := .sc _) rfl rfl) trivial ?_
    refine g_step rfl rfl rfl rfl (e_move (v := .sc _) rfl) trivial ?_
    refine g_skip rfl rfl rfl ?_
    refine g_skip rfl rfl rfl ?_
    refine g_skip rfl rfl rfl ?_
    refine g_step rfl rfl rfl rfl (e_pickT (v := .sc _) rfl rfl) trivial ?_
    refine g_end (ds := [11, 12, 13, 16, 17, 18, 21, 22, 23, 24, 25, 26, 27, 28, 31, 32, 33]) rfl rfl (hK2 _ ?_); clear hK2 K2
    refine pwp_seq_cond (t := true) rfl fun K5 hK5 => ⟨fun _ => ?_, nofun⟩
    refine pwp_seq_plain rfl fun K6 hK6 => ?_
    refine p_step rfl (e_assign (v := .sc _) rfl) trivial ?_
    refine p_end (hK6 _ ?_); clear hK6 K6
    refine pwp_ret ?_
    refine ret_seq ?_
    refine end1 (v := .sc _) rfl ?_
    first
      | exact out_b (hire_ok (by omega) hst hsm)
      | exact out_b (hire_big (by omega))
      | exact out_b (hire_t hx (by assumption))
      | exact out_b (hire_m hx (by assumption))
      | exact out_b (hire_t hx (by omega))
      | exact out_b (hire_m hx (by omega))
   ·have hb4R := hb4; try simp only [z1, z2, z3, z4, z5, z6, ne_eq, z7, z8, z9, z10, z11, z12] at hb4
    refine g_step rfl rfl rfl rfl (e_move (v := .lit _ _ _) rfl) trivial ?_
    refine g_step rfl rfl rfl rfl (e_len rfl (by kernel_rfl)) trivial ?_
    refine g_step rfl rfl rfl rfl (e_gt rfl rfl) trivial ?_
    refine g_step rfl rfl rfl rfl (e_pickF (v := .sc _) rfl rfl) trivial ?_
    refine g_step rfl rfl rfl rfl (e_move (v := .sc _) rfl) trivial ?_
    refine g_cases (fun hb7 => ?_) (fun hb7 => ?_)
    ·have hb7R := hb7; try simp only [z1, z2, z3, z4, z5, z6, ne_eq, z7, z8, z9, z10, z11, z12] at hb7
     refine g_skip rfl rfl rfl ?_
     refine g_skip rfl rfl rfl ?_
     refine g_skip rfl rfl rfl ?_
     refine g_skip rfl rfl rfl ?_
     refine g_skip rfl rfl rfl ?_
     refine g_skip rfl rfl rfl ?_
     refine g_skip rfl rfl rfl ?_
     refine g_skip rfl rfl rfl ?_
     refine g_step rfl rfl rfl rfl (e_pickT (v := .sc _) rfl rfl) trivial ?_
     refine g_step rfl rfl rfl rfl (e_move (v := .sc _) rfl) trivial ?_
     refine g_skip rfl rfl rfl ?_
     refine g_skip rfl rfl rfl ?_
     refine g_skip rfl rfl rfl ?_
     refine g_step rfl rfl rfl rfl (e_pickT (v := .sc _) rfl rfl) trivial ?_
     refine g_end (ds := [11, 12, 13, 16, 17, 18, 21, 22, 23, 24, 25, 26, 27, 28, 31, 32, 33]) rfl rfl (hK2 _ ?_); clear hK2 K2
     refine pwp_seq_cond (t := true) rfl fun K8 hK8 => ⟨fun _ => ?_, nofun⟩
     refine pwp_seq_plain rfl fun K9 hK9 => ?_
     refine p_step rfl (e_assign (v := .sc _) rfl) trivial ?_
     refine p_end (hK9 _ ?_); clear hK9 K9
     refine pwp_ret ?_
     refine ret_seq ?_
     refine end1 (v := .sc _) rfl ?_
     first
       | exact out_b (hire_ok (by omega) hst hsm)
       | exact out_b (hire_big (by omega))
       | exact out_b (hire_t hx (by assumption))
       | exact out_b (hire_m hx (by assumption))
       | exact out_b (hire_t hx (by omega))
       | exact out_b (hire_m hx (by omega))
    ·have hb7R := hb7; try simp only [z1, z2, z3, z4, z5, z6, ne_eq, z7, z8, z9, z10, z11, z12] at hb7
     refine g_step rfl rfl rfl rfl (e_move (v := .lit _ _ _) rfl) trivial ?_
     refine g_step rfl rfl rfl rfl (e_len rfl (by kernel_rfl)) trivial ?_
     refine g_step rfl rfl rfl rfl (e_gt rfl rfl) trivial ?_
     refine g_step rfl rfl rfl rfl (e_move (v := .sc _) rfl) trivial ?_
     refine g_cases (fun hb10 => ?_) (fun hb10 => ?_)
     ·have hb10R := hb10; try simp only [z1, z2, z3, z4, z5, z6, ne_eq, z7, z8, z9, z10, z11, z12] at hb10
      refine g_step rfl rfl rfl rfl (e_move (v := .lit _ _ _) rfl) trivial ?_
      refine g_step rfl rfl rfl rfl (e_len rfl (by kernel_rfl)) trivial ?_
      refine g_step rfl rfl rfl rfl (e_le rfl rfl) trivial ?_
      refine g_step rfl rfl rfl rfl (e_pickT (v := .sc _) rfl rfl) trivial ?_
      refine g_step rfl rfl rfl rfl (e_pickF (v := .sc _) rfl rfl) trivial ?_
      refine g_step rfl rfl rfl rfl (e_move (v := .sc _) rfl) trivial ?_
      refine g_cases (fun hb11 => ?_) (fun hb11 => ?_)
      ·have hb11R := hb11; try simp only [z1, z2, z3, z4, z5, z6, ne_eq, z7, z8, z9, z10, z11, z12] at hb11
       refine g_skip rfl rfl rfl ?_
       refine g_skip rfl rfl rfl ?_
       refine g_skip rfl rfl rfl ?_
       refine g_step rfl rfl rfl rfl (e_pickT (v := .sc _) rfl rfl) trivial ?_
       refine g_end (ds := [11, 12, 13, 16, 17, 18, 21, 22, 23, 24, 25, 26, 27, 28, 31, 32, 33]) rfl rfl (hK2 _ ?_); clear hK2 K2
       refine pwp_seq_cond (t := true) rfl fun K12 hK12 => ⟨fun _ => ?_, nofun⟩
       refine pwp_seq_plain rfl fun K13 hK13 => ?_
       refine p_step rfl (e_assign (v := .sc _) rfl) trivial ?_
       refine p_end (hK13 _ ?_); clear hK13 K13
       refine pwp_ret ?_
       refine ret_seq ?_
       refine end1 (v := .sc _) rfl ?_
       first
         | exact out_b (hire_ok (by omega) hst hsm)
         | exact out_b (hire_big (by omega))
         | exact out_b (hire_t hx (by assumption))
         | exact out_b (hire_m hx (by assumption))
         | exact out_b (hire_t hx (by omega))
         | exact out_b (hire_m hx (by omega))
      ·have hb11R := hb11; try simp only [z1, z2, z3, z4, z5, z6, ne_eq, z7, z8, z9, z10, z11, z12] at hb11
       refine g_step rfl rfl rfl rfl (e_move (v := .lit _ _ _) rfl) trivial ?_
       refine g_step rfl rfl rfl rfl (e_len rfl (by kernel_rfl)) trivial ?_
       refine g_step rfl rfl rfl rfl (e_gt rfl rfl) trivial ?_
       refine g_step rfl rfl rfl rfl (e_pickF (v := .sc _) rfl rfl) trivial ?_
       refine g_end (ds := [11, 12, 13, 16, 17, 18, 21, 22, 23, 24, 25, 26, 27, 28, 31, 32, 33]) rfl rfl (hK2 _ ?_); clear hK2 K2
       refine pwp_seq_cond rfl fun K14 hK14 => ⟨fun hb15 => ?_, fun hb15 => ?_⟩
       ·have hb15R := hb15; try simp only [z1, z2, z3, z4, z5, z6, ne_eq, z7, z8, z9, z10, z11, z12] at hb15
        refine pwp_seq_plain rfl fun K16 hK16 => ?_
        refine p_step rfl (e_assign (v := .sc _) rfl) trivial ?_
        refine p_end (hK16 _ ?_); clear hK16 K16
        refine pwp_ret ?_
        refine ret_seq ?_
        refine end1 (v := .sc _) rfl ?_
        first
          | exact out_b (hire_ok (by omega) hst hsm)
          | exact out_b (hire_big (by omega))
          | exact out_b (hire_t hx (by assumption))
          | exact out_b (hire_m hx (by assumption))
          | exact out_b (hire_t hx (by omega))
          | exact out_b (hire_m hx (by omega))
       ·have hb15R := hb15; try simp only [z1, z2, z3, z4, z5, z6, ne_eq, z7, z8, z9, z10, z11, z12] at hb15
        refine pwp_skip ?_
        refine seq_norm (hK14 _ ?_); clear hK14 K14
        refine pwp_seq_seq ?_
        refine pwp_seq_plain rfl fun K17 hK17 => ?_
        refine p_step rfl (e_assign (v := .sc _) rfl) trivial ?_
        refine p_end (hK17 _ ?_); clear hK17 K17
        refine pwp_seq_block fun K18 hK18 => ?_
        refine pwp_loopR (α := Nat) [0, 1] (fun (k : Nat) => [(5, .int (k))]) (fun (k : Nat) (h : Heap) (_ : Nat → Nat) => ((k) ≤ ts.length) ∧ (∀ y ∈ ts.take (k), y.part.size ≤ 30)) (fun (k : Nat) => ts.length - (k)) (0) (by exact ⟨rfl, trivial⟩) (by exact ⟨by exact Nat.zero_le _, by (intro y hy; simp at hy)⟩) fun k r19 h20 c21 hj22 => ?_
        obtain ⟨hk, hs⟩ := hj22
        try dsimp only at hk
        try dsimp only at hs
        show pwp _ _ (loopQ _ _ _) ⟨sets (mix _ _ _) [(5, .int k)], _, _⟩
        refine pwp_seq_seq ?_
        refine pwp_seq_plain rfl fun K23 hK23 => ?_
        refine p_step rfl (e_move (v := .sc _) rfl) trivial ?_
        refine p_step rfl (e_move (v := .lit _ _ _) rfl) trivial ?_
        refine p_step rfl (e_len rfl (by kernel_rfl)) trivial ?_
        refine p_step rfl (e_lt rfl rfl) trivial ?_
        refine p_end (hK23 _ ?_); clear hK23 K23
        refine pwp_seq_cond rfl fun K24 hK24 => ⟨fun hb25 => ?_, fun hb25 => ?_⟩
        ·have hb25R := hb25; try simp only [z1, z2, z3, z4, z5, z6, ne_eq, z7, z8, z9, z10, z11, z12] at hb25
         obtain ⟨x, hx, hd, ht⟩ := get_lt (xs := ts) (i := k) (by omega)
         refine pwp_skip ?_
         refine seq_norm (hK24 _ ?_); clear hK24 K24
         refine pwp_seq_block fun K26 hK26 => ?_
         refine pwp_seq_plain rfl fun K27 hK27 => ?_
         refine p_step rfl (e_move (v := .lit _ _ _) rfl) trivial ?_
         refine p_step rfl (e_move (v := .sc _) rfl) trivial ?_
         refine p_step rfl (e_ixa rfl rfl (by kernel_rfl) (by kernel_rfl) (by simp only [List.length_map]; omega)) trivial ?_
         refine p_step rfl (e_fa (pl := [(0, 1, false), (1, 1, false), (2, 1, false), (3, 1, false)]) rfl (by kernel_rfl) (by kernel_rfl) (by decide) rfl) trivial ?_
         refine p_step rfl (e_load (v := .sc _) rfl (by kernel_rfl) (by kernel_rfl) (by kernel_rfl) (by simp only [List.length_map]; omega) (by decide) ((cell_map hx _).trans rfl)) trivial ?_
         refine p_step rfl (e_lenS rfl (by kernel_rfl)) trivial ?_
         refine p_step rfl (e_gt rfl rfl) trivial ?_
         refine p_end (hK27 _ ?_); clear hK27 K27
         refine pwp_cond rfl (fun hb28 => ?_) (fun hb28 => ?_)
         ·have hb28R := hb28; try simp only [z1, z2, z3, z4, z5, z6, ne_eq, z7, z8, z9, z10, z11, z12] at hb28
          refine pwp_seq_plain rfl fun K29 hK29 => ?_
          refine p_step rfl (e_assign (v := .sc _) rfl) trivial ?_
          refine p_end (hK29 _ ?_); clear hK29 K29
          refine pwp_ret ?_
          refine ret_block ?_
          refine ret_seq ?_
          refine ret_loop ?_
          refine ret_block ?_
          refine ret_seq ?_
          refine end1 (v := .sc _) rfl ?_
          first
            | exact out_b (hire_ok (by omega) hst hsm)
            | exact out_b (hire_big (by omega))
            | exact out_b (hire_t hx (by assumption))
            | exact out_b (hire_m hx (by assumption))
            | exact out_b (hire_t hx (by omega))
            | exact out_b (hire_m hx (by omega))
         ·have hb28R := hb28; try simp only [z1, z2, z3, z4, z5, z6, ne_eq, z7, z8, z9, z10, z11, z12] at hb28
          refine pwp_skip ?_
          refine block_norm ?_
          refine seq_norm (hK26 _ ?_); clear hK26 K26
          refine pwp_plain rfl fun K30 hK30 => ?_
          refine p_step rfl (e_move (v := .sc _) rfl) trivial ?_
          refine p_step rfl (e_add rfl rfl (by omega)) trivial ?_
          refine p_step rfl (e_assign (v := .sc _) rfl) trivial ?_
          refine p_end (hK30 _ ?_); clear hK30 K30
          exact loop_again (k + 1) (by show _ < _; omega) ⟨rfl, rfl, trivial⟩ ⟨rfl, trivial⟩ (by exact ⟨by show _ + 1 ≤ _; omega, by exact take_t (f := fun y => y.part.size) hs hx (by omega)⟩)
        ·have hb25R := hb25; try simp only [z1, z2, z3, z4, z5, z6, ne_eq, z7, z8, z9, z10, z11, z12] at hb25
         obtain rfl : k = ts.length := by omega
         rw [List.take_length] at hs
         have hst := hs
         refine pwp_exit ?_
         refine exit_seq ?_
         clear hK24 K24
         refine exit_loop ?_
         refine exit_here ?_
         refine seq_norm (hK18 _ ?_); clear hK18 K18
         refine pwp_seq_seq ?_
         refine pwp_seq_plain rfl fun K31 hK31 => ?_
         refine p_step rfl (e_assign (v := .sc _) rfl) trivial ?_
         refine p_end (hK31 _ ?_); clear hK31 K31
         refine pwp_seq_block fun K32 hK32 => ?_
         refine pwp_loopR (α := Nat) [1] (fun (k : Nat) => [(6, .int (k))]) (fun (k : Nat) (h : Heap) (_ : Nat → Nat) => ((k) ≤ ms.length) ∧ (∀ y ∈ ms.take (k), y.part.size ≤ 30)) (fun (k : Nat) => ms.length - (k)) (0) (by exact ⟨rfl, trivial⟩) (by exact ⟨by exact Nat.zero_le _, by (intro y hy; simp at hy)⟩) fun k r33 h34 c35 hj36 => ?_
         obtain ⟨hk, hs⟩ := hj36
         try dsimp only at hk
         try dsimp only at hs
         show pwp _ _ (loopQ _ _ _) ⟨sets (mix _ _ _) [(6, .int k)], _, _⟩
         refine pwp_seq_seq ?_
         refine pwp_seq_plain rfl fun K37 hK37 => ?_
         refine p_step rfl (e_move (v := .sc _) rfl) trivial ?_
         refine p_step rfl (e_move (v := .lit _ _ _) rfl) trivial ?_
         refine p_step rfl (e_len rfl (by kernel_rfl)) trivial ?_
         refine p_step rfl (e_lt rfl rfl) trivial ?_
         refine p_end (hK37 _ ?_); clear hK37 K37
         refine pwp_seq_cond rfl fun K38 hK38 => ⟨fun hb39 => ?_, fun hb39 => ?_⟩
         ·have hb39R := hb39; try simp only [z1, z2, z3, z4, z5, z6, ne_eq, z7, z8, z9, z10, z11, z12] at hb39
          obtain ⟨x, hx, hd, ht⟩ := get_lt (xs := ms) (i := k) (by omega)
          refine pwp_skip ?_
          refine seq_norm (hK38 _ ?_); clear hK38 K38
          refine pwp_seq_block fun K40 hK40 => ?_
          refine pwp_seq_plain rfl fun K41 hK41 => ?_
          refine p_step rfl (e_move (v := .lit _ _ _) rfl) trivial ?_
          refine p_step rfl (e_move (v := .sc _) rfl) trivial ?_
          refine p_step rfl (e_ixa rfl rfl (by kernel_rfl) (by kernel_rfl) (by simp only [List.length_map]; omega)) trivial ?_
          refine p_step rfl (e_fa (pl := [(0, 1, false), (1, 1, false), (2, 1, false), (3, 1, false)]) rfl (by kernel_rfl) (by kernel_rfl) (by decide) rfl) trivial ?_
          refine p_step rfl (e_load (v := .sc _) rfl (by kernel_rfl) (by kernel_rfl) (by kernel_rfl) (by simp only [List.length_map]; omega) (by decide) ((cell_map hx _).trans rfl)) trivial ?_
          refine p_step rfl (e_lenS rfl (by kernel_rfl)) trivial ?_
          refine p_step rfl (e_gt rfl rfl) trivial ?_
          refine p_end (hK41 _ ?_); clear hK41 K41
          refine pwp_cond rfl (fun hb42 => ?_) (fun hb42 => ?_)
          ·have hb42R := hb42; try simp only [z1, z2, z3, z4, z5, z6, ne_eq, z7, z8, z9, z10, z11, z12] at hb42
           refine pwp_seq_plain rfl fun K43 hK43 => ?_
           refine p_step rfl (e_assign (v := .sc _) rfl) trivial ?_
           refine p_end (hK43 _ ?_); clear hK43 K43
           refine pwp_ret ?_
           refine ret_block ?_
           refine ret_seq ?_
           refine ret_loop ?_
           refine ret_block ?_
           refine ret_seq ?_
           refine end1 (v := .sc _) rfl ?_
           first
             | exact out_b (hire_ok (by omega) hst hsm)
             | exact out_b (hire_big (by omega))
             | exact out_b (hire_t hx (by assumption))
             | exact out_b (hire_m hx (by assumption))
             | exact out_b (hire_t hx (by omega))
             | exact out_b (hire_m hx (by omega))
          ·have hb42R := hb42; try simp only [z1, z2, z3, z4, z5, z6, ne_eq, z7, z8, z9, z10, z11, z12] at hb42
           refine pwp_skip ?_
           refine block_norm ?_
           refine seq_norm (hK40 _ ?_); clear hK40 K40
           refine pwp_plain rfl fun K44 hK44 => ?_
           refine p_step rfl (e_move (v := .sc _) rfl) trivial ?_
           refine p_step rfl (e_add rfl rfl (by omega)) trivial ?_
           refine p_step rfl (e_assign (v := .sc _) rfl) trivial ?_
           refine p_end (hK44 _ ?_); clear hK44 K44
           exact loop_again (k + 1) (by show _ < _; omega) ⟨rfl, trivial⟩ ⟨rfl, trivial⟩ (by exact ⟨by show _ + 1 ≤ _; omega, by exact take_t (f := fun y => y.part.size) hs hx (by omega)⟩)
         ·have hb39R := hb39; try simp only [z1, z2, z3, z4, z5, z6, ne_eq, z7, z8, z9, z10, z11, z12] at hb39
          obtain rfl : k = ms.length := by omega
          rw [List.take_length] at hs
          have hsm := hs
          refine pwp_exit ?_
          refine exit_seq ?_
          clear hK38 K38
          refine exit_loop ?_
          refine exit_here ?_
          refine seq_norm (hK32 _ ?_); clear hK32 K32
          refine pwp_seq_plain rfl fun K45 hK45 => ?_
          refine p_step rfl (e_assign (v := .sc _) rfl) trivial ?_
          refine p_end (hK45 _ ?_); clear hK45 K45
          refine pwp_ret ?_
          refine end1 (v := .sc _) rfl ?_
          first
            | exact out_b (hire_ok (by omega) hst hsm)
            | exact out_b (hire_big (by omega))
            | exact out_b (hire_t hx (by assumption))
            | exact out_b (hire_m hx (by assumption))
            | exact out_b (hire_t hx (by omega))
            | exact out_b (hire_m hx (by omega))
     ·have hb10R := hb10; try simp only [z1, z2, z3, z4, z5, z6, ne_eq, z7, z8, z9, z10, z11, z12] at hb10
      refine g_skip rfl rfl rfl ?_
      refine g_skip rfl rfl rfl ?_
      refine g_skip rfl rfl rfl ?_
      refine g_step rfl rfl rfl rfl (e_pickF (v := .sc _) rfl rfl) trivial ?_
      refine g_step rfl rfl rfl rfl (e_pickF (v := .sc _) rfl rfl) trivial ?_
      refine g_step rfl rfl rfl rfl (e_move (v := .sc _) rfl) trivial ?_
      refine g_step rfl rfl rfl rfl (e_move (v := .lit _ _ _) rfl) trivial ?_
      refine g_step rfl rfl rfl rfl (e_len rfl (by kernel_rfl)) trivial ?_
      refine g_step rfl rfl rfl rfl (e_gt rfl rfl) trivial ?_
      refine g_step rfl rfl rfl rfl (e_pickF (v := .sc _) rfl rfl) trivial ?_
      refine g_end (ds := [11, 12, 13, 16, 17, 18, 21, 22, 23, 24, 25, 26, 27, 28, 31, 32, 33]) rfl rfl (hK2 _ ?_); clear hK2 K2
      refine pwp_seq_cond rfl fun K46 hK46 => ⟨fun hb47 => ?_, fun hb47 => ?_⟩
      ·have hb47R := hb47; try simp only [z1, z2, z3, z4, z5, z6, ne_eq, z7, z8, z9, z10, z11, z12] at hb47
       refine pwp_seq_plain rfl fun K48 hK48 => ?_
       refine p_step rfl (e_assign (v := .sc _) rfl) trivial ?_
       refine p_end (hK48 _ ?_); clear hK48 K48
       refine pwp_ret ?_
       refine ret_seq ?_
       refine end1 (v := .sc _) rfl ?_
       first
         | exact out_b (hire_ok (by omega) hst hsm)
         | exact out_b (hire_big (by omega))
         | exact out_b (hire_t hx (by assumption))
         | exact out_b (hire_m hx (by assumption))
         | exact out_b (hire_t hx (by omega))
         | exact out_b (hire_m hx (by omega))
      ·have hb47R := hb47; try simp only [z1, z2, z3, z4, z5, z6, ne_eq, z7, z8, z9, z10, z11, z12] at hb47
       refine pwp_skip ?_
       refine seq_norm (hK46 _ ?_); clear hK46 K46
       refine pwp_seq_seq ?_
       refine pwp_seq_plain rfl fun K49 hK49 => ?_
       refine p_step rfl (e_assign (v := .sc _) rfl) trivial ?_
       refine p_end (hK49 _ ?_); clear hK49 K49
       refine pwp_seq_block fun K50 hK50 => ?_
       refine pwp_loopR (α := Nat) [0, 1] (fun (k : Nat) => [(5, .int (k))]) (fun (k : Nat) (h : Heap) (_ : Nat → Nat) => ((k) ≤ ts.length) ∧ (∀ y ∈ ts.take (k), y.part.size ≤ 30)) (fun (k : Nat) => ts.length - (k)) (0) (by exact ⟨rfl, trivial⟩) (by exact ⟨by exact Nat.zero_le _, by (intro y hy; simp at hy)⟩) fun k r51 h52 c53 hj54 => ?_
       obtain ⟨hk, hs⟩ := hj54
       try dsimp only at hk
       try dsimp only at hs
       show pwp _ _ (loopQ _ _ _) ⟨sets (mix _ _ _) [(5, .int k)], _, _⟩
       refine pwp_seq_seq ?_
       refine pwp_seq_plain rfl fun K55 hK55 => ?_
       refine p_step rfl (e_move (v := .sc _) rfl) trivial ?_
       refine p_step rfl (e_move (v := .lit _ _ _) rfl) trivial ?_
       refine p_step rfl (e_len rfl (by kernel_rfl)) trivial ?_
       refine p_step rfl (e_lt rfl rfl) trivial ?_
       refine p_end (hK55 _ ?_); clear hK55 K55
       refine pwp_seq_cond rfl fun K56 hK56 => ⟨fun hb57 => ?_, fun hb57 => ?_⟩
       ·have hb57R := hb57; try simp only [z1, z2, z3, z4, z5, z6, ne_eq, z7, z8, z9, z10, z11, z12] at hb57
        obtain ⟨x, hx, hd, ht⟩ := get_lt (xs := ts) (i := k) (by omega)
        refine pwp_skip ?_
        refine seq_norm (hK56 _ ?_); clear hK56 K56
        refine pwp_seq_block fun K58 hK58 => ?_
        refine pwp_seq_plain rfl fun K59 hK59 => ?_
        refine p_step rfl (e_move (v := .lit _ _ _) rfl) trivial ?_
        refine p_step rfl (e_move (v := .sc _) rfl) trivial ?_
        refine p_step rfl (e_ixa rfl rfl (by kernel_rfl) (by kernel_rfl) (by simp only [List.length_map]; omega)) trivial ?_
        refine p_step rfl (e_fa (pl := [(0, 1, false), (1, 1, false), (2, 1, false), (3, 1, false)]) rfl (by kernel_rfl) (by kernel_rfl) (by decide) rfl) trivial ?_
        refine p_step rfl (e_load (v := .sc _) rfl (by kernel_rfl) (by kernel_rfl) (by kernel_rfl) (by simp only [List.length_map]; omega) (by decide) ((cell_map hx _).trans rfl)) trivial ?_
        refine p_step rfl (e_lenS rfl (by kernel_rfl)) trivial ?_
        refine p_step rfl (e_gt rfl rfl) trivial ?_
        refine p_end (hK59 _ ?_); clear hK59 K59
        refine pwp_cond rfl (fun hb60 => ?_) (fun hb60 => ?_)
        ·have hb60R := hb60; try simp only [z1, z2, z3, z4, z5, z6, ne_eq, z7, z8, z9, z10, z11, z12] at hb60
         refine pwp_seq_plain rfl fun K61 hK61 => ?_
         refine p_step rfl (e_assign (v := .sc _) rfl) trivial ?_
         refine p_end (hK61 _ ?_); clear hK61 K61
         refine pwp_ret ?_
         refine ret_block ?_
         refine ret_seq ?_
         refine ret_loop ?_
         refine ret_block ?_
         refine ret_seq ?_
         refine end1 (v := .sc _) rfl ?_
         first
           | exact out_b (hire_ok (by omega) hst hsm)
           | exact out_b (hire_big (by omega))
           | exact out_b (hire_t hx (by assumption))
           | exact out_b (hire_m hx (by assumption))
           | exact out_b (hire_t hx (by omega))
           | exact out_b (hire_m hx (by omega))
        ·have hb60R := hb60; try simp only [z1, z2, z3, z4, z5, z6, ne_eq, z7, z8, z9, z10, z11, z12] at hb60
         refine pwp_skip ?_
         refine block_norm ?_
         refine seq_norm (hK58 _ ?_); clear hK58 K58
         refine pwp_plain rfl fun K62 hK62 => ?_
         refine p_step rfl (e_move (v := .sc _) rfl) trivial ?_
         refine p_step rfl (e_add rfl rfl (by omega)) trivial ?_
         refine p_step rfl (e_assign (v := .sc _) rfl) trivial ?_
         refine p_end (hK62 _ ?_); clear hK62 K62
         exact loop_again (k + 1) (by show _ < _; omega) ⟨rfl, rfl, trivial⟩ ⟨rfl, trivial⟩ (by exact ⟨by show _ + 1 ≤ _; omega, by exact take_t (f := fun y => y.part.size) hs hx (by omega)⟩)
       ·have hb57R := hb57; try simp only [z1, z2, z3, z4, z5, z6, ne_eq, z7, z8, z9, z10, z11, z12] at hb57
        obtain rfl : k = ts.length := by omega
        rw [List.take_length] at hs
        have hst := hs
        refine pwp_exit ?_
        refine exit_seq ?_
        clear hK56 K56
        refine exit_loop ?_
        refine exit_here ?_
        refine seq_norm (hK50 _ ?_); clear hK50 K50
        refine pwp_seq_seq ?_
        refine pwp_seq_plain rfl fun K63 hK63 => ?_
        refine p_step rfl (e_assign (v := .sc _) rfl) trivial ?_
        refine p_end (hK63 _ ?_); clear hK63 K63
        refine pwp_seq_block fun K64 hK64 => ?_
        refine pwp_loopR (α := Nat) [1] (fun (k : Nat) => [(6, .int (k))]) (fun (k : Nat) (h : Heap) (_ : Nat → Nat) => ((k) ≤ ms.length) ∧ (∀ y ∈ ms.take (k), y.part.size ≤ 30)) (fun (k : Nat) => ms.length - (k)) (0) (by exact ⟨rfl, trivial⟩) (by exact ⟨by exact Nat.zero_le _, by (intro y hy; simp at hy)⟩) fun k r65 h66 c67 hj68 => ?_
        obtain ⟨hk, hs⟩ := hj68
        try dsimp only at hk
        try dsimp only at hs
        show pwp _ _ (loopQ _ _ _) ⟨sets (mix _ _ _) [(6, .int k)], _, _⟩
        refine pwp_seq_seq ?_
        refine pwp_seq_plain rfl fun K69 hK69 => ?_
        refine p_step rfl (e_move (v := .sc _) rfl) trivial ?_
        refine p_step rfl (e_move (v := .lit _ _ _) rfl) trivial ?_
        refine p_step rfl (e_len rfl (by kernel_rfl)) trivial ?_
        refine p_step rfl (e_lt rfl rfl) trivial ?_
        refine p_end (hK69 _ ?_); clear hK69 K69
        refine pwp_seq_cond rfl fun K70 hK70 => ⟨fun hb71 => ?_, fun hb71 => ?_⟩
        ·have hb71R := hb71; try simp only [z1, z2, z3, z4, z5, z6, ne_eq, z7, z8, z9, z10, z11, z12] at hb71
         obtain ⟨x, hx, hd, ht⟩ := get_lt (xs := ms) (i := k) (by omega)
         refine pwp_skip ?_
         refine seq_norm (hK70 _ ?_); clear hK70 K70
         refine pwp_seq_block fun K72 hK72 => ?_
         refine pwp_seq_plain rfl fun K73 hK73 => ?_
         refine p_step rfl (e_move (v := .lit _ _ _) rfl) trivial ?_
         refine p_step rfl (e_move (v := .sc _) rfl) trivial ?_
         refine p_step rfl (e_ixa rfl rfl (by kernel_rfl) (by kernel_rfl) (by simp only [List.length_map]; omega)) trivial ?_
         refine p_step rfl (e_fa (pl := [(0, 1, false), (1, 1, false), (2, 1, false), (3, 1, false)]) rfl (by kernel_rfl) (by kernel_rfl) (by decide) rfl) trivial ?_
         refine p_step rfl (e_load (v := .sc _) rfl (by kernel_rfl) (by kernel_rfl) (by kernel_rfl) (by simp only [List.length_map]; omega) (by decide) ((cell_map hx _).trans rfl)) trivial ?_
         refine p_step rfl (e_lenS rfl (by kernel_rfl)) trivial ?_
         refine p_step rfl (e_gt rfl rfl) trivial ?_
         refine p_end (hK73 _ ?_); clear hK73 K73
         refine pwp_cond rfl (fun hb74 => ?_) (fun hb74 => ?_)
         ·have hb74R := hb74; try simp only [z1, z2, z3, z4, z5, z6, ne_eq, z7, z8, z9, z10, z11, z12] at hb74
          refine pwp_seq_plain rfl fun K75 hK75 => ?_
          refine p_step rfl (e_assign (v := .sc _) rfl) trivial ?_
          refine p_end (hK75 _ ?_); clear hK75 K75
          refine pwp_ret ?_
          refine ret_block ?_
          refine ret_seq ?_
          refine ret_loop ?_
          refine ret_block ?_
          refine ret_seq ?_
          refine end1 (v := .sc _) rfl ?_
          first
            | exact out_b (hire_ok (by omega) hst hsm)
            | exact out_b (hire_big (by omega))
            | exact out_b (hire_t hx (by assumption))
            | exact out_b (hire_m hx (by assumption))
            | exact out_b (hire_t hx (by omega))
            | exact out_b (hire_m hx (by omega))
         ·have hb74R := hb74; try simp only [z1, z2, z3, z4, z5, z6, ne_eq, z7, z8, z9, z10, z11, z12] at hb74
          refine pwp_skip ?_
          refine block_norm ?_
          refine seq_norm (hK72 _ ?_); clear hK72 K72
          refine pwp_plain rfl fun K76 hK76 => ?_
          refine p_step rfl (e_move (v := .sc _) rfl) trivial ?_
          refine p_step rfl (e_add rfl rfl (by omega)) trivial ?_
          refine p_step rfl (e_assign (v := .sc _) rfl) trivial ?_
          refine p_end (hK76 _ ?_); clear hK76 K76
          exact loop_again (k + 1) (by show _ < _; omega) ⟨rfl, trivial⟩ ⟨rfl, trivial⟩ (by exact ⟨by show _ + 1 ≤ _; omega, by exact take_t (f := fun y => y.part.size) hs hx (by omega)⟩)
        ·have hb71R := hb71; try simp only [z1, z2, z3, z4, z5, z6, ne_eq, z7, z8, z9, z10, z11, z12] at hb71
         obtain rfl : k = ms.length := by omega
         rw [List.take_length] at hs
         have hsm := hs
         refine pwp_exit ?_
         refine exit_seq ?_
         clear hK70 K70
         refine exit_loop ?_
         refine exit_here ?_
         refine seq_norm (hK64 _ ?_); clear hK64 K64
         refine pwp_seq_plain rfl fun K77 hK77 => ?_
         refine p_step rfl (e_assign (v := .sc _) rfl) trivial ?_
         refine p_end (hK77 _ ?_); clear hK77 K77
         refine pwp_ret ?_
         refine end1 (v := .sc _) rfl ?_
         first
           | exact out_b (hire_ok (by omega) hst hsm)
           | exact out_b (hire_big (by omega))
           | exact out_b (hire_t hx (by assumption))
           | exact out_b (hire_m hx (by assumption))
           | exact out_b (hire_t hx (by omega))
           | exact out_b (hire_m hx (by omega))
  ·have hb3R := hb3; try simp only [z1, z2, z3, z4, z5, z6, ne_eq, z7, z8, z9, z10, z11, z12] at hb3
   refine g_skip rfl rfl rfl ?_
   refine g_skip rfl rfl rfl ?_
   refine g_skip rfl rfl rfl ?_
   refine g_step rfl rfl rfl rfl (e_pickF (v := .sc _) rfl rfl) trivial ?_
   refine g_step rfl rfl rfl rfl (e_move (v := .sc _) rfl) trivial ?_
   refine g_step rfl rfl rfl rfl (e_move (v := .lit _ _ _) rfl) trivial ?_
   refine g_step rfl rfl rfl rfl (e_len rfl (by kernel_rfl)) trivial ?_
   refine g_step rfl rfl rfl rfl (e_gt rfl rfl) trivial ?_
   refine g_step rfl rfl rfl rfl (e_pickF (v := .sc _) rfl rfl) trivial ?_
   refine g_step rfl rfl rfl rfl (e_move (v := .sc _) rfl) trivial ?_
   refine g_cases (fun hb78 => ?_) (fun hb78 => ?_)
   ·have hb78R := hb78; try simp only [z1, z2, z3, z4, z5, z6, ne_eq, z7, z8, z9, z10, z11, z12] at hb78
    refine g_skip rfl rfl rfl ?_
    refine g_skip rfl rfl rfl ?_
    refine g_skip rfl rfl rfl ?_
    refine g_skip rfl rfl rfl ?_
    refine g_skip rfl rfl rfl ?_
    refine g_skip rfl rfl rfl ?_
    refine g_skip rfl rfl rfl ?_
    refine g_skip rfl rfl rfl ?_
    refine g_step rfl rfl rfl rfl (e_pickT (v := .sc _) rfl rfl) trivial ?_
    refine g_step rfl rfl rfl rfl (e_move (v := .sc _) rfl) trivial ?_
    refine g_skip rfl rfl rfl ?_
    refine g_skip rfl rfl rfl ?_
    refine g_skip rfl rfl rfl ?_
    refine g_step rfl rfl rfl rfl (e_pickT (v := .sc _) rfl rfl) trivial ?_
    refine g_end (ds := [11, 12, 13, 16, 17, 18, 21, 22, 23, 24, 25, 26, 27, 28, 31, 32, 33]) rfl rfl (hK2 _ ?_); clear hK2 K2
    refine pwp_seq_cond (t := true) rfl fun K79 hK79 => ⟨fun _ => ?_, nofun⟩
    refine pwp_seq_plain rfl fun K80 hK80 => ?_
    refine p_step rfl (e_assign (v := .sc _) rfl) trivial ?_
    refine p_end (hK80 _ ?_); clear hK80 K80
    refine pwp_ret ?_
    refine ret_seq ?_
    refine end1 (v := .sc _) rfl ?_
    first
      | exact out_b (hire_ok (by omega) hst hsm)
      | exact out_b (hire_big (by omega))
      | exact out_b (hire_t hx (by assumption))
      | exact out_b (hire_m hx (by assumption))
      | exact out_b (hire_t hx (by omega))
      | exact out_b (hire_m hx (by omega))
   ·have hb78R := hb78; try simp only [z1, z2, z3, z4, z5, z6, ne_eq, z7, z8, z9, z10, z11, z12] at hb78
    refine g_step rfl rfl rfl rfl (e_move (v := .lit _ _ _) rfl) trivial ?_
    refine g_step rfl rfl rfl rfl (e_len rfl (by kernel_rfl)) trivial ?_
    refine g_step rfl rfl rfl rfl (e_gt rfl rfl) trivial ?_
    refine g_step rfl rfl rfl rfl (e_move (v := .sc _) rfl) trivial ?_
    refine g_cases (fun hb81 => ?_) (fun hb81 => ?_)
    ·have hb81R := hb81; try simp only [z1, z2, z3, z4, z5, z6, ne_eq, z7, z8, z9, z10, z11, z12] at hb81
     refine g_step rfl rfl rfl rfl (e_move (v := .lit _ _ _) rfl) trivial ?_
     refine g_step rfl rfl rfl rfl (e_len rfl (by kernel_rfl)) trivial ?_
     refine g_step rfl rfl rfl rfl (e_le rfl rfl) trivial ?_
     refine g_step rfl rfl rfl rfl (e_pickT (v := .sc _) rfl rfl) trivial ?_
     refine g_step rfl rfl rfl rfl (e_pickF (v := .sc _) rfl rfl) trivial ?_
     refine g_step rfl rfl rfl rfl (e_move (v := .sc _) rfl) trivial ?_
     refine g_cases (fun hb82 => ?_) (fun hb82 => ?_)
     ·have hb82R := hb82; try simp only [z1, z2, z3, z4, z5, z6, ne_eq, z7, z8, z9, z10, z11, z12] at hb82
      refine g_skip rfl rfl rfl ?_
      refine g_skip rfl rfl rfl ?_
      refine g_skip rfl rfl rfl ?_
      refine g_step rfl rfl rfl rfl (e_pickT (v := .sc _) rfl rfl) trivial ?_
      refine g_end (ds := [11, 12, 13, 16, 17, 18, 21, 22, 23, 24, 25, 26, 27, 28, 31, 32, 33]) rfl rfl (hK2 _ ?_); clear hK2 K2
      refine pwp_seq_cond (t := true) rfl fun K83 hK83 => ⟨fun _ => ?_, nofun⟩
      refine pwp_seq_plain rfl fun K84 hK84 => ?_
      refine p_step rfl (e_assign (v := .sc _) rfl) trivial ?_
      refine p_end (hK84 _ ?_); clear hK84 K84
      refine pwp_ret ?_
      refine ret_seq ?_
      refine end1 (v := .sc _) rfl ?_
      first
        | exact out_b (hire_ok (by omega) hst hsm)
        | exact out_b (hire_big (by omega))
        | exact out_b (hire_t hx (by assumption))
        | exact out_b (hire_m hx (by assumption))
        | exact out_b (hire_t hx (by omega))
        | exact out_b (hire_m hx (by omega))
     ·have hb82R := hb82; try simp only [z1, z2, z3, z4, z5, z6, ne_eq, z7, z8, z9, z10, z11, z12] at hb82
      refine g_step rfl rfl rfl rfl (e_move (v := .lit _ _ _) rfl) trivial ?_
      refine g_step rfl rfl rfl rfl (e_len rfl (by kernel_rfl)) trivial ?_
      refine g_step rfl rfl rfl rfl (e_gt rfl rfl) trivial ?_
      refine g_step rfl rfl rfl rfl (e_pickF (v := .sc _) rfl rfl) trivial ?_
      refine g_end (ds := [11, 12, 13, 16, 17, 18, 21, 22, 23, 24, 25, 26, 27, 28, 31, 32, 33]) rfl rfl (hK2 _ ?_); clear hK2 K2
      refine pwp_seq_cond rfl fun K85 hK85 => ⟨fun hb86 => ?_, fun hb86 => ?_⟩
      ·have hb86R := hb86; try simp only [z1, z2, z3, z4, z5, z6, ne_eq, z7, z8, z9, z10, z11, z12] at hb86
       refine pwp_seq_plain rfl fun K87 hK87 => ?_
       refine p_step rfl (e_assign (v := .sc _) rfl) trivial ?_
       refine p_end (hK87 _ ?_); clear hK87 K87
       refine pwp_ret ?_
       refine ret_seq ?_
       refine end1 (v := .sc _) rfl ?_
       first
         | exact out_b (hire_ok (by omega) hst hsm)
         | exact out_b (hire_big (by omega))
         | exact out_b (hire_t hx (by assumption))
         | exact out_b (hire_m hx (by assumption))
         | exact out_b (hire_t hx (by omega))
         | exact out_b (hire_m hx (by omega))
      ·have hb86R := hb86; try simp only [z1, z2, z3, z4, z5, z6, ne_eq, z7, z8, z9, z10, z11, z12] at hb86
       refine pwp_skip ?_
       refine seq_norm (hK85 _ ?_); clear hK85 K85
       refine pwp_seq_seq ?_
       refine pwp_seq_plain rfl fun K88 hK88 => ?_
       refine p_step rfl (e_assign (v := .sc _) rfl) trivial ?_
       refine p_end (hK88 _ ?_); clear hK88 K88
       refine pwp_seq_block fun K89 hK89 => ?_
       refine pwp_loopR (α := Nat) [0, 1] (fun (k : Nat) => [(5, .int (k))]) (fun (k : Nat) (h : Heap) (_ : Nat → Nat) => ((k) ≤ ts.length) ∧ (∀ y ∈ ts.take (k), y.part.size ≤ 30)) (fun (k : Nat) => ts.length - (k)) (0) (by exact ⟨rfl, trivial⟩) (by exact ⟨by exact Nat.zero_le _, by (intro y hy; simp at hy)⟩) fun k r90 h91 c92 hj93 => ?_
       obtain ⟨hk, hs⟩ := hj93
       try dsimp only at hk
       try dsimp only at hs
       show pwp _ _ (loopQ _ _ _) ⟨sets (mix _ _ _) [(5, .int k)], _, _⟩
       refine pwp_seq_seq ?_
       refine pwp_seq_plain rfl fun K94 hK94 => ?_
       refine p_step rfl (e_move (v := .sc _) rfl) trivial ?_
       refine p_step rfl (e_move (v := .lit _ _ _) rfl) trivial ?_
       refine p_step rfl (e_len rfl (by kernel_rfl)) trivial ?_
       refine p_step rfl (e_lt rfl rfl) trivial ?_
       refine p_end (hK94 _ ?_); clear hK94 K94
       refine pwp_seq_cond rfl fun K95 hK95 => ⟨fun hb96 => ?_, fun hb96 => ?_⟩
       ·have hb96R := hb96; try simp only [z1, z2, z3, z4, z5, z6, ne_eq, z7, z8, z9, z10, z11, z12] at hb96
        obtain ⟨x, hx, hd, ht⟩ := get_lt (xs := ts) (i := k) (by omega)
        refine pwp_skip ?_
        refine seq_norm (hK95 _ ?_); clear hK95 K95
        refine pwp_seq_block fun K97 hK97 => ?_
        refine pwp_seq_plain rfl fun K98 hK98 => ?_
        refine p_step rfl (e_move (v := .lit _ _ _) rfl) trivial ?_
        refine p_step rfl (e_move (v := .sc _) rfl) trivial ?_
        refine p_step rfl (e_ixa rfl rfl (by kernel_rfl) (by kernel_rfl) (by simp only [List.length_map]; omega)) trivial ?_
        refine p_step rfl (e_fa (pl := [(0, 1, false), (1, 1, false), (2, 1, false), (3, 1, false)]) rfl (by kernel_rfl) (by kernel_rfl) (by decide) rfl) trivial ?_
        refine p_step rfl (e_load (v := .sc _) rfl (by kernel_rfl) (by kernel_rfl) (by kernel_rfl) (by simp only [List.length_map]; omega) (by decide) ((cell_map hx _).trans rfl)) trivial ?_
        refine p_step rfl (e_lenS rfl (by kernel_rfl)) trivial ?_
        refine p_step rfl (e_gt rfl rfl) trivial ?_
        refine p_end (hK98 _ ?_); clear hK98 K98
        refine pwp_cond rfl (fun hb99 => ?_) (fun hb99 => ?_)
        ·have hb99R := hb99; try simp only [z1, z2, z3, z4, z5, z6, ne_eq, z7, z8, z9, z10, z11, z12] at hb99
         refine pwp_seq_plain rfl fun K100 hK100 => ?_
         refine p_step rfl (e_assign (v := .sc _) rfl) trivial ?_
         refine p_end (hK100 _ ?_); clear hK100 K100
         refine pwp_ret ?_
         refine ret_block ?_
         refine ret_seq ?_
         refine ret_loop ?_
         refine ret_block ?_
         refine ret_seq ?_
         refine end1 (v := .sc _) rfl ?_
         first
           | exact out_b (hire_ok (by omega) hst hsm)
           | exact out_b (hire_big (by omega))
           | exact out_b (hire_t hx (by assumption))
           | exact out_b (hire_m hx (by assumption))
           | exact out_b (hire_t hx (by omega))
           | exact out_b (hire_m hx (by omega))
        ·have hb99R := hb99; try simp only [z1, z2, z3, z4, z5, z6, ne_eq, z7, z8, z9, z10, z11, z12] at hb99
         refine pwp_skip ?_
         refine block_norm ?_
         refine seq_norm (hK97 _ ?_); clear hK97 K97
         refine pwp_plain rfl fun K101 hK101 => ?_
         refine p_step rfl (e_move (v := .sc _) rfl) trivial ?_
         refine p_step rfl (e_add rfl rfl (by omega)) trivial ?_
         refine p_step rfl (e_assign (v := .sc _) rfl) trivial ?_
         refine p_end (hK101 _ ?_); clear hK101 K101
         exact loop_again (k + 1) (by show _ < _; omega) ⟨rfl, rfl, trivial⟩ ⟨rfl, trivial⟩ (by exact ⟨by show _ + 1 ≤ _; omega, by exact take_t (f := fun y => y.part.size) hs hx (by omega)⟩)
       ·have hb96R := hb96; try simp only [z1, z2, z3, z4, z5, z6, ne_eq, z7, z8, z9, z10, z11, z12] at hb96
        obtain rfl : k = ts.length := by omega
        rw [List.take_length] at hs
        have hst := hs
        refine pwp_exit ?_
        refine exit_seq ?_
        clear hK95 K95
        refine exit_loop ?_
        refine exit_here ?_
        refine seq_norm (hK89 _ ?_); clear hK89 K89
        refine pwp_seq_seq ?_
        refine pwp_seq_plain rfl fun K102 hK102 => ?_
        refine p_step rfl (e_assign (v := .sc _) rfl) trivial ?_
        refine p_end (hK102 _ ?_); clear hK102 K102
        refine pwp_seq_block fun K103 hK103 => ?_
        refine pwp_loopR (α := Nat) [1] (fun (k : Nat) => [(6, .int (k))]) (fun (k : Nat) (h : Heap) (_ : Nat → Nat) => ((k) ≤ ms.length) ∧ (∀ y ∈ ms.take (k), y.part.size ≤ 30)) (fun (k : Nat) => ms.length - (k)) (0) (by exact ⟨rfl, trivial⟩) (by exact ⟨by exact Nat.zero_le _, by (intro y hy; simp at hy)⟩) fun k r104 h105 c106 hj107 => ?_
        obtain ⟨hk, hs⟩ := hj107
        try dsimp only at hk
        try dsimp only at hs
        show pwp _ _ (loopQ _ _ _) ⟨sets (mix _ _ _) [(6, .int k)], _, _⟩
        refine pwp_seq_seq ?_
        refine pwp_seq_plain rfl fun K108 hK108 => ?_
        refine p_step rfl (e_move (v := .sc _) rfl) trivial ?_
        refine p_step rfl (e_move (v := .lit _ _ _) rfl) trivial ?_
        refine p_step rfl (e_len rfl (by kernel_rfl)) trivial ?_
        refine p_step rfl (e_lt rfl rfl) trivial ?_
        refine p_end (hK108 _ ?_); clear hK108 K108
        refine pwp_seq_cond rfl fun K109 hK109 => ⟨fun hb110 => ?_, fun hb110 => ?_⟩
        ·have hb110R := hb110; try simp only [z1, z2, z3, z4, z5, z6, ne_eq, z7, z8, z9, z10, z11, z12] at hb110
         obtain ⟨x, hx, hd, ht⟩ := get_lt (xs := ms) (i := k) (by omega)
         refine pwp_skip ?_
         refine seq_norm (hK109 _ ?_); clear hK109 K109
         refine pwp_seq_block fun K111 hK111 => ?_
         refine pwp_seq_plain rfl fun K112 hK112 => ?_
         refine p_step rfl (e_move (v := .lit _ _ _) rfl) trivial ?_
         refine p_step rfl (e_move (v := .sc _) rfl) trivial ?_
         refine p_step rfl (e_ixa rfl rfl (by kernel_rfl) (by kernel_rfl) (by simp only [List.length_map]; omega)) trivial ?_
         refine p_step rfl (e_fa (pl := [(0, 1, false), (1, 1, false), (2, 1, false), (3, 1, false)]) rfl (by kernel_rfl) (by kernel_rfl) (by decide) rfl) trivial ?_
         refine p_step rfl (e_load (v := .sc _) rfl (by kernel_rfl) (by kernel_rfl) (by kernel_rfl) (by simp only [List.length_map]; omega) (by decide) ((cell_map hx _).trans rfl)) trivial ?_
         refine p_step rfl (e_lenS rfl (by kernel_rfl)) trivial ?_
         refine p_step rfl (e_gt rfl rfl) trivial ?_
         refine p_end (hK112 _ ?_); clear hK112 K112
         refine pwp_cond rfl (fun hb113 => ?_) (fun hb113 => ?_)
         ·have hb113R := hb113; try simp only [z1, z2, z3, z4, z5, z6, ne_eq, z7, z8, z9, z10, z11, z12] at hb113
          refine pwp_seq_plain rfl fun K114 hK114 => ?_
          refine p_step rfl (e_assign (v := .sc _) rfl) trivial ?_
          refine p_end (hK114 _ ?_); clear hK114 K114
          refine pwp_ret ?_
          refine ret_block ?_
          refine ret_seq ?_
          refine ret_loop ?_
          refine ret_block ?_
          refine ret_seq ?_
          refine end1 (v := .sc _) rfl ?_
          first
            | exact out_b (hire_ok (by omega) hst hsm)
            | exact out_b (hire_big (by omega))
            | exact out_b (hire_t hx (by assumption))
            | exact out_b (hire_m hx (by assumption))
            | exact out_b (hire_t hx (by omega))
            | exact out_b (hire_m hx (by omega))
         ·have hb113R := hb113; try simp only [z1, z2, z3, z4, z5, z6, ne_eq, z7, z8, z9, z10, z11, z12] at hb113
          refine pwp_skip ?_
          refine block_norm ?_
          refine seq_norm (hK111 _ ?_); clear hK111 K111
          refine pwp_plain rfl fun K115 hK115 => ?_
          refine p_step rfl (e_move (v := .sc _) rfl) trivial ?_
          refine p_step rfl (e_add rfl rfl (by omega)) trivial ?_
          refine p_step rfl (e_assign (v := .sc _) rfl) trivial ?_
          refine p_end (hK115 _ ?_); clear hK115 K115
          exact loop_again (k + 1) (by show _ < _; omega) ⟨rfl, trivial⟩ ⟨rfl, trivial⟩ (by exact ⟨by show _ + 1 ≤ _; omega, by exact take_t (f := fun y => y.part.size) hs hx (by omega)⟩)
        ·have hb110R := hb110; try simp only [z1, z2, z3, z4, z5, z6, ne_eq, z7, z8, z9, z10, z11, z12] at hb110
         obtain rfl : k = ms.length := by omega
         rw [List.take_length] at hs
         have hsm := hs
         refine pwp_exit ?_
         refine exit_seq ?_
         clear hK109 K109
         refine exit_loop ?_
         refine exit_here ?_
         refine seq_norm (hK103 _ ?_); clear hK103 K103
         refine pwp_seq_plain rfl fun K116 hK116 => ?_
         refine p_step rfl (e_assign (v := .sc _) rfl) trivial ?_
         refine p_end (hK116 _ ?_); clear hK116 K116
         refine pwp_ret ?_
         refine end1 (v := .sc _) rfl ?_
         first
           | exact out_b (hire_ok (by omega) hst hsm)
           | exact out_b (hire_big (by omega))
           | exact out_b (hire_t hx (by assumption))
           | exact out_b (hire_m hx (by assumption))
           | exact out_b (hire_t hx (by omega))
           | exact out_b (hire_m hx (by omega))
    ·have hb81R := hb81; try simp only [z1, z2, z3, z4, z5, z6, ne_eq, z7, z8, z9, z10, z11, z12] at hb81
     refine g_skip rfl rfl rfl ?_
     refine g_skip rfl rfl rfl ?_
     refine g_skip rfl rfl rfl ?_
     refine g_step rfl rfl rfl rfl (e_pickF (v := .sc _) rfl rfl) trivial ?_
     refine g_step rfl rfl rfl rfl (e_pickF (v := .sc _) rfl rfl) trivial ?_
     refine g_step rfl rfl rfl rfl (e_move (v := .sc _) rfl) trivial ?_
     refine g_step rfl rfl rfl rfl (e_move (v := .lit _ _ _) rfl) trivial ?_
     refine g_step rfl rfl rfl rfl (e_len rfl (by kernel_rfl)) trivial ?_
     refine g_step rfl rfl rfl rfl (e_gt rfl rfl) trivial ?_
     refine g_step rfl rfl rfl rfl (e_pickF (v := .sc _) rfl rfl) trivial ?_
     refine g_end (ds := [11, 12, 13, 16, 17, 18, 21, 22, 23, 24, 25, 26, 27, 28, 31, 32, 33]) rfl rfl (hK2 _ ?_); clear hK2 K2
     refine pwp_seq_cond rfl fun K117 hK117 => ⟨fun hb118 => ?_, fun hb118 => ?_⟩
     ·have hb118R := hb118; try simp only [z1, z2, z3, z4, z5, z6, ne_eq, z7, z8, z9, z10, z11, z12] at hb118
      refine pwp_seq_plain rfl fun K119 hK119 => ?_
      refine p_step rfl (e_assign (v := .sc _) rfl) trivial ?_
      refine p_end (hK119 _ ?_); clear hK119 K119
      refine pwp_ret ?_
      refine ret_seq ?_
      refine end1 (v := .sc _) rfl ?_
      first
        | exact out_b (hire_ok (by omega) hst hsm)
        | exact out_b (hire_big (by omega))
        | exact out_b (hire_t hx (by assumption))
        | exact out_b (hire_m hx (by assumption))
        | exact out_b (hire_t hx (by omega))
        | exact out_b (hire_m hx (by omega))
     ·have hb118R := hb118; try simp only [z1, z2, z3, z4, z5, z6, ne_eq, z7, z8, z9, z10, z11, z12] at hb118
      refine pwp_skip ?_
      refine seq_norm (hK117 _ ?_); clear hK117 K117
      refine pwp_seq_seq ?_
      refine pwp_seq_plain rfl fun K120 hK120 => ?_
      refine p_step rfl (e_assign (v := .sc _) rfl) trivial ?_
      refine p_end (hK120 _ ?_); clear hK120 K120
      refine pwp_seq_block fun K121 hK121 => ?_
      refine pwp_loopR (α := Nat) [0, 1] (fun (k : Nat) => [(5, .int (k))]) (fun (k : Nat) (h : Heap) (_ : Nat → Nat) => ((k) ≤ ts.length) ∧ (∀ y ∈ ts.take (k), y.part.size ≤ 30)) (fun (k : Nat) => ts.length - (k)) (0) (by exact ⟨rfl, trivial⟩) (by exact ⟨by exact Nat.zero_le _, by (intro y hy; simp at hy)⟩) fun k r122 h123 c124 hj125 => ?_
      obtain ⟨hk, hs⟩ := hj125
      try dsimp only at hk
      try dsimp only at hs
      show pwp _ _ (loopQ _ _ _) ⟨sets (mix _ _ _) [(5, .int k)], _, _⟩
      refine pwp_seq_seq ?_
      refine pwp_seq_plain rfl fun K126 hK126 => ?_
      refine p_step rfl (e_move (v := .sc _) rfl) trivial ?_
      refine p_step rfl (e_move (v := .lit _ _ _) rfl) trivial ?_
      refine p_step rfl (e_len rfl (by kernel_rfl)) trivial ?_
      refine p_step rfl (e_lt rfl rfl) trivial ?_
      refine p_end (hK126 _ ?_); clear hK126 K126
      refine pwp_seq_cond rfl fun K127 hK127 => ⟨fun hb128 => ?_, fun hb128 => ?_⟩
      ·have hb128R := hb128; try simp only [z1, z2, z3, z4, z5, z6, ne_eq, z7, z8, z9, z10, z11, z12] at hb128
       obtain ⟨x, hx, hd, ht⟩ := get_lt (xs := ts) (i := k) (by omega)
       refine pwp_skip ?_
       refine seq_norm (hK127 _ ?_); clear hK127 K127
       refine pwp_seq_block fun K129 hK129 => ?_
       refine pwp_seq_plain rfl fun K130 hK130 => ?_
       refine p_step rfl (e_move (v := .lit _ _ _) rfl) trivial ?_
       refine p_step rfl (e_move (v := .sc _) rfl) trivial ?_
       refine p_step rfl (e_ixa rfl rfl (by kernel_rfl) (by kernel_rfl) (by simp only [List.length_map]; omega)) trivial ?_
       refine p_step rfl (e_fa (pl := [(0, 1, false), (1, 1, false), (2, 1, false), (3, 1, false)]) rfl (by kernel_rfl) (by kernel_rfl) (by decide) rfl) trivial ?_
       refine p_step rfl (e_load (v := .sc _) rfl (by kernel_rfl) (by kernel_rfl) (by kernel_rfl) (by simp only [List.length_map]; omega) (by decide) ((cell_map hx _).trans rfl)) trivial ?_
       refine p_step rfl (e_lenS rfl (by kernel_rfl)) trivial ?_
       refine p_step rfl (e_gt rfl rfl) trivial ?_
       refine p_end (hK130 _ ?_); clear hK130 K130
       refine pwp_cond rfl (fun hb131 => ?_) (fun hb131 => ?_)
       ·have hb131R := hb131; try simp only [z1, z2, z3, z4, z5, z6, ne_eq, z7, z8, z9, z10, z11, z12] at hb131
        refine pwp_seq_plain rfl fun K132 hK132 => ?_
        refine p_step rfl (e_assign (v := .sc _) rfl) trivial ?_
        refine p_end (hK132 _ ?_); clear hK132 K132
        refine pwp_ret ?_
        refine ret_block ?_
        refine ret_seq ?_
        refine ret_loop ?_
        refine ret_block ?_
        refine ret_seq ?_
        refine end1 (v := .sc _) rfl ?_
        first
          | exact out_b (hire_ok (by omega) hst hsm)
          | exact out_b (hire_big (by omega))
          | exact out_b (hire_t hx (by assumption))
          | exact out_b (hire_m hx (by assumption))
          | exact out_b (hire_t hx (by omega))
          | exact out_b (hire_m hx (by omega))
       ·have hb131R := hb131; try simp only [z1, z2, z3, z4, z5, z6, ne_eq, z7, z8, z9, z10, z11, z12] at hb131
        refine pwp_skip ?_
        refine block_norm ?_
        refine seq_norm (hK129 _ ?_); clear hK129 K129
        refine pwp_plain rfl fun K133 hK133 => ?_
        refine p_step rfl (e_move (v := .sc _) rfl) trivial ?_
        refine p_step rfl (e_add rfl rfl (by omega)) trivial ?_
        refine p_step rfl (e_assign (v := .sc _) rfl) trivial ?_
        refine p_end (hK133 _ ?_); clear hK133 K133
        exact loop_again (k + 1) (by show _ < _; omega) ⟨rfl, rfl, trivial⟩ ⟨rfl, trivial⟩ (by exact ⟨by show _ + 1 ≤ _; omega, by exact take_t (f := fun y => y.part.size) hs hx (by omega)⟩)
      ·have hb128R := hb128; try simp only [z1, z2, z3, z4, z5, z6, ne_eq, z7, z8, z9, z10, z11, z12] at hb128
       obtain rfl : k = ts.length := by omega
       rw [List.take_length] at hs
       have hst := hs
       refine pwp_exit ?_
       refine exit_seq ?_
       clear hK127 K127
       refine exit_loop ?_
       refine exit_here ?_
       refine seq_norm (hK121 _ ?_); clear hK121 K121
       refine pwp_seq_seq ?_
       refine pwp_seq_plain rfl fun K134 hK134 => ?_
       refine p_step rfl (e_assign (v := .sc _) rfl) trivial ?_
       refine p_end (hK134 _ ?_); clear hK134 K134
       refine pwp_seq_block fun K135 hK135 => ?_
       refine pwp_loopR (α := Nat) [1] (fun (k : Nat) => [(6, .int (k))]) (fun (k : Nat) (h : Heap) (_ : Nat → Nat) => ((k) ≤ ms.length) ∧ (∀ y ∈ ms.take (k), y.part.size ≤ 30)) (fun (k : Nat) => ms.length - (k)) (0) (by exact ⟨rfl, trivial⟩) (by exact ⟨by exact Nat.zero_le _, by (intro y hy; simp at hy)⟩) fun k r136 h137 c138 hj139 => ?_
       obtain ⟨hk, hs⟩ := hj139
       try dsimp only at hk
       try dsimp only at hs
       show pwp _ _ (loopQ _ _ _) ⟨sets (mix _ _ _) [(6, .int k)], _, _⟩
       refine pwp_seq_seq ?_
       refine pwp_seq_plain rfl fun K140 hK140 => ?_
       refine p_step rfl (e_move (v := .sc _) rfl) trivial ?_
       refine p_step rfl (e_move (v := .lit _ _ _) rfl) trivial ?_
       refine p_step rfl (e_len rfl (by kernel_rfl)) trivial ?_
       refine p_step rfl (e_lt rfl rfl) trivial ?_
       refine p_end (hK140 _ ?_); clear hK140 K140
       refine pwp_seq_cond rfl fun K141 hK141 => ⟨fun hb142 => ?_, fun hb142 => ?_⟩
       ·have hb142R := hb142; try simp only [z1, z2, z3, z4, z5, z6, ne_eq, z7, z8, z9, z10, z11, z12] at hb142
        obtain ⟨x, hx, hd, ht⟩ := get_lt (xs := ms) (i := k) (by omega)
        refine pwp_skip ?_
        refine seq_norm (hK141 _ ?_); clear hK141 K141
        refine pwp_seq_block fun K143 hK143 => ?_
        refine pwp_seq_plain rfl fun K144 hK144 => ?_
        refine p_step rfl (e_move (v := .lit _ _ _) rfl) trivial ?_
        refine p_step rfl (e_move (v := .sc _) rfl) trivial ?_
        refine p_step rfl (e_ixa rfl rfl (by kernel_rfl) (by kernel_rfl) (by simp only [List.length_map]; omega)) trivial ?_
        refine p_step rfl (e_fa (pl := [(0, 1, false), (1, 1, false), (2, 1, false), (3, 1, false)]) rfl (by kernel_rfl) (by kernel_rfl) (by decide) rfl) trivial ?_
        refine p_step rfl (e_load (v := .sc _) rfl (by kernel_rfl) (by kernel_rfl) (by kernel_rfl) (by simp only [List.length_map]; omega) (by decide) ((cell_map hx _).trans rfl)) trivial ?_
        refine p_step rfl (e_lenS rfl (by kernel_rfl)) trivial ?_
        refine p_step rfl (e_gt rfl rfl) trivial ?_
        refine p_end (hK144 _ ?_); clear hK144 K144
        refine pwp_cond rfl (fun hb145 => ?_) (fun hb145 => ?_)
        ·have hb145R := hb145; try simp only [z1, z2, z3, z4, z5, z6, ne_eq, z7, z8, z9, z10, z11, z12] at hb145
         refine pwp_seq_plain rfl fun K146 hK146 => ?_
         refine p_step rfl (e_assign (v := .sc _) rfl) trivial ?_
         refine p_end (hK146 _ ?_); clear hK146 K146
         refine pwp_ret ?_
         refine ret_block ?_
         refine ret_seq ?_
         refine ret_loop ?_
         refine ret_block ?_
         refine ret_seq ?_
         refine end1 (v := .sc _) rfl ?_
         first
           | exact out_b (hire_ok (by omega) hst hsm)
           | exact out_b (hire_big (by omega))
           | exact out_b (hire_t hx (by assumption))
           | exact out_b (hire_m hx (by assumption))
           | exact out_b (hire_t hx (by omega))
           | exact out_b (hire_m hx (by omega))
        ·have hb145R := hb145; try simp only [z1, z2, z3, z4, z5, z6, ne_eq, z7, z8, z9, z10, z11, z12] at hb145
         refine pwp_skip ?_
         refine block_norm ?_
         refine seq_norm (hK143 _ ?_); clear hK143 K143
         refine pwp_plain rfl fun K147 hK147 => ?_
         refine p_step rfl (e_move (v := .sc _) rfl) trivial ?_
         refine p_step rfl (e_add rfl rfl (by omega)) trivial ?_
         refine p_step rfl (e_assign (v := .sc _) rfl) trivial ?_
         refine p_end (hK147 _ ?_); clear hK147 K147
         exact loop_again (k + 1) (by show _ < _; omega) ⟨rfl, trivial⟩ ⟨rfl, trivial⟩ (by exact ⟨by show _ + 1 ≤ _; omega, by exact take_t (f := fun y => y.part.size) hs hx (by omega)⟩)
       ·have hb142R := hb142; try simp only [z1, z2, z3, z4, z5, z6, ne_eq, z7, z8, z9, z10, z11, z12] at hb142
        obtain rfl : k = ms.length := by omega
        rw [List.take_length] at hs
        have hsm := hs
        refine pwp_exit ?_
        refine exit_seq ?_
        clear hK141 K141
        refine exit_loop ?_
        refine exit_here ?_
        refine seq_norm (hK135 _ ?_); clear hK135 K135
        refine pwp_seq_plain rfl fun K148 hK148 => ?_
        refine p_step rfl (e_assign (v := .sc _) rfl) trivial ?_
        refine p_end (hK148 _ ?_); clear hK148 K148
        refine pwp_ret ?_
        refine end1 (v := .sc _) rfl ?_
        first
          | exact out_b (hire_ok (by omega) hst hsm)
          | exact out_b (hire_big (by omega))
          | exact out_b (hire_t hx (by assumption))
          | exact out_b (hire_m hx (by assumption))
          | exact out_b (hire_t hx (by omega))
          | exact out_b (hire_m hx (by omega))


theorem term_clean (a : Term) (q : PV) (hq : q ∈ a.enc) : Go.Pv.Clean q ∧ q.cell = true := by
  simp only [Term.enc, List.mem_cons, List.not_mem_nil, or_false] at hq
  rcases hq with rfl | rfl | rfl | rfl <;> exact ⟨.sc _, rfl⟩
theorem move_clean (a : Move) (q : PV) (hq : q ∈ a.enc) : Go.Pv.Clean q ∧ q.cell = true := by
  simp only [Move.enc, List.mem_cons, List.not_mem_nil, or_false] at hq
  rcases hq with rfl | rfl | rfl | rfl <;> exact ⟨.sc _, rfl⟩
theorem lot_clean (a : Lot) (q : PV) (hq : q ∈ a.enc) : Go.Pv.Clean q ∧ q.cell = true := by
  simp only [Lot.enc, List.mem_cons, List.not_mem_nil, or_false] at hq
  rcases hq with rfl | rfl | rfl | rfl | rfl <;> exact ⟨.sc _, rfl⟩
theorem same_endL {α : Type} {xs ys : List α} (hl : xs.length = ys.length) (h : xs.take xs.length = ys.take xs.length) : xs = ys := by
  rw [List.take_length] at h
  rw [h, hl, List.take_length]
theorem same_badL {α : Type} {xs ys : List α} {k : Nat} {x y : α} (hx : xs[k]? = some x) (hy : ys[k]? = some y) (hn : ¬ x = y) : ¬ xs = ys := fun h => by subst h; rw [hx] at hy; cases hy; exact hn rfl
theorem eqOk_Lot (a b : Lot) : eqOk Try.prog 6 68 (.agg a.enc) (.agg b.enc) = true := by kernel_rfl
theorem eqV_Lot (a b : Lot) : eqV Try.prog 6 68 (.agg a.enc) (.agg b.enc) = decide (a = b) := by
  have h : eqV Try.prog 6 68 (.agg a.enc) (.agg b.enc) = (decide (a.part = b.part) && ((a.count == b.count) && ((a.inn == b.inn) && ((a.day == b.day) && ((a.out == b.out) && true))))) := by kernel_rfl
  rw [h]
  cases a; cases b
  simp only [Lot.mk.injEq]
  rw [Bool.eq_iff_iff]
  simp

theorem fr28 : (inFrame Try.f28.ntmps (Try.f28.body.getD .skip) && Try.f28.results.toList.all (resScope Try.f28.ntmps)) = true := by kernel_rfl
theorem termsC (ts : List Term) (hl : ts.length ≤ 1000000) : PCalls Try.prog 28 [.lit true 4 (ts.map Term.enc)] (.lit false 4 (ts.map Term.enc)) := by
  refine PCalls.of_code Try.func28 rfl rfl (by kernel_rfl) mixed fr28 (by show _ ≤ 6; simp) (.lit _ _ _ fun row hr => pure_map Term.pure row hr) ?_
  refine pwp_seq_plain rfl fun K1 hK1 => ?_
  refine p_step rfl (e_assign (v := .nil) rfl) trivial ?_
  refine p_end (hK1 _ ?_); clear hK1 K1
  refine pwp_seq_plain rfl fun K2 hK2 => ?_
  refine p_new rfl (e_bslice (rows := []) (zs := [.str ByteArray.empty, .int 0, .int 0, .int 0]) (sz := 4) (by kernel_rfl) (by kernel_rfl) rfl (by kernel_rfl) (by decide) rfl rfl (by exact trivial) rfl) trivial ?_
  refine p_step rfl (e_move (v := .lit _ _ _) rfl) trivial ?_
  refine p_app rfl rfl rfl (.ofRef (hset_self _ _ _) rfl) src_lit (by kernel_rfl) (by simp only [List.length_append, List.length_map, List.length_nil, List.length_cons]; omega) fun v3 h4 c5 hs6 hf7 => ?_
  refine p_step rfl (e_assign (v := _) rfl) trivial ?_
  refine p_end (hK2 _ ?_); clear hK2 K2
  refine pwp_ret ?_
  refine end1 (v := _) rfl ?_
  exact out_slice (by assumption) (List.nil_append _) (fun _ => rfl) term_clean

theorem fr29 : (inFrame Try.f29.ntmps (Try.f29.body.getD .skip) && Try.f29.results.toList.all (resScope Try.f29.ntmps)) = true := by kernel_rfl
theorem movesC (ms : List Move) (hl : ms.length ≤ 1000000) : PCalls Try.prog 29 [.lit true 4 (ms.map Move.enc)] (.lit false 4 (ms.map Move.enc)) := by
  refine PCalls.of_code Try.func29 rfl rfl (by kernel_rfl) mixed fr29 (by show _ ≤ 6; simp) (.lit _ _ _ fun row hr => pure_map Move.pure row hr) ?_
  refine pwp_seq_plain rfl fun K1 hK1 => ?_
  refine p_step rfl (e_assign (v := .nil) rfl) trivial ?_
  refine p_end (hK1 _ ?_); clear hK1 K1
  refine pwp_seq_plain rfl fun K2 hK2 => ?_
  refine p_new rfl (e_bslice (rows := []) (zs := [.int 0, .int 0, .str ByteArray.empty, .int 0]) (sz := 4) (by kernel_rfl) (by kernel_rfl) rfl (by kernel_rfl) (by decide) rfl rfl (by exact trivial) rfl) trivial ?_
  refine p_step rfl (e_move (v := .lit _ _ _) rfl) trivial ?_
  refine p_app rfl rfl rfl (.ofRef (hset_self _ _ _) rfl) src_lit (by kernel_rfl) (by simp only [List.length_append, List.length_map, List.length_nil, List.length_cons]; omega) fun v3 h4 c5 hs6 hf7 => ?_
  refine p_step rfl (e_assign (v := _) rfl) trivial ?_
  refine p_end (hK2 _ ?_); clear hK2 K2
  refine pwp_ret ?_
  refine end1 (v := _) rfl ?_
  exact out_slice (by assumption) (List.nil_append _) (fun _ => rfl) move_clean

theorem fr39 : (inFrame Try.f39.ntmps (Try.f39.body.getD .skip) && Try.f39.results.toList.all (resScope Try.f39.ntmps)) = true := by kernel_rfl
theorem sameLots (xs ys : List Lot) (hl : xs.length ≤ 10000000) : PCalls Try.prog 39 [.lit true 5 (xs.map Lot.enc), .lit true 5 (ys.map Lot.enc)] (.bool (decide (xs = ys))) := by
  refine PCalls.of_code Try.func39 rfl rfl (by kernel_rfl) mixed fr39 (by show _ ≤ 26; simp) (.sc _) ?_
  refine pwp_seq_plain rfl fun K1 hK1 => ?_
  refine p_step rfl (e_assign (v := .sc _) rfl) trivial ?_
  refine p_end (hK1 _ ?_); clear hK1 K1
  refine pwp_seq_seq ?_
  refine pwp_seq_plain rfl fun K2 hK2 => ?_
  refine p_step rfl (e_move (v := .lit _ _ _) rfl) trivial ?_
  refine p_step rfl (e_len rfl (by kernel_rfl)) trivial ?_
  refine p_step rfl (e_move (v := .lit _ _ _) rfl) trivial ?_
  refine p_step rfl (e_len rfl (by kernel_rfl)) trivial ?_
  refine p_step rfl (e_ne rfl rfl) trivial ?_
  refine p_end (hK2 _ ?_); clear hK2 K2
  refine pwp_seq_cond rfl fun K3 hK3 => ⟨fun hb4 => ?_, fun hb4 => ?_⟩
  ·have hb4R := hb4; try simp only [z1, z2, z3, z4, z5, z6, ne_eq, z7, z8, z9, z10, z11, z12] at hb4
   refine pwp_seq_plain rfl fun K5 hK5 => ?_
   refine p_step rfl (e_assign (v := .sc _) rfl) trivial ?_
   refine p_end (hK5 _ ?_); clear hK5 K5
   refine pwp_ret ?_
   refine ret_seq ?_
   refine end1 (v := .sc _) rfl ?_
   first
     | exact out_b (decide_eq_false fun h => by subst h; omega).symm
     | exact out_b (decide_eq_false (same_badL hx hy (by assumption))).symm
     | exact out_b (decide_eq_true (same_endL (by omega) he)).symm
  ·have hb4R := hb4; try simp only [z1, z2, z3, z4, z5, z6, ne_eq, z7, z8, z9, z10, z11, z12] at hb4
   refine pwp_skip ?_
   refine seq_norm (hK3 _ ?_); clear hK3 K3
   refine pwp_seq_seq ?_
   refine pwp_seq_plain rfl fun K6 hK6 => ?_
   refine p_step rfl (e_assign (v := .sc _) rfl) trivial ?_
   refine p_end (hK6 _ ?_); clear hK6 K6
   refine pwp_seq_block fun K7 hK7 => ?_
   refine pwp_loopR (α := Nat) [0, 1] (fun (k : Nat) => [(5, .int (k))]) (fun (k : Nat) (h : Heap) (_ : Nat → Nat) => ((k) ≤ xs.length) ∧ (xs.take (k) = ys.take (k))) (fun (k : Nat) => xs.length - (k)) (0) (by exact ⟨rfl, trivial⟩) (by exact ⟨by exact Nat.zero_le _, by exact rfl⟩) fun k r8 h9 c10 hj11 => ?_
   obtain ⟨hk, he⟩ := hj11
   try dsimp only at hk
   try dsimp only at he
   show pwp _ _ (loopQ _ _ _) ⟨sets (mix _ _ _) [(5, .int k)], _, _⟩
   refine pwp_seq_seq ?_
   refine pwp_seq_plain rfl fun K12 hK12 => ?_
   refine p_step rfl (e_move (v := .sc _) rfl) trivial ?_
   refine p_step rfl (e_move (v := .lit _ _ _) rfl) trivial ?_
   refine p_step rfl (e_len rfl (by kernel_rfl)) trivial ?_
   refine p_step rfl (e_lt rfl rfl) trivial ?_
   refine p_end (hK12 _ ?_); clear hK12 K12
   refine pwp_seq_cond rfl fun K13 hK13 => ⟨fun hb14 => ?_, fun hb14 => ?_⟩
   ·have hb14R := hb14; try simp only [z1, z2, z3, z4, z5, z6, ne_eq, z7, z8, z9, z10, z11, z12] at hb14
    obtain ⟨x, hx, hd, ht⟩ := get_lt (xs := xs) (i := k) (by omega)
    obtain ⟨y, hy, hd2, ht2⟩ := get_lt (xs := ys) (i := k) (by omega)
    refine pwp_skip ?_
    refine seq_norm (hK13 _ ?_); clear hK13 K13
    refine pwp_seq_block fun K15 hK15 => ?_
    refine pwp_seq_gops rfl fun K16 hK16 => ?_
    refine g_begin ?_
    refine g_step rfl rfl rfl rfl (e_move (v := .lit _ _ _) rfl) trivial ?_
    refine g_step rfl rfl rfl rfl (e_move (v := .sc _) rfl) trivial ?_
    refine g_step rfl rfl rfl rfl (e_ixa rfl rfl (by kernel_rfl) (by kernel_rfl) (by simp only [List.length_map]; omega)) trivial ?_
    refine g_step rfl rfl rfl rfl (e_loadA (n := 5) rfl (by kernel_rfl) (by kernel_rfl) (by kernel_rfl) (by simp only [List.length_map]; omega) (by decide) (by first | exact agg_map hx rfl)) trivial ?_
    refine g_step rfl rfl rfl rfl (e_move (v := .lit _ _ _) rfl) trivial ?_
    refine g_step rfl rfl rfl rfl (e_move (v := .sc _) rfl) trivial ?_
    refine g_step rfl rfl rfl rfl (e_ixa rfl rfl (by kernel_rfl) (by kernel_rfl) (by simp only [List.length_map]; omega)) trivial ?_
    refine g_step rfl rfl rfl rfl (e_loadA (n := 5) rfl (by kernel_rfl) (by kernel_rfl) (by kernel_rfl) (by simp only [List.length_map]; omega) (by decide) (by first | exact agg_map hy rfl)) trivial ?_
    refine g_step rfl rfl rfl rfl (e_ane rfl rfl (by kernel_rfl) (eqOk_Lot (x) (y)) (eqV_Lot (x) (y))) trivial ?_
    refine g_end (ds := []) (by kernel_rfl) rfl (hK16 _ ?_); clear hK16 K16
    refine pwp_cond rfl (fun hb17 => ?_) (fun hb17 => ?_)
    ·have hb17R := hb17; try simp only [z1, z2, z3, z4, z5, z6, ne_eq, z7, z8, z9, z10, z11, z12] at hb17
     refine pwp_seq_plain rfl fun K18 hK18 => ?_
     refine p_step rfl (e_assign (v := .sc _) rfl) trivial ?_
     refine p_end (hK18 _ ?_); clear hK18 K18
     refine pwp_ret ?_
     refine ret_block ?_
     refine ret_seq ?_
     refine ret_loop ?_
     refine ret_block ?_
     refine ret_seq ?_
     refine end1 (v := .sc _) rfl ?_
     first
       | exact out_b (decide_eq_false fun h => by subst h; omega).symm
       | exact out_b (decide_eq_false (same_badL hx hy (by assumption))).symm
       | exact out_b (decide_eq_true (same_endL (by omega) he)).symm
    ·have hb17R := hb17; try simp only [z1, z2, z3, z4, z5, z6, ne_eq, z7, z8, z9, z10, z11, z12] at hb17
     refine pwp_skip ?_
     refine block_norm ?_
     refine seq_norm (hK15 _ ?_); clear hK15 K15
     refine pwp_plain rfl fun K19 hK19 => ?_
     refine p_step rfl (e_move (v := .sc _) rfl) trivial ?_
     refine p_step rfl (e_add rfl rfl (by omega)) trivial ?_
     refine p_step rfl (e_assign (v := .sc _) rfl) trivial ?_
     refine p_end (hK19 _ ?_); clear hK19 K19
     exact loop_again (k + 1) (by show _ < _; omega) ⟨rfl, rfl, trivial⟩ ⟨rfl, trivial⟩ (by exact ⟨by show _ + 1 ≤ _; omega, by rw [ht, ht2, he]; congr 2⟩)
   ·have hb14R := hb14; try simp only [z1, z2, z3, z4, z5, z6, ne_eq, z7, z8, z9, z10, z11, z12] at hb14
    obtain rfl : k = xs.length := by omega
    refine pwp_exit ?_
    refine exit_seq ?_
    clear hK13 K13
    refine exit_loop ?_
    refine exit_here ?_
    refine seq_norm (hK7 _ ?_); clear hK7 K7
    refine pwp_seq_plain rfl fun K20 hK20 => ?_
    refine p_step rfl (e_assign (v := .sc _) rfl) trivial ?_
    refine p_end (hK20 _ ?_); clear hK20 K20
    refine pwp_ret ?_
    refine end1 (v := .sc _) rfl ?_
    first
      | exact out_b (decide_eq_false fun h => by subst h; omega).symm
      | exact out_b (decide_eq_false (same_badL hx hy (by assumption))).symm
      | exact out_b (decide_eq_true (same_endL (by omega) he)).symm

end Go.Proofs.Ytdbpfhbppcpbbaa
