import Derived.Test.YtdbpfhbppcpbbaaTerms
import Derived.Test.YtdbpfhbppcpbbaaDataL
import Derived.Test.YtdbpfhbppcpbbaaPvZ7
/- Few terms and moves; copies; lists of lots compared. No conditions. -/
set_option linter.unusedSimpArgs false
set_option linter.unusedVariables false
set_option maxRecDepth 100000
namespace Go.Proofs.Ytdbpfhbppcpbbaa
open Go Go.Pv
/-! ### Few terms and moves -/
def hireB (ts : List Term) (ms : List Move) : Bool :=
  decide ((ts.length ≤ 8 ∨ (60 < ts.length ∧ ts.length ≤ 65)) ∧ (ms.length ≤ 40 ∨ (300 < ms.length ∧ ms.length ≤ 305))) && (decide (∀ t ∈ ts, t.part.size ≤ 30) && decide (∀ m ∈ ms, m.part.size ≤ 30))
theorem hire_big {ts : List Term} {ms : List Move} (h : ¬ ((ts.length ≤ 8 ∨ (60 < ts.length ∧ ts.length ≤ 65)) ∧ (ms.length ≤ 40 ∨ (300 < ms.length ∧ ms.length ≤ 305)))) : false = hireB ts ms := by
  unfold hireB; rw [decide_eq_false h]; rfl
theorem hire_t {ts : List Term} {ms : List Move} {k : Nat} {x : Term} (hx : ts[k]? = some x) (h : 30 < (x.part.size : Int)) : false = hireB ts ms := by
  have h1 : ¬ ∀ t ∈ ts, t.part.size ≤ 30 := fun hc => by have := hc x (List.mem_of_getElem? hx); omega
  unfold hireB; rw [decide_eq_false h1]; simp
theorem hire_m {ts : List Term} {ms : List Move} {k : Nat} {x : Move} (hx : ms[k]? = some x) (h : 30 < (x.part.size : Int)) : false = hireB ts ms := by
  have h1 : ¬ ∀ m ∈ ms, m.part.size ≤ 30 := fun hc => by have := hc x (List.mem_of_getElem? hx); omega
  unfold hireB; rw [decide_eq_false h1]; simp
theorem hire_ok {ts : List Term} {ms : List Move} (h : ((ts.length ≤ 8 ∨ (60 < ts.length ∧ ts.length ≤ 65)) ∧ (ms.length ≤ 40 ∨ (300 < ms.length ∧ ms.length ≤ 305)))) (h1 : ∀ t ∈ ts, t.part.size ≤ 30) (h2 : ∀ m ∈ ms, m.part.size ≤ 30) : true = hireB ts ms := by
  unfold hireB; rw [decide_eq_true h, decide_eq_true h1, decide_eq_true h2]; rfl
theorem hire_len {ts : List Term} {ms : List Move} (h : hireB ts ms = true) : ts.length ≤ 65 ∧ ms.length ≤ 305 := by
  unfold hireB at h
  rw [Bool.and_eq_true, decide_eq_true_eq] at h
  omega
theorem take_t {α : Type} {f : α → Nat} {xs : List α} {k : Nat} {x : α} (h : ∀ y ∈ xs.take k, f y ≤ 30) (hx : xs[k]? = some x) (hl : (f x : Int) ≤ 30) : ∀ y ∈ xs.take (k + 1), f y ≤ 30 := by
  intro y hy
  rw [List.take_add_one, hx] at hy
  rcases List.mem_append.1 hy with hy | hy
  · exact h y hy
  · simp at hy; rw [hy]; omega

theorem fr26 : (inFrame Try.f26.ntmps (Try.f26.body.getD .skip) && Try.f26.results.toList.all (resScope Try.f26.ntmps)) = true := by kernel_rfl
theorem hire (ts : List Term) (ms : List Move) (hl : ts.length ≤ 9223372036854775807) (hm : ms.length ≤ 9223372036854775807) : PCalls Try.prog 26 [.lit true 4 (ts.map Term.enc), .lit true 4 (ms.map Move.enc)] (.bool (hireB ts ms)) := by
  refine PCalls.of_code Try.func26 rfl rfl (by kernel_rfl) mixed fr26 (by show _ ≤ 61; simp) (.sc _) ?_
  refine pwp_seq_plain rfl fun K1 hK1 => ?_
  refine p_step rfl (e_assign (v := .sc _) rfl) trivial ?_
  refine p_end (hK1 _ ?_); clear hK1 K1
  refine pwp_seq_seq ?_
  refine pwp_seq_gops rfl fun K2 hK2 => ?_
  refine g_begin ?_
  refine g_step rfl rfl rfl rfl (e_move (v := .lit _ _ _) rfl) trivial ?_
  refine g_step rfl rfl rfl rfl (e_len rfl (by kernel_rfl)) trivial ?_
  refine g_step rfl rfl rfl rfl (e_gt rfl rfl) trivial ?_
  refine g_step rfl rfl rfl rfl (e_move (v := .sc _) rfl) trivial ?_
  refine g_cases (fun hb3 => ?_) (fun hb3 => ?_)
  ·have hb3R := hb3; try simp only [z1, z2, z3, z4, z5, z6, ne_eq, z7, z8, z9, z10, z11, z12] at hb3
   refine g_step rfl rfl rfl rfl (e_move (v := .lit _ _ _) rfl) trivial ?_
   refine g_step rfl rfl rfl rfl (e_len rfl (by kernel_rfl)) trivial ?_
   refine g_step rfl rfl rfl rfl (e_le rfl rfl) trivial ?_
   refine g_step rfl rfl rfl rfl (e_pickT (v := .sc _) rfl rfl) trivial ?_
   refine g_step rfl rfl rfl rfl (e_move (v := .sc _) rfl) trivial ?_
   refine g_cases (fun hb4 => ?_) (fun hb4 => ?_)
   ·have hb4R := hb4; try simp only [z1, z2, z3, z4, z5, z6, ne_eq, z7, z8, z9, z10, z11, z12] at hb4
    refine g_skip rfl rfl rfl ?_
    refine g_skip rfl rfl rfl ?_
    refine g_skip rfl rfl rfl ?_
    refine g_step rfl rfl rfl rfl (e_pickT (v := .sc _) rfl rfl) trivial ?_
    refine g_step rfl rfl rfl rfl (e_move (v := .sc _) rfl) trivial ?_
    refine g_skip rfl rfl rfl ?_
    refine g_skip rfl rfl rfl ?_
    refine g_skip rfl rfl rfl ?_
    refine g_skip rfl rfl rfl ?_
    refine g_skip rfl rfl rfl ?_
    refine g_skip rfl rfl rfl ?_
    refine g_skip rfl rfl rfl ?_
    refine g_skip rfl rfl rfl ?_
    refine g_step rfl rfl rfl rfl (e_pickT (v := .sc _) rfl rfl) trivial ?_
    refine g_step rfl rfl rfl rfl (e_move (v := .sc _) rfl) trivial ?_
    refine g_skip rfl rfl rfl ?_
    refine g_skip rfl rfl rfl ?_
    refine g_skip rfl rfl rfl ?_
    refine g_step rfl rfl rfl rfl (e_pickT (v := .sc _) rfl rfl) trivial ?_
    refine g_end (ds := [11, 12, 13, 16, 17, 18, 21, 22, 23, 24, 25, 26, 27, 28, 31, 32, 33]) rfl rfl (hK2 _ ?_); clear hK2 K2
    refine pwp_seq_cond (t := true) rfl fun K5 hK5 => ⟨fun _ => ?_, nofun⟩
    refine pwp_seq_plain rfl fun K6 hK6 => ?_
    refine p_step rfl (e_assign (v := .sc _) rfl) trivial ?_
    refine p_end (hK6 _ ?_); clear hK6 K6
    refine pwp_ret ?_
    refine ret_seq ?_
    refine end1 (v := .sc _) rfl ?_
    first
      | exact out_b (hire_ok (by omega) hst hsm)
      | exact out_b (hire_big (by omega))
      | exact out_b (hire_t hx (by assumption))
      | exact out_b (hire_m hx (by assumption))
      | exact out_b (hire_t hx (by omega))
      | exact out_b (hire_m hx (by omega))
   ·have hb4R := hb4; try simp only [z1, z2, z3, z4, z5, z6, ne_eq, z7, z8, z9, z10, z11, z12] at hb4
    refine g_step rfl rfl rfl rfl (e_move (v := .lit _ _ _) rfl) trivial ?_
    refine g_step rfl rfl rfl rfl (e_len rfl (by kernel_rfl)) trivial ?_
    refine g_step rfl rfl rfl rfl (e_gt rfl rfl) trivial ?_
    refine g_step rfl rfl rfl rfl (e_pickF (v := .sc _) rfl rfl) trivial ?_
    refine g_step rfl rfl rfl rfl (e_move (v := .sc _) rfl) trivial ?_
    refine g_cases (fun hb7 => ?_) (fun hb7 => ?_)
    ·have hb7R := hb7; try simp only [z1, z2, z3, z4, z5, z6, ne_eq, z7, z8, z9, z10, z11, z12] at hb7
     refine g_skip rfl rfl rfl ?_
     refine g_skip rfl rfl rfl ?_
     refine g_skip rfl rfl rfl ?_
     refine g_skip rfl rfl rfl ?_
     refine g_skip rfl rfl rfl ?_
     refine g_skip rfl rfl rfl ?_
     refine g_skip rfl rfl rfl ?_
     refine g_skip rfl rfl rfl ?_
     refine g_step rfl rfl rfl rfl (e_pickT (v := .sc _) rfl rfl) trivial ?_
     refine g_step rfl rfl rfl rfl (e_move (v := .sc _) rfl) trivial ?_
     refine g_skip rfl rfl rfl ?_
     refine g_skip rfl rfl rfl ?_
     refine g_skip rfl rfl rfl ?_
     refine g_step rfl rfl rfl rfl (e_pickT (v := .sc _) rfl rfl) trivial ?_
     refine g_end (ds := [11, 12, 13, 16, 17, 18, 21, 22, 23, 24, 25, 26, 27, 28, 31, 32, 33]) rfl rfl (hK2 _ ?_); clear hK2 K2
     refine pwp_seq_cond (t := true) rfl fun K8 hK8 => ⟨fun _ => ?_, nofun⟩
     refine pwp_seq_plain rfl fun K9 hK9 => ?_
     refine p_step rfl (e_assign (v := .sc _) rfl) trivial ?_
     refine p_end (hK9 _ ?_); clear hK9 K9
     refine pwp_ret ?_
     refine ret_seq ?_
     refine end1 (v := .sc _) rfl ?_
     first
       | exact out_b (hire_ok (by omega) hst hsm)
       | exact out_b (hire_big (by omega))
       | exact out_b (hire_t hx (by assumption))
       | exact out_b (hire_m hx (by assumption))
       | exact out_b (hire_t hx (by omega))
       | exact out_b (hire_m hx (by omega))
    ·have hb7R := hb7; try simp only [z1, z2, z3, z4, z5, z6, ne_eq, z7, z8, z9, z10, z11, z12] at hb7
     refine g_step rfl rfl rfl rfl (e_move (v := .lit _ _ _) rfl) trivial ?_
     refine g_step rfl rfl rfl rfl (e_len rfl (by kernel_rfl)) trivial ?_
     refine g_step rfl rfl rfl rfl (e_gt rfl rfl) trivial ?_
     refine g_step rfl rfl rfl rfl (e_move (v := .sc _) rfl) trivial ?_
     refine g_cases (fun hb10 => ?_) (fun hb10 => ?_)
     ·have hb10R := hb10; try simp only [z1, z2, z3, z4, z5, z6, ne_eq, z7, z8, z9, z10, z11, z12] at hb10
      refine g_step rfl rfl rfl rfl (e_move (v := .lit _ _ _) rfl) trivial ?_
      refine g_step rfl rfl rfl rfl (e_len rfl (by kernel_rfl)) trivial ?_
      refine g_step rfl rfl rfl rfl (e_le rfl rfl) trivial ?_
      refine g_step rfl rfl rfl rfl (e_pickT (v := .sc _) rfl rfl) trivial ?_
      refine g_step rfl rfl rfl rfl (e_pickF (v := .sc _) rfl rfl) trivial ?_
      refine g_step rfl rfl rfl rfl (e_move (v := .sc _) rfl) trivial ?_
      refine g_cases (fun hb11 => ?_) (fun hb11 => ?_)
      ·have hb11R := hb11; try simp only [z1, z2, z3, z4, z5, z6, ne_eq, z7, z8, z9, z10, z11, z12] at hb11
       refine g_skip rfl rfl rfl ?_
       refine g_skip rfl rfl rfl ?_
       refine g_skip rfl rfl rfl ?_
       refine g_step rfl rfl rfl rfl (e_pickT (v := .sc _) rfl rfl) trivial ?_
       refine g_end (ds := [11, 12, 13, 16, 17, 18, 21, 22, 23, 24, 25, 26, 27, 28, 31, 32, 33]) rfl rfl (hK2 _ ?_); clear hK2 K2
       refine pwp_seq_cond (t := true) rfl fun K12 hK12 => ⟨fun _ => ?_, nofun⟩
       refine pwp_seq_plain rfl fun K13 hK13 => ?_
       refine p_step rfl (e_assign (v := .sc _) rfl) trivial ?_
       refine p_end (hK13 _ ?_); clear hK13 K13
       refine pwp_ret ?_
       refine ret_seq ?_
       refine end1 (v := .sc _) rfl ?_
       first
         | exact out_b (hire_ok (by omega) hst hsm)
         | exact out_b (hire_big (by omega))
         | exact out_b (hire_t hx (by assumption))
         | exact out_b (hire_m hx (by assumption))
         | exact out_b (hire_t hx (by omega))
         | exact out_b (hire_m hx (by omega))
      ·have hb11R := hb11; try simp only [z1, z2, z3, z4, z5, z6, ne_eq, z7, z8, z9, z10, z11, z12] at hb11
       refine g_step rfl rfl rfl rfl (e_move (v := .lit _ _ _) rfl) trivial ?_
       refine g_step rfl rfl rfl rfl (e_len rfl (by kernel_rfl)) trivial ?_
       refine g_step rfl rfl rfl rfl (e_gt rfl rfl) trivial ?_
       refine g_step rfl rfl rfl rfl (e_pickF (v := .sc _) rfl rfl) trivial ?_
       refine g_end (ds := [11, 12, 13, 16, 17, 18, 21, 22, 23, 24, 25, 26, 27, 28, 31, 32, 33]) rfl rfl (hK2 _ ?_); clear hK2 K2
       refine pwp_seq_cond rfl fun K14 hK14 => ⟨fun hb15 => ?_, fun hb15 => ?_⟩
       ·have hb15R := hb15; try simp only [z1, z2, z3, z4, z5, z6, ne_eq, z7, z8, z9, z10, z11, z12] at hb15
        refine pwp_seq_plain rfl fun K16 hK16 => ?_
        refine p_step rfl (e_assign (v := .sc _) rfl) trivial ?_
        refine p_end (hK16 _ ?_); clear hK16 K16
        refine pwp_ret ?_
        refine ret_seq ?_
        refine end1 (v := .sc _) rfl ?_
        first
          | exact out_b (hire_ok (by omega) hst hsm)
          | exact out_b (hire_big (by omega))
          | exact out_b (hire_t hx (by assumption))
          | exact out_b (hire_m hx (by assumption))
          | exact out_b (hire_t hx (by omega))
          | exact out_b (hire_m hx (by omega))
       ·have hb15R := hb15; try simp only [z1, z2, z3, z4, z5, z6, ne_eq, z7, z8, z9, z10, z11, z12] at hb15
        refine pwp_skip ?_
        refine seq_norm (hK14 _ ?_); clear hK14 K14
        refine pwp_seq_seq ?_
        refine pwp_seq_plain rfl fun K17 hK17 => ?_
        refine p_step rfl (e_assign (v := .sc _) rfl) trivial ?_
        refine p_end (hK17 _ ?_); clear hK17 K17
        refine pwp_seq_block fun K18 hK18 => ?_
        refine pwp_loopR (α := Nat) [0, 1] (fun (k : Nat) => [(5, .int (k))]) (fun (k : Nat) (h : Heap) (_ : Nat → Nat) => ((k) ≤ ts.length) ∧ (∀ y ∈ ts.take (k), y.part.size ≤ 30)) (fun (k : Nat) => ts.length - (k)) (0) (by exact ⟨rfl, trivial⟩) (by exact ⟨by exact Nat.zero_le _, by (intro y hy; simp at hy)⟩) fun k r19 h20 c21 hj22 => ?_
        obtain ⟨hk, hs⟩ := hj22
        try dsimp only at hk
        try dsimp only at hs
        show pwp _ _ (loopQ _ _ _) ⟨sets (mix _ _ _) [(5, .int k)], _, _⟩
        refine pwp_seq_seq ?_
        refine pwp_seq_plain rfl fun K23 hK23 => ?_
        refine p_step rfl (e_move (v := .sc _) rfl) trivial ?_
        refine p_step rfl (e_move (v := .lit _ _ _) rfl) trivial ?_
        refine p_step rfl (e_len rfl (by kernel_rfl)) trivial ?_
        refine p_step rfl (e_lt rfl rfl) trivial ?_
        refine p_end (hK23 _ ?_); clear hK23 K23
        refine pwp_seq_cond rfl fun K24 hK24 => ⟨fun hb25 => ?_, fun hb25 => ?_⟩
        ·have hb25R := hb25; try simp only [z1, z2, z3, z4, z5, z6, ne_eq, z7, z8, z9, z10, z11, z12] at hb25
         obtain ⟨x, hx, hd, ht⟩ := get_lt (xs := ts) (i := k) (by omega)
         refine pwp_skip ?_
         refine seq_norm (hK24 _ ?_); clear hK24 K24
         refine pwp_seq_block fun K26 hK26 => ?_
         refine pwp_seq_plain rfl fun K27 hK27 => ?_
         refine p_step rfl (e_move (v := .lit _ _ _) rfl) trivial ?_
         refine p_step rfl (e_move (v := .sc _) rfl) trivial ?_
         refine p_step rfl (e_ixa rfl rfl (by kernel_rfl) (by kernel_rfl) (by simp only [List.length_map]; omega)) trivial ?_
         refine p_step rfl (e_fa (pl := [(0, 1, false), (1, 1, false), (2, 1, false), (3, 1, false)]) rfl (by kernel_rfl) (by kernel_rfl) (by decide) rfl) trivial ?_
         refine p_step rfl (e_load (v := .sc _) rfl (by kernel_rfl) (by kernel_rfl) (by kernel_rfl) (by simp only [List.length_map]; omega) (by decide) ((cell_map hx _).trans rfl)) trivial ?_
         refine p_step rfl (e_lenS rfl (by kernel_rfl)) trivial ?_
         refine p_step rfl (e_gt rfl rfl) trivial ?_
         refine p_end (hK27 _ ?_); clear hK27 K27
         refine pwp_cond rfl (fun hb28 => ?_) (fun hb28 => ?_)
         ·have hb28R := hb28; try simp only [z1, z2, z3, z4, z5, z6, ne_eq, z7, z8, z9, z10, z11, z12] at hb28
          refine pwp_seq_plain rfl fun K29 hK29 => ?_
          refine p_step rfl (e_assign (v := .sc _) rfl) trivial ?_
          refine p_end (hK29 _ ?_); clear hK29 K29
          refine pwp_ret ?_
          refine ret_block ?_
          refine ret_seq ?_
          refine ret_loop ?_
          refine ret_block ?_
          refine ret_seq ?_
          refine end1 (v := .sc _) rfl ?_
          first
            | exact out_b (hire_ok (by omega) hst hsm)
            | exact out_b (hire_big (by omega))
            | exact out_b (hire_t hx (by assumption))
            | exact out_b (hire_m hx (by assumption))
            | exact out_b (hire_t hx (by omega))
            | exact out_b (hire_m hx (by omega))
         ·have hb28R := hb28; try simp only [z1, z2, z3, z4, z5, z6, ne_eq, z7, z8, z9, z10, z11, z12] at hb28
          refine pwp_skip ?_
          refine block_norm ?_
          refine seq_norm (hK26 _ ?_); clear hK26 K26
          refine pwp_plain rfl fun K30 hK30 => ?_
          refine p_step rfl (e_move (v := .sc _) rfl) trivial ?_
          refine p_step rfl (e_add rfl rfl (by omega)) trivial ?_
          refine p_step rfl (e_assign (v := .sc _) rfl) trivial ?_
          refine p_end (hK30 _ ?_); clear hK30 K30
          exact loop_again (k + 1) (by show _ < _; omega) ⟨rfl, rfl, trivial⟩ ⟨rfl, trivial⟩ (by exact ⟨by show _ + 1 ≤ _; omega, by exact take_t (f := fun y => y.part.size) hs hx (by omega)⟩)
        ·have hb25R := hb25; try simp only [z1, z2, z3, z4, z5, z6, ne_eq, z7, z8, z9, z10, z11, z12] at hb25
         obtain rfl : k = ts.length := by omega
         rw [List.take_length] at hs
         have hst := hs
         refine pwp_exit ?_
         refine exit_seq ?_
         clear hK24 K24
         refine exit_loop ?_
         refine exit_here ?_
         refine seq_norm (hK18 _ ?_); clear hK18 K18
         refine pwp_seq_seq ?_
         refine pwp_seq_plain rfl fun K31 hK31 => ?_
         refine p_step rfl (e_assign (v := .sc _) rfl) trivial ?_
         refine p_end (hK31 _ ?_); clear hK31 K31
         refine pwp_seq_block fun K32 hK32 => ?_
         refine pwp_loopR (α := Nat) [1] (fun (k : Nat) => [(6, .int (k))]) (fun (k : Nat) (h : Heap) (_ : Nat → Nat) => ((k) ≤ ms.length) ∧ (∀ y ∈ ms.take (k), y.part.size ≤ 30)) (fun (k : Nat) => ms.length - (k)) (0) (by exact ⟨rfl, trivial⟩) (by exact ⟨by exact Nat.zero_le _, by (intro y hy; simp at hy)⟩) fun k r33 h34 c35 hj36 => ?_
         obtain ⟨hk, hs⟩ := hj36
         try dsimp only at hk
         try dsimp only at hs
         show pwp _ _ (loopQ _ _ _) ⟨sets (mix _ _ _) [(6, .int k)], _, _⟩
         refine pwp_seq_seq ?_
         refine pwp_seq_plain rfl fun K37 hK37 => ?_
         refine p_step rfl (e_move (v := .sc _) rfl) trivial ?_
         refine p_step rfl (e_move (v := .lit _ _ _) rfl) trivial ?_
         refine p_step rfl (e_len rfl (by kernel_rfl)) trivial ?_
         refine p_step rfl (e_lt rfl rfl) trivial ?_
         refine p_end (hK37 _ ?_); clear hK37 K37
         refine pwp_seq_cond rfl fun K38 hK38 => ⟨fun hb39 => ?_, fun hb39 => ?_⟩
         ·have hb39R := hb39; try simp only [z1, z2, z3, z4, z5, z6, ne_eq, z7, z8, z9, z10, z11, z12] at hb39
          obtain ⟨x, hx, hd, ht⟩ := get_lt (xs := ms) (i := k) (by omega)
          refine pwp_skip ?_
          refine seq_norm (hK38 _ ?_); clear hK38 K38
          refine pwp_seq_block fun K40 hK40 => ?_
          refine pwp_seq_plain rfl fun K41 hK41 => ?_
          refine p_step rfl (e_move (v := .lit _ _ _) rfl) trivial ?_
          refine p_step rfl (e_move (v := .sc _) rfl) trivial ?_
          refine p_step rfl (e_ixa rfl rfl (by kernel_rfl) (by kernel_rfl) (by simp only [List.length_map]; omega)) trivial ?_
          refine p_step rfl (e_fa (pl := [(0, 1, false), (1, 1, false), (2, 1, false), (3, 1, false)]) rfl (by kernel_rfl) (by kernel_rfl) (by decide) rfl) trivial ?_
          refine p_step rfl (e_load (v := .sc _) rfl (by kernel_rfl) (by kernel_rfl) (by kernel_rfl) (by simp only [List.length_map]; omega) (by decide) ((cell_map hx _).trans rfl)) trivial ?_
          refine p_step rfl (e_lenS rfl (by kernel_rfl)) trivial ?_
          refine p_step rfl (e_gt rfl rfl) trivial ?_
          refine p_end (hK41 _ ?_); clear hK41 K41
          refine pwp_cond rfl (fun hb42 => ?_) (fun hb42 => ?_)
          ·have hb42R := hb42; try simp only [z1, z2, z3, z4, z5, z6, ne_eq, z7, z8, z9, z10, z11, z12] at hb42
           refine pwp_seq_plain rfl fun K43 hK43 => ?_
           refine p_step rfl (e_assign (v := .sc _) rfl) trivial ?_
           refine p_end (hK43 _ ?_); clear hK43 K43
           refine pwp_ret ?_
           refine ret_block ?_
           refine ret_seq ?_
           refine ret_loop ?_
           refine ret_block ?_
           refine ret_seq ?_
           refine end1 (v := .sc _) rfl ?_
           first
             | exact out_b (hire_ok (by omega) hst hsm)
             | exact out_b (hire_big (by omega))
             | exact out_b (hire_t hx (by assumption))
             | exact out_b (hire_m hx (by assumption))
             | exact out_b (hire_t hx (by omega))
             | exact out_b (hire_m hx (by omega))
          ·have hb42R := hb42; try simp only [z1, z2, z3, z4, z5, z6, ne_eq, z7, z8, z9, z10, z11, z12] at hb42
           refine pwp_skip ?_
           refine block_norm ?_
           refine seq_norm (hK40 _ ?_); clear hK40 K40
           refine pwp_plain rfl fun K44 hK44 => ?_
           refine p_step rfl (e_move (v := .sc _) rfl) trivial ?_
           refine p_step rfl (e_add rfl rfl (by omega)) trivial ?_
           refine p_step rfl (e_assign (v := .sc _) rfl) trivial ?_
           refine p_end (hK44 _ ?_); clear hK44 K44
           exact loop_again (k + 1) (by show _ < _; omega) ⟨rfl, trivial⟩ ⟨rfl, trivial⟩ (by exact ⟨by show _ + 1 ≤ _; omega, by exact take_t (f := fun y => y.part.size) hs hx (by omega)⟩)
         ·have hb39R := hb39; try simp only [z1, z2, z3, z4, z5, z6, ne_eq, z7, z8, z9, z10, z11, z12] at hb39
          obtain rfl : k = ms.length := by omega
          rw [List.take_length] at hs
          have hsm := hs
          refine pwp_exit ?_
          refine exit_seq ?_
          clear hK38 K38
          refine exit_loop ?_
          refine exit_here ?_
          refine seq_norm (hK32 _ ?_); clear hK32 K32
          refine pwp_seq_plain rfl fun K45 hK45 => ?_
          refine p_step rfl (e_assign (v := .sc _) rfl) trivial ?_
          refine p_end (hK45 _ ?_); clear hK45 K45
          refine pwp_ret ?_
          refine end1 (v := .sc _) rfl ?_
          first
            | exact out_b (hire_ok (by omega) hst hsm)
            | exact out_b (hire_big (by omega))
            | exact out_b (hire_t hx (by assumption))
            | exact out_b (hire_m hx (by assumption))
            | exact out_b (hire_t hx (by omega))
            | exact out_b (hire_m hx (by omega))
     ·have hb10R := hb10; try simp only [z1, z2, z3, z4, z5, z6, ne_eq, z7, z8, z9, z10, z11, z12] at hb10
      refine g_skip rfl rfl rfl ?_
      refine g_skip rfl rfl rfl ?_
      refine g_skip rfl rfl rfl ?_
      refine g_step rfl rfl rfl rfl (e_pickF (v := .sc _) rfl rfl) trivial ?_
      refine g_step rfl rfl rfl rfl (e_pickF (v := .sc _) rfl rfl) trivial ?_
      refine g_step rfl rfl rfl rfl (e_move (v := .sc _) rfl) trivial ?_
      refine g_step rfl rfl rfl rfl (e_move (v := .lit _ _ _) rfl) trivial ?_
      refine g_step rfl rfl rfl rfl (e_len rfl (by kernel_rfl)) trivial ?_
      refine g_step rfl rfl rfl rfl (e_gt rfl rfl) trivial ?_
      refine g_step rfl rfl rfl rfl (e_pickF (v := .sc _) rfl rfl) trivial ?_
      refine g_end (ds := [11, 12, 13, 16, 17, 18, 21, 22, 23, 24, 25, 26, 27, 28, 31, 32, 33]) rfl rfl (hK2 _ ?_); clear hK2 K2
      refine pwp_seq_cond rfl fun K46 hK46 => ⟨fun hb47 => ?_, fun hb47 => ?_⟩
      ·have hb47R := hb47; try simp only [z1, z2, z3, z4, z5, z6, ne_eq, z7, z8, z9, z10, z11, z12] at hb47
       refine pwp_seq_plain rfl fun K48 hK48 => ?_
       refine p_step rfl (e_assign (v := .sc _) rfl) trivial ?_
       refine p_end (hK48 _ ?_); clear hK48 K48
       refine pwp_ret ?_
       refine ret_seq ?_
       refine end1 (v := .sc _) rfl ?_
       first
         | exact out_b (hire_ok (by omega) hst hsm)
         | exact out_b (hire_big (by omega))
         | exact out_b (hire_t hx (by assumption))
         | exact out_b (hire_m hx (by assumption))
         | exact out_b (hire_t hx (by omega))
         | exact out_b (hire_m hx (by omega))
      ·have hb47R := hb47; try simp only [z1, z2, z3, z4, z5, z6, ne_eq, z7, z8, z9, z10, z11, z12] at hb47
       refine pwp_skip ?_
       refine seq_norm (hK46 _ ?_); clear hK46 K46
       refine pwp_seq_seq ?_
       refine pwp_seq_plain rfl fun K49 hK49 => ?_
       refine p_step rfl (e_assign (v := .sc _) rfl) trivial ?_
       refine p_end (hK49 _ ?_); clear hK49 K49
       refine pwp_seq_block fun K50 hK50 => ?_
       refine pwp_loopR (α := Nat) [0, 1] (fun (k : Nat) => [(5, .int (k))]) (fun (k : Nat) (h : Heap) (_ : Nat → Nat) => ((k) ≤ ts.length) ∧ (∀ y ∈ ts.take (k), y.part.size ≤ 30)) (fun (k : Nat) => ts.length - (k)) (0) (by exact ⟨rfl, trivial⟩) (by exact ⟨by exact Nat.zero_le _, by (intro y hy; simp at hy)⟩) fun k r51 h52 c53 hj54 => ?_
       obtain ⟨hk, hs⟩ := hj54
       try dsimp only at hk
       try dsimp only at hs
       show pwp _ _ (loopQ _ _ _) ⟨sets (mix _ _ _) [(5, .int k)], _, _⟩
       refine pwp_seq_seq ?_
       refine pwp_seq_plain rfl fun K55 hK55 => ?_
       refine p_step rfl (e_move (v := .sc _) rfl) trivial ?_
       refine p_step rfl (e_move (v := .lit _ _ _) rfl) trivial ?_
       refine p_step rfl (e_len rfl (by kernel_rfl)) trivial ?_
       refine p_step rfl (e_lt rfl rfl) trivial ?_
       refine p_end (hK55 _ ?_); clear hK55 K55
       refine pwp_seq_cond rfl fun K56 hK56 => ⟨fun hb57 => ?_, fun hb57 => ?_⟩
       ·have hb57R := hb57; try simp only [z1, z2, z3, z4, z5, z6, ne_eq, z7, z8, z9, z10, z11, z12] at hb57
        obtain ⟨x, hx, hd, ht⟩ := get_lt (xs := ts) (i := k) (by omega)
        refine pwp_skip ?_
        refine seq_norm (hK56 _ ?_); clear hK56 K56
        refine pwp_seq_block fun K58 hK58 => ?_
        refine pwp_seq_plain rfl fun K59 hK59 => ?_
        refine p_step rfl (e_move (v := .lit _ _ _) rfl) trivial ?_
        refine p_step rfl (e_move (v := .sc _) rfl) trivial ?_
        refine p_step rfl (e_ixa rfl rfl (by kernel_rfl) (by kernel_rfl) (by simp only [List.length_map]; omega)) trivial ?_
        refine p_step rfl (e_fa (pl := [(0, 1, false), (1, 1, false), (2, 1, false), (3, 1, false)]) rfl (by kernel_rfl) (by kernel_rfl) (by decide) rfl) trivial ?_
        refine p_step rfl (e_load (v := .sc _) rfl (by kernel_rfl) (by kernel_rfl) (by kernel_rfl) (by simp only [List.length_map]; omega) (by decide) ((cell_map hx _).trans rfl)) trivial ?_
        refine p_step rfl (e_lenS rfl (by kernel_rfl)) trivial ?_
        refine p_step rfl (e_gt rfl rfl) trivial ?_
        refine p_end (hK59 _ ?_); clear hK59 K59
        refine pwp_cond rfl (fun hb60 => ?_) (fun hb60 => ?_)
        ·have hb60R := hb60; try simp only [z1, z2, z3, z4, z5, z6, ne_eq, z7, z8, z9, z10, z11, z12] at hb60
         refine pwp_seq_plain rfl fun K61 hK61 => ?_
         refine p_step rfl (e_assign (v := .sc _) rfl) trivial ?_
         refine p_end (hK61 _ ?_); clear hK61 K61
         refine pwp_ret ?_
         refine ret_block ?_
         refine ret_seq ?_
         refine ret_loop ?_
         refine ret_block ?_
         refine ret_seq ?_
         refine end1 (v := .sc _) rfl ?_
         first
           | exact out_b (hire_ok (by omega) hst hsm)
           | exact out_b (hire_big (by omega))
           | exact out_b (hire_t hx (by assumption))
           | exact out_b (hire_m hx (by assumption))
           | exact out_b (hire_t hx (by omega))
           | exact out_b (hire_m hx (by omega))
        ·have hb60R := hb60; try simp only [z1, z2, z3, z4, z5, z6, ne_eq, z7, z8, z9, z10, z11, z12] at hb60
         refine pwp_skip ?_
         refine block_norm ?_
         refine seq_norm (hK58 _ ?_); clear hK58 K58
         refine pwp_plain rfl fun K62 hK62 => ?_
         refine p_step rfl (e_move (v := .sc _) rfl) trivial ?_
         refine p_step rfl (e_add rfl rfl (by omega)) trivial ?_
         refine p_step rfl (e_assign (v := .sc _) rfl) trivial ?_
         refine p_end (hK62 _ ?_); clear hK62 K62
         exact loop_again (k + 1) (by show _ < _; omega) ⟨rfl, rfl, trivial⟩ ⟨rfl, trivial⟩ (by exact ⟨by show _ + 1 ≤ _; omega, by exact take_t (f := fun y => y.part.size) hs hx (by omega)⟩)
       ·have hb57R := hb57; try simp only [z1, z2, z3, z4, z5, z6, ne_eq, z7, z8, z9, z10, z11, z12] at hb57
        obtain rfl : k = ts.length := by omega
        rw [List.take_length] at hs
        have hst := hs
        refine pwp_exit ?_
        refine exit_seq ?_
        clear hK56 K56
        refine exit_loop ?_
        refine exit_here ?_
        refine seq_norm (hK50 _ ?_); clear hK50 K50
        refine pwp_seq_seq ?_
        refine pwp_seq_plain rfl fun K63 hK63 => ?_
        refine p_step rfl (e_assign (v := .sc _) rfl) trivial ?_
        refine p_end (hK63 _ ?_); clear hK63 K63
        refine pwp_seq_block fun K64 hK64 => ?_
        refine pwp_loopR (α := Nat) [1] (fun (k : Nat) => [(6, .int (k))]) (fun (k : Nat) (h : Heap) (_ : Nat → Nat) => ((k) ≤ ms.length) ∧ (∀ y ∈ ms.take (k), y.part.size ≤ 30)) (fun (k : Nat) => ms.length - (k)) (0) (by exact ⟨rfl, trivial⟩) (by exact ⟨by exact Nat.zero_le _, by (intro y hy; simp at hy)⟩) fun k r65 h66 c67 hj68 => ?_
        obtain ⟨hk, hs⟩ := hj68
        try dsimp only at hk
        try dsimp only at hs
        show pwp _ _ (loopQ _ _ _) ⟨sets (mix _ _ _) [(6, .int k)], _, _⟩
        refine pwp_seq_seq ?_
        refine pwp_seq_plain rfl fun K69 hK69 => ?_
        refine p_step rfl (e_move (v := .sc _) rfl) trivial ?_
        refine p_step rfl (e_move (v := .lit _ _ _) rfl) trivial ?_
        refine p_step rfl (e_len rfl (by kernel_rfl)) trivial ?_
        refine p_step rfl (e_lt rfl rfl) trivial ?_
        refine p_end (hK69 _ ?_); clear hK69 K69
        refine pwp_seq_cond rfl fun K70 hK70 => ⟨fun hb71 => ?_, fun hb71 => ?_⟩
        ·have hb71R := hb71; try simp only [z1, z2, z3, z4, z5, z6, ne_eq, z7, z8, z9, z10, z11, z12] at hb71
         obtain ⟨x, hx, hd, ht⟩ := get_lt (xs := ms) (i := k) (by omega)
         refine pwp_skip ?_
         refine seq_norm (hK70 _ ?_); clear hK70 K70
         refine pwp_seq_block fun K72 hK72 => ?_
         refine pwp_seq_plain rfl fun K73 hK73 => ?_
         refine p_step rfl (e_move (v := .lit _ _ _) rfl) trivial ?_
         refine p_step rfl (e_move (v := .sc _) rfl) trivial ?_
         refine p_step rfl (e_ixa rfl rfl (by kernel_rfl) (by kernel_rfl) (by simp only [List.length_map]; omega)) trivial ?_
         refine p_step rfl (e_fa (pl := [(0, 1, false), (1, 1, false), (2, 1, false), (3, 1, false)]) rfl (by kernel_rfl) (by kernel_rfl) (by decide) rfl) trivial ?_
         refine p_step rfl (e_load (v := .sc _) rfl (by kernel_rfl) (by kernel_rfl) (by kernel_rfl) (by simp only [List.length_map]; omega) (by decide) ((cell_map hx _).trans rfl)) trivial ?_
         refine p_step rfl (e_lenS rfl (by kernel_rfl)) trivial ?_
         refine p_step rfl (e_gt rfl rfl) trivial ?_
         refine p_end (hK73 _ ?_); clear hK73 K73
         refine pwp_cond rfl (fun hb74 => ?_) (fun hb74 => ?_)
         ·have hb74R := hb74; try simp only [z1, z2, z3, z4, z5, z6, ne_eq, z7, z8, z9, z10, z11, z12] at hb74
          refine pwp_seq_plain rfl fun K75 hK75 => ?_
          refine p_step rfl (e_assign (v := .sc _) rfl) trivial ?_
          refine p_end (hK75 _ ?_); clear hK75 K75
          refine pwp_ret ?_
          refine ret_block ?_
          refine ret_seq ?_
          refine ret_loop ?_
          refine ret_block ?_
          refine ret_seq ?_
          refine end1 (v := .sc _) rfl ?_
          first
            | exact out_b (hire_ok (by omega) hst hsm)
            | exact out_b (hire_big (by omega))
            | exact out_b (hire_t hx (by assumption))
            | exact out_b (hire_m hx (by assumption))
            | exact out_b (hire_t hx (by omega))
            | exact out_b (hire_m hx (by omega))
         ·have hb74R := hb74; try simp only [z1, z2, z3, z4, z5, z6, ne_eq, z7, z8, z9, z10, z11, z12] at hb74
          refine pwp_skip ?_
          refine block_norm ?_
          refine seq_norm (hK72 _ ?_); clear hK72 K72
          refine pwp_plain rfl fun K76 hK76 => ?_
          refine p_step rfl (e_move (v := .sc _) rfl) trivial ?_
          refine p_step rfl (e_add rfl rfl (by omega)) trivial ?_
          refine p_step rfl (e_assign (v := .sc _) rfl) trivial ?_
          refine p_end (hK76 _ ?_); clear hK76 K76
          exact loop_again (k + 1) (by show _ < _; omega) ⟨rfl, trivial⟩ ⟨rfl, trivial⟩ (by exact ⟨by show _ + 1 ≤ _; omega, by exact take_t (f := fun y => y.part.size) hs hx (by omega)⟩)
        ·have hb71R := hb71; try simp only [z1, z2, z3, z4, z5, z6, ne_eq, z7, z8, z9, z10, z11, z12] at hb71
         obtain rfl : k = ms.length := by omega
         rw [List.take_length] at hs
         have hsm := hs
         refine pwp_exit ?_
         refine exit_seq ?_
         clear hK70 K70
         refine exit_loop ?_
         refine exit_here ?_
         refine seq_norm (hK64 _ ?_); clear hK64 K64
         refine pwp_seq_plain rfl fun K77 hK77 => ?_
         refine p_step rfl (e_assign (v := .sc _) rfl) trivial ?_
         refine p_end (hK77 _ ?_); clear hK77 K77
         refine pwp_ret ?_
         refine end1 (v := .sc _) rfl ?_
         first
           | exact out_b (hire_ok (by omega) hst hsm)
           | exact out_b (hire_big (by omega))
           | exact out_b (hire_t hx (by assumption))
           | exact out_b (hire_m hx (by assumption))
           | exact out_b (hire_t hx (by omega))
           | exact out_b (hire_m hx (by omega))
  ·have hb3R := hb3; try simp only [z1, z2, z3, z4, z5, z6, ne_eq, z7, z8, z9, z10, z11, z12] at hb3
   refine g_skip rfl rfl rfl ?_
   refine g_skip rfl rfl rfl ?_
   refine g_skip rfl rfl rfl ?_
   refine g_step rfl rfl rfl rfl (e_pickF (v := .sc _) rfl rfl) trivial ?_
   refine g_step rfl rfl rfl rfl (e_move (v := .sc _) rfl) trivial ?_
   refine g_step rfl rfl rfl rfl (e_move (v := .lit _ _ _) rfl) trivial ?_
   refine g_step rfl rfl rfl rfl (e_len rfl (by kernel_rfl)) trivial ?_
   refine g_step rfl rfl rfl rfl (e_gt rfl rfl) trivial ?_
   refine g_step rfl rfl rfl rfl (e_pickF (v := .sc _) rfl rfl) trivial ?_
   refine g_step rfl rfl rfl rfl (e_move (v := .sc _) rfl) trivial ?_
   refine g_cases (fun hb78 => ?_) (fun hb78 => ?_)
   ·have hb78R := hb78; try simp only [z1, z2, z3, z4, z5, z6, ne_eq, z7, z8, z9, z10, z11, z12] at hb78
    refine g_skip rfl rfl rfl ?_
    refine g_skip rfl rfl rfl ?_
    refine g_skip rfl rfl rfl ?_
    refine g_skip rfl rfl rfl ?_
    refine g_skip rfl rfl rfl ?_
    refine g_skip rfl rfl rfl ?_
    refine g_skip rfl rfl rfl ?_
    refine g_skip rfl rfl rfl ?_
    refine g_step rfl rfl rfl rfl (e_pickT (v := .sc _) rfl rfl) trivial ?_
    refine g_step rfl rfl rfl rfl (e_move (v := .sc _) rfl) trivial ?_
    refine g_skip rfl rfl rfl ?_
    refine g_skip rfl rfl rfl ?_
    refine g_skip rfl rfl rfl ?_
    refine g_step rfl rfl rfl rfl (e_pickT (v := .sc _) rfl rfl) trivial ?_
    refine g_end (ds := [11, 12, 13, 16, 17, 18, 21, 22, 23, 24, 25, 26, 27, 28, 31, 32, 33]) rfl rfl (hK2 _ ?_); clear hK2 K2
    refine pwp_seq_cond (t := true) rfl fun K79 hK79 => ⟨fun _ => ?_, nofun⟩
    refine pwp_seq_plain rfl fun K80 hK80 => ?_
    refine p_step rfl (e_assign (v := .sc _) rfl) trivial ?_
    refine p_end (hK80 _ ?_); clear hK80 K80
    refine pwp_ret ?_
    refine ret_seq ?_
    refine end1 (v := .sc _) rfl ?_
    first
      | exact out_b (hire_ok (by omega) hst hsm)
      | exact out_b (hire_big (by omega))
      | exact out_b (hire_t hx (by assumption))
      | exact out_b (hire_m hx (by assumption))
      | exact out_b (hire_t hx (by omega))
      | exact out_b (hire_m hx (by omega))
   ·have hb78R := hb78; try simp only [z1, z2, z3, z4, z5, z6, ne_eq, z7, z8, z9, z10, z11, z12] at hb78
    refine g_step rfl rfl rfl rfl (e_move (v := .lit _ _ _) rfl) trivial ?_
    refine g_step rfl rfl rfl rfl (e_len rfl (by kernel_rfl)) trivial ?_
    refine g_step rfl rfl rfl rfl (e_gt rfl rfl) trivial ?_
    refine g_step rfl rfl rfl rfl (e_move (v := .sc _) rfl) trivial ?_
    refine g_cases (fun hb81 => ?_) (fun hb81 => ?_)
    ·have hb81R := hb81; try simp only [z1, z2, z3, z4, z5, z6, ne_eq, z7, z8, z9, z10, z11, z12] at hb81
     refine g_step rfl rfl rfl rfl (e_move (v := .lit _ _ _) rfl) trivial ?_
     refine g_step rfl rfl rfl rfl (e_len rfl (by kernel_rfl)) trivial ?_
     refine g_step rfl rfl rfl rfl (e_le rfl rfl) trivial ?_
     refine g_step rfl rfl rfl rfl (e_pickT (v := .sc _) rfl rfl) trivial ?_
     refine g_step rfl rfl rfl rfl (e_pickF (v := .sc _) rfl rfl) trivial ?_
     refine g_step rfl rfl rfl rfl (e_move (v := .sc _) rfl) trivial ?_
     refine g_cases (fun hb82 => ?_) (fun hb82 => ?_)
     ·have hb82R := hb82; try simp only [z1, z2, z3, z4, z5, z6, ne_eq, z7, z8, z9, z10, z11, z12] at hb82
      refine g_skip rfl rfl rfl ?_
      refine g_skip rfl rfl rfl ?_
      refine g_skip rfl rfl rfl ?_
      refine g_step rfl rfl rfl rfl (e_pickT (v := .sc _) rfl rfl) trivial ?_
      refine g_end (ds := [11, 12, 13, 16, 17, 18, 21, 22, 23, 24, 25, 26, 27, 28, 31, 32, 33]) rfl rfl (hK2 _ ?_); clear hK2 K2
      refine pwp_seq_cond (t := true) rfl fun K83 hK83 => ⟨fun _ => ?_, nofun⟩
      refine pwp_seq_plain rfl fun K84 hK84 => ?_
      refine p_step rfl (e_assign (v := .sc _) rfl) trivial ?_
      refine p_end (hK84 _ ?_); clear hK84 K84
      refine pwp_ret ?_
      refine ret_seq ?_
      refine end1 (v := .sc _) rfl ?_
      first
        | exact out_b (hire_ok (by omega) hst hsm)
        | exact out_b (hire_big (by omega))
        | exact out_b (hire_t hx (by assumption))
        | exact out_b (hire_m hx (by assumption))
        | exact out_b (hire_t hx (by omega))
        | exact out_b (hire_m hx (by omega))
     ·have hb82R := hb82; try simp only [z1, z2, z3, z4, z5, z6, ne_eq, z7, z8, z9, z10, z11, z12] at hb82
      refine g_step rfl rfl rfl rfl (e_move (v := .lit _ _ _) rfl) trivial ?_
      refine g_step rfl rfl rfl rfl (e_len rfl (by kernel_rfl)) trivial ?_
      refine g_step rfl rfl rfl rfl (e_gt rfl rfl) trivial ?_
      refine g_step rfl rfl rfl rfl (e_pickF (v := .sc _) rfl rfl) trivial ?_
      refine g_end (ds := [11, 12, 13, 16, 17, 18, 21, 22, 23, 24, 25, 26, 27, 28, 31, 32, 33]) rfl rfl (hK2 _ ?_); clear hK2 K2
      refine pwp_seq_cond rfl fun K85 hK85 => ⟨fun hb86 => ?_, fun hb86 => ?_⟩
      ·have hb86R := hb86; try simp only [z1, z2, z3, z4, z5, z6, ne_eq, z7, z8, z9, z10, z11, z12] at hb86
       refine pwp_seq_plain rfl fun K87 hK87 => ?_
       refine p_step rfl (e_assign (v := .sc _) rfl) trivial ?_
       refine p_end (hK87 _ ?_); clear hK87 K87
       refine pwp_ret ?_
       refine ret_seq ?_
       refine end1 (v := .sc _) rfl ?_
       first
         | exact out_b (hire_ok (by omega) hst hsm)
         | exact out_b (hire_big (by omega))
         | exact out_b (hire_t hx (by assumption))
         | exact out_b (hire_m hx (by assumption))
         | exact out_b (hire_t hx (by omega))
         | exact out_b (hire_m hx (by omega))
      ·have hb86R := hb86; try simp only [z1, z2, z3, z4, z5, z6, ne_eq, z7, z8, z9, z10, z11, z12] at hb86
       refine pwp_skip ?_
       refine seq_norm (hK85 _ ?_); clear hK85 K85
       refine pwp_seq_seq ?_
       refine pwp_seq_plain rfl fun K88 hK88 => ?_
       refine p_step rfl (e_assign (v := .sc _) rfl) trivial ?_
       refine p_end (hK88 _ ?_); clear hK88 K88
       refine pwp_seq_block fun K89 hK89 => ?_
       refine pwp_loopR (α := Nat) [0, 1] (fun (k : Nat) => [(5, .int (k))]) (fun (k : Nat) (h : Heap) (_ : Nat → Nat) => ((k) ≤ ts.length) ∧ (∀ y ∈ ts.take (k), y.part.size ≤ 30)) (fun (k : Nat) => ts.length - (k)) (0) (by exact ⟨rfl, trivial⟩) (by exact ⟨by exact Nat.zero_le _, by (intro y hy; simp at hy)⟩) fun k r90 h91 c92 hj93 => ?_
       obtain ⟨hk, hs⟩ := hj93
       try dsimp only at hk
       try dsimp only at hs
       show pwp _ _ (loopQ _ _ _) ⟨sets (mix _ _ _) [(5, .int k)], _, _⟩
       refine pwp_seq_seq ?_
       refine pwp_seq_plain rfl fun K94 hK94 => ?_
       refine p_step rfl (e_move (v := .sc _) rfl) trivial ?_
       refine p_step rfl (e_move (v := .lit _ _ _) rfl) trivial ?_
       refine p_step rfl (e_len rfl (by kernel_rfl)) trivial ?_
       refine p_step rfl (e_lt rfl rfl) trivial ?_
       refine p_end (hK94 _ ?_); clear hK94 K94
       refine pwp_seq_cond rfl fun K95 hK95 => ⟨fun hb96 => ?_, fun hb96 => ?_⟩
       ·have hb96R := hb96; try simp only [z1, z2, z3, z4, z5, z6, ne_eq, z7, z8, z9, z10, z11, z12] at hb96
        obtain ⟨x, hx, hd, ht⟩ := get_lt (xs := ts) (i := k) (by omega)
        refine pwp_skip ?_
        refine seq_norm (hK95 _ ?_); clear hK95 K95
        refine pwp_seq_block fun K97 hK97 => ?_
        refine pwp_seq_plain rfl fun K98 hK98 => ?_
        refine p_step rfl (e_move (v := .lit _ _ _) rfl) trivial ?_
        refine p_step rfl (e_move (v := .sc _) rfl) trivial ?_
        refine p_step rfl (e_ixa rfl rfl (by kernel_rfl) (by kernel_rfl) (by simp only [List.length_map]; omega)) trivial ?_
        refine p_step rfl (e_fa (pl := [(0, 1, false), (1, 1, false), (2, 1, false), (3, 1, false)]) rfl (by kernel_rfl) (by kernel_rfl) (by decide) rfl) trivial ?_
        refine p_step rfl (e_load (v := .sc _) rfl (by kernel_rfl) (by kernel_rfl) (by kernel_rfl) (by simp only [List.length_map]; omega) (by decide) ((cell_map hx _).trans rfl)) trivial ?_
        refine p_step rfl (e_lenS rfl (by kernel_rfl)) trivial ?_
        refine p_step rfl (e_gt rfl rfl) trivial ?_
        refine p_end (hK98 _ ?_); clear hK98 K98
        refine pwp_cond rfl (fun hb99 => ?_) (fun hb99 => ?_)
        ·have hb99R := hb99; try simp only [z1, z2, z3, z4, z5, z6, ne_eq, z7, z8, z9, z10, z11, z12] at hb99
         refine pwp_seq_plain rfl fun K100 hK100 => ?_
         refine p_step rfl (e_assign (v := .sc _) rfl) trivial ?_
         refine p_end (hK100 _ ?_); clear hK100 K100
         refine pwp_ret ?_
         refine ret_block ?_
         refine ret_seq ?_
         refine ret_loop ?_
         refine ret_block ?_
         refine ret_seq ?_
         refine end1 (v := .sc _) rfl ?_
         first
           | exact out_b (hire_ok (by omega) hst hsm)
           | exact out_b (hire_big (by omega))
           | exact out_b (hire_t hx (by assumption))
           | exact out_b (hire_m hx (by assumption))
           | exact out_b (hire_t hx (by omega))
           | exact out_b (hire_m hx (by omega))
        ·have hb99R := hb99; try simp only [z1, z2, z3, z4, z5, z6, ne_eq, z7, z8, z9, z10, z11, z12] at hb99
         refine pwp_skip ?_
         refine block_norm ?_
         refine seq_norm (hK97 _ ?_); clear hK97 K97
         refine pwp_plain rfl fun K101 hK101 => ?_
         refine p_step rfl (e_move (v := .sc _) rfl) trivial ?_
         refine p_step rfl (e_add rfl rfl (by omega)) trivial ?_
         refine p_step rfl (e_assign (v := .sc _) rfl) trivial ?_
         refine p_end (hK101 _ ?_); clear hK101 K101
         exact loop_again (k + 1) (by show _ < _; omega) ⟨rfl, rfl, trivial⟩ ⟨rfl, trivial⟩ (by exact ⟨by show _ + 1 ≤ _; omega, by exact take_t (f := fun y => y.part.size) hs hx (by omega)⟩)
       ·have hb96R := hb96; try simp only [z1, z2, z3, z4, z5, z6, ne_eq, z7, z8, z9, z10, z11, z12] at hb96
        obtain rfl : k = ts.length := by omega
        rw [List.take_length] at hs
        have hst := hs
        refine pwp_exit ?_
        refine exit_seq ?_
        clear hK95 K95
        refine exit_loop ?_
        refine exit_here ?_
        refine seq_norm (hK89 _ ?_); clear hK89 K89
        refine pwp_seq_seq ?_
        refine pwp_seq_plain rfl fun K102 hK102 => ?_
        refine p_step rfl (e_assign (v := .sc _) rfl) trivial ?_
        refine p_end (hK102 _ ?_); clear hK102 K102
        refine pwp_seq_block fun K103 hK103 => ?_
        refine pwp_loopR (α := Nat) [1] (fun (k : Nat) => [(6, .int (k))]) (fun (k : Nat) (h : Heap) (_ : Nat → Nat) => ((k) ≤ ms.length) ∧ (∀ y ∈ ms.take (k), y.part.size ≤ 30)) (fun (k : Nat) => ms.length - (k)) (0) (by exact ⟨rfl, trivial⟩) (by exact ⟨by exact Nat.zero_le _, by (intro y hy; simp at hy)⟩) fun k r104 h105 c106 hj107 => ?_
        obtain ⟨hk, hs⟩ := hj107
        try dsimp only at hk
        try dsimp only at hs
        show pwp _ _ (loopQ _ _ _) ⟨sets (mix _ _ _) [(6, .int k)], _, _⟩
        refine pwp_seq_seq ?_
        refine pwp_seq_plain rfl fun K108 hK108 => ?_
        refine p_step rfl (e_move (v := .sc _) rfl) trivial ?_
        refine p_step rfl (e_move (v := .lit _ _ _) rfl) trivial ?_
        refine p_step rfl (e_len rfl (by kernel_rfl)) trivial ?_
        refine p_step rfl (e_lt rfl rfl) trivial ?_
        refine p_end (hK108 _ ?_); clear hK108 K108
        refine pwp_seq_cond rfl fun K109 hK109 => ⟨fun hb110 => ?_, fun hb110 => ?_⟩
        ·have hb110R := hb110; try simp only [z1, z2, z3, z4, z5, z6, ne_eq, z7, z8, z9, z10, z11, z12] at hb110
         obtain ⟨x, hx, hd, ht⟩ := get_lt (xs := ms) (i := k) (by omega)
         refine pwp_skip ?_
         refine seq_norm (hK109 _ ?_); clear hK109 K109
         refine pwp_seq_block fun K111 hK111 => ?_
         refine pwp_seq_plain rfl fun K112 hK112 => ?_
         refine p_step rfl (e_move (v := .lit _ _ _) rfl) trivial ?_
         refine p_step rfl (e_move (v := .sc _) rfl) trivial ?_
         refine p_step rfl (e_ixa rfl rfl (by kernel_rfl) (by kernel_rfl) (by simp only [List.length_map]; omega)) trivial ?_
         refine p_step rfl (e_fa (pl := [(0, 1, false), (1, 1, false), (2, 1, false), (3, 1, false)]) rfl (by kernel_rfl) (by kernel_rfl) (by decide) rfl) trivial ?_
         refine p_step rfl (e_load (v := .sc _) rfl (by kernel_rfl) (by kernel_rfl) (by kernel_rfl) (by simp only [List.length_map]; omega) (by decide) ((cell_map hx _).trans rfl)) trivial ?_
         refine p_step rfl (e_lenS rfl (by kernel_rfl)) trivial ?_
         refine p_step rfl (e_gt rfl rfl) trivial ?_
         refine p_end (hK112 _ ?_); clear hK112 K112
         refine pwp_cond rfl (fun hb113 => ?_) (fun hb113 => ?_)
         ·have hb113R := hb113; try simp only [z1, z2, z3, z4, z5, z6, ne_eq, z7, z8, z9, z10, z11, z12] at hb113
          refine pwp_seq_plain rfl fun K114 hK114 => ?_
          refine p_step rfl (e_assign (v := .sc _) rfl) trivial ?_
          refine p_end (hK114 _ ?_); clear hK114 K114
          refine pwp_ret ?_
          refine ret_block ?_
          refine ret_seq ?_
          refine ret_loop ?_
          refine ret_block ?_
          refine ret_seq ?_
          refine end1 (v := .sc _) rfl ?_
          first
            | exact out_b (hire_ok (by omega) hst hsm)
            | exact out_b (hire_big (by omega))
            | exact out_b (hire_t hx (by assumption))
            | exact out_b (hire_m hx (by assumption))
            | exact out_b (hire_t hx (by omega))
            | exact out_b (hire_m hx (by omega))
         ·have hb113R := hb113; try simp only [z1, z2, z3, z4, z5, z6, ne_eq, z7, z8, z9, z10, z11, z12] at hb113
          refine pwp_skip ?_
          refine block_norm ?_
          refine seq_norm (hK111 _ ?_); clear hK111 K111
          refine pwp_plain rfl fun K115 hK115 => ?_
          refine p_step rfl (e_move (v := .sc _) rfl) trivial ?_
          refine p_step rfl (e_add rfl rfl (by omega)) trivial ?_
          refine p_step rfl (e_assign (v := .sc _) rfl) trivial ?_
          refine p_end (hK115 _ ?_); clear hK115 K115
          exact loop_again (k + 1) (by show _ < _; omega) ⟨rfl, trivial⟩ ⟨rfl, trivial⟩ (by exact ⟨by show _ + 1 ≤ _; omega, by exact take_t (f := fun y => y.part.size) hs hx (by omega)⟩)
        ·have hb110R := hb110; try simp only [z1, z2, z3, z4, z5, z6, ne_eq, z7, z8, z9, z10, z11, z12] at hb110
         obtain rfl : k = ms.length := by omega
         rw [List.take_length] at hs
         have hsm := hs
         refine pwp_exit ?_
         refine exit_seq ?_
         clear hK109 K109
         refine exit_loop ?_
         refine exit_here ?_
         refine seq_norm (hK103 _ ?_); clear hK103 K103
         refine pwp_seq_plain rfl fun K116 hK116 => ?_
         refine p_step rfl (e_assign (v := .sc _) rfl) trivial ?_
         refine p_end (hK116 _ ?_); clear hK116 K116
         refine pwp_ret ?_
         refine end1 (v := .sc _) rfl ?_
         first
           | exact out_b (hire_ok (by omega) hst hsm)
           | exact out_b (hire_big (by omega))
           | exact out_b (hire_t hx (by assumption))
           | exact out_b (hire_m hx (by assumption))
           | exact out_b (hire_t hx (by omega))
           | exact out_b (hire_m hx (by omega))
    ·have hb81R := hb81; try simp only [z1, z2, z3, z4, z5, z6, ne_eq, z7, z8, z9, z10, z11, z12] at hb81
     refine g_skip rfl rfl rfl ?_
     refine g_skip rfl rfl rfl ?_
     refine g_skip rfl rfl rfl ?_
     refine g_step rfl rfl rfl rfl (e_pickF (v := .sc _) rfl rfl) trivial ?_
     refine g_step rfl rfl rfl rfl (e_pickF (v := .sc _) rfl rfl) trivial ?_
     refine g_step rfl rfl rfl rfl (e_move (v := .sc _) rfl) trivial ?_
     refine g_step rfl rfl rfl rfl (e_move (v := .lit _ _ _) rfl) trivial ?_
     refine g_step rfl rfl rfl rfl (e_len rfl (by kernel_rfl)) trivial ?_
     refine g_step rfl rfl rfl rfl (e_gt rfl rfl) trivial ?_
     refine g_step rfl rfl rfl rfl (e_pickF (v := .sc _) rfl rfl) trivial ?_
     refine g_end (ds := [11, 12, 13, 16, 17, 18, 21, 22, 23, 24, 25, 26, 27, 28, 31, 32, 33]) rfl rfl (hK2 _ ?_); clear hK2 K2
     refine pwp_seq_cond rfl fun K117 hK117 => ⟨fun hb118 => ?_, fun hb118 => ?_⟩
     ·have hb118R := hb118; try simp only [z1, z2, z3, z4, z5, z6, ne_eq, z7, z8, z9, z10, z11, z12] at hb118
      refine pwp_seq_plain rfl fun K119 hK119 => ?_
      refine p_step rfl (e_assign (v := .sc _) rfl) trivial ?_
      refine p_end (hK119 _ ?_); clear hK119 K119
      refine pwp_ret ?_
      refine ret_seq ?_
      refine end1 (v := .sc _) rfl ?_
      first
        | exact out_b (hire_ok (by omega) hst hsm)
        | exact out_b (hire_big (by omega))
        | exact out_b (hire_t hx (by assumption))
        | exact out_b (hire_m hx (by assumption))
        | exact out_b (hire_t hx (by omega))
        | exact out_b (hire_m hx (by omega))
     ·have hb118R := hb118; try simp only [z1, z2, z3, z4, z5, z6, ne_eq, z7, z8, z9, z10, z11, z12] at hb118
      refine pwp_skip ?_
      refine seq_norm (hK117 _ ?_); clear hK117 K117
      refine pwp_seq_seq ?_
      refine pwp_seq_plain rfl fun K120 hK120 => ?_
      refine p_step rfl (e_assign (v := .sc _) rfl) trivial ?_
      refine p_end (hK120 _ ?_); clear hK120 K120
      refine pwp_seq_block fun K121 hK121 => ?_
      refine pwp_loopR (α := Nat) [0, 1] (fun (k : Nat) => [(5, .int (k))]) (fun (k : Nat) (h : Heap) (_ : Nat → Nat) => ((k) ≤ ts.length) ∧ (∀ y ∈ ts.take (k), y.part.size ≤ 30)) (fun (k : Nat) => ts.length - (k)) (0) (by exact ⟨rfl, trivial⟩) (by exact ⟨by exact Nat.zero_le _, by (intro y hy; simp at hy)⟩) fun k r122 h123 c124 hj125 => ?_
      obtain ⟨hk, hs⟩ := hj125
      try dsimp only at hk
      try dsimp only at hs
      show pwp _ _ (loopQ _ _ _) ⟨sets (mix _ _ _) [(5, .int k)], _, _⟩
      refine pwp_seq_seq ?_
      refine pwp_seq_plain rfl fun K126 hK126 => ?_
      refine p_step rfl (e_move (v := .sc _) rfl) trivial ?_
      refine p_step rfl (e_move (v := .lit _ _ _) rfl) trivial ?_
      refine p_step rfl (e_len rfl (by kernel_rfl)) trivial ?_
      refine p_step rfl (e_lt rfl rfl) trivial ?_
      refine p_end (hK126 _ ?_); clear hK126 K126
      refine pwp_seq_cond rfl fun K127 hK127 => ⟨fun hb128 => ?_, fun hb128 => ?_⟩
      ·have hb128R := hb128; try simp only [z1, z2, z3, z4, z5, z6, ne_eq, z7, z8, z9, z10, z11, z12] at hb128
       obtain ⟨x, hx, hd, ht⟩ := get_lt (xs := ts) (i := k) (by omega)
       refine pwp_skip ?_
       refine seq_norm (hK127 _ ?_); clear hK127 K127
       refine pwp_seq_block fun K129 hK129 => ?_
       refine pwp_seq_plain rfl fun K130 hK130 => ?_
       refine p_step rfl (e_move (v := .lit _ _ _) rfl) trivial ?_
       refine p_step rfl (e_move (v := .sc _) rfl) trivial ?_
       refine p_step rfl (e_ixa rfl rfl (by kernel_rfl) (by kernel_rfl) (by simp only [List.length_map]; omega)) trivial ?_
       refine p_step rfl (e_fa (pl := [(0, 1, false), (1, 1, false), (2, 1, false), (3, 1, false)]) rfl (by kernel_rfl) (by kernel_rfl) (by decide) rfl) trivial ?_
       refine p_step rfl (e_load (v := .sc _) rfl (by kernel_rfl) (by kernel_rfl) (by kernel_rfl) (by simp only [List.length_map]; omega) (by decide) ((cell_map hx _).trans rfl)) trivial ?_
       refine p_step rfl (e_lenS rfl (by kernel_rfl)) trivial ?_
       refine p_step rfl (e_gt rfl rfl) trivial ?_
       refine p_end (hK130 _ ?_); clear hK130 K130
       refine pwp_cond rfl (fun hb131 => ?_) (fun hb131 => ?_)
       ·have hb131R := hb131; try simp only [z1, z2, z3, z4, z5, z6, ne_eq, z7, z8, z9, z10, z11, z12] at hb131
        refine pwp_seq_plain rfl fun K132 hK132 => ?_
        refine p_step rfl (e_assign (v := .sc _) rfl) trivial ?_
        refine p_end (hK132 _ ?_); clear hK132 K132
        refine pwp_ret ?_
        refine ret_block ?_
        refine ret_seq ?_
        refine ret_loop ?_
        refine ret_block ?_
        refine ret_seq ?_
        refine end1 (v := .sc _) rfl ?_
        first
          | exact out_b (hire_ok (by omega) hst hsm)
          | exact out_b (hire_big (by omega))
          | exact out_b (hire_t hx (by assumption))
          | exact out_b (hire_m hx (by assumption))
          | exact out_b (hire_t hx (by omega))
          | exact out_b (hire_m hx (by omega))
       ·have hb131R := hb131; try simp only [z1, z2, z3, z4, z5, z6, ne_eq, z7, z8, z9, z10, z11, z12] at hb131
        refine pwp_skip ?_
        refine block_norm ?_
        refine seq_norm (hK129 _ ?_); clear hK129 K129
        refine pwp_plain rfl fun K133 hK133 => ?_
        refine p_step rfl (e_move (v := .sc _) rfl) trivial ?_
        refine p_step rfl (e_add rfl rfl (by omega)) trivial ?_
        refine p_step rfl (e_assign (v := .sc _) rfl) trivial ?_
        refine p_end (hK133 _ ?_); clear hK133 K133
        exact loop_again (k + 1) (by show _ < _; omega) ⟨rfl, rfl, trivial⟩ ⟨rfl, trivial⟩ (by exact ⟨by show _ + 1 ≤ _; omega, by exact take_t (f := fun y => y.part.size) hs hx (by omega)⟩)
      ·have hb128R := hb128; try simp only [z1, z2, z3, z4, z5, z6, ne_eq, z7, z8, z9, z10, z11, z12] at hb128
       obtain rfl : k = ts.length := by omega
       rw [List.take_length] at hs
       have hst := hs
       refine pwp_exit ?_
       refine exit_seq ?_
       clear hK127 K127
       refine exit_loop ?_
       refine exit_here ?_
       refine seq_norm (hK121 _ ?_); clear hK121 K121
       refine pwp_seq_seq ?_
       refine pwp_seq_plain rfl fun K134 hK134 => ?_
       refine p_step rfl (e_assign (v := .sc _) rfl) trivial ?_
       refine p_end (hK134 _ ?_); clear hK134 K134
       refine pwp_seq_block fun K135 hK135 => ?_
       refine pwp_loopR (α := Nat) [1] (fun (k : Nat) => [(6, .int (k))]) (fun (k : Nat) (h : Heap) (_ : Nat → Nat) => ((k) ≤ ms.length) ∧ (∀ y ∈ ms.take (k), y.part.size ≤ 30)) (fun (k : Nat) => ms.length - (k)) (0) (by exact ⟨rfl, trivial⟩) (by exact ⟨by exact Nat.zero_le _, by (intro y hy; simp at hy)⟩) fun k r136 h137 c138 hj139 => ?_
       obtain ⟨hk, hs⟩ := hj139
       try dsimp only at hk
       try dsimp only at hs
       show pwp _ _ (loopQ _ _ _) ⟨sets (mix _ _ _) [(6, .int k)], _, _⟩
       refine pwp_seq_seq ?_
       refine pwp_seq_plain rfl fun K140 hK140 => ?_
       refine p_step rfl (e_move (v := .sc _) rfl) trivial ?_
       refine p_step rfl (e_move (v := .lit _ _ _) rfl) trivial ?_
       refine p_step rfl (e_len rfl (by kernel_rfl)) trivial ?_
       refine p_step rfl (e_lt rfl rfl) trivial ?_
       refine p_end (hK140 _ ?_); clear hK140 K140
       refine pwp_seq_cond rfl fun K141 hK141 => ⟨fun hb142 => ?_, fun hb142 => ?_⟩
       ·have hb142R := hb142; try simp only [z1, z2, z3, z4, z5, z6, ne_eq, z7, z8, z9, z10, z11, z12] at hb142
        obtain ⟨x, hx, hd, ht⟩ := get_lt (xs := ms) (i := k) (by omega)
        refine pwp_skip ?_
        refine seq_norm (hK141 _ ?_); clear hK141 K141
        refine pwp_seq_block fun K143 hK143 => ?_
        refine pwp_seq_plain rfl fun K144 hK144 => ?_
        refine p_step rfl (e_move (v := .lit _ _ _) rfl) trivial ?_
        refine p_step rfl (e_move (v := .sc _) rfl) trivial ?_
        refine p_step rfl (e_ixa rfl rfl (by kernel_rfl) (by kernel_rfl) (by simp only [List.length_map]; omega)) trivial ?_
        refine p_step rfl (e_fa (pl := [(0, 1, false), (1, 1, false), (2, 1, false), (3, 1, false)]) rfl (by kernel_rfl) (by kernel_rfl) (by decide) rfl) trivial ?_
        refine p_step rfl (e_load (v := .sc _) rfl (by kernel_rfl) (by kernel_rfl) (by kernel_rfl) (by simp only [List.length_map]; omega) (by decide) ((cell_map hx _).trans rfl)) trivial ?_
        refine p_step rfl (e_lenS rfl (by kernel_rfl)) trivial ?_
        refine p_step rfl (e_gt rfl rfl) trivial ?_
        refine p_end (hK144 _ ?_); clear hK144 K144
        refine pwp_cond rfl (fun hb145 => ?_) (fun hb145 => ?_)
        ·have hb145R := hb145; try simp only [z1, z2, z3, z4, z5, z6, ne_eq, z7, z8, z9, z10, z11, z12] at hb145
         refine pwp_seq_plain rfl fun K146 hK146 => ?_
         refine p_step rfl (e_assign (v := .sc _) rfl) trivial ?_
         refine p_end (hK146 _ ?_); clear hK146 K146
         refine pwp_ret ?_
         refine ret_block ?_
         refine ret_seq ?_
         refine ret_loop ?_
         refine ret_block ?_
         refine ret_seq ?_
         refine end1 (v := .sc _) rfl ?_
         first
           | exact out_b (hire_ok (by omega) hst hsm)
           | exact out_b (hire_big (by omega))
           | exact out_b (hire_t hx (by assumption))
           | exact out_b (hire_m hx (by assumption))
           | exact out_b (hire_t hx (by omega))
           | exact out_b (hire_m hx (by omega))
        ·have hb145R := hb145; try simp only [z1, z2, z3, z4, z5, z6, ne_eq, z7, z8, z9, z10, z11, z12] at hb145
         refine pwp_skip ?_
         refine block_norm ?_
         refine seq_norm (hK143 _ ?_); clear hK143 K143
         refine pwp_plain rfl fun K147 hK147 => ?_
         refine p_step rfl (e_move (v := .sc _) rfl) trivial ?_
         refine p_step rfl (e_add rfl rfl (by omega)) trivial ?_
         refine p_step rfl (e_assign (v := .sc _) rfl) trivial ?_
         refine p_end (hK147 _ ?_); clear hK147 K147
         exact loop_again (k + 1) (by show _ < _; omega) ⟨rfl, trivial⟩ ⟨rfl, trivial⟩ (by exact ⟨by show _ + 1 ≤ _; omega, by exact take_t (f := fun y => y.part.size) hs hx (by omega)⟩)
       ·have hb142R := hb142; try simp only [z1, z2, z3, z4, z5, z6, ne_eq, z7, z8, z9, z10, z11, z12] at hb142
        obtain rfl : k = ms.length := by omega
        rw [List.take_length] at hs
        have hsm := hs
        refine pwp_exit ?_
        refine exit_seq ?_
        clear hK141 K141
        refine exit_loop ?_
        refine exit_here ?_
        refine seq_norm (hK135 _ ?_); clear hK135 K135
        refine pwp_seq_plain rfl fun K148 hK148 => ?_
        refine p_step rfl (e_assign (v := .sc _) rfl) trivial ?_
        refine p_end (hK148 _ ?_); clear hK148 K148
        refine pwp_ret ?_
        refine end1 (v := .sc _) rfl ?_
        first
          | exact out_b (hire_ok (by omega) hst hsm)
          | exact out_b (hire_big (by omega))
          | exact out_b (hire_t hx (by assumption))
          | exact out_b (hire_m hx (by assumption))
          | exact out_b (hire_t hx (by omega))
          | exact out_b (hire_m hx (by omega))


theorem term_clean (a : Term) (q : PV) (hq : q ∈ a.enc) : Go.Pv.Clean q ∧ q.cell = true := by
  simp only [Term.enc, List.mem_cons, List.not_mem_nil, or_false] at hq
  rcases hq with rfl | rfl | rfl | rfl <;> exact ⟨.sc _, rfl⟩
theorem move_clean (a : Move) (q : PV) (hq : q ∈ a.enc) : Go.Pv.Clean q ∧ q.cell = true := by
  simp only [Move.enc, List.mem_cons, List.not_mem_nil, or_false] at hq
  rcases hq with rfl | rfl | rfl | rfl <;> exact ⟨.sc _, rfl⟩
theorem lot_clean (a : Lot) (q : PV) (hq : q ∈ a.enc) : Go.Pv.Clean q ∧ q.cell = true := by
  simp only [Lot.enc, List.mem_cons, List.not_mem_nil, or_false] at hq
  rcases hq with rfl | rfl | rfl | rfl | rfl <;> exact ⟨.sc _, rfl⟩
theorem same_endL {α : Type} {xs ys : List α} (hl : xs.length = ys.length) (h : xs.take xs.length = ys.take xs.length) : xs = ys := by
  rw [List.take_length] at h
  rw [h, hl, List.take_length]
theorem same_badL {α : Type} {xs ys : List α} {k : Nat} {x y : α} (hx : xs[k]? = some x) (hy : ys[k]? = some y) (hn : ¬ x = y) : ¬ xs = ys := fun h => by subst h; rw [hx] at hy; cases hy; exact hn rfl
theorem eqOk_Lot (a b : Lot) : eqOk Try.prog 6 68 (.agg a.enc) (.agg b.enc) = true := by kernel_rfl
theorem eqV_Lot (a b : Lot) : eqV Try.prog 6 68 (.agg a.enc) (.agg b.enc) = decide (a = b) := by
  have h : eqV Try.prog 6 68 (.agg a.enc) (.agg b.enc) = (decide (a.part = b.part) && ((a.count == b.count) && ((a.inn == b.inn) && ((a.day == b.day) && ((a.out == b.out) && true))))) := by kernel_rfl
  rw [h]
  cases a; cases b
  simp only [Lot.mk.injEq]
  rw [Bool.eq_iff_iff]
  simp

theorem fr28 : (inFrame Try.f28.ntmps (Try.f28.body.getD .skip) && Try.f28.results.toList.all (resScope Try.f28.ntmps)) = true := by kernel_rfl
theorem termsC (ts : List Term) (hl : ts.length ≤ 1000000) : PCalls Try.prog 28 [.lit true 4 (ts.map Term.enc)] (.lit false 4 (ts.map Term.enc)) := by
  refine PCalls.of_code Try.func28 rfl rfl (by kernel_rfl) mixed fr28 (by show _ ≤ 6; simp) (.lit _ _ _ fun row hr => pure_map Term.pure row hr) ?_
  refine pwp_seq_plain rfl fun K1 hK1 => ?_
  refine p_step rfl (e_assign (v := .nil) rfl) trivial ?_
  refine p_end (hK1 _ ?_); clear hK1 K1
  refine pwp_seq_plain rfl fun K2 hK2 => ?_
  refine p_new rfl (e_bslice (rows := []) (zs := [.str ByteArray.empty, .int 0, .int 0, .int 0]) (sz := 4) (by kernel_rfl) (by kernel_rfl) rfl (by kernel_rfl) (by decide) rfl rfl (by exact trivial) rfl) trivial ?_
  refine p_step rfl (e_move (v := .lit _ _ _) rfl) trivial ?_
  refine p_app rfl rfl rfl (.ofRef (hset_self _ _ _) rfl) src_lit (by kernel_rfl) (by simp only [List.length_append, List.length_map, List.length_nil, List.length_cons]; omega) fun v3 h4 c5 hs6 hf7 => ?_
  refine p_step rfl (e_assign (v := _) rfl) trivial ?_
  refine p_end (hK2 _ ?_); clear hK2 K2
  refine pwp_ret ?_
  refine end1 (v := _) rfl ?_
  exact out_slice (by assumption) (List.nil_append _) (fun _ => rfl) term_clean

theorem fr29 : (inFrame Try.f29.ntmps (Try.f29.body.getD .skip) && Try.f29.results.toList.all (resScope Try.f29.ntmps)) = true := by kernel_rfl
theorem movesC (ms : List Move) (hl : ms.length ≤ 1000000) : PCalls Try.prog 29 [.lit true 4 (ms.map Move.enc)] (.lit false 4 (ms.map Move.enc)) := by
  refine PCalls.of_code Try.func29 rfl rfl (by kernel_rfl) mixed fr29 (by show _ ≤ 6; simp) (.lit _ _ _ fun row hr => pure_map Move.pure row hr) ?_
  refine pwp_seq_plain rfl fun K1 hK1 => ?_
  refine p_step rfl (e_assign (v := .nil) rfl) trivial ?_
  refine p_end (hK1 _ ?_); clear hK1 K1
  refine pwp_seq_plain rfl fun K2 hK2 => ?_
  refine p_new rfl (e_bslice (rows := []) (zs := [.int 0, .int 0, .str ByteArray.empty, .int 0]) (sz := 4) (by kernel_rfl) (by kernel_rfl) rfl (by kernel_rfl) (by decide) rfl rfl (by exact trivial) rfl) trivial ?_
  refine p_step rfl (e_move (v := .lit _ _ _) rfl) trivial ?_
  refine p_app rfl rfl rfl (.ofRef (hset_self _ _ _) rfl) src_lit (by kernel_rfl) (by simp only [List.length_append, List.length_map, List.length_nil, List.length_cons]; omega) fun v3 h4 c5 hs6 hf7 => ?_
  refine p_step rfl (e_assign (v := _) rfl) trivial ?_
  refine p_end (hK2 _ ?_); clear hK2 K2
  refine pwp_ret ?_
  refine end1 (v := _) rfl ?_
  exact out_slice (by assumption) (List.nil_append _) (fun _ => rfl) move_clean

theorem fr39 : (inFrame Try.f39.ntmps (Try.f39.body.getD .skip) && Try.f39.results.toList.all (resScope Try.f39.ntmps)) = true := by kernel_rfl
theorem sameLots (xs ys : List Lot) (hl : xs.length ≤ 10000000) : PCalls Try.prog 39 [.lit true 5 (xs.map Lot.enc), .lit true 5 (ys.map Lot.enc)] (.bool (decide (xs = ys))) := by
  refine PCalls.of_code Try.func39 rfl rfl (by kernel_rfl) mixed fr39 (by show _ ≤ 26; simp) (.sc _) ?_
  refine pwp_seq_plain rfl fun K1 hK1 => ?_
  refine p_step rfl (e_assign (v := .sc _) rfl) trivial ?_
  refine p_end (hK1 _ ?_); clear hK1 K1
  refine pwp_seq_seq ?_
  refine pwp_seq_plain rfl fun K2 hK2 => ?_
  refine p_step rfl (e_move (v := .lit _ _ _) rfl) trivial ?_
  refine p_step rfl (e_len rfl (by kernel_rfl)) trivial ?_
  refine p_step rfl (e_move (v := .lit _ _ _) rfl) trivial ?_
  refine p_step rfl (e_len rfl (by kernel_rfl)) trivial ?_
  refine p_step rfl (e_ne rfl rfl) trivial ?_
  refine p_end (hK2 _ ?_); clear hK2 K2
  refine pwp_seq_cond rfl fun K3 hK3 => ⟨fun hb4 => ?_, fun hb4 => ?_⟩
  ·have hb4R := hb4; try simp only [z1, z2, z3, z4, z5, z6, ne_eq, z7, z8, z9, z10, z11, z12] at hb4
   refine pwp_seq_plain rfl fun K5 hK5 => ?_
   refine p_step rfl (e_assign (v := .sc _) rfl) trivial ?_
   refine p_end (hK5 _ ?_); clear hK5 K5
   refine pwp_ret ?_
   refine ret_seq ?_
   refine end1 (v := .sc _) rfl ?_
   first
     | exact out_b (decide_eq_false fun h => by subst h; omega).symm
     | exact out_b (decide_eq_false (same_badL hx hy (by assumption))).symm
     | exact out_b (decide_eq_true (same_endL (by omega) he)).symm
  ·have hb4R := hb4; try simp only [z1, z2, z3, z4, z5, z6, ne_eq, z7, z8, z9, z10, z11, z12] at hb4
   refine pwp_skip ?_
   refine seq_norm (hK3 _ ?_); clear hK3 K3
   refine pwp_seq_seq ?_
   refine pwp_seq_plain rfl fun K6 hK6 => ?_
   refine p_step rfl (e_assign (v := .sc _) rfl) trivial ?_
   refine p_end (hK6 _ ?_); clear hK6 K6
   refine pwp_seq_block fun K7 hK7 => ?_
   refine pwp_loopR (α := Nat) [0, 1] (fun (k : Nat) => [(5, .int (k))]) (fun (k : Nat) (h : Heap) (_ : Nat → Nat) => ((k) ≤ xs.length) ∧ (xs.take (k) = ys.take (k))) (fun (k : Nat) => xs.length - (k)) (0) (by exact ⟨rfl, trivial⟩) (by exact ⟨by exact Nat.zero_le _, by exact rfl⟩) fun k r8 h9 c10 hj11 => ?_
   obtain ⟨hk, he⟩ := hj11
   try dsimp only at hk
   try dsimp only at he
   show pwp _ _ (loopQ _ _ _) ⟨sets (mix _ _ _) [(5, .int k)], _, _⟩
   refine pwp_seq_seq ?_
   refine pwp_seq_plain rfl fun K12 hK12 => ?_
   refine p_step rfl (e_move (v := .sc _) rfl) trivial ?_
   refine p_step rfl (e_move (v := .lit _ _ _) rfl) trivial ?_
   refine p_step rfl (e_len rfl (by kernel_rfl)) trivial ?_
   refine p_step rfl (e_lt rfl rfl) trivial ?_
   refine p_end (hK12 _ ?_); clear hK12 K12
   refine pwp_seq_cond rfl fun K13 hK13 => ⟨fun hb14 => ?_, fun hb14 => ?_⟩
   ·have hb14R := hb14; try simp only [z1, z2, z3, z4, z5, z6, ne_eq, z7, z8, z9, z10, z11, z12] at hb14
    obtain ⟨x, hx, hd, ht⟩ := get_lt (xs := xs) (i := k) (by omega)
    obtain ⟨y, hy, hd2, ht2⟩ := get_lt (xs := ys) (i := k) (by omega)
    refine pwp_skip ?_
    refine seq_norm (hK13 _ ?_); clear hK13 K13
    refine pwp_seq_block fun K15 hK15 => ?_
    refine pwp_seq_gops rfl fun K16 hK16 => ?_
    refine g_begin ?_
    refine g_step rfl rfl rfl rfl (e_move (v := .lit _ _ _) rfl) trivial ?_
    refine g_step rfl rfl rfl rfl (e_move (v := .sc _) rfl) trivial ?_
    refine g_step rfl rfl rfl rfl (e_ixa rfl rfl (by kernel_rfl) (by kernel_rfl) (by simp only [List.length_map]; omega)) trivial ?_
    refine g_step rfl rfl rfl rfl (e_loadA (n := 5) rfl (by kernel_rfl) (by kernel_rfl) (by kernel_rfl) (by simp only [List.length_map]; omega) (by decide) (by first | exact agg_map hx rfl)) trivial ?_
    refine g_step rfl rfl rfl rfl (e_move (v := .lit _ _ _) rfl) trivial ?_
    refine g_step rfl rfl rfl rfl (e_move (v := .sc _) rfl) trivial ?_
    refine g_step rfl rfl rfl rfl (e_ixa rfl rfl (by kernel_rfl) (by kernel_rfl) (by simp only [List.length_map]; omega)) trivial ?_
    refine g_step rfl rfl rfl rfl (e_loadA (n := 5) rfl (by kernel_rfl) (by kernel_rfl) (by kernel_rfl) (by simp only [List.length_map]; omega) (by decide) (by first | exact agg_map hy rfl)) trivial ?_
    refine g_step rfl rfl rfl rfl (e_ane rfl rfl (by kernel_rfl) (eqOk_Lot (x) (y)) (eqV_Lot (x) (y))) trivial ?_
    refine g_end (ds := []) (by kernel_rfl) rfl (hK16 _ ?_); clear hK16 K16
    refine pwp_cond rfl (fun hb17 => ?_) (fun hb17 => ?_)
    ·have hb17R := hb17; try simp only [z1, z2, z3, z4, z5, z6, ne_eq, z7, z8, z9, z10, z11, z12] at hb17
     refine pwp_seq_plain rfl fun K18 hK18 => ?_
     refine p_step rfl (e_assign (v := .sc _) rfl) trivial ?_
     refine p_end (hK18 _ ?_); clear hK18 K18
     refine pwp_ret ?_
     refine ret_block ?_
     refine ret_seq ?_
     refine ret_loop ?_
     refine ret_block ?_
     refine ret_seq ?_
     refine end1 (v := .sc _) rfl ?_
     first
       | exact out_b (decide_eq_false fun h => by subst h; omega).symm
       | exact out_b (decide_eq_false (same_badL hx hy (by assumption))).symm
       | exact out_b (decide_eq_true (same_endL (by omega) he)).symm
    ·have hb17R := hb17; try simp only [z1, z2, z3, z4, z5, z6, ne_eq, z7, z8, z9, z10, z11, z12] at hb17
     refine pwp_skip ?_
     refine block_norm ?_
     refine seq_norm (hK15 _ ?_); clear hK15 K15
     refine pwp_plain rfl fun K19 hK19 => ?_
     refine p_step rfl (e_move (v := .sc _) rfl) trivial ?_
     refine p_step rfl (e_add rfl rfl (by omega)) trivial ?_
     refine p_step rfl (e_assign (v := .sc _) rfl) trivial ?_
     refine p_end (hK19 _ ?_); clear hK19 K19
     exact loop_again (k + 1) (by show _ < _; omega) ⟨rfl, rfl, trivial⟩ ⟨rfl, trivial⟩ (by exact ⟨by show _ + 1 ≤ _; omega, by rw [ht, ht2, he]; congr 2⟩)
   ·have hb14R := hb14; try simp only [z1, z2, z3, z4, z5, z6, ne_eq, z7, z8, z9, z10, z11, z12] at hb14
    obtain rfl : k = xs.length := by omega
    refine pwp_exit ?_
    refine exit_seq ?_
    clear hK13 K13
    refine exit_loop ?_
    refine exit_here ?_
    refine seq_norm (hK7 _ ?_); clear hK7 K7
    refine pwp_seq_plain rfl fun K20 hK20 => ?_
    refine p_step rfl (e_assign (v := .sc _) rfl) trivial ?_
    refine p_end (hK20 _ ?_); clear hK20 K20
    refine pwp_ret ?_
    refine end1 (v := .sc _) rfl ?_
    first
      | exact out_b (decide_eq_false fun h => by subst h; omega).symm
      | exact out_b (decide_eq_false (same_badL hx hy (by assumption))).symm
      | exact out_b (decide_eq_true (same_endL (by omega) he)).symm

end Go.Proofs.Ytdbpfhbppcpbbaa

/- Counts and lots of the reference. No conditions. -/
set_option linter.unusedSimpArgs false
set_option linter.unusedVariables false
set_option maxRecDepth 100000
namespace Go.Proofs.Ytdbpfhbppcpbbaa
open Go Go.Pv
/-! ### What the reference counts -/
def okM (m : Move) : Prop := (0 ≤ m.kind ∧ m.kind ≤ 2) ∧ 0 ≤ m.count ∧ m.count ≤ 100000
def cntStep (p : ByteArray) (cs : List Int) (m : Move) : List Int := if m.part = p then cs.set m.kind.toNat (cs.getD m.kind.toNat 0 + m.count) else cs
/-- How many pieces of a part were moved by each kind of moves. -/
def cntL (p : ByteArray) (ms : List Move) : List Int := ms.foldl (cntStep p) [0, 0, 0]
theorem cntStep_len (p : ByteArray) (cs : List Int) (m : Move) : (cntStep p cs m).length = cs.length := by unfold cntStep; split <;> simp
theorem cntL_len (p : ByteArray) (ms : List Move) : (cntL p ms).length = 3 := by
  have : ∀ (l : List Move) (cs : List Int), (l.foldl (cntStep p) cs).length = cs.length := by
    intro l
    induction l with
    | nil => intro cs; rfl
    | cons m l ih => intro cs; rw [List.foldl_cons, ih, cntStep_len]
  exact this ms _
section
variable {p : ByteArray} {cs : List Int} {x : Move} {k : Nat}
theorem cs_get (hc : cs.length = 3) (hx : okM x) : cellAt [cs.map PV.int] 0 (0 + x.kind.toNat) = .int (cs.getD x.kind.toNat 0) := by
  have h := hx.1
  have h2 : x.kind.toNat < cs.length := by omega
  simp [cellAt, List.getD_eq_getElem?_getD, List.getElem?_eq_getElem h2]
theorem cs_bnd (hb : ∀ c ∈ cs, 0 ≤ c ∧ c ≤ 100000 * (k : Int)) (hc : cs.length = 3) (hx : okM x) : 0 ≤ cs.getD x.kind.toNat 0 ∧ cs.getD x.kind.toNat 0 ≤ 100000 * (k : Int) := by
  have h := hx.1
  have h2 : x.kind.toNat < cs.length := by omega
  rw [List.getD_eq_getElem?_getD, List.getElem?_eq_getElem h2]
  exact hb _ (List.getElem_mem h2)
theorem cs_next (hb : ∀ c ∈ cs, 0 ≤ c ∧ c ≤ 100000 * (k : Int)) (hc : cs.length = 3) (hx : okM x) : ∀ c ∈ cntStep p cs x, 0 ≤ c ∧ c ≤ 100000 * ((k + 1 : Nat) : Int) := by
  have h0 := cs_bnd hb hc hx
  have h1 := hx.2
  intro c hcm
  unfold cntStep at hcm
  split at hcm
  · rcases List.mem_or_eq_of_mem_set hcm with h | h
    · have := hb c h; omega
    · rw [h]; omega
  · have := hb c hcm; omega
theorem agg_whole {zs : List PV} {n : Nat} (h : zs.length = n) : aggAt [zs] 0 0 n = zs := by subst h; simp [aggAt]
theorem all_ints (cs : List Int) : (cs.map PV.int).all PV.cell = true := by rw [List.all_map]; exact List.all_eq_true.2 fun _ _ => rfl
theorem cs_yes (h : x.part = p) : some (PObj.rows 3 [(cs.map PV.int).set (0 + x.kind.toNat) (.int (cs.getD x.kind.toNat 0 + x.count))]) = some (PObj.rows 3 [(cntStep p cs x).map PV.int]) := by
  unfold cntStep; rw [if_pos h, List.map_set, Nat.zero_add]
theorem cs_no (h : ¬ x.part = p) : some (PObj.rows 3 [cs.map PV.int]) = some (PObj.rows 3 [(cntStep p cs x).map PV.int]) := by
  unfold cntStep; rw [if_neg h]
end

theorem fr41 : (inFrame Try.f41.ntmps (Try.f41.body.getD .skip) && Try.f41.results.toList.all (resScope Try.f41.ntmps)) = true := by kernel_rfl
theorem Counts (ms : List Move) (p : ByteArray) (hl : ms.length ≤ 305) (hok : ∀ m ∈ ms, okM m) : PCalls Try.prog 41 [.lit true 4 (ms.map Move.enc), .str p] (.agg ((cntL p ms).map PV.int)) := by
  refine PCalls.of_code Try.func41 rfl rfl (by kernel_rfl) mixed fr41 (by show _ ≤ 40; simp) (.agg _ fun q hq => by obtain ⟨z, _, rfl⟩ := List.mem_map.1 hq; exact .sc _) ?_
  refine pwp_seq_plain rfl fun K1 hK1 => ?_
  refine p_new rfl (e_alloc (cs := [.int 0, .int 0, .int 0]) (n := 3) (by kernel_rfl) rfl (by decide)) (ob_alloc (by decide)) ?_
  refine p_end (hK1 _ ?_); clear hK1 K1
  refine pwp_seq_plain rfl fun K2 hK2 => ?_
  refine p_new rfl (e_alloc (cs := [.int 0, .int 0, .int 0]) (n := 3) (by kernel_rfl) rfl (by decide)) (ob_alloc (by decide)) ?_
  refine p_end (hK2 _ ?_); clear hK2 K2
  refine pwp_seq_seq ?_
  refine pwp_seq_plain rfl fun K3 hK3 => ?_
  refine p_step rfl (e_assign (v := .sc _) rfl) trivial ?_
  refine p_end (hK3 _ ?_); clear hK3 K3
  refine pwp_seq_block fun K4 hK4 => ?_
  refine pwp_loopR (α := Nat × (List Int)) [0, 1, 4, 5] (fun (a5 : Nat × (List Int)) => [(6, .int (a5.1))]) (fun (a5 : Nat × (List Int)) (h : Heap) (_ : Nat → Nat) => ((a5.1) ≤ ms.length) ∧ ((a5.2).length = 3) ∧ (cntL p ms = (ms.drop (a5.1)).foldl (cntStep p) (a5.2)) ∧ (∀ c ∈ (a5.2), 0 ≤ c ∧ c ≤ 100000 * ((a5.1) : Int)) ∧ (h (4, 0) = some (.rows 3 [[.int 0, .int 0, .int 0]])) ∧ (h (5, 0) = some (.rows 3 [(a5.2).map PV.int]))) (fun (a5 : Nat × (List Int)) => ms.length - (a5.1)) (0, [0, 0, 0]) (by exact ⟨rfl, trivial⟩) (by exact ⟨by exact Nat.zero_le _, by exact rfl, by exact rfl, by (intro c hc; simp at hc; omega), ((hset_ne (key_ne rfl)).trans (hset_self _ _ _)), (hset_self _ _ _)⟩) fun a5 r6 h7 c8 hj9 => ?_
  obtain ⟨k, cs⟩ := a5
  obtain ⟨hk, hc, hinv, hb, hihj9_0, hihj9_1⟩ := hj9
  try dsimp only at hk
  try dsimp only at hc
  try dsimp only at hinv
  try dsimp only at hb
  try dsimp only at hihj9_0
  try dsimp only at hihj9_1
  show pwp _ _ (loopQ _ _ _) ⟨sets (mix _ _ _) [(6, .int k)], _, _⟩
  refine pwp_seq_seq ?_
  refine pwp_seq_plain rfl fun K10 hK10 => ?_
  refine p_step rfl (e_move (v := .sc _) rfl) trivial ?_
  refine p_step rfl (e_move (v := .lit _ _ _) rfl) trivial ?_
  refine p_step rfl (e_len rfl (by kernel_rfl)) trivial ?_
  refine p_step rfl (e_lt rfl rfl) trivial ?_
  refine p_end (hK10 _ ?_); clear hK10 K10
  refine pwp_seq_cond rfl fun K11 hK11 => ⟨fun hb12 => ?_, fun hb12 => ?_⟩
  ·have hb12R := hb12; try simp only [z1, z2, z3, z4, z5, z6, ne_eq, z7, z8, z9, z10, z11, z12] at hb12
   obtain ⟨x, hx, hd, ht⟩ := get_lt (xs := ms) (i := k) (by omega)
   rw [hd] at hinv; simp only [List.foldl_cons] at hinv
   have hxm := hok x (List.mem_of_getElem? hx)
   have hbx := cs_bnd hb hc hxm
   have hk2 := hxm.1; have hk3 := hxm.2
   refine pwp_skip ?_
   refine seq_norm (hK11 _ ?_); clear hK11 K11
   refine pwp_seq_block fun K13 hK13 => ?_
   refine pwp_seq_plain rfl fun K14 hK14 => ?_
   refine p_step rfl (e_move (v := .lit _ _ _) rfl) trivial ?_
   refine p_step rfl (e_move (v := .sc _) rfl) trivial ?_
   refine p_step rfl (e_ixa rfl rfl (by kernel_rfl) (by kernel_rfl) (by simp only [List.length_map]; omega)) trivial ?_
   refine p_step rfl (e_fa (pl := [(0, 1, false), (1, 1, false), (2, 1, false), (3, 1, false)]) rfl (by kernel_rfl) (by kernel_rfl) (by decide) rfl) trivial ?_
   refine p_step rfl (e_load (v := .sc _) rfl (by kernel_rfl) (by kernel_rfl) (by kernel_rfl) (by simp only [List.length_map]; omega) (by decide) ((cell_map hx _).trans rfl)) trivial ?_
   refine p_step rfl (e_move (v := .sc _) rfl) trivial ?_
   refine p_step rfl (e_seq rfl rfl) trivial ?_
   refine p_end (hK14 _ ?_); clear hK14 K14
   refine pwp_cond rfl (fun hb15 => ?_) (fun hb15 => ?_)
   ·have hb15R := hb15; try simp only [z1, z2, z3, z4, z5, z6, ne_eq, z7, z8, z9, z10, z11, z12] at hb15
    refine pwp_gops rfl fun K16 hK16 => ?_
    refine s_begin ?_
    refine s_step [] (by simp) rfl rfl rfl rfl (e_move (v := .lit _ _ _) rfl) trivial ?_
    refine s_step [] (by simp) rfl rfl rfl rfl (e_move (v := .sc _) rfl) trivial ?_
    refine s_step [] (by simp) rfl rfl rfl rfl (e_ixa rfl rfl (by kernel_rfl) (by kernel_rfl) (by simp only [List.length_map]; omega)) trivial ?_
    refine s_step [] (by simp) rfl rfl rfl rfl (e_fa (pl := [(0, 1, false), (1, 1, false), (2, 1, false), (3, 1, false)]) rfl (by kernel_rfl) (by kernel_rfl) (by decide) rfl) trivial ?_
    refine s_step [] (by simp) rfl rfl rfl rfl (e_load (v := .sc _) rfl (by kernel_rfl) (by kernel_rfl) (by kernel_rfl) (by simp only [List.length_map]; omega) (by decide) ((cell_map hx _).trans rfl)) trivial ?_
    refine s_step [] (by simp) rfl rfl rfl rfl (e_move (v := .lit _ _ _) rfl) trivial ?_
    refine s_step [] (by simp) rfl rfl rfl rfl (e_move (v := .sc _) rfl) trivial ?_
    refine s_step [] (by simp) rfl rfl rfl rfl (e_ixa rfl rfl (by kernel_rfl) (by kernel_rfl) (by simp only [List.length_map]; omega)) trivial ?_
    refine s_step [] (by simp) rfl rfl rfl rfl (e_fa (pl := [(0, 1, false), (1, 1, false), (2, 1, false), (3, 1, false)]) rfl (by kernel_rfl) (by kernel_rfl) (by decide) rfl) trivial ?_
    refine s_step [] (by simp) rfl rfl rfl rfl (e_load (v := .sc _) rfl (by kernel_rfl) (by kernel_rfl) (by kernel_rfl) (by simp only [List.length_map]; omega) (by decide) ((cell_map hx _).trans rfl)) trivial ?_
    refine s_step [] (by simp) rfl rfl rfl rfl (e_ixaP (n := 3) (e := 3) rfl rfl (by kernel_rfl) (by kernel_rfl) (by omega)) trivial ?_
    refine s_step [5] (by simp) rfl rfl rfl rfl (e_loadH (v := .sc _) rfl hihj9_1 (by kernel_rfl) (by kernel_rfl) (by kernel_rfl) (by exact Nat.zero_lt_one) (by omega) (cs_get hc hxm)) trivial ?_
    refine s_step [] (by simp) rfl rfl rfl rfl (e_move (v := .lit _ _ _) rfl) trivial ?_
    refine s_step [] (by simp) rfl rfl rfl rfl (e_move (v := .sc _) rfl) trivial ?_
    refine s_step [] (by simp) rfl rfl rfl rfl (e_ixa rfl rfl (by kernel_rfl) (by kernel_rfl) (by simp only [List.length_map]; omega)) trivial ?_
    refine s_step [] (by simp) rfl rfl rfl rfl (e_fa (pl := [(0, 1, false), (1, 1, false), (2, 1, false), (3, 1, false)]) rfl (by kernel_rfl) (by kernel_rfl) (by decide) rfl) trivial ?_
    refine s_step [] (by simp) rfl rfl rfl rfl (e_load (v := .sc _) rfl (by kernel_rfl) (by kernel_rfl) (by kernel_rfl) (by simp only [List.length_map]; omega) (by decide) ((cell_map hx _).trans rfl)) trivial ?_
    refine s_step [] (by simp) rfl rfl rfl rfl (e_add rfl rfl (by omega)) trivial ?_
    refine s_step [] (by simp) rfl rfl rfl rfl (e_ixaP (n := 3) (e := 3) rfl rfl (by kernel_rfl) (by kernel_rfl) (by omega)) trivial ?_
    refine s_store [5] (by simp) rfl rfl (e_storeC rfl hihj9_1 rfl rfl (by simp [hc]) (by omega) (by kernel_rfl) rfl (by kernel_rfl)) trivial ?_
    refine s_end (ds := []) (by kernel_rfl) (by kernel_rfl) (hK16 _ ?_); clear hK16 K16
    refine block_norm ?_
    refine seq_norm (hK13 _ ?_); clear hK13 K13
    refine pwp_plain rfl fun K17 hK17 => ?_
    refine p_step rfl (e_move (v := .sc _) rfl) trivial ?_
    refine p_step rfl (e_add rfl rfl (by omega)) trivial ?_
    refine p_step rfl (e_assign (v := .sc _) rfl) trivial ?_
    refine p_end (hK17 _ ?_); clear hK17 K17
    exact loop_again ((k + 1, cntStep p cs x)) (by show _ < _; simp only; omega) ⟨rfl, rfl, rfl, rfl, trivial⟩ ⟨rfl, trivial⟩ (by exact ⟨by show _ + 1 ≤ _; omega, by exact (cntStep_len p cs x).trans hc, by exact hinv, by exact cs_next hb hc hxm, ((hset_ne (key_ne rfl)).trans hihj9_0), ((hset_self _ _ _).trans (by first | exact cs_yes (by assumption) | exact cs_no (by assumption)))⟩)
   ·have hb15R := hb15; try simp only [z1, z2, z3, z4, z5, z6, ne_eq, z7, z8, z9, z10, z11, z12] at hb15
    refine pwp_skip ?_
    refine block_norm ?_
    refine seq_norm (hK13 _ ?_); clear hK13 K13
    refine pwp_plain rfl fun K18 hK18 => ?_
    refine p_step rfl (e_move (v := .sc _) rfl) trivial ?_
    refine p_step rfl (e_add rfl rfl (by omega)) trivial ?_
    refine p_step rfl (e_assign (v := .sc _) rfl) trivial ?_
    refine p_end (hK18 _ ?_); clear hK18 K18
    exact loop_again ((k + 1, cntStep p cs x)) (by show _ < _; simp only; omega) ⟨rfl, rfl, rfl, rfl, trivial⟩ ⟨rfl, trivial⟩ (by exact ⟨by show _ + 1 ≤ _; omega, by exact (cntStep_len p cs x).trans hc, by exact hinv, by exact cs_next hb hc hxm, hihj9_0, (hihj9_1.trans (by first | exact cs_yes (by assumption) | exact cs_no (by assumption)))⟩)
  ·have hb12R := hb12; try simp only [z1, z2, z3, z4, z5, z6, ne_eq, z7, z8, z9, z10, z11, z12] at hb12
   obtain rfl : k = ms.length := by omega
   rw [List.drop_length] at hinv; simp only [List.foldl_nil] at hinv
   refine pwp_exit ?_
   refine exit_seq ?_
   clear hK11 K11
   refine exit_loop ?_
   refine exit_here ?_
   refine seq_norm (hK4 _ ?_); clear hK4 K4
   refine pwp_seq_plain rfl fun K19 hK19 => ?_
   refine p_step rfl (e_loadHA (n := 3) rfl hihj9_1 (by kernel_rfl) (by kernel_rfl) (by kernel_rfl) (by exact Nat.zero_lt_one) (by decide) (agg_whole (by simp [hc]))) trivial ?_
   refine p_store rfl (e_storeA rfl hihj9_0 rfl rfl (by simp [hc]) (by kernel_rfl) (all_ints cs) (by kernel_rfl)) trivial ?_
   refine p_end (hK19 _ ?_); clear hK19 K19
   refine pwp_ret ?_
   refine endC rfl (hset_self _ _ _) (by kernel_rfl) (by kernel_rfl) (by kernel_rfl) (by simp [hc]) ?_
   rw [hinv]
   exact .clean (.agg _ fun q hq => by obtain ⟨z, _, rfl⟩ := List.mem_map.1 hq; exact .sc _)

end Go.Proofs.Ytdbpfhbppcpbbaa

/- Whether moves are right, by the reference. No conditions. -/
set_option linter.unusedSimpArgs false
set_option linter.unusedVariables false
set_option maxRecDepth 100000
namespace Go.Proofs.Ytdbpfhbppcpbbaa
open Go Go.Pv
/-! ### Right moves -/
theorem cell_n {L : List Int} (j : Nat) (hj : j < L.length) : cellAt [L.map PV.int] 0 j = .int (L.getD j 0) := by
  simp [cellAt, List.getD_eq_getElem?_getD, List.getElem?_eq_getElem hj]
theorem cnt_all {p : ByteArray} : ∀ (l : List Move) (cs : List Int) (k : Nat), cs.length = 3 → (∀ c ∈ cs, 0 ≤ c ∧ c ≤ 100000 * (k : Int)) → (∀ m ∈ l, okM m) → ∀ c ∈ l.foldl (cntStep p) cs, 0 ≤ c ∧ c ≤ 100000 * ((k + l.length : Nat) : Int)
  | [], _, _, _, hb, _ => hb
  | m :: l, cs, k, hc, hb, hok => by
    have h1 := cnt_all (p := p) l (cntStep p cs m) (k + 1) ((cntStep_len p cs m).trans hc) (cs_next hb hc (hok m (by simp))) fun x hx => hok x (by simp [hx])
    rw [List.foldl_cons]
    intro c hcm
    have := h1 c hcm
    rw [List.length_cons]
    omega
theorem cnt_bnd {p : ByteArray} {l : List Move} (hok : ∀ m ∈ l, okM m) (hl : l.length ≤ 305) (j : Nat) : 0 ≤ (cntL p l).getD j 0 ∧ (cntL p l).getD j 0 ≤ 30500000 := by
  rw [List.getD_eq_getElem?_getD]
  cases hq : (cntL p l)[j]? with
  | none => simp
  | some c =>
    have := cnt_all l [0, 0, 0] 0 rfl (by intro c hc; simp at hc; omega) hok c (List.mem_of_getElem? hq)
    simp only [Option.getD_some]
    omega
def badM (m : Move) : Prop := ¬ (0 ≤ m.day ∧ m.day ≤ 20000) ∨ ¬ (0 ≤ m.kind ∧ m.kind ≤ 2) ∨ ¬ (1 ≤ m.count ∧ m.count ≤ 100000)
instance (m : Move) : Decidable (badM m) := inferInstanceAs (Decidable (_ ∨ _))
/-- What is on hire of a part behind some moves. -/
def stkL (pre : List Move) (p : ByteArray) : Int := (cntL p pre).getD 0 0 - (cntL p pre).getD 1 0 - (cntL p pre).getD 2 0
def mvE (ts : List Term) (pre : List Move) (last : Int) (m : Move) : Int :=
  if badM m then 2 else if m.day < last then 10 else if termIx ts m.part < 0 then 6 else if m.kind ≠ 0 ∧ stkL pre m.part < m.count then 22 else 0
def goM (ts : List Term) : List Move → Int → List Move → Int
  | _, _, [] => 0
  | pre, last, m :: l => if mvE ts pre last m = 0 then goM ts (pre ++ [m]) m.day l else mvE ts pre last m
/-- The first error of moves, or 0. -/
def movE (ts : List Term) (ms : List Move) : Int := if 300 < ms.length then 8 else goM ts [] 0 ms
theorem movE_big {ts : List Term} {ms : List Move} (h : 300 < ms.length) : 8 = movE ts ms := by rw [movE, if_pos h]
theorem movE_go {ts : List Term} {ms : List Move} {z : Int} (h : ms.length ≤ 300) (h2 : goM ts [] 0 ms = z) : z = movE ts ms := by rw [movE, if_neg (by omega), h2]
section
variable {ts : List Term} {ms pre l : List Move} {m : Move} {last z : Int} {k : Nat}
theorem mvE_2 (h : badM m) : mvE ts pre last m = 2 := by rw [mvE, if_pos h]
theorem mvE_10 (h : ¬ badM m) (h1 : m.day < last) : mvE ts pre last m = 10 := by rw [mvE, if_neg h, if_pos h1]
theorem mvE_6 (h : ¬ badM m) (h1 : ¬ m.day < last) (h2 : termIx ts m.part < 0) : mvE ts pre last m = 6 := by rw [mvE, if_neg h, if_neg h1, if_pos h2]
theorem mvE_22 (h : ¬ badM m) (h1 : ¬ m.day < last) (h2 : ¬ termIx ts m.part < 0) (h3 : m.kind ≠ 0 ∧ stkL pre m.part < m.count) : mvE ts pre last m = 22 := by rw [mvE, if_neg h, if_neg h1, if_neg h2, if_pos h3]
theorem mvE_0 (h : ¬ badM m) (h1 : ¬ m.day < last) (h2 : ¬ termIx ts m.part < 0) (h3 : ¬ (m.kind ≠ 0 ∧ stkL pre m.part < m.count)) : mvE ts pre last m = 0 := by rw [mvE, if_neg h, if_neg h1, if_neg h2, if_neg h3]
theorem goM_stop (hinv : goM ts [] 0 ms = goM ts pre last (m :: l)) (hz : z ≠ 0) (hE : mvE ts pre last m = z) : goM ts [] 0 ms = z := by rw [hinv, goM, hE, if_neg hz]
theorem goM_next (hinv : goM ts [] 0 ms = goM ts pre last (m :: l)) (hE : mvE ts pre last m = 0) : goM ts [] 0 ms = goM ts (pre ++ [m]) m.day l := by rw [hinv, goM, if_pos hE]
theorem prev_get (h : (0 : Int) < (k : Int)) (hk : k ≤ ms.length) : ∃ y, ms[((k : Int) - (1)).toNat]? = some y := ⟨_, List.getElem?_eq_getElem (by omega)⟩
theorem prev_next {x : Move} (hx : ms[k]? = some x) : ∀ y, ms[(((k + 1 : Nat) : Int) - (1)).toNat]? = some y → y.day = x.day := by
  intro y hy
  rw [show (((k + 1 : Nat) : Int) - (1)).toNat = k by omega, hx] at hy
  cases hy; rfl
theorem ok_next {x : Move} (h : ∀ m ∈ ms.take k, okM m) (hx : ms[k]? = some x) (hb : ¬ badM x) : ∀ m ∈ ms.take (k + 1), okM m := by
  intro y hy
  rw [List.take_add_one, hx] at hy
  rcases List.mem_append.1 hy with hy | hy
  · exact h y hy
  · simp at hy; subst hy
    unfold badM at hb; unfold okM; omega
end

theorem fr36 : (inFrame Try.f36.ntmps (Try.f36.body.getD .skip) && Try.f36.results.toList.all (resScope Try.f36.ntmps)) = true := by kernel_rfl
theorem refCheckMoves (ts : List Term) (ms : List Move) (hlt : ts.length ≤ 65) (hl : ms.length ≤ 305) : PCalls Try.prog 36 [.lit true 4 (ts.map Term.enc), .lit true 4 (ms.map Move.enc)] (.int (movE ts ms)) := by
  refine PCalls.of_code Try.func36 rfl rfl (by kernel_rfl) mixed fr36 (by show _ ≤ 77; simp) (.sc _) ?_
  refine pwp_seq_plain rfl fun K1 hK1 => ?_
  refine p_step rfl (e_assign (v := .sc _) rfl) trivial ?_
  refine p_end (hK1 _ ?_); clear hK1 K1
  refine pwp_seq_seq ?_
  refine pwp_seq_plain rfl fun K2 hK2 => ?_
  refine p_step rfl (e_move (v := .lit _ _ _) rfl) trivial ?_
  refine p_step rfl (e_len rfl (by kernel_rfl)) trivial ?_
  refine p_step rfl (e_gt rfl rfl) trivial ?_
  refine p_end (hK2 _ ?_); clear hK2 K2
  refine pwp_seq_cond rfl fun K3 hK3 => ⟨fun hb4 => ?_, fun hb4 => ?_⟩
  ·have hb4R := hb4; (try simp only [z1, z2, z3, z4, z5, z6, ne_eq, z7, z8, z9, z10, z11, z12] at hb4); (try (have hyy := prev_get (ms := ms) hb4 hk; obtain ⟨y, hy⟩ := hyy))
   refine pwp_seq_plain rfl fun K5 hK5 => ?_
   refine p_step rfl (e_assign (v := .sc _) rfl) trivial ?_
   refine p_end (hK5 _ ?_); clear hK5 K5
   refine pwp_ret ?_
   refine ret_seq ?_
   refine end1 (v := .sc _) rfl ?_
   first
     | exact out_i (movE_big (by omega))
     | exact out_i (movE_go (by omega) hinv)
     | exact out_i (movE_go (by omega) (goM_stop hinv (by decide) (mvE_2 (by unfold badM; omega))))
     | exact out_i (movE_go (by omega) (goM_stop hinv (by decide) (mvE_10 (by unfold badM; omega) (by first | omega | (have hl0 := hlast.1 (by omega); omega) | (have hl1 := hlast.2 y hy (by omega); omega)))))
     | exact out_i (movE_go (by omega) (goM_stop hinv (by decide) (mvE_6 (by unfold badM; omega) (by first | omega | (have hl0 := hlast.1 (by omega); omega) | (have hl1 := hlast.2 y hy (by omega); omega)) (by omega))))
     | exact out_i (movE_go (by omega) (goM_stop hinv (by decide) (mvE_22 (by unfold badM; omega) (by first | omega | (have hl0 := hlast.1 (by omega); omega) | (have hl1 := hlast.2 y hy (by omega); omega)) (by omega) (by unfold stkL; omega))))
  ·have hb4R := hb4; (try simp only [z1, z2, z3, z4, z5, z6, ne_eq, z7, z8, z9, z10, z11, z12] at hb4); (try (have hyy := prev_get (ms := ms) hb4 hk; obtain ⟨y, hy⟩ := hyy))
   refine pwp_skip ?_
   refine seq_norm (hK3 _ ?_); clear hK3 K3
   refine pwp_seq_seq ?_
   refine pwp_seq_plain rfl fun K6 hK6 => ?_
   refine p_step rfl (e_assign (v := .sc _) rfl) trivial ?_
   refine p_end (hK6 _ ?_); clear hK6 K6
   refine pwp_seq_block fun K7 hK7 => ?_
   refine pwp_loopR (α := Nat × Int) [0, 1] (fun (a8 : Nat × Int) => [(5, .int (a8.1))]) (fun (a8 : Nat × Int) (h : Heap) (_ : Nat → Nat) => ((a8.1) ≤ ms.length) ∧ (goM ts [] 0 ms = goM ts (ms.take (a8.1)) (a8.2) (ms.drop (a8.1))) ∧ (((a8.1) = 0 → (a8.2) = 0) ∧ ∀ y, ms[(((a8.1) : Int) - (1)).toNat]? = some y → 0 < (a8.1) → y.day = (a8.2)) ∧ (∀ m ∈ ms.take (a8.1), okM m)) (fun (a8 : Nat × Int) => ms.length - (a8.1)) (0, 0) (by exact ⟨rfl, trivial⟩) (by exact ⟨by exact Nat.zero_le _, by exact rfl, by exact ⟨fun _ => rfl, fun y _ h => absurd h (Nat.lt_irrefl 0)⟩, by (intro y hy; simp at hy)⟩) fun a8 r9 h10 c11 hj12 => ?_
   obtain ⟨k, last⟩ := a8
   obtain ⟨hk, hinv, hlast, hokk⟩ := hj12
   try dsimp only at hk
   try dsimp only at hinv
   try dsimp only at hlast
   try dsimp only at hokk
   show pwp _ _ (loopQ _ _ _) ⟨sets (mix _ _ _) [(5, .int k)], _, _⟩
   refine pwp_seq_seq ?_
   refine pwp_seq_plain rfl fun K13 hK13 => ?_
   refine p_step rfl (e_move (v := .sc _) rfl) trivial ?_
   refine p_step rfl (e_move (v := .lit _ _ _) rfl) trivial ?_
   refine p_step rfl (e_len rfl (by kernel_rfl)) trivial ?_
   refine p_step rfl (e_lt rfl rfl) trivial ?_
   refine p_end (hK13 _ ?_); clear hK13 K13
   refine pwp_seq_cond rfl fun K14 hK14 => ⟨fun hb15 => ?_, fun hb15 => ?_⟩
   ·have hb15R := hb15; (try simp only [z1, z2, z3, z4, z5, z6, ne_eq, z7, z8, z9, z10, z11, z12] at hb15); (try (have hyy := prev_get (ms := ms) hb15 hk; obtain ⟨y, hy⟩ := hyy))
    obtain ⟨x, hx, hd, ht⟩ := get_lt (xs := ms) (i := k) (by omega)
    rw [hd] at hinv
    have q0 := cnt_bnd (p := x.part) hokk (by simp only [List.length_take]; omega) 0
    have q1 := cnt_bnd (p := x.part) hokk (by simp only [List.length_take]; omega) 1
    have q2 := cnt_bnd (p := x.part) hokk (by simp only [List.length_take]; omega) 2
    refine pwp_skip ?_
    refine seq_norm (hK14 _ ?_); clear hK14 K14
    refine pwp_seq_block fun K16 hK16 => ?_
    refine pwp_seq_plain rfl fun K17 hK17 => ?_
    refine p_step rfl (e_move (v := .lit _ _ _) rfl) trivial ?_
    refine p_step rfl (e_move (v := .sc _) rfl) trivial ?_
    refine p_step rfl (e_ixa rfl rfl (by kernel_rfl) (by kernel_rfl) (by simp only [List.length_map]; omega)) trivial ?_
    refine p_step rfl (e_loadA (n := 4) rfl (by kernel_rfl) (by kernel_rfl) (by kernel_rfl) (by simp only [List.length_map]; omega) (by decide) (by first | exact agg_map hx rfl)) trivial ?_
    refine p_new rfl (e_alloc (cs := [.int 0, .int 0, .str ByteArray.empty, .int 0]) (n := 4) (by kernel_rfl) rfl (by decide)) (ob_alloc (by decide)) ?_
    refine p_store rfl (e_storeA rfl (hset_self _ _ _) rfl rfl rfl (by kernel_rfl) rfl (by kernel_rfl)) trivial ?_
    refine p_end (hK17 _ ?_); clear hK17 K17
    refine pwp_seq_seq ?_
    refine pwp_seq_gops rfl fun K18 hK18 => ?_
    refine g_begin ?_
    refine g_step rfl rfl rfl rfl (e_faP (pl := [(0, 1, false), (1, 1, false), (2, 1, false), (3, 1, false)]) rfl (by kernel_rfl) (by kernel_rfl) (by decide) rfl) trivial ?_
    refine g_step rfl rfl rfl rfl (e_loadH (v := .sc _) rfl (hset_self _ _ _) (by kernel_rfl) (by kernel_rfl) (by kernel_rfl) (by exact Nat.zero_lt_one) (by decide) rfl) trivial ?_
    refine g_call rfl rfl rfl rfl (.cons inn_sc .nil) (IsDay _) ?_
    refine g_step rfl rfl rfl rfl (e_not rfl) trivial ?_
    refine g_step rfl rfl rfl rfl (e_move (v := .sc _) rfl) trivial ?_
    refine g_cases (fun hb19 => ?_) (fun hb19 => ?_)
    ·have hb19R := hb19; (try simp only [z1, z2, z3, z4, z5, z6, ne_eq, z7, z8, z9, z10, z11, z12] at hb19); (try (have hyy := prev_get (ms := ms) hb19 hk; obtain ⟨y, hy⟩ := hyy))
     refine g_skip rfl rfl rfl ?_
     refine g_skip rfl rfl rfl ?_
     refine g_nocall rfl rfl rfl ?_
     refine g_skip rfl rfl rfl ?_
     refine g_step rfl rfl rfl rfl (e_pickT (v := .sc _) rfl rfl) trivial ?_
     refine g_step rfl rfl rfl rfl (e_move (v := .sc _) rfl) trivial ?_
     refine g_skip rfl rfl rfl ?_
     refine g_skip rfl rfl rfl ?_
     refine g_nocall rfl rfl rfl ?_
     refine g_skip rfl rfl rfl ?_
     refine g_step rfl rfl rfl rfl (e_pickT (v := .sc _) rfl rfl) trivial ?_
     refine g_end (ds := [26, 27, 28, 29, 32, 33, 34, 35]) rfl rfl (hK18 _ ?_); clear hK18 K18
     refine pwp_seq_cond (t := true) rfl fun K20 hK20 => ⟨fun _ => ?_, nofun⟩
     refine pwp_seq_plain rfl fun K21 hK21 => ?_
     refine p_step rfl (e_assign (v := .sc _) rfl) trivial ?_
     refine p_end (hK21 _ ?_); clear hK21 K21
     refine pwp_ret ?_
     refine ret_seq ?_
     refine ret_block ?_
     refine ret_seq ?_
     refine ret_loop ?_
     refine ret_block ?_
     refine ret_seq ?_
     refine end1 (v := .sc _) rfl ?_
     first
       | exact out_i (movE_big (by omega))
       | exact out_i (movE_go (by omega) hinv)
       | exact out_i (movE_go (by omega) (goM_stop hinv (by decide) (mvE_2 (by unfold badM; omega))))
       | exact out_i (movE_go (by omega) (goM_stop hinv (by decide) (mvE_10 (by unfold badM; omega) (by first | omega | (have hl0 := hlast.1 (by omega); omega) | (have hl1 := hlast.2 y hy (by omega); omega)))))
       | exact out_i (movE_go (by omega) (goM_stop hinv (by decide) (mvE_6 (by unfold badM; omega) (by first | omega | (have hl0 := hlast.1 (by omega); omega) | (have hl1 := hlast.2 y hy (by omega); omega)) (by omega))))
       | exact out_i (movE_go (by omega) (goM_stop hinv (by decide) (mvE_22 (by unfold badM; omega) (by first | omega | (have hl0 := hlast.1 (by omega); omega) | (have hl1 := hlast.2 y hy (by omega); omega)) (by omega) (by unfold stkL; omega))))
    ·have hb19R := hb19; (try simp only [z1, z2, z3, z4, z5, z6, ne_eq, z7, z8, z9, z10, z11, z12] at hb19); (try (have hyy := prev_get (ms := ms) hb19 hk; obtain ⟨y, hy⟩ := hyy))
     refine g_step rfl rfl rfl rfl (e_faP (pl := [(0, 1, false), (1, 1, false), (2, 1, false), (3, 1, false)]) rfl (by kernel_rfl) (by kernel_rfl) (by decide) rfl) trivial ?_
     refine g_step rfl rfl rfl rfl (e_loadH (v := .sc _) rfl (hset_self _ _ _) (by kernel_rfl) (by kernel_rfl) (by kernel_rfl) (by exact Nat.zero_lt_one) (by decide) rfl) trivial ?_
     refine g_call rfl rfl rfl rfl (.cons inn_sc (.cons inn_sc (.cons inn_sc .nil))) (Within _ _ _) ?_
     refine g_step rfl rfl rfl rfl (e_not rfl) trivial ?_
     refine g_step rfl rfl rfl rfl (e_pickF (v := .sc _) rfl rfl) trivial ?_
     refine g_step rfl rfl rfl rfl (e_move (v := .sc _) rfl) trivial ?_
     refine g_cases (fun hb22 => ?_) (fun hb22 => ?_)
     ·have hb22R := hb22; (try simp only [z1, z2, z3, z4, z5, z6, ne_eq, z7, z8, z9, z10, z11, z12] at hb22); (try (have hyy := prev_get (ms := ms) hb22 hk; obtain ⟨y, hy⟩ := hyy))
      refine g_skip rfl rfl rfl ?_
      refine g_skip rfl rfl rfl ?_
      refine g_nocall rfl rfl rfl ?_
      refine g_skip rfl rfl rfl ?_
      refine g_step rfl rfl rfl rfl (e_pickT (v := .sc _) rfl rfl) trivial ?_
      refine g_end (ds := [26, 27, 28, 29, 32, 33, 34, 35]) rfl rfl (hK18 _ ?_); clear hK18 K18
      refine pwp_seq_cond (t := true) rfl fun K23 hK23 => ⟨fun _ => ?_, nofun⟩
      refine pwp_seq_plain rfl fun K24 hK24 => ?_
      refine p_step rfl (e_assign (v := .sc _) rfl) trivial ?_
      refine p_end (hK24 _ ?_); clear hK24 K24
      refine pwp_ret ?_
      refine ret_seq ?_
      refine ret_block ?_
      refine ret_seq ?_
      refine ret_loop ?_
      refine ret_block ?_
      refine ret_seq ?_
      refine end1 (v := .sc _) rfl ?_
      first
        | exact out_i (movE_big (by omega))
        | exact out_i (movE_go (by omega) hinv)
        | exact out_i (movE_go (by omega) (goM_stop hinv (by decide) (mvE_2 (by unfold badM; omega))))
        | exact out_i (movE_go (by omega) (goM_stop hinv (by decide) (mvE_10 (by unfold badM; omega) (by first | omega | (have hl0 := hlast.1 (by omega); omega) | (have hl1 := hlast.2 y hy (by omega); omega)))))
        | exact out_i (movE_go (by omega) (goM_stop hinv (by decide) (mvE_6 (by unfold badM; omega) (by first | omega | (have hl0 := hlast.1 (by omega); omega) | (have hl1 := hlast.2 y hy (by omega); omega)) (by omega))))
        | exact out_i (movE_go (by omega) (goM_stop hinv (by decide) (mvE_22 (by unfold badM; omega) (by first | omega | (have hl0 := hlast.1 (by omega); omega) | (have hl1 := hlast.2 y hy (by omega); omega)) (by omega) (by unfold stkL; omega))))
     ·have hb22R := hb22; (try simp only [z1, z2, z3, z4, z5, z6, ne_eq, z7, z8, z9, z10, z11, z12] at hb22); (try (have hyy := prev_get (ms := ms) hb22 hk; obtain ⟨y, hy⟩ := hyy))
      refine g_step rfl rfl rfl rfl (e_faP (pl := [(0, 1, false), (1, 1, false), (2, 1, false), (3, 1, false)]) rfl (by kernel_rfl) (by kernel_rfl) (by decide) rfl) trivial ?_
      refine g_step rfl rfl rfl rfl (e_loadH (v := .sc _) rfl (hset_self _ _ _) (by kernel_rfl) (by kernel_rfl) (by kernel_rfl) (by exact Nat.zero_lt_one) (by decide) rfl) trivial ?_
      refine g_call rfl rfl rfl rfl (.cons inn_sc (.cons inn_sc (.cons inn_sc .nil))) (Within _ _ _) ?_
      refine g_step rfl rfl rfl rfl (e_not rfl) trivial ?_
      refine g_step rfl rfl rfl rfl (e_pickF (v := .sc _) rfl rfl) trivial ?_
      refine g_end (ds := [26, 27, 28, 29, 32, 33, 34, 35]) rfl rfl (hK18 _ ?_); clear hK18 K18
      refine pwp_seq_cond rfl fun K25 hK25 => ⟨fun hb26 => ?_, fun hb26 => ?_⟩
      ·have hb26R := hb26; (try simp only [z1, z2, z3, z4, z5, z6, ne_eq, z7, z8, z9, z10, z11, z12] at hb26); (try (have hyy := prev_get (ms := ms) hb26 hk; obtain ⟨y, hy⟩ := hyy))
       refine pwp_seq_plain rfl fun K27 hK27 => ?_
       refine p_step rfl (e_assign (v := .sc _) rfl) trivial ?_
       refine p_end (hK27 _ ?_); clear hK27 K27
       refine pwp_ret ?_
       refine ret_seq ?_
       refine ret_block ?_
       refine ret_seq ?_
       refine ret_loop ?_
       refine ret_block ?_
       refine ret_seq ?_
       refine end1 (v := .sc _) rfl ?_
       first
         | exact out_i (movE_big (by omega))
         | exact out_i (movE_go (by omega) hinv)
         | exact out_i (movE_go (by omega) (goM_stop hinv (by decide) (mvE_2 (by unfold badM; omega))))
         | exact out_i (movE_go (by omega) (goM_stop hinv (by decide) (mvE_10 (by unfold badM; omega) (by first | omega | (have hl0 := hlast.1 (by omega); omega) | (have hl1 := hlast.2 y hy (by omega); omega)))))
         | exact out_i (movE_go (by omega) (goM_stop hinv (by decide) (mvE_6 (by unfold badM; omega) (by first | omega | (have hl0 := hlast.1 (by omega); omega) | (have hl1 := hlast.2 y hy (by omega); omega)) (by omega))))
         | exact out_i (movE_go (by omega) (goM_stop hinv (by decide) (mvE_22 (by unfold badM; omega) (by first | omega | (have hl0 := hlast.1 (by omega); omega) | (have hl1 := hlast.2 y hy (by omega); omega)) (by omega) (by unfold stkL; omega))))
      ·have hb26R := hb26; (try simp only [z1, z2, z3, z4, z5, z6, ne_eq, z7, z8, z9, z10, z11, z12] at hb26); (try (have hyy := prev_get (ms := ms) hb26 hk; obtain ⟨y, hy⟩ := hyy))
       refine pwp_skip ?_
       refine seq_norm (hK25 _ ?_); clear hK25 K25
       refine pwp_seq_seq ?_
       refine pwp_seq_gops rfl fun K28 hK28 => ?_
       refine g_begin ?_
       refine g_step rfl rfl rfl rfl (e_move (v := .sc _) rfl) trivial ?_
       refine g_step rfl rfl rfl rfl (e_gt rfl rfl) trivial ?_
       refine g_step rfl rfl rfl rfl (e_move (v := .sc _) rfl) trivial ?_
       refine g_cases (fun hb29 => ?_) (fun hb29 => ?_)
       ·have hb29R := hb29; (try simp only [z1, z2, z3, z4, z5, z6, ne_eq, z7, z8, z9, z10, z11, z12] at hb29); (try (have hyy := prev_get (ms := ms) hb29 hk; obtain ⟨y, hy⟩ := hyy))
        refine g_step rfl rfl rfl rfl (e_faP (pl := [(0, 1, false), (1, 1, false), (2, 1, false), (3, 1, false)]) rfl (by kernel_rfl) (by kernel_rfl) (by decide) rfl) trivial ?_
        refine g_step rfl rfl rfl rfl (e_loadH (v := .sc _) rfl (hset_self _ _ _) (by kernel_rfl) (by kernel_rfl) (by kernel_rfl) (by exact Nat.zero_lt_one) (by decide) rfl) trivial ?_
        refine g_step rfl rfl rfl rfl (e_move (v := .lit _ _ _) rfl) trivial ?_
        refine g_step rfl rfl rfl rfl (e_move (v := .sc _) rfl) trivial ?_
        refine g_step rfl rfl rfl rfl (e_sub rfl rfl (by omega)) trivial ?_
        refine g_step rfl rfl rfl rfl (e_ixa rfl rfl (by kernel_rfl) (by kernel_rfl) (by simp only [List.length_map]; omega)) trivial ?_
        refine g_step rfl rfl rfl rfl (e_fa (pl := [(0, 1, false), (1, 1, false), (2, 1, false), (3, 1, false)]) rfl (by kernel_rfl) (by kernel_rfl) (by decide) rfl) trivial ?_
        refine g_step rfl rfl rfl rfl (e_load (v := .sc _) rfl (by kernel_rfl) (by kernel_rfl) (by kernel_rfl) (by simp only [List.length_map]; omega) (by decide) ((cell_map hy _).trans rfl)) trivial ?_
        refine g_step rfl rfl rfl rfl (e_lt rfl rfl) trivial ?_
        refine g_step rfl rfl rfl rfl (e_pickT (v := .sc _) rfl rfl) trivial ?_
        refine g_end (ds := [40, 41, 42, 43, 44, 45, 46, 47, 48]) (by kernel_rfl) rfl (hK28 _ ?_); clear hK28 K28
        refine pwp_seq_cond rfl fun K30 hK30 => ⟨fun hb31 => ?_, fun hb31 => ?_⟩
        ·have hb31R := hb31; (try simp only [z1, z2, z3, z4, z5, z6, ne_eq, z7, z8, z9, z10, z11, z12] at hb31); (try (have hyy := prev_get (ms := ms) hb31 hk; obtain ⟨y, hy⟩ := hyy))
         refine pwp_seq_plain rfl fun K32 hK32 => ?_
         refine p_step rfl (e_assign (v := .sc _) rfl) trivial ?_
         refine p_end (hK32 _ ?_); clear hK32 K32
         refine pwp_ret ?_
         refine ret_seq ?_
         refine ret_block ?_
         refine ret_seq ?_
         refine ret_loop ?_
         refine ret_block ?_
         refine ret_seq ?_
         refine end1 (v := .sc _) rfl ?_
         first
           | exact out_i (movE_big (by omega))
           | exact out_i (movE_go (by omega) hinv)
           | exact out_i (movE_go (by omega) (goM_stop hinv (by decide) (mvE_2 (by unfold badM; omega))))
           | exact out_i (movE_go (by omega) (goM_stop hinv (by decide) (mvE_10 (by unfold badM; omega) (by first | omega | (have hl0 := hlast.1 (by omega); omega) | (have hl1 := hlast.2 y hy (by omega); omega)))))
           | exact out_i (movE_go (by omega) (goM_stop hinv (by decide) (mvE_6 (by unfold badM; omega) (by first | omega | (have hl0 := hlast.1 (by omega); omega) | (have hl1 := hlast.2 y hy (by omega); omega)) (by omega))))
           | exact out_i (movE_go (by omega) (goM_stop hinv (by decide) (mvE_22 (by unfold badM; omega) (by first | omega | (have hl0 := hlast.1 (by omega); omega) | (have hl1 := hlast.2 y hy (by omega); omega)) (by omega) (by unfold stkL; omega))))
        ·have hb31R := hb31; (try simp only [z1, z2, z3, z4, z5, z6, ne_eq, z7, z8, z9, z10, z11, z12] at hb31); (try (have hyy := prev_get (ms := ms) hb31 hk; obtain ⟨y, hy⟩ := hyy))
         refine pwp_skip ?_
         refine seq_norm (hK30 _ ?_); clear hK30 K30
         refine pwp_seq_seq ?_
         refine pwp_seq_plain rfl fun K33 hK33 => ?_
         refine p_step rfl (e_move (v := .lit _ _ _) rfl) trivial ?_
         refine p_step rfl (e_faP (pl := [(0, 1, false), (1, 1, false), (2, 1, false), (3, 1, false)]) rfl (by kernel_rfl) (by kernel_rfl) (by decide) rfl) trivial ?_
         refine p_step rfl (e_loadH (v := .sc _) rfl (hset_self _ _ _) (by kernel_rfl) (by kernel_rfl) (by kernel_rfl) (by exact Nat.zero_lt_one) (by decide) rfl) trivial ?_
         refine p_call rfl (.cons inn_lit (.cons inn_sc .nil)) (Term55 _ _ hlt) ?_
         refine p_step rfl (e_lt rfl rfl) trivial ?_
         refine p_end (hK33 _ ?_); clear hK33 K33
         refine pwp_seq_cond rfl fun K34 hK34 => ⟨fun hb35 => ?_, fun hb35 => ?_⟩
         ·have hb35R := hb35; (try simp only [z1, z2, z3, z4, z5, z6, ne_eq, z7, z8, z9, z10, z11, z12] at hb35); (try (have hyy := prev_get (ms := ms) hb35 hk; obtain ⟨y, hy⟩ := hyy))
          refine pwp_seq_plain rfl fun K36 hK36 => ?_
          refine p_step rfl (e_assign (v := .sc _) rfl) trivial ?_
          refine p_end (hK36 _ ?_); clear hK36 K36
          refine pwp_ret ?_
          refine ret_seq ?_
          refine ret_block ?_
          refine ret_seq ?_
          refine ret_loop ?_
          refine ret_block ?_
          refine ret_seq ?_
          refine end1 (v := .sc _) rfl ?_
          first
            | exact out_i (movE_big (by omega))
            | exact out_i (movE_go (by omega) hinv)
            | exact out_i (movE_go (by omega) (goM_stop hinv (by decide) (mvE_2 (by unfold badM; omega))))
            | exact out_i (movE_go (by omega) (goM_stop hinv (by decide) (mvE_10 (by unfold badM; omega) (by first | omega | (have hl0 := hlast.1 (by omega); omega) | (have hl1 := hlast.2 y hy (by omega); omega)))))
            | exact out_i (movE_go (by omega) (goM_stop hinv (by decide) (mvE_6 (by unfold badM; omega) (by first | omega | (have hl0 := hlast.1 (by omega); omega) | (have hl1 := hlast.2 y hy (by omega); omega)) (by omega))))
            | exact out_i (movE_go (by omega) (goM_stop hinv (by decide) (mvE_22 (by unfold badM; omega) (by first | omega | (have hl0 := hlast.1 (by omega); omega) | (have hl1 := hlast.2 y hy (by omega); omega)) (by omega) (by unfold stkL; omega))))
         ·have hb35R := hb35; (try simp only [z1, z2, z3, z4, z5, z6, ne_eq, z7, z8, z9, z10, z11, z12] at hb35); (try (have hyy := prev_get (ms := ms) hb35 hk; obtain ⟨y, hy⟩ := hyy))
          refine pwp_skip ?_
          refine seq_norm (hK34 _ ?_); clear hK34 K34
          refine pwp_seq_gops rfl fun K37 hK37 => ?_
          refine s_begin ?_
          refine s_step [] (by simp) rfl rfl rfl rfl (e_move (v := .lit _ _ _) rfl) trivial ?_
          refine s_step [] (by simp) rfl rfl rfl rfl (e_move (v := .sc _) rfl) trivial ?_
          refine s_step [] (by simp) rfl rfl rfl rfl (e_upto (n := k) rfl rfl rfl (by omega) (by kernel_rfl) (by kernel_rfl)) trivial ?_
          refine s_step [] (by simp) rfl rfl rfl rfl (e_faP (pl := [(0, 1, false), (1, 1, false), (2, 1, false), (3, 1, false)]) rfl (by kernel_rfl) (by kernel_rfl) (by decide) rfl) trivial ?_
          refine s_step [6] (by simp) rfl rfl rfl rfl (e_loadH (v := .sc _) rfl (hset_self _ _ _) (by kernel_rfl) (by kernel_rfl) (by kernel_rfl) (by exact Nat.zero_lt_one) (by decide) rfl) trivial ?_
          refine s_call (args := [.lit _ _ _, .sc _]) [] (by intro k hk; simp [keysOf, Go.Pv.keyOf] at hk; try (subst hk; simp)) rfl rfl rfl rfl (.cons inn_lit (.cons inn_sc .nil)) (Counts _ _ (by simp only [List.length_take]; omega) hokk) ?_
          refine s_new [] (by simp) rfl rfl rfl rfl (e_alloc (cs := [.int 0, .int 0, .int 0]) (n := 3) (by kernel_rfl) rfl (by decide)) (ob_alloc (by decide)) ?_
          refine s_store [7] (by simp) rfl rfl (e_storeA rfl (hset_self _ _ _) rfl rfl (by rw [List.length_map, cntL_len]) (by kernel_rfl) (all_ints _) (by kernel_rfl)) trivial ?_
          refine s_end (ds := []) (by kernel_rfl) (by kernel_rfl) (hK37 _ ?_); clear hK37 K37
          refine pwp_seq_gops rfl fun K38 hK38 => ?_
          refine g_begin ?_
          refine g_step rfl rfl rfl rfl (e_faP (pl := [(0, 1, false), (1, 1, false), (2, 1, false), (3, 1, false)]) rfl (by kernel_rfl) (by kernel_rfl) (by decide) rfl) trivial ?_
          refine g_step rfl rfl rfl rfl (e_loadH (v := .sc _) rfl ((hset_ne (key_ne rfl)).trans ((hset_ne (key_ne rfl)).trans (hset_self _ _ _))) (by kernel_rfl) (by kernel_rfl) (by kernel_rfl) (by exact Nat.zero_lt_one) (by decide) rfl) trivial ?_
          refine g_step rfl rfl rfl rfl (e_ne rfl rfl) trivial ?_
          refine g_step rfl rfl rfl rfl (e_move (v := .sc _) rfl) trivial ?_
          refine g_cases (fun hb39 => ?_) (fun hb39 => ?_)
          ·have hb39R := hb39; (try simp only [z1, z2, z3, z4, z5, z6, ne_eq, z7, z8, z9, z10, z11, z12] at hb39); (try (have hyy := prev_get (ms := ms) hb39 hk; obtain ⟨y, hy⟩ := hyy))
           refine g_step rfl rfl rfl rfl (e_faP (pl := [(0, 1, false), (1, 1, false), (2, 1, false), (3, 1, false)]) rfl (by kernel_rfl) (by kernel_rfl) (by decide) rfl) trivial ?_
           refine g_step rfl rfl rfl rfl (e_loadH (v := .sc _) rfl ((hset_ne (key_ne rfl)).trans ((hset_ne (key_ne rfl)).trans (hset_self _ _ _))) (by kernel_rfl) (by kernel_rfl) (by kernel_rfl) (by exact Nat.zero_lt_one) (by decide) rfl) trivial ?_
           refine g_step rfl rfl rfl rfl (e_ixaP (n := 3) (e := 3) rfl rfl (by kernel_rfl) (by kernel_rfl) (by omega)) trivial ?_
           refine g_step rfl rfl rfl rfl (e_loadH (v := .sc _) rfl (hset_self _ _ _) (by kernel_rfl) (by kernel_rfl) (by kernel_rfl) (by exact Nat.zero_lt_one) (by decide) (cell_n 0 (by rw [cntL_len]; decide))) trivial ?_
           refine g_step rfl rfl rfl rfl (e_ixaP (n := 3) (e := 3) rfl rfl (by kernel_rfl) (by kernel_rfl) (by omega)) trivial ?_
           refine g_step rfl rfl rfl rfl (e_loadH (v := .sc _) rfl (hset_self _ _ _) (by kernel_rfl) (by kernel_rfl) (by kernel_rfl) (by exact Nat.zero_lt_one) (by decide) (cell_n 1 (by rw [cntL_len]; decide))) trivial ?_
           refine g_step rfl rfl rfl rfl (e_sub rfl rfl (by omega)) trivial ?_
           refine g_step rfl rfl rfl rfl (e_ixaP (n := 3) (e := 3) rfl rfl (by kernel_rfl) (by kernel_rfl) (by omega)) trivial ?_
           refine g_step rfl rfl rfl rfl (e_loadH (v := .sc _) rfl (hset_self _ _ _) (by kernel_rfl) (by kernel_rfl) (by kernel_rfl) (by exact Nat.zero_lt_one) (by decide) (cell_n 2 (by rw [cntL_len]; decide))) trivial ?_
           refine g_step rfl rfl rfl rfl (e_sub rfl rfl (by omega)) trivial ?_
           refine g_step rfl rfl rfl rfl (e_gt rfl rfl) trivial ?_
           refine g_step rfl rfl rfl rfl (e_pickT (v := .sc _) rfl rfl) trivial ?_
           refine g_end (ds := [65, 66, 67, 68, 69, 70, 71, 72, 73, 74, 75]) rfl rfl (hK38 _ ?_); clear hK38 K38
           refine pwp_cond rfl (fun hb40 => ?_) (fun hb40 => ?_)
           ·have hb40R := hb40; (try simp only [z1, z2, z3, z4, z5, z6, ne_eq, z7, z8, z9, z10, z11, z12] at hb40); (try (have hyy := prev_get (ms := ms) hb40 hk; obtain ⟨y, hy⟩ := hyy))
            refine pwp_seq_plain rfl fun K41 hK41 => ?_
            refine p_step rfl (e_assign (v := .sc _) rfl) trivial ?_
            refine p_end (hK41 _ ?_); clear hK41 K41
            refine pwp_ret ?_
            refine ret_block ?_
            refine ret_seq ?_
            refine ret_loop ?_
            refine ret_block ?_
            refine ret_seq ?_
            refine end1 (v := .sc _) rfl ?_
            first
              | exact out_i (movE_big (by omega))
              | exact out_i (movE_go (by omega) hinv)
              | exact out_i (movE_go (by omega) (goM_stop hinv (by decide) (mvE_2 (by unfold badM; omega))))
              | exact out_i (movE_go (by omega) (goM_stop hinv (by decide) (mvE_10 (by unfold badM; omega) (by first | omega | (have hl0 := hlast.1 (by omega); omega) | (have hl1 := hlast.2 y hy (by omega); omega)))))
              | exact out_i (movE_go (by omega) (goM_stop hinv (by decide) (mvE_6 (by unfold badM; omega) (by first | omega | (have hl0 := hlast.1 (by omega); omega) | (have hl1 := hlast.2 y hy (by omega); omega)) (by omega))))
              | exact out_i (movE_go (by omega) (goM_stop hinv (by decide) (mvE_22 (by unfold badM; omega) (by first | omega | (have hl0 := hlast.1 (by omega); omega) | (have hl1 := hlast.2 y hy (by omega); omega)) (by omega) (by unfold stkL; omega))))
           ·have hb40R := hb40; (try simp only [z1, z2, z3, z4, z5, z6, ne_eq, z7, z8, z9, z10, z11, z12] at hb40); (try (have hyy := prev_get (ms := ms) hb40 hk; obtain ⟨y, hy⟩ := hyy))
            refine pwp_skip ?_
            refine block_norm ?_
            refine seq_norm (hK16 _ ?_); clear hK16 K16
            refine pwp_plain rfl fun K42 hK42 => ?_
            refine p_step rfl (e_move (v := .sc _) rfl) trivial ?_
            refine p_step rfl (e_add rfl rfl (by omega)) trivial ?_
            refine p_step rfl (e_assign (v := .sc _) rfl) trivial ?_
            refine p_end (hK42 _ ?_); clear hK42 K42
            exact loop_again ((k + 1, x.day)) (by show _ < _; simp only; omega) ⟨rfl, rfl, trivial⟩ ⟨rfl, trivial⟩ (by exact ⟨by show _ + 1 ≤ _; omega, by (rw [ht]; exact goM_next hinv (mvE_0 (by unfold badM; omega) (by first | omega | (have hl0 := hlast.1 (by omega); omega) | (have hl1 := hlast.2 y hy (by omega); omega)) (by omega) (by unfold stkL; omega))), by exact ⟨fun h => absurd h (by omega), fun y hy _ => prev_next hx y hy⟩, by exact ok_next hokk hx (by unfold badM; omega)⟩)
          ·have hb39R := hb39; (try simp only [z1, z2, z3, z4, z5, z6, ne_eq, z7, z8, z9, z10, z11, z12] at hb39); (try (have hyy := prev_get (ms := ms) hb39 hk; obtain ⟨y, hy⟩ := hyy))
           refine g_skip rfl rfl rfl ?_
           refine g_skip rfl rfl rfl ?_
           refine g_skip rfl rfl rfl ?_
           refine g_skip rfl rfl rfl ?_
           refine g_skip rfl rfl rfl ?_
           refine g_skip rfl rfl rfl ?_
           refine g_skip rfl rfl rfl ?_
           refine g_skip rfl rfl rfl ?_
           refine g_skip rfl rfl rfl ?_
           refine g_skip rfl rfl rfl ?_
           refine g_skip rfl rfl rfl ?_
           refine g_step rfl rfl rfl rfl (e_pickF (v := .sc _) rfl rfl) trivial ?_
           refine g_end (ds := [65, 66, 67, 68, 69, 70, 71, 72, 73, 74, 75]) rfl rfl (hK38 _ ?_); clear hK38 K38
           refine pwp_cond (t := false) rfl nofun (fun _ => ?_)
           refine pwp_skip ?_
           refine block_norm ?_
           refine seq_norm (hK16 _ ?_); clear hK16 K16
           refine pwp_plain rfl fun K43 hK43 => ?_
           refine p_step rfl (e_move (v := .sc _) rfl) trivial ?_
           refine p_step rfl (e_add rfl rfl (by omega)) trivial ?_
           refine p_step rfl (e_assign (v := .sc _) rfl) trivial ?_
           refine p_end (hK43 _ ?_); clear hK43 K43
           exact loop_again ((k + 1, x.day)) (by show _ < _; simp only; omega) ⟨rfl, rfl, trivial⟩ ⟨rfl, trivial⟩ (by exact ⟨by show _ + 1 ≤ _; omega, by (rw [ht]; exact goM_next hinv (mvE_0 (by unfold badM; omega) (by first | omega | (have hl0 := hlast.1 (by omega); omega) | (have hl1 := hlast.2 y hy (by omega); omega)) (by omega) (by unfold stkL; omega))), by exact ⟨fun h => absurd h (by omega), fun y hy _ => prev_next hx y hy⟩, by exact ok_next hokk hx (by unfold badM; omega)⟩)
       ·have hb29R := hb29; (try simp only [z1, z2, z3, z4, z5, z6, ne_eq, z7, z8, z9, z10, z11, z12] at hb29); (try (have hyy := prev_get (ms := ms) hb29 hk; obtain ⟨y, hy⟩ := hyy))
        refine g_skip rfl rfl rfl ?_
        refine g_skip rfl rfl rfl ?_
        refine g_skip rfl rfl rfl ?_
        refine g_skip rfl rfl rfl ?_
        refine g_skip rfl rfl rfl ?_
        refine g_skip rfl rfl rfl ?_
        refine g_skip rfl rfl rfl ?_
        refine g_skip rfl rfl rfl ?_
        refine g_skip rfl rfl rfl ?_
        refine g_step rfl rfl rfl rfl (e_pickF (v := .sc _) rfl rfl) trivial ?_
        refine g_end (ds := [40, 41, 42, 43, 44, 45, 46, 47, 48]) (by kernel_rfl) rfl (hK28 _ ?_); clear hK28 K28
        refine pwp_seq_cond (t := false) rfl fun K44 hK44 => ⟨nofun, fun _ => ?_⟩
        refine pwp_skip ?_
        refine seq_norm (hK44 _ ?_); clear hK44 K44
        refine pwp_seq_seq ?_
        refine pwp_seq_plain rfl fun K45 hK45 => ?_
        refine p_step rfl (e_move (v := .lit _ _ _) rfl) trivial ?_
        refine p_step rfl (e_faP (pl := [(0, 1, false), (1, 1, false), (2, 1, false), (3, 1, false)]) rfl (by kernel_rfl) (by kernel_rfl) (by decide) rfl) trivial ?_
        refine p_step rfl (e_loadH (v := .sc _) rfl (hset_self _ _ _) (by kernel_rfl) (by kernel_rfl) (by kernel_rfl) (by exact Nat.zero_lt_one) (by decide) rfl) trivial ?_
        refine p_call rfl (.cons inn_lit (.cons inn_sc .nil)) (Term55 _ _ hlt) ?_
        refine p_step rfl (e_lt rfl rfl) trivial ?_
        refine p_end (hK45 _ ?_); clear hK45 K45
        refine pwp_seq_cond rfl fun K46 hK46 => ⟨fun hb47 => ?_, fun hb47 => ?_⟩
        ·have hb47R := hb47; (try simp only [z1, z2, z3, z4, z5, z6, ne_eq, z7, z8, z9, z10, z11, z12] at hb47); (try (have hyy := prev_get (ms := ms) hb47 hk; obtain ⟨y, hy⟩ := hyy))
         refine pwp_seq_plain rfl fun K48 hK48 => ?_
         refine p_step rfl (e_assign (v := .sc _) rfl) trivial ?_
         refine p_end (hK48 _ ?_); clear hK48 K48
         refine pwp_ret ?_
         refine ret_seq ?_
         refine ret_block ?_
         refine ret_seq ?_
         refine ret_loop ?_
         refine ret_block ?_
         refine ret_seq ?_
         refine end1 (v := .sc _) rfl ?_
         first
           | exact out_i (movE_big (by omega))
           | exact out_i (movE_go (by omega) hinv)
           | exact out_i (movE_go (by omega) (goM_stop hinv (by decide) (mvE_2 (by unfold badM; omega))))
           | exact out_i (movE_go (by omega) (goM_stop hinv (by decide) (mvE_10 (by unfold badM; omega) (by first | omega | (have hl0 := hlast.1 (by omega); omega) | (have hl1 := hlast.2 y hy (by omega); omega)))))
           | exact out_i (movE_go (by omega) (goM_stop hinv (by decide) (mvE_6 (by unfold badM; omega) (by first | omega | (have hl0 := hlast.1 (by omega); omega) | (have hl1 := hlast.2 y hy (by omega); omega)) (by omega))))
           | exact out_i (movE_go (by omega) (goM_stop hinv (by decide) (mvE_22 (by unfold badM; omega) (by first | omega | (have hl0 := hlast.1 (by omega); omega) | (have hl1 := hlast.2 y hy (by omega); omega)) (by omega) (by unfold stkL; omega))))
        ·have hb47R := hb47; (try simp only [z1, z2, z3, z4, z5, z6, ne_eq, z7, z8, z9, z10, z11, z12] at hb47); (try (have hyy := prev_get (ms := ms) hb47 hk; obtain ⟨y, hy⟩ := hyy))
         refine pwp_skip ?_
         refine seq_norm (hK46 _ ?_); clear hK46 K46
         refine pwp_seq_gops rfl fun K49 hK49 => ?_
         refine s_begin ?_
         refine s_step [] (by simp) rfl rfl rfl rfl (e_move (v := .lit _ _ _) rfl) trivial ?_
         refine s_step [] (by simp) rfl rfl rfl rfl (e_move (v := .sc _) rfl) trivial ?_
         refine s_step [] (by simp) rfl rfl rfl rfl (e_upto (n := k) rfl rfl rfl (by omega) (by kernel_rfl) (by kernel_rfl)) trivial ?_
         refine s_step [] (by simp) rfl rfl rfl rfl (e_faP (pl := [(0, 1, false), (1, 1, false), (2, 1, false), (3, 1, false)]) rfl (by kernel_rfl) (by kernel_rfl) (by decide) rfl) trivial ?_
         refine s_step [6] (by simp) rfl rfl rfl rfl (e_loadH (v := .sc _) rfl (hset_self _ _ _) (by kernel_rfl) (by kernel_rfl) (by kernel_rfl) (by exact Nat.zero_lt_one) (by decide) rfl) trivial ?_
         refine s_call (args := [.lit _ _ _, .sc _]) [] (by intro k hk; simp [keysOf, Go.Pv.keyOf] at hk; try (subst hk; simp)) rfl rfl rfl rfl (.cons inn_lit (.cons inn_sc .nil)) (Counts _ _ (by simp only [List.length_take]; omega) hokk) ?_
         refine s_new [] (by simp) rfl rfl rfl rfl (e_alloc (cs := [.int 0, .int 0, .int 0]) (n := 3) (by kernel_rfl) rfl (by decide)) (ob_alloc (by decide)) ?_
         refine s_store [7] (by simp) rfl rfl (e_storeA rfl (hset_self _ _ _) rfl rfl (by rw [List.length_map, cntL_len]) (by kernel_rfl) (all_ints _) (by kernel_rfl)) trivial ?_
         refine s_end (ds := []) (by kernel_rfl) (by kernel_rfl) (hK49 _ ?_); clear hK49 K49
         refine pwp_seq_gops rfl fun K50 hK50 => ?_
         refine g_begin ?_
         refine g_step rfl rfl rfl rfl (e_faP (pl := [(0, 1, false), (1, 1, false), (2, 1, false), (3, 1, false)]) rfl (by kernel_rfl) (by kernel_rfl) (by decide) rfl) trivial ?_
         refine g_step rfl rfl rfl rfl (e_loadH (v := .sc _) rfl ((hset_ne (key_ne rfl)).trans ((hset_ne (key_ne rfl)).trans (hset_self _ _ _))) (by kernel_rfl) (by kernel_rfl) (by kernel_rfl) (by exact Nat.zero_lt_one) (by decide) rfl) trivial ?_
         refine g_step rfl rfl rfl rfl (e_ne rfl rfl) trivial ?_
         refine g_step rfl rfl rfl rfl (e_move (v := .sc _) rfl) trivial ?_
         refine g_cases (fun hb51 => ?_) (fun hb51 => ?_)
         ·have hb51R := hb51; (try simp only [z1, z2, z3, z4, z5, z6, ne_eq, z7, z8, z9, z10, z11, z12] at hb51); (try (have hyy := prev_get (ms := ms) hb51 hk; obtain ⟨y, hy⟩ := hyy))
          refine g_step rfl rfl rfl rfl (e_faP (pl := [(0, 1, false), (1, 1, false), (2, 1, false), (3, 1, false)]) rfl (by kernel_rfl) (by kernel_rfl) (by decide) rfl) trivial ?_
          refine g_step rfl rfl rfl rfl (e_loadH (v := .sc _) rfl ((hset_ne (key_ne rfl)).trans ((hset_ne (key_ne rfl)).trans (hset_self _ _ _))) (by kernel_rfl) (by kernel_rfl) (by kernel_rfl) (by exact Nat.zero_lt_one) (by decide) rfl) trivial ?_
          refine g_step rfl rfl rfl rfl (e_ixaP (n := 3) (e := 3) rfl rfl (by kernel_rfl) (by kernel_rfl) (by omega)) trivial ?_
          refine g_step rfl rfl rfl rfl (e_loadH (v := .sc _) rfl (hset_self _ _ _) (by kernel_rfl) (by kernel_rfl) (by kernel_rfl) (by exact Nat.zero_lt_one) (by decide) (cell_n 0 (by rw [cntL_len]; decide))) trivial ?_
          refine g_step rfl rfl rfl rfl (e_ixaP (n := 3) (e := 3) rfl rfl (by kernel_rfl) (by kernel_rfl) (by omega)) trivial ?_
          refine g_step rfl rfl rfl rfl (e_loadH (v := .sc _) rfl (hset_self _ _ _) (by kernel_rfl) (by kernel_rfl) (by kernel_rfl) (by exact Nat.zero_lt_one) (by decide) (cell_n 1 (by rw [cntL_len]; decide))) trivial ?_
          refine g_step rfl rfl rfl rfl (e_sub rfl rfl (by omega)) trivial ?_
          refine g_step rfl rfl rfl rfl (e_ixaP (n := 3) (e := 3) rfl rfl (by kernel_rfl) (by kernel_rfl) (by omega)) trivial ?_
          refine g_step rfl rfl rfl rfl (e_loadH (v := .sc _) rfl (hset_self _ _ _) (by kernel_rfl) (by kernel_rfl) (by kernel_rfl) (by exact Nat.zero_lt_one) (by decide) (cell_n 2 (by rw [cntL_len]; decide))) trivial ?_
          refine g_step rfl rfl rfl rfl (e_sub rfl rfl (by omega)) trivial ?_
          refine g_step rfl rfl rfl rfl (e_gt rfl rfl) trivial ?_
          refine g_step rfl rfl rfl rfl (e_pickT (v := .sc _) rfl rfl) trivial ?_
          refine g_end (ds := [65, 66, 67, 68, 69, 70, 71, 72, 73, 74, 75]) rfl rfl (hK50 _ ?_); clear hK50 K50
          refine pwp_cond rfl (fun hb52 => ?_) (fun hb52 => ?_)
          ·have hb52R := hb52; (try simp only [z1, z2, z3, z4, z5, z6, ne_eq, z7, z8, z9, z10, z11, z12] at hb52); (try (have hyy := prev_get (ms := ms) hb52 hk; obtain ⟨y, hy⟩ := hyy))
           refine pwp_seq_plain rfl fun K53 hK53 => ?_
           refine p_step rfl (e_assign (v := .sc _) rfl) trivial ?_
           refine p_end (hK53 _ ?_); clear hK53 K53
           refine pwp_ret ?_
           refine ret_block ?_
           refine ret_seq ?_
           refine ret_loop ?_
           refine ret_block ?_
           refine ret_seq ?_
           refine end1 (v := .sc _) rfl ?_
           first
             | exact out_i (movE_big (by omega))
             | exact out_i (movE_go (by omega) hinv)
             | exact out_i (movE_go (by omega) (goM_stop hinv (by decide) (mvE_2 (by unfold badM; omega))))
             | exact out_i (movE_go (by omega) (goM_stop hinv (by decide) (mvE_10 (by unfold badM; omega) (by first | omega | (have hl0 := hlast.1 (by omega); omega) | (have hl1 := hlast.2 y hy (by omega); omega)))))
             | exact out_i (movE_go (by omega) (goM_stop hinv (by decide) (mvE_6 (by unfold badM; omega) (by first | omega | (have hl0 := hlast.1 (by omega); omega) | (have hl1 := hlast.2 y hy (by omega); omega)) (by omega))))
             | exact out_i (movE_go (by omega) (goM_stop hinv (by decide) (mvE_22 (by unfold badM; omega) (by first | omega | (have hl0 := hlast.1 (by omega); omega) | (have hl1 := hlast.2 y hy (by omega); omega)) (by omega) (by unfold stkL; omega))))
          ·have hb52R := hb52; (try simp only [z1, z2, z3, z4, z5, z6, ne_eq, z7, z8, z9, z10, z11, z12] at hb52); (try (have hyy := prev_get (ms := ms) hb52 hk; obtain ⟨y, hy⟩ := hyy))
           refine pwp_skip ?_
           refine block_norm ?_
           refine seq_norm (hK16 _ ?_); clear hK16 K16
           refine pwp_plain rfl fun K54 hK54 => ?_
           refine p_step rfl (e_move (v := .sc _) rfl) trivial ?_
           refine p_step rfl (e_add rfl rfl (by omega)) trivial ?_
           refine p_step rfl (e_assign (v := .sc _) rfl) trivial ?_
           refine p_end (hK54 _ ?_); clear hK54 K54
           exact loop_again ((k + 1, x.day)) (by show _ < _; simp only; omega) ⟨rfl, rfl, trivial⟩ ⟨rfl, trivial⟩ (by exact ⟨by show _ + 1 ≤ _; omega, by (rw [ht]; exact goM_next hinv (mvE_0 (by unfold badM; omega) (by first | omega | (have hl0 := hlast.1 (by omega); omega) | (have hl1 := hlast.2 y hy (by omega); omega)) (by omega) (by unfold stkL; omega))), by exact ⟨fun h => absurd h (by omega), fun y hy _ => prev_next hx y hy⟩, by exact ok_next hokk hx (by unfold badM; omega)⟩)
         ·have hb51R := hb51; (try simp only [z1, z2, z3, z4, z5, z6, ne_eq, z7, z8, z9, z10, z11, z12] at hb51); (try (have hyy := prev_get (ms := ms) hb51 hk; obtain ⟨y, hy⟩ := hyy))
          refine g_skip rfl rfl rfl ?_
          refine g_skip rfl rfl rfl ?_
          refine g_skip rfl rfl rfl ?_
          refine g_skip rfl rfl rfl ?_
          refine g_skip rfl rfl rfl ?_
          refine g_skip rfl rfl rfl ?_
          refine g_skip rfl rfl rfl ?_
          refine g_skip rfl rfl rfl ?_
          refine g_skip rfl rfl rfl ?_
          refine g_skip rfl rfl rfl ?_
          refine g_skip rfl rfl rfl ?_
          refine g_step rfl rfl rfl rfl (e_pickF (v := .sc _) rfl rfl) trivial ?_
          refine g_end (ds := [65, 66, 67, 68, 69, 70, 71, 72, 73, 74, 75]) rfl rfl (hK50 _ ?_); clear hK50 K50
          refine pwp_cond (t := false) rfl nofun (fun _ => ?_)
          refine pwp_skip ?_
          refine block_norm ?_
          refine seq_norm (hK16 _ ?_); clear hK16 K16
          refine pwp_plain rfl fun K55 hK55 => ?_
          refine p_step rfl (e_move (v := .sc _) rfl) trivial ?_
          refine p_step rfl (e_add rfl rfl (by omega)) trivial ?_
          refine p_step rfl (e_assign (v := .sc _) rfl) trivial ?_
          refine p_end (hK55 _ ?_); clear hK55 K55
          exact loop_again ((k + 1, x.day)) (by show _ < _; simp only; omega) ⟨rfl, rfl, trivial⟩ ⟨rfl, trivial⟩ (by exact ⟨by show _ + 1 ≤ _; omega, by (rw [ht]; exact goM_next hinv (mvE_0 (by unfold badM; omega) (by first | omega | (have hl0 := hlast.1 (by omega); omega) | (have hl1 := hlast.2 y hy (by omega); omega)) (by omega) (by unfold stkL; omega))), by exact ⟨fun h => absurd h (by omega), fun y hy _ => prev_next hx y hy⟩, by exact ok_next hokk hx (by unfold badM; omega)⟩)
   ·have hb15R := hb15; (try simp only [z1, z2, z3, z4, z5, z6, ne_eq, z7, z8, z9, z10, z11, z12] at hb15); (try (have hyy := prev_get (ms := ms) hb15 hk; obtain ⟨y, hy⟩ := hyy))
    obtain rfl : k = ms.length := by omega
    rw [List.drop_length] at hinv; simp only [goM] at hinv
    refine pwp_exit ?_
    refine exit_seq ?_
    clear hK14 K14
    refine exit_loop ?_
    refine exit_here ?_
    refine seq_norm (hK7 _ ?_); clear hK7 K7
    refine pwp_seq_plain rfl fun K56 hK56 => ?_
    refine p_step rfl (e_assign (v := .sc _) rfl) trivial ?_
    refine p_end (hK56 _ ?_); clear hK56 K56
    refine pwp_ret ?_
    refine end1 (v := .sc _) rfl ?_
    first
      | exact out_i (movE_big (by omega))
      | exact out_i (movE_go (by omega) hinv)
      | exact out_i (movE_go (by omega) (goM_stop hinv (by decide) (mvE_2 (by unfold badM; omega))))
      | exact out_i (movE_go (by omega) (goM_stop hinv (by decide) (mvE_10 (by unfold badM; omega) (by first | omega | (have hl0 := hlast.1 (by omega); omega) | (have hl1 := hlast.2 y hy (by omega); omega)))))
      | exact out_i (movE_go (by omega) (goM_stop hinv (by decide) (mvE_6 (by unfold badM; omega) (by first | omega | (have hl0 := hlast.1 (by omega); omega) | (have hl1 := hlast.2 y hy (by omega); omega)) (by omega))))
      | exact out_i (movE_go (by omega) (goM_stop hinv (by decide) (mvE_22 (by unfold badM; omega) (by first | omega | (have hl0 := hlast.1 (by omega); omega) | (have hl1 := hlast.2 y hy (by omega); omega)) (by omega) (by unfold stkL; omega))))

end Go.Proofs.Ytdbpfhbppcpbbaa

/- Whether terms and moves are right, as the program tells it. No conditions. -/
set_option linter.unusedSimpArgs false
set_option linter.unusedVariables false
set_option maxRecDepth 100000
namespace Go.Proofs.Ytdbpfhbppcpbbaa
open Go Go.Pv
/-! ### What is on hire -/
theorem ix_spec (p : ByteArray) : ∀ (l : List Term) (k : Nat), (ixFrom p l k = -1 ∧ ∀ t ∈ l, ¬ t.part = p) ∨ ∃ (i : Nat) (t : Term), ixFrom p l k = ((k + i : Nat) : Int) ∧ l[i]? = some t ∧ t.part = p
  | [], _ => .inl ⟨rfl, by simp⟩
  | a :: l, k => by
    unfold ixFrom
    by_cases ha : a.part = p
    · rw [if_pos ha]; exact .inr ⟨0, a, by simp, rfl, ha⟩
    · rw [if_neg ha]
      rcases ix_spec p l (k + 1) with ⟨h1, h2⟩ | ⟨i, t, h1, h2, h3⟩
      · refine .inl ⟨by rw [← h1]; rfl, fun t ht => ?_⟩
        rcases List.mem_cons.1 ht with rfl | ht
        · exact ha
        · exact h2 t ht
      · refine .inr ⟨i + 1, t, ?_, by simpa using h2, h3⟩
        have h4 : ixFrom p l ((k : Int) + 1) = ((k + 1 + i : Nat) : Int) := h1
        rw [h4]; omega
theorem ix_part {ts : List Term} {p : ByteArray} (h : 0 ≤ termIx ts p) : ∃ t, ts[(termIx ts p).toNat]? = some t ∧ t.part = p := by
  unfold termIx at h ⊢
  rcases ix_spec p ts 0 with ⟨h1, _⟩ | ⟨i, t, h1, h2, h3⟩
  · have h1' : ixFrom p ts 0 = -1 := h1
    omega
  · have h1' : ixFrom p ts 0 = ((0 + i : Nat) : Int) := h1
    rw [h1']
    exact ⟨t, by simpa using h2, h3⟩
theorem ix_lt {ts : List Term} {p : ByteArray} (h : 0 ≤ termIx ts p) : termIx ts p < ts.length := by
  obtain ⟨t, h1, _⟩ := ix_part h
  have := (List.getElem?_eq_some_iff.1 h1).1
  omega
theorem ix_neg {ts : List Term} {p : ByteArray} (h : termIx ts p < 0) : ∀ t ∈ ts, ¬ t.part = p := by
  unfold termIx at h
  rcases ix_spec p ts 0 with ⟨_, h2⟩ | ⟨i, t, h1, _⟩
  · exact h2
  · have h1' : ixFrom p ts 0 = ((0 + i : Nat) : Int) := h1
    omega
theorem goT_nodup : ∀ (l pre : List Term), goT pre l = 0 → (pre.map (·.part)).Nodup → ((pre ++ l).map (·.part)).Nodup
  | [], pre, _, hn => by simpa using hn
  | t :: l, pre, h, hn => by
    unfold goT at h
    split at h
    · cases h
    · split at h
      · cases h
      · split at h
        · cases h
        · rename_i h1 h2 h3
          have h4 := goT_nodup l (pre ++ [t]) h (by
            rw [List.map_append, List.nodup_append]
            refine ⟨hn, by simp, fun a ha b hb => ?_⟩
            obtain ⟨s, hs, rfl⟩ := List.mem_map.1 ha
            simp at hb; subst hb
            exact ix_neg (by omega) s hs)
          rw [List.append_assoc] at h4
          exact h4
theorem terms_nodup {ts : List Term} (h : termsE ts = 0) : (ts.map (·.part)).Nodup := by
  unfold termsE at h
  split at h
  · cases h
  · exact goT_nodup ts [] h (by simp)
theorem terms_ix {ts : List Term} (h : termsE ts = 0) {j : Nat} {t : Term} (ht : ts[j]? = some t) : termIx ts t.part = (j : Int) := by
  have hn := terms_nodup h
  have h0 : 0 ≤ termIx ts t.part := by
    by_cases hc : termIx ts t.part < 0
    · exact absurd rfl (ix_neg hc t (List.mem_of_getElem? ht))
    · omega
  obtain ⟨s, h1, h2⟩ := ix_part h0
  have h3 := (List.getElem?_eq_some_iff.1 h1).1
  have h4 := (List.getElem?_eq_some_iff.1 ht).1
  have h5 : (ts.map (·.part))[(termIx ts t.part).toNat]? = (ts.map (·.part))[j]? := by
    rw [List.getElem?_map, List.getElem?_map, h1, ht]; simp [h2]
  have h6 := (List.getElem?_inj (by simpa using h3) hn).1 h5
  omega
theorem stk_snoc {pre : List Move} {m : Move} (hm : okM m) (p : ByteArray) : stkL (pre ++ [m]) p = if m.part = p then (if m.kind = 0 then stkL pre p + m.count else stkL pre p - m.count) else stkL pre p := by
  have h3 := cntL_len p pre
  have hs : cntL p (pre ++ [m]) = cntStep p (cntL p pre) m := by unfold cntL; rw [List.foldl_append]; rfl
  unfold stkL
  rw [hs]
  generalize cntL p pre = L at h3
  match L, h3 with
  | [a, b, c], _ =>
    unfold cntStep
    by_cases hp : m.part = p
    · rw [if_pos hp, if_pos hp]
      have hk : m.kind = 0 ∨ m.kind = 1 ∨ m.kind = 2 := by have := hm.1; omega
      rcases hk with hk | hk | hk <;> rw [hk] <;> simp <;> omega
    · rw [if_neg hp, if_neg hp]
/-- What is on hire of each term's part. -/
structure Hire (ts : List Term) (zs : List Int) (pre : List Move) : Prop where
  len : zs.length = ts.length
  at_ : ∀ (j : Nat) (t : Term), ts[j]? = some t → zs[j]? = some (stkL pre t.part)
theorem hire_0 (ts : List Term) : Hire ts (List.replicate ts.length 0) [] := by
  refine ⟨by simp, fun j t ht => ?_⟩
  have := (List.getElem?_eq_some_iff.1 ht).1
  rw [List.getElem?_replicate, if_pos this]
  rfl
theorem hire_get {ts : List Term} {zs : List Int} {pre : List Move} {p : ByteArray} (H : Hire ts zs pre) (h : 0 ≤ termIx ts p) : ∃ a, zs[(termIx ts p).toNat]? = some a ∧ a = (cntL p pre).getD 0 0 - (cntL p pre).getD 1 0 - (cntL p pre).getD 2 0 := by
  obtain ⟨t, h1, h2⟩ := ix_part h
  refine ⟨_, H.at_ _ t h1, ?_⟩
  rw [h2]; rfl
theorem hire_step {ts : List Term} {zs : List Int} {pre : List Move} {m : Move} {a b : Int} (ht : termsE ts = 0) (H : Hire ts zs pre) (hm : okM m) (h : 0 ≤ termIx ts m.part) (ha : zs[(termIx ts m.part).toNat]? = some a) (hb : b = if m.kind = 0 then a + m.count else a - m.count) : Hire ts (zs.set (termIx ts m.part).toNat b) (pre ++ [m]) := by
  obtain ⟨s, h1, h2⟩ := ix_part h
  have hae : a = stkL pre m.part := by
    have := H.at_ _ s h1
    rw [ha, h2] at this
    exact Option.some.inj this
  have hlt := (List.getElem?_eq_some_iff.1 ha).1
  refine ⟨by rw [List.length_set]; exact H.len, fun j t htj => ?_⟩
  rw [stk_snoc hm]
  have hj := terms_ix ht htj
  by_cases hp : m.part = t.part
  · rw [if_pos hp]
    have : (termIx ts m.part).toNat = j := by rw [hp, hj]; omega
    rw [this] at hlt ⊢
    rw [List.getElem?_set_self hlt, hb, hae, hp]
  · rw [if_neg hp, List.getElem?_set_ne, H.at_ j t htj]
    intro hc
    have h5 : ts[j]? = some s := by rw [← hc]; exact h1
    rw [htj] at h5; cases h5
    exact hp h2.symm
/-- The first error of terms and moves, or 0. -/
def tmE (ts : List Term) (ms : List Move) : Int := if termsE ts ≠ 0 then termsE ts else movE ts ms
theorem tmE_1 {ts : List Term} {ms : List Move} (h : ¬ termsE ts = 0) : termsE ts = tmE ts ms := by rw [tmE, if_pos h]
theorem tmE_2 {ts : List Term} {ms : List Move} {z : Int} (h : termsE ts = 0) (h2 : z = movE ts ms) : z = tmE ts ms := by rw [tmE, if_neg (by simpa using h)]; exact h2

theorem fr38 : (inFrame Try.f38.ntmps (Try.f38.body.getD .skip) && Try.f38.results.toList.all (resScope Try.f38.ntmps)) = true := by kernel_rfl
theorem CheckMoves (ts : List Term) (ms : List Move) (hlt : ts.length ≤ 65) (hl : ms.length ≤ 305) : PCalls Try.prog 38 [.lit true 4 (ts.map Term.enc), .lit true 4 (ms.map Move.enc)] (.int (tmE ts ms)) := by
  refine PCalls.of_code Try.func38 rfl rfl (by kernel_rfl) mixed fr38 (by show _ ≤ 104; simp) (.sc _) ?_
  refine pwp_seq_plain rfl fun K1 hK1 => ?_
  refine p_step rfl (e_assign (v := .sc _) rfl) trivial ?_
  refine p_end (hK1 _ ?_); clear hK1 K1
  refine pwp_seq_seq ?_
  refine pwp_seq_plain rfl fun K2 hK2 => ?_
  refine p_step rfl (e_move (v := .lit _ _ _) rfl) trivial ?_
  refine p_call rfl (.cons inn_lit .nil) (CheckTerms _) ?_
  refine p_step rfl (e_assign (v := .sc _) rfl) trivial ?_
  refine p_end (hK2 _ ?_); clear hK2 K2
  refine pwp_seq_seq ?_
  refine pwp_seq_plain rfl fun K3 hK3 => ?_
  refine p_step rfl (e_move (v := .sc _) rfl) trivial ?_
  refine p_step rfl (e_ne rfl rfl) trivial ?_
  refine p_end (hK3 _ ?_); clear hK3 K3
  refine pwp_seq_cond rfl fun K4 hK4 => ⟨fun hb5 => ?_, fun hb5 => ?_⟩
  ·have hb5R := hb5; (try simp only [z1, z2, z3, z4, z5, z6, ne_eq, z7, z8, z9, z10, z11, z12] at hb5); (try (have hts : termsE ts = 0 := hb5)); (try (have hyy := hire_get hH (p := x.part) hb5; obtain ⟨a, ha, hae⟩ := hyy; have hil := ix_lt (ts := ts) (p := x.part) hb5))
   refine pwp_seq_plain rfl fun K6 hK6 => ?_
   refine p_step rfl (e_move (v := .sc _) rfl) trivial ?_
   refine p_step rfl (e_assign (v := .sc _) rfl) trivial ?_
   refine p_end (hK6 _ ?_); clear hK6 K6
   refine pwp_ret ?_
   refine ret_seq ?_
   refine end1 (v := .sc _) rfl ?_
   first
     | exact out_i (tmE_1 (by assumption))
     | exact out_i (tmE_2 hts (movE_big (by omega)))
     | exact out_i (tmE_2 hts (movE_go (by omega) hinv))
     | exact out_i (tmE_2 hts (movE_go (by omega) (goM_stop hinv (by decide) (mvE_2 (by unfold badM; omega)))))
     | exact out_i (tmE_2 hts (movE_go (by omega) (goM_stop hinv (by decide) (mvE_10 (by unfold badM; omega) (by omega)))))
     | exact out_i (tmE_2 hts (movE_go (by omega) (goM_stop hinv (by decide) (mvE_6 (by unfold badM; omega) (by omega) (by omega)))))
     | exact out_i (tmE_2 hts (movE_go (by omega) (goM_stop hinv (by decide) (mvE_22 (by unfold badM; omega) (by omega) (by omega) (by unfold stkL; omega)))))
  ·have hb5R := hb5; (try simp only [z1, z2, z3, z4, z5, z6, ne_eq, z7, z8, z9, z10, z11, z12] at hb5); (try (have hts : termsE ts = 0 := hb5)); (try (have hyy := hire_get hH (p := x.part) hb5; obtain ⟨a, ha, hae⟩ := hyy; have hil := ix_lt (ts := ts) (p := x.part) hb5))
   refine pwp_skip ?_
   refine seq_norm (hK4 _ ?_); clear hK4 K4
   refine pwp_seq_seq ?_
   refine pwp_seq_plain rfl fun K7 hK7 => ?_
   refine p_step rfl (e_move (v := .lit _ _ _) rfl) trivial ?_
   refine p_step rfl (e_len rfl (by kernel_rfl)) trivial ?_
   refine p_step rfl (e_gt rfl rfl) trivial ?_
   refine p_end (hK7 _ ?_); clear hK7 K7
   refine pwp_seq_cond rfl fun K8 hK8 => ⟨fun hb9 => ?_, fun hb9 => ?_⟩
   ·have hb9R := hb9; (try simp only [z1, z2, z3, z4, z5, z6, ne_eq, z7, z8, z9, z10, z11, z12] at hb9); (try (have hts : termsE ts = 0 := hb9)); (try (have hyy := hire_get hH (p := x.part) hb9; obtain ⟨a, ha, hae⟩ := hyy; have hil := ix_lt (ts := ts) (p := x.part) hb9))
    refine pwp_seq_plain rfl fun K10 hK10 => ?_
    refine p_step rfl (e_assign (v := .sc _) rfl) trivial ?_
    refine p_end (hK10 _ ?_); clear hK10 K10
    refine pwp_ret ?_
    refine ret_seq ?_
    refine end1 (v := .sc _) rfl ?_
    first
      | exact out_i (tmE_1 (by assumption))
      | exact out_i (tmE_2 hts (movE_big (by omega)))
      | exact out_i (tmE_2 hts (movE_go (by omega) hinv))
      | exact out_i (tmE_2 hts (movE_go (by omega) (goM_stop hinv (by decide) (mvE_2 (by unfold badM; omega)))))
      | exact out_i (tmE_2 hts (movE_go (by omega) (goM_stop hinv (by decide) (mvE_10 (by unfold badM; omega) (by omega)))))
      | exact out_i (tmE_2 hts (movE_go (by omega) (goM_stop hinv (by decide) (mvE_6 (by unfold badM; omega) (by omega) (by omega)))))
      | exact out_i (tmE_2 hts (movE_go (by omega) (goM_stop hinv (by decide) (mvE_22 (by unfold badM; omega) (by omega) (by omega) (by unfold stkL; omega)))))
   ·have hb9R := hb9; (try simp only [z1, z2, z3, z4, z5, z6, ne_eq, z7, z8, z9, z10, z11, z12] at hb9); (try (have hts : termsE ts = 0 := hb9)); (try (have hyy := hire_get hH (p := x.part) hb9; obtain ⟨a, ha, hae⟩ := hyy; have hil := ix_lt (ts := ts) (p := x.part) hb9))
    refine pwp_skip ?_
    refine seq_norm (hK8 _ ?_); clear hK8 K8
    refine pwp_seq_plain rfl fun K11 hK11 => ?_
    refine p_step rfl (e_move (v := .lit _ _ _) rfl) trivial ?_
    refine p_step rfl (e_len rfl (by kernel_rfl)) trivial ?_
    refine p_new rfl (e_mkI (n := ts.length) rfl rfl (by simp) (by kernel_rfl) (by kernel_rfl) (by kernel_rfl) (by decide +kernel) (by omega)) trivial ?_
    refine p_step rfl (e_assign (v := .ref _ _ _ _) rfl) trivial ?_
    refine p_end (hK11 _ ?_); clear hK11 K11
    refine pwp_seq_plain rfl fun K12 hK12 => ?_
    refine p_step rfl (e_assign (v := .sc _) rfl) trivial ?_
    refine p_end (hK12 _ ?_); clear hK12 K12
    refine pwp_seq_seq ?_
    refine pwp_seq_plain rfl fun K13 hK13 => ?_
    refine p_step rfl (e_move (v := .lit _ _ _) rfl) trivial ?_
    refine p_step rfl (e_len rfl (by kernel_rfl)) trivial ?_
    refine p_step rfl (e_move (v := .sc _) rfl) trivial ?_
    refine p_end (hK13 _ ?_); clear hK13 K13
    refine pwp_seq_block fun K14 hK14 => ?_
    refine pwp_loopR (α := Nat × Int × (List Int)) [0, 6, 22, 23] (fun (a15 : Nat × Int × (List Int)) => [(7, .int (a15.2.1)), (24, .int (a15.1))]) (fun (a15 : Nat × Int × (List Int)) (h : Heap) (_ : Nat → Nat) => ((a15.1) ≤ ms.length) ∧ (goM ts [] 0 ms = goM ts (ms.take (a15.1)) (a15.2.1) (ms.drop (a15.1))) ∧ (∀ m ∈ ms.take (a15.1), okM m) ∧ (Hire ts (a15.2.2) (ms.take (a15.1))) ∧ (h (21, 0) = some (.rows 1 ((a15.2.2).map ci)))) (fun (a15 : Nat × Int × (List Int)) => ms.length - (a15.1)) (0, 0, _) (by exact ⟨rfl, rfl, trivial⟩) (by exact ⟨by exact Nat.zero_le _, by exact rfl, by (intro y hy; simp at hy), by exact hire_0 ts, (hset_self _ _ _)⟩) fun a15 r16 h17 c18 hj19 => ?_
    obtain ⟨k, last, zs⟩ := a15
    obtain ⟨hk, hinv, hokk, hH, hihj19_0⟩ := hj19
    try dsimp only at hk
    try dsimp only at hinv
    try dsimp only at hokk
    try dsimp only at hH
    try dsimp only at hihj19_0
    show pwp _ _ (loopQ _ _ _) ⟨sets (mix _ _ _) [(7, .int last), (24, .int k)], _, _⟩
    refine pwp_seq_plain rfl fun K20 hK20 => ?_
    refine p_step rfl (e_lt rfl rfl) trivial ?_
    refine p_end (hK20 _ ?_); clear hK20 K20
    refine pwp_seq_cond rfl fun K21 hK21 => ⟨fun hb22 => ?_, fun hb22 => ?_⟩
    ·have hb22R := hb22; (try simp only [z1, z2, z3, z4, z5, z6, ne_eq, z7, z8, z9, z10, z11, z12] at hb22); (try (have hts : termsE ts = 0 := hb22)); (try (have hyy := hire_get hH (p := x.part) hb22; obtain ⟨a, ha, hae⟩ := hyy; have hil := ix_lt (ts := ts) (p := x.part) hb22))
     obtain ⟨x, hx, hd, ht⟩ := get_lt (xs := ms) (i := k) (by omega)
     rw [hd] at hinv
     have q0 := cnt_bnd (p := x.part) hokk (by simp only [List.length_take]; omega) 0
     have q1 := cnt_bnd (p := x.part) hokk (by simp only [List.length_take]; omega) 1
     have q2 := cnt_bnd (p := x.part) hokk (by simp only [List.length_take]; omega) 2
     have hzl := hH.len
     refine pwp_skip ?_
     refine seq_norm (hK21 _ ?_); clear hK21 K21
     refine pwp_seq_block fun K23 hK23 => ?_
     refine pwp_seq_plain rfl fun K24 hK24 => ?_
     refine p_step rfl (e_ixa rfl rfl (by kernel_rfl) (by kernel_rfl) (by simp only [List.length_map]; omega)) trivial ?_
     refine p_step rfl (e_loadA (n := 4) rfl (by kernel_rfl) (by kernel_rfl) (by kernel_rfl) (by simp only [List.length_map]; omega) (by decide) (by first | exact agg_map hx rfl)) trivial ?_
     refine p_new rfl (e_alloc (cs := [.int 0, .int 0, .str ByteArray.empty, .int 0]) (n := 4) (by kernel_rfl) rfl (by decide)) (ob_alloc (by decide)) ?_
     refine p_store rfl (e_storeA rfl (hset_self _ _ _) rfl rfl rfl (by kernel_rfl) rfl (by kernel_rfl)) trivial ?_
     refine p_end (hK24 _ ?_); clear hK24 K24
     refine pwp_seq_plain rfl fun K25 hK25 => ?_
     refine p_step rfl (e_move (v := .lit _ _ _) rfl) trivial ?_
     refine p_step rfl (e_faP (pl := [(0, 1, false), (1, 1, false), (2, 1, false), (3, 1, false)]) rfl (by kernel_rfl) (by kernel_rfl) (by decide) rfl) trivial ?_
     refine p_step rfl (e_loadH (v := .sc _) rfl (hset_self _ _ _) (by kernel_rfl) (by kernel_rfl) (by kernel_rfl) (by exact Nat.zero_lt_one) (by decide) rfl) trivial ?_
     refine p_call rfl (.cons inn_lit (.cons inn_sc .nil)) (termOf _ _ hlt) ?_
     refine p_step rfl (e_assign (v := .sc _) rfl) trivial ?_
     refine p_end (hK25 _ ?_); clear hK25 K25
     refine pwp_seq_block fun K26 hK26 => ?_
     refine pwp_seq_gops rfl fun K27 hK27 => ?_
     refine g_begin ?_
     refine g_step rfl rfl rfl rfl (e_faP (pl := [(0, 1, false), (1, 1, false), (2, 1, false), (3, 1, false)]) rfl (by kernel_rfl) (by kernel_rfl) (by decide) rfl) trivial ?_
     refine g_step rfl rfl rfl rfl (e_loadH (v := .sc _) rfl (hset_self _ _ _) (by kernel_rfl) (by kernel_rfl) (by kernel_rfl) (by exact Nat.zero_lt_one) (by decide) rfl) trivial ?_
     refine g_step rfl rfl rfl rfl (e_lt rfl rfl) trivial ?_
     refine g_step rfl rfl rfl rfl (e_move (v := .sc _) rfl) trivial ?_
     refine g_cases (fun hb28 => ?_) (fun hb28 => ?_)
     ·have hb28R := hb28; (try simp only [z1, z2, z3, z4, z5, z6, ne_eq, z7, z8, z9, z10, z11, z12] at hb28); (try (have hts : termsE ts = 0 := hb28)); (try (have hyy := hire_get hH (p := x.part) hb28; obtain ⟨a, ha, hae⟩ := hyy; have hil := ix_lt (ts := ts) (p := x.part) hb28))
      refine g_skip rfl rfl rfl ?_
      refine g_skip rfl rfl rfl ?_
      refine g_skip rfl rfl rfl ?_
      refine g_step rfl rfl rfl rfl (e_pickT (v := .sc _) rfl rfl) trivial ?_
      refine g_step rfl rfl rfl rfl (e_move (v := .sc _) rfl) trivial ?_
      refine g_skip rfl rfl rfl ?_
      refine g_skip rfl rfl rfl ?_
      refine g_skip rfl rfl rfl ?_
      refine g_step rfl rfl rfl rfl (e_pickT (v := .sc _) rfl rfl) trivial ?_
      refine g_step rfl rfl rfl rfl (e_move (v := .sc _) rfl) trivial ?_
      refine g_skip rfl rfl rfl ?_
      refine g_skip rfl rfl rfl ?_
      refine g_skip rfl rfl rfl ?_
      refine g_step rfl rfl rfl rfl (e_pickT (v := .sc _) rfl rfl) trivial ?_
      refine g_step rfl rfl rfl rfl (e_move (v := .sc _) rfl) trivial ?_
      refine g_skip rfl rfl rfl ?_
      refine g_skip rfl rfl rfl ?_
      refine g_skip rfl rfl rfl ?_
      refine g_step rfl rfl rfl rfl (e_pickT (v := .sc _) rfl rfl) trivial ?_
      refine g_step rfl rfl rfl rfl (e_move (v := .sc _) rfl) trivial ?_
      refine g_skip rfl rfl rfl ?_
      refine g_skip rfl rfl rfl ?_
      refine g_skip rfl rfl rfl ?_
      refine g_step rfl rfl rfl rfl (e_pickT (v := .sc _) rfl rfl) trivial ?_
      refine g_step rfl rfl rfl rfl (e_assign (v := .sc _) rfl) trivial ?_
      refine g_end (ds := [37, 38, 39, 42, 43, 44, 47, 48, 49, 52, 53, 54, 57, 58, 59]) rfl rfl (hK27 _ ?_); clear hK27 K27
      refine pwp_cond (t := true) rfl (fun _ => ?_) nofun
      refine pwp_seq_plain rfl fun K29 hK29 => ?_
      refine p_step rfl (e_assign (v := .sc _) rfl) trivial ?_
      refine p_end (hK29 _ ?_); clear hK29 K29
      refine pwp_ret ?_
      refine ret_block ?_
      refine ret_seq ?_
      refine ret_block ?_
      refine ret_seq ?_
      refine ret_loop ?_
      refine ret_block ?_
      refine ret_seq ?_
      refine end1 (v := .sc _) rfl ?_
      first
        | exact out_i (tmE_1 (by assumption))
        | exact out_i (tmE_2 hts (movE_big (by omega)))
        | exact out_i (tmE_2 hts (movE_go (by omega) hinv))
        | exact out_i (tmE_2 hts (movE_go (by omega) (goM_stop hinv (by decide) (mvE_2 (by unfold badM; omega)))))
        | exact out_i (tmE_2 hts (movE_go (by omega) (goM_stop hinv (by decide) (mvE_10 (by unfold badM; omega) (by omega)))))
        | exact out_i (tmE_2 hts (movE_go (by omega) (goM_stop hinv (by decide) (mvE_6 (by unfold badM; omega) (by omega) (by omega)))))
        | exact out_i (tmE_2 hts (movE_go (by omega) (goM_stop hinv (by decide) (mvE_22 (by unfold badM; omega) (by omega) (by omega) (by unfold stkL; omega)))))
     ·have hb28R := hb28; (try simp only [z1, z2, z3, z4, z5, z6, ne_eq, z7, z8, z9, z10, z11, z12] at hb28); (try (have hts : termsE ts = 0 := hb28)); (try (have hyy := hire_get hH (p := x.part) hb28; obtain ⟨a, ha, hae⟩ := hyy; have hil := ix_lt (ts := ts) (p := x.part) hb28))
      refine g_step rfl rfl rfl rfl (e_faP (pl := [(0, 1, false), (1, 1, false), (2, 1, false), (3, 1, false)]) rfl (by kernel_rfl) (by kernel_rfl) (by decide) rfl) trivial ?_
      refine g_step rfl rfl rfl rfl (e_loadH (v := .sc _) rfl (hset_self _ _ _) (by kernel_rfl) (by kernel_rfl) (by kernel_rfl) (by exact Nat.zero_lt_one) (by decide) rfl) trivial ?_
      refine g_step rfl rfl rfl rfl (e_gt rfl rfl) trivial ?_
      refine g_step rfl rfl rfl rfl (e_pickF (v := .sc _) rfl rfl) trivial ?_
      refine g_step rfl rfl rfl rfl (e_move (v := .sc _) rfl) trivial ?_
      refine g_cases (fun hb30 => ?_) (fun hb30 => ?_)
      ·have hb30R := hb30; (try simp only [z1, z2, z3, z4, z5, z6, ne_eq, z7, z8, z9, z10, z11, z12] at hb30); (try (have hts : termsE ts = 0 := hb30)); (try (have hyy := hire_get hH (p := x.part) hb30; obtain ⟨a, ha, hae⟩ := hyy; have hil := ix_lt (ts := ts) (p := x.part) hb30))
       refine g_skip rfl rfl rfl ?_
       refine g_skip rfl rfl rfl ?_
       refine g_skip rfl rfl rfl ?_
       refine g_step rfl rfl rfl rfl (e_pickT (v := .sc _) rfl rfl) trivial ?_
       refine g_step rfl rfl rfl rfl (e_move (v := .sc _) rfl) trivial ?_
       refine g_skip rfl rfl rfl ?_
       refine g_skip rfl rfl rfl ?_
       refine g_skip rfl rfl rfl ?_
       refine g_step rfl rfl rfl rfl (e_pickT (v := .sc _) rfl rfl) trivial ?_
       refine g_step rfl rfl rfl rfl (e_move (v := .sc _) rfl) trivial ?_
       refine g_skip rfl rfl rfl ?_
       refine g_skip rfl rfl rfl ?_
       refine g_skip rfl rfl rfl ?_
       refine g_step rfl rfl rfl rfl (e_pickT (v := .sc _) rfl rfl) trivial ?_
       refine g_step rfl rfl rfl rfl (e_move (v := .sc _) rfl) trivial ?_
       refine g_skip rfl rfl rfl ?_
       refine g_skip rfl rfl rfl ?_
       refine g_skip rfl rfl rfl ?_
       refine g_step rfl rfl rfl rfl (e_pickT (v := .sc _) rfl rfl) trivial ?_
       refine g_step rfl rfl rfl rfl (e_assign (v := .sc _) rfl) trivial ?_
       refine g_end (ds := [37, 38, 39, 42, 43, 44, 47, 48, 49, 52, 53, 54, 57, 58, 59]) rfl rfl (hK27 _ ?_); clear hK27 K27
       refine pwp_cond (t := true) rfl (fun _ => ?_) nofun
       refine pwp_seq_plain rfl fun K31 hK31 => ?_
       refine p_step rfl (e_assign (v := .sc _) rfl) trivial ?_
       refine p_end (hK31 _ ?_); clear hK31 K31
       refine pwp_ret ?_
       refine ret_block ?_
       refine ret_seq ?_
       refine ret_block ?_
       refine ret_seq ?_
       refine ret_loop ?_
       refine ret_block ?_
       refine ret_seq ?_
       refine end1 (v := .sc _) rfl ?_
       first
         | exact out_i (tmE_1 (by assumption))
         | exact out_i (tmE_2 hts (movE_big (by omega)))
         | exact out_i (tmE_2 hts (movE_go (by omega) hinv))
         | exact out_i (tmE_2 hts (movE_go (by omega) (goM_stop hinv (by decide) (mvE_2 (by unfold badM; omega)))))
         | exact out_i (tmE_2 hts (movE_go (by omega) (goM_stop hinv (by decide) (mvE_10 (by unfold badM; omega) (by omega)))))
         | exact out_i (tmE_2 hts (movE_go (by omega) (goM_stop hinv (by decide) (mvE_6 (by unfold badM; omega) (by omega) (by omega)))))
         | exact out_i (tmE_2 hts (movE_go (by omega) (goM_stop hinv (by decide) (mvE_22 (by unfold badM; omega) (by omega) (by omega) (by unfold stkL; omega)))))
      ·have hb30R := hb30; (try simp only [z1, z2, z3, z4, z5, z6, ne_eq, z7, z8, z9, z10, z11, z12] at hb30); (try (have hts : termsE ts = 0 := hb30)); (try (have hyy := hire_get hH (p := x.part) hb30; obtain ⟨a, ha, hae⟩ := hyy; have hil := ix_lt (ts := ts) (p := x.part) hb30))
       refine g_step rfl rfl rfl rfl (e_faP (pl := [(0, 1, false), (1, 1, false), (2, 1, false), (3, 1, false)]) rfl (by kernel_rfl) (by kernel_rfl) (by decide) rfl) trivial ?_
       refine g_step rfl rfl rfl rfl (e_loadH (v := .sc _) rfl (hset_self _ _ _) (by kernel_rfl) (by kernel_rfl) (by kernel_rfl) (by exact Nat.zero_lt_one) (by decide) rfl) trivial ?_
       refine g_step rfl rfl rfl rfl (e_lt rfl rfl) trivial ?_
       refine g_step rfl rfl rfl rfl (e_pickF (v := .sc _) rfl rfl) trivial ?_
       refine g_step rfl rfl rfl rfl (e_move (v := .sc _) rfl) trivial ?_
       refine g_cases (fun hb32 => ?_) (fun hb32 => ?_)
       ·have hb32R := hb32; (try simp only [z1, z2, z3, z4, z5, z6, ne_eq, z7, z8, z9, z10, z11, z12] at hb32); (try (have hts : termsE ts = 0 := hb32)); (try (have hyy := hire_get hH (p := x.part) hb32; obtain ⟨a, ha, hae⟩ := hyy; have hil := ix_lt (ts := ts) (p := x.part) hb32))
        refine g_skip rfl rfl rfl ?_
        refine g_skip rfl rfl rfl ?_
        refine g_skip rfl rfl rfl ?_
        refine g_step rfl rfl rfl rfl (e_pickT (v := .sc _) rfl rfl) trivial ?_
        refine g_step rfl rfl rfl rfl (e_move (v := .sc _) rfl) trivial ?_
        refine g_skip rfl rfl rfl ?_
        refine g_skip rfl rfl rfl ?_
        refine g_skip rfl rfl rfl ?_
        refine g_step rfl rfl rfl rfl (e_pickT (v := .sc _) rfl rfl) trivial ?_
        refine g_step rfl rfl rfl rfl (e_move (v := .sc _) rfl) trivial ?_
        refine g_skip rfl rfl rfl ?_
        refine g_skip rfl rfl rfl ?_
        refine g_skip rfl rfl rfl ?_
        refine g_step rfl rfl rfl rfl (e_pickT (v := .sc _) rfl rfl) trivial ?_
        refine g_step rfl rfl rfl rfl (e_assign (v := .sc _) rfl) trivial ?_
        refine g_end (ds := [37, 38, 39, 42, 43, 44, 47, 48, 49, 52, 53, 54, 57, 58, 59]) rfl rfl (hK27 _ ?_); clear hK27 K27
        refine pwp_cond (t := true) rfl (fun _ => ?_) nofun
        refine pwp_seq_plain rfl fun K33 hK33 => ?_
        refine p_step rfl (e_assign (v := .sc _) rfl) trivial ?_
        refine p_end (hK33 _ ?_); clear hK33 K33
        refine pwp_ret ?_
        refine ret_block ?_
        refine ret_seq ?_
        refine ret_block ?_
        refine ret_seq ?_
        refine ret_loop ?_
        refine ret_block ?_
        refine ret_seq ?_
        refine end1 (v := .sc _) rfl ?_
        first
          | exact out_i (tmE_1 (by assumption))
          | exact out_i (tmE_2 hts (movE_big (by omega)))
          | exact out_i (tmE_2 hts (movE_go (by omega) hinv))
          | exact out_i (tmE_2 hts (movE_go (by omega) (goM_stop hinv (by decide) (mvE_2 (by unfold badM; omega)))))
          | exact out_i (tmE_2 hts (movE_go (by omega) (goM_stop hinv (by decide) (mvE_10 (by unfold badM; omega) (by omega)))))
          | exact out_i (tmE_2 hts (movE_go (by omega) (goM_stop hinv (by decide) (mvE_6 (by unfold badM; omega) (by omega) (by omega)))))
          | exact out_i (tmE_2 hts (movE_go (by omega) (goM_stop hinv (by decide) (mvE_22 (by unfold badM; omega) (by omega) (by omega) (by unfold stkL; omega)))))
       ·have hb32R := hb32; (try simp only [z1, z2, z3, z4, z5, z6, ne_eq, z7, z8, z9, z10, z11, z12] at hb32); (try (have hts : termsE ts = 0 := hb32)); (try (have hyy := hire_get hH (p := x.part) hb32; obtain ⟨a, ha, hae⟩ := hyy; have hil := ix_lt (ts := ts) (p := x.part) hb32))
        refine g_step rfl rfl rfl rfl (e_faP (pl := [(0, 1, false), (1, 1, false), (2, 1, false), (3, 1, false)]) rfl (by kernel_rfl) (by kernel_rfl) (by decide) rfl) trivial ?_
        refine g_step rfl rfl rfl rfl (e_loadH (v := .sc _) rfl (hset_self _ _ _) (by kernel_rfl) (by kernel_rfl) (by kernel_rfl) (by exact Nat.zero_lt_one) (by decide) rfl) trivial ?_
        refine g_step rfl rfl rfl rfl (e_gt rfl rfl) trivial ?_
        refine g_step rfl rfl rfl rfl (e_pickF (v := .sc _) rfl rfl) trivial ?_
        refine g_step rfl rfl rfl rfl (e_move (v := .sc _) rfl) trivial ?_
        refine g_cases (fun hb34 => ?_) (fun hb34 => ?_)
        ·have hb34R := hb34; (try simp only [z1, z2, z3, z4, z5, z6, ne_eq, z7, z8, z9, z10, z11, z12] at hb34); (try (have hts : termsE ts = 0 := hb34)); (try (have hyy := hire_get hH (p := x.part) hb34; obtain ⟨a, ha, hae⟩ := hyy; have hil := ix_lt (ts := ts) (p := x.part) hb34))
         refine g_skip rfl rfl rfl ?_
         refine g_skip rfl rfl rfl ?_
         refine g_skip rfl rfl rfl ?_
         refine g_step rfl rfl rfl rfl (e_pickT (v := .sc _) rfl rfl) trivial ?_
         refine g_step rfl rfl rfl rfl (e_move (v := .sc _) rfl) trivial ?_
         refine g_skip rfl rfl rfl ?_
         refine g_skip rfl rfl rfl ?_
         refine g_skip rfl rfl rfl ?_
         refine g_step rfl rfl rfl rfl (e_pickT (v := .sc _) rfl rfl) trivial ?_
         refine g_step rfl rfl rfl rfl (e_assign (v := .sc _) rfl) trivial ?_
         refine g_end (ds := [37, 38, 39, 42, 43, 44, 47, 48, 49, 52, 53, 54, 57, 58, 59]) rfl rfl (hK27 _ ?_); clear hK27 K27
         refine pwp_cond (t := true) rfl (fun _ => ?_) nofun
         refine pwp_seq_plain rfl fun K35 hK35 => ?_
         refine p_step rfl (e_assign (v := .sc _) rfl) trivial ?_
         refine p_end (hK35 _ ?_); clear hK35 K35
         refine pwp_ret ?_
         refine ret_block ?_
         refine ret_seq ?_
         refine ret_block ?_
         refine ret_seq ?_
         refine ret_loop ?_
         refine ret_block ?_
         refine ret_seq ?_
         refine end1 (v := .sc _) rfl ?_
         first
           | exact out_i (tmE_1 (by assumption))
           | exact out_i (tmE_2 hts (movE_big (by omega)))
           | exact out_i (tmE_2 hts (movE_go (by omega) hinv))
           | exact out_i (tmE_2 hts (movE_go (by omega) (goM_stop hinv (by decide) (mvE_2 (by unfold badM; omega)))))
           | exact out_i (tmE_2 hts (movE_go (by omega) (goM_stop hinv (by decide) (mvE_10 (by unfold badM; omega) (by omega)))))
           | exact out_i (tmE_2 hts (movE_go (by omega) (goM_stop hinv (by decide) (mvE_6 (by unfold badM; omega) (by omega) (by omega)))))
           | exact out_i (tmE_2 hts (movE_go (by omega) (goM_stop hinv (by decide) (mvE_22 (by unfold badM; omega) (by omega) (by omega) (by unfold stkL; omega)))))
        ·have hb34R := hb34; (try simp only [z1, z2, z3, z4, z5, z6, ne_eq, z7, z8, z9, z10, z11, z12] at hb34); (try (have hts : termsE ts = 0 := hb34)); (try (have hyy := hire_get hH (p := x.part) hb34; obtain ⟨a, ha, hae⟩ := hyy; have hil := ix_lt (ts := ts) (p := x.part) hb34))
         refine g_step rfl rfl rfl rfl (e_faP (pl := [(0, 1, false), (1, 1, false), (2, 1, false), (3, 1, false)]) rfl (by kernel_rfl) (by kernel_rfl) (by decide) rfl) trivial ?_
         refine g_step rfl rfl rfl rfl (e_loadH (v := .sc _) rfl (hset_self _ _ _) (by kernel_rfl) (by kernel_rfl) (by kernel_rfl) (by exact Nat.zero_lt_one) (by decide) rfl) trivial ?_
         refine g_step rfl rfl rfl rfl (e_lt rfl rfl) trivial ?_
         refine g_step rfl rfl rfl rfl (e_pickF (v := .sc _) rfl rfl) trivial ?_
         refine g_step rfl rfl rfl rfl (e_move (v := .sc _) rfl) trivial ?_
         refine g_cases (fun hb36 => ?_) (fun hb36 => ?_)
         ·have hb36R := hb36; (try simp only [z1, z2, z3, z4, z5, z6, ne_eq, z7, z8, z9, z10, z11, z12] at hb36); (try (have hts : termsE ts = 0 := hb36)); (try (have hyy := hire_get hH (p := x.part) hb36; obtain ⟨a, ha, hae⟩ := hyy; have hil := ix_lt (ts := ts) (p := x.part) hb36))
          refine g_skip rfl rfl rfl ?_
          refine g_skip rfl rfl rfl ?_
          refine g_skip rfl rfl rfl ?_
          refine g_step rfl rfl rfl rfl (e_pickT (v := .sc _) rfl rfl) trivial ?_
          refine g_step rfl rfl rfl rfl (e_assign (v := .sc _) rfl) trivial ?_
          refine g_end (ds := [37, 38, 39, 42, 43, 44, 47, 48, 49, 52, 53, 54, 57, 58, 59]) rfl rfl (hK27 _ ?_); clear hK27 K27
          refine pwp_cond (t := true) rfl (fun _ => ?_) nofun
          refine pwp_seq_plain rfl fun K37 hK37 => ?_
          refine p_step rfl (e_assign (v := .sc _) rfl) trivial ?_
          refine p_end (hK37 _ ?_); clear hK37 K37
          refine pwp_ret ?_
          refine ret_block ?_
          refine ret_seq ?_
          refine ret_block ?_
          refine ret_seq ?_
          refine ret_loop ?_
          refine ret_block ?_
          refine ret_seq ?_
          refine end1 (v := .sc _) rfl ?_
          first
            | exact out_i (tmE_1 (by assumption))
            | exact out_i (tmE_2 hts (movE_big (by omega)))
            | exact out_i (tmE_2 hts (movE_go (by omega) hinv))
            | exact out_i (tmE_2 hts (movE_go (by omega) (goM_stop hinv (by decide) (mvE_2 (by unfold badM; omega)))))
            | exact out_i (tmE_2 hts (movE_go (by omega) (goM_stop hinv (by decide) (mvE_10 (by unfold badM; omega) (by omega)))))
            | exact out_i (tmE_2 hts (movE_go (by omega) (goM_stop hinv (by decide) (mvE_6 (by unfold badM; omega) (by omega) (by omega)))))
            | exact out_i (tmE_2 hts (movE_go (by omega) (goM_stop hinv (by decide) (mvE_22 (by unfold badM; omega) (by omega) (by omega) (by unfold stkL; omega)))))
         ·have hb36R := hb36; (try simp only [z1, z2, z3, z4, z5, z6, ne_eq, z7, z8, z9, z10, z11, z12] at hb36); (try (have hts : termsE ts = 0 := hb36)); (try (have hyy := hire_get hH (p := x.part) hb36; obtain ⟨a, ha, hae⟩ := hyy; have hil := ix_lt (ts := ts) (p := x.part) hb36))
          refine g_step rfl rfl rfl rfl (e_faP (pl := [(0, 1, false), (1, 1, false), (2, 1, false), (3, 1, false)]) rfl (by kernel_rfl) (by kernel_rfl) (by decide) rfl) trivial ?_
          refine g_step rfl rfl rfl rfl (e_loadH (v := .sc _) rfl (hset_self _ _ _) (by kernel_rfl) (by kernel_rfl) (by kernel_rfl) (by exact Nat.zero_lt_one) (by decide) rfl) trivial ?_
          refine g_step rfl rfl rfl rfl (e_gt rfl rfl) trivial ?_
          refine g_step rfl rfl rfl rfl (e_pickF (v := .sc _) rfl rfl) trivial ?_
          refine g_step rfl rfl rfl rfl (e_assign (v := .sc _) rfl) trivial ?_
          refine g_end (ds := [37, 38, 39, 42, 43, 44, 47, 48, 49, 52, 53, 54, 57, 58, 59]) rfl rfl (hK27 _ ?_); clear hK27 K27
          refine pwp_cond rfl (fun hb38 => ?_) (fun hb38 => ?_)
          ·have hb38R := hb38; (try simp only [z1, z2, z3, z4, z5, z6, ne_eq, z7, z8, z9, z10, z11, z12] at hb38); (try (have hts : termsE ts = 0 := hb38)); (try (have hyy := hire_get hH (p := x.part) hb38; obtain ⟨a, ha, hae⟩ := hyy; have hil := ix_lt (ts := ts) (p := x.part) hb38))
           refine pwp_seq_plain rfl fun K39 hK39 => ?_
           refine p_step rfl (e_assign (v := .sc _) rfl) trivial ?_
           refine p_end (hK39 _ ?_); clear hK39 K39
           refine pwp_ret ?_
           refine ret_block ?_
           refine ret_seq ?_
           refine ret_block ?_
           refine ret_seq ?_
           refine ret_loop ?_
           refine ret_block ?_
           refine ret_seq ?_
           refine end1 (v := .sc _) rfl ?_
           first
             | exact out_i (tmE_1 (by assumption))
             | exact out_i (tmE_2 hts (movE_big (by omega)))
             | exact out_i (tmE_2 hts (movE_go (by omega) hinv))
             | exact out_i (tmE_2 hts (movE_go (by omega) (goM_stop hinv (by decide) (mvE_2 (by unfold badM; omega)))))
             | exact out_i (tmE_2 hts (movE_go (by omega) (goM_stop hinv (by decide) (mvE_10 (by unfold badM; omega) (by omega)))))
             | exact out_i (tmE_2 hts (movE_go (by omega) (goM_stop hinv (by decide) (mvE_6 (by unfold badM; omega) (by omega) (by omega)))))
             | exact out_i (tmE_2 hts (movE_go (by omega) (goM_stop hinv (by decide) (mvE_22 (by unfold badM; omega) (by omega) (by omega) (by unfold stkL; omega)))))
          ·have hb38R := hb38; (try simp only [z1, z2, z3, z4, z5, z6, ne_eq, z7, z8, z9, z10, z11, z12] at hb38); (try (have hts : termsE ts = 0 := hb38)); (try (have hyy := hire_get hH (p := x.part) hb38; obtain ⟨a, ha, hae⟩ := hyy; have hil := ix_lt (ts := ts) (p := x.part) hb38))
           refine pwp_seq_plain rfl fun K40 hK40 => ?_
           refine p_step rfl (e_faP (pl := [(0, 1, false), (1, 1, false), (2, 1, false), (3, 1, false)]) rfl (by kernel_rfl) (by kernel_rfl) (by decide) rfl) trivial ?_
           refine p_step rfl (e_loadH (v := .sc _) rfl (hset_self _ _ _) (by kernel_rfl) (by kernel_rfl) (by kernel_rfl) (by exact Nat.zero_lt_one) (by decide) rfl) trivial ?_
           refine p_step rfl (e_move (v := .sc _) rfl) trivial ?_
           refine p_step rfl (e_lt rfl rfl) trivial ?_
           refine p_step rfl (e_assign (v := .sc _) rfl) trivial ?_
           refine p_end (hK40 _ ?_); clear hK40 K40
           refine pwp_cond rfl (fun hb41 => ?_) (fun hb41 => ?_)
           ·have hb41R := hb41; (try simp only [z1, z2, z3, z4, z5, z6, ne_eq, z7, z8, z9, z10, z11, z12] at hb41); (try (have hts : termsE ts = 0 := hb41)); (try (have hyy := hire_get hH (p := x.part) hb41; obtain ⟨a, ha, hae⟩ := hyy; have hil := ix_lt (ts := ts) (p := x.part) hb41))
            refine pwp_seq_plain rfl fun K42 hK42 => ?_
            refine p_step rfl (e_assign (v := .sc _) rfl) trivial ?_
            refine p_end (hK42 _ ?_); clear hK42 K42
            refine pwp_ret ?_
            refine ret_block ?_
            refine ret_seq ?_
            refine ret_block ?_
            refine ret_seq ?_
            refine ret_loop ?_
            refine ret_block ?_
            refine ret_seq ?_
            refine end1 (v := .sc _) rfl ?_
            first
              | exact out_i (tmE_1 (by assumption))
              | exact out_i (tmE_2 hts (movE_big (by omega)))
              | exact out_i (tmE_2 hts (movE_go (by omega) hinv))
              | exact out_i (tmE_2 hts (movE_go (by omega) (goM_stop hinv (by decide) (mvE_2 (by unfold badM; omega)))))
              | exact out_i (tmE_2 hts (movE_go (by omega) (goM_stop hinv (by decide) (mvE_10 (by unfold badM; omega) (by omega)))))
              | exact out_i (tmE_2 hts (movE_go (by omega) (goM_stop hinv (by decide) (mvE_6 (by unfold badM; omega) (by omega) (by omega)))))
              | exact out_i (tmE_2 hts (movE_go (by omega) (goM_stop hinv (by decide) (mvE_22 (by unfold badM; omega) (by omega) (by omega) (by unfold stkL; omega)))))
           ·have hb41R := hb41; (try simp only [z1, z2, z3, z4, z5, z6, ne_eq, z7, z8, z9, z10, z11, z12] at hb41); (try (have hts : termsE ts = 0 := hb41)); (try (have hyy := hire_get hH (p := x.part) hb41; obtain ⟨a, ha, hae⟩ := hyy; have hil := ix_lt (ts := ts) (p := x.part) hb41))
            refine pwp_seq_plain rfl fun K43 hK43 => ?_
            refine p_step rfl (e_move (v := .sc _) rfl) trivial ?_
            refine p_step rfl (e_lt rfl rfl) trivial ?_
            refine p_step rfl (e_assign (v := .sc _) rfl) trivial ?_
            refine p_end (hK43 _ ?_); clear hK43 K43
            refine pwp_cond rfl (fun hb44 => ?_) (fun hb44 => ?_)
            ·have hb44R := hb44; (try simp only [z1, z2, z3, z4, z5, z6, ne_eq, z7, z8, z9, z10, z11, z12] at hb44); (try (have hts : termsE ts = 0 := hb44)); (try (have hyy := hire_get hH (p := x.part) hb44; obtain ⟨a, ha, hae⟩ := hyy; have hil := ix_lt (ts := ts) (p := x.part) hb44))
             refine pwp_seq_plain rfl fun K45 hK45 => ?_
             refine p_step rfl (e_assign (v := .sc _) rfl) trivial ?_
             refine p_end (hK45 _ ?_); clear hK45 K45
             refine pwp_ret ?_
             refine ret_block ?_
             refine ret_seq ?_
             refine ret_block ?_
             refine ret_seq ?_
             refine ret_loop ?_
             refine ret_block ?_
             refine ret_seq ?_
             refine end1 (v := .sc _) rfl ?_
             first
               | exact out_i (tmE_1 (by assumption))
               | exact out_i (tmE_2 hts (movE_big (by omega)))
               | exact out_i (tmE_2 hts (movE_go (by omega) hinv))
               | exact out_i (tmE_2 hts (movE_go (by omega) (goM_stop hinv (by decide) (mvE_2 (by unfold badM; omega)))))
               | exact out_i (tmE_2 hts (movE_go (by omega) (goM_stop hinv (by decide) (mvE_10 (by unfold badM; omega) (by omega)))))
               | exact out_i (tmE_2 hts (movE_go (by omega) (goM_stop hinv (by decide) (mvE_6 (by unfold badM; omega) (by omega) (by omega)))))
               | exact out_i (tmE_2 hts (movE_go (by omega) (goM_stop hinv (by decide) (mvE_22 (by unfold badM; omega) (by omega) (by omega) (by unfold stkL; omega)))))
            ·have hb44R := hb44; (try simp only [z1, z2, z3, z4, z5, z6, ne_eq, z7, z8, z9, z10, z11, z12] at hb44); (try (have hts : termsE ts = 0 := hb44)); (try (have hyy := hire_get hH (p := x.part) hb44; obtain ⟨a, ha, hae⟩ := hyy; have hil := ix_lt (ts := ts) (p := x.part) hb44))
             refine pwp_seq_gops rfl fun K46 hK46 => ?_
             refine g_begin ?_
             refine g_step rfl rfl rfl rfl (e_faP (pl := [(0, 1, false), (1, 1, false), (2, 1, false), (3, 1, false)]) rfl (by kernel_rfl) (by kernel_rfl) (by decide) rfl) trivial ?_
             refine g_step rfl rfl rfl rfl (e_loadH (v := .sc _) rfl (hset_self _ _ _) (by kernel_rfl) (by kernel_rfl) (by kernel_rfl) (by exact Nat.zero_lt_one) (by decide) rfl) trivial ?_
             refine g_step rfl rfl rfl rfl (e_ne rfl rfl) trivial ?_
             refine g_step rfl rfl rfl rfl (e_move (v := .sc _) rfl) trivial ?_
             refine g_cases (fun hb47 => ?_) (fun hb47 => ?_)
             ·have hb47R := hb47; (try simp only [z1, z2, z3, z4, z5, z6, ne_eq, z7, z8, z9, z10, z11, z12] at hb47); (try (have hts : termsE ts = 0 := hb47)); (try (have hyy := hire_get hH (p := x.part) hb47; obtain ⟨a, ha, hae⟩ := hyy; have hil := ix_lt (ts := ts) (p := x.part) hb47))
              refine g_step rfl rfl rfl rfl (e_move (v := .ref _ _ _ _) rfl) trivial ?_
              refine g_step rfl rfl rfl rfl (e_move (v := .sc _) rfl) trivial ?_
              refine g_step rfl rfl rfl rfl (e_ixaR0 rfl rfl (by kernel_rfl) (by kernel_rfl) (by omega)) trivial ?_
              refine g_step rfl rfl rfl rfl (e_loadI (a := a) rfl ((hset_ne (key_ne rfl)).trans ((hset_ne (key_ne rfl)).trans hihj19_0)) (by kernel_rfl) (by kernel_rfl) (by kernel_rfl) ha) trivial ?_
              refine g_step rfl rfl rfl rfl (e_faP (pl := [(0, 1, false), (1, 1, false), (2, 1, false), (3, 1, false)]) rfl (by kernel_rfl) (by kernel_rfl) (by decide) rfl) trivial ?_
              refine g_step rfl rfl rfl rfl (e_loadH (v := .sc _) rfl (hset_self _ _ _) (by kernel_rfl) (by kernel_rfl) (by kernel_rfl) (by exact Nat.zero_lt_one) (by decide) rfl) trivial ?_
              refine g_step rfl rfl rfl rfl (e_lt rfl rfl) trivial ?_
              refine g_step rfl rfl rfl rfl (e_pickT (v := .sc _) rfl rfl) trivial ?_
              refine g_step rfl rfl rfl rfl (e_assign (v := .sc _) rfl) trivial ?_
              refine g_end (ds := [74, 75, 76, 77, 78, 79, 80]) (by kernel_rfl) rfl (hK46 _ ?_); clear hK46 K46
              refine pwp_cond rfl (fun hb48 => ?_) (fun hb48 => ?_)
              ·have hb48R := hb48; (try simp only [z1, z2, z3, z4, z5, z6, ne_eq, z7, z8, z9, z10, z11, z12] at hb48); (try (have hts : termsE ts = 0 := hb48)); (try (have hyy := hire_get hH (p := x.part) hb48; obtain ⟨a, ha, hae⟩ := hyy; have hil := ix_lt (ts := ts) (p := x.part) hb48))
               refine pwp_seq_plain rfl fun K49 hK49 => ?_
               refine p_step rfl (e_assign (v := .sc _) rfl) trivial ?_
               refine p_end (hK49 _ ?_); clear hK49 K49
               refine pwp_ret ?_
               refine ret_block ?_
               refine ret_seq ?_
               refine ret_block ?_
               refine ret_seq ?_
               refine ret_loop ?_
               refine ret_block ?_
               refine ret_seq ?_
               refine end1 (v := .sc _) rfl ?_
               first
                 | exact out_i (tmE_1 (by assumption))
                 | exact out_i (tmE_2 hts (movE_big (by omega)))
                 | exact out_i (tmE_2 hts (movE_go (by omega) hinv))
                 | exact out_i (tmE_2 hts (movE_go (by omega) (goM_stop hinv (by decide) (mvE_2 (by unfold badM; omega)))))
                 | exact out_i (tmE_2 hts (movE_go (by omega) (goM_stop hinv (by decide) (mvE_10 (by unfold badM; omega) (by omega)))))
                 | exact out_i (tmE_2 hts (movE_go (by omega) (goM_stop hinv (by decide) (mvE_6 (by unfold badM; omega) (by omega) (by omega)))))
                 | exact out_i (tmE_2 hts (movE_go (by omega) (goM_stop hinv (by decide) (mvE_22 (by unfold badM; omega) (by omega) (by omega) (by unfold stkL; omega)))))
              ·have hb48R := hb48; (try simp only [z1, z2, z3, z4, z5, z6, ne_eq, z7, z8, z9, z10, z11, z12] at hb48); (try (have hts : termsE ts = 0 := hb48)); (try (have hyy := hire_get hH (p := x.part) hb48; obtain ⟨a, ha, hae⟩ := hyy; have hil := ix_lt (ts := ts) (p := x.part) hb48))
               refine pwp_skip ?_
               refine block_norm ?_
               refine seq_norm (hK26 _ ?_); clear hK26 K26
               refine pwp_seq_plain rfl fun K50 hK50 => ?_
               refine p_step rfl (e_faP (pl := [(0, 1, false), (1, 1, false), (2, 1, false), (3, 1, false)]) rfl (by kernel_rfl) (by kernel_rfl) (by decide) rfl) trivial ?_
               refine p_step rfl (e_loadH (v := .sc _) rfl (hset_self _ _ _) (by kernel_rfl) (by kernel_rfl) (by kernel_rfl) (by exact Nat.zero_lt_one) (by decide) rfl) trivial ?_
               refine p_step rfl (e_assign (v := .sc _) rfl) trivial ?_
               refine p_end (hK50 _ ?_); clear hK50 K50
               refine pwp_seq_plain rfl fun K51 hK51 => ?_
               refine p_step rfl (e_faP (pl := [(0, 1, false), (1, 1, false), (2, 1, false), (3, 1, false)]) rfl (by kernel_rfl) (by kernel_rfl) (by decide) rfl) trivial ?_
               refine p_step rfl (e_loadH (v := .sc _) rfl (hset_self _ _ _) (by kernel_rfl) (by kernel_rfl) (by kernel_rfl) (by exact Nat.zero_lt_one) (by decide) rfl) trivial ?_
               refine p_step rfl (e_eq rfl rfl) trivial ?_
               refine p_end (hK51 _ ?_); clear hK51 K51
               refine pwp_cond rfl (fun hb52 => ?_) (fun hb52 => ?_)
               ·have hb52R := hb52; (try simp only [z1, z2, z3, z4, z5, z6, ne_eq, z7, z8, z9, z10, z11, z12] at hb52); (try (have hts : termsE ts = 0 := hb52)); (try (have hyy := hire_get hH (p := x.part) hb52; obtain ⟨a, ha, hae⟩ := hyy; have hil := ix_lt (ts := ts) (p := x.part) hb52))
                refine pwp_gops rfl fun K53 hK53 => ?_
                refine s_begin ?_
                refine s_step [] (by simp) rfl rfl rfl rfl (e_move (v := .ref _ _ _ _) rfl) trivial ?_
                refine s_step [] (by simp) rfl rfl rfl rfl (e_move (v := .sc _) rfl) trivial ?_
                refine s_step [] (by simp) rfl rfl rfl rfl (e_ixaR0 rfl rfl (by kernel_rfl) (by kernel_rfl) (by omega)) trivial ?_
                refine s_step [21] (by simp) rfl rfl rfl rfl (e_loadI (a := a) rfl ((hset_ne (key_ne rfl)).trans ((hset_ne (key_ne rfl)).trans hihj19_0)) (by kernel_rfl) (by kernel_rfl) (by kernel_rfl) ha) trivial ?_
                refine s_step [] (by simp) rfl rfl rfl rfl (e_faP (pl := [(0, 1, false), (1, 1, false), (2, 1, false), (3, 1, false)]) rfl (by kernel_rfl) (by kernel_rfl) (by decide) rfl) trivial ?_
                refine s_step [9] (by simp) rfl rfl rfl rfl (e_loadH (v := .sc _) rfl (hset_self _ _ _) (by kernel_rfl) (by kernel_rfl) (by kernel_rfl) (by exact Nat.zero_lt_one) (by decide) rfl) trivial ?_
                refine s_step [] (by simp) rfl rfl rfl rfl (e_add rfl rfl (by omega)) trivial ?_
                refine s_step [] (by simp) rfl rfl rfl rfl (e_ixaR0 rfl rfl (by kernel_rfl) (by kernel_rfl) (by omega)) trivial ?_
                refine s_store [21] (by simp) rfl rfl (e_storeI (zs := zs) (a := (a + x.count)) rfl ((hset_ne (key_ne rfl)).trans ((hset_ne (key_ne rfl)).trans hihj19_0)) rfl (by omega) (by kernel_rfl) (by kernel_rfl)) trivial ?_
                refine s_end (ds := []) (by kernel_rfl) (by kernel_rfl) (hK53 _ ?_); clear hK53 K53
                refine block_norm ?_
                refine seq_norm (hK23 _ ?_); clear hK23 K23
                refine pwp_plain rfl fun K54 hK54 => ?_
                refine p_step rfl (e_add rfl rfl (by omega)) trivial ?_
                refine p_step rfl (e_move (v := .sc _) rfl) trivial ?_
                refine p_end (hK54 _ ?_); clear hK54 K54
                exact loop_again ((k + 1, x.day, ((zs).set ((termIx (ts) x.part)).toNat (a + x.count)))) (by show _ < _; simp only; omega) ⟨rfl, rfl, rfl, rfl, trivial⟩ ⟨rfl, rfl, trivial⟩ (by exact ⟨by show _ + 1 ≤ _; omega, by (rw [ht]; exact goM_next hinv (mvE_0 (by unfold badM; omega) (by omega) (by omega) (by unfold stkL; omega))), by exact ok_next hokk hx (by unfold badM; omega), by (rw [ht]; first | (exfalso; omega) | exact hire_step hts hH (ok_next hokk hx (by unfold badM; omega) x (by rw [ht]; simp)) (by omega) ha (by rw [if_pos (by omega)]) | exact hire_step hts hH (ok_next hokk hx (by unfold badM; omega) x (by rw [ht]; simp)) (by omega) ha (by rw [if_neg (by omega)])), (hset_self _ _ _)⟩)
               ·have hb52R := hb52; (try simp only [z1, z2, z3, z4, z5, z6, ne_eq, z7, z8, z9, z10, z11, z12] at hb52); (try (have hts : termsE ts = 0 := hb52)); (try (have hyy := hire_get hH (p := x.part) hb52; obtain ⟨a, ha, hae⟩ := hyy; have hil := ix_lt (ts := ts) (p := x.part) hb52))
                refine pwp_gops rfl fun K55 hK55 => ?_
                refine s_begin ?_
                refine s_step [] (by simp) rfl rfl rfl rfl (e_move (v := .ref _ _ _ _) rfl) trivial ?_
                refine s_step [] (by simp) rfl rfl rfl rfl (e_move (v := .sc _) rfl) trivial ?_
                refine s_step [] (by simp) rfl rfl rfl rfl (e_ixaR0 rfl rfl (by kernel_rfl) (by kernel_rfl) (by omega)) trivial ?_
                refine s_step [21] (by simp) rfl rfl rfl rfl (e_loadI (a := a) rfl ((hset_ne (key_ne rfl)).trans ((hset_ne (key_ne rfl)).trans hihj19_0)) (by kernel_rfl) (by kernel_rfl) (by kernel_rfl) ha) trivial ?_
                refine s_step [] (by simp) rfl rfl rfl rfl (e_faP (pl := [(0, 1, false), (1, 1, false), (2, 1, false), (3, 1, false)]) rfl (by kernel_rfl) (by kernel_rfl) (by decide) rfl) trivial ?_
                refine s_step [9] (by simp) rfl rfl rfl rfl (e_loadH (v := .sc _) rfl (hset_self _ _ _) (by kernel_rfl) (by kernel_rfl) (by kernel_rfl) (by exact Nat.zero_lt_one) (by decide) rfl) trivial ?_
                refine s_step [] (by simp) rfl rfl rfl rfl (e_sub rfl rfl (by omega)) trivial ?_
                refine s_step [] (by simp) rfl rfl rfl rfl (e_ixaR0 rfl rfl (by kernel_rfl) (by kernel_rfl) (by omega)) trivial ?_
                refine s_store [21] (by simp) rfl rfl (e_storeI (zs := zs) (a := (a - x.count)) rfl ((hset_ne (key_ne rfl)).trans ((hset_ne (key_ne rfl)).trans hihj19_0)) rfl (by omega) (by kernel_rfl) (by kernel_rfl)) trivial ?_
                refine s_end (ds := []) (by kernel_rfl) (by kernel_rfl) (hK55 _ ?_); clear hK55 K55
                refine block_norm ?_
                refine seq_norm (hK23 _ ?_); clear hK23 K23
                refine pwp_plain rfl fun K56 hK56 => ?_
                refine p_step rfl (e_add rfl rfl (by omega)) trivial ?_
                refine p_step rfl (e_move (v := .sc _) rfl) trivial ?_
                refine p_end (hK56 _ ?_); clear hK56 K56
                exact loop_again ((k + 1, x.day, ((zs).set ((termIx (ts) x.part)).toNat (a - x.count)))) (by show _ < _; simp only; omega) ⟨rfl, rfl, rfl, rfl, trivial⟩ ⟨rfl, rfl, trivial⟩ (by exact ⟨by show _ + 1 ≤ _; omega, by (rw [ht]; exact goM_next hinv (mvE_0 (by unfold badM; omega) (by omega) (by omega) (by unfold stkL; omega))), by exact ok_next hokk hx (by unfold badM; omega), by (rw [ht]; first | (exfalso; omega) | exact hire_step hts hH (ok_next hokk hx (by unfold badM; omega) x (by rw [ht]; simp)) (by omega) ha (by rw [if_pos (by omega)]) | exact hire_step hts hH (ok_next hokk hx (by unfold badM; omega) x (by rw [ht]; simp)) (by omega) ha (by rw [if_neg (by omega)])), (hset_self _ _ _)⟩)
             ·have hb47R := hb47; (try simp only [z1, z2, z3, z4, z5, z6, ne_eq, z7, z8, z9, z10, z11, z12] at hb47); (try (have hts : termsE ts = 0 := hb47)); (try (have hyy := hire_get hH (p := x.part) hb47; obtain ⟨a, ha, hae⟩ := hyy; have hil := ix_lt (ts := ts) (p := x.part) hb47))
              refine g_skip rfl rfl rfl ?_
              refine g_skip rfl rfl rfl ?_
              refine g_skip rfl rfl rfl ?_
              refine g_skip rfl rfl rfl ?_
              refine g_skip rfl rfl rfl ?_
              refine g_skip rfl rfl rfl ?_
              refine g_skip rfl rfl rfl ?_
              refine g_step rfl rfl rfl rfl (e_pickF (v := .sc _) rfl rfl) trivial ?_
              refine g_step rfl rfl rfl rfl (e_assign (v := .sc _) rfl) trivial ?_
              refine g_end (ds := [74, 75, 76, 77, 78, 79, 80]) (by kernel_rfl) rfl (hK46 _ ?_); clear hK46 K46
              refine pwp_cond (t := false) rfl nofun (fun _ => ?_)
              refine pwp_skip ?_
              refine block_norm ?_
              refine seq_norm (hK26 _ ?_); clear hK26 K26
              refine pwp_seq_plain rfl fun K57 hK57 => ?_
              refine p_step rfl (e_faP (pl := [(0, 1, false), (1, 1, false), (2, 1, false), (3, 1, false)]) rfl (by kernel_rfl) (by kernel_rfl) (by decide) rfl) trivial ?_
              refine p_step rfl (e_loadH (v := .sc _) rfl (hset_self _ _ _) (by kernel_rfl) (by kernel_rfl) (by kernel_rfl) (by exact Nat.zero_lt_one) (by decide) rfl) trivial ?_
              refine p_step rfl (e_assign (v := .sc _) rfl) trivial ?_
              refine p_end (hK57 _ ?_); clear hK57 K57
              refine pwp_seq_plain rfl fun K58 hK58 => ?_
              refine p_step rfl (e_faP (pl := [(0, 1, false), (1, 1, false), (2, 1, false), (3, 1, false)]) rfl (by kernel_rfl) (by kernel_rfl) (by decide) rfl) trivial ?_
              refine p_step rfl (e_loadH (v := .sc _) rfl (hset_self _ _ _) (by kernel_rfl) (by kernel_rfl) (by kernel_rfl) (by exact Nat.zero_lt_one) (by decide) rfl) trivial ?_
              refine p_step rfl (e_eq rfl rfl) trivial ?_
              refine p_end (hK58 _ ?_); clear hK58 K58
              refine pwp_cond rfl (fun hb59 => ?_) (fun hb59 => ?_)
              ·have hb59R := hb59; (try simp only [z1, z2, z3, z4, z5, z6, ne_eq, z7, z8, z9, z10, z11, z12] at hb59); (try (have hts : termsE ts = 0 := hb59)); (try (have hyy := hire_get hH (p := x.part) hb59; obtain ⟨a, ha, hae⟩ := hyy; have hil := ix_lt (ts := ts) (p := x.part) hb59))
               refine pwp_gops rfl fun K60 hK60 => ?_
               refine s_begin ?_
               refine s_step [] (by simp) rfl rfl rfl rfl (e_move (v := .ref _ _ _ _) rfl) trivial ?_
               refine s_step [] (by simp) rfl rfl rfl rfl (e_move (v := .sc _) rfl) trivial ?_
               refine s_step [] (by simp) rfl rfl rfl rfl (e_ixaR0 rfl rfl (by kernel_rfl) (by kernel_rfl) (by omega)) trivial ?_
               refine s_step [21] (by simp) rfl rfl rfl rfl (e_loadI (a := a) rfl ((hset_ne (key_ne rfl)).trans ((hset_ne (key_ne rfl)).trans hihj19_0)) (by kernel_rfl) (by kernel_rfl) (by kernel_rfl) ha) trivial ?_
               refine s_step [] (by simp) rfl rfl rfl rfl (e_faP (pl := [(0, 1, false), (1, 1, false), (2, 1, false), (3, 1, false)]) rfl (by kernel_rfl) (by kernel_rfl) (by decide) rfl) trivial ?_
               refine s_step [9] (by simp) rfl rfl rfl rfl (e_loadH (v := .sc _) rfl (hset_self _ _ _) (by kernel_rfl) (by kernel_rfl) (by kernel_rfl) (by exact Nat.zero_lt_one) (by decide) rfl) trivial ?_
               refine s_step [] (by simp) rfl rfl rfl rfl (e_add rfl rfl (by omega)) trivial ?_
               refine s_step [] (by simp) rfl rfl rfl rfl (e_ixaR0 rfl rfl (by kernel_rfl) (by kernel_rfl) (by omega)) trivial ?_
               refine s_store [21] (by simp) rfl rfl (e_storeI (zs := zs) (a := (a + x.count)) rfl ((hset_ne (key_ne rfl)).trans ((hset_ne (key_ne rfl)).trans hihj19_0)) rfl (by omega) (by kernel_rfl) (by kernel_rfl)) trivial ?_
               refine s_end (ds := []) (by kernel_rfl) (by kernel_rfl) (hK60 _ ?_); clear hK60 K60
               refine block_norm ?_
               refine seq_norm (hK23 _ ?_); clear hK23 K23
               refine pwp_plain rfl fun K61 hK61 => ?_
               refine p_step rfl (e_add rfl rfl (by omega)) trivial ?_
               refine p_step rfl (e_move (v := .sc _) rfl) trivial ?_
               refine p_end (hK61 _ ?_); clear hK61 K61
               exact loop_again ((k + 1, x.day, ((zs).set ((termIx (ts) x.part)).toNat (a + x.count)))) (by show _ < _; simp only; omega) ⟨rfl, rfl, rfl, rfl, trivial⟩ ⟨rfl, rfl, trivial⟩ (by exact ⟨by show _ + 1 ≤ _; omega, by (rw [ht]; exact goM_next hinv (mvE_0 (by unfold badM; omega) (by omega) (by omega) (by unfold stkL; omega))), by exact ok_next hokk hx (by unfold badM; omega), by (rw [ht]; first | (exfalso; omega) | exact hire_step hts hH (ok_next hokk hx (by unfold badM; omega) x (by rw [ht]; simp)) (by omega) ha (by rw [if_pos (by omega)]) | exact hire_step hts hH (ok_next hokk hx (by unfold badM; omega) x (by rw [ht]; simp)) (by omega) ha (by rw [if_neg (by omega)])), (hset_self _ _ _)⟩)
              ·have hb59R := hb59; (try simp only [z1, z2, z3, z4, z5, z6, ne_eq, z7, z8, z9, z10, z11, z12] at hb59); (try (have hts : termsE ts = 0 := hb59)); (try (have hyy := hire_get hH (p := x.part) hb59; obtain ⟨a, ha, hae⟩ := hyy; have hil := ix_lt (ts := ts) (p := x.part) hb59))
               refine pwp_gops rfl fun K62 hK62 => ?_
               refine s_begin ?_
               refine s_step [] (by simp) rfl rfl rfl rfl (e_move (v := .ref _ _ _ _) rfl) trivial ?_
               refine s_step [] (by simp) rfl rfl rfl rfl (e_move (v := .sc _) rfl) trivial ?_
               refine s_step [] (by simp) rfl rfl rfl rfl (e_ixaR0 rfl rfl (by kernel_rfl) (by kernel_rfl) (by omega)) trivial ?_
               refine s_step [21] (by simp) rfl rfl rfl rfl (e_loadI (a := a) rfl ((hset_ne (key_ne rfl)).trans ((hset_ne (key_ne rfl)).trans hihj19_0)) (by kernel_rfl) (by kernel_rfl) (by kernel_rfl) ha) trivial ?_
               refine s_step [] (by simp) rfl rfl rfl rfl (e_faP (pl := [(0, 1, false), (1, 1, false), (2, 1, false), (3, 1, false)]) rfl (by kernel_rfl) (by kernel_rfl) (by decide) rfl) trivial ?_
               refine s_step [9] (by simp) rfl rfl rfl rfl (e_loadH (v := .sc _) rfl (hset_self _ _ _) (by kernel_rfl) (by kernel_rfl) (by kernel_rfl) (by exact Nat.zero_lt_one) (by decide) rfl) trivial ?_
               refine s_step [] (by simp) rfl rfl rfl rfl (e_sub rfl rfl (by omega)) trivial ?_
               refine s_step [] (by simp) rfl rfl rfl rfl (e_ixaR0 rfl rfl (by kernel_rfl) (by kernel_rfl) (by omega)) trivial ?_
               refine s_store [21] (by simp) rfl rfl (e_storeI (zs := zs) (a := (a - x.count)) rfl ((hset_ne (key_ne rfl)).trans ((hset_ne (key_ne rfl)).trans hihj19_0)) rfl (by omega) (by kernel_rfl) (by kernel_rfl)) trivial ?_
               refine s_end (ds := []) (by kernel_rfl) (by kernel_rfl) (hK62 _ ?_); clear hK62 K62
               refine block_norm ?_
               refine seq_norm (hK23 _ ?_); clear hK23 K23
               refine pwp_plain rfl fun K63 hK63 => ?_
               refine p_step rfl (e_add rfl rfl (by omega)) trivial ?_
               refine p_step rfl (e_move (v := .sc _) rfl) trivial ?_
               refine p_end (hK63 _ ?_); clear hK63 K63
               exact loop_again ((k + 1, x.day, ((zs).set ((termIx (ts) x.part)).toNat (a - x.count)))) (by show _ < _; simp only; omega) ⟨rfl, rfl, rfl, rfl, trivial⟩ ⟨rfl, rfl, trivial⟩ (by exact ⟨by show _ + 1 ≤ _; omega, by (rw [ht]; exact goM_next hinv (mvE_0 (by unfold badM; omega) (by omega) (by omega) (by unfold stkL; omega))), by exact ok_next hokk hx (by unfold badM; omega), by (rw [ht]; first | (exfalso; omega) | exact hire_step hts hH (ok_next hokk hx (by unfold badM; omega) x (by rw [ht]; simp)) (by omega) ha (by rw [if_pos (by omega)]) | exact hire_step hts hH (ok_next hokk hx (by unfold badM; omega) x (by rw [ht]; simp)) (by omega) ha (by rw [if_neg (by omega)])), (hset_self _ _ _)⟩)
    ·have hb22R := hb22; (try simp only [z1, z2, z3, z4, z5, z6, ne_eq, z7, z8, z9, z10, z11, z12] at hb22); (try (have hts : termsE ts = 0 := hb22)); (try (have hyy := hire_get hH (p := x.part) hb22; obtain ⟨a, ha, hae⟩ := hyy; have hil := ix_lt (ts := ts) (p := x.part) hb22))
     obtain rfl : k = ms.length := by omega
     rw [List.drop_length] at hinv; simp only [goM] at hinv
     refine pwp_exit ?_
     refine exit_seq ?_
     clear hK21 K21
     refine exit_loop ?_
     refine exit_here ?_
     refine seq_norm (hK14 _ ?_); clear hK14 K14
     refine pwp_seq_plain rfl fun K64 hK64 => ?_
     refine p_step rfl (e_assign (v := .sc _) rfl) trivial ?_
     refine p_end (hK64 _ ?_); clear hK64 K64
     refine pwp_ret ?_
     refine end1 (v := .sc _) rfl ?_
     first
       | exact out_i (tmE_1 (by assumption))
       | exact out_i (tmE_2 hts (movE_big (by omega)))
       | exact out_i (tmE_2 hts (movE_go (by omega) hinv))
       | exact out_i (tmE_2 hts (movE_go (by omega) (goM_stop hinv (by decide) (mvE_2 (by unfold badM; omega)))))
       | exact out_i (tmE_2 hts (movE_go (by omega) (goM_stop hinv (by decide) (mvE_10 (by unfold badM; omega) (by omega)))))
       | exact out_i (tmE_2 hts (movE_go (by omega) (goM_stop hinv (by decide) (mvE_6 (by unfold badM; omega) (by omega) (by omega)))))
       | exact out_i (tmE_2 hts (movE_go (by omega) (goM_stop hinv (by decide) (mvE_22 (by unfold badM; omega) (by omega) (by omega) (by unfold stkL; omega)))))

end Go.Proofs.Ytdbpfhbppcpbbaa
