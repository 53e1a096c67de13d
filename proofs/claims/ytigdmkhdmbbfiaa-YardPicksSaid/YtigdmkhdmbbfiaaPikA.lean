import Derived.Test.YtigdmkhdmbbfiaaStoA
import Derived.Test.YtigdmkhdmbbfiaaStoB
/- Orders: what is checked. No conditions. -/
set_option linter.unusedSimpArgs false
set_option linter.unusedVariables false
set_option maxRecDepth 100000
set_option maxHeartbeats 8000000
namespace Go.Proofs.Ytigdmkhdmbbfiaa
open Go Go.Pv

/-! ### Orders -/
structure Order where
  place : Int
  wants : List Want
  swaps : List Swap
  deriving Inhabited
def Order.enc (x : Order) : List PV := [.int x.place, .lit true 2 (x.wants.map Want.enc), .lit true 3 (x.swaps.map Swap.enc)]
theorem Order.pure (x : Order) : ∀ p ∈ x.enc, Pure p := fun p hp => by
  simp only [Order.enc, List.mem_cons, List.not_mem_nil, or_false] at hp
  rcases hp with rfl | rfl | rfl
  · exact .sc _
  · exact .lit _ _ _ fun row hr => pure_map Want.pure row hr
  · exact .lit _ _ _ fun row hr => pure_map Swap.pure row hr
theorem Order.of {row : List PV} (h : CellsP Try.prog [3, 64, 65] row) : ∃ x : Order, row = x.enc ∧ x.wants.length ≤ maxLen ∧ x.swaps.length ≤ maxLen := by
  obtain ⟨q0, l0, rfl, h0, h⟩ := h.cons_inv
  obtain ⟨q1, l1, rfl, h1, h⟩ := h.cons_inv
  obtain ⟨q2, l2, rfl, h2, h⟩ := h.cons_inv
  obtain rfl := h.nil_inv
  obtain ⟨z0, rfl, _⟩ := h0.int_inv (k := .i64) Try.underlying3
  obtain ⟨rows, rfl, k1, k2⟩ := h1.slice_at (tys := [9, 3]) (n := 2) Try.underlying64 (by kernel_rfl) (by kernel_rfl)
  obtain ⟨ws, rfl, _⟩ := rows_of fun row hr => Want.of (k2 row hr)
  obtain ⟨rows, rfl, k3, k4⟩ := h2.slice_at (tys := [9, 9, 3]) (n := 3) Try.underlying65 (by kernel_rfl) (by kernel_rfl)
  obtain ⟨ss, rfl, _⟩ := rows_of fun row hr => Swap.of (k4 row hr)
  exact ⟨⟨z0, ws, ss⟩, rfl, by simpa using k1, by simpa using k3⟩
/-- Few wants and swaps with short texts. -/
def slightB (o : Order) : Bool := decide (o.wants.length ≤ 70 ∧ o.swaps.length ≤ 70 ∧ (∀ w ∈ o.wants, w.part.size ≤ 30) ∧ ∀ s ∈ o.swaps, s.part.size ≤ 30 ∧ s.via.size ≤ 30)
theorem sl_1 {o : Order} (h : ¬ (o.wants.length ≤ 70 ∧ o.swaps.length ≤ 70)) : false = slightB o := by
  symm; simp only [slightB, decide_eq_false_iff_not]; rintro ⟨h1, h2, _⟩; exact h ⟨h1, h2⟩
theorem sl_2 {o : Order} {k : Nat} {x : Want} (hx : o.wants[k]? = some x) (h : 30 < x.part.size) : false = slightB o := by
  symm; simp only [slightB, decide_eq_false_iff_not]; rintro ⟨_, _, h3, _⟩; have := h3 x (List.mem_of_getElem? hx); omega
theorem sl_3 {o : Order} {k : Nat} {x : Swap} (hx : o.swaps[k]? = some x) (h : ¬ (x.part.size ≤ 30 ∧ x.via.size ≤ 30)) : false = slightB o := by
  symm; simp only [slightB, decide_eq_false_iff_not]; rintro ⟨_, _, _, h3⟩; exact h (h3 x (List.mem_of_getElem? hx))
theorem sl_4 {o : Order} (h1 : o.wants.length ≤ 70 ∧ o.swaps.length ≤ 70) (h2 : ∀ w ∈ o.wants, w.part.size ≤ 30) (h3 : ∀ s ∈ o.swaps, s.part.size ≤ 30 ∧ s.via.size ≤ 30) : true = slightB o := by
  symm; simp only [slightB, decide_eq_true_eq]; exact ⟨h1.1, h1.2, h2, h3⟩
theorem slightB_iff {o : Order} (h : slightB o = true) : o.wants.length ≤ 70 ∧ o.swaps.length ≤ 70 ∧ (∀ w ∈ o.wants, w.part.size ≤ 30) ∧ ∀ s ∈ o.swaps, s.part.size ≤ 30 ∧ s.via.size ≤ 30 := by simpa only [slightB, decide_eq_true_eq] using h
/-- The first error of wants of a least count, or 0. -/
def wntE (lo : Int) : List Want → Int
  | [] => 0
  | w :: l => if isNm w.part = false then 4 else if ¬ (lo ≤ w.count ∧ w.count ≤ 1000000) then 2 else wntE lo l
theorem wntE_ok {lo : Int} : ∀ {l : List Want}, wntE lo l = 0 → ∀ w ∈ l, isNm w.part = true ∧ lo ≤ w.count ∧ w.count ≤ 1000000
  | [], _, s, hs => by simp at hs
  | x :: l, h, s, hs => by
    unfold wntE at h
    by_cases h1 : isNm x.part = false
    · rw [if_pos h1] at h; cases h
    · rw [if_neg h1] at h
      by_cases h2 : ¬ (lo ≤ x.count ∧ x.count ≤ 1000000)
      · rw [if_pos h2] at h; cases h
      · rw [if_neg h2] at h
        rcases List.mem_cons.1 hs with rfl | hs
        · exact ⟨by simpa using h1, by omega⟩
        · exact wntE_ok h s hs
theorem wzz {ws : List Want} (hs : ∀ x ∈ ws, x.part.size ≤ 30) {i : Nat} {x : Want} (hx : ws[i]? = some x) : x.part.size ≤ 30 := hs x (List.mem_of_getElem? hx)
theorem szz {ws : List Swap} (hs : ∀ x ∈ ws, x.part.size ≤ 30 ∧ x.via.size ≤ 30) {i : Nat} {x : Swap} (hx : ws[i]? = some x) : x.part.size ≤ 30 ∧ x.via.size ≤ 30 := hs x (List.mem_of_getElem? hx)
/-- The first error of swaps, or 0. -/
def swapsE : List Swap → Int
  | [] => 0
  | s :: l => if isNm s.part = false ∨ isNm s.via = false then 4 else if s.part = s.via then 3 else if ¬ (1 ≤ s.count ∧ s.count ≤ 100) then 2 else swapsE l
def orderE (o : Order) : Int := if ¬ (1 ≤ o.place ∧ o.place ≤ 99) then 2 else if 60 < o.wants.length ∨ 60 < o.swaps.length then 11 else if ¬ wntE 1 o.wants = 0 then wntE 1 o.wants else swapsE o.swaps
theorem oe_1 {o : Order} (h : ¬ (1 ≤ o.place ∧ o.place ≤ 99)) : (2 : Int) = orderE o := (if_pos h).symm
theorem oe_2 {o : Order} (h : 1 ≤ o.place ∧ o.place ≤ 99) (h2 : 60 < o.wants.length ∨ 60 < o.swaps.length) : (11 : Int) = orderE o := by rw [orderE, if_neg (by simpa using h), if_pos h2]
theorem oe_3 {o : Order} {z : Int} (h : 1 ≤ o.place ∧ o.place ≤ 99) (h2 : ¬ (60 < o.wants.length ∨ 60 < o.swaps.length)) (h3 : wntE 1 o.wants = z) (h4 : ¬ z = 0) : z = orderE o := by rw [orderE, if_neg (by simpa using h), if_neg h2, h3, if_pos h4]
theorem oe_4 {o : Order} {z : Int} (h : 1 ≤ o.place ∧ o.place ≤ 99) (h2 : ¬ (60 < o.wants.length ∨ 60 < o.swaps.length)) (h3 : wntE 1 o.wants = 0) (h4 : swapsE o.swaps = z) : z = orderE o := by rw [orderE, if_neg (by simpa using h), if_neg h2, h3, if_neg (by simp), h4]
theorem orderE_ok {o : Order} (h : orderE o = 0) : (1 ≤ o.place ∧ o.place ≤ 99) ∧ o.wants.length ≤ 60 ∧ o.swaps.length ≤ 60 ∧ wntE 1 o.wants = 0 ∧ swapsE o.swaps = 0 := by
  unfold orderE at h
  split at h
  · cases h
  · rename_i h1
    split at h
    · cases h
    · rename_i h2
      split at h
      · rename_i h3; exact absurd h h3
      · rename_i h3; exact ⟨by simpa using h1, by omega, by omega, by simpa using h3, h⟩
theorem swapsE_ok : ∀ {l : List Swap}, swapsE l = 0 → ∀ s ∈ l, isNm s.part = true ∧ isNm s.via = true ∧ s.part ≠ s.via ∧ 1 ≤ s.count ∧ s.count ≤ 100
  | [], _, s, hs => by simp at hs
  | x :: l, h, s, hs => by
    unfold swapsE at h
    by_cases h1 : isNm x.part = false ∨ isNm x.via = false
    · rw [if_pos h1] at h; cases h
    · rw [if_neg h1] at h
      by_cases h2 : x.part = x.via
      · rw [if_pos h2] at h; cases h
      · rw [if_neg h2] at h
        by_cases h3 : ¬ (1 ≤ x.count ∧ x.count ≤ 100)
        · rw [if_pos h3] at h; cases h
        · rw [if_neg h3] at h
          rcases List.mem_cons.1 hs with rfl | hs
          · simp only [not_or, Bool.not_eq_false] at h1
            exact ⟨h1.1, h1.2, h2, by omega, by omega⟩
          · exact swapsE_ok h s hs
theorem sw_1 {s : Swap} {l : List Swap} {R : Int} (h : R = swapsE (s :: l)) (h2 : isNm s.part = false) : R = 4 := by rw [h, swapsE, if_pos (.inl h2)]
theorem sw_1b {s : Swap} {l : List Swap} {R : Int} (h : R = swapsE (s :: l)) (h2 : isNm s.via = false) : R = 4 := by rw [h, swapsE, if_pos (.inr h2)]
theorem sw_2 {s : Swap} {l : List Swap} {R : Int} (h : R = swapsE (s :: l)) (h1 : isNm s.part = true) (h2 : isNm s.via = true) (h3 : s.part = s.via) : R = 3 := by rw [h, swapsE, if_neg (by simp [h1, h2]), if_pos h3]
theorem sw_3 {s : Swap} {l : List Swap} {R : Int} (h : R = swapsE (s :: l)) (h1 : isNm s.part = true) (h2 : isNm s.via = true) (h3 : ¬ s.part = s.via) (h4 : ¬ (1 ≤ s.count ∧ s.count ≤ 100)) : R = 2 := by rw [h, swapsE, if_neg (by simp [h1, h2]), if_neg h3, if_pos h4]
theorem sw_4 {s : Swap} {l : List Swap} {R : Int} (h : R = swapsE (s :: l)) (h1 : isNm s.part = true) (h2 : isNm s.via = true) (h3 : ¬ s.part = s.via) (h4 : 1 ≤ s.count ∧ s.count ≤ 100) : R = swapsE l := by rw [h, swapsE, if_neg (by simp [h1, h2]), if_neg h3, if_neg (by simpa using h4)]

theorem fr36 : (inFrame Try.f36.ntmps (Try.f36.body.getD .skip) && Try.f36.results.toList.all (resScope Try.f36.ntmps)) = true := by kernel_rfl
theorem slight (o : Order) (h1 : o.wants.length ≤ 9223372036854775807) (h2 : o.swaps.length ≤ 9223372036854775807) : PCalls Try.prog 36 [.agg o.enc] (.bool (slightB o)) := by
  refine PCalls.of_code Try.func36 rfl rfl (by kernel_rfl) mixed fr36 (by show _ ≤ 55; simp) (.sc _) ?_
  refine pwp_seq_plain rfl fun K1 hK1 => ?_
  refine p_new rfl (e_box (n := 3) rfl rfl) ⟨rfl, by decide⟩ ?_
  refine p_step rfl (e_assign (v := .sc _) rfl) trivial ?_
  refine p_end (hK1 _ ?_); clear hK1 K1
  refine pwp_seq_seq ?_
  refine pwp_seq_gops rfl fun K2 hK2 => ?_
  refine g_begin ?_
  refine g_step rfl rfl rfl rfl (e_faP (pl := [(0, 1, false), (1, 1, false), (2, 1, false)]) rfl (by kernel_rfl) (by kernel_rfl) (by decide) rfl) trivial ?_
  refine g_step rfl rfl rfl rfl (e_loadH (v := .lit _ _ _) rfl (hset_self _ _ _) (by kernel_rfl) (by kernel_rfl) (by kernel_rfl) (by exact Nat.zero_lt_one) (by decide) rfl) trivial ?_
  refine g_step rfl rfl rfl rfl (e_len rfl (by kernel_rfl)) trivial ?_
  refine g_step rfl rfl rfl rfl (e_gt rfl rfl) trivial ?_
  refine g_step rfl rfl rfl rfl (e_move (v := .sc _) rfl) trivial ?_
  refine g_cases (fun hb3 => ?_) (fun hb3 => ?_)
  ·have hb3R := hb3; try simp only [z1, z2, z3, z4, z5, z6, ne_eq, z7, z8, z9, z10, z11, z12] at hb3
   refine g_skip rfl rfl rfl ?_
   refine g_skip rfl rfl rfl ?_
   refine g_skip rfl rfl rfl ?_
   refine g_skip rfl rfl rfl ?_
   refine g_step rfl rfl rfl rfl (e_pickT (v := .sc _) rfl rfl) trivial ?_
   refine g_end (ds := [10, 11, 12, 13]) rfl rfl (hK2 _ ?_); clear hK2 K2
   refine pwp_seq_cond (t := true) rfl fun K4 hK4 => ⟨fun _ => ?_, nofun⟩
   refine pwp_seq_plain rfl fun K5 hK5 => ?_
   refine p_step rfl (e_assign (v := .sc _) rfl) trivial ?_
   refine p_end (hK5 _ ?_); clear hK5 K5
   refine pwp_ret ?_
   refine ret_seq ?_
   refine end1 (v := .sc _) rfl ?_
   exact out_b (sl_1 (by omega))
  have hb3R := hb3; try simp only [z1, z2, z3, z4, z5, z6, ne_eq, z7, z8, z9, z10, z11, z12] at hb3
  refine g_step rfl rfl rfl rfl (e_faP (pl := [(0, 1, false), (1, 1, false), (2, 1, false)]) rfl (by kernel_rfl) (by kernel_rfl) (by decide) rfl) trivial ?_
  refine g_step rfl rfl rfl rfl (e_loadH (v := .lit _ _ _) rfl (hset_self _ _ _) (by kernel_rfl) (by kernel_rfl) (by kernel_rfl) (by exact Nat.zero_lt_one) (by decide) rfl) trivial ?_
  refine g_step rfl rfl rfl rfl (e_len rfl (by kernel_rfl)) trivial ?_
  refine g_step rfl rfl rfl rfl (e_gt rfl rfl) trivial ?_
  refine g_step rfl rfl rfl rfl (e_pickF (v := .sc _) rfl rfl) trivial ?_
  refine g_end (ds := [10, 11, 12, 13]) rfl rfl (hK2 _ ?_); clear hK2 K2
  refine pwp_seq_cond rfl fun K6 hK6 => ⟨fun hb7 => ?_, fun hb7 => ?_⟩
  ·have hb7R := hb7; try simp only [z1, z2, z3, z4, z5, z6, ne_eq, z7, z8, z9, z10, z11, z12] at hb7
   refine pwp_seq_plain rfl fun K8 hK8 => ?_
   refine p_step rfl (e_assign (v := .sc _) rfl) trivial ?_
   refine p_end (hK8 _ ?_); clear hK8 K8
   refine pwp_ret ?_
   refine ret_seq ?_
   refine end1 (v := .sc _) rfl ?_
   exact out_b (sl_1 (by omega))
  have hb7R := hb7; try simp only [z1, z2, z3, z4, z5, z6, ne_eq, z7, z8, z9, z10, z11, z12] at hb7
  refine pwp_skip ?_
  refine seq_norm (hK6 _ ?_); clear hK6 K6
  refine pwp_seq_seq ?_
  refine pwp_seq_plain rfl fun K9 hK9 => ?_
  refine p_step rfl (e_assign (v := .sc _) rfl) trivial ?_
  refine p_end (hK9 _ ?_); clear hK9 K9
  refine pwp_seq_block fun K10 hK10 => ?_
  refine pwp_loopR (α := Nat) [1] (fun (k : Nat) => [(3, .int (k))]) (fun (k : Nat) (h : Heap) (_ : Nat → Nat) => ((k) ≤ o.wants.length) ∧ (∀ x ∈ o.wants.take (k), x.part.size ≤ 30) ∧ (h (1, 0) = some (.rows 3 [Order.enc o]))) (fun (k : Nat) => o.wants.length - (k)) (0) (by exact ⟨rfl, trivial⟩) (by exact ⟨by exact Nat.zero_le _, by simp, (hset_self _ _ _)⟩) fun k r11 h12 c13 hj14 => ?_
  obtain ⟨hk, hq, hihj14_0⟩ := hj14
  try dsimp only at hk
  try dsimp only at hq
  try dsimp only at hihj14_0
  show pwp _ _ (loopQ _ _ _) ⟨sets (mix _ _ _) [(3, .int k)], _, _⟩
  refine pwp_seq_seq ?_
  refine pwp_seq_plain rfl fun K15 hK15 => ?_
  refine p_step rfl (e_move (v := .sc _) rfl) trivial ?_
  refine p_step rfl (e_faP (pl := [(0, 1, false), (1, 1, false), (2, 1, false)]) rfl (by kernel_rfl) (by kernel_rfl) (by decide) rfl) trivial ?_
  refine p_step rfl (e_loadH (v := .lit _ _ _) rfl hihj14_0 (by kernel_rfl) (by kernel_rfl) (by kernel_rfl) (by exact Nat.zero_lt_one) (by decide) rfl) trivial ?_
  refine p_step rfl (e_len rfl (by kernel_rfl)) trivial ?_
  refine p_step rfl (e_lt rfl rfl) trivial ?_
  refine p_end (hK15 _ ?_); clear hK15 K15
  refine pwp_seq_cond rfl fun K16 hK16 => ⟨fun hb17 => ?_, fun hb17 => ?_⟩
  ·have hb17R := hb17; try simp only [z1, z2, z3, z4, z5, z6, ne_eq, z7, z8, z9, z10, z11, z12] at hb17
   obtain ⟨x, hx, hd, ht⟩ := get_lt (xs := o.wants) (i := k) (by omega)
   refine pwp_skip ?_
   refine seq_norm (hK16 _ ?_); clear hK16 K16
   refine pwp_seq_block fun K18 hK18 => ?_
   refine pwp_seq_plain rfl fun K19 hK19 => ?_
   refine p_step rfl (e_faP (pl := [(0, 1, false), (1, 1, false), (2, 1, false)]) rfl (by kernel_rfl) (by kernel_rfl) (by decide) rfl) trivial ?_
   refine p_step rfl (e_loadH (v := .lit _ _ _) rfl hihj14_0 (by kernel_rfl) (by kernel_rfl) (by kernel_rfl) (by exact Nat.zero_lt_one) (by decide) rfl) trivial ?_
   refine p_step rfl (e_move (v := .sc _) rfl) trivial ?_
   refine p_step rfl (e_ixa rfl rfl (by kernel_rfl) (by kernel_rfl) (by simp only [List.length_map]; omega)) trivial ?_
   refine p_step rfl (e_fa (pl := [(0, 1, false), (1, 1, false)]) rfl (by kernel_rfl) (by kernel_rfl) (by decide) rfl) trivial ?_
   refine p_step rfl (e_load (v := .sc _) rfl (by kernel_rfl) (by kernel_rfl) (by kernel_rfl) (by simp only [List.length_map]; omega) (by decide) ((cell_map hx _).trans rfl)) trivial ?_
   refine p_step rfl (e_lenS rfl (by kernel_rfl)) trivial ?_
   refine p_step rfl (e_gt rfl rfl) trivial ?_
   refine p_end (hK19 _ ?_); clear hK19 K19
   refine pwp_cond rfl (fun hb20 => ?_) (fun hb20 => ?_)
   ·have hb20R := hb20; try simp only [z1, z2, z3, z4, z5, z6, ne_eq, z7, z8, z9, z10, z11, z12] at hb20
    refine pwp_seq_plain rfl fun K21 hK21 => ?_
    refine p_step rfl (e_assign (v := .sc _) rfl) trivial ?_
    refine p_end (hK21 _ ?_); clear hK21 K21
    refine pwp_ret ?_
    refine ret_block ?_
    refine ret_seq ?_
    refine ret_loop ?_
    refine ret_block ?_
    refine ret_seq ?_
    refine end1 (v := .sc _) rfl ?_
    exact out_b (sl_2 hx (by omega))
   have hb20R := hb20; try simp only [z1, z2, z3, z4, z5, z6, ne_eq, z7, z8, z9, z10, z11, z12] at hb20
   refine pwp_skip ?_
   refine block_norm ?_
   refine seq_norm (hK18 _ ?_); clear hK18 K18
   refine pwp_plain rfl fun K22 hK22 => ?_
   refine p_step rfl (e_move (v := .sc _) rfl) trivial ?_
   refine p_step rfl (e_add rfl rfl (by omega)) trivial ?_
   refine p_step rfl (e_assign (v := .sc _) rfl) trivial ?_
   refine p_end (hK22 _ ?_); clear hK22 K22
   exact loop_again (k + 1) (by show _ < _; omega) ⟨rfl, trivial⟩ ⟨rfl, trivial⟩ (by exact ⟨by show _ + 1 ≤ _; omega, by exact all_snocS ht hq (by omega), hihj14_0⟩)
  have hb17R := hb17; try simp only [z1, z2, z3, z4, z5, z6, ne_eq, z7, z8, z9, z10, z11, z12] at hb17
  obtain rfl : k = o.wants.length := by omega
  rw [List.take_length] at hq
  have hqw := hq
  refine pwp_exit ?_
  refine exit_seq ?_
  clear hK16 K16
  refine exit_loop ?_
  refine exit_here ?_
  refine seq_norm (hK10 _ ?_); clear hK10 K10
  refine pwp_seq_seq ?_
  refine pwp_seq_plain rfl fun K23 hK23 => ?_
  refine p_step rfl (e_assign (v := .sc _) rfl) trivial ?_
  refine p_end (hK23 _ ?_); clear hK23 K23
  refine pwp_seq_block fun K24 hK24 => ?_
  refine pwp_loopR (α := Nat) [1] (fun (k : Nat) => [(4, .int (k))]) (fun (k : Nat) (h : Heap) (_ : Nat → Nat) => ((k) ≤ o.swaps.length) ∧ (∀ x ∈ o.swaps.take (k), x.part.size ≤ 30 ∧ x.via.size ≤ 30) ∧ (h (1, 0) = some (.rows 3 [Order.enc o]))) (fun (k : Nat) => o.swaps.length - (k)) (0) (by exact ⟨rfl, trivial⟩) (by exact ⟨by exact Nat.zero_le _, by simp, hihj14_0⟩) fun k r25 h26 c27 hj28 => ?_
  obtain ⟨hk, hq, hihj28_0⟩ := hj28
  try dsimp only at hk
  try dsimp only at hq
  try dsimp only at hihj28_0
  show pwp _ _ (loopQ _ _ _) ⟨sets (mix _ _ _) [(4, .int k)], _, _⟩
  refine pwp_seq_seq ?_
  refine pwp_seq_plain rfl fun K29 hK29 => ?_
  refine p_step rfl (e_move (v := .sc _) rfl) trivial ?_
  refine p_step rfl (e_faP (pl := [(0, 1, false), (1, 1, false), (2, 1, false)]) rfl (by kernel_rfl) (by kernel_rfl) (by decide) rfl) trivial ?_
  refine p_step rfl (e_loadH (v := .lit _ _ _) rfl hihj28_0 (by kernel_rfl) (by kernel_rfl) (by kernel_rfl) (by exact Nat.zero_lt_one) (by decide) rfl) trivial ?_
  refine p_step rfl (e_len rfl (by kernel_rfl)) trivial ?_
  refine p_step rfl (e_lt rfl rfl) trivial ?_
  refine p_end (hK29 _ ?_); clear hK29 K29
  refine pwp_seq_cond rfl fun K30 hK30 => ⟨fun hb31 => ?_, fun hb31 => ?_⟩
  ·have hb31R := hb31; try simp only [z1, z2, z3, z4, z5, z6, ne_eq, z7, z8, z9, z10, z11, z12] at hb31
   obtain ⟨x, hx, hd, ht⟩ := get_lt (xs := o.swaps) (i := k) (by omega)
   refine pwp_skip ?_
   refine seq_norm (hK30 _ ?_); clear hK30 K30
   refine pwp_seq_block fun K32 hK32 => ?_
   refine pwp_seq_gops rfl fun K33 hK33 => ?_
   refine g_begin ?_
   refine g_step rfl rfl rfl rfl (e_faP (pl := [(0, 1, false), (1, 1, false), (2, 1, false)]) rfl (by kernel_rfl) (by kernel_rfl) (by decide) rfl) trivial ?_
   refine g_step rfl rfl rfl rfl (e_loadH (v := .lit _ _ _) rfl hihj28_0 (by kernel_rfl) (by kernel_rfl) (by kernel_rfl) (by exact Nat.zero_lt_one) (by decide) rfl) trivial ?_
   refine g_step rfl rfl rfl rfl (e_move (v := .sc _) rfl) trivial ?_
   refine g_step rfl rfl rfl rfl (e_ixa rfl rfl (by kernel_rfl) (by kernel_rfl) (by simp only [List.length_map]; omega)) trivial ?_
   refine g_step rfl rfl rfl rfl (e_fa (pl := [(0, 1, false), (1, 1, false), (2, 1, false)]) rfl (by kernel_rfl) (by kernel_rfl) (by decide) rfl) trivial ?_
   refine g_step rfl rfl rfl rfl (e_load (v := .sc _) rfl (by kernel_rfl) (by kernel_rfl) (by kernel_rfl) (by simp only [List.length_map]; omega) (by decide) ((cell_map hx _).trans rfl)) trivial ?_
   refine g_step rfl rfl rfl rfl (e_lenS rfl (by kernel_rfl)) trivial ?_
   refine g_step rfl rfl rfl rfl (e_gt rfl rfl) trivial ?_
   refine g_step rfl rfl rfl rfl (e_move (v := .sc _) rfl) trivial ?_
   refine g_cases (fun hb34 => ?_) (fun hb34 => ?_)
   ·have hb34R := hb34; try simp only [z1, z2, z3, z4, z5, z6, ne_eq, z7, z8, z9, z10, z11, z12] at hb34
    refine g_skip rfl rfl rfl ?_
    refine g_skip rfl rfl rfl ?_
    refine g_skip rfl rfl rfl ?_
    refine g_skip rfl rfl rfl ?_
    refine g_skip rfl rfl rfl ?_
    refine g_skip rfl rfl rfl ?_
    refine g_skip rfl rfl rfl ?_
    refine g_skip rfl rfl rfl ?_
    refine g_step rfl rfl rfl rfl (e_pickT (v := .sc _) rfl rfl) trivial ?_
    refine g_end (ds := [46, 47, 48, 49, 50, 51, 52, 53]) rfl rfl (hK33 _ ?_); clear hK33 K33
    refine pwp_cond (t := true) rfl (fun _ => ?_) nofun
    refine pwp_seq_plain rfl fun K35 hK35 => ?_
    refine p_step rfl (e_assign (v := .sc _) rfl) trivial ?_
    refine p_end (hK35 _ ?_); clear hK35 K35
    refine pwp_ret ?_
    refine ret_block ?_
    refine ret_seq ?_
    refine ret_loop ?_
    refine ret_block ?_
    refine ret_seq ?_
    refine end1 (v := .sc _) rfl ?_
    exact out_b (sl_3 hx (by omega))
   have hb34R := hb34; try simp only [z1, z2, z3, z4, z5, z6, ne_eq, z7, z8, z9, z10, z11, z12] at hb34
   refine g_step rfl rfl rfl rfl (e_faP (pl := [(0, 1, false), (1, 1, false), (2, 1, false)]) rfl (by kernel_rfl) (by kernel_rfl) (by decide) rfl) trivial ?_
   refine g_step rfl rfl rfl rfl (e_loadH (v := .lit _ _ _) rfl hihj28_0 (by kernel_rfl) (by kernel_rfl) (by kernel_rfl) (by exact Nat.zero_lt_one) (by decide) rfl) trivial ?_
   refine g_step rfl rfl rfl rfl (e_move (v := .sc _) rfl) trivial ?_
   refine g_step rfl rfl rfl rfl (e_ixa rfl rfl (by kernel_rfl) (by kernel_rfl) (by simp only [List.length_map]; omega)) trivial ?_
   refine g_step rfl rfl rfl rfl (e_fa (pl := [(0, 1, false), (1, 1, false), (2, 1, false)]) rfl (by kernel_rfl) (by kernel_rfl) (by decide) rfl) trivial ?_
   refine g_step rfl rfl rfl rfl (e_load (v := .sc _) rfl (by kernel_rfl) (by kernel_rfl) (by kernel_rfl) (by simp only [List.length_map]; omega) (by decide) ((cell_map hx _).trans rfl)) trivial ?_
   refine g_step rfl rfl rfl rfl (e_lenS rfl (by kernel_rfl)) trivial ?_
   refine g_step rfl rfl rfl rfl (e_gt rfl rfl) trivial ?_
   refine g_step rfl rfl rfl rfl (e_pickF (v := .sc _) rfl rfl) trivial ?_
   refine g_end (ds := [46, 47, 48, 49, 50, 51, 52, 53]) rfl rfl (hK33 _ ?_); clear hK33 K33
   refine pwp_cond rfl (fun hb36 => ?_) (fun hb36 => ?_)
   ·have hb36R := hb36; try simp only [z1, z2, z3, z4, z5, z6, ne_eq, z7, z8, z9, z10, z11, z12] at hb36
    refine pwp_seq_plain rfl fun K37 hK37 => ?_
    refine p_step rfl (e_assign (v := .sc _) rfl) trivial ?_
    refine p_end (hK37 _ ?_); clear hK37 K37
    refine pwp_ret ?_
    refine ret_block ?_
    refine ret_seq ?_
    refine ret_loop ?_
    refine ret_block ?_
    refine ret_seq ?_
    refine end1 (v := .sc _) rfl ?_
    exact out_b (sl_3 hx (by omega))
   have hb36R := hb36; try simp only [z1, z2, z3, z4, z5, z6, ne_eq, z7, z8, z9, z10, z11, z12] at hb36
   refine pwp_skip ?_
   refine block_norm ?_
   refine seq_norm (hK32 _ ?_); clear hK32 K32
   refine pwp_plain rfl fun K38 hK38 => ?_
   refine p_step rfl (e_move (v := .sc _) rfl) trivial ?_
   refine p_step rfl (e_add rfl rfl (by omega)) trivial ?_
   refine p_step rfl (e_assign (v := .sc _) rfl) trivial ?_
   refine p_end (hK38 _ ?_); clear hK38 K38
   exact loop_again (k + 1) (by show _ < _; omega) ⟨rfl, trivial⟩ ⟨rfl, trivial⟩ (by exact ⟨by show _ + 1 ≤ _; omega, by exact all_snocS ht hq ⟨by omega, by omega⟩, hihj28_0⟩)
  have hb31R := hb31; try simp only [z1, z2, z3, z4, z5, z6, ne_eq, z7, z8, z9, z10, z11, z12] at hb31
  obtain rfl : k = o.swaps.length := by omega
  rw [List.take_length] at hq
  have hqs := hq
  refine pwp_exit ?_
  refine exit_seq ?_
  clear hK30 K30
  refine exit_loop ?_
  refine exit_here ?_
  refine seq_norm (hK24 _ ?_); clear hK24 K24
  refine pwp_seq_plain rfl fun K39 hK39 => ?_
  refine p_step rfl (e_assign (v := .sc _) rfl) trivial ?_
  refine p_end (hK39 _ ?_); clear hK39 K39
  refine pwp_ret ?_
  refine end1 (v := .sc _) rfl ?_
  exact out_b (sl_4 (by omega) hqw hqs)

theorem fr102 : (inFrame Try.f102.ntmps (Try.f102.body.getD .skip) && Try.f102.results.toList.all (resScope Try.f102.ntmps)) = true := by kernel_rfl
theorem checkWnt (ws : List Want) (lo : Int) (hl : ws.length ≤ 70) (hs : ∀ x ∈ ws, x.part.size ≤ 30) : PCalls Try.prog 102 [.lit true 2 (ws.map Want.enc), .int lo] (.int (wntE lo ws)) := by
  refine PCalls.of_code Try.func102 rfl rfl (by kernel_rfl) mixed fr102 (by show _ ≤ 25; simp) (.sc _) ?_
  refine pwp_seq_plain rfl fun K1 hK1 => ?_
  refine p_step rfl (e_assign (v := .sc _) rfl) trivial ?_
  refine p_end (hK1 _ ?_); clear hK1 K1
  refine pwp_seq_seq ?_
  refine pwp_seq_plain rfl fun K2 hK2 => ?_
  refine p_step rfl (e_move (v := .lit _ _ _) rfl) trivial ?_
  refine p_step rfl (e_len rfl (by kernel_rfl)) trivial ?_
  refine p_step rfl (e_move (v := .sc _) rfl) trivial ?_
  refine p_end (hK2 _ ?_); clear hK2 K2
  refine pwp_seq_block fun K3 hK3 => ?_
  refine pwp_loopR (α := Nat) [1, 7, 8] (fun (k : Nat) => [(9, .int (k))]) (fun (k : Nat) (h : Heap) (_ : Nat → Nat) => ((k) ≤ ws.length) ∧ (wntE lo ws = wntE lo (ws.drop (k)))) (fun (k : Nat) => ws.length - (k)) (0) (by exact ⟨rfl, trivial⟩) (by exact ⟨by exact Nat.zero_le _, by exact rfl⟩) fun k r4 h5 c6 hj7 => ?_
  obtain ⟨hk, hinv⟩ := hj7
  try dsimp only at hk
  try dsimp only at hinv
  show pwp _ _ (loopQ _ _ _) ⟨sets (mix _ _ _) [(9, .int k)], _, _⟩
  refine pwp_seq_plain rfl fun K8 hK8 => ?_
  refine p_step rfl (e_lt rfl rfl) trivial ?_
  refine p_end (hK8 _ ?_); clear hK8 K8
  refine pwp_seq_cond rfl fun K9 hK9 => ⟨fun hb10 => ?_, fun hb10 => ?_⟩
  ·have hb10R := hb10; try simp only [z1, z2, z3, z4, z5, z6, ne_eq, z7, z8, z9, z10, z11, z12] at hb10
   obtain ⟨x, hx, hd, ht⟩ := get_lt (xs := ws) (i := k) (by omega)
   rw [hd] at hinv; simp only [wntE] at hinv
   have hsz := wzz hs hx
   refine pwp_skip ?_
   refine seq_norm (hK9 _ ?_); clear hK9 K9
   refine pwp_seq_block fun K11 hK11 => ?_
   refine pwp_seq_plain rfl fun K12 hK12 => ?_
   refine p_step rfl (e_ixa rfl rfl (by kernel_rfl) (by kernel_rfl) (by simp only [List.length_map]; omega)) trivial ?_
   refine p_step rfl (e_loadA (n := 2) rfl (by kernel_rfl) (by kernel_rfl) (by kernel_rfl) (by simp only [List.length_map]; omega) (by decide) (by first | exact agg_map hx rfl)) trivial ?_
   refine p_new rfl (e_alloc (cs := [.str ByteArray.empty, .int 0]) (n := 2) (by kernel_rfl) rfl (by decide)) (ob_alloc (by decide)) ?_
   refine p_store rfl (e_storeA rfl (hset_self _ _ _) rfl rfl rfl (by kernel_rfl) rfl (by kernel_rfl)) trivial ?_
   refine p_end (hK12 _ ?_); clear hK12 K12
   refine pwp_block ?_
   refine pwp_seq_plain rfl fun K13 hK13 => ?_
   refine p_step rfl (e_faP (pl := [(0, 1, false), (1, 1, false)]) rfl (by kernel_rfl) (by kernel_rfl) (by decide) rfl) trivial ?_
   refine p_step rfl (e_loadH (v := .sc _) rfl (hset_self _ _ _) (by kernel_rfl) (by kernel_rfl) (by kernel_rfl) (by exact Nat.zero_lt_one) (by decide) rfl) trivial ?_
   refine p_call rfl (.cons inn_sc .nil) (isName _ (by omega)) ?_
   refine p_step rfl (e_not rfl) trivial ?_
   refine p_step rfl (e_assign (v := .sc _) rfl) trivial ?_
   refine p_end (hK13 _ ?_); clear hK13 K13
   refine pwp_cond rfl (fun hb14 => ?_) (fun hb14 => ?_)
   ·have hb14R := hb14; try simp only [z1, z2, z3, z4, z5, z6, ne_eq, z7, z8, z9, z10, z11, z12] at hb14
    refine pwp_seq_plain rfl fun K15 hK15 => ?_
    refine p_step rfl (e_assign (v := .sc _) rfl) trivial ?_
    refine p_end (hK15 _ ?_); clear hK15 K15
    refine pwp_ret ?_
    refine ret_block ?_
    refine ret_block ?_
    refine ret_seq ?_
    refine ret_loop ?_
    refine ret_block ?_
    refine ret_seq ?_
    refine end1 (v := .sc _) rfl ?_
    exact out_i (by rw [hinv, if_pos (by assumption)])
   have hb14R := hb14; try simp only [z1, z2, z3, z4, z5, z6, ne_eq, z7, z8, z9, z10, z11, z12] at hb14
   refine pwp_seq_plain rfl fun K16 hK16 => ?_
   refine p_step rfl (e_faP (pl := [(0, 1, false), (1, 1, false)]) rfl (by kernel_rfl) (by kernel_rfl) (by decide) rfl) trivial ?_
   refine p_step rfl (e_loadH (v := .sc _) rfl (hset_self _ _ _) (by kernel_rfl) (by kernel_rfl) (by kernel_rfl) (by exact Nat.zero_lt_one) (by decide) rfl) trivial ?_
   refine p_step rfl (e_move (v := .sc _) rfl) trivial ?_
   refine p_call rfl (.cons inn_sc (.cons inn_sc (.cons inn_sc .nil))) (within _ _ _) ?_
   refine p_step rfl (e_not rfl) trivial ?_
   refine p_step rfl (e_assign (v := .sc _) rfl) trivial ?_
   refine p_end (hK16 _ ?_); clear hK16 K16
   refine pwp_cond rfl (fun hb17 => ?_) (fun hb17 => ?_)
   ·have hb17R := hb17; try simp only [z1, z2, z3, z4, z5, z6, ne_eq, z7, z8, z9, z10, z11, z12] at hb17
    refine pwp_seq_plain rfl fun K18 hK18 => ?_
    refine p_step rfl (e_assign (v := .sc _) rfl) trivial ?_
    refine p_end (hK18 _ ?_); clear hK18 K18
    refine pwp_ret ?_
    refine ret_block ?_
    refine ret_block ?_
    refine ret_seq ?_
    refine ret_loop ?_
    refine ret_block ?_
    refine ret_seq ?_
    refine end1 (v := .sc _) rfl ?_
    exact out_i (by rw [hinv, if_neg (by rw [Bool.not_eq_false]; assumption), if_pos (by omega)])
   have hb17R := hb17; try simp only [z1, z2, z3, z4, z5, z6, ne_eq, z7, z8, z9, z10, z11, z12] at hb17
   refine pwp_skip ?_
   refine block_norm ?_
   refine block_norm ?_
   refine seq_norm (hK11 _ ?_); clear hK11 K11
   refine pwp_plain rfl fun K19 hK19 => ?_
   refine p_step rfl (e_add rfl rfl (by omega)) trivial ?_
   refine p_step rfl (e_move (v := .sc _) rfl) trivial ?_
   refine p_end (hK19 _ ?_); clear hK19 K19
   rw [if_neg (by rw [Bool.not_eq_false]; assumption), if_neg (by omega)] at hinv
   exact loop_again (k + 1) (by show _ < _; omega) ⟨rfl, rfl, rfl, trivial⟩ ⟨rfl, trivial⟩ (by exact ⟨by show _ + 1 ≤ _; omega, by exact hinv⟩)
  have hb10R := hb10; try simp only [z1, z2, z3, z4, z5, z6, ne_eq, z7, z8, z9, z10, z11, z12] at hb10
  obtain rfl : k = ws.length := by omega
  rw [List.drop_length] at hinv; simp only [wntE] at hinv
  refine pwp_exit ?_
  refine exit_seq ?_
  clear hK9 K9
  refine exit_loop ?_
  refine exit_here ?_
  refine seq_norm (hK3 _ ?_); clear hK3 K3
  refine pwp_seq_plain rfl fun K20 hK20 => ?_
  refine p_step rfl (e_assign (v := .sc _) rfl) trivial ?_
  refine p_end (hK20 _ ?_); clear hK20 K20
  refine pwp_ret ?_
  refine end1 (v := .sc _) rfl ?_
  exact out_i (by rw [hinv])

theorem fr74 : (inFrame Try.f74.ntmps (Try.f74.body.getD .skip) && Try.f74.results.toList.all (resScope Try.f74.ntmps)) = true := by kernel_rfl
theorem checkOrder (o : Order) (h1 : o.wants.length ≤ 70) (h2 : o.swaps.length ≤ 70) (hs : ∀ x ∈ o.wants, x.part.size ≤ 30) (hs2 : ∀ x ∈ o.swaps, x.part.size ≤ 30 ∧ x.via.size ≤ 30) : PCalls Try.prog 74 [.agg o.enc] (.int (orderE o)) := by
  refine PCalls.of_code Try.func74 rfl rfl (by kernel_rfl) mixed fr74 (by show _ ≤ 56; simp) (.sc _) ?_
  refine pwp_seq_plain rfl fun K1 hK1 => ?_
  refine p_new rfl (e_box (n := 3) rfl rfl) ⟨rfl, by decide⟩ ?_
  refine p_step rfl (e_assign (v := .sc _) rfl) trivial ?_
  refine p_end (hK1 _ ?_); clear hK1 K1
  refine pwp_seq_seq ?_
  refine pwp_seq_plain rfl fun K2 hK2 => ?_
  refine p_step rfl (e_faP (pl := [(0, 1, false), (1, 1, false), (2, 1, false)]) rfl (by kernel_rfl) (by kernel_rfl) (by decide) rfl) trivial ?_
  refine p_step rfl (e_loadH (v := .sc _) rfl (hset_self _ _ _) (by kernel_rfl) (by kernel_rfl) (by kernel_rfl) (by exact Nat.zero_lt_one) (by decide) rfl) trivial ?_
  refine p_call rfl (.cons inn_sc (.cons inn_sc (.cons inn_sc .nil))) (within _ _ _) ?_
  refine p_step rfl (e_not rfl) trivial ?_
  refine p_end (hK2 _ ?_); clear hK2 K2
  refine pwp_seq_cond rfl fun K3 hK3 => ⟨fun hb4 => ?_, fun hb4 => ?_⟩
  ·have hb4R := hb4; simp only [z1, z2, z3, z4, z5, z6, ne_eq, z7, z8, z9, z10, z11, z12] at hb4
   refine pwp_seq_plain rfl fun K5 hK5 => ?_
   refine p_step rfl (e_assign (v := .sc _) rfl) trivial ?_
   refine p_end (hK5 _ ?_); clear hK5 K5
   refine pwp_ret ?_
   refine ret_seq ?_
   refine end1 (v := .sc _) rfl ?_
   exact out_i (oe_1 (by omega))
  have hb4R := hb4; simp only [z1, z2, z3, z4, z5, z6, ne_eq, z7, z8, z9, z10, z11, z12] at hb4
  refine pwp_skip ?_
  refine seq_norm (hK3 _ ?_); clear hK3 K3
  refine pwp_seq_seq ?_
  refine pwp_seq_gops rfl fun K6 hK6 => ?_
  refine g_begin ?_
  refine g_step rfl rfl rfl rfl (e_faP (pl := [(0, 1, false), (1, 1, false), (2, 1, false)]) rfl (by kernel_rfl) (by kernel_rfl) (by decide) rfl) trivial ?_
  refine g_step rfl rfl rfl rfl (e_loadH (v := .lit _ _ _) rfl (hset_self _ _ _) (by kernel_rfl) (by kernel_rfl) (by kernel_rfl) (by exact Nat.zero_lt_one) (by decide) rfl) trivial ?_
  refine g_step rfl rfl rfl rfl (e_len rfl (by kernel_rfl)) trivial ?_
  refine g_step rfl rfl rfl rfl (e_gt rfl rfl) trivial ?_
  refine g_step rfl rfl rfl rfl (e_move (v := .sc _) rfl) trivial ?_
  refine g_cases (fun hb7 => ?_) (fun hb7 => ?_)
  ·have hb7R := hb7; simp only [z1, z2, z3, z4, z5, z6, ne_eq, z7, z8, z9, z10, z11, z12] at hb7
   refine g_skip rfl rfl rfl ?_
   refine g_skip rfl rfl rfl ?_
   refine g_skip rfl rfl rfl ?_
   refine g_skip rfl rfl rfl ?_
   refine g_step rfl rfl rfl rfl (e_pickT (v := .sc _) rfl rfl) trivial ?_
   refine g_end (ds := [15, 16, 17, 18]) rfl rfl (hK6 _ ?_); clear hK6 K6
   refine pwp_seq_cond (t := true) rfl fun K8 hK8 => ⟨fun _ => ?_, nofun⟩
   refine pwp_seq_plain rfl fun K9 hK9 => ?_
   refine p_step rfl (e_assign (v := .sc _) rfl) trivial ?_
   refine p_end (hK9 _ ?_); clear hK9 K9
   refine pwp_ret ?_
   refine ret_seq ?_
   refine end1 (v := .sc _) rfl ?_
   exact out_i (oe_2 (by omega) (by omega))
  have hb7R := hb7; simp only [z1, z2, z3, z4, z5, z6, ne_eq, z7, z8, z9, z10, z11, z12] at hb7
  refine g_step rfl rfl rfl rfl (e_faP (pl := [(0, 1, false), (1, 1, false), (2, 1, false)]) rfl (by kernel_rfl) (by kernel_rfl) (by decide) rfl) trivial ?_
  refine g_step rfl rfl rfl rfl (e_loadH (v := .lit _ _ _) rfl (hset_self _ _ _) (by kernel_rfl) (by kernel_rfl) (by kernel_rfl) (by exact Nat.zero_lt_one) (by decide) rfl) trivial ?_
  refine g_step rfl rfl rfl rfl (e_len rfl (by kernel_rfl)) trivial ?_
  refine g_step rfl rfl rfl rfl (e_gt rfl rfl) trivial ?_
  refine g_step rfl rfl rfl rfl (e_pickF (v := .sc _) rfl rfl) trivial ?_
  refine g_end (ds := [15, 16, 17, 18]) rfl rfl (hK6 _ ?_); clear hK6 K6
  refine pwp_seq_cond rfl fun K10 hK10 => ⟨fun hb11 => ?_, fun hb11 => ?_⟩
  ·have hb11R := hb11; simp only [z1, z2, z3, z4, z5, z6, ne_eq, z7, z8, z9, z10, z11, z12] at hb11
   refine pwp_seq_plain rfl fun K12 hK12 => ?_
   refine p_step rfl (e_assign (v := .sc _) rfl) trivial ?_
   refine p_end (hK12 _ ?_); clear hK12 K12
   refine pwp_ret ?_
   refine ret_seq ?_
   refine end1 (v := .sc _) rfl ?_
   exact out_i (oe_2 (by omega) (by omega))
  have hb11R := hb11; simp only [z1, z2, z3, z4, z5, z6, ne_eq, z7, z8, z9, z10, z11, z12] at hb11
  refine pwp_skip ?_
  refine seq_norm (hK10 _ ?_); clear hK10 K10
  refine pwp_seq_seq ?_
  refine pwp_seq_plain rfl fun K13 hK13 => ?_
  refine p_step rfl (e_faP (pl := [(0, 1, false), (1, 1, false), (2, 1, false)]) rfl (by kernel_rfl) (by kernel_rfl) (by decide) rfl) trivial ?_
  refine p_step rfl (e_loadH (v := .lit _ _ _) rfl (hset_self _ _ _) (by kernel_rfl) (by kernel_rfl) (by kernel_rfl) (by exact Nat.zero_lt_one) (by decide) rfl) trivial ?_
  refine p_call rfl (.cons inn_lit (.cons inn_sc .nil)) (checkWnt _ _ (by omega) (by assumption)) ?_
  refine p_step rfl (e_assign (v := .sc _) rfl) trivial ?_
  refine p_end (hK13 _ ?_); clear hK13 K13
  refine pwp_seq_seq ?_
  refine pwp_seq_plain rfl fun K14 hK14 => ?_
  refine p_step rfl (e_move (v := .sc _) rfl) trivial ?_
  refine p_step rfl (e_ne rfl rfl) trivial ?_
  refine p_end (hK14 _ ?_); clear hK14 K14
  refine pwp_seq_cond rfl fun K15 hK15 => ⟨fun hb16 => ?_, fun hb16 => ?_⟩
  ·have hb16R := hb16; simp only [z1, z2, z3, z4, z5, z6, ne_eq, z7, z8, z9, z10, z11, z12] at hb16
   refine pwp_seq_plain rfl fun K17 hK17 => ?_
   refine p_step rfl (e_move (v := .sc _) rfl) trivial ?_
   refine p_step rfl (e_assign (v := .sc _) rfl) trivial ?_
   refine p_end (hK17 _ ?_); clear hK17 K17
   refine pwp_ret ?_
   refine ret_seq ?_
   refine end1 (v := .sc _) rfl ?_
   exact out_i (oe_3 (by omega) (by omega) rfl (by assumption))
  have hb16R := hb16; simp only [z1, z2, z3, z4, z5, z6, ne_eq, z7, z8, z9, z10, z11, z12] at hb16; have hw0 : wntE 1 o.wants = 0 := hb16
  refine pwp_skip ?_
  refine seq_norm (hK15 _ ?_); clear hK15 K15
  refine pwp_seq_seq ?_
  refine pwp_seq_plain rfl fun K18 hK18 => ?_
  refine p_step rfl (e_faP (pl := [(0, 1, false), (1, 1, false), (2, 1, false)]) rfl (by kernel_rfl) (by kernel_rfl) (by decide) rfl) trivial ?_
  refine p_step rfl (e_loadH (v := .lit _ _ _) rfl (hset_self _ _ _) (by kernel_rfl) (by kernel_rfl) (by kernel_rfl) (by exact Nat.zero_lt_one) (by decide) rfl) trivial ?_
  refine p_step rfl (e_len rfl (by kernel_rfl)) trivial ?_
  refine p_step rfl (e_move (v := .sc _) rfl) trivial ?_
  refine p_end (hK18 _ ?_); clear hK18 K18
  refine pwp_seq_block fun K19 hK19 => ?_
  refine pwp_loopR (α := Nat) [27, 28] (fun (k : Nat) => [(29, .int (k))]) (fun (k : Nat) (h : Heap) (_ : Nat → Nat) => ((k) ≤ o.swaps.length) ∧ (swapsE o.swaps = swapsE (o.swaps.drop (k)))) (fun (k : Nat) => o.swaps.length - (k)) (0) (by exact ⟨rfl, trivial⟩) (by exact ⟨by exact Nat.zero_le _, by exact rfl⟩) fun k r20 h21 c22 hj23 => ?_
  obtain ⟨hk, hinv⟩ := hj23
  try dsimp only at hk
  try dsimp only at hinv
  show pwp _ _ (loopQ _ _ _) ⟨sets (mix _ _ _) [(29, .int k)], _, _⟩
  refine pwp_seq_plain rfl fun K24 hK24 => ?_
  refine p_step rfl (e_lt rfl rfl) trivial ?_
  refine p_end (hK24 _ ?_); clear hK24 K24
  refine pwp_seq_cond rfl fun K25 hK25 => ⟨fun hb26 => ?_, fun hb26 => ?_⟩
  ·have hb26R := hb26; simp only [z1, z2, z3, z4, z5, z6, ne_eq, z7, z8, z9, z10, z11, z12] at hb26
   obtain ⟨x, hx, hd, ht⟩ := get_lt (xs := o.swaps) (i := k) (by omega)
   rw [hd] at hinv
   have hsz := szz hs2 hx
   refine pwp_skip ?_
   refine seq_norm (hK25 _ ?_); clear hK25 K25
   refine pwp_seq_block fun K27 hK27 => ?_
   refine pwp_seq_plain rfl fun K28 hK28 => ?_
   refine p_step rfl (e_ixa rfl rfl (by kernel_rfl) (by kernel_rfl) (by simp only [List.length_map]; omega)) trivial ?_
   refine p_step rfl (e_loadA (n := 3) rfl (by kernel_rfl) (by kernel_rfl) (by kernel_rfl) (by simp only [List.length_map]; omega) (by decide) (by first | exact agg_map hx rfl)) trivial ?_
   refine p_new rfl (e_alloc (cs := [.str ByteArray.empty, .str ByteArray.empty, .int 0]) (n := 3) (by kernel_rfl) rfl (by decide)) (ob_alloc (by decide)) ?_
   refine p_store rfl (e_storeA rfl (hset_self _ _ _) rfl rfl rfl (by kernel_rfl) rfl (by kernel_rfl)) trivial ?_
   refine p_end (hK28 _ ?_); clear hK28 K28
   refine pwp_block ?_
   refine pwp_seq_gops rfl fun K29 hK29 => ?_
   refine g_begin ?_
   refine g_step rfl rfl rfl rfl (e_faP (pl := [(0, 1, false), (1, 1, false), (2, 1, false)]) rfl (by kernel_rfl) (by kernel_rfl) (by decide) rfl) trivial ?_
   refine g_step rfl rfl rfl rfl (e_loadH (v := .sc _) rfl (hset_self _ _ _) (by kernel_rfl) (by kernel_rfl) (by kernel_rfl) (by exact Nat.zero_lt_one) (by decide) rfl) trivial ?_
   refine g_call rfl rfl rfl rfl (.cons inn_sc .nil) (isName _ (by omega)) ?_
   refine g_step rfl rfl rfl rfl (e_not rfl) trivial ?_
   refine g_step rfl rfl rfl rfl (e_move (v := .sc _) rfl) trivial ?_
   refine g_cases (fun hb30 => ?_) (fun hb30 => ?_)
   ·have hb30R := hb30; simp only [z1, z2, z3, z4, z5, z6, ne_eq, z7, z8, z9, z10, z11, z12] at hb30
    refine g_skip rfl rfl rfl ?_
    refine g_skip rfl rfl rfl ?_
    refine g_nocall rfl rfl rfl ?_
    refine g_skip rfl rfl rfl ?_
    refine g_step rfl rfl rfl rfl (e_pickT (v := .sc _) rfl rfl) trivial ?_
    refine g_step rfl rfl rfl rfl (e_assign (v := .sc _) rfl) trivial ?_
    refine g_end (ds := [39, 40, 41, 42]) rfl rfl (hK29 _ ?_); clear hK29 K29
    refine pwp_cond (t := true) rfl (fun _ => ?_) nofun
    refine pwp_seq_plain rfl fun K31 hK31 => ?_
    refine p_step rfl (e_assign (v := .sc _) rfl) trivial ?_
    refine p_end (hK31 _ ?_); clear hK31 K31
    refine pwp_ret ?_
    refine ret_block ?_
    refine ret_block ?_
    refine ret_seq ?_
    refine ret_loop ?_
    refine ret_block ?_
    refine ret_seq ?_
    refine end1 (v := .sc _) rfl ?_
    exact out_i (oe_4 (by omega) (by omega) hw0 (sw_1 hinv (by assumption)))
   have hb30R := hb30; simp only [z1, z2, z3, z4, z5, z6, ne_eq, z7, z8, z9, z10, z11, z12] at hb30
   refine g_step rfl rfl rfl rfl (e_faP (pl := [(0, 1, false), (1, 1, false), (2, 1, false)]) rfl (by kernel_rfl) (by kernel_rfl) (by decide) rfl) trivial ?_
   refine g_step rfl rfl rfl rfl (e_loadH (v := .sc _) rfl (hset_self _ _ _) (by kernel_rfl) (by kernel_rfl) (by kernel_rfl) (by exact Nat.zero_lt_one) (by decide) rfl) trivial ?_
   refine g_call rfl rfl rfl rfl (.cons inn_sc .nil) (isName _ (by omega)) ?_
   refine g_step rfl rfl rfl rfl (e_not rfl) trivial ?_
   refine g_step rfl rfl rfl rfl (e_pickF (v := .sc _) rfl rfl) trivial ?_
   refine g_step rfl rfl rfl rfl (e_assign (v := .sc _) rfl) trivial ?_
   refine g_end (ds := [39, 40, 41, 42]) rfl rfl (hK29 _ ?_); clear hK29 K29
   refine pwp_cond rfl (fun hb32 => ?_) (fun hb32 => ?_)
   ·have hb32R := hb32; simp only [z1, z2, z3, z4, z5, z6, ne_eq, z7, z8, z9, z10, z11, z12] at hb32
    refine pwp_seq_plain rfl fun K33 hK33 => ?_
    refine p_step rfl (e_assign (v := .sc _) rfl) trivial ?_
    refine p_end (hK33 _ ?_); clear hK33 K33
    refine pwp_ret ?_
    refine ret_block ?_
    refine ret_block ?_
    refine ret_seq ?_
    refine ret_loop ?_
    refine ret_block ?_
    refine ret_seq ?_
    refine end1 (v := .sc _) rfl ?_
    exact out_i (oe_4 (by omega) (by omega) hw0 (sw_1b hinv (by assumption)))
   have hb32R := hb32; simp only [z1, z2, z3, z4, z5, z6, ne_eq, z7, z8, z9, z10, z11, z12] at hb32
   refine pwp_seq_plain rfl fun K34 hK34 => ?_
   refine p_step rfl (e_faP (pl := [(0, 1, false), (1, 1, false), (2, 1, false)]) rfl (by kernel_rfl) (by kernel_rfl) (by decide) rfl) trivial ?_
   refine p_step rfl (e_loadH (v := .sc _) rfl (hset_self _ _ _) (by kernel_rfl) (by kernel_rfl) (by kernel_rfl) (by exact Nat.zero_lt_one) (by decide) rfl) trivial ?_
   refine p_step rfl (e_faP (pl := [(0, 1, false), (1, 1, false), (2, 1, false)]) rfl (by kernel_rfl) (by kernel_rfl) (by decide) rfl) trivial ?_
   refine p_step rfl (e_loadH (v := .sc _) rfl (hset_self _ _ _) (by kernel_rfl) (by kernel_rfl) (by kernel_rfl) (by exact Nat.zero_lt_one) (by decide) rfl) trivial ?_
   refine p_step rfl (e_seq rfl rfl) trivial ?_
   refine p_step rfl (e_assign (v := .sc _) rfl) trivial ?_
   refine p_end (hK34 _ ?_); clear hK34 K34
   refine pwp_cond rfl (fun hb35 => ?_) (fun hb35 => ?_)
   ·have hb35R := hb35; simp only [z1, z2, z3, z4, z5, z6, ne_eq, z7, z8, z9, z10, z11, z12] at hb35
    refine pwp_seq_plain rfl fun K36 hK36 => ?_
    refine p_step rfl (e_assign (v := .sc _) rfl) trivial ?_
    refine p_end (hK36 _ ?_); clear hK36 K36
    refine pwp_ret ?_
    refine ret_block ?_
    refine ret_block ?_
    refine ret_seq ?_
    refine ret_loop ?_
    refine ret_block ?_
    refine ret_seq ?_
    refine end1 (v := .sc _) rfl ?_
    exact out_i (oe_4 (by omega) (by omega) hw0 (sw_2 hinv (by assumption) (by assumption) (by assumption)))
   have hb35R := hb35; simp only [z1, z2, z3, z4, z5, z6, ne_eq, z7, z8, z9, z10, z11, z12] at hb35
   refine pwp_seq_plain rfl fun K37 hK37 => ?_
   refine p_step rfl (e_faP (pl := [(0, 1, false), (1, 1, false), (2, 1, false)]) rfl (by kernel_rfl) (by kernel_rfl) (by decide) rfl) trivial ?_
   refine p_step rfl (e_loadH (v := .sc _) rfl (hset_self _ _ _) (by kernel_rfl) (by kernel_rfl) (by kernel_rfl) (by exact Nat.zero_lt_one) (by decide) rfl) trivial ?_
   refine p_call rfl (.cons inn_sc (.cons inn_sc (.cons inn_sc .nil))) (within _ _ _) ?_
   refine p_step rfl (e_not rfl) trivial ?_
   refine p_step rfl (e_assign (v := .sc _) rfl) trivial ?_
   refine p_end (hK37 _ ?_); clear hK37 K37
   refine pwp_cond rfl (fun hb38 => ?_) (fun hb38 => ?_)
   ·have hb38R := hb38; simp only [z1, z2, z3, z4, z5, z6, ne_eq, z7, z8, z9, z10, z11, z12] at hb38
    refine pwp_seq_plain rfl fun K39 hK39 => ?_
    refine p_step rfl (e_assign (v := .sc _) rfl) trivial ?_
    refine p_end (hK39 _ ?_); clear hK39 K39
    refine pwp_ret ?_
    refine ret_block ?_
    refine ret_block ?_
    refine ret_seq ?_
    refine ret_loop ?_
    refine ret_block ?_
    refine ret_seq ?_
    refine end1 (v := .sc _) rfl ?_
    exact out_i (oe_4 (by omega) (by omega) hw0 (sw_3 hinv (by assumption) (by assumption) (by assumption) (by omega)))
   have hb38R := hb38; simp only [z1, z2, z3, z4, z5, z6, ne_eq, z7, z8, z9, z10, z11, z12] at hb38
   refine pwp_skip ?_
   refine block_norm ?_
   refine block_norm ?_
   refine seq_norm (hK27 _ ?_); clear hK27 K27
   refine pwp_plain rfl fun K40 hK40 => ?_
   refine p_step rfl (e_add rfl rfl (by omega)) trivial ?_
   refine p_step rfl (e_move (v := .sc _) rfl) trivial ?_
   refine p_end (hK40 _ ?_); clear hK40 K40
   exact loop_again (k + 1) (by show _ < _; omega) ⟨rfl, rfl, trivial⟩ ⟨rfl, trivial⟩ (by exact ⟨by show _ + 1 ≤ _; omega, by exact sw_4 hinv (by assumption) (by assumption) (by assumption) (by omega)⟩)
  have hb26R := hb26; simp only [z1, z2, z3, z4, z5, z6, ne_eq, z7, z8, z9, z10, z11, z12] at hb26
  obtain rfl : k = o.swaps.length := by omega
  rw [List.drop_length] at hinv; simp only [swapsE] at hinv
  refine pwp_exit ?_
  refine exit_seq ?_
  clear hK25 K25
  refine exit_loop ?_
  refine exit_here ?_
  refine seq_norm (hK19 _ ?_); clear hK19 K19
  refine pwp_seq_plain rfl fun K41 hK41 => ?_
  refine p_step rfl (e_assign (v := .sc _) rfl) trivial ?_
  refine p_end (hK41 _ ?_); clear hK41 K41
  refine pwp_ret ?_
  refine end1 (v := .sc _) rfl ?_
  exact out_i (oe_4 (by omega) (by omega) hw0 (hinv))

theorem fr38 : (inFrame Try.f38.ntmps (Try.f38.body.getD .skip) && Try.f38.results.toList.all (resScope Try.f38.ntmps)) = true := by kernel_rfl
theorem refCheckOrder (o : Order) (h1 : o.wants.length ≤ 70) (h2 : o.swaps.length ≤ 70) (hs : ∀ x ∈ o.wants, x.part.size ≤ 30) (hs2 : ∀ x ∈ o.swaps, x.part.size ≤ 30 ∧ x.via.size ≤ 30) : PCalls Try.prog 38 [.agg o.enc] (.int (orderE o)) := by
  refine PCalls.of_code Try.func38 rfl rfl (by kernel_rfl) mixed fr38 (by show _ ≤ 74; simp) (.sc _) ?_
  refine pwp_seq_plain rfl fun K1 hK1 => ?_
  refine p_new rfl (e_box (n := 3) rfl rfl) ⟨rfl, by decide⟩ ?_
  refine p_step rfl (e_assign (v := .sc _) rfl) trivial ?_
  refine p_end (hK1 _ ?_); clear hK1 K1
  refine pwp_seq_seq ?_
  refine pwp_seq_plain rfl fun K2 hK2 => ?_
  refine p_step rfl (e_faP (pl := [(0, 1, false), (1, 1, false), (2, 1, false)]) rfl (by kernel_rfl) (by kernel_rfl) (by decide) rfl) trivial ?_
  refine p_step rfl (e_loadH (v := .sc _) rfl (hset_self _ _ _) (by kernel_rfl) (by kernel_rfl) (by kernel_rfl) (by exact Nat.zero_lt_one) (by decide) rfl) trivial ?_
  refine p_call rfl (.cons inn_sc (.cons inn_sc (.cons inn_sc .nil))) (Within _ _ _) ?_
  refine p_step rfl (e_not rfl) trivial ?_
  refine p_end (hK2 _ ?_); clear hK2 K2
  refine pwp_seq_cond rfl fun K3 hK3 => ⟨fun hb4 => ?_, fun hb4 => ?_⟩
  ·have hb4R := hb4; try simp only [z1, z2, z3, z4, z5, z6, ne_eq, z7, z8, z9, z10, z11, z12] at hb4
   refine pwp_seq_plain rfl fun K5 hK5 => ?_
   refine p_step rfl (e_assign (v := .sc _) rfl) trivial ?_
   refine p_end (hK5 _ ?_); clear hK5 K5
   refine pwp_ret ?_
   refine ret_seq ?_
   refine end1 (v := .sc _) rfl ?_
   exact out_i (oe_1 (by omega))
  have hb4R := hb4; try simp only [z1, z2, z3, z4, z5, z6, ne_eq, z7, z8, z9, z10, z11, z12] at hb4
  refine pwp_skip ?_
  refine seq_norm (hK3 _ ?_); clear hK3 K3
  refine pwp_seq_seq ?_
  refine pwp_seq_gops rfl fun K6 hK6 => ?_
  refine g_begin ?_
  refine g_step rfl rfl rfl rfl (e_faP (pl := [(0, 1, false), (1, 1, false), (2, 1, false)]) rfl (by kernel_rfl) (by kernel_rfl) (by decide) rfl) trivial ?_
  refine g_step rfl rfl rfl rfl (e_loadH (v := .lit _ _ _) rfl (hset_self _ _ _) (by kernel_rfl) (by kernel_rfl) (by kernel_rfl) (by exact Nat.zero_lt_one) (by decide) rfl) trivial ?_
  refine g_step rfl rfl rfl rfl (e_len rfl (by kernel_rfl)) trivial ?_
  refine g_step rfl rfl rfl rfl (e_gt rfl rfl) trivial ?_
  refine g_step rfl rfl rfl rfl (e_move (v := .sc _) rfl) trivial ?_
  refine g_cases (fun hb7 => ?_) (fun hb7 => ?_)
  ·have hb7R := hb7; try simp only [z1, z2, z3, z4, z5, z6, ne_eq, z7, z8, z9, z10, z11, z12] at hb7
   refine g_skip rfl rfl rfl ?_
   refine g_skip rfl rfl rfl ?_
   refine g_skip rfl rfl rfl ?_
   refine g_skip rfl rfl rfl ?_
   refine g_step rfl rfl rfl rfl (e_pickT (v := .sc _) rfl rfl) trivial ?_
   refine g_end (ds := [15, 16, 17, 18]) rfl rfl (hK6 _ ?_); clear hK6 K6
   refine pwp_seq_cond (t := true) rfl fun K8 hK8 => ⟨fun _ => ?_, nofun⟩
   refine pwp_seq_plain rfl fun K9 hK9 => ?_
   refine p_step rfl (e_assign (v := .sc _) rfl) trivial ?_
   refine p_end (hK9 _ ?_); clear hK9 K9
   refine pwp_ret ?_
   refine ret_seq ?_
   refine end1 (v := .sc _) rfl ?_
   exact out_i (oe_2 (by omega) (by omega))
  have hb7R := hb7; try simp only [z1, z2, z3, z4, z5, z6, ne_eq, z7, z8, z9, z10, z11, z12] at hb7
  refine g_step rfl rfl rfl rfl (e_faP (pl := [(0, 1, false), (1, 1, false), (2, 1, false)]) rfl (by kernel_rfl) (by kernel_rfl) (by decide) rfl) trivial ?_
  refine g_step rfl rfl rfl rfl (e_loadH (v := .lit _ _ _) rfl (hset_self _ _ _) (by kernel_rfl) (by kernel_rfl) (by kernel_rfl) (by exact Nat.zero_lt_one) (by decide) rfl) trivial ?_
  refine g_step rfl rfl rfl rfl (e_len rfl (by kernel_rfl)) trivial ?_
  refine g_step rfl rfl rfl rfl (e_gt rfl rfl) trivial ?_
  refine g_step rfl rfl rfl rfl (e_pickF (v := .sc _) rfl rfl) trivial ?_
  refine g_end (ds := [15, 16, 17, 18]) rfl rfl (hK6 _ ?_); clear hK6 K6
  refine pwp_seq_cond rfl fun K10 hK10 => ⟨fun hb11 => ?_, fun hb11 => ?_⟩
  ·have hb11R := hb11; try simp only [z1, z2, z3, z4, z5, z6, ne_eq, z7, z8, z9, z10, z11, z12] at hb11
   refine pwp_seq_plain rfl fun K12 hK12 => ?_
   refine p_step rfl (e_assign (v := .sc _) rfl) trivial ?_
   refine p_end (hK12 _ ?_); clear hK12 K12
   refine pwp_ret ?_
   refine ret_seq ?_
   refine end1 (v := .sc _) rfl ?_
   exact out_i (oe_2 (by omega) (by omega))
  have hb11R := hb11; try simp only [z1, z2, z3, z4, z5, z6, ne_eq, z7, z8, z9, z10, z11, z12] at hb11
  refine pwp_skip ?_
  refine seq_norm (hK10 _ ?_); clear hK10 K10
  refine pwp_seq_seq ?_
  refine pwp_seq_plain rfl fun K13 hK13 => ?_
  refine p_step rfl (e_assign (v := .sc _) rfl) trivial ?_
  refine p_end (hK13 _ ?_); clear hK13 K13
  refine pwp_seq_block fun K14 hK14 => ?_
  refine pwp_loopR (α := Nat) [1] (fun (k : Nat) => [(3, .int (k))]) (fun (k : Nat) (h : Heap) (_ : Nat → Nat) => ((k) ≤ o.wants.length) ∧ (wntE 1 o.wants = wntE 1 (o.wants.drop (k))) ∧ (h (1, 0) = some (.rows 3 [Order.enc o]))) (fun (k : Nat) => o.wants.length - (k)) (0) (by exact ⟨rfl, trivial⟩) (by exact ⟨by exact Nat.zero_le _, by exact rfl, (hset_self _ _ _)⟩) fun k r15 h16 c17 hj18 => ?_
  obtain ⟨hk, hinv, hihj18_0⟩ := hj18
  try dsimp only at hk
  try dsimp only at hinv
  try dsimp only at hihj18_0
  show pwp _ _ (loopQ _ _ _) ⟨sets (mix _ _ _) [(3, .int k)], _, _⟩
  refine pwp_seq_seq ?_
  refine pwp_seq_plain rfl fun K19 hK19 => ?_
  refine p_step rfl (e_move (v := .sc _) rfl) trivial ?_
  refine p_step rfl (e_faP (pl := [(0, 1, false), (1, 1, false), (2, 1, false)]) rfl (by kernel_rfl) (by kernel_rfl) (by decide) rfl) trivial ?_
  refine p_step rfl (e_loadH (v := .lit _ _ _) rfl hihj18_0 (by kernel_rfl) (by kernel_rfl) (by kernel_rfl) (by exact Nat.zero_lt_one) (by decide) rfl) trivial ?_
  refine p_step rfl (e_len rfl (by kernel_rfl)) trivial ?_
  refine p_step rfl (e_lt rfl rfl) trivial ?_
  refine p_end (hK19 _ ?_); clear hK19 K19
  refine pwp_seq_cond rfl fun K20 hK20 => ⟨fun hb21 => ?_, fun hb21 => ?_⟩
  ·have hb21R := hb21; try simp only [z1, z2, z3, z4, z5, z6, ne_eq, z7, z8, z9, z10, z11, z12] at hb21
   obtain ⟨x, hx, hd, ht⟩ := get_lt (xs := o.wants) (i := k) (by omega)
   rw [hd] at hinv; simp only [wntE] at hinv
   have hsz := wzz hs hx
   refine pwp_skip ?_
   refine seq_norm (hK20 _ ?_); clear hK20 K20
   refine pwp_seq_block fun K22 hK22 => ?_
   refine pwp_seq_seq ?_
   refine pwp_seq_plain rfl fun K23 hK23 => ?_
   refine p_step rfl (e_faP (pl := [(0, 1, false), (1, 1, false), (2, 1, false)]) rfl (by kernel_rfl) (by kernel_rfl) (by decide) rfl) trivial ?_
   refine p_step rfl (e_loadH (v := .lit _ _ _) rfl hihj18_0 (by kernel_rfl) (by kernel_rfl) (by kernel_rfl) (by exact Nat.zero_lt_one) (by decide) rfl) trivial ?_
   refine p_step rfl (e_move (v := .sc _) rfl) trivial ?_
   refine p_step rfl (e_ixa rfl rfl (by kernel_rfl) (by kernel_rfl) (by simp only [List.length_map]; omega)) trivial ?_
   refine p_step rfl (e_fa (pl := [(0, 1, false), (1, 1, false)]) rfl (by kernel_rfl) (by kernel_rfl) (by decide) rfl) trivial ?_
   refine p_step rfl (e_load (v := .sc _) rfl (by kernel_rfl) (by kernel_rfl) (by kernel_rfl) (by simp only [List.length_map]; omega) (by decide) ((cell_map hx _).trans rfl)) trivial ?_
   refine p_call rfl (.cons inn_sc .nil) (IsName _) ?_
   refine p_step rfl (e_not rfl) trivial ?_
   refine p_end (hK23 _ ?_); clear hK23 K23
   refine pwp_seq_cond rfl fun K24 hK24 => ⟨fun hb25 => ?_, fun hb25 => ?_⟩
   ·have hb25R := hb25; try simp only [z1, z2, z3, z4, z5, z6, ne_eq, z7, z8, z9, z10, z11, z12] at hb25
    refine pwp_seq_plain rfl fun K26 hK26 => ?_
    refine p_step rfl (e_assign (v := .sc _) rfl) trivial ?_
    refine p_end (hK26 _ ?_); clear hK26 K26
    refine pwp_ret ?_
    refine ret_seq ?_
    refine ret_block ?_
    refine ret_seq ?_
    refine ret_loop ?_
    refine ret_block ?_
    refine ret_seq ?_
    refine end1 (v := .sc _) rfl ?_
    exact out_i (oe_3 (by omega) (by omega) (by rw [hinv, if_pos (by assumption)]) (by decide))
   have hb25R := hb25; try simp only [z1, z2, z3, z4, z5, z6, ne_eq, z7, z8, z9, z10, z11, z12] at hb25
   refine pwp_skip ?_
   refine seq_norm (hK24 _ ?_); clear hK24 K24
   refine pwp_seq_plain rfl fun K27 hK27 => ?_
   refine p_step rfl (e_faP (pl := [(0, 1, false), (1, 1, false), (2, 1, false)]) rfl (by kernel_rfl) (by kernel_rfl) (by decide) rfl) trivial ?_
   refine p_step rfl (e_loadH (v := .lit _ _ _) rfl hihj18_0 (by kernel_rfl) (by kernel_rfl) (by kernel_rfl) (by exact Nat.zero_lt_one) (by decide) rfl) trivial ?_
   refine p_step rfl (e_move (v := .sc _) rfl) trivial ?_
   refine p_step rfl (e_ixa rfl rfl (by kernel_rfl) (by kernel_rfl) (by simp only [List.length_map]; omega)) trivial ?_
   refine p_step rfl (e_fa (pl := [(0, 1, false), (1, 1, false)]) rfl (by kernel_rfl) (by kernel_rfl) (by decide) rfl) trivial ?_
   refine p_step rfl (e_load (v := .sc _) rfl (by kernel_rfl) (by kernel_rfl) (by kernel_rfl) (by simp only [List.length_map]; omega) (by decide) ((cell_map hx _).trans rfl)) trivial ?_
   refine p_call rfl (.cons inn_sc (.cons inn_sc (.cons inn_sc .nil))) (Within _ _ _) ?_
   refine p_step rfl (e_not rfl) trivial ?_
   refine p_end (hK27 _ ?_); clear hK27 K27
   refine pwp_cond rfl (fun hb28 => ?_) (fun hb28 => ?_)
   ·have hb28R := hb28; try simp only [z1, z2, z3, z4, z5, z6, ne_eq, z7, z8, z9, z10, z11, z12] at hb28
    refine pwp_seq_plain rfl fun K29 hK29 => ?_
    refine p_step rfl (e_assign (v := .sc _) rfl) trivial ?_
    refine p_end (hK29 _ ?_); clear hK29 K29
    refine pwp_ret ?_
    refine ret_block ?_
    refine ret_seq ?_
    refine ret_loop ?_
    refine ret_block ?_
    refine ret_seq ?_
    refine end1 (v := .sc _) rfl ?_
    exact out_i (oe_3 (by omega) (by omega) (by rw [hinv, if_neg (by rw [Bool.not_eq_false]; assumption), if_pos (by omega)]) (by decide))
   have hb28R := hb28; try simp only [z1, z2, z3, z4, z5, z6, ne_eq, z7, z8, z9, z10, z11, z12] at hb28
   refine pwp_skip ?_
   refine block_norm ?_
   refine seq_norm (hK22 _ ?_); clear hK22 K22
   refine pwp_plain rfl fun K30 hK30 => ?_
   refine p_step rfl (e_move (v := .sc _) rfl) trivial ?_
   refine p_step rfl (e_add rfl rfl (by omega)) trivial ?_
   refine p_step rfl (e_assign (v := .sc _) rfl) trivial ?_
   refine p_end (hK30 _ ?_); clear hK30 K30
   rw [if_neg (by rw [Bool.not_eq_false]; assumption), if_neg (by omega)] at hinv
   exact loop_again (k + 1) (by show _ < _; omega) ⟨rfl, trivial⟩ ⟨rfl, trivial⟩ (by exact ⟨by show _ + 1 ≤ _; omega, by exact hinv, hihj18_0⟩)
  have hb21R := hb21; try simp only [z1, z2, z3, z4, z5, z6, ne_eq, z7, z8, z9, z10, z11, z12] at hb21
  obtain rfl : k = o.wants.length := by omega
  rw [List.drop_length] at hinv; simp only [wntE] at hinv
  have hw0 := hinv
  clear hinv
  refine pwp_exit ?_
  refine exit_seq ?_
  clear hK20 K20
  refine exit_loop ?_
  refine exit_here ?_
  refine seq_norm (hK14 _ ?_); clear hK14 K14
  refine pwp_seq_seq ?_
  refine pwp_seq_plain rfl fun K31 hK31 => ?_
  refine p_step rfl (e_assign (v := .sc _) rfl) trivial ?_
  refine p_end (hK31 _ ?_); clear hK31 K31
  refine pwp_seq_block fun K32 hK32 => ?_
  refine pwp_loopR (α := Nat) [1] (fun (k : Nat) => [(4, .int (k))]) (fun (k : Nat) (h : Heap) (_ : Nat → Nat) => ((k) ≤ o.swaps.length) ∧ (swapsE o.swaps = swapsE (o.swaps.drop (k))) ∧ (h (1, 0) = some (.rows 3 [Order.enc o]))) (fun (k : Nat) => o.swaps.length - (k)) (0) (by exact ⟨rfl, trivial⟩) (by exact ⟨by exact Nat.zero_le _, by exact rfl, hihj18_0⟩) fun k r33 h34 c35 hj36 => ?_
  obtain ⟨hk, hinv, hihj36_0⟩ := hj36
  try dsimp only at hk
  try dsimp only at hinv
  try dsimp only at hihj36_0
  show pwp _ _ (loopQ _ _ _) ⟨sets (mix _ _ _) [(4, .int k)], _, _⟩
  refine pwp_seq_seq ?_
  refine pwp_seq_plain rfl fun K37 hK37 => ?_
  refine p_step rfl (e_move (v := .sc _) rfl) trivial ?_
  refine p_step rfl (e_faP (pl := [(0, 1, false), (1, 1, false), (2, 1, false)]) rfl (by kernel_rfl) (by kernel_rfl) (by decide) rfl) trivial ?_
  refine p_step rfl (e_loadH (v := .lit _ _ _) rfl hihj36_0 (by kernel_rfl) (by kernel_rfl) (by kernel_rfl) (by exact Nat.zero_lt_one) (by decide) rfl) trivial ?_
  refine p_step rfl (e_len rfl (by kernel_rfl)) trivial ?_
  refine p_step rfl (e_lt rfl rfl) trivial ?_
  refine p_end (hK37 _ ?_); clear hK37 K37
  refine pwp_seq_cond rfl fun K38 hK38 => ⟨fun hb39 => ?_, fun hb39 => ?_⟩
  ·have hb39R := hb39; try simp only [z1, z2, z3, z4, z5, z6, ne_eq, z7, z8, z9, z10, z11, z12] at hb39
   obtain ⟨x, hx, hd, ht⟩ := get_lt (xs := o.swaps) (i := k) (by omega)
   rw [hd] at hinv
   have hsz := szz hs2 hx
   refine pwp_skip ?_
   refine seq_norm (hK38 _ ?_); clear hK38 K38
   refine pwp_seq_block fun K40 hK40 => ?_
   refine pwp_seq_plain rfl fun K41 hK41 => ?_
   refine p_step rfl (e_faP (pl := [(0, 1, false), (1, 1, false), (2, 1, false)]) rfl (by kernel_rfl) (by kernel_rfl) (by decide) rfl) trivial ?_
   refine p_step rfl (e_loadH (v := .lit _ _ _) rfl hihj36_0 (by kernel_rfl) (by kernel_rfl) (by kernel_rfl) (by exact Nat.zero_lt_one) (by decide) rfl) trivial ?_
   refine p_step rfl (e_move (v := .sc _) rfl) trivial ?_
   refine p_step rfl (e_ixa rfl rfl (by kernel_rfl) (by kernel_rfl) (by simp only [List.length_map]; omega)) trivial ?_
   refine p_step rfl (e_loadA (n := 3) rfl (by kernel_rfl) (by kernel_rfl) (by kernel_rfl) (by simp only [List.length_map]; omega) (by decide) (by first | exact agg_map hx rfl)) trivial ?_
   refine p_new rfl (e_alloc (cs := [.str ByteArray.empty, .str ByteArray.empty, .int 0]) (n := 3) (by kernel_rfl) rfl (by decide)) (ob_alloc (by decide)) ?_
   refine p_store rfl (e_storeA rfl (hset_self _ _ _) rfl rfl rfl (by kernel_rfl) rfl (by kernel_rfl)) trivial ?_
   refine p_end (hK41 _ ?_); clear hK41 K41
   refine pwp_seq_seq ?_
   refine pwp_seq_gops rfl fun K42 hK42 => ?_
   refine g_begin ?_
   refine g_step rfl rfl rfl rfl (e_faP (pl := [(0, 1, false), (1, 1, false), (2, 1, false)]) rfl (by kernel_rfl) (by kernel_rfl) (by decide) rfl) trivial ?_
   refine g_step rfl rfl rfl rfl (e_loadH (v := .sc _) rfl (hset_self _ _ _) (by kernel_rfl) (by kernel_rfl) (by kernel_rfl) (by exact Nat.zero_lt_one) (by decide) rfl) trivial ?_
   refine g_call rfl rfl rfl rfl (.cons inn_sc .nil) (IsName _) ?_
   refine g_step rfl rfl rfl rfl (e_not rfl) trivial ?_
   refine g_step rfl rfl rfl rfl (e_move (v := .sc _) rfl) trivial ?_
   refine g_cases (fun hb43 => ?_) (fun hb43 => ?_)
   ·have hb43R := hb43; try simp only [z1, z2, z3, z4, z5, z6, ne_eq, z7, z8, z9, z10, z11, z12] at hb43
    refine g_skip rfl rfl rfl ?_
    refine g_skip rfl rfl rfl ?_
    refine g_nocall rfl rfl rfl ?_
    refine g_skip rfl rfl rfl ?_
    refine g_step rfl rfl rfl rfl (e_pickT (v := .sc _) rfl rfl) trivial ?_
    refine g_end (ds := [60, 61, 62, 63]) rfl rfl (hK42 _ ?_); clear hK42 K42
    refine pwp_seq_cond (t := true) rfl fun K44 hK44 => ⟨fun _ => ?_, nofun⟩
    refine pwp_seq_plain rfl fun K45 hK45 => ?_
    refine p_step rfl (e_assign (v := .sc _) rfl) trivial ?_
    refine p_end (hK45 _ ?_); clear hK45 K45
    refine pwp_ret ?_
    refine ret_seq ?_
    refine ret_block ?_
    refine ret_seq ?_
    refine ret_loop ?_
    refine ret_block ?_
    refine ret_seq ?_
    refine end1 (v := .sc _) rfl ?_
    exact out_i (oe_4 (by omega) (by omega) hw0 (sw_1 hinv (by assumption)))
   have hb43R := hb43; try simp only [z1, z2, z3, z4, z5, z6, ne_eq, z7, z8, z9, z10, z11, z12] at hb43
   refine g_step rfl rfl rfl rfl (e_faP (pl := [(0, 1, false), (1, 1, false), (2, 1, false)]) rfl (by kernel_rfl) (by kernel_rfl) (by decide) rfl) trivial ?_
   refine g_step rfl rfl rfl rfl (e_loadH (v := .sc _) rfl (hset_self _ _ _) (by kernel_rfl) (by kernel_rfl) (by kernel_rfl) (by exact Nat.zero_lt_one) (by decide) rfl) trivial ?_
   refine g_call rfl rfl rfl rfl (.cons inn_sc .nil) (IsName _) ?_
   refine g_step rfl rfl rfl rfl (e_not rfl) trivial ?_
   refine g_step rfl rfl rfl rfl (e_pickF (v := .sc _) rfl rfl) trivial ?_
   refine g_end (ds := [60, 61, 62, 63]) rfl rfl (hK42 _ ?_); clear hK42 K42
   refine pwp_seq_cond rfl fun K46 hK46 => ⟨fun hb47 => ?_, fun hb47 => ?_⟩
   ·have hb47R := hb47; try simp only [z1, z2, z3, z4, z5, z6, ne_eq, z7, z8, z9, z10, z11, z12] at hb47
    refine pwp_seq_plain rfl fun K48 hK48 => ?_
    refine p_step rfl (e_assign (v := .sc _) rfl) trivial ?_
    refine p_end (hK48 _ ?_); clear hK48 K48
    refine pwp_ret ?_
    refine ret_seq ?_
    refine ret_block ?_
    refine ret_seq ?_
    refine ret_loop ?_
    refine ret_block ?_
    refine ret_seq ?_
    refine end1 (v := .sc _) rfl ?_
    exact out_i (oe_4 (by omega) (by omega) hw0 (sw_1b hinv (by assumption)))
   have hb47R := hb47; try simp only [z1, z2, z3, z4, z5, z6, ne_eq, z7, z8, z9, z10, z11, z12] at hb47
   refine pwp_skip ?_
   refine seq_norm (hK46 _ ?_); clear hK46 K46
   refine pwp_seq_seq ?_
   refine pwp_seq_plain rfl fun K49 hK49 => ?_
   refine p_step rfl (e_faP (pl := [(0, 1, false), (1, 1, false), (2, 1, false)]) rfl (by kernel_rfl) (by kernel_rfl) (by decide) rfl) trivial ?_
   refine p_step rfl (e_loadH (v := .sc _) rfl (hset_self _ _ _) (by kernel_rfl) (by kernel_rfl) (by kernel_rfl) (by exact Nat.zero_lt_one) (by decide) rfl) trivial ?_
   refine p_step rfl (e_faP (pl := [(0, 1, false), (1, 1, false), (2, 1, false)]) rfl (by kernel_rfl) (by kernel_rfl) (by decide) rfl) trivial ?_
   refine p_step rfl (e_loadH (v := .sc _) rfl (hset_self _ _ _) (by kernel_rfl) (by kernel_rfl) (by kernel_rfl) (by exact Nat.zero_lt_one) (by decide) rfl) trivial ?_
   refine p_step rfl (e_seq rfl rfl) trivial ?_
   refine p_end (hK49 _ ?_); clear hK49 K49
   refine pwp_seq_cond rfl fun K50 hK50 => ⟨fun hb51 => ?_, fun hb51 => ?_⟩
   ·have hb51R := hb51; try simp only [z1, z2, z3, z4, z5, z6, ne_eq, z7, z8, z9, z10, z11, z12] at hb51
    refine pwp_seq_plain rfl fun K52 hK52 => ?_
    refine p_step rfl (e_assign (v := .sc _) rfl) trivial ?_
    refine p_end (hK52 _ ?_); clear hK52 K52
    refine pwp_ret ?_
    refine ret_seq ?_
    refine ret_block ?_
    refine ret_seq ?_
    refine ret_loop ?_
    refine ret_block ?_
    refine ret_seq ?_
    refine end1 (v := .sc _) rfl ?_
    exact out_i (oe_4 (by omega) (by omega) hw0 (sw_2 hinv (by assumption) (by assumption) (by assumption)))
   have hb51R := hb51; try simp only [z1, z2, z3, z4, z5, z6, ne_eq, z7, z8, z9, z10, z11, z12] at hb51
   refine pwp_skip ?_
   refine seq_norm (hK50 _ ?_); clear hK50 K50
   refine pwp_seq_plain rfl fun K53 hK53 => ?_
   refine p_step rfl (e_faP (pl := [(0, 1, false), (1, 1, false), (2, 1, false)]) rfl (by kernel_rfl) (by kernel_rfl) (by decide) rfl) trivial ?_
   refine p_step rfl (e_loadH (v := .sc _) rfl (hset_self _ _ _) (by kernel_rfl) (by kernel_rfl) (by kernel_rfl) (by exact Nat.zero_lt_one) (by decide) rfl) trivial ?_
   refine p_call rfl (.cons inn_sc (.cons inn_sc (.cons inn_sc .nil))) (Within _ _ _) ?_
   refine p_step rfl (e_not rfl) trivial ?_
   refine p_end (hK53 _ ?_); clear hK53 K53
   refine pwp_cond rfl (fun hb54 => ?_) (fun hb54 => ?_)
   ·have hb54R := hb54; try simp only [z1, z2, z3, z4, z5, z6, ne_eq, z7, z8, z9, z10, z11, z12] at hb54
    refine pwp_seq_plain rfl fun K55 hK55 => ?_
    refine p_step rfl (e_assign (v := .sc _) rfl) trivial ?_
    refine p_end (hK55 _ ?_); clear hK55 K55
    refine pwp_ret ?_
    refine ret_block ?_
    refine ret_seq ?_
    refine ret_loop ?_
    refine ret_block ?_
    refine ret_seq ?_
    refine end1 (v := .sc _) rfl ?_
    exact out_i (oe_4 (by omega) (by omega) hw0 (sw_3 hinv (by assumption) (by assumption) (by assumption) (by omega)))
   have hb54R := hb54; try simp only [z1, z2, z3, z4, z5, z6, ne_eq, z7, z8, z9, z10, z11, z12] at hb54
   refine pwp_skip ?_
   refine block_norm ?_
   refine seq_norm (hK40 _ ?_); clear hK40 K40
   refine pwp_plain rfl fun K56 hK56 => ?_
   refine p_step rfl (e_move (v := .sc _) rfl) trivial ?_
   refine p_step rfl (e_add rfl rfl (by omega)) trivial ?_
   refine p_step rfl (e_assign (v := .sc _) rfl) trivial ?_
   refine p_end (hK56 _ ?_); clear hK56 K56
   exact loop_again (k + 1) (by show _ < _; omega) ⟨rfl, trivial⟩ ⟨rfl, trivial⟩ (by exact ⟨by show _ + 1 ≤ _; omega, by exact sw_4 hinv (by assumption) (by assumption) (by assumption) (by omega), ((hset_ne (key_ne rfl)).trans ((hset_ne (key_ne rfl)).trans hihj36_0))⟩)
  have hb39R := hb39; try simp only [z1, z2, z3, z4, z5, z6, ne_eq, z7, z8, z9, z10, z11, z12] at hb39
  obtain rfl : k = o.swaps.length := by omega
  rw [List.drop_length] at hinv; simp only [swapsE] at hinv
  refine pwp_exit ?_
  refine exit_seq ?_
  clear hK38 K38
  refine exit_loop ?_
  refine exit_here ?_
  refine seq_norm (hK32 _ ?_); clear hK32 K32
  refine pwp_seq_plain rfl fun K57 hK57 => ?_
  refine p_step rfl (e_assign (v := .sc _) rfl) trivial ?_
  refine p_end (hK57 _ ?_); clear hK57 K57
  refine pwp_ret ?_
  refine end1 (v := .sc _) rfl ?_
  exact out_i (oe_4 (by omega) (by omega) hw0 (hinv))

end Go.Proofs.Ytigdmkhdmbbfiaa

/- Picking: the closure. No conditions. -/
set_option linter.unusedSimpArgs false
set_option linter.unusedVariables false
set_option maxRecDepth 100000
set_option maxHeartbeats 8000000
namespace Go.Proofs.Ytigdmkhdmbbfiaa
open Go Go.Pv

/-! ### Picking -/
/-- The movements behind a taking. -/
def tkV (pl : Int) (mv : List Movement) (p : ByteArray) (n : Int) : List Movement := if 0 < n then mv ++ [⟨p, 0, pl, 0, 0, n⟩] else mv
section
variable {σ : Type} (gt : σ → ByteArray → Int) (tk : σ → ByteArray → Int → σ)
/-- A want's swaps: what is still needed, the store, the movements. -/
def swG (pl : Int) (wp : ByteArray) : Int → σ → List Movement → List Swap → Int × σ × List Movement
  | nd, s, mv, [] => (nd, s, mv)
  | nd, s, mv, x :: l => if x.part = wp then swG pl wp (nd - min nd (gt s x.via / x.count)) (tk s x.via (min nd (gt s x.via / x.count) * x.count)) (tkV pl mv x.via (min nd (gt s x.via / x.count) * x.count)) l else swG pl wp nd s mv l
/-- All wants: the movements, what is lacking. -/
def pkG (pl : Int) (ss : List Swap) : σ → List Movement → List Want → List Want → List Movement × List Want
  | _, mv, la, [] => (mv, la)
  | s, mv, la, w :: l =>
    pkG pl ss (swG gt tk pl w.part (w.count - min w.count (gt s w.part)) (tk s w.part (min w.count (gt s w.part))) (tkV pl mv w.part (min w.count (gt s w.part))) ss).2.1
      (swG gt tk pl w.part (w.count - min w.count (gt s w.part)) (tk s w.part (min w.count (gt s w.part))) (tkV pl mv w.part (min w.count (gt s w.part))) ss).2.2
      (if 0 < (swG gt tk pl w.part (w.count - min w.count (gt s w.part)) (tk s w.part (min w.count (gt s w.part))) (tkV pl mv w.part (min w.count (gt s w.part))) ss).1 then la ++ [⟨w.part, (swG gt tk pl w.part (w.count - min w.count (gt s w.part)) (tk s w.part (min w.count (gt s w.part))) (tkV pl mv w.part (min w.count (gt s w.part))) ss).1⟩] else la) l
variable {gt tk}
theorem sg_t {pl : Int} {wp : ByteArray} {nd : Int} {s : σ} {mv : List Movement} {x : Swap} {l : List Swap} {R : Int × σ × List Movement} (h : R = swG gt tk pl wp nd s mv (x :: l)) (h2 : x.part = wp) : R = swG gt tk pl wp (nd - min nd (gt s x.via / x.count)) (tk s x.via (min nd (gt s x.via / x.count) * x.count)) (tkV pl mv x.via (min nd (gt s x.via / x.count) * x.count)) l := by rw [h, swG, if_pos h2]
theorem sg_f {pl : Int} {wp : ByteArray} {nd : Int} {s : σ} {mv : List Movement} {x : Swap} {l : List Swap} {R : Int × σ × List Movement} (h : R = swG gt tk pl wp nd s mv (x :: l)) (h2 : ¬ x.part = wp) : R = swG gt tk pl wp nd s mv l := by rw [h, swG, if_neg h2]
theorem pg_s {pl : Int} {ss : List Swap} {s s' : σ} {mv mv' : List Movement} {la : List Want} {w : Want} {l : List Want} {nd : Int} {R : List Movement × List Want} (h : R = pkG gt tk pl ss s mv la (w :: l))
    (h2 : swG gt tk pl w.part (w.count - min w.count (gt s w.part)) (tk s w.part (min w.count (gt s w.part))) (tkV pl mv w.part (min w.count (gt s w.part))) ss = (nd, s', mv')) : R = pkG gt tk pl ss s' mv' (if 0 < nd then la ++ [⟨w.part, nd⟩] else la) l := by
  rw [h, pkG, h2]
/-- Two stores of which the same can be taken. -/
theorem swG_sim {τ : Type} {gt' : τ → ByteArray → Int} {tk' : τ → ByteArray → Int → τ} {Q : σ → τ → Prop} (hg : ∀ s t p, Q s t → gt s p = gt' t p ∧ 0 ≤ gt s p) (ht : ∀ s t p n, Q s t → 0 ≤ n → n ≤ gt s p → Q (tk s p n) (tk' t p n)) (pl : Int) (wp : ByteArray) :
    ∀ (l : List Swap) (nd : Int) (s : σ) (t : τ) (mv : List Movement), (∀ x ∈ l, 1 ≤ x.count) → 0 ≤ nd → Q s t →
      (swG gt tk pl wp nd s mv l).1 = (swG gt' tk' pl wp nd t mv l).1 ∧ (swG gt tk pl wp nd s mv l).2.2 = (swG gt' tk' pl wp nd t mv l).2.2 ∧ Q (swG gt tk pl wp nd s mv l).2.1 (swG gt' tk' pl wp nd t mv l).2.1
  | [], nd, s, t, mv, _, _, h => ⟨rfl, rfl, h⟩
  | x :: l, nd, s, t, mv, hc, hn, h => by
    have hl : ∀ x ∈ l, 1 ≤ x.count := fun y hy => hc y (List.mem_cons_of_mem _ hy)
    unfold swG
    by_cases hx : x.part = wp
    · rw [if_pos hx, if_pos hx]
      obtain ⟨h1, h2⟩ := hg s t x.via h
      have hx1 := hc x List.mem_cons_self
      have hq : 0 ≤ gt s x.via / x.count := Int.ediv_nonneg h2 (by omega)
      have hm : min nd (gt s x.via / x.count) * x.count ≤ gt s x.via := Int.le_trans (Int.mul_le_mul_of_nonneg_right (Int.min_le_right _ _) (by omega)) (by rw [Int.mul_comm]; exact Int.mul_ediv_self_le (by omega))
      rw [← h1]
      exact swG_sim hg ht pl wp l _ _ _ _ hl (by omega) (ht s t x.via _ h (Int.mul_nonneg (by omega) (by omega)) hm)
    · rw [if_neg hx, if_neg hx]
      exact swG_sim hg ht pl wp l nd s t mv hl hn h
theorem pkG_sim {τ : Type} {gt' : τ → ByteArray → Int} {tk' : τ → ByteArray → Int → τ} {Q : σ → τ → Prop} (hg : ∀ s t p, Q s t → gt s p = gt' t p ∧ 0 ≤ gt s p) (ht : ∀ s t p n, Q s t → 0 ≤ n → n ≤ gt s p → Q (tk s p n) (tk' t p n)) (pl : Int) (ss : List Swap) (hc : ∀ x ∈ ss, 1 ≤ x.count) :
    ∀ (l : List Want) (s : σ) (t : τ) (mv : List Movement) (la : List Want), (∀ w ∈ l, 0 ≤ w.count) → Q s t → pkG gt tk pl ss s mv la l = pkG gt' tk' pl ss t mv la l
  | [], _, _, _, _, _, _ => rfl
  | w :: l, s, t, mv, la, hw, h => by
    obtain ⟨h1, h2⟩ := hg s t w.part h
    have hw1 := hw w List.mem_cons_self
    have := swG_sim hg ht pl w.part ss (w.count - min w.count (gt s w.part)) (tk s w.part (min w.count (gt s w.part))) (tk' t w.part (min w.count (gt s w.part))) (tkV pl mv w.part (min w.count (gt s w.part))) hc (by omega) (ht s t w.part _ h (by omega) (by omega))
    obtain ⟨h3, h4, h5⟩ := this
    unfold pkG
    rw [← h1, ← h3, ← h4]
    exact pkG_sim hg ht pl ss hc l _ _ _ _ (fun y hy => hw y (List.mem_cons_of_mem _ hy)) h5
end
/-- The program's store. -/
def gM (m : Sto) (p : ByteArray) : Int := (aGet (⟨p, 0, 0⟩ : Shelf) m).getD 0
def tkM (m : Sto) (p : ByteArray) (n : Int) : Sto := if 0 < n then aSet (⟨p, 0, 0⟩ : Shelf) ((aGet (⟨p, 0, 0⟩ : Shelf) m).getD 0 - n) m else m
/-- The reference's list. -/
def gL (xs : List Stock) (p : ByteArray) : Int := cntA ⟨p, 0, 0⟩ 0 xs
def tkL (xs : List Stock) (p : ByteArray) (n : Int) : List Stock := if n = 0 then xs else xs ++ [⟨p, 0, 0, 0 - n⟩]
def pickR (xs : List Stock) (o : Order) : List Movement × List Want := pkG gM tkM o.place o.swaps (sumS [] xs) [] [] o.wants
def refPickR (xs : List Stock) (o : Order) : List Movement × List Want := pkG gL tkL o.place o.swaps xs [] [] o.wants
theorem gM_tk (m : Sto) (p p' : ByteArray) (n : Int) : gM (tkM m p n) p' = if 0 < n ∧ p' = p then gM m p - n else gM m p' := by
  unfold tkM
  by_cases h : 0 < n
  · rw [if_pos h]
    unfold gM
    rw [aGet_aSet]
    by_cases h2 : p' = p
    · rw [if_pos (by rw [h2]), if_pos ⟨h, h2⟩]; rfl
    · rw [if_neg (fun e => h2 (by simpa using e)), if_neg (fun e => h2 e.2)]
  · rw [if_neg h, if_neg (fun e => h e.1)]
theorem gL_tk (xs : List Stock) (p p' : ByteArray) (n : Int) : gL (tkL xs p n) p' = if p' = p then gL xs p' - n else gL xs p' := by
  unfold gL tkL
  rw [cntA_eq, cntA_eq]
  by_cases h : n = 0
  · rw [if_pos h]; split <;> omega
  · rw [if_neg h]
    have ha : ∀ (k : Kx) (l l' : List Stock), cntS k (l ++ l') = cntS k l + cntS k l' := fun k l l' => by
      induction l with
      | nil => simp [cntS]
      | cons x l ih => simp only [List.cons_append, cntS]; rw [ih]; omega
    rw [ha]
    by_cases h2 : p' = p
    · have : cntS ⟨p', 0, 0⟩ [(⟨p, 0, 0, 0 - n⟩ : Stock)] = 0 - n := by
        rw [cntS, if_pos (show keyS (⟨p, 0, 0, 0 - n⟩ : Stock) = ⟨p', 0, 0⟩ by rw [h2]; rfl)]; simp [cntS]
      rw [this, if_pos h2]; omega
    · have : cntS ⟨p', 0, 0⟩ [(⟨p, 0, 0, 0 - n⟩ : Stock)] = 0 := by
        rw [cntS, if_neg (fun e => h2 (by simp [keyS] at e; exact e.symm))]; simp [cntS]
      rw [this, if_neg h2]; omega
theorem pick_ref {xs : List Stock} {o : Order} (h : stockE xs = 0) (ho : orderE o = 0) : pickR xs o = refPickR xs o := by
  obtain ⟨_, _, _, h4, h5⟩ := orderE_ok ho
  refine pkG_sim (Q := fun (m : Sto) (l : List Stock) => ∀ p, gM m p = gL l p ∧ 0 ≤ gM m p) (fun s t p hq => hq p) (fun s t p n hq h1 h2 p' => ?_) o.place o.swaps (fun x hx => (swapsE_ok h5 x hx).2.2.2.1) o.wants _ _ _ _ (fun w hw => by have := (wntE_ok h4 w hw).2; omega) fun p => ?_
  · rw [gM_tk, gL_tk]
    have q1 := hq p'
    have q2 := hq p
    by_cases h3 : p' = p
    · subst h3
      by_cases h4 : 0 < n
      · rw [if_pos ⟨h4, rfl⟩, if_pos rfl]; omega
      · rw [if_neg (fun e => h4 e.1), if_pos rfl]; omega
    · rw [if_neg (fun e => h3 e.2), if_neg h3]; exact q1
  · have h1 : gM (sumS [] xs) p = cntS ⟨p, 0, 0⟩ xs := by
      have := getS_sum ⟨p, 0, 0⟩ xs []
      simpa [getS, aGet, gM] using this
    have h2 := cntS_0 (k := ⟨p, 0, 0⟩) fun x hx => ((stockE_ok h).2 x hx).2.2.1
    unfold gL
    rw [cntA_eq, h1]
    omega
theorem min_mul {nd g c : Int} (h0 : 0 ≤ nd) (hg : 0 ≤ g) (hc : 1 ≤ c) : 0 ≤ g / c ∧ 0 ≤ min nd (g / c) * c ∧ min nd (g / c) * c ≤ g := by
  have hq : 0 ≤ g / c := Int.ediv_nonneg hg (by omega)
  exact ⟨hq, Int.mul_nonneg (by omega) (by omega), Int.le_trans (Int.mul_le_mul_of_nonneg_right (Int.min_le_right _ _) (by omega)) (by rw [Int.mul_comm]; exact Int.mul_ediv_self_le (by omega))⟩
theorem gM_bd {m : Sto} (h : ∀ p, 0 ≤ gM m p ∧ gM m p ≤ 1000000000) {p : ByteArray} {n : Int} (h1 : 0 ≤ n) (h2 : n ≤ gM m p) : ∀ p', 0 ≤ gM (tkM m p n) p' ∧ gM (tkM m p n) p' ≤ 1000000000 := fun p' => by
  rw [gM_tk]
  have q1 := h p'
  have q2 := h p
  split <;> omega
theorem tkV_len {pl : Int} {mv : List Movement} {p : ByteArray} {n : Int} : (tkV pl mv p n).length ≤ mv.length + 1 := by
  unfold tkV; split <;> simp
theorem tkV_t {pl : Int} {mv : List Movement} {p : ByteArray} {n : Int} (h : 0 < n) : tkV pl mv p n = mv ++ [⟨p, 0, pl, 0, 0, n⟩] := if_pos h
theorem tkV_f {pl : Int} {mv : List Movement} {p : ByteArray} {n : Int} (h : ¬ 0 < n) : tkV pl mv p n = mv := if_neg h
theorem tkM_t {m : Sto} {p : ByteArray} {n : Int} (h : 0 < n) : tkM m p n = aSet (⟨p, 0, 0⟩ : Shelf) ((aGet (⟨p, 0, 0⟩ : Shelf) m).getD 0 - n) m := if_pos h
theorem tkM_f {m : Sto} {p : ByteArray} {n : Int} (h : ¬ 0 < n) : tkM m p n = m := if_neg h
/-- What the closure leaves. -/
def TK (pl : Int) (m : Sto) (mv : List Movement) (p : ByteArray) (n : Int) (q b : Nat) (h0 : Heap) (w : PV) (h : Heap) : Prop :=
  w = .tup [] ∧ (∃ u, h (10, b) = some (.rows 1 [[u]]) ∧ SliceAt h 24 u 6 ((tkV pl mv p n).map Movement.enc)) ∧ MapAt h (6, q) (entsOf kx PV.int (tkM m p n)) ∧
    ∀ a b, Nat.beq a 6 = false → Nat.beq a 10 = false → Nat.beq a 23 = false → Nat.beq a 24 = false → h (a, b) = h0 (a, b)
theorem mv_clean (a : Movement) : ∀ p ∈ a.enc, Go.Pv.Clean p ∧ p.cell = true := fun p hp => by
  simp only [Movement.enc, List.mem_cons, List.not_mem_nil, or_false] at hp
  rcases hp with rfl | rfl | rfl | rfl | rfl | rfl <;> exact ⟨.sc _, rfl⟩
theorem wa_clean (a : Want) : ∀ p ∈ a.enc, Go.Pv.Clean p ∧ p.cell = true := fun p hp => by
  simp only [Want.enc, List.mem_cons, List.not_mem_nil, or_false] at hp
  rcases hp with rfl | rfl <;> exact ⟨.sc _, rfl⟩

theorem frH75 : (inFrame Try.f75.ntmps (Try.f75.body.getD .skip) && Try.f75.results.toList.all (resScope Try.f75.ntmps)) = true := by kernel_rfl
theorem takeC (o : Order) (m : Sto) (mv : List Movement) (v : PV) (p : ByteArray) (n : Int) (q a b c : Nat) (h0 : Heap) (c0 : Nat → Nat) (hm0 : MapAt h0 (6, q) (entsOf kx PV.int m)) (h9 : h0 (9, a) = some (.rows 1 [[.map (6, q)]])) (h10 : h0 (10, b) = some (.rows 1 [[v]])) (hv : SliceAt h0 24 v 6 (mv.map Movement.enc)) (h3 : h0 (3, c) = some (.rows 3 [Order.enc o])) (hg : 0 ≤ gM m p ∧ gM m p ≤ 1000000000) (hn : 0 ≤ n ∧ n ≤ 1000000000) (hml : mv.length ≤ 100000) : HCallsR Try.prog 75 [.str p, .int n, .ptr (9, a) 1 0 0, .ptr (10, b) 1 0 0, .ptr (3, c) 3 0 0] h0 c0 (fun w h _ => TK o.place m mv p n q b h0 w h) := by
  refine HCallsR.of_code Try.func75 rfl rfl (by kernel_rfl) mixed frH75 (by show _ ≤ 25; simp) ?_
  have hg1 : 0 ≤ ((aGet (⟨p, (0), (0)⟩ : Shelf) m).getD 0) ∧ ((aGet (⟨p, (0), (0)⟩ : Shelf) m).getD 0) ≤ 1000000000 := hg
  refine pwp_seq_plain rfl fun K1 hK1 => ?_
  refine p_step rfl (e_move (v := .sc _) rfl) trivial ?_
  refine p_step rfl (e_gt rfl rfl) trivial ?_
  refine p_end (hK1 _ ?_); clear hK1 K1
  refine pwp_cond rfl (fun hb2 => ?_) (fun hb2 => ?_)
  ·have hb2R := hb2; try simp only [z1, z2, z3, z4, z5, z6, ne_eq, z7, z8, z9, z10, z11, z12] at hb2
   refine pwp_seq_gops rfl fun K3 hK3 => ?_
   refine s_begin ?_
   refine s_step [9] (by simp) rfl rfl rfl rfl (e_loadH (v := .map _) rfl h9 (by kernel_rfl) (by kernel_rfl) (by kernel_rfl) (by exact Nat.zero_lt_one) (by decide) rfl) trivial ?_
   refine s_step [] (by simp) rfl rfl rfl rfl (e_move (v := .sc _) rfl) trivial ?_
   refine s_step [] (by simp) rfl rfl rfl rfl (e_build (cs := Shelf.enc (⟨p, (0), (0)⟩ : Shelf)) (zs := [.str ByteArray.empty, .int 0, .int 0]) (pl := [(0, 1, false), (1, 1, false), (2, 1, false)]) (by kernel_rfl) (by kernel_rfl) (by kernel_rfl) rfl rfl (by exact ⟨by decide, rfl, Nat.le_of_ble_eq_true rfl, rfl, ⟨by decide, rfl, Nat.le_of_ble_eq_true rfl, rfl, ⟨by decide, rfl, Nat.le_of_ble_eq_true rfl, rfl, trivial⟩⟩⟩) rfl) trivial ?_
   refine s_step [6] (by simp) rfl rfl rfl rfl (e_look (kt := 124) (et := 3) (f := kx) (g := PV.int) (a := (⟨p, (0), (0)⟩ : Shelf)) (l := m) (z := 0) kx_eq kx_ok rfl rfl hm0 (by kernel_rfl) (by kernel_rfl) (by first | rfl | kernel_rfl)) trivial ?_
   refine s_step [] (by simp) rfl rfl rfl rfl (e_move (v := .sc _) rfl) trivial ?_
   refine s_step [] (by simp) rfl rfl rfl rfl (e_sub rfl rfl (by omega)) trivial ?_
   refine s_mentry (kt := 124) (et := 3) (m := 6) (f := kx) (g := PV.int) (a := (⟨p, (0), (0)⟩ : Shelf)) (l := m) (z := 0) kx_eq kx_ok rfl rfl rfl rfl rfl hm0 (by kernel_rfl) (by kernel_rfl) (by first | rfl | kernel_rfl) (fun _ => rfl) fun h4 sp5 hst6 hfr7 => ?_
   have ho8 := (hfr7 (9, _) (key_ne rfl)).trans h9
   have ho9 := (hfr7 (10, _) (key_ne rfl)).trans h10
   have ho10 := (hfr7 (3, _) (key_ne rfl)).trans h3
   have hs11 := (hv).keep fun g => (hfr7 (24, g) (key_ne rfl))
   refine s_step [] (by simp) rfl rfl rfl rfl (e_ext (v := .sc _) rfl (by simp) rfl) trivial ?_
   refine s_estore (f := kx) (g := PV.int) (a := (⟨p, (0), (0)⟩ : Shelf)) (b := (((aGet (⟨p, (0), (0)⟩ : Shelf) m).getD 0) - n)) (u := ((aGet (⟨p, (0), (0)⟩ : Shelf) m).getD 0)) (l := m) rfl rfl rfl rfl hst6 rfl fun h12 hm13 hfr14 => ?_
   have ho15 := (hfr14 (9, _) (key_ne rfl)).trans ho8
   have ho16 := (hfr14 (10, _) (key_ne rfl)).trans ho9
   have ho17 := (hfr14 (3, _) (key_ne rfl)).trans ho10
   have hs18 := (hs11).keep fun g => (hfr14 (24, g) (key_ne rfl))
   refine s_end (ds := []) (by kernel_rfl) (by kernel_rfl) (hK3 _ ?_); clear hK3 K3
   refine pwp_plain rfl fun K19 hK19 => ?_
   refine p_step rfl (e_loadH (v := _) rfl ho16 (by kernel_rfl) (by kernel_rfl) (by kernel_rfl) (by exact Nat.zero_lt_one) (by decide) rfl) trivial ?_
   refine p_step rfl (e_move (v := .sc _) rfl) trivial ?_
   refine p_step rfl (e_faP (pl := [(0, 1, false), (1, 1, false), (2, 1, false)]) rfl (by kernel_rfl) (by kernel_rfl) (by decide) rfl) trivial ?_
   refine p_step rfl (e_loadH (v := .sc _) rfl ho17 (by kernel_rfl) (by kernel_rfl) (by kernel_rfl) (by exact Nat.zero_lt_one) (by decide) rfl) trivial ?_
   refine p_step rfl (e_move (v := .sc _) rfl) trivial ?_
   refine p_step rfl (e_build (cs := Movement.enc (⟨p, (0), o.place, 0, 0, n⟩ : Movement)) (zs := [.str ByteArray.empty, .int 0, .int 0, .int 0, .int 0, .int 0]) (pl := [(0, 1, false), (1, 1, false), (2, 1, false), (3, 1, false), (4, 1, false), (5, 1, false)]) (by kernel_rfl) (by kernel_rfl) (by kernel_rfl) rfl rfl (by exact ⟨by decide, rfl, Nat.le_of_ble_eq_true rfl, rfl, ⟨by decide, rfl, Nat.le_of_ble_eq_true rfl, rfl, ⟨by decide, rfl, Nat.le_of_ble_eq_true rfl, rfl, ⟨by decide, rfl, Nat.le_of_ble_eq_true rfl, rfl, trivial⟩⟩⟩⟩) rfl) trivial ?_
   refine p_new rfl (e_bslice (rows := [Movement.enc ⟨p, 0, o.place, 0, 0, n⟩]) (zs := [.str ByteArray.empty, .int 0, .int 0, .int 0, .int 0, .int 0]) (sz := 6) (by kernel_rfl) (by kernel_rfl) rfl (by kernel_rfl) (by decide) rfl rfl (by exact ⟨by decide, rfl, rfl, trivial⟩) rfl) trivial ?_
   refine p_app rfl rfl rfl (hs18.keep fun _ => (hset_ne (key_ne rfl)).trans (rfl)) (src_ref (hset_self _ _ _) rfl) (by kernel_rfl) (by simp only [List.length_append, List.length_map, List.length_nil, List.length_cons]; omega) fun v20 h21 c22 hs23 hf24 => ?_
   have ho25 := (hf24 (9, _) (key_ne rfl) (fun _ _ => key_ne rfl)).trans ((hset_ne (key_ne rfl)).trans ho15)
   have ho26 := (hf24 (10, _) (key_ne rfl) (fun _ _ => key_ne rfl)).trans ((hset_ne (key_ne rfl)).trans ho16)
   have ho27 := (hf24 (3, _) (key_ne rfl) (fun _ _ => key_ne rfl)).trans ((hset_ne (key_ne rfl)).trans ho17)
   have ho28 := MapAt.keep (MapAt.keep hm13 ((hset_ne (key_ne rfl)).trans (rfl))) (hf24 (6, _) (key_ne rfl) (fun _ _ => key_ne rfl))
   have ho29 := (hf24 (23, _) (key_ne rfl) (fun _ _ => key_ne rfl)).trans (hset_self _ _ _)
   obtain ⟨g30, ev32, hg31⟩ := SliceAt.isRef hs23 (by simp)
   subst ev32
   refine p_store rfl (e_store1 rfl ho26 rfl rfl rfl (by decide) (by kernel_rfl) rfl (by kernel_rfl)) trivial ?_
   refine p_end (hK19 _ ?_); clear hK19 K19
   refine end0n   ?_
   exact ⟨rfl, ⟨_, (hset_self _ _ _), by rw [tkV_t (by omega), List.map_append]; exact .ofRef ((hset_ne (key_ne rfl)).trans hg31) (by simp)⟩, by rw [tkM_t (by omega)]; exact (MapAt.keep ho28 ((hset_ne (key_ne rfl)).trans (rfl))), fun a b n6 n10 n23 n24 => (hset_ne (key_ne n10)).trans ((hf24 (a, b) (key_ne n24) (fun _ _ => key_ne n24)).trans ((hset_ne (key_ne n23)).trans ((hfr14 (a, b) (key_ne n6)).trans (hfr7 (a, b) (key_ne n6)))))⟩
  ·have hb2R := hb2; try simp only [z1, z2, z3, z4, z5, z6, ne_eq, z7, z8, z9, z10, z11, z12] at hb2
   refine pwp_skip ?_
   refine end0n   ?_
   exact ⟨rfl, ⟨_, h10, by rw [tkV_f (by omega)]; exact hv⟩, by rw [tkM_f (by omega)]; exact hm0, fun a b _ _ _ _ => rfl⟩

end Go.Proofs.Ytigdmkhdmbbfiaa

/- Picking. No conditions. -/
set_option linter.unusedSimpArgs false
set_option linter.unusedVariables false
set_option maxRecDepth 100000
set_option maxHeartbeats 8000000
namespace Go.Proofs.Ytigdmkhdmbbfiaa
open Go Go.Pv

/-! ### Pick -/
def pickX (xs : List Stock) (o : Order) : Int × List Movement × List Want := if ¬ stockE xs = 0 then (stockE xs, [], []) else if ¬ orderE o = 0 then (orderE o, [], []) else (0, (pickR xs o).1, (pickR xs o).2)
theorem px_1 {xs : List Stock} {o : Order} (h : ¬ stockE xs = 0) : pickX xs o = (stockE xs, [], []) := if_pos h
theorem px_2 {xs : List Stock} {o : Order} (h : stockE xs = 0) (h2 : ¬ orderE o = 0) : pickX xs o = (orderE o, [], []) := by rw [pickX, if_neg (by simpa using h), if_pos h2]
theorem px_3 {xs : List Stock} {o : Order} {a : List Movement} {b : List Want} (h : stockE xs = 0) (h2 : orderE o = 0) (h3 : pickR xs o = (a, b)) : pickX xs o = (0, a, b) := by rw [pickX, if_neg (by simpa using h), if_neg (by simpa using h2), h3]
theorem px_out {xs : List Stock} {o : Order} {h : Heap} {z : Int} {a : List Movement} {b : List Want} {u u2 : PV} (hr : pickX xs o = (z, a, b)) (hs : SliceAt h 24 u 6 (a.map Movement.enc)) (hs2 : SliceAt h 99 u2 2 (b.map Want.enc)) :
    Out h (.tup [u, u2, .int z]) (.tup [.lit false 6 ((pickX xs o).2.1.map Movement.enc), .lit false 2 ((pickX xs o).2.2.map Want.enc), .int (pickX xs o).1]) := by
  rw [hr]
  exact out_3 (out_slice hs rfl (fun _ => rfl) mv_clean) (out_slice hs2 rfl (fun _ => rfl) wa_clean) (out_i rfl)
theorem px_out0 {xs : List Stock} {o : Order} {h : Heap} {z : Int} (hr : pickX xs o = (z, [], [])) : Out h (.tup [.nil, .nil, .int z]) (.tup [.lit false 6 ((pickX xs o).2.1.map Movement.enc), .lit false 2 ((pickX xs o).2.2.map Want.enc), .int (pickX xs o).1]) := px_out hr .nil .nil
theorem pure_3' {a b c : PV} (h1 : Pure a) (h2 : Pure b) (h3 : Pure c) : Pure (.tup [a, b, c]) := .tup _ fun p hp => by
  simp only [List.mem_cons, List.not_mem_nil, or_false] at hp
  rcases hp with rfl | rfl | rfl <;> assumption
theorem gM_sum {xs : List Stock} (h : stockE xs = 0) : ∀ p, 0 ≤ gM (sumS [] xs) p ∧ gM (sumS [] xs) p ≤ 1000000000 := fun p => by
  have hok := stockE_ok h
  have h1 : gM (sumS [] xs) p = cntS ⟨p, 0, 0⟩ xs := by
    have := getS_sum ⟨p, 0, 0⟩ xs []
    simpa [getS, aGet, gM] using this
  have h2 := cntS_0 (k := ⟨p, 0, 0⟩) fun x hx => (hok.2 x hx).2.2.1
  have h3 := cntS_le (k := ⟨p, 0, 0⟩) fun x hx => (hok.2 x hx).2.2
  omega

theorem fr37 : (inFrame Try.f37.ntmps (Try.f37.body.getD .skip) && Try.f37.results.toList.all (resScope Try.f37.ntmps)) = true := by kernel_rfl
theorem PickS (xs : List Stock) (o : Order) (hl : xs.length ≤ 220) (hs : ∀ x ∈ xs, x.part.size ≤ 30) (h1 : o.wants.length ≤ 70) (h2 : o.swaps.length ≤ 70) (hsw : ∀ x ∈ o.wants, x.part.size ≤ 30) (hss : ∀ x ∈ o.swaps, x.part.size ≤ 30 ∧ x.via.size ≤ 30) : PCalls Try.prog 37 [.lit true 4 (xs.map Stock.enc), .agg o.enc] (.tup [.lit false 6 ((pickX xs o).2.1.map Movement.enc), .lit false 2 ((pickX xs o).2.2.map Want.enc), .int (pickX xs o).1]) := by
  refine PCalls.of_code Try.func37 rfl rfl (by kernel_rfl) mixed fr37 (by show _ ≤ 103; simp) (pure_3' (.lit _ _ _ fun row hr => pure_map Movement.pure row hr) (.lit _ _ _ fun row hr => pure_map Want.pure row hr) (.sc _)) ?_
  refine pwp_seq_plain rfl fun K1 hK1 => ?_
  refine p_new rfl (e_box (n := 3) rfl rfl) ⟨rfl, by decide⟩ ?_
  refine p_step rfl (e_assign (v := .nil) rfl) trivial ?_
  refine p_step rfl (e_assign (v := .nil) rfl) trivial ?_
  refine p_step rfl (e_assign (v := .sc _) rfl) trivial ?_
  refine p_end (hK1 _ ?_); clear hK1 K1
  refine pwp_seq_seq ?_
  refine pwp_seq_plain rfl fun K2 hK2 => ?_
  refine p_step rfl (e_move (v := .lit _ _ _) rfl) trivial ?_
  refine p_call rfl (.cons inn_lit .nil) (CheckS _ (by omega) (by assumption)) ?_
  refine p_step rfl (e_assign (v := .sc _) rfl) trivial ?_
  refine p_end (hK2 _ ?_); clear hK2 K2
  refine pwp_seq_seq ?_
  refine pwp_seq_plain rfl fun K3 hK3 => ?_
  refine p_step rfl (e_move (v := .sc _) rfl) trivial ?_
  refine p_step rfl (e_ne rfl rfl) trivial ?_
  refine p_end (hK3 _ ?_); clear hK3 K3
  refine pwp_seq_cond rfl fun K4 hK4 => ⟨fun hb5 => ?_, fun hb5 => ?_⟩
  ·have hb5R := hb5; simp only [z1, z2, z3, z4, z5, z6, ne_eq, z7, z8, z9, z10, z11, z12] at hb5
   refine pwp_seq_plain rfl fun K6 hK6 => ?_
   refine p_step rfl (e_move (v := .sc _) rfl) trivial ?_
   refine p_step rfl (e_assign (v := .nil) rfl) trivial ?_
   refine p_step rfl (e_assign (v := .nil) rfl) trivial ?_
   refine p_step rfl (e_assign (v := .sc _) rfl) trivial ?_
   refine p_end (hK6 _ ?_); clear hK6 K6
   refine pwp_ret ?_
   refine ret_seq ?_
   refine end3 (v := .nil) (w := .nil) (x := .sc _) rfl rfl rfl ?_
   exact px_out0 (px_1 (by assumption))
  have hb5R := hb5; simp only [z1, z2, z3, z4, z5, z6, ne_eq, z7, z8, z9, z10, z11, z12] at hb5; have hst : stockE xs = 0 := hb5; have hok := stockE_ok hst
  refine pwp_skip ?_
  refine seq_norm (hK4 _ ?_); clear hK4 K4
  refine pwp_seq_seq ?_
  refine pwp_seq_plain rfl fun K7 hK7 => ?_
  refine p_step rfl (e_loadHA (cs := Order.enc (o)) (n := 3) rfl (hset_self _ _ _) (by kernel_rfl) (by kernel_rfl) (by kernel_rfl) (by exact Nat.zero_lt_one) (by decide) rfl) trivial ?_
  refine p_call rfl (.cons (inn_agg (Order.pure _)) .nil) (checkOrder _ (by omega) (by omega) (by assumption) (by assumption)) ?_
  refine p_step rfl (e_assign (v := .sc _) rfl) trivial ?_
  refine p_end (hK7 _ ?_); clear hK7 K7
  refine pwp_seq_seq ?_
  refine pwp_seq_plain rfl fun K8 hK8 => ?_
  refine p_step rfl (e_move (v := .sc _) rfl) trivial ?_
  refine p_step rfl (e_ne rfl rfl) trivial ?_
  refine p_end (hK8 _ ?_); clear hK8 K8
  refine pwp_seq_cond rfl fun K9 hK9 => ⟨fun hb10 => ?_, fun hb10 => ?_⟩
  ·have hb10R := hb10; simp only [z1, z2, z3, z4, z5, z6, ne_eq, z7, z8, z9, z10, z11, z12] at hb10
   refine pwp_seq_plain rfl fun K11 hK11 => ?_
   refine p_step rfl (e_move (v := .sc _) rfl) trivial ?_
   refine p_step rfl (e_assign (v := .nil) rfl) trivial ?_
   refine p_step rfl (e_assign (v := .nil) rfl) trivial ?_
   refine p_step rfl (e_assign (v := .sc _) rfl) trivial ?_
   refine p_end (hK11 _ ?_); clear hK11 K11
   refine pwp_ret ?_
   refine ret_seq ?_
   refine end3 (v := .nil) (w := .nil) (x := .sc _) rfl rfl rfl ?_
   exact px_out0 (px_2 (by assumption) (by assumption))
  have hb10R := hb10; simp only [z1, z2, z3, z4, z5, z6, ne_eq, z7, z8, z9, z10, z11, z12] at hb10; have ho0 : orderE o = 0 := hb10; have ho := orderE_ok ho0
  refine pwp_skip ?_
  refine seq_norm (hK9 _ ?_); clear hK9 K9
  refine pwp_seq_plain rfl fun K12 hK12 => ?_
  refine p_step rfl (e_move (v := .lit _ _ _) rfl) trivial ?_
  refine p_hcall rfl (storeOf xs _ _ hok.1 (fun x hx => (hok.2 x hx).2.2)) fun v13 h14 c15 hR16 => ?_
  obtain ⟨rfl, hm17, hf18⟩ := hR16
  have hb19 := (hf18 3 0 (by intro e; cases e) (by intro e; cases e)).trans (hset_self _ _ _)
  refine p_new rfl (e_alloc (cs := [.sc (.map none)]) (n := 1) (by kernel_rfl) rfl (by decide)) (ob_alloc (by decide)) ?_
  refine p_store rfl (e_store1 rfl (hset_self _ _ _) rfl rfl rfl (by decide) (by kernel_rfl) rfl (by kernel_rfl)) trivial ?_
  refine p_end (hK12 _ ?_); clear hK12 K12
  refine pwp_seq_plain rfl fun K20 hK20 => ?_
  refine p_new rfl (e_alloc (cs := [.nil]) (n := 1) (by kernel_rfl) rfl (by decide)) (ob_alloc (by decide)) ?_
  refine p_end (hK20 _ ?_); clear hK20 K20
  refine pwp_seq_plain rfl fun K21 hK21 => ?_
  refine p_step rfl (e_assign (v := .nil) rfl) trivial ?_
  refine p_end (hK21 _ ?_); clear hK21 K21
  refine pwp_seq_plain rfl fun K22 hK22 => ?_
  refine p_step rfl (e_mkf rfl) trivial ?_
  refine p_step rfl (e_assign (v := .func _ _ _) rfl) trivial ?_
  refine p_end (hK22 _ ?_); clear hK22 K22
  refine pwp_seq_seq ?_
  refine pwp_seq_plain rfl fun K23 hK23 => ?_
  refine p_step rfl (e_faP (pl := [(0, 1, false), (1, 1, false), (2, 1, false)]) rfl (by kernel_rfl) (by kernel_rfl) (by decide) rfl) trivial ?_
  refine p_step rfl (e_loadH (v := .lit _ _ _) rfl ((hset_ne (key_ne rfl)).trans ((hset_ne (key_ne rfl)).trans ((hset_ne (key_ne rfl)).trans hb19))) (by kernel_rfl) (by kernel_rfl) (by kernel_rfl) (by exact Nat.zero_lt_one) (by decide) rfl) trivial ?_
  refine p_step rfl (e_len rfl (by kernel_rfl)) trivial ?_
  refine p_step rfl (e_move (v := .sc _) rfl) trivial ?_
  refine p_end (hK23 _ ?_); clear hK23 K23
  refine pwp_seq_block fun K24 hK24 => ?_
  refine pwp_loopR (α := Nat × Sto × (List Movement) × (List Want) × PV × PV) [3, 9, 10, 12, 34, 35] (fun (a25 : Nat × Sto × (List Movement) × (List Want) × PV × PV) => [(11, (a25.2.2.2.2.2)), (36, .int (a25.1))]) (fun (a25 : Nat × Sto × (List Movement) × (List Want) × PV × PV) (h : Heap) (_ : Nat → Nat) => ((a25.1) ≤ o.wants.length) ∧ (pickR xs o = pkG gM tkM o.place o.swaps (a25.2.1) (a25.2.2.1) (a25.2.2.2.1) (o.wants.drop (a25.1))) ∧ (∀ p, 0 ≤ gM (a25.2.1) p ∧ gM (a25.2.1) p ≤ 1000000000) ∧ ((a25.2.2.1).length ≤ 61 * (a25.1)) ∧ ((a25.2.2.2.1).length ≤ (a25.1)) ∧ (SliceAt h 99 (a25.2.2.2.2.2) 2 ((a25.2.2.2.1).map Want.enc)) ∧ (SliceAt h 24 (a25.2.2.2.2.1) 6 ((a25.2.2.1).map Movement.enc)) ∧ (h (3, 0) = some (.rows 3 [Order.enc o])) ∧ (h (9, c15 9) = some (.rows 1 [[.map (6, 0)]])) ∧ (h (10, c15 10) = some (.rows 1 [[(a25.2.2.2.2.1)]])) ∧ (MapAt h (6, 0) (entsOf kx PV.int (a25.2.1)))) (fun (a25 : Nat × Sto × (List Movement) × (List Want) × PV × PV) => o.wants.length - (a25.1)) (0, (sumS [] xs), [], [], .nil, _) (by exact ⟨rfl, rfl, trivial⟩) (by exact ⟨by exact Nat.zero_le _, by exact rfl, by exact gM_sum hst, by exact Nat.zero_le _, by exact Nat.zero_le _, .nil, SliceAt.nil, ((hset_ne (key_ne rfl)).trans ((hset_ne (key_ne rfl)).trans ((hset_ne (key_ne rfl)).trans hb19))), ((hset_ne (key_ne rfl)).trans (hset_self _ _ _)), (hset_self _ _ _), (MapAt.keep hm17 ((hset_ne (key_ne rfl)).trans ((hset_ne (key_ne rfl)).trans ((hset_ne (key_ne rfl)).trans (rfl)))))⟩) fun a25 r26 h27 c28 hj29 => ?_
  obtain ⟨k, m, mv, la, v, vl⟩ := a25
  obtain ⟨hk, hinv, hbd, hml, hll, hihj29_0, hihj29_1, hihj29_2, hihj29_3, hihj29_4, hihj29_5⟩ := hj29
  try dsimp only at hk
  try dsimp only at hinv
  try dsimp only at hbd
  try dsimp only at hml
  try dsimp only at hll
  try dsimp only at hihj29_0
  try dsimp only at hihj29_1
  try dsimp only at hihj29_2
  try dsimp only at hihj29_3
  try dsimp only at hihj29_4
  try dsimp only at hihj29_5
  show pwp _ _ (loopQ _ _ _) ⟨sets (mix _ _ _) [(11, vl), (36, .int k)], _, _⟩
  refine pwp_seq_plain rfl fun K30 hK30 => ?_
  refine p_step rfl (e_lt rfl rfl) trivial ?_
  refine p_end (hK30 _ ?_); clear hK30 K30
  refine pwp_seq_cond rfl fun K31 hK31 => ⟨fun hb32 => ?_, fun hb32 => ?_⟩
  ·have hb32R := hb32; simp only [z1, z2, z3, z4, z5, z6, ne_eq, z7, z8, z9, z10, z11, z12] at hb32
   obtain ⟨w, hw, hdw, htw⟩ := get_lt (xs := o.wants) (i := k) (by omega)
   rw [hdw] at hinv
   have hwc := (wntE_ok ho.2.2.2.1 w (List.mem_of_getElem? hw)).2
   have hg1 : 0 ≤ ((aGet (⟨w.part, (0), (0)⟩ : Shelf) m).getD 0) ∧ ((aGet (⟨w.part, (0), (0)⟩ : Shelf) m).getD 0) ≤ 1000000000 := hbd w.part
   refine pwp_skip ?_
   refine seq_norm (hK31 _ ?_); clear hK31 K31
   refine pwp_seq_block fun K33 hK33 => ?_
   refine pwp_seq_plain rfl fun K34 hK34 => ?_
   refine p_step rfl (e_ixa rfl rfl (by kernel_rfl) (by kernel_rfl) (by simp only [List.length_map]; omega)) trivial ?_
   refine p_step rfl (e_loadA (n := 2) rfl (by kernel_rfl) (by kernel_rfl) (by kernel_rfl) (by simp only [List.length_map]; omega) (by decide) (by first | exact agg_map hw rfl)) trivial ?_
   refine p_new rfl (e_alloc (cs := [.str ByteArray.empty, .int 0]) (n := 2) (by kernel_rfl) rfl (by decide)) (ob_alloc (by decide)) ?_
   refine p_store rfl (e_storeA rfl (hset_self _ _ _) rfl rfl rfl (by kernel_rfl) rfl (by kernel_rfl)) trivial ?_
   refine p_end (hK34 _ ?_); clear hK34 K34
   refine pwp_seq_gops rfl fun K35 hK35 => ?_
   refine g_begin ?_
   refine g_step rfl rfl rfl rfl (e_faP (pl := [(0, 1, false), (1, 1, false)]) rfl (by kernel_rfl) (by kernel_rfl) (by decide) rfl) trivial ?_
   refine g_step rfl rfl rfl rfl (e_loadH (v := .sc _) rfl (hset_self _ _ _) (by kernel_rfl) (by kernel_rfl) (by kernel_rfl) (by exact Nat.zero_lt_one) (by decide) rfl) trivial ?_
   refine g_step rfl rfl rfl rfl (e_loadH (v := .map _) rfl ((hset_ne (key_ne rfl)).trans ((hset_ne (key_ne rfl)).trans hihj29_3)) (by kernel_rfl) (by kernel_rfl) (by kernel_rfl) (by exact Nat.zero_lt_one) (by decide) rfl) trivial ?_
   refine g_step rfl rfl rfl rfl (e_faP (pl := [(0, 1, false), (1, 1, false)]) rfl (by kernel_rfl) (by kernel_rfl) (by decide) rfl) trivial ?_
   refine g_step rfl rfl rfl rfl (e_loadH (v := .sc _) rfl (hset_self _ _ _) (by kernel_rfl) (by kernel_rfl) (by kernel_rfl) (by exact Nat.zero_lt_one) (by decide) rfl) trivial ?_
   refine g_step rfl rfl rfl rfl (e_build (cs := Shelf.enc (⟨w.part, (0), (0)⟩ : Shelf)) (zs := [.str ByteArray.empty, .int 0, .int 0]) (pl := [(0, 1, false), (1, 1, false), (2, 1, false)]) (by kernel_rfl) (by kernel_rfl) (by kernel_rfl) rfl rfl (by exact ⟨by decide, rfl, Nat.le_of_ble_eq_true rfl, rfl, ⟨by decide, rfl, Nat.le_of_ble_eq_true rfl, rfl, ⟨by decide, rfl, Nat.le_of_ble_eq_true rfl, rfl, trivial⟩⟩⟩) rfl) trivial ?_
   refine g_step rfl rfl rfl rfl (e_look (kt := 124) (et := 3) (f := kx) (g := PV.int) (a := (⟨w.part, (0), (0)⟩ : Shelf)) (l := m) (z := 0) kx_eq kx_ok rfl rfl (MapAt.keep hihj29_5 ((hset_ne (key_ne rfl)).trans ((hset_ne (key_ne rfl)).trans (rfl)))) (by kernel_rfl) (by kernel_rfl) (by first | rfl | kernel_rfl)) trivial ?_
   refine g_step rfl rfl rfl rfl (e_min rfl rfl) trivial ?_
   refine g_step rfl rfl rfl rfl (e_assign (v := .sc _) rfl) trivial ?_
   refine g_end (ds := []) (by kernel_rfl) rfl (hK35 _ ?_); clear hK35 K35
   refine pwp_seq_plain rfl fun K36 hK36 => ?_
   refine p_step rfl (e_move (v := .func _ _ _) rfl) trivial ?_
   refine p_step rfl (e_faP (pl := [(0, 1, false), (1, 1, false)]) rfl (by kernel_rfl) (by kernel_rfl) (by decide) rfl) trivial ?_
   refine p_step rfl (e_loadH (v := .sc _) rfl (hset_self _ _ _) (by kernel_rfl) (by kernel_rfl) (by kernel_rfl) (by exact Nat.zero_lt_one) (by decide) rfl) trivial ?_
   refine p_step rfl (e_move (v := .sc _) rfl) trivial ?_
   refine p_hcall rfl (takeC o m mv v w.part (min w.count ((aGet (⟨w.part, (0), (0)⟩ : Shelf) m).getD 0)) 0 _ _ _ _ _ (MapAt.keep hihj29_5 ((hset_ne (key_ne rfl)).trans ((hset_ne (key_ne rfl)).trans (rfl)))) ((hset_ne (key_ne rfl)).trans ((hset_ne (key_ne rfl)).trans hihj29_3)) ((hset_ne (key_ne rfl)).trans ((hset_ne (key_ne rfl)).trans hihj29_4)) (hihj29_1.keep fun _ => (hset_ne (key_ne rfl)).trans ((hset_ne (key_ne rfl)).trans (rfl))) ((hset_ne (key_ne rfl)).trans ((hset_ne (key_ne rfl)).trans hihj29_2)) (hbd _) ⟨by omega, by omega⟩ (by omega)) fun w37 h38 c39 hR40 => ?_
   obtain ⟨rfl, ⟨u41, ht42, hs43⟩, hm44, hf45⟩ := hR40
   have hbd46 := gM_bd hbd (p := w.part) (n := (min w.count ((aGet (⟨w.part, (0), (0)⟩ : Shelf) m).getD 0))) (by omega) (by show _ ≤ ((aGet (⟨w.part, 0, 0⟩ : Shelf) m).getD 0); omega)
   have hlnhbd46 := tkV_len (pl := o.place) (mv := mv) (p := w.part) (n := (min w.count ((aGet (⟨w.part, (0), (0)⟩ : Shelf) m).getD 0)))
   have ho47 := (hf45 3 _ rfl rfl rfl rfl).trans ((hset_ne (key_ne rfl)).trans ((hset_ne (key_ne rfl)).trans hihj29_2))
   have ho48 := (hf45 9 _ rfl rfl rfl rfl).trans ((hset_ne (key_ne rfl)).trans ((hset_ne (key_ne rfl)).trans hihj29_3))
   have ho49 := (hf45 14 _ rfl rfl rfl rfl).trans (hset_self _ _ _)
   have hs50 := ((hihj29_0.keep fun _ => (hset_ne (key_ne rfl)).trans ((hset_ne (key_ne rfl)).trans (rfl)))).keep fun g => hf45 99 g rfl rfl rfl rfl
   refine p_end (hK36 _ ?_); clear hK36 K36
   refine pwp_seq_plain rfl fun K51 hK51 => ?_
   refine p_step rfl (e_faP (pl := [(0, 1, false), (1, 1, false)]) rfl (by kernel_rfl) (by kernel_rfl) (by decide) rfl) trivial ?_
   refine p_step rfl (e_loadH (v := .sc _) rfl ho49 (by kernel_rfl) (by kernel_rfl) (by kernel_rfl) (by exact Nat.zero_lt_one) (by decide) rfl) trivial ?_
   refine p_step rfl (e_move (v := .sc _) rfl) trivial ?_
   refine p_step rfl (e_sub rfl rfl (by omega)) trivial ?_
   refine p_step rfl (e_assign (v := .sc _) rfl) trivial ?_
   refine p_end (hK51 _ ?_); clear hK51 K51
   refine pwp_seq_seq ?_
   refine pwp_seq_plain rfl fun K52 hK52 => ?_
   refine p_step rfl (e_faP (pl := [(0, 1, false), (1, 1, false), (2, 1, false)]) rfl (by kernel_rfl) (by kernel_rfl) (by decide) rfl) trivial ?_
   refine p_step rfl (e_loadH (v := .lit _ _ _) rfl ho47 (by kernel_rfl) (by kernel_rfl) (by kernel_rfl) (by exact Nat.zero_lt_one) (by decide) rfl) trivial ?_
   refine p_step rfl (e_len rfl (by kernel_rfl)) trivial ?_
   refine p_step rfl (e_move (v := .sc _) rfl) trivial ?_
   refine p_end (hK52 _ ?_); clear hK52 K52
   refine pwp_seq_block fun K53 hK53 => ?_
   refine pwp_loopR (α := Nat × Int × Sto × (List Movement) × PV) [3, 9, 10, 11, 12, 14, 34, 35, 36, 58, 59] (fun (a54 : Nat × Int × Sto × (List Movement) × PV) => [(16, .int (a54.2.1)), (60, .int (a54.1))]) (fun (a54 : Nat × Int × Sto × (List Movement) × PV) (h : Heap) (_ : Nat → Nat) => ((a54.1) ≤ o.swaps.length) ∧ (swG gM tkM o.place w.part (w.count - min w.count (gM m w.part)) (tkM m w.part (min w.count (gM m w.part))) (tkV o.place mv w.part (min w.count (gM m w.part))) o.swaps = swG gM tkM o.place w.part (a54.2.1) (a54.2.2.1) (a54.2.2.2.1) (o.swaps.drop (a54.1))) ∧ (∀ p, 0 ≤ gM (a54.2.2.1) p ∧ gM (a54.2.2.1) p ≤ 1000000000) ∧ (0 ≤ (a54.2.1) ∧ (a54.2.1) ≤ 1000000) ∧ ((a54.2.2.2.1).length ≤ 61 * k + 1 + (a54.1)) ∧ (SliceAt h 99 vl 2 (la.map Want.enc)) ∧ (SliceAt h 24 (a54.2.2.2.2) 6 ((a54.2.2.2.1).map Movement.enc)) ∧ (h (3, 0) = some (.rows 3 [Order.enc o])) ∧ (h (9, c15 9) = some (.rows 1 [[.map (6, 0)]])) ∧ (h (10, c15 10) = some (.rows 1 [[(a54.2.2.2.2)]])) ∧ (h (14, c28 14) = some (.rows 2 [Want.enc w])) ∧ (MapAt h (6, 0) (entsOf kx PV.int (a54.2.2.1)))) (fun (a54 : Nat × Int × Sto × (List Movement) × PV) => o.swaps.length - (a54.1)) (0, _, (tkM m w.part (min w.count ((aGet (⟨w.part, (0), (0)⟩ : Shelf) m).getD 0))), (tkV o.place mv w.part (min w.count ((aGet (⟨w.part, (0), (0)⟩ : Shelf) m).getD 0))), u41) (by exact ⟨rfl, rfl, trivial⟩) (by exact ⟨by exact Nat.zero_le _, by exact rfl, by exact hbd46, by (dsimp only; constructor <;> omega), by (dsimp only; omega), hs50, hs43, ho47, ho48, ht42, ho49, hm44⟩) fun a54 r55 h56 c57 hj58 => ?_
   obtain ⟨j, nd, m2, mv2, v2⟩ := a54
   obtain ⟨hj, hinv2, hbd2, hnd, hml2, hihj58_0, hihj58_1, hihj58_2, hihj58_3, hihj58_4, hihj58_5, hihj58_6⟩ := hj58
   try dsimp only at hj
   try dsimp only at hinv2
   try dsimp only at hbd2
   try dsimp only at hnd
   try dsimp only at hml2
   try dsimp only at hihj58_0
   try dsimp only at hihj58_1
   try dsimp only at hihj58_2
   try dsimp only at hihj58_3
   try dsimp only at hihj58_4
   try dsimp only at hihj58_5
   try dsimp only at hihj58_6
   show pwp _ _ (loopQ _ _ _) ⟨sets (mix _ _ _) [(16, .int nd), (60, .int j)], _, _⟩
   refine pwp_seq_plain rfl fun K59 hK59 => ?_
   refine p_step rfl (e_lt rfl rfl) trivial ?_
   refine p_end (hK59 _ ?_); clear hK59 K59
   refine pwp_seq_cond rfl fun K60 hK60 => ⟨fun hb61 => ?_, fun hb61 => ?_⟩
   ·have hb61R := hb61; simp only [z1, z2, z3, z4, z5, z6, ne_eq, z7, z8, z9, z10, z11, z12] at hb61
    obtain ⟨x, hx, hdx, htx⟩ := get_lt (xs := o.swaps) (i := j) (by omega)
    rw [hdx] at hinv2
    have hxc := swapsE_ok ho.2.2.2.2 x (List.mem_of_getElem? hx)
    have hg2 : 0 ≤ ((aGet (⟨x.via, (0), (0)⟩ : Shelf) m2).getD 0) ∧ ((aGet (⟨x.via, (0), (0)⟩ : Shelf) m2).getD 0) ≤ 1000000000 := hbd2 x.via
    have hmm := min_mul (nd := nd) (g := ((aGet (⟨x.via, (0), (0)⟩ : Shelf) m2).getD 0)) (c := x.count) (by omega) (by omega) (by omega)
    refine pwp_skip ?_
    refine seq_norm (hK60 _ ?_); clear hK60 K60
    refine pwp_seq_block fun K62 hK62 => ?_
    refine pwp_seq_plain rfl fun K63 hK63 => ?_
    refine p_step rfl (e_ixa rfl rfl (by kernel_rfl) (by kernel_rfl) (by simp only [List.length_map]; omega)) trivial ?_
    refine p_step rfl (e_loadA (n := 3) rfl (by kernel_rfl) (by kernel_rfl) (by kernel_rfl) (by simp only [List.length_map]; omega) (by decide) (by first | exact agg_map hx rfl)) trivial ?_
    refine p_new rfl (e_alloc (cs := [.str ByteArray.empty, .str ByteArray.empty, .int 0]) (n := 3) (by kernel_rfl) rfl (by decide)) (ob_alloc (by decide)) ?_
    refine p_store rfl (e_storeA rfl (hset_self _ _ _) rfl rfl rfl (by kernel_rfl) rfl (by kernel_rfl)) trivial ?_
    refine p_end (hK63 _ ?_); clear hK63 K63
    refine pwp_seq_plain rfl fun K64 hK64 => ?_
    refine p_step rfl (e_faP (pl := [(0, 1, false), (1, 1, false), (2, 1, false)]) rfl (by kernel_rfl) (by kernel_rfl) (by decide) rfl) trivial ?_
    refine p_step rfl (e_loadH (v := .sc _) rfl (hset_self _ _ _) (by kernel_rfl) (by kernel_rfl) (by kernel_rfl) (by exact Nat.zero_lt_one) (by decide) rfl) trivial ?_
    refine p_step rfl (e_faP (pl := [(0, 1, false), (1, 1, false)]) rfl (by kernel_rfl) (by kernel_rfl) (by decide) rfl) trivial ?_
    refine p_step rfl (e_loadH (v := .sc _) rfl ((hset_ne (key_ne rfl)).trans ((hset_ne (key_ne rfl)).trans hihj58_5)) (by kernel_rfl) (by kernel_rfl) (by kernel_rfl) (by exact Nat.zero_lt_one) (by decide) rfl) trivial ?_
    refine p_step rfl (e_seq rfl rfl) trivial ?_
    refine p_end (hK64 _ ?_); clear hK64 K64
    refine pwp_cond rfl (fun hb65 => ?_) (fun hb65 => ?_)
    ·have hb65R := hb65; simp only [z1, z2, z3, z4, z5, z6, ne_eq, z7, z8, z9, z10, z11, z12] at hb65
     refine pwp_seq_gops rfl fun K66 hK66 => ?_
     refine g_begin ?_
     refine g_step rfl rfl rfl rfl (e_move (v := .sc _) rfl) trivial ?_
     refine g_step rfl rfl rfl rfl (e_loadH (v := .map _) rfl ((hset_ne (key_ne rfl)).trans ((hset_ne (key_ne rfl)).trans hihj58_3)) (by kernel_rfl) (by kernel_rfl) (by kernel_rfl) (by exact Nat.zero_lt_one) (by decide) rfl) trivial ?_
     refine g_step rfl rfl rfl rfl (e_faP (pl := [(0, 1, false), (1, 1, false), (2, 1, false)]) rfl (by kernel_rfl) (by kernel_rfl) (by decide) rfl) trivial ?_
     refine g_step rfl rfl rfl rfl (e_loadH (v := .sc _) rfl (hset_self _ _ _) (by kernel_rfl) (by kernel_rfl) (by kernel_rfl) (by exact Nat.zero_lt_one) (by decide) rfl) trivial ?_
     refine g_step rfl rfl rfl rfl (e_build (cs := Shelf.enc (⟨x.via, (0), (0)⟩ : Shelf)) (zs := [.str ByteArray.empty, .int 0, .int 0]) (pl := [(0, 1, false), (1, 1, false), (2, 1, false)]) (by kernel_rfl) (by kernel_rfl) (by kernel_rfl) rfl rfl (by exact ⟨by decide, rfl, Nat.le_of_ble_eq_true rfl, rfl, ⟨by decide, rfl, Nat.le_of_ble_eq_true rfl, rfl, ⟨by decide, rfl, Nat.le_of_ble_eq_true rfl, rfl, trivial⟩⟩⟩) rfl) trivial ?_
     refine g_step rfl rfl rfl rfl (e_look (kt := 124) (et := 3) (f := kx) (g := PV.int) (a := (⟨x.via, (0), (0)⟩ : Shelf)) (l := m2) (z := 0) kx_eq kx_ok rfl rfl (MapAt.keep hihj58_6 ((hset_ne (key_ne rfl)).trans ((hset_ne (key_ne rfl)).trans (rfl)))) (by kernel_rfl) (by kernel_rfl) (by first | rfl | kernel_rfl)) trivial ?_
     refine g_step rfl rfl rfl rfl (e_faP (pl := [(0, 1, false), (1, 1, false), (2, 1, false)]) rfl (by kernel_rfl) (by kernel_rfl) (by decide) rfl) trivial ?_
     refine g_step rfl rfl rfl rfl (e_loadH (v := .sc _) rfl (hset_self _ _ _) (by kernel_rfl) (by kernel_rfl) (by kernel_rfl) (by exact Nat.zero_lt_one) (by decide) rfl) trivial ?_
     refine g_step rfl rfl rfl rfl (e_quo rfl rfl (by omega) (by omega) (by omega)) trivial ?_
     refine g_step rfl rfl rfl rfl (e_min rfl rfl) trivial ?_
     refine g_step rfl rfl rfl rfl (e_assign (v := .sc _) rfl) trivial ?_
     refine g_end (ds := []) (by kernel_rfl) rfl (hK66 _ ?_); clear hK66 K66
     refine pwp_seq_plain rfl fun K67 hK67 => ?_
     refine p_step rfl (e_move (v := .func _ _ _) rfl) trivial ?_
     refine p_step rfl (e_faP (pl := [(0, 1, false), (1, 1, false), (2, 1, false)]) rfl (by kernel_rfl) (by kernel_rfl) (by decide) rfl) trivial ?_
     refine p_step rfl (e_loadH (v := .sc _) rfl (hset_self _ _ _) (by kernel_rfl) (by kernel_rfl) (by kernel_rfl) (by exact Nat.zero_lt_one) (by decide) rfl) trivial ?_
     refine p_step rfl (e_move (v := .sc _) rfl) trivial ?_
     refine p_step rfl (e_faP (pl := [(0, 1, false), (1, 1, false), (2, 1, false)]) rfl (by kernel_rfl) (by kernel_rfl) (by decide) rfl) trivial ?_
     refine p_step rfl (e_loadH (v := .sc _) rfl (hset_self _ _ _) (by kernel_rfl) (by kernel_rfl) (by kernel_rfl) (by exact Nat.zero_lt_one) (by decide) rfl) trivial ?_
     refine p_step rfl (e_mul rfl rfl (by omega)) trivial ?_
     refine p_hcall rfl (takeC o m2 mv2 v2 x.via ((min nd (((aGet (⟨x.via, (0), (0)⟩ : Shelf) m2).getD 0) / x.count)) * x.count) 0 _ _ _ _ _ (MapAt.keep hihj58_6 ((hset_ne (key_ne rfl)).trans ((hset_ne (key_ne rfl)).trans (rfl)))) ((hset_ne (key_ne rfl)).trans ((hset_ne (key_ne rfl)).trans hihj58_3)) ((hset_ne (key_ne rfl)).trans ((hset_ne (key_ne rfl)).trans hihj58_4)) (hihj58_1.keep fun _ => (hset_ne (key_ne rfl)).trans ((hset_ne (key_ne rfl)).trans (rfl))) ((hset_ne (key_ne rfl)).trans ((hset_ne (key_ne rfl)).trans hihj58_2)) (hbd2 _) ⟨by omega, by omega⟩ (by omega)) fun w68 h69 c70 hR71 => ?_
     obtain ⟨rfl, ⟨u72, ht73, hs74⟩, hm75, hf76⟩ := hR71
     have hbd77 := gM_bd hbd2 (p := x.via) (n := ((min nd (((aGet (⟨x.via, (0), (0)⟩ : Shelf) m2).getD 0) / x.count)) * x.count)) (by omega) (by show _ ≤ ((aGet (⟨x.via, 0, 0⟩ : Shelf) m2).getD 0); omega)
     have hlnhbd77 := tkV_len (pl := o.place) (mv := mv2) (p := x.via) (n := ((min nd (((aGet (⟨x.via, (0), (0)⟩ : Shelf) m2).getD 0) / x.count)) * x.count))
     have ho78 := (hf76 3 _ rfl rfl rfl rfl).trans ((hset_ne (key_ne rfl)).trans ((hset_ne (key_ne rfl)).trans hihj58_2))
     have ho79 := (hf76 9 _ rfl rfl rfl rfl).trans ((hset_ne (key_ne rfl)).trans ((hset_ne (key_ne rfl)).trans hihj58_3))
     have ho80 := (hf76 14 _ rfl rfl rfl rfl).trans ((hset_ne (key_ne rfl)).trans ((hset_ne (key_ne rfl)).trans hihj58_5))
     have ho81 := (hf76 18 _ rfl rfl rfl rfl).trans (hset_self _ _ _)
     have hs82 := ((hihj58_0.keep fun _ => (hset_ne (key_ne rfl)).trans ((hset_ne (key_ne rfl)).trans (rfl)))).keep fun g => hf76 99 g rfl rfl rfl rfl
     refine p_end (hK67 _ ?_); clear hK67 K67
     refine pwp_plain rfl fun K83 hK83 => ?_
     refine p_step rfl (e_move (v := .sc _) rfl) trivial ?_
     refine p_step rfl (e_move (v := .sc _) rfl) trivial ?_
     refine p_step rfl (e_sub rfl rfl (by omega)) trivial ?_
     refine p_step rfl (e_assign (v := .sc _) rfl) trivial ?_
     refine p_end (hK83 _ ?_); clear hK83 K83
     refine block_norm ?_
     refine seq_norm (hK62 _ ?_); clear hK62 K62
     refine pwp_plain rfl fun K84 hK84 => ?_
     refine p_step rfl (e_add rfl rfl (by omega)) trivial ?_
     refine p_step rfl (e_move (v := .sc _) rfl) trivial ?_
     refine p_end (hK84 _ ?_); clear hK84 K84
     exact loop_again ((j + 1, (nd - (min nd (((aGet (⟨x.via, (0), (0)⟩ : Shelf) m2).getD 0) / x.count))), (tkM m2 x.via ((min nd (((aGet (⟨x.via, (0), (0)⟩ : Shelf) m2).getD 0) / x.count)) * x.count)), (tkV o.place mv2 x.via ((min nd (((aGet (⟨x.via, (0), (0)⟩ : Shelf) m2).getD 0) / x.count)) * x.count)), u72)) (by show _ < _; simp only; omega) ⟨rfl, rfl, rfl, rfl, rfl, rfl, rfl, rfl, rfl, rfl, rfl, trivial⟩ ⟨rfl, rfl, trivial⟩ (by exact ⟨by show _ + 1 ≤ _; omega, by first | exact sg_t hinv2 (by assumption) | exact sg_f hinv2 (by assumption), by first | exact gM_bd hbd2 hmm.2.1 hmm.2.2 | exact hbd2, by (dsimp only; constructor <;> omega), by first | exact Nat.le_trans tkV_len (by omega) | (show mv2.length ≤ 61 * k + 1 + (j + 1); omega), hs82, hs74, ho78, ho79, ht73, ho80, hm75⟩)
    have hb65R := hb65; simp only [z1, z2, z3, z4, z5, z6, ne_eq, z7, z8, z9, z10, z11, z12] at hb65
    refine pwp_skip ?_
    refine block_norm ?_
    refine seq_norm (hK62 _ ?_); clear hK62 K62
    refine pwp_plain rfl fun K85 hK85 => ?_
    refine p_step rfl (e_add rfl rfl (by omega)) trivial ?_
    refine p_step rfl (e_move (v := .sc _) rfl) trivial ?_
    refine p_end (hK85 _ ?_); clear hK85 K85
    exact loop_again ((j + 1, nd, m2, mv2, v2)) (by show _ < _; simp only; omega) ⟨rfl, rfl, rfl, rfl, rfl, rfl, rfl, rfl, rfl, rfl, rfl, trivial⟩ ⟨rfl, rfl, trivial⟩ (by exact ⟨by show _ + 1 ≤ _; omega, by first | exact sg_t hinv2 (by assumption) | exact sg_f hinv2 (by assumption), by first | exact gM_bd hbd2 hmm.2.1 hmm.2.2 | exact hbd2, by (dsimp only; constructor <;> omega), by first | exact Nat.le_trans tkV_len (by omega) | (show mv2.length ≤ 61 * k + 1 + (j + 1); omega), (hihj58_0.keep fun _ => (hset_ne (key_ne rfl)).trans ((hset_ne (key_ne rfl)).trans (rfl))), (hihj58_1.keep fun _ => (hset_ne (key_ne rfl)).trans ((hset_ne (key_ne rfl)).trans (rfl))), ((hset_ne (key_ne rfl)).trans ((hset_ne (key_ne rfl)).trans hihj58_2)), ((hset_ne (key_ne rfl)).trans ((hset_ne (key_ne rfl)).trans hihj58_3)), ((hset_ne (key_ne rfl)).trans ((hset_ne (key_ne rfl)).trans hihj58_4)), ((hset_ne (key_ne rfl)).trans ((hset_ne (key_ne rfl)).trans hihj58_5)), (MapAt.keep hihj58_6 ((hset_ne (key_ne rfl)).trans ((hset_ne (key_ne rfl)).trans (rfl))))⟩)
   have hb61R := hb61; simp only [z1, z2, z3, z4, z5, z6, ne_eq, z7, z8, z9, z10, z11, z12] at hb61
   obtain rfl : j = o.swaps.length := by omega
   rw [List.drop_length] at hinv2; simp only [swG] at hinv2
   refine pwp_exit ?_
   refine exit_seq ?_
   clear hK60 K60
   refine exit_loop ?_
   refine exit_here ?_
   refine seq_norm (hK53 _ ?_); clear hK53 K53
   refine pwp_seq_plain rfl fun K86 hK86 => ?_
   refine p_step rfl (e_move (v := .sc _) rfl) trivial ?_
   refine p_step rfl (e_gt rfl rfl) trivial ?_
   refine p_end (hK86 _ ?_); clear hK86 K86
   refine pwp_cond rfl (fun hb87 => ?_) (fun hb87 => ?_)
   ·have hb87R := hb87; simp only [z1, z2, z3, z4, z5, z6, ne_eq, z7, z8, z9, z10, z11, z12] at hb87
    refine pwp_plain rfl fun K88 hK88 => ?_
    refine p_step rfl (e_move (v := _) rfl) trivial ?_
    refine p_step rfl (e_faP (pl := [(0, 1, false), (1, 1, false)]) rfl (by kernel_rfl) (by kernel_rfl) (by decide) rfl) trivial ?_
    refine p_step rfl (e_loadH (v := .sc _) rfl hihj58_5 (by kernel_rfl) (by kernel_rfl) (by kernel_rfl) (by exact Nat.zero_lt_one) (by decide) rfl) trivial ?_
    refine p_step rfl (e_move (v := .sc _) rfl) trivial ?_
    refine p_step rfl (e_build (cs := Want.enc (⟨w.part, nd⟩ : Want)) (zs := [.str ByteArray.empty, .int 0]) (pl := [(0, 1, false), (1, 1, false)]) (by kernel_rfl) (by kernel_rfl) (by kernel_rfl) rfl rfl (by exact ⟨by decide, rfl, Nat.le_of_ble_eq_true rfl, rfl, ⟨by decide, rfl, Nat.le_of_ble_eq_true rfl, rfl, trivial⟩⟩) rfl) trivial ?_
    refine p_new rfl (e_bslice (rows := [Want.enc ⟨w.part, nd⟩]) (zs := [.str ByteArray.empty, .int 0]) (sz := 2) (by kernel_rfl) (by kernel_rfl) rfl (by kernel_rfl) (by decide) rfl rfl (by exact ⟨by decide, rfl, rfl, trivial⟩) rfl) trivial ?_
    refine p_app rfl rfl rfl (hihj58_0.keep fun _ => (hset_ne (key_ne rfl)).trans (rfl)) (src_ref (hset_self _ _ _) rfl) (by kernel_rfl) (by simp only [List.length_append, List.length_map, List.length_nil, List.length_cons]; omega) fun v89 h90 c91 hs92 hf93 => ?_
    have ho94 := (hf93 (3, _) (key_ne rfl) (fun _ _ => key_ne rfl)).trans ((hset_ne (key_ne rfl)).trans hihj58_2)
    have ho95 := (hf93 (9, _) (key_ne rfl) (fun _ _ => key_ne rfl)).trans ((hset_ne (key_ne rfl)).trans hihj58_3)
    have ho96 := (hf93 (10, _) (key_ne rfl) (fun _ _ => key_ne rfl)).trans ((hset_ne (key_ne rfl)).trans hihj58_4)
    have ho97 := (hf93 (14, _) (key_ne rfl) (fun _ _ => key_ne rfl)).trans ((hset_ne (key_ne rfl)).trans hihj58_5)
    have ho98 := (hf93 (98, _) (key_ne rfl) (fun _ _ => key_ne rfl)).trans (hset_self _ _ _)
    have ho99 := MapAt.keep (MapAt.keep hihj58_6 ((hset_ne (key_ne rfl)).trans (rfl))) (hf93 (6, _) (key_ne rfl) (fun _ _ => key_ne rfl))
    have hs100 := ((hihj58_1.keep fun _ => (hset_ne (key_ne rfl)).trans (rfl))).keep fun g => (hf93 (24, g) (key_ne rfl) (fun _ _ => key_ne rfl))
    refine p_step rfl (e_assign (v := _) rfl) trivial ?_
    refine p_end (hK88 _ ?_); clear hK88 K88
    refine block_norm ?_
    refine seq_norm (hK33 _ ?_); clear hK33 K33
    refine pwp_plain rfl fun K101 hK101 => ?_
    refine p_step rfl (e_add rfl rfl (by omega)) trivial ?_
    refine p_step rfl (e_move (v := .sc _) rfl) trivial ?_
    refine p_end (hK101 _ ?_); clear hK101 K101
    exact loop_again ((k + 1, m2, mv2, (la ++ [(⟨w.part, nd⟩ : Want)]), v2, v89)) (by show _ < _; simp only; omega) ⟨rfl, rfl, rfl, rfl, rfl, rfl, trivial⟩ ⟨rfl, rfl, trivial⟩ (by exact ⟨by show _ + 1 ≤ _; omega, by (have h9 := pg_s hinv hinv2; first | (rw [if_pos (by omega)] at h9; exact h9) | (rw [if_neg (by omega)] at h9; exact h9)), by exact hbd2, by (show mv2.length ≤ 61 * (k + 1); omega), by first | (show (la ++ [_]).length ≤ k + 1; simp only [List.length_append, List.length_cons, List.length_nil]; omega) | (show la.length ≤ k + 1; omega), (SliceAt.to hs92 (by (first | rfl | (simp only [List.map_append, List.map_cons, List.map_nil] <;> rfl)))), hs100, ho94, ho95, ho96, ho99⟩)
   have hb87R := hb87; simp only [z1, z2, z3, z4, z5, z6, ne_eq, z7, z8, z9, z10, z11, z12] at hb87
   refine pwp_skip ?_
   refine block_norm ?_
   refine seq_norm (hK33 _ ?_); clear hK33 K33
   refine pwp_plain rfl fun K102 hK102 => ?_
   refine p_step rfl (e_add rfl rfl (by omega)) trivial ?_
   refine p_step rfl (e_move (v := .sc _) rfl) trivial ?_
   refine p_end (hK102 _ ?_); clear hK102 K102
   exact loop_again ((k + 1, m2, mv2, la, v2, vl)) (by show _ < _; simp only; omega) ⟨rfl, rfl, rfl, rfl, rfl, rfl, trivial⟩ ⟨rfl, rfl, trivial⟩ (by exact ⟨by show _ + 1 ≤ _; omega, by (have h9 := pg_s hinv hinv2; first | (rw [if_pos (by omega)] at h9; exact h9) | (rw [if_neg (by omega)] at h9; exact h9)), by exact hbd2, by (show mv2.length ≤ 61 * (k + 1); omega), by first | (show (la ++ [_]).length ≤ k + 1; simp only [List.length_append, List.length_cons, List.length_nil]; omega) | (show la.length ≤ k + 1; omega), (SliceAt.to hihj58_0 (by (first | rfl | (simp only [List.map_append, List.map_cons, List.map_nil] <;> rfl)))), hihj58_1, hihj58_2, hihj58_3, hihj58_4, hihj58_6⟩)
  have hb32R := hb32; simp only [z1, z2, z3, z4, z5, z6, ne_eq, z7, z8, z9, z10, z11, z12] at hb32
  obtain rfl : k = o.wants.length := by omega
  rw [List.drop_length] at hinv; simp only [pkG] at hinv
  refine pwp_exit ?_
  refine exit_seq ?_
  clear hK31 K31
  refine exit_loop ?_
  refine exit_here ?_
  refine seq_norm (hK24 _ ?_); clear hK24 K24
  refine pwp_seq_plain rfl fun K103 hK103 => ?_
  refine p_step rfl (e_loadH (v := _) rfl hihj29_4 (by kernel_rfl) (by kernel_rfl) (by kernel_rfl) (by exact Nat.zero_lt_one) (by decide) rfl) trivial ?_
  refine p_step rfl (e_move (v := _) rfl) trivial ?_
  refine p_step rfl (e_assign (v := _) rfl) trivial ?_
  refine p_step rfl (e_assign (v := _) rfl) trivial ?_
  refine p_step rfl (e_assign (v := .sc _) rfl) trivial ?_
  refine p_end (hK103 _ ?_); clear hK103 K103
  refine pwp_ret ?_
  refine end3 (v := _) (w := _) (x := .sc _) rfl rfl rfl ?_
  exact px_out (px_3 hst ho0 hinv) hihj29_1 hihj29_0

end Go.Proofs.Ytigdmkhdmbbfiaa
