import Derived.Test.YtigdmkhdmbbfiaaDoorStoA
import Derived.Test.YtigdmkhdmbbfiaaDoorStoB
import Derived.Test.YtigdmkhdmbbfiaaDoorDmvA
/- Orders: what is checked. No conditions. -/
set_option linter.unusedSimpArgs false
set_option linter.unusedVariables false
set_option maxRecDepth 100000
set_option maxHeartbeats 8000000
namespace Go.Proofs.YtigdmkhdmbbfiaaDoor
open Go Go.Pv

/-! ### Orders -/
structure Order where
  place : Int
  wants : List Want
  swaps : List Swap
  deriving Inhabited
def Order.enc (x : Order) : List PV := [.int x.place, .lit true 2 (x.wants.map Want.enc), .lit true 3 (x.swaps.map Swap.enc)]
theorem Order.pure (x : Order) : ∀ p ∈ x.enc, Pure p := fun p hp => by
  simp only [Order.enc, List.mem_cons, List.not_mem_nil, or_false] at hp
  rcases hp with rfl | rfl | rfl
  · exact .sc _
  · exact .lit _ _ _ fun row hr => pure_map Want.pure row hr
  · exact .lit _ _ _ fun row hr => pure_map Swap.pure row hr
theorem Order.of {row : List PV} (h : CellsP Tryd.prog [3, 54, 53] row) : ∃ x : Order, row = x.enc ∧ x.wants.length ≤ maxLen ∧ x.swaps.length ≤ maxLen := by
  obtain ⟨q0, l0, rfl, h0, h⟩ := h.cons_inv
  obtain ⟨q1, l1, rfl, h1, h⟩ := h.cons_inv
  obtain ⟨q2, l2, rfl, h2, h⟩ := h.cons_inv
  obtain rfl := h.nil_inv
  obtain ⟨z0, rfl, _⟩ := h0.int_inv (k := .i64) Tryd.underlying3
  obtain ⟨rows, rfl, k1, k2⟩ := h1.slice_at (tys := [9, 3]) (n := 2) Tryd.underlying54 (by kernel_rfl) (by kernel_rfl)
  obtain ⟨ws, rfl, _⟩ := rows_of fun row hr => Want.of (k2 row hr)
  obtain ⟨rows, rfl, k3, k4⟩ := h2.slice_at (tys := [9, 9, 3]) (n := 3) Tryd.underlying53 (by kernel_rfl) (by kernel_rfl)
  obtain ⟨ss, rfl, _⟩ := rows_of fun row hr => Swap.of (k4 row hr)
  exact ⟨⟨z0, ws, ss⟩, rfl, by simpa using k1, by simpa using k3⟩
/-- Few wants and swaps with short texts. -/
def slightB (o : Order) : Bool := decide (o.wants.length ≤ 70 ∧ o.swaps.length ≤ 70 ∧ (∀ w ∈ o.wants, w.part.size ≤ 30) ∧ ∀ s ∈ o.swaps, s.part.size ≤ 30 ∧ s.via.size ≤ 30)
theorem sl_1 {o : Order} (h : ¬ (o.wants.length ≤ 70 ∧ o.swaps.length ≤ 70)) : false = slightB o := by
  symm; simp only [slightB, decide_eq_false_iff_not]; rintro ⟨h1, h2, _⟩; exact h ⟨h1, h2⟩
theorem sl_2 {o : Order} {k : Nat} {x : Want} (hx : o.wants[k]? = some x) (h : 30 < x.part.size) : false = slightB o := by
  symm; simp only [slightB, decide_eq_false_iff_not]; rintro ⟨_, _, h3, _⟩; have := h3 x (List.mem_of_getElem? hx); omega
theorem sl_3 {o : Order} {k : Nat} {x : Swap} (hx : o.swaps[k]? = some x) (h : ¬ (x.part.size ≤ 30 ∧ x.via.size ≤ 30)) : false = slightB o := by
  symm; simp only [slightB, decide_eq_false_iff_not]; rintro ⟨_, _, _, h3⟩; exact h (h3 x (List.mem_of_getElem? hx))
theorem sl_4 {o : Order} (h1 : o.wants.length ≤ 70 ∧ o.swaps.length ≤ 70) (h2 : ∀ w ∈ o.wants, w.part.size ≤ 30) (h3 : ∀ s ∈ o.swaps, s.part.size ≤ 30 ∧ s.via.size ≤ 30) : true = slightB o := by
  symm; simp only [slightB, decide_eq_true_eq]; exact ⟨h1.1, h1.2, h2, h3⟩
theorem slightB_iff {o : Order} (h : slightB o = true) : o.wants.length ≤ 70 ∧ o.swaps.length ≤ 70 ∧ (∀ w ∈ o.wants, w.part.size ≤ 30) ∧ ∀ s ∈ o.swaps, s.part.size ≤ 30 ∧ s.via.size ≤ 30 := by simpa only [slightB, decide_eq_true_eq] using h
/-- The first error of wants of a least count, or 0. -/
def wntE (lo : Int) : List Want → Int
  | [] => 0
  | w :: l => if isNm w.part = false then 4 else if ¬ (lo ≤ w.count ∧ w.count ≤ 1000000) then 2 else wntE lo l
theorem wntE_ok {lo : Int} : ∀ {l : List Want}, wntE lo l = 0 → ∀ w ∈ l, isNm w.part = true ∧ lo ≤ w.count ∧ w.count ≤ 1000000
  | [], _, s, hs => by simp at hs
  | x :: l, h, s, hs => by
    unfold wntE at h
    by_cases h1 : isNm x.part = false
    · rw [if_pos h1] at h; cases h
    · rw [if_neg h1] at h
      by_cases h2 : ¬ (lo ≤ x.count ∧ x.count ≤ 1000000)
      · rw [if_pos h2] at h; cases h
      · rw [if_neg h2] at h
        rcases List.mem_cons.1 hs with rfl | hs
        · exact ⟨by simpa using h1, by omega⟩
        · exact wntE_ok h s hs
theorem wzz {ws : List Want} (hs : ∀ x ∈ ws, x.part.size ≤ 30) {i : Nat} {x : Want} (hx : ws[i]? = some x) : x.part.size ≤ 30 := hs x (List.mem_of_getElem? hx)
theorem szz {ws : List Swap} (hs : ∀ x ∈ ws, x.part.size ≤ 30 ∧ x.via.size ≤ 30) {i : Nat} {x : Swap} (hx : ws[i]? = some x) : x.part.size ≤ 30 ∧ x.via.size ≤ 30 := hs x (List.mem_of_getElem? hx)
/-- The first error of swaps, or 0. -/
def swapsE : List Swap → Int
  | [] => 0
  | s :: l => if isNm s.part = false ∨ isNm s.via = false then 4 else if s.part = s.via then 3 else if ¬ (1 ≤ s.count ∧ s.count ≤ 100) then 2 else swapsE l
def orderE (o : Order) : Int := if ¬ (1 ≤ o.place ∧ o.place ≤ 99) then 2 else if 60 < o.wants.length ∨ 60 < o.swaps.length then 11 else if ¬ wntE 1 o.wants = 0 then wntE 1 o.wants else swapsE o.swaps
theorem oe_1 {o : Order} (h : ¬ (1 ≤ o.place ∧ o.place ≤ 99)) : (2 : Int) = orderE o := (if_pos h).symm
theorem oe_2 {o : Order} (h : 1 ≤ o.place ∧ o.place ≤ 99) (h2 : 60 < o.wants.length ∨ 60 < o.swaps.length) : (11 : Int) = orderE o := by rw [orderE, if_neg (by simpa using h), if_pos h2]
theorem oe_3 {o : Order} {z : Int} (h : 1 ≤ o.place ∧ o.place ≤ 99) (h2 : ¬ (60 < o.wants.length ∨ 60 < o.swaps.length)) (h3 : wntE 1 o.wants = z) (h4 : ¬ z = 0) : z = orderE o := by rw [orderE, if_neg (by simpa using h), if_neg h2, h3, if_pos h4]
theorem oe_4 {o : Order} {z : Int} (h : 1 ≤ o.place ∧ o.place ≤ 99) (h2 : ¬ (60 < o.wants.length ∨ 60 < o.swaps.length)) (h3 : wntE 1 o.wants = 0) (h4 : swapsE o.swaps = z) : z = orderE o := by rw [orderE, if_neg (by simpa using h), if_neg h2, h3, if_neg (by simp), h4]
theorem orderE_ok {o : Order} (h : orderE o = 0) : (1 ≤ o.place ∧ o.place ≤ 99) ∧ o.wants.length ≤ 60 ∧ o.swaps.length ≤ 60 ∧ wntE 1 o.wants = 0 ∧ swapsE o.swaps = 0 := by
  unfold orderE at h
  split at h
  · cases h
  · rename_i h1
    split at h
    · cases h
    · rename_i h2
      split at h
      · rename_i h3; exact absurd h h3
      · rename_i h3; exact ⟨by simpa using h1, by omega, by omega, by simpa using h3, h⟩
theorem swapsE_ok : ∀ {l : List Swap}, swapsE l = 0 → ∀ s ∈ l, isNm s.part = true ∧ isNm s.via = true ∧ s.part ≠ s.via ∧ 1 ≤ s.count ∧ s.count ≤ 100
  | [], _, s, hs => by simp at hs
  | x :: l, h, s, hs => by
    unfold swapsE at h
    by_cases h1 : isNm x.part = false ∨ isNm x.via = false
    · rw [if_pos h1] at h; cases h
    · rw [if_neg h1] at h
      by_cases h2 : x.part = x.via
      · rw [if_pos h2] at h; cases h
      · rw [if_neg h2] at h
        by_cases h3 : ¬ (1 ≤ x.count ∧ x.count ≤ 100)
        · rw [if_pos h3] at h; cases h
        · rw [if_neg h3] at h
          rcases List.mem_cons.1 hs with rfl | hs
          · simp only [not_or, Bool.not_eq_false] at h1
            exact ⟨h1.1, h1.2, h2, by omega, by omega⟩
          · exact swapsE_ok h s hs
theorem sw_1 {s : Swap} {l : List Swap} {R : Int} (h : R = swapsE (s :: l)) (h2 : isNm s.part = false) : R = 4 := by rw [h, swapsE, if_pos (.inl h2)]
theorem sw_1b {s : Swap} {l : List Swap} {R : Int} (h : R = swapsE (s :: l)) (h2 : isNm s.via = false) : R = 4 := by rw [h, swapsE, if_pos (.inr h2)]
theorem sw_2 {s : Swap} {l : List Swap} {R : Int} (h : R = swapsE (s :: l)) (h1 : isNm s.part = true) (h2 : isNm s.via = true) (h3 : s.part = s.via) : R = 3 := by rw [h, swapsE, if_neg (by simp [h1, h2]), if_pos h3]
theorem sw_3 {s : Swap} {l : List Swap} {R : Int} (h : R = swapsE (s :: l)) (h1 : isNm s.part = true) (h2 : isNm s.via = true) (h3 : ¬ s.part = s.via) (h4 : ¬ (1 ≤ s.count ∧ s.count ≤ 100)) : R = 2 := by rw [h, swapsE, if_neg (by simp [h1, h2]), if_neg h3, if_pos h4]
theorem sw_4 {s : Swap} {l : List Swap} {R : Int} (h : R = swapsE (s :: l)) (h1 : isNm s.part = true) (h2 : isNm s.via = true) (h3 : ¬ s.part = s.via) (h4 : 1 ≤ s.count ∧ s.count ≤ 100) : R = swapsE l := by rw [h, swapsE, if_neg (by simp [h1, h2]), if_neg h3, if_neg (by simpa using h4)]

theorem fr22 : (inFrame Tryd.f22.ntmps (Tryd.f22.body.getD .skip) && Tryd.f22.results.toList.all (resScope Tryd.f22.ntmps)) = true := by kernel_rfl
theorem slight (o : Order) (h1 : o.wants.length ≤ 9223372036854775807) (h2 : o.swaps.length ≤ 9223372036854775807) : PCalls Tryd.prog 22 [.agg o.enc] (.bool (slightB o)) := by
  refine PCalls.of_code Tryd.func22 rfl rfl (by kernel_rfl) mixed fr22 (by show _ ≤ 55; simp) (.sc _) ?_
  refine pwp_seq_plain rfl fun K1 hK1 => ?_
  refine p_new rfl (e_box (n := 3) rfl rfl) ⟨rfl, by decide⟩ ?_
  refine p_step rfl (e_assign (v := .sc _) rfl) trivial ?_
  refine p_end (hK1 _ ?_); clear hK1 K1
  refine pwp_seq_seq ?_
  refine pwp_seq_gops rfl fun K2 hK2 => ?_
  refine g_begin ?_
  refine g_step rfl rfl rfl rfl (e_faP (pl := [(0, 1, false), (1, 1, false), (2, 1, false)]) rfl (by kernel_rfl) (by kernel_rfl) (by decide) rfl) trivial ?_
  refine g_step rfl rfl rfl rfl (e_loadH (v := .lit _ _ _) rfl (hset_self _ _ _) (by kernel_rfl) (by kernel_rfl) (by kernel_rfl) (by exact Nat.zero_lt_one) (by decide) rfl) trivial ?_
  refine g_step rfl rfl rfl rfl (e_len rfl (by kernel_rfl)) trivial ?_
  refine g_step rfl rfl rfl rfl (e_gt rfl rfl) trivial ?_
  refine g_step rfl rfl rfl rfl (e_move (v := .sc _) rfl) trivial ?_
  refine g_cases (fun hb3 => ?_) (fun hb3 => ?_)
  ·have hb3R := hb3; try simp only [z1, z2, z3, z4, z5, z6, ne_eq, z7, z8, z9, z10, z11, z12] at hb3
   refine g_skip rfl rfl rfl ?_
   refine g_skip rfl rfl rfl ?_
   refine g_skip rfl rfl rfl ?_
   refine g_skip rfl rfl rfl ?_
   refine g_step rfl rfl rfl rfl (e_pickT (v := .sc _) rfl rfl) trivial ?_
   refine g_end (ds := [10, 11, 12, 13]) rfl rfl (hK2 _ ?_); clear hK2 K2
   refine pwp_seq_cond (t := true) rfl fun K4 hK4 => ⟨fun _ => ?_, nofun⟩
   refine pwp_seq_plain rfl fun K5 hK5 => ?_
   refine p_step rfl (e_assign (v := .sc _) rfl) trivial ?_
   refine p_end (hK5 _ ?_); clear hK5 K5
   refine pwp_ret ?_
   refine ret_seq ?_
   refine end1 (v := .sc _) rfl ?_
   exact out_b (sl_1 (by omega))
  have hb3R := hb3; try simp only [z1, z2, z3, z4, z5, z6, ne_eq, z7, z8, z9, z10, z11, z12] at hb3
  refine g_step rfl rfl rfl rfl (e_faP (pl := [(0, 1, false), (1, 1, false), (2, 1, false)]) rfl (by kernel_rfl) (by kernel_rfl) (by decide) rfl) trivial ?_
  refine g_step rfl rfl rfl rfl (e_loadH (v := .lit _ _ _) rfl (hset_self _ _ _) (by kernel_rfl) (by kernel_rfl) (by kernel_rfl) (by exact Nat.zero_lt_one) (by decide) rfl) trivial ?_
  refine g_step rfl rfl rfl rfl (e_len rfl (by kernel_rfl)) trivial ?_
  refine g_step rfl rfl rfl rfl (e_gt rfl rfl) trivial ?_
  refine g_step rfl rfl rfl rfl (e_pickF (v := .sc _) rfl rfl) trivial ?_
  refine g_end (ds := [10, 11, 12, 13]) rfl rfl (hK2 _ ?_); clear hK2 K2
  refine pwp_seq_cond rfl fun K6 hK6 => ⟨fun hb7 => ?_, fun hb7 => ?_⟩
  ·have hb7R := hb7; try simp only [z1, z2, z3, z4, z5, z6, ne_eq, z7, z8, z9, z10, z11, z12] at hb7
   refine pwp_seq_plain rfl fun K8 hK8 => ?_
   refine p_step rfl (e_assign (v := .sc _) rfl) trivial ?_
   refine p_end (hK8 _ ?_); clear hK8 K8
   refine pwp_ret ?_
   refine ret_seq ?_
   refine end1 (v := .sc _) rfl ?_
   exact out_b (sl_1 (by omega))
  have hb7R := hb7; try simp only [z1, z2, z3, z4, z5, z6, ne_eq, z7, z8, z9, z10, z11, z12] at hb7
  refine pwp_skip ?_
  refine seq_norm (hK6 _ ?_); clear hK6 K6
  refine pwp_seq_seq ?_
  refine pwp_seq_plain rfl fun K9 hK9 => ?_
  refine p_step rfl (e_assign (v := .sc _) rfl) trivial ?_
  refine p_end (hK9 _ ?_); clear hK9 K9
  refine pwp_seq_block fun K10 hK10 => ?_
  refine pwp_loopR (α := Nat) [1] (fun (k : Nat) => [(3, .int (k))]) (fun (k : Nat) (h : Heap) (_ : Nat → Nat) => ((k) ≤ o.wants.length) ∧ (∀ x ∈ o.wants.take (k), x.part.size ≤ 30) ∧ (h (1, 0) = some (.rows 3 [Order.enc o]))) (fun (k : Nat) => o.wants.length - (k)) (0) (by exact ⟨rfl, trivial⟩) (by exact ⟨by exact Nat.zero_le _, by simp, (hset_self _ _ _)⟩) fun k r11 h12 c13 hj14 => ?_
  obtain ⟨hk, hq, hihj14_0⟩ := hj14
  try dsimp only at hk
  try dsimp only at hq
  try dsimp only at hihj14_0
  show pwp _ _ (loopQ _ _ _) ⟨sets (mix _ _ _) [(3, .int k)], _, _⟩
  refine pwp_seq_seq ?_
  refine pwp_seq_plain rfl fun K15 hK15 => ?_
  refine p_step rfl (e_move (v := .sc _) rfl) trivial ?_
  refine p_step rfl (e_faP (pl := [(0, 1, false), (1, 1, false), (2, 1, false)]) rfl (by kernel_rfl) (by kernel_rfl) (by decide) rfl) trivial ?_
  refine p_step rfl (e_loadH (v := .lit _ _ _) rfl hihj14_0 (by kernel_rfl) (by kernel_rfl) (by kernel_rfl) (by exact Nat.zero_lt_one) (by decide) rfl) trivial ?_
  refine p_step rfl (e_len rfl (by kernel_rfl)) trivial ?_
  refine p_step rfl (e_lt rfl rfl) trivial ?_
  refine p_end (hK15 _ ?_); clear hK15 K15
  refine pwp_seq_cond rfl fun K16 hK16 => ⟨fun hb17 => ?_, fun hb17 => ?_⟩
  ·have hb17R := hb17; try simp only [z1, z2, z3, z4, z5, z6, ne_eq, z7, z8, z9, z10, z11, z12] at hb17
   obtain ⟨x, hx, hd, ht⟩ := get_lt (xs := o.wants) (i := k) (by omega)
   refine pwp_skip ?_
   refine seq_norm (hK16 _ ?_); clear hK16 K16
   refine pwp_seq_block fun K18 hK18 => ?_
   refine pwp_seq_plain rfl fun K19 hK19 => ?_
   refine p_step rfl (e_faP (pl := [(0, 1, false), (1, 1, false), (2, 1, false)]) rfl (by kernel_rfl) (by kernel_rfl) (by decide) rfl) trivial ?_
   refine p_step rfl (e_loadH (v := .lit _ _ _) rfl hihj14_0 (by kernel_rfl) (by kernel_rfl) (by kernel_rfl) (by exact Nat.zero_lt_one) (by decide) rfl) trivial ?_
   refine p_step rfl (e_move (v := .sc _) rfl) trivial ?_
   refine p_step rfl (e_ixa rfl rfl (by kernel_rfl) (by kernel_rfl) (by simp only [List.length_map]; omega)) trivial ?_
   refine p_step rfl (e_fa (pl := [(0, 1, false), (1, 1, false)]) rfl (by kernel_rfl) (by kernel_rfl) (by decide) rfl) trivial ?_
   refine p_step rfl (e_load (v := .sc _) rfl (by kernel_rfl) (by kernel_rfl) (by kernel_rfl) (by simp only [List.length_map]; omega) (by decide) ((cell_map hx _).trans rfl)) trivial ?_
   refine p_step rfl (e_lenS rfl (by kernel_rfl)) trivial ?_
   refine p_step rfl (e_gt rfl rfl) trivial ?_
   refine p_end (hK19 _ ?_); clear hK19 K19
   refine pwp_cond rfl (fun hb20 => ?_) (fun hb20 => ?_)
   ·have hb20R := hb20; try simp only [z1, z2, z3, z4, z5, z6, ne_eq, z7, z8, z9, z10, z11, z12] at hb20
    refine pwp_seq_plain rfl fun K21 hK21 => ?_
    refine p_step rfl (e_assign (v := .sc _) rfl) trivial ?_
    refine p_end (hK21 _ ?_); clear hK21 K21
    refine pwp_ret ?_
    refine ret_block ?_
    refine ret_seq ?_
    refine ret_loop ?_
    refine ret_block ?_
    refine ret_seq ?_
    refine end1 (v := .sc _) rfl ?_
    exact out_b (sl_2 hx (by omega))
   have hb20R := hb20; try simp only [z1, z2, z3, z4, z5, z6, ne_eq, z7, z8, z9, z10, z11, z12] at hb20
   refine pwp_skip ?_
   refine block_norm ?_
   refine seq_norm (hK18 _ ?_); clear hK18 K18
   refine pwp_plain rfl fun K22 hK22 => ?_
   refine p_step rfl (e_move (v := .sc _) rfl) trivial ?_
   refine p_step rfl (e_add rfl rfl (by omega)) trivial ?_
   refine p_step rfl (e_assign (v := .sc _) rfl) trivial ?_
   refine p_end (hK22 _ ?_); clear hK22 K22
   exact loop_again (k + 1) (by show _ < _; omega) ⟨rfl, trivial⟩ ⟨rfl, trivial⟩ (by exact ⟨by show _ + 1 ≤ _; omega, by exact all_snocS ht hq (by omega), hihj14_0⟩)
  have hb17R := hb17; try simp only [z1, z2, z3, z4, z5, z6, ne_eq, z7, z8, z9, z10, z11, z12] at hb17
  obtain rfl : k = o.wants.length := by omega
  rw [List.take_length] at hq
  have hqw := hq
  refine pwp_exit ?_
  refine exit_seq ?_
  clear hK16 K16
  refine exit_loop ?_
  refine exit_here ?_
  refine seq_norm (hK10 _ ?_); clear hK10 K10
  refine pwp_seq_seq ?_
  refine pwp_seq_plain rfl fun K23 hK23 => ?_
  refine p_step rfl (e_assign (v := .sc _) rfl) trivial ?_
  refine p_end (hK23 _ ?_); clear hK23 K23
  refine pwp_seq_block fun K24 hK24 => ?_
  refine pwp_loopR (α := Nat) [1] (fun (k : Nat) => [(4, .int (k))]) (fun (k : Nat) (h : Heap) (_ : Nat → Nat) => ((k) ≤ o.swaps.length) ∧ (∀ x ∈ o.swaps.take (k), x.part.size ≤ 30 ∧ x.via.size ≤ 30) ∧ (h (1, 0) = some (.rows 3 [Order.enc o]))) (fun (k : Nat) => o.swaps.length - (k)) (0) (by exact ⟨rfl, trivial⟩) (by exact ⟨by exact Nat.zero_le _, by simp, hihj14_0⟩) fun k r25 h26 c27 hj28 => ?_
  obtain ⟨hk, hq, hihj28_0⟩ := hj28
  try dsimp only at hk
  try dsimp only at hq
  try dsimp only at hihj28_0
  show pwp _ _ (loopQ _ _ _) ⟨sets (mix _ _ _) [(4, .int k)], _, _⟩
  refine pwp_seq_seq ?_
  refine pwp_seq_plain rfl fun K29 hK29 => ?_
  refine p_step rfl (e_move (v := .sc _) rfl) trivial ?_
  refine p_step rfl (e_faP (pl := [(0, 1, false), (1, 1, false), (2, 1, false)]) rfl (by kernel_rfl) (by kernel_rfl) (by decide) rfl) trivial ?_
  refine p_step rfl (e_loadH (v := .lit _ _ _) rfl hihj28_0 (by kernel_rfl) (by kernel_rfl) (by kernel_rfl) (by exact Nat.zero_lt_one) (by decide) rfl) trivial ?_
  refine p_step rfl (e_len rfl (by kernel_rfl)) trivial ?_
  refine p_step rfl (e_lt rfl rfl) trivial ?_
  refine p_end (hK29 _ ?_); clear hK29 K29
  refine pwp_seq_cond rfl fun K30 hK30 => ⟨fun hb31 => ?_, fun hb31 => ?_⟩
  ·have hb31R := hb31; try simp only [z1, z2, z3, z4, z5, z6, ne_eq, z7, z8, z9, z10, z11, z12] at hb31
   obtain ⟨x, hx, hd, ht⟩ := get_lt (xs := o.swaps) (i := k) (by omega)
   refine pwp_skip ?_
   refine seq_norm (hK30 _ ?_); clear hK30 K30
   refine pwp_seq_block fun K32 hK32 => ?_
   refine pwp_seq_gops rfl fun K33 hK33 => ?_
   refine g_begin ?_
   refine g_step rfl rfl rfl rfl (e_faP (pl := [(0, 1, false), (1, 1, false), (2, 1, false)]) rfl (by kernel_rfl) (by kernel_rfl) (by decide) rfl) trivial ?_
   refine g_step rfl rfl rfl rfl (e_loadH (v := .lit _ _ _) rfl hihj28_0 (by kernel_rfl) (by kernel_rfl) (by kernel_rfl) (by exact Nat.zero_lt_one) (by decide) rfl) trivial ?_
   refine g_step rfl rfl rfl rfl (e_move (v := .sc _) rfl) trivial ?_
   refine g_step rfl rfl rfl rfl (e_ixa rfl rfl (by kernel_rfl) (by kernel_rfl) (by simp only [List.length_map]; omega)) trivial ?_
   refine g_step rfl rfl rfl rfl (e_fa (pl := [(0, 1, false), (1, 1, false), (2, 1, false)]) rfl (by kernel_rfl) (by kernel_rfl) (by decide) rfl) trivial ?_
   refine g_step rfl rfl rfl rfl (e_load (v := .sc _) rfl (by kernel_rfl) (by kernel_rfl) (by kernel_rfl) (by simp only [List.length_map]; omega) (by decide) ((cell_map hx _).trans rfl)) trivial ?_
   refine g_step rfl rfl rfl rfl (e_lenS rfl (by kernel_rfl)) trivial ?_
   refine g_step rfl rfl rfl rfl (e_gt rfl rfl) trivial ?_
   refine g_step rfl rfl rfl rfl (e_move (v := .sc _) rfl) trivial ?_
   refine g_cases (fun hb34 => ?_) (fun hb34 => ?_)
   ·have hb34R := hb34; try simp only [z1, z2, z3, z4, z5, z6, ne_eq, z7, z8, z9, z10, z11, z12] at hb34
    refine g_skip rfl rfl rfl ?_
    refine g_skip rfl rfl rfl ?_
    refine g_skip rfl rfl rfl ?_
    refine g_skip rfl rfl rfl ?_
    refine g_skip rfl rfl rfl ?_
    refine g_skip rfl rfl rfl ?_
    refine g_skip rfl rfl rfl ?_
    refine g_skip rfl rfl rfl ?_
    refine g_step rfl rfl rfl rfl (e_pickT (v := .sc _) rfl rfl) trivial ?_
    refine g_end (ds := [46, 47, 48, 49, 50, 51, 52, 53]) rfl rfl (hK33 _ ?_); clear hK33 K33
    refine pwp_cond (t := true) rfl (fun _ => ?_) nofun
    refine pwp_seq_plain rfl fun K35 hK35 => ?_
    refine p_step rfl (e_assign (v := .sc _) rfl) trivial ?_
    refine p_end (hK35 _ ?_); clear hK35 K35
    refine pwp_ret ?_
    refine ret_block ?_
    refine ret_seq ?_
    refine ret_loop ?_
    refine ret_block ?_
    refine ret_seq ?_
    refine end1 (v := .sc _) rfl ?_
    exact out_b (sl_3 hx (by omega))
   have hb34R := hb34; try simp only [z1, z2, z3, z4, z5, z6, ne_eq, z7, z8, z9, z10, z11, z12] at hb34
   refine g_step rfl rfl rfl rfl (e_faP (pl := [(0, 1, false), (1, 1, false), (2, 1, false)]) rfl (by kernel_rfl) (by kernel_rfl) (by decide) rfl) trivial ?_
   refine g_step rfl rfl rfl rfl (e_loadH (v := .lit _ _ _) rfl hihj28_0 (by kernel_rfl) (by kernel_rfl) (by kernel_rfl) (by exact Nat.zero_lt_one) (by decide) rfl) trivial ?_
   refine g_step rfl rfl rfl rfl (e_move (v := .sc _) rfl) trivial ?_
   refine g_step rfl rfl rfl rfl (e_ixa rfl rfl (by kernel_rfl) (by kernel_rfl) (by simp only [List.length_map]; omega)) trivial ?_
   refine g_step rfl rfl rfl rfl (e_fa (pl := [(0, 1, false), (1, 1, false), (2, 1, false)]) rfl (by kernel_rfl) (by kernel_rfl) (by decide) rfl) trivial ?_
   refine g_step rfl rfl rfl rfl (e_load (v := .sc _) rfl (by kernel_rfl) (by kernel_rfl) (by kernel_rfl) (by simp only [List.length_map]; omega) (by decide) ((cell_map hx _).trans rfl)) trivial ?_
   refine g_step rfl rfl rfl rfl (e_lenS rfl (by kernel_rfl)) trivial ?_
   refine g_step rfl rfl rfl rfl (e_gt rfl rfl) trivial ?_
   refine g_step rfl rfl rfl rfl (e_pickF (v := .sc _) rfl rfl) trivial ?_
   refine g_end (ds := [46, 47, 48, 49, 50, 51, 52, 53]) rfl rfl (hK33 _ ?_); clear hK33 K33
   refine pwp_cond rfl (fun hb36 => ?_) (fun hb36 => ?_)
   ·have hb36R := hb36; try simp only [z1, z2, z3, z4, z5, z6, ne_eq, z7, z8, z9, z10, z11, z12] at hb36
    refine pwp_seq_plain rfl fun K37 hK37 => ?_
    refine p_step rfl (e_assign (v := .sc _) rfl) trivial ?_
    refine p_end (hK37 _ ?_); clear hK37 K37
    refine pwp_ret ?_
    refine ret_block ?_
    refine ret_seq ?_
    refine ret_loop ?_
    refine ret_block ?_
    refine ret_seq ?_
    refine end1 (v := .sc _) rfl ?_
    exact out_b (sl_3 hx (by omega))
   have hb36R := hb36; try simp only [z1, z2, z3, z4, z5, z6, ne_eq, z7, z8, z9, z10, z11, z12] at hb36
   refine pwp_skip ?_
   refine block_norm ?_
   refine seq_norm (hK32 _ ?_); clear hK32 K32
   refine pwp_plain rfl fun K38 hK38 => ?_
   refine p_step rfl (e_move (v := .sc _) rfl) trivial ?_
   refine p_step rfl (e_add rfl rfl (by omega)) trivial ?_
   refine p_step rfl (e_assign (v := .sc _) rfl) trivial ?_
   refine p_end (hK38 _ ?_); clear hK38 K38
   exact loop_again (k + 1) (by show _ < _; omega) ⟨rfl, trivial⟩ ⟨rfl, trivial⟩ (by exact ⟨by show _ + 1 ≤ _; omega, by exact all_snocS ht hq ⟨by omega, by omega⟩, hihj28_0⟩)
  have hb31R := hb31; try simp only [z1, z2, z3, z4, z5, z6, ne_eq, z7, z8, z9, z10, z11, z12] at hb31
  obtain rfl : k = o.swaps.length := by omega
  rw [List.take_length] at hq
  have hqs := hq
  refine pwp_exit ?_
  refine exit_seq ?_
  clear hK30 K30
  refine exit_loop ?_
  refine exit_here ?_
  refine seq_norm (hK24 _ ?_); clear hK24 K24
  refine pwp_seq_plain rfl fun K39 hK39 => ?_
  refine p_step rfl (e_assign (v := .sc _) rfl) trivial ?_
  refine p_end (hK39 _ ?_); clear hK39 K39
  refine pwp_ret ?_
  refine end1 (v := .sc _) rfl ?_
  exact out_b (sl_4 (by omega) hqw hqs)

theorem fr55 : (inFrame Tryd.f55.ntmps (Tryd.f55.body.getD .skip) && Tryd.f55.results.toList.all (resScope Tryd.f55.ntmps)) = true := by kernel_rfl
theorem checkWnt (ws : List Want) (lo : Int) (hl : ws.length ≤ 70) (hs : ∀ x ∈ ws, x.part.size ≤ 30) : PCalls Tryd.prog 55 [.lit true 2 (ws.map Want.enc), .int lo] (.int (wntE lo ws)) := by
  refine PCalls.of_code Tryd.func55 rfl rfl (by kernel_rfl) mixed fr55 (by show _ ≤ 25; simp) (.sc _) ?_
  refine pwp_seq_plain rfl fun K1 hK1 => ?_
  refine p_step rfl (e_assign (v := .sc _) rfl) trivial ?_
  refine p_end (hK1 _ ?_); clear hK1 K1
  refine pwp_seq_seq ?_
  refine pwp_seq_plain rfl fun K2 hK2 => ?_
  refine p_step rfl (e_move (v := .lit _ _ _) rfl) trivial ?_
  refine p_step rfl (e_len rfl (by kernel_rfl)) trivial ?_
  refine p_step rfl (e_move (v := .sc _) rfl) trivial ?_
  refine p_end (hK2 _ ?_); clear hK2 K2
  refine pwp_seq_block fun K3 hK3 => ?_
  refine pwp_loopR (α := Nat) [1, 7, 8] (fun (k : Nat) => [(9, .int (k))]) (fun (k : Nat) (h : Heap) (_ : Nat → Nat) => ((k) ≤ ws.length) ∧ (wntE lo ws = wntE lo (ws.drop (k)))) (fun (k : Nat) => ws.length - (k)) (0) (by exact ⟨rfl, trivial⟩) (by exact ⟨by exact Nat.zero_le _, by exact rfl⟩) fun k r4 h5 c6 hj7 => ?_
  obtain ⟨hk, hinv⟩ := hj7
  try dsimp only at hk
  try dsimp only at hinv
  show pwp _ _ (loopQ _ _ _) ⟨sets (mix _ _ _) [(9, .int k)], _, _⟩
  refine pwp_seq_plain rfl fun K8 hK8 => ?_
  refine p_step rfl (e_lt rfl rfl) trivial ?_
  refine p_end (hK8 _ ?_); clear hK8 K8
  refine pwp_seq_cond rfl fun K9 hK9 => ⟨fun hb10 => ?_, fun hb10 => ?_⟩
  ·have hb10R := hb10; try simp only [z1, z2, z3, z4, z5, z6, ne_eq, z7, z8, z9, z10, z11, z12] at hb10
   obtain ⟨x, hx, hd, ht⟩ := get_lt (xs := ws) (i := k) (by omega)
   rw [hd] at hinv; simp only [wntE] at hinv
   have hsz := wzz hs hx
   refine pwp_skip ?_
   refine seq_norm (hK9 _ ?_); clear hK9 K9
   refine pwp_seq_block fun K11 hK11 => ?_
   refine pwp_seq_plain rfl fun K12 hK12 => ?_
   refine p_step rfl (e_ixa rfl rfl (by kernel_rfl) (by kernel_rfl) (by simp only [List.length_map]; omega)) trivial ?_
   refine p_step rfl (e_loadA (n := 2) rfl (by kernel_rfl) (by kernel_rfl) (by kernel_rfl) (by simp only [List.length_map]; omega) (by decide) (by first | exact agg_map hx rfl)) trivial ?_
   refine p_new rfl (e_alloc (cs := [.str ByteArray.empty, .int 0]) (n := 2) (by kernel_rfl) rfl (by decide)) (ob_alloc (by decide)) ?_
   refine p_store rfl (e_storeA rfl (hset_self _ _ _) rfl rfl rfl (by kernel_rfl) rfl (by kernel_rfl)) trivial ?_
   refine p_end (hK12 _ ?_); clear hK12 K12
   refine pwp_block ?_
   refine pwp_seq_plain rfl fun K13 hK13 => ?_
   refine p_step rfl (e_faP (pl := [(0, 1, false), (1, 1, false)]) rfl (by kernel_rfl) (by kernel_rfl) (by decide) rfl) trivial ?_
   refine p_step rfl (e_loadH (v := .sc _) rfl (hset_self _ _ _) (by kernel_rfl) (by kernel_rfl) (by kernel_rfl) (by exact Nat.zero_lt_one) (by decide) rfl) trivial ?_
   refine p_call rfl (.cons inn_sc .nil) (isName _ (by omega)) ?_
   refine p_step rfl (e_not rfl) trivial ?_
   refine p_step rfl (e_assign (v := .sc _) rfl) trivial ?_
   refine p_end (hK13 _ ?_); clear hK13 K13
   refine pwp_cond rfl (fun hb14 => ?_) (fun hb14 => ?_)
   ·have hb14R := hb14; try simp only [z1, z2, z3, z4, z5, z6, ne_eq, z7, z8, z9, z10, z11, z12] at hb14
    refine pwp_seq_plain rfl fun K15 hK15 => ?_
    refine p_step rfl (e_assign (v := .sc _) rfl) trivial ?_
    refine p_end (hK15 _ ?_); clear hK15 K15
    refine pwp_ret ?_
    refine ret_block ?_
    refine ret_block ?_
    refine ret_seq ?_
    refine ret_loop ?_
    refine ret_block ?_
    refine ret_seq ?_
    refine end1 (v := .sc _) rfl ?_
    exact out_i (by rw [hinv, if_pos (by assumption)])
   have hb14R := hb14; try simp only [z1, z2, z3, z4, z5, z6, ne_eq, z7, z8, z9, z10, z11, z12] at hb14
   refine pwp_seq_plain rfl fun K16 hK16 => ?_
   refine p_step rfl (e_faP (pl := [(0, 1, false), (1, 1, false)]) rfl (by kernel_rfl) (by kernel_rfl) (by decide) rfl) trivial ?_
   refine p_step rfl (e_loadH (v := .sc _) rfl (hset_self _ _ _) (by kernel_rfl) (by kernel_rfl) (by kernel_rfl) (by exact Nat.zero_lt_one) (by decide) rfl) trivial ?_
   refine p_step rfl (e_move (v := .sc _) rfl) trivial ?_
   refine p_call rfl (.cons inn_sc (.cons inn_sc (.cons inn_sc .nil))) (within _ _ _) ?_
   refine p_step rfl (e_not rfl) trivial ?_
   refine p_step rfl (e_assign (v := .sc _) rfl) trivial ?_
   refine p_end (hK16 _ ?_); clear hK16 K16
   refine pwp_cond rfl (fun hb17 => ?_) (fun hb17 => ?_)
   ·have hb17R := hb17; try simp only [z1, z2, z3, z4, z5, z6, ne_eq, z7, z8, z9, z10, z11, z12] at hb17
    refine pwp_seq_plain rfl fun K18 hK18 => ?_
    refine p_step rfl (e_assign (v := .sc _) rfl) trivial ?_
    refine p_end (hK18 _ ?_); clear hK18 K18
    refine pwp_ret ?_
    refine ret_block ?_
    refine ret_block ?_
    refine ret_seq ?_
    refine ret_loop ?_
    refine ret_block ?_
    refine ret_seq ?_
    refine end1 (v := .sc _) rfl ?_
    exact out_i (by rw [hinv, if_neg (by rw [Bool.not_eq_false]; assumption), if_pos (by omega)])
   have hb17R := hb17; try simp only [z1, z2, z3, z4, z5, z6, ne_eq, z7, z8, z9, z10, z11, z12] at hb17
   refine pwp_skip ?_
   refine block_norm ?_
   refine block_norm ?_
   refine seq_norm (hK11 _ ?_); clear hK11 K11
   refine pwp_plain rfl fun K19 hK19 => ?_
   refine p_step rfl (e_add rfl rfl (by omega)) trivial ?_
   refine p_step rfl (e_move (v := .sc _) rfl) trivial ?_
   refine p_end (hK19 _ ?_); clear hK19 K19
   rw [if_neg (by rw [Bool.not_eq_false]; assumption), if_neg (by omega)] at hinv
   exact loop_again (k + 1) (by show _ < _; omega) ⟨rfl, rfl, rfl, trivial⟩ ⟨rfl, trivial⟩ (by exact ⟨by show _ + 1 ≤ _; omega, by exact hinv⟩)
  have hb10R := hb10; try simp only [z1, z2, z3, z4, z5, z6, ne_eq, z7, z8, z9, z10, z11, z12] at hb10
  obtain rfl : k = ws.length := by omega
  rw [List.drop_length] at hinv; simp only [wntE] at hinv
  refine pwp_exit ?_
  refine exit_seq ?_
  clear hK9 K9
  refine exit_loop ?_
  refine exit_here ?_
  refine seq_norm (hK3 _ ?_); clear hK3 K3
  refine pwp_seq_plain rfl fun K20 hK20 => ?_
  refine p_step rfl (e_assign (v := .sc _) rfl) trivial ?_
  refine p_end (hK20 _ ?_); clear hK20 K20
  refine pwp_ret ?_
  refine end1 (v := .sc _) rfl ?_
  exact out_i (by rw [hinv])

theorem fr41 : (inFrame Tryd.f41.ntmps (Tryd.f41.body.getD .skip) && Tryd.f41.results.toList.all (resScope Tryd.f41.ntmps)) = true := by kernel_rfl
theorem checkOrder (o : Order) (h1 : o.wants.length ≤ 70) (h2 : o.swaps.length ≤ 70) (hs : ∀ x ∈ o.wants, x.part.size ≤ 30) (hs2 : ∀ x ∈ o.swaps, x.part.size ≤ 30 ∧ x.via.size ≤ 30) : PCalls Tryd.prog 41 [.agg o.enc] (.int (orderE o)) := by
  refine PCalls.of_code Tryd.func41 rfl rfl (by kernel_rfl) mixed fr41 (by show _ ≤ 56; simp) (.sc _) ?_
  refine pwp_seq_plain rfl fun K1 hK1 => ?_
  refine p_new rfl (e_box (n := 3) rfl rfl) ⟨rfl, by decide⟩ ?_
  refine p_step rfl (e_assign (v := .sc _) rfl) trivial ?_
  refine p_end (hK1 _ ?_); clear hK1 K1
  refine pwp_seq_seq ?_
  refine pwp_seq_plain rfl fun K2 hK2 => ?_
  refine p_step rfl (e_faP (pl := [(0, 1, false), (1, 1, false), (2, 1, false)]) rfl (by kernel_rfl) (by kernel_rfl) (by decide) rfl) trivial ?_
  refine p_step rfl (e_loadH (v := .sc _) rfl (hset_self _ _ _) (by kernel_rfl) (by kernel_rfl) (by kernel_rfl) (by exact Nat.zero_lt_one) (by decide) rfl) trivial ?_
  refine p_call rfl (.cons inn_sc (.cons inn_sc (.cons inn_sc .nil))) (within _ _ _) ?_
  refine p_step rfl (e_not rfl) trivial ?_
  refine p_end (hK2 _ ?_); clear hK2 K2
  refine pwp_seq_cond rfl fun K3 hK3 => ⟨fun hb4 => ?_, fun hb4 => ?_⟩
  ·have hb4R := hb4; simp only [z1, z2, z3, z4, z5, z6, ne_eq, z7, z8, z9, z10, z11, z12] at hb4
   refine pwp_seq_plain rfl fun K5 hK5 => ?_
   refine p_step rfl (e_assign (v := .sc _) rfl) trivial ?_
   refine p_end (hK5 _ ?_); clear hK5 K5
   refine pwp_ret ?_
   refine ret_seq ?_
   refine end1 (v := .sc _) rfl ?_
   exact out_i (oe_1 (by omega))
  have hb4R := hb4; simp only [z1, z2, z3, z4, z5, z6, ne_eq, z7, z8, z9, z10, z11, z12] at hb4
  refine pwp_skip ?_
  refine seq_norm (hK3 _ ?_); clear hK3 K3
  refine pwp_seq_seq ?_
  refine pwp_seq_gops rfl fun K6 hK6 => ?_
  refine g_begin ?_
  refine g_step rfl rfl rfl rfl (e_faP (pl := [(0, 1, false), (1, 1, false), (2, 1, false)]) rfl (by kernel_rfl) (by kernel_rfl) (by decide) rfl) trivial ?_
  refine g_step rfl rfl rfl rfl (e_loadH (v := .lit _ _ _) rfl (hset_self _ _ _) (by kernel_rfl) (by kernel_rfl) (by kernel_rfl) (by exact Nat.zero_lt_one) (by decide) rfl) trivial ?_
  refine g_step rfl rfl rfl rfl (e_len rfl (by kernel_rfl)) trivial ?_
  refine g_step rfl rfl rfl rfl (e_gt rfl rfl) trivial ?_
  refine g_step rfl rfl rfl rfl (e_move (v := .sc _) rfl) trivial ?_
  refine g_cases (fun hb7 => ?_) (fun hb7 => ?_)
  ·have hb7R := hb7; simp only [z1, z2, z3, z4, z5, z6, ne_eq, z7, z8, z9, z10, z11, z12] at hb7
   refine g_skip rfl rfl rfl ?_
   refine g_skip rfl rfl rfl ?_
   refine g_skip rfl rfl rfl ?_
   refine g_skip rfl rfl rfl ?_
   refine g_step rfl rfl rfl rfl (e_pickT (v := .sc _) rfl rfl) trivial ?_
   refine g_end (ds := [15, 16, 17, 18]) rfl rfl (hK6 _ ?_); clear hK6 K6
   refine pwp_seq_cond (t := true) rfl fun K8 hK8 => ⟨fun _ => ?_, nofun⟩
   refine pwp_seq_plain rfl fun K9 hK9 => ?_
   refine p_step rfl (e_assign (v := .sc _) rfl) trivial ?_
   refine p_end (hK9 _ ?_); clear hK9 K9
   refine pwp_ret ?_
   refine ret_seq ?_
   refine end1 (v := .sc _) rfl ?_
   exact out_i (oe_2 (by omega) (by omega))
  have hb7R := hb7; simp only [z1, z2, z3, z4, z5, z6, ne_eq, z7, z8, z9, z10, z11, z12] at hb7
  refine g_step rfl rfl rfl rfl (e_faP (pl := [(0, 1, false), (1, 1, false), (2, 1, false)]) rfl (by kernel_rfl) (by kernel_rfl) (by decide) rfl) trivial ?_
  refine g_step rfl rfl rfl rfl (e_loadH (v := .lit _ _ _) rfl (hset_self _ _ _) (by kernel_rfl) (by kernel_rfl) (by kernel_rfl) (by exact Nat.zero_lt_one) (by decide) rfl) trivial ?_
  refine g_step rfl rfl rfl rfl (e_len rfl (by kernel_rfl)) trivial ?_
  refine g_step rfl rfl rfl rfl (e_gt rfl rfl) trivial ?_
  refine g_step rfl rfl rfl rfl (e_pickF (v := .sc _) rfl rfl) trivial ?_
  refine g_end (ds := [15, 16, 17, 18]) rfl rfl (hK6 _ ?_); clear hK6 K6
  refine pwp_seq_cond rfl fun K10 hK10 => ⟨fun hb11 => ?_, fun hb11 => ?_⟩
  ·have hb11R := hb11; simp only [z1, z2, z3, z4, z5, z6, ne_eq, z7, z8, z9, z10, z11, z12] at hb11
   refine pwp_seq_plain rfl fun K12 hK12 => ?_
   refine p_step rfl (e_assign (v := .sc _) rfl) trivial ?_
   refine p_end (hK12 _ ?_); clear hK12 K12
   refine pwp_ret ?_
   refine ret_seq ?_
   refine end1 (v := .sc _) rfl ?_
   exact out_i (oe_2 (by omega) (by omega))
  have hb11R := hb11; simp only [z1, z2, z3, z4, z5, z6, ne_eq, z7, z8, z9, z10, z11, z12] at hb11
  refine pwp_skip ?_
  refine seq_norm (hK10 _ ?_); clear hK10 K10
  refine pwp_seq_seq ?_
  refine pwp_seq_plain rfl fun K13 hK13 => ?_
  refine p_step rfl (e_faP (pl := [(0, 1, false), (1, 1, false), (2, 1, false)]) rfl (by kernel_rfl) (by kernel_rfl) (by decide) rfl) trivial ?_
  refine p_step rfl (e_loadH (v := .lit _ _ _) rfl (hset_self _ _ _) (by kernel_rfl) (by kernel_rfl) (by kernel_rfl) (by exact Nat.zero_lt_one) (by decide) rfl) trivial ?_
  refine p_call rfl (.cons inn_lit (.cons inn_sc .nil)) (checkWnt _ _ (by omega) (by assumption)) ?_
  refine p_step rfl (e_assign (v := .sc _) rfl) trivial ?_
  refine p_end (hK13 _ ?_); clear hK13 K13
  refine pwp_seq_seq ?_
  refine pwp_seq_plain rfl fun K14 hK14 => ?_
  refine p_step rfl (e_move (v := .sc _) rfl) trivial ?_
  refine p_step rfl (e_ne rfl rfl) trivial ?_
  refine p_end (hK14 _ ?_); clear hK14 K14
  refine pwp_seq_cond rfl fun K15 hK15 => ⟨fun hb16 => ?_, fun hb16 => ?_⟩
  ·have hb16R := hb16; simp only [z1, z2, z3, z4, z5, z6, ne_eq, z7, z8, z9, z10, z11, z12] at hb16
   refine pwp_seq_plain rfl fun K17 hK17 => ?_
   refine p_step rfl (e_move (v := .sc _) rfl) trivial ?_
   refine p_step rfl (e_assign (v := .sc _) rfl) trivial ?_
   refine p_end (hK17 _ ?_); clear hK17 K17
   refine pwp_ret ?_
   refine ret_seq ?_
   refine end1 (v := .sc _) rfl ?_
   exact out_i (oe_3 (by omega) (by omega) rfl (by assumption))
  have hb16R := hb16; simp only [z1, z2, z3, z4, z5, z6, ne_eq, z7, z8, z9, z10, z11, z12] at hb16; have hw0 : wntE 1 o.wants = 0 := hb16
  refine pwp_skip ?_
  refine seq_norm (hK15 _ ?_); clear hK15 K15
  refine pwp_seq_seq ?_
  refine pwp_seq_plain rfl fun K18 hK18 => ?_
  refine p_step rfl (e_faP (pl := [(0, 1, false), (1, 1, false), (2, 1, false)]) rfl (by kernel_rfl) (by kernel_rfl) (by decide) rfl) trivial ?_
  refine p_step rfl (e_loadH (v := .lit _ _ _) rfl (hset_self _ _ _) (by kernel_rfl) (by kernel_rfl) (by kernel_rfl) (by exact Nat.zero_lt_one) (by decide) rfl) trivial ?_
  refine p_step rfl (e_len rfl (by kernel_rfl)) trivial ?_
  refine p_step rfl (e_move (v := .sc _) rfl) trivial ?_
  refine p_end (hK18 _ ?_); clear hK18 K18
  refine pwp_seq_block fun K19 hK19 => ?_
  refine pwp_loopR (α := Nat) [27, 28] (fun (k : Nat) => [(29, .int (k))]) (fun (k : Nat) (h : Heap) (_ : Nat → Nat) => ((k) ≤ o.swaps.length) ∧ (swapsE o.swaps = swapsE (o.swaps.drop (k)))) (fun (k : Nat) => o.swaps.length - (k)) (0) (by exact ⟨rfl, trivial⟩) (by exact ⟨by exact Nat.zero_le _, by exact rfl⟩) fun k r20 h21 c22 hj23 => ?_
  obtain ⟨hk, hinv⟩ := hj23
  try dsimp only at hk
  try dsimp only at hinv
  show pwp _ _ (loopQ _ _ _) ⟨sets (mix _ _ _) [(29, .int k)], _, _⟩
  refine pwp_seq_plain rfl fun K24 hK24 => ?_
  refine p_step rfl (e_lt rfl rfl) trivial ?_
  refine p_end (hK24 _ ?_); clear hK24 K24
  refine pwp_seq_cond rfl fun K25 hK25 => ⟨fun hb26 => ?_, fun hb26 => ?_⟩
  ·have hb26R := hb26; simp only [z1, z2, z3, z4, z5, z6, ne_eq, z7, z8, z9, z10, z11, z12] at hb26
   obtain ⟨x, hx, hd, ht⟩ := get_lt (xs := o.swaps) (i := k) (by omega)
   rw [hd] at hinv
   have hsz := szz hs2 hx
   refine pwp_skip ?_
   refine seq_norm (hK25 _ ?_); clear hK25 K25
   refine pwp_seq_block fun K27 hK27 => ?_
   refine pwp_seq_plain rfl fun K28 hK28 => ?_
   refine p_step rfl (e_ixa rfl rfl (by kernel_rfl) (by kernel_rfl) (by simp only [List.length_map]; omega)) trivial ?_
   refine p_step rfl (e_loadA (n := 3) rfl (by kernel_rfl) (by kernel_rfl) (by kernel_rfl) (by simp only [List.length_map]; omega) (by decide) (by first | exact agg_map hx rfl)) trivial ?_
   refine p_new rfl (e_alloc (cs := [.str ByteArray.empty, .str ByteArray.empty, .int 0]) (n := 3) (by kernel_rfl) rfl (by decide)) (ob_alloc (by decide)) ?_
   refine p_store rfl (e_storeA rfl (hset_self _ _ _) rfl rfl rfl (by kernel_rfl) rfl (by kernel_rfl)) trivial ?_
   refine p_end (hK28 _ ?_); clear hK28 K28
   refine pwp_block ?_
   refine pwp_seq_gops rfl fun K29 hK29 => ?_
   refine g_begin ?_
   refine g_step rfl rfl rfl rfl (e_faP (pl := [(0, 1, false), (1, 1, false), (2, 1, false)]) rfl (by kernel_rfl) (by kernel_rfl) (by decide) rfl) trivial ?_
   refine g_step rfl rfl rfl rfl (e_loadH (v := .sc _) rfl (hset_self _ _ _) (by kernel_rfl) (by kernel_rfl) (by kernel_rfl) (by exact Nat.zero_lt_one) (by decide) rfl) trivial ?_
   refine g_call rfl rfl rfl rfl (.cons inn_sc .nil) (isName _ (by omega)) ?_
   refine g_step rfl rfl rfl rfl (e_not rfl) trivial ?_
   refine g_step rfl rfl rfl rfl (e_move (v := .sc _) rfl) trivial ?_
   refine g_cases (fun hb30 => ?_) (fun hb30 => ?_)
   ·have hb30R := hb30; simp only [z1, z2, z3, z4, z5, z6, ne_eq, z7, z8, z9, z10, z11, z12] at hb30
    refine g_skip rfl rfl rfl ?_
    refine g_skip rfl rfl rfl ?_
    refine g_nocall rfl rfl rfl ?_
    refine g_skip rfl rfl rfl ?_
    refine g_step rfl rfl rfl rfl (e_pickT (v := .sc _) rfl rfl) trivial ?_
    refine g_step rfl rfl rfl rfl (e_assign (v := .sc _) rfl) trivial ?_
    refine g_end (ds := [39, 40, 41, 42]) rfl rfl (hK29 _ ?_); clear hK29 K29
    refine pwp_cond (t := true) rfl (fun _ => ?_) nofun
    refine pwp_seq_plain rfl fun K31 hK31 => ?_
    refine p_step rfl (e_assign (v := .sc _) rfl) trivial ?_
    refine p_end (hK31 _ ?_); clear hK31 K31
    refine pwp_ret ?_
    refine ret_block ?_
    refine ret_block ?_
    refine ret_seq ?_
    refine ret_loop ?_
    refine ret_block ?_
    refine ret_seq ?_
    refine end1 (v := .sc _) rfl ?_
    exact out_i (oe_4 (by omega) (by omega) hw0 (sw_1 hinv (by assumption)))
   have hb30R := hb30; simp only [z1, z2, z3, z4, z5, z6, ne_eq, z7, z8, z9, z10, z11, z12] at hb30
   refine g_step rfl rfl rfl rfl (e_faP (pl := [(0, 1, false), (1, 1, false), (2, 1, false)]) rfl (by kernel_rfl) (by kernel_rfl) (by decide) rfl) trivial ?_
   refine g_step rfl rfl rfl rfl (e_loadH (v := .sc _) rfl (hset_self _ _ _) (by kernel_rfl) (by kernel_rfl) (by kernel_rfl) (by exact Nat.zero_lt_one) (by decide) rfl) trivial ?_
   refine g_call rfl rfl rfl rfl (.cons inn_sc .nil) (isName _ (by omega)) ?_
   refine g_step rfl rfl rfl rfl (e_not rfl) trivial ?_
   refine g_step rfl rfl rfl rfl (e_pickF (v := .sc _) rfl rfl) trivial ?_
   refine g_step rfl rfl rfl rfl (e_assign (v := .sc _) rfl) trivial ?_
   refine g_end (ds := [39, 40, 41, 42]) rfl rfl (hK29 _ ?_); clear hK29 K29
   refine pwp_cond rfl (fun hb32 => ?_) (fun hb32 => ?_)
   ·have hb32R := hb32; simp only [z1, z2, z3, z4, z5, z6, ne_eq, z7, z8, z9, z10, z11, z12] at hb32
    refine pwp_seq_plain rfl fun K33 hK33 => ?_
    refine p_step rfl (e_assign (v := .sc _) rfl) trivial ?_
    refine p_end (hK33 _ ?_); clear hK33 K33
    refine pwp_ret ?_
    refine ret_block ?_
    refine ret_block ?_
    refine ret_seq ?_
    refine ret_loop ?_
    refine ret_block ?_
    refine ret_seq ?_
    refine end1 (v := .sc _) rfl ?_
    exact out_i (oe_4 (by omega) (by omega) hw0 (sw_1b hinv (by assumption)))
   have hb32R := hb32; simp only [z1, z2, z3, z4, z5, z6, ne_eq, z7, z8, z9, z10, z11, z12] at hb32
   refine pwp_seq_plain rfl fun K34 hK34 => ?_
   refine p_step rfl (e_faP (pl := [(0, 1, false), (1, 1, false), (2, 1, false)]) rfl (by kernel_rfl) (by kernel_rfl) (by decide) rfl) trivial ?_
   refine p_step rfl (e_loadH (v := .sc _) rfl (hset_self _ _ _) (by kernel_rfl) (by kernel_rfl) (by kernel_rfl) (by exact Nat.zero_lt_one) (by decide) rfl) trivial ?_
   refine p_step rfl (e_faP (pl := [(0, 1, false), (1, 1, false), (2, 1, false)]) rfl (by kernel_rfl) (by kernel_rfl) (by decide) rfl) trivial ?_
   refine p_step rfl (e_loadH (v := .sc _) rfl (hset_self _ _ _) (by kernel_rfl) (by kernel_rfl) (by kernel_rfl) (by exact Nat.zero_lt_one) (by decide) rfl) trivial ?_
   refine p_step rfl (e_seq rfl rfl) trivial ?_
   refine p_step rfl (e_assign (v := .sc _) rfl) trivial ?_
   refine p_end (hK34 _ ?_); clear hK34 K34
   refine pwp_cond rfl (fun hb35 => ?_) (fun hb35 => ?_)
   ·have hb35R := hb35; simp only [z1, z2, z3, z4, z5, z6, ne_eq, z7, z8, z9, z10, z11, z12] at hb35
    refine pwp_seq_plain rfl fun K36 hK36 => ?_
    refine p_step rfl (e_assign (v := .sc _) rfl) trivial ?_
    refine p_end (hK36 _ ?_); clear hK36 K36
    refine pwp_ret ?_
    refine ret_block ?_
    refine ret_block ?_
    refine ret_seq ?_
    refine ret_loop ?_
    refine ret_block ?_
    refine ret_seq ?_
    refine end1 (v := .sc _) rfl ?_
    exact out_i (oe_4 (by omega) (by omega) hw0 (sw_2 hinv (by assumption) (by assumption) (by assumption)))
   have hb35R := hb35; simp only [z1, z2, z3, z4, z5, z6, ne_eq, z7, z8, z9, z10, z11, z12] at hb35
   refine pwp_seq_plain rfl fun K37 hK37 => ?_
   refine p_step rfl (e_faP (pl := [(0, 1, false), (1, 1, false), (2, 1, false)]) rfl (by kernel_rfl) (by kernel_rfl) (by decide) rfl) trivial ?_
   refine p_step rfl (e_loadH (v := .sc _) rfl (hset_self _ _ _) (by kernel_rfl) (by kernel_rfl) (by kernel_rfl) (by exact Nat.zero_lt_one) (by decide) rfl) trivial ?_
   refine p_call rfl (.cons inn_sc (.cons inn_sc (.cons inn_sc .nil))) (within _ _ _) ?_
   refine p_step rfl (e_not rfl) trivial ?_
   refine p_step rfl (e_assign (v := .sc _) rfl) trivial ?_
   refine p_end (hK37 _ ?_); clear hK37 K37
   refine pwp_cond rfl (fun hb38 => ?_) (fun hb38 => ?_)
   ·have hb38R := hb38; simp only [z1, z2, z3, z4, z5, z6, ne_eq, z7, z8, z9, z10, z11, z12] at hb38
    refine pwp_seq_plain rfl fun K39 hK39 => ?_
    refine p_step rfl (e_assign (v := .sc _) rfl) trivial ?_
    refine p_end (hK39 _ ?_); clear hK39 K39
    refine pwp_ret ?_
    refine ret_block ?_
    refine ret_block ?_
    refine ret_seq ?_
    refine ret_loop ?_
    refine ret_block ?_
    refine ret_seq ?_
    refine end1 (v := .sc _) rfl ?_
    exact out_i (oe_4 (by omega) (by omega) hw0 (sw_3 hinv (by assumption) (by assumption) (by assumption) (by omega)))
   have hb38R := hb38; simp only [z1, z2, z3, z4, z5, z6, ne_eq, z7, z8, z9, z10, z11, z12] at hb38
   refine pwp_skip ?_
   refine block_norm ?_
   refine block_norm ?_
   refine seq_norm (hK27 _ ?_); clear hK27 K27
   refine pwp_plain rfl fun K40 hK40 => ?_
   refine p_step rfl (e_add rfl rfl (by omega)) trivial ?_
   refine p_step rfl (e_move (v := .sc _) rfl) trivial ?_
   refine p_end (hK40 _ ?_); clear hK40 K40
   exact loop_again (k + 1) (by show _ < _; omega) ⟨rfl, rfl, trivial⟩ ⟨rfl, trivial⟩ (by exact ⟨by show _ + 1 ≤ _; omega, by exact sw_4 hinv (by assumption) (by assumption) (by assumption) (by omega)⟩)
  have hb26R := hb26; simp only [z1, z2, z3, z4, z5, z6, ne_eq, z7, z8, z9, z10, z11, z12] at hb26
  obtain rfl : k = o.swaps.length := by omega
  rw [List.drop_length] at hinv; simp only [swapsE] at hinv
  refine pwp_exit ?_
  refine exit_seq ?_
  clear hK25 K25
  refine exit_loop ?_
  refine exit_here ?_
  refine seq_norm (hK19 _ ?_); clear hK19 K19
  refine pwp_seq_plain rfl fun K41 hK41 => ?_
  refine p_step rfl (e_assign (v := .sc _) rfl) trivial ?_
  refine p_end (hK41 _ ?_); clear hK41 K41
  refine pwp_ret ?_
  refine end1 (v := .sc _) rfl ?_
  exact out_i (oe_4 (by omega) (by omega) hw0 (hinv))

theorem fr23 : (inFrame Tryd.f23.ntmps (Tryd.f23.body.getD .skip) && Tryd.f23.results.toList.all (resScope Tryd.f23.ntmps)) = true := by kernel_rfl
theorem refCheckOrder (o : Order) (h1 : o.wants.length ≤ 70) (h2 : o.swaps.length ≤ 70) (hs : ∀ x ∈ o.wants, x.part.size ≤ 30) (hs2 : ∀ x ∈ o.swaps, x.part.size ≤ 30 ∧ x.via.size ≤ 30) : PCalls Tryd.prog 23 [.agg o.enc] (.int (orderE o)) := by
  refine PCalls.of_code Tryd.func23 rfl rfl (by kernel_rfl) mixed fr23 (by show _ ≤ 74; simp) (.sc _) ?_
  refine pwp_seq_plain rfl fun K1 hK1 => ?_
  refine p_new rfl (e_box (n := 3) rfl rfl) ⟨rfl, by decide⟩ ?_
  refine p_step rfl (e_assign (v := .sc _) rfl) trivial ?_
  refine p_end (hK1 _ ?_); clear hK1 K1
  refine pwp_seq_seq ?_
  refine pwp_seq_plain rfl fun K2 hK2 => ?_
  refine p_step rfl (e_faP (pl := [(0, 1, false), (1, 1, false), (2, 1, false)]) rfl (by kernel_rfl) (by kernel_rfl) (by decide) rfl) trivial ?_
  refine p_step rfl (e_loadH (v := .sc _) rfl (hset_self _ _ _) (by kernel_rfl) (by kernel_rfl) (by kernel_rfl) (by exact Nat.zero_lt_one) (by decide) rfl) trivial ?_
  refine p_call rfl (.cons inn_sc (.cons inn_sc (.cons inn_sc .nil))) (Within _ _ _) ?_
  refine p_step rfl (e_not rfl) trivial ?_
  refine p_end (hK2 _ ?_); clear hK2 K2
  refine pwp_seq_cond rfl fun K3 hK3 => ⟨fun hb4 => ?_, fun hb4 => ?_⟩
  ·have hb4R := hb4; try simp only [z1, z2, z3, z4, z5, z6, ne_eq, z7, z8, z9, z10, z11, z12] at hb4
   refine pwp_seq_plain rfl fun K5 hK5 => ?_
   refine p_step rfl (e_assign (v := .sc _) rfl) trivial ?_
   refine p_end (hK5 _ ?_); clear hK5 K5
   refine pwp_ret ?_
   refine ret_seq ?_
   refine end1 (v := .sc _) rfl ?_
   exact out_i (oe_1 (by omega))
  have hb4R := hb4; try simp only [z1, z2, z3, z4, z5, z6, ne_eq, z7, z8, z9, z10, z11, z12] at hb4
  refine pwp_skip ?_
  refine seq_norm (hK3 _ ?_); clear hK3 K3
  refine pwp_seq_seq ?_
  refine pwp_seq_gops rfl fun K6 hK6 => ?_
  refine g_begin ?_
  refine g_step rfl rfl rfl rfl (e_faP (pl := [(0, 1, false), (1, 1, false), (2, 1, false)]) rfl (by kernel_rfl) (by kernel_rfl) (by decide) rfl) trivial ?_
  refine g_step rfl rfl rfl rfl (e_loadH (v := .lit _ _ _) rfl (hset_self _ _ _) (by kernel_rfl) (by kernel_rfl) (by kernel_rfl) (by exact Nat.zero_lt_one) (by decide) rfl) trivial ?_
  refine g_step rfl rfl rfl rfl (e_len rfl (by kernel_rfl)) trivial ?_
  refine g_step rfl rfl rfl rfl (e_gt rfl rfl) trivial ?_
  refine g_step rfl rfl rfl rfl (e_move (v := .sc _) rfl) trivial ?_
  refine g_cases (fun hb7 => ?_) (fun hb7 => ?_)
  ·have hb7R := hb7; try simp only [z1, z2, z3, z4, z5, z6, ne_eq, z7, z8, z9, z10, z11, z12] at hb7
   refine g_skip rfl rfl rfl ?_
   refine g_skip rfl rfl rfl ?_
   refine g_skip rfl rfl rfl ?_
   refine g_skip rfl rfl rfl ?_
   refine g_step rfl rfl rfl rfl (e_pickT (v := .sc _) rfl rfl) trivial ?_
   refine g_end (ds := [15, 16, 17, 18]) rfl rfl (hK6 _ ?_); clear hK6 K6
   refine pwp_seq_cond (t := true) rfl fun K8 hK8 => ⟨fun _ => ?_, nofun⟩
   refine pwp_seq_plain rfl fun K9 hK9 => ?_
   refine p_step rfl (e_assign (v := .sc _) rfl) trivial ?_
   refine p_end (hK9 _ ?_); clear hK9 K9
   refine pwp_ret ?_
   refine ret_seq ?_
   refine end1 (v := .sc _) rfl ?_
   exact out_i (oe_2 (by omega) (by omega))
  have hb7R := hb7; try simp only [z1, z2, z3, z4, z5, z6, ne_eq, z7, z8, z9, z10, z11, z12] at hb7
  refine g_step rfl rfl rfl rfl (e_faP (pl := [(0, 1, false), (1, 1, false), (2, 1, false)]) rfl (by kernel_rfl) (by kernel_rfl) (by decide) rfl) trivial ?_
  refine g_step rfl rfl rfl rfl (e_loadH (v := .lit _ _ _) rfl (hset_self _ _ _) (by kernel_rfl) (by kernel_rfl) (by kernel_rfl) (by exact Nat.zero_lt_one) (by decide) rfl) trivial ?_
  refine g_step rfl rfl rfl rfl (e_len rfl (by kernel_rfl)) trivial ?_
  refine g_step rfl rfl rfl rfl (e_gt rfl rfl) trivial ?_
  refine g_step rfl rfl rfl rfl (e_pickF (v := .sc _) rfl rfl) trivial ?_
  refine g_end (ds := [15, 16, 17, 18]) rfl rfl (hK6 _ ?_); clear hK6 K6
  refine pwp_seq_cond rfl fun K10 hK10 => ⟨fun hb11 => ?_, fun hb11 => ?_⟩
  ·have hb11R := hb11; try simp only [z1, z2, z3, z4, z5, z6, ne_eq, z7, z8, z9, z10, z11, z12] at hb11
   refine pwp_seq_plain rfl fun K12 hK12 => ?_
   refine p_step rfl (e_assign (v := .sc _) rfl) trivial ?_
   refine p_end (hK12 _ ?_); clear hK12 K12
   refine pwp_ret ?_
   refine ret_seq ?_
   refine end1 (v := .sc _) rfl ?_
   exact out_i (oe_2 (by omega) (by omega))
  have hb11R := hb11; try simp only [z1, z2, z3, z4, z5, z6, ne_eq, z7, z8, z9, z10, z11, z12] at hb11
  refine pwp_skip ?_
  refine seq_norm (hK10 _ ?_); clear hK10 K10
  refine pwp_seq_seq ?_
  refine pwp_seq_plain rfl fun K13 hK13 => ?_
  refine p_step rfl (e_assign (v := .sc _) rfl) trivial ?_
  refine p_end (hK13 _ ?_); clear hK13 K13
  refine pwp_seq_block fun K14 hK14 => ?_
  refine pwp_loopR (α := Nat) [1] (fun (k : Nat) => [(3, .int (k))]) (fun (k : Nat) (h : Heap) (_ : Nat → Nat) => ((k) ≤ o.wants.length) ∧ (wntE 1 o.wants = wntE 1 (o.wants.drop (k))) ∧ (h (1, 0) = some (.rows 3 [Order.enc o]))) (fun (k : Nat) => o.wants.length - (k)) (0) (by exact ⟨rfl, trivial⟩) (by exact ⟨by exact Nat.zero_le _, by exact rfl, (hset_self _ _ _)⟩) fun k r15 h16 c17 hj18 => ?_
  obtain ⟨hk, hinv, hihj18_0⟩ := hj18
  try dsimp only at hk
  try dsimp only at hinv
  try dsimp only at hihj18_0
  show pwp _ _ (loopQ _ _ _) ⟨sets (mix _ _ _) [(3, .int k)], _, _⟩
  refine pwp_seq_seq ?_
  refine pwp_seq_plain rfl fun K19 hK19 => ?_
  refine p_step rfl (e_move (v := .sc _) rfl) trivial ?_
  refine p_step rfl (e_faP (pl := [(0, 1, false), (1, 1, false), (2, 1, false)]) rfl (by kernel_rfl) (by kernel_rfl) (by decide) rfl) trivial ?_
  refine p_step rfl (e_loadH (v := .lit _ _ _) rfl hihj18_0 (by kernel_rfl) (by kernel_rfl) (by kernel_rfl) (by exact Nat.zero_lt_one) (by decide) rfl) trivial ?_
  refine p_step rfl (e_len rfl (by kernel_rfl)) trivial ?_
  refine p_step rfl (e_lt rfl rfl) trivial ?_
  refine p_end (hK19 _ ?_); clear hK19 K19
  refine pwp_seq_cond rfl fun K20 hK20 => ⟨fun hb21 => ?_, fun hb21 => ?_⟩
  ·have hb21R := hb21; try simp only [z1, z2, z3, z4, z5, z6, ne_eq, z7, z8, z9, z10, z11, z12] at hb21
   obtain ⟨x, hx, hd, ht⟩ := get_lt (xs := o.wants) (i := k) (by omega)
   rw [hd] at hinv; simp only [wntE] at hinv
   have hsz := wzz hs hx
   refine pwp_skip ?_
   refine seq_norm (hK20 _ ?_); clear hK20 K20
   refine pwp_seq_block fun K22 hK22 => ?_
   refine pwp_seq_seq ?_
   refine pwp_seq_plain rfl fun K23 hK23 => ?_
   refine p_step rfl (e_faP (pl := [(0, 1, false), (1, 1, false), (2, 1, false)]) rfl (by kernel_rfl) (by kernel_rfl) (by decide) rfl) trivial ?_
   refine p_step rfl (e_loadH (v := .lit _ _ _) rfl hihj18_0 (by kernel_rfl) (by kernel_rfl) (by kernel_rfl) (by exact Nat.zero_lt_one) (by decide) rfl) trivial ?_
   refine p_step rfl (e_move (v := .sc _) rfl) trivial ?_
   refine p_step rfl (e_ixa rfl rfl (by kernel_rfl) (by kernel_rfl) (by simp only [List.length_map]; omega)) trivial ?_
   refine p_step rfl (e_fa (pl := [(0, 1, false), (1, 1, false)]) rfl (by kernel_rfl) (by kernel_rfl) (by decide) rfl) trivial ?_
   refine p_step rfl (e_load (v := .sc _) rfl (by kernel_rfl) (by kernel_rfl) (by kernel_rfl) (by simp only [List.length_map]; omega) (by decide) ((cell_map hx _).trans rfl)) trivial ?_
   refine p_call rfl (.cons inn_sc .nil) (IsName _) ?_
   refine p_step rfl (e_not rfl) trivial ?_
   refine p_end (hK23 _ ?_); clear hK23 K23
   refine pwp_seq_cond rfl fun K24 hK24 => ⟨fun hb25 => ?_, fun hb25 => ?_⟩
   ·have hb25R := hb25; try simp only [z1, z2, z3, z4, z5, z6, ne_eq, z7, z8, z9, z10, z11, z12] at hb25
    refine pwp_seq_plain rfl fun K26 hK26 => ?_
    refine p_step rfl (e_assign (v := .sc _) rfl) trivial ?_
    refine p_end (hK26 _ ?_); clear hK26 K26
    refine pwp_ret ?_
    refine ret_seq ?_
    refine ret_block ?_
    refine ret_seq ?_
    refine ret_loop ?_
    refine ret_block ?_
    refine ret_seq ?_
    refine end1 (v := .sc _) rfl ?_
    exact out_i (oe_3 (by omega) (by omega) (by rw [hinv, if_pos (by assumption)]) (by decide))
   have hb25R := hb25; try simp only [z1, z2, z3, z4, z5, z6, ne_eq, z7, z8, z9, z10, z11, z12] at hb25
   refine pwp_skip ?_
   refine seq_norm (hK24 _ ?_); clear hK24 K24
   refine pwp_seq_plain rfl fun K27 hK27 => ?_
   refine p_step rfl (e_faP (pl := [(0, 1, false), (1, 1, false), (2, 1, false)]) rfl (by kernel_rfl) (by kernel_rfl) (by decide) rfl) trivial ?_
   refine p_step rfl (e_loadH (v := .lit _ _ _) rfl hihj18_0 (by kernel_rfl) (by kernel_rfl) (by kernel_rfl) (by exact Nat.zero_lt_one) (by decide) rfl) trivial ?_
   refine p_step rfl (e_move (v := .sc _) rfl) trivial ?_
   refine p_step rfl (e_ixa rfl rfl (by kernel_rfl) (by kernel_rfl) (by simp only [List.length_map]; omega)) trivial ?_
   refine p_step rfl (e_fa (pl := [(0, 1, false), (1, 1, false)]) rfl (by kernel_rfl) (by kernel_rfl) (by decide) rfl) trivial ?_
   refine p_step rfl (e_load (v := .sc _) rfl (by kernel_rfl) (by kernel_rfl) (by kernel_rfl) (by simp only [List.length_map]; omega) (by decide) ((cell_map hx _).trans rfl)) trivial ?_
   refine p_call rfl (.cons inn_sc (.cons inn_sc (.cons inn_sc .nil))) (Within _ _ _) ?_
   refine p_step rfl (e_not rfl) trivial ?_
   refine p_end (hK27 _ ?_); clear hK27 K27
   refine pwp_cond rfl (fun hb28 => ?_) (fun hb28 => ?_)
   ·have hb28R := hb28; try simp only [z1, z2, z3, z4, z5, z6, ne_eq, z7, z8, z9, z10, z11, z12] at hb28
    refine pwp_seq_plain rfl fun K29 hK29 => ?_
    refine p_step rfl (e_assign (v := .sc _) rfl) trivial ?_
    refine p_end (hK29 _ ?_); clear hK29 K29
    refine pwp_ret ?_
    refine ret_block ?_
    refine ret_seq ?_
    refine ret_loop ?_
    refine ret_block ?_
    refine ret_seq ?_
    refine end1 (v := .sc _) rfl ?_
    exact out_i (oe_3 (by omega) (by omega) (by rw [hinv, if_neg (by rw [Bool.not_eq_false]; assumption), if_pos (by omega)]) (by decide))
   have hb28R := hb28; try simp only [z1, z2, z3, z4, z5, z6, ne_eq, z7, z8, z9, z10, z11, z12] at hb28
   refine pwp_skip ?_
   refine block_norm ?_
   refine seq_norm (hK22 _ ?_); clear hK22 K22
   refine pwp_plain rfl fun K30 hK30 => ?_
   refine p_step rfl (e_move (v := .sc _) rfl) trivial ?_
   refine p_step rfl (e_add rfl rfl (by omega)) trivial ?_
   refine p_step rfl (e_assign (v := .sc _) rfl) trivial ?_
   refine p_end (hK30 _ ?_); clear hK30 K30
   rw [if_neg (by rw [Bool.not_eq_false]; assumption), if_neg (by omega)] at hinv
   exact loop_again (k + 1) (by show _ < _; omega) ⟨rfl, trivial⟩ ⟨rfl, trivial⟩ (by exact ⟨by show _ + 1 ≤ _; omega, by exact hinv, hihj18_0⟩)
  have hb21R := hb21; try simp only [z1, z2, z3, z4, z5, z6, ne_eq, z7, z8, z9, z10, z11, z12] at hb21
  obtain rfl : k = o.wants.length := by omega
  rw [List.drop_length] at hinv; simp only [wntE] at hinv
  have hw0 := hinv
  clear hinv
  refine pwp_exit ?_
  refine exit_seq ?_
  clear hK20 K20
  refine exit_loop ?_
  refine exit_here ?_
  refine seq_norm (hK14 _ ?_); clear hK14 K14
  refine pwp_seq_seq ?_
  refine pwp_seq_plain rfl fun K31 hK31 => ?_
  refine p_step rfl (e_assign (v := .sc _) rfl) trivial ?_
  refine p_end (hK31 _ ?_); clear hK31 K31
  refine pwp_seq_block fun K32 hK32 => ?_
  refine pwp_loopR (α := Nat) [1] (fun (k : Nat) => [(4, .int (k))]) (fun (k : Nat) (h : Heap) (_ : Nat → Nat) => ((k) ≤ o.swaps.length) ∧ (swapsE o.swaps = swapsE (o.swaps.drop (k))) ∧ (h (1, 0) = some (.rows 3 [Order.enc o]))) (fun (k : Nat) => o.swaps.length - (k)) (0) (by exact ⟨rfl, trivial⟩) (by exact ⟨by exact Nat.zero_le _, by exact rfl, hihj18_0⟩) fun k r33 h34 c35 hj36 => ?_
  obtain ⟨hk, hinv, hihj36_0⟩ := hj36
  try dsimp only at hk
  try dsimp only at hinv
  try dsimp only at hihj36_0
  show pwp _ _ (loopQ _ _ _) ⟨sets (mix _ _ _) [(4, .int k)], _, _⟩
  refine pwp_seq_seq ?_
  refine pwp_seq_plain rfl fun K37 hK37 => ?_
  refine p_step rfl (e_move (v := .sc _) rfl) trivial ?_
  refine p_step rfl (e_faP (pl := [(0, 1, false), (1, 1, false), (2, 1, false)]) rfl (by kernel_rfl) (by kernel_rfl) (by decide) rfl) trivial ?_
  refine p_step rfl (e_loadH (v := .lit _ _ _) rfl hihj36_0 (by kernel_rfl) (by kernel_rfl) (by kernel_rfl) (by exact Nat.zero_lt_one) (by decide) rfl) trivial ?_
  refine p_step rfl (e_len rfl (by kernel_rfl)) trivial ?_
  refine p_step rfl (e_lt rfl rfl) trivial ?_
  refine p_end (hK37 _ ?_); clear hK37 K37
  refine pwp_seq_cond rfl fun K38 hK38 => ⟨fun hb39 => ?_, fun hb39 => ?_⟩
  ·have hb39R := hb39; try simp only [z1, z2, z3, z4, z5, z6, ne_eq, z7, z8, z9, z10, z11, z12] at hb39
   obtain ⟨x, hx, hd, ht⟩ := get_lt (xs := o.swaps) (i := k) (by omega)
   rw [hd] at hinv
   have hsz := szz hs2 hx
   refine pwp_skip ?_
   refine seq_norm (hK38 _ ?_); clear hK38 K38
   refine pwp_seq_block fun K40 hK40 => ?_
   refine pwp_seq_plain rfl fun K41 hK41 => ?_
   refine p_step rfl (e_faP (pl := [(0, 1, false), (1, 1, false), (2, 1, false)]) rfl (by kernel_rfl) (by kernel_rfl) (by decide) rfl) trivial ?_
   refine p_step rfl (e_loadH (v := .lit _ _ _) rfl hihj36_0 (by kernel_rfl) (by kernel_rfl) (by kernel_rfl) (by exact Nat.zero_lt_one) (by decide) rfl) trivial ?_
   refine p_step rfl (e_move (v := .sc _) rfl) trivial ?_
   refine p_step rfl (e_ixa rfl rfl (by kernel_rfl) (by kernel_rfl) (by simp only [List.length_map]; omega)) trivial ?_
   refine p_step rfl (e_loadA (n := 3) rfl (by kernel_rfl) (by kernel_rfl) (by kernel_rfl) (by simp only [List.length_map]; omega) (by decide) (by first | exact agg_map hx rfl)) trivial ?_
   refine p_new rfl (e_alloc (cs := [.str ByteArray.empty, .str ByteArray.empty, .int 0]) (n := 3) (by kernel_rfl) rfl (by decide)) (ob_alloc (by decide)) ?_
   refine p_store rfl (e_storeA rfl (hset_self _ _ _) rfl rfl rfl (by kernel_rfl) rfl (by kernel_rfl)) trivial ?_
   refine p_end (hK41 _ ?_); clear hK41 K41
   refine pwp_seq_seq ?_
   refine pwp_seq_gops rfl fun K42 hK42 => ?_
   refine g_begin ?_
   refine g_step rfl rfl rfl rfl (e_faP (pl := [(0, 1, false), (1, 1, false), (2, 1, false)]) rfl (by kernel_rfl) (by kernel_rfl) (by decide) rfl) trivial ?_
   refine g_step rfl rfl rfl rfl (e_loadH (v := .sc _) rfl (hset_self _ _ _) (by kernel_rfl) (by kernel_rfl) (by kernel_rfl) (by exact Nat.zero_lt_one) (by decide) rfl) trivial ?_
   refine g_call rfl rfl rfl rfl (.cons inn_sc .nil) (IsName _) ?_
   refine g_step rfl rfl rfl rfl (e_not rfl) trivial ?_
   refine g_step rfl rfl rfl rfl (e_move (v := .sc _) rfl) trivial ?_
   refine g_cases (fun hb43 => ?_) (fun hb43 => ?_)
   ·have hb43R := hb43; try simp only [z1, z2, z3, z4, z5, z6, ne_eq, z7, z8, z9, z10, z11, z12] at hb43
    refine g_skip rfl rfl rfl ?_
    refine g_skip rfl rfl rfl ?_
    refine g_nocall rfl rfl rfl ?_
    refine g_skip rfl rfl rfl ?_
    refine g_step rfl rfl rfl rfl (e_pickT (v := .sc _) rfl rfl) trivial ?_
    refine g_end (ds := [60, 61, 62, 63]) rfl rfl (hK42 _ ?_); clear hK42 K42
    refine pwp_seq_cond (t := true) rfl fun K44 hK44 => ⟨fun _ => ?_, nofun⟩
    refine pwp_seq_plain rfl fun K45 hK45 => ?_
    refine p_step rfl (e_assign (v := .sc _) rfl) trivial ?_
    refine p_end (hK45 _ ?_); clear hK45 K45
    refine pwp_ret ?_
    refine ret_seq ?_
    refine ret_block ?_
    refine ret_seq ?_
    refine ret_loop ?_
    refine ret_block ?_
    refine ret_seq ?_
    refine end1 (v := .sc _) rfl ?_
    exact out_i (oe_4 (by omega) (by omega) hw0 (sw_1 hinv (by assumption)))
   have hb43R := hb43; try simp only [z1, z2, z3, z4, z5, z6, ne_eq, z7, z8, z9, z10, z11, z12] at hb43
   refine g_step rfl rfl rfl rfl (e_faP (pl := [(0, 1, false), (1, 1, false), (2, 1, false)]) rfl (by kernel_rfl) (by kernel_rfl) (by decide) rfl) trivial ?_
   refine g_step rfl rfl rfl rfl (e_loadH (v := .sc _) rfl (hset_self _ _ _) (by kernel_rfl) (by kernel_rfl) (by kernel_rfl) (by exact Nat.zero_lt_one) (by decide) rfl) trivial ?_
   refine g_call rfl rfl rfl rfl (.cons inn_sc .nil) (IsName _) ?_
   refine g_step rfl rfl rfl rfl (e_not rfl) trivial ?_
   refine g_step rfl rfl rfl rfl (e_pickF (v := .sc _) rfl rfl) trivial ?_
   refine g_end (ds := [60, 61, 62, 63]) rfl rfl (hK42 _ ?_); clear hK42 K42
   refine pwp_seq_cond rfl fun K46 hK46 => ⟨fun hb47 => ?_, fun hb47 => ?_⟩
   ·have hb47R := hb47; try simp only [z1, z2, z3, z4, z5, z6, ne_eq, z7, z8, z9, z10, z11, z12] at hb47
    refine pwp_seq_plain rfl fun K48 hK48 => ?_
    refine p_step rfl (e_assign (v := .sc _) rfl) trivial ?_
    refine p_end (hK48 _ ?_); clear hK48 K48
    refine pwp_ret ?_
    refine ret_seq ?_
    refine ret_block ?_
    refine ret_seq ?_
    refine ret_loop ?_
    refine ret_block ?_
    refine ret_seq ?_
    refine end1 (v := .sc _) rfl ?_
    exact out_i (oe_4 (by omega) (by omega) hw0 (sw_1b hinv (by assumption)))
   have hb47R := hb47; try simp only [z1, z2, z3, z4, z5, z6, ne_eq, z7, z8, z9, z10, z11, z12] at hb47
   refine pwp_skip ?_
   refine seq_norm (hK46 _ ?_); clear hK46 K46
   refine pwp_seq_seq ?_
   refine pwp_seq_plain rfl fun K49 hK49 => ?_
   refine p_step rfl (e_faP (pl := [(0, 1, false), (1, 1, false), (2, 1, false)]) rfl (by kernel_rfl) (by kernel_rfl) (by decide) rfl) trivial ?_
   refine p_step rfl (e_loadH (v := .sc _) rfl (hset_self _ _ _) (by kernel_rfl) (by kernel_rfl) (by kernel_rfl) (by exact Nat.zero_lt_one) (by decide) rfl) trivial ?_
   refine p_step rfl (e_faP (pl := [(0, 1, false), (1, 1, false), (2, 1, false)]) rfl (by kernel_rfl) (by kernel_rfl) (by decide) rfl) trivial ?_
   refine p_step rfl (e_loadH (v := .sc _) rfl (hset_self _ _ _) (by kernel_rfl) (by kernel_rfl) (by kernel_rfl) (by exact Nat.zero_lt_one) (by decide) rfl) trivial ?_
   refine p_step rfl (e_seq rfl rfl) trivial ?_
   refine p_end (hK49 _ ?_); clear hK49 K49
   refine pwp_seq_cond rfl fun K50 hK50 => ⟨fun hb51 => ?_, fun hb51 => ?_⟩
   ·have hb51R := hb51; try simp only [z1, z2, z3, z4, z5, z6, ne_eq, z7, z8, z9, z10, z11, z12] at hb51
    refine pwp_seq_plain rfl fun K52 hK52 => ?_
    refine p_step rfl (e_assign (v := .sc _) rfl) trivial ?_
    refine p_end (hK52 _ ?_); clear hK52 K52
    refine pwp_ret ?_
    refine ret_seq ?_
    refine ret_block ?_
    refine ret_seq ?_
    refine ret_loop ?_
    refine ret_block ?_
    refine ret_seq ?_
    refine end1 (v := .sc _) rfl ?_
    exact out_i (oe_4 (by omega) (by omega) hw0 (sw_2 hinv (by assumption) (by assumption) (by assumption)))
   have hb51R := hb51; try simp only [z1, z2, z3, z4, z5, z6, ne_eq, z7, z8, z9, z10, z11, z12] at hb51
   refine pwp_skip ?_
   refine seq_norm (hK50 _ ?_); clear hK50 K50
   refine pwp_seq_plain rfl fun K53 hK53 => ?_
   refine p_step rfl (e_faP (pl := [(0, 1, false), (1, 1, false), (2, 1, false)]) rfl (by kernel_rfl) (by kernel_rfl) (by decide) rfl) trivial ?_
   refine p_step rfl (e_loadH (v := .sc _) rfl (hset_self _ _ _) (by kernel_rfl) (by kernel_rfl) (by kernel_rfl) (by exact Nat.zero_lt_one) (by decide) rfl) trivial ?_
   refine p_call rfl (.cons inn_sc (.cons inn_sc (.cons inn_sc .nil))) (Within _ _ _) ?_
   refine p_step rfl (e_not rfl) trivial ?_
   refine p_end (hK53 _ ?_); clear hK53 K53
   refine pwp_cond rfl (fun hb54 => ?_) (fun hb54 => ?_)
   ·have hb54R := hb54; try simp only [z1, z2, z3, z4, z5, z6, ne_eq, z7, z8, z9, z10, z11, z12] at hb54
    refine pwp_seq_plain rfl fun K55 hK55 => ?_
    refine p_step rfl (e_assign (v := .sc _) rfl) trivial ?_
    refine p_end (hK55 _ ?_); clear hK55 K55
    refine pwp_ret ?_
    refine ret_block ?_
    refine ret_seq ?_
    refine ret_loop ?_
    refine ret_block ?_
    refine ret_seq ?_
    refine end1 (v := .sc _) rfl ?_
    exact out_i (oe_4 (by omega) (by omega) hw0 (sw_3 hinv (by assumption) (by assumption) (by assumption) (by omega)))
   have hb54R := hb54; try simp only [z1, z2, z3, z4, z5, z6, ne_eq, z7, z8, z9, z10, z11, z12] at hb54
   refine pwp_skip ?_
   refine block_norm ?_
   refine seq_norm (hK40 _ ?_); clear hK40 K40
   refine pwp_plain rfl fun K56 hK56 => ?_
   refine p_step rfl (e_move (v := .sc _) rfl) trivial ?_
   refine p_step rfl (e_add rfl rfl (by omega)) trivial ?_
   refine p_step rfl (e_assign (v := .sc _) rfl) trivial ?_
   refine p_end (hK56 _ ?_); clear hK56 K56
   exact loop_again (k + 1) (by show _ < _; omega) ⟨rfl, trivial⟩ ⟨rfl, trivial⟩ (by exact ⟨by show _ + 1 ≤ _; omega, by exact sw_4 hinv (by assumption) (by assumption) (by assumption) (by omega), ((hset_ne (key_ne rfl)).trans ((hset_ne (key_ne rfl)).trans hihj36_0))⟩)
  have hb39R := hb39; try simp only [z1, z2, z3, z4, z5, z6, ne_eq, z7, z8, z9, z10, z11, z12] at hb39
  obtain rfl : k = o.swaps.length := by omega
  rw [List.drop_length] at hinv; simp only [swapsE] at hinv
  refine pwp_exit ?_
  refine exit_seq ?_
  clear hK38 K38
  refine exit_loop ?_
  refine exit_here ?_
  refine seq_norm (hK32 _ ?_); clear hK32 K32
  refine pwp_seq_plain rfl fun K57 hK57 => ?_
  refine p_step rfl (e_assign (v := .sc _) rfl) trivial ?_
  refine p_end (hK57 _ ?_); clear hK57 K57
  refine pwp_ret ?_
  refine end1 (v := .sc _) rfl ?_
  exact out_i (oe_4 (by omega) (by omega) hw0 (hinv))

end Go.Proofs.YtigdmkhdmbbfiaaDoor

/- Picking: the closure. No conditions. -/
set_option linter.unusedSimpArgs false
set_option linter.unusedVariables false
set_option maxRecDepth 100000
set_option maxHeartbeats 8000000
namespace Go.Proofs.YtigdmkhdmbbfiaaDoor
open Go Go.Pv

/-! ### Picking -/
/-- The movements behind a taking. -/
def tkV (pl : Int) (mv : List Movement) (p : ByteArray) (n : Int) : List Movement := if 0 < n then mv ++ [⟨p, 0, pl, 0, 0, n⟩] else mv
section
variable {σ : Type} (gt : σ → ByteArray → Int) (tk : σ → ByteArray → Int → σ)
/-- A want's swaps: what is still needed, the store, the movements. -/
def swG (pl : Int) (wp : ByteArray) : Int → σ → List Movement → List Swap → Int × σ × List Movement
  | nd, s, mv, [] => (nd, s, mv)
  | nd, s, mv, x :: l => if x.part = wp then swG pl wp (nd - min nd (gt s x.via / x.count)) (tk s x.via (min nd (gt s x.via / x.count) * x.count)) (tkV pl mv x.via (min nd (gt s x.via / x.count) * x.count)) l else swG pl wp nd s mv l
/-- All wants: the movements, what is lacking. -/
def pkG (pl : Int) (ss : List Swap) : σ → List Movement → List Want → List Want → List Movement × List Want
  | _, mv, la, [] => (mv, la)
  | s, mv, la, w :: l =>
    pkG pl ss (swG gt tk pl w.part (w.count - min w.count (gt s w.part)) (tk s w.part (min w.count (gt s w.part))) (tkV pl mv w.part (min w.count (gt s w.part))) ss).2.1
      (swG gt tk pl w.part (w.count - min w.count (gt s w.part)) (tk s w.part (min w.count (gt s w.part))) (tkV pl mv w.part (min w.count (gt s w.part))) ss).2.2
      (if 0 < (swG gt tk pl w.part (w.count - min w.count (gt s w.part)) (tk s w.part (min w.count (gt s w.part))) (tkV pl mv w.part (min w.count (gt s w.part))) ss).1 then la ++ [⟨w.part, (swG gt tk pl w.part (w.count - min w.count (gt s w.part)) (tk s w.part (min w.count (gt s w.part))) (tkV pl mv w.part (min w.count (gt s w.part))) ss).1⟩] else la) l
variable {gt tk}
theorem sg_t {pl : Int} {wp : ByteArray} {nd : Int} {s : σ} {mv : List Movement} {x : Swap} {l : List Swap} {R : Int × σ × List Movement} (h : R = swG gt tk pl wp nd s mv (x :: l)) (h2 : x.part = wp) : R = swG gt tk pl wp (nd - min nd (gt s x.via / x.count)) (tk s x.via (min nd (gt s x.via / x.count) * x.count)) (tkV pl mv x.via (min nd (gt s x.via / x.count) * x.count)) l := by rw [h, swG, if_pos h2]
theorem sg_f {pl : Int} {wp : ByteArray} {nd : Int} {s : σ} {mv : List Movement} {x : Swap} {l : List Swap} {R : Int × σ × List Movement} (h : R = swG gt tk pl wp nd s mv (x :: l)) (h2 : ¬ x.part = wp) : R = swG gt tk pl wp nd s mv l := by rw [h, swG, if_neg h2]
theorem pg_s {pl : Int} {ss : List Swap} {s s' : σ} {mv mv' : List Movement} {la : List Want} {w : Want} {l : List Want} {nd : Int} {R : List Movement × List Want} (h : R = pkG gt tk pl ss s mv la (w :: l))
    (h2 : swG gt tk pl w.part (w.count - min w.count (gt s w.part)) (tk s w.part (min w.count (gt s w.part))) (tkV pl mv w.part (min w.count (gt s w.part))) ss = (nd, s', mv')) : R = pkG gt tk pl ss s' mv' (if 0 < nd then la ++ [⟨w.part, nd⟩] else la) l := by
  rw [h, pkG, h2]
end
/-- The program's store. -/
def gM (m : Sto) (p : ByteArray) : Int := (aGet (⟨p, 0, 0⟩ : Shelf) m).getD 0
def tkM (m : Sto) (p : ByteArray) (n : Int) : Sto := if 0 < n then aSet (⟨p, 0, 0⟩ : Shelf) ((aGet (⟨p, 0, 0⟩ : Shelf) m).getD 0 - n) m else m
def pickR (xs : List Stock) (o : Order) : List Movement × List Want := pkG gM tkM o.place o.swaps (sumS [] xs) [] [] o.wants
theorem gM_tk (m : Sto) (p p' : ByteArray) (n : Int) : gM (tkM m p n) p' = if 0 < n ∧ p' = p then gM m p - n else gM m p' := by
  unfold tkM
  by_cases h : 0 < n
  · rw [if_pos h]
    unfold gM
    rw [aGet_aSet]
    by_cases h2 : p' = p
    · rw [if_pos (by rw [h2]), if_pos ⟨h, h2⟩]; rfl
    · rw [if_neg (fun e => h2 (by simpa using e)), if_neg (fun e => h2 e.2)]
  · rw [if_neg h, if_neg (fun e => h e.1)]
theorem min_mul {nd g c : Int} (h0 : 0 ≤ nd) (hg : 0 ≤ g) (hc : 1 ≤ c) : 0 ≤ g / c ∧ 0 ≤ min nd (g / c) * c ∧ min nd (g / c) * c ≤ g := by
  have hq : 0 ≤ g / c := Int.ediv_nonneg hg (by omega)
  exact ⟨hq, Int.mul_nonneg (by omega) (by omega), Int.le_trans (Int.mul_le_mul_of_nonneg_right (Int.min_le_right _ _) (by omega)) (by rw [Int.mul_comm]; exact Int.mul_ediv_self_le (by omega))⟩
theorem gM_bd {m : Sto} (h : ∀ p, 0 ≤ gM m p ∧ gM m p ≤ 1000000000) {p : ByteArray} {n : Int} (h1 : 0 ≤ n) (h2 : n ≤ gM m p) : ∀ p', 0 ≤ gM (tkM m p n) p' ∧ gM (tkM m p n) p' ≤ 1000000000 := fun p' => by
  rw [gM_tk]
  have q1 := h p'
  have q2 := h p
  split <;> omega
theorem tkV_len {pl : Int} {mv : List Movement} {p : ByteArray} {n : Int} : (tkV pl mv p n).length ≤ mv.length + 1 := by
  unfold tkV; split <;> simp
theorem tkV_t {pl : Int} {mv : List Movement} {p : ByteArray} {n : Int} (h : 0 < n) : tkV pl mv p n = mv ++ [⟨p, 0, pl, 0, 0, n⟩] := if_pos h
theorem tkV_f {pl : Int} {mv : List Movement} {p : ByteArray} {n : Int} (h : ¬ 0 < n) : tkV pl mv p n = mv := if_neg h
theorem tkM_t {m : Sto} {p : ByteArray} {n : Int} (h : 0 < n) : tkM m p n = aSet (⟨p, 0, 0⟩ : Shelf) ((aGet (⟨p, 0, 0⟩ : Shelf) m).getD 0 - n) m := if_pos h
theorem tkM_f {m : Sto} {p : ByteArray} {n : Int} (h : ¬ 0 < n) : tkM m p n = m := if_neg h
/-- What the closure leaves. -/
def TK (pl : Int) (m : Sto) (mv : List Movement) (p : ByteArray) (n : Int) (q b : Nat) (h0 : Heap) (w : PV) (h : Heap) : Prop :=
  w = .tup [] ∧ (∃ u, h (10, b) = some (.rows 1 [[u]]) ∧ SliceAt h 24 u 6 ((tkV pl mv p n).map Movement.enc)) ∧ MapAt h (6, q) (entsOf kx PV.int (tkM m p n)) ∧
    ∀ a b, Nat.beq a 6 = false → Nat.beq a 10 = false → Nat.beq a 23 = false → Nat.beq a 24 = false → h (a, b) = h0 (a, b)
theorem mv_clean (a : Movement) : ∀ p ∈ a.enc, Go.Pv.Clean p ∧ p.cell = true := fun p hp => by
  simp only [Movement.enc, List.mem_cons, List.not_mem_nil, or_false] at hp
  rcases hp with rfl | rfl | rfl | rfl | rfl | rfl <;> exact ⟨.sc _, rfl⟩
theorem wa_clean (a : Want) : ∀ p ∈ a.enc, Go.Pv.Clean p ∧ p.cell = true := fun p hp => by
  simp only [Want.enc, List.mem_cons, List.not_mem_nil, or_false] at hp
  rcases hp with rfl | rfl <;> exact ⟨.sc _, rfl⟩

theorem frH42 : (inFrame Tryd.f42.ntmps (Tryd.f42.body.getD .skip) && Tryd.f42.results.toList.all (resScope Tryd.f42.ntmps)) = true := by kernel_rfl
theorem takeC (o : Order) (m : Sto) (mv : List Movement) (v : PV) (p : ByteArray) (n : Int) (q a b c : Nat) (h0 : Heap) (c0 : Nat → Nat) (hm0 : MapAt h0 (6, q) (entsOf kx PV.int m)) (h9 : h0 (9, a) = some (.rows 1 [[.map (6, q)]])) (h10 : h0 (10, b) = some (.rows 1 [[v]])) (hv : SliceAt h0 24 v 6 (mv.map Movement.enc)) (h3 : h0 (3, c) = some (.rows 3 [Order.enc o])) (hg : 0 ≤ gM m p ∧ gM m p ≤ 1000000000) (hn : 0 ≤ n ∧ n ≤ 1000000000) (hml : mv.length ≤ 100000) : HCallsR Tryd.prog 42 [.str p, .int n, .ptr (9, a) 1 0 0, .ptr (10, b) 1 0 0, .ptr (3, c) 3 0 0] h0 c0 (fun w h _ => TK o.place m mv p n q b h0 w h) := by
  refine HCallsR.of_code Tryd.func42 rfl rfl (by kernel_rfl) mixed frH42 (by show _ ≤ 25; simp) ?_
  have hg1 : 0 ≤ ((aGet (⟨p, (0), (0)⟩ : Shelf) m).getD 0) ∧ ((aGet (⟨p, (0), (0)⟩ : Shelf) m).getD 0) ≤ 1000000000 := hg
  refine pwp_seq_plain rfl fun K1 hK1 => ?_
  refine p_step rfl (e_move (v := .sc _) rfl) trivial ?_
  refine p_step rfl (e_gt rfl rfl) trivial ?_
  refine p_end (hK1 _ ?_); clear hK1 K1
  refine pwp_cond rfl (fun hb2 => ?_) (fun hb2 => ?_)
  ·have hb2R := hb2; try simp only [z1, z2, z3, z4, z5, z6, ne_eq, z7, z8, z9, z10, z11, z12] at hb2
   refine pwp_seq_gops rfl fun K3 hK3 => ?_
   refine s_begin ?_
   refine s_step [9] (by simp) rfl rfl rfl rfl (e_loadH (v := .map _) rfl h9 (by kernel_rfl) (by kernel_rfl) (by kernel_rfl) (by exact Nat.zero_lt_one) (by decide) rfl) trivial ?_
   refine s_step [] (by simp) rfl rfl rfl rfl (e_move (v := .sc _) rfl) trivial ?_
   refine s_step [] (by simp) rfl rfl rfl rfl (e_build (cs := Shelf.enc (⟨p, (0), (0)⟩ : Shelf)) (zs := [.str ByteArray.empty, .int 0, .int 0]) (pl := [(0, 1, false), (1, 1, false), (2, 1, false)]) (by kernel_rfl) (by kernel_rfl) (by kernel_rfl) rfl rfl (by exact ⟨by decide, rfl, Nat.le_of_ble_eq_true rfl, rfl, ⟨by decide, rfl, Nat.le_of_ble_eq_true rfl, rfl, ⟨by decide, rfl, Nat.le_of_ble_eq_true rfl, rfl, trivial⟩⟩⟩) rfl) trivial ?_
   refine s_step [6] (by simp) rfl rfl rfl rfl (e_look (kt := 93) (et := 3) (f := kx) (g := PV.int) (a := (⟨p, (0), (0)⟩ : Shelf)) (l := m) (z := 0) kx_eq kx_ok rfl rfl hm0 (by kernel_rfl) (by kernel_rfl) (by first | rfl | kernel_rfl)) trivial ?_
   refine s_step [] (by simp) rfl rfl rfl rfl (e_move (v := .sc _) rfl) trivial ?_
   refine s_step [] (by simp) rfl rfl rfl rfl (e_sub rfl rfl (by omega)) trivial ?_
   refine s_mentry (kt := 93) (et := 3) (m := 6) (f := kx) (g := PV.int) (a := (⟨p, (0), (0)⟩ : Shelf)) (l := m) (z := 0) kx_eq kx_ok rfl rfl rfl rfl rfl hm0 (by kernel_rfl) (by kernel_rfl) (by first | rfl | kernel_rfl) (fun _ => rfl) fun h4 sp5 hst6 hfr7 => ?_
   have ho8 := (hfr7 (9, _) (key_ne rfl)).trans h9
   have ho9 := (hfr7 (10, _) (key_ne rfl)).trans h10
   have ho10 := (hfr7 (3, _) (key_ne rfl)).trans h3
   have hs11 := (hv).keep fun g => (hfr7 (24, g) (key_ne rfl))
   refine s_step [] (by simp) rfl rfl rfl rfl (e_ext (v := .sc _) rfl (by simp) rfl) trivial ?_
   refine s_estore (f := kx) (g := PV.int) (a := (⟨p, (0), (0)⟩ : Shelf)) (b := (((aGet (⟨p, (0), (0)⟩ : Shelf) m).getD 0) - n)) (u := ((aGet (⟨p, (0), (0)⟩ : Shelf) m).getD 0)) (l := m) rfl rfl rfl rfl hst6 rfl fun h12 hm13 hfr14 => ?_
   have ho15 := (hfr14 (9, _) (key_ne rfl)).trans ho8
   have ho16 := (hfr14 (10, _) (key_ne rfl)).trans ho9
   have ho17 := (hfr14 (3, _) (key_ne rfl)).trans ho10
   have hs18 := (hs11).keep fun g => (hfr14 (24, g) (key_ne rfl))
   refine s_end (ds := []) (by kernel_rfl) (by kernel_rfl) (hK3 _ ?_); clear hK3 K3
   refine pwp_plain rfl fun K19 hK19 => ?_
   refine p_step rfl (e_loadH (v := _) rfl ho16 (by kernel_rfl) (by kernel_rfl) (by kernel_rfl) (by exact Nat.zero_lt_one) (by decide) rfl) trivial ?_
   refine p_step rfl (e_move (v := .sc _) rfl) trivial ?_
   refine p_step rfl (e_faP (pl := [(0, 1, false), (1, 1, false), (2, 1, false)]) rfl (by kernel_rfl) (by kernel_rfl) (by decide) rfl) trivial ?_
   refine p_step rfl (e_loadH (v := .sc _) rfl ho17 (by kernel_rfl) (by kernel_rfl) (by kernel_rfl) (by exact Nat.zero_lt_one) (by decide) rfl) trivial ?_
   refine p_step rfl (e_move (v := .sc _) rfl) trivial ?_
   refine p_step rfl (e_build (cs := Movement.enc (⟨p, (0), o.place, 0, 0, n⟩ : Movement)) (zs := [.str ByteArray.empty, .int 0, .int 0, .int 0, .int 0, .int 0]) (pl := [(0, 1, false), (1, 1, false), (2, 1, false), (3, 1, false), (4, 1, false), (5, 1, false)]) (by kernel_rfl) (by kernel_rfl) (by kernel_rfl) rfl rfl (by exact ⟨by decide, rfl, Nat.le_of_ble_eq_true rfl, rfl, ⟨by decide, rfl, Nat.le_of_ble_eq_true rfl, rfl, ⟨by decide, rfl, Nat.le_of_ble_eq_true rfl, rfl, ⟨by decide, rfl, Nat.le_of_ble_eq_true rfl, rfl, trivial⟩⟩⟩⟩) rfl) trivial ?_
   refine p_new rfl (e_bslice (rows := [Movement.enc ⟨p, 0, o.place, 0, 0, n⟩]) (zs := [.str ByteArray.empty, .int 0, .int 0, .int 0, .int 0, .int 0]) (sz := 6) (by kernel_rfl) (by kernel_rfl) rfl (by kernel_rfl) (by decide) rfl rfl (by exact ⟨by decide, rfl, rfl, trivial⟩) rfl) trivial ?_
   refine p_app rfl rfl rfl (hs18.keep fun _ => (hset_ne (key_ne rfl)).trans (rfl)) (src_ref (hset_self _ _ _) rfl) (by kernel_rfl) (by simp only [List.length_append, List.length_map, List.length_nil, List.length_cons]; omega) fun v20 h21 c22 hs23 hf24 => ?_
   have ho25 := (hf24 (9, _) (key_ne rfl) (fun _ _ => key_ne rfl)).trans ((hset_ne (key_ne rfl)).trans ho15)
   have ho26 := (hf24 (10, _) (key_ne rfl) (fun _ _ => key_ne rfl)).trans ((hset_ne (key_ne rfl)).trans ho16)
   have ho27 := (hf24 (3, _) (key_ne rfl) (fun _ _ => key_ne rfl)).trans ((hset_ne (key_ne rfl)).trans ho17)
   have ho28 := MapAt.keep (MapAt.keep hm13 ((hset_ne (key_ne rfl)).trans (rfl))) (hf24 (6, _) (key_ne rfl) (fun _ _ => key_ne rfl))
   have ho29 := (hf24 (23, _) (key_ne rfl) (fun _ _ => key_ne rfl)).trans (hset_self _ _ _)
   obtain ⟨g30, ev32, hg31⟩ := SliceAt.isRef hs23 (by simp)
   subst ev32
   refine p_store rfl (e_store1 rfl ho26 rfl rfl rfl (by decide) (by kernel_rfl) rfl (by kernel_rfl)) trivial ?_
   refine p_end (hK19 _ ?_); clear hK19 K19
   refine end0n   ?_
   exact ⟨rfl, ⟨_, (hset_self _ _ _), by rw [tkV_t (by omega), List.map_append]; exact .ofRef ((hset_ne (key_ne rfl)).trans hg31) (by simp)⟩, by rw [tkM_t (by omega)]; exact (MapAt.keep ho28 ((hset_ne (key_ne rfl)).trans (rfl))), fun a b n6 n10 n23 n24 => (hset_ne (key_ne n10)).trans ((hf24 (a, b) (key_ne n24) (fun _ _ => key_ne n24)).trans ((hset_ne (key_ne n23)).trans ((hfr14 (a, b) (key_ne n6)).trans (hfr7 (a, b) (key_ne n6)))))⟩
  ·have hb2R := hb2; try simp only [z1, z2, z3, z4, z5, z6, ne_eq, z7, z8, z9, z10, z11, z12] at hb2
   refine pwp_skip ?_
   refine end0n   ?_
   exact ⟨rfl, ⟨_, h10, by rw [tkV_f (by omega)]; exact hv⟩, by rw [tkM_f (by omega)]; exact hm0, fun a b _ _ _ _ => rfl⟩

end Go.Proofs.YtigdmkhdmbbfiaaDoor

/- Picking. No conditions. -/
set_option linter.unusedSimpArgs false
set_option linter.unusedVariables false
set_option maxRecDepth 100000
set_option maxHeartbeats 8000000
namespace Go.Proofs.YtigdmkhdmbbfiaaDoor
open Go Go.Pv

/-! ### Pick -/
def pickX (xs : List Stock) (o : Order) : Int × List Movement × List Want := if ¬ stockE xs = 0 then (stockE xs, [], []) else if ¬ orderE o = 0 then (orderE o, [], []) else (0, (pickR xs o).1, (pickR xs o).2)
theorem px_1 {xs : List Stock} {o : Order} (h : ¬ stockE xs = 0) : pickX xs o = (stockE xs, [], []) := if_pos h
theorem px_2 {xs : List Stock} {o : Order} (h : stockE xs = 0) (h2 : ¬ orderE o = 0) : pickX xs o = (orderE o, [], []) := by rw [pickX, if_neg (by simpa using h), if_pos h2]
theorem px_3 {xs : List Stock} {o : Order} {a : List Movement} {b : List Want} (h : stockE xs = 0) (h2 : orderE o = 0) (h3 : pickR xs o = (a, b)) : pickX xs o = (0, a, b) := by rw [pickX, if_neg (by simpa using h), if_neg (by simpa using h2), h3]
theorem px_out {xs : List Stock} {o : Order} {h : Heap} {z : Int} {a : List Movement} {b : List Want} {u u2 : PV} (hr : pickX xs o = (z, a, b)) (hs : SliceAt h 24 u 6 (a.map Movement.enc)) (hs2 : SliceAt h 99 u2 2 (b.map Want.enc)) :
    Out h (.tup [u, u2, .int z]) (.tup [.lit false 6 ((pickX xs o).2.1.map Movement.enc), .lit false 2 ((pickX xs o).2.2.map Want.enc), .int (pickX xs o).1]) := by
  rw [hr]
  exact out_3 (out_slice hs rfl (fun _ => rfl) mv_clean) (out_slice hs2 rfl (fun _ => rfl) wa_clean) (out_i rfl)
theorem px_out0 {xs : List Stock} {o : Order} {h : Heap} {z : Int} (hr : pickX xs o = (z, [], [])) : Out h (.tup [.nil, .nil, .int z]) (.tup [.lit false 6 ((pickX xs o).2.1.map Movement.enc), .lit false 2 ((pickX xs o).2.2.map Want.enc), .int (pickX xs o).1]) := px_out hr .nil .nil
theorem pure_3' {a b c : PV} (h1 : Pure a) (h2 : Pure b) (h3 : Pure c) : Pure (.tup [a, b, c]) := .tup _ fun p hp => by
  simp only [List.mem_cons, List.not_mem_nil, or_false] at hp
  rcases hp with rfl | rfl | rfl <;> assumption
theorem gM_sum {xs : List Stock} (h : stockE xs = 0) : ∀ p, 0 ≤ gM (sumS [] xs) p ∧ gM (sumS [] xs) p ≤ 1000000000 := fun p => by
  have hok := stockE_ok h
  have h1 : gM (sumS [] xs) p = cntS ⟨p, 0, 0⟩ xs := by
    have := getS_sum ⟨p, 0, 0⟩ xs []
    simpa [getS, aGet, gM] using this
  have h2 := cntS_0 (k := ⟨p, 0, 0⟩) fun x hx => (hok.2 x hx).2.2.1
  have h3 := cntS_le (k := ⟨p, 0, 0⟩) fun x hx => (hok.2 x hx).2.2
  omega

theorem fr24 : (inFrame Tryd.f24.ntmps (Tryd.f24.body.getD .skip) && Tryd.f24.results.toList.all (resScope Tryd.f24.ntmps)) = true := by kernel_rfl
theorem PickS (xs : List Stock) (o : Order) (hl : xs.length ≤ 220) (hs : ∀ x ∈ xs, x.part.size ≤ 30) (h1 : o.wants.length ≤ 70) (h2 : o.swaps.length ≤ 70) (hsw : ∀ x ∈ o.wants, x.part.size ≤ 30) (hss : ∀ x ∈ o.swaps, x.part.size ≤ 30 ∧ x.via.size ≤ 30) : PCalls Tryd.prog 24 [.lit true 4 (xs.map Stock.enc), .agg o.enc] (.tup [.lit false 6 ((pickX xs o).2.1.map Movement.enc), .lit false 2 ((pickX xs o).2.2.map Want.enc), .int (pickX xs o).1]) := by
  refine PCalls.of_code Tryd.func24 rfl rfl (by kernel_rfl) mixed fr24 (by show _ ≤ 103; simp) (pure_3' (.lit _ _ _ fun row hr => pure_map Movement.pure row hr) (.lit _ _ _ fun row hr => pure_map Want.pure row hr) (.sc _)) ?_
  refine pwp_seq_plain rfl fun K1 hK1 => ?_
  refine p_new rfl (e_box (n := 3) rfl rfl) ⟨rfl, by decide⟩ ?_
  refine p_step rfl (e_assign (v := .nil) rfl) trivial ?_
  refine p_step rfl (e_assign (v := .nil) rfl) trivial ?_
  refine p_step rfl (e_assign (v := .sc _) rfl) trivial ?_
  refine p_end (hK1 _ ?_); clear hK1 K1
  refine pwp_seq_seq ?_
  refine pwp_seq_plain rfl fun K2 hK2 => ?_
  refine p_step rfl (e_move (v := .lit _ _ _) rfl) trivial ?_
  refine p_call rfl (.cons inn_lit .nil) (CheckS _ (by omega) (by assumption)) ?_
  refine p_step rfl (e_assign (v := .sc _) rfl) trivial ?_
  refine p_end (hK2 _ ?_); clear hK2 K2
  refine pwp_seq_seq ?_
  refine pwp_seq_plain rfl fun K3 hK3 => ?_
  refine p_step rfl (e_move (v := .sc _) rfl) trivial ?_
  refine p_step rfl (e_ne rfl rfl) trivial ?_
  refine p_end (hK3 _ ?_); clear hK3 K3
  refine pwp_seq_cond rfl fun K4 hK4 => ⟨fun hb5 => ?_, fun hb5 => ?_⟩
  ·have hb5R := hb5; simp only [z1, z2, z3, z4, z5, z6, ne_eq, z7, z8, z9, z10, z11, z12] at hb5
   refine pwp_seq_plain rfl fun K6 hK6 => ?_
   refine p_step rfl (e_move (v := .sc _) rfl) trivial ?_
   refine p_step rfl (e_assign (v := .nil) rfl) trivial ?_
   refine p_step rfl (e_assign (v := .nil) rfl) trivial ?_
   refine p_step rfl (e_assign (v := .sc _) rfl) trivial ?_
   refine p_end (hK6 _ ?_); clear hK6 K6
   refine pwp_ret ?_
   refine ret_seq ?_
   refine end3 (v := .nil) (w := .nil) (x := .sc _) rfl rfl rfl ?_
   exact px_out0 (px_1 (by assumption))
  have hb5R := hb5; simp only [z1, z2, z3, z4, z5, z6, ne_eq, z7, z8, z9, z10, z11, z12] at hb5; have hst : stockE xs = 0 := hb5; have hok := stockE_ok hst
  refine pwp_skip ?_
  refine seq_norm (hK4 _ ?_); clear hK4 K4
  refine pwp_seq_seq ?_
  refine pwp_seq_plain rfl fun K7 hK7 => ?_
  refine p_step rfl (e_loadHA (cs := Order.enc (o)) (n := 3) rfl (hset_self _ _ _) (by kernel_rfl) (by kernel_rfl) (by kernel_rfl) (by exact Nat.zero_lt_one) (by decide) rfl) trivial ?_
  refine p_call rfl (.cons (inn_agg (Order.pure _)) .nil) (checkOrder _ (by omega) (by omega) (by assumption) (by assumption)) ?_
  refine p_step rfl (e_assign (v := .sc _) rfl) trivial ?_
  refine p_end (hK7 _ ?_); clear hK7 K7
  refine pwp_seq_seq ?_
  refine pwp_seq_plain rfl fun K8 hK8 => ?_
  refine p_step rfl (e_move (v := .sc _) rfl) trivial ?_
  refine p_step rfl (e_ne rfl rfl) trivial ?_
  refine p_end (hK8 _ ?_); clear hK8 K8
  refine pwp_seq_cond rfl fun K9 hK9 => ⟨fun hb10 => ?_, fun hb10 => ?_⟩
  ·have hb10R := hb10; simp only [z1, z2, z3, z4, z5, z6, ne_eq, z7, z8, z9, z10, z11, z12] at hb10
   refine pwp_seq_plain rfl fun K11 hK11 => ?_
   refine p_step rfl (e_move (v := .sc _) rfl) trivial ?_
   refine p_step rfl (e_assign (v := .nil) rfl) trivial ?_
   refine p_step rfl (e_assign (v := .nil) rfl) trivial ?_
   refine p_step rfl (e_assign (v := .sc _) rfl) trivial ?_
   refine p_end (hK11 _ ?_); clear hK11 K11
   refine pwp_ret ?_
   refine ret_seq ?_
   refine end3 (v := .nil) (w := .nil) (x := .sc _) rfl rfl rfl ?_
   exact px_out0 (px_2 (by assumption) (by assumption))
  have hb10R := hb10; simp only [z1, z2, z3, z4, z5, z6, ne_eq, z7, z8, z9, z10, z11, z12] at hb10; have ho0 : orderE o = 0 := hb10; have ho := orderE_ok ho0
  refine pwp_skip ?_
  refine seq_norm (hK9 _ ?_); clear hK9 K9
  refine pwp_seq_plain rfl fun K12 hK12 => ?_
  refine p_step rfl (e_move (v := .lit _ _ _) rfl) trivial ?_
  refine p_hcall rfl (storeOf xs _ _ hok.1 (fun x hx => (hok.2 x hx).2.2)) fun v13 h14 c15 hR16 => ?_
  obtain ⟨rfl, hm17, hf18⟩ := hR16
  have hb19 := (hf18 3 0 (by intro e; cases e) (by intro e; cases e)).trans (hset_self _ _ _)
  refine p_new rfl (e_alloc (cs := [.sc (.map none)]) (n := 1) (by kernel_rfl) rfl (by decide)) (ob_alloc (by decide)) ?_
  refine p_store rfl (e_store1 rfl (hset_self _ _ _) rfl rfl rfl (by decide) (by kernel_rfl) rfl (by kernel_rfl)) trivial ?_
  refine p_end (hK12 _ ?_); clear hK12 K12
  refine pwp_seq_plain rfl fun K20 hK20 => ?_
  refine p_new rfl (e_alloc (cs := [.nil]) (n := 1) (by kernel_rfl) rfl (by decide)) (ob_alloc (by decide)) ?_
  refine p_end (hK20 _ ?_); clear hK20 K20
  refine pwp_seq_plain rfl fun K21 hK21 => ?_
  refine p_step rfl (e_assign (v := .nil) rfl) trivial ?_
  refine p_end (hK21 _ ?_); clear hK21 K21
  refine pwp_seq_plain rfl fun K22 hK22 => ?_
  refine p_step rfl (e_mkf rfl) trivial ?_
  refine p_step rfl (e_assign (v := .func _ _ _) rfl) trivial ?_
  refine p_end (hK22 _ ?_); clear hK22 K22
  refine pwp_seq_seq ?_
  refine pwp_seq_plain rfl fun K23 hK23 => ?_
  refine p_step rfl (e_faP (pl := [(0, 1, false), (1, 1, false), (2, 1, false)]) rfl (by kernel_rfl) (by kernel_rfl) (by decide) rfl) trivial ?_
  refine p_step rfl (e_loadH (v := .lit _ _ _) rfl ((hset_ne (key_ne rfl)).trans ((hset_ne (key_ne rfl)).trans ((hset_ne (key_ne rfl)).trans hb19))) (by kernel_rfl) (by kernel_rfl) (by kernel_rfl) (by exact Nat.zero_lt_one) (by decide) rfl) trivial ?_
  refine p_step rfl (e_len rfl (by kernel_rfl)) trivial ?_
  refine p_step rfl (e_move (v := .sc _) rfl) trivial ?_
  refine p_end (hK23 _ ?_); clear hK23 K23
  refine pwp_seq_block fun K24 hK24 => ?_
  refine pwp_loopR (α := Nat × Sto × (List Movement) × (List Want) × PV × PV) [3, 9, 10, 12, 34, 35] (fun (a25 : Nat × Sto × (List Movement) × (List Want) × PV × PV) => [(11, (a25.2.2.2.2.2)), (36, .int (a25.1))]) (fun (a25 : Nat × Sto × (List Movement) × (List Want) × PV × PV) (h : Heap) (_ : Nat → Nat) => ((a25.1) ≤ o.wants.length) ∧ (pickR xs o = pkG gM tkM o.place o.swaps (a25.2.1) (a25.2.2.1) (a25.2.2.2.1) (o.wants.drop (a25.1))) ∧ (∀ p, 0 ≤ gM (a25.2.1) p ∧ gM (a25.2.1) p ≤ 1000000000) ∧ ((a25.2.2.1).length ≤ 61 * (a25.1)) ∧ ((a25.2.2.2.1).length ≤ (a25.1)) ∧ (SliceAt h 99 (a25.2.2.2.2.2) 2 ((a25.2.2.2.1).map Want.enc)) ∧ (SliceAt h 24 (a25.2.2.2.2.1) 6 ((a25.2.2.1).map Movement.enc)) ∧ (h (3, 0) = some (.rows 3 [Order.enc o])) ∧ (h (9, c15 9) = some (.rows 1 [[.map (6, 0)]])) ∧ (h (10, c15 10) = some (.rows 1 [[(a25.2.2.2.2.1)]])) ∧ (MapAt h (6, 0) (entsOf kx PV.int (a25.2.1)))) (fun (a25 : Nat × Sto × (List Movement) × (List Want) × PV × PV) => o.wants.length - (a25.1)) (0, (sumS [] xs), [], [], .nil, _) (by exact ⟨rfl, rfl, trivial⟩) (by exact ⟨by exact Nat.zero_le _, by exact rfl, by exact gM_sum hst, by exact Nat.zero_le _, by exact Nat.zero_le _, .nil, SliceAt.nil, ((hset_ne (key_ne rfl)).trans ((hset_ne (key_ne rfl)).trans ((hset_ne (key_ne rfl)).trans hb19))), ((hset_ne (key_ne rfl)).trans (hset_self _ _ _)), (hset_self _ _ _), (MapAt.keep hm17 ((hset_ne (key_ne rfl)).trans ((hset_ne (key_ne rfl)).trans ((hset_ne (key_ne rfl)).trans (rfl)))))⟩) fun a25 r26 h27 c28 hj29 => ?_
  obtain ⟨k, m, mv, la, v, vl⟩ := a25
  obtain ⟨hk, hinv, hbd, hml, hll, hihj29_0, hihj29_1, hihj29_2, hihj29_3, hihj29_4, hihj29_5⟩ := hj29
  try dsimp only at hk
  try dsimp only at hinv
  try dsimp only at hbd
  try dsimp only at hml
  try dsimp only at hll
  try dsimp only at hihj29_0
  try dsimp only at hihj29_1
  try dsimp only at hihj29_2
  try dsimp only at hihj29_3
  try dsimp only at hihj29_4
  try dsimp only at hihj29_5
  show pwp _ _ (loopQ _ _ _) ⟨sets (mix _ _ _) [(11, vl), (36, .int k)], _, _⟩
  refine pwp_seq_plain rfl fun K30 hK30 => ?_
  refine p_step rfl (e_lt rfl rfl) trivial ?_
  refine p_end (hK30 _ ?_); clear hK30 K30
  refine pwp_seq_cond rfl fun K31 hK31 => ⟨fun hb32 => ?_, fun hb32 => ?_⟩
  ·have hb32R := hb32; simp only [z1, z2, z3, z4, z5, z6, ne_eq, z7, z8, z9, z10, z11, z12] at hb32
   obtain ⟨w, hw, hdw, htw⟩ := get_lt (xs := o.wants) (i := k) (by omega)
   rw [hdw] at hinv
   have hwc := (wntE_ok ho.2.2.2.1 w (List.mem_of_getElem? hw)).2
   have hg1 : 0 ≤ ((aGet (⟨w.part, (0), (0)⟩ : Shelf) m).getD 0) ∧ ((aGet (⟨w.part, (0), (0)⟩ : Shelf) m).getD 0) ≤ 1000000000 := hbd w.part
   refine pwp_skip ?_
   refine seq_norm (hK31 _ ?_); clear hK31 K31
   refine pwp_seq_block fun K33 hK33 => ?_
   refine pwp_seq_plain rfl fun K34 hK34 => ?_
   refine p_step rfl (e_ixa rfl rfl (by kernel_rfl) (by kernel_rfl) (by simp only [List.length_map]; omega)) trivial ?_
   refine p_step rfl (e_loadA (n := 2) rfl (by kernel_rfl) (by kernel_rfl) (by kernel_rfl) (by simp only [List.length_map]; omega) (by decide) (by first | exact agg_map hw rfl)) trivial ?_
   refine p_new rfl (e_alloc (cs := [.str ByteArray.empty, .int 0]) (n := 2) (by kernel_rfl) rfl (by decide)) (ob_alloc (by decide)) ?_
   refine p_store rfl (e_storeA rfl (hset_self _ _ _) rfl rfl rfl (by kernel_rfl) rfl (by kernel_rfl)) trivial ?_
   refine p_end (hK34 _ ?_); clear hK34 K34
   refine pwp_seq_gops rfl fun K35 hK35 => ?_
   refine g_begin ?_
   refine g_step rfl rfl rfl rfl (e_faP (pl := [(0, 1, false), (1, 1, false)]) rfl (by kernel_rfl) (by kernel_rfl) (by decide) rfl) trivial ?_
   refine g_step rfl rfl rfl rfl (e_loadH (v := .sc _) rfl (hset_self _ _ _) (by kernel_rfl) (by kernel_rfl) (by kernel_rfl) (by exact Nat.zero_lt_one) (by decide) rfl) trivial ?_
   refine g_step rfl rfl rfl rfl (e_loadH (v := .map _) rfl ((hset_ne (key_ne rfl)).trans ((hset_ne (key_ne rfl)).trans hihj29_3)) (by kernel_rfl) (by kernel_rfl) (by kernel_rfl) (by exact Nat.zero_lt_one) (by decide) rfl) trivial ?_
   refine g_step rfl rfl rfl rfl (e_faP (pl := [(0, 1, false), (1, 1, false)]) rfl (by kernel_rfl) (by kernel_rfl) (by decide) rfl) trivial ?_
   refine g_step rfl rfl rfl rfl (e_loadH (v := .sc _) rfl (hset_self _ _ _) (by kernel_rfl) (by kernel_rfl) (by kernel_rfl) (by exact Nat.zero_lt_one) (by decide) rfl) trivial ?_
   refine g_step rfl rfl rfl rfl (e_build (cs := Shelf.enc (⟨w.part, (0), (0)⟩ : Shelf)) (zs := [.str ByteArray.empty, .int 0, .int 0]) (pl := [(0, 1, false), (1, 1, false), (2, 1, false)]) (by kernel_rfl) (by kernel_rfl) (by kernel_rfl) rfl rfl (by exact ⟨by decide, rfl, Nat.le_of_ble_eq_true rfl, rfl, ⟨by decide, rfl, Nat.le_of_ble_eq_true rfl, rfl, ⟨by decide, rfl, Nat.le_of_ble_eq_true rfl, rfl, trivial⟩⟩⟩) rfl) trivial ?_
   refine g_step rfl rfl rfl rfl (e_look (kt := 93) (et := 3) (f := kx) (g := PV.int) (a := (⟨w.part, (0), (0)⟩ : Shelf)) (l := m) (z := 0) kx_eq kx_ok rfl rfl (MapAt.keep hihj29_5 ((hset_ne (key_ne rfl)).trans ((hset_ne (key_ne rfl)).trans (rfl)))) (by kernel_rfl) (by kernel_rfl) (by first | rfl | kernel_rfl)) trivial ?_
   refine g_step rfl rfl rfl rfl (e_min rfl rfl) trivial ?_
   refine g_step rfl rfl rfl rfl (e_assign (v := .sc _) rfl) trivial ?_
   refine g_end (ds := []) (by kernel_rfl) rfl (hK35 _ ?_); clear hK35 K35
   refine pwp_seq_plain rfl fun K36 hK36 => ?_
   refine p_step rfl (e_move (v := .func _ _ _) rfl) trivial ?_
   refine p_step rfl (e_faP (pl := [(0, 1, false), (1, 1, false)]) rfl (by kernel_rfl) (by kernel_rfl) (by decide) rfl) trivial ?_
   refine p_step rfl (e_loadH (v := .sc _) rfl (hset_self _ _ _) (by kernel_rfl) (by kernel_rfl) (by kernel_rfl) (by exact Nat.zero_lt_one) (by decide) rfl) trivial ?_
   refine p_step rfl (e_move (v := .sc _) rfl) trivial ?_
   refine p_hcall rfl (takeC o m mv v w.part (min w.count ((aGet (⟨w.part, (0), (0)⟩ : Shelf) m).getD 0)) 0 _ _ _ _ _ (MapAt.keep hihj29_5 ((hset_ne (key_ne rfl)).trans ((hset_ne (key_ne rfl)).trans (rfl)))) ((hset_ne (key_ne rfl)).trans ((hset_ne (key_ne rfl)).trans hihj29_3)) ((hset_ne (key_ne rfl)).trans ((hset_ne (key_ne rfl)).trans hihj29_4)) (hihj29_1.keep fun _ => (hset_ne (key_ne rfl)).trans ((hset_ne (key_ne rfl)).trans (rfl))) ((hset_ne (key_ne rfl)).trans ((hset_ne (key_ne rfl)).trans hihj29_2)) (hbd _) ⟨by omega, by omega⟩ (by omega)) fun w37 h38 c39 hR40 => ?_
   obtain ⟨rfl, ⟨u41, ht42, hs43⟩, hm44, hf45⟩ := hR40
   have hbd46 := gM_bd hbd (p := w.part) (n := (min w.count ((aGet (⟨w.part, (0), (0)⟩ : Shelf) m).getD 0))) (by omega) (by show _ ≤ ((aGet (⟨w.part, 0, 0⟩ : Shelf) m).getD 0); omega)
   have hlnhbd46 := tkV_len (pl := o.place) (mv := mv) (p := w.part) (n := (min w.count ((aGet (⟨w.part, (0), (0)⟩ : Shelf) m).getD 0)))
   have ho47 := (hf45 3 _ rfl rfl rfl rfl).trans ((hset_ne (key_ne rfl)).trans ((hset_ne (key_ne rfl)).trans hihj29_2))
   have ho48 := (hf45 9 _ rfl rfl rfl rfl).trans ((hset_ne (key_ne rfl)).trans ((hset_ne (key_ne rfl)).trans hihj29_3))
   have ho49 := (hf45 14 _ rfl rfl rfl rfl).trans (hset_self _ _ _)
   have hs50 := ((hihj29_0.keep fun _ => (hset_ne (key_ne rfl)).trans ((hset_ne (key_ne rfl)).trans (rfl)))).keep fun g => hf45 99 g rfl rfl rfl rfl
   refine p_end (hK36 _ ?_); clear hK36 K36
   refine pwp_seq_plain rfl fun K51 hK51 => ?_
   refine p_step rfl (e_faP (pl := [(0, 1, false), (1, 1, false)]) rfl (by kernel_rfl) (by kernel_rfl) (by decide) rfl) trivial ?_
   refine p_step rfl (e_loadH (v := .sc _) rfl ho49 (by kernel_rfl) (by kernel_rfl) (by kernel_rfl) (by exact Nat.zero_lt_one) (by decide) rfl) trivial ?_
   refine p_step rfl (e_move (v := .sc _) rfl) trivial ?_
   refine p_step rfl (e_sub rfl rfl (by omega)) trivial ?_
   refine p_step rfl (e_assign (v := .sc _) rfl) trivial ?_
   refine p_end (hK51 _ ?_); clear hK51 K51
   refine pwp_seq_seq ?_
   refine pwp_seq_plain rfl fun K52 hK52 => ?_
   refine p_step rfl (e_faP (pl := [(0, 1, false), (1, 1, false), (2, 1, false)]) rfl (by kernel_rfl) (by kernel_rfl) (by decide) rfl) trivial ?_
   refine p_step rfl (e_loadH (v := .lit _ _ _) rfl ho47 (by kernel_rfl) (by kernel_rfl) (by kernel_rfl) (by exact Nat.zero_lt_one) (by decide) rfl) trivial ?_
   refine p_step rfl (e_len rfl (by kernel_rfl)) trivial ?_
   refine p_step rfl (e_move (v := .sc _) rfl) trivial ?_
   refine p_end (hK52 _ ?_); clear hK52 K52
   refine pwp_seq_block fun K53 hK53 => ?_
   refine pwp_loopR (α := Nat × Int × Sto × (List Movement) × PV) [3, 9, 10, 11, 12, 14, 34, 35, 36, 58, 59] (fun (a54 : Nat × Int × Sto × (List Movement) × PV) => [(16, .int (a54.2.1)), (60, .int (a54.1))]) (fun (a54 : Nat × Int × Sto × (List Movement) × PV) (h : Heap) (_ : Nat → Nat) => ((a54.1) ≤ o.swaps.length) ∧ (swG gM tkM o.place w.part (w.count - min w.count (gM m w.part)) (tkM m w.part (min w.count (gM m w.part))) (tkV o.place mv w.part (min w.count (gM m w.part))) o.swaps = swG gM tkM o.place w.part (a54.2.1) (a54.2.2.1) (a54.2.2.2.1) (o.swaps.drop (a54.1))) ∧ (∀ p, 0 ≤ gM (a54.2.2.1) p ∧ gM (a54.2.2.1) p ≤ 1000000000) ∧ (0 ≤ (a54.2.1) ∧ (a54.2.1) ≤ 1000000) ∧ ((a54.2.2.2.1).length ≤ 61 * k + 1 + (a54.1)) ∧ (SliceAt h 99 vl 2 (la.map Want.enc)) ∧ (SliceAt h 24 (a54.2.2.2.2) 6 ((a54.2.2.2.1).map Movement.enc)) ∧ (h (3, 0) = some (.rows 3 [Order.enc o])) ∧ (h (9, c15 9) = some (.rows 1 [[.map (6, 0)]])) ∧ (h (10, c15 10) = some (.rows 1 [[(a54.2.2.2.2)]])) ∧ (h (14, c28 14) = some (.rows 2 [Want.enc w])) ∧ (MapAt h (6, 0) (entsOf kx PV.int (a54.2.2.1)))) (fun (a54 : Nat × Int × Sto × (List Movement) × PV) => o.swaps.length - (a54.1)) (0, _, (tkM m w.part (min w.count ((aGet (⟨w.part, (0), (0)⟩ : Shelf) m).getD 0))), (tkV o.place mv w.part (min w.count ((aGet (⟨w.part, (0), (0)⟩ : Shelf) m).getD 0))), u41) (by exact ⟨rfl, rfl, trivial⟩) (by exact ⟨by exact Nat.zero_le _, by exact rfl, by exact hbd46, by (dsimp only; constructor <;> omega), by (dsimp only; omega), hs50, hs43, ho47, ho48, ht42, ho49, hm44⟩) fun a54 r55 h56 c57 hj58 => ?_
   obtain ⟨j, nd, m2, mv2, v2⟩ := a54
   obtain ⟨hj, hinv2, hbd2, hnd, hml2, hihj58_0, hihj58_1, hihj58_2, hihj58_3, hihj58_4, hihj58_5, hihj58_6⟩ := hj58
   try dsimp only at hj
   try dsimp only at hinv2
   try dsimp only at hbd2
   try dsimp only at hnd
   try dsimp only at hml2
   try dsimp only at hihj58_0
   try dsimp only at hihj58_1
   try dsimp only at hihj58_2
   try dsimp only at hihj58_3
   try dsimp only at hihj58_4
   try dsimp only at hihj58_5
   try dsimp only at hihj58_6
   show pwp _ _ (loopQ _ _ _) ⟨sets (mix _ _ _) [(16, .int nd), (60, .int j)], _, _⟩
   refine pwp_seq_plain rfl fun K59 hK59 => ?_
   refine p_step rfl (e_lt rfl rfl) trivial ?_
   refine p_end (hK59 _ ?_); clear hK59 K59
   refine pwp_seq_cond rfl fun K60 hK60 => ⟨fun hb61 => ?_, fun hb61 => ?_⟩
   ·have hb61R := hb61; simp only [z1, z2, z3, z4, z5, z6, ne_eq, z7, z8, z9, z10, z11, z12] at hb61
    obtain ⟨x, hx, hdx, htx⟩ := get_lt (xs := o.swaps) (i := j) (by omega)
    rw [hdx] at hinv2
    have hxc := swapsE_ok ho.2.2.2.2 x (List.mem_of_getElem? hx)
    have hg2 : 0 ≤ ((aGet (⟨x.via, (0), (0)⟩ : Shelf) m2).getD 0) ∧ ((aGet (⟨x.via, (0), (0)⟩ : Shelf) m2).getD 0) ≤ 1000000000 := hbd2 x.via
    have hmm := min_mul (nd := nd) (g := ((aGet (⟨x.via, (0), (0)⟩ : Shelf) m2).getD 0)) (c := x.count) (by omega) (by omega) (by omega)
    refine pwp_skip ?_
    refine seq_norm (hK60 _ ?_); clear hK60 K60
    refine pwp_seq_block fun K62 hK62 => ?_
    refine pwp_seq_plain rfl fun K63 hK63 => ?_
    refine p_step rfl (e_ixa rfl rfl (by kernel_rfl) (by kernel_rfl) (by simp only [List.length_map]; omega)) trivial ?_
    refine p_step rfl (e_loadA (n := 3) rfl (by kernel_rfl) (by kernel_rfl) (by kernel_rfl) (by simp only [List.length_map]; omega) (by decide) (by first | exact agg_map hx rfl)) trivial ?_
    refine p_new rfl (e_alloc (cs := [.str ByteArray.empty, .str ByteArray.empty, .int 0]) (n := 3) (by kernel_rfl) rfl (by decide)) (ob_alloc (by decide)) ?_
    refine p_store rfl (e_storeA rfl (hset_self _ _ _) rfl rfl rfl (by kernel_rfl) rfl (by kernel_rfl)) trivial ?_
    refine p_end (hK63 _ ?_); clear hK63 K63
    refine pwp_seq_plain rfl fun K64 hK64 => ?_
    refine p_step rfl (e_faP (pl := [(0, 1, false), (1, 1, false), (2, 1, false)]) rfl (by kernel_rfl) (by kernel_rfl) (by decide) rfl) trivial ?_
    refine p_step rfl (e_loadH (v := .sc _) rfl (hset_self _ _ _) (by kernel_rfl) (by kernel_rfl) (by kernel_rfl) (by exact Nat.zero_lt_one) (by decide) rfl) trivial ?_
    refine p_step rfl (e_faP (pl := [(0, 1, false), (1, 1, false)]) rfl (by kernel_rfl) (by kernel_rfl) (by decide) rfl) trivial ?_
    refine p_step rfl (e_loadH (v := .sc _) rfl ((hset_ne (key_ne rfl)).trans ((hset_ne (key_ne rfl)).trans hihj58_5)) (by kernel_rfl) (by kernel_rfl) (by kernel_rfl) (by exact Nat.zero_lt_one) (by decide) rfl) trivial ?_
    refine p_step rfl (e_seq rfl rfl) trivial ?_
    refine p_end (hK64 _ ?_); clear hK64 K64
    refine pwp_cond rfl (fun hb65 => ?_) (fun hb65 => ?_)
    ·have hb65R := hb65; simp only [z1, z2, z3, z4, z5, z6, ne_eq, z7, z8, z9, z10, z11, z12] at hb65
     refine pwp_seq_gops rfl fun K66 hK66 => ?_
     refine g_begin ?_
     refine g_step rfl rfl rfl rfl (e_move (v := .sc _) rfl) trivial ?_
     refine g_step rfl rfl rfl rfl (e_loadH (v := .map _) rfl ((hset_ne (key_ne rfl)).trans ((hset_ne (key_ne rfl)).trans hihj58_3)) (by kernel_rfl) (by kernel_rfl) (by kernel_rfl) (by exact Nat.zero_lt_one) (by decide) rfl) trivial ?_
     refine g_step rfl rfl rfl rfl (e_faP (pl := [(0, 1, false), (1, 1, false), (2, 1, false)]) rfl (by kernel_rfl) (by kernel_rfl) (by decide) rfl) trivial ?_
     refine g_step rfl rfl rfl rfl (e_loadH (v := .sc _) rfl (hset_self _ _ _) (by kernel_rfl) (by kernel_rfl) (by kernel_rfl) (by exact Nat.zero_lt_one) (by decide) rfl) trivial ?_
     refine g_step rfl rfl rfl rfl (e_build (cs := Shelf.enc (⟨x.via, (0), (0)⟩ : Shelf)) (zs := [.str ByteArray.empty, .int 0, .int 0]) (pl := [(0, 1, false), (1, 1, false), (2, 1, false)]) (by kernel_rfl) (by kernel_rfl) (by kernel_rfl) rfl rfl (by exact ⟨by decide, rfl, Nat.le_of_ble_eq_true rfl, rfl, ⟨by decide, rfl, Nat.le_of_ble_eq_true rfl, rfl, ⟨by decide, rfl, Nat.le_of_ble_eq_true rfl, rfl, trivial⟩⟩⟩) rfl) trivial ?_
     refine g_step rfl rfl rfl rfl (e_look (kt := 93) (et := 3) (f := kx) (g := PV.int) (a := (⟨x.via, (0), (0)⟩ : Shelf)) (l := m2) (z := 0) kx_eq kx_ok rfl rfl (MapAt.keep hihj58_6 ((hset_ne (key_ne rfl)).trans ((hset_ne (key_ne rfl)).trans (rfl)))) (by kernel_rfl) (by kernel_rfl) (by first | rfl | kernel_rfl)) trivial ?_
     refine g_step rfl rfl rfl rfl (e_faP (pl := [(0, 1, false), (1, 1, false), (2, 1, false)]) rfl (by kernel_rfl) (by kernel_rfl) (by decide) rfl) trivial ?_
     refine g_step rfl rfl rfl rfl (e_loadH (v := .sc _) rfl (hset_self _ _ _) (by kernel_rfl) (by kernel_rfl) (by kernel_rfl) (by exact Nat.zero_lt_one) (by decide) rfl) trivial ?_
     refine g_step rfl rfl rfl rfl (e_quo rfl rfl (by omega) (by omega) (by omega)) trivial ?_
     refine g_step rfl rfl rfl rfl (e_min rfl rfl) trivial ?_
     refine g_step rfl rfl rfl rfl (e_assign (v := .sc _) rfl) trivial ?_
     refine g_end (ds := []) (by kernel_rfl) rfl (hK66 _ ?_); clear hK66 K66
     refine pwp_seq_plain rfl fun K67 hK67 => ?_
     refine p_step rfl (e_move (v := .func _ _ _) rfl) trivial ?_
     refine p_step rfl (e_faP (pl := [(0, 1, false), (1, 1, false), (2, 1, false)]) rfl (by kernel_rfl) (by kernel_rfl) (by decide) rfl) trivial ?_
     refine p_step rfl (e_loadH (v := .sc _) rfl (hset_self _ _ _) (by kernel_rfl) (by kernel_rfl) (by kernel_rfl) (by exact Nat.zero_lt_one) (by decide) rfl) trivial ?_
     refine p_step rfl (e_move (v := .sc _) rfl) trivial ?_
     refine p_step rfl (e_faP (pl := [(0, 1, false), (1, 1, false), (2, 1, false)]) rfl (by kernel_rfl) (by kernel_rfl) (by decide) rfl) trivial ?_
     refine p_step rfl (e_loadH (v := .sc _) rfl (hset_self _ _ _) (by kernel_rfl) (by kernel_rfl) (by kernel_rfl) (by exact Nat.zero_lt_one) (by decide) rfl) trivial ?_
     refine p_step rfl (e_mul rfl rfl (by omega)) trivial ?_
     refine p_hcall rfl (takeC o m2 mv2 v2 x.via ((min nd (((aGet (⟨x.via, (0), (0)⟩ : Shelf) m2).getD 0) / x.count)) * x.count) 0 _ _ _ _ _ (MapAt.keep hihj58_6 ((hset_ne (key_ne rfl)).trans ((hset_ne (key_ne rfl)).trans (rfl)))) ((hset_ne (key_ne rfl)).trans ((hset_ne (key_ne rfl)).trans hihj58_3)) ((hset_ne (key_ne rfl)).trans ((hset_ne (key_ne rfl)).trans hihj58_4)) (hihj58_1.keep fun _ => (hset_ne (key_ne rfl)).trans ((hset_ne (key_ne rfl)).trans (rfl))) ((hset_ne (key_ne rfl)).trans ((hset_ne (key_ne rfl)).trans hihj58_2)) (hbd2 _) ⟨by omega, by omega⟩ (by omega)) fun w68 h69 c70 hR71 => ?_
     obtain ⟨rfl, ⟨u72, ht73, hs74⟩, hm75, hf76⟩ := hR71
     have hbd77 := gM_bd hbd2 (p := x.via) (n := ((min nd (((aGet (⟨x.via, (0), (0)⟩ : Shelf) m2).getD 0) / x.count)) * x.count)) (by omega) (by show _ ≤ ((aGet (⟨x.via, 0, 0⟩ : Shelf) m2).getD 0); omega)
     have hlnhbd77 := tkV_len (pl := o.place) (mv := mv2) (p := x.via) (n := ((min nd (((aGet (⟨x.via, (0), (0)⟩ : Shelf) m2).getD 0) / x.count)) * x.count))
     have ho78 := (hf76 3 _ rfl rfl rfl rfl).trans ((hset_ne (key_ne rfl)).trans ((hset_ne (key_ne rfl)).trans hihj58_2))
     have ho79 := (hf76 9 _ rfl rfl rfl rfl).trans ((hset_ne (key_ne rfl)).trans ((hset_ne (key_ne rfl)).trans hihj58_3))
     have ho80 := (hf76 14 _ rfl rfl rfl rfl).trans ((hset_ne (key_ne rfl)).trans ((hset_ne (key_ne rfl)).trans hihj58_5))
     have ho81 := (hf76 18 _ rfl rfl rfl rfl).trans (hset_self _ _ _)
     have hs82 := ((hihj58_0.keep fun _ => (hset_ne (key_ne rfl)).trans ((hset_ne (key_ne rfl)).trans (rfl)))).keep fun g => hf76 99 g rfl rfl rfl rfl
     refine p_end (hK67 _ ?_); clear hK67 K67
     refine pwp_plain rfl fun K83 hK83 => ?_
     refine p_step rfl (e_move (v := .sc _) rfl) trivial ?_
     refine p_step rfl (e_move (v := .sc _) rfl) trivial ?_
     refine p_step rfl (e_sub rfl rfl (by omega)) trivial ?_
     refine p_step rfl (e_assign (v := .sc _) rfl) trivial ?_
     refine p_end (hK83 _ ?_); clear hK83 K83
     refine block_norm ?_
     refine seq_norm (hK62 _ ?_); clear hK62 K62
     refine pwp_plain rfl fun K84 hK84 => ?_
     refine p_step rfl (e_add rfl rfl (by omega)) trivial ?_
     refine p_step rfl (e_move (v := .sc _) rfl) trivial ?_
     refine p_end (hK84 _ ?_); clear hK84 K84
     exact loop_again ((j + 1, (nd - (min nd (((aGet (⟨x.via, (0), (0)⟩ : Shelf) m2).getD 0) / x.count))), (tkM m2 x.via ((min nd (((aGet (⟨x.via, (0), (0)⟩ : Shelf) m2).getD 0) / x.count)) * x.count)), (tkV o.place mv2 x.via ((min nd (((aGet (⟨x.via, (0), (0)⟩ : Shelf) m2).getD 0) / x.count)) * x.count)), u72)) (by show _ < _; simp only; omega) ⟨rfl, rfl, rfl, rfl, rfl, rfl, rfl, rfl, rfl, rfl, rfl, trivial⟩ ⟨rfl, rfl, trivial⟩ (by exact ⟨by show _ + 1 ≤ _; omega, by first | exact sg_t hinv2 (by assumption) | exact sg_f hinv2 (by assumption), by first | exact gM_bd hbd2 hmm.2.1 hmm.2.2 | exact hbd2, by (dsimp only; constructor <;> omega), by first | exact Nat.le_trans tkV_len (by omega) | (show mv2.length ≤ 61 * k + 1 + (j + 1); omega), hs82, hs74, ho78, ho79, ht73, ho80, hm75⟩)
    have hb65R := hb65; simp only [z1, z2, z3, z4, z5, z6, ne_eq, z7, z8, z9, z10, z11, z12] at hb65
    refine pwp_skip ?_
    refine block_norm ?_
    refine seq_norm (hK62 _ ?_); clear hK62 K62
    refine pwp_plain rfl fun K85 hK85 => ?_
    refine p_step rfl (e_add rfl rfl (by omega)) trivial ?_
    refine p_step rfl (e_move (v := .sc _) rfl) trivial ?_
    refine p_end (hK85 _ ?_); clear hK85 K85
    exact loop_again ((j + 1, nd, m2, mv2, v2)) (by show _ < _; simp only; omega) ⟨rfl, rfl, rfl, rfl, rfl, rfl, rfl, rfl, rfl, rfl, rfl, trivial⟩ ⟨rfl, rfl, trivial⟩ (by exact ⟨by show _ + 1 ≤ _; omega, by first | exact sg_t hinv2 (by assumption) | exact sg_f hinv2 (by assumption), by first | exact gM_bd hbd2 hmm.2.1 hmm.2.2 | exact hbd2, by (dsimp only; constructor <;> omega), by first | exact Nat.le_trans tkV_len (by omega) | (show mv2.length ≤ 61 * k + 1 + (j + 1); omega), (hihj58_0.keep fun _ => (hset_ne (key_ne rfl)).trans ((hset_ne (key_ne rfl)).trans (rfl))), (hihj58_1.keep fun _ => (hset_ne (key_ne rfl)).trans ((hset_ne (key_ne rfl)).trans (rfl))), ((hset_ne (key_ne rfl)).trans ((hset_ne (key_ne rfl)).trans hihj58_2)), ((hset_ne (key_ne rfl)).trans ((hset_ne (key_ne rfl)).trans hihj58_3)), ((hset_ne (key_ne rfl)).trans ((hset_ne (key_ne rfl)).trans hihj58_4)), ((hset_ne (key_ne rfl)).trans ((hset_ne (key_ne rfl)).trans hihj58_5)), (MapAt.keep hihj58_6 ((hset_ne (key_ne rfl)).trans ((hset_ne (key_ne rfl)).trans (rfl))))⟩)
   have hb61R := hb61; simp only [z1, z2, z3, z4, z5, z6, ne_eq, z7, z8, z9, z10, z11, z12] at hb61
   obtain rfl : j = o.swaps.length := by omega
   rw [List.drop_length] at hinv2; simp only [swG] at hinv2
   refine pwp_exit ?_
   refine exit_seq ?_
   clear hK60 K60
   refine exit_loop ?_
   refine exit_here ?_
   refine seq_norm (hK53 _ ?_); clear hK53 K53
   refine pwp_seq_plain rfl fun K86 hK86 => ?_
   refine p_step rfl (e_move (v := .sc _) rfl) trivial ?_
   refine p_step rfl (e_gt rfl rfl) trivial ?_
   refine p_end (hK86 _ ?_); clear hK86 K86
   refine pwp_cond rfl (fun hb87 => ?_) (fun hb87 => ?_)
   ·have hb87R := hb87; simp only [z1, z2, z3, z4, z5, z6, ne_eq, z7, z8, z9, z10, z11, z12] at hb87
    refine pwp_plain rfl fun K88 hK88 => ?_
    refine p_step rfl (e_move (v := _) rfl) trivial ?_
    refine p_step rfl (e_faP (pl := [(0, 1, false), (1, 1, false)]) rfl (by kernel_rfl) (by kernel_rfl) (by decide) rfl) trivial ?_
    refine p_step rfl (e_loadH (v := .sc _) rfl hihj58_5 (by kernel_rfl) (by kernel_rfl) (by kernel_rfl) (by exact Nat.zero_lt_one) (by decide) rfl) trivial ?_
    refine p_step rfl (e_move (v := .sc _) rfl) trivial ?_
    refine p_step rfl (e_build (cs := Want.enc (⟨w.part, nd⟩ : Want)) (zs := [.str ByteArray.empty, .int 0]) (pl := [(0, 1, false), (1, 1, false)]) (by kernel_rfl) (by kernel_rfl) (by kernel_rfl) rfl rfl (by exact ⟨by decide, rfl, Nat.le_of_ble_eq_true rfl, rfl, ⟨by decide, rfl, Nat.le_of_ble_eq_true rfl, rfl, trivial⟩⟩) rfl) trivial ?_
    refine p_new rfl (e_bslice (rows := [Want.enc ⟨w.part, nd⟩]) (zs := [.str ByteArray.empty, .int 0]) (sz := 2) (by kernel_rfl) (by kernel_rfl) rfl (by kernel_rfl) (by decide) rfl rfl (by exact ⟨by decide, rfl, rfl, trivial⟩) rfl) trivial ?_
    refine p_app rfl rfl rfl (hihj58_0.keep fun _ => (hset_ne (key_ne rfl)).trans (rfl)) (src_ref (hset_self _ _ _) rfl) (by kernel_rfl) (by simp only [List.length_append, List.length_map, List.length_nil, List.length_cons]; omega) fun v89 h90 c91 hs92 hf93 => ?_
    have ho94 := (hf93 (3, _) (key_ne rfl) (fun _ _ => key_ne rfl)).trans ((hset_ne (key_ne rfl)).trans hihj58_2)
    have ho95 := (hf93 (9, _) (key_ne rfl) (fun _ _ => key_ne rfl)).trans ((hset_ne (key_ne rfl)).trans hihj58_3)
    have ho96 := (hf93 (10, _) (key_ne rfl) (fun _ _ => key_ne rfl)).trans ((hset_ne (key_ne rfl)).trans hihj58_4)
    have ho97 := (hf93 (14, _) (key_ne rfl) (fun _ _ => key_ne rfl)).trans ((hset_ne (key_ne rfl)).trans hihj58_5)
    have ho98 := (hf93 (98, _) (key_ne rfl) (fun _ _ => key_ne rfl)).trans (hset_self _ _ _)
    have ho99 := MapAt.keep (MapAt.keep hihj58_6 ((hset_ne (key_ne rfl)).trans (rfl))) (hf93 (6, _) (key_ne rfl) (fun _ _ => key_ne rfl))
    have hs100 := ((hihj58_1.keep fun _ => (hset_ne (key_ne rfl)).trans (rfl))).keep fun g => (hf93 (24, g) (key_ne rfl) (fun _ _ => key_ne rfl))
    refine p_step rfl (e_assign (v := _) rfl) trivial ?_
    refine p_end (hK88 _ ?_); clear hK88 K88
    refine block_norm ?_
    refine seq_norm (hK33 _ ?_); clear hK33 K33
    refine pwp_plain rfl fun K101 hK101 => ?_
    refine p_step rfl (e_add rfl rfl (by omega)) trivial ?_
    refine p_step rfl (e_move (v := .sc _) rfl) trivial ?_
    refine p_end (hK101 _ ?_); clear hK101 K101
    exact loop_again ((k + 1, m2, mv2, (la ++ [(⟨w.part, nd⟩ : Want)]), v2, v89)) (by show _ < _; simp only; omega) ⟨rfl, rfl, rfl, rfl, rfl, rfl, trivial⟩ ⟨rfl, rfl, trivial⟩ (by exact ⟨by show _ + 1 ≤ _; omega, by (have h9 := pg_s hinv hinv2; first | (rw [if_pos (by omega)] at h9; exact h9) | (rw [if_neg (by omega)] at h9; exact h9)), by exact hbd2, by (show mv2.length ≤ 61 * (k + 1); omega), by first | (show (la ++ [_]).length ≤ k + 1; simp only [List.length_append, List.length_cons, List.length_nil]; omega) | (show la.length ≤ k + 1; omega), (SliceAt.to hs92 (by (first | rfl | (simp only [List.map_append, List.map_cons, List.map_nil] <;> rfl)))), hs100, ho94, ho95, ho96, ho99⟩)
   have hb87R := hb87; simp only [z1, z2, z3, z4, z5, z6, ne_eq, z7, z8, z9, z10, z11, z12] at hb87
   refine pwp_skip ?_
   refine block_norm ?_
   refine seq_norm (hK33 _ ?_); clear hK33 K33
   refine pwp_plain rfl fun K102 hK102 => ?_
   refine p_step rfl (e_add rfl rfl (by omega)) trivial ?_
   refine p_step rfl (e_move (v := .sc _) rfl) trivial ?_
   refine p_end (hK102 _ ?_); clear hK102 K102
   exact loop_again ((k + 1, m2, mv2, la, v2, vl)) (by show _ < _; simp only; omega) ⟨rfl, rfl, rfl, rfl, rfl, rfl, trivial⟩ ⟨rfl, rfl, trivial⟩ (by exact ⟨by show _ + 1 ≤ _; omega, by (have h9 := pg_s hinv hinv2; first | (rw [if_pos (by omega)] at h9; exact h9) | (rw [if_neg (by omega)] at h9; exact h9)), by exact hbd2, by (show mv2.length ≤ 61 * (k + 1); omega), by first | (show (la ++ [_]).length ≤ k + 1; simp only [List.length_append, List.length_cons, List.length_nil]; omega) | (show la.length ≤ k + 1; omega), (SliceAt.to hihj58_0 (by (first | rfl | (simp only [List.map_append, List.map_cons, List.map_nil] <;> rfl)))), hihj58_1, hihj58_2, hihj58_3, hihj58_4, hihj58_6⟩)
  have hb32R := hb32; simp only [z1, z2, z3, z4, z5, z6, ne_eq, z7, z8, z9, z10, z11, z12] at hb32
  obtain rfl : k = o.wants.length := by omega
  rw [List.drop_length] at hinv; simp only [pkG] at hinv
  refine pwp_exit ?_
  refine exit_seq ?_
  clear hK31 K31
  refine exit_loop ?_
  refine exit_here ?_
  refine seq_norm (hK24 _ ?_); clear hK24 K24
  refine pwp_seq_plain rfl fun K103 hK103 => ?_
  refine p_step rfl (e_loadH (v := _) rfl hihj29_4 (by kernel_rfl) (by kernel_rfl) (by kernel_rfl) (by exact Nat.zero_lt_one) (by decide) rfl) trivial ?_
  refine p_step rfl (e_move (v := _) rfl) trivial ?_
  refine p_step rfl (e_assign (v := _) rfl) trivial ?_
  refine p_step rfl (e_assign (v := _) rfl) trivial ?_
  refine p_step rfl (e_assign (v := .sc _) rfl) trivial ?_
  refine p_end (hK103 _ ?_); clear hK103 K103
  refine pwp_ret ?_
  refine end3 (v := _) (w := _) (x := .sc _) rfl rfl rfl ?_
  exact px_out (px_3 hst ho0 hinv) hihj29_1 hihj29_0

end Go.Proofs.YtigdmkhdmbbfiaaDoor

/- The law of picks. No conditions. -/
set_option linter.unusedSimpArgs false
set_option linter.unusedVariables false
set_option maxRecDepth 100000
set_option maxHeartbeats 8000000
namespace Go.Proofs.YtigdmkhdmbbfiaaDoor
open Go Go.Pv

/-! ### The law of picks -/
section
variable {σ : Type} {gt : σ → ByteArray → Int} {tk : σ → ByteArray → Int → σ}
theorem swG_len {pl : Int} {wp : ByteArray} : ∀ (l : List Swap) (nd : Int) (s : σ) (mv : List Movement), (swG gt tk pl wp nd s mv l).2.2.length ≤ mv.length + l.length
  | [], _, _, _ => Nat.le_refl _
  | x :: l, nd, s, mv => by
    unfold swG
    split
    · have h1 := swG_len (pl := pl) (wp := wp) l (nd - min nd (gt s x.via / x.count)) (tk s x.via (min nd (gt s x.via / x.count) * x.count)) (tkV pl mv x.via (min nd (gt s x.via / x.count) * x.count))
      have h2 := tkV_len (pl := pl) (mv := mv) (p := x.via) (n := min nd (gt s x.via / x.count) * x.count)
      simp only [List.length_cons]; omega
    · have h1 := swG_len (pl := pl) (wp := wp) l nd s mv
      simp only [List.length_cons]; omega
theorem pkG_len {pl : Int} {ss : List Swap} : ∀ (l : List Want) (s : σ) (mv : List Movement) (la : List Want), ss.length ≤ 100 → (pkG gt tk pl ss s mv la l).1.length ≤ mv.length + 101 * l.length ∧ (pkG gt tk pl ss s mv la l).2.length ≤ la.length + l.length
  | [], _, _, _, _ => ⟨Nat.le_refl _, Nat.le_refl _⟩
  | w :: l, s, mv, la, hs => by
    unfold pkG
    generalize hr : swG gt tk pl w.part (w.count - min w.count (gt s w.part)) (tk s w.part (min w.count (gt s w.part))) (tkV pl mv w.part (min w.count (gt s w.part))) ss = r
    have h1 := swG_len (gt := gt) (tk := tk) (pl := pl) (wp := w.part) ss (w.count - min w.count (gt s w.part)) (tk s w.part (min w.count (gt s w.part))) (tkV pl mv w.part (min w.count (gt s w.part)))
    rw [hr] at h1
    have h2 := tkV_len (pl := pl) (mv := mv) (p := w.part) (n := min w.count (gt s w.part))
    have h3 := pkG_len (pl := pl) l r.2.1 r.2.2 (if 0 < r.1 then la ++ [⟨w.part, r.1⟩] else la) hs
    have h4 : (if 0 < r.1 then la ++ [(⟨w.part, r.1⟩ : Want)] else la).length ≤ la.length + 1 := by split <;> simp
    simp only [List.length_cons]
    omega
end
theorem pickX_len (xs : List Stock) (o : Order) : (pickX xs o).2.1.length ≤ 10000 ∧ (pickX xs o).2.2.length ≤ 10000 := by
  unfold pickX
  split
  · simp
  · split
    · simp
    · rename_i h1 h2
      obtain ⟨_, h3, h4, _⟩ := orderE_ok (by simpa using h2)
      have := pkG_len (gt := gM) (tk := tkM) (pl := o.place) (ss := o.swaps) o.wants (sumS [] xs) [] [] (by omega)
      simp only [List.length_nil] at this
      show (pickR xs o).1.length ≤ _ ∧ (pickR xs o).2.length ≤ _
      unfold pickR
      omega
end Go.Proofs.YtigdmkhdmbbfiaaDoor

/- What is picked of one want: the plain law. No conditions. -/
set_option linter.unusedSimpArgs false
set_option linter.unusedVariables false
set_option maxRecDepth 100000
set_option maxHeartbeats 8000000
namespace Go.Proofs.YtigdmkhdmbbfiaaDoor
open Go Go.Pv

/-! ### What is picked of one want -/
def byF (wp p : ByteArray) : Int → List Swap → Int
  | b, [] => b
  | b, x :: l => byF wp p (if x.part = wp ∧ x.via = p then x.count else b) l
theorem by_t {wp p : ByteArray} {b R : Int} {x : Swap} {l : List Swap} (h : R = byF wp p b (x :: l)) (h1 : x.part = wp) (h2 : x.via = p) : R = byF wp p x.count l := by rw [h, byF, if_pos ⟨h1, h2⟩]
theorem by_f {wp p : ByteArray} {b R : Int} {x : Swap} {l : List Swap} (h : R = byF wp p b (x :: l)) (h1 : ¬ (x.part = wp ∧ x.via = p)) : R = byF wp p b l := by rw [h, byF, if_neg h1]
theorem byF_no {wp p : ByteArray} : ∀ {l : List Swap} {b : Int}, (∀ x ∈ l, ¬ (x.part = wp ∧ x.via = p)) → byF wp p b l = b
  | [], _, _ => rfl
  | x :: l, b, h => by rw [byF, if_neg (h x List.mem_cons_self)]; exact byF_no fun y hy => h y (List.mem_cons_of_mem _ hy)
theorem byF_of {wp : ByteArray} {s : Swap} (hs : s.part = wp) : ∀ {l : List Swap} {b : Int}, l.Pairwise (fun x y => x.via ≠ y.via) → s ∈ l → byF wp s.via b l = s.count
  | x :: l, b, hp, hm => by
    obtain ⟨h1, h2⟩ := List.pairwise_cons.1 hp
    rw [byF]
    rcases List.mem_cons.1 hm with rfl | hm
    · rw [if_pos ⟨hs, rfl⟩]; exact byF_no fun y hy e => h1 y hy e.2.symm
    · exact byF_of hs h2 hm
def byW (w : Want) (ss : List Swap) (p : ByteArray) : Int := byF w.part p (if p = w.part then 1 else 0) ss
/-- What the movements replace. -/
def sumB (w : Want) (ss : List Swap) : Int → List Movement → Int
  | s, [] => s
  | s, x :: l => sumB w ss (s + x.count / byW w ss x.part) l
theorem sumB_app (w : Want) (ss : List Swap) : ∀ (l l' : List Movement) (s : Int), sumB w ss s (l ++ l') = sumB w ss (sumB w ss s l) l'
  | [], _, _ => rfl
  | x :: l, l', s => by simp only [List.cons_append, sumB]; exact sumB_app w ss l l' _
theorem sumB_ge {w : Want} {ss : List Swap} : ∀ {l : List Movement} {s : Int}, (∀ x ∈ l, 1 ≤ byW w ss x.part ∧ 0 ≤ x.count) → s ≤ sumB w ss s l
  | [], _, _ => Int.le_refl _
  | x :: l, s, h => by
    obtain ⟨h1, h2⟩ := h x List.mem_cons_self
    have h3 : 0 ≤ x.count / byW w ss x.part := Int.ediv_nonneg h2 (by omega)
    have h4 := sumB_ge (l := l) (s := s + x.count / byW w ss x.part) fun y hy => h y (List.mem_cons_of_mem _ hy)
    simp only [sumB]; omega
theorem sumB_add (w : Want) (ss : List Swap) : ∀ (l : List Movement) (s : Int), sumB w ss s l = s + sumB w ss 0 l
  | [], s => by simp [sumB]
  | x :: l, s => by simp only [sumB]; rw [sumB_add w ss l, sumB_add w ss l (0 + _)]; omega
def tP (p : ByteArray) : List Movement → Int
  | [] => 0
  | x :: l => (if x.part = p then x.count else 0) + tP p l
theorem tP_app (p : ByteArray) : ∀ l l' : List Movement, tP p (l ++ l') = tP p l + tP p l'
  | [], l' => by simp [tP]
  | x :: l, l' => by simp only [List.cons_append, tP]; rw [tP_app p l l']; omega
theorem tP_0 {p : ByteArray} : ∀ {l : List Movement}, (∀ x ∈ l, 0 ≤ x.count) → 0 ≤ tP p l
  | [], _ => Int.le_refl _
  | x :: l, h => by
    have h1 := h x List.mem_cons_self
    have h2 := tP_0 (p := p) (l := l) fun y hy => h y (List.mem_cons_of_mem _ hy)
    simp only [tP]; split <;> omega
def mvQ (w : Want) (ss : List Swap) (x : Movement) : Prop := x = ⟨x.part, 0, 1, 0, 0, x.count⟩ ∧ isNm x.part = true ∧ 1 ≤ x.count ∧ 1 ≤ byW w ss x.part ∧ x.count % byW w ss x.part = 0
structure PI (w : Want) (ss : List Swap) (g0 : ByteArray → Int) (nd : Int) (m : Sto) (mv : List Movement) : Prop where
  hnd : 0 ≤ nd
  hgt : ∀ p, gM m p = g0 p - tP p mv ∧ 0 ≤ gM m p
  hmv : ∀ x ∈ mv, mvQ w ss x
  hsum : nd + sumB w ss 0 mv = w.count
theorem PI.take {w : Want} {ss : List Swap} {g0 : ByteArray → Int} {nd n c : Int} {m : Sto} {mv : List Movement} {p : ByteArray} (h : PI w ss g0 nd m mv) (hp : isNm p = true) (hc : 1 ≤ c) (hb : byW w ss p = c) (hn : 0 ≤ n ∧ n ≤ nd) (hm : n * c ≤ gM m p) : PI w ss g0 (nd - n) (tkM m p (n * c)) (tkV 1 mv p (n * c)) := by
  have h0 : 0 ≤ n * c := Int.mul_nonneg hn.1 (by omega)
  by_cases hz : 0 < n * c
  · rw [tkV_t hz]
    refine ⟨by omega, fun p' => ?_, fun x hx => ?_, ?_⟩
    · rw [gM_tk, tP_app]
      have h1 := h.hgt p'
      have h2 := h.hgt p
      by_cases he : p' = p
      · subst he
        rw [if_pos ⟨hz, rfl⟩]
        have : tP p' [(⟨p', 0, 1, 0, 0, n * c⟩ : Movement)] = n * c := by simp [tP]
        rw [this]; omega
      · rw [if_neg (fun e => he e.2)]
        have : tP p' [(⟨p, 0, 1, 0, 0, n * c⟩ : Movement)] = 0 := by
          simp only [tP]; rw [if_neg (fun e => he e.symm)]; rfl
        rw [this]; omega
    · rcases List.mem_append.1 hx with hx | hx
      · exact h.hmv x hx
      · simp only [List.mem_singleton] at hx; subst hx
        refine ⟨rfl, hp, by show 1 ≤ n * c; omega, by show 1 ≤ byW w ss p; omega, ?_⟩
        show n * c % byW w ss p = 0
        rw [hb]; exact Int.mul_emod_left _ _
    · rw [sumB_app]
      show nd - n + (sumB w ss 0 mv + n * c / byW w ss p) = w.count
      rw [hb, Int.mul_ediv_cancel _ (by omega)]
      have := h.hsum; omega
  · have hn0 : n = 0 := by
      rcases Int.lt_or_eq_of_le hn.1 with h1 | h1
      · exact absurd (Int.mul_pos h1 (by omega : 0 < c)) hz
      · exact h1.symm
    subst hn0
    rw [tkV_f hz, tkM_f hz]
    simpa using h
theorem swG_PI {w : Want} {ss : List Swap} {g0 : ByteArray → Int} (hd : ss.Pairwise fun x y => x.via ≠ y.via) (hs : ∀ s ∈ ss, isNm s.part = true ∧ isNm s.via = true ∧ s.part ≠ s.via ∧ 1 ≤ s.count ∧ s.count ≤ 100) :
    ∀ (l : List Swap) (nd : Int) (m : Sto) (mv : List Movement), (∀ x ∈ l, x ∈ ss) → PI w ss g0 nd m mv → PI w ss g0 (swG gM tkM 1 w.part nd m mv l).1 (swG gM tkM 1 w.part nd m mv l).2.1 (swG gM tkM 1 w.part nd m mv l).2.2
  | [], _, _, _, _, h => h
  | x :: l, nd, m, mv, hm, h => by
    have hl : ∀ y ∈ l, y ∈ ss := fun y hy => hm y (List.mem_cons_of_mem _ hy)
    have hx := hm x List.mem_cons_self
    unfold swG
    by_cases he : x.part = w.part
    · rw [if_pos he]
      obtain ⟨h1, h2, h3, h4, h5⟩ := hs x hx
      have hg := (h.hgt x.via).2
      have hmm := min_mul (nd := nd) (g := gM m x.via) (c := x.count) h.hnd hg h4
      have hnd := h.hnd
      exact swG_PI hd hs l _ _ _ hl (h.take h2 h4 (byF_of he hd hx) ⟨by omega, by omega⟩ hmm.2.2)
    · rw [if_neg he]; exact swG_PI hd hs l _ _ _ hl h
theorem pick_one {xs : List Stock} {w : Want} {ss : List Swap} (h : stockE xs = 0) (ho : orderE ⟨1, [w], ss⟩ = 0) (hd : ss.Pairwise fun x y => x.via ≠ y.via) :
    ∃ nd : Int, pickX xs ⟨1, [w], ss⟩ = (0, (pickX xs ⟨1, [w], ss⟩).2.1, if 0 < nd then [⟨w.part, nd⟩] else []) ∧ 0 ≤ nd ∧ nd + sumB w ss 0 (pickX xs ⟨1, [w], ss⟩).2.1 = w.count ∧ (∀ x ∈ (pickX xs ⟨1, [w], ss⟩).2.1, mvQ w ss x) ∧ ∀ p, tP p (pickX xs ⟨1, [w], ss⟩).2.1 ≤ cntS ⟨p, 0, 0⟩ xs := by
  obtain ⟨_, _, _, h4, h5⟩ := orderE_ok ho
  have hw := wntE_ok h4 w (by simp)
  have hss := swapsE_ok h5
  have hg0 : ∀ p, gM (sumS [] xs) p = cntS ⟨p, 0, 0⟩ xs := fun p => getS_sum0 _ _
  have hgn : ∀ p, 0 ≤ gM (sumS [] xs) p := fun p => by rw [hg0]; exact cntS_0 fun x hx => ((stockE_ok h).2 x hx).2.2.1
  have h0 : PI w ss (gM (sumS [] xs)) w.count (sumS [] xs) [] := ⟨by omega, fun p => ⟨by simp [tP], hgn p⟩, fun x hx => by simp at hx, by simp [sumB]⟩
  have hb1 : byW w ss w.part = 1 := by
    unfold byW
    rw [if_pos rfl]
    exact byF_no fun x hx e => (hss x hx).2.2.1 (e.1.trans e.2.symm)
  have hgw := hgn w.part
  have h1 := h0.take (p := w.part) (n := min w.count (gM (sumS [] xs) w.part)) (c := 1) hw.1 (Int.le_refl _) hb1 ⟨by omega, by omega⟩ (by omega)
  rw [Int.mul_one] at h1
  have h2 := swG_PI hd hss ss _ _ _ (fun x hx => hx) h1
  generalize hr : swG gM tkM 1 w.part (w.count - min w.count (gM (sumS [] xs) w.part)) (tkM (sumS [] xs) w.part (min w.count (gM (sumS [] xs) w.part))) (tkV 1 [] w.part (min w.count (gM (sumS [] xs) w.part))) ss = r at h2
  have hp : pickX xs ⟨1, [w], ss⟩ = (0, r.2.2, if 0 < r.1 then [⟨w.part, r.1⟩] else []) := by
    rw [px_3 h ho (a := r.2.2) (b := if 0 < r.1 then [⟨w.part, r.1⟩] else [])]
    unfold pickR
    simp only [pkG]
    rw [hr]; rfl
  refine ⟨r.1, by rw [hp], h2.hnd, by rw [hp]; exact h2.hsum, by rw [hp]; exact h2.hmv, fun p => ?_⟩
  rw [hp, ← hg0]
  have := h2.hgt p
  show tP p r.2.2 ≤ _
  omega
theorem lst_08 (m : Sto) : ∀ (ks : List Kx) (acc : List Stock), (lstG m acc ks).1 = 0 ∨ (lstG m acc ks).1 = 8
  | [], _ => .inl rfl
  | k :: ks, acc => by unfold lstG; split <;> first | exact .inr rfl | exact lst_08 m ks _
theorem listS_08 (m : Sto) : (listS m).1 = 0 ∨ (listS m).1 = 8 := by
  unfold listS
  dsimp only
  rcases lst_08 m (keysS m) [] with h | h
  · rw [if_pos h]; split <;> first | exact .inr rfl | exact .inl h
  · rw [if_neg (by omega)]; exact .inr h
theorem lst_le {m : Sto} : ∀ {ks : List Kx} {acc : List Stock}, (lstG m acc ks).1 = 0 → ∀ k ∈ ks, getS k m ≤ 1000000
  | [], _, _, k, hk => by simp at hk
  | y :: ks, acc, h, k, hk => by
    unfold lstG at h
    by_cases h1 : 1000000 < getS y m
    · rw [if_pos h1] at h; cases h
    · rw [if_neg h1] at h
      rcases List.mem_cons.1 hk with rfl | hk
      · omega
      · exact lst_le h k hk
theorem norm_le {xs : List Stock} (h : stockE xs = 0) (h2 : (normR xs).1 = 0) (k : Kx) : cntS k xs ≤ 1000000 := by
  rw [normR, if_pos h] at h2
  rcases listS_cases (sumS [] xs) with ⟨_, h3, _⟩ | ⟨h3, _⟩
  · rw [← getS_sum0]
    by_cases hp : 0 < getS k (sumS [] xs)
    · exact lst_le h3 k (keysS_mem.2 (getS_mem hp))
    · omega
  · exact absurd h2 h3
theorem moves_08 {w : Want} {ss : List Swap} : ∀ (ms : List Movement) (xs : List Stock) (i : Int), stockE xs = 0 → (∀ x ∈ ms, mvQ w ss x) → (∀ p, tP p ms ≤ cntS ⟨p, 0, 0⟩ xs) → (∀ p, cntS ⟨p, 0, 0⟩ xs ≤ 1000000) → (goMv moveR xs i ms).2.2 = 0 ∨ (goMv moveR xs i ms).2.2 = 8
  | [], _, _, _, _, _, _ => .inl rfl
  | m :: ms, xs, i, h, hm, ht, hc => by
    obtain ⟨h1, h2, h3, _⟩ := hm m List.mem_cons_self
    have hl : ∀ x ∈ ms, mvQ w ss x := fun x hx => hm x (List.mem_cons_of_mem _ hx)
    have htp := ht m.part
    simp only [tP] at htp
    rw [if_pos trivial] at htp
    have ht0 := tP_0 (p := m.part) (l := ms) fun x hx => by have := (hl x hx).2.2.1; omega
    have hcm := hc m.part
    have e1 : m.fro = 0 := by rw [h1]
    have e2 : m.til = 1 := by rw [h1]
    have e3 : m.before = 0 := by rw [h1]
    have e4 : m.after = 0 := by rw [h1]
    have hE : mvE m = 0 := (mv_0 h2 (by unfold rngQ; omega) (perm_t (by unfold permQ; omega)).symm).symm
    have hk : ¬ lack xs m := by
      rintro ⟨_, h4⟩
      rw [e1, e3] at h4; omega
    have hR : moveR xs m = listS (sumS [] (xs ++ (extF m ++ extT m))) := by rw [moveR, if_neg (by simpa using h), if_neg (by simpa using hE), if_neg hk]
    unfold goMv
    rcases listS_08 (sumS [] (xs ++ (extF m ++ extT m))) with h4 | h4
    · rw [← hR] at h4
      rw [if_neg (by simpa using h4)]
      have hcn : ∀ p, cntS ⟨p, 0, 0⟩ (moveR xs m).2 = cntS ⟨p, 0, 0⟩ xs - (if m.part = p then m.count else 0) := fun p => by
        rw [cnt_move h h4, cntS_app, cnt_F, cnt_T, e1, e2, e3, e4]
        by_cases hpp : m.part = p
        · rw [if_pos ⟨by decide, by rw [hpp]⟩, if_neg (fun e => by have := e.2; simp at this), if_pos hpp]; omega
        · rw [if_neg (fun e => hpp (by have := e.2; simpa using this)), if_neg (fun e => by have := e.2; simp at this), if_neg hpp]; omega
      refine moves_08 ms _ _ moveR_ok hl (fun p => ?_) fun p => ?_
      · have := ht p
        simp only [tP] at this
        rw [hcn]; omega
      · rw [hcn]
        have := hc p
        split <;> omega
    · rw [← hR] at h4
      rw [if_pos (by omega)]; exact .inr h4
theorem picked_moves {xs : List Stock} {w : Want} {ss : List Swap} {ms : List Movement} (h : stockE xs = 0) (hm : ∀ x ∈ ms, mvQ w ss x) (ht : ∀ p, tP p ms ≤ cntS ⟨p, 0, 0⟩ xs) (hn : (normR xs).1 = 0) : (movesR xs ms).2.2 = 0 ∨ (movesR xs ms).2.2 = 8 := by
  unfold movesR
  split
  · exact .inl hn
  · exact moves_08 ms xs 0 h hm ht fun p => norm_le h hn _
theorem sb_n {w : Want} {ss : List Swap} {s R : Int} {x : Movement} {l : List Movement} (h : R = sumB w ss s (x :: l)) : R = sumB w ss (s + x.count / byW w ss x.part) l := h
theorem inn_ord {h : Heap} {w : Want} {ss : List Swap} (hk : h (25, 0) = some (.rows 2 [Want.enc w])) : Inn h (.agg [.int 1, .ref (25, 0) 2 0 1, .lit true 3 (ss.map Swap.enc)]) (.agg (Order.enc ⟨1, [w], ss⟩)) := by
  refine .agg rfl fun i p q h1 h2 => ?_
  match i with
  | 0 => simp [Order.enc] at h1 h2; subst h1; subst h2; exact .pure (.sc _)
  | 1 =>
    simp [Order.enc] at h1 h2; subst h1; subst h2
    exact .ref hk (by simp) rfl fun row hr p hp => by
      simp only [List.mem_singleton] at hr; subst hr; exact Want.pure w p hp
  | 2 => simp [Order.enc] at h1 h2; subst h1; subst h2; exact .lit id
  | i + 3 => simp at h1
theorem pw_snoc {l r : List Swap} {x : Swap} (he : r = l ++ [x]) (h : l.Pairwise fun a b => a.via ≠ b.via) (hx : ∀ y ∈ l, y.via ≠ x.via) : r.Pairwise fun a b => a.via ≠ b.via := by
  subst he
  rw [List.pairwise_append]
  exact ⟨h, by simp, fun a ha b hb => by simp only [List.mem_singleton] at hb; subst hb; exact hx a ha⟩
theorem lk_0 {xs : List Stock} {o : Order} {w : Want} {nd : Int} {a : List Movement} (hp : pickX xs o = (0, a, if 0 < nd then [(⟨w.part, nd⟩ : Want)] else [])) (hl : ¬ (pickX xs o).2.2.length = 1) (h : 0 ≤ nd) : nd = 0 := by
  rw [hp] at hl
  dsimp only at hl
  split at hl
  · exact absurd rfl hl
  · omega
theorem lk_le {xs : List Stock} {o : Order} {w : Want} {nd : Int} {a : List Movement} (hp : pickX xs o = (0, a, if 0 < nd then [(⟨w.part, nd⟩ : Want)] else [])) : (pickX xs o).2.2.length ≤ 1 := by
  rw [hp]
  dsimp only
  split <;> simp
theorem isNm_size {s : ByteArray} (h : isNm s = true) : s.size ≤ 30 := by
  simp only [isNm, decide_eq_true_eq] at h; omega
theorem lk_eq {xs : List Stock} {o : Order} {w : Want} {nd : Int} {a : List Movement} {lk : Want} (hp : pickX xs o = (0, a, if 0 < nd then [(⟨w.part, nd⟩ : Want)] else [])) (hl : (pickX xs o).2.2 = [lk]) : lk = ⟨w.part, nd⟩ := by
  rw [hp] at hl
  dsimp only at hl
  split at hl
  · simp only [List.cons.injEq, and_true] at hl; exact hl.symm
  · cases hl
theorem tP_ge : ∀ {l : List Movement}, (∀ x ∈ l, 0 ≤ x.count) → ∀ x ∈ l, x.count ≤ tP x.part l
  | [], _, x, hx => by simp at hx
  | y :: l, h, x, hx => by
    have h1 := h y List.mem_cons_self
    have h2 : ∀ z ∈ l, 0 ≤ z.count := fun z hz => h z (List.mem_cons_of_mem _ hz)
    simp only [tP]
    rcases List.mem_cons.1 hx with rfl | hx
    · rw [if_pos rfl]; have := tP_0 (p := x.part) h2; omega
    · have := tP_ge h2 x hx; split <;> omega
theorem picked_le {xs : List Stock} {w : Want} {ss : List Swap} {ms : List Movement} (h : stockE xs = 0) (hm : ∀ x ∈ ms, mvQ w ss x) (ht : ∀ p, tP p ms ≤ cntS ⟨p, 0, 0⟩ xs) : ∀ x ∈ ms, x.count ≤ 1000000000 := fun x hx => by
  have hok := stockE_ok h
  have h1 := tP_ge (fun y hy => by have := (hm y hy).2.2.1; omega) x hx
  have h2 := ht x.part
  have h3 := cntS_le (k := ⟨x.part, 0, 0⟩) fun x hx => (hok.2 x hx).2.2
  omega

end Go.Proofs.YtigdmkhdmbbfiaaDoor

/- The law of what is picked of one want. No conditions. -/
set_option linter.unusedSimpArgs false
set_option linter.unusedVariables false
set_option maxRecDepth 100000
set_option maxHeartbeats 8000000
namespace Go.Proofs.YtigdmkhdmbbfiaaDoor
open Go Go.Pv
theorem fr6 : (inFrame Tryd.f6.ntmps (Tryd.f6.body.getD .skip) && Tryd.f6.results.toList.all (resScope Tryd.f6.ntmps)) = true := by kernel_rfl
theorem hpicked (xs : List Stock) (w : Want) (ss : List Swap) (hlx : xs.length ≤ 9223372036854775807) (hsx : ss.length ≤ 9223372036854775807) : PCalls Tryd.prog 6 [.lit true 4 (xs.map Stock.enc), .agg w.enc, .lit true 3 (ss.map Swap.enc)] (.bool true) := by
  refine PCalls.of_code Tryd.func6 rfl rfl (by kernel_rfl) mixed fr6 (by show _ ≤ 184; simp) (.sc _) ?_
  refine pwp_seq_plain rfl fun K1 hK1 => ?_
  refine p_new rfl (e_box (n := 2) rfl rfl) ⟨rfl, by decide⟩ ?_
  refine p_step rfl (e_assign (v := .sc _) rfl) trivial ?_
  refine p_end (hK1 _ ?_); clear hK1 K1
  refine pwp_seq_seq ?_
  refine pwp_seq_plain rfl fun K2 hK2 => ?_
  refine p_call rfl .nil (awake) ?_
  refine p_step rfl (e_not rfl) trivial ?_
  refine p_end (hK2 _ ?_); clear hK2 K2
  refine pwp_seq_cond (t := false) rfl fun K3 hK3 => ⟨nofun, fun _ => ?_⟩
  refine pwp_skip ?_
  refine seq_norm (hK3 _ ?_); clear hK3 K3
  refine pwp_seq_plain rfl fun K4 hK4 => ?_
  refine p_step rfl (e_loadHA (cs := Want.enc (w)) (n := 2) rfl (hset_self _ _ _) (by kernel_rfl) (by kernel_rfl) (by kernel_rfl) (by exact Nat.zero_lt_one) (by decide) rfl) trivial ?_
  refine p_new rfl (e_bslice (rows := [Want.enc w]) (zs := [.str ByteArray.empty, .int 0]) (sz := 2) (by kernel_rfl) (by kernel_rfl) rfl (by kernel_rfl) (by decide) rfl rfl (by exact ⟨by decide, rfl, rfl, trivial⟩) rfl) trivial ?_
  refine p_step rfl (e_move (v := .lit _ _ _) rfl) trivial ?_
  refine p_step rfl (e_build (zs := [.int 0, .nil, .nil]) (pl := [(0, 1, false), (1, 1, false), (2, 1, false)]) (by kernel_rfl) (by kernel_rfl) (by kernel_rfl) rfl rfl (by exact ⟨by decide, rfl, Nat.le_of_ble_eq_true rfl, rfl, ⟨by decide, rfl, Nat.le_of_ble_eq_true rfl, rfl, ⟨by decide, rfl, Nat.le_of_ble_eq_true rfl, rfl, trivial⟩⟩⟩) rfl) trivial ?_
  refine p_new rfl (e_alloc (cs := [.int 0, .nil, .nil]) (n := 3) (by kernel_rfl) rfl (by decide)) (ob_alloc (by decide)) ?_
  refine p_store rfl (e_storeA rfl (hset_self _ _ _) rfl rfl rfl (by kernel_rfl) rfl (by kernel_rfl)) trivial ?_
  refine p_end (hK4 _ ?_); clear hK4 K4
  refine pwp_seq_seq ?_
  refine pwp_seq_gops rfl fun K5 hK5 => ?_
  refine g_begin ?_
  refine g_step rfl rfl rfl rfl (e_move (v := .lit _ _ _) rfl) trivial ?_
  refine g_call rfl rfl rfl rfl (.cons inn_lit .nil) (ShortS _ hlx) ?_
  refine g_step rfl rfl rfl rfl (e_not rfl) trivial ?_
  refine g_step rfl rfl rfl rfl (e_move (v := .sc _) rfl) trivial ?_
  refine g_cases (fun hb6 => ?_) (fun hb6 => ?_)
  ·have hb6R := hb6; simp only [z1, z2, z3, z4, z5, z6, ne_eq, z7, z8, z9, z10, z11, z12] at hb6
   refine g_skip rfl rfl rfl ?_
   refine g_nocall rfl rfl rfl ?_
   refine g_skip rfl rfl rfl ?_
   refine g_step rfl rfl rfl rfl (e_pickT (v := .sc _) rfl rfl) trivial ?_
   refine g_step rfl rfl rfl rfl (e_move (v := .sc _) rfl) trivial ?_
   refine g_skip rfl rfl rfl ?_
   refine g_nocall rfl rfl rfl ?_
   refine g_skip rfl rfl rfl ?_
   refine g_step rfl rfl rfl rfl (e_pickT (v := .sc _) rfl rfl) trivial ?_
   refine g_step rfl rfl rfl rfl (e_move (v := .sc _) rfl) trivial ?_
   refine g_skip rfl rfl rfl ?_
   refine g_nocall rfl rfl rfl ?_
   refine g_skip rfl rfl rfl ?_
   refine g_step rfl rfl rfl rfl (e_pickT (v := .sc _) rfl rfl) trivial ?_
   refine g_end (ds := [32, 33, 34, 37, 38, 39, 42, 43, 44]) rfl rfl (hK5 _ ?_); clear hK5 K5
   refine pwp_seq_cond (t := true) rfl fun K7 hK7 => ⟨fun _ => ?_, nofun⟩
   refine pwp_seq_plain rfl fun K8 hK8 => ?_
   refine p_step rfl (e_assign (v := .sc _) rfl) trivial ?_
   refine p_end (hK8 _ ?_); clear hK8 K8
   refine pwp_ret ?_
   refine ret_seq ?_
   refine end1 (v := .sc _) rfl ?_
   exact out_b rfl
  have hb6R := hb6; simp only [z1, z2, z3, z4, z5, z6, ne_eq, z7, z8, z9, z10, z11, z12] at hb6; have hsh := shortB_iff hb6
  refine g_step rfl rfl rfl rfl (e_loadHA (n := 3) rfl (hset_self _ _ _) (by kernel_rfl) (by kernel_rfl) (by kernel_rfl) (by exact Nat.zero_lt_one) (by decide) rfl) trivial ?_
  refine g_call rfl rfl rfl rfl (.cons (inn_ord ((hset_ne (key_ne rfl)).trans ((hset_ne (key_ne rfl)).trans (hset_self _ _ _)))) .nil) (slight _ (by simp) hsx) ?_
  refine g_step rfl rfl rfl rfl (e_not rfl) trivial ?_
  refine g_step rfl rfl rfl rfl (e_pickF (v := .sc _) rfl rfl) trivial ?_
  refine g_step rfl rfl rfl rfl (e_move (v := .sc _) rfl) trivial ?_
  refine g_cases (fun hb9 => ?_) (fun hb9 => ?_)
  ·have hb9R := hb9; simp only [z1, z2, z3, z4, z5, z6, ne_eq, z7, z8, z9, z10, z11, z12] at hb9
   refine g_skip rfl rfl rfl ?_
   refine g_nocall rfl rfl rfl ?_
   refine g_skip rfl rfl rfl ?_
   refine g_step rfl rfl rfl rfl (e_pickT (v := .sc _) rfl rfl) trivial ?_
   refine g_step rfl rfl rfl rfl (e_move (v := .sc _) rfl) trivial ?_
   refine g_skip rfl rfl rfl ?_
   refine g_nocall rfl rfl rfl ?_
   refine g_skip rfl rfl rfl ?_
   refine g_step rfl rfl rfl rfl (e_pickT (v := .sc _) rfl rfl) trivial ?_
   refine g_end (ds := [32, 33, 34, 37, 38, 39, 42, 43, 44]) rfl rfl (hK5 _ ?_); clear hK5 K5
   refine pwp_seq_cond (t := true) rfl fun K10 hK10 => ⟨fun _ => ?_, nofun⟩
   refine pwp_seq_plain rfl fun K11 hK11 => ?_
   refine p_step rfl (e_assign (v := .sc _) rfl) trivial ?_
   refine p_end (hK11 _ ?_); clear hK11 K11
   refine pwp_ret ?_
   refine ret_seq ?_
   refine end1 (v := .sc _) rfl ?_
   exact out_b rfl
  have hb9R := hb9; simp only [z1, z2, z3, z4, z5, z6, ne_eq, z7, z8, z9, z10, z11, z12] at hb9; have hso := slightB_iff hb9
  refine g_step rfl rfl rfl rfl (e_move (v := .lit _ _ _) rfl) trivial ?_
  refine g_call rfl rfl rfl rfl (.cons inn_lit .nil) (refCheckS _ hsh.2.1 hsh.2.2) ?_
  refine g_step rfl rfl rfl rfl (e_ne rfl rfl) trivial ?_
  refine g_step rfl rfl rfl rfl (e_pickF (v := .sc _) rfl rfl) trivial ?_
  refine g_step rfl rfl rfl rfl (e_move (v := .sc _) rfl) trivial ?_
  refine g_cases (fun hb12 => ?_) (fun hb12 => ?_)
  ·have hb12R := hb12; simp only [z1, z2, z3, z4, z5, z6, ne_eq, z7, z8, z9, z10, z11, z12] at hb12
   refine g_skip rfl rfl rfl ?_
   refine g_nocall rfl rfl rfl ?_
   refine g_skip rfl rfl rfl ?_
   refine g_step rfl rfl rfl rfl (e_pickT (v := .sc _) rfl rfl) trivial ?_
   refine g_end (ds := [32, 33, 34, 37, 38, 39, 42, 43, 44]) rfl rfl (hK5 _ ?_); clear hK5 K5
   refine pwp_seq_cond (t := true) rfl fun K13 hK13 => ⟨fun _ => ?_, nofun⟩
   refine pwp_seq_plain rfl fun K14 hK14 => ?_
   refine p_step rfl (e_assign (v := .sc _) rfl) trivial ?_
   refine p_end (hK14 _ ?_); clear hK14 K14
   refine pwp_ret ?_
   refine ret_seq ?_
   refine end1 (v := .sc _) rfl ?_
   exact out_b rfl
  have hb12R := hb12; simp only [z1, z2, z3, z4, z5, z6, ne_eq, z7, z8, z9, z10, z11, z12] at hb12; have hst : stockE xs = 0 := hb12
  refine g_step rfl rfl rfl rfl (e_loadHA (n := 3) rfl (hset_self _ _ _) (by kernel_rfl) (by kernel_rfl) (by kernel_rfl) (by exact Nat.zero_lt_one) (by decide) rfl) trivial ?_
  refine g_call rfl rfl rfl rfl (.cons (inn_ord ((hset_ne (key_ne rfl)).trans ((hset_ne (key_ne rfl)).trans (hset_self _ _ _)))) .nil) (refCheckOrder _ hso.1 hso.2.1 hso.2.2.1 hso.2.2.2) ?_
  refine g_step rfl rfl rfl rfl (e_ne rfl rfl) trivial ?_
  refine g_step rfl rfl rfl rfl (e_pickF (v := .sc _) rfl rfl) trivial ?_
  refine g_end (ds := [32, 33, 34, 37, 38, 39, 42, 43, 44]) rfl rfl (hK5 _ ?_); clear hK5 K5
  refine pwp_seq_cond rfl fun K15 hK15 => ⟨fun hb16 => ?_, fun hb16 => ?_⟩
  ·have hb16R := hb16; simp only [z1, z2, z3, z4, z5, z6, ne_eq, z7, z8, z9, z10, z11, z12] at hb16
   refine pwp_seq_plain rfl fun K17 hK17 => ?_
   refine p_step rfl (e_assign (v := .sc _) rfl) trivial ?_
   refine p_end (hK17 _ ?_); clear hK17 K17
   refine pwp_ret ?_
   refine ret_seq ?_
   refine end1 (v := .sc _) rfl ?_
   exact out_b rfl
  have hb16R := hb16; simp only [z1, z2, z3, z4, z5, z6, ne_eq, z7, z8, z9, z10, z11, z12] at hb16; have ho0 : orderE (⟨1, [w], ss⟩ : Order) = 0 := hb16
  refine pwp_skip ?_
  refine seq_norm (hK15 _ ?_); clear hK15 K15
  refine pwp_seq_seq ?_
  refine pwp_seq_plain rfl fun K18 hK18 => ?_
  refine p_step rfl (e_assign (v := .sc _) rfl) trivial ?_
  refine p_end (hK18 _ ?_); clear hK18 K18
  refine pwp_seq_block fun K19 hK19 => ?_
  refine pwp_loopR (α := Nat) [0, 2, 4, 7] (fun (i : Nat) => [(8, .int (i))]) (fun (i : Nat) (h : Heap) (_ : Nat → Nat) => ((i) ≤ ss.length) ∧ ((ss.take (i)).Pairwise fun a b => a.via ≠ b.via) ∧ (h (4, 0) = some (.rows 2 [Want.enc w])) ∧ (h (7, 0) = some (.rows 3 [[.int 1, .ref (25, 0) 2 0 1, .lit true 3 (ss.map Swap.enc)]])) ∧ (h (25, 0) = some (.rows 2 [Want.enc w]))) (fun (i : Nat) => ss.length - (i)) (0) (by exact ⟨rfl, trivial⟩) (by exact ⟨by exact Nat.zero_le _, by simp, ((hset_ne (key_ne rfl)).trans ((hset_ne (key_ne rfl)).trans ((hset_ne (key_ne rfl)).trans (hset_self _ _ _)))), (hset_self _ _ _), ((hset_ne (key_ne rfl)).trans ((hset_ne (key_ne rfl)).trans (hset_self _ _ _)))⟩) fun i r20 h21 c22 hj23 => ?_
  obtain ⟨hi, hpw, hihj23_0, hihj23_1, hihj23_2⟩ := hj23
  try dsimp only at hi
  try dsimp only at hpw
  try dsimp only at hihj23_0
  try dsimp only at hihj23_1
  try dsimp only at hihj23_2
  show pwp _ _ (loopQ _ _ _) ⟨sets (mix _ _ _) [(8, .int i)], _, _⟩
  refine pwp_seq_seq ?_
  refine pwp_seq_plain rfl fun K24 hK24 => ?_
  refine p_step rfl (e_move (v := .sc _) rfl) trivial ?_
  refine p_step rfl (e_move (v := .lit _ _ _) rfl) trivial ?_
  refine p_step rfl (e_len rfl (by kernel_rfl)) trivial ?_
  refine p_step rfl (e_lt rfl rfl) trivial ?_
  refine p_end (hK24 _ ?_); clear hK24 K24
  refine pwp_seq_cond rfl fun K25 hK25 => ⟨fun hb26 => ?_, fun hb26 => ?_⟩
  ·have hb26R := hb26; simp only [z1, z2, z3, z4, z5, z6, ne_eq, z7, z8, z9, z10, z11, z12] at hb26
   obtain ⟨x, hx, hdx, htx⟩ := get_lt (xs := ss) (i := i) (by omega)
   refine pwp_skip ?_
   refine seq_norm (hK25 _ ?_); clear hK25 K25
   refine pwp_seq_block fun K27 hK27 => ?_
   refine pwp_seq_plain rfl fun K28 hK28 => ?_
   refine p_step rfl (e_assign (v := .sc _) rfl) trivial ?_
   refine p_end (hK28 _ ?_); clear hK28 K28
   refine pwp_block ?_
   refine pwp_loopR (α := Nat) [0, 2, 4, 7, 8] (fun (k : Nat) => [(9, .int (k))]) (fun (k : Nat) (h : Heap) (_ : Nat → Nat) => ((k) ≤ i) ∧ (∀ y ∈ ss.take (k), y.via ≠ x.via) ∧ (h (4, 0) = some (.rows 2 [Want.enc w])) ∧ (h (7, 0) = some (.rows 3 [[.int 1, .ref (25, 0) 2 0 1, .lit true 3 (ss.map Swap.enc)]])) ∧ (h (25, 0) = some (.rows 2 [Want.enc w]))) (fun (k : Nat) => i - (k)) (0) (by exact ⟨rfl, trivial⟩) (by exact ⟨by exact Nat.zero_le _, by simp, hihj23_0, hihj23_1, hihj23_2⟩) fun k r29 h30 c31 hj32 => ?_
   obtain ⟨hk, hq, hihj32_0, hihj32_1, hihj32_2⟩ := hj32
   try dsimp only at hk
   try dsimp only at hq
   try dsimp only at hihj32_0
   try dsimp only at hihj32_1
   try dsimp only at hihj32_2
   show pwp _ _ (loopQ _ _ _) ⟨sets (mix _ _ _) [(9, .int k)], _, _⟩
   refine pwp_seq_seq ?_
   refine pwp_seq_plain rfl fun K33 hK33 => ?_
   refine p_step rfl (e_move (v := .sc _) rfl) trivial ?_
   refine p_step rfl (e_move (v := .sc _) rfl) trivial ?_
   refine p_step rfl (e_lt rfl rfl) trivial ?_
   refine p_end (hK33 _ ?_); clear hK33 K33
   refine pwp_seq_cond rfl fun K34 hK34 => ⟨fun hb35 => ?_, fun hb35 => ?_⟩
   ·have hb35R := hb35; simp only [z1, z2, z3, z4, z5, z6, ne_eq, z7, z8, z9, z10, z11, z12] at hb35
    obtain ⟨y, hy, hdy, hty⟩ := get_lt (xs := ss) (i := k) (by omega)
    refine pwp_skip ?_
    refine seq_norm (hK34 _ ?_); clear hK34 K34
    refine pwp_seq_block fun K36 hK36 => ?_
    refine pwp_seq_gops rfl fun K37 hK37 => ?_
    refine g_begin ?_
    refine g_step rfl rfl rfl rfl (e_move (v := .lit _ _ _) rfl) trivial ?_
    refine g_step rfl rfl rfl rfl (e_move (v := .sc _) rfl) trivial ?_
    refine g_step rfl rfl rfl rfl (e_ixa rfl rfl (by kernel_rfl) (by kernel_rfl) (by simp only [List.length_map]; omega)) trivial ?_
    refine g_step rfl rfl rfl rfl (e_fa (pl := [(0, 1, false), (1, 1, false), (2, 1, false)]) rfl (by kernel_rfl) (by kernel_rfl) (by decide) rfl) trivial ?_
    refine g_step rfl rfl rfl rfl (e_load (v := .sc _) rfl (by kernel_rfl) (by kernel_rfl) (by kernel_rfl) (by simp only [List.length_map]; omega) (by decide) ((cell_map hx _).trans rfl)) trivial ?_
    refine g_step rfl rfl rfl rfl (e_move (v := .lit _ _ _) rfl) trivial ?_
    refine g_step rfl rfl rfl rfl (e_move (v := .sc _) rfl) trivial ?_
    refine g_step rfl rfl rfl rfl (e_ixa rfl rfl (by kernel_rfl) (by kernel_rfl) (by simp only [List.length_map]; omega)) trivial ?_
    refine g_step rfl rfl rfl rfl (e_fa (pl := [(0, 1, false), (1, 1, false), (2, 1, false)]) rfl (by kernel_rfl) (by kernel_rfl) (by decide) rfl) trivial ?_
    refine g_step rfl rfl rfl rfl (e_load (v := .sc _) rfl (by kernel_rfl) (by kernel_rfl) (by kernel_rfl) (by simp only [List.length_map]; omega) (by decide) ((cell_map hy _).trans rfl)) trivial ?_
    refine g_step rfl rfl rfl rfl (e_seq rfl rfl) trivial ?_
    refine g_end (ds := []) (by kernel_rfl) rfl (hK37 _ ?_); clear hK37 K37
    refine pwp_cond rfl (fun hb38 => ?_) (fun hb38 => ?_)
    ·have hb38R := hb38; simp only [z1, z2, z3, z4, z5, z6, ne_eq, z7, z8, z9, z10, z11, z12] at hb38
     refine pwp_seq_plain rfl fun K39 hK39 => ?_
     refine p_step rfl (e_assign (v := .sc _) rfl) trivial ?_
     refine p_end (hK39 _ ?_); clear hK39 K39
     refine pwp_ret ?_
     refine ret_block ?_
     refine ret_seq ?_
     refine ret_loop ?_
     refine ret_block ?_
     refine ret_block ?_
     refine ret_seq ?_
     refine ret_loop ?_
     refine ret_block ?_
     refine ret_seq ?_
     refine end1 (v := .sc _) rfl ?_
     exact out_b rfl
    have hb38R := hb38; simp only [z1, z2, z3, z4, z5, z6, ne_eq, z7, z8, z9, z10, z11, z12] at hb38
    refine pwp_skip ?_
    refine block_norm ?_
    refine seq_norm (hK36 _ ?_); clear hK36 K36
    refine pwp_plain rfl fun K40 hK40 => ?_
    refine p_step rfl (e_move (v := .sc _) rfl) trivial ?_
    refine p_step rfl (e_add rfl rfl (by omega)) trivial ?_
    refine p_step rfl (e_assign (v := .sc _) rfl) trivial ?_
    refine p_end (hK40 _ ?_); clear hK40 K40
    exact loop_again (k + 1) (by show _ < _; omega) ⟨rfl, rfl, rfl, rfl, rfl, trivial⟩ ⟨rfl, trivial⟩ (by exact ⟨by show _ + 1 ≤ _; omega, by exact all_snocS hty hq (fun e => by first | exact absurd e.symm (by assumption) | exact absurd e (by assumption)), hihj32_0, hihj32_1, hihj32_2⟩)
   have hb35R := hb35; simp only [z1, z2, z3, z4, z5, z6, ne_eq, z7, z8, z9, z10, z11, z12] at hb35
   obtain rfl : i = k := by omega
   refine pwp_exit ?_
   refine exit_seq ?_
   clear hK34 K34
   refine exit_loop ?_
   refine exit_here ?_
   refine block_norm ?_
   refine seq_norm (hK27 _ ?_); clear hK27 K27
   refine pwp_plain rfl fun K41 hK41 => ?_
   refine p_step rfl (e_move (v := .sc _) rfl) trivial ?_
   refine p_step rfl (e_add rfl rfl (by omega)) trivial ?_
   refine p_step rfl (e_assign (v := .sc _) rfl) trivial ?_
   refine p_end (hK41 _ ?_); clear hK41 K41
   exact loop_again (i + 1) (by show _ < _; omega) ⟨rfl, rfl, rfl, rfl, trivial⟩ ⟨rfl, trivial⟩ (by exact ⟨by show _ + 1 ≤ _; omega, by exact pw_snoc htx hpw hq, hihj32_0, hihj32_1, hihj32_2⟩)
  have hb26R := hb26; simp only [z1, z2, z3, z4, z5, z6, ne_eq, z7, z8, z9, z10, z11, z12] at hb26
  obtain rfl : i = ss.length := by omega
  rw [List.take_length] at hpw
  obtain ⟨nd, hp1, hp2, hp3, hp4, hp5⟩ := pick_one hst ho0 hpw
  have hsn : ∀ x ∈ (pickX xs (⟨1, [w], ss⟩ : Order)).2.1, 1 ≤ byW w ss x.part ∧ 0 ≤ x.count := fun x hx => by have := hp4 x hx; unfold mvQ at this; omega
  have hxm := picked_le hst hp4 hp5
  have hpl1 := lk_le hp1
  have hpl : (pickX xs (⟨1, [w], ss⟩ : Order)).2.1.length ≤ 100000 := Nat.le_trans (pickX_len xs (⟨1, [w], ss⟩ : Order)).1 (by decide)
  have hpz : ∀ m ∈ (pickX xs (⟨1, [w], ss⟩ : Order)).2.1, m.part.size ≤ 30 := fun m hm => isNm_size (hp4 m hm).2.1
  have hp0 : (pickX xs (⟨1, [w], ss⟩ : Order)).1 = 0 := congrArg Prod.fst hp1
  have hwb := (wntE_ok (orderE_ok ho0).2.2.2.1 w (by simp)).2
  refine pwp_exit ?_
  refine exit_seq ?_
  clear hK25 K25
  refine exit_loop ?_
  refine exit_here ?_
  refine seq_norm (hK19 _ ?_); clear hK19 K19
  refine pwp_seq_plain rfl fun K42 hK42 => ?_
  refine p_step rfl (e_move (v := .lit _ _ _) rfl) trivial ?_
  refine p_step rfl (e_loadHA (n := 3) rfl hihj23_1 (by kernel_rfl) (by kernel_rfl) (by kernel_rfl) (by exact Nat.zero_lt_one) (by decide) rfl) trivial ?_
  refine p_call rfl (.cons inn_lit (.cons (inn_ord hihj23_2) .nil)) (PickS _ _ hsh.2.1 hsh.2.2 hso.1 hso.2.1 hso.2.2.1 hso.2.2.2) ?_
  refine p_step rfl (e_move (v := .tup _) rfl) trivial ?_
  refine p_step rfl (e_ext (v := .lit _ _ _) rfl (by simp) rfl) trivial ?_
  refine p_step rfl (e_ext (v := .lit _ _ _) rfl (by simp) rfl) trivial ?_
  refine p_step rfl (e_ext (v := .sc _) rfl (by simp) rfl) trivial ?_
  refine p_step rfl (e_assign (v := .lit _ _ _) rfl) trivial ?_
  refine p_step rfl (e_assign (v := .lit _ _ _) rfl) trivial ?_
  refine p_step rfl (e_assign (v := .sc _) rfl) trivial ?_
  refine p_end (hK42 _ ?_); clear hK42 K42
  refine pwp_seq_seq ?_
  refine pwp_seq_gops rfl fun K43 hK43 => ?_
  refine g_begin ?_
  refine g_step rfl rfl rfl rfl (e_move (v := .sc _) rfl) trivial ?_
  refine g_step rfl rfl rfl rfl (e_ne rfl rfl) trivial ?_
  refine g_step rfl rfl rfl rfl (e_move (v := .sc _) rfl) trivial ?_
  refine g_cases (fun hb44 => ?_) (fun hb44 => ?_)
  ·have hb44R := hb44; simp only [z1, z2, z3, z4, z5, z6, ne_eq, z7, z8, z9, z10, z11, z12] at hb44
   refine g_skip rfl rfl rfl ?_
   refine g_skip rfl rfl rfl ?_
   refine g_skip rfl rfl rfl ?_
   refine g_step rfl rfl rfl rfl (e_pickT (v := .sc _) rfl rfl) trivial ?_
   refine g_end (ds := [78, 79, 80]) rfl rfl (hK43 _ ?_); clear hK43 K43
   refine pwp_seq_cond (t := true) rfl fun K45 hK45 => ⟨fun _ => ?_, nofun⟩
   refine pwp_seq_plain rfl fun K46 hK46 => ?_
   refine p_step rfl (e_assign (v := .sc _) rfl) trivial ?_
   refine p_end (hK46 _ ?_); clear hK46 K46
   refine pwp_ret ?_
   refine ret_seq ?_
   refine end1 (v := .sc _) rfl ?_
   (exfalso; omega)
  have hb44R := hb44; simp only [z1, z2, z3, z4, z5, z6, ne_eq, z7, z8, z9, z10, z11, z12] at hb44
  refine g_step rfl rfl rfl rfl (e_move (v := .lit _ _ _) rfl) trivial ?_
  refine g_step rfl rfl rfl rfl (e_len rfl (by kernel_rfl)) trivial ?_
  refine g_step rfl rfl rfl rfl (e_gt rfl rfl) trivial ?_
  refine g_step rfl rfl rfl rfl (e_pickF (v := .sc _) rfl rfl) trivial ?_
  refine g_end (ds := [78, 79, 80]) rfl rfl (hK43 _ ?_); clear hK43 K43
  refine pwp_seq_cond rfl fun K47 hK47 => ⟨fun hb48 => ?_, fun hb48 => ?_⟩
  ·have hb48R := hb48; simp only [z1, z2, z3, z4, z5, z6, ne_eq, z7, z8, z9, z10, z11, z12] at hb48
   refine pwp_seq_plain rfl fun K49 hK49 => ?_
   refine p_step rfl (e_assign (v := .sc _) rfl) trivial ?_
   refine p_end (hK49 _ ?_); clear hK49 K49
   refine pwp_ret ?_
   refine ret_seq ?_
   refine end1 (v := .sc _) rfl ?_
   (exfalso; omega)
  have hb48R := hb48; simp only [z1, z2, z3, z4, z5, z6, ne_eq, z7, z8, z9, z10, z11, z12] at hb48
  refine pwp_skip ?_
  refine seq_norm (hK47 _ ?_); clear hK47 K47
  refine pwp_seq_plain rfl fun K50 hK50 => ?_
  refine p_step rfl (e_assign (v := .sc _) rfl) trivial ?_
  refine p_end (hK50 _ ?_); clear hK50 K50
  refine pwp_seq_seq ?_
  refine pwp_seq_plain rfl fun K51 hK51 => ?_
  refine p_step rfl (e_move (v := .lit _ _ _) rfl) trivial ?_
  refine p_step rfl (e_len rfl (by kernel_rfl)) trivial ?_
  refine p_step rfl (e_eq rfl rfl) trivial ?_
  refine p_end (hK51 _ ?_); clear hK51 K51
  refine pwp_seq_cond rfl fun K52 hK52 => ⟨fun hb53 => ?_, fun hb53 => ?_⟩
  ·have hb53R := hb53; simp only [z1, z2, z3, z4, z5, z6, ne_eq, z7, z8, z9, z10, z11, z12] at hb53
   obtain ⟨lk, hlk1⟩ : ∃ lk, (pickX xs (⟨1, [w], ss⟩ : Order)).2.2 = [lk] := List.length_eq_one_iff.1 (by omega)
   have hlk : (pickX xs (⟨1, [w], ss⟩ : Order)).2.2[0]? = some lk := by rw [hlk1]; rfl
   obtain rfl := lk_eq hp1 hlk1
   refine pwp_plain rfl fun K54 hK54 => ?_
   refine p_step rfl (e_move (v := .lit _ _ _) rfl) trivial ?_
   refine p_step rfl (e_ixa rfl rfl (by kernel_rfl) (by kernel_rfl) (by simp only [List.length_map]; omega)) trivial ?_
   refine p_step rfl (e_fa (pl := [(0, 1, false), (1, 1, false)]) rfl (by kernel_rfl) (by kernel_rfl) (by decide) rfl) trivial ?_
   refine p_step rfl (e_load (v := .sc _) rfl (by kernel_rfl) (by kernel_rfl) (by kernel_rfl) (by simp only [List.length_map]; omega) (by decide) ((cell_map hlk _).trans rfl)) trivial ?_
   refine p_step rfl (e_assign (v := .sc _) rfl) trivial ?_
   refine p_end (hK54 _ ?_); clear hK54 K54
   refine seq_norm (hK52 _ ?_); clear hK52 K52
   refine pwp_seq_seq ?_
   refine pwp_seq_plain rfl fun K55 hK55 => ?_
   refine p_step rfl (e_assign (v := .sc _) rfl) trivial ?_
   refine p_end (hK55 _ ?_); clear hK55 K55
   refine pwp_seq_block fun K56 hK56 => ?_
   refine pwp_loopR (α := Nat × Int) [0, 2, 4, 10] (fun (a57 : Nat × Int) => [(13, .int (a57.2)), (14, .int (a57.1))]) (fun (a57 : Nat × Int) (h : Heap) (_ : Nat → Nat) => ((a57.1) ≤ (pickX xs (⟨1, [w], ss⟩ : Order)).2.1.length) ∧ (w.count = sumB w ss (a57.2) ((pickX xs (⟨1, [w], ss⟩ : Order)).2.1.drop (a57.1))) ∧ (0 ≤ (a57.2)) ∧ (h (4, 0) = some (.rows 2 [Want.enc w]))) (fun (a57 : Nat × Int) => (pickX xs (⟨1, [w], ss⟩ : Order)).2.1.length - (a57.1)) (0, _) (by exact ⟨rfl, rfl, trivial⟩) (by exact ⟨by exact Nat.zero_le _, by (dsimp only; rw [List.drop_zero, sumB_add]; first | omega | (have h9 := lk_0 hp1 (by omega) hp2; omega)), by (dsimp only; omega), hihj23_0⟩) fun a57 r58 h59 c60 hj61 => ?_
   obtain ⟨k, s⟩ := a57
   obtain ⟨hk, hinv, hs0, hihj61_0⟩ := hj61
   try dsimp only at hk
   try dsimp only at hinv
   try dsimp only at hs0
   try dsimp only at hihj61_0
   show pwp _ _ (loopQ _ _ _) ⟨sets (mix _ _ _) [(13, .int s), (14, .int k)], _, _⟩
   refine pwp_seq_seq ?_
   refine pwp_seq_plain rfl fun K62 hK62 => ?_
   refine p_step rfl (e_move (v := .sc _) rfl) trivial ?_
   refine p_step rfl (e_move (v := .lit _ _ _) rfl) trivial ?_
   refine p_step rfl (e_len rfl (by kernel_rfl)) trivial ?_
   refine p_step rfl (e_lt rfl rfl) trivial ?_
   refine p_end (hK62 _ ?_); clear hK62 K62
   refine pwp_seq_cond rfl fun K63 hK63 => ⟨fun hb64 => ?_, fun hb64 => ?_⟩
   ·have hb64R := hb64; simp only [z1, z2, z3, z4, z5, z6, ne_eq, z7, z8, z9, z10, z11, z12] at hb64
    obtain ⟨x, hx, hdx, htx⟩ := get_lt (xs := (pickX xs (⟨1, [w], ss⟩ : Order)).2.1) (i := k) (by omega)
    rw [hdx] at hinv
    have hxq := hp4 x (List.mem_of_getElem? hx)
    obtain ⟨_, _, hx1, hx2, hx3⟩ := hxq
    have hxs := sb_n hinv
    have hxc := hxm x (List.mem_of_getElem? hx)
    have hxn : 0 ≤ x.count / byW w ss x.part := Int.ediv_nonneg (by omega) (by omega)
    have hxg := sumB_ge (l := (pickX xs (⟨1, [w], ss⟩ : Order)).2.1.drop (k + 1)) (s := s + x.count / byW w ss x.part) (fun y hy => hsn y (List.mem_of_mem_drop hy))
    refine pwp_skip ?_
    refine seq_norm (hK63 _ ?_); clear hK63 K63
    refine pwp_seq_block fun K65 hK65 => ?_
    refine pwp_seq_plain rfl fun K66 hK66 => ?_
    refine p_step rfl (e_assign (v := .sc _) rfl) trivial ?_
    refine p_end (hK66 _ ?_); clear hK66 K66
    refine pwp_seq_seq ?_
    refine pwp_seq_gops rfl fun K67 hK67 => ?_
    refine g_begin ?_
    refine g_step rfl rfl rfl rfl (e_move (v := .lit _ _ _) rfl) trivial ?_
    refine g_step rfl rfl rfl rfl (e_move (v := .sc _) rfl) trivial ?_
    refine g_step rfl rfl rfl rfl (e_ixa rfl rfl (by kernel_rfl) (by kernel_rfl) (by simp only [List.length_map]; omega)) trivial ?_
    refine g_step rfl rfl rfl rfl (e_fa (pl := [(0, 1, false), (1, 1, false), (2, 1, false), (3, 1, false), (4, 1, false), (5, 1, false)]) rfl (by kernel_rfl) (by kernel_rfl) (by decide) rfl) trivial ?_
    refine g_step rfl rfl rfl rfl (e_load (v := .sc _) rfl (by kernel_rfl) (by kernel_rfl) (by kernel_rfl) (by simp only [List.length_map]; omega) (by decide) ((cell_map hx _).trans rfl)) trivial ?_
    refine g_step rfl rfl rfl rfl (e_faP (pl := [(0, 1, false), (1, 1, false)]) rfl (by kernel_rfl) (by kernel_rfl) (by decide) rfl) trivial ?_
    refine g_step rfl rfl rfl rfl (e_loadH (v := .sc _) rfl hihj61_0 (by kernel_rfl) (by kernel_rfl) (by kernel_rfl) (by exact Nat.zero_lt_one) (by decide) rfl) trivial ?_
    refine g_step rfl rfl rfl rfl (e_seq rfl rfl) trivial ?_
    refine g_end (ds := []) (by kernel_rfl) rfl (hK67 _ ?_); clear hK67 K67
    refine pwp_seq_cond rfl fun K68 hK68 => ⟨fun hb69 => ?_, fun hb69 => ?_⟩
    ·have hb69R := hb69; simp only [z1, z2, z3, z4, z5, z6, ne_eq, z7, z8, z9, z10, z11, z12] at hb69
     refine pwp_plain rfl fun K70 hK70 => ?_
     refine p_step rfl (e_assign (v := .sc _) rfl) trivial ?_
     refine p_end (hK70 _ ?_); clear hK70 K70
     refine seq_norm (hK68 _ ?_); clear hK68 K68
     refine pwp_seq_seq ?_
     refine pwp_seq_plain rfl fun K71 hK71 => ?_
     refine p_step rfl (e_assign (v := .sc _) rfl) trivial ?_
     refine p_end (hK71 _ ?_); clear hK71 K71
     refine pwp_seq_block fun K72 hK72 => ?_
     refine pwp_loopR (α := Nat × Int) [0, 2, 4, 10, 13, 14] (fun (a73 : Nat × Int) => [(15, .int (a73.2)), (16, .int (a73.1))]) (fun (a73 : Nat × Int) (h : Heap) (_ : Nat → Nat) => ((a73.1) ≤ ss.length) ∧ (byW w ss x.part = byF w.part x.part (a73.2) (ss.drop (a73.1))) ∧ (h (4, 0) = some (.rows 2 [Want.enc w]))) (fun (a73 : Nat × Int) => ss.length - (a73.1)) (0, _) (by exact ⟨rfl, rfl, trivial⟩) (by exact ⟨by exact Nat.zero_le _, by first | (show byW w ss x.part = byF w.part x.part 1 ss; rw [byW, if_pos (by assumption)]) | (show byW w ss x.part = byF w.part x.part 0 ss; rw [byW, if_neg (by assumption)]), hihj61_0⟩) fun a73 r74 h75 c76 hj77 => ?_
     obtain ⟨j, b⟩ := a73
     obtain ⟨hj, hbi, hihj77_0⟩ := hj77
     try dsimp only at hj
     try dsimp only at hbi
     try dsimp only at hihj77_0
     show pwp _ _ (loopQ _ _ _) ⟨sets (mix _ _ _) [(15, .int b), (16, .int j)], _, _⟩
     refine pwp_seq_seq ?_
     refine pwp_seq_plain rfl fun K78 hK78 => ?_
     refine p_step rfl (e_move (v := .sc _) rfl) trivial ?_
     refine p_step rfl (e_move (v := .lit _ _ _) rfl) trivial ?_
     refine p_step rfl (e_len rfl (by kernel_rfl)) trivial ?_
     refine p_step rfl (e_lt rfl rfl) trivial ?_
     refine p_end (hK78 _ ?_); clear hK78 K78
     refine pwp_seq_cond rfl fun K79 hK79 => ⟨fun hb80 => ?_, fun hb80 => ?_⟩
     ·have hb80R := hb80; simp only [z1, z2, z3, z4, z5, z6, ne_eq, z7, z8, z9, z10, z11, z12] at hb80
      obtain ⟨y, hy, hdy, hty⟩ := get_lt (xs := ss) (i := j) (by omega)
      rw [hdy] at hbi
      refine pwp_skip ?_
      refine seq_norm (hK79 _ ?_); clear hK79 K79
      refine pwp_seq_block fun K81 hK81 => ?_
      refine pwp_seq_gops rfl fun K82 hK82 => ?_
      refine g_begin ?_
      refine g_step rfl rfl rfl rfl (e_move (v := .lit _ _ _) rfl) trivial ?_
      refine g_step rfl rfl rfl rfl (e_move (v := .sc _) rfl) trivial ?_
      refine g_step rfl rfl rfl rfl (e_ixa rfl rfl (by kernel_rfl) (by kernel_rfl) (by simp only [List.length_map]; omega)) trivial ?_
      refine g_step rfl rfl rfl rfl (e_fa (pl := [(0, 1, false), (1, 1, false), (2, 1, false)]) rfl (by kernel_rfl) (by kernel_rfl) (by decide) rfl) trivial ?_
      refine g_step rfl rfl rfl rfl (e_load (v := .sc _) rfl (by kernel_rfl) (by kernel_rfl) (by kernel_rfl) (by simp only [List.length_map]; omega) (by decide) ((cell_map hy _).trans rfl)) trivial ?_
      refine g_step rfl rfl rfl rfl (e_faP (pl := [(0, 1, false), (1, 1, false)]) rfl (by kernel_rfl) (by kernel_rfl) (by decide) rfl) trivial ?_
      refine g_step rfl rfl rfl rfl (e_loadH (v := .sc _) rfl hihj77_0 (by kernel_rfl) (by kernel_rfl) (by kernel_rfl) (by exact Nat.zero_lt_one) (by decide) rfl) trivial ?_
      refine g_step rfl rfl rfl rfl (e_seq rfl rfl) trivial ?_
      refine g_step rfl rfl rfl rfl (e_move (v := .sc _) rfl) trivial ?_
      refine g_cases (fun hb83 => ?_) (fun hb83 => ?_)
      ·have hb83R := hb83; simp only [z1, z2, z3, z4, z5, z6, ne_eq, z7, z8, z9, z10, z11, z12] at hb83
       refine g_step rfl rfl rfl rfl (e_move (v := .lit _ _ _) rfl) trivial ?_
       refine g_step rfl rfl rfl rfl (e_move (v := .sc _) rfl) trivial ?_
       refine g_step rfl rfl rfl rfl (e_ixa rfl rfl (by kernel_rfl) (by kernel_rfl) (by simp only [List.length_map]; omega)) trivial ?_
       refine g_step rfl rfl rfl rfl (e_fa (pl := [(0, 1, false), (1, 1, false), (2, 1, false)]) rfl (by kernel_rfl) (by kernel_rfl) (by decide) rfl) trivial ?_
       refine g_step rfl rfl rfl rfl (e_load (v := .sc _) rfl (by kernel_rfl) (by kernel_rfl) (by kernel_rfl) (by simp only [List.length_map]; omega) (by decide) ((cell_map hy _).trans rfl)) trivial ?_
       refine g_step rfl rfl rfl rfl (e_move (v := .lit _ _ _) rfl) trivial ?_
       refine g_step rfl rfl rfl rfl (e_move (v := .sc _) rfl) trivial ?_
       refine g_step rfl rfl rfl rfl (e_ixa rfl rfl (by kernel_rfl) (by kernel_rfl) (by simp only [List.length_map]; omega)) trivial ?_
       refine g_step rfl rfl rfl rfl (e_fa (pl := [(0, 1, false), (1, 1, false), (2, 1, false), (3, 1, false), (4, 1, false), (5, 1, false)]) rfl (by kernel_rfl) (by kernel_rfl) (by decide) rfl) trivial ?_
       refine g_step rfl rfl rfl rfl (e_load (v := .sc _) rfl (by kernel_rfl) (by kernel_rfl) (by kernel_rfl) (by simp only [List.length_map]; omega) (by decide) ((cell_map hx _).trans rfl)) trivial ?_
       refine g_step rfl rfl rfl rfl (e_seq rfl rfl) trivial ?_
       refine g_step rfl rfl rfl rfl (e_pickT (v := .sc _) rfl rfl) trivial ?_
       refine g_end (ds := [118, 119, 120, 121, 122, 123, 124, 125, 126, 127, 128]) (by kernel_rfl) rfl (hK82 _ ?_); clear hK82 K82
       refine pwp_cond rfl (fun hb84 => ?_) (fun hb84 => ?_)
       ·have hb84R := hb84; simp only [z1, z2, z3, z4, z5, z6, ne_eq, z7, z8, z9, z10, z11, z12] at hb84
        refine pwp_plain rfl fun K85 hK85 => ?_
        refine p_step rfl (e_move (v := .lit _ _ _) rfl) trivial ?_
        refine p_step rfl (e_move (v := .sc _) rfl) trivial ?_
        refine p_step rfl (e_ixa rfl rfl (by kernel_rfl) (by kernel_rfl) (by simp only [List.length_map]; omega)) trivial ?_
        refine p_step rfl (e_fa (pl := [(0, 1, false), (1, 1, false), (2, 1, false)]) rfl (by kernel_rfl) (by kernel_rfl) (by decide) rfl) trivial ?_
        refine p_step rfl (e_load (v := .sc _) rfl (by kernel_rfl) (by kernel_rfl) (by kernel_rfl) (by simp only [List.length_map]; omega) (by decide) ((cell_map hy _).trans rfl)) trivial ?_
        refine p_step rfl (e_assign (v := .sc _) rfl) trivial ?_
        refine p_end (hK85 _ ?_); clear hK85 K85
        refine block_norm ?_
        refine seq_norm (hK81 _ ?_); clear hK81 K81
        refine pwp_plain rfl fun K86 hK86 => ?_
        refine p_step rfl (e_move (v := .sc _) rfl) trivial ?_
        refine p_step rfl (e_add rfl rfl (by omega)) trivial ?_
        refine p_step rfl (e_assign (v := .sc _) rfl) trivial ?_
        refine p_end (hK86 _ ?_); clear hK86 K86
        exact loop_again ((j + 1, y.count)) (by show _ < _; simp only; omega) ⟨rfl, rfl, rfl, rfl, rfl, rfl, trivial⟩ ⟨rfl, rfl, trivial⟩ (by exact ⟨by show _ + 1 ≤ _; omega, by first | exact by_t hbi (by assumption) (by assumption) | exact by_f hbi (fun h9 => absurd h9.1 (by assumption)) | exact by_f hbi (fun h9 => absurd h9.2 (by assumption)), hihj77_0⟩)
       have hb84R := hb84; simp only [z1, z2, z3, z4, z5, z6, ne_eq, z7, z8, z9, z10, z11, z12] at hb84
       refine pwp_skip ?_
       refine block_norm ?_
       refine seq_norm (hK81 _ ?_); clear hK81 K81
       refine pwp_plain rfl fun K87 hK87 => ?_
       refine p_step rfl (e_move (v := .sc _) rfl) trivial ?_
       refine p_step rfl (e_add rfl rfl (by omega)) trivial ?_
       refine p_step rfl (e_assign (v := .sc _) rfl) trivial ?_
       refine p_end (hK87 _ ?_); clear hK87 K87
       exact loop_again ((j + 1, b)) (by show _ < _; simp only; omega) ⟨rfl, rfl, rfl, rfl, rfl, rfl, trivial⟩ ⟨rfl, rfl, trivial⟩ (by exact ⟨by show _ + 1 ≤ _; omega, by first | exact by_t hbi (by assumption) (by assumption) | exact by_f hbi (fun h9 => absurd h9.1 (by assumption)) | exact by_f hbi (fun h9 => absurd h9.2 (by assumption)), hihj77_0⟩)
      have hb83R := hb83; simp only [z1, z2, z3, z4, z5, z6, ne_eq, z7, z8, z9, z10, z11, z12] at hb83
      refine g_skip rfl rfl rfl ?_
      refine g_skip rfl rfl rfl ?_
      refine g_skip rfl rfl rfl ?_
      refine g_skip rfl rfl rfl ?_
      refine g_skip rfl rfl rfl ?_
      refine g_skip rfl rfl rfl ?_
      refine g_skip rfl rfl rfl ?_
      refine g_skip rfl rfl rfl ?_
      refine g_skip rfl rfl rfl ?_
      refine g_skip rfl rfl rfl ?_
      refine g_skip rfl rfl rfl ?_
      refine g_step rfl rfl rfl rfl (e_pickF (v := .sc _) rfl rfl) trivial ?_
      refine g_end (ds := [118, 119, 120, 121, 122, 123, 124, 125, 126, 127, 128]) (by kernel_rfl) rfl (hK82 _ ?_); clear hK82 K82
      refine pwp_cond (t := false) rfl nofun (fun _ => ?_)
      refine pwp_skip ?_
      refine block_norm ?_
      refine seq_norm (hK81 _ ?_); clear hK81 K81
      refine pwp_plain rfl fun K88 hK88 => ?_
      refine p_step rfl (e_move (v := .sc _) rfl) trivial ?_
      refine p_step rfl (e_add rfl rfl (by omega)) trivial ?_
      refine p_step rfl (e_assign (v := .sc _) rfl) trivial ?_
      refine p_end (hK88 _ ?_); clear hK88 K88
      exact loop_again ((j + 1, b)) (by show _ < _; simp only; omega) ⟨rfl, rfl, rfl, rfl, rfl, rfl, trivial⟩ ⟨rfl, rfl, trivial⟩ (by exact ⟨by show _ + 1 ≤ _; omega, by first | exact by_t hbi (by assumption) (by assumption) | exact by_f hbi (fun h9 => absurd h9.1 (by assumption)) | exact by_f hbi (fun h9 => absurd h9.2 (by assumption)), hihj77_0⟩)
     have hb80R := hb80; simp only [z1, z2, z3, z4, z5, z6, ne_eq, z7, z8, z9, z10, z11, z12] at hb80
     obtain rfl : j = ss.length := by omega
     rw [List.drop_length] at hbi; simp only [byF] at hbi
     have hby : b = byW w ss x.part := hbi.symm
     have hbq : x.count / b = x.count / byW w ss x.part := by rw [hby]
     have hbm : x.count % b = x.count % byW w ss x.part := by rw [hby]
     refine pwp_exit ?_
     refine exit_seq ?_
     clear hK79 K79
     refine exit_loop ?_
     refine exit_here ?_
     refine seq_norm (hK72 _ ?_); clear hK72 K72
     refine pwp_seq_seq ?_
     refine pwp_seq_gops rfl fun K89 hK89 => ?_
     refine g_begin ?_
     refine g_step rfl rfl rfl rfl (e_move (v := .sc _) rfl) trivial ?_
     refine g_step rfl rfl rfl rfl (e_lt rfl rfl) trivial ?_
     refine g_step rfl rfl rfl rfl (e_move (v := .sc _) rfl) trivial ?_
     refine g_cases (fun hb90 => ?_) (fun hb90 => ?_)
     ·have hb90R := hb90; simp only [z1, z2, z3, z4, z5, z6, ne_eq, z7, z8, z9, z10, z11, z12] at hb90
      refine g_skip rfl rfl rfl ?_
      refine g_skip rfl rfl rfl ?_
      refine g_skip rfl rfl rfl ?_
      refine g_skip rfl rfl rfl ?_
      refine g_skip rfl rfl rfl ?_
      refine g_skip rfl rfl rfl ?_
      refine g_skip rfl rfl rfl ?_
      refine g_skip rfl rfl rfl ?_
      refine g_step rfl rfl rfl rfl (e_pickT (v := .sc _) rfl rfl) trivial ?_
      refine g_end (ds := [138, 139, 140, 141, 142, 143, 144, 145]) rfl rfl (hK89 _ ?_); clear hK89 K89
      refine pwp_seq_cond (t := true) rfl fun K91 hK91 => ⟨fun _ => ?_, nofun⟩
      refine pwp_seq_plain rfl fun K92 hK92 => ?_
      refine p_step rfl (e_assign (v := .sc _) rfl) trivial ?_
      refine p_end (hK92 _ ?_); clear hK92 K92
      refine pwp_ret ?_
      refine ret_seq ?_
      refine ret_block ?_
      refine ret_seq ?_
      refine ret_loop ?_
      refine ret_block ?_
      refine ret_seq ?_
      refine end1 (v := .sc _) rfl ?_
      (exfalso; omega)
     have hb90R := hb90; simp only [z1, z2, z3, z4, z5, z6, ne_eq, z7, z8, z9, z10, z11, z12] at hb90
     refine g_step rfl rfl rfl rfl (e_move (v := .lit _ _ _) rfl) trivial ?_
     refine g_step rfl rfl rfl rfl (e_move (v := .sc _) rfl) trivial ?_
     refine g_step rfl rfl rfl rfl (e_ixa rfl rfl (by kernel_rfl) (by kernel_rfl) (by simp only [List.length_map]; omega)) trivial ?_
     refine g_step rfl rfl rfl rfl (e_fa (pl := [(0, 1, false), (1, 1, false), (2, 1, false), (3, 1, false), (4, 1, false), (5, 1, false)]) rfl (by kernel_rfl) (by kernel_rfl) (by decide) rfl) trivial ?_
     refine g_step rfl rfl rfl rfl (e_load (v := .sc _) rfl (by kernel_rfl) (by kernel_rfl) (by kernel_rfl) (by simp only [List.length_map]; omega) (by decide) ((cell_map hx _).trans rfl)) trivial ?_
     refine g_step rfl rfl rfl rfl (e_move (v := .sc _) rfl) trivial ?_
     refine g_step rfl rfl rfl rfl (e_rem rfl rfl (by omega) (by omega)) trivial ?_
     refine g_step rfl rfl rfl rfl (e_ne rfl rfl) trivial ?_
     refine g_step rfl rfl rfl rfl (e_pickF (v := .sc _) rfl rfl) trivial ?_
     refine g_end (ds := [138, 139, 140, 141, 142, 143, 144, 145]) rfl rfl (hK89 _ ?_); clear hK89 K89
     refine pwp_seq_cond rfl fun K93 hK93 => ⟨fun hb94 => ?_, fun hb94 => ?_⟩
     ·have hb94R := hb94; simp only [z1, z2, z3, z4, z5, z6, ne_eq, z7, z8, z9, z10, z11, z12] at hb94
      refine pwp_seq_plain rfl fun K95 hK95 => ?_
      refine p_step rfl (e_assign (v := .sc _) rfl) trivial ?_
      refine p_end (hK95 _ ?_); clear hK95 K95
      refine pwp_ret ?_
      refine ret_seq ?_
      refine ret_block ?_
      refine ret_seq ?_
      refine ret_loop ?_
      refine ret_block ?_
      refine ret_seq ?_
      refine end1 (v := .sc _) rfl ?_
      (exfalso; omega)
     have hb94R := hb94; simp only [z1, z2, z3, z4, z5, z6, ne_eq, z7, z8, z9, z10, z11, z12] at hb94
     refine pwp_skip ?_
     refine seq_norm (hK93 _ ?_); clear hK93 K93
     refine pwp_plain rfl fun K96 hK96 => ?_
     refine p_step rfl (e_move (v := .sc _) rfl) trivial ?_
     refine p_step rfl (e_move (v := .lit _ _ _) rfl) trivial ?_
     refine p_step rfl (e_move (v := .sc _) rfl) trivial ?_
     refine p_step rfl (e_ixa rfl rfl (by kernel_rfl) (by kernel_rfl) (by simp only [List.length_map]; omega)) trivial ?_
     refine p_step rfl (e_fa (pl := [(0, 1, false), (1, 1, false), (2, 1, false), (3, 1, false), (4, 1, false), (5, 1, false)]) rfl (by kernel_rfl) (by kernel_rfl) (by decide) rfl) trivial ?_
     refine p_step rfl (e_load (v := .sc _) rfl (by kernel_rfl) (by kernel_rfl) (by kernel_rfl) (by simp only [List.length_map]; omega) (by decide) ((cell_map hx _).trans rfl)) trivial ?_
     refine p_step rfl (e_move (v := .sc _) rfl) trivial ?_
     refine p_step rfl (e_quo rfl rfl (by omega) (by omega) (by omega)) trivial ?_
     refine p_step rfl (e_add rfl rfl (by omega)) trivial ?_
     refine p_step rfl (e_assign (v := .sc _) rfl) trivial ?_
     refine p_end (hK96 _ ?_); clear hK96 K96
     refine block_norm ?_
     refine seq_norm (hK65 _ ?_); clear hK65 K65
     refine pwp_plain rfl fun K97 hK97 => ?_
     refine p_step rfl (e_move (v := .sc _) rfl) trivial ?_
     refine p_step rfl (e_add rfl rfl (by omega)) trivial ?_
     refine p_step rfl (e_assign (v := .sc _) rfl) trivial ?_
     refine p_end (hK97 _ ?_); clear hK97 K97
     exact loop_again ((k + 1, (s + (x.count / b)))) (by show _ < _; simp only; omega) ⟨rfl, rfl, rfl, rfl, trivial⟩ ⟨rfl, rfl, trivial⟩ (by exact ⟨by show _ + 1 ≤ _; omega, by (dsimp only; rw [hby]; exact hxs), by (dsimp only; rw [hby]; omega), hihj77_0⟩)
    have hb69R := hb69; simp only [z1, z2, z3, z4, z5, z6, ne_eq, z7, z8, z9, z10, z11, z12] at hb69
    refine pwp_skip ?_
    refine seq_norm (hK68 _ ?_); clear hK68 K68
    refine pwp_seq_seq ?_
    refine pwp_seq_plain rfl fun K98 hK98 => ?_
    refine p_step rfl (e_assign (v := .sc _) rfl) trivial ?_
    refine p_end (hK98 _ ?_); clear hK98 K98
    refine pwp_seq_block fun K99 hK99 => ?_
    refine pwp_loopR (α := Nat × Int) [0, 2, 4, 10, 13, 14] (fun (a100 : Nat × Int) => [(15, .int (a100.2)), (16, .int (a100.1))]) (fun (a100 : Nat × Int) (h : Heap) (_ : Nat → Nat) => ((a100.1) ≤ ss.length) ∧ (byW w ss x.part = byF w.part x.part (a100.2) (ss.drop (a100.1))) ∧ (h (4, 0) = some (.rows 2 [Want.enc w]))) (fun (a100 : Nat × Int) => ss.length - (a100.1)) (0, _) (by exact ⟨rfl, rfl, trivial⟩) (by exact ⟨by exact Nat.zero_le _, by first | (show byW w ss x.part = byF w.part x.part 1 ss; rw [byW, if_pos (by assumption)]) | (show byW w ss x.part = byF w.part x.part 0 ss; rw [byW, if_neg (by assumption)]), hihj61_0⟩) fun a100 r101 h102 c103 hj104 => ?_
    obtain ⟨j, b⟩ := a100
    obtain ⟨hj, hbi, hihj104_0⟩ := hj104
    try dsimp only at hj
    try dsimp only at hbi
    try dsimp only at hihj104_0
    show pwp _ _ (loopQ _ _ _) ⟨sets (mix _ _ _) [(15, .int b), (16, .int j)], _, _⟩
    refine pwp_seq_seq ?_
    refine pwp_seq_plain rfl fun K105 hK105 => ?_
    refine p_step rfl (e_move (v := .sc _) rfl) trivial ?_
    refine p_step rfl (e_move (v := .lit _ _ _) rfl) trivial ?_
    refine p_step rfl (e_len rfl (by kernel_rfl)) trivial ?_
    refine p_step rfl (e_lt rfl rfl) trivial ?_
    refine p_end (hK105 _ ?_); clear hK105 K105
    refine pwp_seq_cond rfl fun K106 hK106 => ⟨fun hb107 => ?_, fun hb107 => ?_⟩
    ·have hb107R := hb107; simp only [z1, z2, z3, z4, z5, z6, ne_eq, z7, z8, z9, z10, z11, z12] at hb107
     obtain ⟨y, hy, hdy, hty⟩ := get_lt (xs := ss) (i := j) (by omega)
     rw [hdy] at hbi
     refine pwp_skip ?_
     refine seq_norm (hK106 _ ?_); clear hK106 K106
     refine pwp_seq_block fun K108 hK108 => ?_
     refine pwp_seq_gops rfl fun K109 hK109 => ?_
     refine g_begin ?_
     refine g_step rfl rfl rfl rfl (e_move (v := .lit _ _ _) rfl) trivial ?_
     refine g_step rfl rfl rfl rfl (e_move (v := .sc _) rfl) trivial ?_
     refine g_step rfl rfl rfl rfl (e_ixa rfl rfl (by kernel_rfl) (by kernel_rfl) (by simp only [List.length_map]; omega)) trivial ?_
     refine g_step rfl rfl rfl rfl (e_fa (pl := [(0, 1, false), (1, 1, false), (2, 1, false)]) rfl (by kernel_rfl) (by kernel_rfl) (by decide) rfl) trivial ?_
     refine g_step rfl rfl rfl rfl (e_load (v := .sc _) rfl (by kernel_rfl) (by kernel_rfl) (by kernel_rfl) (by simp only [List.length_map]; omega) (by decide) ((cell_map hy _).trans rfl)) trivial ?_
     refine g_step rfl rfl rfl rfl (e_faP (pl := [(0, 1, false), (1, 1, false)]) rfl (by kernel_rfl) (by kernel_rfl) (by decide) rfl) trivial ?_
     refine g_step rfl rfl rfl rfl (e_loadH (v := .sc _) rfl hihj104_0 (by kernel_rfl) (by kernel_rfl) (by kernel_rfl) (by exact Nat.zero_lt_one) (by decide) rfl) trivial ?_
     refine g_step rfl rfl rfl rfl (e_seq rfl rfl) trivial ?_
     refine g_step rfl rfl rfl rfl (e_move (v := .sc _) rfl) trivial ?_
     refine g_cases (fun hb110 => ?_) (fun hb110 => ?_)
     ·have hb110R := hb110; simp only [z1, z2, z3, z4, z5, z6, ne_eq, z7, z8, z9, z10, z11, z12] at hb110
      refine g_step rfl rfl rfl rfl (e_move (v := .lit _ _ _) rfl) trivial ?_
      refine g_step rfl rfl rfl rfl (e_move (v := .sc _) rfl) trivial ?_
      refine g_step rfl rfl rfl rfl (e_ixa rfl rfl (by kernel_rfl) (by kernel_rfl) (by simp only [List.length_map]; omega)) trivial ?_
      refine g_step rfl rfl rfl rfl (e_fa (pl := [(0, 1, false), (1, 1, false), (2, 1, false)]) rfl (by kernel_rfl) (by kernel_rfl) (by decide) rfl) trivial ?_
      refine g_step rfl rfl rfl rfl (e_load (v := .sc _) rfl (by kernel_rfl) (by kernel_rfl) (by kernel_rfl) (by simp only [List.length_map]; omega) (by decide) ((cell_map hy _).trans rfl)) trivial ?_
      refine g_step rfl rfl rfl rfl (e_move (v := .lit _ _ _) rfl) trivial ?_
      refine g_step rfl rfl rfl rfl (e_move (v := .sc _) rfl) trivial ?_
      refine g_step rfl rfl rfl rfl (e_ixa rfl rfl (by kernel_rfl) (by kernel_rfl) (by simp only [List.length_map]; omega)) trivial ?_
      refine g_step rfl rfl rfl rfl (e_fa (pl := [(0, 1, false), (1, 1, false), (2, 1, false), (3, 1, false), (4, 1, false), (5, 1, false)]) rfl (by kernel_rfl) (by kernel_rfl) (by decide) rfl) trivial ?_
      refine g_step rfl rfl rfl rfl (e_load (v := .sc _) rfl (by kernel_rfl) (by kernel_rfl) (by kernel_rfl) (by simp only [List.length_map]; omega) (by decide) ((cell_map hx _).trans rfl)) trivial ?_
      refine g_step rfl rfl rfl rfl (e_seq rfl rfl) trivial ?_
      refine g_step rfl rfl rfl rfl (e_pickT (v := .sc _) rfl rfl) trivial ?_
      refine g_end (ds := [118, 119, 120, 121, 122, 123, 124, 125, 126, 127, 128]) (by kernel_rfl) rfl (hK109 _ ?_); clear hK109 K109
      refine pwp_cond rfl (fun hb111 => ?_) (fun hb111 => ?_)
      ·have hb111R := hb111; simp only [z1, z2, z3, z4, z5, z6, ne_eq, z7, z8, z9, z10, z11, z12] at hb111
       refine pwp_plain rfl fun K112 hK112 => ?_
       refine p_step rfl (e_move (v := .lit _ _ _) rfl) trivial ?_
       refine p_step rfl (e_move (v := .sc _) rfl) trivial ?_
       refine p_step rfl (e_ixa rfl rfl (by kernel_rfl) (by kernel_rfl) (by simp only [List.length_map]; omega)) trivial ?_
       refine p_step rfl (e_fa (pl := [(0, 1, false), (1, 1, false), (2, 1, false)]) rfl (by kernel_rfl) (by kernel_rfl) (by decide) rfl) trivial ?_
       refine p_step rfl (e_load (v := .sc _) rfl (by kernel_rfl) (by kernel_rfl) (by kernel_rfl) (by simp only [List.length_map]; omega) (by decide) ((cell_map hy _).trans rfl)) trivial ?_
       refine p_step rfl (e_assign (v := .sc _) rfl) trivial ?_
       refine p_end (hK112 _ ?_); clear hK112 K112
       refine block_norm ?_
       refine seq_norm (hK108 _ ?_); clear hK108 K108
       refine pwp_plain rfl fun K113 hK113 => ?_
       refine p_step rfl (e_move (v := .sc _) rfl) trivial ?_
       refine p_step rfl (e_add rfl rfl (by omega)) trivial ?_
       refine p_step rfl (e_assign (v := .sc _) rfl) trivial ?_
       refine p_end (hK113 _ ?_); clear hK113 K113
       exact loop_again ((j + 1, y.count)) (by show _ < _; simp only; omega) ⟨rfl, rfl, rfl, rfl, rfl, rfl, trivial⟩ ⟨rfl, rfl, trivial⟩ (by exact ⟨by show _ + 1 ≤ _; omega, by first | exact by_t hbi (by assumption) (by assumption) | exact by_f hbi (fun h9 => absurd h9.1 (by assumption)) | exact by_f hbi (fun h9 => absurd h9.2 (by assumption)), hihj104_0⟩)
      have hb111R := hb111; simp only [z1, z2, z3, z4, z5, z6, ne_eq, z7, z8, z9, z10, z11, z12] at hb111
      refine pwp_skip ?_
      refine block_norm ?_
      refine seq_norm (hK108 _ ?_); clear hK108 K108
      refine pwp_plain rfl fun K114 hK114 => ?_
      refine p_step rfl (e_move (v := .sc _) rfl) trivial ?_
      refine p_step rfl (e_add rfl rfl (by omega)) trivial ?_
      refine p_step rfl (e_assign (v := .sc _) rfl) trivial ?_
      refine p_end (hK114 _ ?_); clear hK114 K114
      exact loop_again ((j + 1, b)) (by show _ < _; simp only; omega) ⟨rfl, rfl, rfl, rfl, rfl, rfl, trivial⟩ ⟨rfl, rfl, trivial⟩ (by exact ⟨by show _ + 1 ≤ _; omega, by first | exact by_t hbi (by assumption) (by assumption) | exact by_f hbi (fun h9 => absurd h9.1 (by assumption)) | exact by_f hbi (fun h9 => absurd h9.2 (by assumption)), hihj104_0⟩)
     have hb110R := hb110; simp only [z1, z2, z3, z4, z5, z6, ne_eq, z7, z8, z9, z10, z11, z12] at hb110
     refine g_skip rfl rfl rfl ?_
     refine g_skip rfl rfl rfl ?_
     refine g_skip rfl rfl rfl ?_
     refine g_skip rfl rfl rfl ?_
     refine g_skip rfl rfl rfl ?_
     refine g_skip rfl rfl rfl ?_
     refine g_skip rfl rfl rfl ?_
     refine g_skip rfl rfl rfl ?_
     refine g_skip rfl rfl rfl ?_
     refine g_skip rfl rfl rfl ?_
     refine g_skip rfl rfl rfl ?_
     refine g_step rfl rfl rfl rfl (e_pickF (v := .sc _) rfl rfl) trivial ?_
     refine g_end (ds := [118, 119, 120, 121, 122, 123, 124, 125, 126, 127, 128]) (by kernel_rfl) rfl (hK109 _ ?_); clear hK109 K109
     refine pwp_cond (t := false) rfl nofun (fun _ => ?_)
     refine pwp_skip ?_
     refine block_norm ?_
     refine seq_norm (hK108 _ ?_); clear hK108 K108
     refine pwp_plain rfl fun K115 hK115 => ?_
     refine p_step rfl (e_move (v := .sc _) rfl) trivial ?_
     refine p_step rfl (e_add rfl rfl (by omega)) trivial ?_
     refine p_step rfl (e_assign (v := .sc _) rfl) trivial ?_
     refine p_end (hK115 _ ?_); clear hK115 K115
     exact loop_again ((j + 1, b)) (by show _ < _; simp only; omega) ⟨rfl, rfl, rfl, rfl, rfl, rfl, trivial⟩ ⟨rfl, rfl, trivial⟩ (by exact ⟨by show _ + 1 ≤ _; omega, by first | exact by_t hbi (by assumption) (by assumption) | exact by_f hbi (fun h9 => absurd h9.1 (by assumption)) | exact by_f hbi (fun h9 => absurd h9.2 (by assumption)), hihj104_0⟩)
    have hb107R := hb107; simp only [z1, z2, z3, z4, z5, z6, ne_eq, z7, z8, z9, z10, z11, z12] at hb107
    obtain rfl : j = ss.length := by omega
    rw [List.drop_length] at hbi; simp only [byF] at hbi
    have hby : b = byW w ss x.part := hbi.symm
    have hbq : x.count / b = x.count / byW w ss x.part := by rw [hby]
    have hbm : x.count % b = x.count % byW w ss x.part := by rw [hby]
    refine pwp_exit ?_
    refine exit_seq ?_
    clear hK106 K106
    refine exit_loop ?_
    refine exit_here ?_
    refine seq_norm (hK99 _ ?_); clear hK99 K99
    refine pwp_seq_seq ?_
    refine pwp_seq_gops rfl fun K116 hK116 => ?_
    refine g_begin ?_
    refine g_step rfl rfl rfl rfl (e_move (v := .sc _) rfl) trivial ?_
    refine g_step rfl rfl rfl rfl (e_lt rfl rfl) trivial ?_
    refine g_step rfl rfl rfl rfl (e_move (v := .sc _) rfl) trivial ?_
    refine g_cases (fun hb117 => ?_) (fun hb117 => ?_)
    ·have hb117R := hb117; simp only [z1, z2, z3, z4, z5, z6, ne_eq, z7, z8, z9, z10, z11, z12] at hb117
     refine g_skip rfl rfl rfl ?_
     refine g_skip rfl rfl rfl ?_
     refine g_skip rfl rfl rfl ?_
     refine g_skip rfl rfl rfl ?_
     refine g_skip rfl rfl rfl ?_
     refine g_skip rfl rfl rfl ?_
     refine g_skip rfl rfl rfl ?_
     refine g_skip rfl rfl rfl ?_
     refine g_step rfl rfl rfl rfl (e_pickT (v := .sc _) rfl rfl) trivial ?_
     refine g_end (ds := [138, 139, 140, 141, 142, 143, 144, 145]) rfl rfl (hK116 _ ?_); clear hK116 K116
     refine pwp_seq_cond (t := true) rfl fun K118 hK118 => ⟨fun _ => ?_, nofun⟩
     refine pwp_seq_plain rfl fun K119 hK119 => ?_
     refine p_step rfl (e_assign (v := .sc _) rfl) trivial ?_
     refine p_end (hK119 _ ?_); clear hK119 K119
     refine pwp_ret ?_
     refine ret_seq ?_
     refine ret_block ?_
     refine ret_seq ?_
     refine ret_loop ?_
     refine ret_block ?_
     refine ret_seq ?_
     refine end1 (v := .sc _) rfl ?_
     (exfalso; omega)
    have hb117R := hb117; simp only [z1, z2, z3, z4, z5, z6, ne_eq, z7, z8, z9, z10, z11, z12] at hb117
    refine g_step rfl rfl rfl rfl (e_move (v := .lit _ _ _) rfl) trivial ?_
    refine g_step rfl rfl rfl rfl (e_move (v := .sc _) rfl) trivial ?_
    refine g_step rfl rfl rfl rfl (e_ixa rfl rfl (by kernel_rfl) (by kernel_rfl) (by simp only [List.length_map]; omega)) trivial ?_
    refine g_step rfl rfl rfl rfl (e_fa (pl := [(0, 1, false), (1, 1, false), (2, 1, false), (3, 1, false), (4, 1, false), (5, 1, false)]) rfl (by kernel_rfl) (by kernel_rfl) (by decide) rfl) trivial ?_
    refine g_step rfl rfl rfl rfl (e_load (v := .sc _) rfl (by kernel_rfl) (by kernel_rfl) (by kernel_rfl) (by simp only [List.length_map]; omega) (by decide) ((cell_map hx _).trans rfl)) trivial ?_
    refine g_step rfl rfl rfl rfl (e_move (v := .sc _) rfl) trivial ?_
    refine g_step rfl rfl rfl rfl (e_rem rfl rfl (by omega) (by omega)) trivial ?_
    refine g_step rfl rfl rfl rfl (e_ne rfl rfl) trivial ?_
    refine g_step rfl rfl rfl rfl (e_pickF (v := .sc _) rfl rfl) trivial ?_
    refine g_end (ds := [138, 139, 140, 141, 142, 143, 144, 145]) rfl rfl (hK116 _ ?_); clear hK116 K116
    refine pwp_seq_cond rfl fun K120 hK120 => ⟨fun hb121 => ?_, fun hb121 => ?_⟩
    ·have hb121R := hb121; simp only [z1, z2, z3, z4, z5, z6, ne_eq, z7, z8, z9, z10, z11, z12] at hb121
     refine pwp_seq_plain rfl fun K122 hK122 => ?_
     refine p_step rfl (e_assign (v := .sc _) rfl) trivial ?_
     refine p_end (hK122 _ ?_); clear hK122 K122
     refine pwp_ret ?_
     refine ret_seq ?_
     refine ret_block ?_
     refine ret_seq ?_
     refine ret_loop ?_
     refine ret_block ?_
     refine ret_seq ?_
     refine end1 (v := .sc _) rfl ?_
     (exfalso; omega)
    have hb121R := hb121; simp only [z1, z2, z3, z4, z5, z6, ne_eq, z7, z8, z9, z10, z11, z12] at hb121
    refine pwp_skip ?_
    refine seq_norm (hK120 _ ?_); clear hK120 K120
    refine pwp_plain rfl fun K123 hK123 => ?_
    refine p_step rfl (e_move (v := .sc _) rfl) trivial ?_
    refine p_step rfl (e_move (v := .lit _ _ _) rfl) trivial ?_
    refine p_step rfl (e_move (v := .sc _) rfl) trivial ?_
    refine p_step rfl (e_ixa rfl rfl (by kernel_rfl) (by kernel_rfl) (by simp only [List.length_map]; omega)) trivial ?_
    refine p_step rfl (e_fa (pl := [(0, 1, false), (1, 1, false), (2, 1, false), (3, 1, false), (4, 1, false), (5, 1, false)]) rfl (by kernel_rfl) (by kernel_rfl) (by decide) rfl) trivial ?_
    refine p_step rfl (e_load (v := .sc _) rfl (by kernel_rfl) (by kernel_rfl) (by kernel_rfl) (by simp only [List.length_map]; omega) (by decide) ((cell_map hx _).trans rfl)) trivial ?_
    refine p_step rfl (e_move (v := .sc _) rfl) trivial ?_
    refine p_step rfl (e_quo rfl rfl (by omega) (by omega) (by omega)) trivial ?_
    refine p_step rfl (e_add rfl rfl (by omega)) trivial ?_
    refine p_step rfl (e_assign (v := .sc _) rfl) trivial ?_
    refine p_end (hK123 _ ?_); clear hK123 K123
    refine block_norm ?_
    refine seq_norm (hK65 _ ?_); clear hK65 K65
    refine pwp_plain rfl fun K124 hK124 => ?_
    refine p_step rfl (e_move (v := .sc _) rfl) trivial ?_
    refine p_step rfl (e_add rfl rfl (by omega)) trivial ?_
    refine p_step rfl (e_assign (v := .sc _) rfl) trivial ?_
    refine p_end (hK124 _ ?_); clear hK124 K124
    exact loop_again ((k + 1, (s + (x.count / b)))) (by show _ < _; simp only; omega) ⟨rfl, rfl, rfl, rfl, trivial⟩ ⟨rfl, rfl, trivial⟩ (by exact ⟨by show _ + 1 ≤ _; omega, by (dsimp only; rw [hby]; exact hxs), by (dsimp only; rw [hby]; omega), hihj104_0⟩)
   have hb64R := hb64; simp only [z1, z2, z3, z4, z5, z6, ne_eq, z7, z8, z9, z10, z11, z12] at hb64
   obtain rfl : k = (pickX xs (⟨1, [w], ss⟩ : Order)).2.1.length := by omega
   rw [List.drop_length] at hinv; simp only [sumB] at hinv
   refine pwp_exit ?_
   refine exit_seq ?_
   clear hK63 K63
   refine exit_loop ?_
   refine exit_here ?_
   refine seq_norm (hK56 _ ?_); clear hK56 K56
   refine pwp_seq_plain rfl fun K125 hK125 => ?_
   refine p_step rfl (e_move (v := .lit _ _ _) rfl) trivial ?_
   refine p_step rfl (e_move (v := .lit _ _ _) rfl) trivial ?_
   refine p_call rfl (.cons inn_lit (.cons inn_lit .nil)) (MovesS _ _ hsh.2.1 hsh.2.2 hpl hpz) ?_
   refine p_step rfl (e_move (v := .tup _) rfl) trivial ?_
   refine p_step rfl (e_ext (v := .lit _ _ _) rfl (by simp) rfl) trivial ?_
   refine p_step rfl (e_ext (v := .sc _) rfl (by simp) rfl) trivial ?_
   refine p_step rfl (e_ext (v := .sc _) rfl (by simp) rfl) trivial ?_
   refine p_step rfl (e_assign (v := .lit _ _ _) rfl) trivial ?_
   refine p_step rfl (e_assign (v := .sc _) rfl) trivial ?_
   refine p_step rfl (e_assign (v := .sc _) rfl) trivial ?_
   refine p_end (hK125 _ ?_); clear hK125 K125
   refine pwp_seq_plain rfl fun K126 hK126 => ?_
   refine p_step rfl (e_move (v := .lit _ _ _) rfl) trivial ?_
   refine p_call rfl (.cons inn_lit .nil) (NormalS _ hsh.2.1 hsh.2.2) ?_
   refine p_step rfl (e_move (v := .tup _) rfl) trivial ?_
   refine p_step rfl (e_ext (v := .lit _ _ _) rfl (by simp) rfl) trivial ?_
   refine p_step rfl (e_ext (v := .sc _) rfl (by simp) rfl) trivial ?_
   refine p_step rfl (e_assign (v := .lit _ _ _) rfl) trivial ?_
   refine p_step rfl (e_assign (v := .sc _) rfl) trivial ?_
   refine p_end (hK126 _ ?_); clear hK126 K126
   refine pwp_seq_gops rfl fun K127 hK127 => ?_
   refine g_begin ?_
   refine g_step rfl rfl rfl rfl (e_move (v := .sc _) rfl) trivial ?_
   refine g_step rfl rfl rfl rfl (e_faP (pl := [(0, 1, false), (1, 1, false)]) rfl (by kernel_rfl) (by kernel_rfl) (by decide) rfl) trivial ?_
   refine g_step rfl rfl rfl rfl (e_loadH (v := .sc _) rfl hihj61_0 (by kernel_rfl) (by kernel_rfl) (by kernel_rfl) (by exact Nat.zero_lt_one) (by decide) rfl) trivial ?_
   refine g_step rfl rfl rfl rfl (e_eq rfl rfl) trivial ?_
   refine g_step rfl rfl rfl rfl (e_move (v := .sc _) rfl) trivial ?_
   refine g_cases (fun hb128 => ?_) (fun hb128 => ?_)
   ·have hb128R := hb128; simp only [z1, z2, z3, z4, z5, z6, ne_eq, z7, z8, z9, z10, z11, z12] at hb128
    refine g_step rfl rfl rfl rfl (e_move (v := .sc _) rfl) trivial ?_
    refine g_step rfl rfl rfl rfl (e_eq rfl rfl) trivial ?_
    refine g_step rfl rfl rfl rfl (e_move (v := .sc _) rfl) trivial ?_
    refine g_cases (fun hb129 => ?_) (fun hb129 => ?_)
    ·have hb129R := hb129; simp only [z1, z2, z3, z4, z5, z6, ne_eq, z7, z8, z9, z10, z11, z12] at hb129
     refine g_skip rfl rfl rfl ?_
     refine g_skip rfl rfl rfl ?_
     refine g_step rfl rfl rfl rfl (e_pickT (v := .sc _) rfl rfl) trivial ?_
     refine g_step rfl rfl rfl rfl (e_move (v := .sc _) rfl) trivial ?_
     refine g_skip rfl rfl rfl ?_
     refine g_skip rfl rfl rfl ?_
     refine g_step rfl rfl rfl rfl (e_pickT (v := .sc _) rfl rfl) trivial ?_
     refine g_step rfl rfl rfl rfl (e_pickT (v := .sc _) rfl rfl) trivial ?_
     refine g_step rfl rfl rfl rfl (e_assign (v := .sc _) rfl) trivial ?_
     refine g_end (ds := [173, 174, 175, 176, 177, 178, 179, 180, 181, 182]) rfl rfl (hK127 _ ?_); clear hK127 K127
     refine pwp_ret ?_
     refine end1 (v := .sc _) rfl ?_
     exact out_b rfl
    have hb129R := hb129; simp only [z1, z2, z3, z4, z5, z6, ne_eq, z7, z8, z9, z10, z11, z12] at hb129
    refine g_step rfl rfl rfl rfl (e_move (v := .sc _) rfl) trivial ?_
    refine g_step rfl rfl rfl rfl (e_eq rfl rfl) trivial ?_
    refine g_step rfl rfl rfl rfl (e_pickF (v := .sc _) rfl rfl) trivial ?_
    refine g_step rfl rfl rfl rfl (e_move (v := .sc _) rfl) trivial ?_
    refine g_cases (fun hb130 => ?_) (fun hb130 => ?_)
    ·have hb130R := hb130; simp only [z1, z2, z3, z4, z5, z6, ne_eq, z7, z8, z9, z10, z11, z12] at hb130
     refine g_skip rfl rfl rfl ?_
     refine g_skip rfl rfl rfl ?_
     refine g_step rfl rfl rfl rfl (e_pickT (v := .sc _) rfl rfl) trivial ?_
     refine g_step rfl rfl rfl rfl (e_pickT (v := .sc _) rfl rfl) trivial ?_
     refine g_step rfl rfl rfl rfl (e_assign (v := .sc _) rfl) trivial ?_
     refine g_end (ds := [173, 174, 175, 176, 177, 178, 179, 180, 181, 182]) rfl rfl (hK127 _ ?_); clear hK127 K127
     refine pwp_ret ?_
     refine end1 (v := .sc _) rfl ?_
     exact out_b rfl
    have hb130R := hb130; simp only [z1, z2, z3, z4, z5, z6, ne_eq, z7, z8, z9, z10, z11, z12] at hb130
    refine g_step rfl rfl rfl rfl (e_move (v := .sc _) rfl) trivial ?_
    refine g_step rfl rfl rfl rfl (e_ne rfl rfl) trivial ?_
    refine g_step rfl rfl rfl rfl (e_pickF (v := .sc _) rfl rfl) trivial ?_
    refine g_step rfl rfl rfl rfl (e_pickT (v := .sc _) rfl rfl) trivial ?_
    refine g_step rfl rfl rfl rfl (e_assign (v := .sc _) rfl) trivial ?_
    refine g_end (ds := [173, 174, 175, 176, 177, 178, 179, 180, 181, 182]) rfl rfl (hK127 _ ?_); clear hK127 K127
    refine pwp_ret ?_
    refine end1 (v := .sc _) rfl ?_
    exact out_b (decide_eq_true (fun e => by have h8 := picked_moves hst hp4 hp5 e; omega))
   have hb128R := hb128; simp only [z1, z2, z3, z4, z5, z6, ne_eq, z7, z8, z9, z10, z11, z12] at hb128
   refine g_skip rfl rfl rfl ?_
   refine g_skip rfl rfl rfl ?_
   refine g_skip rfl rfl rfl ?_
   refine g_skip rfl rfl rfl ?_
   refine g_skip rfl rfl rfl ?_
   refine g_skip rfl rfl rfl ?_
   refine g_skip rfl rfl rfl ?_
   refine g_skip rfl rfl rfl ?_
   refine g_skip rfl rfl rfl ?_
   refine g_skip rfl rfl rfl ?_
   refine g_step rfl rfl rfl rfl (e_pickF (v := .sc _) rfl rfl) trivial ?_
   refine g_step rfl rfl rfl rfl (e_assign (v := .sc _) rfl) trivial ?_
   refine g_end (ds := [173, 174, 175, 176, 177, 178, 179, 180, 181, 182]) rfl rfl (hK127 _ ?_); clear hK127 K127
   refine pwp_ret ?_
   refine end1 (v := .sc _) rfl ?_
   (exfalso; omega)
  have hb53R := hb53; simp only [z1, z2, z3, z4, z5, z6, ne_eq, z7, z8, z9, z10, z11, z12] at hb53
  refine pwp_skip ?_
  refine seq_norm (hK52 _ ?_); clear hK52 K52
  refine pwp_seq_seq ?_
  refine pwp_seq_plain rfl fun K131 hK131 => ?_
  refine p_step rfl (e_assign (v := .sc _) rfl) trivial ?_
  refine p_end (hK131 _ ?_); clear hK131 K131
  refine pwp_seq_block fun K132 hK132 => ?_
  refine pwp_loopR (α := Nat × Int) [0, 2, 4, 10] (fun (a133 : Nat × Int) => [(13, .int (a133.2)), (14, .int (a133.1))]) (fun (a133 : Nat × Int) (h : Heap) (_ : Nat → Nat) => ((a133.1) ≤ (pickX xs (⟨1, [w], ss⟩ : Order)).2.1.length) ∧ (w.count = sumB w ss (a133.2) ((pickX xs (⟨1, [w], ss⟩ : Order)).2.1.drop (a133.1))) ∧ (0 ≤ (a133.2)) ∧ (h (4, 0) = some (.rows 2 [Want.enc w]))) (fun (a133 : Nat × Int) => (pickX xs (⟨1, [w], ss⟩ : Order)).2.1.length - (a133.1)) (0, _) (by exact ⟨rfl, rfl, trivial⟩) (by exact ⟨by exact Nat.zero_le _, by (dsimp only; rw [List.drop_zero, sumB_add]; first | omega | (have h9 := lk_0 hp1 (by omega) hp2; omega)), by (dsimp only; omega), hihj23_0⟩) fun a133 r134 h135 c136 hj137 => ?_
  obtain ⟨k, s⟩ := a133
  obtain ⟨hk, hinv, hs0, hihj137_0⟩ := hj137
  try dsimp only at hk
  try dsimp only at hinv
  try dsimp only at hs0
  try dsimp only at hihj137_0
  show pwp _ _ (loopQ _ _ _) ⟨sets (mix _ _ _) [(13, .int s), (14, .int k)], _, _⟩
  refine pwp_seq_seq ?_
  refine pwp_seq_plain rfl fun K138 hK138 => ?_
  refine p_step rfl (e_move (v := .sc _) rfl) trivial ?_
  refine p_step rfl (e_move (v := .lit _ _ _) rfl) trivial ?_
  refine p_step rfl (e_len rfl (by kernel_rfl)) trivial ?_
  refine p_step rfl (e_lt rfl rfl) trivial ?_
  refine p_end (hK138 _ ?_); clear hK138 K138
  refine pwp_seq_cond rfl fun K139 hK139 => ⟨fun hb140 => ?_, fun hb140 => ?_⟩
  ·have hb140R := hb140; simp only [z1, z2, z3, z4, z5, z6, ne_eq, z7, z8, z9, z10, z11, z12] at hb140
   obtain ⟨x, hx, hdx, htx⟩ := get_lt (xs := (pickX xs (⟨1, [w], ss⟩ : Order)).2.1) (i := k) (by omega)
   rw [hdx] at hinv
   have hxq := hp4 x (List.mem_of_getElem? hx)
   obtain ⟨_, _, hx1, hx2, hx3⟩ := hxq
   have hxs := sb_n hinv
   have hxc := hxm x (List.mem_of_getElem? hx)
   have hxn : 0 ≤ x.count / byW w ss x.part := Int.ediv_nonneg (by omega) (by omega)
   have hxg := sumB_ge (l := (pickX xs (⟨1, [w], ss⟩ : Order)).2.1.drop (k + 1)) (s := s + x.count / byW w ss x.part) (fun y hy => hsn y (List.mem_of_mem_drop hy))
   refine pwp_skip ?_
   refine seq_norm (hK139 _ ?_); clear hK139 K139
   refine pwp_seq_block fun K141 hK141 => ?_
   refine pwp_seq_plain rfl fun K142 hK142 => ?_
   refine p_step rfl (e_assign (v := .sc _) rfl) trivial ?_
   refine p_end (hK142 _ ?_); clear hK142 K142
   refine pwp_seq_seq ?_
   refine pwp_seq_gops rfl fun K143 hK143 => ?_
   refine g_begin ?_
   refine g_step rfl rfl rfl rfl (e_move (v := .lit _ _ _) rfl) trivial ?_
   refine g_step rfl rfl rfl rfl (e_move (v := .sc _) rfl) trivial ?_
   refine g_step rfl rfl rfl rfl (e_ixa rfl rfl (by kernel_rfl) (by kernel_rfl) (by simp only [List.length_map]; omega)) trivial ?_
   refine g_step rfl rfl rfl rfl (e_fa (pl := [(0, 1, false), (1, 1, false), (2, 1, false), (3, 1, false), (4, 1, false), (5, 1, false)]) rfl (by kernel_rfl) (by kernel_rfl) (by decide) rfl) trivial ?_
   refine g_step rfl rfl rfl rfl (e_load (v := .sc _) rfl (by kernel_rfl) (by kernel_rfl) (by kernel_rfl) (by simp only [List.length_map]; omega) (by decide) ((cell_map hx _).trans rfl)) trivial ?_
   refine g_step rfl rfl rfl rfl (e_faP (pl := [(0, 1, false), (1, 1, false)]) rfl (by kernel_rfl) (by kernel_rfl) (by decide) rfl) trivial ?_
   refine g_step rfl rfl rfl rfl (e_loadH (v := .sc _) rfl hihj137_0 (by kernel_rfl) (by kernel_rfl) (by kernel_rfl) (by exact Nat.zero_lt_one) (by decide) rfl) trivial ?_
   refine g_step rfl rfl rfl rfl (e_seq rfl rfl) trivial ?_
   refine g_end (ds := []) (by kernel_rfl) rfl (hK143 _ ?_); clear hK143 K143
   refine pwp_seq_cond rfl fun K144 hK144 => ⟨fun hb145 => ?_, fun hb145 => ?_⟩
   ·have hb145R := hb145; simp only [z1, z2, z3, z4, z5, z6, ne_eq, z7, z8, z9, z10, z11, z12] at hb145
    refine pwp_plain rfl fun K146 hK146 => ?_
    refine p_step rfl (e_assign (v := .sc _) rfl) trivial ?_
    refine p_end (hK146 _ ?_); clear hK146 K146
    refine seq_norm (hK144 _ ?_); clear hK144 K144
    refine pwp_seq_seq ?_
    refine pwp_seq_plain rfl fun K147 hK147 => ?_
    refine p_step rfl (e_assign (v := .sc _) rfl) trivial ?_
    refine p_end (hK147 _ ?_); clear hK147 K147
    refine pwp_seq_block fun K148 hK148 => ?_
    refine pwp_loopR (α := Nat × Int) [0, 2, 4, 10, 13, 14] (fun (a149 : Nat × Int) => [(15, .int (a149.2)), (16, .int (a149.1))]) (fun (a149 : Nat × Int) (h : Heap) (_ : Nat → Nat) => ((a149.1) ≤ ss.length) ∧ (byW w ss x.part = byF w.part x.part (a149.2) (ss.drop (a149.1))) ∧ (h (4, 0) = some (.rows 2 [Want.enc w]))) (fun (a149 : Nat × Int) => ss.length - (a149.1)) (0, _) (by exact ⟨rfl, rfl, trivial⟩) (by exact ⟨by exact Nat.zero_le _, by first | (show byW w ss x.part = byF w.part x.part 1 ss; rw [byW, if_pos (by assumption)]) | (show byW w ss x.part = byF w.part x.part 0 ss; rw [byW, if_neg (by assumption)]), hihj137_0⟩) fun a149 r150 h151 c152 hj153 => ?_
    obtain ⟨j, b⟩ := a149
    obtain ⟨hj, hbi, hihj153_0⟩ := hj153
    try dsimp only at hj
    try dsimp only at hbi
    try dsimp only at hihj153_0
    show pwp _ _ (loopQ _ _ _) ⟨sets (mix _ _ _) [(15, .int b), (16, .int j)], _, _⟩
    refine pwp_seq_seq ?_
    refine pwp_seq_plain rfl fun K154 hK154 => ?_
    refine p_step rfl (e_move (v := .sc _) rfl) trivial ?_
    refine p_step rfl (e_move (v := .lit _ _ _) rfl) trivial ?_
    refine p_step rfl (e_len rfl (by kernel_rfl)) trivial ?_
    refine p_step rfl (e_lt rfl rfl) trivial ?_
    refine p_end (hK154 _ ?_); clear hK154 K154
    refine pwp_seq_cond rfl fun K155 hK155 => ⟨fun hb156 => ?_, fun hb156 => ?_⟩
    ·have hb156R := hb156; simp only [z1, z2, z3, z4, z5, z6, ne_eq, z7, z8, z9, z10, z11, z12] at hb156
     obtain ⟨y, hy, hdy, hty⟩ := get_lt (xs := ss) (i := j) (by omega)
     rw [hdy] at hbi
     refine pwp_skip ?_
     refine seq_norm (hK155 _ ?_); clear hK155 K155
     refine pwp_seq_block fun K157 hK157 => ?_
     refine pwp_seq_gops rfl fun K158 hK158 => ?_
     refine g_begin ?_
     refine g_step rfl rfl rfl rfl (e_move (v := .lit _ _ _) rfl) trivial ?_
     refine g_step rfl rfl rfl rfl (e_move (v := .sc _) rfl) trivial ?_
     refine g_step rfl rfl rfl rfl (e_ixa rfl rfl (by kernel_rfl) (by kernel_rfl) (by simp only [List.length_map]; omega)) trivial ?_
     refine g_step rfl rfl rfl rfl (e_fa (pl := [(0, 1, false), (1, 1, false), (2, 1, false)]) rfl (by kernel_rfl) (by kernel_rfl) (by decide) rfl) trivial ?_
     refine g_step rfl rfl rfl rfl (e_load (v := .sc _) rfl (by kernel_rfl) (by kernel_rfl) (by kernel_rfl) (by simp only [List.length_map]; omega) (by decide) ((cell_map hy _).trans rfl)) trivial ?_
     refine g_step rfl rfl rfl rfl (e_faP (pl := [(0, 1, false), (1, 1, false)]) rfl (by kernel_rfl) (by kernel_rfl) (by decide) rfl) trivial ?_
     refine g_step rfl rfl rfl rfl (e_loadH (v := .sc _) rfl hihj153_0 (by kernel_rfl) (by kernel_rfl) (by kernel_rfl) (by exact Nat.zero_lt_one) (by decide) rfl) trivial ?_
     refine g_step rfl rfl rfl rfl (e_seq rfl rfl) trivial ?_
     refine g_step rfl rfl rfl rfl (e_move (v := .sc _) rfl) trivial ?_
     refine g_cases (fun hb159 => ?_) (fun hb159 => ?_)
     ·have hb159R := hb159; simp only [z1, z2, z3, z4, z5, z6, ne_eq, z7, z8, z9, z10, z11, z12] at hb159
      refine g_step rfl rfl rfl rfl (e_move (v := .lit _ _ _) rfl) trivial ?_
      refine g_step rfl rfl rfl rfl (e_move (v := .sc _) rfl) trivial ?_
      refine g_step rfl rfl rfl rfl (e_ixa rfl rfl (by kernel_rfl) (by kernel_rfl) (by simp only [List.length_map]; omega)) trivial ?_
      refine g_step rfl rfl rfl rfl (e_fa (pl := [(0, 1, false), (1, 1, false), (2, 1, false)]) rfl (by kernel_rfl) (by kernel_rfl) (by decide) rfl) trivial ?_
      refine g_step rfl rfl rfl rfl (e_load (v := .sc _) rfl (by kernel_rfl) (by kernel_rfl) (by kernel_rfl) (by simp only [List.length_map]; omega) (by decide) ((cell_map hy _).trans rfl)) trivial ?_
      refine g_step rfl rfl rfl rfl (e_move (v := .lit _ _ _) rfl) trivial ?_
      refine g_step rfl rfl rfl rfl (e_move (v := .sc _) rfl) trivial ?_
      refine g_step rfl rfl rfl rfl (e_ixa rfl rfl (by kernel_rfl) (by kernel_rfl) (by simp only [List.length_map]; omega)) trivial ?_
      refine g_step rfl rfl rfl rfl (e_fa (pl := [(0, 1, false), (1, 1, false), (2, 1, false), (3, 1, false), (4, 1, false), (5, 1, false)]) rfl (by kernel_rfl) (by kernel_rfl) (by decide) rfl) trivial ?_
      refine g_step rfl rfl rfl rfl (e_load (v := .sc _) rfl (by kernel_rfl) (by kernel_rfl) (by kernel_rfl) (by simp only [List.length_map]; omega) (by decide) ((cell_map hx _).trans rfl)) trivial ?_
      refine g_step rfl rfl rfl rfl (e_seq rfl rfl) trivial ?_
      refine g_step rfl rfl rfl rfl (e_pickT (v := .sc _) rfl rfl) trivial ?_
      refine g_end (ds := [118, 119, 120, 121, 122, 123, 124, 125, 126, 127, 128]) (by kernel_rfl) rfl (hK158 _ ?_); clear hK158 K158
      refine pwp_cond rfl (fun hb160 => ?_) (fun hb160 => ?_)
      ·have hb160R := hb160; simp only [z1, z2, z3, z4, z5, z6, ne_eq, z7, z8, z9, z10, z11, z12] at hb160
       refine pwp_plain rfl fun K161 hK161 => ?_
       refine p_step rfl (e_move (v := .lit _ _ _) rfl) trivial ?_
       refine p_step rfl (e_move (v := .sc _) rfl) trivial ?_
       refine p_step rfl (e_ixa rfl rfl (by kernel_rfl) (by kernel_rfl) (by simp only [List.length_map]; omega)) trivial ?_
       refine p_step rfl (e_fa (pl := [(0, 1, false), (1, 1, false), (2, 1, false)]) rfl (by kernel_rfl) (by kernel_rfl) (by decide) rfl) trivial ?_
       refine p_step rfl (e_load (v := .sc _) rfl (by kernel_rfl) (by kernel_rfl) (by kernel_rfl) (by simp only [List.length_map]; omega) (by decide) ((cell_map hy _).trans rfl)) trivial ?_
       refine p_step rfl (e_assign (v := .sc _) rfl) trivial ?_
       refine p_end (hK161 _ ?_); clear hK161 K161
       refine block_norm ?_
       refine seq_norm (hK157 _ ?_); clear hK157 K157
       refine pwp_plain rfl fun K162 hK162 => ?_
       refine p_step rfl (e_move (v := .sc _) rfl) trivial ?_
       refine p_step rfl (e_add rfl rfl (by omega)) trivial ?_
       refine p_step rfl (e_assign (v := .sc _) rfl) trivial ?_
       refine p_end (hK162 _ ?_); clear hK162 K162
       exact loop_again ((j + 1, y.count)) (by show _ < _; simp only; omega) ⟨rfl, rfl, rfl, rfl, rfl, rfl, trivial⟩ ⟨rfl, rfl, trivial⟩ (by exact ⟨by show _ + 1 ≤ _; omega, by first | exact by_t hbi (by assumption) (by assumption) | exact by_f hbi (fun h9 => absurd h9.1 (by assumption)) | exact by_f hbi (fun h9 => absurd h9.2 (by assumption)), hihj153_0⟩)
      have hb160R := hb160; simp only [z1, z2, z3, z4, z5, z6, ne_eq, z7, z8, z9, z10, z11, z12] at hb160
      refine pwp_skip ?_
      refine block_norm ?_
      refine seq_norm (hK157 _ ?_); clear hK157 K157
      refine pwp_plain rfl fun K163 hK163 => ?_
      refine p_step rfl (e_move (v := .sc _) rfl) trivial ?_
      refine p_step rfl (e_add rfl rfl (by omega)) trivial ?_
      refine p_step rfl (e_assign (v := .sc _) rfl) trivial ?_
      refine p_end (hK163 _ ?_); clear hK163 K163
      exact loop_again ((j + 1, b)) (by show _ < _; simp only; omega) ⟨rfl, rfl, rfl, rfl, rfl, rfl, trivial⟩ ⟨rfl, rfl, trivial⟩ (by exact ⟨by show _ + 1 ≤ _; omega, by first | exact by_t hbi (by assumption) (by assumption) | exact by_f hbi (fun h9 => absurd h9.1 (by assumption)) | exact by_f hbi (fun h9 => absurd h9.2 (by assumption)), hihj153_0⟩)
     have hb159R := hb159; simp only [z1, z2, z3, z4, z5, z6, ne_eq, z7, z8, z9, z10, z11, z12] at hb159
     refine g_skip rfl rfl rfl ?_
     refine g_skip rfl rfl rfl ?_
     refine g_skip rfl rfl rfl ?_
     refine g_skip rfl rfl rfl ?_
     refine g_skip rfl rfl rfl ?_
     refine g_skip rfl rfl rfl ?_
     refine g_skip rfl rfl rfl ?_
     refine g_skip rfl rfl rfl ?_
     refine g_skip rfl rfl rfl ?_
     refine g_skip rfl rfl rfl ?_
     refine g_skip rfl rfl rfl ?_
     refine g_step rfl rfl rfl rfl (e_pickF (v := .sc _) rfl rfl) trivial ?_
     refine g_end (ds := [118, 119, 120, 121, 122, 123, 124, 125, 126, 127, 128]) (by kernel_rfl) rfl (hK158 _ ?_); clear hK158 K158
     refine pwp_cond (t := false) rfl nofun (fun _ => ?_)
     refine pwp_skip ?_
     refine block_norm ?_
     refine seq_norm (hK157 _ ?_); clear hK157 K157
     refine pwp_plain rfl fun K164 hK164 => ?_
     refine p_step rfl (e_move (v := .sc _) rfl) trivial ?_
     refine p_step rfl (e_add rfl rfl (by omega)) trivial ?_
     refine p_step rfl (e_assign (v := .sc _) rfl) trivial ?_
     refine p_end (hK164 _ ?_); clear hK164 K164
     exact loop_again ((j + 1, b)) (by show _ < _; simp only; omega) ⟨rfl, rfl, rfl, rfl, rfl, rfl, trivial⟩ ⟨rfl, rfl, trivial⟩ (by exact ⟨by show _ + 1 ≤ _; omega, by first | exact by_t hbi (by assumption) (by assumption) | exact by_f hbi (fun h9 => absurd h9.1 (by assumption)) | exact by_f hbi (fun h9 => absurd h9.2 (by assumption)), hihj153_0⟩)
    have hb156R := hb156; simp only [z1, z2, z3, z4, z5, z6, ne_eq, z7, z8, z9, z10, z11, z12] at hb156
    obtain rfl : j = ss.length := by omega
    rw [List.drop_length] at hbi; simp only [byF] at hbi
    have hby : b = byW w ss x.part := hbi.symm
    have hbq : x.count / b = x.count / byW w ss x.part := by rw [hby]
    have hbm : x.count % b = x.count % byW w ss x.part := by rw [hby]
    refine pwp_exit ?_
    refine exit_seq ?_
    clear hK155 K155
    refine exit_loop ?_
    refine exit_here ?_
    refine seq_norm (hK148 _ ?_); clear hK148 K148
    refine pwp_seq_seq ?_
    refine pwp_seq_gops rfl fun K165 hK165 => ?_
    refine g_begin ?_
    refine g_step rfl rfl rfl rfl (e_move (v := .sc _) rfl) trivial ?_
    refine g_step rfl rfl rfl rfl (e_lt rfl rfl) trivial ?_
    refine g_step rfl rfl rfl rfl (e_move (v := .sc _) rfl) trivial ?_
    refine g_cases (fun hb166 => ?_) (fun hb166 => ?_)
    ·have hb166R := hb166; simp only [z1, z2, z3, z4, z5, z6, ne_eq, z7, z8, z9, z10, z11, z12] at hb166
     refine g_skip rfl rfl rfl ?_
     refine g_skip rfl rfl rfl ?_
     refine g_skip rfl rfl rfl ?_
     refine g_skip rfl rfl rfl ?_
     refine g_skip rfl rfl rfl ?_
     refine g_skip rfl rfl rfl ?_
     refine g_skip rfl rfl rfl ?_
     refine g_skip rfl rfl rfl ?_
     refine g_step rfl rfl rfl rfl (e_pickT (v := .sc _) rfl rfl) trivial ?_
     refine g_end (ds := [138, 139, 140, 141, 142, 143, 144, 145]) rfl rfl (hK165 _ ?_); clear hK165 K165
     refine pwp_seq_cond (t := true) rfl fun K167 hK167 => ⟨fun _ => ?_, nofun⟩
     refine pwp_seq_plain rfl fun K168 hK168 => ?_
     refine p_step rfl (e_assign (v := .sc _) rfl) trivial ?_
     refine p_end (hK168 _ ?_); clear hK168 K168
     refine pwp_ret ?_
     refine ret_seq ?_
     refine ret_block ?_
     refine ret_seq ?_
     refine ret_loop ?_
     refine ret_block ?_
     refine ret_seq ?_
     refine end1 (v := .sc _) rfl ?_
     (exfalso; omega)
    have hb166R := hb166; simp only [z1, z2, z3, z4, z5, z6, ne_eq, z7, z8, z9, z10, z11, z12] at hb166
    refine g_step rfl rfl rfl rfl (e_move (v := .lit _ _ _) rfl) trivial ?_
    refine g_step rfl rfl rfl rfl (e_move (v := .sc _) rfl) trivial ?_
    refine g_step rfl rfl rfl rfl (e_ixa rfl rfl (by kernel_rfl) (by kernel_rfl) (by simp only [List.length_map]; omega)) trivial ?_
    refine g_step rfl rfl rfl rfl (e_fa (pl := [(0, 1, false), (1, 1, false), (2, 1, false), (3, 1, false), (4, 1, false), (5, 1, false)]) rfl (by kernel_rfl) (by kernel_rfl) (by decide) rfl) trivial ?_
    refine g_step rfl rfl rfl rfl (e_load (v := .sc _) rfl (by kernel_rfl) (by kernel_rfl) (by kernel_rfl) (by simp only [List.length_map]; omega) (by decide) ((cell_map hx _).trans rfl)) trivial ?_
    refine g_step rfl rfl rfl rfl (e_move (v := .sc _) rfl) trivial ?_
    refine g_step rfl rfl rfl rfl (e_rem rfl rfl (by omega) (by omega)) trivial ?_
    refine g_step rfl rfl rfl rfl (e_ne rfl rfl) trivial ?_
    refine g_step rfl rfl rfl rfl (e_pickF (v := .sc _) rfl rfl) trivial ?_
    refine g_end (ds := [138, 139, 140, 141, 142, 143, 144, 145]) rfl rfl (hK165 _ ?_); clear hK165 K165
    refine pwp_seq_cond rfl fun K169 hK169 => ⟨fun hb170 => ?_, fun hb170 => ?_⟩
    ·have hb170R := hb170; simp only [z1, z2, z3, z4, z5, z6, ne_eq, z7, z8, z9, z10, z11, z12] at hb170
     refine pwp_seq_plain rfl fun K171 hK171 => ?_
     refine p_step rfl (e_assign (v := .sc _) rfl) trivial ?_
     refine p_end (hK171 _ ?_); clear hK171 K171
     refine pwp_ret ?_
     refine ret_seq ?_
     refine ret_block ?_
     refine ret_seq ?_
     refine ret_loop ?_
     refine ret_block ?_
     refine ret_seq ?_
     refine end1 (v := .sc _) rfl ?_
     (exfalso; omega)
    have hb170R := hb170; simp only [z1, z2, z3, z4, z5, z6, ne_eq, z7, z8, z9, z10, z11, z12] at hb170
    refine pwp_skip ?_
    refine seq_norm (hK169 _ ?_); clear hK169 K169
    refine pwp_plain rfl fun K172 hK172 => ?_
    refine p_step rfl (e_move (v := .sc _) rfl) trivial ?_
    refine p_step rfl (e_move (v := .lit _ _ _) rfl) trivial ?_
    refine p_step rfl (e_move (v := .sc _) rfl) trivial ?_
    refine p_step rfl (e_ixa rfl rfl (by kernel_rfl) (by kernel_rfl) (by simp only [List.length_map]; omega)) trivial ?_
    refine p_step rfl (e_fa (pl := [(0, 1, false), (1, 1, false), (2, 1, false), (3, 1, false), (4, 1, false), (5, 1, false)]) rfl (by kernel_rfl) (by kernel_rfl) (by decide) rfl) trivial ?_
    refine p_step rfl (e_load (v := .sc _) rfl (by kernel_rfl) (by kernel_rfl) (by kernel_rfl) (by simp only [List.length_map]; omega) (by decide) ((cell_map hx _).trans rfl)) trivial ?_
    refine p_step rfl (e_move (v := .sc _) rfl) trivial ?_
    refine p_step rfl (e_quo rfl rfl (by omega) (by omega) (by omega)) trivial ?_
    refine p_step rfl (e_add rfl rfl (by omega)) trivial ?_
    refine p_step rfl (e_assign (v := .sc _) rfl) trivial ?_
    refine p_end (hK172 _ ?_); clear hK172 K172
    refine block_norm ?_
    refine seq_norm (hK141 _ ?_); clear hK141 K141
    refine pwp_plain rfl fun K173 hK173 => ?_
    refine p_step rfl (e_move (v := .sc _) rfl) trivial ?_
    refine p_step rfl (e_add rfl rfl (by omega)) trivial ?_
    refine p_step rfl (e_assign (v := .sc _) rfl) trivial ?_
    refine p_end (hK173 _ ?_); clear hK173 K173
    exact loop_again ((k + 1, (s + (x.count / b)))) (by show _ < _; simp only; omega) ⟨rfl, rfl, rfl, rfl, trivial⟩ ⟨rfl, rfl, trivial⟩ (by exact ⟨by show _ + 1 ≤ _; omega, by (dsimp only; rw [hby]; exact hxs), by (dsimp only; rw [hby]; omega), hihj153_0⟩)
   have hb145R := hb145; simp only [z1, z2, z3, z4, z5, z6, ne_eq, z7, z8, z9, z10, z11, z12] at hb145
   refine pwp_skip ?_
   refine seq_norm (hK144 _ ?_); clear hK144 K144
   refine pwp_seq_seq ?_
   refine pwp_seq_plain rfl fun K174 hK174 => ?_
   refine p_step rfl (e_assign (v := .sc _) rfl) trivial ?_
   refine p_end (hK174 _ ?_); clear hK174 K174
   refine pwp_seq_block fun K175 hK175 => ?_
   refine pwp_loopR (α := Nat × Int) [0, 2, 4, 10, 13, 14] (fun (a176 : Nat × Int) => [(15, .int (a176.2)), (16, .int (a176.1))]) (fun (a176 : Nat × Int) (h : Heap) (_ : Nat → Nat) => ((a176.1) ≤ ss.length) ∧ (byW w ss x.part = byF w.part x.part (a176.2) (ss.drop (a176.1))) ∧ (h (4, 0) = some (.rows 2 [Want.enc w]))) (fun (a176 : Nat × Int) => ss.length - (a176.1)) (0, _) (by exact ⟨rfl, rfl, trivial⟩) (by exact ⟨by exact Nat.zero_le _, by first | (show byW w ss x.part = byF w.part x.part 1 ss; rw [byW, if_pos (by assumption)]) | (show byW w ss x.part = byF w.part x.part 0 ss; rw [byW, if_neg (by assumption)]), hihj137_0⟩) fun a176 r177 h178 c179 hj180 => ?_
   obtain ⟨j, b⟩ := a176
   obtain ⟨hj, hbi, hihj180_0⟩ := hj180
   try dsimp only at hj
   try dsimp only at hbi
   try dsimp only at hihj180_0
   show pwp _ _ (loopQ _ _ _) ⟨sets (mix _ _ _) [(15, .int b), (16, .int j)], _, _⟩
   refine pwp_seq_seq ?_
   refine pwp_seq_plain rfl fun K181 hK181 => ?_
   refine p_step rfl (e_move (v := .sc _) rfl) trivial ?_
   refine p_step rfl (e_move (v := .lit _ _ _) rfl) trivial ?_
   refine p_step rfl (e_len rfl (by kernel_rfl)) trivial ?_
   refine p_step rfl (e_lt rfl rfl) trivial ?_
   refine p_end (hK181 _ ?_); clear hK181 K181
   refine pwp_seq_cond rfl fun K182 hK182 => ⟨fun hb183 => ?_, fun hb183 => ?_⟩
   ·have hb183R := hb183; simp only [z1, z2, z3, z4, z5, z6, ne_eq, z7, z8, z9, z10, z11, z12] at hb183
    obtain ⟨y, hy, hdy, hty⟩ := get_lt (xs := ss) (i := j) (by omega)
    rw [hdy] at hbi
    refine pwp_skip ?_
    refine seq_norm (hK182 _ ?_); clear hK182 K182
    refine pwp_seq_block fun K184 hK184 => ?_
    refine pwp_seq_gops rfl fun K185 hK185 => ?_
    refine g_begin ?_
    refine g_step rfl rfl rfl rfl (e_move (v := .lit _ _ _) rfl) trivial ?_
    refine g_step rfl rfl rfl rfl (e_move (v := .sc _) rfl) trivial ?_
    refine g_step rfl rfl rfl rfl (e_ixa rfl rfl (by kernel_rfl) (by kernel_rfl) (by simp only [List.length_map]; omega)) trivial ?_
    refine g_step rfl rfl rfl rfl (e_fa (pl := [(0, 1, false), (1, 1, false), (2, 1, false)]) rfl (by kernel_rfl) (by kernel_rfl) (by decide) rfl) trivial ?_
    refine g_step rfl rfl rfl rfl (e_load (v := .sc _) rfl (by kernel_rfl) (by kernel_rfl) (by kernel_rfl) (by simp only [List.length_map]; omega) (by decide) ((cell_map hy _).trans rfl)) trivial ?_
    refine g_step rfl rfl rfl rfl (e_faP (pl := [(0, 1, false), (1, 1, false)]) rfl (by kernel_rfl) (by kernel_rfl) (by decide) rfl) trivial ?_
    refine g_step rfl rfl rfl rfl (e_loadH (v := .sc _) rfl hihj180_0 (by kernel_rfl) (by kernel_rfl) (by kernel_rfl) (by exact Nat.zero_lt_one) (by decide) rfl) trivial ?_
    refine g_step rfl rfl rfl rfl (e_seq rfl rfl) trivial ?_
    refine g_step rfl rfl rfl rfl (e_move (v := .sc _) rfl) trivial ?_
    refine g_cases (fun hb186 => ?_) (fun hb186 => ?_)
    ·have hb186R := hb186; simp only [z1, z2, z3, z4, z5, z6, ne_eq, z7, z8, z9, z10, z11, z12] at hb186
     refine g_step rfl rfl rfl rfl (e_move (v := .lit _ _ _) rfl) trivial ?_
     refine g_step rfl rfl rfl rfl (e_move (v := .sc _) rfl) trivial ?_
     refine g_step rfl rfl rfl rfl (e_ixa rfl rfl (by kernel_rfl) (by kernel_rfl) (by simp only [List.length_map]; omega)) trivial ?_
     refine g_step rfl rfl rfl rfl (e_fa (pl := [(0, 1, false), (1, 1, false), (2, 1, false)]) rfl (by kernel_rfl) (by kernel_rfl) (by decide) rfl) trivial ?_
     refine g_step rfl rfl rfl rfl (e_load (v := .sc _) rfl (by kernel_rfl) (by kernel_rfl) (by kernel_rfl) (by simp only [List.length_map]; omega) (by decide) ((cell_map hy _).trans rfl)) trivial ?_
     refine g_step rfl rfl rfl rfl (e_move (v := .lit _ _ _) rfl) trivial ?_
     refine g_step rfl rfl rfl rfl (e_move (v := .sc _) rfl) trivial ?_
     refine g_step rfl rfl rfl rfl (e_ixa rfl rfl (by kernel_rfl) (by kernel_rfl) (by simp only [List.length_map]; omega)) trivial ?_
     refine g_step rfl rfl rfl rfl (e_fa (pl := [(0, 1, false), (1, 1, false), (2, 1, false), (3, 1, false), (4, 1, false), (5, 1, false)]) rfl (by kernel_rfl) (by kernel_rfl) (by decide) rfl) trivial ?_
     refine g_step rfl rfl rfl rfl (e_load (v := .sc _) rfl (by kernel_rfl) (by kernel_rfl) (by kernel_rfl) (by simp only [List.length_map]; omega) (by decide) ((cell_map hx _).trans rfl)) trivial ?_
     refine g_step rfl rfl rfl rfl (e_seq rfl rfl) trivial ?_
     refine g_step rfl rfl rfl rfl (e_pickT (v := .sc _) rfl rfl) trivial ?_
     refine g_end (ds := [118, 119, 120, 121, 122, 123, 124, 125, 126, 127, 128]) (by kernel_rfl) rfl (hK185 _ ?_); clear hK185 K185
     refine pwp_cond rfl (fun hb187 => ?_) (fun hb187 => ?_)
     ·have hb187R := hb187; simp only [z1, z2, z3, z4, z5, z6, ne_eq, z7, z8, z9, z10, z11, z12] at hb187
      refine pwp_plain rfl fun K188 hK188 => ?_
      refine p_step rfl (e_move (v := .lit _ _ _) rfl) trivial ?_
      refine p_step rfl (e_move (v := .sc _) rfl) trivial ?_
      refine p_step rfl (e_ixa rfl rfl (by kernel_rfl) (by kernel_rfl) (by simp only [List.length_map]; omega)) trivial ?_
      refine p_step rfl (e_fa (pl := [(0, 1, false), (1, 1, false), (2, 1, false)]) rfl (by kernel_rfl) (by kernel_rfl) (by decide) rfl) trivial ?_
      refine p_step rfl (e_load (v := .sc _) rfl (by kernel_rfl) (by kernel_rfl) (by kernel_rfl) (by simp only [List.length_map]; omega) (by decide) ((cell_map hy _).trans rfl)) trivial ?_
      refine p_step rfl (e_assign (v := .sc _) rfl) trivial ?_
      refine p_end (hK188 _ ?_); clear hK188 K188
      refine block_norm ?_
      refine seq_norm (hK184 _ ?_); clear hK184 K184
      refine pwp_plain rfl fun K189 hK189 => ?_
      refine p_step rfl (e_move (v := .sc _) rfl) trivial ?_
      refine p_step rfl (e_add rfl rfl (by omega)) trivial ?_
      refine p_step rfl (e_assign (v := .sc _) rfl) trivial ?_
      refine p_end (hK189 _ ?_); clear hK189 K189
      exact loop_again ((j + 1, y.count)) (by show _ < _; simp only; omega) ⟨rfl, rfl, rfl, rfl, rfl, rfl, trivial⟩ ⟨rfl, rfl, trivial⟩ (by exact ⟨by show _ + 1 ≤ _; omega, by first | exact by_t hbi (by assumption) (by assumption) | exact by_f hbi (fun h9 => absurd h9.1 (by assumption)) | exact by_f hbi (fun h9 => absurd h9.2 (by assumption)), hihj180_0⟩)
     have hb187R := hb187; simp only [z1, z2, z3, z4, z5, z6, ne_eq, z7, z8, z9, z10, z11, z12] at hb187
     refine pwp_skip ?_
     refine block_norm ?_
     refine seq_norm (hK184 _ ?_); clear hK184 K184
     refine pwp_plain rfl fun K190 hK190 => ?_
     refine p_step rfl (e_move (v := .sc _) rfl) trivial ?_
     refine p_step rfl (e_add rfl rfl (by omega)) trivial ?_
     refine p_step rfl (e_assign (v := .sc _) rfl) trivial ?_
     refine p_end (hK190 _ ?_); clear hK190 K190
     exact loop_again ((j + 1, b)) (by show _ < _; simp only; omega) ⟨rfl, rfl, rfl, rfl, rfl, rfl, trivial⟩ ⟨rfl, rfl, trivial⟩ (by exact ⟨by show _ + 1 ≤ _; omega, by first | exact by_t hbi (by assumption) (by assumption) | exact by_f hbi (fun h9 => absurd h9.1 (by assumption)) | exact by_f hbi (fun h9 => absurd h9.2 (by assumption)), hihj180_0⟩)
    have hb186R := hb186; simp only [z1, z2, z3, z4, z5, z6, ne_eq, z7, z8, z9, z10, z11, z12] at hb186
    refine g_skip rfl rfl rfl ?_
    refine g_skip rfl rfl rfl ?_
    refine g_skip rfl rfl rfl ?_
    refine g_skip rfl rfl rfl ?_
    refine g_skip rfl rfl rfl ?_
    refine g_skip rfl rfl rfl ?_
    refine g_skip rfl rfl rfl ?_
    refine g_skip rfl rfl rfl ?_
    refine g_skip rfl rfl rfl ?_
    refine g_skip rfl rfl rfl ?_
    refine g_skip rfl rfl rfl ?_
    refine g_step rfl rfl rfl rfl (e_pickF (v := .sc _) rfl rfl) trivial ?_
    refine g_end (ds := [118, 119, 120, 121, 122, 123, 124, 125, 126, 127, 128]) (by kernel_rfl) rfl (hK185 _ ?_); clear hK185 K185
    refine pwp_cond (t := false) rfl nofun (fun _ => ?_)
    refine pwp_skip ?_
    refine block_norm ?_
    refine seq_norm (hK184 _ ?_); clear hK184 K184
    refine pwp_plain rfl fun K191 hK191 => ?_
    refine p_step rfl (e_move (v := .sc _) rfl) trivial ?_
    refine p_step rfl (e_add rfl rfl (by omega)) trivial ?_
    refine p_step rfl (e_assign (v := .sc _) rfl) trivial ?_
    refine p_end (hK191 _ ?_); clear hK191 K191
    exact loop_again ((j + 1, b)) (by show _ < _; simp only; omega) ⟨rfl, rfl, rfl, rfl, rfl, rfl, trivial⟩ ⟨rfl, rfl, trivial⟩ (by exact ⟨by show _ + 1 ≤ _; omega, by first | exact by_t hbi (by assumption) (by assumption) | exact by_f hbi (fun h9 => absurd h9.1 (by assumption)) | exact by_f hbi (fun h9 => absurd h9.2 (by assumption)), hihj180_0⟩)
   have hb183R := hb183; simp only [z1, z2, z3, z4, z5, z6, ne_eq, z7, z8, z9, z10, z11, z12] at hb183
   obtain rfl : j = ss.length := by omega
   rw [List.drop_length] at hbi; simp only [byF] at hbi
   have hby : b = byW w ss x.part := hbi.symm
   have hbq : x.count / b = x.count / byW w ss x.part := by rw [hby]
   have hbm : x.count % b = x.count % byW w ss x.part := by rw [hby]
   refine pwp_exit ?_
   refine exit_seq ?_
   clear hK182 K182
   refine exit_loop ?_
   refine exit_here ?_
   refine seq_norm (hK175 _ ?_); clear hK175 K175
   refine pwp_seq_seq ?_
   refine pwp_seq_gops rfl fun K192 hK192 => ?_
   refine g_begin ?_
   refine g_step rfl rfl rfl rfl (e_move (v := .sc _) rfl) trivial ?_
   refine g_step rfl rfl rfl rfl (e_lt rfl rfl) trivial ?_
   refine g_step rfl rfl rfl rfl (e_move (v := .sc _) rfl) trivial ?_
   refine g_cases (fun hb193 => ?_) (fun hb193 => ?_)
   ·have hb193R := hb193; simp only [z1, z2, z3, z4, z5, z6, ne_eq, z7, z8, z9, z10, z11, z12] at hb193
    refine g_skip rfl rfl rfl ?_
    refine g_skip rfl rfl rfl ?_
    refine g_skip rfl rfl rfl ?_
    refine g_skip rfl rfl rfl ?_
    refine g_skip rfl rfl rfl ?_
    refine g_skip rfl rfl rfl ?_
    refine g_skip rfl rfl rfl ?_
    refine g_skip rfl rfl rfl ?_
    refine g_step rfl rfl rfl rfl (e_pickT (v := .sc _) rfl rfl) trivial ?_
    refine g_end (ds := [138, 139, 140, 141, 142, 143, 144, 145]) rfl rfl (hK192 _ ?_); clear hK192 K192
    refine pwp_seq_cond (t := true) rfl fun K194 hK194 => ⟨fun _ => ?_, nofun⟩
    refine pwp_seq_plain rfl fun K195 hK195 => ?_
    refine p_step rfl (e_assign (v := .sc _) rfl) trivial ?_
    refine p_end (hK195 _ ?_); clear hK195 K195
    refine pwp_ret ?_
    refine ret_seq ?_
    refine ret_block ?_
    refine ret_seq ?_
    refine ret_loop ?_
    refine ret_block ?_
    refine ret_seq ?_
    refine end1 (v := .sc _) rfl ?_
    (exfalso; omega)
   have hb193R := hb193; simp only [z1, z2, z3, z4, z5, z6, ne_eq, z7, z8, z9, z10, z11, z12] at hb193
   refine g_step rfl rfl rfl rfl (e_move (v := .lit _ _ _) rfl) trivial ?_
   refine g_step rfl rfl rfl rfl (e_move (v := .sc _) rfl) trivial ?_
   refine g_step rfl rfl rfl rfl (e_ixa rfl rfl (by kernel_rfl) (by kernel_rfl) (by simp only [List.length_map]; omega)) trivial ?_
   refine g_step rfl rfl rfl rfl (e_fa (pl := [(0, 1, false), (1, 1, false), (2, 1, false), (3, 1, false), (4, 1, false), (5, 1, false)]) rfl (by kernel_rfl) (by kernel_rfl) (by decide) rfl) trivial ?_
   refine g_step rfl rfl rfl rfl (e_load (v := .sc _) rfl (by kernel_rfl) (by kernel_rfl) (by kernel_rfl) (by simp only [List.length_map]; omega) (by decide) ((cell_map hx _).trans rfl)) trivial ?_
   refine g_step rfl rfl rfl rfl (e_move (v := .sc _) rfl) trivial ?_
   refine g_step rfl rfl rfl rfl (e_rem rfl rfl (by omega) (by omega)) trivial ?_
   refine g_step rfl rfl rfl rfl (e_ne rfl rfl) trivial ?_
   refine g_step rfl rfl rfl rfl (e_pickF (v := .sc _) rfl rfl) trivial ?_
   refine g_end (ds := [138, 139, 140, 141, 142, 143, 144, 145]) rfl rfl (hK192 _ ?_); clear hK192 K192
   refine pwp_seq_cond rfl fun K196 hK196 => ⟨fun hb197 => ?_, fun hb197 => ?_⟩
   ·have hb197R := hb197; simp only [z1, z2, z3, z4, z5, z6, ne_eq, z7, z8, z9, z10, z11, z12] at hb197
    refine pwp_seq_plain rfl fun K198 hK198 => ?_
    refine p_step rfl (e_assign (v := .sc _) rfl) trivial ?_
    refine p_end (hK198 _ ?_); clear hK198 K198
    refine pwp_ret ?_
    refine ret_seq ?_
    refine ret_block ?_
    refine ret_seq ?_
    refine ret_loop ?_
    refine ret_block ?_
    refine ret_seq ?_
    refine end1 (v := .sc _) rfl ?_
    (exfalso; omega)
   have hb197R := hb197; simp only [z1, z2, z3, z4, z5, z6, ne_eq, z7, z8, z9, z10, z11, z12] at hb197
   refine pwp_skip ?_
   refine seq_norm (hK196 _ ?_); clear hK196 K196
   refine pwp_plain rfl fun K199 hK199 => ?_
   refine p_step rfl (e_move (v := .sc _) rfl) trivial ?_
   refine p_step rfl (e_move (v := .lit _ _ _) rfl) trivial ?_
   refine p_step rfl (e_move (v := .sc _) rfl) trivial ?_
   refine p_step rfl (e_ixa rfl rfl (by kernel_rfl) (by kernel_rfl) (by simp only [List.length_map]; omega)) trivial ?_
   refine p_step rfl (e_fa (pl := [(0, 1, false), (1, 1, false), (2, 1, false), (3, 1, false), (4, 1, false), (5, 1, false)]) rfl (by kernel_rfl) (by kernel_rfl) (by decide) rfl) trivial ?_
   refine p_step rfl (e_load (v := .sc _) rfl (by kernel_rfl) (by kernel_rfl) (by kernel_rfl) (by simp only [List.length_map]; omega) (by decide) ((cell_map hx _).trans rfl)) trivial ?_
   refine p_step rfl (e_move (v := .sc _) rfl) trivial ?_
   refine p_step rfl (e_quo rfl rfl (by omega) (by omega) (by omega)) trivial ?_
   refine p_step rfl (e_add rfl rfl (by omega)) trivial ?_
   refine p_step rfl (e_assign (v := .sc _) rfl) trivial ?_
   refine p_end (hK199 _ ?_); clear hK199 K199
   refine block_norm ?_
   refine seq_norm (hK141 _ ?_); clear hK141 K141
   refine pwp_plain rfl fun K200 hK200 => ?_
   refine p_step rfl (e_move (v := .sc _) rfl) trivial ?_
   refine p_step rfl (e_add rfl rfl (by omega)) trivial ?_
   refine p_step rfl (e_assign (v := .sc _) rfl) trivial ?_
   refine p_end (hK200 _ ?_); clear hK200 K200
   exact loop_again ((k + 1, (s + (x.count / b)))) (by show _ < _; simp only; omega) ⟨rfl, rfl, rfl, rfl, trivial⟩ ⟨rfl, rfl, trivial⟩ (by exact ⟨by show _ + 1 ≤ _; omega, by (dsimp only; rw [hby]; exact hxs), by (dsimp only; rw [hby]; omega), hihj180_0⟩)
  have hb140R := hb140; simp only [z1, z2, z3, z4, z5, z6, ne_eq, z7, z8, z9, z10, z11, z12] at hb140
  obtain rfl : k = (pickX xs (⟨1, [w], ss⟩ : Order)).2.1.length := by omega
  rw [List.drop_length] at hinv; simp only [sumB] at hinv
  refine pwp_exit ?_
  refine exit_seq ?_
  clear hK139 K139
  refine exit_loop ?_
  refine exit_here ?_
  refine seq_norm (hK132 _ ?_); clear hK132 K132
  refine pwp_seq_plain rfl fun K201 hK201 => ?_
  refine p_step rfl (e_move (v := .lit _ _ _) rfl) trivial ?_
  refine p_step rfl (e_move (v := .lit _ _ _) rfl) trivial ?_
  refine p_call rfl (.cons inn_lit (.cons inn_lit .nil)) (MovesS _ _ hsh.2.1 hsh.2.2 hpl hpz) ?_
  refine p_step rfl (e_move (v := .tup _) rfl) trivial ?_
  refine p_step rfl (e_ext (v := .lit _ _ _) rfl (by simp) rfl) trivial ?_
  refine p_step rfl (e_ext (v := .sc _) rfl (by simp) rfl) trivial ?_
  refine p_step rfl (e_ext (v := .sc _) rfl (by simp) rfl) trivial ?_
  refine p_step rfl (e_assign (v := .lit _ _ _) rfl) trivial ?_
  refine p_step rfl (e_assign (v := .sc _) rfl) trivial ?_
  refine p_step rfl (e_assign (v := .sc _) rfl) trivial ?_
  refine p_end (hK201 _ ?_); clear hK201 K201
  refine pwp_seq_plain rfl fun K202 hK202 => ?_
  refine p_step rfl (e_move (v := .lit _ _ _) rfl) trivial ?_
  refine p_call rfl (.cons inn_lit .nil) (NormalS _ hsh.2.1 hsh.2.2) ?_
  refine p_step rfl (e_move (v := .tup _) rfl) trivial ?_
  refine p_step rfl (e_ext (v := .lit _ _ _) rfl (by simp) rfl) trivial ?_
  refine p_step rfl (e_ext (v := .sc _) rfl (by simp) rfl) trivial ?_
  refine p_step rfl (e_assign (v := .lit _ _ _) rfl) trivial ?_
  refine p_step rfl (e_assign (v := .sc _) rfl) trivial ?_
  refine p_end (hK202 _ ?_); clear hK202 K202
  refine pwp_seq_gops rfl fun K203 hK203 => ?_
  refine g_begin ?_
  refine g_step rfl rfl rfl rfl (e_move (v := .sc _) rfl) trivial ?_
  refine g_step rfl rfl rfl rfl (e_faP (pl := [(0, 1, false), (1, 1, false)]) rfl (by kernel_rfl) (by kernel_rfl) (by decide) rfl) trivial ?_
  refine g_step rfl rfl rfl rfl (e_loadH (v := .sc _) rfl hihj137_0 (by kernel_rfl) (by kernel_rfl) (by kernel_rfl) (by exact Nat.zero_lt_one) (by decide) rfl) trivial ?_
  refine g_step rfl rfl rfl rfl (e_eq rfl rfl) trivial ?_
  refine g_step rfl rfl rfl rfl (e_move (v := .sc _) rfl) trivial ?_
  refine g_cases (fun hb204 => ?_) (fun hb204 => ?_)
  ·have hb204R := hb204; simp only [z1, z2, z3, z4, z5, z6, ne_eq, z7, z8, z9, z10, z11, z12] at hb204
   refine g_step rfl rfl rfl rfl (e_move (v := .sc _) rfl) trivial ?_
   refine g_step rfl rfl rfl rfl (e_eq rfl rfl) trivial ?_
   refine g_step rfl rfl rfl rfl (e_move (v := .sc _) rfl) trivial ?_
   refine g_cases (fun hb205 => ?_) (fun hb205 => ?_)
   ·have hb205R := hb205; simp only [z1, z2, z3, z4, z5, z6, ne_eq, z7, z8, z9, z10, z11, z12] at hb205
    refine g_skip rfl rfl rfl ?_
    refine g_skip rfl rfl rfl ?_
    refine g_step rfl rfl rfl rfl (e_pickT (v := .sc _) rfl rfl) trivial ?_
    refine g_step rfl rfl rfl rfl (e_move (v := .sc _) rfl) trivial ?_
    refine g_skip rfl rfl rfl ?_
    refine g_skip rfl rfl rfl ?_
    refine g_step rfl rfl rfl rfl (e_pickT (v := .sc _) rfl rfl) trivial ?_
    refine g_step rfl rfl rfl rfl (e_pickT (v := .sc _) rfl rfl) trivial ?_
    refine g_step rfl rfl rfl rfl (e_assign (v := .sc _) rfl) trivial ?_
    refine g_end (ds := [173, 174, 175, 176, 177, 178, 179, 180, 181, 182]) rfl rfl (hK203 _ ?_); clear hK203 K203
    refine pwp_ret ?_
    refine end1 (v := .sc _) rfl ?_
    exact out_b rfl
   have hb205R := hb205; simp only [z1, z2, z3, z4, z5, z6, ne_eq, z7, z8, z9, z10, z11, z12] at hb205
   refine g_step rfl rfl rfl rfl (e_move (v := .sc _) rfl) trivial ?_
   refine g_step rfl rfl rfl rfl (e_eq rfl rfl) trivial ?_
   refine g_step rfl rfl rfl rfl (e_pickF (v := .sc _) rfl rfl) trivial ?_
   refine g_step rfl rfl rfl rfl (e_move (v := .sc _) rfl) trivial ?_
   refine g_cases (fun hb206 => ?_) (fun hb206 => ?_)
   ·have hb206R := hb206; simp only [z1, z2, z3, z4, z5, z6, ne_eq, z7, z8, z9, z10, z11, z12] at hb206
    refine g_skip rfl rfl rfl ?_
    refine g_skip rfl rfl rfl ?_
    refine g_step rfl rfl rfl rfl (e_pickT (v := .sc _) rfl rfl) trivial ?_
    refine g_step rfl rfl rfl rfl (e_pickT (v := .sc _) rfl rfl) trivial ?_
    refine g_step rfl rfl rfl rfl (e_assign (v := .sc _) rfl) trivial ?_
    refine g_end (ds := [173, 174, 175, 176, 177, 178, 179, 180, 181, 182]) rfl rfl (hK203 _ ?_); clear hK203 K203
    refine pwp_ret ?_
    refine end1 (v := .sc _) rfl ?_
    exact out_b rfl
   have hb206R := hb206; simp only [z1, z2, z3, z4, z5, z6, ne_eq, z7, z8, z9, z10, z11, z12] at hb206
   refine g_step rfl rfl rfl rfl (e_move (v := .sc _) rfl) trivial ?_
   refine g_step rfl rfl rfl rfl (e_ne rfl rfl) trivial ?_
   refine g_step rfl rfl rfl rfl (e_pickF (v := .sc _) rfl rfl) trivial ?_
   refine g_step rfl rfl rfl rfl (e_pickT (v := .sc _) rfl rfl) trivial ?_
   refine g_step rfl rfl rfl rfl (e_assign (v := .sc _) rfl) trivial ?_
   refine g_end (ds := [173, 174, 175, 176, 177, 178, 179, 180, 181, 182]) rfl rfl (hK203 _ ?_); clear hK203 K203
   refine pwp_ret ?_
   refine end1 (v := .sc _) rfl ?_
   exact out_b (decide_eq_true (fun e => by have h8 := picked_moves hst hp4 hp5 e; omega))
  have hb204R := hb204; simp only [z1, z2, z3, z4, z5, z6, ne_eq, z7, z8, z9, z10, z11, z12] at hb204
  refine g_skip rfl rfl rfl ?_
  refine g_skip rfl rfl rfl ?_
  refine g_skip rfl rfl rfl ?_
  refine g_skip rfl rfl rfl ?_
  refine g_skip rfl rfl rfl ?_
  refine g_skip rfl rfl rfl ?_
  refine g_skip rfl rfl rfl ?_
  refine g_skip rfl rfl rfl ?_
  refine g_skip rfl rfl rfl ?_
  refine g_skip rfl rfl rfl ?_
  refine g_step rfl rfl rfl rfl (e_pickF (v := .sc _) rfl rfl) trivial ?_
  refine g_step rfl rfl rfl rfl (e_assign (v := .sc _) rfl) trivial ?_
  refine g_end (ds := [173, 174, 175, 176, 177, 178, 179, 180, 181, 182]) rfl rfl (hK203 _ ?_); clear hK203 K203
  refine pwp_ret ?_
  refine end1 (v := .sc _) rfl ?_
  (exfalso; omega)

end Go.Proofs.YtigdmkhdmbbfiaaDoor
