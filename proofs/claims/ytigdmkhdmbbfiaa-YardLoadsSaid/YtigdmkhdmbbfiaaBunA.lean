import Derived.Test.YtigdmkhdmbbfiaaWanA
/- Few wants; the length of a part. No conditions. -/
set_option linter.unusedSimpArgs false
set_option linter.unusedVariables false
set_option maxRecDepth 100000
namespace Go.Proofs.Ytigdmkhdmbbfiaa
open Go Go.Pv

/-! ### What is known of wants and parts without error -/
theorem wantsE_ok {lo : Int} : ∀ {l : List Want}, wantsE lo l = 0 → ∀ w ∈ l, isNm w.part = true ∧ lo ≤ w.count ∧ w.count ≤ 1000000
  | [], _, w, hw => by simp at hw
  | a :: l, h, w, hw => by
    unfold wantsE at h
    split at h
    · cases h
    · rename_i h1
      split at h
      · cases h
      · rename_i h2
        rcases List.mem_cons.1 hw with rfl | hw
        · exact ⟨by simpa using h1, by omega, by omega⟩
        · exact wantsE_ok h w hw
/-- Each value of the map is one of the parts, and right. -/
theorem aGet_mem {k : ByteArray} {p : Part} : ∀ {m : Ents}, aGet k m = some p → (k, p) ∈ m
  | [], h => by cases h
  | e :: m, h => by
    simp only [aGet] at h
    split at h
    · rename_i hk; obtain rfl := hk; cases h; exact List.mem_cons_self
    · exact List.mem_cons_of_mem _ (aGet_mem h)
theorem mem_aSet2 {k : ByteArray} {p : Part} {x : ByteArray × Part} : ∀ {m : Ents}, x ∈ aSet k p m → x = (k, p) ∨ x ∈ m
  | [], h => by simp [aSet] at h; exact .inl h
  | e :: m, h => by
    unfold aSet at h
    split at h
    · rcases List.mem_cons.1 h with h | h
      · exact .inl h
      · exact .inr (List.mem_cons_of_mem _ h)
    · rcases List.mem_cons.1 h with h | h
      · exact .inr (by rw [h]; exact List.mem_cons_self)
      · rcases mem_aSet2 h with h | h
        · exact .inl h
        · exact .inr (List.mem_cons_of_mem _ h)
theorem goP_mem (Q : Part → Prop) : ∀ {l : List Part} {m m' : Ents}, goP m l = (0, m') → (∀ p ∈ l, isNm p.name = true → ¬ badP p → Q p) → (∀ e ∈ m, e.1 = e.2.name ∧ Q e.2) → ∀ e ∈ m', e.1 = e.2.name ∧ Q e.2
  | [], m, m', h, _, hm => by simp only [goP, Prod.mk.injEq, true_and] at h; subst h; exact hm
  | p :: l, m, m', h, hl, hm => by
    unfold goP at h
    split at h
    · cases h
    · rename_i h1
      split at h
      · cases h
      · split at h
        · cases h
        · rename_i h3
          refine goP_mem Q h (fun q hq => hl q (List.mem_cons_of_mem _ hq)) fun e he => ?_
          rcases mem_aSet2 he with rfl | he
          · exact ⟨rfl, hl p List.mem_cons_self (by simpa using h1) h3⟩
          · exact hm e he
theorem goF_mem {m : Ents} {Q : Part → Prop} (hm : ∀ e ∈ m, Q e.2) : ∀ {l : List Want} {acc : List Part}, (∀ p ∈ acc, Q p) → ∀ p ∈ (goF m acc l).2, Q p
  | [], acc, h => h
  | w :: l, acc, h => by
    unfold goF
    split
    · rename_i hs
      refine goF_mem hm fun p hp => ?_
      rcases List.mem_append.1 hp with hp | hp
      · exact h p hp
      · obtain ⟨q, hq⟩ := Option.isSome_iff_exists.1 hs
        simp only [List.mem_singleton, hq, Option.getD_some] at hp
        subst hp
        exact hm _ (aGet_mem hq)
    · intro p hp; simp at hp
theorem wantR_ok {ws : List Want} {ps : List Part} (h : (wantR ws ps).1 = 0) : wantsE 0 ws = 0 ∧ partsE ps = 0 ∧ wantR ws ps = goF (partsM ps) [] ws := by
  unfold wantR at h ⊢
  split at h
  · cases h
  · rename_i h1
    split at h
    · rename_i h2; exact absurd h h2
    · rename_i h2
      split at h
      · rename_i h3; exact absurd h h3
      · rename_i h3
        exact ⟨by simpa using h2, by simpa using h3, by rw [if_neg h1, if_neg h2, if_neg h3]⟩
theorem partsE_go {ps : List Part} (h : partsE ps = 0) : goP [] ps = (0, partsM ps) := by
  unfold partsE at h
  split at h
  · cases h
  · rw [partsM]; exact Prod.ext h rfl
theorem wantR_parts {ws : List Want} {ps : List Part} (h : (wantR ws ps).1 = 0) : ∀ p ∈ (wantR ws ps).2, p ∈ ps ∧ 0 ≤ p.square ∧ p.square ≤ 20000000000000 ∧ 0 ≤ p.mass ∧ p.mass ≤ 1000000 := by
  obtain ⟨_, h2, h3⟩ := wantR_ok h
  rw [h3]
  refine goF_mem (fun e he => ?_) (by simp)
  have := goP_mem (fun p => p ∈ ps ∧ ¬ badP p) (partsE_go h2) (fun p hp _ hb => ⟨hp, hb⟩) (by simp) e he
  obtain ⟨_, hp, hb⟩ := this
  unfold badP at hb
  exact ⟨hp, by omega, by omega, by omega, by omega⟩
theorem wantR_counts {ws : List Want} {ps : List Part} (h : (wantR ws ps).1 = 0) : ∀ w ∈ ws, 0 ≤ w.count ∧ w.count ≤ 1000000 := fun w hw => (wantsE_ok (wantR_ok h).1 w hw).2
/-! ### Few wants and parts -/
def thinB (ws : List Want) (ps : List Part) : Bool := decide (ws.length ≤ 70 ∧ ps.length ≤ 70 ∧ (∀ x ∈ ws, x.part.size ≤ 30) ∧ ∀ x ∈ ps, x.name.size ≤ 30)
theorem thin_len {ws : List Want} {ps : List Part} (h : 70 < ws.length ∨ 70 < ps.length) : false = thinB ws ps := by
  symm; simp only [thinB, decide_eq_false_iff_not]; rintro ⟨h1, h2, _⟩; omega
theorem thin_w {ws : List Want} {ps : List Part} {k : Nat} {x : Want} (hx : ws[k]? = some x) (h : 30 < x.part.size) : false = thinB ws ps := by
  symm; simp only [thinB, decide_eq_false_iff_not]; rintro ⟨_, _, h3, _⟩; have := h3 x (List.mem_of_getElem? hx); omega
theorem thin_p {ws : List Want} {ps : List Part} {k : Nat} {x : Part} (hx : ps[k]? = some x) (h : 30 < x.name.size) : false = thinB ws ps := by
  symm; simp only [thinB, decide_eq_false_iff_not]; rintro ⟨_, _, _, h3⟩; have := h3 x (List.mem_of_getElem? hx); omega
theorem thin_ok {ws : List Want} {ps : List Part} (h1 : ws.length ≤ 70) (h2 : ps.length ≤ 70) (h3 : ∀ x ∈ ws.take ws.length, x.part.size ≤ 30) (h4 : ∀ x ∈ ps.take ps.length, x.name.size ≤ 30) : true = thinB ws ps := by
  rw [List.take_length] at h3 h4
  symm; simp only [thinB, decide_eq_true_eq]; exact ⟨h1, h2, h3, h4⟩
theorem thinB_iff {ws : List Want} {ps : List Part} (h : thinB ws ps = true) : ws.length ≤ 70 ∧ ps.length ≤ 70 ∧ (∀ x ∈ ws, x.part.size ≤ 30) ∧ ∀ x ∈ ps, x.name.size ≤ 30 := by simpa only [thinB, decide_eq_true_eq] using h
theorem all_snoc {α : Type} {Q : α → Prop} {l r : List α} {x : α} (he : r = l ++ [x]) (h : ∀ y ∈ l, Q y) (hx : Q x) : ∀ y ∈ r, Q y := by
  subst he
  intro y hy
  rcases List.mem_append.1 hy with hy | hy
  · exact h y hy
  · simp only [List.mem_singleton] at hy; subst hy; exact hx

theorem fr45 : (inFrame Try.f45.ntmps (Try.f45.body.getD .skip) && Try.f45.results.toList.all (resScope Try.f45.ntmps)) = true := by kernel_rfl
theorem thin (ws : List Want) (ps : List Part) : PCalls Try.prog 45 [.lit true 2 (ws.map Want.enc), .lit true 7 (ps.map Part.enc)] (.bool (thinB ws ps)) := by
  refine PCalls.of_code Try.func45 rfl rfl (by kernel_rfl) mixed fr45 (by show _ ≤ 41; simp) (.sc _) ?_
  refine pwp_seq_plain rfl fun K1 hK1 => ?_
  refine p_step rfl (e_assign (v := .sc _) rfl) trivial ?_
  refine p_end (hK1 _ ?_); clear hK1 K1
  refine pwp_seq_seq ?_
  refine pwp_seq_cutG [0, 1] [(14, .bool ((decide ((70) < ((((ws).map Want.enc).length : Nat) : Int))) || (decide ((70) < ((((ps).map Part.enc).length : Nat) : Int)))))] (fun K2 hK2 => ?_) (fun r3 => ?_)
  ·skip
   refine pwp_gops rfl fun K4 hK4 => ?_
   refine g_begin ?_
   refine g_step rfl rfl rfl rfl (e_move (v := .lit _ _ _) rfl) trivial ?_
   refine g_step rfl rfl rfl rfl (e_len rfl (by kernel_rfl)) trivial ?_
   refine g_step rfl rfl rfl rfl (e_gt rfl rfl) trivial ?_
   refine g_step rfl rfl rfl rfl (e_move (v := .sc _) rfl) trivial ?_
   refine g_cases (fun hb5 => ?_) (fun hb5 => ?_)
   ·have hb5R := hb5; try simp only [z1, z2, z3, z4, z5, z6, ne_eq, z7, z8, z9, z10, z11, z12] at hb5
    refine g_skip rfl rfl rfl ?_
    refine g_skip rfl rfl rfl ?_
    refine g_skip rfl rfl rfl ?_
    refine g_step rfl rfl rfl rfl (e_pickT (v := .sc _) rfl rfl) trivial ?_
    refine g_end (ds := [11, 12, 13]) rfl rfl (hK4 _ ?_); clear hK4 K4
    exact seq_norm (hK2 _ ⟨rfl, rfl, trivial⟩ ⟨(congrArg PV.bool (show (true : Bool) = ((decide ((70) < ((((ws).map Want.enc).length : Nat) : Int))) || (decide ((70) < ((((ps).map Part.enc).length : Nat) : Int)))) by first | rfl | ((try rw [hb5R]) <;> (first | rfl | (simp only [Bool.and_true, Bool.and_false, Bool.true_and, Bool.false_and, Bool.or_true, Bool.or_false, Bool.true_or, Bool.false_or, Bool.not_true, Bool.not_false, if_true, if_false, Bool.false_eq_true, reduceIte] <;> rfl))) | (simp only [hb5R, Bool.and_true, Bool.and_false, Bool.true_and, Bool.false_and, Bool.or_true, Bool.or_false, Bool.true_or, Bool.false_or, Bool.not_true, Bool.not_false, if_true, if_false, Bool.false_eq_true, reduceIte] <;> rfl))), trivial⟩)
   ·have hb5R := hb5; try simp only [z1, z2, z3, z4, z5, z6, ne_eq, z7, z8, z9, z10, z11, z12] at hb5
    refine g_step rfl rfl rfl rfl (e_move (v := .lit _ _ _) rfl) trivial ?_
    refine g_step rfl rfl rfl rfl (e_len rfl (by kernel_rfl)) trivial ?_
    refine g_step rfl rfl rfl rfl (e_gt rfl rfl) trivial ?_
    refine g_step rfl rfl rfl rfl (e_pickF (v := .sc _) rfl rfl) trivial ?_
    refine g_end (ds := [11, 12, 13]) rfl rfl (hK4 _ ?_); clear hK4 K4
    exact seq_norm (hK2 _ ⟨rfl, rfl, trivial⟩ ⟨(congrArg PV.bool (show ((decide ((70) < ((((ps).map Part.enc).length : Nat) : Int))) : Bool) = ((decide ((70) < ((((ws).map Want.enc).length : Nat) : Int))) || (decide ((70) < ((((ps).map Part.enc).length : Nat) : Int)))) by first | rfl | ((try rw [hb5R]) <;> (first | rfl | (simp only [Bool.and_true, Bool.and_false, Bool.true_and, Bool.false_and, Bool.or_true, Bool.or_false, Bool.true_or, Bool.false_or, Bool.not_true, Bool.not_false, if_true, if_false, Bool.false_eq_true, reduceIte] <;> rfl))) | (simp only [hb5R, Bool.and_true, Bool.and_false, Bool.true_and, Bool.false_and, Bool.or_true, Bool.or_false, Bool.true_or, Bool.false_or, Bool.not_true, Bool.not_false, if_true, if_false, Bool.false_eq_true, reduceIte] <;> rfl))), trivial⟩)
  ·skip
   refine pwp_seq_cond rfl fun K6 hK6 => ⟨fun hb7 => ?_, fun hb7 => ?_⟩
   ·have hb7R := hb7; try simp only [z1, z2, z3, z4, z5, z6, ne_eq, z7, z8, z9, z10, z11, z12] at hb7
    refine pwp_seq_plain rfl fun K8 hK8 => ?_
    refine p_step rfl (e_assign (v := .sc _) rfl) trivial ?_
    refine p_end (hK8 _ ?_); clear hK8 K8
    refine pwp_ret ?_
    refine ret_seq ?_
    refine end1 (v := .sc _) rfl ?_
    first
      | exact out_b (thin_len (by omega))
      | exact out_b (thin_w hx (by omega))
      | exact out_b (thin_p hy (by omega))
      | exact out_b (thin_ok (by omega) (by omega) hq hr)
   ·have hb7R := hb7; try simp only [z1, z2, z3, z4, z5, z6, ne_eq, z7, z8, z9, z10, z11, z12] at hb7
    refine pwp_skip ?_
    refine seq_norm (hK6 _ ?_); clear hK6 K6
    refine pwp_seq_seq ?_
    refine pwp_seq_plain rfl fun K9 hK9 => ?_
    refine p_step rfl (e_assign (v := .sc _) rfl) trivial ?_
    refine p_end (hK9 _ ?_); clear hK9 K9
    refine pwp_seq_block fun K10 hK10 => ?_
    refine pwp_loopR (α := Nat) [0, 1] (fun (k : Nat) => [(5, .int (k))]) (fun (k : Nat) (h : Heap) (_ : Nat → Nat) => ((k) ≤ ws.length) ∧ (∀ x ∈ ws.take (k), x.part.size ≤ 30)) (fun (k : Nat) => ws.length - (k)) (0) (by exact ⟨rfl, trivial⟩) (by exact ⟨by exact Nat.zero_le _, by simp⟩) fun k r11 h12 c13 hj14 => ?_
    obtain ⟨hk, hq⟩ := hj14
    try dsimp only at hk
    try dsimp only at hq
    show pwp _ _ (loopQ _ _ _) ⟨sets (mix _ _ _) [(5, .int k)], _, _⟩
    refine pwp_seq_seq ?_
    refine pwp_seq_plain rfl fun K15 hK15 => ?_
    refine p_step rfl (e_move (v := .sc _) rfl) trivial ?_
    refine p_step rfl (e_move (v := .lit _ _ _) rfl) trivial ?_
    refine p_step rfl (e_len rfl (by kernel_rfl)) trivial ?_
    refine p_step rfl (e_lt rfl rfl) trivial ?_
    refine p_end (hK15 _ ?_); clear hK15 K15
    refine pwp_seq_cond rfl fun K16 hK16 => ⟨fun hb17 => ?_, fun hb17 => ?_⟩
    ·have hb17R := hb17; try simp only [z1, z2, z3, z4, z5, z6, ne_eq, z7, z8, z9, z10, z11, z12] at hb17
     obtain ⟨x, hx, hd, ht⟩ := get_lt (xs := ws) (i := k) (by omega)
     refine pwp_skip ?_
     refine seq_norm (hK16 _ ?_); clear hK16 K16
     refine pwp_seq_block fun K18 hK18 => ?_
     refine pwp_seq_plain rfl fun K19 hK19 => ?_
     refine p_step rfl (e_move (v := .lit _ _ _) rfl) trivial ?_
     refine p_step rfl (e_move (v := .sc _) rfl) trivial ?_
     refine p_step rfl (e_ixa rfl rfl (by kernel_rfl) (by kernel_rfl) (by simp only [List.length_map]; omega)) trivial ?_
     refine p_step rfl (e_fa (pl := [(0, 1, false), (1, 1, false)]) rfl (by kernel_rfl) (by kernel_rfl) (by decide) rfl) trivial ?_
     refine p_step rfl (e_load (v := .sc _) rfl (by kernel_rfl) (by kernel_rfl) (by kernel_rfl) (by simp only [List.length_map]; omega) (by decide) ((cell_map hx _).trans rfl)) trivial ?_
     refine p_step rfl (e_lenS rfl (by kernel_rfl)) trivial ?_
     refine p_step rfl (e_gt rfl rfl) trivial ?_
     refine p_end (hK19 _ ?_); clear hK19 K19
     refine pwp_cond rfl (fun hb20 => ?_) (fun hb20 => ?_)
     ·have hb20R := hb20; try simp only [z1, z2, z3, z4, z5, z6, ne_eq, z7, z8, z9, z10, z11, z12] at hb20
      refine pwp_seq_plain rfl fun K21 hK21 => ?_
      refine p_step rfl (e_assign (v := .sc _) rfl) trivial ?_
      refine p_end (hK21 _ ?_); clear hK21 K21
      refine pwp_ret ?_
      refine ret_block ?_
      refine ret_seq ?_
      refine ret_loop ?_
      refine ret_block ?_
      refine ret_seq ?_
      refine end1 (v := .sc _) rfl ?_
      first
        | exact out_b (thin_len (by omega))
        | exact out_b (thin_w hx (by omega))
        | exact out_b (thin_p hy (by omega))
        | exact out_b (thin_ok (by omega) (by omega) hq hr)
     ·have hb20R := hb20; try simp only [z1, z2, z3, z4, z5, z6, ne_eq, z7, z8, z9, z10, z11, z12] at hb20
      refine pwp_skip ?_
      refine block_norm ?_
      refine seq_norm (hK18 _ ?_); clear hK18 K18
      refine pwp_plain rfl fun K22 hK22 => ?_
      refine p_step rfl (e_move (v := .sc _) rfl) trivial ?_
      refine p_step rfl (e_add rfl rfl (by omega)) trivial ?_
      refine p_step rfl (e_assign (v := .sc _) rfl) trivial ?_
      refine p_end (hK22 _ ?_); clear hK22 K22
      exact loop_again (k + 1) (by show _ < _; omega) ⟨rfl, rfl, trivial⟩ ⟨rfl, trivial⟩ (by exact ⟨by show _ + 1 ≤ _; omega, by exact all_snoc ht hq (by omega)⟩)
    ·have hb17R := hb17; try simp only [z1, z2, z3, z4, z5, z6, ne_eq, z7, z8, z9, z10, z11, z12] at hb17
     obtain rfl : k = ws.length := by omega
     refine pwp_exit ?_
     refine exit_seq ?_
     clear hK16 K16
     refine exit_loop ?_
     refine exit_here ?_
     refine seq_norm (hK10 _ ?_); clear hK10 K10
     refine pwp_seq_seq ?_
     refine pwp_seq_plain rfl fun K23 hK23 => ?_
     refine p_step rfl (e_assign (v := .sc _) rfl) trivial ?_
     refine p_end (hK23 _ ?_); clear hK23 K23
     refine pwp_seq_block fun K24 hK24 => ?_
     refine pwp_loopR (α := Nat) [1] (fun (j : Nat) => [(6, .int (j))]) (fun (j : Nat) (h : Heap) (_ : Nat → Nat) => ((j) ≤ ps.length) ∧ (∀ x ∈ ps.take (j), x.name.size ≤ 30)) (fun (j : Nat) => ps.length - (j)) (0) (by exact ⟨rfl, trivial⟩) (by exact ⟨by exact Nat.zero_le _, by simp⟩) fun j r25 h26 c27 hj28 => ?_
     obtain ⟨hj, hr⟩ := hj28
     try dsimp only at hj
     try dsimp only at hr
     show pwp _ _ (loopQ _ _ _) ⟨sets (mix _ _ _) [(6, .int j)], _, _⟩
     refine pwp_seq_seq ?_
     refine pwp_seq_plain rfl fun K29 hK29 => ?_
     refine p_step rfl (e_move (v := .sc _) rfl) trivial ?_
     refine p_step rfl (e_move (v := .lit _ _ _) rfl) trivial ?_
     refine p_step rfl (e_len rfl (by kernel_rfl)) trivial ?_
     refine p_step rfl (e_lt rfl rfl) trivial ?_
     refine p_end (hK29 _ ?_); clear hK29 K29
     refine pwp_seq_cond rfl fun K30 hK30 => ⟨fun hb31 => ?_, fun hb31 => ?_⟩
     ·have hb31R := hb31; try simp only [z1, z2, z3, z4, z5, z6, ne_eq, z7, z8, z9, z10, z11, z12] at hb31
      obtain ⟨y, hy, hdy, hty⟩ := get_lt (xs := ps) (i := j) (by omega)
      refine pwp_skip ?_
      refine seq_norm (hK30 _ ?_); clear hK30 K30
      refine pwp_seq_block fun K32 hK32 => ?_
      refine pwp_seq_plain rfl fun K33 hK33 => ?_
      refine p_step rfl (e_move (v := .lit _ _ _) rfl) trivial ?_
      refine p_step rfl (e_move (v := .sc _) rfl) trivial ?_
      refine p_step rfl (e_ixa rfl rfl (by kernel_rfl) (by kernel_rfl) (by simp only [List.length_map]; omega)) trivial ?_
      refine p_step rfl (e_fa (pl := [(0, 1, false), (1, 1, false), (2, 1, false), (3, 1, false), (4, 1, false), (5, 2, true)]) rfl (by kernel_rfl) (by kernel_rfl) (by decide) rfl) trivial ?_
      refine p_step rfl (e_load (v := .sc _) rfl (by kernel_rfl) (by kernel_rfl) (by kernel_rfl) (by simp only [List.length_map]; omega) (by decide) ((cell_map hy _).trans rfl)) trivial ?_
      refine p_step rfl (e_lenS rfl (by kernel_rfl)) trivial ?_
      refine p_step rfl (e_gt rfl rfl) trivial ?_
      refine p_end (hK33 _ ?_); clear hK33 K33
      refine pwp_cond rfl (fun hb34 => ?_) (fun hb34 => ?_)
      ·have hb34R := hb34; try simp only [z1, z2, z3, z4, z5, z6, ne_eq, z7, z8, z9, z10, z11, z12] at hb34
       refine pwp_seq_plain rfl fun K35 hK35 => ?_
       refine p_step rfl (e_assign (v := .sc _) rfl) trivial ?_
       refine p_end (hK35 _ ?_); clear hK35 K35
       refine pwp_ret ?_
       refine ret_block ?_
       refine ret_seq ?_
       refine ret_loop ?_
       refine ret_block ?_
       refine ret_seq ?_
       refine end1 (v := .sc _) rfl ?_
       first
         | exact out_b (thin_len (by omega))
         | exact out_b (thin_w hx (by omega))
         | exact out_b (thin_p hy (by omega))
         | exact out_b (thin_ok (by omega) (by omega) hq hr)
      ·have hb34R := hb34; try simp only [z1, z2, z3, z4, z5, z6, ne_eq, z7, z8, z9, z10, z11, z12] at hb34
       refine pwp_skip ?_
       refine block_norm ?_
       refine seq_norm (hK32 _ ?_); clear hK32 K32
       refine pwp_plain rfl fun K36 hK36 => ?_
       refine p_step rfl (e_move (v := .sc _) rfl) trivial ?_
       refine p_step rfl (e_add rfl rfl (by omega)) trivial ?_
       refine p_step rfl (e_assign (v := .sc _) rfl) trivial ?_
       refine p_end (hK36 _ ?_); clear hK36 K36
       exact loop_again (j + 1) (by show _ < _; omega) ⟨rfl, trivial⟩ ⟨rfl, trivial⟩ (by exact ⟨by show _ + 1 ≤ _; omega, by exact all_snoc hty hr (by omega)⟩)
     ·have hb31R := hb31; try simp only [z1, z2, z3, z4, z5, z6, ne_eq, z7, z8, z9, z10, z11, z12] at hb31
      obtain rfl : j = ps.length := by omega
      refine pwp_exit ?_
      refine exit_seq ?_
      clear hK30 K30
      refine exit_loop ?_
      refine exit_here ?_
      refine seq_norm (hK24 _ ?_); clear hK24 K24
      refine pwp_seq_plain rfl fun K37 hK37 => ?_
      refine p_step rfl (e_assign (v := .sc _) rfl) trivial ?_
      refine p_end (hK37 _ ?_); clear hK37 K37
      refine pwp_ret ?_
      refine end1 (v := .sc _) rfl ?_
      first
        | exact out_b (thin_len (by omega))
        | exact out_b (thin_w hx (by omega))
        | exact out_b (thin_p hy (by omega))
        | exact out_b (thin_ok (by omega) (by omega) hq hr)


/-- The least number whose square is at least q. -/
def upN (q : Int) : Nat → Nat → Nat
  | 0, n => n
  | f + 1, n => if q ≤ (n : Int) * n then n else upN q f (n + 1)
def lenY (q : Int) : Int := (upN q q.toNat 0 : Nat)
theorem mul_mono {a b : Int} (h0 : 0 ≤ a) (h : a ≤ b) : a * a ≤ b * b := Int.mul_le_mul h h h0 (by omega)
theorem upN_spec {q : Int} : ∀ (f n : Nat), q ≤ ((n + f : Nat) : Int) * ((n + f : Nat) : Int) → (∀ m : Nat, m < n → (m : Int) * m < q) → q ≤ (upN q f n : Int) * (upN q f n : Int) ∧ ∀ m : Nat, m < upN q f n → (m : Int) * m < q
  | 0, n, h, h2 => ⟨h, h2⟩
  | f + 1, n, h, h2 => by
    unfold upN
    split
    · rename_i h3; exact ⟨h3, h2⟩
    · rename_i h3
      refine upN_spec f (n + 1) (by rw [show n + 1 + f = n + (f + 1) by omega]; exact h) fun m hm => ?_
      rcases Nat.lt_succ_iff_lt_or_eq.1 hm with h4 | rfl
      · exact h2 m h4
      · omega
theorem lenY_spec (q : Int) : q ≤ lenY q * lenY q ∧ ∀ m : Nat, (m : Int) < lenY q → (m : Int) * m < q := by
  have h := upN_spec (q := q) q.toNat 0 (by
    rw [Nat.zero_add]
    by_cases h : q ≤ 0
    · have := Int.mul_nonneg (a := (q.toNat : Int)) (b := (q.toNat : Int)) (by omega) (by omega); omega
    · have h1 : (q.toNat : Int) = q := by omega
      rw [h1]
      have := Int.mul_le_mul_of_nonneg_right (a := 1) (b := q) (c := q) (by omega) (by omega)
      omega) (fun m hm => absurd hm (Nat.not_lt_zero m))
  exact ⟨h.1, fun m hm => h.2 m (by unfold lenY at hm; omega)⟩
theorem lenY_nn (q : Int) : 0 ≤ lenY q := Int.natCast_nonneg _
theorem lenY_eq {q z : Int} (h0 : 0 ≤ z) (h1 : q ≤ z * z) (h2 : ∀ m : Nat, (m : Int) < z → (m : Int) * m < q) : z = lenY q := by
  obtain ⟨h3, h4⟩ := lenY_spec q
  have h5 := lenY_nn q
  rcases Int.lt_trichotomy z (lenY q) with h | h | h
  · have := h4 z.toNat (by omega)
    rw [show (z.toNat : Int) = z by omega] at this; omega
  · exact h
  · have := h2 (lenY q).toNat (by omega)
    rw [show ((lenY q).toNat : Int) = lenY q by omega] at this; omega
theorem lenY_le {q : Int} (h : q ≤ 20000000000000) : lenY q ≤ 4472136 := by
  have h5 := lenY_nn q
  by_cases h1 : lenY q ≤ 4472136
  · exact h1
  · have := (lenY_spec q).2 4472136 (by omega)
    simp only [Int.reduceMul, Int.cast_ofNat_Int] at this; omega
theorem sq_lt {h q : Int} (h0 : 0 ≤ h) (h1 : h * h < q) (h2 : q ≤ 20000000000000) : h ≤ 4472136 := by
  by_cases h3 : h ≤ 4472136
  · exact h3
  · have := mul_mono (a := 4472136) (b := h) (by omega) (by omega)
    simp only [Int.reduceMul] at this; omega
theorem sq_le {h : Int} (h0 : 0 ≤ h) (h1 : h ≤ 10000000) : 0 ≤ h * h ∧ h * h ≤ 100000000000000 := by
  have a := mul_mono h0 h1
  have b := Int.mul_nonneg h0 h0
  simp only [Int.reduceMul] at a
  exact ⟨b, a⟩
theorem all_below {q n m : Int} (h : ∀ i : Nat, (i : Int) < n → (i : Int) * i < q) (hm : 0 ≤ m) (h2 : m * m < q) : ∀ i : Nat, (i : Int) < m + 1 → (i : Int) * i < q := fun i hi => by
  have := mul_mono (a := (i : Int)) (b := m) (by omega) (by omega)
  omega

theorem fr83 : (inFrame Try.f83.ntmps (Try.f83.body.getD .skip) && Try.f83.results.toList.all (resScope Try.f83.ntmps)) = true := by kernel_rfl
theorem length (q : Int) (hq : 0 ≤ q ∧ q ≤ 20000000000000) : PCalls Try.prog 83 [.int q] (.int (lenY q)) := by
  refine PCalls.of_code Try.func83 rfl rfl (by kernel_rfl) mixed fr83 (by show _ ≤ 29; simp) (.sc _) ?_
  refine pwp_seq_plain rfl fun K1 hK1 => ?_
  refine p_step rfl (e_assign (v := .sc _) rfl) trivial ?_
  refine p_end (hK1 _ ?_); clear hK1 K1
  refine pwp_seq_plain rfl fun K2 hK2 => ?_
  refine p_step rfl (e_assign (v := .sc _) rfl) trivial ?_
  refine p_step rfl (e_assign (v := .sc _) rfl) trivial ?_
  refine p_end (hK2 _ ?_); clear hK2 K2
  refine pwp_seq_block fun K3 hK3 => ?_
  refine pwp_loopR (α := Int) [0, 3] (fun (high : Int) => [(4, .int (high))]) (fun (high : Int) (h : Heap) (_ : Nat → Nat) => (1 ≤ (high) ∧ (high) ≤ 10000000)) (fun (high : Int) => (10000000 - (high)).toNat) (1) (by exact ⟨rfl, trivial⟩) (by exact by omega) fun high r4 h5 c6 hj7 => ?_
  have hh := hj7; clear hj7
  try dsimp only at hh
  show pwp _ _ (loopQ _ _ _) ⟨sets (mix _ _ _) [(4, .int high)], _, _⟩
  refine pwp_seq_seq ?_
  refine pwp_seq_plain rfl fun K8 hK8 => ?_
  refine p_step rfl (e_move (v := .sc _) rfl) trivial ?_
  refine p_step rfl (e_move (v := .sc _) rfl) trivial ?_
  refine p_step rfl (e_mul rfl rfl (by (first | omega | (have := sq_le (h := high) (by omega) (by omega); omega)))) trivial ?_
  refine p_step rfl (e_move (v := .sc _) rfl) trivial ?_
  refine p_step rfl (e_lt rfl rfl) trivial ?_
  refine p_end (hK8 _ ?_); clear hK8 K8
  refine pwp_seq_cond rfl fun K9 hK9 => ⟨fun hb10 => ?_, fun hb10 => ?_⟩
  ·have hb10R := hb10; try simp only [z1, z2, z3, z4, z5, z6, ne_eq, z7, z8, z9, z10, z11, z12] at hb10
   have hsq := sq_lt (by omega) hb10 hq.2
   refine pwp_skip ?_
   refine seq_norm (hK9 _ ?_); clear hK9 K9
   refine pwp_block ?_
   refine pwp_plain rfl fun K11 hK11 => ?_
   refine p_step rfl (e_move (v := .sc _) rfl) trivial ?_
   refine p_step rfl (e_mul rfl rfl (by (first | omega | (have := sq_le (h := high) (by omega) (by omega); omega)))) trivial ?_
   refine p_step rfl (e_assign (v := .sc _) rfl) trivial ?_
   refine p_end (hK11 _ ?_); clear hK11 K11
   refine block_norm ?_
   exact loop_again (high * 2) (by show _ < _; omega) ⟨rfl, rfl, trivial⟩ ⟨rfl, trivial⟩ (by exact by show 1 ≤ high * 2 ∧ high * 2 ≤ 10000000; omega)
  ·have hb10R := hb10; try simp only [z1, z2, z3, z4, z5, z6, ne_eq, z7, z8, z9, z10, z11, z12] at hb10
   have hge : q ≤ high * high := by omega
   refine pwp_exit ?_
   refine exit_seq ?_
   clear hK9 K9
   refine exit_loop ?_
   refine exit_here ?_
   refine seq_norm (hK3 _ ?_); clear hK3 K3
   refine pwp_seq_block fun K12 hK12 => ?_
   refine pwp_loopR (α := Int × Int) [0] (fun (a13 : Int × Int) => [(3, .int (a13.1)), (4, .int (a13.2))]) (fun (a13 : Int × Int) (h : Heap) (_ : Nat → Nat) => (0 ≤ (a13.1) ∧ (a13.1) ≤ (a13.2) ∧ (a13.2) ≤ 10000000) ∧ (q ≤ (a13.2) * (a13.2)) ∧ (∀ i : Nat, (i : Int) < (a13.1) → (i : Int) * i < q)) (fun (a13 : Int × Int) => ((a13.2) - (a13.1)).toNat) (0, high) (by exact ⟨rfl, rfl, trivial⟩) (by exact ⟨by omega, by assumption, by exact fun i hi => absurd hi (by omega)⟩) fun a13 r14 h15 c16 hj17 => ?_
   obtain ⟨n, high⟩ := a13
   obtain ⟨hh, hge, hbl⟩ := hj17
   try dsimp only at hh
   try dsimp only at hge
   try dsimp only at hbl
   show pwp _ _ (loopQ _ _ _) ⟨sets (mix _ _ _) [(3, .int n), (4, .int high)], _, _⟩
   refine pwp_seq_seq ?_
   refine pwp_seq_plain rfl fun K18 hK18 => ?_
   refine p_step rfl (e_move (v := .sc _) rfl) trivial ?_
   refine p_step rfl (e_move (v := .sc _) rfl) trivial ?_
   refine p_step rfl (e_lt rfl rfl) trivial ?_
   refine p_end (hK18 _ ?_); clear hK18 K18
   refine pwp_seq_cond rfl fun K19 hK19 => ⟨fun hb20 => ?_, fun hb20 => ?_⟩
   ·have hb20R := hb20; try simp only [z1, z2, z3, z4, z5, z6, ne_eq, z7, z8, z9, z10, z11, z12] at hb20
    have hmm := sq_le (h := (n + high) / (2)) (by omega) (by omega)
    refine pwp_skip ?_
    refine seq_norm (hK19 _ ?_); clear hK19 K19
    refine pwp_block ?_
    refine pwp_seq_plain rfl fun K21 hK21 => ?_
    refine p_step rfl (e_move (v := .sc _) rfl) trivial ?_
    refine p_step rfl (e_move (v := .sc _) rfl) trivial ?_
    refine p_step rfl (e_add rfl rfl (by (first | omega | (have := sq_le (h := high) (by omega) (by omega); omega)))) trivial ?_
    refine p_step rfl (e_quo rfl rfl (by omega) (by omega) (by omega)) trivial ?_
    refine p_step rfl (e_assign (v := .sc _) rfl) trivial ?_
    refine p_end (hK21 _ ?_); clear hK21 K21
    refine pwp_seq_plain rfl fun K22 hK22 => ?_
    refine p_step rfl (e_move (v := .sc _) rfl) trivial ?_
    refine p_step rfl (e_move (v := .sc _) rfl) trivial ?_
    refine p_step rfl (e_mul rfl rfl (by (first | omega | (have := sq_le (h := high) (by omega) (by omega); omega)))) trivial ?_
    refine p_step rfl (e_move (v := .sc _) rfl) trivial ?_
    refine p_step rfl (e_ge rfl rfl) trivial ?_
    refine p_end (hK22 _ ?_); clear hK22 K22
    refine pwp_cond rfl (fun hb23 => ?_) (fun hb23 => ?_)
    ·have hb23R := hb23; try simp only [z1, z2, z3, z4, z5, z6, ne_eq, z7, z8, z9, z10, z11, z12] at hb23
     refine pwp_plain rfl fun K24 hK24 => ?_
     refine p_step rfl (e_move (v := .sc _) rfl) trivial ?_
     refine p_step rfl (e_assign (v := .sc _) rfl) trivial ?_
     refine p_end (hK24 _ ?_); clear hK24 K24
     refine block_norm ?_
     exact loop_again ((n, ((n + high) / (2)))) (by show _ < _; simp only; omega) ⟨rfl, trivial⟩ ⟨rfl, rfl, trivial⟩ (by exact ⟨by show 0 ≤ _ ∧ _ ≤ _ ∧ _ ≤ _; omega, by first | assumption | omega, by first | assumption | exact all_below hbl (by omega) (by omega)⟩)
    ·have hb23R := hb23; try simp only [z1, z2, z3, z4, z5, z6, ne_eq, z7, z8, z9, z10, z11, z12] at hb23
     refine pwp_plain rfl fun K25 hK25 => ?_
     refine p_step rfl (e_move (v := .sc _) rfl) trivial ?_
     refine p_step rfl (e_add rfl rfl (by (first | omega | (have := sq_le (h := high) (by omega) (by omega); omega)))) trivial ?_
     refine p_step rfl (e_assign (v := .sc _) rfl) trivial ?_
     refine p_end (hK25 _ ?_); clear hK25 K25
     refine block_norm ?_
     exact loop_again (((((n + high) / (2)) + (1)), high)) (by show _ < _; simp only; omega) ⟨rfl, trivial⟩ ⟨rfl, rfl, trivial⟩ (by exact ⟨by show 0 ≤ _ ∧ _ ≤ _ ∧ _ ≤ _; omega, by first | assumption | omega, by first | assumption | exact all_below hbl (by omega) (by omega)⟩)
   ·have hb20R := hb20; try simp only [z1, z2, z3, z4, z5, z6, ne_eq, z7, z8, z9, z10, z11, z12] at hb20
    obtain rfl : n = high := by omega
    refine pwp_exit ?_
    refine exit_seq ?_
    clear hK19 K19
    refine exit_loop ?_
    refine exit_here ?_
    refine seq_norm (hK12 _ ?_); clear hK12 K12
    refine pwp_seq_plain rfl fun K26 hK26 => ?_
    refine p_step rfl (e_move (v := .sc _) rfl) trivial ?_
    refine p_step rfl (e_assign (v := .sc _) rfl) trivial ?_
    refine p_end (hK26 _ ?_); clear hK26 K26
    refine pwp_ret ?_
    refine end1 (v := .sc _) rfl ?_
    exact out_i (lenY_eq (by omega) hge hbl)

end Go.Proofs.Ytigdmkhdmbbfiaa
