/- The law of bundles. No conditions. -/
import Derived.Test.YtigdmkhdmbbfiaaBun3
import Derived.Test.YtigdmkhdmbbfiaaAwake
set_option linter.unusedSimpArgs false
set_option linter.unusedVariables false
set_option maxRecDepth 100000
namespace Go.Proofs.Ytigdmkhdmbbfiaa
open Go Go.Pv

def sumI : Int → List Item → Int
  | s, [] => s
  | s, x :: l => sumI (s + x.mass) l
theorem sumI_app : ∀ (a b : List Item) (s : Int), sumI s (a ++ b) = sumI (sumI s a) b
  | [], _, _ => rfl
  | x :: a, b, s => by simp only [List.cons_append, sumI]; exact sumI_app a b _
theorem sumI_add : ∀ (a : List Item) (s : Int), sumI s a = s + sumI 0 a
  | [], s => by simp [sumI]
  | x :: a, s => by simp only [sumI]; rw [sumI_add a (s + x.mass), sumI_add a (0 + x.mass)]; omega
def FitI (most : Int) (l : List Item) : Prop := ∀ x ∈ l, 0 ≤ x.mass ∧ x.mass ≤ most
theorem FitI.app {most : Int} {a b : List Item} (h1 : FitI most a) (h2 : FitI most b) : FitI most (a ++ b) := fun x hx => by
  rcases List.mem_append.1 hx with h | h
  · exact h1 x h
  · exact h2 x h
theorem bun_law {p : Part} {size most : Int} (hp : 0 ≤ p.mass) (hs : size * p.mass ≤ most) : ∀ (f : Nat) (left : Int) (out o2 : List Item), left ≤ (f : Int) → (0 < left → 1 ≤ size) → bun p size f left out = (0, o2) → FitI most out → out.length ≤ 200 →
    FitI most o2 ∧ o2.length ≤ 200 ∧ sumI 0 o2 = sumI 0 out + (max left 0) * p.mass
  | 0, left, out, o2, hl, _, h, h1, h2 => by
    simp only [bun, Prod.mk.injEq, true_and] at h
    subst h
    exact ⟨h1, h2, by rw [show max left 0 = 0 by omega, Int.zero_mul]; omega⟩
  | f + 1, left, out, o2, hl, hz, h, h1, h2 => by
    unfold bun at h
    split at h
    · rename_i hpos
      split at h
      · cases h
      · rename_i hn
        have hs1 := hz hpos
        have hpr := prod_ok hpos hs1 hp hs
        have := bun_law hp hs f (left - size) (out ++ [itemB p (min left size)]) o2 (by omega) (fun _ => hs1) h (h1.app fun x hx => by
          simp only [List.mem_singleton] at hx; subst hx; exact hpr) (by simp only [List.length_append, List.length_cons, List.length_nil]; omega)
        refine ⟨this.1, this.2.1, ?_⟩
        rw [this.2.2, sumI_app]
        simp only [sumI]
        show sumI 0 out + min left size * p.mass + max (left - size) 0 * p.mass = _
        have e : (min left size) * p.mass + max (left - size) 0 * p.mass = max left 0 * p.mass := by rw [← Int.add_mul]; congr 1; omega
        omega
    · rename_i hneg
      simp only [Prod.mk.injEq, true_and] at h
      subst h
      exact ⟨h1, h2, by rw [show max left 0 = 0 by omega, Int.zero_mul]; omega⟩
theorem massS_add : ∀ (ws : List Want) (ls : List Part) (s : Int), massS s ws ls = s + massS 0 ws ls
  | [], _, s => by simp [massS]
  | _ :: _, [], s => by simp [massS]
  | w :: ws, p :: ls, s => by simp only [massS]; rw [massS_add ws ls (s + _), massS_add ws ls (0 + _)]; omega
theorem bunG_law {most : Int} (hm : 1 ≤ most ∧ most ≤ 100000000) : ∀ (ws : List Want) (ls : List Part) (out o2 : List Item), (∀ w ∈ ws, 0 ≤ w.count ∧ w.count ≤ 1000000) → (∀ p ∈ ls, 0 ≤ p.mass) → heavyB most ws ls = false → bunG most ws ls out = (0, o2) → FitI most out → out.length ≤ 200 →
    FitI most o2 ∧ o2.length ≤ 200 ∧ sumI 0 o2 = sumI 0 out + massS 0 ws ls
  | [], ls, out, o2, _, _, _, h, h1, h2 => by
    simp only [bunG, Prod.mk.injEq, true_and] at h
    subst h
    exact ⟨h1, h2, by simp [massS]⟩
  | _ :: _, [], out, o2, _, _, _, h, h1, h2 => by
    simp only [bunG, Prod.mk.injEq, true_and] at h
    subst h
    exact ⟨h1, h2, by simp [massS]⟩
  | w :: ws, p :: ls, out, o2, hw, hp, hh, h, h1, h2 => by
    simp only [bunG, bunK] at h
    have hw1 := hw w List.mem_cons_self
    have hp1 := hp p List.mem_cons_self
    simp only [heavyB, Bool.or_eq_false_iff] at hh
    have hso := size_ok (w := w) (p := p) hw1 hp1 hm (fun hc => by
      have := hh.1
      simp only [Bool.and_eq_false_iff, decide_eq_false_iff_not] at this
      omega)
    split at h
    · rename_i h0
      have hb := bun_law hp1 hso.2.2.1 w.count.toNat w.count out (bun p (sizeB w p most) w.count.toNat w.count out).2 (by omega) hso.2.2.2 (Prod.ext h0 rfl) h1 h2
      have := bunG_law hm ws ls _ o2 (fun a ha => hw a (List.mem_cons_of_mem _ ha)) (fun a ha => hp a (List.mem_cons_of_mem _ ha)) hh.2 h hb.1 hb.2.1
      refine ⟨this.1, this.2.1, ?_⟩
      rw [this.2.2, hb.2.2]
      simp only [massS]
      rw [massS_add ws ls (0 + _), show max w.count 0 = w.count by omega]
      omega
    · rename_i h0
      simp only [Prod.mk.injEq] at h
      exact absurd h.1 h0
theorem bunG_err {most : Int} : ∀ (ws : List Want) (ls : List Part) (out : List Item), ¬ (bunG most ws ls out).1 = 0 → (bunG most ws ls out).2 = []
  | [], ls, out, h => absurd rfl h
  | _ :: _, [], out, h => absurd rfl h
  | w :: ws, p :: ls, out, h => by
    simp only [bunG, bunK] at h ⊢
    split at h
    · rename_i h0; rw [if_pos h0]; exact bunG_err ws ls _ h
    · rename_i h0; rw [if_neg h0]
theorem bunR_err {ws : List Want} {ps : List Part} {most : Int} (h : ¬ (bunR ws ps most).1 = 0) : (bunR ws ps most).2 = [] := by
  unfold bunR at h ⊢
  split
  · rfl
  · rename_i h1
    split
    · rfl
    · rename_i h2
      split
      · rfl
      · rename_i h3
        rw [if_neg h1, if_neg h2, if_neg h3] at h
        exact bunG_err _ _ _ h
theorem bunR_law {ws : List Want} {ps : List Part} {most : Int} (h : (bunR ws ps most).1 = 0) : (wantR ws ps).1 = 0 ∧ (1 ≤ most ∧ most ≤ 100000000) ∧ FitI most (bunR ws ps most).2 ∧ (bunR ws ps most).2.length ≤ 200 ∧ sumI 0 (bunR ws ps most).2 = massW ws ps := by
  have h' := h
  unfold bunR at h
  split at h
  · rename_i h1; exact absurd h h1
  · rename_i h1
    split at h
    · cases h
    · rename_i h2
      split at h
      · cases h
      · rename_i h3
        have h1' : (wantR ws ps).1 = 0 := by simpa using h1
        have h2' : 1 ≤ most ∧ most ≤ 100000000 := by omega
        have e := br_4 h1' h2' (by simpa using h3) (most := most) rfl
        have := bunG_law h2' ws (wantR ws ps).2 [] (bunR ws ps most).2 (wantR_counts h1') (fun p hp => (wantR_parts h1' p hp).2.2.2.1) (by simpa using h3) (by rw [← e]; exact Prod.ext h' rfl) (fun x hx => by simp at hx) (Nat.zero_le _)
        refine ⟨h1', h2', this.1, this.2.1, ?_⟩
        rw [this.2.2, mass_2 h1']; simp [sumI]

theorem fr10 : (inFrame Try.f10.ntmps (Try.f10.body.getD .skip) && Try.f10.results.toList.all (resScope Try.f10.ntmps)) = true := by kernel_rfl
theorem hbund (ws : List Want) (ps : List Part) (most : Int) : PCalls Try.prog 10 [.lit true 2 (ws.map Want.enc), .lit true 7 (ps.map Part.enc), .int most] (.bool true) := by
  refine PCalls.of_code Try.func10 rfl rfl (by kernel_rfl) mixed fr10 (by show _ ≤ 64; simp) (.sc _) ?_
  refine pwp_seq_plain rfl fun K1 hK1 => ?_
  refine p_step rfl (e_assign (v := .sc _) rfl) trivial ?_
  refine p_end (hK1 _ ?_); clear hK1 K1
  refine pwp_seq_seq ?_
  refine pwp_seq_plain rfl fun K2 hK2 => ?_
  refine p_call rfl .nil (awake) ?_
  refine p_step rfl (e_not rfl) trivial ?_
  refine p_end (hK2 _ ?_); clear hK2 K2
  refine pwp_seq_cond (t := false) rfl fun K3 hK3 => ⟨nofun, fun _ => ?_⟩
  refine pwp_skip ?_
  refine seq_norm (hK3 _ ?_); clear hK3 K3
  refine pwp_seq_seq ?_
  refine pwp_seq_plain rfl fun K4 hK4 => ?_
  refine p_step rfl (e_move (v := .lit _ _ _) rfl) trivial ?_
  refine p_step rfl (e_move (v := .lit _ _ _) rfl) trivial ?_
  refine p_call rfl (.cons inn_lit (.cons inn_lit .nil)) (thin _ _) ?_
  refine p_step rfl (e_not rfl) trivial ?_
  refine p_end (hK4 _ ?_); clear hK4 K4
  refine pwp_seq_cond rfl fun K5 hK5 => ⟨fun hb6 => ?_, fun hb6 => ?_⟩
  ·have hb6R := hb6; (try simp only [z1, z2, z3, z4, z5, z6, ne_eq, z7, z8, z9, z10, z11, z12] at hb6); (try (have htn := thinB_iff hb6)); (try (have hbl := bunR_law hb6))
   refine pwp_seq_plain rfl fun K7 hK7 => ?_
   refine p_step rfl (e_assign (v := .sc _) rfl) trivial ?_
   refine p_end (hK7 _ ?_); clear hK7 K7
   refine pwp_ret ?_
   refine ret_seq ?_
   refine end1 (v := .sc _) rfl ?_
   first
     | exact out_b rfl
     | exact out_b (by rw [bunR_err (by assumption)]; rfl)
     | (exfalso; omega)
     | exact out_b (by have q1 := hbl.2.2.2.2; simp only [Bool.and_eq_true, decide_eq_true_eq]; omega)
     | exact out_b (by have q1 := hbl.2.2.2.2; have q2 := hbl.1; rw [hinv] at q1; simp [q1, q2])
  ·have hb6R := hb6; (try simp only [z1, z2, z3, z4, z5, z6, ne_eq, z7, z8, z9, z10, z11, z12] at hb6); (try (have htn := thinB_iff hb6)); (try (have hbl := bunR_law hb6))
   refine pwp_skip ?_
   refine seq_norm (hK5 _ ?_); clear hK5 K5
   refine pwp_seq_plain rfl fun K8 hK8 => ?_
   refine p_step rfl (e_move (v := .lit _ _ _) rfl) trivial ?_
   refine p_step rfl (e_move (v := .lit _ _ _) rfl) trivial ?_
   refine p_step rfl (e_move (v := .sc _) rfl) trivial ?_
   refine p_call rfl (.cons inn_lit (.cons inn_lit (.cons inn_sc .nil))) (Bundles _ _ _ (by omega) (by omega) htn.2.2.1 htn.2.2.2) ?_
   refine p_step rfl (e_move (v := .tup _) rfl) trivial ?_
   refine p_step rfl (e_ext (v := .lit _ _ _) rfl (by simp) rfl) trivial ?_
   refine p_step rfl (e_ext (v := .sc _) rfl (by simp) rfl) trivial ?_
   refine p_step rfl (e_assign (v := .lit _ _ _) rfl) trivial ?_
   refine p_step rfl (e_assign (v := .sc _) rfl) trivial ?_
   refine p_end (hK8 _ ?_); clear hK8 K8
   refine pwp_seq_seq ?_
   refine pwp_seq_plain rfl fun K9 hK9 => ?_
   refine p_step rfl (e_move (v := .sc _) rfl) trivial ?_
   refine p_step rfl (e_ne rfl rfl) trivial ?_
   refine p_end (hK9 _ ?_); clear hK9 K9
   refine pwp_seq_cond rfl fun K10 hK10 => ⟨fun hb11 => ?_, fun hb11 => ?_⟩
   ·have hb11R := hb11; (try simp only [z1, z2, z3, z4, z5, z6, ne_eq, z7, z8, z9, z10, z11, z12] at hb11); (try (have htn := thinB_iff hb11)); (try (have hbl := bunR_law hb11))
    refine pwp_seq_plain rfl fun K12 hK12 => ?_
    refine p_step rfl (e_move (v := .lit _ _ _) rfl) trivial ?_
    refine p_step rfl (e_len rfl (by kernel_rfl)) trivial ?_
    refine p_step rfl (e_eq rfl rfl) trivial ?_
    refine p_step rfl (e_assign (v := .sc _) rfl) trivial ?_
    refine p_end (hK12 _ ?_); clear hK12 K12
    refine pwp_ret ?_
    refine ret_seq ?_
    refine end1 (v := .sc _) rfl ?_
    first
      | exact out_b rfl
      | exact out_b (by rw [bunR_err (by assumption)]; rfl)
      | (exfalso; omega)
      | exact out_b (by have q1 := hbl.2.2.2.2; simp only [Bool.and_eq_true, decide_eq_true_eq]; omega)
      | exact out_b (by have q1 := hbl.2.2.2.2; have q2 := hbl.1; rw [hinv] at q1; simp [q1, q2])
   ·have hb11R := hb11; (try simp only [z1, z2, z3, z4, z5, z6, ne_eq, z7, z8, z9, z10, z11, z12] at hb11); (try (have htn := thinB_iff hb11)); (try (have hbl := bunR_law hb11))
    refine pwp_skip ?_
    refine seq_norm (hK10 _ ?_); clear hK10 K10
    refine pwp_seq_plain rfl fun K13 hK13 => ?_
    refine p_step rfl (e_move (v := .lit _ _ _) rfl) trivial ?_
    refine p_step rfl (e_move (v := .lit _ _ _) rfl) trivial ?_
    refine p_call rfl (.cons inn_lit (.cons inn_lit .nil)) (Mass _ _ (by omega) (by omega) htn.2.2.1 htn.2.2.2) ?_
    refine p_step rfl (e_move (v := .tup _) rfl) trivial ?_
    refine p_step rfl (e_ext (v := .sc _) rfl (by simp) rfl) trivial ?_
    refine p_step rfl (e_ext (v := .sc _) rfl (by simp) rfl) trivial ?_
    refine p_step rfl (e_assign (v := .sc _) rfl) trivial ?_
    refine p_step rfl (e_assign (v := .sc _) rfl) trivial ?_
    refine p_end (hK13 _ ?_); clear hK13 K13
    refine pwp_seq_plain rfl fun K14 hK14 => ?_
    refine p_step rfl (e_assign (v := .sc _) rfl) trivial ?_
    refine p_end (hK14 _ ?_); clear hK14 K14
    refine pwp_seq_seq ?_
    refine pwp_seq_plain rfl fun K15 hK15 => ?_
    refine p_step rfl (e_assign (v := .sc _) rfl) trivial ?_
    refine p_end (hK15 _ ?_); clear hK15 K15
    refine pwp_seq_block fun K16 hK16 => ?_
    refine pwp_loopR (α := Nat × Int) [2, 7, 9, 10] (fun (a17 : Nat × Int) => [(11, .int (a17.2)), (12, .int (a17.1))]) (fun (a17 : Nat × Int) (h : Heap) (_ : Nat → Nat) => ((a17.1) ≤ (bunR ws ps most).2.length) ∧ (sumI 0 (bunR ws ps most).2 = sumI (a17.2) ((bunR ws ps most).2.drop (a17.1))) ∧ (0 ≤ (a17.2) ∧ (a17.2) ≤ 100000000 * ((a17.1) : Int))) (fun (a17 : Nat × Int) => (bunR ws ps most).2.length - (a17.1)) (0, 0) (by exact ⟨rfl, rfl, trivial⟩) (by exact ⟨by exact Nat.zero_le _, by exact rfl, by exact ⟨Int.le_refl _, by simp⟩⟩) fun a17 r18 h19 c20 hj21 => ?_
    obtain ⟨k, s⟩ := a17
    obtain ⟨hk, hinv, hb⟩ := hj21
    try dsimp only at hk
    try dsimp only at hinv
    try dsimp only at hb
    show pwp _ _ (loopQ _ _ _) ⟨sets (mix _ _ _) [(11, .int s), (12, .int k)], _, _⟩
    refine pwp_seq_seq ?_
    refine pwp_seq_plain rfl fun K22 hK22 => ?_
    refine p_step rfl (e_move (v := .sc _) rfl) trivial ?_
    refine p_step rfl (e_move (v := .lit _ _ _) rfl) trivial ?_
    refine p_step rfl (e_len rfl (by kernel_rfl)) trivial ?_
    refine p_step rfl (e_lt rfl rfl) trivial ?_
    refine p_end (hK22 _ ?_); clear hK22 K22
    refine pwp_seq_cond rfl fun K23 hK23 => ⟨fun hb24 => ?_, fun hb24 => ?_⟩
    ·have hb24R := hb24; (try simp only [z1, z2, z3, z4, z5, z6, ne_eq, z7, z8, z9, z10, z11, z12] at hb24); (try (have htn := thinB_iff hb24)); (try (have hbl := bunR_law hb24))
     obtain ⟨x, hx, hd, ht⟩ := get_lt (xs := (bunR ws ps most).2) (i := k) (by omega)
     have hfx := hbl.2.2.1 x (List.mem_of_getElem? hx)
     rw [hd] at hinv; simp only [sumI] at hinv
     refine pwp_skip ?_
     refine seq_norm (hK23 _ ?_); clear hK23 K23
     refine pwp_seq_block fun K25 hK25 => ?_
     refine pwp_seq_seq ?_
     refine pwp_seq_plain rfl fun K26 hK26 => ?_
     refine p_step rfl (e_move (v := .lit _ _ _) rfl) trivial ?_
     refine p_step rfl (e_move (v := .sc _) rfl) trivial ?_
     refine p_step rfl (e_ixa rfl rfl (by kernel_rfl) (by kernel_rfl) (by simp only [List.length_map]; omega)) trivial ?_
     refine p_step rfl (e_fa (pl := [(0, 1, false), (1, 1, false), (2, 1, false)]) rfl (by kernel_rfl) (by kernel_rfl) (by decide) rfl) trivial ?_
     refine p_step rfl (e_load (v := .sc _) rfl (by kernel_rfl) (by kernel_rfl) (by kernel_rfl) (by simp only [List.length_map]; omega) (by decide) ((cell_map hx _).trans rfl)) trivial ?_
     refine p_step rfl (e_move (v := .sc _) rfl) trivial ?_
     refine p_step rfl (e_gt rfl rfl) trivial ?_
     refine p_end (hK26 _ ?_); clear hK26 K26
     refine pwp_seq_cond rfl fun K27 hK27 => ⟨fun hb28 => ?_, fun hb28 => ?_⟩
     ·have hb28R := hb28; (try simp only [z1, z2, z3, z4, z5, z6, ne_eq, z7, z8, z9, z10, z11, z12] at hb28); (try (have htn := thinB_iff hb28)); (try (have hbl := bunR_law hb28))
      refine pwp_seq_plain rfl fun K29 hK29 => ?_
      refine p_step rfl (e_assign (v := .sc _) rfl) trivial ?_
      refine p_end (hK29 _ ?_); clear hK29 K29
      refine pwp_ret ?_
      refine ret_seq ?_
      refine ret_block ?_
      refine ret_seq ?_
      refine ret_loop ?_
      refine ret_block ?_
      refine ret_seq ?_
      refine end1 (v := .sc _) rfl ?_
      first
        | exact out_b rfl
        | exact out_b (by rw [bunR_err (by assumption)]; rfl)
        | (exfalso; omega)
        | exact out_b (by have q1 := hbl.2.2.2.2; simp only [Bool.and_eq_true, decide_eq_true_eq]; omega)
        | exact out_b (by have q1 := hbl.2.2.2.2; have q2 := hbl.1; rw [hinv] at q1; simp [q1, q2])
     ·have hb28R := hb28; (try simp only [z1, z2, z3, z4, z5, z6, ne_eq, z7, z8, z9, z10, z11, z12] at hb28); (try (have htn := thinB_iff hb28)); (try (have hbl := bunR_law hb28))
      refine pwp_skip ?_
      refine seq_norm (hK27 _ ?_); clear hK27 K27
      refine pwp_plain rfl fun K30 hK30 => ?_
      refine p_step rfl (e_move (v := .sc _) rfl) trivial ?_
      refine p_step rfl (e_move (v := .lit _ _ _) rfl) trivial ?_
      refine p_step rfl (e_move (v := .sc _) rfl) trivial ?_
      refine p_step rfl (e_ixa rfl rfl (by kernel_rfl) (by kernel_rfl) (by simp only [List.length_map]; omega)) trivial ?_
      refine p_step rfl (e_fa (pl := [(0, 1, false), (1, 1, false), (2, 1, false)]) rfl (by kernel_rfl) (by kernel_rfl) (by decide) rfl) trivial ?_
      refine p_step rfl (e_load (v := .sc _) rfl (by kernel_rfl) (by kernel_rfl) (by kernel_rfl) (by simp only [List.length_map]; omega) (by decide) ((cell_map hx _).trans rfl)) trivial ?_
      refine p_step rfl (e_add rfl rfl (by first | omega | (simp only [List.length_map]; omega))) trivial ?_
      refine p_step rfl (e_assign (v := .sc _) rfl) trivial ?_
      refine p_end (hK30 _ ?_); clear hK30 K30
      refine block_norm ?_
      refine seq_norm (hK25 _ ?_); clear hK25 K25
      refine pwp_plain rfl fun K31 hK31 => ?_
      refine p_step rfl (e_move (v := .sc _) rfl) trivial ?_
      refine p_step rfl (e_add rfl rfl (by first | omega | (simp only [List.length_map]; omega))) trivial ?_
      refine p_step rfl (e_assign (v := .sc _) rfl) trivial ?_
      refine p_end (hK31 _ ?_); clear hK31 K31
      exact loop_again ((k + 1, (s + x.mass))) (by show _ < _; simp only; omega) ⟨rfl, rfl, rfl, rfl, trivial⟩ ⟨rfl, rfl, trivial⟩ (by exact ⟨by show _ + 1 ≤ _; omega, by exact hinv, by show 0 ≤ _ ∧ _ ≤ _; omega⟩)
    ·have hb24R := hb24; (try simp only [z1, z2, z3, z4, z5, z6, ne_eq, z7, z8, z9, z10, z11, z12] at hb24); (try (have htn := thinB_iff hb24)); (try (have hbl := bunR_law hb24))
     obtain rfl : k = (bunR ws ps most).2.length := by omega
     rw [List.drop_length] at hinv; simp only [sumI] at hinv
     refine pwp_exit ?_
     refine exit_seq ?_
     clear hK23 K23
     refine exit_loop ?_
     refine exit_here ?_
     refine seq_norm (hK16 _ ?_); clear hK16 K16
     refine pwp_seq_cutG [] [(6, .bool ((decide ((wantR ws ps).1 = (0))) && (decide (s = (massW ws ps)))))] (fun K32 hK32 => ?_) (fun r33 => ?_)
     ·skip
      refine pwp_gops rfl fun K34 hK34 => ?_
      refine g_begin ?_
      refine g_step rfl rfl rfl rfl (e_move (v := .sc _) rfl) trivial ?_
      refine g_step rfl rfl rfl rfl (e_eq rfl rfl) trivial ?_
      refine g_step rfl rfl rfl rfl (e_move (v := .sc _) rfl) trivial ?_
      refine g_cases (fun hb35 => ?_) (fun hb35 => ?_)
      ·have hb35R := hb35; (try simp only [z1, z2, z3, z4, z5, z6, ne_eq, z7, z8, z9, z10, z11, z12] at hb35); (try (have htn := thinB_iff hb35)); (try (have hbl := bunR_law hb35))
       refine g_step rfl rfl rfl rfl (e_move (v := .sc _) rfl) trivial ?_
       refine g_step rfl rfl rfl rfl (e_move (v := .sc _) rfl) trivial ?_
       refine g_step rfl rfl rfl rfl (e_eq rfl rfl) trivial ?_
       refine g_step rfl rfl rfl rfl (e_pickT (v := .sc _) rfl rfl) trivial ?_
       refine g_step rfl rfl rfl rfl (e_assign (v := .sc _) rfl) trivial ?_
       refine g_end (ds := [60, 61, 62]) rfl rfl (hK34 _ ?_); clear hK34 K34
       exact seq_norm (hK32 _ trivial ⟨(congrArg PV.bool (show ((decide (s = (massW ws ps))) : Bool) = ((decide ((wantR ws ps).1 = (0))) && (decide (s = (massW ws ps)))) by first | rfl | ((try rw [hb35R]) <;> (first | rfl | (simp only [Bool.and_true, Bool.and_false, Bool.true_and, Bool.false_and, Bool.or_true, Bool.or_false, Bool.true_or, Bool.false_or, Bool.not_true, Bool.not_false, if_true, if_false, Bool.false_eq_true, reduceIte] <;> rfl))) | (simp only [hb35R, Bool.and_true, Bool.and_false, Bool.true_and, Bool.false_and, Bool.or_true, Bool.or_false, Bool.true_or, Bool.false_or, Bool.not_true, Bool.not_false, if_true, if_false, Bool.false_eq_true, reduceIte] <;> rfl))), trivial⟩)
      ·have hb35R := hb35; (try simp only [z1, z2, z3, z4, z5, z6, ne_eq, z7, z8, z9, z10, z11, z12] at hb35); (try (have htn := thinB_iff hb35)); (try (have hbl := bunR_law hb35))
       refine g_skip rfl rfl rfl ?_
       refine g_skip rfl rfl rfl ?_
       refine g_skip rfl rfl rfl ?_
       refine g_step rfl rfl rfl rfl (e_pickF (v := .sc _) rfl rfl) trivial ?_
       refine g_step rfl rfl rfl rfl (e_assign (v := .sc _) rfl) trivial ?_
       refine g_end (ds := [60, 61, 62]) rfl rfl (hK34 _ ?_); clear hK34 K34
       exact seq_norm (hK32 _ trivial ⟨(congrArg PV.bool (show (false : Bool) = ((decide ((wantR ws ps).1 = (0))) && (decide (s = (massW ws ps)))) by first | rfl | ((try rw [hb35R]) <;> (first | rfl | (simp only [Bool.and_true, Bool.and_false, Bool.true_and, Bool.false_and, Bool.or_true, Bool.or_false, Bool.true_or, Bool.false_or, Bool.not_true, Bool.not_false, if_true, if_false, Bool.false_eq_true, reduceIte] <;> rfl))) | (simp only [hb35R, Bool.and_true, Bool.and_false, Bool.true_and, Bool.false_and, Bool.or_true, Bool.or_false, Bool.true_or, Bool.false_or, Bool.not_true, Bool.not_false, if_true, if_false, Bool.false_eq_true, reduceIte] <;> rfl))), trivial⟩)
     ·skip
      refine pwp_ret ?_
      refine end1 (v := .sc _) rfl ?_
      first
        | exact out_b rfl
        | exact out_b (by rw [bunR_err (by assumption)]; rfl)
        | (exfalso; omega)
        | exact out_b (by have q1 := hbl.2.2.2.2; simp only [Bool.and_eq_true, decide_eq_true_eq]; omega)
        | exact out_b (by have q1 := hbl.2.2.2.2; have q2 := hbl.1; rw [hinv] at q1; simp [q1, q2])

end Go.Proofs.Ytigdmkhdmbbfiaa
