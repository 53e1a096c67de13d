/- Records: their errors, as the reference tells them, as contracts on pure values. No conditions. -/
import Derived.Test.YtdbpfhbppcpbbaaRec1
set_option linter.unusedSimpArgs false
set_option linter.unusedVariables false
set_option maxRecDepth 100000
namespace Go.Proofs.Ytdbpfhbppcpbbaa
open Go Go.Pv

theorem eqOk_Ev (a b : Ev) : eqOk Try.prog 6 57 (.agg a.enc) (.agg b.enc) = true := by kernel_rfl
theorem eqV_Ev (a b : Ev) : eqV Try.prog 6 57 (.agg a.enc) (.agg b.enc) = decide (a = b) := by
  have h : eqV Try.prog 6 57 (.agg a.enc) (.agg b.enc) = ((a.day == b.day) && ((a.kind == b.kind) && (decide (a.platform = b.platform) && ((a.number == b.number) && ((a.passed == b.passed) && ((a.grave == b.grave) && true)))))) := by kernel_rfl
  rw [h]
  cases a; cases b
  simp only [Ev.mk.injEq]
  rw [Bool.eq_iff_iff]
  simp
theorem isNm_empty : isNm ⟨#[]⟩ = false := by decide
def bareEv (e : Ev) : Ev := if e.kind = 0 ∨ e.kind = 5 then { e with number := 0 } else if e.kind = 1 ∨ e.kind = 2 then { e with passed := false } else if e.kind = 4 then { e with number := 0, grave := false } else e


theorem clean_six {a b c d e f : PV} (ha : Go.Pv.Clean a) (hb : Go.Pv.Clean b) (hc : Go.Pv.Clean c) (hd : Go.Pv.Clean d) (he : Go.Pv.Clean e) (hf : Go.Pv.Clean f) : ∀ p ∈ [a, b, c, d, e, f], Go.Pv.Clean p := fun p hp => by
  simp only [List.mem_cons, List.not_mem_nil, or_false] at hp
  rcases hp with rfl | rfl | rfl | rfl | rfl | rfl <;> assumption
theorem bare_out {h : Heap} {cs : List PV} {x : Ev} (he : cs = (bareEv x).enc) : Out h (.agg cs) (.agg (bareEv x).enc) := by
  subst he
  exact .clean (.agg _ (clean_six (.sc _) (.sc _) (.sc _) (.sc _) (.sc _) (.sc _)))

theorem fr119 : (inFrame Try.f119.ntmps (Try.f119.body.getD .skip) && Try.f119.results.toList.all (resScope Try.f119.ntmps)) = true := by kernel_rfl
theorem bare (x : Ev) : PCalls Try.prog 119 [.agg x.enc] (.agg (bareEv x).enc) := by
  refine PCalls.of_code Try.func119 rfl rfl (by kernel_rfl) mixed fr119 (by show _ ≤ 18; simp) (.agg _ (Ev.pure _)) ?_
  refine pwp_seq_plain rfl fun K1 hK1 => ?_
  refine p_new rfl (e_box (n := 6) rfl rfl) ⟨rfl, by decide⟩ ?_
  refine p_new rfl (e_alloc (cs := [.int 0, .int 0, .str ByteArray.empty, .int 0, .bool false, .bool false]) (n := 6) (by kernel_rfl) rfl (by decide)) (ob_alloc (by decide)) ?_
  refine p_end (hK1 _ ?_); clear hK1 K1
  refine pwp_seq_seq ?_
  refine pwp_seq_plain rfl fun K2 hK2 => ?_
  refine p_step rfl (e_faP (pl := [(0, 1, false), (1, 1, false), (2, 1, false), (3, 1, false), (4, 1, false), (5, 1, false)]) rfl (by kernel_rfl) (by kernel_rfl) (by decide) rfl) trivial ?_
  refine p_step rfl (e_loadH (v := .sc _) rfl ((hset_ne (key_ne rfl)).trans (hset_self _ _ _)) (by kernel_rfl) (by kernel_rfl) (by kernel_rfl) (by exact Nat.zero_lt_one) (by decide) rfl) trivial ?_
  refine p_end (hK2 _ ?_); clear hK2 K2
  refine pwp_seq_block fun K3 hK3 => ?_
  refine pwp_seq_seq ?_
  refine pwp_seq_plain rfl fun K4 hK4 => ?_
  refine p_step rfl (e_eq rfl rfl) trivial ?_
  refine p_step rfl (e_assign (v := .sc _) rfl) trivial ?_
  refine p_end (hK4 _ ?_); clear hK4 K4
  refine pwp_seq_cond rfl fun K5 hK5 => ⟨fun hb6 => ?_, fun hb6 => ?_⟩
  ·have hb6R := hb6; try simp only [z1, z2, z3, z4, z5, z6, ne_eq, z7, z8, z9, z10, z11, z12] at hb6
   refine pwp_skip ?_
   refine seq_norm (hK5 _ ?_); clear hK5 K5
   refine pwp_cond rfl (fun hb7 => ?_) (fun hb7 => ?_)
   ·have hb7R := hb7; try simp only [z1, z2, z3, z4, z5, z6, ne_eq, z7, z8, z9, z10, z11, z12] at hb7
    refine pwp_plain rfl fun K8 hK8 => ?_
    refine p_step rfl (e_faP (pl := [(0, 1, false), (1, 1, false), (2, 1, false), (3, 1, false), (4, 1, false), (5, 1, false)]) rfl (by kernel_rfl) (by kernel_rfl) (by decide) rfl) trivial ?_
    refine p_store rfl (e_store1 rfl ((hset_ne (key_ne rfl)).trans (hset_self _ _ _)) rfl rfl rfl (by decide) (by kernel_rfl) rfl (by kernel_rfl)) trivial ?_
    refine p_end (hK8 _ ?_); clear hK8 K8
    refine block_norm ?_
    refine seq_norm (hK3 _ ?_); clear hK3 K3
    refine pwp_seq_plain rfl fun K9 hK9 => ?_
    refine p_step rfl (e_loadHA (n := 6) rfl (hset_self _ _ _) (by kernel_rfl) (by kernel_rfl) (by kernel_rfl) (by exact Nat.zero_lt_one) (by decide) rfl) trivial ?_
    refine p_store rfl (e_storeA rfl ((hset_ne (key_ne rfl)).trans (hset_self _ _ _)) rfl rfl rfl (by kernel_rfl) rfl (by kernel_rfl)) trivial ?_
    refine p_end (hK9 _ ?_); clear hK9 K9
    refine pwp_ret ?_
    refine endC rfl (hset_self _ _ _) (by kernel_rfl) (by kernel_rfl) (by kernel_rfl) rfl ?_
    first
      | exact bare_out (by rw [bareEv, if_pos (by omega)]; rfl)
      | exact bare_out (by rw [bareEv, if_neg (by omega), if_pos (by omega)]; rfl)
      | exact bare_out (by rw [bareEv, if_neg (by omega), if_neg (by omega), if_pos (by omega)]; rfl)
      | exact bare_out (by rw [bareEv, if_neg (by omega), if_neg (by omega), if_neg (by omega)]; rfl)
   ·have hb7R := hb7; try simp only [z1, z2, z3, z4, z5, z6, ne_eq, z7, z8, z9, z10, z11, z12] at hb7
    refine pwp_seq_seq ?_
    refine pwp_seq_plain rfl fun K10 hK10 => ?_
    refine p_step rfl (e_eq rfl rfl) trivial ?_
    refine p_step rfl (e_assign (v := .sc _) rfl) trivial ?_
    refine p_end (hK10 _ ?_); clear hK10 K10
    refine pwp_seq_cond rfl fun K11 hK11 => ⟨fun hb12 => ?_, fun hb12 => ?_⟩
    ·have hb12R := hb12; try simp only [z1, z2, z3, z4, z5, z6, ne_eq, z7, z8, z9, z10, z11, z12] at hb12
     refine pwp_skip ?_
     refine seq_norm (hK11 _ ?_); clear hK11 K11
     refine pwp_cond rfl (fun hb13 => ?_) (fun hb13 => ?_)
     ·have hb13R := hb13; try simp only [z1, z2, z3, z4, z5, z6, ne_eq, z7, z8, z9, z10, z11, z12] at hb13
      refine pwp_plain rfl fun K14 hK14 => ?_
      refine p_step rfl (e_faP (pl := [(0, 1, false), (1, 1, false), (2, 1, false), (3, 1, false), (4, 1, false), (5, 1, false)]) rfl (by kernel_rfl) (by kernel_rfl) (by decide) rfl) trivial ?_
      refine p_store rfl (e_store1 rfl ((hset_ne (key_ne rfl)).trans (hset_self _ _ _)) rfl rfl rfl (by decide) (by kernel_rfl) rfl (by kernel_rfl)) trivial ?_
      refine p_end (hK14 _ ?_); clear hK14 K14
      refine block_norm ?_
      refine seq_norm (hK3 _ ?_); clear hK3 K3
      refine pwp_seq_plain rfl fun K15 hK15 => ?_
      refine p_step rfl (e_loadHA (n := 6) rfl (hset_self _ _ _) (by kernel_rfl) (by kernel_rfl) (by kernel_rfl) (by exact Nat.zero_lt_one) (by decide) rfl) trivial ?_
      refine p_store rfl (e_storeA rfl ((hset_ne (key_ne rfl)).trans (hset_self _ _ _)) rfl rfl rfl (by kernel_rfl) rfl (by kernel_rfl)) trivial ?_
      refine p_end (hK15 _ ?_); clear hK15 K15
      refine pwp_ret ?_
      refine endC rfl (hset_self _ _ _) (by kernel_rfl) (by kernel_rfl) (by kernel_rfl) rfl ?_
      first
        | exact bare_out (by rw [bareEv, if_pos (by omega)]; rfl)
        | exact bare_out (by rw [bareEv, if_neg (by omega), if_pos (by omega)]; rfl)
        | exact bare_out (by rw [bareEv, if_neg (by omega), if_neg (by omega), if_pos (by omega)]; rfl)
        | exact bare_out (by rw [bareEv, if_neg (by omega), if_neg (by omega), if_neg (by omega)]; rfl)
     ·have hb13R := hb13; try simp only [z1, z2, z3, z4, z5, z6, ne_eq, z7, z8, z9, z10, z11, z12] at hb13
      refine pwp_seq_plain rfl fun K16 hK16 => ?_
      refine p_step rfl (e_eq rfl rfl) trivial ?_
      refine p_step rfl (e_assign (v := .sc _) rfl) trivial ?_
      refine p_end (hK16 _ ?_); clear hK16 K16
      refine pwp_cond rfl (fun hb17 => ?_) (fun hb17 => ?_)
      ·have hb17R := hb17; try simp only [z1, z2, z3, z4, z5, z6, ne_eq, z7, z8, z9, z10, z11, z12] at hb17
       refine pwp_plain rfl fun K18 hK18 => ?_
       refine p_step rfl (e_faP (pl := [(0, 1, false), (1, 1, false), (2, 1, false), (3, 1, false), (4, 1, false), (5, 1, false)]) rfl (by kernel_rfl) (by kernel_rfl) (by decide) rfl) trivial ?_
       refine p_store rfl (e_store1 rfl ((hset_ne (key_ne rfl)).trans (hset_self _ _ _)) rfl rfl rfl (by decide) (by kernel_rfl) rfl (by kernel_rfl)) trivial ?_
       refine p_step rfl (e_faP (pl := [(0, 1, false), (1, 1, false), (2, 1, false), (3, 1, false), (4, 1, false), (5, 1, false)]) rfl (by kernel_rfl) (by kernel_rfl) (by decide) rfl) trivial ?_
       refine p_store rfl (e_store1 rfl (hset_self _ _ _) rfl rfl rfl (by decide) (by kernel_rfl) rfl (by kernel_rfl)) trivial ?_
       refine p_end (hK18 _ ?_); clear hK18 K18
       refine block_norm ?_
       refine seq_norm (hK3 _ ?_); clear hK3 K3
       refine pwp_seq_plain rfl fun K19 hK19 => ?_
       refine p_step rfl (e_loadHA (n := 6) rfl (hset_self _ _ _) (by kernel_rfl) (by kernel_rfl) (by kernel_rfl) (by exact Nat.zero_lt_one) (by decide) rfl) trivial ?_
       refine p_store rfl (e_storeA rfl ((hset_ne (key_ne rfl)).trans ((hset_ne (key_ne rfl)).trans (hset_self _ _ _))) rfl rfl rfl (by kernel_rfl) rfl (by kernel_rfl)) trivial ?_
       refine p_end (hK19 _ ?_); clear hK19 K19
       refine pwp_ret ?_
       refine endC rfl (hset_self _ _ _) (by kernel_rfl) (by kernel_rfl) (by kernel_rfl) rfl ?_
       first
         | exact bare_out (by rw [bareEv, if_pos (by omega)]; rfl)
         | exact bare_out (by rw [bareEv, if_neg (by omega), if_pos (by omega)]; rfl)
         | exact bare_out (by rw [bareEv, if_neg (by omega), if_neg (by omega), if_pos (by omega)]; rfl)
         | exact bare_out (by rw [bareEv, if_neg (by omega), if_neg (by omega), if_neg (by omega)]; rfl)
      ·have hb17R := hb17; try simp only [z1, z2, z3, z4, z5, z6, ne_eq, z7, z8, z9, z10, z11, z12] at hb17
       refine pwp_skip ?_
       refine block_norm ?_
       refine seq_norm (hK3 _ ?_); clear hK3 K3
       refine pwp_seq_plain rfl fun K20 hK20 => ?_
       refine p_step rfl (e_loadHA (n := 6) rfl ((hset_ne (key_ne rfl)).trans (hset_self _ _ _)) (by kernel_rfl) (by kernel_rfl) (by kernel_rfl) (by exact Nat.zero_lt_one) (by decide) rfl) trivial ?_
       refine p_store rfl (e_storeA rfl (hset_self _ _ _) rfl rfl rfl (by kernel_rfl) rfl (by kernel_rfl)) trivial ?_
       refine p_end (hK20 _ ?_); clear hK20 K20
       refine pwp_ret ?_
       refine endC rfl (hset_self _ _ _) (by kernel_rfl) (by kernel_rfl) (by kernel_rfl) rfl ?_
       first
         | exact bare_out (by rw [bareEv, if_pos (by omega)]; rfl)
         | exact bare_out (by rw [bareEv, if_neg (by omega), if_pos (by omega)]; rfl)
         | exact bare_out (by rw [bareEv, if_neg (by omega), if_neg (by omega), if_pos (by omega)]; rfl)
         | exact bare_out (by rw [bareEv, if_neg (by omega), if_neg (by omega), if_neg (by omega)]; rfl)
    ·have hb12R := hb12; try simp only [z1, z2, z3, z4, z5, z6, ne_eq, z7, z8, z9, z10, z11, z12] at hb12
     refine pwp_plain rfl fun K21 hK21 => ?_
     refine p_step rfl (e_eq rfl rfl) trivial ?_
     refine p_step rfl (e_assign (v := .sc _) rfl) trivial ?_
     refine p_end (hK21 _ ?_); clear hK21 K21
     refine seq_norm (hK11 _ ?_); clear hK11 K11
     refine pwp_cond rfl (fun hb22 => ?_) (fun hb22 => ?_)
     ·have hb22R := hb22; try simp only [z1, z2, z3, z4, z5, z6, ne_eq, z7, z8, z9, z10, z11, z12] at hb22
      refine pwp_plain rfl fun K23 hK23 => ?_
      refine p_step rfl (e_faP (pl := [(0, 1, false), (1, 1, false), (2, 1, false), (3, 1, false), (4, 1, false), (5, 1, false)]) rfl (by kernel_rfl) (by kernel_rfl) (by decide) rfl) trivial ?_
      refine p_store rfl (e_store1 rfl ((hset_ne (key_ne rfl)).trans (hset_self _ _ _)) rfl rfl rfl (by decide) (by kernel_rfl) rfl (by kernel_rfl)) trivial ?_
      refine p_end (hK23 _ ?_); clear hK23 K23
      refine block_norm ?_
      refine seq_norm (hK3 _ ?_); clear hK3 K3
      refine pwp_seq_plain rfl fun K24 hK24 => ?_
      refine p_step rfl (e_loadHA (n := 6) rfl (hset_self _ _ _) (by kernel_rfl) (by kernel_rfl) (by kernel_rfl) (by exact Nat.zero_lt_one) (by decide) rfl) trivial ?_
      refine p_store rfl (e_storeA rfl ((hset_ne (key_ne rfl)).trans (hset_self _ _ _)) rfl rfl rfl (by kernel_rfl) rfl (by kernel_rfl)) trivial ?_
      refine p_end (hK24 _ ?_); clear hK24 K24
      refine pwp_ret ?_
      refine endC rfl (hset_self _ _ _) (by kernel_rfl) (by kernel_rfl) (by kernel_rfl) rfl ?_
      first
        | exact bare_out (by rw [bareEv, if_pos (by omega)]; rfl)
        | exact bare_out (by rw [bareEv, if_neg (by omega), if_pos (by omega)]; rfl)
        | exact bare_out (by rw [bareEv, if_neg (by omega), if_neg (by omega), if_pos (by omega)]; rfl)
        | exact bare_out (by rw [bareEv, if_neg (by omega), if_neg (by omega), if_neg (by omega)]; rfl)
     ·have hb22R := hb22; try simp only [z1, z2, z3, z4, z5, z6, ne_eq, z7, z8, z9, z10, z11, z12] at hb22
      refine pwp_seq_plain rfl fun K25 hK25 => ?_
      refine p_step rfl (e_eq rfl rfl) trivial ?_
      refine p_step rfl (e_assign (v := .sc _) rfl) trivial ?_
      refine p_end (hK25 _ ?_); clear hK25 K25
      refine pwp_cond rfl (fun hb26 => ?_) (fun hb26 => ?_)
      ·have hb26R := hb26; try simp only [z1, z2, z3, z4, z5, z6, ne_eq, z7, z8, z9, z10, z11, z12] at hb26
       refine pwp_plain rfl fun K27 hK27 => ?_
       refine p_step rfl (e_faP (pl := [(0, 1, false), (1, 1, false), (2, 1, false), (3, 1, false), (4, 1, false), (5, 1, false)]) rfl (by kernel_rfl) (by kernel_rfl) (by decide) rfl) trivial ?_
       refine p_store rfl (e_store1 rfl ((hset_ne (key_ne rfl)).trans (hset_self _ _ _)) rfl rfl rfl (by decide) (by kernel_rfl) rfl (by kernel_rfl)) trivial ?_
       refine p_step rfl (e_faP (pl := [(0, 1, false), (1, 1, false), (2, 1, false), (3, 1, false), (4, 1, false), (5, 1, false)]) rfl (by kernel_rfl) (by kernel_rfl) (by decide) rfl) trivial ?_
       refine p_store rfl (e_store1 rfl (hset_self _ _ _) rfl rfl rfl (by decide) (by kernel_rfl) rfl (by kernel_rfl)) trivial ?_
       refine p_end (hK27 _ ?_); clear hK27 K27
       refine block_norm ?_
       refine seq_norm (hK3 _ ?_); clear hK3 K3
       refine pwp_seq_plain rfl fun K28 hK28 => ?_
       refine p_step rfl (e_loadHA (n := 6) rfl (hset_self _ _ _) (by kernel_rfl) (by kernel_rfl) (by kernel_rfl) (by exact Nat.zero_lt_one) (by decide) rfl) trivial ?_
       refine p_store rfl (e_storeA rfl ((hset_ne (key_ne rfl)).trans ((hset_ne (key_ne rfl)).trans (hset_self _ _ _))) rfl rfl rfl (by kernel_rfl) rfl (by kernel_rfl)) trivial ?_
       refine p_end (hK28 _ ?_); clear hK28 K28
       refine pwp_ret ?_
       refine endC rfl (hset_self _ _ _) (by kernel_rfl) (by kernel_rfl) (by kernel_rfl) rfl ?_
       first
         | exact bare_out (by rw [bareEv, if_pos (by omega)]; rfl)
         | exact bare_out (by rw [bareEv, if_neg (by omega), if_pos (by omega)]; rfl)
         | exact bare_out (by rw [bareEv, if_neg (by omega), if_neg (by omega), if_pos (by omega)]; rfl)
         | exact bare_out (by rw [bareEv, if_neg (by omega), if_neg (by omega), if_neg (by omega)]; rfl)
      ·have hb26R := hb26; try simp only [z1, z2, z3, z4, z5, z6, ne_eq, z7, z8, z9, z10, z11, z12] at hb26
       refine pwp_skip ?_
       refine block_norm ?_
       refine seq_norm (hK3 _ ?_); clear hK3 K3
       refine pwp_seq_plain rfl fun K29 hK29 => ?_
       refine p_step rfl (e_loadHA (n := 6) rfl ((hset_ne (key_ne rfl)).trans (hset_self _ _ _)) (by kernel_rfl) (by kernel_rfl) (by kernel_rfl) (by exact Nat.zero_lt_one) (by decide) rfl) trivial ?_
       refine p_store rfl (e_storeA rfl (hset_self _ _ _) rfl rfl rfl (by kernel_rfl) rfl (by kernel_rfl)) trivial ?_
       refine p_end (hK29 _ ?_); clear hK29 K29
       refine pwp_ret ?_
       refine endC rfl (hset_self _ _ _) (by kernel_rfl) (by kernel_rfl) (by kernel_rfl) rfl ?_
       first
         | exact bare_out (by rw [bareEv, if_pos (by omega)]; rfl)
         | exact bare_out (by rw [bareEv, if_neg (by omega), if_pos (by omega)]; rfl)
         | exact bare_out (by rw [bareEv, if_neg (by omega), if_neg (by omega), if_pos (by omega)]; rfl)
         | exact bare_out (by rw [bareEv, if_neg (by omega), if_neg (by omega), if_neg (by omega)]; rfl)
  ·have hb6R := hb6; try simp only [z1, z2, z3, z4, z5, z6, ne_eq, z7, z8, z9, z10, z11, z12] at hb6
   refine pwp_plain rfl fun K30 hK30 => ?_
   refine p_step rfl (e_eq rfl rfl) trivial ?_
   refine p_step rfl (e_assign (v := .sc _) rfl) trivial ?_
   refine p_end (hK30 _ ?_); clear hK30 K30
   refine seq_norm (hK5 _ ?_); clear hK5 K5
   refine pwp_cond rfl (fun hb31 => ?_) (fun hb31 => ?_)
   ·have hb31R := hb31; try simp only [z1, z2, z3, z4, z5, z6, ne_eq, z7, z8, z9, z10, z11, z12] at hb31
    refine pwp_plain rfl fun K32 hK32 => ?_
    refine p_step rfl (e_faP (pl := [(0, 1, false), (1, 1, false), (2, 1, false), (3, 1, false), (4, 1, false), (5, 1, false)]) rfl (by kernel_rfl) (by kernel_rfl) (by decide) rfl) trivial ?_
    refine p_store rfl (e_store1 rfl ((hset_ne (key_ne rfl)).trans (hset_self _ _ _)) rfl rfl rfl (by decide) (by kernel_rfl) rfl (by kernel_rfl)) trivial ?_
    refine p_end (hK32 _ ?_); clear hK32 K32
    refine block_norm ?_
    refine seq_norm (hK3 _ ?_); clear hK3 K3
    refine pwp_seq_plain rfl fun K33 hK33 => ?_
    refine p_step rfl (e_loadHA (n := 6) rfl (hset_self _ _ _) (by kernel_rfl) (by kernel_rfl) (by kernel_rfl) (by exact Nat.zero_lt_one) (by decide) rfl) trivial ?_
    refine p_store rfl (e_storeA rfl ((hset_ne (key_ne rfl)).trans (hset_self _ _ _)) rfl rfl rfl (by kernel_rfl) rfl (by kernel_rfl)) trivial ?_
    refine p_end (hK33 _ ?_); clear hK33 K33
    refine pwp_ret ?_
    refine endC rfl (hset_self _ _ _) (by kernel_rfl) (by kernel_rfl) (by kernel_rfl) rfl ?_
    first
      | exact bare_out (by rw [bareEv, if_pos (by omega)]; rfl)
      | exact bare_out (by rw [bareEv, if_neg (by omega), if_pos (by omega)]; rfl)
      | exact bare_out (by rw [bareEv, if_neg (by omega), if_neg (by omega), if_pos (by omega)]; rfl)
      | exact bare_out (by rw [bareEv, if_neg (by omega), if_neg (by omega), if_neg (by omega)]; rfl)
   ·have hb31R := hb31; try simp only [z1, z2, z3, z4, z5, z6, ne_eq, z7, z8, z9, z10, z11, z12] at hb31
    refine pwp_seq_seq ?_
    refine pwp_seq_plain rfl fun K34 hK34 => ?_
    refine p_step rfl (e_eq rfl rfl) trivial ?_
    refine p_step rfl (e_assign (v := .sc _) rfl) trivial ?_
    refine p_end (hK34 _ ?_); clear hK34 K34
    refine pwp_seq_cond rfl fun K35 hK35 => ⟨fun hb36 => ?_, fun hb36 => ?_⟩
    ·have hb36R := hb36; try simp only [z1, z2, z3, z4, z5, z6, ne_eq, z7, z8, z9, z10, z11, z12] at hb36
     refine pwp_skip ?_
     refine seq_norm (hK35 _ ?_); clear hK35 K35
     refine pwp_cond rfl (fun hb37 => ?_) (fun hb37 => ?_)
     ·have hb37R := hb37; try simp only [z1, z2, z3, z4, z5, z6, ne_eq, z7, z8, z9, z10, z11, z12] at hb37
      refine pwp_plain rfl fun K38 hK38 => ?_
      refine p_step rfl (e_faP (pl := [(0, 1, false), (1, 1, false), (2, 1, false), (3, 1, false), (4, 1, false), (5, 1, false)]) rfl (by kernel_rfl) (by kernel_rfl) (by decide) rfl) trivial ?_
      refine p_store rfl (e_store1 rfl ((hset_ne (key_ne rfl)).trans (hset_self _ _ _)) rfl rfl rfl (by decide) (by kernel_rfl) rfl (by kernel_rfl)) trivial ?_
      refine p_end (hK38 _ ?_); clear hK38 K38
      refine block_norm ?_
      refine seq_norm (hK3 _ ?_); clear hK3 K3
      refine pwp_seq_plain rfl fun K39 hK39 => ?_
      refine p_step rfl (e_loadHA (n := 6) rfl (hset_self _ _ _) (by kernel_rfl) (by kernel_rfl) (by kernel_rfl) (by exact Nat.zero_lt_one) (by decide) rfl) trivial ?_
      refine p_store rfl (e_storeA rfl ((hset_ne (key_ne rfl)).trans (hset_self _ _ _)) rfl rfl rfl (by kernel_rfl) rfl (by kernel_rfl)) trivial ?_
      refine p_end (hK39 _ ?_); clear hK39 K39
      refine pwp_ret ?_
      refine endC rfl (hset_self _ _ _) (by kernel_rfl) (by kernel_rfl) (by kernel_rfl) rfl ?_
      first
        | exact bare_out (by rw [bareEv, if_pos (by omega)]; rfl)
        | exact bare_out (by rw [bareEv, if_neg (by omega), if_pos (by omega)]; rfl)
        | exact bare_out (by rw [bareEv, if_neg (by omega), if_neg (by omega), if_pos (by omega)]; rfl)
        | exact bare_out (by rw [bareEv, if_neg (by omega), if_neg (by omega), if_neg (by omega)]; rfl)
     ·have hb37R := hb37; try simp only [z1, z2, z3, z4, z5, z6, ne_eq, z7, z8, z9, z10, z11, z12] at hb37
      refine pwp_seq_plain rfl fun K40 hK40 => ?_
      refine p_step rfl (e_eq rfl rfl) trivial ?_
      refine p_step rfl (e_assign (v := .sc _) rfl) trivial ?_
      refine p_end (hK40 _ ?_); clear hK40 K40
      refine pwp_cond rfl (fun hb41 => ?_) (fun hb41 => ?_)
      ·have hb41R := hb41; try simp only [z1, z2, z3, z4, z5, z6, ne_eq, z7, z8, z9, z10, z11, z12] at hb41
       refine pwp_plain rfl fun K42 hK42 => ?_
       refine p_step rfl (e_faP (pl := [(0, 1, false), (1, 1, false), (2, 1, false), (3, 1, false), (4, 1, false), (5, 1, false)]) rfl (by kernel_rfl) (by kernel_rfl) (by decide) rfl) trivial ?_
       refine p_store rfl (e_store1 rfl ((hset_ne (key_ne rfl)).trans (hset_self _ _ _)) rfl rfl rfl (by decide) (by kernel_rfl) rfl (by kernel_rfl)) trivial ?_
       refine p_step rfl (e_faP (pl := [(0, 1, false), (1, 1, false), (2, 1, false), (3, 1, false), (4, 1, false), (5, 1, false)]) rfl (by kernel_rfl) (by kernel_rfl) (by decide) rfl) trivial ?_
       refine p_store rfl (e_store1 rfl (hset_self _ _ _) rfl rfl rfl (by decide) (by kernel_rfl) rfl (by kernel_rfl)) trivial ?_
       refine p_end (hK42 _ ?_); clear hK42 K42
       refine block_norm ?_
       refine seq_norm (hK3 _ ?_); clear hK3 K3
       refine pwp_seq_plain rfl fun K43 hK43 => ?_
       refine p_step rfl (e_loadHA (n := 6) rfl (hset_self _ _ _) (by kernel_rfl) (by kernel_rfl) (by kernel_rfl) (by exact Nat.zero_lt_one) (by decide) rfl) trivial ?_
       refine p_store rfl (e_storeA rfl ((hset_ne (key_ne rfl)).trans ((hset_ne (key_ne rfl)).trans (hset_self _ _ _))) rfl rfl rfl (by kernel_rfl) rfl (by kernel_rfl)) trivial ?_
       refine p_end (hK43 _ ?_); clear hK43 K43
       refine pwp_ret ?_
       refine endC rfl (hset_self _ _ _) (by kernel_rfl) (by kernel_rfl) (by kernel_rfl) rfl ?_
       first
         | exact bare_out (by rw [bareEv, if_pos (by omega)]; rfl)
         | exact bare_out (by rw [bareEv, if_neg (by omega), if_pos (by omega)]; rfl)
         | exact bare_out (by rw [bareEv, if_neg (by omega), if_neg (by omega), if_pos (by omega)]; rfl)
         | exact bare_out (by rw [bareEv, if_neg (by omega), if_neg (by omega), if_neg (by omega)]; rfl)
      ·have hb41R := hb41; try simp only [z1, z2, z3, z4, z5, z6, ne_eq, z7, z8, z9, z10, z11, z12] at hb41
       refine pwp_skip ?_
       refine block_norm ?_
       refine seq_norm (hK3 _ ?_); clear hK3 K3
       refine pwp_seq_plain rfl fun K44 hK44 => ?_
       refine p_step rfl (e_loadHA (n := 6) rfl ((hset_ne (key_ne rfl)).trans (hset_self _ _ _)) (by kernel_rfl) (by kernel_rfl) (by kernel_rfl) (by exact Nat.zero_lt_one) (by decide) rfl) trivial ?_
       refine p_store rfl (e_storeA rfl (hset_self _ _ _) rfl rfl rfl (by kernel_rfl) rfl (by kernel_rfl)) trivial ?_
       refine p_end (hK44 _ ?_); clear hK44 K44
       refine pwp_ret ?_
       refine endC rfl (hset_self _ _ _) (by kernel_rfl) (by kernel_rfl) (by kernel_rfl) rfl ?_
       first
         | exact bare_out (by rw [bareEv, if_pos (by omega)]; rfl)
         | exact bare_out (by rw [bareEv, if_neg (by omega), if_pos (by omega)]; rfl)
         | exact bare_out (by rw [bareEv, if_neg (by omega), if_neg (by omega), if_pos (by omega)]; rfl)
         | exact bare_out (by rw [bareEv, if_neg (by omega), if_neg (by omega), if_neg (by omega)]; rfl)
    ·have hb36R := hb36; try simp only [z1, z2, z3, z4, z5, z6, ne_eq, z7, z8, z9, z10, z11, z12] at hb36
     refine pwp_plain rfl fun K45 hK45 => ?_
     refine p_step rfl (e_eq rfl rfl) trivial ?_
     refine p_step rfl (e_assign (v := .sc _) rfl) trivial ?_
     refine p_end (hK45 _ ?_); clear hK45 K45
     refine seq_norm (hK35 _ ?_); clear hK35 K35
     refine pwp_cond rfl (fun hb46 => ?_) (fun hb46 => ?_)
     ·have hb46R := hb46; try simp only [z1, z2, z3, z4, z5, z6, ne_eq, z7, z8, z9, z10, z11, z12] at hb46
      refine pwp_plain rfl fun K47 hK47 => ?_
      refine p_step rfl (e_faP (pl := [(0, 1, false), (1, 1, false), (2, 1, false), (3, 1, false), (4, 1, false), (5, 1, false)]) rfl (by kernel_rfl) (by kernel_rfl) (by decide) rfl) trivial ?_
      refine p_store rfl (e_store1 rfl ((hset_ne (key_ne rfl)).trans (hset_self _ _ _)) rfl rfl rfl (by decide) (by kernel_rfl) rfl (by kernel_rfl)) trivial ?_
      refine p_end (hK47 _ ?_); clear hK47 K47
      refine block_norm ?_
      refine seq_norm (hK3 _ ?_); clear hK3 K3
      refine pwp_seq_plain rfl fun K48 hK48 => ?_
      refine p_step rfl (e_loadHA (n := 6) rfl (hset_self _ _ _) (by kernel_rfl) (by kernel_rfl) (by kernel_rfl) (by exact Nat.zero_lt_one) (by decide) rfl) trivial ?_
      refine p_store rfl (e_storeA rfl ((hset_ne (key_ne rfl)).trans (hset_self _ _ _)) rfl rfl rfl (by kernel_rfl) rfl (by kernel_rfl)) trivial ?_
      refine p_end (hK48 _ ?_); clear hK48 K48
      refine pwp_ret ?_
      refine endC rfl (hset_self _ _ _) (by kernel_rfl) (by kernel_rfl) (by kernel_rfl) rfl ?_
      first
        | exact bare_out (by rw [bareEv, if_pos (by omega)]; rfl)
        | exact bare_out (by rw [bareEv, if_neg (by omega), if_pos (by omega)]; rfl)
        | exact bare_out (by rw [bareEv, if_neg (by omega), if_neg (by omega), if_pos (by omega)]; rfl)
        | exact bare_out (by rw [bareEv, if_neg (by omega), if_neg (by omega), if_neg (by omega)]; rfl)
     ·have hb46R := hb46; try simp only [z1, z2, z3, z4, z5, z6, ne_eq, z7, z8, z9, z10, z11, z12] at hb46
      refine pwp_seq_plain rfl fun K49 hK49 => ?_
      refine p_step rfl (e_eq rfl rfl) trivial ?_
      refine p_step rfl (e_assign (v := .sc _) rfl) trivial ?_
      refine p_end (hK49 _ ?_); clear hK49 K49
      refine pwp_cond rfl (fun hb50 => ?_) (fun hb50 => ?_)
      ·have hb50R := hb50; try simp only [z1, z2, z3, z4, z5, z6, ne_eq, z7, z8, z9, z10, z11, z12] at hb50
       refine pwp_plain rfl fun K51 hK51 => ?_
       refine p_step rfl (e_faP (pl := [(0, 1, false), (1, 1, false), (2, 1, false), (3, 1, false), (4, 1, false), (5, 1, false)]) rfl (by kernel_rfl) (by kernel_rfl) (by decide) rfl) trivial ?_
       refine p_store rfl (e_store1 rfl ((hset_ne (key_ne rfl)).trans (hset_self _ _ _)) rfl rfl rfl (by decide) (by kernel_rfl) rfl (by kernel_rfl)) trivial ?_
       refine p_step rfl (e_faP (pl := [(0, 1, false), (1, 1, false), (2, 1, false), (3, 1, false), (4, 1, false), (5, 1, false)]) rfl (by kernel_rfl) (by kernel_rfl) (by decide) rfl) trivial ?_
       refine p_store rfl (e_store1 rfl (hset_self _ _ _) rfl rfl rfl (by decide) (by kernel_rfl) rfl (by kernel_rfl)) trivial ?_
       refine p_end (hK51 _ ?_); clear hK51 K51
       refine block_norm ?_
       refine seq_norm (hK3 _ ?_); clear hK3 K3
       refine pwp_seq_plain rfl fun K52 hK52 => ?_
       refine p_step rfl (e_loadHA (n := 6) rfl (hset_self _ _ _) (by kernel_rfl) (by kernel_rfl) (by kernel_rfl) (by exact Nat.zero_lt_one) (by decide) rfl) trivial ?_
       refine p_store rfl (e_storeA rfl ((hset_ne (key_ne rfl)).trans ((hset_ne (key_ne rfl)).trans (hset_self _ _ _))) rfl rfl rfl (by kernel_rfl) rfl (by kernel_rfl)) trivial ?_
       refine p_end (hK52 _ ?_); clear hK52 K52
       refine pwp_ret ?_
       refine endC rfl (hset_self _ _ _) (by kernel_rfl) (by kernel_rfl) (by kernel_rfl) rfl ?_
       first
         | exact bare_out (by rw [bareEv, if_pos (by omega)]; rfl)
         | exact bare_out (by rw [bareEv, if_neg (by omega), if_pos (by omega)]; rfl)
         | exact bare_out (by rw [bareEv, if_neg (by omega), if_neg (by omega), if_pos (by omega)]; rfl)
         | exact bare_out (by rw [bareEv, if_neg (by omega), if_neg (by omega), if_neg (by omega)]; rfl)
      ·have hb50R := hb50; try simp only [z1, z2, z3, z4, z5, z6, ne_eq, z7, z8, z9, z10, z11, z12] at hb50
       refine pwp_skip ?_
       refine block_norm ?_
       refine seq_norm (hK3 _ ?_); clear hK3 K3
       refine pwp_seq_plain rfl fun K53 hK53 => ?_
       refine p_step rfl (e_loadHA (n := 6) rfl ((hset_ne (key_ne rfl)).trans (hset_self _ _ _)) (by kernel_rfl) (by kernel_rfl) (by kernel_rfl) (by exact Nat.zero_lt_one) (by decide) rfl) trivial ?_
       refine p_store rfl (e_storeA rfl (hset_self _ _ _) rfl rfl rfl (by kernel_rfl) rfl (by kernel_rfl)) trivial ?_
       refine p_end (hK53 _ ?_); clear hK53 K53
       refine pwp_ret ?_
       refine endC rfl (hset_self _ _ _) (by kernel_rfl) (by kernel_rfl) (by kernel_rfl) rfl ?_
       first
         | exact bare_out (by rw [bareEv, if_pos (by omega)]; rfl)
         | exact bare_out (by rw [bareEv, if_neg (by omega), if_pos (by omega)]; rfl)
         | exact bare_out (by rw [bareEv, if_neg (by omega), if_neg (by omega), if_pos (by omega)]; rfl)
         | exact bare_out (by rw [bareEv, if_neg (by omega), if_neg (by omega), if_neg (by omega)]; rfl)


def badEv (e : Ev) : Prop := e.day < 0 ∨ 20000 < e.day ∨ e.kind < 0 ∨ 6 < e.kind ∨ e.number < 0 ∨ 9999 < e.number
instance (e : Ev) : Decidable (badEv e) := inferInstanceAs (Decidable (_ ∨ _))
def badNm (e : Ev) : Bool := if e.kind = 3 then !decide (e.platform = ⟨#[]⟩) else !isNm e.platform
/-- The error of an event behind a day; op: its defect is open. -/
def evE (e : Ev) (last : Int) (op : Bool) : Int :=
  if badEv e then 2 else if e.day < last then 10 else if badNm e = true then 4 else if plainE e = false then 3 else if e.kind = 4 ∧ op = true then 5 else if e.kind = 5 ∧ op = false then 6 else 0
theorem evE_2 {e : Ev} {l : Int} {op : Bool} (h : badEv e) : evE e l op = 2 := by rw [evE, if_pos h]
theorem evE_10 {e : Ev} {l : Int} {op : Bool} (h : ¬ badEv e) (h1 : e.day < l) : evE e l op = 10 := by rw [evE, if_neg h, if_pos h1]
theorem evE_4 {e : Ev} {l : Int} {op : Bool} (h : ¬ badEv e) (h1 : ¬ e.day < l) (h2 : badNm e = true) : evE e l op = 4 := by rw [evE, if_neg h, if_neg h1, if_pos h2]
theorem evE_3 {e : Ev} {l : Int} {op : Bool} (h : ¬ badEv e) (h1 : ¬ e.day < l) (h2 : badNm e = false) (h3 : plainE e = false) : evE e l op = 3 := by rw [evE, if_neg h, if_neg h1, if_neg (by rw [h2]; simp), if_pos h3]
theorem evE_5 {e : Ev} {l : Int} {op : Bool} (h : ¬ badEv e) (h1 : ¬ e.day < l) (h2 : badNm e = false) (h3 : plainE e = true) (h4 : e.kind = 4 ∧ op = true) : evE e l op = 5 := by rw [evE, if_neg h, if_neg h1, if_neg (by rw [h2]; simp), if_neg (by rw [h3]; simp), if_pos h4]
theorem evE_6 {e : Ev} {l : Int} {op : Bool} (h : ¬ badEv e) (h1 : ¬ e.day < l) (h2 : badNm e = false) (h3 : plainE e = true) (h5 : e.kind = 5 ∧ op = false) : evE e l op = 6 := by rw [evE, if_neg h, if_neg h1, if_neg (by rw [h2]; simp), if_neg (by rw [h3]; simp), if_neg (by omega), if_pos h5]
theorem evE_0 {e : Ev} {l : Int} {op : Bool} (h : ¬ badEv e) (h1 : ¬ e.day < l) (h2 : badNm e = false) (h3 : plainE e = true) (h4 : ¬ e.kind = 4 ∨ op = false) (h5 : ¬ e.kind = 5 ∨ op = true) : evE e l op = 0 := by
  rw [evE, if_neg h, if_neg h1, if_neg (by rw [h2]; simp), if_neg (by rw [h3]; simp), if_neg (by rintro ⟨a, b⟩; rcases h4 with h4 | h4; exact h4 a; rw [b] at h4; cases h4), if_neg (by rintro ⟨a, b⟩; rcases h5 with h5 | h5; exact h5 a; rw [b] at h5; cases h5)]
def openE (pre : List Ev) (e : Ev) : Bool := hasI (openL e.platform false true pre) e.number
def goR : List Ev → Int → List Ev → Int
  | _, _, [] => 0
  | pre, last, e :: l => if evE e last (openE pre e) = 0 then goR (pre ++ [e]) e.day l else evE e last (openE pre e)
/-- The first error of a record, or 0. -/
def recE (evs : List Ev) : Int := if 400 < evs.length then 8 else goR [] 0 evs
theorem recE_big {evs : List Ev} (h : 400 < evs.length) : 8 = recE evs := by rw [recE, if_pos h]
theorem recE_go {evs : List Ev} {z : Int} (h : evs.length ≤ 400) (h2 : goR [] 0 evs = z) : z = recE evs := by rw [recE, if_neg (by omega), h2]
theorem goR_stop {evs pre l : List Ev} {e : Ev} {last z : Int} (hinv : goR [] 0 evs = goR pre last (e :: l)) (hz : z ≠ 0) (hE : evE e last (openE pre e) = z) : goR [] 0 evs = z := by
  rw [hinv, goR, hE, if_neg hz]
theorem goR_step {evs pre l : List Ev} {e : Ev} {last : Int} (hinv : goR [] 0 evs = goR pre last (e :: l)) (hE : evE e last (openE pre e) = 0) : goR [] 0 evs = goR (pre ++ [e]) e.day l := by
  rw [hinv, goR, hE, if_pos rfl]
theorem pred_get {evs : List Ev} {k : Nat} {z : Ev} (h : evs[k - 1]? = some z) : evs[((k : Int) - 1).toNat]? = some z := by
  rw [show ((k : Int) - 1).toNat = k - 1 by omega]; exact h
theorem nm_bad {x : Ev} (h : (¬ decide (x.kind = 3) = decide (x.platform = ⟨#[]⟩)) ∨ (¬ x.platform = ⟨#[]⟩ ∧ isNm x.platform = false)) : badNm x = true := by
  unfold badNm
  by_cases h3 : x.kind = 3 <;> by_cases hp : x.platform = ⟨#[]⟩ <;> simp_all [isNm_empty]
theorem nm_good {x : Ev} (h : decide (x.kind = 3) = decide (x.platform = ⟨#[]⟩) ∧ (x.platform = ⟨#[]⟩ ∨ isNm x.platform = true)) : badNm x = false := by
  unfold badNm
  by_cases h3 : x.kind = 3 <;> by_cases hp : x.platform = ⟨#[]⟩ <;> simp_all [isNm_empty]

theorem fr21 : (inFrame Try.f21.ntmps (Try.f21.body.getD .skip) && Try.f21.results.toList.all (resScope Try.f21.ntmps)) = true := by kernel_rfl
theorem refCheckRecord (evs : List Ev) (hl : evs.length ≤ 405) : PCalls Try.prog 21 [.lit true 6 (evs.map Ev.enc)] (.int (recE evs)) := by
  refine PCalls.of_code Try.func21 rfl rfl (by kernel_rfl) mixed fr21 (by show _ ≤ 91; simp) (.sc _) ?_
  refine pwp_seq_plain rfl fun K1 hK1 => ?_
  refine p_step rfl (e_assign (v := .sc _) rfl) trivial ?_
  refine p_end (hK1 _ ?_); clear hK1 K1
  refine pwp_seq_seq ?_
  refine pwp_seq_plain rfl fun K2 hK2 => ?_
  refine p_step rfl (e_move (v := .lit _ _ _) rfl) trivial ?_
  refine p_step rfl (e_len rfl (by kernel_rfl)) trivial ?_
  refine p_step rfl (e_gt rfl rfl) trivial ?_
  refine p_end (hK2 _ ?_); clear hK2 K2
  refine pwp_seq_cond rfl fun K3 hK3 => ⟨fun hb4 => ?_, fun hb4 => ?_⟩
  ·have hb4R := hb4; try simp only [z1, z2, z3, z4, z5, z6, ne_eq, z7, z8, z9, z10, z11, z12] at hb4
   refine pwp_seq_plain rfl fun K5 hK5 => ?_
   refine p_step rfl (e_assign (v := .sc _) rfl) trivial ?_
   refine p_end (hK5 _ ?_); clear hK5 K5
   refine pwp_ret ?_
   refine ret_seq ?_
   refine end1 (v := .sc _) rfl ?_
   first
     | exact out_i (recE_big (by omega))
     | exact out_i (recE_go (by omega) (goR_stop hinv (by decide) (evE_2 (by unfold badEv; omega))))
     | exact out_i (recE_go (by omega) (goR_stop hinv (by decide) (evE_10 (by unfold badEv; omega) (by omega))))
     | exact out_i (recE_go (by omega) (goR_stop hinv (by decide) (evE_4 (by unfold badEv; omega) (by omega) (nm_bad (by assumption)))))
     | exact out_i (recE_go (by omega) (goR_stop hinv (by decide) (evE_3 (by unfold badEv; omega) (by omega) (nm_good (by assumption)) (by assumption))))
     | exact out_i (recE_go (by omega) (goR_stop hinv (by decide) (evE_5 (by unfold badEv; omega) (by omega) (nm_good (by assumption)) (by assumption) (by assumption))))
     | exact out_i (recE_go (by omega) (goR_stop hinv (by decide) (evE_6 (by unfold badEv; omega) (by omega) (nm_good (by assumption)) (by assumption) (by assumption))))
     | exact out_i (recE_go (by omega) hinv)
  ·have hb4R := hb4; try simp only [z1, z2, z3, z4, z5, z6, ne_eq, z7, z8, z9, z10, z11, z12] at hb4
   refine pwp_skip ?_
   refine seq_norm (hK3 _ ?_); clear hK3 K3
   refine pwp_seq_seq ?_
   refine pwp_seq_plain rfl fun K6 hK6 => ?_
   refine p_step rfl (e_assign (v := .sc _) rfl) trivial ?_
   refine p_end (hK6 _ ?_); clear hK6 K6
   refine pwp_seq_block fun K7 hK7 => ?_
   refine pwp_loopR (α := Nat × Int) [0] (fun (a8 : Nat × Int) => [(3, .int (a8.1))]) (fun (a8 : Nat × Int) (h : Heap) (_ : Nat → Nat) => ((a8.1) ≤ evs.length) ∧ (goR [] 0 evs = goR (evs.take (a8.1)) (a8.2) (evs.drop (a8.1))) ∧ (∃ z : Ev, (0 < (a8.1) → evs[(a8.1) - 1]? = some z ∧ z.day = (a8.2)) ∧ ((a8.1) = 0 → (a8.2) = 0))) (fun (a8 : Nat × Int) => evs.length - (a8.1)) (0, 0) (by exact ⟨rfl, trivial⟩) (by exact ⟨by exact Nat.zero_le _, by exact rfl, by exact ⟨default, fun h => absurd h (Nat.lt_irrefl 0), fun _ => rfl⟩⟩) fun a8 r9 h10 c11 hj12 => ?_
   obtain ⟨k, ld⟩ := a8
   obtain ⟨hk, hinv, hld⟩ := hj12
   try dsimp only at hk
   try dsimp only at hinv
   try dsimp only at hld
   show pwp _ _ (loopQ _ _ _) ⟨sets (mix _ _ _) [(3, .int k)], _, _⟩
   refine pwp_seq_seq ?_
   refine pwp_seq_plain rfl fun K13 hK13 => ?_
   refine p_step rfl (e_move (v := .sc _) rfl) trivial ?_
   refine p_step rfl (e_move (v := .lit _ _ _) rfl) trivial ?_
   refine p_step rfl (e_len rfl (by kernel_rfl)) trivial ?_
   refine p_step rfl (e_lt rfl rfl) trivial ?_
   refine p_end (hK13 _ ?_); clear hK13 K13
   refine pwp_seq_cond rfl fun K14 hK14 => ⟨fun hb15 => ?_, fun hb15 => ?_⟩
   ·have hb15R := hb15; try simp only [z1, z2, z3, z4, z5, z6, ne_eq, z7, z8, z9, z10, z11, z12] at hb15
    obtain ⟨x, hx, hd, ht⟩ := get_lt (xs := evs) (i := k) (by omega)
    rw [hd] at hinv
    obtain ⟨z, hz, hz0⟩ := hld
    have hzd : 0 < k → z.day = ld := fun h => (hz h).2
    refine pwp_skip ?_
    refine seq_norm (hK14 _ ?_); clear hK14 K14
    refine pwp_seq_block fun K16 hK16 => ?_
    refine pwp_seq_plain rfl fun K17 hK17 => ?_
    refine p_step rfl (e_move (v := .lit _ _ _) rfl) trivial ?_
    refine p_step rfl (e_move (v := .sc _) rfl) trivial ?_
    refine p_step rfl (e_ixa rfl rfl (by kernel_rfl) (by kernel_rfl) (by simp only [List.length_map]; omega)) trivial ?_
    refine p_step rfl (e_loadA (n := 6) rfl (by kernel_rfl) (by kernel_rfl) (by kernel_rfl) (by simp only [List.length_map]; omega) (by decide) (by first | exact agg_map hx rfl)) trivial ?_
    refine p_new rfl (e_alloc (cs := [.int 0, .int 0, .str ByteArray.empty, .int 0, .bool false, .bool false]) (n := 6) (by kernel_rfl) rfl (by decide)) (ob_alloc (by decide)) ?_
    refine p_store rfl (e_storeA rfl (hset_self _ _ _) rfl rfl rfl (by kernel_rfl) rfl (by kernel_rfl)) trivial ?_
    refine p_end (hK17 _ ?_); clear hK17 K17
    refine pwp_seq_seq ?_
    refine pwp_seq_cutG [0, 3, 4] [(34, .bool (((!(decide (0 ≤ x.day ∧ x.day ≤ 20000))) || (!(decide ((0) ≤ x.kind ∧ x.kind ≤ (6))))) || (!(decide ((0) ≤ x.number ∧ x.number ≤ (9999))))))] (fun K18 hK18 => ?_) (fun r19 => ?_)
    ·skip
     refine pwp_gops rfl fun K20 hK20 => ?_
     refine g_begin ?_
     refine g_step rfl rfl rfl rfl (e_faP (pl := [(0, 1, false), (1, 1, false), (2, 1, false), (3, 1, false), (4, 1, false), (5, 1, false)]) rfl (by kernel_rfl) (by kernel_rfl) (by decide) rfl) trivial ?_
     refine g_step rfl rfl rfl rfl (e_loadH (v := .sc _) rfl (hset_self _ _ _) (by kernel_rfl) (by kernel_rfl) (by kernel_rfl) (by exact Nat.zero_lt_one) (by decide) rfl) trivial ?_
     refine g_call rfl rfl rfl rfl (.cons inn_sc .nil) (IsDay _) ?_
     refine g_step rfl rfl rfl rfl (e_not rfl) trivial ?_
     refine g_step rfl rfl rfl rfl (e_move (v := .sc _) rfl) trivial ?_
     refine g_cases (fun hb21 => ?_) (fun hb21 => ?_)
     ·have hb21R := hb21; try simp only [z1, z2, z3, z4, z5, z6, ne_eq, z7, z8, z9, z10, z11, z12] at hb21
      refine g_skip rfl rfl rfl ?_
      refine g_skip rfl rfl rfl ?_
      refine g_nocall rfl rfl rfl ?_
      refine g_skip rfl rfl rfl ?_
      refine g_step rfl rfl rfl rfl (e_pickT (v := .sc _) rfl rfl) trivial ?_
      refine g_step rfl rfl rfl rfl (e_move (v := .sc _) rfl) trivial ?_
      refine g_skip rfl rfl rfl ?_
      refine g_skip rfl rfl rfl ?_
      refine g_nocall rfl rfl rfl ?_
      refine g_skip rfl rfl rfl ?_
      refine g_step rfl rfl rfl rfl (e_pickT (v := .sc _) rfl rfl) trivial ?_
      refine g_end (ds := [24, 25, 26, 27, 30, 31, 32, 33]) rfl rfl (hK20 _ ?_); clear hK20 K20
      exact seq_norm (hK18 _ ⟨rfl, rfl, rfl, trivial⟩ ⟨(congrArg PV.bool (show (true : Bool) = (((!(decide (0 ≤ x.day ∧ x.day ≤ 20000))) || (!(decide ((0) ≤ x.kind ∧ x.kind ≤ (6))))) || (!(decide ((0) ≤ x.number ∧ x.number ≤ (9999))))) by first | rfl | ((try rw [hb21R]) <;> (first | rfl | (simp only [Bool.and_true, Bool.and_false, Bool.true_and, Bool.false_and, Bool.or_true, Bool.or_false, Bool.true_or, Bool.false_or, Bool.not_true, Bool.not_false, if_true, if_false, Bool.false_eq_true, reduceIte] <;> rfl))) | (simp only [hb21R, Bool.and_true, Bool.and_false, Bool.true_and, Bool.false_and, Bool.or_true, Bool.or_false, Bool.true_or, Bool.false_or, Bool.not_true, Bool.not_false, if_true, if_false, Bool.false_eq_true, reduceIte] <;> rfl))), trivial⟩)
     ·have hb21R := hb21; try simp only [z1, z2, z3, z4, z5, z6, ne_eq, z7, z8, z9, z10, z11, z12] at hb21
      refine g_step rfl rfl rfl rfl (e_faP (pl := [(0, 1, false), (1, 1, false), (2, 1, false), (3, 1, false), (4, 1, false), (5, 1, false)]) rfl (by kernel_rfl) (by kernel_rfl) (by decide) rfl) trivial ?_
      refine g_step rfl rfl rfl rfl (e_loadH (v := .sc _) rfl (hset_self _ _ _) (by kernel_rfl) (by kernel_rfl) (by kernel_rfl) (by exact Nat.zero_lt_one) (by decide) rfl) trivial ?_
      refine g_call rfl rfl rfl rfl (.cons inn_sc (.cons inn_sc (.cons inn_sc .nil))) (Within _ _ _) ?_
      refine g_step rfl rfl rfl rfl (e_not rfl) trivial ?_
      refine g_step rfl rfl rfl rfl (e_pickF (v := .sc _) rfl rfl) trivial ?_
      refine g_step rfl rfl rfl rfl (e_move (v := .sc _) rfl) trivial ?_
      refine g_cases (fun hb22 => ?_) (fun hb22 => ?_)
      ·have hb22R := hb22; try simp only [z1, z2, z3, z4, z5, z6, ne_eq, z7, z8, z9, z10, z11, z12] at hb22
       refine g_skip rfl rfl rfl ?_
       refine g_skip rfl rfl rfl ?_
       refine g_nocall rfl rfl rfl ?_
       refine g_skip rfl rfl rfl ?_
       refine g_step rfl rfl rfl rfl (e_pickT (v := .sc _) rfl rfl) trivial ?_
       refine g_end (ds := [24, 25, 26, 27, 30, 31, 32, 33]) rfl rfl (hK20 _ ?_); clear hK20 K20
       exact seq_norm (hK18 _ ⟨rfl, rfl, rfl, trivial⟩ ⟨(congrArg PV.bool (show (true : Bool) = (((!(decide (0 ≤ x.day ∧ x.day ≤ 20000))) || (!(decide ((0) ≤ x.kind ∧ x.kind ≤ (6))))) || (!(decide ((0) ≤ x.number ∧ x.number ≤ (9999))))) by first | rfl | ((try rw [hb22R]) <;> (try rw [hb21R]) <;> (first | rfl | (simp only [Bool.and_true, Bool.and_false, Bool.true_and, Bool.false_and, Bool.or_true, Bool.or_false, Bool.true_or, Bool.false_or, Bool.not_true, Bool.not_false, if_true, if_false, Bool.false_eq_true, reduceIte] <;> rfl))) | (simp only [hb21R, hb22R, Bool.and_true, Bool.and_false, Bool.true_and, Bool.false_and, Bool.or_true, Bool.or_false, Bool.true_or, Bool.false_or, Bool.not_true, Bool.not_false, if_true, if_false, Bool.false_eq_true, reduceIte] <;> rfl))), trivial⟩)
      ·have hb22R := hb22; try simp only [z1, z2, z3, z4, z5, z6, ne_eq, z7, z8, z9, z10, z11, z12] at hb22
       refine g_step rfl rfl rfl rfl (e_faP (pl := [(0, 1, false), (1, 1, false), (2, 1, false), (3, 1, false), (4, 1, false), (5, 1, false)]) rfl (by kernel_rfl) (by kernel_rfl) (by decide) rfl) trivial ?_
       refine g_step rfl rfl rfl rfl (e_loadH (v := .sc _) rfl (hset_self _ _ _) (by kernel_rfl) (by kernel_rfl) (by kernel_rfl) (by exact Nat.zero_lt_one) (by decide) rfl) trivial ?_
       refine g_call rfl rfl rfl rfl (.cons inn_sc (.cons inn_sc (.cons inn_sc .nil))) (Within _ _ _) ?_
       refine g_step rfl rfl rfl rfl (e_not rfl) trivial ?_
       refine g_step rfl rfl rfl rfl (e_pickF (v := .sc _) rfl rfl) trivial ?_
       refine g_end (ds := [24, 25, 26, 27, 30, 31, 32, 33]) rfl rfl (hK20 _ ?_); clear hK20 K20
       exact seq_norm (hK18 _ ⟨rfl, rfl, rfl, trivial⟩ ⟨(congrArg PV.bool (show ((!(decide ((0) ≤ x.number ∧ x.number ≤ (9999)))) : Bool) = (((!(decide (0 ≤ x.day ∧ x.day ≤ 20000))) || (!(decide ((0) ≤ x.kind ∧ x.kind ≤ (6))))) || (!(decide ((0) ≤ x.number ∧ x.number ≤ (9999))))) by first | rfl | ((try rw [hb22R]) <;> (try rw [hb21R]) <;> (first | rfl | (simp only [Bool.and_true, Bool.and_false, Bool.true_and, Bool.false_and, Bool.or_true, Bool.or_false, Bool.true_or, Bool.false_or, Bool.not_true, Bool.not_false, if_true, if_false, Bool.false_eq_true, reduceIte] <;> rfl))) | (simp only [hb21R, hb22R, Bool.and_true, Bool.and_false, Bool.true_and, Bool.false_and, Bool.or_true, Bool.or_false, Bool.true_or, Bool.false_or, Bool.not_true, Bool.not_false, if_true, if_false, Bool.false_eq_true, reduceIte] <;> rfl))), trivial⟩)
    ·skip
     refine pwp_seq_cond rfl fun K23 hK23 => ⟨fun hb24 => ?_, fun hb24 => ?_⟩
     ·have hb24R := hb24; try simp only [z1, z2, z3, z4, z5, z6, ne_eq, z7, z8, z9, z10, z11, z12] at hb24
      refine pwp_seq_plain rfl fun K25 hK25 => ?_
      refine p_step rfl (e_assign (v := .sc _) rfl) trivial ?_
      refine p_end (hK25 _ ?_); clear hK25 K25
      refine pwp_ret ?_
      refine ret_seq ?_
      refine ret_block ?_
      refine ret_seq ?_
      refine ret_loop ?_
      refine ret_block ?_
      refine ret_seq ?_
      refine end1 (v := .sc _) rfl ?_
      first
        | exact out_i (recE_big (by omega))
        | exact out_i (recE_go (by omega) (goR_stop hinv (by decide) (evE_2 (by unfold badEv; omega))))
        | exact out_i (recE_go (by omega) (goR_stop hinv (by decide) (evE_10 (by unfold badEv; omega) (by omega))))
        | exact out_i (recE_go (by omega) (goR_stop hinv (by decide) (evE_4 (by unfold badEv; omega) (by omega) (nm_bad (by assumption)))))
        | exact out_i (recE_go (by omega) (goR_stop hinv (by decide) (evE_3 (by unfold badEv; omega) (by omega) (nm_good (by assumption)) (by assumption))))
        | exact out_i (recE_go (by omega) (goR_stop hinv (by decide) (evE_5 (by unfold badEv; omega) (by omega) (nm_good (by assumption)) (by assumption) (by assumption))))
        | exact out_i (recE_go (by omega) (goR_stop hinv (by decide) (evE_6 (by unfold badEv; omega) (by omega) (nm_good (by assumption)) (by assumption) (by assumption))))
        | exact out_i (recE_go (by omega) hinv)
     ·have hb24R := hb24; try simp only [z1, z2, z3, z4, z5, z6, ne_eq, z7, z8, z9, z10, z11, z12] at hb24
      refine pwp_skip ?_
      refine seq_norm (hK23 _ ?_); clear hK23 K23
      refine pwp_seq_seq ?_
      refine pwp_seq_cutG [0, 3, 4] [(47, .bool ((decide ((0) < (k : Int))) && (decide (x.day < z.day))))] (fun K26 hK26 => ?_) (fun r27 => ?_)
      ·skip
       refine pwp_gops rfl fun K28 hK28 => ?_
       refine g_begin ?_
       refine g_step rfl rfl rfl rfl (e_move (v := .sc _) rfl) trivial ?_
       refine g_step rfl rfl rfl rfl (e_gt rfl rfl) trivial ?_
       refine g_step rfl rfl rfl rfl (e_move (v := .sc _) rfl) trivial ?_
       refine g_cases (fun hb29 => ?_) (fun hb29 => ?_)
       ·have hb29R := hb29; try simp only [z1, z2, z3, z4, z5, z6, ne_eq, z7, z8, z9, z10, z11, z12] at hb29
        refine g_step rfl rfl rfl rfl (e_faP (pl := [(0, 1, false), (1, 1, false), (2, 1, false), (3, 1, false), (4, 1, false), (5, 1, false)]) rfl (by kernel_rfl) (by kernel_rfl) (by decide) rfl) trivial ?_
        refine g_step rfl rfl rfl rfl (e_loadH (v := .sc _) rfl (hset_self _ _ _) (by kernel_rfl) (by kernel_rfl) (by kernel_rfl) (by exact Nat.zero_lt_one) (by decide) rfl) trivial ?_
        refine g_step rfl rfl rfl rfl (e_move (v := .lit _ _ _) rfl) trivial ?_
        refine g_step rfl rfl rfl rfl (e_move (v := .sc _) rfl) trivial ?_
        refine g_step rfl rfl rfl rfl (e_sub rfl rfl (by omega)) trivial ?_
        refine g_step rfl rfl rfl rfl (e_ixa rfl rfl (by kernel_rfl) (by kernel_rfl) (by simp only [List.length_map]; omega)) trivial ?_
        refine g_step rfl rfl rfl rfl (e_fa (pl := [(0, 1, false), (1, 1, false), (2, 1, false), (3, 1, false), (4, 1, false), (5, 1, false)]) rfl (by kernel_rfl) (by kernel_rfl) (by decide) rfl) trivial ?_
        refine g_step rfl rfl rfl rfl (e_load (v := .sc _) rfl (by kernel_rfl) (by kernel_rfl) (by kernel_rfl) (by simp only [List.length_map]; omega) (by decide) ((cell_map (pred_get (hz (by omega)).1) _).trans rfl)) trivial ?_
        refine g_step rfl rfl rfl rfl (e_lt rfl rfl) trivial ?_
        refine g_step rfl rfl rfl rfl (e_pickT (v := .sc _) rfl rfl) trivial ?_
        refine g_end (ds := [38, 39, 40, 41, 42, 43, 44, 45, 46]) (by kernel_rfl) rfl (hK28 _ ?_); clear hK28 K28
        exact seq_norm (hK26 _ ⟨rfl, rfl, rfl, trivial⟩ ⟨(congrArg PV.bool (show ((decide (x.day < z.day)) : Bool) = ((decide ((0) < (k : Int))) && (decide (x.day < z.day))) by first | rfl | ((try rw [hb29R]) <;> (first | rfl | (simp only [Bool.and_true, Bool.and_false, Bool.true_and, Bool.false_and, Bool.or_true, Bool.or_false, Bool.true_or, Bool.false_or, Bool.not_true, Bool.not_false, if_true, if_false, Bool.false_eq_true, reduceIte] <;> rfl))) | (simp only [hb29R, Bool.and_true, Bool.and_false, Bool.true_and, Bool.false_and, Bool.or_true, Bool.or_false, Bool.true_or, Bool.false_or, Bool.not_true, Bool.not_false, if_true, if_false, Bool.false_eq_true, reduceIte] <;> rfl))), trivial⟩)
       ·have hb29R := hb29; try simp only [z1, z2, z3, z4, z5, z6, ne_eq, z7, z8, z9, z10, z11, z12] at hb29
        refine g_skip rfl rfl rfl ?_
        refine g_skip rfl rfl rfl ?_
        refine g_skip rfl rfl rfl ?_
        refine g_skip rfl rfl rfl ?_
        refine g_skip rfl rfl rfl ?_
        refine g_skip rfl rfl rfl ?_
        refine g_skip rfl rfl rfl ?_
        refine g_skip rfl rfl rfl ?_
        refine g_skip rfl rfl rfl ?_
        refine g_step rfl rfl rfl rfl (e_pickF (v := .sc _) rfl rfl) trivial ?_
        refine g_end (ds := [38, 39, 40, 41, 42, 43, 44, 45, 46]) (by kernel_rfl) rfl (hK28 _ ?_); clear hK28 K28
        exact seq_norm (hK26 _ ⟨rfl, rfl, rfl, trivial⟩ ⟨(congrArg PV.bool (show (false : Bool) = ((decide ((0) < (k : Int))) && (decide (x.day < z.day))) by first | rfl | ((try rw [hb29R]) <;> (first | rfl | (simp only [Bool.and_true, Bool.and_false, Bool.true_and, Bool.false_and, Bool.or_true, Bool.or_false, Bool.true_or, Bool.false_or, Bool.not_true, Bool.not_false, if_true, if_false, Bool.false_eq_true, reduceIte] <;> rfl))) | (simp only [hb29R, Bool.and_true, Bool.and_false, Bool.true_and, Bool.false_and, Bool.or_true, Bool.or_false, Bool.true_or, Bool.false_or, Bool.not_true, Bool.not_false, if_true, if_false, Bool.false_eq_true, reduceIte] <;> rfl))), trivial⟩)
      ·skip
       refine pwp_seq_cond rfl fun K30 hK30 => ⟨fun hb31 => ?_, fun hb31 => ?_⟩
       ·have hb31R := hb31; try simp only [z1, z2, z3, z4, z5, z6, ne_eq, z7, z8, z9, z10, z11, z12] at hb31
        refine pwp_seq_plain rfl fun K32 hK32 => ?_
        refine p_step rfl (e_assign (v := .sc _) rfl) trivial ?_
        refine p_end (hK32 _ ?_); clear hK32 K32
        refine pwp_ret ?_
        refine ret_seq ?_
        refine ret_block ?_
        refine ret_seq ?_
        refine ret_loop ?_
        refine ret_block ?_
        refine ret_seq ?_
        refine end1 (v := .sc _) rfl ?_
        first
          | exact out_i (recE_big (by omega))
          | exact out_i (recE_go (by omega) (goR_stop hinv (by decide) (evE_2 (by unfold badEv; omega))))
          | exact out_i (recE_go (by omega) (goR_stop hinv (by decide) (evE_10 (by unfold badEv; omega) (by omega))))
          | exact out_i (recE_go (by omega) (goR_stop hinv (by decide) (evE_4 (by unfold badEv; omega) (by omega) (nm_bad (by assumption)))))
          | exact out_i (recE_go (by omega) (goR_stop hinv (by decide) (evE_3 (by unfold badEv; omega) (by omega) (nm_good (by assumption)) (by assumption))))
          | exact out_i (recE_go (by omega) (goR_stop hinv (by decide) (evE_5 (by unfold badEv; omega) (by omega) (nm_good (by assumption)) (by assumption) (by assumption))))
          | exact out_i (recE_go (by omega) (goR_stop hinv (by decide) (evE_6 (by unfold badEv; omega) (by omega) (nm_good (by assumption)) (by assumption) (by assumption))))
          | exact out_i (recE_go (by omega) hinv)
       ·have hb31R := hb31; try simp only [z1, z2, z3, z4, z5, z6, ne_eq, z7, z8, z9, z10, z11, z12] at hb31
        refine pwp_skip ?_
        refine seq_norm (hK30 _ ?_); clear hK30 K30
        refine pwp_seq_seq ?_
        refine pwp_seq_cutG [0, 3, 4] [(65, .bool ((decide ((decide (x.kind = (3))) ≠ (decide (x.platform = (⟨#[]⟩ : ByteArray))))) || ((decide (x.platform ≠ (⟨#[]⟩ : ByteArray))) && (!(isNm x.platform)))))] (fun K33 hK33 => ?_) (fun r34 => ?_)
        ·skip
         refine pwp_gops rfl fun K35 hK35 => ?_
         refine g_begin ?_
         refine g_step rfl rfl rfl rfl (e_faP (pl := [(0, 1, false), (1, 1, false), (2, 1, false), (3, 1, false), (4, 1, false), (5, 1, false)]) rfl (by kernel_rfl) (by kernel_rfl) (by decide) rfl) trivial ?_
         refine g_step rfl rfl rfl rfl (e_loadH (v := .sc _) rfl (hset_self _ _ _) (by kernel_rfl) (by kernel_rfl) (by kernel_rfl) (by exact Nat.zero_lt_one) (by decide) rfl) trivial ?_
         refine g_step rfl rfl rfl rfl (e_eq rfl rfl) trivial ?_
         refine g_step rfl rfl rfl rfl (e_faP (pl := [(0, 1, false), (1, 1, false), (2, 1, false), (3, 1, false), (4, 1, false), (5, 1, false)]) rfl (by kernel_rfl) (by kernel_rfl) (by decide) rfl) trivial ?_
         refine g_step rfl rfl rfl rfl (e_loadH (v := .sc _) rfl (hset_self _ _ _) (by kernel_rfl) (by kernel_rfl) (by kernel_rfl) (by exact Nat.zero_lt_one) (by decide) rfl) trivial ?_
         refine g_step rfl rfl rfl rfl (e_seq rfl rfl) trivial ?_
         refine g_step rfl rfl rfl rfl (e_bne rfl rfl (by kernel_rfl)) trivial ?_
         refine g_step rfl rfl rfl rfl (e_move (v := .sc _) rfl) trivial ?_
         refine g_cases (fun hb36 => ?_) (fun hb36 => ?_)
         ·have hb36R := hb36; try simp only [z1, z2, z3, z4, z5, z6, ne_eq, z7, z8, z9, z10, z11, z12] at hb36
          refine g_skip rfl rfl rfl ?_
          refine g_skip rfl rfl rfl ?_
          refine g_skip rfl rfl rfl ?_
          refine g_skip rfl rfl rfl ?_
          refine g_skip rfl rfl rfl ?_
          refine g_skip rfl rfl rfl ?_
          refine g_nocall rfl rfl rfl ?_
          refine g_skip rfl rfl rfl ?_
          refine g_skip rfl rfl rfl ?_
          refine g_step rfl rfl rfl rfl (e_pickT (v := .sc _) rfl rfl) trivial ?_
          refine g_end (ds := [56, 57, 58, 59, 60, 61, 62, 63, 64]) rfl rfl (hK35 _ ?_); clear hK35 K35
          exact seq_norm (hK33 _ ⟨rfl, rfl, rfl, trivial⟩ ⟨(congrArg PV.bool (show (true : Bool) = ((decide ((decide (x.kind = (3))) ≠ (decide (x.platform = (⟨#[]⟩ : ByteArray))))) || ((decide (x.platform ≠ (⟨#[]⟩ : ByteArray))) && (!(isNm x.platform)))) by first | rfl | ((try rw [hb36R]) <;> (first | rfl | (simp only [Bool.and_true, Bool.and_false, Bool.true_and, Bool.false_and, Bool.or_true, Bool.or_false, Bool.true_or, Bool.false_or, Bool.not_true, Bool.not_false, if_true, if_false, Bool.false_eq_true, reduceIte] <;> rfl))) | (simp only [hb36R, Bool.and_true, Bool.and_false, Bool.true_and, Bool.false_and, Bool.or_true, Bool.or_false, Bool.true_or, Bool.false_or, Bool.not_true, Bool.not_false, if_true, if_false, Bool.false_eq_true, reduceIte] <;> rfl))), trivial⟩)
         ·have hb36R := hb36; try simp only [z1, z2, z3, z4, z5, z6, ne_eq, z7, z8, z9, z10, z11, z12] at hb36
          refine g_step rfl rfl rfl rfl (e_faP (pl := [(0, 1, false), (1, 1, false), (2, 1, false), (3, 1, false), (4, 1, false), (5, 1, false)]) rfl (by kernel_rfl) (by kernel_rfl) (by decide) rfl) trivial ?_
          refine g_step rfl rfl rfl rfl (e_loadH (v := .sc _) rfl (hset_self _ _ _) (by kernel_rfl) (by kernel_rfl) (by kernel_rfl) (by exact Nat.zero_lt_one) (by decide) rfl) trivial ?_
          refine g_step rfl rfl rfl rfl (e_sne rfl rfl) trivial ?_
          refine g_step rfl rfl rfl rfl (e_move (v := .sc _) rfl) trivial ?_
          refine g_cases (fun hb37 => ?_) (fun hb37 => ?_)
          ·have hb37R := hb37; try simp only [z1, z2, z3, z4, z5, z6, ne_eq, z7, z8, z9, z10, z11, z12] at hb37
           refine g_step rfl rfl rfl rfl (e_faP (pl := [(0, 1, false), (1, 1, false), (2, 1, false), (3, 1, false), (4, 1, false), (5, 1, false)]) rfl (by kernel_rfl) (by kernel_rfl) (by decide) rfl) trivial ?_
           refine g_step rfl rfl rfl rfl (e_loadH (v := .sc _) rfl (hset_self _ _ _) (by kernel_rfl) (by kernel_rfl) (by kernel_rfl) (by exact Nat.zero_lt_one) (by decide) rfl) trivial ?_
           refine g_call rfl rfl rfl rfl (.cons inn_sc .nil) (IsName _) ?_
           refine g_step rfl rfl rfl rfl (e_not rfl) trivial ?_
           refine g_step rfl rfl rfl rfl (e_pickT (v := .sc _) rfl rfl) trivial ?_
           refine g_step rfl rfl rfl rfl (e_pickF (v := .sc _) rfl rfl) trivial ?_
           refine g_end (ds := [56, 57, 58, 59, 60, 61, 62, 63, 64]) rfl rfl (hK35 _ ?_); clear hK35 K35
           exact seq_norm (hK33 _ ⟨rfl, rfl, rfl, trivial⟩ ⟨(congrArg PV.bool (show ((!(isNm x.platform)) : Bool) = ((decide ((decide (x.kind = (3))) ≠ (decide (x.platform = (⟨#[]⟩ : ByteArray))))) || ((decide (x.platform ≠ (⟨#[]⟩ : ByteArray))) && (!(isNm x.platform)))) by first | rfl | ((try rw [hb37R]) <;> (try rw [hb36R]) <;> (first | rfl | (simp only [Bool.and_true, Bool.and_false, Bool.true_and, Bool.false_and, Bool.or_true, Bool.or_false, Bool.true_or, Bool.false_or, Bool.not_true, Bool.not_false, if_true, if_false, Bool.false_eq_true, reduceIte] <;> rfl))) | (simp only [hb36R, hb37R, Bool.and_true, Bool.and_false, Bool.true_and, Bool.false_and, Bool.or_true, Bool.or_false, Bool.true_or, Bool.false_or, Bool.not_true, Bool.not_false, if_true, if_false, Bool.false_eq_true, reduceIte] <;> rfl))), trivial⟩)
          ·have hb37R := hb37; try simp only [z1, z2, z3, z4, z5, z6, ne_eq, z7, z8, z9, z10, z11, z12] at hb37
           refine g_skip rfl rfl rfl ?_
           refine g_skip rfl rfl rfl ?_
           refine g_nocall rfl rfl rfl ?_
           refine g_skip rfl rfl rfl ?_
           refine g_step rfl rfl rfl rfl (e_pickF (v := .sc _) rfl rfl) trivial ?_
           refine g_step rfl rfl rfl rfl (e_pickF (v := .sc _) rfl rfl) trivial ?_
           refine g_end (ds := [56, 57, 58, 59, 60, 61, 62, 63, 64]) rfl rfl (hK35 _ ?_); clear hK35 K35
           exact seq_norm (hK33 _ ⟨rfl, rfl, rfl, trivial⟩ ⟨(congrArg PV.bool (show (false : Bool) = ((decide ((decide (x.kind = (3))) ≠ (decide (x.platform = (⟨#[]⟩ : ByteArray))))) || ((decide (x.platform ≠ (⟨#[]⟩ : ByteArray))) && (!(isNm x.platform)))) by first | rfl | ((try rw [hb37R]) <;> (try rw [hb36R]) <;> (first | rfl | (simp only [Bool.and_true, Bool.and_false, Bool.true_and, Bool.false_and, Bool.or_true, Bool.or_false, Bool.true_or, Bool.false_or, Bool.not_true, Bool.not_false, if_true, if_false, Bool.false_eq_true, reduceIte] <;> rfl))) | (simp only [hb36R, hb37R, Bool.and_true, Bool.and_false, Bool.true_and, Bool.false_and, Bool.or_true, Bool.or_false, Bool.true_or, Bool.false_or, Bool.not_true, Bool.not_false, if_true, if_false, Bool.false_eq_true, reduceIte] <;> rfl))), trivial⟩)
        ·skip
         refine pwp_seq_cond rfl fun K38 hK38 => ⟨fun hb39 => ?_, fun hb39 => ?_⟩
         ·have hb39R := hb39; try simp only [z1, z2, z3, z4, z5, z6, ne_eq, z7, z8, z9, z10, z11, z12] at hb39
          refine pwp_seq_plain rfl fun K40 hK40 => ?_
          refine p_step rfl (e_assign (v := .sc _) rfl) trivial ?_
          refine p_end (hK40 _ ?_); clear hK40 K40
          refine pwp_ret ?_
          refine ret_seq ?_
          refine ret_block ?_
          refine ret_seq ?_
          refine ret_loop ?_
          refine ret_block ?_
          refine ret_seq ?_
          refine end1 (v := .sc _) rfl ?_
          first
            | exact out_i (recE_big (by omega))
            | exact out_i (recE_go (by omega) (goR_stop hinv (by decide) (evE_2 (by unfold badEv; omega))))
            | exact out_i (recE_go (by omega) (goR_stop hinv (by decide) (evE_10 (by unfold badEv; omega) (by omega))))
            | exact out_i (recE_go (by omega) (goR_stop hinv (by decide) (evE_4 (by unfold badEv; omega) (by omega) (nm_bad (by assumption)))))
            | exact out_i (recE_go (by omega) (goR_stop hinv (by decide) (evE_3 (by unfold badEv; omega) (by omega) (nm_good (by assumption)) (by assumption))))
            | exact out_i (recE_go (by omega) (goR_stop hinv (by decide) (evE_5 (by unfold badEv; omega) (by omega) (nm_good (by assumption)) (by assumption) (by assumption))))
            | exact out_i (recE_go (by omega) (goR_stop hinv (by decide) (evE_6 (by unfold badEv; omega) (by omega) (nm_good (by assumption)) (by assumption) (by assumption))))
            | exact out_i (recE_go (by omega) hinv)
         ·have hb39R := hb39; try simp only [z1, z2, z3, z4, z5, z6, ne_eq, z7, z8, z9, z10, z11, z12] at hb39
          refine pwp_skip ?_
          refine seq_norm (hK38 _ ?_); clear hK38 K38
          refine pwp_seq_seq ?_
          refine pwp_seq_plain rfl fun K41 hK41 => ?_
          refine p_step rfl (e_loadHA (n := 6) rfl (hset_self _ _ _) (by kernel_rfl) (by kernel_rfl) (by kernel_rfl) (by exact Nat.zero_lt_one) (by decide) rfl) trivial ?_
          refine p_call rfl (.cons (inn_agg (Ev.pure _)) .nil) (plain _) ?_
          refine p_step rfl (e_not rfl) trivial ?_
          refine p_end (hK41 _ ?_); clear hK41 K41
          refine pwp_seq_cond rfl fun K42 hK42 => ⟨fun hb43 => ?_, fun hb43 => ?_⟩
          ·have hb43R := hb43; try simp only [z1, z2, z3, z4, z5, z6, ne_eq, z7, z8, z9, z10, z11, z12] at hb43
           refine pwp_seq_plain rfl fun K44 hK44 => ?_
           refine p_step rfl (e_assign (v := .sc _) rfl) trivial ?_
           refine p_end (hK44 _ ?_); clear hK44 K44
           refine pwp_ret ?_
           refine ret_seq ?_
           refine ret_block ?_
           refine ret_seq ?_
           refine ret_loop ?_
           refine ret_block ?_
           refine ret_seq ?_
           refine end1 (v := .sc _) rfl ?_
           first
             | exact out_i (recE_big (by omega))
             | exact out_i (recE_go (by omega) (goR_stop hinv (by decide) (evE_2 (by unfold badEv; omega))))
             | exact out_i (recE_go (by omega) (goR_stop hinv (by decide) (evE_10 (by unfold badEv; omega) (by omega))))
             | exact out_i (recE_go (by omega) (goR_stop hinv (by decide) (evE_4 (by unfold badEv; omega) (by omega) (nm_bad (by assumption)))))
             | exact out_i (recE_go (by omega) (goR_stop hinv (by decide) (evE_3 (by unfold badEv; omega) (by omega) (nm_good (by assumption)) (by assumption))))
             | exact out_i (recE_go (by omega) (goR_stop hinv (by decide) (evE_5 (by unfold badEv; omega) (by omega) (nm_good (by assumption)) (by assumption) (by assumption))))
             | exact out_i (recE_go (by omega) (goR_stop hinv (by decide) (evE_6 (by unfold badEv; omega) (by omega) (nm_good (by assumption)) (by assumption) (by assumption))))
             | exact out_i (recE_go (by omega) hinv)
          ·have hb43R := hb43; try simp only [z1, z2, z3, z4, z5, z6, ne_eq, z7, z8, z9, z10, z11, z12] at hb43
           refine pwp_skip ?_
           refine seq_norm (hK42 _ ?_); clear hK42 K42
           refine pwp_seq_gops rfl fun K45 hK45 => ?_
           refine g_begin ?_
           refine g_step rfl rfl rfl rfl (e_move (v := .lit _ _ _) rfl) trivial ?_
           refine g_step rfl rfl rfl rfl (e_move (v := .sc _) rfl) trivial ?_
           refine g_step rfl rfl rfl rfl (e_upto (n := k) rfl rfl rfl (by omega) (by kernel_rfl) (by kernel_rfl)) trivial ?_
           refine g_step rfl rfl rfl rfl (e_faP (pl := [(0, 1, false), (1, 1, false), (2, 1, false), (3, 1, false), (4, 1, false), (5, 1, false)]) rfl (by kernel_rfl) (by kernel_rfl) (by decide) rfl) trivial ?_
           refine g_step rfl rfl rfl rfl (e_loadH (v := .sc _) rfl (hset_self _ _ _) (by kernel_rfl) (by kernel_rfl) (by kernel_rfl) (by exact Nat.zero_lt_one) (by decide) rfl) trivial ?_
           refine g_call rfl rfl rfl rfl (.cons inn_lit (.cons inn_sc (.cons inn_sc (.cons inn_sc .nil)))) (opened _ _ _ _ (by first | omega | (simp only [List.length_take]; omega))) ?_
           refine g_step rfl rfl rfl rfl (e_faP (pl := [(0, 1, false), (1, 1, false), (2, 1, false), (3, 1, false), (4, 1, false), (5, 1, false)]) rfl (by kernel_rfl) (by kernel_rfl) (by decide) rfl) trivial ?_
           refine g_step rfl rfl rfl rfl (e_loadH (v := .sc _) rfl (hset_self _ _ _) (by kernel_rfl) (by kernel_rfl) (by kernel_rfl) (by exact Nat.zero_lt_one) (by decide) rfl) trivial ?_
           refine g_call rfl rfl rfl rfl (.cons inn_lit (.cons inn_sc .nil)) (Has _ _ (by have := openL_len x.platform false true (evs.take k); simp only [List.length_take] at this; omega)) ?_
           refine g_step rfl rfl rfl rfl (e_assign (v := .sc _) rfl) trivial ?_
           refine g_end (ds := []) (by kernel_rfl) rfl (hK45 _ ?_); clear hK45 K45
           refine pwp_seq_seq ?_
           refine pwp_seq_cutG [0, 3, 4, 5] [(83, .bool ((decide (x.kind = (4))) && (hasI (openL x.platform false true ((evs).take k)) x.number)))] (fun K46 hK46 => ?_) (fun r47 => ?_)
           ·skip
            refine pwp_gops rfl fun K48 hK48 => ?_
            refine g_begin ?_
            refine g_step rfl rfl rfl rfl (e_faP (pl := [(0, 1, false), (1, 1, false), (2, 1, false), (3, 1, false), (4, 1, false), (5, 1, false)]) rfl (by kernel_rfl) (by kernel_rfl) (by decide) rfl) trivial ?_
            refine g_step rfl rfl rfl rfl (e_loadH (v := .sc _) rfl (hset_self _ _ _) (by kernel_rfl) (by kernel_rfl) (by kernel_rfl) (by exact Nat.zero_lt_one) (by decide) rfl) trivial ?_
            refine g_step rfl rfl rfl rfl (e_eq rfl rfl) trivial ?_
            refine g_step rfl rfl rfl rfl (e_move (v := .sc _) rfl) trivial ?_
            refine g_cases (fun hb49 => ?_) (fun hb49 => ?_)
            ·have hb49R := hb49; try simp only [z1, z2, z3, z4, z5, z6, ne_eq, z7, z8, z9, z10, z11, z12] at hb49
             refine g_step rfl rfl rfl rfl (e_move (v := .sc _) rfl) trivial ?_
             refine g_step rfl rfl rfl rfl (e_pickT (v := .sc _) rfl rfl) trivial ?_
             refine g_end (ds := [82]) rfl rfl (hK48 _ ?_); clear hK48 K48
             exact seq_norm (hK46 _ ⟨rfl, rfl, rfl, rfl, trivial⟩ ⟨(congrArg PV.bool (show ((hasI (openL x.platform false true ((evs).take k)) x.number) : Bool) = ((decide (x.kind = (4))) && (hasI (openL x.platform false true ((evs).take k)) x.number)) by first | rfl | ((try rw [hb49R]) <;> (first | rfl | (simp only [Bool.and_true, Bool.and_false, Bool.true_and, Bool.false_and, Bool.or_true, Bool.or_false, Bool.true_or, Bool.false_or, Bool.not_true, Bool.not_false, if_true, if_false, Bool.false_eq_true, reduceIte] <;> rfl))) | (simp only [hb49R, Bool.and_true, Bool.and_false, Bool.true_and, Bool.false_and, Bool.or_true, Bool.or_false, Bool.true_or, Bool.false_or, Bool.not_true, Bool.not_false, if_true, if_false, Bool.false_eq_true, reduceIte] <;> rfl))), trivial⟩)
            ·have hb49R := hb49; try simp only [z1, z2, z3, z4, z5, z6, ne_eq, z7, z8, z9, z10, z11, z12] at hb49
             refine g_skip rfl rfl rfl ?_
             refine g_step rfl rfl rfl rfl (e_pickF (v := .sc _) rfl rfl) trivial ?_
             refine g_end (ds := [82]) rfl rfl (hK48 _ ?_); clear hK48 K48
             exact seq_norm (hK46 _ ⟨rfl, rfl, rfl, rfl, trivial⟩ ⟨(congrArg PV.bool (show (false : Bool) = ((decide (x.kind = (4))) && (hasI (openL x.platform false true ((evs).take k)) x.number)) by first | rfl | ((try rw [hb49R]) <;> (first | rfl | (simp only [Bool.and_true, Bool.and_false, Bool.true_and, Bool.false_and, Bool.or_true, Bool.or_false, Bool.true_or, Bool.false_or, Bool.not_true, Bool.not_false, if_true, if_false, Bool.false_eq_true, reduceIte] <;> rfl))) | (simp only [hb49R, Bool.and_true, Bool.and_false, Bool.true_and, Bool.false_and, Bool.or_true, Bool.or_false, Bool.true_or, Bool.false_or, Bool.not_true, Bool.not_false, if_true, if_false, Bool.false_eq_true, reduceIte] <;> rfl))), trivial⟩)
           ·skip
            refine pwp_seq_cond rfl fun K50 hK50 => ⟨fun hb51 => ?_, fun hb51 => ?_⟩
            ·have hb51R := hb51; try simp only [z1, z2, z3, z4, z5, z6, ne_eq, z7, z8, z9, z10, z11, z12] at hb51
             refine pwp_seq_plain rfl fun K52 hK52 => ?_
             refine p_step rfl (e_assign (v := .sc _) rfl) trivial ?_
             refine p_end (hK52 _ ?_); clear hK52 K52
             refine pwp_ret ?_
             refine ret_seq ?_
             refine ret_block ?_
             refine ret_seq ?_
             refine ret_loop ?_
             refine ret_block ?_
             refine ret_seq ?_
             refine end1 (v := .sc _) rfl ?_
             first
               | exact out_i (recE_big (by omega))
               | exact out_i (recE_go (by omega) (goR_stop hinv (by decide) (evE_2 (by unfold badEv; omega))))
               | exact out_i (recE_go (by omega) (goR_stop hinv (by decide) (evE_10 (by unfold badEv; omega) (by omega))))
               | exact out_i (recE_go (by omega) (goR_stop hinv (by decide) (evE_4 (by unfold badEv; omega) (by omega) (nm_bad (by assumption)))))
               | exact out_i (recE_go (by omega) (goR_stop hinv (by decide) (evE_3 (by unfold badEv; omega) (by omega) (nm_good (by assumption)) (by assumption))))
               | exact out_i (recE_go (by omega) (goR_stop hinv (by decide) (evE_5 (by unfold badEv; omega) (by omega) (nm_good (by assumption)) (by assumption) (by assumption))))
               | exact out_i (recE_go (by omega) (goR_stop hinv (by decide) (evE_6 (by unfold badEv; omega) (by omega) (nm_good (by assumption)) (by assumption) (by assumption))))
               | exact out_i (recE_go (by omega) hinv)
            ·have hb51R := hb51; try simp only [z1, z2, z3, z4, z5, z6, ne_eq, z7, z8, z9, z10, z11, z12] at hb51
             refine pwp_skip ?_
             refine seq_norm (hK50 _ ?_); clear hK50 K50
             refine pwp_seq_cutG [0, 3] [(90, .bool ((decide (x.kind = (5))) && (!(hasI (openL x.platform false true ((evs).take k)) x.number))))] (fun K53 hK53 => ?_) (fun r54 => ?_)
             ·skip
              refine pwp_gops rfl fun K55 hK55 => ?_
              refine g_begin ?_
              refine g_step rfl rfl rfl rfl (e_faP (pl := [(0, 1, false), (1, 1, false), (2, 1, false), (3, 1, false), (4, 1, false), (5, 1, false)]) rfl (by kernel_rfl) (by kernel_rfl) (by decide) rfl) trivial ?_
              refine g_step rfl rfl rfl rfl (e_loadH (v := .sc _) rfl (hset_self _ _ _) (by kernel_rfl) (by kernel_rfl) (by kernel_rfl) (by exact Nat.zero_lt_one) (by decide) rfl) trivial ?_
              refine g_step rfl rfl rfl rfl (e_eq rfl rfl) trivial ?_
              refine g_step rfl rfl rfl rfl (e_move (v := .sc _) rfl) trivial ?_
              refine g_cases (fun hb56 => ?_) (fun hb56 => ?_)
              ·have hb56R := hb56; try simp only [z1, z2, z3, z4, z5, z6, ne_eq, z7, z8, z9, z10, z11, z12] at hb56
               refine g_step rfl rfl rfl rfl (e_move (v := .sc _) rfl) trivial ?_
               refine g_step rfl rfl rfl rfl (e_not rfl) trivial ?_
               refine g_step rfl rfl rfl rfl (e_pickT (v := .sc _) rfl rfl) trivial ?_
               refine g_end (ds := [88, 89]) rfl rfl (hK55 _ ?_); clear hK55 K55
               exact seq_norm (hK53 _ ⟨rfl, rfl, trivial⟩ ⟨(congrArg PV.bool (show ((!(hasI (openL x.platform false true ((evs).take k)) x.number)) : Bool) = ((decide (x.kind = (5))) && (!(hasI (openL x.platform false true ((evs).take k)) x.number))) by first | rfl | ((try rw [hb56R]) <;> (first | rfl | (simp only [Bool.and_true, Bool.and_false, Bool.true_and, Bool.false_and, Bool.or_true, Bool.or_false, Bool.true_or, Bool.false_or, Bool.not_true, Bool.not_false, if_true, if_false, Bool.false_eq_true, reduceIte] <;> rfl))) | (simp only [hb56R, Bool.and_true, Bool.and_false, Bool.true_and, Bool.false_and, Bool.or_true, Bool.or_false, Bool.true_or, Bool.false_or, Bool.not_true, Bool.not_false, if_true, if_false, Bool.false_eq_true, reduceIte] <;> rfl))), trivial⟩)
              ·have hb56R := hb56; try simp only [z1, z2, z3, z4, z5, z6, ne_eq, z7, z8, z9, z10, z11, z12] at hb56
               refine g_skip rfl rfl rfl ?_
               refine g_skip rfl rfl rfl ?_
               refine g_step rfl rfl rfl rfl (e_pickF (v := .sc _) rfl rfl) trivial ?_
               refine g_end (ds := [88, 89]) rfl rfl (hK55 _ ?_); clear hK55 K55
               exact seq_norm (hK53 _ ⟨rfl, rfl, trivial⟩ ⟨(congrArg PV.bool (show (false : Bool) = ((decide (x.kind = (5))) && (!(hasI (openL x.platform false true ((evs).take k)) x.number))) by first | rfl | ((try rw [hb56R]) <;> (first | rfl | (simp only [Bool.and_true, Bool.and_false, Bool.true_and, Bool.false_and, Bool.or_true, Bool.or_false, Bool.true_or, Bool.false_or, Bool.not_true, Bool.not_false, if_true, if_false, Bool.false_eq_true, reduceIte] <;> rfl))) | (simp only [hb56R, Bool.and_true, Bool.and_false, Bool.true_and, Bool.false_and, Bool.or_true, Bool.or_false, Bool.true_or, Bool.false_or, Bool.not_true, Bool.not_false, if_true, if_false, Bool.false_eq_true, reduceIte] <;> rfl))), trivial⟩)
             ·skip
              refine pwp_cond rfl (fun hb57 => ?_) (fun hb57 => ?_)
              ·have hb57R := hb57; try simp only [z1, z2, z3, z4, z5, z6, ne_eq, z7, z8, z9, z10, z11, z12] at hb57
               refine pwp_seq_plain rfl fun K58 hK58 => ?_
               refine p_step rfl (e_assign (v := .sc _) rfl) trivial ?_
               refine p_end (hK58 _ ?_); clear hK58 K58
               refine pwp_ret ?_
               refine ret_block ?_
               refine ret_seq ?_
               refine ret_loop ?_
               refine ret_block ?_
               refine ret_seq ?_
               refine end1 (v := .sc _) rfl ?_
               first
                 | exact out_i (recE_big (by omega))
                 | exact out_i (recE_go (by omega) (goR_stop hinv (by decide) (evE_2 (by unfold badEv; omega))))
                 | exact out_i (recE_go (by omega) (goR_stop hinv (by decide) (evE_10 (by unfold badEv; omega) (by omega))))
                 | exact out_i (recE_go (by omega) (goR_stop hinv (by decide) (evE_4 (by unfold badEv; omega) (by omega) (nm_bad (by assumption)))))
                 | exact out_i (recE_go (by omega) (goR_stop hinv (by decide) (evE_3 (by unfold badEv; omega) (by omega) (nm_good (by assumption)) (by assumption))))
                 | exact out_i (recE_go (by omega) (goR_stop hinv (by decide) (evE_5 (by unfold badEv; omega) (by omega) (nm_good (by assumption)) (by assumption) (by assumption))))
                 | exact out_i (recE_go (by omega) (goR_stop hinv (by decide) (evE_6 (by unfold badEv; omega) (by omega) (nm_good (by assumption)) (by assumption) (by assumption))))
                 | exact out_i (recE_go (by omega) hinv)
              ·have hb57R := hb57; try simp only [z1, z2, z3, z4, z5, z6, ne_eq, z7, z8, z9, z10, z11, z12] at hb57
               refine pwp_skip ?_
               refine block_norm ?_
               refine seq_norm (hK16 _ ?_); clear hK16 K16
               refine pwp_plain rfl fun K59 hK59 => ?_
               refine p_step rfl (e_move (v := .sc _) rfl) trivial ?_
               refine p_step rfl (e_add rfl rfl (by omega)) trivial ?_
               refine p_step rfl (e_assign (v := .sc _) rfl) trivial ?_
               refine p_end (hK59 _ ?_); clear hK59 K59
               exact loop_again ((k + 1, x.day)) (by show _ < _; simp only; omega) ⟨rfl, trivial⟩ ⟨rfl, trivial⟩ (by exact ⟨by show _ + 1 ≤ _; omega, by show goR [] 0 evs = goR (evs.take (k + 1)) x.day (evs.drop (k + 1)); rw [ht]; exact goR_step hinv (evE_0 (by unfold badEv; omega) (by omega) (nm_good hb39) hb43 hb51 hb57), by exact ⟨x, fun _ => ⟨hx, rfl⟩, fun h => absurd h (Nat.succ_ne_zero k)⟩⟩)
   ·have hb15R := hb15; try simp only [z1, z2, z3, z4, z5, z6, ne_eq, z7, z8, z9, z10, z11, z12] at hb15
    obtain rfl : k = evs.length := by omega
    rw [List.drop_length] at hinv; simp only [goR] at hinv
    refine pwp_exit ?_
    refine exit_seq ?_
    clear hK14 K14
    refine exit_loop ?_
    refine exit_here ?_
    refine seq_norm (hK7 _ ?_); clear hK7 K7
    refine pwp_seq_plain rfl fun K60 hK60 => ?_
    refine p_step rfl (e_assign (v := .sc _) rfl) trivial ?_
    refine p_end (hK60 _ ?_); clear hK60 K60
    refine pwp_ret ?_
    refine end1 (v := .sc _) rfl ?_
    first
      | exact out_i (recE_big (by omega))
      | exact out_i (recE_go (by omega) (goR_stop hinv (by decide) (evE_2 (by unfold badEv; omega))))
      | exact out_i (recE_go (by omega) (goR_stop hinv (by decide) (evE_10 (by unfold badEv; omega) (by omega))))
      | exact out_i (recE_go (by omega) (goR_stop hinv (by decide) (evE_4 (by unfold badEv; omega) (by omega) (nm_bad (by assumption)))))
      | exact out_i (recE_go (by omega) (goR_stop hinv (by decide) (evE_3 (by unfold badEv; omega) (by omega) (nm_good (by assumption)) (by assumption))))
      | exact out_i (recE_go (by omega) (goR_stop hinv (by decide) (evE_5 (by unfold badEv; omega) (by omega) (nm_good (by assumption)) (by assumption) (by assumption))))
      | exact out_i (recE_go (by omega) (goR_stop hinv (by decide) (evE_6 (by unfold badEv; omega) (by omega) (nm_good (by assumption)) (by assumption) (by assumption))))
      | exact out_i (recE_go (by omega) hinv)

end Go.Proofs.Ytdbpfhbppcpbbaa
