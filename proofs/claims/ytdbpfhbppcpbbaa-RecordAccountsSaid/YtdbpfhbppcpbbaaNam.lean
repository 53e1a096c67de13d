/- Names, as contracts on pure values. No conditions. -/
import Derived.Test.YtdbpfhbppcpbbaaData
import Derived.Test.YtdbpfhbppcpbbaaPvZ3
import Derived.Test.YtdbpfhbppcpbbaaDay
set_option linter.unusedSimpArgs false
set_option linter.unusedVariables false
namespace Go.Proofs.Ytdbpfhbppcpbbaa
open Go Go.Pv

def chOk (i : Nat) (c : Int) : Prop := (97 ≤ c ∧ c ≤ 122) ∨ (65 ≤ c ∧ c ≤ 90) ∨ (i ≠ 0 ∧ (c = 45 ∨ (48 ≤ c ∧ c ≤ 57)))
instance (i : Nat) (c : Int) : Decidable (chOk i c) := inferInstanceAs (Decidable (_ ∨ _))
/-- A name: 1 to 12 signs, letters, and behind the first one digits and hyphens. -/
def isNm (s : ByteArray) : Bool := decide (1 ≤ s.size ∧ s.size ≤ 12 ∧ ∀ i, i < s.size → chOk i (byteAt s i))
theorem isNm_len {s : ByteArray} (h : s.size < 1 ∨ 12 < s.size) : false = isNm s := by
  symm; simp only [isNm, decide_eq_false_iff_not]; omega
theorem isNm_bad {s : ByteArray} {k : Nat} (hk : k < s.size) (h : ¬ chOk k (byteAt s k)) : false = isNm s := by
  symm; simp only [isNm, decide_eq_false_iff_not]
  exact fun hn => h (hn.2.2 k hk)
theorem isNm_ok {s : ByteArray} {k : Nat} (h1 : 1 ≤ s.size ∧ s.size ≤ 12) (hk : k = s.size) (h : ∀ i, i < k → chOk i (byteAt s i)) : true = isNm s := by
  subst hk
  symm; simp only [isNm, decide_eq_true_eq]
  exact ⟨h1.1, h1.2, h⟩
theorem chOk_succ {s : ByteArray} {k : Nat} (h : ∀ i, i < k → chOk i (byteAt s i)) (h2 : chOk k (byteAt s k)) : ∀ i, i < k + 1 → chOk i (byteAt s i) := fun i hi => by
  rcases Nat.lt_succ_iff_lt_or_eq.1 hi with h3 | rfl
  · exact h i h3
  · exact h2

theorem fr75 : (inFrame Try.f75.ntmps (Try.f75.body.getD .skip) && Try.f75.results.toList.all (resScope Try.f75.ntmps)) = true := by kernel_rfl
theorem IsName (s : ByteArray) : PCalls Try.prog 75 [.str s] (.bool (isNm s)) := by
  refine PCalls.of_code Try.func75 rfl rfl (by kernel_rfl) mixed fr75 (by show _ ≤ 55; simp) (.sc _) ?_
  refine pwp_seq_plain rfl fun K1 hK1 => ?_
  refine p_step rfl (e_assign (v := .sc _) rfl) trivial ?_
  refine p_end (hK1 _ ?_); clear hK1 K1
  refine pwp_seq_seq ?_
  refine pwp_seq_cutG [0] [(13, .bool ((decide (((s).size : Int) < (1))) || (decide ((12) < ((s).size : Int)))))] (fun K2 hK2 => ?_) (fun r3 => ?_)
  ·skip
   refine pwp_gops rfl fun K4 hK4 => ?_
   refine g_begin ?_
   refine g_step rfl rfl rfl rfl (e_move (v := .sc _) rfl) trivial ?_
   refine g_step rfl rfl rfl rfl (e_lenS rfl (by kernel_rfl)) trivial ?_
   refine g_step rfl rfl rfl rfl (e_lt rfl rfl) trivial ?_
   refine g_step rfl rfl rfl rfl (e_move (v := .sc _) rfl) trivial ?_
   refine g_cases (fun hb5 => ?_) (fun hb5 => ?_)
   ·have hb5R := hb5; try simp only [z1, z2, z3, z4, z5, z6, ne_eq, z7, z8, z9, z10, z11, z12] at hb5
    refine g_skip rfl rfl rfl ?_
    refine g_skip rfl rfl rfl ?_
    refine g_skip rfl rfl rfl ?_
    refine g_step rfl rfl rfl rfl (e_pickT (v := .sc _) rfl rfl) trivial ?_
    refine g_end (ds := [10, 11, 12]) rfl rfl (hK4 _ ?_); clear hK4 K4
    exact seq_norm (hK2 _ ⟨rfl, trivial⟩ ⟨(congrArg PV.bool (show (true : Bool) = ((decide (((s).size : Int) < (1))) || (decide ((12) < ((s).size : Int)))) by first | rfl | ((try rw [hb5R]) <;> (first | rfl | (simp only [Bool.and_true, Bool.and_false, Bool.true_and, Bool.false_and, Bool.or_true, Bool.or_false, Bool.true_or, Bool.false_or, Bool.not_true, Bool.not_false, if_true, if_false, Bool.false_eq_true, reduceIte] <;> rfl))) | (simp only [hb5R, Bool.and_true, Bool.and_false, Bool.true_and, Bool.false_and, Bool.or_true, Bool.or_false, Bool.true_or, Bool.false_or, Bool.not_true, Bool.not_false, if_true, if_false, Bool.false_eq_true, reduceIte] <;> rfl))), trivial⟩)
   ·have hb5R := hb5; try simp only [z1, z2, z3, z4, z5, z6, ne_eq, z7, z8, z9, z10, z11, z12] at hb5
    refine g_step rfl rfl rfl rfl (e_move (v := .sc _) rfl) trivial ?_
    refine g_step rfl rfl rfl rfl (e_lenS rfl (by kernel_rfl)) trivial ?_
    refine g_step rfl rfl rfl rfl (e_gt rfl rfl) trivial ?_
    refine g_step rfl rfl rfl rfl (e_pickF (v := .sc _) rfl rfl) trivial ?_
    refine g_end (ds := [10, 11, 12]) rfl rfl (hK4 _ ?_); clear hK4 K4
    exact seq_norm (hK2 _ ⟨rfl, trivial⟩ ⟨(congrArg PV.bool (show ((decide ((12) < ((s).size : Int))) : Bool) = ((decide (((s).size : Int) < (1))) || (decide ((12) < ((s).size : Int)))) by first | rfl | ((try rw [hb5R]) <;> (first | rfl | (simp only [Bool.and_true, Bool.and_false, Bool.true_and, Bool.false_and, Bool.or_true, Bool.or_false, Bool.true_or, Bool.false_or, Bool.not_true, Bool.not_false, if_true, if_false, Bool.false_eq_true, reduceIte] <;> rfl))) | (simp only [hb5R, Bool.and_true, Bool.and_false, Bool.true_and, Bool.false_and, Bool.or_true, Bool.or_false, Bool.true_or, Bool.false_or, Bool.not_true, Bool.not_false, if_true, if_false, Bool.false_eq_true, reduceIte] <;> rfl))), trivial⟩)
  ·skip
   refine pwp_seq_cond rfl fun K6 hK6 => ⟨fun hb7 => ?_, fun hb7 => ?_⟩
   ·have hb7R := hb7; try simp only [z1, z2, z3, z4, z5, z6, ne_eq, z7, z8, z9, z10, z11, z12] at hb7
    refine pwp_seq_plain rfl fun K8 hK8 => ?_
    refine p_step rfl (e_assign (v := .sc _) rfl) trivial ?_
    refine p_end (hK8 _ ?_); clear hK8 K8
    refine pwp_ret ?_
    refine ret_seq ?_
    refine end1 (v := .sc _) rfl ?_
    first
      | exact out_b (isNm_len (by omega))
      | exact out_b (isNm_bad hlt (by unfold chOk; omega))
      | exact out_b (isNm_ok (by omega) (by omega) hc)
   ·have hb7R := hb7; try simp only [z1, z2, z3, z4, z5, z6, ne_eq, z7, z8, z9, z10, z11, z12] at hb7
    refine pwp_skip ?_
    refine seq_norm (hK6 _ ?_); clear hK6 K6
    refine pwp_seq_seq ?_
    refine pwp_seq_plain rfl fun K9 hK9 => ?_
    refine p_step rfl (e_assign (v := .sc _) rfl) trivial ?_
    refine p_end (hK9 _ ?_); clear hK9 K9
    refine pwp_seq_block fun K10 hK10 => ?_
    refine pwp_loopR (α := Nat) [0] (fun (k : Nat) => [(3, .int (k))]) (fun (k : Nat) (h : Heap) (_ : Nat → Nat) => ((k) ≤ s.size) ∧ (∀ i, i < (k) → chOk i (byteAt s i))) (fun (k : Nat) => s.size - (k)) (0) (by exact ⟨rfl, trivial⟩) (by exact ⟨by exact Nat.zero_le _, by exact fun i hi => absurd hi (Nat.not_lt_zero i)⟩) fun k r11 h12 c13 hj14 => ?_
    obtain ⟨hk, hc⟩ := hj14
    try dsimp only at hk
    try dsimp only at hc
    show pwp _ _ (loopQ _ _ _) ⟨sets (mix _ _ _) [(3, .int k)], _, _⟩
    refine pwp_seq_seq ?_
    refine pwp_seq_plain rfl fun K15 hK15 => ?_
    refine p_step rfl (e_move (v := .sc _) rfl) trivial ?_
    refine p_step rfl (e_move (v := .sc _) rfl) trivial ?_
    refine p_step rfl (e_lenS rfl (by kernel_rfl)) trivial ?_
    refine p_step rfl (e_lt rfl rfl) trivial ?_
    refine p_end (hK15 _ ?_); clear hK15 K15
    refine pwp_seq_cond rfl fun K16 hK16 => ⟨fun hb17 => ?_, fun hb17 => ?_⟩
    ·have hb17R := hb17; try simp only [z1, z2, z3, z4, z5, z6, ne_eq, z7, z8, z9, z10, z11, z12] at hb17
     have hlt : k < s.size := by omega
     refine pwp_skip ?_
     refine seq_norm (hK16 _ ?_); clear hK16 K16
     refine pwp_seq_block fun K18 hK18 => ?_
     refine pwp_seq_plain rfl fun K19 hK19 => ?_
     refine p_step rfl (e_move (v := .sc _) rfl) trivial ?_
     refine p_step rfl (e_move (v := .sc _) rfl) trivial ?_
     refine p_step rfl (e_indexN (n := k) rfl rfl rfl (by kernel_rfl) (by omega)) trivial ?_
     refine p_step rfl (e_assign (v := .sc _) rfl) trivial ?_
     refine p_end (hK19 _ ?_); clear hK19 K19
     refine pwp_seq_cutG [0, 3, 4] [(5, .bool (((decide ((97) ≤ (byteAt s k))) && (decide ((byteAt s k) ≤ (122)))) || ((decide ((65) ≤ (byteAt s k))) && (decide ((byteAt s k) ≤ (90))))))] (fun K20 hK20 => ?_) (fun r21 => ?_)
     ·skip
      refine pwp_gops rfl fun K22 hK22 => ?_
      refine g_begin ?_
      refine g_step rfl rfl rfl rfl (e_move (v := .sc _) rfl) trivial ?_
      refine g_step rfl rfl rfl rfl (e_ge rfl rfl) trivial ?_
      refine g_step rfl rfl rfl rfl (e_move (v := .sc _) rfl) trivial ?_
      refine g_cases (fun hb23 => ?_) (fun hb23 => ?_)
      ·have hb23R := hb23; try simp only [z1, z2, z3, z4, z5, z6, ne_eq, z7, z8, z9, z10, z11, z12] at hb23
       refine g_step rfl rfl rfl rfl (e_move (v := .sc _) rfl) trivial ?_
       refine g_step rfl rfl rfl rfl (e_le rfl rfl) trivial ?_
       refine g_step rfl rfl rfl rfl (e_pickT (v := .sc _) rfl rfl) trivial ?_
       refine g_step rfl rfl rfl rfl (e_move (v := .sc _) rfl) trivial ?_
       refine g_cases (fun hb24 => ?_) (fun hb24 => ?_)
       ·have hb24R := hb24; try simp only [z1, z2, z3, z4, z5, z6, ne_eq, z7, z8, z9, z10, z11, z12] at hb24
        refine g_skip rfl rfl rfl ?_
        refine g_skip rfl rfl rfl ?_
        refine g_skip rfl rfl rfl ?_
        refine g_skip rfl rfl rfl ?_
        refine g_skip rfl rfl rfl ?_
        refine g_skip rfl rfl rfl ?_
        refine g_step rfl rfl rfl rfl (e_pickT (v := .sc _) rfl rfl) trivial ?_
        refine g_step rfl rfl rfl rfl (e_assign (v := .sc _) rfl) trivial ?_
        refine g_end (ds := [26, 27, 30, 31, 32, 33, 34, 35]) rfl rfl (hK22 _ ?_); clear hK22 K22
        exact seq_norm (hK20 _ ⟨rfl, rfl, rfl, trivial⟩ ⟨(congrArg PV.bool (show (true : Bool) = (((decide ((97) ≤ (byteAt s k))) && (decide ((byteAt s k) ≤ (122)))) || ((decide ((65) ≤ (byteAt s k))) && (decide ((byteAt s k) ≤ (90))))) by first | rfl | ((try rw [hb24R]) <;> (try rw [hb23R]) <;> (first | rfl | (simp only [Bool.and_true, Bool.and_false, Bool.true_and, Bool.false_and, Bool.or_true, Bool.or_false, Bool.true_or, Bool.false_or, Bool.not_true, Bool.not_false, if_true, if_false, Bool.false_eq_true, reduceIte] <;> rfl))) | (simp only [hb23R, hb24R, Bool.and_true, Bool.and_false, Bool.true_and, Bool.false_and, Bool.or_true, Bool.or_false, Bool.true_or, Bool.false_or, Bool.not_true, Bool.not_false, if_true, if_false, Bool.false_eq_true, reduceIte] <;> rfl))), trivial⟩)
       ·have hb24R := hb24; try simp only [z1, z2, z3, z4, z5, z6, ne_eq, z7, z8, z9, z10, z11, z12] at hb24
        refine g_step rfl rfl rfl rfl (e_move (v := .sc _) rfl) trivial ?_
        refine g_step rfl rfl rfl rfl (e_ge rfl rfl) trivial ?_
        refine g_step rfl rfl rfl rfl (e_move (v := .sc _) rfl) trivial ?_
        refine g_cases (fun hb25 => ?_) (fun hb25 => ?_)
        ·have hb25R := hb25; try simp only [z1, z2, z3, z4, z5, z6, ne_eq, z7, z8, z9, z10, z11, z12] at hb25
         refine g_step rfl rfl rfl rfl (e_move (v := .sc _) rfl) trivial ?_
         refine g_step rfl rfl rfl rfl (e_le rfl rfl) trivial ?_
         refine g_step rfl rfl rfl rfl (e_pickT (v := .sc _) rfl rfl) trivial ?_
         refine g_step rfl rfl rfl rfl (e_pickF (v := .sc _) rfl rfl) trivial ?_
         refine g_step rfl rfl rfl rfl (e_assign (v := .sc _) rfl) trivial ?_
         refine g_end (ds := [26, 27, 30, 31, 32, 33, 34, 35]) rfl rfl (hK22 _ ?_); clear hK22 K22
         exact seq_norm (hK20 _ ⟨rfl, rfl, rfl, trivial⟩ ⟨(congrArg PV.bool (show ((decide ((byteAt s k) ≤ (90))) : Bool) = (((decide ((97) ≤ (byteAt s k))) && (decide ((byteAt s k) ≤ (122)))) || ((decide ((65) ≤ (byteAt s k))) && (decide ((byteAt s k) ≤ (90))))) by first | rfl | ((try rw [hb25R]) <;> (try rw [hb24R]) <;> (try rw [hb23R]) <;> (first | rfl | (simp only [Bool.and_true, Bool.and_false, Bool.true_and, Bool.false_and, Bool.or_true, Bool.or_false, Bool.true_or, Bool.false_or, Bool.not_true, Bool.not_false, if_true, if_false, Bool.false_eq_true, reduceIte] <;> rfl))) | (simp only [hb23R, hb24R, hb25R, Bool.and_true, Bool.and_false, Bool.true_and, Bool.false_and, Bool.or_true, Bool.or_false, Bool.true_or, Bool.false_or, Bool.not_true, Bool.not_false, if_true, if_false, Bool.false_eq_true, reduceIte] <;> rfl))), trivial⟩)
        ·have hb25R := hb25; try simp only [z1, z2, z3, z4, z5, z6, ne_eq, z7, z8, z9, z10, z11, z12] at hb25
         refine g_skip rfl rfl rfl ?_
         refine g_skip rfl rfl rfl ?_
         refine g_step rfl rfl rfl rfl (e_pickF (v := .sc _) rfl rfl) trivial ?_
         refine g_step rfl rfl rfl rfl (e_pickF (v := .sc _) rfl rfl) trivial ?_
         refine g_step rfl rfl rfl rfl (e_assign (v := .sc _) rfl) trivial ?_
         refine g_end (ds := [26, 27, 30, 31, 32, 33, 34, 35]) rfl rfl (hK22 _ ?_); clear hK22 K22
         exact seq_norm (hK20 _ ⟨rfl, rfl, rfl, trivial⟩ ⟨(congrArg PV.bool (show (false : Bool) = (((decide ((97) ≤ (byteAt s k))) && (decide ((byteAt s k) ≤ (122)))) || ((decide ((65) ≤ (byteAt s k))) && (decide ((byteAt s k) ≤ (90))))) by first | rfl | ((try rw [hb25R]) <;> (try rw [hb24R]) <;> (try rw [hb23R]) <;> (first | rfl | (simp only [Bool.and_true, Bool.and_false, Bool.true_and, Bool.false_and, Bool.or_true, Bool.or_false, Bool.true_or, Bool.false_or, Bool.not_true, Bool.not_false, if_true, if_false, Bool.false_eq_true, reduceIte] <;> rfl))) | (simp only [hb23R, hb24R, hb25R, Bool.and_true, Bool.and_false, Bool.true_and, Bool.false_and, Bool.or_true, Bool.or_false, Bool.true_or, Bool.false_or, Bool.not_true, Bool.not_false, if_true, if_false, Bool.false_eq_true, reduceIte] <;> rfl))), trivial⟩)
      ·have hb23R := hb23; try simp only [z1, z2, z3, z4, z5, z6, ne_eq, z7, z8, z9, z10, z11, z12] at hb23
       refine g_skip rfl rfl rfl ?_
       refine g_skip rfl rfl rfl ?_
       refine g_step rfl rfl rfl rfl (e_pickF (v := .sc _) rfl rfl) trivial ?_
       refine g_step rfl rfl rfl rfl (e_move (v := .sc _) rfl) trivial ?_
       refine g_step rfl rfl rfl rfl (e_move (v := .sc _) rfl) trivial ?_
       refine g_step rfl rfl rfl rfl (e_ge rfl rfl) trivial ?_
       refine g_step rfl rfl rfl rfl (e_move (v := .sc _) rfl) trivial ?_
       refine g_cases (fun hb26 => ?_) (fun hb26 => ?_)
       ·have hb26R := hb26; try simp only [z1, z2, z3, z4, z5, z6, ne_eq, z7, z8, z9, z10, z11, z12] at hb26
        refine g_step rfl rfl rfl rfl (e_move (v := .sc _) rfl) trivial ?_
        refine g_step rfl rfl rfl rfl (e_le rfl rfl) trivial ?_
        refine g_step rfl rfl rfl rfl (e_pickT (v := .sc _) rfl rfl) trivial ?_
        refine g_step rfl rfl rfl rfl (e_pickF (v := .sc _) rfl rfl) trivial ?_
        refine g_step rfl rfl rfl rfl (e_assign (v := .sc _) rfl) trivial ?_
        refine g_end (ds := [26, 27, 30, 31, 32, 33, 34, 35]) rfl rfl (hK22 _ ?_); clear hK22 K22
        exact seq_norm (hK20 _ ⟨rfl, rfl, rfl, trivial⟩ ⟨(congrArg PV.bool (show ((decide ((byteAt s k) ≤ (90))) : Bool) = (((decide ((97) ≤ (byteAt s k))) && (decide ((byteAt s k) ≤ (122)))) || ((decide ((65) ≤ (byteAt s k))) && (decide ((byteAt s k) ≤ (90))))) by first | rfl | ((try rw [hb26R]) <;> (try rw [hb23R]) <;> (first | rfl | (simp only [Bool.and_true, Bool.and_false, Bool.true_and, Bool.false_and, Bool.or_true, Bool.or_false, Bool.true_or, Bool.false_or, Bool.not_true, Bool.not_false, if_true, if_false, Bool.false_eq_true, reduceIte] <;> rfl))) | (simp only [hb23R, hb26R, Bool.and_true, Bool.and_false, Bool.true_and, Bool.false_and, Bool.or_true, Bool.or_false, Bool.true_or, Bool.false_or, Bool.not_true, Bool.not_false, if_true, if_false, Bool.false_eq_true, reduceIte] <;> rfl))), trivial⟩)
       ·have hb26R := hb26; try simp only [z1, z2, z3, z4, z5, z6, ne_eq, z7, z8, z9, z10, z11, z12] at hb26
        refine g_skip rfl rfl rfl ?_
        refine g_skip rfl rfl rfl ?_
        refine g_step rfl rfl rfl rfl (e_pickF (v := .sc _) rfl rfl) trivial ?_
        refine g_step rfl rfl rfl rfl (e_pickF (v := .sc _) rfl rfl) trivial ?_
        refine g_step rfl rfl rfl rfl (e_assign (v := .sc _) rfl) trivial ?_
        refine g_end (ds := [26, 27, 30, 31, 32, 33, 34, 35]) rfl rfl (hK22 _ ?_); clear hK22 K22
        exact seq_norm (hK20 _ ⟨rfl, rfl, rfl, trivial⟩ ⟨(congrArg PV.bool (show (false : Bool) = (((decide ((97) ≤ (byteAt s k))) && (decide ((byteAt s k) ≤ (122)))) || ((decide ((65) ≤ (byteAt s k))) && (decide ((byteAt s k) ≤ (90))))) by first | rfl | ((try rw [hb26R]) <;> (try rw [hb23R]) <;> (first | rfl | (simp only [Bool.and_true, Bool.and_false, Bool.true_and, Bool.false_and, Bool.or_true, Bool.or_false, Bool.true_or, Bool.false_or, Bool.not_true, Bool.not_false, if_true, if_false, Bool.false_eq_true, reduceIte] <;> rfl))) | (simp only [hb23R, hb26R, Bool.and_true, Bool.and_false, Bool.true_and, Bool.false_and, Bool.or_true, Bool.or_false, Bool.true_or, Bool.false_or, Bool.not_true, Bool.not_false, if_true, if_false, Bool.false_eq_true, reduceIte] <;> rfl))), trivial⟩)
     ·skip
      refine pwp_seq_cutG [0, 3] [(54, .bool ((!(((decide ((97) ≤ (byteAt s k))) && (decide ((byteAt s k) ≤ (122)))) || ((decide ((65) ≤ (byteAt s k))) && (decide ((byteAt s k) ≤ (90)))))) && ((decide ((k : Int) = (0))) || ((decide ((byteAt s k) ≠ (45))) && ((decide ((byteAt s k) < (48))) || (decide ((57) < (byteAt s k))))))))] (fun K27 hK27 => ?_) (fun r28 => ?_)
      ·skip
       refine pwp_gops rfl fun K29 hK29 => ?_
       refine g_begin ?_
       refine g_step rfl rfl rfl rfl (e_move (v := .sc _) rfl) trivial ?_
       refine g_step rfl rfl rfl rfl (e_not rfl) trivial ?_
       refine g_step rfl rfl rfl rfl (e_move (v := .sc _) rfl) trivial ?_
       refine g_cases (fun hb30 => ?_) (fun hb30 => ?_)
       ·have hb30R := hb30; try simp only [z1, z2, z3, z4, z5, z6, ne_eq, z7, z8, z9, z10, z11, z12] at hb30
        refine g_step rfl rfl rfl rfl (e_move (v := .sc _) rfl) trivial ?_
        refine g_step rfl rfl rfl rfl (e_eq rfl rfl) trivial ?_
        refine g_step rfl rfl rfl rfl (e_move (v := .sc _) rfl) trivial ?_
        refine g_cases (fun hb31 => ?_) (fun hb31 => ?_)
        ·have hb31R := hb31; try simp only [z1, z2, z3, z4, z5, z6, ne_eq, z7, z8, z9, z10, z11, z12] at hb31
         refine g_skip rfl rfl rfl ?_
         refine g_skip rfl rfl rfl ?_
         refine g_skip rfl rfl rfl ?_
         refine g_skip rfl rfl rfl ?_
         refine g_skip rfl rfl rfl ?_
         refine g_skip rfl rfl rfl ?_
         refine g_skip rfl rfl rfl ?_
         refine g_skip rfl rfl rfl ?_
         refine g_skip rfl rfl rfl ?_
         refine g_skip rfl rfl rfl ?_
         refine g_step rfl rfl rfl rfl (e_pickT (v := .sc _) rfl rfl) trivial ?_
         refine g_step rfl rfl rfl rfl (e_pickT (v := .sc _) rfl rfl) trivial ?_
         refine g_end (ds := [40, 41, 42, 43, 44, 45, 46, 47, 48, 49, 50, 51, 52, 53]) rfl rfl (hK29 _ ?_); clear hK29 K29
         exact seq_norm (hK27 _ ⟨rfl, rfl, trivial⟩ ⟨(congrArg PV.bool (show (true : Bool) = ((!(((decide ((97) ≤ (byteAt s k))) && (decide ((byteAt s k) ≤ (122)))) || ((decide ((65) ≤ (byteAt s k))) && (decide ((byteAt s k) ≤ (90)))))) && ((decide ((k : Int) = (0))) || ((decide ((byteAt s k) ≠ (45))) && ((decide ((byteAt s k) < (48))) || (decide ((57) < (byteAt s k))))))) by first | rfl | ((try rw [hb31R]) <;> (try rw [hb30R]) <;> (first | rfl | (simp only [Bool.and_true, Bool.and_false, Bool.true_and, Bool.false_and, Bool.or_true, Bool.or_false, Bool.true_or, Bool.false_or, Bool.not_true, Bool.not_false, if_true, if_false, Bool.false_eq_true, reduceIte] <;> rfl))) | (simp only [hb30R, hb31R, Bool.and_true, Bool.and_false, Bool.true_and, Bool.false_and, Bool.or_true, Bool.or_false, Bool.true_or, Bool.false_or, Bool.not_true, Bool.not_false, if_true, if_false, Bool.false_eq_true, reduceIte] <;> rfl))), trivial⟩)
        ·have hb31R := hb31; try simp only [z1, z2, z3, z4, z5, z6, ne_eq, z7, z8, z9, z10, z11, z12] at hb31
         refine g_step rfl rfl rfl rfl (e_move (v := .sc _) rfl) trivial ?_
         refine g_step rfl rfl rfl rfl (e_ne rfl rfl) trivial ?_
         refine g_step rfl rfl rfl rfl (e_move (v := .sc _) rfl) trivial ?_
         refine g_cases (fun hb32 => ?_) (fun hb32 => ?_)
         ·have hb32R := hb32; try simp only [z1, z2, z3, z4, z5, z6, ne_eq, z7, z8, z9, z10, z11, z12] at hb32
          refine g_step rfl rfl rfl rfl (e_move (v := .sc _) rfl) trivial ?_
          refine g_step rfl rfl rfl rfl (e_lt rfl rfl) trivial ?_
          refine g_step rfl rfl rfl rfl (e_move (v := .sc _) rfl) trivial ?_
          refine g_cases (fun hb33 => ?_) (fun hb33 => ?_)
          ·have hb33R := hb33; try simp only [z1, z2, z3, z4, z5, z6, ne_eq, z7, z8, z9, z10, z11, z12] at hb33
           refine g_skip rfl rfl rfl ?_
           refine g_skip rfl rfl rfl ?_
           refine g_step rfl rfl rfl rfl (e_pickT (v := .sc _) rfl rfl) trivial ?_
           refine g_step rfl rfl rfl rfl (e_pickT (v := .sc _) rfl rfl) trivial ?_
           refine g_step rfl rfl rfl rfl (e_pickF (v := .sc _) rfl rfl) trivial ?_
           refine g_step rfl rfl rfl rfl (e_pickT (v := .sc _) rfl rfl) trivial ?_
           refine g_end (ds := [40, 41, 42, 43, 44, 45, 46, 47, 48, 49, 50, 51, 52, 53]) rfl rfl (hK29 _ ?_); clear hK29 K29
           exact seq_norm (hK27 _ ⟨rfl, rfl, trivial⟩ ⟨(congrArg PV.bool (show (true : Bool) = ((!(((decide ((97) ≤ (byteAt s k))) && (decide ((byteAt s k) ≤ (122)))) || ((decide ((65) ≤ (byteAt s k))) && (decide ((byteAt s k) ≤ (90)))))) && ((decide ((k : Int) = (0))) || ((decide ((byteAt s k) ≠ (45))) && ((decide ((byteAt s k) < (48))) || (decide ((57) < (byteAt s k))))))) by first | rfl | ((try rw [hb33R]) <;> (try rw [hb32R]) <;> (try rw [hb31R]) <;> (try rw [hb30R]) <;> (first | rfl | (simp only [Bool.and_true, Bool.and_false, Bool.true_and, Bool.false_and, Bool.or_true, Bool.or_false, Bool.true_or, Bool.false_or, Bool.not_true, Bool.not_false, if_true, if_false, Bool.false_eq_true, reduceIte] <;> rfl))) | (simp only [hb30R, hb31R, hb32R, hb33R, Bool.and_true, Bool.and_false, Bool.true_and, Bool.false_and, Bool.or_true, Bool.or_false, Bool.true_or, Bool.false_or, Bool.not_true, Bool.not_false, if_true, if_false, Bool.false_eq_true, reduceIte] <;> rfl))), trivial⟩)
          ·have hb33R := hb33; try simp only [z1, z2, z3, z4, z5, z6, ne_eq, z7, z8, z9, z10, z11, z12] at hb33
           refine g_step rfl rfl rfl rfl (e_move (v := .sc _) rfl) trivial ?_
           refine g_step rfl rfl rfl rfl (e_gt rfl rfl) trivial ?_
           refine g_step rfl rfl rfl rfl (e_pickF (v := .sc _) rfl rfl) trivial ?_
           refine g_step rfl rfl rfl rfl (e_pickT (v := .sc _) rfl rfl) trivial ?_
           refine g_step rfl rfl rfl rfl (e_pickF (v := .sc _) rfl rfl) trivial ?_
           refine g_step rfl rfl rfl rfl (e_pickT (v := .sc _) rfl rfl) trivial ?_
           refine g_end (ds := [40, 41, 42, 43, 44, 45, 46, 47, 48, 49, 50, 51, 52, 53]) rfl rfl (hK29 _ ?_); clear hK29 K29
           exact seq_norm (hK27 _ ⟨rfl, rfl, trivial⟩ ⟨(congrArg PV.bool (show ((decide ((57) < (byteAt s k))) : Bool) = ((!(((decide ((97) ≤ (byteAt s k))) && (decide ((byteAt s k) ≤ (122)))) || ((decide ((65) ≤ (byteAt s k))) && (decide ((byteAt s k) ≤ (90)))))) && ((decide ((k : Int) = (0))) || ((decide ((byteAt s k) ≠ (45))) && ((decide ((byteAt s k) < (48))) || (decide ((57) < (byteAt s k))))))) by first | rfl | ((try rw [hb33R]) <;> (try rw [hb32R]) <;> (try rw [hb31R]) <;> (try rw [hb30R]) <;> (first | rfl | (simp only [Bool.and_true, Bool.and_false, Bool.true_and, Bool.false_and, Bool.or_true, Bool.or_false, Bool.true_or, Bool.false_or, Bool.not_true, Bool.not_false, if_true, if_false, Bool.false_eq_true, reduceIte] <;> rfl))) | (simp only [hb30R, hb31R, hb32R, hb33R, Bool.and_true, Bool.and_false, Bool.true_and, Bool.false_and, Bool.or_true, Bool.or_false, Bool.true_or, Bool.false_or, Bool.not_true, Bool.not_false, if_true, if_false, Bool.false_eq_true, reduceIte] <;> rfl))), trivial⟩)
         ·have hb32R := hb32; try simp only [z1, z2, z3, z4, z5, z6, ne_eq, z7, z8, z9, z10, z11, z12] at hb32
          refine g_skip rfl rfl rfl ?_
          refine g_skip rfl rfl rfl ?_
          refine g_skip rfl rfl rfl ?_
          refine g_skip rfl rfl rfl ?_
          refine g_skip rfl rfl rfl ?_
          refine g_skip rfl rfl rfl ?_
          refine g_step rfl rfl rfl rfl (e_pickF (v := .sc _) rfl rfl) trivial ?_
          refine g_step rfl rfl rfl rfl (e_pickF (v := .sc _) rfl rfl) trivial ?_
          refine g_step rfl rfl rfl rfl (e_pickT (v := .sc _) rfl rfl) trivial ?_
          refine g_end (ds := [40, 41, 42, 43, 44, 45, 46, 47, 48, 49, 50, 51, 52, 53]) rfl rfl (hK29 _ ?_); clear hK29 K29
          exact seq_norm (hK27 _ ⟨rfl, rfl, trivial⟩ ⟨(congrArg PV.bool (show (false : Bool) = ((!(((decide ((97) ≤ (byteAt s k))) && (decide ((byteAt s k) ≤ (122)))) || ((decide ((65) ≤ (byteAt s k))) && (decide ((byteAt s k) ≤ (90)))))) && ((decide ((k : Int) = (0))) || ((decide ((byteAt s k) ≠ (45))) && ((decide ((byteAt s k) < (48))) || (decide ((57) < (byteAt s k))))))) by first | rfl | ((try rw [hb32R]) <;> (try rw [hb31R]) <;> (try rw [hb30R]) <;> (first | rfl | (simp only [Bool.and_true, Bool.and_false, Bool.true_and, Bool.false_and, Bool.or_true, Bool.or_false, Bool.true_or, Bool.false_or, Bool.not_true, Bool.not_false, if_true, if_false, Bool.false_eq_true, reduceIte] <;> rfl))) | (simp only [hb30R, hb31R, hb32R, Bool.and_true, Bool.and_false, Bool.true_and, Bool.false_and, Bool.or_true, Bool.or_false, Bool.true_or, Bool.false_or, Bool.not_true, Bool.not_false, if_true, if_false, Bool.false_eq_true, reduceIte] <;> rfl))), trivial⟩)
       ·have hb30R := hb30; try simp only [z1, z2, z3, z4, z5, z6, ne_eq, z7, z8, z9, z10, z11, z12] at hb30
        refine g_skip rfl rfl rfl ?_
        refine g_skip rfl rfl rfl ?_
        refine g_skip rfl rfl rfl ?_
        refine g_skip rfl rfl rfl ?_
        refine g_skip rfl rfl rfl ?_
        refine g_skip rfl rfl rfl ?_
        refine g_skip rfl rfl rfl ?_
        refine g_skip rfl rfl rfl ?_
        refine g_skip rfl rfl rfl ?_
        refine g_skip rfl rfl rfl ?_
        refine g_skip rfl rfl rfl ?_
        refine g_skip rfl rfl rfl ?_
        refine g_skip rfl rfl rfl ?_
        refine g_skip rfl rfl rfl ?_
        refine g_step rfl rfl rfl rfl (e_pickF (v := .sc _) rfl rfl) trivial ?_
        refine g_end (ds := [40, 41, 42, 43, 44, 45, 46, 47, 48, 49, 50, 51, 52, 53]) rfl rfl (hK29 _ ?_); clear hK29 K29
        exact seq_norm (hK27 _ ⟨rfl, rfl, trivial⟩ ⟨(congrArg PV.bool (show (false : Bool) = ((!(((decide ((97) ≤ (byteAt s k))) && (decide ((byteAt s k) ≤ (122)))) || ((decide ((65) ≤ (byteAt s k))) && (decide ((byteAt s k) ≤ (90)))))) && ((decide ((k : Int) = (0))) || ((decide ((byteAt s k) ≠ (45))) && ((decide ((byteAt s k) < (48))) || (decide ((57) < (byteAt s k))))))) by first | rfl | ((try rw [hb30R]) <;> (first | rfl | (simp only [Bool.and_true, Bool.and_false, Bool.true_and, Bool.false_and, Bool.or_true, Bool.or_false, Bool.true_or, Bool.false_or, Bool.not_true, Bool.not_false, if_true, if_false, Bool.false_eq_true, reduceIte] <;> rfl))) | (simp only [hb30R, Bool.and_true, Bool.and_false, Bool.true_and, Bool.false_and, Bool.or_true, Bool.or_false, Bool.true_or, Bool.false_or, Bool.not_true, Bool.not_false, if_true, if_false, Bool.false_eq_true, reduceIte] <;> rfl))), trivial⟩)
      ·skip
       refine pwp_cond rfl (fun hb34 => ?_) (fun hb34 => ?_)
       ·have hb34R := hb34; try simp only [z1, z2, z3, z4, z5, z6, ne_eq, z7, z8, z9, z10, z11, z12] at hb34
        refine pwp_seq_plain rfl fun K35 hK35 => ?_
        refine p_step rfl (e_assign (v := .sc _) rfl) trivial ?_
        refine p_end (hK35 _ ?_); clear hK35 K35
        refine pwp_ret ?_
        refine ret_block ?_
        refine ret_seq ?_
        refine ret_loop ?_
        refine ret_block ?_
        refine ret_seq ?_
        refine end1 (v := .sc _) rfl ?_
        first
          | exact out_b (isNm_len (by omega))
          | exact out_b (isNm_bad hlt (by unfold chOk; omega))
          | exact out_b (isNm_ok (by omega) (by omega) hc)
       ·have hb34R := hb34; try simp only [z1, z2, z3, z4, z5, z6, ne_eq, z7, z8, z9, z10, z11, z12] at hb34
        refine pwp_skip ?_
        refine block_norm ?_
        refine seq_norm (hK18 _ ?_); clear hK18 K18
        refine pwp_plain rfl fun K36 hK36 => ?_
        refine p_step rfl (e_move (v := .sc _) rfl) trivial ?_
        refine p_step rfl (e_add rfl rfl (by omega)) trivial ?_
        refine p_step rfl (e_assign (v := .sc _) rfl) trivial ?_
        refine p_end (hK36 _ ?_); clear hK36 K36
        exact loop_again (k + 1) (by show _ < _; omega) ⟨rfl, trivial⟩ ⟨rfl, trivial⟩ (by exact ⟨by show _ + 1 ≤ _; omega, by exact chOk_succ hc (by unfold chOk; omega)⟩)
    ·have hb17R := hb17; try simp only [z1, z2, z3, z4, z5, z6, ne_eq, z7, z8, z9, z10, z11, z12] at hb17
     refine pwp_exit ?_
     refine exit_seq ?_
     clear hK16 K16
     refine exit_loop ?_
     refine exit_here ?_
     refine seq_norm (hK10 _ ?_); clear hK10 K10
     refine pwp_seq_plain rfl fun K37 hK37 => ?_
     refine p_step rfl (e_assign (v := .sc _) rfl) trivial ?_
     refine p_end (hK37 _ ?_); clear hK37 K37
     refine pwp_ret ?_
     refine end1 (v := .sc _) rfl ?_
     first
       | exact out_b (isNm_len (by omega))
       | exact out_b (isNm_bad hlt (by unfold chOk; omega))
       | exact out_b (isNm_ok (by omega) (by omega) hc)

theorem fr81 : (inFrame Try.f81.ntmps (Try.f81.body.getD .skip) && Try.f81.results.toList.all (resScope Try.f81.ntmps)) = true := by kernel_rfl
theorem isName (s : ByteArray) : PCalls Try.prog 81 [.str s] (.bool (isNm s)) := by
  refine PCalls.of_code Try.func81 rfl rfl (by kernel_rfl) mixed fr81 (by show _ ≤ 55; simp) (.sc _) ?_
  refine pwp_seq_plain rfl fun K1 hK1 => ?_
  refine p_step rfl (e_assign (v := .sc _) rfl) trivial ?_
  refine p_end (hK1 _ ?_); clear hK1 K1
  refine pwp_seq_seq ?_
  refine pwp_seq_cutG [0] [(13, .bool ((decide (((s).size : Int) < (1))) || (decide ((12) < ((s).size : Int)))))] (fun K2 hK2 => ?_) (fun r3 => ?_)
  ·skip
   refine pwp_gops rfl fun K4 hK4 => ?_
   refine g_begin ?_
   refine g_step rfl rfl rfl rfl (e_move (v := .sc _) rfl) trivial ?_
   refine g_step rfl rfl rfl rfl (e_lenS rfl (by kernel_rfl)) trivial ?_
   refine g_step rfl rfl rfl rfl (e_lt rfl rfl) trivial ?_
   refine g_step rfl rfl rfl rfl (e_move (v := .sc _) rfl) trivial ?_
   refine g_cases (fun hb5 => ?_) (fun hb5 => ?_)
   ·have hb5R := hb5; try simp only [z1, z2, z3, z4, z5, z6, ne_eq, z7, z8, z9, z10, z11, z12] at hb5
    refine g_skip rfl rfl rfl ?_
    refine g_skip rfl rfl rfl ?_
    refine g_skip rfl rfl rfl ?_
    refine g_step rfl rfl rfl rfl (e_pickT (v := .sc _) rfl rfl) trivial ?_
    refine g_end (ds := [10, 11, 12]) rfl rfl (hK4 _ ?_); clear hK4 K4
    exact seq_norm (hK2 _ ⟨rfl, trivial⟩ ⟨(congrArg PV.bool (show (true : Bool) = ((decide (((s).size : Int) < (1))) || (decide ((12) < ((s).size : Int)))) by first | rfl | ((try rw [hb5R]) <;> (first | rfl | (simp only [Bool.and_true, Bool.and_false, Bool.true_and, Bool.false_and, Bool.or_true, Bool.or_false, Bool.true_or, Bool.false_or, Bool.not_true, Bool.not_false, if_true, if_false, Bool.false_eq_true, reduceIte] <;> rfl))) | (simp only [hb5R, Bool.and_true, Bool.and_false, Bool.true_and, Bool.false_and, Bool.or_true, Bool.or_false, Bool.true_or, Bool.false_or, Bool.not_true, Bool.not_false, if_true, if_false, Bool.false_eq_true, reduceIte] <;> rfl))), trivial⟩)
   ·have hb5R := hb5; try simp only [z1, z2, z3, z4, z5, z6, ne_eq, z7, z8, z9, z10, z11, z12] at hb5
    refine g_step rfl rfl rfl rfl (e_move (v := .sc _) rfl) trivial ?_
    refine g_step rfl rfl rfl rfl (e_lenS rfl (by kernel_rfl)) trivial ?_
    refine g_step rfl rfl rfl rfl (e_gt rfl rfl) trivial ?_
    refine g_step rfl rfl rfl rfl (e_pickF (v := .sc _) rfl rfl) trivial ?_
    refine g_end (ds := [10, 11, 12]) rfl rfl (hK4 _ ?_); clear hK4 K4
    exact seq_norm (hK2 _ ⟨rfl, trivial⟩ ⟨(congrArg PV.bool (show ((decide ((12) < ((s).size : Int))) : Bool) = ((decide (((s).size : Int) < (1))) || (decide ((12) < ((s).size : Int)))) by first | rfl | ((try rw [hb5R]) <;> (first | rfl | (simp only [Bool.and_true, Bool.and_false, Bool.true_and, Bool.false_and, Bool.or_true, Bool.or_false, Bool.true_or, Bool.false_or, Bool.not_true, Bool.not_false, if_true, if_false, Bool.false_eq_true, reduceIte] <;> rfl))) | (simp only [hb5R, Bool.and_true, Bool.and_false, Bool.true_and, Bool.false_and, Bool.or_true, Bool.or_false, Bool.true_or, Bool.false_or, Bool.not_true, Bool.not_false, if_true, if_false, Bool.false_eq_true, reduceIte] <;> rfl))), trivial⟩)
  ·skip
   refine pwp_seq_cond rfl fun K6 hK6 => ⟨fun hb7 => ?_, fun hb7 => ?_⟩
   ·have hb7R := hb7; try simp only [z1, z2, z3, z4, z5, z6, ne_eq, z7, z8, z9, z10, z11, z12] at hb7
    refine pwp_seq_plain rfl fun K8 hK8 => ?_
    refine p_step rfl (e_assign (v := .sc _) rfl) trivial ?_
    refine p_end (hK8 _ ?_); clear hK8 K8
    refine pwp_ret ?_
    refine ret_seq ?_
    refine end1 (v := .sc _) rfl ?_
    first
      | exact out_b (isNm_len (by omega))
      | exact out_b (isNm_bad hlt (by unfold chOk; omega))
      | exact out_b (isNm_ok (by omega) (by omega) hc)
   ·have hb7R := hb7; try simp only [z1, z2, z3, z4, z5, z6, ne_eq, z7, z8, z9, z10, z11, z12] at hb7
    refine pwp_skip ?_
    refine seq_norm (hK6 _ ?_); clear hK6 K6
    refine pwp_seq_seq ?_
    refine pwp_seq_plain rfl fun K9 hK9 => ?_
    refine p_step rfl (e_move (v := .sc _) rfl) trivial ?_
    refine p_step rfl (e_lenS rfl (by kernel_rfl)) trivial ?_
    refine p_step rfl (e_move (v := .sc _) rfl) trivial ?_
    refine p_end (hK9 _ ?_); clear hK9 K9
    refine pwp_seq_block fun K10 hK10 => ?_
    refine pwp_loopR (α := Nat) [0, 15] (fun (k : Nat) => [(16, .int (k))]) (fun (k : Nat) (h : Heap) (_ : Nat → Nat) => ((k) ≤ s.size) ∧ (∀ i, i < (k) → chOk i (byteAt s i))) (fun (k : Nat) => s.size - (k)) (0) (by exact ⟨rfl, trivial⟩) (by exact ⟨by exact Nat.zero_le _, by exact fun i hi => absurd hi (Nat.not_lt_zero i)⟩) fun k r11 h12 c13 hj14 => ?_
    obtain ⟨hk, hc⟩ := hj14
    try dsimp only at hk
    try dsimp only at hc
    show pwp _ _ (loopQ _ _ _) ⟨sets (mix _ _ _) [(16, .int k)], _, _⟩
    refine pwp_seq_plain rfl fun K15 hK15 => ?_
    refine p_step rfl (e_lt rfl rfl) trivial ?_
    refine p_end (hK15 _ ?_); clear hK15 K15
    refine pwp_seq_cond rfl fun K16 hK16 => ⟨fun hb17 => ?_, fun hb17 => ?_⟩
    ·have hb17R := hb17; try simp only [z1, z2, z3, z4, z5, z6, ne_eq, z7, z8, z9, z10, z11, z12] at hb17
     have hlt : k < s.size := by omega
     refine pwp_skip ?_
     refine seq_norm (hK16 _ ?_); clear hK16 K16
     refine pwp_seq_block fun K18 hK18 => ?_
     refine pwp_seq_plain rfl fun K19 hK19 => ?_
     refine p_step rfl (e_move (v := .sc _) rfl) trivial ?_
     refine p_step rfl (e_assign (v := .sc _) rfl) trivial ?_
     refine p_end (hK19 _ ?_); clear hK19 K19
     refine pwp_seq_plain rfl fun K20 hK20 => ?_
     refine p_step rfl (e_move (v := .sc _) rfl) trivial ?_
     refine p_step rfl (e_move (v := .sc _) rfl) trivial ?_
     refine p_step rfl (e_indexN (n := k) rfl rfl rfl (by kernel_rfl) (by omega)) trivial ?_
     refine p_step rfl (e_assign (v := .sc _) rfl) trivial ?_
     refine p_end (hK20 _ ?_); clear hK20 K20
     refine pwp_seq_cutG [0, 3, 4, 15, 16] [(5, .bool (((decide ((97) ≤ (byteAt s k))) && (decide ((byteAt s k) ≤ (122)))) || ((decide ((65) ≤ (byteAt s k))) && (decide ((byteAt s k) ≤ (90))))))] (fun K21 hK21 => ?_) (fun r22 => ?_)
     ·skip
      refine pwp_gops rfl fun K23 hK23 => ?_
      refine g_begin ?_
      refine g_step rfl rfl rfl rfl (e_move (v := .sc _) rfl) trivial ?_
      refine g_step rfl rfl rfl rfl (e_ge rfl rfl) trivial ?_
      refine g_step rfl rfl rfl rfl (e_move (v := .sc _) rfl) trivial ?_
      refine g_cases (fun hb24 => ?_) (fun hb24 => ?_)
      ·have hb24R := hb24; try simp only [z1, z2, z3, z4, z5, z6, ne_eq, z7, z8, z9, z10, z11, z12] at hb24
       refine g_step rfl rfl rfl rfl (e_move (v := .sc _) rfl) trivial ?_
       refine g_step rfl rfl rfl rfl (e_le rfl rfl) trivial ?_
       refine g_step rfl rfl rfl rfl (e_pickT (v := .sc _) rfl rfl) trivial ?_
       refine g_step rfl rfl rfl rfl (e_move (v := .sc _) rfl) trivial ?_
       refine g_cases (fun hb25 => ?_) (fun hb25 => ?_)
       ·have hb25R := hb25; try simp only [z1, z2, z3, z4, z5, z6, ne_eq, z7, z8, z9, z10, z11, z12] at hb25
        refine g_skip rfl rfl rfl ?_
        refine g_skip rfl rfl rfl ?_
        refine g_skip rfl rfl rfl ?_
        refine g_skip rfl rfl rfl ?_
        refine g_skip rfl rfl rfl ?_
        refine g_skip rfl rfl rfl ?_
        refine g_step rfl rfl rfl rfl (e_pickT (v := .sc _) rfl rfl) trivial ?_
        refine g_step rfl rfl rfl rfl (e_assign (v := .sc _) rfl) trivial ?_
        refine g_end (ds := [25, 26, 29, 30, 31, 32, 33, 34]) rfl rfl (hK23 _ ?_); clear hK23 K23
        exact seq_norm (hK21 _ ⟨rfl, rfl, rfl, rfl, rfl, trivial⟩ ⟨(congrArg PV.bool (show (true : Bool) = (((decide ((97) ≤ (byteAt s k))) && (decide ((byteAt s k) ≤ (122)))) || ((decide ((65) ≤ (byteAt s k))) && (decide ((byteAt s k) ≤ (90))))) by first | rfl | ((try rw [hb25R]) <;> (try rw [hb24R]) <;> (first | rfl | (simp only [Bool.and_true, Bool.and_false, Bool.true_and, Bool.false_and, Bool.or_true, Bool.or_false, Bool.true_or, Bool.false_or, Bool.not_true, Bool.not_false, if_true, if_false, Bool.false_eq_true, reduceIte] <;> rfl))) | (simp only [hb24R, hb25R, Bool.and_true, Bool.and_false, Bool.true_and, Bool.false_and, Bool.or_true, Bool.or_false, Bool.true_or, Bool.false_or, Bool.not_true, Bool.not_false, if_true, if_false, Bool.false_eq_true, reduceIte] <;> rfl))), trivial⟩)
       ·have hb25R := hb25; try simp only [z1, z2, z3, z4, z5, z6, ne_eq, z7, z8, z9, z10, z11, z12] at hb25
        refine g_step rfl rfl rfl rfl (e_move (v := .sc _) rfl) trivial ?_
        refine g_step rfl rfl rfl rfl (e_ge rfl rfl) trivial ?_
        refine g_step rfl rfl rfl rfl (e_move (v := .sc _) rfl) trivial ?_
        refine g_cases (fun hb26 => ?_) (fun hb26 => ?_)
        ·have hb26R := hb26; try simp only [z1, z2, z3, z4, z5, z6, ne_eq, z7, z8, z9, z10, z11, z12] at hb26
         refine g_step rfl rfl rfl rfl (e_move (v := .sc _) rfl) trivial ?_
         refine g_step rfl rfl rfl rfl (e_le rfl rfl) trivial ?_
         refine g_step rfl rfl rfl rfl (e_pickT (v := .sc _) rfl rfl) trivial ?_
         refine g_step rfl rfl rfl rfl (e_pickF (v := .sc _) rfl rfl) trivial ?_
         refine g_step rfl rfl rfl rfl (e_assign (v := .sc _) rfl) trivial ?_
         refine g_end (ds := [25, 26, 29, 30, 31, 32, 33, 34]) rfl rfl (hK23 _ ?_); clear hK23 K23
         exact seq_norm (hK21 _ ⟨rfl, rfl, rfl, rfl, rfl, trivial⟩ ⟨(congrArg PV.bool (show ((decide ((byteAt s k) ≤ (90))) : Bool) = (((decide ((97) ≤ (byteAt s k))) && (decide ((byteAt s k) ≤ (122)))) || ((decide ((65) ≤ (byteAt s k))) && (decide ((byteAt s k) ≤ (90))))) by first | rfl | ((try rw [hb26R]) <;> (try rw [hb25R]) <;> (try rw [hb24R]) <;> (first | rfl | (simp only [Bool.and_true, Bool.and_false, Bool.true_and, Bool.false_and, Bool.or_true, Bool.or_false, Bool.true_or, Bool.false_or, Bool.not_true, Bool.not_false, if_true, if_false, Bool.false_eq_true, reduceIte] <;> rfl))) | (simp only [hb24R, hb25R, hb26R, Bool.and_true, Bool.and_false, Bool.true_and, Bool.false_and, Bool.or_true, Bool.or_false, Bool.true_or, Bool.false_or, Bool.not_true, Bool.not_false, if_true, if_false, Bool.false_eq_true, reduceIte] <;> rfl))), trivial⟩)
        ·have hb26R := hb26; try simp only [z1, z2, z3, z4, z5, z6, ne_eq, z7, z8, z9, z10, z11, z12] at hb26
         refine g_skip rfl rfl rfl ?_
         refine g_skip rfl rfl rfl ?_
         refine g_step rfl rfl rfl rfl (e_pickF (v := .sc _) rfl rfl) trivial ?_
         refine g_step rfl rfl rfl rfl (e_pickF (v := .sc _) rfl rfl) trivial ?_
         refine g_step rfl rfl rfl rfl (e_assign (v := .sc _) rfl) trivial ?_
         refine g_end (ds := [25, 26, 29, 30, 31, 32, 33, 34]) rfl rfl (hK23 _ ?_); clear hK23 K23
         exact seq_norm (hK21 _ ⟨rfl, rfl, rfl, rfl, rfl, trivial⟩ ⟨(congrArg PV.bool (show (false : Bool) = (((decide ((97) ≤ (byteAt s k))) && (decide ((byteAt s k) ≤ (122)))) || ((decide ((65) ≤ (byteAt s k))) && (decide ((byteAt s k) ≤ (90))))) by first | rfl | ((try rw [hb26R]) <;> (try rw [hb25R]) <;> (try rw [hb24R]) <;> (first | rfl | (simp only [Bool.and_true, Bool.and_false, Bool.true_and, Bool.false_and, Bool.or_true, Bool.or_false, Bool.true_or, Bool.false_or, Bool.not_true, Bool.not_false, if_true, if_false, Bool.false_eq_true, reduceIte] <;> rfl))) | (simp only [hb24R, hb25R, hb26R, Bool.and_true, Bool.and_false, Bool.true_and, Bool.false_and, Bool.or_true, Bool.or_false, Bool.true_or, Bool.false_or, Bool.not_true, Bool.not_false, if_true, if_false, Bool.false_eq_true, reduceIte] <;> rfl))), trivial⟩)
      ·have hb24R := hb24; try simp only [z1, z2, z3, z4, z5, z6, ne_eq, z7, z8, z9, z10, z11, z12] at hb24
       refine g_skip rfl rfl rfl ?_
       refine g_skip rfl rfl rfl ?_
       refine g_step rfl rfl rfl rfl (e_pickF (v := .sc _) rfl rfl) trivial ?_
       refine g_step rfl rfl rfl rfl (e_move (v := .sc _) rfl) trivial ?_
       refine g_step rfl rfl rfl rfl (e_move (v := .sc _) rfl) trivial ?_
       refine g_step rfl rfl rfl rfl (e_ge rfl rfl) trivial ?_
       refine g_step rfl rfl rfl rfl (e_move (v := .sc _) rfl) trivial ?_
       refine g_cases (fun hb27 => ?_) (fun hb27 => ?_)
       ·have hb27R := hb27; try simp only [z1, z2, z3, z4, z5, z6, ne_eq, z7, z8, z9, z10, z11, z12] at hb27
        refine g_step rfl rfl rfl rfl (e_move (v := .sc _) rfl) trivial ?_
        refine g_step rfl rfl rfl rfl (e_le rfl rfl) trivial ?_
        refine g_step rfl rfl rfl rfl (e_pickT (v := .sc _) rfl rfl) trivial ?_
        refine g_step rfl rfl rfl rfl (e_pickF (v := .sc _) rfl rfl) trivial ?_
        refine g_step rfl rfl rfl rfl (e_assign (v := .sc _) rfl) trivial ?_
        refine g_end (ds := [25, 26, 29, 30, 31, 32, 33, 34]) rfl rfl (hK23 _ ?_); clear hK23 K23
        exact seq_norm (hK21 _ ⟨rfl, rfl, rfl, rfl, rfl, trivial⟩ ⟨(congrArg PV.bool (show ((decide ((byteAt s k) ≤ (90))) : Bool) = (((decide ((97) ≤ (byteAt s k))) && (decide ((byteAt s k) ≤ (122)))) || ((decide ((65) ≤ (byteAt s k))) && (decide ((byteAt s k) ≤ (90))))) by first | rfl | ((try rw [hb27R]) <;> (try rw [hb24R]) <;> (first | rfl | (simp only [Bool.and_true, Bool.and_false, Bool.true_and, Bool.false_and, Bool.or_true, Bool.or_false, Bool.true_or, Bool.false_or, Bool.not_true, Bool.not_false, if_true, if_false, Bool.false_eq_true, reduceIte] <;> rfl))) | (simp only [hb24R, hb27R, Bool.and_true, Bool.and_false, Bool.true_and, Bool.false_and, Bool.or_true, Bool.or_false, Bool.true_or, Bool.false_or, Bool.not_true, Bool.not_false, if_true, if_false, Bool.false_eq_true, reduceIte] <;> rfl))), trivial⟩)
       ·have hb27R := hb27; try simp only [z1, z2, z3, z4, z5, z6, ne_eq, z7, z8, z9, z10, z11, z12] at hb27
        refine g_skip rfl rfl rfl ?_
        refine g_skip rfl rfl rfl ?_
        refine g_step rfl rfl rfl rfl (e_pickF (v := .sc _) rfl rfl) trivial ?_
        refine g_step rfl rfl rfl rfl (e_pickF (v := .sc _) rfl rfl) trivial ?_
        refine g_step rfl rfl rfl rfl (e_assign (v := .sc _) rfl) trivial ?_
        refine g_end (ds := [25, 26, 29, 30, 31, 32, 33, 34]) rfl rfl (hK23 _ ?_); clear hK23 K23
        exact seq_norm (hK21 _ ⟨rfl, rfl, rfl, rfl, rfl, trivial⟩ ⟨(congrArg PV.bool (show (false : Bool) = (((decide ((97) ≤ (byteAt s k))) && (decide ((byteAt s k) ≤ (122)))) || ((decide ((65) ≤ (byteAt s k))) && (decide ((byteAt s k) ≤ (90))))) by first | rfl | ((try rw [hb27R]) <;> (try rw [hb24R]) <;> (first | rfl | (simp only [Bool.and_true, Bool.and_false, Bool.true_and, Bool.false_and, Bool.or_true, Bool.or_false, Bool.true_or, Bool.false_or, Bool.not_true, Bool.not_false, if_true, if_false, Bool.false_eq_true, reduceIte] <;> rfl))) | (simp only [hb24R, hb27R, Bool.and_true, Bool.and_false, Bool.true_and, Bool.false_and, Bool.or_true, Bool.or_false, Bool.true_or, Bool.false_or, Bool.not_true, Bool.not_false, if_true, if_false, Bool.false_eq_true, reduceIte] <;> rfl))), trivial⟩)
     ·skip
      refine pwp_seq_cutG [0, 15, 16] [(53, .bool ((!(((decide ((97) ≤ (byteAt s k))) && (decide ((byteAt s k) ≤ (122)))) || ((decide ((65) ≤ (byteAt s k))) && (decide ((byteAt s k) ≤ (90)))))) && ((decide ((k : Int) = (0))) || ((decide ((byteAt s k) ≠ (45))) && ((decide ((byteAt s k) < (48))) || (decide ((57) < (byteAt s k))))))))] (fun K28 hK28 => ?_) (fun r29 => ?_)
      ·skip
       refine pwp_gops rfl fun K30 hK30 => ?_
       refine g_begin ?_
       refine g_step rfl rfl rfl rfl (e_move (v := .sc _) rfl) trivial ?_
       refine g_step rfl rfl rfl rfl (e_not rfl) trivial ?_
       refine g_step rfl rfl rfl rfl (e_move (v := .sc _) rfl) trivial ?_
       refine g_cases (fun hb31 => ?_) (fun hb31 => ?_)
       ·have hb31R := hb31; try simp only [z1, z2, z3, z4, z5, z6, ne_eq, z7, z8, z9, z10, z11, z12] at hb31
        refine g_step rfl rfl rfl rfl (e_move (v := .sc _) rfl) trivial ?_
        refine g_step rfl rfl rfl rfl (e_eq rfl rfl) trivial ?_
        refine g_step rfl rfl rfl rfl (e_move (v := .sc _) rfl) trivial ?_
        refine g_cases (fun hb32 => ?_) (fun hb32 => ?_)
        ·have hb32R := hb32; try simp only [z1, z2, z3, z4, z5, z6, ne_eq, z7, z8, z9, z10, z11, z12] at hb32
         refine g_skip rfl rfl rfl ?_
         refine g_skip rfl rfl rfl ?_
         refine g_skip rfl rfl rfl ?_
         refine g_skip rfl rfl rfl ?_
         refine g_skip rfl rfl rfl ?_
         refine g_skip rfl rfl rfl ?_
         refine g_skip rfl rfl rfl ?_
         refine g_skip rfl rfl rfl ?_
         refine g_skip rfl rfl rfl ?_
         refine g_skip rfl rfl rfl ?_
         refine g_step rfl rfl rfl rfl (e_pickT (v := .sc _) rfl rfl) trivial ?_
         refine g_step rfl rfl rfl rfl (e_pickT (v := .sc _) rfl rfl) trivial ?_
         refine g_end (ds := [39, 40, 41, 42, 43, 44, 45, 46, 47, 48, 49, 50, 51, 52]) rfl rfl (hK30 _ ?_); clear hK30 K30
         exact seq_norm (hK28 _ ⟨rfl, rfl, rfl, trivial⟩ ⟨(congrArg PV.bool (show (true : Bool) = ((!(((decide ((97) ≤ (byteAt s k))) && (decide ((byteAt s k) ≤ (122)))) || ((decide ((65) ≤ (byteAt s k))) && (decide ((byteAt s k) ≤ (90)))))) && ((decide ((k : Int) = (0))) || ((decide ((byteAt s k) ≠ (45))) && ((decide ((byteAt s k) < (48))) || (decide ((57) < (byteAt s k))))))) by first | rfl | ((try rw [hb32R]) <;> (try rw [hb31R]) <;> (first | rfl | (simp only [Bool.and_true, Bool.and_false, Bool.true_and, Bool.false_and, Bool.or_true, Bool.or_false, Bool.true_or, Bool.false_or, Bool.not_true, Bool.not_false, if_true, if_false, Bool.false_eq_true, reduceIte] <;> rfl))) | (simp only [hb31R, hb32R, Bool.and_true, Bool.and_false, Bool.true_and, Bool.false_and, Bool.or_true, Bool.or_false, Bool.true_or, Bool.false_or, Bool.not_true, Bool.not_false, if_true, if_false, Bool.false_eq_true, reduceIte] <;> rfl))), trivial⟩)
        ·have hb32R := hb32; try simp only [z1, z2, z3, z4, z5, z6, ne_eq, z7, z8, z9, z10, z11, z12] at hb32
         refine g_step rfl rfl rfl rfl (e_move (v := .sc _) rfl) trivial ?_
         refine g_step rfl rfl rfl rfl (e_ne rfl rfl) trivial ?_
         refine g_step rfl rfl rfl rfl (e_move (v := .sc _) rfl) trivial ?_
         refine g_cases (fun hb33 => ?_) (fun hb33 => ?_)
         ·have hb33R := hb33; try simp only [z1, z2, z3, z4, z5, z6, ne_eq, z7, z8, z9, z10, z11, z12] at hb33
          refine g_step rfl rfl rfl rfl (e_move (v := .sc _) rfl) trivial ?_
          refine g_step rfl rfl rfl rfl (e_lt rfl rfl) trivial ?_
          refine g_step rfl rfl rfl rfl (e_move (v := .sc _) rfl) trivial ?_
          refine g_cases (fun hb34 => ?_) (fun hb34 => ?_)
          ·have hb34R := hb34; try simp only [z1, z2, z3, z4, z5, z6, ne_eq, z7, z8, z9, z10, z11, z12] at hb34
           refine g_skip rfl rfl rfl ?_
           refine g_skip rfl rfl rfl ?_
           refine g_step rfl rfl rfl rfl (e_pickT (v := .sc _) rfl rfl) trivial ?_
           refine g_step rfl rfl rfl rfl (e_pickT (v := .sc _) rfl rfl) trivial ?_
           refine g_step rfl rfl rfl rfl (e_pickF (v := .sc _) rfl rfl) trivial ?_
           refine g_step rfl rfl rfl rfl (e_pickT (v := .sc _) rfl rfl) trivial ?_
           refine g_end (ds := [39, 40, 41, 42, 43, 44, 45, 46, 47, 48, 49, 50, 51, 52]) rfl rfl (hK30 _ ?_); clear hK30 K30
           exact seq_norm (hK28 _ ⟨rfl, rfl, rfl, trivial⟩ ⟨(congrArg PV.bool (show (true : Bool) = ((!(((decide ((97) ≤ (byteAt s k))) && (decide ((byteAt s k) ≤ (122)))) || ((decide ((65) ≤ (byteAt s k))) && (decide ((byteAt s k) ≤ (90)))))) && ((decide ((k : Int) = (0))) || ((decide ((byteAt s k) ≠ (45))) && ((decide ((byteAt s k) < (48))) || (decide ((57) < (byteAt s k))))))) by first | rfl | ((try rw [hb34R]) <;> (try rw [hb33R]) <;> (try rw [hb32R]) <;> (try rw [hb31R]) <;> (first | rfl | (simp only [Bool.and_true, Bool.and_false, Bool.true_and, Bool.false_and, Bool.or_true, Bool.or_false, Bool.true_or, Bool.false_or, Bool.not_true, Bool.not_false, if_true, if_false, Bool.false_eq_true, reduceIte] <;> rfl))) | (simp only [hb31R, hb32R, hb33R, hb34R, Bool.and_true, Bool.and_false, Bool.true_and, Bool.false_and, Bool.or_true, Bool.or_false, Bool.true_or, Bool.false_or, Bool.not_true, Bool.not_false, if_true, if_false, Bool.false_eq_true, reduceIte] <;> rfl))), trivial⟩)
          ·have hb34R := hb34; try simp only [z1, z2, z3, z4, z5, z6, ne_eq, z7, z8, z9, z10, z11, z12] at hb34
           refine g_step rfl rfl rfl rfl (e_move (v := .sc _) rfl) trivial ?_
           refine g_step rfl rfl rfl rfl (e_gt rfl rfl) trivial ?_
           refine g_step rfl rfl rfl rfl (e_pickF (v := .sc _) rfl rfl) trivial ?_
           refine g_step rfl rfl rfl rfl (e_pickT (v := .sc _) rfl rfl) trivial ?_
           refine g_step rfl rfl rfl rfl (e_pickF (v := .sc _) rfl rfl) trivial ?_
           refine g_step rfl rfl rfl rfl (e_pickT (v := .sc _) rfl rfl) trivial ?_
           refine g_end (ds := [39, 40, 41, 42, 43, 44, 45, 46, 47, 48, 49, 50, 51, 52]) rfl rfl (hK30 _ ?_); clear hK30 K30
           exact seq_norm (hK28 _ ⟨rfl, rfl, rfl, trivial⟩ ⟨(congrArg PV.bool (show ((decide ((57) < (byteAt s k))) : Bool) = ((!(((decide ((97) ≤ (byteAt s k))) && (decide ((byteAt s k) ≤ (122)))) || ((decide ((65) ≤ (byteAt s k))) && (decide ((byteAt s k) ≤ (90)))))) && ((decide ((k : Int) = (0))) || ((decide ((byteAt s k) ≠ (45))) && ((decide ((byteAt s k) < (48))) || (decide ((57) < (byteAt s k))))))) by first | rfl | ((try rw [hb34R]) <;> (try rw [hb33R]) <;> (try rw [hb32R]) <;> (try rw [hb31R]) <;> (first | rfl | (simp only [Bool.and_true, Bool.and_false, Bool.true_and, Bool.false_and, Bool.or_true, Bool.or_false, Bool.true_or, Bool.false_or, Bool.not_true, Bool.not_false, if_true, if_false, Bool.false_eq_true, reduceIte] <;> rfl))) | (simp only [hb31R, hb32R, hb33R, hb34R, Bool.and_true, Bool.and_false, Bool.true_and, Bool.false_and, Bool.or_true, Bool.or_false, Bool.true_or, Bool.false_or, Bool.not_true, Bool.not_false, if_true, if_false, Bool.false_eq_true, reduceIte] <;> rfl))), trivial⟩)
         ·have hb33R := hb33; try simp only [z1, z2, z3, z4, z5, z6, ne_eq, z7, z8, z9, z10, z11, z12] at hb33
          refine g_skip rfl rfl rfl ?_
          refine g_skip rfl rfl rfl ?_
          refine g_skip rfl rfl rfl ?_
          refine g_skip rfl rfl rfl ?_
          refine g_skip rfl rfl rfl ?_
          refine g_skip rfl rfl rfl ?_
          refine g_step rfl rfl rfl rfl (e_pickF (v := .sc _) rfl rfl) trivial ?_
          refine g_step rfl rfl rfl rfl (e_pickF (v := .sc _) rfl rfl) trivial ?_
          refine g_step rfl rfl rfl rfl (e_pickT (v := .sc _) rfl rfl) trivial ?_
          refine g_end (ds := [39, 40, 41, 42, 43, 44, 45, 46, 47, 48, 49, 50, 51, 52]) rfl rfl (hK30 _ ?_); clear hK30 K30
          exact seq_norm (hK28 _ ⟨rfl, rfl, rfl, trivial⟩ ⟨(congrArg PV.bool (show (false : Bool) = ((!(((decide ((97) ≤ (byteAt s k))) && (decide ((byteAt s k) ≤ (122)))) || ((decide ((65) ≤ (byteAt s k))) && (decide ((byteAt s k) ≤ (90)))))) && ((decide ((k : Int) = (0))) || ((decide ((byteAt s k) ≠ (45))) && ((decide ((byteAt s k) < (48))) || (decide ((57) < (byteAt s k))))))) by first | rfl | ((try rw [hb33R]) <;> (try rw [hb32R]) <;> (try rw [hb31R]) <;> (first | rfl | (simp only [Bool.and_true, Bool.and_false, Bool.true_and, Bool.false_and, Bool.or_true, Bool.or_false, Bool.true_or, Bool.false_or, Bool.not_true, Bool.not_false, if_true, if_false, Bool.false_eq_true, reduceIte] <;> rfl))) | (simp only [hb31R, hb32R, hb33R, Bool.and_true, Bool.and_false, Bool.true_and, Bool.false_and, Bool.or_true, Bool.or_false, Bool.true_or, Bool.false_or, Bool.not_true, Bool.not_false, if_true, if_false, Bool.false_eq_true, reduceIte] <;> rfl))), trivial⟩)
       ·have hb31R := hb31; try simp only [z1, z2, z3, z4, z5, z6, ne_eq, z7, z8, z9, z10, z11, z12] at hb31
        refine g_skip rfl rfl rfl ?_
        refine g_skip rfl rfl rfl ?_
        refine g_skip rfl rfl rfl ?_
        refine g_skip rfl rfl rfl ?_
        refine g_skip rfl rfl rfl ?_
        refine g_skip rfl rfl rfl ?_
        refine g_skip rfl rfl rfl ?_
        refine g_skip rfl rfl rfl ?_
        refine g_skip rfl rfl rfl ?_
        refine g_skip rfl rfl rfl ?_
        refine g_skip rfl rfl rfl ?_
        refine g_skip rfl rfl rfl ?_
        refine g_skip rfl rfl rfl ?_
        refine g_skip rfl rfl rfl ?_
        refine g_step rfl rfl rfl rfl (e_pickF (v := .sc _) rfl rfl) trivial ?_
        refine g_end (ds := [39, 40, 41, 42, 43, 44, 45, 46, 47, 48, 49, 50, 51, 52]) rfl rfl (hK30 _ ?_); clear hK30 K30
        exact seq_norm (hK28 _ ⟨rfl, rfl, rfl, trivial⟩ ⟨(congrArg PV.bool (show (false : Bool) = ((!(((decide ((97) ≤ (byteAt s k))) && (decide ((byteAt s k) ≤ (122)))) || ((decide ((65) ≤ (byteAt s k))) && (decide ((byteAt s k) ≤ (90)))))) && ((decide ((k : Int) = (0))) || ((decide ((byteAt s k) ≠ (45))) && ((decide ((byteAt s k) < (48))) || (decide ((57) < (byteAt s k))))))) by first | rfl | ((try rw [hb31R]) <;> (first | rfl | (simp only [Bool.and_true, Bool.and_false, Bool.true_and, Bool.false_and, Bool.or_true, Bool.or_false, Bool.true_or, Bool.false_or, Bool.not_true, Bool.not_false, if_true, if_false, Bool.false_eq_true, reduceIte] <;> rfl))) | (simp only [hb31R, Bool.and_true, Bool.and_false, Bool.true_and, Bool.false_and, Bool.or_true, Bool.or_false, Bool.true_or, Bool.false_or, Bool.not_true, Bool.not_false, if_true, if_false, Bool.false_eq_true, reduceIte] <;> rfl))), trivial⟩)
      ·skip
       refine pwp_cond rfl (fun hb35 => ?_) (fun hb35 => ?_)
       ·have hb35R := hb35; try simp only [z1, z2, z3, z4, z5, z6, ne_eq, z7, z8, z9, z10, z11, z12] at hb35
        refine pwp_seq_plain rfl fun K36 hK36 => ?_
        refine p_step rfl (e_assign (v := .sc _) rfl) trivial ?_
        refine p_end (hK36 _ ?_); clear hK36 K36
        refine pwp_ret ?_
        refine ret_block ?_
        refine ret_seq ?_
        refine ret_loop ?_
        refine ret_block ?_
        refine ret_seq ?_
        refine end1 (v := .sc _) rfl ?_
        first
          | exact out_b (isNm_len (by omega))
          | exact out_b (isNm_bad hlt (by unfold chOk; omega))
          | exact out_b (isNm_ok (by omega) (by omega) hc)
       ·have hb35R := hb35; try simp only [z1, z2, z3, z4, z5, z6, ne_eq, z7, z8, z9, z10, z11, z12] at hb35
        refine pwp_skip ?_
        refine block_norm ?_
        refine seq_norm (hK18 _ ?_); clear hK18 K18
        refine pwp_plain rfl fun K37 hK37 => ?_
        refine p_step rfl (e_add rfl rfl (by omega)) trivial ?_
        refine p_step rfl (e_move (v := .sc _) rfl) trivial ?_
        refine p_end (hK37 _ ?_); clear hK37 K37
        exact loop_again (k + 1) (by show _ < _; omega) ⟨rfl, rfl, trivial⟩ ⟨rfl, trivial⟩ (by exact ⟨by show _ + 1 ≤ _; omega, by exact chOk_succ hc (by unfold chOk; omega)⟩)
    ·have hb17R := hb17; try simp only [z1, z2, z3, z4, z5, z6, ne_eq, z7, z8, z9, z10, z11, z12] at hb17
     refine pwp_exit ?_
     refine exit_seq ?_
     clear hK16 K16
     refine exit_loop ?_
     refine exit_here ?_
     refine seq_norm (hK10 _ ?_); clear hK10 K10
     refine pwp_seq_plain rfl fun K38 hK38 => ?_
     refine p_step rfl (e_assign (v := .sc _) rfl) trivial ?_
     refine p_end (hK38 _ ?_); clear hK38 K38
     refine pwp_ret ?_
     refine end1 (v := .sc _) rfl ?_
     first
       | exact out_b (isNm_len (by omega))
       | exact out_b (isNm_bad hlt (by unfold chOk; omega))
       | exact out_b (isNm_ok (by omega) (by omega) hc)

end Go.Proofs.Ytdbpfhbppcpbbaa
