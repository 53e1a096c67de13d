/- Names and ranges, as contracts on pure values. No conditions. -/
import Derived.Test.YtigdmkhdmbbfiaaData
import Derived.Test.YtigdmkhdmbbfiaaPvGh
set_option linter.unusedSimpArgs false
set_option linter.unusedVariables false
set_option maxRecDepth 100000
namespace Go.Proofs.Ytigdmkhdmbbfiaa
open Go Go.Pv
theorem z1 {p : Prop} [Decidable p] : (decide p = true) = p := decide_eq_true_eq
theorem z2 {p : Prop} [Decidable p] : decide p = false ↔ ¬ p := decide_eq_false_iff_not
theorem z3 (b : Bool) : ((!b) = true) = (b = false) := Bool.not_eq_true' b
theorem z4 (b : Bool) : ((!b) = false) = (b = true) := Bool.not_eq_false' b
theorem z5 {a b : Int} : ¬ a < b ↔ b ≤ a := Int.not_lt
theorem z6 {a b : Int} : ¬ a ≤ b ↔ b < a := Int.not_le
theorem z7 {p : Prop} [Decidable p] : ¬ ¬ p ↔ p := Decidable.not_not
theorem z8 {α β : Type _} {l : List α} {f : α → β} : (l.map f).length = l.length := List.length_map f
theorem z9 (a b : Bool) : ((a || b) = true) = (a = true ∨ b = true) := Bool.or_eq_true a b
theorem z10 (a b : Bool) : ((a && b) = true) = (a = true ∧ b = true) := Bool.and_eq_true a b
theorem z11 {a b : Bool} : (a || b) = false ↔ a = false ∧ b = false := Bool.or_eq_false_iff
theorem z12 {a b : Bool} : (a && b) = false ↔ a = false ∨ b = false := Bool.and_eq_false_iff


/-! ### Bytes of a text -/
def cu (b : UInt8) : List PV := [.sc (.int .u8 b.toNat)]
def orU (a b : Int) : Int := bits .or .u8 a b
theorem e_convB {P : Program} {ρ : Operand → PV} {h : Heap} {key : Key} {x : Operand} {t t' : TypeId} {s : ByteArray} (hx : ρ x = .str s) (h1 : isStringTy P t' = false) (h2 : (sliceOk P t' && (intKind P (elemTy P t') == some .u8)) = true) (h3 : isStringTy P t = true) :
   eff P ρ h key (.convert t t' x) = ⟨True, .lit false 1 (s.data.toList.map cu), [], [], false⟩ := by
 simp only [eff, hx, convEff, h1, h2, h3]; rfl
theorem e_orB {P : Program} {ρ : Operand → PV} {h : Heap} {key : Key} {x y : Operand} {t t' : TypeId} {a b : Int} (hx : ρ x = .sc (.int .u8 a)) (hy : ρ y = .sc (.int .u8 b)) :
   eff P ρ h key (.binOp .or t x y t') = ⟨True, .sc (.int .u8 (orU a b)), [], [], false⟩ := by
 simp only [eff, hx, hy, binEffN, binEff, intBin, orU]; simp
theorem orU_letter (b : UInt8) : (97 ≤ orU b.toNat 32 ∧ orU b.toNat 32 ≤ 122) ↔ ((97 ≤ (b.toNat : Int) ∧ (b.toNat : Int) ≤ 122) ∨ (65 ≤ (b.toNat : Int) ∧ (b.toNat : Int) ≤ 90)) := by
 have h : ∀ n : Nat, n < 256 → ((97 ≤ orU n 32 ∧ orU n 32 ≤ 122) ↔ ((97 ≤ (n : Int) ∧ (n : Int) ≤ 122) ∨ (65 ≤ (n : Int) ∧ (n : Int) ≤ 90))) := by decide +kernel
 exact h _ b.toNat_lt
theorem byteAt_eq {s : ByteArray} {k : Nat} {x : UInt8} (hx : s.data.toList[k]? = some x) : byteAt s k = (x.toNat : Int) := by
 simp only [byteAt, List.getD_eq_getElem?_getD, hx, Option.getD_some]
theorem data_len (s : ByteArray) : s.data.toList.length = s.size := Array.length_toList
theorem ne_empty {s : ByteArray} : s ≠ (⟨#[]⟩ : ByteArray) ↔ 1 ≤ s.size := by
 constructor
 · intro h
   refine Nat.one_le_iff_ne_zero.2 fun hz => h ?_
   obtain ⟨d⟩ := s
   obtain ⟨l⟩ := d
   cases l with
   | nil => rfl
   | cons b l => simp [ByteArray.size] at hz
 · rintro h rfl; exact absurd h (by decide)

def chOk (i : Nat) (c : Int) : Prop := (97 ≤ c ∧ c ≤ 122) ∨ (65 ≤ c ∧ c ≤ 90) ∨ (i ≠ 0 ∧ (c = 45 ∨ (48 ≤ c ∧ c ≤ 57)))
instance (i : Nat) (c : Int) : Decidable (chOk i c) := inferInstanceAs (Decidable (_ ∨ _))
/-- A name: 1 to 12 signs, letters, and behind the first one digits and hyphens. -/
def isNm (s : ByteArray) : Bool := decide (1 ≤ s.size ∧ s.size ≤ 12 ∧ ∀ i, i < s.size → chOk i (byteAt s i))
theorem isNm_len {s : ByteArray} (h : s.size < 1 ∨ 12 < s.size) : false = isNm s := by
 symm; simp only [isNm, decide_eq_false_iff_not]; omega
theorem isNm_bad {s : ByteArray} {k : Nat} (hk : k < s.size) (h : ¬ chOk k (byteAt s k)) : false = isNm s := by
 symm; simp only [isNm, decide_eq_false_iff_not]
 exact fun hn => h (hn.2.2 k hk)
theorem isNm_ok {s : ByteArray} {k : Nat} (h1 : 1 ≤ s.size ∧ s.size ≤ 12) (hk : k = s.size) (h : ∀ i, i < k → chOk i (byteAt s i)) : true = isNm s := by
 subst hk
 symm; simp only [isNm, decide_eq_true_eq]
 exact ⟨h1.1, h1.2, h⟩
theorem isNm_end {s : ByteArray} {k : Nat} (hk : k = s.size) (h : ∀ i, i < k → chOk i (byteAt s i)) : (decide (s ≠ (⟨#[]⟩ : ByteArray)) && decide ((s.size : Int) ≤ 12)) = isNm s := by
 subst hk
 rw [Bool.eq_iff_iff]
 simp only [isNm, Bool.and_eq_true, decide_eq_true_eq, ne_empty]
 constructor
 · rintro ⟨h1, h2⟩; exact ⟨h1, by omega, h⟩
 · rintro ⟨h1, h2, _⟩; exact ⟨h1, by omega⟩
theorem chOk_succ {s : ByteArray} {k : Nat} (h : ∀ i, i < k → chOk i (byteAt s i)) (h2 : chOk k (byteAt s k)) : ∀ i, i < k + 1 → chOk i (byteAt s i) := fun i hi => by
 rcases Nat.lt_succ_iff_lt_or_eq.1 hi with h3 | rfl
 · exact h i h3
 · exact h2

theorem fr50 : (inFrame Try.f50.ntmps (Try.f50.body.getD .skip) && Try.f50.results.toList.all (resScope Try.f50.ntmps)) = true := by kernel_rfl
theorem Within (n lo hi : Int) : PCalls Try.prog 50 [.int n, .int lo, .int hi] (.bool (decide (lo ≤ n ∧ n ≤ hi))) := by
 refine PCalls.of_code Try.func50 rfl rfl (by kernel_rfl) mixed fr50 (by show _ ≤ 15; simp) (.sc _) ?_
 refine pwp_seq_plain rfl fun K1 hK1 => ?_
 refine p_step rfl (e_assign (v := .sc _) rfl) trivial ?_
 refine p_end (hK1 _ ?_); clear hK1 K1
 refine pwp_seq_cutG [] [(6, .bool ((decide (lo ≤ n)) && (decide (n ≤ hi))))] (fun K2 hK2 => ?_) (fun r3 => ?_)
 ·skip
  refine pwp_gops rfl fun K4 hK4 => ?_
  refine g_begin ?_
  refine g_step rfl rfl rfl rfl (e_move (v := .sc _) rfl) trivial ?_
  refine g_step rfl rfl rfl rfl (e_move (v := .sc _) rfl) trivial ?_
  refine g_step rfl rfl rfl rfl (e_ge rfl rfl) trivial ?_
  refine g_step rfl rfl rfl rfl (e_move (v := .sc _) rfl) trivial ?_
  refine g_cases (fun hb5 => ?_) (fun hb5 => ?_)
  ·have hb5R := hb5; try simp only [z1, z2, z3, z4, z5, z6, ne_eq, z7, z8, z9, z10, z11, z12] at hb5
   refine g_step rfl rfl rfl rfl (e_move (v := .sc _) rfl) trivial ?_
   refine g_step rfl rfl rfl rfl (e_move (v := .sc _) rfl) trivial ?_
   refine g_step rfl rfl rfl rfl (e_le rfl rfl) trivial ?_
   refine g_step rfl rfl rfl rfl (e_pickT (v := .sc _) rfl rfl) trivial ?_
   refine g_step rfl rfl rfl rfl (e_assign (v := .sc _) rfl) trivial ?_
   refine g_end (ds := [11, 12, 13]) rfl rfl (hK4 _ ?_); clear hK4 K4
   exact seq_norm (hK2 _ trivial ⟨(congrArg PV.bool (show ((decide (n ≤ hi)) : Bool) = ((decide (lo ≤ n)) && (decide (n ≤ hi))) by first | rfl | ((try rw [hb5R]) <;> (first | rfl | (simp only [Bool.and_true, Bool.and_false, Bool.true_and, Bool.false_and, Bool.or_true, Bool.or_false, Bool.true_or, Bool.false_or, Bool.not_true, Bool.not_false, if_true, if_false, Bool.false_eq_true, reduceIte] <;> rfl))) | (simp only [hb5R, Bool.and_true, Bool.and_false, Bool.true_and, Bool.false_and, Bool.or_true, Bool.or_false, Bool.true_or, Bool.false_or, Bool.not_true, Bool.not_false, if_true, if_false, Bool.false_eq_true, reduceIte] <;> rfl))), trivial⟩)
  ·have hb5R := hb5; try simp only [z1, z2, z3, z4, z5, z6, ne_eq, z7, z8, z9, z10, z11, z12] at hb5
   refine g_skip rfl rfl rfl ?_
   refine g_skip rfl rfl rfl ?_
   refine g_skip rfl rfl rfl ?_
   refine g_step rfl rfl rfl rfl (e_pickF (v := .sc _) rfl rfl) trivial ?_
   refine g_step rfl rfl rfl rfl (e_assign (v := .sc _) rfl) trivial ?_
   refine g_end (ds := [11, 12, 13]) rfl rfl (hK4 _ ?_); clear hK4 K4
   exact seq_norm (hK2 _ trivial ⟨(congrArg PV.bool (show (false : Bool) = ((decide (lo ≤ n)) && (decide (n ≤ hi))) by first | rfl | ((try rw [hb5R]) <;> (first | rfl | (simp only [Bool.and_true, Bool.and_false, Bool.true_and, Bool.false_and, Bool.or_true, Bool.or_false, Bool.true_or, Bool.false_or, Bool.not_true, Bool.not_false, if_true, if_false, Bool.false_eq_true, reduceIte] <;> rfl))) | (simp only [hb5R, Bool.and_true, Bool.and_false, Bool.true_and, Bool.false_and, Bool.or_true, Bool.or_false, Bool.true_or, Bool.false_or, Bool.not_true, Bool.not_false, if_true, if_false, Bool.false_eq_true, reduceIte] <;> rfl))), trivial⟩)
 ·skip
  refine pwp_ret ?_
  refine end1 (v := .sc _) rfl ?_
  exact out_b (by first | rfl | (rw [Bool.eq_iff_iff]; simp only [decide_eq_true_eq, Bool.false_eq_true, eq_self_iff_true, true_iff, false_iff, iff_true, iff_false, Bool.and_eq_true] <;> omega))

theorem fr68 : (inFrame Try.f68.ntmps (Try.f68.body.getD .skip) && Try.f68.results.toList.all (resScope Try.f68.ntmps)) = true := by kernel_rfl
theorem within (n lo hi : Int) : PCalls Try.prog 68 [.int n, .int lo, .int hi] (.bool (decide (lo ≤ n ∧ n ≤ hi))) := by
 refine PCalls.of_code Try.func68 rfl rfl (by kernel_rfl) mixed fr68 (by show _ ≤ 15; simp) (.sc _) ?_
 refine pwp_seq_plain rfl fun K1 hK1 => ?_
 refine p_step rfl (e_assign (v := .sc _) rfl) trivial ?_
 refine p_end (hK1 _ ?_); clear hK1 K1
 refine pwp_seq_cutG [] [(6, .bool ((decide (lo ≤ n)) && (decide (n ≤ hi))))] (fun K2 hK2 => ?_) (fun r3 => ?_)
 ·skip
  refine pwp_gops rfl fun K4 hK4 => ?_
  refine g_begin ?_
  refine g_step rfl rfl rfl rfl (e_move (v := .sc _) rfl) trivial ?_
  refine g_step rfl rfl rfl rfl (e_move (v := .sc _) rfl) trivial ?_
  refine g_step rfl rfl rfl rfl (e_ge rfl rfl) trivial ?_
  refine g_step rfl rfl rfl rfl (e_move (v := .sc _) rfl) trivial ?_
  refine g_cases (fun hb5 => ?_) (fun hb5 => ?_)
  ·have hb5R := hb5; try simp only [z1, z2, z3, z4, z5, z6, ne_eq, z7, z8, z9, z10, z11, z12] at hb5
   refine g_step rfl rfl rfl rfl (e_move (v := .sc _) rfl) trivial ?_
   refine g_step rfl rfl rfl rfl (e_move (v := .sc _) rfl) trivial ?_
   refine g_step rfl rfl rfl rfl (e_le rfl rfl) trivial ?_
   refine g_step rfl rfl rfl rfl (e_pickT (v := .sc _) rfl rfl) trivial ?_
   refine g_step rfl rfl rfl rfl (e_assign (v := .sc _) rfl) trivial ?_
   refine g_end (ds := [11, 12, 13]) rfl rfl (hK4 _ ?_); clear hK4 K4
   exact seq_norm (hK2 _ trivial ⟨(congrArg PV.bool (show ((decide (n ≤ hi)) : Bool) = ((decide (lo ≤ n)) && (decide (n ≤ hi))) by first | rfl | ((try rw [hb5R]) <;> (first | rfl | (simp only [Bool.and_true, Bool.and_false, Bool.true_and, Bool.false_and, Bool.or_true, Bool.or_false, Bool.true_or, Bool.false_or, Bool.not_true, Bool.not_false, if_true, if_false, Bool.false_eq_true, reduceIte] <;> rfl))) | (simp only [hb5R, Bool.and_true, Bool.and_false, Bool.true_and, Bool.false_and, Bool.or_true, Bool.or_false, Bool.true_or, Bool.false_or, Bool.not_true, Bool.not_false, if_true, if_false, Bool.false_eq_true, reduceIte] <;> rfl))), trivial⟩)
  ·have hb5R := hb5; try simp only [z1, z2, z3, z4, z5, z6, ne_eq, z7, z8, z9, z10, z11, z12] at hb5
   refine g_skip rfl rfl rfl ?_
   refine g_skip rfl rfl rfl ?_
   refine g_skip rfl rfl rfl ?_
   refine g_step rfl rfl rfl rfl (e_pickF (v := .sc _) rfl rfl) trivial ?_
   refine g_step rfl rfl rfl rfl (e_assign (v := .sc _) rfl) trivial ?_
   refine g_end (ds := [11, 12, 13]) rfl rfl (hK4 _ ?_); clear hK4 K4
   exact seq_norm (hK2 _ trivial ⟨(congrArg PV.bool (show (false : Bool) = ((decide (lo ≤ n)) && (decide (n ≤ hi))) by first | rfl | ((try rw [hb5R]) <;> (first | rfl | (simp only [Bool.and_true, Bool.and_false, Bool.true_and, Bool.false_and, Bool.or_true, Bool.or_false, Bool.true_or, Bool.false_or, Bool.not_true, Bool.not_false, if_true, if_false, Bool.false_eq_true, reduceIte] <;> rfl))) | (simp only [hb5R, Bool.and_true, Bool.and_false, Bool.true_and, Bool.false_and, Bool.or_true, Bool.or_false, Bool.true_or, Bool.false_or, Bool.not_true, Bool.not_false, if_true, if_false, Bool.false_eq_true, reduceIte] <;> rfl))), trivial⟩)
 ·skip
  refine pwp_ret ?_
  refine end1 (v := .sc _) rfl ?_
  exact out_b (by first | rfl | (rw [Bool.eq_iff_iff]; simp only [decide_eq_true_eq, Bool.false_eq_true, eq_self_iff_true, true_iff, false_iff, iff_true, iff_false, Bool.and_eq_true] <;> omega))

theorem fr66 : (inFrame Try.f66.ntmps (Try.f66.body.getD .skip) && Try.f66.results.toList.all (resScope Try.f66.ntmps)) = true := by kernel_rfl
theorem IsName (s : ByteArray) : PCalls Try.prog 66 [.str s] (.bool (isNm s)) := by
 refine PCalls.of_code Try.func66 rfl rfl (by kernel_rfl) mixed fr66 (by show _ ≤ 55; simp) (.sc _) ?_
 refine pwp_seq_plain rfl fun K1 hK1 => ?_
 refine p_step rfl (e_assign (v := .sc _) rfl) trivial ?_
 refine p_end (hK1 _ ?_); clear hK1 K1
 refine pwp_seq_seq ?_
 refine pwp_seq_cutG [0] [(13, .bool ((decide (((s).size : Int) < (1))) || (decide ((12) < ((s).size : Int)))))] (fun K2 hK2 => ?_) (fun r3 => ?_)
 ·skip
  refine pwp_gops rfl fun K4 hK4 => ?_
  refine g_begin ?_
  refine g_step rfl rfl rfl rfl (e_move (v := .sc _) rfl) trivial ?_
  refine g_step rfl rfl rfl rfl (e_lenS rfl (by kernel_rfl)) trivial ?_
  refine g_step rfl rfl rfl rfl (e_lt rfl rfl) trivial ?_
  refine g_step rfl rfl rfl rfl (e_move (v := .sc _) rfl) trivial ?_
  refine g_cases (fun hb5 => ?_) (fun hb5 => ?_)
  ·have hb5R := hb5; try simp only [z1, z2, z3, z4, z5, z6, ne_eq, z7, z8, z9, z10, z11, z12] at hb5
   refine g_skip rfl rfl rfl ?_
   refine g_skip rfl rfl rfl ?_
   refine g_skip rfl rfl rfl ?_
   refine g_step rfl rfl rfl rfl (e_pickT (v := .sc _) rfl rfl) trivial ?_
   refine g_end (ds := [10, 11, 12]) rfl rfl (hK4 _ ?_); clear hK4 K4
   exact seq_norm (hK2 _ ⟨rfl, trivial⟩ ⟨(congrArg PV.bool (show (true : Bool) = ((decide (((s).size : Int) < (1))) || (decide ((12) < ((s).size : Int)))) by first | rfl | ((try rw [hb5R]) <;> (first | rfl | (simp only [Bool.and_true, Bool.and_false, Bool.true_and, Bool.false_and, Bool.or_true, Bool.or_false, Bool.true_or, Bool.false_or, Bool.not_true, Bool.not_false, if_true, if_false, Bool.false_eq_true, reduceIte] <;> rfl))) | (simp only [hb5R, Bool.and_true, Bool.and_false, Bool.true_and, Bool.false_and, Bool.or_true, Bool.or_false, Bool.true_or, Bool.false_or, Bool.not_true, Bool.not_false, if_true, if_false, Bool.false_eq_true, reduceIte] <;> rfl))), trivial⟩)
  ·have hb5R := hb5; try simp only [z1, z2, z3, z4, z5, z6, ne_eq, z7, z8, z9, z10, z11, z12] at hb5
   refine g_step rfl rfl rfl rfl (e_move (v := .sc _) rfl) trivial ?_
   refine g_step rfl rfl rfl rfl (e_lenS rfl (by kernel_rfl)) trivial ?_
   refine g_step rfl rfl rfl rfl (e_gt rfl rfl) trivial ?_
   refine g_step rfl rfl rfl rfl (e_pickF (v := .sc _) rfl rfl) trivial ?_
   refine g_end (ds := [10, 11, 12]) rfl rfl (hK4 _ ?_); clear hK4 K4
   exact seq_norm (hK2 _ ⟨rfl, trivial⟩ ⟨(congrArg PV.bool (show ((decide ((12) < ((s).size : Int))) : Bool) = ((decide (((s).size : Int) < (1))) || (decide ((12) < ((s).size : Int)))) by first | rfl | ((try rw [hb5R]) <;> (first | rfl | (simp only [Bool.and_true, Bool.and_false, Bool.true_and, Bool.false_and, Bool.or_true, Bool.or_false, Bool.true_or, Bool.false_or, Bool.not_true, Bool.not_false, if_true, if_false, Bool.false_eq_true, reduceIte] <;> rfl))) | (simp only [hb5R, Bool.and_true, Bool.and_false, Bool.true_and, Bool.false_and, Bool.or_true, Bool.or_false, Bool.true_or, Bool.false_or, Bool.not_true, Bool.not_false, if_true, if_false, Bool.false_eq_true, reduceIte] <;> rfl))), trivial⟩)
 ·skip
  refine pwp_seq_cond rfl fun K6 hK6 => ⟨fun hb7 => ?_, fun hb7 => ?_⟩
  ·have hb7R := hb7; try simp only [z1, z2, z3, z4, z5, z6, ne_eq, z7, z8, z9, z10, z11, z12] at hb7
   refine pwp_seq_plain rfl fun K8 hK8 => ?_
   refine p_step rfl (e_assign (v := .sc _) rfl) trivial ?_
   refine p_end (hK8 _ ?_); clear hK8 K8
   refine pwp_ret ?_
   refine ret_seq ?_
   refine end1 (v := .sc _) rfl ?_
   first
     | exact out_b (isNm_len (by omega))
     | exact out_b (isNm_bad hlt (by unfold chOk; omega))
     | exact out_b (isNm_ok (by omega) (by omega) hc)
  ·have hb7R := hb7; try simp only [z1, z2, z3, z4, z5, z6, ne_eq, z7, z8, z9, z10, z11, z12] at hb7
   refine pwp_skip ?_
   refine seq_norm (hK6 _ ?_); clear hK6 K6
   refine pwp_seq_seq ?_
   refine pwp_seq_plain rfl fun K9 hK9 => ?_
   refine p_step rfl (e_assign (v := .sc _) rfl) trivial ?_
   refine p_end (hK9 _ ?_); clear hK9 K9
   refine pwp_seq_block fun K10 hK10 => ?_
   refine pwp_loopR (α := Nat) [0] (fun (k : Nat) => [(3, .int (k))]) (fun (k : Nat) (h : Heap) (_ : Nat → Nat) => ((k) ≤ s.size) ∧ (∀ i, i < (k) → chOk i (byteAt s i))) (fun (k : Nat) => s.size - (k)) (0) (by exact ⟨rfl, trivial⟩) (by exact ⟨by exact Nat.zero_le _, by exact fun i hi => absurd hi (Nat.not_lt_zero i)⟩) fun k r11 h12 c13 hj14 => ?_
   obtain ⟨hk, hc⟩ := hj14
   try dsimp only at hk
   try dsimp only at hc
   show pwp _ _ (loopQ _ _ _) ⟨sets (mix _ _ _) [(3, .int k)], _, _⟩
   refine pwp_seq_seq ?_
   refine pwp_seq_plain rfl fun K15 hK15 => ?_
   refine p_step rfl (e_move (v := .sc _) rfl) trivial ?_
   refine p_step rfl (e_move (v := .sc _) rfl) trivial ?_
   refine p_step rfl (e_lenS rfl (by kernel_rfl)) trivial ?_
   refine p_step rfl (e_lt rfl rfl) trivial ?_
   refine p_end (hK15 _ ?_); clear hK15 K15
   refine pwp_seq_cond rfl fun K16 hK16 => ⟨fun hb17 => ?_, fun hb17 => ?_⟩
   ·have hb17R := hb17; try simp only [z1, z2, z3, z4, z5, z6, ne_eq, z7, z8, z9, z10, z11, z12] at hb17
    have hlt : k < s.size := by omega
    refine pwp_skip ?_
    refine seq_norm (hK16 _ ?_); clear hK16 K16
    refine pwp_seq_block fun K18 hK18 => ?_
    refine pwp_seq_plain rfl fun K19 hK19 => ?_
    refine p_step rfl (e_move (v := .sc _) rfl) trivial ?_
    refine p_step rfl (e_move (v := .sc _) rfl) trivial ?_
    refine p_step rfl (e_indexN (n := k) rfl rfl rfl (by kernel_rfl) (by omega)) trivial ?_
    refine p_step rfl (e_assign (v := .sc _) rfl) trivial ?_
    refine p_end (hK19 _ ?_); clear hK19 K19
    refine pwp_seq_cutG [0, 3, 4] [(5, .bool (((decide ((97) ≤ (byteAt s k))) && (decide ((byteAt s k) ≤ (122)))) || ((decide ((65) ≤ (byteAt s k))) && (decide ((byteAt s k) ≤ (90))))))] (fun K20 hK20 => ?_) (fun r21 => ?_)
    ·skip
     refine pwp_gops rfl fun K22 hK22 => ?_
     refine g_begin ?_
     refine g_step rfl rfl rfl rfl (e_move (v := .sc _) rfl) trivial ?_
     refine g_step rfl rfl rfl rfl (e_ge rfl rfl) trivial ?_
     refine g_step rfl rfl rfl rfl (e_move (v := .sc _) rfl) trivial ?_
     refine g_cases (fun hb23 => ?_) (fun hb23 => ?_)
     ·have hb23R := hb23; try simp only [z1, z2, z3, z4, z5, z6, ne_eq, z7, z8, z9, z10, z11, z12] at hb23
      refine g_step rfl rfl rfl rfl (e_move (v := .sc _) rfl) trivial ?_
      refine g_step rfl rfl rfl rfl (e_le rfl rfl) trivial ?_
      refine g_step rfl rfl rfl rfl (e_pickT (v := .sc _) rfl rfl) trivial ?_
      refine g_step rfl rfl rfl rfl (e_move (v := .sc _) rfl) trivial ?_
      refine g_cases (fun hb24 => ?_) (fun hb24 => ?_)
      ·have hb24R := hb24; try simp only [z1, z2, z3, z4, z5, z6, ne_eq, z7, z8, z9, z10, z11, z12] at hb24
       refine g_skip rfl rfl rfl ?_
       refine g_skip rfl rfl rfl ?_
       refine g_skip rfl rfl rfl ?_
       refine g_skip rfl rfl rfl ?_
       refine g_skip rfl rfl rfl ?_
       refine g_skip rfl rfl rfl ?_
       refine g_step rfl rfl rfl rfl (e_pickT (v := .sc _) rfl rfl) trivial ?_
       refine g_step rfl rfl rfl rfl (e_assign (v := .sc _) rfl) trivial ?_
       refine g_end (ds := [26, 27, 30, 31, 32, 33, 34, 35]) rfl rfl (hK22 _ ?_); clear hK22 K22
       exact seq_norm (hK20 _ ⟨rfl, rfl, rfl, trivial⟩ ⟨(congrArg PV.bool (show (true : Bool) = (((decide ((97) ≤ (byteAt s k))) && (decide ((byteAt s k) ≤ (122)))) || ((decide ((65) ≤ (byteAt s k))) && (decide ((byteAt s k) ≤ (90))))) by first | rfl | ((try rw [hb24R]) <;> (try rw [hb23R]) <;> (first | rfl | (simp only [Bool.and_true, Bool.and_false, Bool.true_and, Bool.false_and, Bool.or_true, Bool.or_false, Bool.true_or, Bool.false_or, Bool.not_true, Bool.not_false, if_true, if_false, Bool.false_eq_true, reduceIte] <;> rfl))) | (simp only [hb23R, hb24R, Bool.and_true, Bool.and_false, Bool.true_and, Bool.false_and, Bool.or_true, Bool.or_false, Bool.true_or, Bool.false_or, Bool.not_true, Bool.not_false, if_true, if_false, Bool.false_eq_true, reduceIte] <;> rfl))), trivial⟩)
      ·have hb24R := hb24; try simp only [z1, z2, z3, z4, z5, z6, ne_eq, z7, z8, z9, z10, z11, z12] at hb24
       refine g_step rfl rfl rfl rfl (e_move (v := .sc _) rfl) trivial ?_
       refine g_step rfl rfl rfl rfl (e_ge rfl rfl) trivial ?_
       refine g_step rfl rfl rfl rfl (e_move (v := .sc _) rfl) trivial ?_
       refine g_cases (fun hb25 => ?_) (fun hb25 => ?_)
       ·have hb25R := hb25; try simp only [z1, z2, z3, z4, z5, z6, ne_eq, z7, z8, z9, z10, z11, z12] at hb25
        refine g_step rfl rfl rfl rfl (e_move (v := .sc _) rfl) trivial ?_
        refine g_step rfl rfl rfl rfl (e_le rfl rfl) trivial ?_
        refine g_step rfl rfl rfl rfl (e_pickT (v := .sc _) rfl rfl) trivial ?_
        refine g_step rfl rfl rfl rfl (e_pickF (v := .sc _) rfl rfl) trivial ?_
        refine g_step rfl rfl rfl rfl (e_assign (v := .sc _) rfl) trivial ?_
        refine g_end (ds := [26, 27, 30, 31, 32, 33, 34, 35]) rfl rfl (hK22 _ ?_); clear hK22 K22
        exact seq_norm (hK20 _ ⟨rfl, rfl, rfl, trivial⟩ ⟨(congrArg PV.bool (show ((decide ((byteAt s k) ≤ (90))) : Bool) = (((decide ((97) ≤ (byteAt s k))) && (decide ((byteAt s k) ≤ (122)))) || ((decide ((65) ≤ (byteAt s k))) && (decide ((byteAt s k) ≤ (90))))) by first | rfl | ((try rw [hb25R]) <;> (try rw [hb24R]) <;> (try rw [hb23R]) <;> (first | rfl | (simp only [Bool.and_true, Bool.and_false, Bool.true_and, Bool.false_and, Bool.or_true, Bool.or_false, Bool.true_or, Bool.false_or, Bool.not_true, Bool.not_false, if_true, if_false, Bool.false_eq_true, reduceIte] <;> rfl))) | (simp only [hb23R, hb24R, hb25R, Bool.and_true, Bool.and_false, Bool.true_and, Bool.false_and, Bool.or_true, Bool.or_false, Bool.true_or, Bool.false_or, Bool.not_true, Bool.not_false, if_true, if_false, Bool.false_eq_true, reduceIte] <;> rfl))), trivial⟩)
       ·have hb25R := hb25; try simp only [z1, z2, z3, z4, z5, z6, ne_eq, z7, z8, z9, z10, z11, z12] at hb25
        refine g_skip rfl rfl rfl ?_
        refine g_skip rfl rfl rfl ?_
        refine g_step rfl rfl rfl rfl (e_pickF (v := .sc _) rfl rfl) trivial ?_
        refine g_step rfl rfl rfl rfl (e_pickF (v := .sc _) rfl rfl) trivial ?_
        refine g_step rfl rfl rfl rfl (e_assign (v := .sc _) rfl) trivial ?_
        refine g_end (ds := [26, 27, 30, 31, 32, 33, 34, 35]) rfl rfl (hK22 _ ?_); clear hK22 K22
        exact seq_norm (hK20 _ ⟨rfl, rfl, rfl, trivial⟩ ⟨(congrArg PV.bool (show (false : Bool) = (((decide ((97) ≤ (byteAt s k))) && (decide ((byteAt s k) ≤ (122)))) || ((decide ((65) ≤ (byteAt s k))) && (decide ((byteAt s k) ≤ (90))))) by first | rfl | ((try rw [hb25R]) <;> (try rw [hb24R]) <;> (try rw [hb23R]) <;> (first | rfl | (simp only [Bool.and_true, Bool.and_false, Bool.true_and, Bool.false_and, Bool.or_true, Bool.or_false, Bool.true_or, Bool.false_or, Bool.not_true, Bool.not_false, if_true, if_false, Bool.false_eq_true, reduceIte] <;> rfl))) | (simp only [hb23R, hb24R, hb25R, Bool.and_true, Bool.and_false, Bool.true_and, Bool.false_and, Bool.or_true, Bool.or_false, Bool.true_or, Bool.false_or, Bool.not_true, Bool.not_false, if_true, if_false, Bool.false_eq_true, reduceIte] <;> rfl))), trivial⟩)
     ·have hb23R := hb23; try simp only [z1, z2, z3, z4, z5, z6, ne_eq, z7, z8, z9, z10, z11, z12] at hb23
      refine g_skip rfl rfl rfl ?_
      refine g_skip rfl rfl rfl ?_
      refine g_step rfl rfl rfl rfl (e_pickF (v := .sc _) rfl rfl) trivial ?_
      refine g_step rfl rfl rfl rfl (e_move (v := .sc _) rfl) trivial ?_
      refine g_step rfl rfl rfl rfl (e_move (v := .sc _) rfl) trivial ?_
      refine g_step rfl rfl rfl rfl (e_ge rfl rfl) trivial ?_
      refine g_step rfl rfl rfl rfl (e_move (v := .sc _) rfl) trivial ?_
      refine g_cases (fun hb26 => ?_) (fun hb26 => ?_)
      ·have hb26R := hb26; try simp only [z1, z2, z3, z4, z5, z6, ne_eq, z7, z8, z9, z10, z11, z12] at hb26
       refine g_step rfl rfl rfl rfl (e_move (v := .sc _) rfl) trivial ?_
       refine g_step rfl rfl rfl rfl (e_le rfl rfl) trivial ?_
       refine g_step rfl rfl rfl rfl (e_pickT (v := .sc _) rfl rfl) trivial ?_
       refine g_step rfl rfl rfl rfl (e_pickF (v := .sc _) rfl rfl) trivial ?_
       refine g_step rfl rfl rfl rfl (e_assign (v := .sc _) rfl) trivial ?_
       refine g_end (ds := [26, 27, 30, 31, 32, 33, 34, 35]) rfl rfl (hK22 _ ?_); clear hK22 K22
       exact seq_norm (hK20 _ ⟨rfl, rfl, rfl, trivial⟩ ⟨(congrArg PV.bool (show ((decide ((byteAt s k) ≤ (90))) : Bool) = (((decide ((97) ≤ (byteAt s k))) && (decide ((byteAt s k) ≤ (122)))) || ((decide ((65) ≤ (byteAt s k))) && (decide ((byteAt s k) ≤ (90))))) by first | rfl | ((try rw [hb26R]) <;> (try rw [hb23R]) <;> (first | rfl | (simp only [Bool.and_true, Bool.and_false, Bool.true_and, Bool.false_and, Bool.or_true, Bool.or_false, Bool.true_or, Bool.false_or, Bool.not_true, Bool.not_false, if_true, if_false, Bool.false_eq_true, reduceIte] <;> rfl))) | (simp only [hb23R, hb26R, Bool.and_true, Bool.and_false, Bool.true_and, Bool.false_and, Bool.or_true, Bool.or_false, Bool.true_or, Bool.false_or, Bool.not_true, Bool.not_false, if_true, if_false, Bool.false_eq_true, reduceIte] <;> rfl))), trivial⟩)
      ·have hb26R := hb26; try simp only [z1, z2, z3, z4, z5, z6, ne_eq, z7, z8, z9, z10, z11, z12] at hb26
       refine g_skip rfl rfl rfl ?_
       refine g_skip rfl rfl rfl ?_
       refine g_step rfl rfl rfl rfl (e_pickF (v := .sc _) rfl rfl) trivial ?_
       refine g_step rfl rfl rfl rfl (e_pickF (v := .sc _) rfl rfl) trivial ?_
       refine g_step rfl rfl rfl rfl (e_assign (v := .sc _) rfl) trivial ?_
       refine g_end (ds := [26, 27, 30, 31, 32, 33, 34, 35]) rfl rfl (hK22 _ ?_); clear hK22 K22
       exact seq_norm (hK20 _ ⟨rfl, rfl, rfl, trivial⟩ ⟨(congrArg PV.bool (show (false : Bool) = (((decide ((97) ≤ (byteAt s k))) && (decide ((byteAt s k) ≤ (122)))) || ((decide ((65) ≤ (byteAt s k))) && (decide ((byteAt s k) ≤ (90))))) by first | rfl | ((try rw [hb26R]) <;> (try rw [hb23R]) <;> (first | rfl | (simp only [Bool.and_true, Bool.and_false, Bool.true_and, Bool.false_and, Bool.or_true, Bool.or_false, Bool.true_or, Bool.false_or, Bool.not_true, Bool.not_false, if_true, if_false, Bool.false_eq_true, reduceIte] <;> rfl))) | (simp only [hb23R, hb26R, Bool.and_true, Bool.and_false, Bool.true_and, Bool.false_and, Bool.or_true, Bool.or_false, Bool.true_or, Bool.false_or, Bool.not_true, Bool.not_false, if_true, if_false, Bool.false_eq_true, reduceIte] <;> rfl))), trivial⟩)
    ·skip
     refine pwp_seq_cutG [0, 3] [(54, .bool ((!(((decide ((97) ≤ (byteAt s k))) && (decide ((byteAt s k) ≤ (122)))) || ((decide ((65) ≤ (byteAt s k))) && (decide ((byteAt s k) ≤ (90)))))) && ((decide ((k : Int) = (0))) || ((decide ((byteAt s k) ≠ (45))) && ((decide ((byteAt s k) < (48))) || (decide ((57) < (byteAt s k))))))))] (fun K27 hK27 => ?_) (fun r28 => ?_)
     ·skip
      refine pwp_gops rfl fun K29 hK29 => ?_
      refine g_begin ?_
      refine g_step rfl rfl rfl rfl (e_move (v := .sc _) rfl) trivial ?_
      refine g_step rfl rfl rfl rfl (e_not rfl) trivial ?_
      refine g_step rfl rfl rfl rfl (e_move (v := .sc _) rfl) trivial ?_
      refine g_cases (fun hb30 => ?_) (fun hb30 => ?_)
      ·have hb30R := hb30; try simp only [z1, z2, z3, z4, z5, z6, ne_eq, z7, z8, z9, z10, z11, z12] at hb30
       refine g_step rfl rfl rfl rfl (e_move (v := .sc _) rfl) trivial ?_
       refine g_step rfl rfl rfl rfl (e_eq rfl rfl) trivial ?_
       refine g_step rfl rfl rfl rfl (e_move (v := .sc _) rfl) trivial ?_
       refine g_cases (fun hb31 => ?_) (fun hb31 => ?_)
       ·have hb31R := hb31; try simp only [z1, z2, z3, z4, z5, z6, ne_eq, z7, z8, z9, z10, z11, z12] at hb31
        refine g_skip rfl rfl rfl ?_
        refine g_skip rfl rfl rfl ?_
        refine g_skip rfl rfl rfl ?_
        refine g_skip rfl rfl rfl ?_
        refine g_skip rfl rfl rfl ?_
        refine g_skip rfl rfl rfl ?_
        refine g_skip rfl rfl rfl ?_
        refine g_skip rfl rfl rfl ?_
        refine g_skip rfl rfl rfl ?_
        refine g_skip rfl rfl rfl ?_
        refine g_step rfl rfl rfl rfl (e_pickT (v := .sc _) rfl rfl) trivial ?_
        refine g_step rfl rfl rfl rfl (e_pickT (v := .sc _) rfl rfl) trivial ?_
        refine g_end (ds := [40, 41, 42, 43, 44, 45, 46, 47, 48, 49, 50, 51, 52, 53]) rfl rfl (hK29 _ ?_); clear hK29 K29
        exact seq_norm (hK27 _ ⟨rfl, rfl, trivial⟩ ⟨(congrArg PV.bool (show (true : Bool) = ((!(((decide ((97) ≤ (byteAt s k))) && (decide ((byteAt s k) ≤ (122)))) || ((decide ((65) ≤ (byteAt s k))) && (decide ((byteAt s k) ≤ (90)))))) && ((decide ((k : Int) = (0))) || ((decide ((byteAt s k) ≠ (45))) && ((decide ((byteAt s k) < (48))) || (decide ((57) < (byteAt s k))))))) by first | rfl | ((try rw [hb31R]) <;> (try rw [hb30R]) <;> (first | rfl | (simp only [Bool.and_true, Bool.and_false, Bool.true_and, Bool.false_and, Bool.or_true, Bool.or_false, Bool.true_or, Bool.false_or, Bool.not_true, Bool.not_false, if_true, if_false, Bool.false_eq_true, reduceIte] <;> rfl))) | (simp only [hb30R, hb31R, Bool.and_true, Bool.and_false, Bool.true_and, Bool.false_and, Bool.or_true, Bool.or_false, Bool.true_or, Bool.false_or, Bool.not_true, Bool.not_false, if_true, if_false, Bool.false_eq_true, reduceIte] <;> rfl))), trivial⟩)
       ·have hb31R := hb31; try simp only [z1, z2, z3, z4, z5, z6, ne_eq, z7, z8, z9, z10, z11, z12] at hb31
        refine g_step rfl rfl rfl rfl (e_move (v := .sc _) rfl) trivial ?_
        refine g_step rfl rfl rfl rfl (e_ne rfl rfl) trivial ?_
        refine g_step rfl rfl rfl rfl (e_move (v := .sc _) rfl) trivial ?_
        refine g_cases (fun hb32 => ?_) (fun hb32 => ?_)
        ·have hb32R := hb32; try simp only [z1, z2, z3, z4, z5, z6, ne_eq, z7, z8, z9, z10, z11, z12] at hb32
         refine g_step rfl rfl rfl rfl (e_move (v := .sc _) rfl) trivial ?_
         refine g_step rfl rfl rfl rfl (e_lt rfl rfl) trivial ?_
         refine g_step rfl rfl rfl rfl (e_move (v := .sc _) rfl) trivial ?_
         refine g_cases (fun hb33 => ?_) (fun hb33 => ?_)
         ·have hb33R := hb33; try simp only [z1, z2, z3, z4, z5, z6, ne_eq, z7, z8, z9, z10, z11, z12] at hb33
          refine g_skip rfl rfl rfl ?_
          refine g_skip rfl rfl rfl ?_
          refine g_step rfl rfl rfl rfl (e_pickT (v := .sc _) rfl rfl) trivial ?_
          refine g_step rfl rfl rfl rfl (e_pickT (v := .sc _) rfl rfl) trivial ?_
          refine g_step rfl rfl rfl rfl (e_pickF (v := .sc _) rfl rfl) trivial ?_
          refine g_step rfl rfl rfl rfl (e_pickT (v := .sc _) rfl rfl) trivial ?_
          refine g_end (ds := [40, 41, 42, 43, 44, 45, 46, 47, 48, 49, 50, 51, 52, 53]) rfl rfl (hK29 _ ?_); clear hK29 K29
          exact seq_norm (hK27 _ ⟨rfl, rfl, trivial⟩ ⟨(congrArg PV.bool (show (true : Bool) = ((!(((decide ((97) ≤ (byteAt s k))) && (decide ((byteAt s k) ≤ (122)))) || ((decide ((65) ≤ (byteAt s k))) && (decide ((byteAt s k) ≤ (90)))))) && ((decide ((k : Int) = (0))) || ((decide ((byteAt s k) ≠ (45))) && ((decide ((byteAt s k) < (48))) || (decide ((57) < (byteAt s k))))))) by first | rfl | ((try rw [hb33R]) <;> (try rw [hb32R]) <;> (try rw [hb31R]) <;> (try rw [hb30R]) <;> (first | rfl | (simp only [Bool.and_true, Bool.and_false, Bool.true_and, Bool.false_and, Bool.or_true, Bool.or_false, Bool.true_or, Bool.false_or, Bool.not_true, Bool.not_false, if_true, if_false, Bool.false_eq_true, reduceIte] <;> rfl))) | (simp only [hb30R, hb31R, hb32R, hb33R, Bool.and_true, Bool.and_false, Bool.true_and, Bool.false_and, Bool.or_true, Bool.or_false, Bool.true_or, Bool.false_or, Bool.not_true, Bool.not_false, if_true, if_false, Bool.false_eq_true, reduceIte] <;> rfl))), trivial⟩)
         ·have hb33R := hb33; try simp only [z1, z2, z3, z4, z5, z6, ne_eq, z7, z8, z9, z10, z11, z12] at hb33
          refine g_step rfl rfl rfl rfl (e_move (v := .sc _) rfl) trivial ?_
          refine g_step rfl rfl rfl rfl (e_gt rfl rfl) trivial ?_
          refine g_step rfl rfl rfl rfl (e_pickF (v := .sc _) rfl rfl) trivial ?_
          refine g_step rfl rfl rfl rfl (e_pickT (v := .sc _) rfl rfl) trivial ?_
          refine g_step rfl rfl rfl rfl (e_pickF (v := .sc _) rfl rfl) trivial ?_
          refine g_step rfl rfl rfl rfl (e_pickT (v := .sc _) rfl rfl) trivial ?_
          refine g_end (ds := [40, 41, 42, 43, 44, 45, 46, 47, 48, 49, 50, 51, 52, 53]) rfl rfl (hK29 _ ?_); clear hK29 K29
          exact seq_norm (hK27 _ ⟨rfl, rfl, trivial⟩ ⟨(congrArg PV.bool (show ((decide ((57) < (byteAt s k))) : Bool) = ((!(((decide ((97) ≤ (byteAt s k))) && (decide ((byteAt s k) ≤ (122)))) || ((decide ((65) ≤ (byteAt s k))) && (decide ((byteAt s k) ≤ (90)))))) && ((decide ((k : Int) = (0))) || ((decide ((byteAt s k) ≠ (45))) && ((decide ((byteAt s k) < (48))) || (decide ((57) < (byteAt s k))))))) by first | rfl | ((try rw [hb33R]) <;> (try rw [hb32R]) <;> (try rw [hb31R]) <;> (try rw [hb30R]) <;> (first | rfl | (simp only [Bool.and_true, Bool.and_false, Bool.true_and, Bool.false_and, Bool.or_true, Bool.or_false, Bool.true_or, Bool.false_or, Bool.not_true, Bool.not_false, if_true, if_false, Bool.false_eq_true, reduceIte] <;> rfl))) | (simp only [hb30R, hb31R, hb32R, hb33R, Bool.and_true, Bool.and_false, Bool.true_and, Bool.false_and, Bool.or_true, Bool.or_false, Bool.true_or, Bool.false_or, Bool.not_true, Bool.not_false, if_true, if_false, Bool.false_eq_true, reduceIte] <;> rfl))), trivial⟩)
        ·have hb32R := hb32; try simp only [z1, z2, z3, z4, z5, z6, ne_eq, z7, z8, z9, z10, z11, z12] at hb32
         refine g_skip rfl rfl rfl ?_
         refine g_skip rfl rfl rfl ?_
         refine g_skip rfl rfl rfl ?_
         refine g_skip rfl rfl rfl ?_
         refine g_skip rfl rfl rfl ?_
         refine g_skip rfl rfl rfl ?_
         refine g_step rfl rfl rfl rfl (e_pickF (v := .sc _) rfl rfl) trivial ?_
         refine g_step rfl rfl rfl rfl (e_pickF (v := .sc _) rfl rfl) trivial ?_
         refine g_step rfl rfl rfl rfl (e_pickT (v := .sc _) rfl rfl) trivial ?_
         refine g_end (ds := [40, 41, 42, 43, 44, 45, 46, 47, 48, 49, 50, 51, 52, 53]) rfl rfl (hK29 _ ?_); clear hK29 K29
         exact seq_norm (hK27 _ ⟨rfl, rfl, trivial⟩ ⟨(congrArg PV.bool (show (false : Bool) = ((!(((decide ((97) ≤ (byteAt s k))) && (decide ((byteAt s k) ≤ (122)))) || ((decide ((65) ≤ (byteAt s k))) && (decide ((byteAt s k) ≤ (90)))))) && ((decide ((k : Int) = (0))) || ((decide ((byteAt s k) ≠ (45))) && ((decide ((byteAt s k) < (48))) || (decide ((57) < (byteAt s k))))))) by first | rfl | ((try rw [hb32R]) <;> (try rw [hb31R]) <;> (try rw [hb30R]) <;> (first | rfl | (simp only [Bool.and_true, Bool.and_false, Bool.true_and, Bool.false_and, Bool.or_true, Bool.or_false, Bool.true_or, Bool.false_or, Bool.not_true, Bool.not_false, if_true, if_false, Bool.false_eq_true, reduceIte] <;> rfl))) | (simp only [hb30R, hb31R, hb32R, Bool.and_true, Bool.and_false, Bool.true_and, Bool.false_and, Bool.or_true, Bool.or_false, Bool.true_or, Bool.false_or, Bool.not_true, Bool.not_false, if_true, if_false, Bool.false_eq_true, reduceIte] <;> rfl))), trivial⟩)
      ·have hb30R := hb30; try simp only [z1, z2, z3, z4, z5, z6, ne_eq, z7, z8, z9, z10, z11, z12] at hb30
       refine g_skip rfl rfl rfl ?_
       refine g_skip rfl rfl rfl ?_
       refine g_skip rfl rfl rfl ?_
       refine g_skip rfl rfl rfl ?_
       refine g_skip rfl rfl rfl ?_
       refine g_skip rfl rfl rfl ?_
       refine g_skip rfl rfl rfl ?_
       refine g_skip rfl rfl rfl ?_
       refine g_skip rfl rfl rfl ?_
       refine g_skip rfl rfl rfl ?_
       refine g_skip rfl rfl rfl ?_
       refine g_skip rfl rfl rfl ?_
       refine g_skip rfl rfl rfl ?_
       refine g_skip rfl rfl rfl ?_
       refine g_step rfl rfl rfl rfl (e_pickF (v := .sc _) rfl rfl) trivial ?_
       refine g_end (ds := [40, 41, 42, 43, 44, 45, 46, 47, 48, 49, 50, 51, 52, 53]) rfl rfl (hK29 _ ?_); clear hK29 K29
       exact seq_norm (hK27 _ ⟨rfl, rfl, trivial⟩ ⟨(congrArg PV.bool (show (false : Bool) = ((!(((decide ((97) ≤ (byteAt s k))) && (decide ((byteAt s k) ≤ (122)))) || ((decide ((65) ≤ (byteAt s k))) && (decide ((byteAt s k) ≤ (90)))))) && ((decide ((k : Int) = (0))) || ((decide ((byteAt s k) ≠ (45))) && ((decide ((byteAt s k) < (48))) || (decide ((57) < (byteAt s k))))))) by first | rfl | ((try rw [hb30R]) <;> (first | rfl | (simp only [Bool.and_true, Bool.and_false, Bool.true_and, Bool.false_and, Bool.or_true, Bool.or_false, Bool.true_or, Bool.false_or, Bool.not_true, Bool.not_false, if_true, if_false, Bool.false_eq_true, reduceIte] <;> rfl))) | (simp only [hb30R, Bool.and_true, Bool.and_false, Bool.true_and, Bool.false_and, Bool.or_true, Bool.or_false, Bool.true_or, Bool.false_or, Bool.not_true, Bool.not_false, if_true, if_false, Bool.false_eq_true, reduceIte] <;> rfl))), trivial⟩)
     ·skip
      refine pwp_cond rfl (fun hb34 => ?_) (fun hb34 => ?_)
      ·have hb34R := hb34; try simp only [z1, z2, z3, z4, z5, z6, ne_eq, z7, z8, z9, z10, z11, z12] at hb34
       refine pwp_seq_plain rfl fun K35 hK35 => ?_
       refine p_step rfl (e_assign (v := .sc _) rfl) trivial ?_
       refine p_end (hK35 _ ?_); clear hK35 K35
       refine pwp_ret ?_
       refine ret_block ?_
       refine ret_seq ?_
       refine ret_loop ?_
       refine ret_block ?_
       refine ret_seq ?_
       refine end1 (v := .sc _) rfl ?_
       first
         | exact out_b (isNm_len (by omega))
         | exact out_b (isNm_bad hlt (by unfold chOk; omega))
         | exact out_b (isNm_ok (by omega) (by omega) hc)
      ·have hb34R := hb34; try simp only [z1, z2, z3, z4, z5, z6, ne_eq, z7, z8, z9, z10, z11, z12] at hb34
       refine pwp_skip ?_
       refine block_norm ?_
       refine seq_norm (hK18 _ ?_); clear hK18 K18
       refine pwp_plain rfl fun K36 hK36 => ?_
       refine p_step rfl (e_move (v := .sc _) rfl) trivial ?_
       refine p_step rfl (e_add rfl rfl (by omega)) trivial ?_
       refine p_step rfl (e_assign (v := .sc _) rfl) trivial ?_
       refine p_end (hK36 _ ?_); clear hK36 K36
       exact loop_again (k + 1) (by show _ < _; omega) ⟨rfl, trivial⟩ ⟨rfl, trivial⟩ (by exact ⟨by show _ + 1 ≤ _; omega, by exact chOk_succ hc (by unfold chOk; omega)⟩)
   ·have hb17R := hb17; try simp only [z1, z2, z3, z4, z5, z6, ne_eq, z7, z8, z9, z10, z11, z12] at hb17
    refine pwp_exit ?_
    refine exit_seq ?_
    clear hK16 K16
    refine exit_loop ?_
    refine exit_here ?_
    refine seq_norm (hK10 _ ?_); clear hK10 K10
    refine pwp_seq_plain rfl fun K37 hK37 => ?_
    refine p_step rfl (e_assign (v := .sc _) rfl) trivial ?_
    refine p_end (hK37 _ ?_); clear hK37 K37
    refine pwp_ret ?_
    refine end1 (v := .sc _) rfl ?_
    first
      | exact out_b (isNm_len (by omega))
      | exact out_b (isNm_bad hlt (by unfold chOk; omega))
      | exact out_b (isNm_ok (by omega) (by omega) hc)

theorem fr67 : (inFrame Try.f67.ntmps (Try.f67.body.getD .skip) && Try.f67.results.toList.all (resScope Try.f67.ntmps)) = true := by kernel_rfl
theorem isName (s : ByteArray) (hs : s.size ≤ 9223372036854775807) : PCalls Try.prog 67 [.str s] (.bool (isNm s)) := by
 refine PCalls.of_code Try.func67 rfl rfl (by kernel_rfl) mixed fr67 (by show _ ≤ 48; simp) (.sc _) ?_
 have hdl := data_len s
 refine pwp_seq_plain rfl fun K1 hK1 => ?_
 refine p_step rfl (e_assign (v := .sc _) rfl) trivial ?_
 refine p_end (hK1 _ ?_); clear hK1 K1
 refine pwp_seq_seq ?_
 refine pwp_seq_plain rfl fun K2 hK2 => ?_
 refine p_step rfl (e_move (v := .sc _) rfl) trivial ?_
 refine p_step rfl (e_convB rfl (by kernel_rfl) (by kernel_rfl) (by kernel_rfl)) trivial ?_
 refine p_step rfl (e_len rfl (by kernel_rfl)) trivial ?_
 refine p_step rfl (e_move (v := .sc _) rfl) trivial ?_
 refine p_end (hK2 _ ?_); clear hK2 K2
 refine pwp_seq_block fun K3 hK3 => ?_
 refine pwp_loopR (α := Nat) [0, 7, 8] (fun (k : Nat) => [(9, .int (k))]) (fun (k : Nat) (h : Heap) (_ : Nat → Nat) => ((k) ≤ s.size) ∧ (∀ i, i < (k) → chOk i (byteAt s i))) (fun (k : Nat) => s.size - (k)) (0) (by exact ⟨rfl, trivial⟩) (by exact ⟨by exact Nat.zero_le _, by exact fun i hi => absurd hi (Nat.not_lt_zero i)⟩) fun k r4 h5 c6 hj7 => ?_
 obtain ⟨hk, hc⟩ := hj7
 try dsimp only at hk
 try dsimp only at hc
 show pwp _ _ (loopQ _ _ _) ⟨sets (mix _ _ _) [(9, .int k)], _, _⟩
 refine pwp_seq_plain rfl fun K8 hK8 => ?_
 refine p_step rfl (e_lt rfl rfl) trivial ?_
 refine p_end (hK8 _ ?_); clear hK8 K8
 refine pwp_seq_cond rfl fun K9 hK9 => ⟨fun hb10 => ?_, fun hb10 => ?_⟩
 ·have hb10R := hb10; try simp only [z1, z2, z3, z4, z5, z6, ne_eq, z7, z8, z9, z10, z11, z12] at hb10
  have hlt : k < s.size := by omega
  obtain ⟨x, hx, hd, ht⟩ := get_lt (xs := s.data.toList) (i := k) (by omega)
  have hbx := byteAt_eq hx
  have hor := orU_letter x
  refine pwp_skip ?_
  refine seq_norm (hK9 _ ?_); clear hK9 K9
  refine pwp_seq_block fun K11 hK11 => ?_
  refine pwp_seq_plain rfl fun K12 hK12 => ?_
  refine p_step rfl (e_move (v := .sc _) rfl) trivial ?_
  refine p_step rfl (e_ixa rfl rfl (by kernel_rfl) (by kernel_rfl) (by simp only [List.length_map]; omega)) trivial ?_
  refine p_step rfl (e_load (v := .sc _) rfl (by kernel_rfl) (by kernel_rfl) (by kernel_rfl) (by simp only [List.length_map]; omega) (by decide) ((cell_map hx _).trans rfl)) trivial ?_
  refine p_step rfl (e_assign (v := .sc _) rfl) trivial ?_
  refine p_step rfl (e_assign (v := .sc _) rfl) trivial ?_
  refine p_end (hK12 _ ?_); clear hK12 K12
  refine pwp_seq_cutG [0, 3, 4, 7, 8, 9] [(5, .bool ((decide ((97) ≤ (orU (x.toNat : Int) (32)))) && (decide ((orU (x.toNat : Int) (32)) ≤ (122)))))] (fun K13 hK13 => ?_) (fun r14 => ?_)
  ·skip
   refine pwp_gops rfl fun K15 hK15 => ?_
   refine g_begin ?_
   refine g_step rfl rfl rfl rfl (e_move (v := .sc _) rfl) trivial ?_
   refine g_step rfl rfl rfl rfl (e_orB rfl rfl) trivial ?_
   refine g_step rfl rfl rfl rfl (e_ge rfl rfl) trivial ?_
   refine g_step rfl rfl rfl rfl (e_move (v := .sc _) rfl) trivial ?_
   refine g_cases (fun hb16 => ?_) (fun hb16 => ?_)
   ·have hb16R := hb16; try simp only [z1, z2, z3, z4, z5, z6, ne_eq, z7, z8, z9, z10, z11, z12] at hb16
    refine g_step rfl rfl rfl rfl (e_move (v := .sc _) rfl) trivial ?_
    refine g_step rfl rfl rfl rfl (e_orB rfl rfl) trivial ?_
    refine g_step rfl rfl rfl rfl (e_le rfl rfl) trivial ?_
    refine g_step rfl rfl rfl rfl (e_pickT (v := .sc _) rfl rfl) trivial ?_
    refine g_step rfl rfl rfl rfl (e_assign (v := .sc _) rfl) trivial ?_
    refine g_end (ds := [18, 19, 20]) rfl rfl (hK15 _ ?_); clear hK15 K15
    exact seq_norm (hK13 _ ⟨rfl, rfl, rfl, rfl, rfl, rfl, trivial⟩ ⟨(congrArg PV.bool (show ((decide ((orU (x.toNat : Int) (32)) ≤ (122))) : Bool) = ((decide ((97) ≤ (orU (x.toNat : Int) (32)))) && (decide ((orU (x.toNat : Int) (32)) ≤ (122)))) by first | rfl | ((try rw [hb16R]) <;> (first | rfl | (simp only [Bool.and_true, Bool.and_false, Bool.true_and, Bool.false_and, Bool.or_true, Bool.or_false, Bool.true_or, Bool.false_or, Bool.not_true, Bool.not_false, if_true, if_false, Bool.false_eq_true, reduceIte] <;> rfl))) | (simp only [hb16R, Bool.and_true, Bool.and_false, Bool.true_and, Bool.false_and, Bool.or_true, Bool.or_false, Bool.true_or, Bool.false_or, Bool.not_true, Bool.not_false, if_true, if_false, Bool.false_eq_true, reduceIte] <;> rfl))), trivial⟩)
   ·have hb16R := hb16; try simp only [z1, z2, z3, z4, z5, z6, ne_eq, z7, z8, z9, z10, z11, z12] at hb16
    refine g_skip rfl rfl rfl ?_
    refine g_skip rfl rfl rfl ?_
    refine g_skip rfl rfl rfl ?_
    refine g_step rfl rfl rfl rfl (e_pickF (v := .sc _) rfl rfl) trivial ?_
    refine g_step rfl rfl rfl rfl (e_assign (v := .sc _) rfl) trivial ?_
    refine g_end (ds := [18, 19, 20]) rfl rfl (hK15 _ ?_); clear hK15 K15
    exact seq_norm (hK13 _ ⟨rfl, rfl, rfl, rfl, rfl, rfl, trivial⟩ ⟨(congrArg PV.bool (show (false : Bool) = ((decide ((97) ≤ (orU (x.toNat : Int) (32)))) && (decide ((orU (x.toNat : Int) (32)) ≤ (122)))) by first | rfl | ((try rw [hb16R]) <;> (first | rfl | (simp only [Bool.and_true, Bool.and_false, Bool.true_and, Bool.false_and, Bool.or_true, Bool.or_false, Bool.true_or, Bool.false_or, Bool.not_true, Bool.not_false, if_true, if_false, Bool.false_eq_true, reduceIte] <;> rfl))) | (simp only [hb16R, Bool.and_true, Bool.and_false, Bool.true_and, Bool.false_and, Bool.or_true, Bool.or_false, Bool.true_or, Bool.false_or, Bool.not_true, Bool.not_false, if_true, if_false, Bool.false_eq_true, reduceIte] <;> rfl))), trivial⟩)
  ·skip
   refine pwp_seq_cutG [0, 7, 8, 9] [(39, .bool ((!((decide ((97) ≤ (orU (x.toNat : Int) (32)))) && (decide ((orU (x.toNat : Int) (32)) ≤ (122))))) && ((decide ((k : Int) = (0))) || ((decide ((x.toNat : Int) ≠ (45))) && ((decide ((x.toNat : Int) < (48))) || (decide ((57) < (x.toNat : Int))))))))] (fun K17 hK17 => ?_) (fun r18 => ?_)
   ·skip
    refine pwp_gops rfl fun K19 hK19 => ?_
    refine g_begin ?_
    refine g_step rfl rfl rfl rfl (e_move (v := .sc _) rfl) trivial ?_
    refine g_step rfl rfl rfl rfl (e_not rfl) trivial ?_
    refine g_step rfl rfl rfl rfl (e_move (v := .sc _) rfl) trivial ?_
    refine g_cases (fun hb20 => ?_) (fun hb20 => ?_)
    ·have hb20R := hb20; try simp only [z1, z2, z3, z4, z5, z6, ne_eq, z7, z8, z9, z10, z11, z12] at hb20
     refine g_step rfl rfl rfl rfl (e_move (v := .sc _) rfl) trivial ?_
     refine g_step rfl rfl rfl rfl (e_eq rfl rfl) trivial ?_
     refine g_step rfl rfl rfl rfl (e_move (v := .sc _) rfl) trivial ?_
     refine g_cases (fun hb21 => ?_) (fun hb21 => ?_)
     ·have hb21R := hb21; try simp only [z1, z2, z3, z4, z5, z6, ne_eq, z7, z8, z9, z10, z11, z12] at hb21
      refine g_skip rfl rfl rfl ?_
      refine g_skip rfl rfl rfl ?_
      refine g_skip rfl rfl rfl ?_
      refine g_skip rfl rfl rfl ?_
      refine g_skip rfl rfl rfl ?_
      refine g_skip rfl rfl rfl ?_
      refine g_skip rfl rfl rfl ?_
      refine g_skip rfl rfl rfl ?_
      refine g_skip rfl rfl rfl ?_
      refine g_skip rfl rfl rfl ?_
      refine g_step rfl rfl rfl rfl (e_pickT (v := .sc _) rfl rfl) trivial ?_
      refine g_step rfl rfl rfl rfl (e_pickT (v := .sc _) rfl rfl) trivial ?_
      refine g_end (ds := [25, 26, 27, 28, 29, 30, 31, 32, 33, 34, 35, 36, 37, 38]) rfl rfl (hK19 _ ?_); clear hK19 K19
      exact seq_norm (hK17 _ ⟨rfl, rfl, rfl, rfl, trivial⟩ ⟨(congrArg PV.bool (show (true : Bool) = ((!((decide ((97) ≤ (orU (x.toNat : Int) (32)))) && (decide ((orU (x.toNat : Int) (32)) ≤ (122))))) && ((decide ((k : Int) = (0))) || ((decide ((x.toNat : Int) ≠ (45))) && ((decide ((x.toNat : Int) < (48))) || (decide ((57) < (x.toNat : Int))))))) by first | rfl | ((try rw [hb21R]) <;> (try rw [hb20R]) <;> (first | rfl | (simp only [Bool.and_true, Bool.and_false, Bool.true_and, Bool.false_and, Bool.or_true, Bool.or_false, Bool.true_or, Bool.false_or, Bool.not_true, Bool.not_false, if_true, if_false, Bool.false_eq_true, reduceIte] <;> rfl))) | (simp only [hb20R, hb21R, Bool.and_true, Bool.and_false, Bool.true_and, Bool.false_and, Bool.or_true, Bool.or_false, Bool.true_or, Bool.false_or, Bool.not_true, Bool.not_false, if_true, if_false, Bool.false_eq_true, reduceIte] <;> rfl))), trivial⟩)
     ·have hb21R := hb21; try simp only [z1, z2, z3, z4, z5, z6, ne_eq, z7, z8, z9, z10, z11, z12] at hb21
      refine g_step rfl rfl rfl rfl (e_move (v := .sc _) rfl) trivial ?_
      refine g_step rfl rfl rfl rfl (e_ne rfl rfl) trivial ?_
      refine g_step rfl rfl rfl rfl (e_move (v := .sc _) rfl) trivial ?_
      refine g_cases (fun hb22 => ?_) (fun hb22 => ?_)
      ·have hb22R := hb22; try simp only [z1, z2, z3, z4, z5, z6, ne_eq, z7, z8, z9, z10, z11, z12] at hb22
       refine g_step rfl rfl rfl rfl (e_move (v := .sc _) rfl) trivial ?_
       refine g_step rfl rfl rfl rfl (e_lt rfl rfl) trivial ?_
       refine g_step rfl rfl rfl rfl (e_move (v := .sc _) rfl) trivial ?_
       refine g_cases (fun hb23 => ?_) (fun hb23 => ?_)
       ·have hb23R := hb23; try simp only [z1, z2, z3, z4, z5, z6, ne_eq, z7, z8, z9, z10, z11, z12] at hb23
        refine g_skip rfl rfl rfl ?_
        refine g_skip rfl rfl rfl ?_
        refine g_step rfl rfl rfl rfl (e_pickT (v := .sc _) rfl rfl) trivial ?_
        refine g_step rfl rfl rfl rfl (e_pickT (v := .sc _) rfl rfl) trivial ?_
        refine g_step rfl rfl rfl rfl (e_pickF (v := .sc _) rfl rfl) trivial ?_
        refine g_step rfl rfl rfl rfl (e_pickT (v := .sc _) rfl rfl) trivial ?_
        refine g_end (ds := [25, 26, 27, 28, 29, 30, 31, 32, 33, 34, 35, 36, 37, 38]) rfl rfl (hK19 _ ?_); clear hK19 K19
        exact seq_norm (hK17 _ ⟨rfl, rfl, rfl, rfl, trivial⟩ ⟨(congrArg PV.bool (show (true : Bool) = ((!((decide ((97) ≤ (orU (x.toNat : Int) (32)))) && (decide ((orU (x.toNat : Int) (32)) ≤ (122))))) && ((decide ((k : Int) = (0))) || ((decide ((x.toNat : Int) ≠ (45))) && ((decide ((x.toNat : Int) < (48))) || (decide ((57) < (x.toNat : Int))))))) by first | rfl | ((try rw [hb23R]) <;> (try rw [hb22R]) <;> (try rw [hb21R]) <;> (try rw [hb20R]) <;> (first | rfl | (simp only [Bool.and_true, Bool.and_false, Bool.true_and, Bool.false_and, Bool.or_true, Bool.or_false, Bool.true_or, Bool.false_or, Bool.not_true, Bool.not_false, if_true, if_false, Bool.false_eq_true, reduceIte] <;> rfl))) | (simp only [hb20R, hb21R, hb22R, hb23R, Bool.and_true, Bool.and_false, Bool.true_and, Bool.false_and, Bool.or_true, Bool.or_false, Bool.true_or, Bool.false_or, Bool.not_true, Bool.not_false, if_true, if_false, Bool.false_eq_true, reduceIte] <;> rfl))), trivial⟩)
       ·have hb23R := hb23; try simp only [z1, z2, z3, z4, z5, z6, ne_eq, z7, z8, z9, z10, z11, z12] at hb23
        refine g_step rfl rfl rfl rfl (e_move (v := .sc _) rfl) trivial ?_
        refine g_step rfl rfl rfl rfl (e_gt rfl rfl) trivial ?_
        refine g_step rfl rfl rfl rfl (e_pickF (v := .sc _) rfl rfl) trivial ?_
        refine g_step rfl rfl rfl rfl (e_pickT (v := .sc _) rfl rfl) trivial ?_
        refine g_step rfl rfl rfl rfl (e_pickF (v := .sc _) rfl rfl) trivial ?_
        refine g_step rfl rfl rfl rfl (e_pickT (v := .sc _) rfl rfl) trivial ?_
        refine g_end (ds := [25, 26, 27, 28, 29, 30, 31, 32, 33, 34, 35, 36, 37, 38]) rfl rfl (hK19 _ ?_); clear hK19 K19
        exact seq_norm (hK17 _ ⟨rfl, rfl, rfl, rfl, trivial⟩ ⟨(congrArg PV.bool (show ((decide ((57) < (x.toNat : Int))) : Bool) = ((!((decide ((97) ≤ (orU (x.toNat : Int) (32)))) && (decide ((orU (x.toNat : Int) (32)) ≤ (122))))) && ((decide ((k : Int) = (0))) || ((decide ((x.toNat : Int) ≠ (45))) && ((decide ((x.toNat : Int) < (48))) || (decide ((57) < (x.toNat : Int))))))) by first | rfl | ((try rw [hb23R]) <;> (try rw [hb22R]) <;> (try rw [hb21R]) <;> (try rw [hb20R]) <;> (first | rfl | (simp only [Bool.and_true, Bool.and_false, Bool.true_and, Bool.false_and, Bool.or_true, Bool.or_false, Bool.true_or, Bool.false_or, Bool.not_true, Bool.not_false, if_true, if_false, Bool.false_eq_true, reduceIte] <;> rfl))) | (simp only [hb20R, hb21R, hb22R, hb23R, Bool.and_true, Bool.and_false, Bool.true_and, Bool.false_and, Bool.or_true, Bool.or_false, Bool.true_or, Bool.false_or, Bool.not_true, Bool.not_false, if_true, if_false, Bool.false_eq_true, reduceIte] <;> rfl))), trivial⟩)
      ·have hb22R := hb22; try simp only [z1, z2, z3, z4, z5, z6, ne_eq, z7, z8, z9, z10, z11, z12] at hb22
       refine g_skip rfl rfl rfl ?_
       refine g_skip rfl rfl rfl ?_
       refine g_skip rfl rfl rfl ?_
       refine g_skip rfl rfl rfl ?_
       refine g_skip rfl rfl rfl ?_
       refine g_skip rfl rfl rfl ?_
       refine g_step rfl rfl rfl rfl (e_pickF (v := .sc _) rfl rfl) trivial ?_
       refine g_step rfl rfl rfl rfl (e_pickF (v := .sc _) rfl rfl) trivial ?_
       refine g_step rfl rfl rfl rfl (e_pickT (v := .sc _) rfl rfl) trivial ?_
       refine g_end (ds := [25, 26, 27, 28, 29, 30, 31, 32, 33, 34, 35, 36, 37, 38]) rfl rfl (hK19 _ ?_); clear hK19 K19
       exact seq_norm (hK17 _ ⟨rfl, rfl, rfl, rfl, trivial⟩ ⟨(congrArg PV.bool (show (false : Bool) = ((!((decide ((97) ≤ (orU (x.toNat : Int) (32)))) && (decide ((orU (x.toNat : Int) (32)) ≤ (122))))) && ((decide ((k : Int) = (0))) || ((decide ((x.toNat : Int) ≠ (45))) && ((decide ((x.toNat : Int) < (48))) || (decide ((57) < (x.toNat : Int))))))) by first | rfl | ((try rw [hb22R]) <;> (try rw [hb21R]) <;> (try rw [hb20R]) <;> (first | rfl | (simp only [Bool.and_true, Bool.and_false, Bool.true_and, Bool.false_and, Bool.or_true, Bool.or_false, Bool.true_or, Bool.false_or, Bool.not_true, Bool.not_false, if_true, if_false, Bool.false_eq_true, reduceIte] <;> rfl))) | (simp only [hb20R, hb21R, hb22R, Bool.and_true, Bool.and_false, Bool.true_and, Bool.false_and, Bool.or_true, Bool.or_false, Bool.true_or, Bool.false_or, Bool.not_true, Bool.not_false, if_true, if_false, Bool.false_eq_true, reduceIte] <;> rfl))), trivial⟩)
    ·have hb20R := hb20; try simp only [z1, z2, z3, z4, z5, z6, ne_eq, z7, z8, z9, z10, z11, z12] at hb20
     refine g_skip rfl rfl rfl ?_
     refine g_skip rfl rfl rfl ?_
     refine g_skip rfl rfl rfl ?_
     refine g_skip rfl rfl rfl ?_
     refine g_skip rfl rfl rfl ?_
     refine g_skip rfl rfl rfl ?_
     refine g_skip rfl rfl rfl ?_
     refine g_skip rfl rfl rfl ?_
     refine g_skip rfl rfl rfl ?_
     refine g_skip rfl rfl rfl ?_
     refine g_skip rfl rfl rfl ?_
     refine g_skip rfl rfl rfl ?_
     refine g_skip rfl rfl rfl ?_
     refine g_skip rfl rfl rfl ?_
     refine g_step rfl rfl rfl rfl (e_pickF (v := .sc _) rfl rfl) trivial ?_
     refine g_end (ds := [25, 26, 27, 28, 29, 30, 31, 32, 33, 34, 35, 36, 37, 38]) rfl rfl (hK19 _ ?_); clear hK19 K19
     exact seq_norm (hK17 _ ⟨rfl, rfl, rfl, rfl, trivial⟩ ⟨(congrArg PV.bool (show (false : Bool) = ((!((decide ((97) ≤ (orU (x.toNat : Int) (32)))) && (decide ((orU (x.toNat : Int) (32)) ≤ (122))))) && ((decide ((k : Int) = (0))) || ((decide ((x.toNat : Int) ≠ (45))) && ((decide ((x.toNat : Int) < (48))) || (decide ((57) < (x.toNat : Int))))))) by first | rfl | ((try rw [hb20R]) <;> (first | rfl | (simp only [Bool.and_true, Bool.and_false, Bool.true_and, Bool.false_and, Bool.or_true, Bool.or_false, Bool.true_or, Bool.false_or, Bool.not_true, Bool.not_false, if_true, if_false, Bool.false_eq_true, reduceIte] <;> rfl))) | (simp only [hb20R, Bool.and_true, Bool.and_false, Bool.true_and, Bool.false_and, Bool.or_true, Bool.or_false, Bool.true_or, Bool.false_or, Bool.not_true, Bool.not_false, if_true, if_false, Bool.false_eq_true, reduceIte] <;> rfl))), trivial⟩)
   ·skip
    refine pwp_cond rfl (fun hb24 => ?_) (fun hb24 => ?_)
    ·have hb24R := hb24; try simp only [z1, z2, z3, z4, z5, z6, ne_eq, z7, z8, z9, z10, z11, z12] at hb24
     refine pwp_seq_plain rfl fun K25 hK25 => ?_
     refine p_step rfl (e_assign (v := .sc _) rfl) trivial ?_
     refine p_end (hK25 _ ?_); clear hK25 K25
     refine pwp_ret ?_
     refine ret_block ?_
     refine ret_seq ?_
     refine ret_loop ?_
     refine ret_block ?_
     refine ret_seq ?_
     refine end1 (v := .sc _) rfl ?_
     first
       | exact out_b (isNm_bad hlt (by rw [hbx]; unfold chOk; omega))
       | exact out_b (isNm_end (by omega) hc)
       | exact out_b (by rw [← isNm_end (by omega) hc]; simp_all)
    ·have hb24R := hb24; try simp only [z1, z2, z3, z4, z5, z6, ne_eq, z7, z8, z9, z10, z11, z12] at hb24
     refine pwp_skip ?_
     refine block_norm ?_
     refine seq_norm (hK11 _ ?_); clear hK11 K11
     refine pwp_plain rfl fun K26 hK26 => ?_
     refine p_step rfl (e_add rfl rfl (by omega)) trivial ?_
     refine p_step rfl (e_move (v := .sc _) rfl) trivial ?_
     refine p_end (hK26 _ ?_); clear hK26 K26
     exact loop_again (k + 1) (by show _ < _; omega) ⟨rfl, rfl, rfl, trivial⟩ ⟨rfl, trivial⟩ (by exact ⟨by show _ + 1 ≤ _; omega, by exact chOk_succ hc (by rw [hbx]; unfold chOk; omega)⟩)
 ·have hb10R := hb10; try simp only [z1, z2, z3, z4, z5, z6, ne_eq, z7, z8, z9, z10, z11, z12] at hb10
  refine pwp_exit ?_
  refine exit_seq ?_
  clear hK9 K9
  refine exit_loop ?_
  refine exit_here ?_
  refine seq_norm (hK3 _ ?_); clear hK3 K3
  refine pwp_seq_cutG [] [(2, .bool ((decide (s ≠ (⟨#[]⟩ : ByteArray))) && (decide (((s).size : Int) ≤ (12)))))] (fun K27 hK27 => ?_) (fun r28 => ?_)
  ·skip
   refine pwp_gops rfl fun K29 hK29 => ?_
   refine g_begin ?_
   refine g_step rfl rfl rfl rfl (e_move (v := .sc _) rfl) trivial ?_
   refine g_step rfl rfl rfl rfl (e_sne rfl rfl) trivial ?_
   refine g_step rfl rfl rfl rfl (e_move (v := .sc _) rfl) trivial ?_
   refine g_cases (fun hb30 => ?_) (fun hb30 => ?_)
   ·have hb30R := hb30; try simp only [z1, z2, z3, z4, z5, z6, ne_eq, z7, z8, z9, z10, z11, z12] at hb30
    refine g_step rfl rfl rfl rfl (e_move (v := .sc _) rfl) trivial ?_
    refine g_step rfl rfl rfl rfl (e_lenS rfl (by kernel_rfl)) trivial ?_
    refine g_step rfl rfl rfl rfl (e_le rfl rfl) trivial ?_
    refine g_step rfl rfl rfl rfl (e_pickT (v := .sc _) rfl rfl) trivial ?_
    refine g_step rfl rfl rfl rfl (e_assign (v := .sc _) rfl) trivial ?_
    refine g_end (ds := [44, 45, 46]) rfl rfl (hK29 _ ?_); clear hK29 K29
    exact seq_norm (hK27 _ trivial ⟨(congrArg PV.bool (show ((decide (((s).size : Int) ≤ (12))) : Bool) = ((decide (s ≠ (⟨#[]⟩ : ByteArray))) && (decide (((s).size : Int) ≤ (12)))) by first | rfl | ((try rw [hb30R]) <;> (first | rfl | (simp only [Bool.and_true, Bool.and_false, Bool.true_and, Bool.false_and, Bool.or_true, Bool.or_false, Bool.true_or, Bool.false_or, Bool.not_true, Bool.not_false, if_true, if_false, Bool.false_eq_true, reduceIte] <;> rfl))) | (simp only [hb30R, Bool.and_true, Bool.and_false, Bool.true_and, Bool.false_and, Bool.or_true, Bool.or_false, Bool.true_or, Bool.false_or, Bool.not_true, Bool.not_false, if_true, if_false, Bool.false_eq_true, reduceIte] <;> rfl))), trivial⟩)
   ·have hb30R := hb30; try simp only [z1, z2, z3, z4, z5, z6, ne_eq, z7, z8, z9, z10, z11, z12] at hb30
    refine g_skip rfl rfl rfl ?_
    refine g_skip rfl rfl rfl ?_
    refine g_skip rfl rfl rfl ?_
    refine g_step rfl rfl rfl rfl (e_pickF (v := .sc _) rfl rfl) trivial ?_
    refine g_step rfl rfl rfl rfl (e_assign (v := .sc _) rfl) trivial ?_
    refine g_end (ds := [44, 45, 46]) rfl rfl (hK29 _ ?_); clear hK29 K29
    exact seq_norm (hK27 _ trivial ⟨(congrArg PV.bool (show (false : Bool) = ((decide (s ≠ (⟨#[]⟩ : ByteArray))) && (decide (((s).size : Int) ≤ (12)))) by first | rfl | ((try rw [hb30R]) <;> (first | rfl | (simp only [Bool.and_true, Bool.and_false, Bool.true_and, Bool.false_and, Bool.or_true, Bool.or_false, Bool.true_or, Bool.false_or, Bool.not_true, Bool.not_false, if_true, if_false, Bool.false_eq_true, reduceIte] <;> rfl))) | (simp only [hb30R, Bool.and_true, Bool.and_false, Bool.true_and, Bool.false_and, Bool.or_true, Bool.or_false, Bool.true_or, Bool.false_or, Bool.not_true, Bool.not_false, if_true, if_false, Bool.false_eq_true, reduceIte] <;> rfl))), trivial⟩)
  ·skip
   refine pwp_ret ?_
   refine end1 (v := .sc _) rfl ?_
   first
     | exact out_b (isNm_bad hlt (by rw [hbx]; unfold chOk; omega))
     | exact out_b (isNm_end (by omega) hc)
     | exact out_b (by rw [← isNm_end (by omega) hc]; simp_all)

end Go.Proofs.Ytigdmkhdmbbfiaa
