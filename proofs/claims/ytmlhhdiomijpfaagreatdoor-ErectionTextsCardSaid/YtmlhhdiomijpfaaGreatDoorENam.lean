import Derived.Test.YtmlhhdiomijpfaaGreatDoorDatA
import Derived.Test.YtmlhhdiomijpfaaGreatDoorEOrA
import Derived.Test.YtmlhhdiomijpfaaGreatDoorPvGh
set_option linter.unusedSimpArgs false
set_option linter.unusedVariables false
set_option maxRecDepth 100000
namespace Go.Proofs.YtmlhhdiomijpfaaGreatDoor.E7
open Go Go.Pv Go.Proofs.YtmlhhdiomijpfaaGreatDoor
theorem z1 {p : Prop} [Decidable p] : (decide p = true) = p := decide_eq_true_eq
theorem z2 {p : Prop} [Decidable p] : decide p = false ↔ ¬ p := decide_eq_false_iff_not
theorem z3 (b : Bool) : ((!b) = true) = (b = false) := Bool.not_eq_true' b
theorem z4 (b : Bool) : ((!b) = false) = (b = true) := Bool.not_eq_false' b
theorem z5 {a b : Int} : ¬ a < b ↔ b ≤ a := Int.not_lt
theorem z9 (a b : Bool) : ((a || b) = true) = (a = true ∨ b = true) := Bool.or_eq_true a b
def cu (b : UInt8) : List PV := [.sc (.int .u8 b.toNat)]
theorem e_convB {P : Program} {ρ : Operand → PV} {h : Heap} {key : Key} {x : Operand} {t t' : TypeId} {s : ByteArray} (hx : ρ x = .str s) (h1 : isStringTy P t' = false) (h2 : (sliceOk P t' && (intKind P (elemTy P t') == some .u8)) = true) (h3 : isStringTy P t = true) :
   eff P ρ h key (.convert t t' x) = ⟨True, .lit false 1 (s.data.toList.map cu), [], [], false⟩ := by
 simp only [eff, hx, convHEff, convEff, h1, h2, h3]; rfl
theorem byteAt_eq {s : ByteArray} {k : Nat} {x : UInt8} (hx : s.data.toList[k]? = some x) : byteAt s k = (x.toNat : Int) := by
 simp only [byteAt, List.getD_eq_getElem?_getD, hx, Option.getD_some]
theorem data_len (s : ByteArray) : s.data.toList.length = s.size := Array.length_toList
def chOk (i : Nat) (c : Int) : Prop := (97 ≤ c ∧ c ≤ 122) ∨ (65 ≤ c ∧ c ≤ 90) ∨ (i ≠ 0 ∧ (c = 45 ∨ (48 ≤ c ∧ c ≤ 57)))
instance (i : Nat) (c : Int) : Decidable (chOk i c) := inferInstanceAs (Decidable (_ ∨ _))
def isNm (s : ByteArray) : Bool := decide (1 ≤ s.size ∧ s.size ≤ 12 ∧ ∀ i, i < s.size → chOk i (byteAt s i))
theorem isNm_len {s : ByteArray} (h : s.size < 1 ∨ 12 < s.size) : false = isNm s := by
 symm; simp only [isNm, decide_eq_false_iff_not]; omega
theorem isNm_bad {s : ByteArray} {k : Nat} (hk : k < s.size) (h : ¬ chOk k (byteAt s k)) : false = isNm s := by
 symm; simp only [isNm, decide_eq_false_iff_not];exact fun hn => h (hn.2.2 k hk)
theorem isNm_ok {s : ByteArray} {k : Nat} (h1 : 1 ≤ s.size ∧ s.size ≤ 12) (hk : k = s.size) (h : ∀ i, i < k → chOk i (byteAt s i)) : true = isNm s := by
 subst hk;symm; simp only [isNm, decide_eq_true_eq];exact ⟨h1.1, h1.2, h⟩
theorem chOk_succ {s : ByteArray} {k : Nat} (h : ∀ i, i < k → chOk i (byteAt s i)) (h2 : chOk k (byteAt s k)) : ∀ i, i < k + 1 → chOk i (byteAt s i) := fun i hi => by
 rcases Nat.lt_succ_iff_lt_or_eq.1 hi with h3 | rfl
 · exact h i h3
 · exact h2
theorem fr28 : (inFrame Tryz.f28.ntmps (Tryz.f28.body.getD .skip) && Tryz.f28.results.toList.all (resScope Tryz.f28.ntmps)) = true := by kernel_rfl
theorem Within (n lo hi : Int) : PCalls Tryz.prog 28 [.int n, .int lo, .int hi] (.bool (decide (lo ≤ n ∧ n ≤ hi))) := by
 refine PCalls.of_code Tryz.func28 rfl rfl (by kernel_rfl) mixed fr28 (by show _ ≤ 15; simp) (.sc _) (pwp_seq_plain rfl fun K1 hK1 => p_aS rfl (p_end (hK1 _ ?_))); clear hK1 K1;refine pwp_seq_cutG [] [(6, .bool ((decide (lo ≤ n)) && (decide (n ≤ hi))))] (fun K2 hK2 => ?_) (fun r3 => ?_)
 ·skip
  refine pwp_gops rfl fun K4 hK4 => g_begin (g_mS rfl rfl (g_mS rfl rfl (g_e rfl (e_ge rfl rfl) (g_mS rfl rfl ?_))));refine g_cases (fun hb5 => ?_) (fun hb5 => ?_)
  ·have hb5R := hb5; try simp only [zz] at hb5
   refine g_mS rfl rfl (g_mS rfl rfl (g_e rfl (e_le rfl rfl) (g_pT rfl rfl rfl (g_aS rfl rfl (g_end (ds := [11, 12, 13]) rfl rfl (hK4 _ ?_)))))); clear hK4 K4;exact seq_norm (hK2 _ trivial ⟨(congrArg PV.bool (show ((decide (n ≤ hi)) : Bool) = ((decide (lo ≤ n)) && (decide (n ≤ hi))) by first | rfl | ((try rw [hb5R]) <;> (first | rfl | (simp only [Bool.and_true, Bool.and_false, Bool.true_and, Bool.false_and, Bool.or_true, Bool.or_false, Bool.true_or, Bool.false_or, Bool.not_true, Bool.not_false, if_true, if_false, Bool.false_eq_true, reduceIte] <;> rfl))) | (simp only [hb5R, Bool.and_true, Bool.and_false, Bool.true_and, Bool.false_and, Bool.or_true, Bool.or_false, Bool.true_or, Bool.false_or, Bool.not_true, Bool.not_false, if_true, if_false, Bool.false_eq_true, reduceIte] <;> rfl))), trivial⟩)
  have hb5R := hb5; try simp only [zz] at hb5
  iterate 3 refine g_skip rfl rfl rfl ?_
  refine g_pF rfl rfl rfl (g_aS rfl rfl (g_end (ds := [11, 12, 13]) rfl rfl (hK4 _ ?_))); clear hK4 K4;exact seq_norm (hK2 _ trivial ⟨(congrArg PV.bool (show (false : Bool) = ((decide (lo ≤ n)) && (decide (n ≤ hi))) by first | rfl | ((try rw [hb5R]) <;> (first | rfl | (simp only [Bool.and_true, Bool.and_false, Bool.true_and, Bool.false_and, Bool.or_true, Bool.or_false, Bool.true_or, Bool.false_or, Bool.not_true, Bool.not_false, if_true, if_false, Bool.false_eq_true, reduceIte] <;> rfl))) | (simp only [hb5R, Bool.and_true, Bool.and_false, Bool.true_and, Bool.false_and, Bool.or_true, Bool.or_false, Bool.true_or, Bool.false_or, Bool.not_true, Bool.not_false, if_true, if_false, Bool.false_eq_true, reduceIte] <;> rfl))), trivial⟩)
 refine pwp_ret (end1 (v := .sc _) rfl ?_);exact out_b (by first | rfl | (rw [Bool.eq_iff_iff]; simp only [decide_eq_true_eq, Bool.false_eq_true, eq_self_iff_true, true_iff, false_iff, iff_true, iff_false, Bool.and_eq_true] <;> omega))
theorem fr75 : (inFrame Tryz.f75.ntmps (Tryz.f75.body.getD .skip) && Tryz.f75.results.toList.all (resScope Tryz.f75.ntmps)) = true := by kernel_rfl
theorem within (n lo hi : Int) : PCalls Tryz.prog 75 [.int n, .int lo, .int hi] (.bool (decide (lo ≤ n ∧ n ≤ hi))) := by
 refine PCalls.of_code Tryz.func75 rfl rfl (by kernel_rfl) mixed fr75 (by show _ ≤ 15; simp) (.sc _) (pwp_seq_plain rfl fun K1 hK1 => p_aS rfl (p_end (hK1 _ ?_))); clear hK1 K1;refine pwp_seq_cutG [] [(6, .bool ((decide (lo ≤ n)) && (decide (n ≤ hi))))] (fun K2 hK2 => ?_) (fun r3 => ?_)
 ·skip
  refine pwp_gops rfl fun K4 hK4 => g_begin (g_mS rfl rfl (g_mS rfl rfl (g_e rfl (e_ge rfl rfl) (g_mS rfl rfl ?_))));refine g_cases (fun hb5 => ?_) (fun hb5 => ?_)
  ·have hb5R := hb5; try simp only [zz] at hb5
   refine g_mS rfl rfl (g_mS rfl rfl (g_e rfl (e_le rfl rfl) (g_pT rfl rfl rfl (g_aS rfl rfl (g_end (ds := [11, 12, 13]) rfl rfl (hK4 _ ?_)))))); clear hK4 K4;exact seq_norm (hK2 _ trivial ⟨(congrArg PV.bool (show ((decide (n ≤ hi)) : Bool) = ((decide (lo ≤ n)) && (decide (n ≤ hi))) by first | rfl | ((try rw [hb5R]) <;> (first | rfl | (simp only [Bool.and_true, Bool.and_false, Bool.true_and, Bool.false_and, Bool.or_true, Bool.or_false, Bool.true_or, Bool.false_or, Bool.not_true, Bool.not_false, if_true, if_false, Bool.false_eq_true, reduceIte] <;> rfl))) | (simp only [hb5R, Bool.and_true, Bool.and_false, Bool.true_and, Bool.false_and, Bool.or_true, Bool.or_false, Bool.true_or, Bool.false_or, Bool.not_true, Bool.not_false, if_true, if_false, Bool.false_eq_true, reduceIte] <;> rfl))), trivial⟩)
  have hb5R := hb5; try simp only [zz] at hb5
  iterate 3 refine g_skip rfl rfl rfl ?_
  refine g_pF rfl rfl rfl (g_aS rfl rfl (g_end (ds := [11, 12, 13]) rfl rfl (hK4 _ ?_))); clear hK4 K4;exact seq_norm (hK2 _ trivial ⟨(congrArg PV.bool (show (false : Bool) = ((decide (lo ≤ n)) && (decide (n ≤ hi))) by first | rfl | ((try rw [hb5R]) <;> (first | rfl | (simp only [Bool.and_true, Bool.and_false, Bool.true_and, Bool.false_and, Bool.or_true, Bool.or_false, Bool.true_or, Bool.false_or, Bool.not_true, Bool.not_false, if_true, if_false, Bool.false_eq_true, reduceIte] <;> rfl))) | (simp only [hb5R, Bool.and_true, Bool.and_false, Bool.true_and, Bool.false_and, Bool.or_true, Bool.or_false, Bool.true_or, Bool.false_or, Bool.not_true, Bool.not_false, if_true, if_false, Bool.false_eq_true, reduceIte] <;> rfl))), trivial⟩)
 refine pwp_ret (end1 (v := .sc _) rfl ?_);exact out_b (by first | rfl | (rw [Bool.eq_iff_iff]; simp only [decide_eq_true_eq, Bool.false_eq_true, eq_self_iff_true, true_iff, false_iff, iff_true, iff_false, Bool.and_eq_true] <;> omega))
theorem fr80 : (inFrame Tryz.f80.ntmps (Tryz.f80.body.getD .skip) && Tryz.f80.results.toList.all (resScope Tryz.f80.ntmps)) = true := by kernel_rfl
theorem IsName (s : ByteArray) : PCalls Tryz.prog 80 [.str s] (.bool (isNm s)) := by
 refine PCalls.of_code Tryz.func80 rfl rfl (by kernel_rfl) mixed fr80 (by show _ ≤ 55; simp) (.sc _) (pwp_seq_plain rfl fun K1 hK1 => p_aS rfl (p_end (hK1 _ ?_))); clear hK1 K1;refine pwp_seq_seq ?_;refine pwp_seq_cutG [0] [(13, .bool ((decide (((s).size : Int) < (1))) || (decide ((12) < ((s).size : Int)))))] (fun K2 hK2 => ?_) (fun r3 => ?_)
 ·skip
  refine pwp_gops rfl fun K4 hK4 => g_begin (g_mS rfl rfl (g_e rfl (e_lenS rfl (by kernel_rfl)) (g_e rfl (e_lt rfl rfl) (g_mS rfl rfl ?_))));refine g_cases (fun hb5 => ?_) (fun hb5 => ?_)
  ·have hb5R := hb5; try simp only [zz] at hb5
   iterate 3 refine g_skip rfl rfl rfl ?_
   refine g_pT rfl rfl rfl (g_end (ds := [10, 11, 12]) rfl rfl (hK4 _ ?_)); clear hK4 K4;exact seq_norm (hK2 _ ⟨rfl, trivial⟩ ⟨(congrArg PV.bool (show (true : Bool) = ((decide (((s).size : Int) < (1))) || (decide ((12) < ((s).size : Int)))) by first | rfl | ((try rw [hb5R]) <;> (first | rfl | (simp only [Bool.and_true, Bool.and_false, Bool.true_and, Bool.false_and, Bool.or_true, Bool.or_false, Bool.true_or, Bool.false_or, Bool.not_true, Bool.not_false, if_true, if_false, Bool.false_eq_true, reduceIte] <;> rfl))) | (simp only [hb5R, Bool.and_true, Bool.and_false, Bool.true_and, Bool.false_and, Bool.or_true, Bool.or_false, Bool.true_or, Bool.false_or, Bool.not_true, Bool.not_false, if_true, if_false, Bool.false_eq_true, reduceIte] <;> rfl))), trivial⟩)
  have hb5R := hb5; try simp only [zz] at hb5
  refine g_mS rfl rfl (g_e rfl (e_lenS rfl (by kernel_rfl)) (g_e rfl (e_gt rfl rfl) (g_pF rfl rfl rfl (g_end (ds := [10, 11, 12]) rfl rfl (hK4 _ ?_))))); clear hK4 K4;exact seq_norm (hK2 _ ⟨rfl, trivial⟩ ⟨(congrArg PV.bool (show ((decide ((12) < ((s).size : Int))) : Bool) = ((decide (((s).size : Int) < (1))) || (decide ((12) < ((s).size : Int)))) by first | rfl | ((try rw [hb5R]) <;> (first | rfl | (simp only [Bool.and_true, Bool.and_false, Bool.true_and, Bool.false_and, Bool.or_true, Bool.or_false, Bool.true_or, Bool.false_or, Bool.not_true, Bool.not_false, if_true, if_false, Bool.false_eq_true, reduceIte] <;> rfl))) | (simp only [hb5R, Bool.and_true, Bool.and_false, Bool.true_and, Bool.false_and, Bool.or_true, Bool.or_false, Bool.true_or, Bool.false_or, Bool.not_true, Bool.not_false, if_true, if_false, Bool.false_eq_true, reduceIte] <;> rfl))), trivial⟩)
 refine pwp_seq_cond rfl fun K6 hK6 => ⟨fun hb7 => ?_, fun hb7 => ?_⟩
 ·have hb7R := hb7; try simp only [zz] at hb7
  refine pwp_seq_plain rfl fun K8 hK8 => p_aS rfl (p_end (hK8 _ ?_)); clear hK8 K8;refine pwp_ret (ret_seq (end1 (v := .sc _) rfl ?_));exact out_b (isNm_len (by omega))
 have hb7R := hb7; try simp only [zz] at hb7
 refine pwp_skip (seq_norm (hK6 _ ?_)); clear hK6 K6;refine pwp_seq_seq (pwp_seq_plain rfl fun K9 hK9 => p_aS rfl (p_end (hK9 _ ?_))); clear hK9 K9;refine pwp_seq_block fun K10 hK10 => pwp_loopR (α := Nat) [0] (fun (k : Nat) => [(3, .int (k))]) (fun (k : Nat) (h : Heap) (_ : Nat → Nat) => ((k) ≤ s.size) ∧ (∀ i, i < (k) → chOk i (byteAt s i))) (fun (k : Nat) => s.size - (k)) (0) (by exact ⟨rfl, trivial⟩) (by exact ⟨by exact Nat.zero_le _, by exact fun i hi => absurd hi (Nat.not_lt_zero i)⟩) fun k r11 h12 c13 hj14 => ?_;obtain ⟨hk, hc⟩ := hj14;try dsimp only at hk
 try dsimp only at hc
 show pwp _ _ (loopQ _ _ _) ⟨sets (mix _ _ _) [(3, .int k)], _, _⟩;refine pwp_seq_seq (pwp_seq_plain rfl fun K15 hK15 => p_mS rfl (p_mS rfl (p_e rfl (e_lenS rfl (by kernel_rfl)) (p_e rfl (e_lt rfl rfl) (p_end (hK15 _ ?_)))))); clear hK15 K15;refine pwp_seq_cond rfl fun K16 hK16 => ⟨fun hb17 => ?_, fun hb17 => ?_⟩
 ·have hb17R := hb17; try simp only [zz] at hb17
  have hlt : k < s.size := by omega
  refine pwp_skip (seq_norm (hK16 _ ?_)); clear hK16 K16;refine pwp_seq_block fun K18 hK18 => pwp_seq_plain rfl fun K19 hK19 => p_mS rfl (p_mS rfl (p_e rfl (e_indexN (n := k) rfl rfl rfl (by kernel_rfl) (by omega)) (p_aS rfl (p_end (hK19 _ ?_))))); clear hK19 K19;refine pwp_seq_cutG [0, 3, 4] [(5, .bool (((decide ((97) ≤ (byteAt s k))) && (decide ((byteAt s k) ≤ (122)))) || ((decide ((65) ≤ (byteAt s k))) && (decide ((byteAt s k) ≤ (90))))))] (fun K20 hK20 => ?_) (fun r21 => ?_)
  ·skip
   refine pwp_gops rfl fun K22 hK22 => g_begin (g_mS rfl rfl (g_e rfl (e_ge rfl rfl) (g_mS rfl rfl ?_)));refine g_cases (fun hb23 => ?_) (fun hb23 => ?_)
   ·have hb23R := hb23; try simp only [zz] at hb23
    refine g_mS rfl rfl (g_e rfl (e_le rfl rfl) (g_pT rfl rfl rfl (g_mS rfl rfl ?_)));refine g_cases (fun hb24 => ?_) (fun hb24 => ?_)
    ·have hb24R := hb24; try simp only [zz] at hb24
     iterate 6 refine g_skip rfl rfl rfl ?_
     refine g_pT rfl rfl rfl (g_aS rfl rfl (g_end (ds := [26, 27, 30, 31, 32, 33, 34, 35]) rfl rfl (hK22 _ ?_))); clear hK22 K22;exact seq_norm (hK20 _ ⟨rfl, rfl, rfl, trivial⟩ ⟨(congrArg PV.bool (show (true : Bool) = (((decide ((97) ≤ (byteAt s k))) && (decide ((byteAt s k) ≤ (122)))) || ((decide ((65) ≤ (byteAt s k))) && (decide ((byteAt s k) ≤ (90))))) by first | rfl | ((try rw [hb24R]) <;> (try rw [hb23R]) <;> (first | rfl | (simp only [Bool.and_true, Bool.and_false, Bool.true_and, Bool.false_and, Bool.or_true, Bool.or_false, Bool.true_or, Bool.false_or, Bool.not_true, Bool.not_false, if_true, if_false, Bool.false_eq_true, reduceIte] <;> rfl))) | (simp only [hb23R, hb24R, Bool.and_true, Bool.and_false, Bool.true_and, Bool.false_and, Bool.or_true, Bool.or_false, Bool.true_or, Bool.false_or, Bool.not_true, Bool.not_false, if_true, if_false, Bool.false_eq_true, reduceIte] <;> rfl))), trivial⟩)
    have hb24R := hb24; try simp only [zz] at hb24
    refine g_mS rfl rfl (g_e rfl (e_ge rfl rfl) (g_mS rfl rfl ?_));refine g_cases (fun hb25 => ?_) (fun hb25 => ?_)
    ·have hb25R := hb25; try simp only [zz] at hb25
     refine g_mS rfl rfl (g_e rfl (e_le rfl rfl) (g_pT rfl rfl rfl (g_pF rfl rfl rfl (g_aS rfl rfl (g_end (ds := [26, 27, 30, 31, 32, 33, 34, 35]) rfl rfl (hK22 _ ?_)))))); clear hK22 K22;exact seq_norm (hK20 _ ⟨rfl, rfl, rfl, trivial⟩ ⟨(congrArg PV.bool (show ((decide ((byteAt s k) ≤ (90))) : Bool) = (((decide ((97) ≤ (byteAt s k))) && (decide ((byteAt s k) ≤ (122)))) || ((decide ((65) ≤ (byteAt s k))) && (decide ((byteAt s k) ≤ (90))))) by first | rfl | ((try rw [hb25R]) <;> (try rw [hb24R]) <;> (try rw [hb23R]) <;> (first | rfl | (simp only [Bool.and_true, Bool.and_false, Bool.true_and, Bool.false_and, Bool.or_true, Bool.or_false, Bool.true_or, Bool.false_or, Bool.not_true, Bool.not_false, if_true, if_false, Bool.false_eq_true, reduceIte] <;> rfl))) | (simp only [hb23R, hb24R, hb25R, Bool.and_true, Bool.and_false, Bool.true_and, Bool.false_and, Bool.or_true, Bool.or_false, Bool.true_or, Bool.false_or, Bool.not_true, Bool.not_false, if_true, if_false, Bool.false_eq_true, reduceIte] <;> rfl))), trivial⟩)
    have hb25R := hb25; try simp only [zz] at hb25
    iterate 2 refine g_skip rfl rfl rfl ?_
    refine g_pF rfl rfl rfl (g_pF rfl rfl rfl (g_aS rfl rfl (g_end (ds := [26, 27, 30, 31, 32, 33, 34, 35]) rfl rfl (hK22 _ ?_)))); clear hK22 K22;exact seq_norm (hK20 _ ⟨rfl, rfl, rfl, trivial⟩ ⟨(congrArg PV.bool (show (false : Bool) = (((decide ((97) ≤ (byteAt s k))) && (decide ((byteAt s k) ≤ (122)))) || ((decide ((65) ≤ (byteAt s k))) && (decide ((byteAt s k) ≤ (90))))) by first | rfl | ((try rw [hb25R]) <;> (try rw [hb24R]) <;> (try rw [hb23R]) <;> (first | rfl | (simp only [Bool.and_true, Bool.and_false, Bool.true_and, Bool.false_and, Bool.or_true, Bool.or_false, Bool.true_or, Bool.false_or, Bool.not_true, Bool.not_false, if_true, if_false, Bool.false_eq_true, reduceIte] <;> rfl))) | (simp only [hb23R, hb24R, hb25R, Bool.and_true, Bool.and_false, Bool.true_and, Bool.false_and, Bool.or_true, Bool.or_false, Bool.true_or, Bool.false_or, Bool.not_true, Bool.not_false, if_true, if_false, Bool.false_eq_true, reduceIte] <;> rfl))), trivial⟩)
   have hb23R := hb23; try simp only [zz] at hb23
   iterate 2 refine g_skip rfl rfl rfl ?_
   refine g_pF rfl rfl rfl (g_mS rfl rfl (g_mS rfl rfl (g_e rfl (e_ge rfl rfl) (g_mS rfl rfl ?_))));refine g_cases (fun hb26 => ?_) (fun hb26 => ?_)
   ·have hb26R := hb26; try simp only [zz] at hb26
    refine g_mS rfl rfl (g_e rfl (e_le rfl rfl) (g_pT rfl rfl rfl (g_pF rfl rfl rfl (g_aS rfl rfl (g_end (ds := [26, 27, 30, 31, 32, 33, 34, 35]) rfl rfl (hK22 _ ?_)))))); clear hK22 K22;exact seq_norm (hK20 _ ⟨rfl, rfl, rfl, trivial⟩ ⟨(congrArg PV.bool (show ((decide ((byteAt s k) ≤ (90))) : Bool) = (((decide ((97) ≤ (byteAt s k))) && (decide ((byteAt s k) ≤ (122)))) || ((decide ((65) ≤ (byteAt s k))) && (decide ((byteAt s k) ≤ (90))))) by first | rfl | ((try rw [hb26R]) <;> (try rw [hb23R]) <;> (first | rfl | (simp only [Bool.and_true, Bool.and_false, Bool.true_and, Bool.false_and, Bool.or_true, Bool.or_false, Bool.true_or, Bool.false_or, Bool.not_true, Bool.not_false, if_true, if_false, Bool.false_eq_true, reduceIte] <;> rfl))) | (simp only [hb23R, hb26R, Bool.and_true, Bool.and_false, Bool.true_and, Bool.false_and, Bool.or_true, Bool.or_false, Bool.true_or, Bool.false_or, Bool.not_true, Bool.not_false, if_true, if_false, Bool.false_eq_true, reduceIte] <;> rfl))), trivial⟩)
   have hb26R := hb26; try simp only [zz] at hb26
   iterate 2 refine g_skip rfl rfl rfl ?_
   refine g_pF rfl rfl rfl (g_pF rfl rfl rfl (g_aS rfl rfl (g_end (ds := [26, 27, 30, 31, 32, 33, 34, 35]) rfl rfl (hK22 _ ?_)))); clear hK22 K22;exact seq_norm (hK20 _ ⟨rfl, rfl, rfl, trivial⟩ ⟨(congrArg PV.bool (show (false : Bool) = (((decide ((97) ≤ (byteAt s k))) && (decide ((byteAt s k) ≤ (122)))) || ((decide ((65) ≤ (byteAt s k))) && (decide ((byteAt s k) ≤ (90))))) by first | rfl | ((try rw [hb26R]) <;> (try rw [hb23R]) <;> (first | rfl | (simp only [Bool.and_true, Bool.and_false, Bool.true_and, Bool.false_and, Bool.or_true, Bool.or_false, Bool.true_or, Bool.false_or, Bool.not_true, Bool.not_false, if_true, if_false, Bool.false_eq_true, reduceIte] <;> rfl))) | (simp only [hb23R, hb26R, Bool.and_true, Bool.and_false, Bool.true_and, Bool.false_and, Bool.or_true, Bool.or_false, Bool.true_or, Bool.false_or, Bool.not_true, Bool.not_false, if_true, if_false, Bool.false_eq_true, reduceIte] <;> rfl))), trivial⟩)
  refine pwp_seq_cutG [0, 3] [(54, .bool ((!(((decide ((97) ≤ (byteAt s k))) && (decide ((byteAt s k) ≤ (122)))) || ((decide ((65) ≤ (byteAt s k))) && (decide ((byteAt s k) ≤ (90)))))) && ((decide ((k : Int) = (0))) || ((decide ((byteAt s k) ≠ (45))) && ((decide ((byteAt s k) < (48))) || (decide ((57) < (byteAt s k))))))))] (fun K27 hK27 => ?_) (fun r28 => ?_)
  ·skip
   refine pwp_gops rfl fun K29 hK29 => g_begin (g_mS rfl rfl (g_e rfl (e_not rfl) (g_mS rfl rfl ?_)));refine g_cases (fun hb30 => ?_) (fun hb30 => ?_)
   ·have hb30R := hb30; try simp only [zz] at hb30
    refine g_mS rfl rfl (g_e rfl (e_eq rfl rfl) (g_mS rfl rfl ?_));refine g_cases (fun hb31 => ?_) (fun hb31 => ?_)
    ·have hb31R := hb31; try simp only [zz] at hb31
     iterate 10 refine g_skip rfl rfl rfl ?_
     refine g_pT rfl rfl rfl (g_pT rfl rfl rfl (g_end (ds := [40, 41, 42, 43, 44, 45, 46, 47, 48, 49, 50, 51, 52, 53]) rfl rfl (hK29 _ ?_))); clear hK29 K29;exact seq_norm (hK27 _ ⟨rfl, rfl, trivial⟩ ⟨(congrArg PV.bool (show (true : Bool) = ((!(((decide ((97) ≤ (byteAt s k))) && (decide ((byteAt s k) ≤ (122)))) || ((decide ((65) ≤ (byteAt s k))) && (decide ((byteAt s k) ≤ (90)))))) && ((decide ((k : Int) = (0))) || ((decide ((byteAt s k) ≠ (45))) && ((decide ((byteAt s k) < (48))) || (decide ((57) < (byteAt s k))))))) by first | rfl | ((try rw [hb31R]) <;> (try rw [hb30R]) <;> (first | rfl | (simp only [Bool.and_true, Bool.and_false, Bool.true_and, Bool.false_and, Bool.or_true, Bool.or_false, Bool.true_or, Bool.false_or, Bool.not_true, Bool.not_false, if_true, if_false, Bool.false_eq_true, reduceIte] <;> rfl))) | (simp only [hb30R, hb31R, Bool.and_true, Bool.and_false, Bool.true_and, Bool.false_and, Bool.or_true, Bool.or_false, Bool.true_or, Bool.false_or, Bool.not_true, Bool.not_false, if_true, if_false, Bool.false_eq_true, reduceIte] <;> rfl))), trivial⟩)
    have hb31R := hb31; try simp only [zz] at hb31
    refine g_mS rfl rfl (g_e rfl (e_ne rfl rfl) (g_mS rfl rfl ?_));refine g_cases (fun hb32 => ?_) (fun hb32 => ?_)
    ·have hb32R := hb32; try simp only [zz] at hb32
     refine g_mS rfl rfl (g_e rfl (e_lt rfl rfl) (g_mS rfl rfl ?_));refine g_cases (fun hb33 => ?_) (fun hb33 => ?_)
     ·have hb33R := hb33; try simp only [zz] at hb33
      iterate 2 refine g_skip rfl rfl rfl ?_
      refine g_pT rfl rfl rfl (g_pT rfl rfl rfl (g_pF rfl rfl rfl (g_pT rfl rfl rfl (g_end (ds := [40, 41, 42, 43, 44, 45, 46, 47, 48, 49, 50, 51, 52, 53]) rfl rfl (hK29 _ ?_))))); clear hK29 K29;exact seq_norm (hK27 _ ⟨rfl, rfl, trivial⟩ ⟨(congrArg PV.bool (show (true : Bool) = ((!(((decide ((97) ≤ (byteAt s k))) && (decide ((byteAt s k) ≤ (122)))) || ((decide ((65) ≤ (byteAt s k))) && (decide ((byteAt s k) ≤ (90)))))) && ((decide ((k : Int) = (0))) || ((decide ((byteAt s k) ≠ (45))) && ((decide ((byteAt s k) < (48))) || (decide ((57) < (byteAt s k))))))) by first | rfl | ((try rw [hb33R]) <;> (try rw [hb32R]) <;> (try rw [hb31R]) <;> (try rw [hb30R]) <;> (first | rfl | (simp only [Bool.and_true, Bool.and_false, Bool.true_and, Bool.false_and, Bool.or_true, Bool.or_false, Bool.true_or, Bool.false_or, Bool.not_true, Bool.not_false, if_true, if_false, Bool.false_eq_true, reduceIte] <;> rfl))) | (simp only [hb30R, hb31R, hb32R, hb33R, Bool.and_true, Bool.and_false, Bool.true_and, Bool.false_and, Bool.or_true, Bool.or_false, Bool.true_or, Bool.false_or, Bool.not_true, Bool.not_false, if_true, if_false, Bool.false_eq_true, reduceIte] <;> rfl))), trivial⟩)
     have hb33R := hb33; try simp only [zz] at hb33
     refine g_mS rfl rfl (g_e rfl (e_gt rfl rfl) (g_pF rfl rfl rfl (g_pT rfl rfl rfl (g_pF rfl rfl rfl (g_pT rfl rfl rfl (g_end (ds := [40, 41, 42, 43, 44, 45, 46, 47, 48, 49, 50, 51, 52, 53]) rfl rfl (hK29 _ ?_))))))); clear hK29 K29;exact seq_norm (hK27 _ ⟨rfl, rfl, trivial⟩ ⟨(congrArg PV.bool (show ((decide ((57) < (byteAt s k))) : Bool) = ((!(((decide ((97) ≤ (byteAt s k))) && (decide ((byteAt s k) ≤ (122)))) || ((decide ((65) ≤ (byteAt s k))) && (decide ((byteAt s k) ≤ (90)))))) && ((decide ((k : Int) = (0))) || ((decide ((byteAt s k) ≠ (45))) && ((decide ((byteAt s k) < (48))) || (decide ((57) < (byteAt s k))))))) by first | rfl | ((try rw [hb33R]) <;> (try rw [hb32R]) <;> (try rw [hb31R]) <;> (try rw [hb30R]) <;> (first | rfl | (simp only [Bool.and_true, Bool.and_false, Bool.true_and, Bool.false_and, Bool.or_true, Bool.or_false, Bool.true_or, Bool.false_or, Bool.not_true, Bool.not_false, if_true, if_false, Bool.false_eq_true, reduceIte] <;> rfl))) | (simp only [hb30R, hb31R, hb32R, hb33R, Bool.and_true, Bool.and_false, Bool.true_and, Bool.false_and, Bool.or_true, Bool.or_false, Bool.true_or, Bool.false_or, Bool.not_true, Bool.not_false, if_true, if_false, Bool.false_eq_true, reduceIte] <;> rfl))), trivial⟩)
    have hb32R := hb32; try simp only [zz] at hb32
    iterate 6 refine g_skip rfl rfl rfl ?_
    refine g_pF rfl rfl rfl (g_pF rfl rfl rfl (g_pT rfl rfl rfl (g_end (ds := [40, 41, 42, 43, 44, 45, 46, 47, 48, 49, 50, 51, 52, 53]) rfl rfl (hK29 _ ?_)))); clear hK29 K29;exact seq_norm (hK27 _ ⟨rfl, rfl, trivial⟩ ⟨(congrArg PV.bool (show (false : Bool) = ((!(((decide ((97) ≤ (byteAt s k))) && (decide ((byteAt s k) ≤ (122)))) || ((decide ((65) ≤ (byteAt s k))) && (decide ((byteAt s k) ≤ (90)))))) && ((decide ((k : Int) = (0))) || ((decide ((byteAt s k) ≠ (45))) && ((decide ((byteAt s k) < (48))) || (decide ((57) < (byteAt s k))))))) by first | rfl | ((try rw [hb32R]) <;> (try rw [hb31R]) <;> (try rw [hb30R]) <;> (first | rfl | (simp only [Bool.and_true, Bool.and_false, Bool.true_and, Bool.false_and, Bool.or_true, Bool.or_false, Bool.true_or, Bool.false_or, Bool.not_true, Bool.not_false, if_true, if_false, Bool.false_eq_true, reduceIte] <;> rfl))) | (simp only [hb30R, hb31R, hb32R, Bool.and_true, Bool.and_false, Bool.true_and, Bool.false_and, Bool.or_true, Bool.or_false, Bool.true_or, Bool.false_or, Bool.not_true, Bool.not_false, if_true, if_false, Bool.false_eq_true, reduceIte] <;> rfl))), trivial⟩)
   have hb30R := hb30; try simp only [zz] at hb30
   iterate 14 refine g_skip rfl rfl rfl ?_
   refine g_pF rfl rfl rfl (g_end (ds := [40, 41, 42, 43, 44, 45, 46, 47, 48, 49, 50, 51, 52, 53]) rfl rfl (hK29 _ ?_)); clear hK29 K29;exact seq_norm (hK27 _ ⟨rfl, rfl, trivial⟩ ⟨(congrArg PV.bool (show (false : Bool) = ((!(((decide ((97) ≤ (byteAt s k))) && (decide ((byteAt s k) ≤ (122)))) || ((decide ((65) ≤ (byteAt s k))) && (decide ((byteAt s k) ≤ (90)))))) && ((decide ((k : Int) = (0))) || ((decide ((byteAt s k) ≠ (45))) && ((decide ((byteAt s k) < (48))) || (decide ((57) < (byteAt s k))))))) by first | rfl | ((try rw [hb30R]) <;> (first | rfl | (simp only [Bool.and_true, Bool.and_false, Bool.true_and, Bool.false_and, Bool.or_true, Bool.or_false, Bool.true_or, Bool.false_or, Bool.not_true, Bool.not_false, if_true, if_false, Bool.false_eq_true, reduceIte] <;> rfl))) | (simp only [hb30R, Bool.and_true, Bool.and_false, Bool.true_and, Bool.false_and, Bool.or_true, Bool.or_false, Bool.true_or, Bool.false_or, Bool.not_true, Bool.not_false, if_true, if_false, Bool.false_eq_true, reduceIte] <;> rfl))), trivial⟩)
  refine pwp_cond rfl (fun hb34 => ?_) (fun hb34 => ?_)
  ·have hb34R := hb34; try simp only [zz] at hb34
   refine pwp_seq_plain rfl fun K35 hK35 => p_aS rfl (p_end (hK35 _ ?_)); clear hK35 K35;refine pwp_ret (ret_block (ret_seq (ret_loop (ret_block (ret_seq (end1 (v := .sc _) rfl ?_))))));exact out_b (isNm_bad hlt (by unfold chOk; omega))
  have hb34R := hb34; try simp only [zz] at hb34
  refine pwp_skip (block_norm (seq_norm (hK18 _ ?_))); clear hK18 K18;refine pwp_plain rfl fun K36 hK36 => p_mS rfl (p_e rfl (e_add rfl rfl (by omega)) (p_aS rfl (p_end (hK36 _ ?_)))); clear hK36 K36;exact loop_again (k + 1) (by show _ < _; omega) ⟨rfl, trivial⟩ ⟨rfl, trivial⟩ (by exact ⟨by show _ + 1 ≤ _; omega, by exact chOk_succ hc (by unfold chOk; omega)⟩)
 have hb17R := hb17; try simp only [zz] at hb17
 refine pwp_exit (exit_seq ?_);clear hK16 K16;refine exit_loop (exit_here (seq_norm (hK10 _ ?_))); clear hK10 K10;refine pwp_seq_plain rfl fun K37 hK37 => p_aS rfl (p_end (hK37 _ ?_)); clear hK37 K37;refine pwp_ret (end1 (v := .sc _) rfl ?_);exact out_b (isNm_ok (by omega) (by omega) hc)
theorem fr74 : (inFrame Tryz.f74.ntmps (Tryz.f74.body.getD .skip) && Tryz.f74.results.toList.all (resScope Tryz.f74.ntmps)) = true := by kernel_rfl
theorem isName (s : ByteArray) (hs : s.size ≤ 9223372036854775807) : PCalls Tryz.prog 74 [.str s] (.bool (isNm s)) := by
 refine PCalls.of_code Tryz.func74 rfl rfl (by kernel_rfl) mixed fr74 (by show _ ≤ 50; simp) (.sc _) ?_;have hdl := data_len s;refine pwp_seq_plain rfl fun K1 hK1 => p_aS rfl (p_end (hK1 _ ?_)); clear hK1 K1;refine pwp_seq_seq (pwp_seq_gops rfl fun K2 hK2 => g_begin (g_mS rfl rfl (g_e rfl (e_lenS rfl (by kernel_rfl)) (g_e rfl (e_lt rfl rfl) (g_mS rfl rfl ?_)))));refine g_cases (fun hb3 => ?_) (fun hb3 => ?_)
 ·have hb3R := hb3; try simp only [zz] at hb3
  iterate 3 refine g_skip rfl rfl rfl ?_
  refine g_pT rfl rfl rfl (g_end (ds := [9, 10, 11]) rfl rfl (hK2 _ ?_)); clear hK2 K2;refine pwp_seq_cond (t := true) rfl fun K4 hK4 => ⟨fun _ => ?_, nofun⟩
  refine pwp_seq_plain rfl fun K5 hK5 => p_aS rfl (p_end (hK5 _ ?_)); clear hK5 K5;refine pwp_ret (ret_seq (end1 (v := .sc _) rfl ?_));exact out_b (isNm_len (by omega))
 have hb3R := hb3; try simp only [zz] at hb3
 refine g_mS rfl rfl (g_e rfl (e_lenS rfl (by kernel_rfl)) (g_e rfl (e_gt rfl rfl) (g_pF rfl rfl rfl (g_end (ds := [9, 10, 11]) rfl rfl (hK2 _ ?_))))); clear hK2 K2;refine pwp_seq_cond rfl fun K6 hK6 => ⟨fun hb7 => ?_, fun hb7 => ?_⟩
 ·have hb7R := hb7; try simp only [zz] at hb7
  refine pwp_seq_plain rfl fun K8 hK8 => p_aS rfl (p_end (hK8 _ ?_)); clear hK8 K8;refine pwp_ret (ret_seq (end1 (v := .sc _) rfl ?_));exact out_b (isNm_len (by omega))
 have hb7R := hb7; try simp only [zz] at hb7
 refine pwp_skip (seq_norm (hK6 _ ?_)); clear hK6 K6;refine pwp_seq_seq (pwp_seq_plain rfl fun K9 hK9 => p_mS rfl (p_e rfl (e_convB rfl (by kernel_rfl) (by kernel_rfl) (by kernel_rfl)) (p_e rfl (e_len rfl (by kernel_rfl)) (p_mS rfl (p_end (hK9 _ ?_)))))); clear hK9 K9;refine pwp_seq_block fun K10 hK10 => pwp_loopR (α := Nat) [14, 15] (fun (k : Nat) => [(16, .int (k))]) (fun (k : Nat) (h : Heap) (_ : Nat → Nat) => ((k) ≤ s.size) ∧ (∀ i, i < (k) → chOk i (byteAt s i))) (fun (k : Nat) => s.size - (k)) (0) (by exact ⟨rfl, trivial⟩) (by exact ⟨by exact Nat.zero_le _, by exact fun i hi => absurd hi (Nat.not_lt_zero i)⟩) fun k r11 h12 c13 hj14 => ?_;obtain ⟨hk, hc⟩ := hj14;try dsimp only at hk
 try dsimp only at hc
 show pwp _ _ (loopQ _ _ _) ⟨sets (mix _ _ _) [(16, .int k)], _, _⟩;refine pwp_seq_plain rfl fun K15 hK15 => p_e rfl (e_lt rfl rfl) (p_end (hK15 _ ?_)); clear hK15 K15;refine pwp_seq_cond rfl fun K16 hK16 => ⟨fun hb17 => ?_, fun hb17 => ?_⟩
 ·have hb17R := hb17; try simp only [zz] at hb17
  have hlt : k < s.size := by omega
  obtain ⟨x, hx, hd, ht⟩ := get_lt (xs := s.data.toList) (i := k) (by omega);have hbx := byteAt_eq hx;refine pwp_skip (seq_norm (hK16 _ ?_)); clear hK16 K16;refine pwp_seq_block fun K18 hK18 => pwp_seq_plain rfl fun K19 hK19 => p_mS rfl (p_e rfl (e_ixa rfl rfl (by kernel_rfl) (by kernel_rfl) (by simp only [lM]; omega)) (p_e rfl (e_load (v := .sc _) rfl (by kernel_rfl) (by kernel_rfl) (by kernel_rfl) (by simp only [lM]; omega) (by decide) ((cell_map hx _).trans rfl)) (p_aS rfl (p_aS rfl (p_end (hK19 _ ?_)))))); clear hK19 K19;refine pwp_block (pwp_seq_seq (pwp_seq_gops rfl fun K20 hK20 => g_begin (g_mS rfl rfl (g_e rfl (e_ge rfl rfl) (g_mS rfl rfl ?_)))));refine g_cases (fun hb21 => ?_) (fun hb21 => ?_)
  ·have hb21R := hb21; try simp only [zz] at hb21
   refine g_mS rfl rfl (g_e rfl (e_le rfl rfl) (g_pT rfl rfl rfl (g_aS rfl rfl (g_end (ds := [25, 26]) rfl rfl (hK20 _ ?_))))); clear hK20 K20;refine pwp_seq_cond rfl fun K22 hK22 => ⟨fun hb23 => ?_, fun hb23 => ?_⟩
   ·have hb23R := hb23; try simp only [zz] at hb23
    refine pwp_skip (seq_norm (hK22 _ ?_)); clear hK22 K22;refine pwp_cond rfl (fun hb24 => ?_) (fun hb24 => ?_)
    ·have hb24R := hb24; try simp only [zz] at hb24
     refine pwp_skip (block_norm (block_norm (seq_norm (hK18 _ ?_)))); clear hK18 K18;refine pwp_plain rfl fun K25 hK25 => p_e rfl (e_add rfl rfl (by omega)) (p_mS rfl (p_end (hK25 _ ?_))); clear hK25 K25;exact loop_again (k + 1) (by show _ < _; omega) ⟨rfl, rfl, trivial⟩ ⟨rfl, trivial⟩ (by exact ⟨by show _ + 1 ≤ _; omega, by exact chOk_succ hc (by rw [hbx]; unfold chOk; omega)⟩)
    have hb24R := hb24; try simp only [zz] at hb24
    refine pwp_seq_gops rfl fun K26 hK26 => g_begin (g_mS rfl rfl (g_e rfl (e_gt rfl rfl) (g_mS rfl rfl ?_)));refine g_cases (fun hb27 => ?_) (fun hb27 => ?_)
    ·have hb27R := hb27; try simp only [zz] at hb27
     refine g_mS rfl rfl (g_e rfl (e_eq rfl rfl) (g_mS rfl rfl ?_));refine g_cases (fun hb28 => ?_) (fun hb28 => ?_)
     ·have hb28R := hb28; try simp only [zz] at hb28
      iterate 6 refine g_skip rfl rfl rfl ?_
      refine g_pT rfl rfl rfl (g_pT rfl rfl rfl (g_aS rfl rfl (g_end (ds := [38, 39, 40, 41, 42, 43, 44, 45, 46, 47]) rfl rfl (hK26 _ ?_)))); clear hK26 K26;refine pwp_cond (t := true) rfl (fun _ => ?_) nofun;refine pwp_skip (block_norm (block_norm (seq_norm (hK18 _ ?_)))); clear hK18 K18;refine pwp_plain rfl fun K29 hK29 => p_e rfl (e_add rfl rfl (by omega)) (p_mS rfl (p_end (hK29 _ ?_))); clear hK29 K29;exact loop_again (k + 1) (by show _ < _; omega) ⟨rfl, rfl, trivial⟩ ⟨rfl, trivial⟩ (by exact ⟨by show _ + 1 ≤ _; omega, by exact chOk_succ hc (by rw [hbx]; unfold chOk; omega)⟩)
     have hb28R := hb28; try simp only [zz] at hb28
     refine g_mS rfl rfl (g_e rfl (e_ge rfl rfl) (g_mS rfl rfl ?_));refine g_cases (fun hb30 => ?_) (fun hb30 => ?_)
     ·have hb30R := hb30; try simp only [zz] at hb30
      refine g_mS rfl rfl (g_e rfl (e_le rfl rfl) (g_pT rfl rfl rfl (g_pF rfl rfl rfl (g_pT rfl rfl rfl (g_aS rfl rfl (g_end (ds := [38, 39, 40, 41, 42, 43, 44, 45, 46, 47]) rfl rfl (hK26 _ ?_))))))); clear hK26 K26;refine pwp_cond rfl (fun hb31 => ?_) (fun hb31 => ?_)
      ·have hb31R := hb31; try simp only [zz] at hb31
       refine pwp_skip (block_norm (block_norm (seq_norm (hK18 _ ?_)))); clear hK18 K18;refine pwp_plain rfl fun K32 hK32 => p_e rfl (e_add rfl rfl (by omega)) (p_mS rfl (p_end (hK32 _ ?_))); clear hK32 K32;exact loop_again (k + 1) (by show _ < _; omega) ⟨rfl, rfl, trivial⟩ ⟨rfl, trivial⟩ (by exact ⟨by show _ + 1 ≤ _; omega, by exact chOk_succ hc (by rw [hbx]; unfold chOk; omega)⟩)
      have hb31R := hb31; try simp only [zz] at hb31
      refine pwp_seq_plain rfl fun K33 hK33 => p_aS rfl (p_end (hK33 _ ?_)); clear hK33 K33;refine pwp_ret (ret_block (ret_block (ret_seq (ret_loop (ret_block (ret_seq (end1 (v := .sc _) rfl ?_)))))));exact out_b (isNm_len (by omega))
     have hb30R := hb30; try simp only [zz] at hb30
     iterate 2 refine g_skip rfl rfl rfl ?_
     refine g_pF rfl rfl rfl (g_pF rfl rfl rfl (g_pT rfl rfl rfl (g_aS rfl rfl (g_end (ds := [38, 39, 40, 41, 42, 43, 44, 45, 46, 47]) rfl rfl (hK26 _ ?_))))); clear hK26 K26;refine pwp_cond (t := false) rfl nofun (fun _ => ?_);refine pwp_seq_plain rfl fun K34 hK34 => p_aS rfl (p_end (hK34 _ ?_)); clear hK34 K34;refine pwp_ret (ret_block (ret_block (ret_seq (ret_loop (ret_block (ret_seq (end1 (v := .sc _) rfl ?_)))))));exact out_b (isNm_len (by omega))
    have hb27R := hb27; try simp only [zz] at hb27
    iterate 10 refine g_skip rfl rfl rfl ?_
    refine g_pF rfl rfl rfl (g_aS rfl rfl (g_end (ds := [38, 39, 40, 41, 42, 43, 44, 45, 46, 47]) rfl rfl (hK26 _ ?_))); clear hK26 K26;refine pwp_cond (t := false) rfl nofun (fun _ => ?_);refine pwp_seq_plain rfl fun K35 hK35 => p_aS rfl (p_end (hK35 _ ?_)); clear hK35 K35;refine pwp_ret (ret_block (ret_block (ret_seq (ret_loop (ret_block (ret_seq (end1 (v := .sc _) rfl ?_)))))));exact out_b (isNm_len (by omega))
   have hb23R := hb23; try simp only [zz] at hb23
   refine pwp_gops rfl fun K36 hK36 => g_begin (g_mS rfl rfl (g_e rfl (e_ge rfl rfl) (g_mS rfl rfl ?_)));refine g_cases (fun hb37 => ?_) (fun hb37 => ?_)
   ·have hb37R := hb37; try simp only [zz] at hb37
    refine g_mS rfl rfl (g_e rfl (e_le rfl rfl) (g_pT rfl rfl rfl (g_aS rfl rfl (g_end (ds := [31, 32]) rfl rfl (hK36 _ ?_))))); clear hK36 K36;refine seq_norm (hK22 _ ?_); clear hK22 K22;refine pwp_cond rfl (fun hb38 => ?_) (fun hb38 => ?_)
    ·have hb38R := hb38; try simp only [zz] at hb38
     refine pwp_skip (block_norm (block_norm (seq_norm (hK18 _ ?_)))); clear hK18 K18;refine pwp_plain rfl fun K39 hK39 => p_e rfl (e_add rfl rfl (by omega)) (p_mS rfl (p_end (hK39 _ ?_))); clear hK39 K39;exact loop_again (k + 1) (by show _ < _; omega) ⟨rfl, rfl, trivial⟩ ⟨rfl, trivial⟩ (by exact ⟨by show _ + 1 ≤ _; omega, by exact chOk_succ hc (by rw [hbx]; unfold chOk; omega)⟩)
    have hb38R := hb38; try simp only [zz] at hb38
    refine pwp_seq_gops rfl fun K40 hK40 => g_begin (g_mS rfl rfl (g_e rfl (e_gt rfl rfl) (g_mS rfl rfl ?_)));refine g_cases (fun hb41 => ?_) (fun hb41 => ?_)
    ·have hb41R := hb41; try simp only [zz] at hb41
     refine g_mS rfl rfl (g_e rfl (e_eq rfl rfl) (g_mS rfl rfl ?_));refine g_cases (fun hb42 => ?_) (fun hb42 => ?_)
     ·have hb42R := hb42; try simp only [zz] at hb42
      iterate 6 refine g_skip rfl rfl rfl ?_
      refine g_pT rfl rfl rfl (g_pT rfl rfl rfl (g_aS rfl rfl (g_end (ds := [38, 39, 40, 41, 42, 43, 44, 45, 46, 47]) rfl rfl (hK40 _ ?_)))); clear hK40 K40;refine pwp_cond (t := true) rfl (fun _ => ?_) nofun;refine pwp_skip (block_norm (block_norm (seq_norm (hK18 _ ?_)))); clear hK18 K18;refine pwp_plain rfl fun K43 hK43 => p_e rfl (e_add rfl rfl (by omega)) (p_mS rfl (p_end (hK43 _ ?_))); clear hK43 K43;exact loop_again (k + 1) (by show _ < _; omega) ⟨rfl, rfl, trivial⟩ ⟨rfl, trivial⟩ (by exact ⟨by show _ + 1 ≤ _; omega, by exact chOk_succ hc (by rw [hbx]; unfold chOk; omega)⟩)
     have hb42R := hb42; try simp only [zz] at hb42
     refine g_mS rfl rfl (g_e rfl (e_ge rfl rfl) (g_mS rfl rfl ?_));refine g_cases (fun hb44 => ?_) (fun hb44 => ?_)
     ·have hb44R := hb44; try simp only [zz] at hb44
      refine g_mS rfl rfl (g_e rfl (e_le rfl rfl) (g_pT rfl rfl rfl (g_pF rfl rfl rfl (g_pT rfl rfl rfl (g_aS rfl rfl (g_end (ds := [38, 39, 40, 41, 42, 43, 44, 45, 46, 47]) rfl rfl (hK40 _ ?_))))))); clear hK40 K40;refine pwp_cond rfl (fun hb45 => ?_) (fun hb45 => ?_)
      ·have hb45R := hb45; try simp only [zz] at hb45
       refine pwp_skip (block_norm (block_norm (seq_norm (hK18 _ ?_)))); clear hK18 K18;refine pwp_plain rfl fun K46 hK46 => p_e rfl (e_add rfl rfl (by omega)) (p_mS rfl (p_end (hK46 _ ?_))); clear hK46 K46;exact loop_again (k + 1) (by show _ < _; omega) ⟨rfl, rfl, trivial⟩ ⟨rfl, trivial⟩ (by exact ⟨by show _ + 1 ≤ _; omega, by exact chOk_succ hc (by rw [hbx]; unfold chOk; omega)⟩)
      have hb45R := hb45; try simp only [zz] at hb45
      refine pwp_seq_plain rfl fun K47 hK47 => p_aS rfl (p_end (hK47 _ ?_)); clear hK47 K47;refine pwp_ret (ret_block (ret_block (ret_seq (ret_loop (ret_block (ret_seq (end1 (v := .sc _) rfl ?_)))))));exact out_b (isNm_bad hlt (by rw [hbx]; unfold chOk; omega))
     have hb44R := hb44; try simp only [zz] at hb44
     iterate 2 refine g_skip rfl rfl rfl ?_
     refine g_pF rfl rfl rfl (g_pF rfl rfl rfl (g_pT rfl rfl rfl (g_aS rfl rfl (g_end (ds := [38, 39, 40, 41, 42, 43, 44, 45, 46, 47]) rfl rfl (hK40 _ ?_))))); clear hK40 K40;refine pwp_cond (t := false) rfl nofun (fun _ => ?_);refine pwp_seq_plain rfl fun K48 hK48 => p_aS rfl (p_end (hK48 _ ?_)); clear hK48 K48;refine pwp_ret (ret_block (ret_block (ret_seq (ret_loop (ret_block (ret_seq (end1 (v := .sc _) rfl ?_)))))));exact out_b (isNm_len (by omega))
    have hb41R := hb41; try simp only [zz] at hb41
    iterate 10 refine g_skip rfl rfl rfl ?_
    refine g_pF rfl rfl rfl (g_aS rfl rfl (g_end (ds := [38, 39, 40, 41, 42, 43, 44, 45, 46, 47]) rfl rfl (hK40 _ ?_))); clear hK40 K40;refine pwp_cond (t := false) rfl nofun (fun _ => ?_);refine pwp_seq_plain rfl fun K49 hK49 => p_aS rfl (p_end (hK49 _ ?_)); clear hK49 K49;refine pwp_ret (ret_block (ret_block (ret_seq (ret_loop (ret_block (ret_seq (end1 (v := .sc _) rfl ?_)))))));exact out_b (isNm_bad hlt (by rw [hbx]; unfold chOk; omega))
   have hb37R := hb37; try simp only [zz] at hb37
   iterate 2 refine g_skip rfl rfl rfl ?_
   refine g_pF rfl rfl rfl (g_aS rfl rfl (g_end (ds := [31, 32]) rfl rfl (hK36 _ ?_))); clear hK36 K36;refine seq_norm (hK22 _ ?_); clear hK22 K22;refine pwp_cond (t := false) rfl nofun (fun _ => ?_);refine pwp_seq_gops rfl fun K50 hK50 => g_begin (g_mS rfl rfl (g_e rfl (e_gt rfl rfl) (g_mS rfl rfl ?_)));refine g_cases (fun hb51 => ?_) (fun hb51 => ?_)
   ·have hb51R := hb51; try simp only [zz] at hb51
    refine g_mS rfl rfl (g_e rfl (e_eq rfl rfl) (g_mS rfl rfl ?_));refine g_cases (fun hb52 => ?_) (fun hb52 => ?_)
    ·have hb52R := hb52; try simp only [zz] at hb52
     iterate 6 refine g_skip rfl rfl rfl ?_
     refine g_pT rfl rfl rfl (g_pT rfl rfl rfl (g_aS rfl rfl (g_end (ds := [38, 39, 40, 41, 42, 43, 44, 45, 46, 47]) rfl rfl (hK50 _ ?_)))); clear hK50 K50;refine pwp_cond (t := true) rfl (fun _ => ?_) nofun;refine pwp_skip (block_norm (block_norm (seq_norm (hK18 _ ?_)))); clear hK18 K18;refine pwp_plain rfl fun K53 hK53 => p_e rfl (e_add rfl rfl (by omega)) (p_mS rfl (p_end (hK53 _ ?_))); clear hK53 K53;exact loop_again (k + 1) (by show _ < _; omega) ⟨rfl, rfl, trivial⟩ ⟨rfl, trivial⟩ (by exact ⟨by show _ + 1 ≤ _; omega, by exact chOk_succ hc (by rw [hbx]; unfold chOk; omega)⟩)
    have hb52R := hb52; try simp only [zz] at hb52
    refine g_mS rfl rfl (g_e rfl (e_ge rfl rfl) (g_mS rfl rfl ?_));refine g_cases (fun hb54 => ?_) (fun hb54 => ?_)
    ·have hb54R := hb54; try simp only [zz] at hb54
     refine g_mS rfl rfl (g_e rfl (e_le rfl rfl) (g_pT rfl rfl rfl (g_pF rfl rfl rfl (g_pT rfl rfl rfl (g_aS rfl rfl (g_end (ds := [38, 39, 40, 41, 42, 43, 44, 45, 46, 47]) rfl rfl (hK50 _ ?_))))))); clear hK50 K50;refine pwp_cond rfl (fun hb55 => ?_) (fun hb55 => ?_)
     ·have hb55R := hb55; try simp only [zz] at hb55
      refine pwp_skip (block_norm (block_norm (seq_norm (hK18 _ ?_)))); clear hK18 K18;refine pwp_plain rfl fun K56 hK56 => p_e rfl (e_add rfl rfl (by omega)) (p_mS rfl (p_end (hK56 _ ?_))); clear hK56 K56;exact loop_again (k + 1) (by show _ < _; omega) ⟨rfl, rfl, trivial⟩ ⟨rfl, trivial⟩ (by exact ⟨by show _ + 1 ≤ _; omega, by exact chOk_succ hc (by rw [hbx]; unfold chOk; omega)⟩)
     have hb55R := hb55; try simp only [zz] at hb55
     refine pwp_seq_plain rfl fun K57 hK57 => p_aS rfl (p_end (hK57 _ ?_)); clear hK57 K57;refine pwp_ret (ret_block (ret_block (ret_seq (ret_loop (ret_block (ret_seq (end1 (v := .sc _) rfl ?_)))))));exact out_b (isNm_len (by omega))
    have hb54R := hb54; try simp only [zz] at hb54
    iterate 2 refine g_skip rfl rfl rfl ?_
    refine g_pF rfl rfl rfl (g_pF rfl rfl rfl (g_pT rfl rfl rfl (g_aS rfl rfl (g_end (ds := [38, 39, 40, 41, 42, 43, 44, 45, 46, 47]) rfl rfl (hK50 _ ?_))))); clear hK50 K50;refine pwp_cond (t := false) rfl nofun (fun _ => ?_);refine pwp_seq_plain rfl fun K58 hK58 => p_aS rfl (p_end (hK58 _ ?_)); clear hK58 K58;refine pwp_ret (ret_block (ret_block (ret_seq (ret_loop (ret_block (ret_seq (end1 (v := .sc _) rfl ?_)))))));exact out_b (isNm_len (by omega))
   have hb51R := hb51; try simp only [zz] at hb51
   iterate 10 refine g_skip rfl rfl rfl ?_
   refine g_pF rfl rfl rfl (g_aS rfl rfl (g_end (ds := [38, 39, 40, 41, 42, 43, 44, 45, 46, 47]) rfl rfl (hK50 _ ?_))); clear hK50 K50;refine pwp_cond (t := false) rfl nofun (fun _ => ?_);refine pwp_seq_plain rfl fun K59 hK59 => p_aS rfl (p_end (hK59 _ ?_)); clear hK59 K59;refine pwp_ret (ret_block (ret_block (ret_seq (ret_loop (ret_block (ret_seq (end1 (v := .sc _) rfl ?_)))))));exact out_b (isNm_len (by omega))
  have hb21R := hb21; try simp only [zz] at hb21
  iterate 2 refine g_skip rfl rfl rfl ?_
  refine g_pF rfl rfl rfl (g_aS rfl rfl (g_end (ds := [25, 26]) rfl rfl (hK20 _ ?_))); clear hK20 K20;refine pwp_seq_cond (t := false) rfl fun K60 hK60 => ⟨nofun, fun _ => ?_⟩
  refine pwp_gops rfl fun K61 hK61 => g_begin (g_mS rfl rfl (g_e rfl (e_ge rfl rfl) (g_mS rfl rfl ?_)));refine g_cases (fun hb62 => ?_) (fun hb62 => ?_)
  ·have hb62R := hb62; try simp only [zz] at hb62
   refine g_mS rfl rfl (g_e rfl (e_le rfl rfl) (g_pT rfl rfl rfl (g_aS rfl rfl (g_end (ds := [31, 32]) rfl rfl (hK61 _ ?_))))); clear hK61 K61;refine seq_norm (hK60 _ ?_); clear hK60 K60;refine pwp_cond rfl (fun hb63 => ?_) (fun hb63 => ?_)
   ·have hb63R := hb63; try simp only [zz] at hb63
    refine pwp_skip (block_norm (block_norm (seq_norm (hK18 _ ?_)))); clear hK18 K18;refine pwp_plain rfl fun K64 hK64 => p_e rfl (e_add rfl rfl (by omega)) (p_mS rfl (p_end (hK64 _ ?_))); clear hK64 K64;exact loop_again (k + 1) (by show _ < _; omega) ⟨rfl, rfl, trivial⟩ ⟨rfl, trivial⟩ (by exact ⟨by show _ + 1 ≤ _; omega, by exact chOk_succ hc (by rw [hbx]; unfold chOk; omega)⟩)
   have hb63R := hb63; try simp only [zz] at hb63
   refine pwp_seq_gops rfl fun K65 hK65 => g_begin (g_mS rfl rfl (g_e rfl (e_gt rfl rfl) (g_mS rfl rfl ?_)));refine g_cases (fun hb66 => ?_) (fun hb66 => ?_)
   ·have hb66R := hb66; try simp only [zz] at hb66
    refine g_mS rfl rfl (g_e rfl (e_eq rfl rfl) (g_mS rfl rfl ?_));refine g_cases (fun hb67 => ?_) (fun hb67 => ?_)
    ·have hb67R := hb67; try simp only [zz] at hb67
     iterate 6 refine g_skip rfl rfl rfl ?_
     refine g_pT rfl rfl rfl (g_pT rfl rfl rfl (g_aS rfl rfl (g_end (ds := [38, 39, 40, 41, 42, 43, 44, 45, 46, 47]) rfl rfl (hK65 _ ?_)))); clear hK65 K65;refine pwp_cond (t := true) rfl (fun _ => ?_) nofun;refine pwp_skip (block_norm (block_norm (seq_norm (hK18 _ ?_)))); clear hK18 K18;refine pwp_plain rfl fun K68 hK68 => p_e rfl (e_add rfl rfl (by omega)) (p_mS rfl (p_end (hK68 _ ?_))); clear hK68 K68;exact loop_again (k + 1) (by show _ < _; omega) ⟨rfl, rfl, trivial⟩ ⟨rfl, trivial⟩ (by exact ⟨by show _ + 1 ≤ _; omega, by exact chOk_succ hc (by rw [hbx]; unfold chOk; omega)⟩)
    have hb67R := hb67; try simp only [zz] at hb67
    refine g_mS rfl rfl (g_e rfl (e_ge rfl rfl) (g_mS rfl rfl ?_));refine g_cases (fun hb69 => ?_) (fun hb69 => ?_)
    ·have hb69R := hb69; try simp only [zz] at hb69
     refine g_mS rfl rfl (g_e rfl (e_le rfl rfl) (g_pT rfl rfl rfl (g_pF rfl rfl rfl (g_pT rfl rfl rfl (g_aS rfl rfl (g_end (ds := [38, 39, 40, 41, 42, 43, 44, 45, 46, 47]) rfl rfl (hK65 _ ?_))))))); clear hK65 K65;refine pwp_cond rfl (fun hb70 => ?_) (fun hb70 => ?_)
     ·have hb70R := hb70; try simp only [zz] at hb70
      refine pwp_skip (block_norm (block_norm (seq_norm (hK18 _ ?_)))); clear hK18 K18;refine pwp_plain rfl fun K71 hK71 => p_e rfl (e_add rfl rfl (by omega)) (p_mS rfl (p_end (hK71 _ ?_))); clear hK71 K71;exact loop_again (k + 1) (by show _ < _; omega) ⟨rfl, rfl, trivial⟩ ⟨rfl, trivial⟩ (by exact ⟨by show _ + 1 ≤ _; omega, by exact chOk_succ hc (by rw [hbx]; unfold chOk; omega)⟩)
     have hb70R := hb70; try simp only [zz] at hb70
     refine pwp_seq_plain rfl fun K72 hK72 => p_aS rfl (p_end (hK72 _ ?_)); clear hK72 K72;refine pwp_ret (ret_block (ret_block (ret_seq (ret_loop (ret_block (ret_seq (end1 (v := .sc _) rfl ?_)))))));exact out_b (isNm_bad hlt (by rw [hbx]; unfold chOk; omega))
    have hb69R := hb69; try simp only [zz] at hb69
    iterate 2 refine g_skip rfl rfl rfl ?_
    refine g_pF rfl rfl rfl (g_pF rfl rfl rfl (g_pT rfl rfl rfl (g_aS rfl rfl (g_end (ds := [38, 39, 40, 41, 42, 43, 44, 45, 46, 47]) rfl rfl (hK65 _ ?_))))); clear hK65 K65;refine pwp_cond (t := false) rfl nofun (fun _ => ?_);refine pwp_seq_plain rfl fun K73 hK73 => p_aS rfl (p_end (hK73 _ ?_)); clear hK73 K73;refine pwp_ret (ret_block (ret_block (ret_seq (ret_loop (ret_block (ret_seq (end1 (v := .sc _) rfl ?_)))))));exact out_b (isNm_len (by omega))
   have hb66R := hb66; try simp only [zz] at hb66
   iterate 10 refine g_skip rfl rfl rfl ?_
   refine g_pF rfl rfl rfl (g_aS rfl rfl (g_end (ds := [38, 39, 40, 41, 42, 43, 44, 45, 46, 47]) rfl rfl (hK65 _ ?_))); clear hK65 K65;refine pwp_cond (t := false) rfl nofun (fun _ => ?_);refine pwp_seq_plain rfl fun K74 hK74 => p_aS rfl (p_end (hK74 _ ?_)); clear hK74 K74;refine pwp_ret (ret_block (ret_block (ret_seq (ret_loop (ret_block (ret_seq (end1 (v := .sc _) rfl ?_)))))));exact out_b (isNm_bad hlt (by rw [hbx]; unfold chOk; omega))
  have hb62R := hb62; try simp only [zz] at hb62
  iterate 2 refine g_skip rfl rfl rfl ?_
  refine g_pF rfl rfl rfl (g_aS rfl rfl (g_end (ds := [31, 32]) rfl rfl (hK61 _ ?_))); clear hK61 K61;refine seq_norm (hK60 _ ?_); clear hK60 K60;refine pwp_cond (t := false) rfl nofun (fun _ => ?_);refine pwp_seq_gops rfl fun K75 hK75 => g_begin (g_mS rfl rfl (g_e rfl (e_gt rfl rfl) (g_mS rfl rfl ?_)));refine g_cases (fun hb76 => ?_) (fun hb76 => ?_)
  ·have hb76R := hb76; try simp only [zz] at hb76
   refine g_mS rfl rfl (g_e rfl (e_eq rfl rfl) (g_mS rfl rfl ?_));refine g_cases (fun hb77 => ?_) (fun hb77 => ?_)
   ·have hb77R := hb77; try simp only [zz] at hb77
    iterate 6 refine g_skip rfl rfl rfl ?_
    refine g_pT rfl rfl rfl (g_pT rfl rfl rfl (g_aS rfl rfl (g_end (ds := [38, 39, 40, 41, 42, 43, 44, 45, 46, 47]) rfl rfl (hK75 _ ?_)))); clear hK75 K75;refine pwp_cond (t := true) rfl (fun _ => ?_) nofun;refine pwp_skip (block_norm (block_norm (seq_norm (hK18 _ ?_)))); clear hK18 K18;refine pwp_plain rfl fun K78 hK78 => p_e rfl (e_add rfl rfl (by omega)) (p_mS rfl (p_end (hK78 _ ?_))); clear hK78 K78;exact loop_again (k + 1) (by show _ < _; omega) ⟨rfl, rfl, trivial⟩ ⟨rfl, trivial⟩ (by exact ⟨by show _ + 1 ≤ _; omega, by exact chOk_succ hc (by rw [hbx]; unfold chOk; omega)⟩)
   have hb77R := hb77; try simp only [zz] at hb77
   refine g_mS rfl rfl (g_e rfl (e_ge rfl rfl) (g_mS rfl rfl ?_));refine g_cases (fun hb79 => ?_) (fun hb79 => ?_)
   ·have hb79R := hb79; try simp only [zz] at hb79
    refine g_mS rfl rfl (g_e rfl (e_le rfl rfl) (g_pT rfl rfl rfl (g_pF rfl rfl rfl (g_pT rfl rfl rfl (g_aS rfl rfl (g_end (ds := [38, 39, 40, 41, 42, 43, 44, 45, 46, 47]) rfl rfl (hK75 _ ?_))))))); clear hK75 K75;refine pwp_cond rfl (fun hb80 => ?_) (fun hb80 => ?_)
    ·have hb80R := hb80; try simp only [zz] at hb80
     refine pwp_skip (block_norm (block_norm (seq_norm (hK18 _ ?_)))); clear hK18 K18;refine pwp_plain rfl fun K81 hK81 => p_e rfl (e_add rfl rfl (by omega)) (p_mS rfl (p_end (hK81 _ ?_))); clear hK81 K81;exact loop_again (k + 1) (by show _ < _; omega) ⟨rfl, rfl, trivial⟩ ⟨rfl, trivial⟩ (by exact ⟨by show _ + 1 ≤ _; omega, by exact chOk_succ hc (by rw [hbx]; unfold chOk; omega)⟩)
    have hb80R := hb80; try simp only [zz] at hb80
    refine pwp_seq_plain rfl fun K82 hK82 => p_aS rfl (p_end (hK82 _ ?_)); clear hK82 K82;refine pwp_ret (ret_block (ret_block (ret_seq (ret_loop (ret_block (ret_seq (end1 (v := .sc _) rfl ?_)))))));exact out_b (isNm_bad hlt (by rw [hbx]; unfold chOk; omega))
   have hb79R := hb79; try simp only [zz] at hb79
   iterate 2 refine g_skip rfl rfl rfl ?_
   refine g_pF rfl rfl rfl (g_pF rfl rfl rfl (g_pT rfl rfl rfl (g_aS rfl rfl (g_end (ds := [38, 39, 40, 41, 42, 43, 44, 45, 46, 47]) rfl rfl (hK75 _ ?_))))); clear hK75 K75;refine pwp_cond (t := false) rfl nofun (fun _ => ?_);refine pwp_seq_plain rfl fun K83 hK83 => p_aS rfl (p_end (hK83 _ ?_)); clear hK83 K83;refine pwp_ret (ret_block (ret_block (ret_seq (ret_loop (ret_block (ret_seq (end1 (v := .sc _) rfl ?_)))))));exact out_b (isNm_bad hlt (by rw [hbx]; unfold chOk; omega))
  have hb76R := hb76; try simp only [zz] at hb76
  iterate 10 refine g_skip rfl rfl rfl ?_
  refine g_pF rfl rfl rfl (g_aS rfl rfl (g_end (ds := [38, 39, 40, 41, 42, 43, 44, 45, 46, 47]) rfl rfl (hK75 _ ?_))); clear hK75 K75;refine pwp_cond (t := false) rfl nofun (fun _ => ?_);refine pwp_seq_plain rfl fun K84 hK84 => p_aS rfl (p_end (hK84 _ ?_)); clear hK84 K84;refine pwp_ret (ret_block (ret_block (ret_seq (ret_loop (ret_block (ret_seq (end1 (v := .sc _) rfl ?_)))))));exact out_b (isNm_bad hlt (by rw [hbx]; unfold chOk; omega))
 have hb17R := hb17; try simp only [zz] at hb17
 refine pwp_exit (exit_seq ?_);clear hK16 K16;refine exit_loop (exit_here (seq_norm (hK10 _ ?_))); clear hK10 K10;refine pwp_seq_plain rfl fun K85 hK85 => p_aS rfl (p_end (hK85 _ ?_)); clear hK85 K85;refine pwp_ret (end1 (v := .sc _) rfl ?_);exact out_b (isNm_ok (by omega) (by omega) hc)
theorem at0_prev {l : List Int} {k : Nat} (h : 0 < k) (h2 : k < l.length) : l[((k : Int) - 1).toNat]? = some (at0 l (k - 1)) := by
 rw [show ((k : Int) - 1).toNat = k - 1 by omega]; exact at0_get (by omega)
def ascB (l : List Int) : Bool := decide (∀ i, i < l.length → 0 < i → at0 l (i - 1) < at0 l i)
theorem asc_step {l : List Int} {k : Nat} (h : ∀ i, 0 < i → i < k → at0 l (i - 1) < at0 l i) (h2 : 0 < k → at0 l (k - 1) < at0 l k) : ∀ i, 0 < i → i < k + 1 → at0 l (i - 1) < at0 l i := fun i h3 h4 => by
 by_cases e : i = k
 · subst e; exact h2 h3
 · exact h i h3 (by omega)
theorem asc_no {l : List Int} {k : Nat} (h1 : 0 < k) (h2 : k < l.length) (h3 : at0 l k ≤ at0 l (k - 1)) : false = ascB l := by
 symm; simp only [ascB, decide_eq_false_iff_not];exact fun h => absurd (h k h2 h1) (by omega)
theorem asc_yes {l : List Int} {k : Nat} (h : ∀ i, 0 < i → i < k → at0 l (i - 1) < at0 l i) (h2 : l.length ≤ k) : true = ascB l := by
 symm; simp only [ascB, decide_eq_true_eq];exact fun i h3 h4 => h i h4 (by omega)
theorem fr112 : (inFrame Tryz.f112.ntmps (Tryz.f112.body.getD .skip) && Tryz.f112.results.toList.all (resScope Tryz.f112.ntmps)) = true := by kernel_rfl
theorem rising (l : List Int) (hl : l.length ≤ 1000000) : PCalls Tryz.prog 112 [.lit true 1 (l.map ci)] (.bool (ascB l)) := by
 refine PCalls.of_code Tryz.func112 rfl rfl (by kernel_rfl) mixed fr112 (by show _ ≤ 24; simp) (.sc _) (pwp_seq_plain rfl fun K1 hK1 => p_aS rfl (p_end (hK1 _ ?_))); clear hK1 K1;refine pwp_seq_seq (pwp_seq_plain rfl fun K2 hK2 => p_e rfl (e_move (v := .lit _ _ _) rfl) (p_e rfl (e_len rfl (by kernel_rfl)) (p_mS rfl (p_end (hK2 _ ?_))))); clear hK2 K2;refine pwp_seq_block fun K3 hK3 => pwp_loopR (α := Nat) [0, 5] (fun (k : Nat) => [(6, .int (k))]) (fun (k : Nat) (h : Heap) (_ : Nat → Nat) => ((k) ≤ l.length) ∧ (∀ i, 0 < i → i < (k) → at0 l (i - 1) < at0 l i)) (fun (k : Nat) => l.length - (k)) (0) (by exact ⟨rfl, trivial⟩) (by exact ⟨by exact Nat.zero_le _, by exact fun i h1 h2 => absurd h2 (by omega)⟩) fun k r4 h5 c6 hj7 => ?_;obtain ⟨hk, hinv⟩ := hj7;try dsimp only at hk
 try dsimp only at hinv
 show pwp _ _ (loopQ _ _ _) ⟨sets (mix _ _ _) [(6, .int k)], _, _⟩;refine pwp_seq_plain rfl fun K8 hK8 => p_e rfl (e_lt rfl rfl) (p_end (hK8 _ ?_)); clear hK8 K8;refine pwp_seq_cond rfl fun K9 hK9 => ⟨fun hb10 => ?_, fun hb10 => ?_⟩
 ·have hb10R := hb10; try simp only [zz] at hb10
  refine pwp_skip (seq_norm (hK9 _ ?_)); clear hK9 K9;refine pwp_seq_block fun K11 hK11 => pwp_seq_plain rfl fun K12 hK12 => p_mS rfl (p_aS rfl (p_end (hK12 _ ?_))); clear hK12 K12;refine pwp_seq_cutG [0, 5, 6] [(22, .bool ((decide ((0) < (k : Int))) && (decide (at0 l k ≤ at0 l (k - 1)))))] (fun K13 hK13 => ?_) (fun r14 => ?_)
  ·skip
   refine pwp_gops rfl fun K15 hK15 => g_begin (g_mS rfl rfl (g_e rfl (e_gt rfl rfl) (g_mS rfl rfl ?_)));refine g_cases (fun hb16 => ?_) (fun hb16 => ?_)
   ·have hb16R := hb16; try simp only [zz] at hb16
    refine g_e rfl (e_move (v := .lit _ _ _) rfl) (g_mS rfl rfl (g_e rfl (e_sub rfl rfl (by omega)) (g_e rfl (e_ixL rfl rfl) (g_e rfl (e_lL (v := .sc _) rfl ((cell_map (at0_prev (l := l) (k := k) (by omega) (by omega)) _).trans rfl)) (g_e rfl (e_move (v := .lit _ _ _) rfl) (g_mS rfl rfl (g_e rfl (e_ixL rfl rfl) ?_)))))));refine g_e rfl (e_lL (v := .sc _) rfl ((cell_map (at0_get (l := l) (i := k) (by omega)) _).trans rfl)) (g_e rfl (e_ge rfl rfl) (g_pT rfl rfl rfl (g_end (ds := [12, 13, 14, 15, 16, 17, 18, 19, 20, 21]) (by kernel_rfl) rfl (hK15 _ ?_)))); clear hK15 K15;exact seq_norm (hK13 _ ⟨rfl, rfl, rfl, trivial⟩ ⟨(congrArg PV.bool (show ((decide (at0 l k ≤ at0 l (k - 1))) : Bool) = ((decide ((0) < (k : Int))) && (decide (at0 l k ≤ at0 l (k - 1)))) by first | rfl | ((try rw [hb16R]) <;> (first | rfl | (simp only [Bool.and_true, Bool.and_false, Bool.true_and, Bool.false_and, Bool.or_true, Bool.or_false, Bool.true_or, Bool.false_or, Bool.not_true, Bool.not_false, if_true, if_false, Bool.false_eq_true, reduceIte] <;> rfl))) | (simp only [hb16R, Bool.and_true, Bool.and_false, Bool.true_and, Bool.false_and, Bool.or_true, Bool.or_false, Bool.true_or, Bool.false_or, Bool.not_true, Bool.not_false, if_true, if_false, Bool.false_eq_true, reduceIte] <;> rfl))), trivial⟩)
   have hb16R := hb16; try simp only [zz] at hb16
   iterate 10 refine g_skip rfl rfl rfl ?_
   refine g_pF rfl rfl rfl (g_end (ds := [12, 13, 14, 15, 16, 17, 18, 19, 20, 21]) (by kernel_rfl) rfl (hK15 _ ?_)); clear hK15 K15;exact seq_norm (hK13 _ ⟨rfl, rfl, rfl, trivial⟩ ⟨(congrArg PV.bool (show (false : Bool) = ((decide ((0) < (k : Int))) && (decide (at0 l k ≤ at0 l (k - 1)))) by first | rfl | ((try rw [hb16R]) <;> (first | rfl | (simp only [Bool.and_true, Bool.and_false, Bool.true_and, Bool.false_and, Bool.or_true, Bool.or_false, Bool.true_or, Bool.false_or, Bool.not_true, Bool.not_false, if_true, if_false, Bool.false_eq_true, reduceIte] <;> rfl))) | (simp only [hb16R, Bool.and_true, Bool.and_false, Bool.true_and, Bool.false_and, Bool.or_true, Bool.or_false, Bool.true_or, Bool.false_or, Bool.not_true, Bool.not_false, if_true, if_false, Bool.false_eq_true, reduceIte] <;> rfl))), trivial⟩)
  refine pwp_cond rfl (fun hb17 => ?_) (fun hb17 => ?_)
  ·have hb17R := hb17; try simp only [zz] at hb17
   refine pwp_seq_plain rfl fun K18 hK18 => p_aS rfl (p_end (hK18 _ ?_)); clear hK18 K18;refine pwp_ret (ret_block (ret_seq (ret_loop (ret_block (ret_seq (end1 (v := .sc _) rfl ?_))))));exact out_b (asc_no (k := k) (by omega) (by omega) (by omega))
  have hb17R := hb17; try simp only [zz] at hb17
  refine pwp_skip (block_norm (seq_norm (hK11 _ ?_))); clear hK11 K11;refine pwp_plain rfl fun K19 hK19 => p_e rfl (e_add rfl rfl (by omega)) (p_mS rfl (p_end (hK19 _ ?_))); clear hK19 K19;exact loop_again (k + 1) (by show _ < _; omega) ⟨rfl, rfl, trivial⟩ ⟨rfl, trivial⟩ (by exact ⟨by first | (show _ + 1 ≤ _; omega) | (show _ ≤ _ + 1; omega), by exact asc_step hinv (by omega)⟩)
 have hb10R := hb10; try simp only [zz] at hb10
 refine pwp_exit (exit_seq ?_);clear hK9 K9;refine exit_loop (exit_here (seq_norm (hK3 _ ?_))); clear hK3 K3;refine pwp_seq_plain rfl fun K20 hK20 => p_aS rfl (p_end (hK20 _ ?_)); clear hK20 K20;refine pwp_ret (end1 (v := .sc _) rfl ?_);exact out_b (asc_yes hinv (by omega))
theorem fr81 : (inFrame Tryz.f81.ntmps (Tryz.f81.body.getD .skip) && Tryz.f81.results.toList.all (resScope Tryz.f81.ntmps)) = true := by kernel_rfl
theorem ascends (l : List Int) (hl : l.length ≤ 1000000) : PCalls Tryz.prog 81 [.lit true 1 (l.map ci)] (.bool (ascB l)) := by
 refine PCalls.of_code Tryz.func81 rfl rfl (by kernel_rfl) mixed fr81 (by show _ ≤ 20; simp) (.sc _) (pwp_seq_plain rfl fun K1 hK1 => p_aS rfl (p_end (hK1 _ ?_))); clear hK1 K1;refine pwp_seq_seq (pwp_seq_plain rfl fun K2 hK2 => p_aS rfl (p_end (hK2 _ ?_))); clear hK2 K2;refine pwp_seq_block fun K3 hK3 => pwp_loopR (α := Nat) [0] (fun (k : Nat) => [(3, .int (k))]) (fun (k : Nat) (h : Heap) (_ : Nat → Nat) => (1 ≤ (k)) ∧ (∀ i, 0 < i → i < (k) → at0 l (i - 1) < at0 l i)) (fun (k : Nat) => l.length - (k)) (1) (by exact ⟨rfl, trivial⟩) (by exact ⟨by exact Nat.le_refl _, by exact fun i h1 h2 => absurd h2 (by omega)⟩) fun k r4 h5 c6 hj7 => ?_;obtain ⟨hk, hinv⟩ := hj7;try dsimp only at hk
 try dsimp only at hinv
 show pwp _ _ (loopQ _ _ _) ⟨sets (mix _ _ _) [(3, .int k)], _, _⟩;refine pwp_seq_seq (pwp_seq_plain rfl fun K8 hK8 => p_mS rfl (p_e rfl (e_move (v := .lit _ _ _) rfl) (p_e rfl (e_len rfl (by kernel_rfl)) (p_e rfl (e_lt rfl rfl) (p_end (hK8 _ ?_)))))); clear hK8 K8;refine pwp_seq_cond rfl fun K9 hK9 => ⟨fun hb10 => ?_, fun hb10 => ?_⟩
 ·have hb10R := hb10; try simp only [zz] at hb10
  refine pwp_skip (seq_norm (hK9 _ ?_)); clear hK9 K9;refine pwp_seq_block fun K11 hK11 => pwp_seq_gops rfl fun K12 hK12 => g_begin (g_e rfl (e_move (v := .lit _ _ _) rfl) (g_mS rfl rfl (g_e rfl (e_ixL rfl rfl) (g_e rfl (e_lL (v := .sc _) rfl ((cell_map (at0_get (l := l) (i := k) (by omega)) _).trans rfl)) (g_e rfl (e_move (v := .lit _ _ _) rfl) ?_)))));refine g_mS rfl rfl (g_e rfl (e_sub rfl rfl (by omega)) (g_e rfl (e_ixL rfl rfl) (g_e rfl (e_lL (v := .sc _) rfl ((cell_map (at0_prev (l := l) (k := k) (by omega) (by omega)) _).trans rfl)) (g_e rfl (e_le rfl rfl) (g_end (ds := []) (by kernel_rfl) rfl (hK12 _ ?_)))))); clear hK12 K12;refine pwp_cond rfl (fun hb13 => ?_) (fun hb13 => ?_)
  ·have hb13R := hb13; try simp only [zz] at hb13
   refine pwp_seq_plain rfl fun K14 hK14 => p_aS rfl (p_end (hK14 _ ?_)); clear hK14 K14;refine pwp_ret (ret_block (ret_seq (ret_loop (ret_block (ret_seq (end1 (v := .sc _) rfl ?_))))));exact out_b (asc_no (k := k) (by omega) (by omega) (by assumption))
  have hb13R := hb13; try simp only [zz] at hb13
  refine pwp_skip (block_norm (seq_norm (hK11 _ ?_))); clear hK11 K11;refine pwp_plain rfl fun K15 hK15 => p_mS rfl (p_e rfl (e_add rfl rfl (by omega)) (p_aS rfl (p_end (hK15 _ ?_)))); clear hK15 K15;exact loop_again (k + 1) (by show _ < _; omega) ⟨rfl, trivial⟩ ⟨rfl, trivial⟩ (by exact ⟨by first | (show _ + 1 ≤ _; omega) | (show _ ≤ _ + 1; omega), by exact asc_step hinv (by omega)⟩)
 have hb10R := hb10; try simp only [zz] at hb10
 refine pwp_exit (exit_seq ?_);clear hK9 K9;refine exit_loop (exit_here (seq_norm (hK3 _ ?_))); clear hK3 K3;refine pwp_seq_plain rfl fun K16 hK16 => p_aS rfl (p_end (hK16 _ ?_)); clear hK16 K16;refine pwp_ret (end1 (v := .sc _) rfl ?_);exact out_b (asc_yes hinv (by omega))
end Go.Proofs.YtmlhhdiomijpfaaGreatDoor.E7
