import Derived.Test.YtjihcgcbnbaclaaGreatDoorEData
import Derived.Test.YtjihcgcbnbaclaaGreatDoorPvGh
set_option linter.unusedSimpArgs false
set_option linter.unusedVariables false
set_option maxRecDepth 100000
namespace Go.Proofs.YtjihcgcbnbaclaaGreatDoor.Y8
open Go Go.Pv Go.Proofs.YtjihcgcbnbaclaaGreatDoor
theorem z1 {p : Prop} [Decidable p] : (decide p = true) = p := decide_eq_true_eq
theorem z2 {p : Prop} [Decidable p] : decide p = false ↔ ¬ p := decide_eq_false_iff_not
theorem z3 (b : Bool) : ((!b) = true) = (b = false) := Bool.not_eq_true' b
theorem z4 (b : Bool) : ((!b) = false) = (b = true) := Bool.not_eq_false' b
theorem z5 {a b : Int} : ¬ a < b ↔ b ≤ a := Int.not_lt
theorem z6 {a b : Int} : ¬ a ≤ b ↔ b < a := Int.not_le
theorem z7 {p : Prop} [Decidable p] : ¬ ¬ p ↔ p := Decidable.not_not
theorem z8 {α β : Type _} {l : List α} {f : α → β} : (l.map f).length = l.length := lM f
theorem z9 (a b : Bool) : ((a || b) = true) = (a = true ∨ b = true) := Bool.or_eq_true a b
theorem z10 (a b : Bool) : ((a && b) = true) = (a = true ∧ b = true) := Bool.and_eq_true a b
theorem z11 {a b : Bool} : (a || b) = false ↔ a = false ∧ b = false := Bool.or_eq_false_iff
theorem z12 {a b : Bool} : (a && b) = false ↔ a = false ∨ b = false := Bool.and_eq_false_iff
def cu (b : UInt8) : List PV := [.sc (.int .u8 b.toNat)]
def orU (a b : Int) : Int := bits .or .u8 a b
theorem e_convB {P : Program} {ρ : Operand → PV} {h : Heap} {key : Key} {x : Operand} {t t' : TypeId} {s : ByteArray} (hx : ρ x = .str s) (h1 : isStringTy P t' = false) (h2 : (sliceOk P t' && (intKind P (elemTy P t') == some .u8)) = true) (h3 : isStringTy P t = true) :
   eff P ρ h key (.convert t t' x) = ⟨True, .lit false 1 (s.data.toList.map cu), [], [], false⟩ := by
 simp only [eff, hx, convEff, h1, h2, h3]; rfl
theorem e_orB {P : Program} {ρ : Operand → PV} {h : Heap} {key : Key} {x y : Operand} {t t' : TypeId} {a b : Int} (hx : ρ x = .sc (.int .u8 a)) (hy : ρ y = .sc (.int .u8 b)) :
   eff P ρ h key (.binOp .or t x y t') = ⟨True, .sc (.int .u8 (orU a b)), [], [], false⟩ := by
 simp only [eff, hx, hy, binEffN, binEff, intBin, orU]; simp
theorem orU_letter (b : UInt8) : (97 ≤ orU b.toNat 32 ∧ orU b.toNat 32 ≤ 122) ↔ ((97 ≤ (b.toNat : Int) ∧ (b.toNat : Int) ≤ 122) ∨ (65 ≤ (b.toNat : Int) ∧ (b.toNat : Int) ≤ 90)) := by
 have h : ∀ n : Nat, n < 256 → ((97 ≤ orU n 32 ∧ orU n 32 ≤ 122) ↔ ((97 ≤ (n : Int) ∧ (n : Int) ≤ 122) ∨ (65 ≤ (n : Int) ∧ (n : Int) ≤ 90))) := by decide +kernel
 exact h _ b.toNat_lt
theorem byteAt_eq {s : ByteArray} {k : Nat} {x : UInt8} (hx : s.data.toList[k]? = some x) : byteAt s k = (x.toNat : Int) := by
 simp only [byteAt, List.getD_eq_getElem?_getD, hx, Option.getD_some]
theorem data_len (s : ByteArray) : s.data.toList.length = s.size := Array.length_toList
theorem ne_empty {s : ByteArray} : s ≠ (⟨#[]⟩ : ByteArray) ↔ 1 ≤ s.size := by
 constructor
 · intro h;refine Nat.one_le_iff_ne_zero.2 fun hz => h ?_;obtain ⟨d⟩ := s;obtain ⟨l⟩ := d;cases l with
   | nil => rfl
   | cons b l => simp [ByteArray.size] at hz
 · rintro h rfl; exact absurd h (by decide)
def chOk (i : Nat) (c : Int) : Prop := (97 ≤ c ∧ c ≤ 122) ∨ (65 ≤ c ∧ c ≤ 90) ∨ (i ≠ 0 ∧ (c = 45 ∨ (48 ≤ c ∧ c ≤ 57)))
instance (i : Nat) (c : Int) : Decidable (chOk i c) := inferInstanceAs (Decidable (_ ∨ _))
def isNm (s : ByteArray) : Bool := decide (1 ≤ s.size ∧ s.size ≤ 12 ∧ ∀ i, i < s.size → chOk i (byteAt s i))
theorem isNm_len {s : ByteArray} (h : s.size < 1 ∨ 12 < s.size) : false = isNm s := by
 symm; simp only [isNm, decide_eq_false_iff_not]; omega
theorem isNm_bad {s : ByteArray} {k : Nat} (hk : k < s.size) (h : ¬ chOk k (byteAt s k)) : false = isNm s := by
 symm; simp only [isNm, decide_eq_false_iff_not];exact fun hn => h (hn.2.2 k hk)
theorem isNm_end {s : ByteArray} {k : Nat} (hk : k = s.size) (h : ∀ i, i < k → chOk i (byteAt s i)) : (decide (s ≠ (⟨#[]⟩ : ByteArray)) && decide ((s.size : Int) ≤ 12)) = isNm s := by
 subst hk;rw [Bool.eq_iff_iff];simp only [isNm, Bool.and_eq_true, decide_eq_true_eq, ne_empty];constructor
 · rintro ⟨h1, h2⟩; exact ⟨h1, by omega, h⟩
 · rintro ⟨h1, h2, _⟩; exact ⟨h1, by omega⟩
theorem chOk_succ {s : ByteArray} {k : Nat} (h : ∀ i, i < k → chOk i (byteAt s i)) (h2 : chOk k (byteAt s k)) : ∀ i, i < k + 1 → chOk i (byteAt s i) := fun i hi => by
 rcases Nat.lt_succ_iff_lt_or_eq.1 hi with h3 | rfl
 · exact h i h3
 · exact h2
theorem fr8 : (inFrame Tryz.f8.ntmps (Tryz.f8.body.getD .skip) && Tryz.f8.results.toList.all (resScope Tryz.f8.ntmps)) = true := by kernel_rfl
theorem Within (n lo hi : Int) : PCalls Tryz.prog 8 [.int n, .int lo, .int hi] (.bool (decide (lo ≤ n ∧ n ≤ hi))) := by
 refine PCalls.of_code Tryz.func8 rfl rfl (by kernel_rfl) mixed fr8 (by show _ ≤ 15; simp) (.sc _) (pwp_seq_plain rfl fun K1 hK1 => p_step rfl (e_assign (v := .sc _) rfl) trivial (p_end (hK1 _ ?_))); clear hK1 K1;refine pwp_seq_cutG [] [(6, .bool ((decide (lo ≤ n)) && (decide (n ≤ hi))))] (fun K2 hK2 => ?_) (fun r3 => ?_)
 ·skip
  refine pwp_gops rfl fun K4 hK4 => g_begin (g_step rfl rfl rfl rfl (e_move (v := .sc _) rfl) trivial (g_step rfl rfl rfl rfl (e_move (v := .sc _) rfl) trivial (g_step rfl rfl rfl rfl (e_ge rfl rfl) trivial (g_step rfl rfl rfl rfl (e_move (v := .sc _) rfl) trivial ?_))));refine g_cases (fun hb5 => ?_) (fun hb5 => ?_)
  ·have hb5R := hb5; try simp only [z1, z2, z3, z4, z5, z6, ne_eq, z7, z8, z9, z10, z11, z12] at hb5
   refine g_step rfl rfl rfl rfl (e_move (v := .sc _) rfl) trivial (g_step rfl rfl rfl rfl (e_move (v := .sc _) rfl) trivial (g_step rfl rfl rfl rfl (e_le rfl rfl) trivial (g_step rfl rfl rfl rfl (e_pickT (v := .sc _) rfl rfl) trivial (g_step rfl rfl rfl rfl (e_assign (v := .sc _) rfl) trivial (g_end (ds := [11, 12, 13]) rfl rfl (hK4 _ ?_)))))); clear hK4 K4;exact seq_norm (hK2 _ trivial ⟨(congrArg PV.bool (show ((decide (n ≤ hi)) : Bool) = ((decide (lo ≤ n)) && (decide (n ≤ hi))) by rw [hb5R]; rfl)), trivial⟩)
  have hb5R := hb5; try simp only [z1, z2, z3, z4, z5, z6, ne_eq, z7, z8, z9, z10, z11, z12] at hb5
  refine g_skip rfl rfl rfl (g_skip rfl rfl rfl (g_skip rfl rfl rfl (g_step rfl rfl rfl rfl (e_pickF (v := .sc _) rfl rfl) trivial (g_step rfl rfl rfl rfl (e_assign (v := .sc _) rfl) trivial (g_end (ds := [11, 12, 13]) rfl rfl (hK4 _ ?_)))))); clear hK4 K4;exact seq_norm (hK2 _ trivial ⟨(congrArg PV.bool (show (false : Bool) = ((decide (lo ≤ n)) && (decide (n ≤ hi))) by rw [hb5R]; rfl)), trivial⟩)
 refine pwp_ret (end1 (v := .sc _) rfl ?_);exact out_b (by first | rfl | (rw [Bool.eq_iff_iff]; simp only [decide_eq_true_eq, Bool.false_eq_true, eq_self_iff_true, true_iff, false_iff, iff_true, iff_false, Bool.and_eq_true] <;> omega))
theorem fr45 : (inFrame Tryz.f45.ntmps (Tryz.f45.body.getD .skip) && Tryz.f45.results.toList.all (resScope Tryz.f45.ntmps)) = true := by kernel_rfl
theorem within (n lo hi : Int) : PCalls Tryz.prog 45 [.int n, .int lo, .int hi] (.bool (decide (lo ≤ n ∧ n ≤ hi))) := by
 refine PCalls.of_code Tryz.func45 rfl rfl (by kernel_rfl) mixed fr45 (by show _ ≤ 15; simp) (.sc _) (pwp_seq_plain rfl fun K1 hK1 => p_step rfl (e_assign (v := .sc _) rfl) trivial (p_end (hK1 _ ?_))); clear hK1 K1;refine pwp_seq_cutG [] [(6, .bool ((decide (lo ≤ n)) && (decide (n ≤ hi))))] (fun K2 hK2 => ?_) (fun r3 => ?_)
 ·skip
  refine pwp_gops rfl fun K4 hK4 => g_begin (g_step rfl rfl rfl rfl (e_move (v := .sc _) rfl) trivial (g_step rfl rfl rfl rfl (e_move (v := .sc _) rfl) trivial (g_step rfl rfl rfl rfl (e_ge rfl rfl) trivial (g_step rfl rfl rfl rfl (e_move (v := .sc _) rfl) trivial ?_))));refine g_cases (fun hb5 => ?_) (fun hb5 => ?_)
  ·have hb5R := hb5; try simp only [z1, z2, z3, z4, z5, z6, ne_eq, z7, z8, z9, z10, z11, z12] at hb5
   refine g_step rfl rfl rfl rfl (e_move (v := .sc _) rfl) trivial (g_step rfl rfl rfl rfl (e_move (v := .sc _) rfl) trivial (g_step rfl rfl rfl rfl (e_le rfl rfl) trivial (g_step rfl rfl rfl rfl (e_pickT (v := .sc _) rfl rfl) trivial (g_step rfl rfl rfl rfl (e_assign (v := .sc _) rfl) trivial (g_end (ds := [11, 12, 13]) rfl rfl (hK4 _ ?_)))))); clear hK4 K4;exact seq_norm (hK2 _ trivial ⟨(congrArg PV.bool (show ((decide (n ≤ hi)) : Bool) = ((decide (lo ≤ n)) && (decide (n ≤ hi))) by rw [hb5R]; rfl)), trivial⟩)
  have hb5R := hb5; try simp only [z1, z2, z3, z4, z5, z6, ne_eq, z7, z8, z9, z10, z11, z12] at hb5
  refine g_skip rfl rfl rfl (g_skip rfl rfl rfl (g_skip rfl rfl rfl (g_step rfl rfl rfl rfl (e_pickF (v := .sc _) rfl rfl) trivial (g_step rfl rfl rfl rfl (e_assign (v := .sc _) rfl) trivial (g_end (ds := [11, 12, 13]) rfl rfl (hK4 _ ?_)))))); clear hK4 K4;exact seq_norm (hK2 _ trivial ⟨(congrArg PV.bool (show (false : Bool) = ((decide (lo ≤ n)) && (decide (n ≤ hi))) by rw [hb5R]; rfl)), trivial⟩)
 refine pwp_ret (end1 (v := .sc _) rfl ?_);exact out_b (by first | rfl | (rw [Bool.eq_iff_iff]; simp only [decide_eq_true_eq, Bool.false_eq_true, eq_self_iff_true, true_iff, false_iff, iff_true, iff_false, Bool.and_eq_true] <;> omega))
theorem fr44 : (inFrame Tryz.f44.ntmps (Tryz.f44.body.getD .skip) && Tryz.f44.results.toList.all (resScope Tryz.f44.ntmps)) = true := by kernel_rfl
theorem isName (s : ByteArray) (hs : s.size ≤ 9223372036854775807) : PCalls Tryz.prog 44 [.str s] (.bool (isNm s)) := by
 refine PCalls.of_code Tryz.func44 rfl rfl (by kernel_rfl) mixed fr44 (by show _ ≤ 48; simp) (.sc _) ?_;have hdl := data_len s;refine pwp_seq_plain rfl fun K1 hK1 => p_step rfl (e_assign (v := .sc _) rfl) trivial (p_end (hK1 _ ?_)); clear hK1 K1;refine pwp_seq_seq (pwp_seq_plain rfl fun K2 hK2 => p_step rfl (e_move (v := .sc _) rfl) trivial (p_step rfl (e_convB rfl (by kernel_rfl) (by kernel_rfl) (by kernel_rfl)) trivial (p_step rfl (e_len rfl (by kernel_rfl)) trivial (p_step rfl (e_move (v := .sc _) rfl) trivial (p_end (hK2 _ ?_)))))); clear hK2 K2;refine pwp_seq_block fun K3 hK3 => pwp_loopR (α := Nat) [0, 7, 8] (fun (k : Nat) => [(9, .int (k))]) (fun (k : Nat) (h : Heap) (_ : Nat → Nat) => ((k) ≤ s.size) ∧ (∀ i, i < (k) → chOk i (byteAt s i))) (fun (k : Nat) => s.size - (k)) (0) (by exact ⟨rfl, trivial⟩) (by exact ⟨by exact Nat.zero_le _, by exact fun i hi => absurd hi (Nat.not_lt_zero i)⟩) fun k r4 h5 c6 hj7 => ?_;obtain ⟨hk, hc⟩ := hj7;try dsimp only at hk
 try dsimp only at hc
 show pwp _ _ (loopQ _ _ _) ⟨sets (mix _ _ _) [(9, .int k)], _, _⟩;refine pwp_seq_plain rfl fun K8 hK8 => p_step rfl (e_lt rfl rfl) trivial (p_end (hK8 _ ?_)); clear hK8 K8;refine pwp_seq_cond rfl fun K9 hK9 => ⟨fun hb10 => ?_, fun hb10 => ?_⟩
 ·have hb10R := hb10; try simp only [z1, z2, z3, z4, z5, z6, ne_eq, z7, z8, z9, z10, z11, z12] at hb10
  have hlt : k < s.size := by omega
  obtain ⟨x, hx, hd, ht⟩ := get_lt (xs := s.data.toList) (i := k) (by omega);have hbx := byteAt_eq hx;have hor := orU_letter x;refine pwp_skip (seq_norm (hK9 _ ?_)); clear hK9 K9;refine pwp_seq_block fun K11 hK11 => pwp_seq_plain rfl fun K12 hK12 => p_step rfl (e_move (v := .sc _) rfl) trivial (p_step rfl (e_ixa rfl rfl (by kernel_rfl) (by kernel_rfl) (by simp only [lM]; omega)) trivial (p_step rfl (e_load (v := .sc _) rfl (by kernel_rfl) (by kernel_rfl) (by kernel_rfl) (by simp only [lM]; omega) (by decide) ((cell_map hx _).trans rfl)) trivial (p_step rfl (e_assign (v := .sc _) rfl) trivial (p_step rfl (e_assign (v := .sc _) rfl) trivial (p_end (hK12 _ ?_)))))); clear hK12 K12;refine pwp_seq_cutG [0, 3, 4, 7, 8, 9] [(5, .bool ((decide ((97) ≤ (orU (x.toNat : Int) (32)))) && (decide ((orU (x.toNat : Int) (32)) ≤ (122)))))] (fun K13 hK13 => ?_) (fun r14 => ?_)
  ·skip
   refine pwp_gops rfl fun K15 hK15 => g_begin (g_step rfl rfl rfl rfl (e_move (v := .sc _) rfl) trivial (g_step rfl rfl rfl rfl (e_orB rfl rfl) trivial (g_step rfl rfl rfl rfl (e_ge rfl rfl) trivial (g_step rfl rfl rfl rfl (e_move (v := .sc _) rfl) trivial ?_))));refine g_cases (fun hb16 => ?_) (fun hb16 => ?_)
   ·have hb16R := hb16; try simp only [z1, z2, z3, z4, z5, z6, ne_eq, z7, z8, z9, z10, z11, z12] at hb16
    refine g_step rfl rfl rfl rfl (e_move (v := .sc _) rfl) trivial (g_step rfl rfl rfl rfl (e_orB rfl rfl) trivial (g_step rfl rfl rfl rfl (e_le rfl rfl) trivial (g_step rfl rfl rfl rfl (e_pickT (v := .sc _) rfl rfl) trivial (g_step rfl rfl rfl rfl (e_assign (v := .sc _) rfl) trivial (g_end (ds := [18, 19, 20]) rfl rfl (hK15 _ ?_)))))); clear hK15 K15;exact seq_norm (hK13 _ ⟨rfl, rfl, rfl, rfl, rfl, rfl, trivial⟩ ⟨(congrArg PV.bool (show ((decide ((orU (x.toNat : Int) (32)) ≤ (122))) : Bool) = ((decide ((97) ≤ (orU (x.toNat : Int) (32)))) && (decide ((orU (x.toNat : Int) (32)) ≤ (122)))) by rw [hb16R]; rfl)), trivial⟩)
   have hb16R := hb16; try simp only [z1, z2, z3, z4, z5, z6, ne_eq, z7, z8, z9, z10, z11, z12] at hb16
   refine g_skip rfl rfl rfl (g_skip rfl rfl rfl (g_skip rfl rfl rfl (g_step rfl rfl rfl rfl (e_pickF (v := .sc _) rfl rfl) trivial (g_step rfl rfl rfl rfl (e_assign (v := .sc _) rfl) trivial (g_end (ds := [18, 19, 20]) rfl rfl (hK15 _ ?_)))))); clear hK15 K15;exact seq_norm (hK13 _ ⟨rfl, rfl, rfl, rfl, rfl, rfl, trivial⟩ ⟨(congrArg PV.bool (show (false : Bool) = ((decide ((97) ≤ (orU (x.toNat : Int) (32)))) && (decide ((orU (x.toNat : Int) (32)) ≤ (122)))) by rw [hb16R]; rfl)), trivial⟩)
  refine pwp_seq_cutG [0, 7, 8, 9] [(39, .bool ((!((decide ((97) ≤ (orU (x.toNat : Int) (32)))) && (decide ((orU (x.toNat : Int) (32)) ≤ (122))))) && ((decide ((k : Int) = (0))) || ((decide ((x.toNat : Int) ≠ (45))) && ((decide ((x.toNat : Int) < (48))) || (decide ((57) < (x.toNat : Int))))))))] (fun K17 hK17 => ?_) (fun r18 => ?_)
  ·skip
   refine pwp_gops rfl fun K19 hK19 => g_begin (g_step rfl rfl rfl rfl (e_move (v := .sc _) rfl) trivial (g_step rfl rfl rfl rfl (e_not rfl) trivial (g_step rfl rfl rfl rfl (e_move (v := .sc _) rfl) trivial ?_)));refine g_cases (fun hb20 => ?_) (fun hb20 => ?_)
   ·have hb20R := hb20; try simp only [z1, z2, z3, z4, z5, z6, ne_eq, z7, z8, z9, z10, z11, z12] at hb20
    refine g_step rfl rfl rfl rfl (e_move (v := .sc _) rfl) trivial (g_step rfl rfl rfl rfl (e_eq rfl rfl) trivial (g_step rfl rfl rfl rfl (e_move (v := .sc _) rfl) trivial ?_));refine g_cases (fun hb21 => ?_) (fun hb21 => ?_)
    ·have hb21R := hb21; try simp only [z1, z2, z3, z4, z5, z6, ne_eq, z7, z8, z9, z10, z11, z12] at hb21
     refine g_skip rfl rfl rfl (g_skip rfl rfl rfl (g_skip rfl rfl rfl (g_skip rfl rfl rfl (g_skip rfl rfl rfl (g_skip rfl rfl rfl (g_skip rfl rfl rfl (g_skip rfl rfl rfl ?_)))))));refine g_skip rfl rfl rfl (g_skip rfl rfl rfl (g_step rfl rfl rfl rfl (e_pickT (v := .sc _) rfl rfl) trivial (g_step rfl rfl rfl rfl (e_pickT (v := .sc _) rfl rfl) trivial (g_end (ds := [25, 26, 27, 28, 29, 30, 31, 32, 33, 34, 35, 36, 37, 38]) rfl rfl (hK19 _ ?_))))); clear hK19 K19;exact seq_norm (hK17 _ ⟨rfl, rfl, rfl, rfl, trivial⟩ ⟨(congrArg PV.bool (show (true : Bool) = ((!((decide ((97) ≤ (orU (x.toNat : Int) (32)))) && (decide ((orU (x.toNat : Int) (32)) ≤ (122))))) && ((decide ((k : Int) = (0))) || ((decide ((x.toNat : Int) ≠ (45))) && ((decide ((x.toNat : Int) < (48))) || (decide ((57) < (x.toNat : Int))))))) by first | rfl | ((try rw [hb21R]) <;> (try rw [hb20R]) <;> (first | rfl | (simp only [Bool.and_true, Bool.and_false, Bool.true_and, Bool.false_and, Bool.or_true, Bool.or_false, Bool.true_or, Bool.false_or, Bool.not_true, Bool.not_false, if_true, if_false, Bool.false_eq_true, reduceIte] <;> rfl))) | (simp only [hb20R, hb21R, Bool.and_true, Bool.and_false, Bool.true_and, Bool.false_and, Bool.or_true, Bool.or_false, Bool.true_or, Bool.false_or, Bool.not_true, Bool.not_false, if_true, if_false, Bool.false_eq_true, reduceIte] <;> rfl))), trivial⟩)
    have hb21R := hb21; try simp only [z1, z2, z3, z4, z5, z6, ne_eq, z7, z8, z9, z10, z11, z12] at hb21
    refine g_step rfl rfl rfl rfl (e_move (v := .sc _) rfl) trivial (g_step rfl rfl rfl rfl (e_ne rfl rfl) trivial (g_step rfl rfl rfl rfl (e_move (v := .sc _) rfl) trivial ?_));refine g_cases (fun hb22 => ?_) (fun hb22 => ?_)
    ·have hb22R := hb22; try simp only [z1, z2, z3, z4, z5, z6, ne_eq, z7, z8, z9, z10, z11, z12] at hb22
     refine g_step rfl rfl rfl rfl (e_move (v := .sc _) rfl) trivial (g_step rfl rfl rfl rfl (e_lt rfl rfl) trivial (g_step rfl rfl rfl rfl (e_move (v := .sc _) rfl) trivial ?_));refine g_cases (fun hb23 => ?_) (fun hb23 => ?_)
     ·have hb23R := hb23; try simp only [z1, z2, z3, z4, z5, z6, ne_eq, z7, z8, z9, z10, z11, z12] at hb23
      refine g_skip rfl rfl rfl (g_skip rfl rfl rfl (g_step rfl rfl rfl rfl (e_pickT (v := .sc _) rfl rfl) trivial (g_step rfl rfl rfl rfl (e_pickT (v := .sc _) rfl rfl) trivial (g_step rfl rfl rfl rfl (e_pickF (v := .sc _) rfl rfl) trivial (g_step rfl rfl rfl rfl (e_pickT (v := .sc _) rfl rfl) trivial (g_end (ds := [25, 26, 27, 28, 29, 30, 31, 32, 33, 34, 35, 36, 37, 38]) rfl rfl (hK19 _ ?_))))))); clear hK19 K19;exact seq_norm (hK17 _ ⟨rfl, rfl, rfl, rfl, trivial⟩ ⟨(congrArg PV.bool (show (true : Bool) = ((!((decide ((97) ≤ (orU (x.toNat : Int) (32)))) && (decide ((orU (x.toNat : Int) (32)) ≤ (122))))) && ((decide ((k : Int) = (0))) || ((decide ((x.toNat : Int) ≠ (45))) && ((decide ((x.toNat : Int) < (48))) || (decide ((57) < (x.toNat : Int))))))) by simp [hb23R, hb22R, hb21R, hb20R])), trivial⟩)
     have hb23R := hb23; try simp only [z1, z2, z3, z4, z5, z6, ne_eq, z7, z8, z9, z10, z11, z12] at hb23
     refine g_step rfl rfl rfl rfl (e_move (v := .sc _) rfl) trivial (g_step rfl rfl rfl rfl (e_gt rfl rfl) trivial (g_step rfl rfl rfl rfl (e_pickF (v := .sc _) rfl rfl) trivial (g_step rfl rfl rfl rfl (e_pickT (v := .sc _) rfl rfl) trivial (g_step rfl rfl rfl rfl (e_pickF (v := .sc _) rfl rfl) trivial (g_step rfl rfl rfl rfl (e_pickT (v := .sc _) rfl rfl) trivial (g_end (ds := [25, 26, 27, 28, 29, 30, 31, 32, 33, 34, 35, 36, 37, 38]) rfl rfl (hK19 _ ?_))))))); clear hK19 K19;exact seq_norm (hK17 _ ⟨rfl, rfl, rfl, rfl, trivial⟩ ⟨(congrArg PV.bool (show ((decide ((57) < (x.toNat : Int))) : Bool) = ((!((decide ((97) ≤ (orU (x.toNat : Int) (32)))) && (decide ((orU (x.toNat : Int) (32)) ≤ (122))))) && ((decide ((k : Int) = (0))) || ((decide ((x.toNat : Int) ≠ (45))) && ((decide ((x.toNat : Int) < (48))) || (decide ((57) < (x.toNat : Int))))))) by first | rfl | ((try rw [hb23R]) <;> (try rw [hb22R]) <;> (try rw [hb21R]) <;> (try rw [hb20R]) <;> (first | rfl | (simp only [Bool.and_true, Bool.and_false, Bool.true_and, Bool.false_and, Bool.or_true, Bool.or_false, Bool.true_or, Bool.false_or, Bool.not_true, Bool.not_false, if_true, if_false, Bool.false_eq_true, reduceIte] <;> rfl))) | (simp only [hb20R, hb21R, hb22R, hb23R, Bool.and_true, Bool.and_false, Bool.true_and, Bool.false_and, Bool.or_true, Bool.or_false, Bool.true_or, Bool.false_or, Bool.not_true, Bool.not_false, if_true, if_false, Bool.false_eq_true, reduceIte] <;> rfl))), trivial⟩)
    have hb22R := hb22; try simp only [z1, z2, z3, z4, z5, z6, ne_eq, z7, z8, z9, z10, z11, z12] at hb22
    refine g_skip rfl rfl rfl (g_skip rfl rfl rfl (g_skip rfl rfl rfl (g_skip rfl rfl rfl (g_skip rfl rfl rfl (g_skip rfl rfl rfl (g_step rfl rfl rfl rfl (e_pickF (v := .sc _) rfl rfl) trivial (g_step rfl rfl rfl rfl (e_pickF (v := .sc _) rfl rfl) trivial ?_)))))));refine g_step rfl rfl rfl rfl (e_pickT (v := .sc _) rfl rfl) trivial (g_end (ds := [25, 26, 27, 28, 29, 30, 31, 32, 33, 34, 35, 36, 37, 38]) rfl rfl (hK19 _ ?_)); clear hK19 K19;exact seq_norm (hK17 _ ⟨rfl, rfl, rfl, rfl, trivial⟩ ⟨(congrArg PV.bool (show (false : Bool) = ((!((decide ((97) ≤ (orU (x.toNat : Int) (32)))) && (decide ((orU (x.toNat : Int) (32)) ≤ (122))))) && ((decide ((k : Int) = (0))) || ((decide ((x.toNat : Int) ≠ (45))) && ((decide ((x.toNat : Int) < (48))) || (decide ((57) < (x.toNat : Int))))))) by first | rfl | ((try rw [hb22R]) <;> (try rw [hb21R]) <;> (try rw [hb20R]) <;> (first | rfl | (simp only [Bool.and_true, Bool.and_false, Bool.true_and, Bool.false_and, Bool.or_true, Bool.or_false, Bool.true_or, Bool.false_or, Bool.not_true, Bool.not_false, if_true, if_false, Bool.false_eq_true, reduceIte] <;> rfl))) | (simp only [hb20R, hb21R, hb22R, Bool.and_true, Bool.and_false, Bool.true_and, Bool.false_and, Bool.or_true, Bool.or_false, Bool.true_or, Bool.false_or, Bool.not_true, Bool.not_false, if_true, if_false, Bool.false_eq_true, reduceIte] <;> rfl))), trivial⟩)
   have hb20R := hb20; try simp only [z1, z2, z3, z4, z5, z6, ne_eq, z7, z8, z9, z10, z11, z12] at hb20
   refine g_skip rfl rfl rfl (g_skip rfl rfl rfl (g_skip rfl rfl rfl (g_skip rfl rfl rfl (g_skip rfl rfl rfl (g_skip rfl rfl rfl (g_skip rfl rfl rfl (g_skip rfl rfl rfl ?_)))))));refine g_skip rfl rfl rfl (g_skip rfl rfl rfl (g_skip rfl rfl rfl (g_skip rfl rfl rfl (g_skip rfl rfl rfl (g_skip rfl rfl rfl (g_step rfl rfl rfl rfl (e_pickF (v := .sc _) rfl rfl) trivial (g_end (ds := [25, 26, 27, 28, 29, 30, 31, 32, 33, 34, 35, 36, 37, 38]) rfl rfl (hK19 _ ?_)))))))); clear hK19 K19;exact seq_norm (hK17 _ ⟨rfl, rfl, rfl, rfl, trivial⟩ ⟨(congrArg PV.bool (show (false : Bool) = ((!((decide ((97) ≤ (orU (x.toNat : Int) (32)))) && (decide ((orU (x.toNat : Int) (32)) ≤ (122))))) && ((decide ((k : Int) = (0))) || ((decide ((x.toNat : Int) ≠ (45))) && ((decide ((x.toNat : Int) < (48))) || (decide ((57) < (x.toNat : Int))))))) by rw [hb20R]; rfl)), trivial⟩)
  refine pwp_cond rfl (fun hb24 => ?_) (fun hb24 => ?_)
  ·have hb24R := hb24; try simp only [z1, z2, z3, z4, z5, z6, ne_eq, z7, z8, z9, z10, z11, z12] at hb24
   refine pwp_seq_plain rfl fun K25 hK25 => p_step rfl (e_assign (v := .sc _) rfl) trivial (p_end (hK25 _ ?_)); clear hK25 K25;refine pwp_ret (ret_block (ret_seq (ret_loop (ret_block (ret_seq (end1 (v := .sc _) rfl ?_))))));exact out_b (isNm_bad hlt (by rw [hbx]; unfold chOk; omega))
  have hb24R := hb24; try simp only [z1, z2, z3, z4, z5, z6, ne_eq, z7, z8, z9, z10, z11, z12] at hb24
  refine pwp_skip (block_norm (seq_norm (hK11 _ ?_))); clear hK11 K11;refine pwp_plain rfl fun K26 hK26 => p_step rfl (e_add rfl rfl (by omega)) trivial (p_step rfl (e_move (v := .sc _) rfl) trivial (p_end (hK26 _ ?_))); clear hK26 K26;exact loop_again (k + 1) (by show _ < _; omega) ⟨rfl, rfl, rfl, trivial⟩ ⟨rfl, trivial⟩ (by exact ⟨by show _ + 1 ≤ _; omega, by exact chOk_succ hc (by rw [hbx]; unfold chOk; omega)⟩)
 have hb10R := hb10; try simp only [z1, z2, z3, z4, z5, z6, ne_eq, z7, z8, z9, z10, z11, z12] at hb10
 refine pwp_exit (exit_seq ?_);clear hK9 K9;refine exit_loop (exit_here (seq_norm (hK3 _ ?_))); clear hK3 K3;refine pwp_seq_cutG [] [(2, .bool ((decide (s ≠ (⟨#[]⟩ : ByteArray))) && (decide (((s).size : Int) ≤ (12)))))] (fun K27 hK27 => ?_) (fun r28 => ?_)
 ·skip
  refine pwp_gops rfl fun K29 hK29 => g_begin (g_step rfl rfl rfl rfl (e_move (v := .sc _) rfl) trivial (g_step rfl rfl rfl rfl (e_sne rfl rfl) trivial (g_step rfl rfl rfl rfl (e_move (v := .sc _) rfl) trivial ?_)));refine g_cases (fun hb30 => ?_) (fun hb30 => ?_)
  ·have hb30R := hb30; try simp only [z1, z2, z3, z4, z5, z6, ne_eq, z7, z8, z9, z10, z11, z12] at hb30
   refine g_step rfl rfl rfl rfl (e_move (v := .sc _) rfl) trivial (g_step rfl rfl rfl rfl (e_lenS rfl (by kernel_rfl)) trivial (g_step rfl rfl rfl rfl (e_le rfl rfl) trivial (g_step rfl rfl rfl rfl (e_pickT (v := .sc _) rfl rfl) trivial (g_step rfl rfl rfl rfl (e_assign (v := .sc _) rfl) trivial (g_end (ds := [44, 45, 46]) rfl rfl (hK29 _ ?_)))))); clear hK29 K29;exact seq_norm (hK27 _ trivial ⟨(congrArg PV.bool (show ((decide (((s).size : Int) ≤ (12))) : Bool) = ((decide (s ≠ (⟨#[]⟩ : ByteArray))) && (decide (((s).size : Int) ≤ (12)))) by rw [hb30R]; rfl)), trivial⟩)
  have hb30R := hb30; try simp only [z1, z2, z3, z4, z5, z6, ne_eq, z7, z8, z9, z10, z11, z12] at hb30
  refine g_skip rfl rfl rfl (g_skip rfl rfl rfl (g_skip rfl rfl rfl (g_step rfl rfl rfl rfl (e_pickF (v := .sc _) rfl rfl) trivial (g_step rfl rfl rfl rfl (e_assign (v := .sc _) rfl) trivial (g_end (ds := [44, 45, 46]) rfl rfl (hK29 _ ?_)))))); clear hK29 K29;exact seq_norm (hK27 _ trivial ⟨(congrArg PV.bool (show (false : Bool) = ((decide (s ≠ (⟨#[]⟩ : ByteArray))) && (decide (((s).size : Int) ≤ (12)))) by rw [hb30R]; rfl)), trivial⟩)
 refine pwp_ret (end1 (v := .sc _) rfl ?_);exact out_b (isNm_end (by omega) hc)
end Go.Proofs.YtjihcgcbnbaclaaGreatDoor.Y8
