import Derived.Shelf.Strings.OnBuilder
import Derived.Test.YtmlhhdiomijpfaaGreatDoorProg
import Derived.Test.YtmlhhdiomijpfaaGreatDoorPvGy
import Derived.Test.YtmlhhdiomijpfaaGreatDoorPvGg
import Derived.Test.YtmlhhdiomijpfaaGreatDoorPvGh
import Derived.Test.YtmlhhdiomijpfaaGreatDoorDatA
import Derived.Test.YtmlhhdiomijpfaaGreatDoorNumA
set_option linter.unusedSimpArgs false
set_option linter.unusedVariables false
namespace Go.Proofs
open Go.Shelf
end Go.Proofs
namespace Go.Proofs.YtmlhhdiomijpfaaGreatDoor
open Go Go.Proofs Go.RowKit Go.Shelf Go.Pv
end Go.Proofs.YtmlhhdiomijpfaaGreatDoor

set_option linter.unusedSimpArgs false
set_option linter.unusedVariables false
set_option maxRecDepth 100000
namespace Go.Proofs.YtmlhhdiomijpfaaGreatDoor
open Go Go.Pv Go.Tx
theorem sz_one (c : UInt8) : (⟨#[c]⟩ : ByteArray).size = 1 := rfl
theorem sz_nil : (⟨#[]⟩ : ByteArray).size = 0 := rfl
def In99 (t : Tie) : Prop := (0 ≤ t.standard ∧ t.standard ≤ 99) ∧ (0 ≤ t.level ∧ t.level ≤ 99)
instance (t : Tie) : Decidable (In99 t) := by unfold In99; infer_instance
end Go.Proofs.YtmlhhdiomijpfaaGreatDoor

set_option linter.unusedSimpArgs false
set_option linter.unusedVariables false
set_option maxRecDepth 100000
namespace Go.Proofs.YtmlhhdiomijpfaaGreatDoor
open Go Go.Pv Go.Tx
theorem neg_yes {s : ByteArray} (h : 0 < s.size) (hc : byteAt s 0 = 45) : isNeg (ls s) = true := by
 have h1 := ls_get h;have h2 : (ls s).getD 0 0 = 45 := u8_eq (b := 45) hc;unfold isNeg;rw [decide_eq_true_eq, List.head?_eq_getElem?, h1, h2]
theorem neg_no {s : ByteArray} (h : ¬ (0 < s.size ∧ byteAt s 0 = 45)) : isNeg (ls s) = false := by
 unfold isNeg;rw [decide_eq_false_iff_not, List.head?_eq_getElem?];intro q;have hl : 0 < (ls s).length := (List.getElem?_eq_some_iff.1 q).1;rw [ls_len] at hl;refine h ⟨hl, ?_⟩;have h1 := ls_get hl;rw [q] at h1;have h2 := Option.some.inj h1;show (((ls s).getD 0 0).toNat : Int) = 45;rw [← h2]; rfl
theorem mag_yes {l : List UInt8} (h : isNeg l = true) : magL l = l.drop 1 := by unfold magL; rw [if_pos h]; exact List.drop_one.symm
theorem mag_no {l : List UInt8} (h : isNeg l = false) : magL l = l.drop 0 := by unfold magL; rw [h]; rfl
def NumTo (l : List UInt8) (fr i : Nat) (n : Int) : Prop := digV 0 (l.drop fr) = digV n (l.drop i) ∧ 0 ≤ n ∧ n < 10 ^ (i - fr)
theorem NumTo.start {l : List UInt8} {fr : Nat} : NumTo l fr fr 0 := ⟨rfl, Int.le_refl _, by simp⟩
theorem NumTo.bnd {l : List UInt8} {fr i : Nat} {n : Int} (h : NumTo l fr i n) (hi : i - fr ≤ 7) : 0 ≤ n ∧ n ≤ 10000000 := by
 refine ⟨h.2.1, ?_⟩
 have h1 : (10 : Int) ^ (i - fr) ≤ 10 ^ 7 := by
   have := Nat.pow_le_pow_right (n := 10) (by decide) hi
   exact_mod_cast this
 have := h.2.2;omega
theorem byteAt_le (s : ByteArray) (i : Nat) : 0 ≤ byteAt s i ∧ byteAt s i ≤ 255 := by
 unfold byteAt;have := (s.data.toList.getD i 0).toNat_lt;omega
theorem drop_at {s : ByteArray} {i : Nat} (hi : i < s.size) : (ls s).drop i = (ls s).getD i 0 :: (ls s).drop (i + 1) := by
 have hl : i < (ls s).length := by rw [ls_len]; exact hi
 have := ls_get hi;rw [List.getElem?_eq_getElem hl] at this;rw [List.drop_eq_getElem_cons hl, Option.some.inj this]
theorem NumTo.next {s : ByteArray} {fr i : Nat} {n : Int} (h : NumTo (ls s) fr i n) (hi : i < s.size) (hf : fr ≤ i) (h1 : 48 ≤ byteAt s i) (h2 : byteAt s i ≤ 57) : NumTo (ls s) fr (i + 1) (10 * n + (byteAt s i - 48)) := by
 obtain ⟨e, p, q⟩ := h;refine ⟨?_, by omega, ?_⟩
 · rw [e, drop_at hi, digV];have e2 : (((ls s).getD i 0).toNat : Int) = byteAt s i := rfl;rw [if_pos ⟨by omega, by omega⟩, e2]
 · rw [show i + 1 - fr = (i - fr) + 1 by omega, Int.pow_succ]; omega
theorem NumTo.bad {s : ByteArray} {fr i : Nat} {n : Int} (h : NumTo (ls s) fr i n) (hi : i < s.size) (hb : byteAt s i < 48 ∨ 57 < byteAt s i) : digV 0 ((ls s).drop fr) = none := by
 rw [h.1, drop_at hi, digV];have e2 : (((ls s).getD i 0).toNat : Int) = byteAt s i := rfl;rw [if_neg]; omega
theorem NumTo.done {s : ByteArray} {fr i : Nat} {n : Int} (h : NumTo (ls s) fr i n) (hi : s.size ≤ i) : digV 0 ((ls s).drop fr) = some n := by
 rw [h.1, List.drop_eq_nil_of_le (by rw [ls_len]; exact hi)]; rfl
section
variable {s : ByteArray} {d : Int} {fr : Nat} {n : Int}
theorem refn_len (hm : magL (ls s) = (ls s).drop fr) (h : ((s.size : Int) - fr < 1 ∨ d < (s.size : Int) - fr)) (hf : fr ≤ s.size) : refNum d (ls s) = (0, false) := by
 unfold refNum;rw [hm, List.length_drop, ls_len, if_pos (by omega)]
theorem refn_bad (hm : magL (ls s) = (ls s).drop fr) (h : digV 0 ((ls s).drop fr) = none) : refNum d (ls s) = (0, false) := by
 unfold refNum;split
 · rfl
 · rw [hm, h]
theorem refn_end {b : Bool} (hm : magL (ls s) = (ls s).drop fr) (h1 : ¬ ((s.size : Int) - fr < 1 ∨ d < (s.size : Int) - fr)) (hf : fr ≤ s.size) (hg : isNeg (ls s) = b) (h : digV 0 ((ls s).drop fr) = some n) : refNum d (ls s) = (if b = true then 0 - n else n, decide (bs (Lib.itoa (if b = true then 0 - n else n)) = s)) := by
 unfold refNum;rw [hm, List.length_drop, ls_len, if_neg (by omega), h, hg];simp only [Prod.mk.injEq, true_and];rw [Bool.eq_iff_iff, decide_eq_true_eq, decide_eq_true_eq];exact ⟨fun e => by rw [e]; rfl, fun e => by rw [← e]; rfl⟩
theorem num_o {h : Heap} {a : Int} {b : Bool} {x : Int × Bool} (hx : x = (a, b)) : Out h (.tup [.int a, .bool b]) (.tup [.int x.1, .bool x.2]) := by
 subst hx; exact out_2 (out_i rfl) (out_b rfl)
end
theorem fr34 : (inFrame Tryz.f34.ntmps (Tryz.f34.body.getD .skip) && Tryz.f34.results.toList.all (resScope Tryz.f34.ntmps)) = true := by kernel_rfl
theorem NumberC (s : ByteArray) (d : Int) (hs : s.size ≤ 1000000) (hd : d ≤ 7) : PCalls Tryz.prog 34 [.str s, .int d] (.tup [.int (refNum d (ls s)).1, .bool (refNum d (ls s)).2]) := by
 refine PCalls.of_code Tryz.func34 rfl rfl (by kernel_rfl) mixed fr34 (by show _ ≤ 64; simp) (pure_2 (.sc _) (.sc _)) (pwp_seq_plain rfl fun K1 hK1 => p_aS rfl (p_aS rfl (p_end (hK1 _ ?_)))); clear hK1 K1;refine pwp_seq_plain rfl fun K2 hK2 => p_aS rfl (p_end (hK2 _ ?_)); clear hK2 K2;refine pwp_seq_seq (pwp_seq_gops rfl fun K3 hK3 => g_begin (g_mS rfl rfl (g_e rfl (e_lenS rfl (by kernel_rfl)) (g_e rfl (e_gt rfl rfl) (g_mS rfl rfl ?_)))));refine g_cases (fun hb4 => ?_) (fun hb4 => ?_)
 ·have hb4R := hb4; try simp only [zz] at hb4
  refine g_mS rfl rfl (g_e rfl (e_indexN (n := 0) rfl rfl rfl (by kernel_rfl) (by omega)) (g_e rfl (e_eq rfl rfl) (g_pT rfl rfl rfl (g_end (ds := [13, 14, 15]) rfl rfl (hK3 _ ?_))))); clear hK3 K3;refine pwp_seq_cond rfl fun K5 hK5 => ⟨fun hb6 => ?_, fun hb6 => ?_⟩
  ·have hb6R := hb6; try simp only [zz] at hb6
   refine pwp_plain rfl fun K7 hK7 => p_aS rfl (p_end (hK7 _ ?_)); clear hK7 K7;refine seq_norm (hK5 _ ?_); clear hK5 K5;refine pwp_seq_seq ?_;have hng := neg_yes (s := s) (by omega) (by omega);refine pwp_seq_gops rfl fun K8 hK8 => g_begin (g_mS rfl rfl (g_e rfl (e_lenS rfl (by kernel_rfl)) (g_mS rfl rfl (g_e rfl (e_sub rfl rfl (by first | omega | (simp only [lM] at *; omega))) (g_e rfl (e_lt rfl rfl) (g_mS rfl rfl ?_))))));refine g_cases (fun hb9 => ?_) (fun hb9 => ?_)
   ·have hb9R := hb9; try simp only [zz] at hb9
    iterate 6 refine g_skip rfl rfl rfl ?_
    refine g_pT rfl rfl rfl (g_end (ds := [23, 24, 25, 26, 27, 28]) rfl rfl (hK8 _ ?_)); clear hK8 K8;refine pwp_seq_cond (t := true) rfl fun K10 hK10 => ⟨fun _ => ?_, nofun⟩
    refine pwp_seq_plain rfl fun K11 hK11 => p_aS rfl (p_aS rfl (p_end (hK11 _ ?_))); clear hK11 K11;refine pwp_ret (ret_seq (end2 (v := .sc _) (w := .sc _) rfl rfl ?_))
    first
      | exact num_o (refn_len (fr := 1) (by first | exact mag_yes hng | exact mag_no hng) (by omega) (by omega))
      | exact num_o (refn_bad (fr := 1) (by first | exact mag_yes hng | exact mag_no hng) (hn.bad hil (by omega)))
      | exact num_o ((refn_end (fr := 1) (by first | exact mag_yes hng | exact mag_no hng) (by omega) (by omega) hng (hn.done hie)).trans rfl)
      | (exfalso; omega)
      | (exfalso; simp_all; done)
   ·have hb9R := hb9; try simp only [zz] at hb9
    refine g_mS rfl rfl (g_e rfl (e_lenS rfl (by kernel_rfl)) (g_mS rfl rfl (g_e rfl (e_sub rfl rfl (by first | omega | (simp only [lM] at *; omega))) (g_mS rfl rfl (g_e rfl (e_gt rfl rfl) (g_pF rfl rfl rfl (g_end (ds := [23, 24, 25, 26, 27, 28]) rfl rfl (hK8 _ ?_)))))))); clear hK8 K8;refine pwp_seq_cond rfl fun K12 hK12 => ⟨fun hb13 => ?_, fun hb13 => ?_⟩
    ·have hb13R := hb13; try simp only [zz] at hb13
     refine pwp_seq_plain rfl fun K14 hK14 => p_aS rfl (p_aS rfl (p_end (hK14 _ ?_))); clear hK14 K14;refine pwp_ret (ret_seq (end2 (v := .sc _) (w := .sc _) rfl rfl ?_))
     first
       | exact num_o (refn_len (fr := 1) (by first | exact mag_yes hng | exact mag_no hng) (by omega) (by omega))
       | exact num_o (refn_bad (fr := 1) (by first | exact mag_yes hng | exact mag_no hng) (hn.bad hil (by omega)))
       | exact num_o ((refn_end (fr := 1) (by first | exact mag_yes hng | exact mag_no hng) (by omega) (by omega) hng (hn.done hie)).trans rfl)
       | (exfalso; omega)
       | (exfalso; simp_all; done)
    ·have hb13R := hb13; try simp only [zz] at hb13
     refine pwp_skip (seq_norm (hK12 _ ?_)); clear hK12 K12;refine pwp_seq_plain rfl fun K15 hK15 => p_aS rfl (p_end (hK15 _ ?_)); clear hK15 K15;refine pwp_seq_seq (pwp_seq_plain rfl fun K16 hK16 => p_mS rfl (p_aS rfl (p_end (hK16 _ ?_)))); clear hK16 K16;refine pwp_seq_block fun K17 hK17 => pwp_loopR (α := Nat × Int) [0, 6] (fun (a18 : Nat × Int) => [(7, .int (a18.2)), (8, .int (a18.1))]) (fun (a18 : Nat × Int) (h : Heap) (_ : Nat → Nat) => (1 ≤ (a18.1) ∧ (a18.1) ≤ s.size) ∧ (NumTo (ls s) 1 (a18.1) (a18.2))) (fun (a18 : Nat × Int) => s.size - (a18.1)) (1, 0) (by exact ⟨rfl, rfl, trivial⟩) (by exact ⟨by exact ⟨Nat.le_refl _, by omega⟩, by exact NumTo.start⟩) fun a18 r19 h20 c21 hj22 => ?_;obtain ⟨i, n⟩ := a18;obtain ⟨hi, hn⟩ := hj22;try dsimp only at hi
     try dsimp only at hn
     show pwp _ _ (loopQ _ _ _) ⟨sets (mix _ _ _) [(7, .int n), (8, .int i)], _, _⟩;refine pwp_seq_seq (pwp_seq_plain rfl fun K23 hK23 => p_mS rfl (p_mS rfl (p_e rfl (e_lenS rfl (by kernel_rfl)) (p_e rfl (e_lt rfl rfl) (p_end (hK23 _ ?_)))))); clear hK23 K23;refine pwp_seq_cond rfl fun K24 hK24 => ⟨fun hb25 => ?_, fun hb25 => ?_⟩
     ·have hb25R := hb25; try simp only [zz] at hb25
      have hil : i < s.size := by omega
      have hnb := hn.bnd (by omega);have hby := byteAt_le s i;refine pwp_skip (seq_norm (hK24 _ ?_)); clear hK24 K24;refine pwp_seq_block fun K26 hK26 => pwp_seq_seq (pwp_seq_gops rfl fun K27 hK27 => g_begin (g_mS rfl rfl (g_mS rfl rfl (g_e rfl (e_indexN (n := i) rfl rfl rfl (by kernel_rfl) (by omega)) (g_e rfl (e_lt rfl rfl) ?_)))));refine g_mS rfl rfl ?_;refine g_cases (fun hb28 => ?_) (fun hb28 => ?_)
      ·have hb28R := hb28; try simp only [zz] at hb28
       iterate 4 refine g_skip rfl rfl rfl ?_
       refine g_pT rfl rfl rfl (g_end (ds := [42, 43, 44, 45]) rfl rfl (hK27 _ ?_)); clear hK27 K27;refine pwp_seq_cond (t := true) rfl fun K29 hK29 => ⟨fun _ => ?_, nofun⟩
       refine pwp_seq_plain rfl fun K30 hK30 => p_aS rfl (p_aS rfl (p_end (hK30 _ ?_))); clear hK30 K30;refine pwp_ret (ret_seq (ret_block (ret_seq (ret_loop (ret_block (ret_seq (end2 (v := .sc _) (w := .sc _) rfl rfl ?_)))))))
       first
         | exact num_o (refn_len (fr := 1) (by first | exact mag_yes hng | exact mag_no hng) (by omega) (by omega))
         | exact num_o (refn_bad (fr := 1) (by first | exact mag_yes hng | exact mag_no hng) (hn.bad hil (by omega)))
         | exact num_o ((refn_end (fr := 1) (by first | exact mag_yes hng | exact mag_no hng) (by omega) (by omega) hng (hn.done hie)).trans rfl)
         | (exfalso; omega)
         | (exfalso; simp_all; done)
      ·have hb28R := hb28; try simp only [zz] at hb28
       refine g_mS rfl rfl (g_mS rfl rfl (g_e rfl (e_indexN (n := i) rfl rfl rfl (by kernel_rfl) (by omega)) (g_e rfl (e_gt rfl rfl) (g_pF rfl rfl rfl (g_end (ds := [42, 43, 44, 45]) rfl rfl (hK27 _ ?_)))))); clear hK27 K27;refine pwp_seq_cond rfl fun K31 hK31 => ⟨fun hb32 => ?_, fun hb32 => ?_⟩
       ·have hb32R := hb32; try simp only [zz] at hb32
        refine pwp_seq_plain rfl fun K33 hK33 => p_aS rfl (p_aS rfl (p_end (hK33 _ ?_))); clear hK33 K33;refine pwp_ret (ret_seq (ret_block (ret_seq (ret_loop (ret_block (ret_seq (end2 (v := .sc _) (w := .sc _) rfl rfl ?_)))))))
        first
          | exact num_o (refn_len (fr := 1) (by first | exact mag_yes hng | exact mag_no hng) (by omega) (by omega))
          | exact num_o (refn_bad (fr := 1) (by first | exact mag_yes hng | exact mag_no hng) (hn.bad hil (by omega)))
          | exact num_o ((refn_end (fr := 1) (by first | exact mag_yes hng | exact mag_no hng) (by omega) (by omega) hng (hn.done hie)).trans rfl)
          | (exfalso; omega)
          | (exfalso; simp_all; done)
       ·have hb32R := hb32; try simp only [zz] at hb32
        refine pwp_skip (seq_norm (hK31 _ ?_)); clear hK31 K31;refine pwp_plain rfl fun K34 hK34 => p_mS rfl (p_e rfl (e_mul rfl rfl (by first | omega | (simp only [lM] at *; omega))) (p_mS rfl (p_mS rfl (p_e rfl (e_indexN (n := i) rfl rfl rfl (by kernel_rfl) (by omega)) (p_e rfl (e_subU rfl rfl (by omega)) (p_e rfl (e_conv rfl (by kernel_rfl) (by kernel_rfl) (by exact wrap64 (by omega) (by omega))) ?_))))));refine p_e rfl (e_adL rfl rfl) (p_aS rfl (p_end (hK34 _ ?_))); clear hK34 K34;refine block_norm (seq_norm (hK26 _ ?_)); clear hK26 K26;refine pwp_plain rfl fun K35 hK35 => p_mS rfl (p_e rfl (e_adL rfl rfl) (p_aS rfl (p_end (hK35 _ ?_)))); clear hK35 K35;exact loop_again ((i + 1, 10 * n + (byteAt s i - 48))) (by show _ < _; simp only; omega) ⟨rfl, rfl, trivial⟩ ⟨rfl, rfl, trivial⟩ (by exact ⟨by exact ⟨by show _ ≤ i + 1; omega, by show i + 1 ≤ _; omega⟩, by exact hn.next hil hi.1 (by omega) (by omega)⟩)
     ·have hb25R := hb25; try simp only [zz] at hb25
      have hie : s.size ≤ i := by omega
      have hnb := hn.bnd (by omega);refine pwp_exit (exit_seq ?_);clear hK24 K24;refine exit_loop (exit_here (seq_norm (hK17 _ ?_))); clear hK17 K17;refine pwp_seq_seq (pwp_seq_plain rfl fun K36 hK36 => p_mS rfl (p_e rfl (e_eq rfl rfl) (p_end (hK36 _ ?_)))); clear hK36 K36;refine pwp_seq_cond rfl fun K37 hK37 => ⟨fun hb38 => ?_, fun hb38 => ?_⟩
      ·have hb38R := hb38; try simp only [zz] at hb38
       refine pwp_plain rfl fun K39 hK39 => p_mS rfl (p_e rfl (e_neg rfl (by omega)) (p_aS rfl (p_end (hK39 _ ?_)))); clear hK39 K39;refine seq_norm (hK37 _ ?_); clear hK37 K37;refine pwp_seq_plain rfl fun K40 hK40 => p_mS rfl (p_mS rfl (p_call rfl (.cons inn_sc .nil) (DecimalC _ (by first | omega | (have := hnb; omega))) (p_mS rfl (p_e rfl (e_seq rfl rfl) (p_aS rfl (p_aS rfl ?_))))));refine p_end (hK40 _ ?_); clear hK40 K40;refine pwp_ret (end2 (v := .sc _) (w := .sc _) rfl rfl ?_)
       first
         | exact num_o (refn_len (fr := 1) (by first | exact mag_yes hng | exact mag_no hng) (by omega) (by omega))
         | exact num_o (refn_bad (fr := 1) (by first | exact mag_yes hng | exact mag_no hng) (hn.bad hil (by omega)))
         | exact num_o ((refn_end (fr := 1) (by first | exact mag_yes hng | exact mag_no hng) (by omega) (by omega) hng (hn.done hie)).trans rfl)
         | (exfalso; omega)
         | (exfalso; simp_all; done)
      ·have hb38R := hb38; try simp only [zz] at hb38
       refine pwp_skip (seq_norm (hK37 _ ?_)); clear hK37 K37;refine pwp_seq_plain rfl fun K41 hK41 => p_mS rfl (p_mS rfl (p_call rfl (.cons inn_sc .nil) (DecimalC _ (by first | omega | (have := hnb; omega))) (p_mS rfl (p_e rfl (e_seq rfl rfl) (p_aS rfl (p_aS rfl ?_))))));refine p_end (hK41 _ ?_); clear hK41 K41;refine pwp_ret (end2 (v := .sc _) (w := .sc _) rfl rfl ?_)
       first
         | exact num_o (refn_len (fr := 1) (by first | exact mag_yes hng | exact mag_no hng) (by omega) (by omega))
         | exact num_o (refn_bad (fr := 1) (by first | exact mag_yes hng | exact mag_no hng) (hn.bad hil (by omega)))
         | exact num_o ((refn_end (fr := 1) (by first | exact mag_yes hng | exact mag_no hng) (by omega) (by omega) hng (hn.done hie)).trans rfl)
         | (exfalso; omega)
         | (exfalso; simp_all; done)
  ·have hb6R := hb6; try simp only [zz] at hb6
   refine pwp_skip (seq_norm (hK5 _ ?_)); clear hK5 K5;refine pwp_seq_seq ?_;have hng := neg_no (s := s) (by omega);refine pwp_seq_gops rfl fun K42 hK42 => g_begin (g_mS rfl rfl (g_e rfl (e_lenS rfl (by kernel_rfl)) (g_mS rfl rfl (g_e rfl (e_sub rfl rfl (by first | omega | (simp only [lM] at *; omega))) (g_e rfl (e_lt rfl rfl) (g_mS rfl rfl ?_))))));refine g_cases (fun hb43 => ?_) (fun hb43 => ?_)
   ·have hb43R := hb43; try simp only [zz] at hb43
    iterate 6 refine g_skip rfl rfl rfl ?_
    refine g_pT rfl rfl rfl (g_end (ds := [23, 24, 25, 26, 27, 28]) rfl rfl (hK42 _ ?_)); clear hK42 K42;refine pwp_seq_cond (t := true) rfl fun K44 hK44 => ⟨fun _ => ?_, nofun⟩
    refine pwp_seq_plain rfl fun K45 hK45 => p_aS rfl (p_aS rfl (p_end (hK45 _ ?_))); clear hK45 K45;refine pwp_ret (ret_seq (end2 (v := .sc _) (w := .sc _) rfl rfl ?_))
    first
      | exact num_o (refn_len (fr := 0) (by first | exact mag_yes hng | exact mag_no hng) (by omega) (by omega))
      | exact num_o (refn_bad (fr := 0) (by first | exact mag_yes hng | exact mag_no hng) (hn.bad hil (by omega)))
      | exact num_o ((refn_end (fr := 0) (by first | exact mag_yes hng | exact mag_no hng) (by omega) (by omega) hng (hn.done hie)).trans rfl)
      | (exfalso; omega)
      | (exfalso; simp_all; done)
   ·have hb43R := hb43; try simp only [zz] at hb43
    refine g_mS rfl rfl (g_e rfl (e_lenS rfl (by kernel_rfl)) (g_mS rfl rfl (g_e rfl (e_sub rfl rfl (by first | omega | (simp only [lM] at *; omega))) (g_mS rfl rfl (g_e rfl (e_gt rfl rfl) (g_pF rfl rfl rfl (g_end (ds := [23, 24, 25, 26, 27, 28]) rfl rfl (hK42 _ ?_)))))))); clear hK42 K42;refine pwp_seq_cond rfl fun K46 hK46 => ⟨fun hb47 => ?_, fun hb47 => ?_⟩
    ·have hb47R := hb47; try simp only [zz] at hb47
     refine pwp_seq_plain rfl fun K48 hK48 => p_aS rfl (p_aS rfl (p_end (hK48 _ ?_))); clear hK48 K48;refine pwp_ret (ret_seq (end2 (v := .sc _) (w := .sc _) rfl rfl ?_))
     first
       | exact num_o (refn_len (fr := 0) (by first | exact mag_yes hng | exact mag_no hng) (by omega) (by omega))
       | exact num_o (refn_bad (fr := 0) (by first | exact mag_yes hng | exact mag_no hng) (hn.bad hil (by omega)))
       | exact num_o ((refn_end (fr := 0) (by first | exact mag_yes hng | exact mag_no hng) (by omega) (by omega) hng (hn.done hie)).trans rfl)
       | (exfalso; omega)
       | (exfalso; simp_all; done)
    ·have hb47R := hb47; try simp only [zz] at hb47
     refine pwp_skip (seq_norm (hK46 _ ?_)); clear hK46 K46;refine pwp_seq_plain rfl fun K49 hK49 => p_aS rfl (p_end (hK49 _ ?_)); clear hK49 K49;refine pwp_seq_seq (pwp_seq_plain rfl fun K50 hK50 => p_mS rfl (p_aS rfl (p_end (hK50 _ ?_)))); clear hK50 K50;refine pwp_seq_block fun K51 hK51 => pwp_loopR (α := Nat × Int) [0, 6] (fun (a52 : Nat × Int) => [(7, .int (a52.2)), (8, .int (a52.1))]) (fun (a52 : Nat × Int) (h : Heap) (_ : Nat → Nat) => (0 ≤ (a52.1) ∧ (a52.1) ≤ s.size) ∧ (NumTo (ls s) 0 (a52.1) (a52.2))) (fun (a52 : Nat × Int) => s.size - (a52.1)) (0, 0) (by exact ⟨rfl, rfl, trivial⟩) (by exact ⟨by exact ⟨Nat.le_refl _, by omega⟩, by exact NumTo.start⟩) fun a52 r53 h54 c55 hj56 => ?_;obtain ⟨i, n⟩ := a52;obtain ⟨hi, hn⟩ := hj56;try dsimp only at hi
     try dsimp only at hn
     show pwp _ _ (loopQ _ _ _) ⟨sets (mix _ _ _) [(7, .int n), (8, .int i)], _, _⟩;refine pwp_seq_seq (pwp_seq_plain rfl fun K57 hK57 => p_mS rfl (p_mS rfl (p_e rfl (e_lenS rfl (by kernel_rfl)) (p_e rfl (e_lt rfl rfl) (p_end (hK57 _ ?_)))))); clear hK57 K57;refine pwp_seq_cond rfl fun K58 hK58 => ⟨fun hb59 => ?_, fun hb59 => ?_⟩
     ·have hb59R := hb59; try simp only [zz] at hb59
      have hil : i < s.size := by omega
      have hnb := hn.bnd (by omega);have hby := byteAt_le s i;refine pwp_skip (seq_norm (hK58 _ ?_)); clear hK58 K58;refine pwp_seq_block fun K60 hK60 => pwp_seq_seq (pwp_seq_gops rfl fun K61 hK61 => g_begin (g_mS rfl rfl (g_mS rfl rfl (g_e rfl (e_indexN (n := i) rfl rfl rfl (by kernel_rfl) (by omega)) (g_e rfl (e_lt rfl rfl) ?_)))));refine g_mS rfl rfl ?_;refine g_cases (fun hb62 => ?_) (fun hb62 => ?_)
      ·have hb62R := hb62; try simp only [zz] at hb62
       iterate 4 refine g_skip rfl rfl rfl ?_
       refine g_pT rfl rfl rfl (g_end (ds := [42, 43, 44, 45]) rfl rfl (hK61 _ ?_)); clear hK61 K61;refine pwp_seq_cond (t := true) rfl fun K63 hK63 => ⟨fun _ => ?_, nofun⟩
       refine pwp_seq_plain rfl fun K64 hK64 => p_aS rfl (p_aS rfl (p_end (hK64 _ ?_))); clear hK64 K64;refine pwp_ret (ret_seq (ret_block (ret_seq (ret_loop (ret_block (ret_seq (end2 (v := .sc _) (w := .sc _) rfl rfl ?_)))))))
       first
         | exact num_o (refn_len (fr := 0) (by first | exact mag_yes hng | exact mag_no hng) (by omega) (by omega))
         | exact num_o (refn_bad (fr := 0) (by first | exact mag_yes hng | exact mag_no hng) (hn.bad hil (by omega)))
         | exact num_o ((refn_end (fr := 0) (by first | exact mag_yes hng | exact mag_no hng) (by omega) (by omega) hng (hn.done hie)).trans rfl)
         | (exfalso; omega)
         | (exfalso; simp_all; done)
      ·have hb62R := hb62; try simp only [zz] at hb62
       refine g_mS rfl rfl (g_mS rfl rfl (g_e rfl (e_indexN (n := i) rfl rfl rfl (by kernel_rfl) (by omega)) (g_e rfl (e_gt rfl rfl) (g_pF rfl rfl rfl (g_end (ds := [42, 43, 44, 45]) rfl rfl (hK61 _ ?_)))))); clear hK61 K61;refine pwp_seq_cond rfl fun K65 hK65 => ⟨fun hb66 => ?_, fun hb66 => ?_⟩
       ·have hb66R := hb66; try simp only [zz] at hb66
        refine pwp_seq_plain rfl fun K67 hK67 => p_aS rfl (p_aS rfl (p_end (hK67 _ ?_))); clear hK67 K67;refine pwp_ret (ret_seq (ret_block (ret_seq (ret_loop (ret_block (ret_seq (end2 (v := .sc _) (w := .sc _) rfl rfl ?_)))))))
        first
          | exact num_o (refn_len (fr := 0) (by first | exact mag_yes hng | exact mag_no hng) (by omega) (by omega))
          | exact num_o (refn_bad (fr := 0) (by first | exact mag_yes hng | exact mag_no hng) (hn.bad hil (by omega)))
          | exact num_o ((refn_end (fr := 0) (by first | exact mag_yes hng | exact mag_no hng) (by omega) (by omega) hng (hn.done hie)).trans rfl)
          | (exfalso; omega)
          | (exfalso; simp_all; done)
       ·have hb66R := hb66; try simp only [zz] at hb66
        refine pwp_skip (seq_norm (hK65 _ ?_)); clear hK65 K65;refine pwp_plain rfl fun K68 hK68 => p_mS rfl (p_e rfl (e_mul rfl rfl (by first | omega | (simp only [lM] at *; omega))) (p_mS rfl (p_mS rfl (p_e rfl (e_indexN (n := i) rfl rfl rfl (by kernel_rfl) (by omega)) (p_e rfl (e_subU rfl rfl (by omega)) (p_e rfl (e_conv rfl (by kernel_rfl) (by kernel_rfl) (by exact wrap64 (by omega) (by omega))) ?_))))));refine p_e rfl (e_adL rfl rfl) (p_aS rfl (p_end (hK68 _ ?_))); clear hK68 K68;refine block_norm (seq_norm (hK60 _ ?_)); clear hK60 K60;refine pwp_plain rfl fun K69 hK69 => p_mS rfl (p_e rfl (e_adL rfl rfl) (p_aS rfl (p_end (hK69 _ ?_)))); clear hK69 K69;exact loop_again ((i + 1, 10 * n + (byteAt s i - 48))) (by show _ < _; simp only; omega) ⟨rfl, rfl, trivial⟩ ⟨rfl, rfl, trivial⟩ (by exact ⟨by exact ⟨by show _ ≤ i + 1; omega, by show i + 1 ≤ _; omega⟩, by exact hn.next hil hi.1 (by omega) (by omega)⟩)
     ·have hb59R := hb59; try simp only [zz] at hb59
      have hie : s.size ≤ i := by omega
      have hnb := hn.bnd (by omega);refine pwp_exit (exit_seq ?_);clear hK58 K58;refine exit_loop (exit_here (seq_norm (hK51 _ ?_))); clear hK51 K51;refine pwp_seq_seq (pwp_seq_plain rfl fun K70 hK70 => p_mS rfl (p_e rfl (e_eq rfl rfl) (p_end (hK70 _ ?_)))); clear hK70 K70;refine pwp_seq_cond rfl fun K71 hK71 => ⟨fun hb72 => ?_, fun hb72 => ?_⟩
      ·have hb72R := hb72; try simp only [zz] at hb72
       refine pwp_plain rfl fun K73 hK73 => p_mS rfl (p_e rfl (e_neg rfl (by omega)) (p_aS rfl (p_end (hK73 _ ?_)))); clear hK73 K73;refine seq_norm (hK71 _ ?_); clear hK71 K71;refine pwp_seq_plain rfl fun K74 hK74 => p_mS rfl (p_mS rfl (p_call rfl (.cons inn_sc .nil) (DecimalC _ (by first | omega | (have := hnb; omega))) (p_mS rfl (p_e rfl (e_seq rfl rfl) (p_aS rfl (p_aS rfl ?_))))));refine p_end (hK74 _ ?_); clear hK74 K74;refine pwp_ret (end2 (v := .sc _) (w := .sc _) rfl rfl ?_)
       first
         | exact num_o (refn_len (fr := 0) (by first | exact mag_yes hng | exact mag_no hng) (by omega) (by omega))
         | exact num_o (refn_bad (fr := 0) (by first | exact mag_yes hng | exact mag_no hng) (hn.bad hil (by omega)))
         | exact num_o ((refn_end (fr := 0) (by first | exact mag_yes hng | exact mag_no hng) (by omega) (by omega) hng (hn.done hie)).trans rfl)
         | (exfalso; omega)
         | (exfalso; simp_all; done)
      ·have hb72R := hb72; try simp only [zz] at hb72
       refine pwp_skip (seq_norm (hK71 _ ?_)); clear hK71 K71;refine pwp_seq_plain rfl fun K75 hK75 => p_mS rfl (p_mS rfl (p_call rfl (.cons inn_sc .nil) (DecimalC _ (by first | omega | (have := hnb; omega))) (p_mS rfl (p_e rfl (e_seq rfl rfl) (p_aS rfl (p_aS rfl ?_))))));refine p_end (hK75 _ ?_); clear hK75 K75;refine pwp_ret (end2 (v := .sc _) (w := .sc _) rfl rfl ?_)
       first
         | exact num_o (refn_len (fr := 0) (by first | exact mag_yes hng | exact mag_no hng) (by omega) (by omega))
         | exact num_o (refn_bad (fr := 0) (by first | exact mag_yes hng | exact mag_no hng) (hn.bad hil (by omega)))
         | exact num_o ((refn_end (fr := 0) (by first | exact mag_yes hng | exact mag_no hng) (by omega) (by omega) hng (hn.done hie)).trans rfl)
         | (exfalso; omega)
         | (exfalso; simp_all; done)
 ·have hb4R := hb4; try simp only [zz] at hb4
  iterate 3 refine g_skip rfl rfl rfl ?_
  refine g_pF rfl rfl rfl (g_end (ds := [13, 14, 15]) rfl rfl (hK3 _ ?_)); clear hK3 K3;refine pwp_seq_cond (t := false) rfl fun K76 hK76 => ⟨nofun, fun _ => ?_⟩
  refine pwp_skip (seq_norm (hK76 _ ?_)); clear hK76 K76;refine pwp_seq_seq ?_;have hng := neg_no (s := s) (by omega);refine pwp_seq_gops rfl fun K77 hK77 => g_begin (g_mS rfl rfl (g_e rfl (e_lenS rfl (by kernel_rfl)) (g_mS rfl rfl (g_e rfl (e_sub rfl rfl (by first | omega | (simp only [lM] at *; omega))) (g_e rfl (e_lt rfl rfl) (g_mS rfl rfl ?_))))));refine g_cases (fun hb78 => ?_) (fun hb78 => ?_)
  ·have hb78R := hb78; try simp only [zz] at hb78
   iterate 6 refine g_skip rfl rfl rfl ?_
   refine g_pT rfl rfl rfl (g_end (ds := [23, 24, 25, 26, 27, 28]) rfl rfl (hK77 _ ?_)); clear hK77 K77;refine pwp_seq_cond (t := true) rfl fun K79 hK79 => ⟨fun _ => ?_, nofun⟩
   refine pwp_seq_plain rfl fun K80 hK80 => p_aS rfl (p_aS rfl (p_end (hK80 _ ?_))); clear hK80 K80;refine pwp_ret (ret_seq (end2 (v := .sc _) (w := .sc _) rfl rfl ?_))
   first
     | exact num_o (refn_len (fr := 0) (by first | exact mag_yes hng | exact mag_no hng) (by omega) (by omega))
     | exact num_o (refn_bad (fr := 0) (by first | exact mag_yes hng | exact mag_no hng) (hn.bad hil (by omega)))
     | exact num_o ((refn_end (fr := 0) (by first | exact mag_yes hng | exact mag_no hng) (by omega) (by omega) hng (hn.done hie)).trans rfl)
     | (exfalso; omega)
     | (exfalso; simp_all; done)
  ·have hb78R := hb78; try simp only [zz] at hb78
   refine g_mS rfl rfl (g_e rfl (e_lenS rfl (by kernel_rfl)) (g_mS rfl rfl (g_e rfl (e_sub rfl rfl (by first | omega | (simp only [lM] at *; omega))) (g_mS rfl rfl (g_e rfl (e_gt rfl rfl) (g_pF rfl rfl rfl (g_end (ds := [23, 24, 25, 26, 27, 28]) rfl rfl (hK77 _ ?_)))))))); clear hK77 K77;refine pwp_seq_cond rfl fun K81 hK81 => ⟨fun hb82 => ?_, fun hb82 => ?_⟩
   ·have hb82R := hb82; try simp only [zz] at hb82
    refine pwp_seq_plain rfl fun K83 hK83 => p_aS rfl (p_aS rfl (p_end (hK83 _ ?_))); clear hK83 K83;refine pwp_ret (ret_seq (end2 (v := .sc _) (w := .sc _) rfl rfl ?_))
    first
      | exact num_o (refn_len (fr := 0) (by first | exact mag_yes hng | exact mag_no hng) (by omega) (by omega))
      | exact num_o (refn_bad (fr := 0) (by first | exact mag_yes hng | exact mag_no hng) (hn.bad hil (by omega)))
      | exact num_o ((refn_end (fr := 0) (by first | exact mag_yes hng | exact mag_no hng) (by omega) (by omega) hng (hn.done hie)).trans rfl)
      | (exfalso; omega)
      | (exfalso; simp_all; done)
   ·have hb82R := hb82; try simp only [zz] at hb82
    refine pwp_skip (seq_norm (hK81 _ ?_)); clear hK81 K81;refine pwp_seq_plain rfl fun K84 hK84 => p_aS rfl (p_end (hK84 _ ?_)); clear hK84 K84;refine pwp_seq_seq (pwp_seq_plain rfl fun K85 hK85 => p_mS rfl (p_aS rfl (p_end (hK85 _ ?_)))); clear hK85 K85;refine pwp_seq_block fun K86 hK86 => pwp_loopR (α := Nat × Int) [0, 6] (fun (a87 : Nat × Int) => [(7, .int (a87.2)), (8, .int (a87.1))]) (fun (a87 : Nat × Int) (h : Heap) (_ : Nat → Nat) => (0 ≤ (a87.1) ∧ (a87.1) ≤ s.size) ∧ (NumTo (ls s) 0 (a87.1) (a87.2))) (fun (a87 : Nat × Int) => s.size - (a87.1)) (0, 0) (by exact ⟨rfl, rfl, trivial⟩) (by exact ⟨by exact ⟨Nat.le_refl _, by omega⟩, by exact NumTo.start⟩) fun a87 r88 h89 c90 hj91 => ?_;obtain ⟨i, n⟩ := a87;obtain ⟨hi, hn⟩ := hj91;try dsimp only at hi
    try dsimp only at hn
    show pwp _ _ (loopQ _ _ _) ⟨sets (mix _ _ _) [(7, .int n), (8, .int i)], _, _⟩;refine pwp_seq_seq (pwp_seq_plain rfl fun K92 hK92 => p_mS rfl (p_mS rfl (p_e rfl (e_lenS rfl (by kernel_rfl)) (p_e rfl (e_lt rfl rfl) (p_end (hK92 _ ?_)))))); clear hK92 K92;refine pwp_seq_cond rfl fun K93 hK93 => ⟨fun hb94 => ?_, fun hb94 => ?_⟩
    ·have hb94R := hb94; try simp only [zz] at hb94
     have hil : i < s.size := by omega
     have hnb := hn.bnd (by omega);have hby := byteAt_le s i;refine pwp_skip (seq_norm (hK93 _ ?_)); clear hK93 K93;refine pwp_seq_block fun K95 hK95 => pwp_seq_seq (pwp_seq_gops rfl fun K96 hK96 => g_begin (g_mS rfl rfl (g_mS rfl rfl (g_e rfl (e_indexN (n := i) rfl rfl rfl (by kernel_rfl) (by omega)) (g_e rfl (e_lt rfl rfl) ?_)))));refine g_mS rfl rfl ?_;refine g_cases (fun hb97 => ?_) (fun hb97 => ?_)
     ·have hb97R := hb97; try simp only [zz] at hb97
      iterate 4 refine g_skip rfl rfl rfl ?_
      refine g_pT rfl rfl rfl (g_end (ds := [42, 43, 44, 45]) rfl rfl (hK96 _ ?_)); clear hK96 K96;refine pwp_seq_cond (t := true) rfl fun K98 hK98 => ⟨fun _ => ?_, nofun⟩
      refine pwp_seq_plain rfl fun K99 hK99 => p_aS rfl (p_aS rfl (p_end (hK99 _ ?_))); clear hK99 K99;refine pwp_ret (ret_seq (ret_block (ret_seq (ret_loop (ret_block (ret_seq (end2 (v := .sc _) (w := .sc _) rfl rfl ?_)))))))
      first
        | exact num_o (refn_len (fr := 0) (by first | exact mag_yes hng | exact mag_no hng) (by omega) (by omega))
        | exact num_o (refn_bad (fr := 0) (by first | exact mag_yes hng | exact mag_no hng) (hn.bad hil (by omega)))
        | exact num_o ((refn_end (fr := 0) (by first | exact mag_yes hng | exact mag_no hng) (by omega) (by omega) hng (hn.done hie)).trans rfl)
        | (exfalso; omega)
        | (exfalso; simp_all; done)
     ·have hb97R := hb97; try simp only [zz] at hb97
      refine g_mS rfl rfl (g_mS rfl rfl (g_e rfl (e_indexN (n := i) rfl rfl rfl (by kernel_rfl) (by omega)) (g_e rfl (e_gt rfl rfl) (g_pF rfl rfl rfl (g_end (ds := [42, 43, 44, 45]) rfl rfl (hK96 _ ?_)))))); clear hK96 K96;refine pwp_seq_cond rfl fun K100 hK100 => ⟨fun hb101 => ?_, fun hb101 => ?_⟩
      ·have hb101R := hb101; try simp only [zz] at hb101
       refine pwp_seq_plain rfl fun K102 hK102 => p_aS rfl (p_aS rfl (p_end (hK102 _ ?_))); clear hK102 K102;refine pwp_ret (ret_seq (ret_block (ret_seq (ret_loop (ret_block (ret_seq (end2 (v := .sc _) (w := .sc _) rfl rfl ?_)))))))
       first
         | exact num_o (refn_len (fr := 0) (by first | exact mag_yes hng | exact mag_no hng) (by omega) (by omega))
         | exact num_o (refn_bad (fr := 0) (by first | exact mag_yes hng | exact mag_no hng) (hn.bad hil (by omega)))
         | exact num_o ((refn_end (fr := 0) (by first | exact mag_yes hng | exact mag_no hng) (by omega) (by omega) hng (hn.done hie)).trans rfl)
         | (exfalso; omega)
         | (exfalso; simp_all; done)
      ·have hb101R := hb101; try simp only [zz] at hb101
       refine pwp_skip (seq_norm (hK100 _ ?_)); clear hK100 K100;refine pwp_plain rfl fun K103 hK103 => p_mS rfl (p_e rfl (e_mul rfl rfl (by first | omega | (simp only [lM] at *; omega))) (p_mS rfl (p_mS rfl (p_e rfl (e_indexN (n := i) rfl rfl rfl (by kernel_rfl) (by omega)) (p_e rfl (e_subU rfl rfl (by omega)) (p_e rfl (e_conv rfl (by kernel_rfl) (by kernel_rfl) (by exact wrap64 (by omega) (by omega))) ?_))))));refine p_e rfl (e_adL rfl rfl) (p_aS rfl (p_end (hK103 _ ?_))); clear hK103 K103;refine block_norm (seq_norm (hK95 _ ?_)); clear hK95 K95;refine pwp_plain rfl fun K104 hK104 => p_mS rfl (p_e rfl (e_adL rfl rfl) (p_aS rfl (p_end (hK104 _ ?_)))); clear hK104 K104;exact loop_again ((i + 1, 10 * n + (byteAt s i - 48))) (by show _ < _; simp only; omega) ⟨rfl, rfl, trivial⟩ ⟨rfl, rfl, trivial⟩ (by exact ⟨by exact ⟨by show _ ≤ i + 1; omega, by show i + 1 ≤ _; omega⟩, by exact hn.next hil hi.1 (by omega) (by omega)⟩)
    ·have hb94R := hb94; try simp only [zz] at hb94
     have hie : s.size ≤ i := by omega
     have hnb := hn.bnd (by omega);refine pwp_exit (exit_seq ?_);clear hK93 K93;refine exit_loop (exit_here (seq_norm (hK86 _ ?_))); clear hK86 K86;refine pwp_seq_seq (pwp_seq_plain rfl fun K105 hK105 => p_mS rfl (p_e rfl (e_eq rfl rfl) (p_end (hK105 _ ?_)))); clear hK105 K105;refine pwp_seq_cond rfl fun K106 hK106 => ⟨fun hb107 => ?_, fun hb107 => ?_⟩
     ·have hb107R := hb107; try simp only [zz] at hb107
      refine pwp_plain rfl fun K108 hK108 => p_mS rfl (p_e rfl (e_neg rfl (by omega)) (p_aS rfl (p_end (hK108 _ ?_)))); clear hK108 K108;refine seq_norm (hK106 _ ?_); clear hK106 K106;refine pwp_seq_plain rfl fun K109 hK109 => p_mS rfl (p_mS rfl (p_call rfl (.cons inn_sc .nil) (DecimalC _ (by first | omega | (have := hnb; omega))) (p_mS rfl (p_e rfl (e_seq rfl rfl) (p_aS rfl (p_aS rfl ?_))))));refine p_end (hK109 _ ?_); clear hK109 K109;refine pwp_ret (end2 (v := .sc _) (w := .sc _) rfl rfl ?_)
      first
        | exact num_o (refn_len (fr := 0) (by first | exact mag_yes hng | exact mag_no hng) (by omega) (by omega))
        | exact num_o (refn_bad (fr := 0) (by first | exact mag_yes hng | exact mag_no hng) (hn.bad hil (by omega)))
        | exact num_o ((refn_end (fr := 0) (by first | exact mag_yes hng | exact mag_no hng) (by omega) (by omega) hng (hn.done hie)).trans rfl)
        | (exfalso; omega)
        | (exfalso; simp_all; done)
     ·have hb107R := hb107; try simp only [zz] at hb107
      refine pwp_skip (seq_norm (hK106 _ ?_)); clear hK106 K106;refine pwp_seq_plain rfl fun K110 hK110 => p_mS rfl (p_mS rfl (p_call rfl (.cons inn_sc .nil) (DecimalC _ (by first | omega | (have := hnb; omega))) (p_mS rfl (p_e rfl (e_seq rfl rfl) (p_aS rfl (p_aS rfl ?_))))));refine p_end (hK110 _ ?_); clear hK110 K110;refine pwp_ret (end2 (v := .sc _) (w := .sc _) rfl rfl ?_)
      first
        | exact num_o (refn_len (fr := 0) (by first | exact mag_yes hng | exact mag_no hng) (by omega) (by omega))
        | exact num_o (refn_bad (fr := 0) (by first | exact mag_yes hng | exact mag_no hng) (hn.bad hil (by omega)))
        | exact num_o ((refn_end (fr := 0) (by first | exact mag_yes hng | exact mag_no hng) (by omega) (by omega) hng (hn.done hie)).trans rfl)
        | (exfalso; omega)
        | (exfalso; simp_all; done)
end Go.Proofs.YtmlhhdiomijpfaaGreatDoor

set_option linter.unusedSimpArgs false
set_option linter.unusedVariables false
set_option maxRecDepth 100000
namespace Go.Proofs.YtmlhhdiomijpfaaGreatDoor
open Go Go.Pv Go.Tx
end Go.Proofs.YtmlhhdiomijpfaaGreatDoor

set_option linter.unusedSimpArgs false
set_option linter.unusedVariables false
set_option maxRecDepth 100000
namespace Go.Proofs.YtmlhhdiomijpfaaGreatDoor
open Go Go.Pv Go.Tx
theorem cutB_get {c : UInt8} {s x : ByteArray} {k : Nat} (hx : (cutB c s)[k]? = some x) : (cutL c (ls s))[k]? = some (ls x) := by
 unfold cutB at hx;rw [List.getElem?_map, Option.map_eq_some_iff] at hx;obtain ⟨w, hw, rfl⟩ := hx;exact hw
theorem cutB_le {c : UInt8} {s x : ByteArray} {k : Nat} (hx : (cutB c s)[k]? = some x) : x.size ≤ s.size := by
 have := (cutL_mem (List.mem_of_getElem? (cutB_get hx))).1
 rwa [ls_len, ls_len] at this
theorem splitC (s : ByteArray) (hs : s.size ≤ 1000000) : PCalls Tryz.prog 30 [.str s, .str ⟨#[32]⟩] (.lit false 1 ((cutB 32 s).map cb)) := splitP s 32 (by omega)
end Go.Proofs.YtmlhhdiomijpfaaGreatDoor
