import Derived.Test.YtjihcgcbnbaclaaDoorRAsk
import Derived.Test.YtjihcgcbnbaclaaDoorRCor1
set_option linter.unusedSimpArgs false
set_option linter.unusedVariables false
set_option maxRecDepth 100000
namespace Go.Proofs.YtjihcgcbnbaclaaDoor.Y9
open Go Go.Pv Go.Proofs.YtjihcgcbnbaclaaDoor
theorem has_hit {S : Bool} {p x : ByteArray} {l : List ByteArray} (h : S = (decide (p = x) || hasS l p)) (hp : x = p) : true = S := by rw [h, hp]; simp
theorem has_miss {S : Bool} {p x : ByteArray} {l : List ByteArray} (h : S = (decide (p = x) || hasS l p)) (hp : ¬ x = p) : S = hasS l p := by rw [h, decide_eq_false (fun e => hp e.symm)]; rfl
theorem fr15 : (inFrame Tryd.f15.ntmps (Tryd.f15.body.getD .skip) && Tryd.f15.results.toList.all (resScope Tryd.f15.ntmps)) = true := by kernel_rfl
theorem HasText (l : List ByteArray) (p : ByteArray) (hl : l.length ≤ 1000000) : PCalls Tryd.prog 15 [.lit true 1 (l.map cb), .str p] (.bool (hasS l p)) := by
 refine PCalls.of_code Tryd.func15 rfl rfl (by kernel_rfl) mixed fr15 (by show _ ≤ 18; simp) (.sc _) (pwp_seq_plain rfl fun K1 hK1 => p_step rfl (e_assign (v := .sc _) rfl) trivial (p_end (hK1 _ ?_))); clear hK1 K1;refine pwp_seq_seq (pwp_seq_plain rfl fun K2 hK2 => p_step rfl (e_assign (v := .sc _) rfl) trivial (p_end (hK2 _ ?_))); clear hK2 K2;refine pwp_seq_block fun K3 hK3 => pwp_loopR (α := Nat) [0, 1] (fun (k : Nat) => [(5, .int (k))]) (fun (k : Nat) (h : Heap) (_ : Nat → Nat) => ((k) ≤ l.length) ∧ (hasS l p = hasS (l.drop (k)) p)) (fun (k : Nat) => l.length - (k)) (0) (by exact ⟨rfl, trivial⟩) (by exact ⟨by exact Nat.zero_le _, by exact rfl⟩) fun k r4 h5 c6 hj7 => ?_;obtain ⟨hk, hinv⟩ := hj7;try dsimp only at hk
 try dsimp only at hinv
 show pwp _ _ (loopQ _ _ _) ⟨sets (mix _ _ _) [(5, .int k)], _, _⟩;refine pwp_seq_seq (pwp_seq_plain rfl fun K8 hK8 => p_step rfl (e_move (v := .sc _) rfl) trivial (p_step rfl (e_move (v := .lit _ _ _) rfl) trivial (p_step rfl (e_len rfl (by kernel_rfl)) trivial (p_step rfl (e_lt rfl rfl) trivial (p_end (hK8 _ ?_)))))); clear hK8 K8;refine pwp_seq_cond rfl fun K9 hK9 => ⟨fun hb10 => ?_, fun hb10 => ?_⟩
 ·have hb10R := hb10; try simp only [z1, z2, z3, z4, z5, z6, ne_eq, z7, z8, z9, z10, z11, z12] at hb10
  obtain ⟨x, hx, hd, ht⟩ := get_lt (xs := l) (i := k) (by omega);rw [hd] at hinv; simp only [hasS] at hinv;refine pwp_skip (seq_norm (hK9 _ ?_)); clear hK9 K9;refine pwp_seq_block fun K11 hK11 => pwp_seq_plain rfl fun K12 hK12 => p_step rfl (e_move (v := .lit _ _ _) rfl) trivial (p_step rfl (e_move (v := .sc _) rfl) trivial (p_step rfl (e_ixa rfl rfl (by kernel_rfl) (by kernel_rfl) (by simp only [List.length_map]; omega)) trivial (p_step rfl (e_load (v := .sc _) rfl (by kernel_rfl) (by kernel_rfl) (by kernel_rfl) (by simp only [List.length_map]; omega) (by decide) ((cell_map hx _).trans rfl)) trivial (p_step rfl (e_move (v := .sc _) rfl) trivial (p_step rfl (e_seq rfl rfl) trivial ?_)))));refine p_end (hK12 _ ?_); clear hK12 K12;refine pwp_cond rfl (fun hb13 => ?_) (fun hb13 => ?_)
  ·have hb13R := hb13; try simp only [z1, z2, z3, z4, z5, z6, ne_eq, z7, z8, z9, z10, z11, z12] at hb13
   refine pwp_seq_plain rfl fun K14 hK14 => p_step rfl (e_assign (v := .sc _) rfl) trivial (p_end (hK14 _ ?_)); clear hK14 K14;refine pwp_ret (ret_block (ret_seq (ret_loop (ret_block (ret_seq (end1 (v := .sc _) rfl ?_))))))
   first
     | exact out_b (has_hit hinv (by assumption))
     | exact out_b hinv.symm
  ·have hb13R := hb13; try simp only [z1, z2, z3, z4, z5, z6, ne_eq, z7, z8, z9, z10, z11, z12] at hb13
   refine pwp_skip (block_norm (seq_norm (hK11 _ ?_))); clear hK11 K11;refine pwp_plain rfl fun K15 hK15 => p_step rfl (e_move (v := .sc _) rfl) trivial (p_step rfl (e_add rfl rfl (by omega)) trivial (p_step rfl (e_assign (v := .sc _) rfl) trivial (p_end (hK15 _ ?_)))); clear hK15 K15;exact loop_again (k + 1) (by show _ < _; omega) ⟨rfl, rfl, trivial⟩ ⟨rfl, trivial⟩ (by exact ⟨by show _ + 1 ≤ _; omega, by exact has_miss hinv (by assumption)⟩)
 ·have hb10R := hb10; try simp only [z1, z2, z3, z4, z5, z6, ne_eq, z7, z8, z9, z10, z11, z12] at hb10
  obtain rfl : k = l.length := by omega
  rw [List.drop_length] at hinv; simp only [hasS] at hinv;refine pwp_exit (exit_seq ?_);clear hK9 K9;refine exit_loop (exit_here (seq_norm (hK3 _ ?_))); clear hK3 K3;refine pwp_seq_plain rfl fun K16 hK16 => p_step rfl (e_assign (v := .sc _) rfl) trivial (p_end (hK16 _ ?_)); clear hK16 K16;refine pwp_ret (end1 (v := .sc _) rfl ?_)
  first
    | exact out_b (has_hit hinv (by assumption))
    | exact out_b hinv.symm
def uptoE (evs : List Ev) (day : Int) : List Ev := evs.filter fun e => decide (e.day ≤ day)
def lastE (k : Int) (p : ByteArray) : Int → Nat → List Ev → Int
 | at', _, [] => at'
 | at', i, x :: l => lastE k p (if x.kind = k ∧ x.platform = p then (i : Int) else at') (i + 1) l
theorem last_bnd (k : Int) (p : ByteArray) : ∀ (l : List Ev) (a : Int) (i : Nat), -1 ≤ a → a < (i : Int) → -1 ≤ lastE k p a i l ∧ lastE k p a i l < (i : Int) + l.length
 | [], a, i, h1, h2 => by simp [lastE]; omega
 | x :: l, a, i, h1, h2 => by
   have := last_bnd k p l (if x.kind = k ∧ x.platform = p then (i : Int) else a) (i + 1) (by split <;> omega) (by split <;> omega);unfold lastE;rw [List.length_cons]; omega
theorem last_bnd0 (k : Int) (p : ByteArray) (l : List Ev) : -1 ≤ lastE k p (-1) 0 l ∧ lastE k p (-1) 0 l < l.length := by
 have := last_bnd k p l (-1) 0 (by omega) (by omega); omega
def inspB (p : ByteArray) (x : Ev) : Bool := (decide (x.kind = 1) || decide (x.kind = 2)) && decide (x.platform = p)
def freStep (p : ByteArray) (a : Int) (i : Nat) (x : Ev) : Int :=
 let b : Int := if (inspB p x && x.passed) = true then (i : Int) else a
 if ((inspB p x && !x.passed) || decide (x.kind = 3)) = true then -1 else b
def freE (p : ByteArray) : Int → Nat → List Ev → Int
 | a, _, [] => a
 | a, i, x :: l => freE p (freStep p a i x) (i + 1) l
theorem fre_bnd (p : ByteArray) : ∀ (l : List Ev) (a : Int) (i : Nat), -1 ≤ a → a < (i : Int) → -1 ≤ freE p a i l ∧ freE p a i l < (i : Int) + l.length
 | [], a, i, h1, h2 => by simp [freE]; omega
 | x :: l, a, i, h1, h2 => by
   have hb : -1 ≤ freStep p a i x ∧ freStep p a i x < ((i + 1 : Nat) : Int) := by
     unfold freStep;simp only;split
     · omega
     · split <;> omega
   have := fre_bnd p l (freStep p a i x) (i + 1) hb.1 hb.2;unfold freE;rw [List.length_cons]; omega
end Go.Proofs.YtjihcgcbnbaclaaDoor.Y9
