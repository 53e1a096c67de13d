import Derived.Test.YtmlhhdiomijpfaaGreatDoorENam
import Derived.Test.YtmlhhdiomijpfaaGreatDoorPvGh
set_option linter.unusedSimpArgs false
set_option linter.unusedVariables false
set_option maxRecDepth 100000
namespace Go.Proofs.YtmlhhdiomijpfaaGreatDoor.E7
open Go Go.Pv Go.Proofs.YtmlhhdiomijpfaaGreatDoor
theorem ints_ext {l m : List Int} (h1 : l.length = m.length) (h2 : ∀ i, i < l.length → at0 l i = at0 m i) : l = m := by
 apply List.ext_getElem h1;intro i h3 h4;rw [at0_elem h3, at0_elem h4]; exact h2 i h3
theorem upto_step {p : Nat → Prop} {k : Nat} (h : ∀ i, i < k → p i) (h2 : p k) : ∀ i, i < k + 1 → p i := fun i h3 => by
 rcases Nat.lt_succ_iff_lt_or_eq.1 h3 with h4 | h4
 · exact h i h4
 · exact h4 ▸ h2
theorem upto_0 {p : Nat → Prop} : ∀ i, i < 0 → p i := fun i h => absurd h (Nat.not_lt_zero _)
theorem ints_no {l m : List Int} {k : Nat} (h : at0 l k ≠ at0 m k) : false = decide (l = m) := by
 symm; simp only [decide_eq_false_iff_not]
 rintro rfl; exact h rfl
theorem ints_len {l m : List Int} (h : l.length ≠ m.length) : false = decide (l = m) := by
 symm; simp only [decide_eq_false_iff_not]
 rintro rfl; exact h rfl
theorem ints_yes {l m : List Int} {k : Nat} (h1 : l.length = m.length) (h : ∀ i, i < k → at0 l i = at0 m i) (h2 : l.length ≤ k) : true = decide (l = m) := by
 symm; simp only [decide_eq_true_eq];exact ints_ext h1 fun i h3 => h i (by omega)
def hasB (bs : List Bool) (l : List Int) : Bool := l.all fun z => bs.getD z.toNat false
theorem has_no {bs : List Bool} {l : List Int} {k : Nat} (h1 : k < l.length) (h : bs.getD (at0 l k).toNat false = false) : false = hasB bs l := by
 symm; simp only [hasB, List.all_eq_false];exact ⟨_, at0_mem h1, by rw [h]; decide⟩
theorem has_yes {bs : List Bool} {l : List Int} {k : Nat} (h : ∀ i, i < k → bs.getD (at0 l i).toNat false = true) (h2 : l.length ≤ k) : true = hasB bs l := by
 symm; simp only [hasB, List.all_eq_true];intro z hz;obtain ⟨i, h3, rfl⟩ := mem_at0 hz;exact h i (by omega)
theorem bs_get {bs : List Bool} {z : Int} (h : 0 ≤ z ∧ z < bs.length) : bs[z.toNat]? = some (bs.getD z.toNat false) := by
 have : z.toNat < bs.length := by omega
 simp [List.getElem?_eq_getElem this]
def ixI (K : Int → Bool) (l : List Int) : Int := match l.findIdx? K with | some i => (i : Int) | none => -1
theorem ixI_hit {K : Int → Bool} {l : List Int} {k : Nat} (h1 : k < l.length) (h : ∀ i, i < k → K (at0 l i) = false) (h2 : K (at0 l k) = true) : (k : Int) = ixI K l := by
 have : l.findIdx? K = some k := by
   rw [List.findIdx?_eq_some_iff_getElem];refine ⟨h1, by rw [at0_elem h1]; exact h2, fun j hj => by rw [at0_elem (by omega), h j hj]; decide⟩
 rw [ixI, this]
theorem ixI_no {K : Int → Bool} {l : List Int} {k : Nat} (h : ∀ i, i < k → K (at0 l i) = false) (h2 : l.length ≤ k) : -1 = ixI K l := by
 have : l.findIdx? K = none := by
   rw [List.findIdx?_eq_none_iff];intro z hz;obtain ⟨i, h3, rfl⟩ := mem_at0 hz;exact h i (by omega)
 rw [ixI, this]
theorem ixI_any {K : Int → Bool} {l : List Int} : decide (0 ≤ ixI K l) = l.any K := by
 rw [Bool.eq_iff_iff, decide_eq_true_eq, ixI, List.any_eq_true];cases h : l.findIdx? K with
 | none =>
   rw [List.findIdx?_eq_none_iff] at h;simp only [Int.reduceNeg];exact ⟨fun h => absurd h (by decide), fun ⟨x, h1, h2⟩ => by rw [h x h1] at h2; cases h2⟩
 | some i =>
   rw [List.findIdx?_eq_some_iff_getElem] at h;obtain ⟨h1, h2, _⟩ := h;exact ⟨fun _ => ⟨_, List.getElem_mem h1, h2⟩, fun _ => Int.natCast_nonneg i⟩
def outB (n : Int) (z : Int) : Bool := !decide (0 ≤ z ∧ z ≤ n - 1)
def listE (l : List Int) (n : Int) : Int := if l.any (outB n) then 6 else if ascB l then 0 else 10
def fewB (xs : List Task) (n : Int) : Bool := decide ((xs.length : Int) ≤ n ∧ ∀ x ∈ xs, x.needs.length ≤ 30 ∧ x.name.size ≤ 30 ∧ x.trade.size ≤ 30)
theorem few_len {xs : List Task} {n : Int} (h : n < (xs.length : Int)) : false = fewB xs n := by
 symm; simp only [fewB, decide_eq_false_iff_not]; omega
theorem few_x {xs : List Task} {n : Int} {k : Nat} {x : Task} (hx : xs[k]? = some x) (h : ¬ (x.needs.length ≤ 30 ∧ x.name.size ≤ 30 ∧ x.trade.size ≤ 30)) : false = fewB xs n := by
 symm; simp only [fewB, decide_eq_false_iff_not];exact fun h1 => h (h1.2 x (List.mem_of_getElem? hx))
theorem few_ok {xs : List Task} {n : Int} (h1 : (xs.length : Int) ≤ n) (h : ∀ x ∈ xs, x.needs.length ≤ 30 ∧ x.name.size ≤ 30 ∧ x.trade.size ≤ 30) : true = fewB xs n := by
 symm; simp only [fewB, decide_eq_true_eq]; exact ⟨h1, h⟩
theorem all_snoc7 {p : Task → Prop} {xs : List Task} {k : Nat} {x : Task} (ht : xs.take (k + 1) = xs.take k ++ [x]) (h : ∀ y ∈ xs.take k, p y) (h2 : p x) : ∀ y ∈ xs.take (k + 1), p y := by
 rw [ht]; intro y hy;rcases List.mem_append.1 hy with h3 | h3
 · exact h y h3
 · rw [List.mem_singleton.1 h3]; exact h2
theorem listE_6 {l : List Int} {n : Int} (h : l.any (outB n) = true) : 6 = listE l n := by rw [listE, if_pos h]
theorem listE_10 {l : List Int} {n : Int} (h : l.any (outB n) = false) (h2 : ascB l = false) : 10 = listE l n := by simp [listE, h, h2]
theorem listE_0 {l : List Int} {n : Int} (h : l.any (outB n) = false) (h2 : ascB l = true) : 0 = listE l n := by simp [listE, h, h2]
theorem fr82 : (inFrame Tryz.f82.ntmps (Tryz.f82.body.getD .skip) && Tryz.f82.results.toList.all (resScope Tryz.f82.ntmps)) = true := by kernel_rfl
theorem hasC (bs : List Bool) (l : List Int) (hl : l.length ≤ 1000000) (hb : ∀ z ∈ l, 0 ≤ z ∧ z < bs.length) : PCalls Tryz.prog 82 [.lit true 1 (bs.map cbo), .lit true 1 (l.map ci)] (.bool (hasB bs l)) := by
 refine PCalls.of_code Tryz.func82 rfl rfl (by kernel_rfl) mixed fr82 (by show _ ≤ 20; simp) (.sc _) (pwp_seq_plain rfl fun K1 hK1 => p_aS rfl (p_end (hK1 _ ?_))); clear hK1 K1;refine pwp_seq_seq (pwp_seq_plain rfl fun K2 hK2 => p_aS rfl (p_end (hK2 _ ?_))); clear hK2 K2;refine pwp_seq_block fun K3 hK3 => pwp_loopR (α := Nat) [0, 1] (fun (k : Nat) => [(5, .int (k))]) (fun (k : Nat) (h : Heap) (_ : Nat → Nat) => ((k) ≤ l.length) ∧ (∀ i, i < (k) → bs.getD (at0 l i).toNat false = true)) (fun (k : Nat) => l.length - (k)) (0) (by exact ⟨rfl, trivial⟩) (by exact ⟨by exact Nat.zero_le _, by exact upto_0⟩) fun k r4 h5 c6 hj7 => ?_;obtain ⟨hk, hinv⟩ := hj7;try dsimp only at hk
 try dsimp only at hinv
 show pwp _ _ (loopQ _ _ _) ⟨sets (mix _ _ _) [(5, .int k)], _, _⟩;refine pwp_seq_seq (pwp_seq_plain rfl fun K8 hK8 => p_mS rfl (p_e rfl (e_move (v := .lit _ _ _) rfl) (p_e rfl (e_len rfl (by kernel_rfl)) (p_e rfl (e_lt rfl rfl) (p_end (hK8 _ ?_)))))); clear hK8 K8;refine pwp_seq_cond rfl fun K9 hK9 => ⟨fun hb10 => ?_, fun hb10 => ?_⟩
 ·have hb10R := hb10; try simp only [zz] at hb10
  have hz := hb _ (at0_mem (l := l) (i := k) (by omega));refine pwp_skip (seq_norm (hK9 _ ?_)); clear hK9 K9;refine pwp_seq_block fun K11 hK11 => pwp_seq_plain rfl fun K12 hK12 => p_e rfl (e_move (v := .lit _ _ _) rfl) (p_e rfl (e_move (v := .lit _ _ _) rfl) (p_mS rfl (p_e rfl (e_ixL rfl rfl) (p_e rfl (e_lL (v := .sc _) rfl ((cell_map (at0_get (l := l) (i := k) (by omega)) _).trans rfl)) (p_e rfl (e_ixL rfl rfl) ?_)))));refine p_e rfl (e_lL (v := .sc _) rfl ((cell_map (bs_get hz) _).trans rfl)) (p_e rfl (e_not rfl) (p_end (hK12 _ ?_))); clear hK12 K12;refine pwp_cond rfl (fun hb13 => ?_) (fun hb13 => ?_)
  ·have hb13R := hb13; try simp only [zz] at hb13
   refine pwp_seq_plain rfl fun K14 hK14 => p_aS rfl (p_end (hK14 _ ?_)); clear hK14 K14;refine pwp_ret (ret_block (ret_seq (ret_loop (ret_block (ret_seq (end1 (v := .sc _) rfl ?_))))));exact out_b (has_no (k := k) (by omega) (by first | assumption | simp_all))
  have hb13R := hb13; try simp only [zz] at hb13
  refine pwp_skip (block_norm (seq_norm (hK11 _ ?_))); clear hK11 K11;refine pwp_plain rfl fun K15 hK15 => p_mS rfl (p_e rfl (e_add rfl rfl (by omega)) (p_aS rfl (p_end (hK15 _ ?_)))); clear hK15 K15;exact loop_again (k + 1) (by show _ < _; omega) ⟨rfl, rfl, trivial⟩ ⟨rfl, trivial⟩ (by exact ⟨by show _ + 1 ≤ _; omega, by exact upto_step (p := fun i => bs.getD (at0 l i).toNat false = true) hinv (by simpa using (by assumption))⟩)
 have hb10R := hb10; try simp only [zz] at hb10
 refine pwp_exit (exit_seq ?_);clear hK9 K9;refine exit_loop (exit_here (seq_norm (hK3 _ ?_))); clear hK3 K3;refine pwp_seq_plain rfl fun K16 hK16 => p_aS rfl (p_end (hK16 _ ?_)); clear hK16 K16;refine pwp_ret (end1 (v := .sc _) rfl ?_);exact out_b (has_yes hinv (by omega))
theorem fr39 : (inFrame Tryz.f39.ntmps (Tryz.f39.body.getD .skip) && Tryz.f39.results.toList.all (resScope Tryz.f39.ntmps)) = true := by kernel_rfl
theorem IntsC (l m : List Int) (hl : l.length ≤ 1000000) : PCalls Tryz.prog 39 [.lit true 1 (l.map ci), .lit true 1 (m.map ci)] (.bool (decide (l = m))) := by
 refine PCalls.of_code Tryz.func39 rfl rfl (by kernel_rfl) mixed fr39 (by show _ ≤ 26; simp) (.sc _) (pwp_seq_plain rfl fun K1 hK1 => p_aS rfl (p_end (hK1 _ ?_))); clear hK1 K1;refine pwp_seq_seq (pwp_seq_plain rfl fun K2 hK2 => p_e rfl (e_move (v := .lit _ _ _) rfl) (p_e rfl (e_len rfl (by kernel_rfl)) (p_e rfl (e_move (v := .lit _ _ _) rfl) (p_e rfl (e_len rfl (by kernel_rfl)) (p_e rfl (e_ne rfl rfl) (p_end (hK2 _ ?_))))))); clear hK2 K2;refine pwp_seq_cond rfl fun K3 hK3 => ⟨fun hb4 => ?_, fun hb4 => ?_⟩
 ·have hb4R := hb4; try simp only [zz] at hb4
  refine pwp_seq_plain rfl fun K5 hK5 => p_aS rfl (p_end (hK5 _ ?_)); clear hK5 K5;refine pwp_ret (ret_seq (end1 (v := .sc _) rfl ?_));exact out_b (ints_len (by omega))
 have hb4R := hb4; try simp only [zz] at hb4
 refine pwp_skip (seq_norm (hK3 _ ?_)); clear hK3 K3;refine pwp_seq_seq (pwp_seq_plain rfl fun K6 hK6 => p_aS rfl (p_end (hK6 _ ?_))); clear hK6 K6;refine pwp_seq_block fun K7 hK7 => pwp_loopR (α := Nat) [0, 1] (fun (k : Nat) => [(5, .int (k))]) (fun (k : Nat) (h : Heap) (_ : Nat → Nat) => ((k) ≤ l.length) ∧ (∀ i, i < (k) → at0 l i = at0 m i)) (fun (k : Nat) => l.length - (k)) (0) (by exact ⟨rfl, trivial⟩) (by exact ⟨by exact Nat.zero_le _, by exact upto_0⟩) fun k r8 h9 c10 hj11 => ?_;obtain ⟨hk, hinv⟩ := hj11;try dsimp only at hk
 try dsimp only at hinv
 show pwp _ _ (loopQ _ _ _) ⟨sets (mix _ _ _) [(5, .int k)], _, _⟩;refine pwp_seq_seq (pwp_seq_plain rfl fun K12 hK12 => p_mS rfl (p_e rfl (e_move (v := .lit _ _ _) rfl) (p_e rfl (e_len rfl (by kernel_rfl)) (p_e rfl (e_lt rfl rfl) (p_end (hK12 _ ?_)))))); clear hK12 K12;refine pwp_seq_cond rfl fun K13 hK13 => ⟨fun hb14 => ?_, fun hb14 => ?_⟩
 ·have hb14R := hb14; try simp only [zz] at hb14
  refine pwp_skip (seq_norm (hK13 _ ?_)); clear hK13 K13;refine pwp_seq_block fun K15 hK15 => pwp_seq_gops rfl fun K16 hK16 => g_begin (g_e rfl (e_move (v := .lit _ _ _) rfl) (g_mS rfl rfl (g_e rfl (e_ixL rfl rfl) (g_e rfl (e_lL (v := .sc _) rfl ((cell_map (at0_get (l := l) (i := k) (by omega)) _).trans rfl)) (g_e rfl (e_move (v := .lit _ _ _) rfl) ?_)))));refine g_mS rfl rfl (g_e rfl (e_ixL rfl rfl) (g_e rfl (e_lL (v := .sc _) rfl ((cell_map (at0_get (l := m) (i := k) (by omega)) _).trans rfl)) (g_e rfl (e_ne rfl rfl) (g_end (ds := []) (by kernel_rfl) rfl (hK16 _ ?_))))); clear hK16 K16;refine pwp_cond rfl (fun hb17 => ?_) (fun hb17 => ?_)
  ·have hb17R := hb17; try simp only [zz] at hb17
   refine pwp_seq_plain rfl fun K18 hK18 => p_aS rfl (p_end (hK18 _ ?_)); clear hK18 K18;refine pwp_ret (ret_block (ret_seq (ret_loop (ret_block (ret_seq (end1 (v := .sc _) rfl ?_))))));exact out_b (ints_no (k := k) (by assumption))
  have hb17R := hb17; try simp only [zz] at hb17
  refine pwp_skip (block_norm (seq_norm (hK15 _ ?_))); clear hK15 K15;refine pwp_plain rfl fun K19 hK19 => p_mS rfl (p_e rfl (e_add rfl rfl (by omega)) (p_aS rfl (p_end (hK19 _ ?_)))); clear hK19 K19;exact loop_again (k + 1) (by show _ < _; omega) ⟨rfl, rfl, trivial⟩ ⟨rfl, trivial⟩ (by exact ⟨by show _ + 1 ≤ _; omega, by exact upto_step (p := fun i => at0 l i = at0 m i) hinv (by first | assumption | (exact Decidable.not_not.1 (by assumption)))⟩)
 have hb14R := hb14; try simp only [zz] at hb14
 refine pwp_exit (exit_seq ?_);clear hK13 K13;refine exit_loop (exit_here (seq_norm (hK7 _ ?_))); clear hK7 K7;refine pwp_seq_plain rfl fun K20 hK20 => p_aS rfl (p_end (hK20 _ ?_)); clear hK20 K20;refine pwp_ret (end1 (v := .sc _) rfl ?_);exact out_b (ints_yes (by omega) hinv (by omega))
theorem fr151 : (inFrame Tryz.f151.ntmps (Tryz.f151.body.getD .skip) && Tryz.f151.results.toList.all (resScope Tryz.f151.ntmps)) = true := by kernel_rfl
theorem IndexFZ (fv : FuncId) (rows : Pv.Rows) (K : Int → Bool) (l : List Int) (hl : l.length ≤ 1000000) (hK : ∀ i, i < l.length → PCalls Tryz.prog fv [.int (at0 l i), .lptr true 1 rows 0 0] (.bool (K (at0 l i)))) : PCalls Tryz.prog 151 [.lit true 1 (l.map ci), .func (.func fv) [] [.lptr true 1 rows 0 0]] (.int (ixI K l)) := by
 refine PCalls.of_code Tryz.func151 rfl rfl (by kernel_rfl) mixed fr151 (by show _ ≤ 19; simp) (.sc _) (pwp_seq_plain rfl fun K1 hK1 => p_aS rfl (p_end (hK1 _ ?_))); clear hK1 K1;refine pwp_seq_seq (pwp_seq_plain rfl fun K2 hK2 => p_e rfl (e_move (v := .lit _ _ _) rfl) (p_e rfl (e_len rfl (by kernel_rfl)) (p_mS rfl (p_end (hK2 _ ?_))))); clear hK2 K2;refine pwp_seq_block fun K3 hK3 => pwp_loopR (α := Nat) [0, 1, 7] (fun (k : Nat) => [(8, .int (k))]) (fun (k : Nat) (h : Heap) (_ : Nat → Nat) => ((k) ≤ l.length) ∧ (∀ i, i < (k) → K (at0 l i) = false)) (fun (k : Nat) => l.length - (k)) (0) (by exact ⟨rfl, trivial⟩) (by exact ⟨by exact Nat.zero_le _, by exact upto_0⟩) fun k r4 h5 c6 hj7 => ?_;obtain ⟨hk, hinv⟩ := hj7;try dsimp only at hk
 try dsimp only at hinv
 show pwp _ _ (loopQ _ _ _) ⟨sets (mix _ _ _) [(8, .int k)], _, _⟩;refine pwp_seq_plain rfl fun K8 hK8 => p_e rfl (e_lt rfl rfl) (p_end (hK8 _ ?_)); clear hK8 K8;refine pwp_seq_cond rfl fun K9 hK9 => ⟨fun hb10 => ?_, fun hb10 => ?_⟩
 ·have hb10R := hb10; try simp only [zz] at hb10
  refine pwp_skip (seq_norm (hK9 _ ?_)); clear hK9 K9;refine pwp_seq_block fun K11 hK11 => pwp_seq_plain rfl fun K12 hK12 => p_mS rfl (p_aS rfl (p_end (hK12 _ ?_))); clear hK12 K12;refine pwp_seq_plain rfl fun K13 hK13 => p_e rfl (e_move (v := .func _ _ _) rfl) (p_e rfl (e_move (v := .lit _ _ _) rfl) (p_mS rfl (p_e rfl (e_ixL rfl rfl) (p_e rfl (e_lL (v := .sc _) rfl ((cell_map (at0_get (l := l) (i := k) (by omega)) _).trans rfl)) (p_call rfl (.cons inn_sc (.cons inn_lptr .nil)) (hK k (by omega)) (p_end (hK13 _ ?_))))))); clear hK13 K13;refine pwp_cond rfl (fun hb14 => ?_) (fun hb14 => ?_)
  ·have hb14R := hb14; try simp only [zz] at hb14
   refine pwp_seq_plain rfl fun K15 hK15 => p_mS rfl (p_aS rfl (p_end (hK15 _ ?_))); clear hK15 K15;refine pwp_ret (ret_block (ret_seq (ret_loop (ret_block (ret_seq (end1 (v := .sc _) rfl ?_))))));exact out_i (ixI_hit (by omega) hinv (by assumption))
  have hb14R := hb14; try simp only [zz] at hb14
  refine pwp_skip (block_norm (seq_norm (hK11 _ ?_))); clear hK11 K11;refine pwp_plain rfl fun K16 hK16 => p_e rfl (e_add rfl rfl (by omega)) (p_mS rfl (p_end (hK16 _ ?_))); clear hK16 K16;exact loop_again (k + 1) (by show _ < _; omega) ⟨rfl, rfl, rfl, trivial⟩ ⟨rfl, trivial⟩ (by exact ⟨by show _ + 1 ≤ _; omega, by exact upto_step (p := fun i => K (at0 l i) = false) hinv (by simpa using (by assumption))⟩)
 have hb10R := hb10; try simp only [zz] at hb10
 refine pwp_exit (exit_seq ?_);clear hK9 K9;refine exit_loop (exit_here (seq_norm (hK3 _ ?_))); clear hK3 K3;refine pwp_seq_plain rfl fun K17 hK17 => p_aS rfl (p_end (hK17 _ ?_)); clear hK17 K17;refine pwp_ret (end1 (v := .sc _) rfl ?_);exact out_i (ixI_no hinv (by omega))
theorem fr110 : (inFrame Tryz.f110.ntmps (Tryz.f110.body.getD .skip) && Tryz.f110.results.toList.all (resScope Tryz.f110.ntmps)) = true := by kernel_rfl
theorem ContainsFZ (fv : FuncId) (rows : Pv.Rows) (K : Int → Bool) (l : List Int) (hl : l.length ≤ 1000000) (hK : ∀ i, i < l.length → PCalls Tryz.prog fv [.int (at0 l i), .lptr true 1 rows 0 0] (.bool (K (at0 l i)))) : PCalls Tryz.prog 110 [.lit true 1 (l.map ci), .func (.func fv) [] [.lptr true 1 rows 0 0]] (.bool (l.any K)) := by
 refine PCalls.of_code Tryz.func110 rfl rfl (by kernel_rfl) mixed fr110 (by show _ ≤ 9; simp) (.sc _) (pwp_seq_plain rfl fun K1 hK1 => p_aS rfl (p_end (hK1 _ ?_))); clear hK1 K1;refine pwp_seq_plain rfl fun K2 hK2 => p_e rfl (e_move (v := .lit _ _ _) rfl) (p_e rfl (e_move (v := .func _ _ _) rfl) (p_call rfl (.cons inn_lit (.cons (inn_clos1 (.lptr id)) .nil)) (IndexFZ fv rows K l hl hK) (p_e rfl (e_ge rfl rfl) (p_aS rfl (p_end (hK2 _ ?_)))))); clear hK2 K2;refine pwp_ret (end1 (v := .sc _) rfl ?_);exact out_b ixI_any
theorem fr111 : (inFrame Tryz.f111.ntmps (Tryz.f111.body.getD .skip) && Tryz.f111.results.toList.all (resScope Tryz.f111.ntmps)) = true := by kernel_rfl
theorem listed1 (z n : Int) (hn : 0 ≤ n ∧ n ≤ 1000000) : PCalls Tryz.prog 111 [.int z, .lptr true 1 [[.int n]] 0 0] (.bool (outB n z)) := by
 refine PCalls.of_code Tryz.func111 rfl rfl (by kernel_rfl) mixed fr111 (by show _ ≤ 9; simp) (.sc _) (pwp_seq_plain rfl fun K1 hK1 => p_aS rfl (p_end (hK1 _ ?_))); clear hK1 K1;refine pwp_seq_plain rfl fun K2 hK2 => p_mS rfl (p_e rfl (e_load (v := .sc _) rfl (by kernel_rfl) (by kernel_rfl) (by kernel_rfl) (by exact Nat.zero_lt_one) (by decide) rfl) (p_e rfl (e_sub rfl rfl (by omega)) (p_call rfl (.cons inn_sc (.cons inn_sc (.cons inn_sc .nil))) (within _ _ _) (p_e rfl (e_not rfl) (p_aS rfl (p_end (hK2 _ ?_))))))); clear hK2 K2;refine pwp_ret (end1 (v := .sc _) rfl ?_);exact out_b rfl
theorem fr76 : (inFrame Tryz.f76.ntmps (Tryz.f76.body.getD .skip) && Tryz.f76.results.toList.all (resScope Tryz.f76.ntmps)) = true := by kernel_rfl
theorem listedC (l : List Int) (n : Int) (hl : l.length ≤ 1000000) (hn : 0 ≤ n ∧ n ≤ 1000000) : PCalls Tryz.prog 76 [.lit true 1 (l.map ci), .int n] (.int (listE l n)) := by
 refine PCalls.of_code Tryz.func76 rfl rfl (by kernel_rfl) mixed fr76 (by show _ ≤ 11; simp) (.sc _) (pwp_seq_plain rfl fun K1 hK1 => p_new rfl (e_box1 rfl rfl) ⟨rfl, by decide⟩ (p_aS rfl (p_end (hK1 _ ?_)))); clear hK1 K1;refine pwp_seq_seq (pwp_seq_plain rfl fun K2 hK2 => p_e rfl (e_move (v := .lit _ _ _) rfl) (p_e rfl (e_mkf rfl) (p_call rfl (.cons inn_lit (.cons (inn_clos1 (inn_ptr (hset_self _ _ _) (pure_one (.sc _)))) .nil)) (ContainsFZ 111 [[.int n]] (outB n) l hl (fun i hi => listed1 _ _ hn)) (p_end (hK2 _ ?_))))); clear hK2 K2;refine pwp_seq_cond rfl fun K3 hK3 => ⟨fun hb4 => ?_, fun hb4 => ?_⟩
 ·have hb4R := hb4; try simp only [zz] at hb4
  refine pwp_seq_plain rfl fun K5 hK5 => p_aS rfl (p_end (hK5 _ ?_)); clear hK5 K5;refine pwp_ret (ret_seq (end1 (v := .sc _) rfl ?_));exact out_i (listE_6 (by assumption))
 have hb4R := hb4; try simp only [zz] at hb4
 refine pwp_skip (seq_norm (hK3 _ ?_)); clear hK3 K3;refine pwp_seq_seq (pwp_seq_plain rfl fun K6 hK6 => p_e rfl (e_move (v := .lit _ _ _) rfl) (p_call rfl (.cons inn_lit .nil) (rising _ (by omega)) (p_e rfl (e_not rfl) (p_end (hK6 _ ?_))))); clear hK6 K6;refine pwp_seq_cond rfl fun K7 hK7 => ⟨fun hb8 => ?_, fun hb8 => ?_⟩
 ·have hb8R := hb8; try simp only [zz] at hb8
  refine pwp_seq_plain rfl fun K9 hK9 => p_aS rfl (p_end (hK9 _ ?_)); clear hK9 K9;refine pwp_ret (ret_seq (end1 (v := .sc _) rfl ?_));exact out_i (listE_10 (by assumption) (by assumption))
 have hb8R := hb8; try simp only [zz] at hb8
 refine pwp_skip (seq_norm (hK7 _ ?_)); clear hK7 K7;refine pwp_seq_plain rfl fun K10 hK10 => p_aS rfl (p_end (hK10 _ ?_)); clear hK10 K10;refine pwp_ret (end1 (v := .sc _) rfl ?_);exact out_i (listE_0 (by assumption) (by assumption))
theorem fr12 : (inFrame Tryz.f12.ntmps (Tryz.f12.body.getD .skip) && Tryz.f12.results.toList.all (resScope Tryz.f12.ntmps)) = true := by kernel_rfl
theorem FewC (xs : List Task) (n : Int) (hl : xs.length ≤ 9223372036854775807) : PCalls Tryz.prog 12 [.lit true 6 (xs.map Task.enc), .int n] (.bool (fewB xs n)) := by
 refine PCalls.of_code Tryz.func12 rfl rfl (by kernel_rfl) mixed fr12 (by show _ ≤ 41; simp) (.sc _) (pwp_seq_plain rfl fun K1 hK1 => p_aS rfl (p_end (hK1 _ ?_))); clear hK1 K1;refine pwp_seq_seq (pwp_seq_plain rfl fun K2 hK2 => p_e rfl (e_move (v := .lit _ _ _) rfl) (p_e rfl (e_len rfl (by kernel_rfl)) (p_mS rfl (p_e rfl (e_gt rfl rfl) (p_end (hK2 _ ?_)))))); clear hK2 K2;refine pwp_seq_cond rfl fun K3 hK3 => ⟨fun hb4 => ?_, fun hb4 => ?_⟩
 ·have hb4R := hb4; try simp only [zz] at hb4
  refine pwp_seq_plain rfl fun K5 hK5 => p_aS rfl (p_end (hK5 _ ?_)); clear hK5 K5;refine pwp_ret (ret_seq (end1 (v := .sc _) rfl ?_));exact out_b (few_len (by omega))
 have hb4R := hb4; try simp only [zz] at hb4
 refine pwp_skip (seq_norm (hK3 _ ?_)); clear hK3 K3;refine pwp_seq_seq (pwp_seq_plain rfl fun K6 hK6 => p_aS rfl (p_end (hK6 _ ?_))); clear hK6 K6;refine pwp_seq_block fun K7 hK7 => pwp_loopR (α := Nat) [0] (fun (k : Nat) => [(5, .int (k))]) (fun (k : Nat) (h : Heap) (_ : Nat → Nat) => ((k) ≤ xs.length) ∧ (∀ x ∈ xs.take (k), x.needs.length ≤ 30 ∧ x.name.size ≤ 30 ∧ x.trade.size ≤ 30)) (fun (k : Nat) => xs.length - (k)) (0) (by exact ⟨rfl, trivial⟩) (by exact ⟨by exact Nat.zero_le _, by simp⟩) fun k r8 h9 c10 hj11 => ?_;obtain ⟨hk, hq⟩ := hj11;try dsimp only at hk
 try dsimp only at hq
 show pwp _ _ (loopQ _ _ _) ⟨sets (mix _ _ _) [(5, .int k)], _, _⟩;refine pwp_seq_seq (pwp_seq_plain rfl fun K12 hK12 => p_mS rfl (p_e rfl (e_move (v := .lit _ _ _) rfl) (p_e rfl (e_len rfl (by kernel_rfl)) (p_e rfl (e_lt rfl rfl) (p_end (hK12 _ ?_)))))); clear hK12 K12;refine pwp_seq_cond rfl fun K13 hK13 => ⟨fun hb14 => ?_, fun hb14 => ?_⟩
 ·have hb14R := hb14; try simp only [zz] at hb14
  obtain ⟨x, hx, hd, ht⟩ := get_lt (xs := xs) (i := k) (by omega);refine pwp_skip (seq_norm (hK13 _ ?_)); clear hK13 K13;refine pwp_seq_block fun K15 hK15 => pwp_seq_gops rfl fun K16 hK16 => g_begin (g_e rfl (e_move (v := .lit _ _ _) rfl) (g_mS rfl rfl (g_e rfl (e_ixa rfl rfl (by kernel_rfl) (by kernel_rfl) (by simp only [lM]; omega)) (g_e rfl (e_fb pl6 rfl) (g_e rfl (e_load (v := .lit _ _ _) rfl (by kernel_rfl) (by kernel_rfl) (by kernel_rfl) (by simp only [lM]; omega) (by decide) ((cell_map hx _).trans rfl)) ?_)))));refine g_e rfl (e_len rfl (by kernel_rfl)) (g_e rfl (e_gt rfl rfl) (g_mS rfl rfl ?_));refine g_cases (fun hb17 => ?_) (fun hb17 => ?_)
  ·have hb17R := hb17; try simp only [zz] at hb17
   iterate 7 refine g_skip rfl rfl rfl ?_
   refine g_pT rfl rfl rfl (g_mS rfl rfl ?_);iterate 7 refine g_skip rfl rfl rfl ?_
   refine g_pT rfl rfl rfl (g_end (ds := [24, 25, 26, 27, 28, 29, 30, 33, 34, 35, 36, 37, 38, 39]) rfl rfl (hK16 _ ?_)); clear hK16 K16;refine pwp_cond (t := true) rfl (fun _ => ?_) nofun;refine pwp_seq_plain rfl fun K18 hK18 => p_aS rfl (p_end (hK18 _ ?_)); clear hK18 K18;refine pwp_ret (ret_block (ret_seq (ret_loop (ret_block (ret_seq (end1 (v := .sc _) rfl ?_))))));exact out_b (few_x hx (by simp only [lM] at *; omega))
  have hb17R := hb17; try simp only [zz] at hb17
  refine g_e rfl (e_move (v := .lit _ _ _) rfl) (g_mS rfl rfl (g_e rfl (e_ixa rfl rfl (by kernel_rfl) (by kernel_rfl) (by simp only [lM]; omega)) (g_e rfl (e_fb pl6 rfl) (g_e rfl (e_load (v := .sc _) rfl (by kernel_rfl) (by kernel_rfl) (by kernel_rfl) (by simp only [lM]; omega) (by decide) ((cell_map hx _).trans rfl)) (g_e rfl (e_lenS rfl (by kernel_rfl)) (g_e rfl (e_gt rfl rfl) (g_pF rfl rfl rfl ?_)))))));refine g_mS rfl rfl ?_;refine g_cases (fun hb19 => ?_) (fun hb19 => ?_)
  ·have hb19R := hb19; try simp only [zz] at hb19
   iterate 7 refine g_skip rfl rfl rfl ?_
   refine g_pT rfl rfl rfl (g_end (ds := [24, 25, 26, 27, 28, 29, 30, 33, 34, 35, 36, 37, 38, 39]) rfl rfl (hK16 _ ?_)); clear hK16 K16;refine pwp_cond (t := true) rfl (fun _ => ?_) nofun;refine pwp_seq_plain rfl fun K20 hK20 => p_aS rfl (p_end (hK20 _ ?_)); clear hK20 K20;refine pwp_ret (ret_block (ret_seq (ret_loop (ret_block (ret_seq (end1 (v := .sc _) rfl ?_))))));exact out_b (few_x hx (by simp only [lM] at *; omega))
  have hb19R := hb19; try simp only [zz] at hb19
  refine g_e rfl (e_move (v := .lit _ _ _) rfl) (g_mS rfl rfl (g_e rfl (e_ixa rfl rfl (by kernel_rfl) (by kernel_rfl) (by simp only [lM]; omega)) (g_e rfl (e_fb pl6 rfl) (g_e rfl (e_load (v := .sc _) rfl (by kernel_rfl) (by kernel_rfl) (by kernel_rfl) (by simp only [lM]; omega) (by decide) ((cell_map hx _).trans rfl)) (g_e rfl (e_lenS rfl (by kernel_rfl)) (g_e rfl (e_gt rfl rfl) (g_pF rfl rfl rfl ?_)))))));refine g_end (ds := [24, 25, 26, 27, 28, 29, 30, 33, 34, 35, 36, 37, 38, 39]) rfl rfl (hK16 _ ?_); clear hK16 K16;refine pwp_cond rfl (fun hb21 => ?_) (fun hb21 => ?_)
  ·have hb21R := hb21; try simp only [zz] at hb21
   refine pwp_seq_plain rfl fun K22 hK22 => p_aS rfl (p_end (hK22 _ ?_)); clear hK22 K22;refine pwp_ret (ret_block (ret_seq (ret_loop (ret_block (ret_seq (end1 (v := .sc _) rfl ?_))))));exact out_b (few_x hx (by simp only [lM] at *; omega))
  have hb21R := hb21; try simp only [zz] at hb21
  refine pwp_skip (block_norm (seq_norm (hK15 _ ?_))); clear hK15 K15;refine pwp_plain rfl fun K23 hK23 => p_mS rfl (p_e rfl (e_add rfl rfl (by omega)) (p_aS rfl (p_end (hK23 _ ?_)))); clear hK23 K23;exact loop_again (k + 1) (by show _ < _; omega) ⟨rfl, trivial⟩ ⟨rfl, trivial⟩ (by exact ⟨by show _ + 1 ≤ _; omega, by exact all_snoc7 ht hq (by simp only [lM] at *; omega)⟩)
 have hb14R := hb14; try simp only [zz] at hb14
 obtain rfl : k = xs.length := by omega
 rw [List.take_length] at hq;refine pwp_exit (exit_seq ?_);clear hK13 K13;refine exit_loop (exit_here (seq_norm (hK7 _ ?_))); clear hK7 K7;refine pwp_seq_plain rfl fun K24 hK24 => p_aS rfl (p_end (hK24 _ ?_)); clear hK24 K24;refine pwp_ret (end1 (v := .sc _) rfl ?_);exact out_b (few_ok (by omega) hq)
end Go.Proofs.YtmlhhdiomijpfaaGreatDoor.E7
