/- Decimal numbers as the reference writes them. No conditions. -/
import Derived.Test.YtmlhhdiomijpfaaGreatDoorCut
set_option linter.unusedSimpArgs false
set_option linter.unusedVariables false
set_option maxRecDepth 100000
namespace Go.Proofs.YtmlhhdiomijpfaaGreatDoor
open Go Go.Pv Go.Tx
theorem wrapU8 {a : Int} (h : 0 ≤ a ∧ a ≤ 255) : IntKind.u8.wrap a = a := by unfold IntKind.wrap; simp [IntKind.bits, IntKind.signed]; omega
/-! ### Decimal numbers -/
/-- What is written behind, when m is still to be written. -/
def DecTo (n m : Int) (s : List UInt8) : Prop := 0 < n.natAbs ∧ (m ≠ 0 → Lib.decDigits n.natAbs = Lib.decDigits m.natAbs ++ s) ∧ (m = 0 → Lib.decDigits n.natAbs = s) ∧ (0 ≤ n → 0 ≤ m) ∧ (n ≤ 0 → m ≤ 0) ∧ m.natAbs ≤ n.natAbs
theorem DecTo.start {n : Int} (h : n ≠ 0) : DecTo n n [] := ⟨by omega, fun _ => by simp, fun e => absurd e h, fun h => h, fun h => h, Nat.le_refl _⟩
theorem tmod_abs (m : Int) : (m.tmod 10).natAbs = m.natAbs % 10 := Int.natAbs_tmod _ _
theorem tdiv_abs (m : Int) : (m.tdiv 10).natAbs = m.natAbs / 10 := Int.natAbs_tdiv _ _
theorem dec_digit (d : Nat) (h : d < 10) : Lib.decDigits d = [UInt8.ofNat (48 + d)] := by
 rw [Lib.decDigits, dif_pos h]
theorem dec_step (n : Nat) (h : 10 ≤ n) : Lib.decDigits n = Lib.decDigits (n / 10) ++ [UInt8.ofNat (48 + n % 10)] := by
 rw [Lib.decDigits, dif_neg (by omega)]
theorem byte_str (d : Nat) (h : d < 10) : strOfNums [(48 + (d : Int))] = bs [UInt8.ofNat (48 + d)] := by
 unfold strOfNums bs
 simp only [List.map_cons, List.map_nil]
 have : (48 + (d : Int)).toNat = 48 + d := by omega
 rw [this]
theorem DecTo.next {n m : Int} {s : List UInt8} (h : DecTo n m s) (hm : m ≠ 0) : DecTo n (m.tdiv 10) (UInt8.ofNat (48 + m.natAbs % 10) :: s) := by
 obtain ⟨h0, h1, h2, h3, h4, h5⟩ := h
 have hd := tdiv_abs m
 have h1 := h1 hm
 refine ⟨h0, fun hq => ?_, fun hq => ?_, fun hq => Int.tdiv_nonneg (h3 hq) (by decide), fun hq => ?_, by rw [hd]; omega⟩
 · rw [h1, hd, dec_step m.natAbs (by omega)]; simp
 · have : m.natAbs < 10 := by omega
   rw [h1, dec_digit _ this, Nat.mod_eq_of_lt this]; rfl
 · have := Int.tdiv_nonneg (a := 0 - m) (b := 10) (by have := h4 hq; omega) (by decide)
   rw [Int.zero_sub, Int.neg_tdiv] at this; omega
theorem DecTo.nextB {n m : Int} {s : ByteArray} (h : DecTo n m (ls s)) (hm : m ≠ 0) : DecTo n (m.tdiv 10) (ls (strOfNums [(48 + ((m.tmod 10).natAbs : Int))] ++ s)) := by
 rw [ls_app, tmod_abs, byte_str _ (Nat.mod_lt _ (by decide)), ls_bs]
 exact h.next hm
theorem DecTo.done {n : Int} {s : ByteArray} (h : DecTo n 0 (ls s)) (g : ByteArray) (hg : g = if n < 0 then ⟨#[45]⟩ else ⟨#[]⟩) : g ++ s = bs (Lib.itoa n) := by
 obtain ⟨h0, h1, h2, h3, h4, h5⟩ := h
 have h2 := h2 rfl
 apply ls_ext
 rw [ls_app, ls_bs, ← h2, hg]
 unfold Lib.itoa
 by_cases hn : n < 0
 · rw [if_pos hn, if_pos hn]; rfl
 · rw [if_neg hn, if_neg hn, show n.toNat = n.natAbs by omega]; rfl
def SzTo (m : Int) (z : Nat) : Prop := z ≤ 19 ∧ m.natAbs < 10 ^ (19 - z)
theorem SzTo.start {n : Int} (h : -9223372036854775807 ≤ n ∧ n ≤ 9223372036854775807) : SzTo n 0 := ⟨by omega, by omega⟩
theorem SzTo.next {m : Int} {s : ByteArray} (h : SzTo m s.size) (hm : m ≠ 0) (v : Int) : SzTo (m.tdiv 10) (strOfNums [v] ++ s).size := by
 obtain ⟨h1, h2⟩ := h
 have h3 : s.size ≠ 19 := fun e => by rw [e] at h2; simp at h2; exact hm h2
 have h4 : (strOfNums [v] ++ s).size = s.size + 1 := by rw [szs]; show 1 + _ = _; omega
 rw [h4]
 refine ⟨by omega, ?_⟩
 rw [tdiv_abs]
 have h5 : (10 : Nat) ^ (19 - s.size) = 10 ^ (19 - (s.size + 1)) * 10 := by rw [← Nat.pow_succ]; congr 1; omega
 rw [h5] at h2; omega
theorem itoa_zero : (⟨#[48]⟩ : ByteArray) = bs (Lib.itoa 0) := by
 unfold Lib.itoa
 rw [if_neg (by decide), dec_digit _ (by decide)]; rfl
theorem dec_len : ∀ (k n : Nat), n < 10 ^ (k + 1) → (Lib.decDigits n).length ≤ k + 1
 | 0, n, h => by rw [dec_digit n (by omega)]; exact Nat.le_refl _
 | k + 1, n, h => by
   by_cases h1 : n < 10
   · rw [dec_digit n h1]; simp
   · rw [dec_step n (by omega), List.length_append]
     have := dec_len k (n / 10) (by rw [Nat.pow_succ] at h; omega)
     simp only [List.length_cons, List.length_nil]; omega
theorem itoa_len {n : Int} (h : -9223372036854775807 ≤ n ∧ n ≤ 9223372036854775807) : (bs (Lib.itoa n)).size ≤ 20 := by
 rw [bs_size]
 unfold Lib.itoa
 split
 · have := dec_len 18 n.natAbs (by omega); rw [List.length_cons]; omega
 · have := dec_len 18 n.toNat (by omega); omega

theorem fr61 : (inFrame Tryz.f61.ntmps (Tryz.f61.body.getD .skip) && Tryz.f61.results.toList.all (resScope Tryz.f61.ntmps)) = true := by kernel_rfl
theorem AbsC (n : Int) (hn : -9223372036854775807 ≤ n ∧ n ≤ 9223372036854775807) : PCalls Tryz.prog 61 [.int n] (.int (n.natAbs : Int)) := by
 refine PCalls.of_code Tryz.func61 rfl rfl (by kernel_rfl) mixed fr61 (by show _ ≤ 8; simp) (.sc _) ?_
 refine pwp_seq_plain rfl fun K1 hK1 => ?_
 refine p_aS rfl ?_
 refine p_end (hK1 _ ?_); clear hK1 K1
 refine pwp_seq_seq ?_
 refine pwp_seq_plain rfl fun K2 hK2 => ?_
 refine p_mS rfl ?_
 refine p_e rfl (e_lt rfl rfl) ?_
 refine p_end (hK2 _ ?_); clear hK2 K2
 refine pwp_seq_cond rfl fun K3 hK3 => ⟨fun hb4 => ?_, fun hb4 => ?_⟩
 ·have hb4R := hb4; try simp only [zz] at hb4
  refine pwp_seq_plain rfl fun K5 hK5 => ?_
  refine p_mS rfl ?_
  refine p_e rfl (e_neg rfl (by omega)) ?_
  refine p_aS rfl ?_
  refine p_end (hK5 _ ?_); clear hK5 K5
  refine pwp_ret ?_
  refine ret_seq ?_
  refine end1 (v := .sc _) rfl ?_
  exact out_i (by omega)
 ·have hb4R := hb4; try simp only [zz] at hb4
  refine pwp_skip ?_
  refine seq_norm (hK3 _ ?_); clear hK3 K3
  refine pwp_seq_plain rfl fun K6 hK6 => ?_
  refine p_mS rfl ?_
  refine p_aS rfl ?_
  refine p_end (hK6 _ ?_); clear hK6 K6
  refine pwp_ret ?_
  refine end1 (v := .sc _) rfl ?_
  exact out_i (by omega)

theorem fr29 : (inFrame Tryz.f29.ntmps (Tryz.f29.body.getD .skip) && Tryz.f29.results.toList.all (resScope Tryz.f29.ntmps)) = true := by kernel_rfl
theorem DecimalC (n : Int) (hn : -9223372036854775807 ≤ n ∧ n ≤ 9223372036854775807) : PCalls Tryz.prog 29 [.int n] (.str (bs (Lib.itoa n))) := by
 refine PCalls.of_code Tryz.func29 rfl rfl (by kernel_rfl) mixed fr29 (by show _ ≤ 25; simp) (.sc _) ?_
 refine pwp_seq_plain rfl fun K1 hK1 => ?_
 refine p_aS rfl ?_
 refine p_end (hK1 _ ?_); clear hK1 K1
 refine pwp_seq_seq ?_
 refine pwp_seq_plain rfl fun K2 hK2 => ?_
 refine p_mS rfl ?_
 refine p_e rfl (e_eq rfl rfl) ?_
 refine p_end (hK2 _ ?_); clear hK2 K2
 refine pwp_seq_cond rfl fun K3 hK3 => ⟨fun hb4 => ?_, fun hb4 => ?_⟩
 ·have hb4R := hb4; try simp only [zz] at hb4
  refine pwp_seq_plain rfl fun K5 hK5 => ?_
  refine p_aS rfl ?_
  refine p_end (hK5 _ ?_); clear hK5 K5
  refine pwp_ret ?_
  refine ret_seq ?_
  refine end1 (v := .sc _) rfl ?_
  exact out_s (by (have e0 : n = 0 := by omega); subst e0; exact itoa_zero)
 ·have hb4R := hb4; try simp only [zz] at hb4
  refine pwp_skip ?_
  refine seq_norm (hK3 _ ?_); clear hK3 K3
  refine pwp_seq_plain rfl fun K6 hK6 => ?_
  refine p_aS rfl ?_
  refine p_aS rfl ?_
  refine p_end (hK6 _ ?_); clear hK6 K6
  refine pwp_seq_seq ?_
  refine pwp_seq_plain rfl fun K7 hK7 => ?_
  refine p_mS rfl ?_
  refine p_e rfl (e_lt rfl rfl) ?_
  refine p_end (hK7 _ ?_); clear hK7 K7
  refine pwp_seq_cond rfl fun K8 hK8 => ⟨fun hb9 => ?_, fun hb9 => ?_⟩
  ·have hb9R := hb9; try simp only [zz] at hb9
   refine pwp_plain rfl fun K10 hK10 => ?_
   refine p_aS rfl ?_
   refine p_end (hK10 _ ?_); clear hK10 K10
   refine seq_norm (hK8 _ ?_); clear hK8 K8
   refine pwp_seq_block fun K11 hK11 => ?_
   refine pwp_loopR (α := Int × ByteArray) [4] (fun (a12 : Int × ByteArray) => [(0, .int (a12.1)), (3, .str (a12.2))]) (fun (a12 : Int × ByteArray) (h : Heap) (_ : Nat → Nat) => (DecTo n (a12.1) (ls (a12.2))) ∧ (SzTo (a12.1) (a12.2).size) ∧ ((a12.1).natAbs ≤ n.natAbs)) (fun (a12 : Int × ByteArray) => (a12.1).natAbs) (n, ⟨#[]⟩) (by exact ⟨rfl, rfl, trivial⟩) (by exact ⟨by exact DecTo.start (by first | assumption | simp_all), by exact SzTo.start hn, by exact Nat.le_refl _⟩) fun a12 r13 h14 c15 hj16 => ?_
   obtain ⟨m, s⟩ := a12
   obtain ⟨hd, hz, hmn⟩ := hj16
   try dsimp only at hd
   try dsimp only at hz
   try dsimp only at hmn
   show pwp _ _ (loopQ _ _ _) ⟨sets (mix _ _ _) [(0, .int m), (3, .str s)], _, _⟩
   refine pwp_seq_seq ?_
   refine pwp_seq_plain rfl fun K17 hK17 => ?_
   refine p_mS rfl ?_
   refine p_e rfl (e_ne rfl rfl) ?_
   refine p_end (hK17 _ ?_); clear hK17 K17
   refine pwp_seq_cond rfl fun K18 hK18 => ⟨fun hb19 => ?_, fun hb19 => ?_⟩
   ·have hb19R := hb19; try simp only [zz] at hb19
    have hm : m ≠ 0 := by first | assumption | simp_all
    have htm := tmod_abs m
    have htd := tdiv_abs m
    have hzz := hz.1
    refine pwp_skip ?_
    refine seq_norm (hK18 _ ?_); clear hK18 K18
    refine pwp_block ?_
    refine pwp_seq_plain rfl fun K20 hK20 => ?_
    refine p_mS rfl ?_
    refine p_e rfl (e_remT rfl rfl (by decide)) ?_
    refine p_call rfl (.cons inn_sc .nil) (AbsC _ (by first | omega | (have := tmod_abs m; omega))) ?_
    refine p_e rfl (e_adL rfl rfl) ?_
    refine p_e rfl (e_conv rfl (by kernel_rfl) (by kernel_rfl) (by exact wrapU8 (by omega))) ?_
    refine p_new rfl (e_bslice (rows := [[.sc (.int .u8 (48 + ((m.tmod 10).natAbs : Int)))]]) (zs := [.sc (.int .u8 0)]) (sz := 1) (by kernel_rfl) (by kernel_rfl) rfl (by kernel_rfl) (by decide) rfl rfl (by exact ⟨by decide, rfl, rfl, trivial⟩) rfl) trivial ?_
    refine p_e rfl (e_byte rfl (hset_self _ _ _) (by kernel_rfl)) ?_
    refine p_mS rfl ?_
    refine p_e rfl (e_sadd rfl rfl (by first | (show 1 + s.size < _; omega) | (show 0 + s.size < _; omega))) ?_
    refine p_aS rfl ?_
    refine p_end (hK20 _ ?_); clear hK20 K20
    refine pwp_plain rfl fun K21 hK21 => ?_
    refine p_mS rfl ?_
    refine p_e rfl (e_quoT rfl rfl (by decide) (by (have := tdiv_abs m); omega)) ?_
    refine p_aS rfl ?_
    refine p_end (hK21 _ ?_); clear hK21 K21
    refine block_norm ?_
    exact loop_again (((m.tdiv 10), (strOfNums [(48 + ((m.tmod 10).natAbs : Int))] ++ s))) (by show _ < _; show (m.tdiv 10).natAbs < m.natAbs; omega) ⟨rfl, trivial⟩ ⟨rfl, rfl, trivial⟩ (by exact ⟨by exact hd.nextB hm, by exact hz.next hm _, by show (m.tdiv 10).natAbs ≤ _; omega⟩)
   ·have hb19R := hb19; try simp only [zz] at hb19
    have hm : m = 0 := by first | assumption | simp_all
    have hzz := hz.1
    refine pwp_exit ?_
    refine exit_seq ?_
    clear hK18 K18
    refine exit_loop ?_
    refine exit_here ?_
    refine seq_norm (hK11 _ ?_); clear hK11 K11
    refine pwp_seq_plain rfl fun K22 hK22 => ?_
    refine p_mS rfl ?_
    refine p_mS rfl ?_
    refine p_e rfl (e_sadd rfl rfl (by first | (show 1 + s.size < _; omega) | (show 0 + s.size < _; omega))) ?_
    refine p_aS rfl ?_
    refine p_end (hK22 _ ?_); clear hK22 K22
    refine pwp_ret ?_
    refine end1 (v := .sc _) rfl ?_
    exact out_s (by subst hm; exact hd.done _ (by first | (rw [if_pos (show n < 0 by omega)]; done) | (rw [if_neg (show ¬ n < 0 by omega)]; done)))
  ·have hb9R := hb9; try simp only [zz] at hb9
   refine pwp_skip ?_
   refine seq_norm (hK8 _ ?_); clear hK8 K8
   refine pwp_seq_block fun K23 hK23 => ?_
   refine pwp_loopR (α := Int × ByteArray) [4] (fun (a24 : Int × ByteArray) => [(0, .int (a24.1)), (3, .str (a24.2))]) (fun (a24 : Int × ByteArray) (h : Heap) (_ : Nat → Nat) => (DecTo n (a24.1) (ls (a24.2))) ∧ (SzTo (a24.1) (a24.2).size) ∧ ((a24.1).natAbs ≤ n.natAbs)) (fun (a24 : Int × ByteArray) => (a24.1).natAbs) (n, ⟨#[]⟩) (by exact ⟨rfl, rfl, trivial⟩) (by exact ⟨by exact DecTo.start (by first | assumption | simp_all), by exact SzTo.start hn, by exact Nat.le_refl _⟩) fun a24 r25 h26 c27 hj28 => ?_
   obtain ⟨m, s⟩ := a24
   obtain ⟨hd, hz, hmn⟩ := hj28
   try dsimp only at hd
   try dsimp only at hz
   try dsimp only at hmn
   show pwp _ _ (loopQ _ _ _) ⟨sets (mix _ _ _) [(0, .int m), (3, .str s)], _, _⟩
   refine pwp_seq_seq ?_
   refine pwp_seq_plain rfl fun K29 hK29 => ?_
   refine p_mS rfl ?_
   refine p_e rfl (e_ne rfl rfl) ?_
   refine p_end (hK29 _ ?_); clear hK29 K29
   refine pwp_seq_cond rfl fun K30 hK30 => ⟨fun hb31 => ?_, fun hb31 => ?_⟩
   ·have hb31R := hb31; try simp only [zz] at hb31
    have hm : m ≠ 0 := by first | assumption | simp_all
    have htm := tmod_abs m
    have htd := tdiv_abs m
    have hzz := hz.1
    refine pwp_skip ?_
    refine seq_norm (hK30 _ ?_); clear hK30 K30
    refine pwp_block ?_
    refine pwp_seq_plain rfl fun K32 hK32 => ?_
    refine p_mS rfl ?_
    refine p_e rfl (e_remT rfl rfl (by decide)) ?_
    refine p_call rfl (.cons inn_sc .nil) (AbsC _ (by first | omega | (have := tmod_abs m; omega))) ?_
    refine p_e rfl (e_adL rfl rfl) ?_
    refine p_e rfl (e_conv rfl (by kernel_rfl) (by kernel_rfl) (by exact wrapU8 (by omega))) ?_
    refine p_new rfl (e_bslice (rows := [[.sc (.int .u8 (48 + ((m.tmod 10).natAbs : Int)))]]) (zs := [.sc (.int .u8 0)]) (sz := 1) (by kernel_rfl) (by kernel_rfl) rfl (by kernel_rfl) (by decide) rfl rfl (by exact ⟨by decide, rfl, rfl, trivial⟩) rfl) trivial ?_
    refine p_e rfl (e_byte rfl (hset_self _ _ _) (by kernel_rfl)) ?_
    refine p_mS rfl ?_
    refine p_e rfl (e_sadd rfl rfl (by first | (show 1 + s.size < _; omega) | (show 0 + s.size < _; omega))) ?_
    refine p_aS rfl ?_
    refine p_end (hK32 _ ?_); clear hK32 K32
    refine pwp_plain rfl fun K33 hK33 => ?_
    refine p_mS rfl ?_
    refine p_e rfl (e_quoT rfl rfl (by decide) (by (have := tdiv_abs m); omega)) ?_
    refine p_aS rfl ?_
    refine p_end (hK33 _ ?_); clear hK33 K33
    refine block_norm ?_
    exact loop_again (((m.tdiv 10), (strOfNums [(48 + ((m.tmod 10).natAbs : Int))] ++ s))) (by show _ < _; show (m.tdiv 10).natAbs < m.natAbs; omega) ⟨rfl, trivial⟩ ⟨rfl, rfl, trivial⟩ (by exact ⟨by exact hd.nextB hm, by exact hz.next hm _, by show (m.tdiv 10).natAbs ≤ _; omega⟩)
   ·have hb31R := hb31; try simp only [zz] at hb31
    have hm : m = 0 := by first | assumption | simp_all
    have hzz := hz.1
    refine pwp_exit ?_
    refine exit_seq ?_
    clear hK30 K30
    refine exit_loop ?_
    refine exit_here ?_
    refine seq_norm (hK23 _ ?_); clear hK23 K23
    refine pwp_seq_plain rfl fun K34 hK34 => ?_
    refine p_mS rfl ?_
    refine p_mS rfl ?_
    refine p_e rfl (e_sadd rfl rfl (by first | (show 1 + s.size < _; omega) | (show 0 + s.size < _; omega))) ?_
    refine p_aS rfl ?_
    refine p_end (hK34 _ ?_); clear hK34 K34
    refine pwp_ret ?_
    refine end1 (v := .sc _) rfl ?_
    exact out_s (by subst hm; exact hd.done _ (by first | (rw [if_pos (show n < 0 by omega)]; done) | (rw [if_neg (show ¬ n < 0 by omega)]; done)))

end Go.Proofs.YtmlhhdiomijpfaaGreatDoor
