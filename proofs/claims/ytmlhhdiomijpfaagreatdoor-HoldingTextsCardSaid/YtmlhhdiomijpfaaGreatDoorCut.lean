/- A text cut at a byte: the reference. No conditions. -/
import Derived.Test.YtmlhhdiomijpfaaGreatDoorData
import Derived.Test.YtmlhhdiomijpfaaGreatDoorTx
import Derived.Test.YtmlhhdiomijpfaaGreatDoorPvGh
set_option linter.unusedSimpArgs false
set_option linter.unusedVariables false
set_option maxRecDepth 100000
namespace Go.Proofs.YtmlhhdiomijpfaaGreatDoor
open Go Go.Pv Go.Tx
theorem szs (a b : ByteArray) : (a ++ b).size = a.size + b.size := ByteArray.size_append
def bs (l : List UInt8) : ByteArray := ⟨l.toArray⟩
theorem bs_size (l : List UInt8) : (bs l).size = l.length := rfl
def ls (s : ByteArray) : List UInt8 := s.data.toList
theorem ls_bs (l : List UInt8) : ls (bs l) = l := rfl
theorem bs_ls (s : ByteArray) : bs (ls s) = s := rfl
theorem ls_len (s : ByteArray) : (ls s).length = s.size := Array.length_toList
theorem ls_app (a b : ByteArray) : ls (a ++ b) = ls a ++ ls b := by simp [ls]
theorem ls_ext {a b : ByteArray} (h : ls a = ls b) : a = b := by rw [← bs_ls a, h, bs_ls]
theorem ls_extract (s : ByteArray) (i j : Nat) : ls (s.extract i j) = ((ls s).take j).drop i := by
 unfold ls
 rw [ByteArray.data_extract, Array.toList_extract, List.extract_eq_take_drop, List.drop_take]
/-- The pieces of a text between the places of a byte. -/
def cutB (c : UInt8) (s : ByteArray) : List ByteArray := (cutL c (ls s)).map bs
/-- What the loop that cuts has done. -/
def CutTo (c : UInt8) (s : ByteArray) (i fr : Nat) (xs : List ByteArray) : Prop := cutL c ((ls s).take i) = xs.map ls ++ [((ls s).take i).drop fr]
theorem CutTo.start {c : UInt8} {s : ByteArray} : CutTo c s 0 0 [] := by
 unfold CutTo; simp [cutL]
theorem ls_get {s : ByteArray} {i : Nat} (h : i < s.size) : (ls s)[i]? = some ((ls s).getD i 0) := by
 have h1 : i < (ls s).length := by rw [ls_len]; exact h
 rw [List.getD_eq_getElem?_getD, List.getElem?_eq_getElem h1]; rfl
theorem u8_eq {a b : UInt8} (h : (a.toNat : Int) = (b.toNat : Int)) : a = b := UInt8.toNat_inj.1 (by omega)
theorem CutTo.hit {c : UInt8} {s : ByteArray} {i fr : Nat} {xs : List ByteArray} (h : CutTo c s i fr xs) (hi : i < s.size) (hc : (((ls s).getD i 0).toNat : Int) = (c.toNat : Int)) : CutTo c s (i + 1) (i + 1) (xs ++ [s.extract fr i]) := by
 unfold CutTo at h ⊢
 rw [cutL_take (ls_get hi), if_pos (u8_eq hc), h, List.map_append, List.map_cons, List.map_nil, ls_extract]
 congr 1
 rw [List.drop_eq_nil_of_le (by rw [List.length_take]; omega)]
theorem CutTo.miss {c : UInt8} {s : ByteArray} {i fr : Nat} {xs : List ByteArray} (h : CutTo c s i fr xs) (hi : i < s.size) (hf : fr ≤ i) (hc : ¬ (((ls s).getD i 0).toNat : Int) = (c.toNat : Int)) : CutTo c s (i + 1) fr xs := by
 unfold CutTo at h ⊢
 have hne : ¬ (ls s).getD i 0 = c := fun e => hc (by rw [e])
 rw [cutL_take (ls_get hi), if_neg hne, h, List.dropLast_concat, List.getLastD_concat]
 congr 2
 have hl : i < (ls s).length := by rw [ls_len]; exact hi
 rw [List.take_add_one, ls_get hi, Option.toList_some, List.drop_append_of_le_length (by rw [List.length_take]; omega)]
theorem CutTo.done {c : UInt8} {s : ByteArray} {i fr : Nat} {xs : List ByteArray} (h : CutTo c s i fr xs) (hi : s.size ≤ i) : xs ++ [s.extract fr s.size] = cutB c s := by
 unfold CutTo at h
 have e : (ls s).take i = ls s := List.take_of_length_le (by rw [ls_len]; exact hi)
 have e2 : (ls s).take s.size = ls s := List.take_of_length_le (by rw [ls_len]; exact Nat.le_refl _)
 rw [e] at h
 unfold cutB
 rw [h, List.map_append, List.map_map]
 have e3 : (bs ∘ ls) = id := rfl
 rw [e3, List.map_id, List.map_cons, List.map_nil]
 congr 2
 apply ls_ext
 rw [ls_extract, e2, ls_bs]

theorem fr33 : (inFrame Tryz.f33.ntmps (Tryz.f33.body.getD .skip) && Tryz.f33.results.toList.all (resScope Tryz.f33.ntmps)) = true := by kernel_rfl
theorem CutC (s : ByteArray) (c : UInt8) (hs : s.size ≤ 1000000) : PCalls Tryz.prog 33 [.str s, .sc (.int .u8 (c.toNat : Int))] (.lit false 1 ((cutB c s).map cb)) := by
 refine PCalls.of_code Tryz.func33 rfl rfl (by kernel_rfl) mixed fr33 (by show _ ≤ 34; simp) (.lit _ _ _ fun row hr => pure_map cb_pure row hr) ?_
 refine pwp_seq_plain rfl fun K1 hK1 => ?_
 refine p_e rfl (e_assign (v := .nil) rfl) ?_
 refine p_end (hK1 _ ?_); clear hK1 K1
 refine pwp_seq_plain rfl fun K2 hK2 => ?_
 refine p_e rfl (e_assign (v := .nil) rfl) ?_
 refine p_end (hK2 _ ?_); clear hK2 K2
 refine pwp_seq_plain rfl fun K3 hK3 => ?_
 refine p_aS rfl ?_
 refine p_end (hK3 _ ?_); clear hK3 K3
 refine pwp_seq_seq ?_
 refine pwp_seq_plain rfl fun K4 hK4 => ?_
 refine p_aS rfl ?_
 refine p_end (hK4 _ ?_); clear hK4 K4
 refine pwp_seq_block fun K5 hK5 => ?_
 refine pwp_loopR (α := Nat × Nat × (List ByteArray) × PV) [0, 1] (fun (a6 : Nat × Nat × (List ByteArray) × PV) => [(5, (a6.2.2.2)), (6, .int (a6.2.1)), (7, .int (a6.1))]) (fun (a6 : Nat × Nat × (List ByteArray) × PV) (h : Heap) (_ : Nat → Nat) => ((a6.1) ≤ s.size) ∧ ((a6.2.1) ≤ (a6.1)) ∧ ((a6.2.2.1).length ≤ (a6.1)) ∧ (CutTo c s (a6.1) (a6.2.1) (a6.2.2.1)) ∧ (SliceAt h 25 (a6.2.2.2) 1 ((a6.2.2.1).map cb))) (fun (a6 : Nat × Nat × (List ByteArray) × PV) => s.size - (a6.1)) (0, 0, [], .nil) (by exact ⟨rfl, rfl, rfl, trivial⟩) (by exact ⟨by exact Nat.zero_le _, by exact Nat.le_refl _, by exact Nat.le_refl _, by exact CutTo.start, .nil⟩) fun a6 r7 h8 c9 hj10 => ?_
 obtain ⟨i, fr, xs, v⟩ := a6
 obtain ⟨hi, hf, hxl, hct, hihj10_0⟩ := hj10
 try dsimp only at hi
 try dsimp only at hf
 try dsimp only at hxl
 try dsimp only at hct
 try dsimp only at hihj10_0
 show pwp _ _ (loopQ _ _ _) ⟨sets (mix _ _ _) [(5, v), (6, .int fr), (7, .int i)], _, _⟩
 refine pwp_seq_seq ?_
 refine pwp_seq_plain rfl fun K11 hK11 => ?_
 refine p_mS rfl ?_
 refine p_mS rfl ?_
 refine p_e rfl (e_lenS rfl (by kernel_rfl)) ?_
 refine p_e rfl (e_lt rfl rfl) ?_
 refine p_end (hK11 _ ?_); clear hK11 K11
 refine pwp_seq_cond rfl fun K12 hK12 => ⟨fun hb13 => ?_, fun hb13 => ?_⟩
 ·have hb13R := hb13; try simp only [zz] at hb13
  have hil : i < s.size := by omega
  refine pwp_skip ?_
  refine seq_norm (hK12 _ ?_); clear hK12 K12
  refine pwp_seq_block fun K14 hK14 => ?_
  refine pwp_seq_plain rfl fun K15 hK15 => ?_
  refine p_mS rfl ?_
  refine p_mS rfl ?_
  refine p_e rfl (e_indexN (n := i) rfl rfl rfl (by kernel_rfl) (by omega)) ?_
  refine p_mS rfl ?_
  refine p_e rfl (e_eq rfl rfl) ?_
  refine p_end (hK15 _ ?_); clear hK15 K15
  refine pwp_cond rfl (fun hb16 => ?_) (fun hb16 => ?_)
  ·have hb16R := hb16; try simp only [zz] at hb16
   refine pwp_seq_plain rfl fun K17 hK17 => ?_
   refine p_e rfl (e_move (v := _) rfl) ?_
   refine p_mS rfl ?_
   refine p_mS rfl ?_
   refine p_mS rfl ?_
   refine p_e rfl (e_ssub (lo := fr) (hi := i) rfl rfl rfl rfl rfl (by kernel_rfl) (by omega) (by omega)) ?_
   refine p_new rfl (e_bslice (rows := [cb (s.extract fr i)]) (zs := [.str ByteArray.empty]) (sz := 1) (by kernel_rfl) (by kernel_rfl) rfl (by kernel_rfl) (by decide) rfl rfl (by exact ⟨by decide, rfl, rfl, trivial⟩) rfl) trivial ?_
   refine p_app rfl rfl rfl (hihj10_0.keep fun _ => (hset_ne (key_ne rfl)).trans (rfl)) (src_ref (hset_self _ _ _) rfl) (by kernel_rfl) (by simp only [List.length_append, List.length_map, List.length_nil, List.length_cons]; omega) fun v18 h19 c20 hs21 hf22 => ?_
   have ho23 := (hf22 (24, _) (key_ne rfl) (fun _ _ => key_ne rfl)).trans (hset_self _ _ _)
   refine p_e rfl (e_assign (v := _) rfl) ?_
   refine p_end (hK17 _ ?_); clear hK17 K17
   refine pwp_plain rfl fun K24 hK24 => ?_
   refine p_mS rfl ?_
   refine p_e rfl (e_adL rfl rfl) ?_
   refine p_aS rfl ?_
   refine p_end (hK24 _ ?_); clear hK24 K24
   refine block_norm ?_
   refine seq_norm (hK14 _ ?_); clear hK14 K14
   refine pwp_plain rfl fun K25 hK25 => ?_
   refine p_mS rfl ?_
   refine p_e rfl (e_adL rfl rfl) ?_
   refine p_aS rfl ?_
   refine p_end (hK25 _ ?_); clear hK25 K25
   exact loop_again ((i + 1, i + 1, xs ++ [s.extract fr i], v18)) (by show _ < _; simp only; omega) ⟨rfl, rfl, trivial⟩ ⟨rfl, rfl, rfl, trivial⟩ (by exact ⟨by show _ + 1 ≤ _; omega, by first | exact Nat.le_refl _ | exact Nat.le_succ_of_le hf, by (first | (simp only [List.length_append, List.length_cons, List.length_nil]; omega) | omega), by first | exact hct.hit hil (by first | assumption | simp_all) | exact hct.miss hil hf (by first | assumption | simp_all), (SliceAt.to hs21 (by first | rfl | (simp only [List.map_append, List.map_cons, List.map_nil] <;> rfl)))⟩)
  ·have hb16R := hb16; try simp only [zz] at hb16
   refine pwp_skip ?_
   refine block_norm ?_
   refine seq_norm (hK14 _ ?_); clear hK14 K14
   refine pwp_plain rfl fun K26 hK26 => ?_
   refine p_mS rfl ?_
   refine p_e rfl (e_adL rfl rfl) ?_
   refine p_aS rfl ?_
   refine p_end (hK26 _ ?_); clear hK26 K26
   exact loop_again ((i + 1, fr, xs, v)) (by show _ < _; simp only; omega) ⟨rfl, rfl, trivial⟩ ⟨rfl, rfl, rfl, trivial⟩ (by exact ⟨by show _ + 1 ≤ _; omega, by first | exact Nat.le_refl _ | exact Nat.le_succ_of_le hf, by (first | (simp only [List.length_append, List.length_cons, List.length_nil]; omega) | omega), by first | exact hct.hit hil (by first | assumption | simp_all) | exact hct.miss hil hf (by first | assumption | simp_all), (SliceAt.to hihj10_0 (by first | rfl | (simp only [List.map_append, List.map_cons, List.map_nil] <;> rfl)))⟩)
 ·have hb13R := hb13; try simp only [zz] at hb13
  have hie : s.size ≤ i := by omega
  refine pwp_exit ?_
  refine exit_seq ?_
  clear hK12 K12
  refine exit_loop ?_
  refine exit_here ?_
  refine seq_norm (hK5 _ ?_); clear hK5 K5
  refine pwp_seq_plain rfl fun K27 hK27 => ?_
  refine p_e rfl (e_move (v := _) rfl) ?_
  refine p_mS rfl ?_
  refine p_mS rfl ?_
  refine p_e rfl (e_sfrom (lo := fr) rfl rfl rfl (by kernel_rfl) (by omega)) ?_
  refine p_new rfl (e_bslice (rows := [cb (s.extract fr s.size)]) (zs := [.str ByteArray.empty]) (sz := 1) (by kernel_rfl) (by kernel_rfl) rfl (by kernel_rfl) (by decide) rfl rfl (by exact ⟨by decide, rfl, rfl, trivial⟩) rfl) trivial ?_
  refine p_app rfl rfl rfl (hihj10_0.keep fun _ => (hset_ne (key_ne rfl)).trans (rfl)) (src_ref (hset_self _ _ _) rfl) (by kernel_rfl) (by simp only [List.length_append, List.length_map, List.length_nil, List.length_cons]; omega) fun v28 h29 c30 hs31 hf32 => ?_
  have ho33 := (hf32 (32, _) (key_ne rfl) (fun _ _ => key_ne rfl)).trans (hset_self _ _ _)
  refine p_e rfl (e_assign (v := _) rfl) ?_
  refine p_end (hK27 _ ?_); clear hK27 K27
  refine pwp_ret ?_
  refine end1 (v := _) rfl ?_
  first
    | exact out_slice (SliceAt.to hs31 (by rw [← hct.done hie, List.map_append]; rfl)) rfl (fun _ => rfl) cb_clean

end Go.Proofs.YtmlhhdiomijpfaaGreatDoor
