/- Loads are checked. No conditions. -/
import Derived.Test.YtigdmkhdmbbfiaaLk1
set_option linter.unusedSimpArgs false
set_option linter.unusedVariables false
set_option maxRecDepth 100000
namespace Go.Proofs.Ytigdmkhdmbbfiaa
open Go Go.Pv
theorem fr30 : (inFrame Try.f30.ntmps (Try.f30.body.getD .skip) && Try.f30.results.toList.all (resScope Try.f30.ntmps)) = true := by kernel_rfl
theorem CheckLoads (its : List Item) (x : Lorry) (ls : List (List Int)) (hl : its.length ≤ 220) (hlx : ls.length ≤ 230) (hs : ∀ x ∈ its, x.name.size ≤ 30) (hl3 : ∀ l ∈ ls, l.length ≤ 30) : PCalls Try.prog 30 [.lit true 3 (its.map Item.enc), .agg x.enc, .lit true 1 (ls.map cl)] (.int (loadsE its x ls)) := by
 refine PCalls.of_code Try.func30 rfl rfl (by kernel_rfl) mixed fr30 (by show _ ≤ 104; simp) (.sc _) ?_
 refine pwp_seq_plain rfl fun K1 hK1 => ?_
 refine p_new rfl (e_box (n := 2) rfl rfl) ⟨rfl, by decide⟩ ?_
 refine p_step rfl (e_assign (v := .sc _) rfl) trivial ?_
 refine p_end (hK1 _ ?_); clear hK1 K1
 refine pwp_seq_seq ?_
 refine pwp_seq_plain rfl fun K2 hK2 => ?_
 refine p_step rfl (e_move (v := .lit _ _ _) rfl) trivial ?_
 refine p_step rfl (e_loadHA (n := 2) rfl (hset_self _ _ _) (by kernel_rfl) (by kernel_rfl) (by kernel_rfl) (by exact Nat.zero_lt_one) (by decide) rfl) trivial ?_
 refine p_call rfl (.cons inn_lit (.cons (inn_agg (Lorry.pure _)) .nil)) (checkItems _ _ (by omega) (by assumption)) ?_
 refine p_step rfl (e_assign (v := .sc _) rfl) trivial ?_
 refine p_end (hK2 _ ?_); clear hK2 K2
 refine pwp_seq_seq ?_
 refine pwp_seq_plain rfl fun K3 hK3 => ?_
 refine p_step rfl (e_move (v := .sc _) rfl) trivial ?_
 refine p_step rfl (e_ne rfl rfl) trivial ?_
 refine p_end (hK3 _ ?_); clear hK3 K3
 refine pwp_seq_cond rfl fun K4 hK4 => ⟨fun hb5 => ?_, fun hb5 => ?_⟩
 ·have hb5R := hb5; (try simp only [z1, z2, z3, z4, z5, z6, ne_eq, z7, z8, z9, z10, z11, z12] at hb5); (try (have hit := itemsE_ok hb5)); (try (have hrg : 0 ≤ n ∧ n ≤ (its.length : Int) - 1 := hb5; obtain ⟨b, hb⟩ := ix_at (l := dn) (n := n) (by omega); obtain ⟨y, hy⟩ := ix_at (l := its) hrg; have hym := hit.2.1 y (List.mem_of_getElem? hy))); (try (have hpv := Prev.at hpr hb5))
  refine pwp_seq_plain rfl fun K6 hK6 => ?_
  refine p_step rfl (e_move (v := .sc _) rfl) trivial ?_
  refine p_step rfl (e_assign (v := .sc _) rfl) trivial ?_
  refine p_end (hK6 _ ?_); clear hK6 K6
  refine pwp_ret ?_
  refine ret_seq ?_
  refine end1 (v := .sc _) rfl ?_
  first
    | exact out_i (le_1 (by assumption))
    | exact out_i (le_2 (by assumption) (by omega))
    | exact out_i (le_3 (by assumption) (by omega) (by rw [hinv, if_pos (by omega)]) (by decide))
    | exact out_i (le_3 (by assumption) (by omega) (by rw [hinv, if_pos (by omega), loadK_err (by decide)]) (by decide))
    | exact out_i (le_3 (by assumption) (by omega) (by rw [hinv, if_neg (by omega), if_pos (by omega), loadK_err (by decide)]) (by decide))
    | exact out_i (le_3 (by assumption) (by omega) (by rw [hinv, if_neg (by omega), if_neg (by omega), if_pos (by rw [getD_at hb]; first | assumption | exact nb (by assumption)), loadK_err (by decide)]) (by decide))
    | exact out_i (le_3 (by assumption) (by omega) (by rw [hinv, if_neg (by omega), if_neg (by omega), if_neg (by rw [getD_at hb]; first | assumption | exact nb (by assumption)), if_pos (by rw [getD_at hy]; omega), loadK_err (by decide)]) (by decide))
    | exact out_i (le_3 (by assumption) (by omega) (by rw [hinv, loadK_big (by omega)]) (by decide))
    | exact out_i (le_4 (by assumption) (by omega) hinv (by assumption))
    | exact out_i (le_5 (by assumption) (by omega) hinv (by assumption))
 ·have hb5R := hb5; (try simp only [z1, z2, z3, z4, z5, z6, ne_eq, z7, z8, z9, z10, z11, z12] at hb5); (try (have hit := itemsE_ok hb5)); (try (have hrg : 0 ≤ n ∧ n ≤ (its.length : Int) - 1 := hb5; obtain ⟨b, hb⟩ := ix_at (l := dn) (n := n) (by omega); obtain ⟨y, hy⟩ := ix_at (l := its) hrg; have hym := hit.2.1 y (List.mem_of_getElem? hy))); (try (have hpv := Prev.at hpr hb5))
  refine pwp_skip ?_
  refine seq_norm (hK4 _ ?_); clear hK4 K4
  refine pwp_seq_seq ?_
  refine pwp_seq_plain rfl fun K7 hK7 => ?_
  refine p_step rfl (e_move (v := .lit _ _ _) rfl) trivial ?_
  refine p_step rfl (e_len rfl (by kernel_rfl)) trivial ?_
  refine p_step rfl (e_move (v := .lit _ _ _) rfl) trivial ?_
  refine p_step rfl (e_len rfl (by kernel_rfl)) trivial ?_
  refine p_step rfl (e_gt rfl rfl) trivial ?_
  refine p_end (hK7 _ ?_); clear hK7 K7
  refine pwp_seq_cond rfl fun K8 hK8 => ⟨fun hb9 => ?_, fun hb9 => ?_⟩
  ·have hb9R := hb9; (try simp only [z1, z2, z3, z4, z5, z6, ne_eq, z7, z8, z9, z10, z11, z12] at hb9); (try (have hit := itemsE_ok hb9)); (try (have hrg : 0 ≤ n ∧ n ≤ (its.length : Int) - 1 := hb9; obtain ⟨b, hb⟩ := ix_at (l := dn) (n := n) (by omega); obtain ⟨y, hy⟩ := ix_at (l := its) hrg; have hym := hit.2.1 y (List.mem_of_getElem? hy))); (try (have hpv := Prev.at hpr hb9))
   refine pwp_seq_plain rfl fun K10 hK10 => ?_
   refine p_step rfl (e_assign (v := .sc _) rfl) trivial ?_
   refine p_end (hK10 _ ?_); clear hK10 K10
   refine pwp_ret ?_
   refine ret_seq ?_
   refine end1 (v := .sc _) rfl ?_
   first
     | exact out_i (le_1 (by assumption))
     | exact out_i (le_2 (by assumption) (by omega))
     | exact out_i (le_3 (by assumption) (by omega) (by rw [hinv, if_pos (by omega)]) (by decide))
     | exact out_i (le_3 (by assumption) (by omega) (by rw [hinv, if_pos (by omega), loadK_err (by decide)]) (by decide))
     | exact out_i (le_3 (by assumption) (by omega) (by rw [hinv, if_neg (by omega), if_pos (by omega), loadK_err (by decide)]) (by decide))
     | exact out_i (le_3 (by assumption) (by omega) (by rw [hinv, if_neg (by omega), if_neg (by omega), if_pos (by rw [getD_at hb]; first | assumption | exact nb (by assumption)), loadK_err (by decide)]) (by decide))
     | exact out_i (le_3 (by assumption) (by omega) (by rw [hinv, if_neg (by omega), if_neg (by omega), if_neg (by rw [getD_at hb]; first | assumption | exact nb (by assumption)), if_pos (by rw [getD_at hy]; omega), loadK_err (by decide)]) (by decide))
     | exact out_i (le_3 (by assumption) (by omega) (by rw [hinv, loadK_big (by omega)]) (by decide))
     | exact out_i (le_4 (by assumption) (by omega) hinv (by assumption))
     | exact out_i (le_5 (by assumption) (by omega) hinv (by assumption))
  ·have hb9R := hb9; (try simp only [z1, z2, z3, z4, z5, z6, ne_eq, z7, z8, z9, z10, z11, z12] at hb9); (try (have hit := itemsE_ok hb9)); (try (have hrg : 0 ≤ n ∧ n ≤ (its.length : Int) - 1 := hb9; obtain ⟨b, hb⟩ := ix_at (l := dn) (n := n) (by omega); obtain ⟨y, hy⟩ := ix_at (l := its) hrg; have hym := hit.2.1 y (List.mem_of_getElem? hy))); (try (have hpv := Prev.at hpr hb9))
   refine pwp_skip ?_
   refine seq_norm (hK8 _ ?_); clear hK8 K8
   refine pwp_seq_plain rfl fun K11 hK11 => ?_
   refine p_step rfl (e_move (v := .lit _ _ _) rfl) trivial ?_
   refine p_step rfl (e_len rfl (by kernel_rfl)) trivial ?_
   refine p_new rfl (e_mkB (n := its.length) rfl rfl (by simp) (by kernel_rfl) (by kernel_rfl) (by kernel_rfl) (by decide +kernel) (by omega)) trivial ?_
   refine p_step rfl (e_assign (v := .ref _ _ _ _) rfl) trivial ?_
   refine p_end (hK11 _ ?_); clear hK11 K11
   refine pwp_seq_seq ?_
   refine pwp_seq_plain rfl fun K12 hK12 => ?_
   refine p_step rfl (e_move (v := .lit _ _ _) rfl) trivial ?_
   refine p_step rfl (e_len rfl (by kernel_rfl)) trivial ?_
   refine p_step rfl (e_move (v := .sc _) rfl) trivial ?_
   refine p_end (hK12 _ ?_); clear hK12 K12
   refine pwp_seq_block fun K13 hK13 => ?_
   refine pwp_loopR (α := Nat × (List Bool)) [0, 4, 8, 30, 31] (fun (a14 : Nat × (List Bool)) => [(32, .int (a14.1))]) (fun (a14 : Nat × (List Bool)) (h : Heap) (_ : Nat → Nat) => ((a14.1) ≤ ls.length) ∧ (loadsR its x ls = goD its x (a14.2) (ls.drop (a14.1))) ∧ ((a14.2).length = its.length) ∧ (h (4, 0) = some (.rows 2 [Lorry.enc x])) ∧ (h (29, 0) = some (.rows 1 ((a14.2).map cbo)))) (fun (a14 : Nat × (List Bool)) => ls.length - (a14.1)) (0, (List.replicate its.length false)) (by exact ⟨rfl, trivial⟩) (by exact ⟨by exact Nat.zero_le _, by exact rfl, by exact List.length_replicate, ((hset_ne (key_ne rfl)).trans (hset_self _ _ _)), (hset_self _ _ _)⟩) fun a14 r15 h16 c17 hj18 => ?_
   obtain ⟨k, dn⟩ := a14
   obtain ⟨hk, hinv, hdl, hihj18_0, hihj18_1⟩ := hj18
   try dsimp only at hk
   try dsimp only at hinv
   try dsimp only at hdl
   try dsimp only at hihj18_0
   try dsimp only at hihj18_1
   show pwp _ _ (loopQ _ _ _) ⟨sets (mix _ _ _) [(32, .int k)], _, _⟩
   refine pwp_seq_plain rfl fun K19 hK19 => ?_
   refine p_step rfl (e_lt rfl rfl) trivial ?_
   refine p_end (hK19 _ ?_); clear hK19 K19
   refine pwp_seq_cond rfl fun K20 hK20 => ⟨fun hb21 => ?_, fun hb21 => ?_⟩
   ·have hb21R := hb21; (try simp only [z1, z2, z3, z4, z5, z6, ne_eq, z7, z8, z9, z10, z11, z12] at hb21); (try (have hit := itemsE_ok hb21)); (try (have hrg : 0 ≤ n ∧ n ≤ (its.length : Int) - 1 := hb21; obtain ⟨b, hb⟩ := ix_at (l := dn) (n := n) (by omega); obtain ⟨y, hy⟩ := ix_at (l := its) hrg; have hym := hit.2.1 y (List.mem_of_getElem? hy))); (try (have hpv := Prev.at hpr hb21))
    obtain ⟨l, hl0, hdl0, htl0⟩ := get_lt (xs := ls) (i := k) (by omega)
    have hl30 := hl3 l (List.mem_of_getElem? hl0)
    rw [hdl0] at hinv; simp only [goD] at hinv
    refine pwp_skip ?_
    refine seq_norm (hK20 _ ?_); clear hK20 K20
    refine pwp_seq_block fun K22 hK22 => ?_
    refine pwp_seq_plain rfl fun K23 hK23 => ?_
    refine p_step rfl (e_ixa rfl rfl (by kernel_rfl) (by kernel_rfl) (by simp only [List.length_map]; omega)) trivial ?_
    refine p_step rfl (e_load (v := .lit _ _ _) rfl (by kernel_rfl) (by kernel_rfl) (by kernel_rfl) (by simp only [List.length_map]; omega) (by decide) ((cell_map hl0 _).trans rfl)) trivial ?_
    refine p_step rfl (e_assign (v := .lit _ _ _) rfl) trivial ?_
    refine p_end (hK23 _ ?_); clear hK23 K23
    refine pwp_seq_seq ?_
    refine pwp_seq_plain rfl fun K24 hK24 => ?_
    refine p_step rfl (e_move (v := .lit _ _ _) rfl) trivial ?_
    refine p_step rfl (e_len rfl (by kernel_rfl)) trivial ?_
    refine p_step rfl (e_eq rfl rfl) trivial ?_
    refine p_end (hK24 _ ?_); clear hK24 K24
    refine pwp_seq_cond rfl fun K25 hK25 => ⟨fun hb26 => ?_, fun hb26 => ?_⟩
    ·have hb26R := hb26; (try simp only [z1, z2, z3, z4, z5, z6, ne_eq, z7, z8, z9, z10, z11, z12] at hb26); (try (have hit := itemsE_ok hb26)); (try (have hrg : 0 ≤ n ∧ n ≤ (its.length : Int) - 1 := hb26; obtain ⟨b, hb⟩ := ix_at (l := dn) (n := n) (by omega); obtain ⟨y, hy⟩ := ix_at (l := its) hrg; have hym := hit.2.1 y (List.mem_of_getElem? hy))); (try (have hpv := Prev.at hpr hb26))
     refine pwp_seq_plain rfl fun K27 hK27 => ?_
     refine p_step rfl (e_assign (v := .sc _) rfl) trivial ?_
     refine p_end (hK27 _ ?_); clear hK27 K27
     refine pwp_ret ?_
     refine ret_seq ?_
     refine ret_block ?_
     refine ret_seq ?_
     refine ret_loop ?_
     refine ret_block ?_
     refine ret_seq ?_
     refine end1 (v := .sc _) rfl ?_
     first
       | exact out_i (le_1 (by assumption))
       | exact out_i (le_2 (by assumption) (by omega))
       | exact out_i (le_3 (by assumption) (by omega) (by rw [hinv, if_pos (by omega)]) (by decide))
       | exact out_i (le_3 (by assumption) (by omega) (by rw [hinv, if_pos (by omega), loadK_err (by decide)]) (by decide))
       | exact out_i (le_3 (by assumption) (by omega) (by rw [hinv, if_neg (by omega), if_pos (by omega), loadK_err (by decide)]) (by decide))
       | exact out_i (le_3 (by assumption) (by omega) (by rw [hinv, if_neg (by omega), if_neg (by omega), if_pos (by rw [getD_at hb]; first | assumption | exact nb (by assumption)), loadK_err (by decide)]) (by decide))
       | exact out_i (le_3 (by assumption) (by omega) (by rw [hinv, if_neg (by omega), if_neg (by omega), if_neg (by rw [getD_at hb]; first | assumption | exact nb (by assumption)), if_pos (by rw [getD_at hy]; omega), loadK_err (by decide)]) (by decide))
       | exact out_i (le_3 (by assumption) (by omega) (by rw [hinv, loadK_big (by omega)]) (by decide))
       | exact out_i (le_4 (by assumption) (by omega) hinv (by assumption))
       | exact out_i (le_5 (by assumption) (by omega) hinv (by assumption))
    ·have hb26R := hb26; (try simp only [z1, z2, z3, z4, z5, z6, ne_eq, z7, z8, z9, z10, z11, z12] at hb26); (try (have hit := itemsE_ok hb26)); (try (have hrg : 0 ≤ n ∧ n ≤ (its.length : Int) - 1 := hb26; obtain ⟨b, hb⟩ := ix_at (l := dn) (n := n) (by omega); obtain ⟨y, hy⟩ := ix_at (l := its) hrg; have hym := hit.2.1 y (List.mem_of_getElem? hy))); (try (have hpv := Prev.at hpr hb26))
     refine pwp_skip ?_
     refine seq_norm (hK25 _ ?_); clear hK25 K25
     rw [if_neg (by omega)] at hinv
     refine pwp_seq_plain rfl fun K28 hK28 => ?_
     refine p_step rfl (e_assign (v := .sc _) rfl) trivial ?_
     refine p_end (hK28 _ ?_); clear hK28 K28
     refine pwp_seq_seq ?_
     refine pwp_seq_plain rfl fun K29 hK29 => ?_
     refine p_step rfl (e_move (v := .lit _ _ _) rfl) trivial ?_
     refine p_step rfl (e_len rfl (by kernel_rfl)) trivial ?_
     refine p_step rfl (e_move (v := .sc _) rfl) trivial ?_
     refine p_end (hK29 _ ?_); clear hK29 K29
     refine pwp_seq_block fun K30 hK30 => ?_
     refine pwp_loopR (α := Nat × Int × Int) [0, 4, 8, 10, 30, 31, 32, 39, 40] (fun (a31 : Nat × Int × Int) => [(11, .int (a31.2.1)), (41, .int (a31.1))]) (fun (a31 : Nat × Int × Int) (h : Heap) (_ : Nat → Nat) => ((a31.1) ≤ l.length) ∧ (loadsR its x ls = loadK x (goL its x dn (a31.2.2) (a31.2.1) (l.drop (a31.1))) (goD its x (setD dn l) (ls.drop (k + 1)))) ∧ (0 ≤ (a31.2.1) ∧ (a31.2.1) ≤ 100000000 * ((a31.1) : Int)) ∧ (Prev l (a31.1) (a31.2.2)) ∧ (∀ m ∈ l.take (a31.1), 0 ≤ m ∧ m ≤ (its.length : Int) - 1) ∧ (h (4, 0) = some (.rows 2 [Lorry.enc x])) ∧ (h (29, 0) = some (.rows 1 (dn.map cbo)))) (fun (a31 : Nat × Int × Int) => l.length - (a31.1)) (0, 0, -1) (by exact ⟨rfl, rfl, trivial⟩) (by exact ⟨by exact Nat.zero_le _, by exact hinv, by exact ⟨Int.le_refl _, by simp⟩, by exact Prev.zero, by (intro m hm; simp at hm), hihj18_0, hihj18_1⟩) fun a31 r32 h33 c34 hj35 => ?_
     obtain ⟨j, s, p⟩ := a31
     obtain ⟨hj, hinv, hsb, hpr, hq, hihj35_0, hihj35_1⟩ := hj35
     try dsimp only at hj
     try dsimp only at hinv
     try dsimp only at hsb
     try dsimp only at hpr
     try dsimp only at hq
     try dsimp only at hihj35_0
     try dsimp only at hihj35_1
     show pwp _ _ (loopQ _ _ _) ⟨sets (mix _ _ _) [(11, .int s), (41, .int j)], _, _⟩
     refine pwp_seq_plain rfl fun K36 hK36 => ?_
     refine p_step rfl (e_lt rfl rfl) trivial ?_
     refine p_end (hK36 _ ?_); clear hK36 K36
     refine pwp_seq_cond rfl fun K37 hK37 => ⟨fun hb38 => ?_, fun hb38 => ?_⟩
     ·have hb38R := hb38; (try simp only [z1, z2, z3, z4, z5, z6, ne_eq, z7, z8, z9, z10, z11, z12] at hb38); (try (have hit := itemsE_ok hb38)); (try (have hrg : 0 ≤ n ∧ n ≤ (its.length : Int) - 1 := hb38; obtain ⟨b, hb⟩ := ix_at (l := dn) (n := n) (by omega); obtain ⟨y, hy⟩ := ix_at (l := its) hrg; have hym := hit.2.1 y (List.mem_of_getElem? hy))); (try (have hpv := Prev.at hpr hb38))
      obtain ⟨n, hn, hdn, htn⟩ := get_lt (xs := l) (i := j) (by omega)
      rw [hdn] at hinv; simp only [goL] at hinv
      refine pwp_skip ?_
      refine seq_norm (hK37 _ ?_); clear hK37 K37
      refine pwp_seq_block fun K39 hK39 => ?_
      refine pwp_seq_plain rfl fun K40 hK40 => ?_
      refine p_step rfl (e_move (v := .sc _) rfl) trivial ?_
      refine p_step rfl (e_ixa rfl rfl (by kernel_rfl) (by kernel_rfl) (by simp only [List.length_map]; omega)) trivial ?_
      refine p_step rfl (e_load (v := .sc _) rfl (by kernel_rfl) (by kernel_rfl) (by kernel_rfl) (by simp only [List.length_map]; omega) (by decide) ((cell_map hn _).trans rfl)) trivial ?_
      refine p_step rfl (e_assign (v := .sc _) rfl) trivial ?_
      refine p_step rfl (e_assign (v := .sc _) rfl) trivial ?_
      refine p_end (hK40 _ ?_); clear hK40 K40
      refine pwp_seq_block fun K41 hK41 => ?_
      refine pwp_seq_plain rfl fun K42 hK42 => ?_
      refine p_step rfl (e_move (v := .sc _) rfl) trivial ?_
      refine p_step rfl (e_move (v := .lit _ _ _) rfl) trivial ?_
      refine p_step rfl (e_len rfl (by kernel_rfl)) trivial ?_
      refine p_step rfl (e_sub rfl rfl (by first | omega | (simp only [List.length_map]; omega))) trivial ?_
      refine p_call rfl (.cons inn_sc (.cons inn_sc (.cons inn_sc .nil))) (within _ _ _) ?_
      refine p_step rfl (e_not rfl) trivial ?_
      refine p_step rfl (e_assign (v := .sc _) rfl) trivial ?_
      refine p_end (hK42 _ ?_); clear hK42 K42
      refine pwp_cond rfl (fun hb43 => ?_) (fun hb43 => ?_)
      ·have hb43R := hb43; (try simp only [z1, z2, z3, z4, z5, z6, ne_eq, z7, z8, z9, z10, z11, z12] at hb43); (try (have hit := itemsE_ok hb43)); (try (have hrg : 0 ≤ n ∧ n ≤ (its.length : Int) - 1 := hb43; obtain ⟨b, hb⟩ := ix_at (l := dn) (n := n) (by omega); obtain ⟨y, hy⟩ := ix_at (l := its) hrg; have hym := hit.2.1 y (List.mem_of_getElem? hy))); (try (have hpv := Prev.at hpr hb43))
       refine pwp_seq_plain rfl fun K44 hK44 => ?_
       refine p_step rfl (e_assign (v := .sc _) rfl) trivial ?_
       refine p_end (hK44 _ ?_); clear hK44 K44
       refine pwp_ret ?_
       refine ret_block ?_
       refine ret_seq ?_
       refine ret_block ?_
       refine ret_seq ?_
       refine ret_loop ?_
       refine ret_block ?_
       refine ret_seq ?_
       refine ret_block ?_
       refine ret_seq ?_
       refine ret_loop ?_
       refine ret_block ?_
       refine ret_seq ?_
       refine end1 (v := .sc _) rfl ?_
       first
         | exact out_i (le_1 (by assumption))
         | exact out_i (le_2 (by assumption) (by omega))
         | exact out_i (le_3 (by assumption) (by omega) (by rw [hinv, if_pos (by omega)]) (by decide))
         | exact out_i (le_3 (by assumption) (by omega) (by rw [hinv, if_pos (by omega), loadK_err (by decide)]) (by decide))
         | exact out_i (le_3 (by assumption) (by omega) (by rw [hinv, if_neg (by omega), if_pos (by omega), loadK_err (by decide)]) (by decide))
         | exact out_i (le_3 (by assumption) (by omega) (by rw [hinv, if_neg (by omega), if_neg (by omega), if_pos (by rw [getD_at hb]; first | assumption | exact nb (by assumption)), loadK_err (by decide)]) (by decide))
         | exact out_i (le_3 (by assumption) (by omega) (by rw [hinv, if_neg (by omega), if_neg (by omega), if_neg (by rw [getD_at hb]; first | assumption | exact nb (by assumption)), if_pos (by rw [getD_at hy]; omega), loadK_err (by decide)]) (by decide))
         | exact out_i (le_3 (by assumption) (by omega) (by rw [hinv, loadK_big (by omega)]) (by decide))
         | exact out_i (le_4 (by assumption) (by omega) hinv (by assumption))
         | exact out_i (le_5 (by assumption) (by omega) hinv (by assumption))
      ·have hb43R := hb43; (try simp only [z1, z2, z3, z4, z5, z6, ne_eq, z7, z8, z9, z10, z11, z12] at hb43); (try (have hit := itemsE_ok hb43)); (try (have hrg : 0 ≤ n ∧ n ≤ (its.length : Int) - 1 := hb43; obtain ⟨b, hb⟩ := ix_at (l := dn) (n := n) (by omega); obtain ⟨y, hy⟩ := ix_at (l := its) hrg; have hym := hit.2.1 y (List.mem_of_getElem? hy))); (try (have hpv := Prev.at hpr hb43))
       refine pwp_seq_cutG [0, 4, 8, 10, 11, 13, 30, 31, 32, 39, 40, 41] [(53, .bool ((decide ((0) < (j : Int))) && (decide (n ≤ p))))] (fun K45 hK45 => ?_) (fun r46 => ?_)
       ·skip
        refine pwp_gops rfl fun K47 hK47 => ?_
        refine g_begin ?_
        refine g_step rfl rfl rfl rfl (e_move (v := .sc _) rfl) trivial ?_
        refine g_step rfl rfl rfl rfl (e_gt rfl rfl) trivial ?_
        refine g_step rfl rfl rfl rfl (e_move (v := .sc _) rfl) trivial ?_
        refine g_cases (fun hb48 => ?_) (fun hb48 => ?_)
        ·have hb48R := hb48; (try simp only [z1, z2, z3, z4, z5, z6, ne_eq, z7, z8, z9, z10, z11, z12] at hb48); (try (have hit := itemsE_ok hb48)); (try (have hrg : 0 ≤ n ∧ n ≤ (its.length : Int) - 1 := hb48; obtain ⟨b, hb⟩ := ix_at (l := dn) (n := n) (by omega); obtain ⟨y, hy⟩ := ix_at (l := its) hrg; have hym := hit.2.1 y (List.mem_of_getElem? hy))); (try (have hpv := Prev.at hpr hb48))
         refine g_step rfl rfl rfl rfl (e_move (v := .sc _) rfl) trivial ?_
         refine g_step rfl rfl rfl rfl (e_move (v := .lit _ _ _) rfl) trivial ?_
         refine g_step rfl rfl rfl rfl (e_move (v := .sc _) rfl) trivial ?_
         refine g_step rfl rfl rfl rfl (e_sub rfl rfl (by first | omega | (simp only [List.length_map]; omega))) trivial ?_
         refine g_step rfl rfl rfl rfl (e_ixa rfl rfl (by kernel_rfl) (by kernel_rfl) (by simp only [List.length_map]; omega)) trivial ?_
         refine g_step rfl rfl rfl rfl (e_load (v := .sc _) rfl (by kernel_rfl) (by kernel_rfl) (by kernel_rfl) (by simp only [List.length_map]; omega) (by decide) ((cell_map hpv _).trans rfl)) trivial ?_
         refine g_step rfl rfl rfl rfl (e_le rfl rfl) trivial ?_
         refine g_step rfl rfl rfl rfl (e_pickT (v := .sc _) rfl rfl) trivial ?_
         refine g_step rfl rfl rfl rfl (e_assign (v := .sc _) rfl) trivial ?_
         refine g_end (ds := [57, 58, 59, 60, 61, 62, 63]) rfl rfl (hK47 _ ?_); clear hK47 K47
         exact seq_norm (hK45 _ ⟨rfl, rfl, rfl, rfl, rfl, rfl, rfl, rfl, rfl, rfl, rfl, rfl, trivial⟩ ⟨(congrArg PV.bool (show ((decide (n ≤ p)) : Bool) = ((decide ((0) < (j : Int))) && (decide (n ≤ p))) by first | rfl | ((try rw [hb48R]) <;> (first | rfl | (simp only [Bool.and_true, Bool.and_false, Bool.true_and, Bool.false_and, Bool.or_true, Bool.or_false, Bool.true_or, Bool.false_or, Bool.not_true, Bool.not_false, if_true, if_false, Bool.false_eq_true, reduceIte] <;> rfl))) | (simp only [hb48R, Bool.and_true, Bool.and_false, Bool.true_and, Bool.false_and, Bool.or_true, Bool.or_false, Bool.true_or, Bool.false_or, Bool.not_true, Bool.not_false, if_true, if_false, Bool.false_eq_true, reduceIte] <;> rfl))), trivial⟩)
        ·have hb48R := hb48; (try simp only [z1, z2, z3, z4, z5, z6, ne_eq, z7, z8, z9, z10, z11, z12] at hb48); (try (have hit := itemsE_ok hb48)); (try (have hrg : 0 ≤ n ∧ n ≤ (its.length : Int) - 1 := hb48; obtain ⟨b, hb⟩ := ix_at (l := dn) (n := n) (by omega); obtain ⟨y, hy⟩ := ix_at (l := its) hrg; have hym := hit.2.1 y (List.mem_of_getElem? hy))); (try (have hpv := Prev.at hpr hb48))
         refine g_skip rfl rfl rfl ?_
         refine g_skip rfl rfl rfl ?_
         refine g_skip rfl rfl rfl ?_
         refine g_skip rfl rfl rfl ?_
         refine g_skip rfl rfl rfl ?_
         refine g_skip rfl rfl rfl ?_
         refine g_skip rfl rfl rfl ?_
         refine g_step rfl rfl rfl rfl (e_pickF (v := .sc _) rfl rfl) trivial ?_
         refine g_step rfl rfl rfl rfl (e_assign (v := .sc _) rfl) trivial ?_
         refine g_end (ds := [57, 58, 59, 60, 61, 62, 63]) rfl rfl (hK47 _ ?_); clear hK47 K47
         exact seq_norm (hK45 _ ⟨rfl, rfl, rfl, rfl, rfl, rfl, rfl, rfl, rfl, rfl, rfl, rfl, trivial⟩ ⟨(congrArg PV.bool (show (false : Bool) = ((decide ((0) < (j : Int))) && (decide (n ≤ p))) by first | rfl | ((try rw [hb48R]) <;> (first | rfl | (simp only [Bool.and_true, Bool.and_false, Bool.true_and, Bool.false_and, Bool.or_true, Bool.or_false, Bool.true_or, Bool.false_or, Bool.not_true, Bool.not_false, if_true, if_false, Bool.false_eq_true, reduceIte] <;> rfl))) | (simp only [hb48R, Bool.and_true, Bool.and_false, Bool.true_and, Bool.false_and, Bool.or_true, Bool.or_false, Bool.true_or, Bool.false_or, Bool.not_true, Bool.not_false, if_true, if_false, Bool.false_eq_true, reduceIte] <;> rfl))), trivial⟩)
       ·skip
        refine pwp_cond rfl (fun hb49 => ?_) (fun hb49 => ?_)
        ·have hb49R := hb49; (try simp only [z1, z2, z3, z4, z5, z6, ne_eq, z7, z8, z9, z10, z11, z12] at hb49); (try (have hit := itemsE_ok hb49)); (try (have hrg : 0 ≤ n ∧ n ≤ (its.length : Int) - 1 := hb49; obtain ⟨b, hb⟩ := ix_at (l := dn) (n := n) (by omega); obtain ⟨y, hy⟩ := ix_at (l := its) hrg; have hym := hit.2.1 y (List.mem_of_getElem? hy))); (try (have hpv := Prev.at hpr hb49))
         refine pwp_seq_plain rfl fun K50 hK50 => ?_
         refine p_step rfl (e_assign (v := .sc _) rfl) trivial ?_
         refine p_end (hK50 _ ?_); clear hK50 K50
         refine pwp_ret ?_
         refine ret_block ?_
         refine ret_seq ?_
         refine ret_block ?_
         refine ret_seq ?_
         refine ret_loop ?_
         refine ret_block ?_
         refine ret_seq ?_
         refine ret_block ?_
         refine ret_seq ?_
         refine ret_loop ?_
         refine ret_block ?_
         refine ret_seq ?_
         refine end1 (v := .sc _) rfl ?_
         first
           | exact out_i (le_1 (by assumption))
           | exact out_i (le_2 (by assumption) (by omega))
           | exact out_i (le_3 (by assumption) (by omega) (by rw [hinv, if_pos (by omega)]) (by decide))
           | exact out_i (le_3 (by assumption) (by omega) (by rw [hinv, if_pos (by omega), loadK_err (by decide)]) (by decide))
           | exact out_i (le_3 (by assumption) (by omega) (by rw [hinv, if_neg (by omega), if_pos (by omega), loadK_err (by decide)]) (by decide))
           | exact out_i (le_3 (by assumption) (by omega) (by rw [hinv, if_neg (by omega), if_neg (by omega), if_pos (by rw [getD_at hb]; first | assumption | exact nb (by assumption)), loadK_err (by decide)]) (by decide))
           | exact out_i (le_3 (by assumption) (by omega) (by rw [hinv, if_neg (by omega), if_neg (by omega), if_neg (by rw [getD_at hb]; first | assumption | exact nb (by assumption)), if_pos (by rw [getD_at hy]; omega), loadK_err (by decide)]) (by decide))
           | exact out_i (le_3 (by assumption) (by omega) (by rw [hinv, loadK_big (by omega)]) (by decide))
           | exact out_i (le_4 (by assumption) (by omega) hinv (by assumption))
           | exact out_i (le_5 (by assumption) (by omega) hinv (by assumption))
        ·have hb49R := hb49; (try simp only [z1, z2, z3, z4, z5, z6, ne_eq, z7, z8, z9, z10, z11, z12] at hb49); (try (have hit := itemsE_ok hb49)); (try (have hrg : 0 ≤ n ∧ n ≤ (its.length : Int) - 1 := hb49; obtain ⟨b, hb⟩ := ix_at (l := dn) (n := n) (by omega); obtain ⟨y, hy⟩ := ix_at (l := its) hrg; have hym := hit.2.1 y (List.mem_of_getElem? hy))); (try (have hpv := Prev.at hpr hb49))
         have hord : p < n := by rcases hpr with ⟨_, _⟩ | ⟨_, _⟩ <;> omega
         refine pwp_seq_plain rfl fun K51 hK51 => ?_
         refine p_step rfl (e_move (v := .ref _ _ _ _) rfl) trivial ?_
         refine p_step rfl (e_move (v := .sc _) rfl) trivial ?_
         refine p_step rfl (e_ixaR0 rfl rfl (by kernel_rfl) (by kernel_rfl) (by omega)) trivial ?_
         refine p_step rfl (e_loadH (v := .sc _) rfl hihj35_1 (by kernel_rfl) (by kernel_rfl) (by kernel_rfl) (by simp only [List.length_map]; omega) (by decide) ((cell_map hb _).trans rfl)) trivial ?_
         refine p_step rfl (e_assign (v := .sc _) rfl) trivial ?_
         refine p_end (hK51 _ ?_); clear hK51 K51
         refine pwp_cond rfl (fun hb52 => ?_) (fun hb52 => ?_)
         ·have hb52R := hb52; (try simp only [z1, z2, z3, z4, z5, z6, ne_eq, z7, z8, z9, z10, z11, z12] at hb52); (try (have hit := itemsE_ok hb52)); (try (have hrg : 0 ≤ n ∧ n ≤ (its.length : Int) - 1 := hb52; obtain ⟨b, hb⟩ := ix_at (l := dn) (n := n) (by omega); obtain ⟨y, hy⟩ := ix_at (l := its) hrg; have hym := hit.2.1 y (List.mem_of_getElem? hy))); (try (have hpv := Prev.at hpr hb52))
          refine pwp_seq_plain rfl fun K53 hK53 => ?_
          refine p_step rfl (e_assign (v := .sc _) rfl) trivial ?_
          refine p_end (hK53 _ ?_); clear hK53 K53
          refine pwp_ret ?_
          refine ret_block ?_
          refine ret_seq ?_
          refine ret_block ?_
          refine ret_seq ?_
          refine ret_loop ?_
          refine ret_block ?_
          refine ret_seq ?_
          refine ret_block ?_
          refine ret_seq ?_
          refine ret_loop ?_
          refine ret_block ?_
          refine ret_seq ?_
          refine end1 (v := .sc _) rfl ?_
          first
            | exact out_i (le_1 (by assumption))
            | exact out_i (le_2 (by assumption) (by omega))
            | exact out_i (le_3 (by assumption) (by omega) (by rw [hinv, if_pos (by omega)]) (by decide))
            | exact out_i (le_3 (by assumption) (by omega) (by rw [hinv, if_pos (by omega), loadK_err (by decide)]) (by decide))
            | exact out_i (le_3 (by assumption) (by omega) (by rw [hinv, if_neg (by omega), if_pos (by omega), loadK_err (by decide)]) (by decide))
            | exact out_i (le_3 (by assumption) (by omega) (by rw [hinv, if_neg (by omega), if_neg (by omega), if_pos (by rw [getD_at hb]; first | assumption | exact nb (by assumption)), loadK_err (by decide)]) (by decide))
            | exact out_i (le_3 (by assumption) (by omega) (by rw [hinv, if_neg (by omega), if_neg (by omega), if_neg (by rw [getD_at hb]; first | assumption | exact nb (by assumption)), if_pos (by rw [getD_at hy]; omega), loadK_err (by decide)]) (by decide))
            | exact out_i (le_3 (by assumption) (by omega) (by rw [hinv, loadK_big (by omega)]) (by decide))
            | exact out_i (le_4 (by assumption) (by omega) hinv (by assumption))
            | exact out_i (le_5 (by assumption) (by omega) hinv (by assumption))
         ·have hb52R := hb52; (try simp only [z1, z2, z3, z4, z5, z6, ne_eq, z7, z8, z9, z10, z11, z12] at hb52); (try (have hit := itemsE_ok hb52)); (try (have hrg : 0 ≤ n ∧ n ≤ (its.length : Int) - 1 := hb52; obtain ⟨b, hb⟩ := ix_at (l := dn) (n := n) (by omega); obtain ⟨y, hy⟩ := ix_at (l := its) hrg; have hym := hit.2.1 y (List.mem_of_getElem? hy))); (try (have hpv := Prev.at hpr hb52))
          refine pwp_seq_gops rfl fun K54 hK54 => ?_
          refine g_begin ?_
          refine g_step rfl rfl rfl rfl (e_move (v := .lit _ _ _) rfl) trivial ?_
          refine g_step rfl rfl rfl rfl (e_move (v := .sc _) rfl) trivial ?_
          refine g_step rfl rfl rfl rfl (e_ixa rfl rfl (by kernel_rfl) (by kernel_rfl) (by simp only [List.length_map]; omega)) trivial ?_
          refine g_step rfl rfl rfl rfl (e_fa (pl := [(0, 1, false), (1, 1, false), (2, 1, false)]) rfl (by kernel_rfl) (by kernel_rfl) (by decide) rfl) trivial ?_
          refine g_step rfl rfl rfl rfl (e_load (v := .sc _) rfl (by kernel_rfl) (by kernel_rfl) (by kernel_rfl) (by simp only [List.length_map]; omega) (by decide) ((cell_map hy _).trans rfl)) trivial ?_
          refine g_step rfl rfl rfl rfl (e_faP (pl := [(0, 1, false), (1, 1, false)]) rfl (by kernel_rfl) (by kernel_rfl) (by decide) rfl) trivial ?_
          refine g_step rfl rfl rfl rfl (e_loadH (v := .sc _) rfl hihj35_0 (by kernel_rfl) (by kernel_rfl) (by kernel_rfl) (by exact Nat.zero_lt_one) (by decide) rfl) trivial ?_
          refine g_step rfl rfl rfl rfl (e_gt rfl rfl) trivial ?_
          refine g_step rfl rfl rfl rfl (e_assign (v := .sc _) rfl) trivial ?_
          refine g_end (ds := []) (by kernel_rfl) rfl (hK54 _ ?_); clear hK54 K54
          refine pwp_cond rfl (fun hb55 => ?_) (fun hb55 => ?_)
          ·have hb55R := hb55; (try simp only [z1, z2, z3, z4, z5, z6, ne_eq, z7, z8, z9, z10, z11, z12] at hb55); (try (have hit := itemsE_ok hb55)); (try (have hrg : 0 ≤ n ∧ n ≤ (its.length : Int) - 1 := hb55; obtain ⟨b, hb⟩ := ix_at (l := dn) (n := n) (by omega); obtain ⟨y, hy⟩ := ix_at (l := its) hrg; have hym := hit.2.1 y (List.mem_of_getElem? hy))); (try (have hpv := Prev.at hpr hb55))
           refine pwp_seq_plain rfl fun K56 hK56 => ?_
           refine p_step rfl (e_assign (v := .sc _) rfl) trivial ?_
           refine p_end (hK56 _ ?_); clear hK56 K56
           refine pwp_ret ?_
           refine ret_block ?_
           refine ret_seq ?_
           refine ret_block ?_
           refine ret_seq ?_
           refine ret_loop ?_
           refine ret_block ?_
           refine ret_seq ?_
           refine ret_block ?_
           refine ret_seq ?_
           refine ret_loop ?_
           refine ret_block ?_
           refine ret_seq ?_
           refine end1 (v := .sc _) rfl ?_
           first
             | exact out_i (le_1 (by assumption))
             | exact out_i (le_2 (by assumption) (by omega))
             | exact out_i (le_3 (by assumption) (by omega) (by rw [hinv, if_pos (by omega)]) (by decide))
             | exact out_i (le_3 (by assumption) (by omega) (by rw [hinv, if_pos (by omega), loadK_err (by decide)]) (by decide))
             | exact out_i (le_3 (by assumption) (by omega) (by rw [hinv, if_neg (by omega), if_pos (by omega), loadK_err (by decide)]) (by decide))
             | exact out_i (le_3 (by assumption) (by omega) (by rw [hinv, if_neg (by omega), if_neg (by omega), if_pos (by rw [getD_at hb]; first | assumption | exact nb (by assumption)), loadK_err (by decide)]) (by decide))
             | exact out_i (le_3 (by assumption) (by omega) (by rw [hinv, if_neg (by omega), if_neg (by omega), if_neg (by rw [getD_at hb]; first | assumption | exact nb (by assumption)), if_pos (by rw [getD_at hy]; omega), loadK_err (by decide)]) (by decide))
             | exact out_i (le_3 (by assumption) (by omega) (by rw [hinv, loadK_big (by omega)]) (by decide))
             | exact out_i (le_4 (by assumption) (by omega) hinv (by assumption))
             | exact out_i (le_5 (by assumption) (by omega) hinv (by assumption))
          ·have hb55R := hb55; (try simp only [z1, z2, z3, z4, z5, z6, ne_eq, z7, z8, z9, z10, z11, z12] at hb55); (try (have hit := itemsE_ok hb55)); (try (have hrg : 0 ≤ n ∧ n ≤ (its.length : Int) - 1 := hb55; obtain ⟨b, hb⟩ := ix_at (l := dn) (n := n) (by omega); obtain ⟨y, hy⟩ := ix_at (l := its) hrg; have hym := hit.2.1 y (List.mem_of_getElem? hy))); (try (have hpv := Prev.at hpr hb55))
           refine pwp_skip ?_
           refine block_norm ?_
           refine seq_norm (hK41 _ ?_); clear hK41 K41
           refine pwp_plain rfl fun K57 hK57 => ?_
           refine p_step rfl (e_move (v := .sc _) rfl) trivial ?_
           refine p_step rfl (e_move (v := .lit _ _ _) rfl) trivial ?_
           refine p_step rfl (e_move (v := .sc _) rfl) trivial ?_
           refine p_step rfl (e_ixa rfl rfl (by kernel_rfl) (by kernel_rfl) (by simp only [List.length_map]; omega)) trivial ?_
           refine p_step rfl (e_fa (pl := [(0, 1, false), (1, 1, false), (2, 1, false)]) rfl (by kernel_rfl) (by kernel_rfl) (by decide) rfl) trivial ?_
           refine p_step rfl (e_load (v := .sc _) rfl (by kernel_rfl) (by kernel_rfl) (by kernel_rfl) (by simp only [List.length_map]; omega) (by decide) ((cell_map hy _).trans rfl)) trivial ?_
           refine p_step rfl (e_add rfl rfl (by first | omega | (simp only [List.length_map]; omega))) trivial ?_
           refine p_step rfl (e_assign (v := .sc _) rfl) trivial ?_
           refine p_end (hK57 _ ?_); clear hK57 K57
           refine block_norm ?_
           refine seq_norm (hK39 _ ?_); clear hK39 K39
           refine pwp_plain rfl fun K58 hK58 => ?_
           refine p_step rfl (e_add rfl rfl (by first | omega | (simp only [List.length_map]; omega))) trivial ?_
           refine p_step rfl (e_move (v := .sc _) rfl) trivial ?_
           refine p_end (hK58 _ ?_); clear hK58 K58
           have hord : p < n := by rcases hpr with ⟨_, _⟩ | ⟨_, _⟩ <;> omega
           rw [if_neg (by omega), if_neg (by omega), if_neg (by rw [getD_at hb]; first | assumption | exact nb (by assumption)), if_neg (by rw [getD_at hy]; omega), getD_at hy] at hinv
           exact loop_again ((j + 1, (s + y.mass), n)) (by show _ < _; simp only; omega) ⟨rfl, rfl, rfl, rfl, rfl, rfl, rfl, rfl, rfl, trivial⟩ ⟨rfl, rfl, trivial⟩ (by exact ⟨by show _ + 1 ≤ _; omega, by exact hinv, by show 0 ≤ s + y.mass ∧ s + y.mass ≤ 100000000 * ((j + 1 : Nat) : Int); omega, by exact Prev.next hn, by exact all_snoc htn hq hrg, hihj35_0, hihj35_1⟩)
     ·have hb38R := hb38; (try simp only [z1, z2, z3, z4, z5, z6, ne_eq, z7, z8, z9, z10, z11, z12] at hb38); (try (have hit := itemsE_ok hb38)); (try (have hrg : 0 ≤ n ∧ n ≤ (its.length : Int) - 1 := hb38; obtain ⟨b, hb⟩ := ix_at (l := dn) (n := n) (by omega); obtain ⟨y, hy⟩ := ix_at (l := its) hrg; have hym := hit.2.1 y (List.mem_of_getElem? hy))); (try (have hpv := Prev.at hpr hb38))
      obtain rfl : j = l.length := by omega
      rw [List.drop_length] at hinv; simp only [goL] at hinv
      rw [List.take_length] at hq
      refine pwp_exit ?_
      refine exit_seq ?_
      clear hK37 K37
      refine exit_loop ?_
      refine exit_here ?_
      refine seq_norm (hK30 _ ?_); clear hK30 K30
      refine pwp_seq_seq ?_
      refine pwp_seq_plain rfl fun K59 hK59 => ?_
      refine p_step rfl (e_move (v := .sc _) rfl) trivial ?_
      refine p_step rfl (e_faP (pl := [(0, 1, false), (1, 1, false)]) rfl (by kernel_rfl) (by kernel_rfl) (by decide) rfl) trivial ?_
      refine p_step rfl (e_loadH (v := .sc _) rfl hihj35_0 (by kernel_rfl) (by kernel_rfl) (by kernel_rfl) (by exact Nat.zero_lt_one) (by decide) rfl) trivial ?_
      refine p_step rfl (e_gt rfl rfl) trivial ?_
      refine p_end (hK59 _ ?_); clear hK59 K59
      refine pwp_seq_cond rfl fun K60 hK60 => ⟨fun hb61 => ?_, fun hb61 => ?_⟩
      ·have hb61R := hb61; (try simp only [z1, z2, z3, z4, z5, z6, ne_eq, z7, z8, z9, z10, z11, z12] at hb61); (try (have hit := itemsE_ok hb61)); (try (have hrg : 0 ≤ n ∧ n ≤ (its.length : Int) - 1 := hb61; obtain ⟨b, hb⟩ := ix_at (l := dn) (n := n) (by omega); obtain ⟨y, hy⟩ := ix_at (l := its) hrg; have hym := hit.2.1 y (List.mem_of_getElem? hy))); (try (have hpv := Prev.at hpr hb61))
       refine pwp_seq_plain rfl fun K62 hK62 => ?_
       refine p_step rfl (e_assign (v := .sc _) rfl) trivial ?_
       refine p_end (hK62 _ ?_); clear hK62 K62
       refine pwp_ret ?_
       refine ret_seq ?_
       refine ret_block ?_
       refine ret_seq ?_
       refine ret_loop ?_
       refine ret_block ?_
       refine ret_seq ?_
       refine end1 (v := .sc _) rfl ?_
       first
         | exact out_i (le_1 (by assumption))
         | exact out_i (le_2 (by assumption) (by omega))
         | exact out_i (le_3 (by assumption) (by omega) (by rw [hinv, if_pos (by omega)]) (by decide))
         | exact out_i (le_3 (by assumption) (by omega) (by rw [hinv, if_pos (by omega), loadK_err (by decide)]) (by decide))
         | exact out_i (le_3 (by assumption) (by omega) (by rw [hinv, if_neg (by omega), if_pos (by omega), loadK_err (by decide)]) (by decide))
         | exact out_i (le_3 (by assumption) (by omega) (by rw [hinv, if_neg (by omega), if_neg (by omega), if_pos (by rw [getD_at hb]; first | assumption | exact nb (by assumption)), loadK_err (by decide)]) (by decide))
         | exact out_i (le_3 (by assumption) (by omega) (by rw [hinv, if_neg (by omega), if_neg (by omega), if_neg (by rw [getD_at hb]; first | assumption | exact nb (by assumption)), if_pos (by rw [getD_at hy]; omega), loadK_err (by decide)]) (by decide))
         | exact out_i (le_3 (by assumption) (by omega) (by rw [hinv, loadK_big (by omega)]) (by decide))
         | exact out_i (le_4 (by assumption) (by omega) hinv (by assumption))
         | exact out_i (le_5 (by assumption) (by omega) hinv (by assumption))
      ·have hb61R := hb61; (try simp only [z1, z2, z3, z4, z5, z6, ne_eq, z7, z8, z9, z10, z11, z12] at hb61); (try (have hit := itemsE_ok hb61)); (try (have hrg : 0 ≤ n ∧ n ≤ (its.length : Int) - 1 := hb61; obtain ⟨b, hb⟩ := ix_at (l := dn) (n := n) (by omega); obtain ⟨y, hy⟩ := ix_at (l := its) hrg; have hym := hit.2.1 y (List.mem_of_getElem? hy))); (try (have hpv := Prev.at hpr hb61))
       refine pwp_skip ?_
       refine seq_norm (hK60 _ ?_); clear hK60 K60
       rw [loadK_ok (by omega)] at hinv
       refine pwp_seq_plain rfl fun K63 hK63 => ?_
       refine p_step rfl (e_move (v := .lit _ _ _) rfl) trivial ?_
       refine p_step rfl (e_len rfl (by kernel_rfl)) trivial ?_
       refine p_step rfl (e_move (v := .sc _) rfl) trivial ?_
       refine p_end (hK63 _ ?_); clear hK63 K63
       refine pwp_block ?_
       refine pwp_loopR (α := Nat × (List Bool)) [0, 4, 8, 30, 31, 32, 91, 92] (fun (a64 : Nat × (List Bool)) => [(93, .int (a64.1))]) (fun (a64 : Nat × (List Bool)) (h : Heap) (_ : Nat → Nat) => ((a64.1) ≤ l.length) ∧ (loadsR its x ls = goD its x (setD (a64.2) (l.drop (a64.1))) (ls.drop (k + 1))) ∧ ((a64.2).length = its.length) ∧ (h (4, 0) = some (.rows 2 [Lorry.enc x])) ∧ (h (29, 0) = some (.rows 1 ((a64.2).map cbo)))) (fun (a64 : Nat × (List Bool)) => l.length - (a64.1)) (0, dn) (by exact ⟨rfl, trivial⟩) (by exact ⟨by exact Nat.zero_le _, by exact hinv, by exact hdl, hihj35_0, hihj35_1⟩) fun a64 r65 h66 c67 hj68 => ?_
       obtain ⟨j, dn⟩ := a64
       obtain ⟨hj, hinv, hdl, hihj68_0, hihj68_1⟩ := hj68
       try dsimp only at hj
       try dsimp only at hinv
       try dsimp only at hdl
       try dsimp only at hihj68_0
       try dsimp only at hihj68_1
       show pwp _ _ (loopQ _ _ _) ⟨sets (mix _ _ _) [(93, .int j)], _, _⟩
       refine pwp_seq_plain rfl fun K69 hK69 => ?_
       refine p_step rfl (e_lt rfl rfl) trivial ?_
       refine p_end (hK69 _ ?_); clear hK69 K69
       refine pwp_seq_cond rfl fun K70 hK70 => ⟨fun hb71 => ?_, fun hb71 => ?_⟩
       ·have hb71R := hb71; (try simp only [z1, z2, z3, z4, z5, z6, ne_eq, z7, z8, z9, z10, z11, z12] at hb71); (try (have hit := itemsE_ok hb71)); (try (have hrg : 0 ≤ n ∧ n ≤ (its.length : Int) - 1 := hb71; obtain ⟨b, hb⟩ := ix_at (l := dn) (n := n) (by omega); obtain ⟨y, hy⟩ := ix_at (l := its) hrg; have hym := hit.2.1 y (List.mem_of_getElem? hy))); (try (have hpv := Prev.at hpr hb71))
        obtain ⟨n, hn, hdn, htn⟩ := get_lt (xs := l) (i := j) (by omega)
        rw [hdn] at hinv; simp only [setD] at hinv
        have hrn := hq n (List.mem_of_getElem? hn)
        refine pwp_skip ?_
        refine seq_norm (hK70 _ ?_); clear hK70 K70
        refine pwp_seq_block fun K72 hK72 => ?_
        refine pwp_seq_plain rfl fun K73 hK73 => ?_
        refine p_step rfl (e_ixa rfl rfl (by kernel_rfl) (by kernel_rfl) (by simp only [List.length_map]; omega)) trivial ?_
        refine p_step rfl (e_load (v := .sc _) rfl (by kernel_rfl) (by kernel_rfl) (by kernel_rfl) (by simp only [List.length_map]; omega) (by decide) ((cell_map hn _).trans rfl)) trivial ?_
        refine p_step rfl (e_assign (v := .sc _) rfl) trivial ?_
        refine p_end (hK73 _ ?_); clear hK73 K73
        refine pwp_plain rfl fun K74 hK74 => ?_
        refine p_step rfl (e_move (v := .ref _ _ _ _) rfl) trivial ?_
        refine p_step rfl (e_move (v := .sc _) rfl) trivial ?_
        refine p_step rfl (e_ixaR0 rfl rfl (by kernel_rfl) (by kernel_rfl) (by omega)) trivial ?_
        refine p_store rfl (e_storeB (zs := dn) (a := true) rfl hihj68_1 rfl (by omega) (by kernel_rfl) (by kernel_rfl)) trivial ?_
        refine p_end (hK74 _ ?_); clear hK74 K74
        refine block_norm ?_
        refine seq_norm (hK72 _ ?_); clear hK72 K72
        refine pwp_plain rfl fun K75 hK75 => ?_
        refine p_step rfl (e_add rfl rfl (by first | omega | (simp only [List.length_map]; omega))) trivial ?_
        refine p_step rfl (e_move (v := .sc _) rfl) trivial ?_
        refine p_end (hK75 _ ?_); clear hK75 K75
        exact loop_again ((j + 1, ((dn).set (n).toNat true))) (by show _ < _; simp only; omega) ⟨rfl, rfl, rfl, rfl, rfl, rfl, rfl, rfl, trivial⟩ ⟨rfl, trivial⟩ (by exact ⟨by show _ + 1 ≤ _; omega, by exact hinv, by (simp only [List.length_set]; exact hdl), ((hset_ne (key_ne rfl)).trans hihj68_0), (hset_self _ _ _)⟩)
       ·have hb71R := hb71; (try simp only [z1, z2, z3, z4, z5, z6, ne_eq, z7, z8, z9, z10, z11, z12] at hb71); (try (have hit := itemsE_ok hb71)); (try (have hrg : 0 ≤ n ∧ n ≤ (its.length : Int) - 1 := hb71; obtain ⟨b, hb⟩ := ix_at (l := dn) (n := n) (by omega); obtain ⟨y, hy⟩ := ix_at (l := its) hrg; have hym := hit.2.1 y (List.mem_of_getElem? hy))); (try (have hpv := Prev.at hpr hb71))
        obtain rfl : j = l.length := by omega
        rw [List.drop_length] at hinv; simp only [setD] at hinv
        refine pwp_exit ?_
        refine exit_seq ?_
        clear hK70 K70
        refine exit_loop ?_
        refine exit_here ?_
        refine block_norm ?_
        refine seq_norm (hK22 _ ?_); clear hK22 K22
        refine pwp_plain rfl fun K76 hK76 => ?_
        refine p_step rfl (e_add rfl rfl (by first | omega | (simp only [List.length_map]; omega))) trivial ?_
        refine p_step rfl (e_move (v := .sc _) rfl) trivial ?_
        refine p_end (hK76 _ ?_); clear hK76 K76
        exact loop_again ((k + 1, dn)) (by show _ < _; simp only; omega) ⟨rfl, rfl, rfl, rfl, rfl, trivial⟩ ⟨rfl, trivial⟩ (by exact ⟨by show _ + 1 ≤ _; omega, by exact hinv, by exact hdl, hihj68_0, hihj68_1⟩)
   ·have hb21R := hb21; (try simp only [z1, z2, z3, z4, z5, z6, ne_eq, z7, z8, z9, z10, z11, z12] at hb21); (try (have hit := itemsE_ok hb21)); (try (have hrg : 0 ≤ n ∧ n ≤ (its.length : Int) - 1 := hb21; obtain ⟨b, hb⟩ := ix_at (l := dn) (n := n) (by omega); obtain ⟨y, hy⟩ := ix_at (l := its) hrg; have hym := hit.2.1 y (List.mem_of_getElem? hy))); (try (have hpv := Prev.at hpr hb21))
    obtain rfl : k = ls.length := by omega
    rw [List.drop_length] at hinv; simp only [goD] at hinv
    refine pwp_exit ?_
    refine exit_seq ?_
    clear hK20 K20
    refine exit_loop ?_
    refine exit_here ?_
    refine seq_norm (hK13 _ ?_); clear hK13 K13
    refine pwp_seq_seq ?_
    refine pwp_seq_plain rfl fun K77 hK77 => ?_
    refine p_step rfl (e_move (v := .ref _ _ _ _) rfl) trivial ?_
    refine p_call rfl (.cons (inn_ref (rows := (dn).map cbo) hihj18_1 (by first | (simp; done) | (simp only [List.length_map]; omega)) rfl (by exact pure_map cbo_pure)) (.cons inn_sc .nil)) (containsB _ _ (by omega)) ?_
    refine p_end (hK77 _ ?_); clear hK77 K77
    refine pwp_seq_cond rfl fun K78 hK78 => ⟨fun hb79 => ?_, fun hb79 => ?_⟩
    ·have hb79R := hb79; (try simp only [z1, z2, z3, z4, z5, z6, ne_eq, z7, z8, z9, z10, z11, z12] at hb79); (try (have hit := itemsE_ok hb79)); (try (have hrg : 0 ≤ n ∧ n ≤ (its.length : Int) - 1 := hb79; obtain ⟨b, hb⟩ := ix_at (l := dn) (n := n) (by omega); obtain ⟨y, hy⟩ := ix_at (l := its) hrg; have hym := hit.2.1 y (List.mem_of_getElem? hy))); (try (have hpv := Prev.at hpr hb79))
     refine pwp_seq_plain rfl fun K80 hK80 => ?_
     refine p_step rfl (e_assign (v := .sc _) rfl) trivial ?_
     refine p_end (hK80 _ ?_); clear hK80 K80
     refine pwp_ret ?_
     refine ret_seq ?_
     refine end1 (v := .sc _) rfl ?_
     first
       | exact out_i (le_1 (by assumption))
       | exact out_i (le_2 (by assumption) (by omega))
       | exact out_i (le_3 (by assumption) (by omega) (by rw [hinv, if_pos (by omega)]) (by decide))
       | exact out_i (le_3 (by assumption) (by omega) (by rw [hinv, if_pos (by omega), loadK_err (by decide)]) (by decide))
       | exact out_i (le_3 (by assumption) (by omega) (by rw [hinv, if_neg (by omega), if_pos (by omega), loadK_err (by decide)]) (by decide))
       | exact out_i (le_3 (by assumption) (by omega) (by rw [hinv, if_neg (by omega), if_neg (by omega), if_pos (by rw [getD_at hb]; first | assumption | exact nb (by assumption)), loadK_err (by decide)]) (by decide))
       | exact out_i (le_3 (by assumption) (by omega) (by rw [hinv, if_neg (by omega), if_neg (by omega), if_neg (by rw [getD_at hb]; first | assumption | exact nb (by assumption)), if_pos (by rw [getD_at hy]; omega), loadK_err (by decide)]) (by decide))
       | exact out_i (le_3 (by assumption) (by omega) (by rw [hinv, loadK_big (by omega)]) (by decide))
       | exact out_i (le_4 (by assumption) (by omega) hinv (by assumption))
       | exact out_i (le_5 (by assumption) (by omega) hinv (by assumption))
    ·have hb79R := hb79; (try simp only [z1, z2, z3, z4, z5, z6, ne_eq, z7, z8, z9, z10, z11, z12] at hb79); (try (have hit := itemsE_ok hb79)); (try (have hrg : 0 ≤ n ∧ n ≤ (its.length : Int) - 1 := hb79; obtain ⟨b, hb⟩ := ix_at (l := dn) (n := n) (by omega); obtain ⟨y, hy⟩ := ix_at (l := its) hrg; have hym := hit.2.1 y (List.mem_of_getElem? hy))); (try (have hpv := Prev.at hpr hb79))
     refine pwp_skip ?_
     refine seq_norm (hK78 _ ?_); clear hK78 K78
     refine pwp_seq_plain rfl fun K81 hK81 => ?_
     refine p_step rfl (e_assign (v := .sc _) rfl) trivial ?_
     refine p_end (hK81 _ ?_); clear hK81 K81
     refine pwp_ret ?_
     refine end1 (v := .sc _) rfl ?_
     first
       | exact out_i (le_1 (by assumption))
       | exact out_i (le_2 (by assumption) (by omega))
       | exact out_i (le_3 (by assumption) (by omega) (by rw [hinv, if_pos (by omega)]) (by decide))
       | exact out_i (le_3 (by assumption) (by omega) (by rw [hinv, if_pos (by omega), loadK_err (by decide)]) (by decide))
       | exact out_i (le_3 (by assumption) (by omega) (by rw [hinv, if_neg (by omega), if_pos (by omega), loadK_err (by decide)]) (by decide))
       | exact out_i (le_3 (by assumption) (by omega) (by rw [hinv, if_neg (by omega), if_neg (by omega), if_pos (by rw [getD_at hb]; first | assumption | exact nb (by assumption)), loadK_err (by decide)]) (by decide))
       | exact out_i (le_3 (by assumption) (by omega) (by rw [hinv, if_neg (by omega), if_neg (by omega), if_neg (by rw [getD_at hb]; first | assumption | exact nb (by assumption)), if_pos (by rw [getD_at hy]; omega), loadK_err (by decide)]) (by decide))
       | exact out_i (le_3 (by assumption) (by omega) (by rw [hinv, loadK_big (by omega)]) (by decide))
       | exact out_i (le_4 (by assumption) (by omega) hinv (by assumption))
       | exact out_i (le_5 (by assumption) (by omega) hinv (by assumption))

theorem fr31 : (inFrame Try.f31.ntmps (Try.f31.body.getD .skip) && Try.f31.results.toList.all (resScope Try.f31.ntmps)) = true := by kernel_rfl
theorem refLoads (its : List Item) (x : Lorry) (ls : List (List Int)) (hl : its.length ≤ 220) (hlx : ls.length ≤ 230) (hs : ∀ x ∈ its, x.name.size ≤ 30) (hl3 : ∀ l ∈ ls, l.length ≤ 30) : PCalls Try.prog 31 [.lit true 3 (its.map Item.enc), .agg x.enc, .lit true 1 (ls.map cl)] (.int (loadsE its x ls)) := by
 refine PCalls.of_code Try.func31 rfl rfl (by kernel_rfl) mixed fr31 (by show _ ≤ 113; simp) (.sc _) ?_
 refine pwp_seq_plain rfl fun K1 hK1 => ?_
 refine p_new rfl (e_box (n := 2) rfl rfl) ⟨rfl, by decide⟩ ?_
 refine p_step rfl (e_assign (v := .sc _) rfl) trivial ?_
 refine p_end (hK1 _ ?_); clear hK1 K1
 refine pwp_seq_seq ?_
 refine pwp_seq_plain rfl fun K2 hK2 => ?_
 refine p_step rfl (e_move (v := .lit _ _ _) rfl) trivial ?_
 refine p_step rfl (e_loadHA (n := 2) rfl (hset_self _ _ _) (by kernel_rfl) (by kernel_rfl) (by kernel_rfl) (by exact Nat.zero_lt_one) (by decide) rfl) trivial ?_
 refine p_call rfl (.cons inn_lit (.cons (inn_agg (Lorry.pure _)) .nil)) (refItems _ _ (by omega) (by assumption)) ?_
 refine p_step rfl (e_assign (v := .sc _) rfl) trivial ?_
 refine p_end (hK2 _ ?_); clear hK2 K2
 refine pwp_seq_seq ?_
 refine pwp_seq_plain rfl fun K3 hK3 => ?_
 refine p_step rfl (e_move (v := .sc _) rfl) trivial ?_
 refine p_step rfl (e_ne rfl rfl) trivial ?_
 refine p_end (hK3 _ ?_); clear hK3 K3
 refine pwp_seq_cond rfl fun K4 hK4 => ⟨fun hb5 => ?_, fun hb5 => ?_⟩
 ·have hb5R := hb5; (try simp only [z1, z2, z3, z4, z5, z6, ne_eq, z7, z8, z9, z10, z11, z12] at hb5); (try (have hit := itemsE_ok hb5)); (try (have hrg : 0 ≤ n ∧ n ≤ (its.length : Int) - 1 := hb5; obtain ⟨b, hb⟩ := ix_at (l := dn) (n := n) (by omega); obtain ⟨y, hy⟩ := ix_at (l := its) hrg; have hym := hit.2.1 y (List.mem_of_getElem? hy))); (try (have hpv := Prev.at hpr hb5))
  refine pwp_seq_plain rfl fun K6 hK6 => ?_
  refine p_step rfl (e_move (v := .sc _) rfl) trivial ?_
  refine p_step rfl (e_assign (v := .sc _) rfl) trivial ?_
  refine p_end (hK6 _ ?_); clear hK6 K6
  refine pwp_ret ?_
  refine ret_seq ?_
  refine end1 (v := .sc _) rfl ?_
  first
    | exact out_i (le_1 (by assumption))
    | exact out_i (le_2 (by assumption) (by omega))
    | exact out_i (le_3 (by assumption) (by omega) (by rw [hinv, if_pos (by omega)]) (by decide))
    | exact out_i (le_3 (by assumption) (by omega) (by rw [hinv, if_pos (by omega), loadK_err (by decide)]) (by decide))
    | exact out_i (le_3 (by assumption) (by omega) (by rw [hinv, if_neg (by omega), if_pos (by omega), loadK_err (by decide)]) (by decide))
    | exact out_i (le_3 (by assumption) (by omega) (by rw [hinv, if_neg (by omega), if_neg (by omega), if_pos (by rw [getD_at hb0]; first | assumption | exact nb (by assumption)), loadK_err (by decide)]) (by decide))
    | exact out_i (le_3 (by assumption) (by omega) (by rw [hinv, if_neg (by omega), if_neg (by omega), if_neg (by rw [getD_at hb0]; first | assumption | exact nb (by assumption)), if_pos (by rw [getD_at hy]; omega), loadK_err (by decide)]) (by decide))
    | exact out_i (le_3 (by assumption) (by omega) (by rw [hinv, loadK_big (by omega)]) (by decide))
    | exact out_i (le_4 (by assumption) (by omega) hinv (mem_f hb (by simpa using HBL)))
    | exact out_i (le_4 (by assumption) (by omega) hinv (mem_f hb (by assumption)))
    | exact out_i (le_5 (by assumption) (by omega) hinv (fun hc => by have := hal _ hc; cases this))
 ·have hb5R := hb5; (try simp only [z1, z2, z3, z4, z5, z6, ne_eq, z7, z8, z9, z10, z11, z12] at hb5); (try (have hit := itemsE_ok hb5)); (try (have hrg : 0 ≤ n ∧ n ≤ (its.length : Int) - 1 := hb5; obtain ⟨b, hb⟩ := ix_at (l := dn) (n := n) (by omega); obtain ⟨y, hy⟩ := ix_at (l := its) hrg; have hym := hit.2.1 y (List.mem_of_getElem? hy))); (try (have hpv := Prev.at hpr hb5))
  refine pwp_skip ?_
  refine seq_norm (hK4 _ ?_); clear hK4 K4
  refine pwp_seq_seq ?_
  refine pwp_seq_plain rfl fun K7 hK7 => ?_
  refine p_step rfl (e_move (v := .lit _ _ _) rfl) trivial ?_
  refine p_step rfl (e_len rfl (by kernel_rfl)) trivial ?_
  refine p_step rfl (e_move (v := .lit _ _ _) rfl) trivial ?_
  refine p_step rfl (e_len rfl (by kernel_rfl)) trivial ?_
  refine p_step rfl (e_gt rfl rfl) trivial ?_
  refine p_end (hK7 _ ?_); clear hK7 K7
  refine pwp_seq_cond rfl fun K8 hK8 => ⟨fun hb9 => ?_, fun hb9 => ?_⟩
  ·have hb9R := hb9; (try simp only [z1, z2, z3, z4, z5, z6, ne_eq, z7, z8, z9, z10, z11, z12] at hb9); (try (have hit := itemsE_ok hb9)); (try (have hrg : 0 ≤ n ∧ n ≤ (its.length : Int) - 1 := hb9; obtain ⟨b, hb⟩ := ix_at (l := dn) (n := n) (by omega); obtain ⟨y, hy⟩ := ix_at (l := its) hrg; have hym := hit.2.1 y (List.mem_of_getElem? hy))); (try (have hpv := Prev.at hpr hb9))
   refine pwp_seq_plain rfl fun K10 hK10 => ?_
   refine p_step rfl (e_assign (v := .sc _) rfl) trivial ?_
   refine p_end (hK10 _ ?_); clear hK10 K10
   refine pwp_ret ?_
   refine ret_seq ?_
   refine end1 (v := .sc _) rfl ?_
   first
     | exact out_i (le_1 (by assumption))
     | exact out_i (le_2 (by assumption) (by omega))
     | exact out_i (le_3 (by assumption) (by omega) (by rw [hinv, if_pos (by omega)]) (by decide))
     | exact out_i (le_3 (by assumption) (by omega) (by rw [hinv, if_pos (by omega), loadK_err (by decide)]) (by decide))
     | exact out_i (le_3 (by assumption) (by omega) (by rw [hinv, if_neg (by omega), if_pos (by omega), loadK_err (by decide)]) (by decide))
     | exact out_i (le_3 (by assumption) (by omega) (by rw [hinv, if_neg (by omega), if_neg (by omega), if_pos (by rw [getD_at hb0]; first | assumption | exact nb (by assumption)), loadK_err (by decide)]) (by decide))
     | exact out_i (le_3 (by assumption) (by omega) (by rw [hinv, if_neg (by omega), if_neg (by omega), if_neg (by rw [getD_at hb0]; first | assumption | exact nb (by assumption)), if_pos (by rw [getD_at hy]; omega), loadK_err (by decide)]) (by decide))
     | exact out_i (le_3 (by assumption) (by omega) (by rw [hinv, loadK_big (by omega)]) (by decide))
     | exact out_i (le_4 (by assumption) (by omega) hinv (mem_f hb (by simpa using HBL)))
     | exact out_i (le_4 (by assumption) (by omega) hinv (mem_f hb (by assumption)))
     | exact out_i (le_5 (by assumption) (by omega) hinv (fun hc => by have := hal _ hc; cases this))
  ·have hb9R := hb9; (try simp only [z1, z2, z3, z4, z5, z6, ne_eq, z7, z8, z9, z10, z11, z12] at hb9); (try (have hit := itemsE_ok hb9)); (try (have hrg : 0 ≤ n ∧ n ≤ (its.length : Int) - 1 := hb9; obtain ⟨b, hb⟩ := ix_at (l := dn) (n := n) (by omega); obtain ⟨y, hy⟩ := ix_at (l := its) hrg; have hym := hit.2.1 y (List.mem_of_getElem? hy))); (try (have hpv := Prev.at hpr hb9))
   refine pwp_skip ?_
   refine seq_norm (hK8 _ ?_); clear hK8 K8
   refine pwp_seq_plain rfl fun K11 hK11 => ?_
   refine p_step rfl (e_move (v := .lit _ _ _) rfl) trivial ?_
   refine p_step rfl (e_len rfl (by kernel_rfl)) trivial ?_
   refine p_new rfl (e_mkB (n := its.length) rfl rfl (by simp) (by kernel_rfl) (by kernel_rfl) (by kernel_rfl) (by decide +kernel) (by omega)) trivial ?_
   refine p_step rfl (e_assign (v := .ref _ _ _ _) rfl) trivial ?_
   refine p_end (hK11 _ ?_); clear hK11 K11
   refine pwp_seq_seq ?_
   refine pwp_seq_plain rfl fun K12 hK12 => ?_
   refine p_step rfl (e_assign (v := .sc _) rfl) trivial ?_
   refine p_end (hK12 _ ?_); clear hK12 K12
   refine pwp_seq_block fun K13 hK13 => ?_
   refine pwp_loopR (α := Nat × (List Bool)) [0, 2, 4, 8] (fun (a14 : Nat × (List Bool)) => [(9, .int (a14.1))]) (fun (a14 : Nat × (List Bool)) (h : Heap) (_ : Nat → Nat) => ((a14.1) ≤ ls.length) ∧ (loadsR its x ls = goD its x (a14.2) (ls.drop (a14.1))) ∧ ((a14.2).length = its.length) ∧ (h (4, 0) = some (.rows 2 [Lorry.enc x])) ∧ (h (27, 0) = some (.rows 1 ((a14.2).map cbo)))) (fun (a14 : Nat × (List Bool)) => ls.length - (a14.1)) (0, (List.replicate its.length false)) (by exact ⟨rfl, trivial⟩) (by exact ⟨by exact Nat.zero_le _, by exact rfl, by exact List.length_replicate, ((hset_ne (key_ne rfl)).trans (hset_self _ _ _)), (hset_self _ _ _)⟩) fun a14 r15 h16 c17 hj18 => ?_
   obtain ⟨k, dn⟩ := a14
   obtain ⟨hk, hinv, hdl, hihj18_0, hihj18_1⟩ := hj18
   try dsimp only at hk
   try dsimp only at hinv
   try dsimp only at hdl
   try dsimp only at hihj18_0
   try dsimp only at hihj18_1
   show pwp _ _ (loopQ _ _ _) ⟨sets (mix _ _ _) [(9, .int k)], _, _⟩
   refine pwp_seq_seq ?_
   refine pwp_seq_plain rfl fun K19 hK19 => ?_
   refine p_step rfl (e_move (v := .sc _) rfl) trivial ?_
   refine p_step rfl (e_move (v := .lit _ _ _) rfl) trivial ?_
   refine p_step rfl (e_len rfl (by kernel_rfl)) trivial ?_
   refine p_step rfl (e_lt rfl rfl) trivial ?_
   refine p_end (hK19 _ ?_); clear hK19 K19
   refine pwp_seq_cond rfl fun K20 hK20 => ⟨fun hb21 => ?_, fun hb21 => ?_⟩
   ·have hb21R := hb21; (try simp only [z1, z2, z3, z4, z5, z6, ne_eq, z7, z8, z9, z10, z11, z12] at hb21); (try (have hit := itemsE_ok hb21)); (try (have hrg : 0 ≤ n ∧ n ≤ (its.length : Int) - 1 := hb21; obtain ⟨b, hb⟩ := ix_at (l := dn) (n := n) (by omega); obtain ⟨y, hy⟩ := ix_at (l := its) hrg; have hym := hit.2.1 y (List.mem_of_getElem? hy))); (try (have hpv := Prev.at hpr hb21))
    obtain ⟨l, hl0, hdl0, htl0⟩ := get_lt (xs := ls) (i := k) (by omega)
    have hl30 := hl3 l (List.mem_of_getElem? hl0)
    obtain ⟨d0, hd0⟩ : ∃ d0, d0 = dn := ⟨_, rfl⟩
    rw [← hd0] at hinv
    rw [hdl0] at hinv; simp only [goD] at hinv
    refine pwp_skip ?_
    refine seq_norm (hK20 _ ?_); clear hK20 K20
    refine pwp_seq_block fun K22 hK22 => ?_
    refine pwp_seq_seq ?_
    refine pwp_seq_plain rfl fun K23 hK23 => ?_
    refine p_step rfl (e_move (v := .lit _ _ _) rfl) trivial ?_
    refine p_step rfl (e_move (v := .sc _) rfl) trivial ?_
    refine p_step rfl (e_ixa rfl rfl (by kernel_rfl) (by kernel_rfl) (by simp only [List.length_map]; omega)) trivial ?_
    refine p_step rfl (e_load (v := .lit _ _ _) rfl (by kernel_rfl) (by kernel_rfl) (by kernel_rfl) (by simp only [List.length_map]; omega) (by decide) ((cell_map hl0 _).trans rfl)) trivial ?_
    refine p_step rfl (e_len rfl (by kernel_rfl)) trivial ?_
    refine p_step rfl (e_eq rfl rfl) trivial ?_
    refine p_end (hK23 _ ?_); clear hK23 K23
    refine pwp_seq_cond rfl fun K24 hK24 => ⟨fun hb25 => ?_, fun hb25 => ?_⟩
    ·have hb25R := hb25; (try simp only [z1, z2, z3, z4, z5, z6, ne_eq, z7, z8, z9, z10, z11, z12] at hb25); (try (have hit := itemsE_ok hb25)); (try (have hrg : 0 ≤ n ∧ n ≤ (its.length : Int) - 1 := hb25; obtain ⟨b, hb⟩ := ix_at (l := dn) (n := n) (by omega); obtain ⟨y, hy⟩ := ix_at (l := its) hrg; have hym := hit.2.1 y (List.mem_of_getElem? hy))); (try (have hpv := Prev.at hpr hb25))
     refine pwp_seq_plain rfl fun K26 hK26 => ?_
     refine p_step rfl (e_assign (v := .sc _) rfl) trivial ?_
     refine p_end (hK26 _ ?_); clear hK26 K26
     refine pwp_ret ?_
     refine ret_seq ?_
     refine ret_block ?_
     refine ret_seq ?_
     refine ret_loop ?_
     refine ret_block ?_
     refine ret_seq ?_
     refine end1 (v := .sc _) rfl ?_
     first
       | exact out_i (le_1 (by assumption))
       | exact out_i (le_2 (by assumption) (by omega))
       | exact out_i (le_3 (by assumption) (by omega) (by rw [hinv, if_pos (by omega)]) (by decide))
       | exact out_i (le_3 (by assumption) (by omega) (by rw [hinv, if_pos (by omega), loadK_err (by decide)]) (by decide))
       | exact out_i (le_3 (by assumption) (by omega) (by rw [hinv, if_neg (by omega), if_pos (by omega), loadK_err (by decide)]) (by decide))
       | exact out_i (le_3 (by assumption) (by omega) (by rw [hinv, if_neg (by omega), if_neg (by omega), if_pos (by rw [getD_at hb0]; first | assumption | exact nb (by assumption)), loadK_err (by decide)]) (by decide))
       | exact out_i (le_3 (by assumption) (by omega) (by rw [hinv, if_neg (by omega), if_neg (by omega), if_neg (by rw [getD_at hb0]; first | assumption | exact nb (by assumption)), if_pos (by rw [getD_at hy]; omega), loadK_err (by decide)]) (by decide))
       | exact out_i (le_3 (by assumption) (by omega) (by rw [hinv, loadK_big (by omega)]) (by decide))
       | exact out_i (le_4 (by assumption) (by omega) hinv (mem_f hb (by simpa using HBL)))
       | exact out_i (le_4 (by assumption) (by omega) hinv (mem_f hb (by assumption)))
       | exact out_i (le_5 (by assumption) (by omega) hinv (fun hc => by have := hal _ hc; cases this))
    ·have hb25R := hb25; (try simp only [z1, z2, z3, z4, z5, z6, ne_eq, z7, z8, z9, z10, z11, z12] at hb25); (try (have hit := itemsE_ok hb25)); (try (have hrg : 0 ≤ n ∧ n ≤ (its.length : Int) - 1 := hb25; obtain ⟨b, hb⟩ := ix_at (l := dn) (n := n) (by omega); obtain ⟨y, hy⟩ := ix_at (l := its) hrg; have hym := hit.2.1 y (List.mem_of_getElem? hy))); (try (have hpv := Prev.at hpr hb25))
     refine pwp_skip ?_
     refine seq_norm (hK24 _ ?_); clear hK24 K24
     rw [if_neg (by omega)] at hinv
     refine pwp_seq_plain rfl fun K27 hK27 => ?_
     refine p_step rfl (e_assign (v := .sc _) rfl) trivial ?_
     refine p_end (hK27 _ ?_); clear hK27 K27
     refine pwp_seq_seq ?_
     refine pwp_seq_plain rfl fun K28 hK28 => ?_
     refine p_step rfl (e_assign (v := .sc _) rfl) trivial ?_
     refine p_end (hK28 _ ?_); clear hK28 K28
     refine pwp_seq_block fun K29 hK29 => ?_
     refine pwp_loopR (α := Nat × Int × Int × (List Bool)) [0, 2, 4, 8, 9] (fun (a30 : Nat × Int × Int × (List Bool)) => [(10, .int (a30.2.1)), (11, .int (a30.1))]) (fun (a30 : Nat × Int × Int × (List Bool)) (h : Heap) (_ : Nat → Nat) => ((a30.1) ≤ l.length) ∧ (loadsR its x ls = loadK x (goL its x d0 (a30.2.2.1) (a30.2.1) (l.drop (a30.1))) (goD its x (setD d0 l) (ls.drop (k + 1)))) ∧ (0 ≤ (a30.2.1) ∧ (a30.2.1) ≤ 100000000 * ((a30.1) : Int)) ∧ (Prev l (a30.1) (a30.2.2.1)) ∧ ((a30.2.2.2) = setD d0 (l.take (a30.1))) ∧ (∀ m ∈ l.take (a30.1), 0 ≤ m ∧ m ≤ (a30.2.2.1)) ∧ ((a30.2.2.2).length = its.length) ∧ (h (4, 0) = some (.rows 2 [Lorry.enc x])) ∧ (h (27, 0) = some (.rows 1 ((a30.2.2.2).map cbo)))) (fun (a30 : Nat × Int × Int × (List Bool)) => l.length - (a30.1)) (0, 0, -1, dn) (by exact ⟨rfl, rfl, trivial⟩) (by exact ⟨by exact Nat.zero_le _, by exact hinv, by exact ⟨Int.le_refl _, by simp⟩, by exact Prev.zero, by exact hd0.symm, by (intro m hm; simp at hm), by exact hdl, hihj18_0, hihj18_1⟩) fun a30 r31 h32 c33 hj34 => ?_
     obtain ⟨j, s, p, dn⟩ := a30
     obtain ⟨hj, hinv, hsb, hpr, hdq, hmp, hdl, hihj34_0, hihj34_1⟩ := hj34
     try dsimp only at hj
     try dsimp only at hinv
     try dsimp only at hsb
     try dsimp only at hpr
     try dsimp only at hdq
     try dsimp only at hmp
     try dsimp only at hdl
     try dsimp only at hihj34_0
     try dsimp only at hihj34_1
     show pwp _ _ (loopQ _ _ _) ⟨sets (mix _ _ _) [(10, .int s), (11, .int j)], _, _⟩
     refine pwp_seq_seq ?_
     refine pwp_seq_plain rfl fun K35 hK35 => ?_
     refine p_step rfl (e_move (v := .sc _) rfl) trivial ?_
     refine p_step rfl (e_move (v := .lit _ _ _) rfl) trivial ?_
     refine p_step rfl (e_move (v := .sc _) rfl) trivial ?_
     refine p_step rfl (e_ixa rfl rfl (by kernel_rfl) (by kernel_rfl) (by simp only [List.length_map]; omega)) trivial ?_
     refine p_step rfl (e_load (v := .lit _ _ _) rfl (by kernel_rfl) (by kernel_rfl) (by kernel_rfl) (by simp only [List.length_map]; omega) (by decide) ((cell_map hl0 _).trans rfl)) trivial ?_
     refine p_step rfl (e_len rfl (by kernel_rfl)) trivial ?_
     refine p_step rfl (e_lt rfl rfl) trivial ?_
     refine p_end (hK35 _ ?_); clear hK35 K35
     refine pwp_seq_cond rfl fun K36 hK36 => ⟨fun hb37 => ?_, fun hb37 => ?_⟩
     ·have hb37R := hb37; (try simp only [z1, z2, z3, z4, z5, z6, ne_eq, z7, z8, z9, z10, z11, z12] at hb37); (try (have hit := itemsE_ok hb37)); (try (have hrg : 0 ≤ n ∧ n ≤ (its.length : Int) - 1 := hb37; obtain ⟨b, hb⟩ := ix_at (l := dn) (n := n) (by omega); obtain ⟨y, hy⟩ := ix_at (l := its) hrg; have hym := hit.2.1 y (List.mem_of_getElem? hy))); (try (have hpv := Prev.at hpr hb37))
      obtain ⟨n, hn, hdn, htn⟩ := get_lt (xs := l) (i := j) (by omega)
      rw [hdn] at hinv; simp only [goL] at hinv
      refine pwp_skip ?_
      refine seq_norm (hK36 _ ?_); clear hK36 K36
      refine pwp_seq_block fun K38 hK38 => ?_
      refine pwp_seq_plain rfl fun K39 hK39 => ?_
      refine p_step rfl (e_move (v := .lit _ _ _) rfl) trivial ?_
      refine p_step rfl (e_move (v := .sc _) rfl) trivial ?_
      refine p_step rfl (e_ixa rfl rfl (by kernel_rfl) (by kernel_rfl) (by simp only [List.length_map]; omega)) trivial ?_
      refine p_step rfl (e_load (v := .lit _ _ _) rfl (by kernel_rfl) (by kernel_rfl) (by kernel_rfl) (by simp only [List.length_map]; omega) (by decide) ((cell_map hl0 _).trans rfl)) trivial ?_
      refine p_step rfl (e_move (v := .sc _) rfl) trivial ?_
      refine p_step rfl (e_ixa rfl rfl (by kernel_rfl) (by kernel_rfl) (by simp only [List.length_map]; omega)) trivial ?_
      refine p_step rfl (e_load (v := .sc _) rfl (by kernel_rfl) (by kernel_rfl) (by kernel_rfl) (by simp only [List.length_map]; omega) (by decide) ((cell_map hn _).trans rfl)) trivial ?_
      refine p_step rfl (e_assign (v := .sc _) rfl) trivial ?_
      refine p_end (hK39 _ ?_); clear hK39 K39
      refine pwp_seq_seq ?_
      refine pwp_seq_plain rfl fun K40 hK40 => ?_
      refine p_step rfl (e_move (v := .sc _) rfl) trivial ?_
      refine p_step rfl (e_move (v := .lit _ _ _) rfl) trivial ?_
      refine p_step rfl (e_len rfl (by kernel_rfl)) trivial ?_
      refine p_step rfl (e_sub rfl rfl (by first | omega | (simp only [List.length_map]; omega))) trivial ?_
      refine p_call rfl (.cons inn_sc (.cons inn_sc (.cons inn_sc .nil))) (Within _ _ _) ?_
      refine p_step rfl (e_not rfl) trivial ?_
      refine p_end (hK40 _ ?_); clear hK40 K40
      refine pwp_seq_cond rfl fun K41 hK41 => ⟨fun hb42 => ?_, fun hb42 => ?_⟩
      ·have hb42R := hb42; (try simp only [z1, z2, z3, z4, z5, z6, ne_eq, z7, z8, z9, z10, z11, z12] at hb42); (try (have hit := itemsE_ok hb42)); (try (have hrg : 0 ≤ n ∧ n ≤ (its.length : Int) - 1 := hb42; obtain ⟨b, hb⟩ := ix_at (l := dn) (n := n) (by omega); obtain ⟨y, hy⟩ := ix_at (l := its) hrg; have hym := hit.2.1 y (List.mem_of_getElem? hy))); (try (have hpv := Prev.at hpr hb42))
       refine pwp_seq_plain rfl fun K43 hK43 => ?_
       refine p_step rfl (e_assign (v := .sc _) rfl) trivial ?_
       refine p_end (hK43 _ ?_); clear hK43 K43
       refine pwp_ret ?_
       refine ret_seq ?_
       refine ret_block ?_
       refine ret_seq ?_
       refine ret_loop ?_
       refine ret_block ?_
       refine ret_seq ?_
       refine ret_block ?_
       refine ret_seq ?_
       refine ret_loop ?_
       refine ret_block ?_
       refine ret_seq ?_
       refine end1 (v := .sc _) rfl ?_
       first
         | exact out_i (le_1 (by assumption))
         | exact out_i (le_2 (by assumption) (by omega))
         | exact out_i (le_3 (by assumption) (by omega) (by rw [hinv, if_pos (by omega)]) (by decide))
         | exact out_i (le_3 (by assumption) (by omega) (by rw [hinv, if_pos (by omega), loadK_err (by decide)]) (by decide))
         | exact out_i (le_3 (by assumption) (by omega) (by rw [hinv, if_neg (by omega), if_pos (by omega), loadK_err (by decide)]) (by decide))
         | exact out_i (le_3 (by assumption) (by omega) (by rw [hinv, if_neg (by omega), if_neg (by omega), if_pos (by rw [getD_at hb0]; first | assumption | exact nb (by assumption)), loadK_err (by decide)]) (by decide))
         | exact out_i (le_3 (by assumption) (by omega) (by rw [hinv, if_neg (by omega), if_neg (by omega), if_neg (by rw [getD_at hb0]; first | assumption | exact nb (by assumption)), if_pos (by rw [getD_at hy]; omega), loadK_err (by decide)]) (by decide))
         | exact out_i (le_3 (by assumption) (by omega) (by rw [hinv, loadK_big (by omega)]) (by decide))
         | exact out_i (le_4 (by assumption) (by omega) hinv (mem_f hb (by simpa using HBL)))
         | exact out_i (le_4 (by assumption) (by omega) hinv (mem_f hb (by assumption)))
         | exact out_i (le_5 (by assumption) (by omega) hinv (fun hc => by have := hal _ hc; cases this))
      ·have hb42R := hb42; (try simp only [z1, z2, z3, z4, z5, z6, ne_eq, z7, z8, z9, z10, z11, z12] at hb42); (try (have hit := itemsE_ok hb42)); (try (have hrg : 0 ≤ n ∧ n ≤ (its.length : Int) - 1 := hb42; obtain ⟨b, hb⟩ := ix_at (l := dn) (n := n) (by omega); obtain ⟨y, hy⟩ := ix_at (l := its) hrg; have hym := hit.2.1 y (List.mem_of_getElem? hy))); (try (have hpv := Prev.at hpr hb42))
       refine pwp_skip ?_
       refine seq_norm (hK41 _ ?_); clear hK41 K41
       refine pwp_seq_seq ?_
       refine pwp_seq_cutG [0, 2, 4, 8, 9, 10, 11, 12] [(75, .bool ((decide ((0) < (j : Int))) && (decide (n ≤ p))))] (fun K44 hK44 => ?_) (fun r45 => ?_)
       ·skip
        refine pwp_gops rfl fun K46 hK46 => ?_
        refine g_begin ?_
        refine g_step rfl rfl rfl rfl (e_move (v := .sc _) rfl) trivial ?_
        refine g_step rfl rfl rfl rfl (e_gt rfl rfl) trivial ?_
        refine g_step rfl rfl rfl rfl (e_move (v := .sc _) rfl) trivial ?_
        refine g_cases (fun hb47 => ?_) (fun hb47 => ?_)
        ·have hb47R := hb47; (try simp only [z1, z2, z3, z4, z5, z6, ne_eq, z7, z8, z9, z10, z11, z12] at hb47); (try (have hit := itemsE_ok hb47)); (try (have hrg : 0 ≤ n ∧ n ≤ (its.length : Int) - 1 := hb47; obtain ⟨b, hb⟩ := ix_at (l := dn) (n := n) (by omega); obtain ⟨y, hy⟩ := ix_at (l := its) hrg; have hym := hit.2.1 y (List.mem_of_getElem? hy))); (try (have hpv := Prev.at hpr hb47))
         refine g_step rfl rfl rfl rfl (e_move (v := .sc _) rfl) trivial ?_
         refine g_step rfl rfl rfl rfl (e_move (v := .lit _ _ _) rfl) trivial ?_
         refine g_step rfl rfl rfl rfl (e_move (v := .sc _) rfl) trivial ?_
         refine g_step rfl rfl rfl rfl (e_ixa rfl rfl (by kernel_rfl) (by kernel_rfl) (by simp only [List.length_map]; omega)) trivial ?_
         refine g_step rfl rfl rfl rfl (e_load (v := .lit _ _ _) rfl (by kernel_rfl) (by kernel_rfl) (by kernel_rfl) (by simp only [List.length_map]; omega) (by decide) ((cell_map hl0 _).trans rfl)) trivial ?_
         refine g_step rfl rfl rfl rfl (e_move (v := .sc _) rfl) trivial ?_
         refine g_step rfl rfl rfl rfl (e_sub rfl rfl (by first | omega | (simp only [List.length_map]; omega))) trivial ?_
         refine g_step rfl rfl rfl rfl (e_ixa rfl rfl (by kernel_rfl) (by kernel_rfl) (by simp only [List.length_map]; omega)) trivial ?_
         refine g_step rfl rfl rfl rfl (e_load (v := .sc _) rfl (by kernel_rfl) (by kernel_rfl) (by kernel_rfl) (by simp only [List.length_map]; omega) (by decide) ((cell_map hpv _).trans rfl)) trivial ?_
         refine g_step rfl rfl rfl rfl (e_le rfl rfl) trivial ?_
         refine g_step rfl rfl rfl rfl (e_pickT (v := .sc _) rfl rfl) trivial ?_
         refine g_end (ds := [65, 66, 67, 68, 69, 70, 71, 72, 73, 74]) rfl rfl (hK46 _ ?_); clear hK46 K46
         exact seq_norm (hK44 _ ⟨rfl, rfl, rfl, rfl, rfl, rfl, rfl, rfl, trivial⟩ ⟨(congrArg PV.bool (show ((decide (n ≤ p)) : Bool) = ((decide ((0) < (j : Int))) && (decide (n ≤ p))) by first | rfl | ((try rw [hb47R]) <;> (first | rfl | (simp only [Bool.and_true, Bool.and_false, Bool.true_and, Bool.false_and, Bool.or_true, Bool.or_false, Bool.true_or, Bool.false_or, Bool.not_true, Bool.not_false, if_true, if_false, Bool.false_eq_true, reduceIte] <;> rfl))) | (simp only [hb47R, Bool.and_true, Bool.and_false, Bool.true_and, Bool.false_and, Bool.or_true, Bool.or_false, Bool.true_or, Bool.false_or, Bool.not_true, Bool.not_false, if_true, if_false, Bool.false_eq_true, reduceIte] <;> rfl))), trivial⟩)
        ·have hb47R := hb47; (try simp only [z1, z2, z3, z4, z5, z6, ne_eq, z7, z8, z9, z10, z11, z12] at hb47); (try (have hit := itemsE_ok hb47)); (try (have hrg : 0 ≤ n ∧ n ≤ (its.length : Int) - 1 := hb47; obtain ⟨b, hb⟩ := ix_at (l := dn) (n := n) (by omega); obtain ⟨y, hy⟩ := ix_at (l := its) hrg; have hym := hit.2.1 y (List.mem_of_getElem? hy))); (try (have hpv := Prev.at hpr hb47))
         refine g_skip rfl rfl rfl ?_
         refine g_skip rfl rfl rfl ?_
         refine g_skip rfl rfl rfl ?_
         refine g_skip rfl rfl rfl ?_
         refine g_skip rfl rfl rfl ?_
         refine g_skip rfl rfl rfl ?_
         refine g_skip rfl rfl rfl ?_
         refine g_skip rfl rfl rfl ?_
         refine g_skip rfl rfl rfl ?_
         refine g_skip rfl rfl rfl ?_
         refine g_step rfl rfl rfl rfl (e_pickF (v := .sc _) rfl rfl) trivial ?_
         refine g_end (ds := [65, 66, 67, 68, 69, 70, 71, 72, 73, 74]) rfl rfl (hK46 _ ?_); clear hK46 K46
         exact seq_norm (hK44 _ ⟨rfl, rfl, rfl, rfl, rfl, rfl, rfl, rfl, trivial⟩ ⟨(congrArg PV.bool (show (false : Bool) = ((decide ((0) < (j : Int))) && (decide (n ≤ p))) by first | rfl | ((try rw [hb47R]) <;> (first | rfl | (simp only [Bool.and_true, Bool.and_false, Bool.true_and, Bool.false_and, Bool.or_true, Bool.or_false, Bool.true_or, Bool.false_or, Bool.not_true, Bool.not_false, if_true, if_false, Bool.false_eq_true, reduceIte] <;> rfl))) | (simp only [hb47R, Bool.and_true, Bool.and_false, Bool.true_and, Bool.false_and, Bool.or_true, Bool.or_false, Bool.true_or, Bool.false_or, Bool.not_true, Bool.not_false, if_true, if_false, Bool.false_eq_true, reduceIte] <;> rfl))), trivial⟩)
       ·skip
        refine pwp_seq_cond rfl fun K48 hK48 => ⟨fun hb49 => ?_, fun hb49 => ?_⟩
        ·have hb49R := hb49; (try simp only [z1, z2, z3, z4, z5, z6, ne_eq, z7, z8, z9, z10, z11, z12] at hb49); (try (have hit := itemsE_ok hb49)); (try (have hrg : 0 ≤ n ∧ n ≤ (its.length : Int) - 1 := hb49; obtain ⟨b, hb⟩ := ix_at (l := dn) (n := n) (by omega); obtain ⟨y, hy⟩ := ix_at (l := its) hrg; have hym := hit.2.1 y (List.mem_of_getElem? hy))); (try (have hpv := Prev.at hpr hb49))
         refine pwp_seq_plain rfl fun K50 hK50 => ?_
         refine p_step rfl (e_assign (v := .sc _) rfl) trivial ?_
         refine p_end (hK50 _ ?_); clear hK50 K50
         refine pwp_ret ?_
         refine ret_seq ?_
         refine ret_block ?_
         refine ret_seq ?_
         refine ret_loop ?_
         refine ret_block ?_
         refine ret_seq ?_
         refine ret_block ?_
         refine ret_seq ?_
         refine ret_loop ?_
         refine ret_block ?_
         refine ret_seq ?_
         refine end1 (v := .sc _) rfl ?_
         first
           | exact out_i (le_1 (by assumption))
           | exact out_i (le_2 (by assumption) (by omega))
           | exact out_i (le_3 (by assumption) (by omega) (by rw [hinv, if_pos (by omega)]) (by decide))
           | exact out_i (le_3 (by assumption) (by omega) (by rw [hinv, if_pos (by omega), loadK_err (by decide)]) (by decide))
           | exact out_i (le_3 (by assumption) (by omega) (by rw [hinv, if_neg (by omega), if_pos (by omega), loadK_err (by decide)]) (by decide))
           | exact out_i (le_3 (by assumption) (by omega) (by rw [hinv, if_neg (by omega), if_neg (by omega), if_pos (by rw [getD_at hb0]; first | assumption | exact nb (by assumption)), loadK_err (by decide)]) (by decide))
           | exact out_i (le_3 (by assumption) (by omega) (by rw [hinv, if_neg (by omega), if_neg (by omega), if_neg (by rw [getD_at hb0]; first | assumption | exact nb (by assumption)), if_pos (by rw [getD_at hy]; omega), loadK_err (by decide)]) (by decide))
           | exact out_i (le_3 (by assumption) (by omega) (by rw [hinv, loadK_big (by omega)]) (by decide))
           | exact out_i (le_4 (by assumption) (by omega) hinv (mem_f hb (by simpa using HBL)))
           | exact out_i (le_4 (by assumption) (by omega) hinv (mem_f hb (by assumption)))
           | exact out_i (le_5 (by assumption) (by omega) hinv (fun hc => by have := hal _ hc; cases this))
        ·have hb49R := hb49; (try simp only [z1, z2, z3, z4, z5, z6, ne_eq, z7, z8, z9, z10, z11, z12] at hb49); (try (have hit := itemsE_ok hb49)); (try (have hrg : 0 ≤ n ∧ n ≤ (its.length : Int) - 1 := hb49; obtain ⟨b, hb⟩ := ix_at (l := dn) (n := n) (by omega); obtain ⟨y, hy⟩ := ix_at (l := its) hrg; have hym := hit.2.1 y (List.mem_of_getElem? hy))); (try (have hpv := Prev.at hpr hb49))
         refine pwp_skip ?_
         refine seq_norm (hK48 _ ?_); clear hK48 K48
         refine pwp_seq_seq ?_
         have hord : p < n := by rcases hpr with ⟨_, _⟩ | ⟨_, _⟩ <;> omega
         have hb0 : d0[n.toNat]? = some b := by rw [← hb, hdq, setD_get _ _ (fun m hm => by have := hmp m hm; omega)]
         refine pwp_seq_plain rfl fun K51 hK51 => ?_
         refine p_step rfl (e_move (v := .ref _ _ _ _) rfl) trivial ?_
         refine p_step rfl (e_move (v := .sc _) rfl) trivial ?_
         refine p_step rfl (e_ixaR0 rfl rfl (by kernel_rfl) (by kernel_rfl) (by omega)) trivial ?_
         refine p_step rfl (e_loadH (v := .sc _) rfl hihj34_1 (by kernel_rfl) (by kernel_rfl) (by kernel_rfl) (by simp only [List.length_map]; omega) (by decide) ((cell_map hb _).trans rfl)) trivial ?_
         refine p_end (hK51 _ ?_); clear hK51 K51
         refine pwp_seq_cond rfl fun K52 hK52 => ⟨fun hb53 => ?_, fun hb53 => ?_⟩
         ·have hb53R := hb53; (try simp only [z1, z2, z3, z4, z5, z6, ne_eq, z7, z8, z9, z10, z11, z12] at hb53); (try (have hit := itemsE_ok hb53)); (try (have hrg : 0 ≤ n ∧ n ≤ (its.length : Int) - 1 := hb53; obtain ⟨b, hb⟩ := ix_at (l := dn) (n := n) (by omega); obtain ⟨y, hy⟩ := ix_at (l := its) hrg; have hym := hit.2.1 y (List.mem_of_getElem? hy))); (try (have hpv := Prev.at hpr hb53))
          refine pwp_seq_plain rfl fun K54 hK54 => ?_
          refine p_step rfl (e_assign (v := .sc _) rfl) trivial ?_
          refine p_end (hK54 _ ?_); clear hK54 K54
          refine pwp_ret ?_
          refine ret_seq ?_
          refine ret_block ?_
          refine ret_seq ?_
          refine ret_loop ?_
          refine ret_block ?_
          refine ret_seq ?_
          refine ret_block ?_
          refine ret_seq ?_
          refine ret_loop ?_
          refine ret_block ?_
          refine ret_seq ?_
          refine end1 (v := .sc _) rfl ?_
          first
            | exact out_i (le_1 (by assumption))
            | exact out_i (le_2 (by assumption) (by omega))
            | exact out_i (le_3 (by assumption) (by omega) (by rw [hinv, if_pos (by omega)]) (by decide))
            | exact out_i (le_3 (by assumption) (by omega) (by rw [hinv, if_pos (by omega), loadK_err (by decide)]) (by decide))
            | exact out_i (le_3 (by assumption) (by omega) (by rw [hinv, if_neg (by omega), if_pos (by omega), loadK_err (by decide)]) (by decide))
            | exact out_i (le_3 (by assumption) (by omega) (by rw [hinv, if_neg (by omega), if_neg (by omega), if_pos (by rw [getD_at hb0]; first | assumption | exact nb (by assumption)), loadK_err (by decide)]) (by decide))
            | exact out_i (le_3 (by assumption) (by omega) (by rw [hinv, if_neg (by omega), if_neg (by omega), if_neg (by rw [getD_at hb0]; first | assumption | exact nb (by assumption)), if_pos (by rw [getD_at hy]; omega), loadK_err (by decide)]) (by decide))
            | exact out_i (le_3 (by assumption) (by omega) (by rw [hinv, loadK_big (by omega)]) (by decide))
            | exact out_i (le_4 (by assumption) (by omega) hinv (mem_f hb (by simpa using HBL)))
            | exact out_i (le_4 (by assumption) (by omega) hinv (mem_f hb (by assumption)))
            | exact out_i (le_5 (by assumption) (by omega) hinv (fun hc => by have := hal _ hc; cases this))
         ·have hb53R := hb53; (try simp only [z1, z2, z3, z4, z5, z6, ne_eq, z7, z8, z9, z10, z11, z12] at hb53); (try (have hit := itemsE_ok hb53)); (try (have hrg : 0 ≤ n ∧ n ≤ (its.length : Int) - 1 := hb53; obtain ⟨b, hb⟩ := ix_at (l := dn) (n := n) (by omega); obtain ⟨y, hy⟩ := ix_at (l := its) hrg; have hym := hit.2.1 y (List.mem_of_getElem? hy))); (try (have hpv := Prev.at hpr hb53))
          refine pwp_skip ?_
          refine seq_norm (hK52 _ ?_); clear hK52 K52
          refine pwp_seq_seq ?_
          refine pwp_seq_gops rfl fun K55 hK55 => ?_
          refine g_begin ?_
          refine g_step rfl rfl rfl rfl (e_move (v := .lit _ _ _) rfl) trivial ?_
          refine g_step rfl rfl rfl rfl (e_move (v := .sc _) rfl) trivial ?_
          refine g_step rfl rfl rfl rfl (e_ixa rfl rfl (by kernel_rfl) (by kernel_rfl) (by simp only [List.length_map]; omega)) trivial ?_
          refine g_step rfl rfl rfl rfl (e_fa (pl := [(0, 1, false), (1, 1, false), (2, 1, false)]) rfl (by kernel_rfl) (by kernel_rfl) (by decide) rfl) trivial ?_
          refine g_step rfl rfl rfl rfl (e_load (v := .sc _) rfl (by kernel_rfl) (by kernel_rfl) (by kernel_rfl) (by simp only [List.length_map]; omega) (by decide) ((cell_map hy _).trans rfl)) trivial ?_
          refine g_step rfl rfl rfl rfl (e_faP (pl := [(0, 1, false), (1, 1, false)]) rfl (by kernel_rfl) (by kernel_rfl) (by decide) rfl) trivial ?_
          refine g_step rfl rfl rfl rfl (e_loadH (v := .sc _) rfl hihj34_0 (by kernel_rfl) (by kernel_rfl) (by kernel_rfl) (by exact Nat.zero_lt_one) (by decide) rfl) trivial ?_
          refine g_step rfl rfl rfl rfl (e_gt rfl rfl) trivial ?_
          refine g_end (ds := []) (by kernel_rfl) rfl (hK55 _ ?_); clear hK55 K55
          refine pwp_seq_cond rfl fun K56 hK56 => ⟨fun hb57 => ?_, fun hb57 => ?_⟩
          ·have hb57R := hb57; (try simp only [z1, z2, z3, z4, z5, z6, ne_eq, z7, z8, z9, z10, z11, z12] at hb57); (try (have hit := itemsE_ok hb57)); (try (have hrg : 0 ≤ n ∧ n ≤ (its.length : Int) - 1 := hb57; obtain ⟨b, hb⟩ := ix_at (l := dn) (n := n) (by omega); obtain ⟨y, hy⟩ := ix_at (l := its) hrg; have hym := hit.2.1 y (List.mem_of_getElem? hy))); (try (have hpv := Prev.at hpr hb57))
           refine pwp_seq_plain rfl fun K58 hK58 => ?_
           refine p_step rfl (e_assign (v := .sc _) rfl) trivial ?_
           refine p_end (hK58 _ ?_); clear hK58 K58
           refine pwp_ret ?_
           refine ret_seq ?_
           refine ret_block ?_
           refine ret_seq ?_
           refine ret_loop ?_
           refine ret_block ?_
           refine ret_seq ?_
           refine ret_block ?_
           refine ret_seq ?_
           refine ret_loop ?_
           refine ret_block ?_
           refine ret_seq ?_
           refine end1 (v := .sc _) rfl ?_
           first
             | exact out_i (le_1 (by assumption))
             | exact out_i (le_2 (by assumption) (by omega))
             | exact out_i (le_3 (by assumption) (by omega) (by rw [hinv, if_pos (by omega)]) (by decide))
             | exact out_i (le_3 (by assumption) (by omega) (by rw [hinv, if_pos (by omega), loadK_err (by decide)]) (by decide))
             | exact out_i (le_3 (by assumption) (by omega) (by rw [hinv, if_neg (by omega), if_pos (by omega), loadK_err (by decide)]) (by decide))
             | exact out_i (le_3 (by assumption) (by omega) (by rw [hinv, if_neg (by omega), if_neg (by omega), if_pos (by rw [getD_at hb0]; first | assumption | exact nb (by assumption)), loadK_err (by decide)]) (by decide))
             | exact out_i (le_3 (by assumption) (by omega) (by rw [hinv, if_neg (by omega), if_neg (by omega), if_neg (by rw [getD_at hb0]; first | assumption | exact nb (by assumption)), if_pos (by rw [getD_at hy]; omega), loadK_err (by decide)]) (by decide))
             | exact out_i (le_3 (by assumption) (by omega) (by rw [hinv, loadK_big (by omega)]) (by decide))
             | exact out_i (le_4 (by assumption) (by omega) hinv (mem_f hb (by simpa using HBL)))
             | exact out_i (le_4 (by assumption) (by omega) hinv (mem_f hb (by assumption)))
             | exact out_i (le_5 (by assumption) (by omega) hinv (fun hc => by have := hal _ hc; cases this))
          ·have hb57R := hb57; (try simp only [z1, z2, z3, z4, z5, z6, ne_eq, z7, z8, z9, z10, z11, z12] at hb57); (try (have hit := itemsE_ok hb57)); (try (have hrg : 0 ≤ n ∧ n ≤ (its.length : Int) - 1 := hb57; obtain ⟨b, hb⟩ := ix_at (l := dn) (n := n) (by omega); obtain ⟨y, hy⟩ := ix_at (l := its) hrg; have hym := hit.2.1 y (List.mem_of_getElem? hy))); (try (have hpv := Prev.at hpr hb57))
           refine pwp_skip ?_
           refine seq_norm (hK56 _ ?_); clear hK56 K56
           refine pwp_seq_plain rfl fun K59 hK59 => ?_
           refine p_step rfl (e_move (v := .ref _ _ _ _) rfl) trivial ?_
           refine p_step rfl (e_move (v := .sc _) rfl) trivial ?_
           refine p_step rfl (e_ixaR0 rfl rfl (by kernel_rfl) (by kernel_rfl) (by omega)) trivial ?_
           refine p_store rfl (e_storeB (zs := dn) (a := true) rfl hihj34_1 rfl (by omega) (by kernel_rfl) (by kernel_rfl)) trivial ?_
           refine p_end (hK59 _ ?_); clear hK59 K59
           refine pwp_plain rfl fun K60 hK60 => ?_
           refine p_step rfl (e_move (v := .sc _) rfl) trivial ?_
           refine p_step rfl (e_move (v := .lit _ _ _) rfl) trivial ?_
           refine p_step rfl (e_move (v := .sc _) rfl) trivial ?_
           refine p_step rfl (e_ixa rfl rfl (by kernel_rfl) (by kernel_rfl) (by simp only [List.length_map]; omega)) trivial ?_
           refine p_step rfl (e_fa (pl := [(0, 1, false), (1, 1, false), (2, 1, false)]) rfl (by kernel_rfl) (by kernel_rfl) (by decide) rfl) trivial ?_
           refine p_step rfl (e_load (v := .sc _) rfl (by kernel_rfl) (by kernel_rfl) (by kernel_rfl) (by simp only [List.length_map]; omega) (by decide) ((cell_map hy _).trans rfl)) trivial ?_
           refine p_step rfl (e_add rfl rfl (by first | omega | (simp only [List.length_map]; omega))) trivial ?_
           refine p_step rfl (e_assign (v := .sc _) rfl) trivial ?_
           refine p_end (hK60 _ ?_); clear hK60 K60
           refine block_norm ?_
           refine seq_norm (hK38 _ ?_); clear hK38 K38
           refine pwp_plain rfl fun K61 hK61 => ?_
           refine p_step rfl (e_move (v := .sc _) rfl) trivial ?_
           refine p_step rfl (e_add rfl rfl (by first | omega | (simp only [List.length_map]; omega))) trivial ?_
           refine p_step rfl (e_assign (v := .sc _) rfl) trivial ?_
           refine p_end (hK61 _ ?_); clear hK61 K61
           rw [if_neg (by omega), if_neg (by omega), if_neg (by rw [getD_at hb0]; first | assumption | exact nb (by assumption)), if_neg (by rw [getD_at hy]; omega), getD_at hy] at hinv
           exact loop_again ((j + 1, (s + y.mass), n, ((dn).set (n).toNat true))) (by show _ < _; simp only; omega) ⟨rfl, rfl, rfl, rfl, rfl, trivial⟩ ⟨rfl, rfl, trivial⟩ (by exact ⟨by show _ + 1 ≤ _; omega, by exact hinv, by show 0 ≤ s + y.mass ∧ s + y.mass ≤ 100000000 * ((j + 1 : Nat) : Int); omega, by exact Prev.next hn, by (rw [htn, setD_app, ← hdq]; rfl), by exact (all_snoc (Q := fun m => 0 ≤ m ∧ m ≤ n) htn (fun m hm => by have := hmp m hm; omega) (by omega)), by (simp only [List.length_set]; exact hdl), ((hset_ne (key_ne rfl)).trans hihj34_0), (hset_self _ _ _)⟩)
     ·have hb37R := hb37; (try simp only [z1, z2, z3, z4, z5, z6, ne_eq, z7, z8, z9, z10, z11, z12] at hb37); (try (have hit := itemsE_ok hb37)); (try (have hrg : 0 ≤ n ∧ n ≤ (its.length : Int) - 1 := hb37; obtain ⟨b, hb⟩ := ix_at (l := dn) (n := n) (by omega); obtain ⟨y, hy⟩ := ix_at (l := its) hrg; have hym := hit.2.1 y (List.mem_of_getElem? hy))); (try (have hpv := Prev.at hpr hb37))
      obtain rfl : j = l.length := by omega
      rw [List.drop_length] at hinv; simp only [goL] at hinv
      rw [List.take_length] at hdq
      refine pwp_exit ?_
      refine exit_seq ?_
      clear hK36 K36
      refine exit_loop ?_
      refine exit_here ?_
      refine seq_norm (hK29 _ ?_); clear hK29 K29
      refine pwp_seq_plain rfl fun K62 hK62 => ?_
      refine p_step rfl (e_move (v := .sc _) rfl) trivial ?_
      refine p_step rfl (e_faP (pl := [(0, 1, false), (1, 1, false)]) rfl (by kernel_rfl) (by kernel_rfl) (by decide) rfl) trivial ?_
      refine p_step rfl (e_loadH (v := .sc _) rfl hihj34_0 (by kernel_rfl) (by kernel_rfl) (by kernel_rfl) (by exact Nat.zero_lt_one) (by decide) rfl) trivial ?_
      refine p_step rfl (e_gt rfl rfl) trivial ?_
      refine p_end (hK62 _ ?_); clear hK62 K62
      refine pwp_cond rfl (fun hb63 => ?_) (fun hb63 => ?_)
      ·have hb63R := hb63; (try simp only [z1, z2, z3, z4, z5, z6, ne_eq, z7, z8, z9, z10, z11, z12] at hb63); (try (have hit := itemsE_ok hb63)); (try (have hrg : 0 ≤ n ∧ n ≤ (its.length : Int) - 1 := hb63; obtain ⟨b, hb⟩ := ix_at (l := dn) (n := n) (by omega); obtain ⟨y, hy⟩ := ix_at (l := its) hrg; have hym := hit.2.1 y (List.mem_of_getElem? hy))); (try (have hpv := Prev.at hpr hb63))
       refine pwp_seq_plain rfl fun K64 hK64 => ?_
       refine p_step rfl (e_assign (v := .sc _) rfl) trivial ?_
       refine p_end (hK64 _ ?_); clear hK64 K64
       refine pwp_ret ?_
       refine ret_block ?_
       refine ret_seq ?_
       refine ret_loop ?_
       refine ret_block ?_
       refine ret_seq ?_
       refine end1 (v := .sc _) rfl ?_
       first
         | exact out_i (le_1 (by assumption))
         | exact out_i (le_2 (by assumption) (by omega))
         | exact out_i (le_3 (by assumption) (by omega) (by rw [hinv, if_pos (by omega)]) (by decide))
         | exact out_i (le_3 (by assumption) (by omega) (by rw [hinv, if_pos (by omega), loadK_err (by decide)]) (by decide))
         | exact out_i (le_3 (by assumption) (by omega) (by rw [hinv, if_neg (by omega), if_pos (by omega), loadK_err (by decide)]) (by decide))
         | exact out_i (le_3 (by assumption) (by omega) (by rw [hinv, if_neg (by omega), if_neg (by omega), if_pos (by rw [getD_at hb0]; first | assumption | exact nb (by assumption)), loadK_err (by decide)]) (by decide))
         | exact out_i (le_3 (by assumption) (by omega) (by rw [hinv, if_neg (by omega), if_neg (by omega), if_neg (by rw [getD_at hb0]; first | assumption | exact nb (by assumption)), if_pos (by rw [getD_at hy]; omega), loadK_err (by decide)]) (by decide))
         | exact out_i (le_3 (by assumption) (by omega) (by rw [hinv, loadK_big (by omega)]) (by decide))
         | exact out_i (le_4 (by assumption) (by omega) hinv (mem_f hb (by simpa using HBL)))
         | exact out_i (le_4 (by assumption) (by omega) hinv (mem_f hb (by assumption)))
         | exact out_i (le_5 (by assumption) (by omega) hinv (fun hc => by have := hal _ hc; cases this))
      ·have hb63R := hb63; (try simp only [z1, z2, z3, z4, z5, z6, ne_eq, z7, z8, z9, z10, z11, z12] at hb63); (try (have hit := itemsE_ok hb63)); (try (have hrg : 0 ≤ n ∧ n ≤ (its.length : Int) - 1 := hb63; obtain ⟨b, hb⟩ := ix_at (l := dn) (n := n) (by omega); obtain ⟨y, hy⟩ := ix_at (l := its) hrg; have hym := hit.2.1 y (List.mem_of_getElem? hy))); (try (have hpv := Prev.at hpr hb63))
       refine pwp_skip ?_
       refine block_norm ?_
       refine seq_norm (hK22 _ ?_); clear hK22 K22
       refine pwp_plain rfl fun K65 hK65 => ?_
       refine p_step rfl (e_move (v := .sc _) rfl) trivial ?_
       refine p_step rfl (e_add rfl rfl (by first | omega | (simp only [List.length_map]; omega))) trivial ?_
       refine p_step rfl (e_assign (v := .sc _) rfl) trivial ?_
       refine p_end (hK65 _ ?_); clear hK65 K65
       rw [loadK_ok (by omega), ← hdq] at hinv
       exact loop_again ((k + 1, dn)) (by show _ < _; simp only; omega) ⟨rfl, rfl, rfl, rfl, trivial⟩ ⟨rfl, trivial⟩ (by exact ⟨by show _ + 1 ≤ _; omega, by exact hinv, by exact hdl, hihj34_0, hihj34_1⟩)
   ·have hb21R := hb21; (try simp only [z1, z2, z3, z4, z5, z6, ne_eq, z7, z8, z9, z10, z11, z12] at hb21); (try (have hit := itemsE_ok hb21)); (try (have hrg : 0 ≤ n ∧ n ≤ (its.length : Int) - 1 := hb21; obtain ⟨b, hb⟩ := ix_at (l := dn) (n := n) (by omega); obtain ⟨y, hy⟩ := ix_at (l := its) hrg; have hym := hit.2.1 y (List.mem_of_getElem? hy))); (try (have hpv := Prev.at hpr hb21))
    obtain rfl : k = ls.length := by omega
    rw [List.drop_length] at hinv; simp only [goD] at hinv
    refine pwp_exit ?_
    refine exit_seq ?_
    clear hK20 K20
    refine exit_loop ?_
    refine exit_here ?_
    refine seq_norm (hK13 _ ?_); clear hK13 K13
    refine pwp_seq_seq ?_
    refine pwp_seq_plain rfl fun K66 hK66 => ?_
    refine p_step rfl (e_assign (v := .sc _) rfl) trivial ?_
    refine p_end (hK66 _ ?_); clear hK66 K66
    refine pwp_seq_block fun K67 hK67 => ?_
    refine pwp_loopR (α := Nat) [0, 8] (fun (i : Nat) => [(13, .int (i))]) (fun (i : Nat) (h : Heap) (_ : Nat → Nat) => ((i) ≤ its.length) ∧ (∀ b ∈ dn.take (i), b = true) ∧ (h (27, 0) = some (.rows 1 (dn.map cbo)))) (fun (i : Nat) => its.length - (i)) (0) (by exact ⟨rfl, trivial⟩) (by exact ⟨by exact Nat.zero_le _, by (intro m hm; simp at hm), hihj18_1⟩) fun i r68 h69 c70 hj71 => ?_
    obtain ⟨hi, hal, hihj71_0⟩ := hj71
    try dsimp only at hi
    try dsimp only at hal
    try dsimp only at hihj71_0
    show pwp _ _ (loopQ _ _ _) ⟨sets (mix _ _ _) [(13, .int i)], _, _⟩
    refine pwp_seq_seq ?_
    refine pwp_seq_plain rfl fun K72 hK72 => ?_
    refine p_step rfl (e_move (v := .sc _) rfl) trivial ?_
    refine p_step rfl (e_move (v := .lit _ _ _) rfl) trivial ?_
    refine p_step rfl (e_len rfl (by kernel_rfl)) trivial ?_
    refine p_step rfl (e_lt rfl rfl) trivial ?_
    refine p_end (hK72 _ ?_); clear hK72 K72
    refine pwp_seq_cond rfl fun K73 hK73 => ⟨fun hb74 => ?_, fun hb74 => ?_⟩
    ·have hb74R := hb74; (try simp only [z1, z2, z3, z4, z5, z6, ne_eq, z7, z8, z9, z10, z11, z12] at hb74); (try (have hit := itemsE_ok hb74)); (try (have hrg : 0 ≤ n ∧ n ≤ (its.length : Int) - 1 := hb74; obtain ⟨b, hb⟩ := ix_at (l := dn) (n := n) (by omega); obtain ⟨y, hy⟩ := ix_at (l := its) hrg; have hym := hit.2.1 y (List.mem_of_getElem? hy))); (try (have hpv := Prev.at hpr hb74))
     obtain ⟨b, hb, hbd, hbt⟩ := get_lt (xs := dn) (i := i) (by omega)
     refine pwp_skip ?_
     refine seq_norm (hK73 _ ?_); clear hK73 K73
     refine pwp_seq_block fun K75 hK75 => ?_
     refine pwp_seq_plain rfl fun K76 hK76 => ?_
     refine p_step rfl (e_move (v := .ref _ _ _ _) rfl) trivial ?_
     refine p_step rfl (e_move (v := .sc _) rfl) trivial ?_
     refine p_step rfl (e_ixaR0 rfl rfl (by kernel_rfl) (by kernel_rfl) (by omega)) trivial ?_
     refine p_step rfl (e_loadH (v := .sc _) rfl hihj71_0 (by kernel_rfl) (by kernel_rfl) (by kernel_rfl) (by simp only [List.length_map]; omega) (by decide) ((cell_map hb _).trans rfl)) trivial ?_
     refine p_step rfl (e_not rfl) trivial ?_
     refine p_end (hK76 _ ?_); clear hK76 K76
     refine pwp_cond rfl (fun hb77 => ?_) (fun hb77 => ?_)
     ·have hb77R := hb77; (try simp only [z1, z2, z3, z4, z5, z6, ne_eq, z7, z8, z9, z10, z11, z12] at hb77); (try (have hit := itemsE_ok hb77)); (try (have hrg : 0 ≤ n ∧ n ≤ (its.length : Int) - 1 := hb77; obtain ⟨b, hb⟩ := ix_at (l := dn) (n := n) (by omega); obtain ⟨y, hy⟩ := ix_at (l := its) hrg; have hym := hit.2.1 y (List.mem_of_getElem? hy))); (try (have hpv := Prev.at hpr hb77))
      refine pwp_seq_plain rfl fun K78 hK78 => ?_
      refine p_step rfl (e_assign (v := .sc _) rfl) trivial ?_
      refine p_end (hK78 _ ?_); clear hK78 K78
      refine pwp_ret ?_
      refine ret_block ?_
      refine ret_seq ?_
      refine ret_loop ?_
      refine ret_block ?_
      refine ret_seq ?_
      refine end1 (v := .sc _) rfl ?_
      first
        | exact out_i (le_1 (by assumption))
        | exact out_i (le_2 (by assumption) (by omega))
        | exact out_i (le_3 (by assumption) (by omega) (by rw [hinv, if_pos (by omega)]) (by decide))
        | exact out_i (le_3 (by assumption) (by omega) (by rw [hinv, if_pos (by omega), loadK_err (by decide)]) (by decide))
        | exact out_i (le_3 (by assumption) (by omega) (by rw [hinv, if_neg (by omega), if_pos (by omega), loadK_err (by decide)]) (by decide))
        | exact out_i (le_3 (by assumption) (by omega) (by rw [hinv, if_neg (by omega), if_neg (by omega), if_pos (by rw [getD_at hb0]; first | assumption | exact nb (by assumption)), loadK_err (by decide)]) (by decide))
        | exact out_i (le_3 (by assumption) (by omega) (by rw [hinv, if_neg (by omega), if_neg (by omega), if_neg (by rw [getD_at hb0]; first | assumption | exact nb (by assumption)), if_pos (by rw [getD_at hy]; omega), loadK_err (by decide)]) (by decide))
        | exact out_i (le_3 (by assumption) (by omega) (by rw [hinv, loadK_big (by omega)]) (by decide))
        | exact out_i (le_4 (by assumption) (by omega) hinv (mem_f hb (by simpa using HBL)))
        | exact out_i (le_4 (by assumption) (by omega) hinv (mem_f hb (by assumption)))
        | exact out_i (le_5 (by assumption) (by omega) hinv (fun hc => by have := hal _ hc; cases this))
     ·have hb77R := hb77; (try simp only [z1, z2, z3, z4, z5, z6, ne_eq, z7, z8, z9, z10, z11, z12] at hb77); (try (have hit := itemsE_ok hb77)); (try (have hrg : 0 ≤ n ∧ n ≤ (its.length : Int) - 1 := hb77; obtain ⟨b, hb⟩ := ix_at (l := dn) (n := n) (by omega); obtain ⟨y, hy⟩ := ix_at (l := its) hrg; have hym := hit.2.1 y (List.mem_of_getElem? hy))); (try (have hpv := Prev.at hpr hb77))
      refine pwp_skip ?_
      refine block_norm ?_
      refine seq_norm (hK75 _ ?_); clear hK75 K75
      refine pwp_plain rfl fun K79 hK79 => ?_
      refine p_step rfl (e_move (v := .sc _) rfl) trivial ?_
      refine p_step rfl (e_add rfl rfl (by first | omega | (simp only [List.length_map]; omega))) trivial ?_
      refine p_step rfl (e_assign (v := .sc _) rfl) trivial ?_
      refine p_end (hK79 _ ?_); clear hK79 K79
      exact loop_again (i + 1) (by show _ < _; omega) ⟨rfl, rfl, trivial⟩ ⟨rfl, trivial⟩ (by exact ⟨by show _ + 1 ≤ _; omega, by exact all_snoc hbt hal (by simpa using hb77), hihj71_0⟩)
    ·have hb74R := hb74; (try simp only [z1, z2, z3, z4, z5, z6, ne_eq, z7, z8, z9, z10, z11, z12] at hb74); (try (have hit := itemsE_ok hb74)); (try (have hrg : 0 ≤ n ∧ n ≤ (its.length : Int) - 1 := hb74; obtain ⟨b, hb⟩ := ix_at (l := dn) (n := n) (by omega); obtain ⟨y, hy⟩ := ix_at (l := its) hrg; have hym := hit.2.1 y (List.mem_of_getElem? hy))); (try (have hpv := Prev.at hpr hb74))
     obtain rfl : i = its.length := by omega
     rw [← hdl, List.take_length] at hal
     refine pwp_exit ?_
     refine exit_seq ?_
     clear hK73 K73
     refine exit_loop ?_
     refine exit_here ?_
     refine seq_norm (hK67 _ ?_); clear hK67 K67
     refine pwp_seq_plain rfl fun K80 hK80 => ?_
     refine p_step rfl (e_assign (v := .sc _) rfl) trivial ?_
     refine p_end (hK80 _ ?_); clear hK80 K80
     refine pwp_ret ?_
     refine end1 (v := .sc _) rfl ?_
     first
       | exact out_i (le_1 (by assumption))
       | exact out_i (le_2 (by assumption) (by omega))
       | exact out_i (le_3 (by assumption) (by omega) (by rw [hinv, if_pos (by omega)]) (by decide))
       | exact out_i (le_3 (by assumption) (by omega) (by rw [hinv, if_pos (by omega), loadK_err (by decide)]) (by decide))
       | exact out_i (le_3 (by assumption) (by omega) (by rw [hinv, if_neg (by omega), if_pos (by omega), loadK_err (by decide)]) (by decide))
       | exact out_i (le_3 (by assumption) (by omega) (by rw [hinv, if_neg (by omega), if_neg (by omega), if_pos (by rw [getD_at hb0]; first | assumption | exact nb (by assumption)), loadK_err (by decide)]) (by decide))
       | exact out_i (le_3 (by assumption) (by omega) (by rw [hinv, if_neg (by omega), if_neg (by omega), if_neg (by rw [getD_at hb0]; first | assumption | exact nb (by assumption)), if_pos (by rw [getD_at hy]; omega), loadK_err (by decide)]) (by decide))
       | exact out_i (le_3 (by assumption) (by omega) (by rw [hinv, loadK_big (by omega)]) (by decide))
       | exact out_i (le_4 (by assumption) (by omega) hinv (mem_f hb (by simpa using HBL)))
       | exact out_i (le_4 (by assumption) (by omega) hinv (mem_f hb (by assumption)))
       | exact out_i (le_5 (by assumption) (by omega) hinv (fun hc => by have := hal _ hc; cases this))

end Go.Proofs.Ytigdmkhdmbbfiaa
