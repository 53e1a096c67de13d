/- The law of trips. No conditions. -/
import Derived.Test.YtigdmkhdmbbfiaaTd1
import Derived.Test.YtigdmkhdmbbfiaaTe1
import Derived.Test.YtigdmkhdmbbfiaaAwake
import Derived.Test.YtigdmkhdmbbfiaaCu5
set_option linter.unusedSimpArgs false
set_option linter.unusedVariables false
set_option maxRecDepth 100000
namespace Go.Proofs.Ytigdmkhdmbbfiaa
open Go Go.Pv
theorem trip_e {t : Traffic} {l : List Trip} (h : ¬ trafE t = 0) : (tripW t l).1 = 0 ∧ (tripW t l).2 = trafE t := by rw [← tw_e h]; exact ⟨rfl, rfl⟩
theorem trip_0 {t : Traffic} {l : List Trip} (h : trafE t = 0) : (tripW t l).1 = (tripE t l).1 ∧ (tripW t l).2 = (tripE t l).2 := by rw [tw_0 h]; exact ⟨rfl, rfl⟩
theorem fr8 : (inFrame Try.f8.ntmps (Try.f8.body.getD .skip) && Try.f8.results.toList.all (resScope Try.f8.ntmps)) = true := by kernel_rfl
theorem hTrips (t : Traffic) (l : List Trip) (hl1 : t.routes.length ≤ 9223372036854775807) (hl2 : t.supplies.length ≤ 9223372036854775807) (hl3 : t.needs.length ≤ 9223372036854775807) (hl : l.length ≤ 9223372036854775807) : PCalls Try.prog 8 [.agg t.enc, .lit true 3 (l.map Trip.enc)] (.bool true) := by
 refine PCalls.of_code Try.func8 rfl rfl (by kernel_rfl) mixed fr8 (by show _ ≤ 65; simp) (.sc _) ?_
 refine pwp_seq_plain rfl fun K1 hK1 => ?_
 refine p_new rfl (e_box (n := 5) rfl rfl) ⟨rfl, by decide⟩ ?_
 refine p_aS rfl ?_
 refine p_end (hK1 _ ?_); clear hK1 K1
 refine pwp_seq_seq ?_
 refine pwp_seq_plain rfl fun K2 hK2 => ?_
 refine p_call rfl .nil (awake) ?_
 refine p_e rfl (e_not rfl) ?_
 refine p_end (hK2 _ ?_); clear hK2 K2
 refine pwp_seq_cond (t := false) rfl fun K3 hK3 => ⟨nofun, fun _ => ?_⟩
 refine pwp_skip ?_
 refine seq_norm (hK3 _ ?_); clear hK3 K3
 refine pwp_seq_seq ?_
 refine pwp_seq_gops rfl fun K4 hK4 => ?_
 refine g_begin ?_
 refine g_e rfl (e_loadHA (cs := Traffic.enc (t)) (n := 5) rfl (hset_self _ _ _) (by kernel_rfl) (by kernel_rfl) (by kernel_rfl) (by exact Nat.zero_lt_one) (by decide) rfl) ?_
 refine g_call rfl rfl rfl rfl (.cons (inn_agg (Traffic.pure _)) .nil) (fewC t (by omega) (by omega) (by omega)) ?_
 refine g_e rfl (e_not rfl) ?_
 refine g_mS rfl rfl ?_
 refine g_cases (fun hb5 => ?_) (fun hb5 => ?_)
 ·have hb5R := hb5; try simp only [zz] at hb5
  iterate 8 refine g_skip rfl rfl rfl ?_
  refine g_pT rfl rfl rfl ?_
  refine g_mS rfl rfl ?_
  iterate 3 refine g_skip rfl rfl rfl ?_
  refine g_pT rfl rfl rfl ?_
  refine g_end (ds := [16, 17, 18, 19, 20, 21, 22, 23, 26, 27, 28]) rfl rfl (hK4 _ ?_); clear hK4 K4
  refine pwp_seq_cond (t := true) rfl fun K6 hK6 => ⟨fun _ => ?_, nofun⟩
  refine pwp_seq_plain rfl fun K7 hK7 => ?_
  refine p_aS rfl ?_
  refine p_end (hK7 _ ?_); clear hK7 K7
  refine pwp_ret ?_
  refine ret_seq ?_
  refine end1 (v := .sc _) rfl ?_
  first
    | exact out_b rfl
    | (have q := trip_e (l := l) (t := t) (by omega); exact out_b (by first | rfl | (rw [Bool.eq_iff_iff]; simp only [decide_eq_true_eq, Bool.false_eq_true, false_iff, iff_true, iff_false]; omega) | (exfalso; omega)))
    | (have q := trip_0 (l := l) (t := t) (by omega); exact out_b (by first | rfl | (rw [Bool.eq_iff_iff]; simp only [decide_eq_true_eq, Bool.false_eq_true, false_iff, iff_true, iff_false]; omega) | (exfalso; omega)))
    | exact absurd rfl (by assumption)
    | exact absurd trivial (by assumption)
 ·have hb5R := hb5; try simp only [zz] at hb5
  refine g_e rfl (e_move (v := .lit _ _ _) rfl) ?_
  refine g_e rfl (e_len rfl (by kernel_rfl)) ?_
  refine g_e rfl (e_gt rfl rfl) ?_
  refine g_mS rfl rfl ?_
  refine g_cases (fun hb8 => ?_) (fun hb8 => ?_)
  ·have hb8R := hb8; try simp only [zz] at hb8
   refine g_e rfl (e_move (v := .lit _ _ _) rfl) ?_
   refine g_e rfl (e_len rfl (by kernel_rfl)) ?_
   refine g_e rfl (e_le rfl rfl) ?_
   refine g_pT rfl rfl rfl ?_
   refine g_pF rfl rfl rfl ?_
   refine g_mS rfl rfl ?_
   refine g_cases (fun hb9 => ?_) (fun hb9 => ?_)
   ·have hb9R := hb9; try simp only [zz] at hb9
    iterate 3 refine g_skip rfl rfl rfl ?_
    refine g_pT rfl rfl rfl ?_
    refine g_end (ds := [16, 17, 18, 19, 20, 21, 22, 23, 26, 27, 28]) rfl rfl (hK4 _ ?_); clear hK4 K4
    refine pwp_seq_cond (t := true) rfl fun K10 hK10 => ⟨fun _ => ?_, nofun⟩
    refine pwp_seq_plain rfl fun K11 hK11 => ?_
    refine p_aS rfl ?_
    refine p_end (hK11 _ ?_); clear hK11 K11
    refine pwp_ret ?_
    refine ret_seq ?_
    refine end1 (v := .sc _) rfl ?_
    first
      | exact out_b rfl
      | (have q := trip_e (l := l) (t := t) (by omega); exact out_b (by first | rfl | (rw [Bool.eq_iff_iff]; simp only [decide_eq_true_eq, Bool.false_eq_true, false_iff, iff_true, iff_false]; omega) | (exfalso; omega)))
      | (have q := trip_0 (l := l) (t := t) (by omega); exact out_b (by first | rfl | (rw [Bool.eq_iff_iff]; simp only [decide_eq_true_eq, Bool.false_eq_true, false_iff, iff_true, iff_false]; omega) | (exfalso; omega)))
      | exact absurd rfl (by assumption)
      | exact absurd trivial (by assumption)
   ·have hb9R := hb9; try simp only [zz] at hb9
    refine g_e rfl (e_move (v := .lit _ _ _) rfl) ?_
    refine g_e rfl (e_len rfl (by kernel_rfl)) ?_
    refine g_e rfl (e_gt rfl rfl) ?_
    refine g_pF rfl rfl rfl ?_
    refine g_end (ds := [16, 17, 18, 19, 20, 21, 22, 23, 26, 27, 28]) rfl rfl (hK4 _ ?_); clear hK4 K4
    refine pwp_seq_cond rfl fun K12 hK12 => ⟨fun hb13 => ?_, fun hb13 => ?_⟩
    ·have hb13R := hb13; try simp only [zz] at hb13
     refine pwp_seq_plain rfl fun K14 hK14 => ?_
     refine p_aS rfl ?_
     refine p_end (hK14 _ ?_); clear hK14 K14
     refine pwp_ret ?_
     refine ret_seq ?_
     refine end1 (v := .sc _) rfl ?_
     first
       | exact out_b rfl
       | (have q := trip_e (l := l) (t := t) (by omega); exact out_b (by first | rfl | (rw [Bool.eq_iff_iff]; simp only [decide_eq_true_eq, Bool.false_eq_true, false_iff, iff_true, iff_false]; omega) | (exfalso; omega)))
       | (have q := trip_0 (l := l) (t := t) (by omega); exact out_b (by first | rfl | (rw [Bool.eq_iff_iff]; simp only [decide_eq_true_eq, Bool.false_eq_true, false_iff, iff_true, iff_false]; omega) | (exfalso; omega)))
       | exact absurd rfl (by assumption)
       | exact absurd trivial (by assumption)
    ·have hb13R := hb13; try simp only [zz] at hb13
     refine pwp_skip ?_
     refine seq_norm (hK12 _ ?_); clear hK12 K12
     have hfw := fewB_t (t := t) (by assumption)
     refine pwp_seq_plain rfl fun K15 hK15 => ?_
     refine p_e rfl (e_loadHA (cs := Traffic.enc (t)) (n := 5) rfl (hset_self _ _ _) (by kernel_rfl) (by kernel_rfl) (by kernel_rfl) (by exact Nat.zero_lt_one) (by decide) rfl) ?_
     refine p_e rfl (e_move (v := .lit _ _ _) rfl) ?_
     refine p_call rfl (.cons (inn_agg (Traffic.pure _)) (.cons inn_lit .nil)) (CheckTripsC t l (by omega) (by omega) (by omega) (by omega)) ?_
     refine p_e rfl (e_move (v := .tup _) rfl) ?_
     refine p_e rfl (e_ext (v := .sc _) rfl (by simp) rfl) ?_
     refine p_e rfl (e_ext (v := .sc _) rfl (by simp) rfl) ?_
     refine p_aS rfl ?_
     refine p_aS rfl ?_
     refine p_end (hK15 _ ?_); clear hK15 K15
     refine pwp_seq_plain rfl fun K16 hK16 => ?_
     refine p_e rfl (e_loadHA (cs := Traffic.enc (t)) (n := 5) rfl (hset_self _ _ _) (by kernel_rfl) (by kernel_rfl) (by kernel_rfl) (by exact Nat.zero_lt_one) (by decide) rfl) ?_
     refine p_call rfl (.cons (inn_agg (Traffic.pure _)) .nil) (refTrafficC t (by omega) (by omega) (by omega)) ?_
     refine p_aS rfl ?_
     refine p_end (hK16 _ ?_); clear hK16 K16
     refine pwp_seq_seq ?_
     refine pwp_seq_plain rfl fun K17 hK17 => ?_
     refine p_e rfl (e_loadHA (cs := Traffic.enc (t)) (n := 5) rfl (hset_self _ _ _) (by kernel_rfl) (by kernel_rfl) (by kernel_rfl) (by exact Nat.zero_lt_one) (by decide) rfl) ?_
     refine p_call rfl (.cons (inn_agg (Traffic.pure _)) .nil) (CheckTrafficC t (by omega) (by omega) (by omega)) ?_
     refine p_mS rfl ?_
     refine p_e rfl (e_ne rfl rfl) ?_
     refine p_end (hK17 _ ?_); clear hK17 K17
     refine pwp_seq_cond rfl fun K18 hK18 => ⟨fun hb19 => ?_, fun hb19 => ?_⟩
     ·have hb19R := hb19; try simp only [zz] at hb19
      refine pwp_seq_plain rfl fun K20 hK20 => ?_
      refine p_aS rfl ?_
      refine p_end (hK20 _ ?_); clear hK20 K20
      refine pwp_ret ?_
      refine ret_seq ?_
      refine end1 (v := .sc _) rfl ?_
      first
        | exact out_b rfl
        | (have q := trip_e (l := l) (t := t) (by omega); exact out_b (by first | rfl | (rw [Bool.eq_iff_iff]; simp only [decide_eq_true_eq, Bool.false_eq_true, false_iff, iff_true, iff_false]; omega) | (exfalso; omega)))
        | (have q := trip_0 (l := l) (t := t) (by omega); exact out_b (by first | rfl | (rw [Bool.eq_iff_iff]; simp only [decide_eq_true_eq, Bool.false_eq_true, false_iff, iff_true, iff_false]; omega) | (exfalso; omega)))
        | exact absurd rfl (by assumption)
        | exact absurd trivial (by assumption)
     ·have hb19R := hb19; try simp only [zz] at hb19
      refine pwp_skip ?_
      refine seq_norm (hK18 _ ?_); clear hK18 K18
      refine pwp_seq_seq ?_
      refine pwp_seq_plain rfl fun K21 hK21 => ?_
      refine p_mS rfl ?_
      refine p_e rfl (e_ne rfl rfl) ?_
      refine p_end (hK21 _ ?_); clear hK21 K21
      refine pwp_seq_cond rfl fun K22 hK22 => ⟨fun hb23 => ?_, fun hb23 => ?_⟩
      ·have hb23R := hb23; try simp only [zz] at hb23
       refine pwp_seq_gops rfl fun K24 hK24 => ?_
       refine g_begin ?_
       refine g_mS rfl rfl ?_
       refine g_mS rfl rfl ?_
       refine g_e rfl (e_eq rfl rfl) ?_
       refine g_mS rfl rfl ?_
       refine g_cases (fun hb25 => ?_) (fun hb25 => ?_)
       ·have hb25R := hb25; try simp only [zz] at hb25
        refine g_mS rfl rfl ?_
        refine g_e rfl (e_eq rfl rfl) ?_
        refine g_pT rfl rfl rfl ?_
        refine g_aS rfl rfl ?_
        refine g_end (ds := [48, 49]) rfl rfl (hK24 _ ?_); clear hK24 K24
        refine pwp_ret ?_
        refine ret_seq ?_
        refine end1 (v := .sc _) rfl ?_
        first
          | exact out_b rfl
          | (have q := trip_e (l := l) (t := t) (by omega); exact out_b (by first | rfl | (rw [Bool.eq_iff_iff]; simp only [decide_eq_true_eq, Bool.false_eq_true, false_iff, iff_true, iff_false]; omega) | (exfalso; omega)))
          | (have q := trip_0 (l := l) (t := t) (by omega); exact out_b (by first | rfl | (rw [Bool.eq_iff_iff]; simp only [decide_eq_true_eq, Bool.false_eq_true, false_iff, iff_true, iff_false]; omega) | (exfalso; omega)))
          | exact absurd rfl (by assumption)
          | exact absurd trivial (by assumption)
       ·have hb25R := hb25; try simp only [zz] at hb25
        iterate 2 refine g_skip rfl rfl rfl ?_
        refine g_pF rfl rfl rfl ?_
        refine g_aS rfl rfl ?_
        refine g_end (ds := [48, 49]) rfl rfl (hK24 _ ?_); clear hK24 K24
        refine pwp_ret ?_
        refine ret_seq ?_
        refine end1 (v := .sc _) rfl ?_
        first
          | exact out_b rfl
          | (have q := trip_e (l := l) (t := t) (by omega); exact out_b (by first | rfl | (rw [Bool.eq_iff_iff]; simp only [decide_eq_true_eq, Bool.false_eq_true, false_iff, iff_true, iff_false]; omega) | (exfalso; omega)))
          | (have q := trip_0 (l := l) (t := t) (by omega); exact out_b (by first | rfl | (rw [Bool.eq_iff_iff]; simp only [decide_eq_true_eq, Bool.false_eq_true, false_iff, iff_true, iff_false]; omega) | (exfalso; omega)))
          | exact absurd rfl (by assumption)
          | exact absurd trivial (by assumption)
      ·have hb23R := hb23; try simp only [zz] at hb23
       refine pwp_skip ?_
       refine seq_norm (hK22 _ ?_); clear hK22 K22
       refine pwp_seq_plain rfl fun K26 hK26 => ?_
       refine p_e rfl (e_loadHA (cs := Traffic.enc (t)) (n := 5) rfl (hset_self _ _ _) (by kernel_rfl) (by kernel_rfl) (by kernel_rfl) (by exact Nat.zero_lt_one) (by decide) rfl) ?_
       refine p_e rfl (e_move (v := .lit _ _ _) rfl) ?_
       refine p_call rfl (.cons (inn_agg (Traffic.pure _)) (.cons inn_lit .nil)) (refTripsC t l (by omega) (by omega)) ?_
       refine p_e rfl (e_move (v := .tup _) rfl) ?_
       refine p_e rfl (e_ext (v := .sc _) rfl (by simp) rfl) ?_
       refine p_e rfl (e_ext (v := .sc _) rfl (by simp) rfl) ?_
       refine p_aS rfl ?_
       refine p_aS rfl ?_
       refine p_end (hK26 _ ?_); clear hK26 K26
       refine pwp_seq_gops rfl fun K27 hK27 => ?_
       refine g_begin ?_
       refine g_mS rfl rfl ?_
       refine g_mS rfl rfl ?_
       refine g_e rfl (e_eq rfl rfl) ?_
       refine g_mS rfl rfl ?_
       refine g_cases (fun hb28 => ?_) (fun hb28 => ?_)
       ·have hb28R := hb28; try simp only [zz] at hb28
        refine g_mS rfl rfl ?_
        refine g_mS rfl rfl ?_
        refine g_e rfl (e_eq rfl rfl) ?_
        refine g_pT rfl rfl rfl ?_
        refine g_aS rfl rfl ?_
        refine g_end (ds := [61, 62, 63]) rfl rfl (hK27 _ ?_); clear hK27 K27
        refine pwp_ret ?_
        refine end1 (v := .sc _) rfl ?_
        first
          | exact out_b rfl
          | (have q := trip_e (l := l) (t := t) (by omega); exact out_b (by first | rfl | (rw [Bool.eq_iff_iff]; simp only [decide_eq_true_eq, Bool.false_eq_true, false_iff, iff_true, iff_false]; omega) | (exfalso; omega)))
          | (have q := trip_0 (l := l) (t := t) (by omega); exact out_b (by first | rfl | (rw [Bool.eq_iff_iff]; simp only [decide_eq_true_eq, Bool.false_eq_true, false_iff, iff_true, iff_false]; omega) | (exfalso; omega)))
          | exact absurd rfl (by assumption)
          | exact absurd trivial (by assumption)
       ·have hb28R := hb28; try simp only [zz] at hb28
        iterate 3 refine g_skip rfl rfl rfl ?_
        refine g_pF rfl rfl rfl ?_
        refine g_aS rfl rfl ?_
        refine g_end (ds := [61, 62, 63]) rfl rfl (hK27 _ ?_); clear hK27 K27
        refine pwp_ret ?_
        refine end1 (v := .sc _) rfl ?_
        first
          | exact out_b rfl
          | (have q := trip_e (l := l) (t := t) (by omega); exact out_b (by first | rfl | (rw [Bool.eq_iff_iff]; simp only [decide_eq_true_eq, Bool.false_eq_true, false_iff, iff_true, iff_false]; omega) | (exfalso; omega)))
          | (have q := trip_0 (l := l) (t := t) (by omega); exact out_b (by first | rfl | (rw [Bool.eq_iff_iff]; simp only [decide_eq_true_eq, Bool.false_eq_true, false_iff, iff_true, iff_false]; omega) | (exfalso; omega)))
          | exact absurd rfl (by assumption)
          | exact absurd trivial (by assumption)
  ·have hb8R := hb8; try simp only [zz] at hb8
   iterate 3 refine g_skip rfl rfl rfl ?_
   refine g_pF rfl rfl rfl ?_
   refine g_pF rfl rfl rfl ?_
   refine g_mS rfl rfl ?_
   refine g_e rfl (e_move (v := .lit _ _ _) rfl) ?_
   refine g_e rfl (e_len rfl (by kernel_rfl)) ?_
   refine g_e rfl (e_gt rfl rfl) ?_
   refine g_pF rfl rfl rfl ?_
   refine g_end (ds := [16, 17, 18, 19, 20, 21, 22, 23, 26, 27, 28]) rfl rfl (hK4 _ ?_); clear hK4 K4
   refine pwp_seq_cond rfl fun K29 hK29 => ⟨fun hb30 => ?_, fun hb30 => ?_⟩
   ·have hb30R := hb30; try simp only [zz] at hb30
    refine pwp_seq_plain rfl fun K31 hK31 => ?_
    refine p_aS rfl ?_
    refine p_end (hK31 _ ?_); clear hK31 K31
    refine pwp_ret ?_
    refine ret_seq ?_
    refine end1 (v := .sc _) rfl ?_
    first
      | exact out_b rfl
      | (have q := trip_e (l := l) (t := t) (by omega); exact out_b (by first | rfl | (rw [Bool.eq_iff_iff]; simp only [decide_eq_true_eq, Bool.false_eq_true, false_iff, iff_true, iff_false]; omega) | (exfalso; omega)))
      | (have q := trip_0 (l := l) (t := t) (by omega); exact out_b (by first | rfl | (rw [Bool.eq_iff_iff]; simp only [decide_eq_true_eq, Bool.false_eq_true, false_iff, iff_true, iff_false]; omega) | (exfalso; omega)))
      | exact absurd rfl (by assumption)
      | exact absurd trivial (by assumption)
   ·have hb30R := hb30; try simp only [zz] at hb30
    refine pwp_skip ?_
    refine seq_norm (hK29 _ ?_); clear hK29 K29
    have hfw := fewB_t (t := t) (by assumption)
    refine pwp_seq_plain rfl fun K32 hK32 => ?_
    refine p_e rfl (e_loadHA (cs := Traffic.enc (t)) (n := 5) rfl (hset_self _ _ _) (by kernel_rfl) (by kernel_rfl) (by kernel_rfl) (by exact Nat.zero_lt_one) (by decide) rfl) ?_
    refine p_e rfl (e_move (v := .lit _ _ _) rfl) ?_
    refine p_call rfl (.cons (inn_agg (Traffic.pure _)) (.cons inn_lit .nil)) (CheckTripsC t l (by omega) (by omega) (by omega) (by omega)) ?_
    refine p_e rfl (e_move (v := .tup _) rfl) ?_
    refine p_e rfl (e_ext (v := .sc _) rfl (by simp) rfl) ?_
    refine p_e rfl (e_ext (v := .sc _) rfl (by simp) rfl) ?_
    refine p_aS rfl ?_
    refine p_aS rfl ?_
    refine p_end (hK32 _ ?_); clear hK32 K32
    refine pwp_seq_plain rfl fun K33 hK33 => ?_
    refine p_e rfl (e_loadHA (cs := Traffic.enc (t)) (n := 5) rfl (hset_self _ _ _) (by kernel_rfl) (by kernel_rfl) (by kernel_rfl) (by exact Nat.zero_lt_one) (by decide) rfl) ?_
    refine p_call rfl (.cons (inn_agg (Traffic.pure _)) .nil) (refTrafficC t (by omega) (by omega) (by omega)) ?_
    refine p_aS rfl ?_
    refine p_end (hK33 _ ?_); clear hK33 K33
    refine pwp_seq_seq ?_
    refine pwp_seq_plain rfl fun K34 hK34 => ?_
    refine p_e rfl (e_loadHA (cs := Traffic.enc (t)) (n := 5) rfl (hset_self _ _ _) (by kernel_rfl) (by kernel_rfl) (by kernel_rfl) (by exact Nat.zero_lt_one) (by decide) rfl) ?_
    refine p_call rfl (.cons (inn_agg (Traffic.pure _)) .nil) (CheckTrafficC t (by omega) (by omega) (by omega)) ?_
    refine p_mS rfl ?_
    refine p_e rfl (e_ne rfl rfl) ?_
    refine p_end (hK34 _ ?_); clear hK34 K34
    refine pwp_seq_cond rfl fun K35 hK35 => ⟨fun hb36 => ?_, fun hb36 => ?_⟩
    ·have hb36R := hb36; try simp only [zz] at hb36
     refine pwp_seq_plain rfl fun K37 hK37 => ?_
     refine p_aS rfl ?_
     refine p_end (hK37 _ ?_); clear hK37 K37
     refine pwp_ret ?_
     refine ret_seq ?_
     refine end1 (v := .sc _) rfl ?_
     first
       | exact out_b rfl
       | (have q := trip_e (l := l) (t := t) (by omega); exact out_b (by first | rfl | (rw [Bool.eq_iff_iff]; simp only [decide_eq_true_eq, Bool.false_eq_true, false_iff, iff_true, iff_false]; omega) | (exfalso; omega)))
       | (have q := trip_0 (l := l) (t := t) (by omega); exact out_b (by first | rfl | (rw [Bool.eq_iff_iff]; simp only [decide_eq_true_eq, Bool.false_eq_true, false_iff, iff_true, iff_false]; omega) | (exfalso; omega)))
       | exact absurd rfl (by assumption)
       | exact absurd trivial (by assumption)
    ·have hb36R := hb36; try simp only [zz] at hb36
     refine pwp_skip ?_
     refine seq_norm (hK35 _ ?_); clear hK35 K35
     refine pwp_seq_seq ?_
     refine pwp_seq_plain rfl fun K38 hK38 => ?_
     refine p_mS rfl ?_
     refine p_e rfl (e_ne rfl rfl) ?_
     refine p_end (hK38 _ ?_); clear hK38 K38
     refine pwp_seq_cond rfl fun K39 hK39 => ⟨fun hb40 => ?_, fun hb40 => ?_⟩
     ·have hb40R := hb40; try simp only [zz] at hb40
      refine pwp_seq_gops rfl fun K41 hK41 => ?_
      refine g_begin ?_
      refine g_mS rfl rfl ?_
      refine g_mS rfl rfl ?_
      refine g_e rfl (e_eq rfl rfl) ?_
      refine g_mS rfl rfl ?_
      refine g_cases (fun hb42 => ?_) (fun hb42 => ?_)
      ·have hb42R := hb42; try simp only [zz] at hb42
       refine g_mS rfl rfl ?_
       refine g_e rfl (e_eq rfl rfl) ?_
       refine g_pT rfl rfl rfl ?_
       refine g_aS rfl rfl ?_
       refine g_end (ds := [48, 49]) rfl rfl (hK41 _ ?_); clear hK41 K41
       refine pwp_ret ?_
       refine ret_seq ?_
       refine end1 (v := .sc _) rfl ?_
       first
         | exact out_b rfl
         | (have q := trip_e (l := l) (t := t) (by omega); exact out_b (by first | rfl | (rw [Bool.eq_iff_iff]; simp only [decide_eq_true_eq, Bool.false_eq_true, false_iff, iff_true, iff_false]; omega) | (exfalso; omega)))
         | (have q := trip_0 (l := l) (t := t) (by omega); exact out_b (by first | rfl | (rw [Bool.eq_iff_iff]; simp only [decide_eq_true_eq, Bool.false_eq_true, false_iff, iff_true, iff_false]; omega) | (exfalso; omega)))
         | exact absurd rfl (by assumption)
         | exact absurd trivial (by assumption)
      ·have hb42R := hb42; try simp only [zz] at hb42
       iterate 2 refine g_skip rfl rfl rfl ?_
       refine g_pF rfl rfl rfl ?_
       refine g_aS rfl rfl ?_
       refine g_end (ds := [48, 49]) rfl rfl (hK41 _ ?_); clear hK41 K41
       refine pwp_ret ?_
       refine ret_seq ?_
       refine end1 (v := .sc _) rfl ?_
       first
         | exact out_b rfl
         | (have q := trip_e (l := l) (t := t) (by omega); exact out_b (by first | rfl | (rw [Bool.eq_iff_iff]; simp only [decide_eq_true_eq, Bool.false_eq_true, false_iff, iff_true, iff_false]; omega) | (exfalso; omega)))
         | (have q := trip_0 (l := l) (t := t) (by omega); exact out_b (by first | rfl | (rw [Bool.eq_iff_iff]; simp only [decide_eq_true_eq, Bool.false_eq_true, false_iff, iff_true, iff_false]; omega) | (exfalso; omega)))
         | exact absurd rfl (by assumption)
         | exact absurd trivial (by assumption)
     ·have hb40R := hb40; try simp only [zz] at hb40
      refine pwp_skip ?_
      refine seq_norm (hK39 _ ?_); clear hK39 K39
      refine pwp_seq_plain rfl fun K43 hK43 => ?_
      refine p_e rfl (e_loadHA (cs := Traffic.enc (t)) (n := 5) rfl (hset_self _ _ _) (by kernel_rfl) (by kernel_rfl) (by kernel_rfl) (by exact Nat.zero_lt_one) (by decide) rfl) ?_
      refine p_e rfl (e_move (v := .lit _ _ _) rfl) ?_
      refine p_call rfl (.cons (inn_agg (Traffic.pure _)) (.cons inn_lit .nil)) (refTripsC t l (by omega) (by omega)) ?_
      refine p_e rfl (e_move (v := .tup _) rfl) ?_
      refine p_e rfl (e_ext (v := .sc _) rfl (by simp) rfl) ?_
      refine p_e rfl (e_ext (v := .sc _) rfl (by simp) rfl) ?_
      refine p_aS rfl ?_
      refine p_aS rfl ?_
      refine p_end (hK43 _ ?_); clear hK43 K43
      refine pwp_seq_gops rfl fun K44 hK44 => ?_
      refine g_begin ?_
      refine g_mS rfl rfl ?_
      refine g_mS rfl rfl ?_
      refine g_e rfl (e_eq rfl rfl) ?_
      refine g_mS rfl rfl ?_
      refine g_cases (fun hb45 => ?_) (fun hb45 => ?_)
      ·have hb45R := hb45; try simp only [zz] at hb45
       refine g_mS rfl rfl ?_
       refine g_mS rfl rfl ?_
       refine g_e rfl (e_eq rfl rfl) ?_
       refine g_pT rfl rfl rfl ?_
       refine g_aS rfl rfl ?_
       refine g_end (ds := [61, 62, 63]) rfl rfl (hK44 _ ?_); clear hK44 K44
       refine pwp_ret ?_
       refine end1 (v := .sc _) rfl ?_
       first
         | exact out_b rfl
         | (have q := trip_e (l := l) (t := t) (by omega); exact out_b (by first | rfl | (rw [Bool.eq_iff_iff]; simp only [decide_eq_true_eq, Bool.false_eq_true, false_iff, iff_true, iff_false]; omega) | (exfalso; omega)))
         | (have q := trip_0 (l := l) (t := t) (by omega); exact out_b (by first | rfl | (rw [Bool.eq_iff_iff]; simp only [decide_eq_true_eq, Bool.false_eq_true, false_iff, iff_true, iff_false]; omega) | (exfalso; omega)))
         | exact absurd rfl (by assumption)
         | exact absurd trivial (by assumption)
      ·have hb45R := hb45; try simp only [zz] at hb45
       iterate 3 refine g_skip rfl rfl rfl ?_
       refine g_pF rfl rfl rfl ?_
       refine g_aS rfl rfl ?_
       refine g_end (ds := [61, 62, 63]) rfl rfl (hK44 _ ?_); clear hK44 K44
       refine pwp_ret ?_
       refine end1 (v := .sc _) rfl ?_
       first
         | exact out_b rfl
         | (have q := trip_e (l := l) (t := t) (by omega); exact out_b (by first | rfl | (rw [Bool.eq_iff_iff]; simp only [decide_eq_true_eq, Bool.false_eq_true, false_iff, iff_true, iff_false]; omega) | (exfalso; omega)))
         | (have q := trip_0 (l := l) (t := t) (by omega); exact out_b (by first | rfl | (rw [Bool.eq_iff_iff]; simp only [decide_eq_true_eq, Bool.false_eq_true, false_iff, iff_true, iff_false]; omega) | (exfalso; omega)))
         | exact absurd rfl (by assumption)
         | exact absurd trivial (by assumption)

end Go.Proofs.Ytigdmkhdmbbfiaa
