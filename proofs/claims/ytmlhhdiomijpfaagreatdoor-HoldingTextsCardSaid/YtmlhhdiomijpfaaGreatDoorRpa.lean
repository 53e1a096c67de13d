/- Ties read: the reference. No conditions. -/
import Derived.Test.YtmlhhdiomijpfaaGreatDoorPar
set_option linter.unusedSimpArgs false
set_option linter.unusedVariables false
set_option maxRecDepth 100000
namespace Go.Proofs.YtmlhhdiomijpfaaGreatDoor
open Go Go.Pv Go.Tx
theorem fr9 : (inFrame Tryz.f9.ntmps (Tryz.f9.body.getD .skip) && Tryz.f9.results.toList.all (resScope Tryz.f9.ntmps)) = true := by kernel_rfl
theorem refParseC (s : ByteArray) (hs : s.size ≤ 1000000) : PCalls Tryz.prog 9 [.str s] (.tup [.lit false 2 ((parX s).1.map Tie.enc), .int (parX s).2]) := by
 refine PCalls.of_code Tryz.func9 rfl rfl (by kernel_rfl) mixed fr9 (by show _ ≤ 71; simp) (pure_2 (.lit _ _ _ fun row hr => pure_map Tie.pure row hr) (.sc _)) ?_
 refine pwp_seq_plain rfl fun K1 hK1 => ?_
 refine p_e rfl (e_assign (v := .nil) rfl) ?_
 refine p_aS rfl ?_
 refine p_end (hK1 _ ?_); clear hK1 K1
 refine pwp_seq_seq ?_
 refine pwp_seq_plain rfl fun K2 hK2 => ?_
 refine p_mS rfl ?_
 refine p_e rfl (e_lenS rfl (by kernel_rfl)) ?_
 refine p_e rfl (e_gt rfl rfl) ?_
 refine p_end (hK2 _ ?_); clear hK2 K2
 refine pwp_seq_cond rfl fun K3 hK3 => ⟨fun hb4 => ?_, fun hb4 => ?_⟩
 ·have hb4R := hb4; try simp only [zz] at hb4
  refine pwp_seq_plain rfl fun K5 hK5 => ?_
  refine p_e rfl (e_assign (v := .nil) rfl) ?_
  refine p_aS rfl ?_
  refine p_end (hK5 _ ?_); clear hK5 K5
  refine pwp_ret ?_
  refine ret_seq ?_
  refine end2 (v := .nil) (w := .sc _) rfl rfl ?_
  first
    | exact par_oe (par_8 (by omega))
    | exact par_oe (par_0 (by omega) (by assumption))
    | exact par_oe (par_7 (by omega) (by assumption) (by first | omega | (simp only [List.length_map] at *; omega)))
    | exact par_oe (par_n (by omega) (by assumption) (by first | omega | (simp only [List.length_map] at *; omega)) (par_badL hx (by first | omega | (simp only [List.length_map] at *; omega))))
    | exact par_oe (par_n (by omega) (by assumption) (by first | omega | (simp only [List.length_map] at *; omega)) (par_badR hx hcc (.inl (by assumption))))
    | exact par_oe (par_n (by omega) (by assumption) (by first | omega | (simp only [List.length_map] at *; omega)) (par_badR hx hcc (.inr (.inl (by assumption)))))
    | exact par_oe (par_n (by omega) (by assumption) (by first | omega | (simp only [List.length_map] at *; omega)) (par_badR hx hcc (.inr (.inr (.inl (by omega))))))
    | exact par_oe (par_n (by omega) (by assumption) (by first | omega | (simp only [List.length_map] at *; omega)) (par_badR hx hcc (.inr (.inr (.inr (by omega))))))
 ·have hb4R := hb4; try simp only [zz] at hb4
  refine pwp_skip ?_
  refine seq_norm (hK3 _ ?_); clear hK3 K3
  refine pwp_seq_seq ?_
  refine pwp_seq_plain rfl fun K6 hK6 => ?_
  refine p_mS rfl ?_
  refine p_e rfl (e_seq rfl rfl) ?_
  refine p_end (hK6 _ ?_); clear hK6 K6
  refine pwp_seq_cond rfl fun K7 hK7 => ⟨fun hb8 => ?_, fun hb8 => ?_⟩
  ·have hb8R := hb8; try simp only [zz] at hb8
   refine pwp_seq_plain rfl fun K9 hK9 => ?_
   refine p_e rfl (e_assign (v := .nil) rfl) ?_
   refine p_aS rfl ?_
   refine p_end (hK9 _ ?_); clear hK9 K9
   refine pwp_ret ?_
   refine ret_seq ?_
   refine end2 (v := .nil) (w := .sc _) rfl rfl ?_
   first
     | exact par_oe (par_8 (by omega))
     | exact par_oe (par_0 (by omega) (by assumption))
     | exact par_oe (par_7 (by omega) (by assumption) (by first | omega | (simp only [List.length_map] at *; omega)))
     | exact par_oe (par_n (by omega) (by assumption) (by first | omega | (simp only [List.length_map] at *; omega)) (par_badL hx (by first | omega | (simp only [List.length_map] at *; omega))))
     | exact par_oe (par_n (by omega) (by assumption) (by first | omega | (simp only [List.length_map] at *; omega)) (par_badR hx hcc (.inl (by assumption))))
     | exact par_oe (par_n (by omega) (by assumption) (by first | omega | (simp only [List.length_map] at *; omega)) (par_badR hx hcc (.inr (.inl (by assumption)))))
     | exact par_oe (par_n (by omega) (by assumption) (by first | omega | (simp only [List.length_map] at *; omega)) (par_badR hx hcc (.inr (.inr (.inl (by omega))))))
     | exact par_oe (par_n (by omega) (by assumption) (by first | omega | (simp only [List.length_map] at *; omega)) (par_badR hx hcc (.inr (.inr (.inr (by omega))))))
  ·have hb8R := hb8; try simp only [zz] at hb8
   refine pwp_skip ?_
   refine seq_norm (hK7 _ ?_); clear hK7 K7
   refine pwp_seq_plain rfl fun K10 hK10 => ?_
   refine p_mS rfl ?_
   refine p_call rfl (.cons inn_sc (.cons inn_sc .nil)) (CutC _ 32 (by omega)) ?_
   refine p_e rfl (e_assign (v := .lit _ _ _) rfl) ?_
   refine p_end (hK10 _ ?_); clear hK10 K10
   refine pwp_seq_seq ?_
   refine pwp_seq_plain rfl fun K11 hK11 => ?_
   refine p_e rfl (e_move (v := .lit _ _ _) rfl) ?_
   refine p_e rfl (e_len rfl (by kernel_rfl)) ?_
   refine p_e rfl (e_gt rfl rfl) ?_
   refine p_end (hK11 _ ?_); clear hK11 K11
   refine pwp_seq_cond rfl fun K12 hK12 => ⟨fun hb13 => ?_, fun hb13 => ?_⟩
   ·have hb13R := hb13; try simp only [zz] at hb13
    refine pwp_seq_plain rfl fun K14 hK14 => ?_
    refine p_e rfl (e_assign (v := .nil) rfl) ?_
    refine p_aS rfl ?_
    refine p_end (hK14 _ ?_); clear hK14 K14
    refine pwp_ret ?_
    refine ret_seq ?_
    refine end2 (v := .nil) (w := .sc _) rfl rfl ?_
    first
      | exact par_oe (par_8 (by omega))
      | exact par_oe (par_0 (by omega) (by assumption))
      | exact par_oe (par_7 (by omega) (by assumption) (by first | omega | (simp only [List.length_map] at *; omega)))
      | exact par_oe (par_n (by omega) (by assumption) (by first | omega | (simp only [List.length_map] at *; omega)) (par_badL hx (by first | omega | (simp only [List.length_map] at *; omega))))
      | exact par_oe (par_n (by omega) (by assumption) (by first | omega | (simp only [List.length_map] at *; omega)) (par_badR hx hcc (.inl (by assumption))))
      | exact par_oe (par_n (by omega) (by assumption) (by first | omega | (simp only [List.length_map] at *; omega)) (par_badR hx hcc (.inr (.inl (by assumption)))))
      | exact par_oe (par_n (by omega) (by assumption) (by first | omega | (simp only [List.length_map] at *; omega)) (par_badR hx hcc (.inr (.inr (.inl (by omega))))))
      | exact par_oe (par_n (by omega) (by assumption) (by first | omega | (simp only [List.length_map] at *; omega)) (par_badR hx hcc (.inr (.inr (.inr (by omega))))))
   ·have hb13R := hb13; try simp only [zz] at hb13
    refine pwp_skip ?_
    refine seq_norm (hK12 _ ?_); clear hK12 K12
    refine pwp_seq_plain rfl fun K15 hK15 => ?_
    refine p_e rfl (e_assign (v := .nil) rfl) ?_
    refine p_end (hK15 _ ?_); clear hK15 K15
    refine pwp_seq_seq ?_
    refine pwp_seq_plain rfl fun K16 hK16 => ?_
    refine p_aS rfl ?_
    refine p_end (hK16 _ ?_); clear hK16 K16
    refine pwp_seq_block fun K17 hK17 => ?_
    refine pwp_loopR (α := Nat × (List Tie) × PV) [4] (fun (a18 : Nat × (List Tie) × PV) => [(5, (a18.2.2)), (6, .int (a18.1))]) (fun (a18 : Nat × (List Tie) × PV) (h : Heap) (_ : Nat → Nat) => ((a18.1) ≤ (cutB 32 s).length) ∧ ((a18.2.1).length = (a18.1)) ∧ (ParTo s (a18.1) (a18.2.1)) ∧ (SliceAt h 69 (a18.2.2) 2 ((a18.2.1).map Tie.enc))) (fun (a18 : Nat × (List Tie) × PV) => (cutB 32 s).length - (a18.1)) (0, [], .nil) (by exact ⟨rfl, rfl, trivial⟩) (by exact ⟨by exact Nat.zero_le _, by exact rfl, by exact ParTo.start, .nil⟩) fun a18 r19 h20 c21 hj22 => ?_
    obtain ⟨k, ts, v⟩ := a18
    obtain ⟨hk, htl, hpt, hihj22_0⟩ := hj22
    try dsimp only at hk
    try dsimp only at htl
    try dsimp only at hpt
    try dsimp only at hihj22_0
    show pwp _ _ (loopQ _ _ _) ⟨sets (mix _ _ _) [(5, v), (6, .int k)], _, _⟩
    refine pwp_seq_seq ?_
    refine pwp_seq_plain rfl fun K23 hK23 => ?_
    refine p_mS rfl ?_
    refine p_e rfl (e_move (v := .lit _ _ _) rfl) ?_
    refine p_e rfl (e_len rfl (by kernel_rfl)) ?_
    refine p_e rfl (e_lt rfl rfl) ?_
    refine p_end (hK23 _ ?_); clear hK23 K23
    refine pwp_seq_cond rfl fun K24 hK24 => ⟨fun hb25 => ?_, fun hb25 => ?_⟩
    ·have hb25R := hb25; try simp only [zz] at hb25
     obtain ⟨x, hx⟩ : ∃ x, (cutB 32 s)[k]? = some x := ⟨_, List.getElem?_eq_getElem (by first | omega | (simp only [List.length_map] at *; omega))⟩
     have hxs := cutB_le hx
     refine pwp_skip ?_
     refine seq_norm (hK24 _ ?_); clear hK24 K24
     refine pwp_seq_block fun K26 hK26 => ?_
     refine pwp_seq_plain rfl fun K27 hK27 => ?_
     refine p_e rfl (e_move (v := .lit _ _ _) rfl) ?_
     refine p_mS rfl ?_
     refine p_e rfl (e_ixL rfl rfl) ?_
     refine p_e rfl (e_load (v := .sc _) rfl (by kernel_rfl) (by kernel_rfl) (by kernel_rfl) (by first | omega | (simp only [List.length_map]; omega)) (by decide) ((cell_map hx _).trans rfl)) ?_
     refine p_call rfl (.cons inn_sc (.cons inn_sc .nil)) (CutC _ 46 (by omega)) ?_
     refine p_e rfl (e_assign (v := .lit _ _ _) rfl) ?_
     refine p_end (hK27 _ ?_); clear hK27 K27
     refine pwp_seq_seq ?_
     refine pwp_seq_plain rfl fun K28 hK28 => ?_
     refine p_e rfl (e_move (v := .lit _ _ _) rfl) ?_
     refine p_e rfl (e_len rfl (by kernel_rfl)) ?_
     refine p_e rfl (e_ne rfl rfl) ?_
     refine p_end (hK28 _ ?_); clear hK28 K28
     refine pwp_seq_cond rfl fun K29 hK29 => ⟨fun hb30 => ?_, fun hb30 => ?_⟩
     ·have hb30R := hb30; try simp only [zz] at hb30
      refine pwp_seq_plain rfl fun K31 hK31 => ?_
      refine p_e rfl (e_assign (v := .nil) rfl) ?_
      refine p_aS rfl ?_
      refine p_end (hK31 _ ?_); clear hK31 K31
      refine pwp_ret ?_
      refine ret_seq ?_
      refine ret_block ?_
      refine ret_seq ?_
      refine ret_loop ?_
      refine ret_block ?_
      refine ret_seq ?_
      refine end2 (v := .nil) (w := .sc _) rfl rfl ?_
      first
        | exact par_oe (par_8 (by omega))
        | exact par_oe (par_0 (by omega) (by assumption))
        | exact par_oe (par_7 (by omega) (by assumption) (by first | omega | (simp only [List.length_map] at *; omega)))
        | exact par_oe (par_n (by omega) (by assumption) (by first | omega | (simp only [List.length_map] at *; omega)) (par_badL hx (by first | omega | (simp only [List.length_map] at *; omega))))
        | exact par_oe (par_n (by omega) (by assumption) (by first | omega | (simp only [List.length_map] at *; omega)) (par_badR hx hcc (.inl (by assumption))))
        | exact par_oe (par_n (by omega) (by assumption) (by first | omega | (simp only [List.length_map] at *; omega)) (par_badR hx hcc (.inr (.inl (by assumption)))))
        | exact par_oe (par_n (by omega) (by assumption) (by first | omega | (simp only [List.length_map] at *; omega)) (par_badR hx hcc (.inr (.inr (.inl (by omega))))))
        | exact par_oe (par_n (by omega) (by assumption) (by first | omega | (simp only [List.length_map] at *; omega)) (par_badR hx hcc (.inr (.inr (.inr (by omega))))))
        | exact par_o hihj22_0 (hpt.done hke (by omega) (by assumption) (by first | omega | (simp only [List.length_map] at *; omega)))
     ·have hb30R := hb30; try simp only [zz] at hb30
      refine pwp_skip ?_
      refine seq_norm (hK29 _ ?_); clear hK29 K29
      obtain ⟨a, b, ha0, hb0, hcc, has, hbs⟩ := cut_two (x := x) (by first | omega | (simp only [List.length_map] at *; omega))
      refine pwp_seq_plain rfl fun K32 hK32 => ?_
      refine p_e rfl (e_move (v := .lit _ _ _) rfl) ?_
      refine p_e rfl (e_ixL rfl rfl) ?_
      refine p_e rfl (e_load (v := .sc _) rfl (by kernel_rfl) (by kernel_rfl) (by kernel_rfl) (by first | omega | (simp only [List.length_map]; omega)) (by decide) ((cell_map ha0 _).trans rfl)) ?_
      refine p_call rfl (.cons inn_sc (.cons inn_sc .nil)) (NumberC _ 2 (by omega) (by decide)) ?_
      refine p_e rfl (e_move (v := .tup _) rfl) ?_
      refine p_e rfl (e_ext (v := .sc _) rfl (by simp) rfl) ?_
      refine p_e rfl (e_ext (v := .sc _) rfl (by simp) rfl) ?_
      refine p_aS rfl ?_
      refine p_aS rfl ?_
      refine p_end (hK32 _ ?_); clear hK32 K32
      refine pwp_seq_plain rfl fun K33 hK33 => ?_
      refine p_e rfl (e_move (v := .lit _ _ _) rfl) ?_
      refine p_e rfl (e_ixL rfl rfl) ?_
      refine p_e rfl (e_load (v := .sc _) rfl (by kernel_rfl) (by kernel_rfl) (by kernel_rfl) (by first | omega | (simp only [List.length_map]; omega)) (by decide) ((cell_map hb0 _).trans rfl)) ?_
      refine p_call rfl (.cons inn_sc (.cons inn_sc .nil)) (NumberC _ 2 (by omega) (by decide)) ?_
      refine p_e rfl (e_move (v := .tup _) rfl) ?_
      refine p_e rfl (e_ext (v := .sc _) rfl (by simp) rfl) ?_
      refine p_e rfl (e_ext (v := .sc _) rfl (by simp) rfl) ?_
      refine p_aS rfl ?_
      refine p_aS rfl ?_
      refine p_end (hK33 _ ?_); clear hK33 K33
      refine pwp_seq_seq ?_
      refine pwp_seq_gops rfl fun K34 hK34 => ?_
      refine g_begin ?_
      refine g_mS rfl rfl ?_
      refine g_e rfl (e_not rfl) ?_
      refine g_mS rfl rfl ?_
      refine g_cases (fun hb35 => ?_) (fun hb35 => ?_)
      ·have hb35R := hb35; try simp only [zz] at hb35
       iterate 2 refine g_skip rfl rfl rfl ?_
       refine g_pT rfl rfl rfl ?_
       refine g_mS rfl rfl ?_
       iterate 2 refine g_skip rfl rfl rfl ?_
       refine g_pT rfl rfl rfl ?_
       refine g_mS rfl rfl ?_
       iterate 2 refine g_skip rfl rfl rfl ?_
       refine g_pT rfl rfl rfl ?_
       refine g_end (ds := [53, 54, 57, 58, 61, 62]) rfl rfl (hK34 _ ?_); clear hK34 K34
       refine pwp_seq_cond (t := true) rfl fun K36 hK36 => ⟨fun _ => ?_, nofun⟩
       refine pwp_seq_plain rfl fun K37 hK37 => ?_
       refine p_e rfl (e_assign (v := .nil) rfl) ?_
       refine p_aS rfl ?_
       refine p_end (hK37 _ ?_); clear hK37 K37
       refine pwp_ret ?_
       refine ret_seq ?_
       refine ret_block ?_
       refine ret_seq ?_
       refine ret_loop ?_
       refine ret_block ?_
       refine ret_seq ?_
       refine end2 (v := .nil) (w := .sc _) rfl rfl ?_
       first
         | exact par_oe (par_8 (by omega))
         | exact par_oe (par_0 (by omega) (by assumption))
         | exact par_oe (par_7 (by omega) (by assumption) (by first | omega | (simp only [List.length_map] at *; omega)))
         | exact par_oe (par_n (by omega) (by assumption) (by first | omega | (simp only [List.length_map] at *; omega)) (par_badL hx (by first | omega | (simp only [List.length_map] at *; omega))))
         | exact par_oe (par_n (by omega) (by assumption) (by first | omega | (simp only [List.length_map] at *; omega)) (par_badR hx hcc (.inl (by assumption))))
         | exact par_oe (par_n (by omega) (by assumption) (by first | omega | (simp only [List.length_map] at *; omega)) (par_badR hx hcc (.inr (.inl (by assumption)))))
         | exact par_oe (par_n (by omega) (by assumption) (by first | omega | (simp only [List.length_map] at *; omega)) (par_badR hx hcc (.inr (.inr (.inl (by omega))))))
         | exact par_oe (par_n (by omega) (by assumption) (by first | omega | (simp only [List.length_map] at *; omega)) (par_badR hx hcc (.inr (.inr (.inr (by omega))))))
         | exact par_o hihj22_0 (hpt.done hke (by omega) (by assumption) (by first | omega | (simp only [List.length_map] at *; omega)))
      ·have hb35R := hb35; try simp only [zz] at hb35
       refine g_mS rfl rfl ?_
       refine g_e rfl (e_not rfl) ?_
       refine g_pF rfl rfl rfl ?_
       refine g_mS rfl rfl ?_
       refine g_cases (fun hb38 => ?_) (fun hb38 => ?_)
       ·have hb38R := hb38; try simp only [zz] at hb38
        iterate 2 refine g_skip rfl rfl rfl ?_
        refine g_pT rfl rfl rfl ?_
        refine g_mS rfl rfl ?_
        iterate 2 refine g_skip rfl rfl rfl ?_
        refine g_pT rfl rfl rfl ?_
        refine g_end (ds := [53, 54, 57, 58, 61, 62]) rfl rfl (hK34 _ ?_); clear hK34 K34
        refine pwp_seq_cond (t := true) rfl fun K39 hK39 => ⟨fun _ => ?_, nofun⟩
        refine pwp_seq_plain rfl fun K40 hK40 => ?_
        refine p_e rfl (e_assign (v := .nil) rfl) ?_
        refine p_aS rfl ?_
        refine p_end (hK40 _ ?_); clear hK40 K40
        refine pwp_ret ?_
        refine ret_seq ?_
        refine ret_block ?_
        refine ret_seq ?_
        refine ret_loop ?_
        refine ret_block ?_
        refine ret_seq ?_
        refine end2 (v := .nil) (w := .sc _) rfl rfl ?_
        first
          | exact par_oe (par_8 (by omega))
          | exact par_oe (par_0 (by omega) (by assumption))
          | exact par_oe (par_7 (by omega) (by assumption) (by first | omega | (simp only [List.length_map] at *; omega)))
          | exact par_oe (par_n (by omega) (by assumption) (by first | omega | (simp only [List.length_map] at *; omega)) (par_badL hx (by first | omega | (simp only [List.length_map] at *; omega))))
          | exact par_oe (par_n (by omega) (by assumption) (by first | omega | (simp only [List.length_map] at *; omega)) (par_badR hx hcc (.inl (by assumption))))
          | exact par_oe (par_n (by omega) (by assumption) (by first | omega | (simp only [List.length_map] at *; omega)) (par_badR hx hcc (.inr (.inl (by assumption)))))
          | exact par_oe (par_n (by omega) (by assumption) (by first | omega | (simp only [List.length_map] at *; omega)) (par_badR hx hcc (.inr (.inr (.inl (by omega))))))
          | exact par_oe (par_n (by omega) (by assumption) (by first | omega | (simp only [List.length_map] at *; omega)) (par_badR hx hcc (.inr (.inr (.inr (by omega))))))
          | exact par_o hihj22_0 (hpt.done hke (by omega) (by assumption) (by first | omega | (simp only [List.length_map] at *; omega)))
       ·have hb38R := hb38; try simp only [zz] at hb38
        refine g_mS rfl rfl ?_
        refine g_e rfl (e_lt rfl rfl) ?_
        refine g_pF rfl rfl rfl ?_
        refine g_mS rfl rfl ?_
        refine g_cases (fun hb41 => ?_) (fun hb41 => ?_)
        ·have hb41R := hb41; try simp only [zz] at hb41
         iterate 2 refine g_skip rfl rfl rfl ?_
         refine g_pT rfl rfl rfl ?_
         refine g_end (ds := [53, 54, 57, 58, 61, 62]) rfl rfl (hK34 _ ?_); clear hK34 K34
         refine pwp_seq_cond (t := true) rfl fun K42 hK42 => ⟨fun _ => ?_, nofun⟩
         refine pwp_seq_plain rfl fun K43 hK43 => ?_
         refine p_e rfl (e_assign (v := .nil) rfl) ?_
         refine p_aS rfl ?_
         refine p_end (hK43 _ ?_); clear hK43 K43
         refine pwp_ret ?_
         refine ret_seq ?_
         refine ret_block ?_
         refine ret_seq ?_
         refine ret_loop ?_
         refine ret_block ?_
         refine ret_seq ?_
         refine end2 (v := .nil) (w := .sc _) rfl rfl ?_
         first
           | exact par_oe (par_8 (by omega))
           | exact par_oe (par_0 (by omega) (by assumption))
           | exact par_oe (par_7 (by omega) (by assumption) (by first | omega | (simp only [List.length_map] at *; omega)))
           | exact par_oe (par_n (by omega) (by assumption) (by first | omega | (simp only [List.length_map] at *; omega)) (par_badL hx (by first | omega | (simp only [List.length_map] at *; omega))))
           | exact par_oe (par_n (by omega) (by assumption) (by first | omega | (simp only [List.length_map] at *; omega)) (par_badR hx hcc (.inl (by assumption))))
           | exact par_oe (par_n (by omega) (by assumption) (by first | omega | (simp only [List.length_map] at *; omega)) (par_badR hx hcc (.inr (.inl (by assumption)))))
           | exact par_oe (par_n (by omega) (by assumption) (by first | omega | (simp only [List.length_map] at *; omega)) (par_badR hx hcc (.inr (.inr (.inl (by omega))))))
           | exact par_oe (par_n (by omega) (by assumption) (by first | omega | (simp only [List.length_map] at *; omega)) (par_badR hx hcc (.inr (.inr (.inr (by omega))))))
           | exact par_o hihj22_0 (hpt.done hke (by omega) (by assumption) (by first | omega | (simp only [List.length_map] at *; omega)))
        ·have hb41R := hb41; try simp only [zz] at hb41
         refine g_mS rfl rfl ?_
         refine g_e rfl (e_lt rfl rfl) ?_
         refine g_pF rfl rfl rfl ?_
         refine g_end (ds := [53, 54, 57, 58, 61, 62]) rfl rfl (hK34 _ ?_); clear hK34 K34
         refine pwp_seq_cond rfl fun K44 hK44 => ⟨fun hb45 => ?_, fun hb45 => ?_⟩
         ·have hb45R := hb45; try simp only [zz] at hb45
          refine pwp_seq_plain rfl fun K46 hK46 => ?_
          refine p_e rfl (e_assign (v := .nil) rfl) ?_
          refine p_aS rfl ?_
          refine p_end (hK46 _ ?_); clear hK46 K46
          refine pwp_ret ?_
          refine ret_seq ?_
          refine ret_block ?_
          refine ret_seq ?_
          refine ret_loop ?_
          refine ret_block ?_
          refine ret_seq ?_
          refine end2 (v := .nil) (w := .sc _) rfl rfl ?_
          first
            | exact par_oe (par_8 (by omega))
            | exact par_oe (par_0 (by omega) (by assumption))
            | exact par_oe (par_7 (by omega) (by assumption) (by first | omega | (simp only [List.length_map] at *; omega)))
            | exact par_oe (par_n (by omega) (by assumption) (by first | omega | (simp only [List.length_map] at *; omega)) (par_badL hx (by first | omega | (simp only [List.length_map] at *; omega))))
            | exact par_oe (par_n (by omega) (by assumption) (by first | omega | (simp only [List.length_map] at *; omega)) (par_badR hx hcc (.inl (by assumption))))
            | exact par_oe (par_n (by omega) (by assumption) (by first | omega | (simp only [List.length_map] at *; omega)) (par_badR hx hcc (.inr (.inl (by assumption)))))
            | exact par_oe (par_n (by omega) (by assumption) (by first | omega | (simp only [List.length_map] at *; omega)) (par_badR hx hcc (.inr (.inr (.inl (by omega))))))
            | exact par_oe (par_n (by omega) (by assumption) (by first | omega | (simp only [List.length_map] at *; omega)) (par_badR hx hcc (.inr (.inr (.inr (by omega))))))
            | exact par_o hihj22_0 (hpt.done hke (by omega) (by assumption) (by first | omega | (simp only [List.length_map] at *; omega)))
         ·have hb45R := hb45; try simp only [zz] at hb45
          refine pwp_skip ?_
          refine seq_norm (hK44 _ ?_); clear hK44 K44
          refine pwp_plain rfl fun K47 hK47 => ?_
          refine p_e rfl (e_move (v := _) rfl) ?_
          refine p_mS rfl ?_
          refine p_mS rfl ?_
          refine p_e rfl (e_build (cs := Tie.enc (⟨(refNum 2 (ls a)).1, (refNum 2 (ls b)).1⟩ : Tie)) (zs := [.int 0, .int 0]) (pl := [(0, 1, false), (1, 1, false)]) (by kernel_rfl) (by kernel_rfl) (by kernel_rfl) rfl rfl (by exact ⟨by decide, rfl, Nat.le_of_ble_eq_true rfl, rfl, ⟨by decide, rfl, Nat.le_of_ble_eq_true rfl, rfl, trivial⟩⟩) rfl) ?_
          refine p_new rfl (e_bslice (rows := [Tie.enc ⟨(refNum 2 (ls a)).1, (refNum 2 (ls b)).1⟩]) (zs := [.int 0, .int 0]) (sz := 2) (by kernel_rfl) (by kernel_rfl) rfl (by kernel_rfl) (by decide) rfl rfl (by exact ⟨by decide, rfl, rfl, trivial⟩) rfl) trivial ?_
          refine p_app rfl rfl rfl (hihj22_0.keep fun _ => (hset_ne (key_ne rfl)).trans (rfl)) (src_ref (hset_self _ _ _) rfl) (by kernel_rfl) (by simp only [List.length_append, List.length_map, List.length_nil, List.length_cons]; omega) fun v48 h49 c50 hs51 hf52 => ?_
          have ho53 := (hf52 (68, _) (key_ne rfl) (fun _ _ => key_ne rfl)).trans (hset_self _ _ _)
          refine p_e rfl (e_assign (v := _) rfl) ?_
          refine p_end (hK47 _ ?_); clear hK47 K47
          refine block_norm ?_
          refine seq_norm (hK26 _ ?_); clear hK26 K26
          refine pwp_plain rfl fun K54 hK54 => ?_
          refine p_mS rfl ?_
          refine p_e rfl (e_adL rfl rfl) ?_
          refine p_aS rfl ?_
          refine p_end (hK54 _ ?_); clear hK54 K54
          exact loop_again ((k + 1, ts ++ [⟨(refNum 2 (ls a)).1, (refNum 2 (ls b)).1⟩], v48)) (by show _ < _; simp only; omega) ⟨rfl, trivial⟩ ⟨rfl, rfl, trivial⟩ (by exact ⟨by show _ + 1 ≤ _; first | omega | (simp only [List.length_map] at *; omega), by (simp only [List.length_append, List.length_cons, List.length_nil]; omega), by exact hpt.nextR hx hcc (by first | assumption | simp_all) (by first | assumption | simp_all) (by omega) (by omega), (SliceAt.to hs51 (by first | rfl | (simp only [List.map_append, List.map_cons, List.map_nil] <;> rfl)))⟩)
    ·have hb25R := hb25; try simp only [zz] at hb25
     have hke : (cutB 32 s).length ≤ k := by first | omega | (simp only [List.length_map] at *; omega)
     refine pwp_exit ?_
     refine exit_seq ?_
     clear hK24 K24
     refine exit_loop ?_
     refine exit_here ?_
     refine seq_norm (hK17 _ ?_); clear hK17 K17
     refine pwp_seq_plain rfl fun K55 hK55 => ?_
     refine p_e rfl (e_move (v := _) rfl) ?_
     refine p_e rfl (e_assign (v := _) rfl) ?_
     refine p_aS rfl ?_
     refine p_end (hK55 _ ?_); clear hK55 K55
     refine pwp_ret ?_
     refine end2 (v := _) (w := .sc _) rfl rfl ?_
     first
       | exact par_oe (par_8 (by omega))
       | exact par_oe (par_0 (by omega) (by assumption))
       | exact par_oe (par_7 (by omega) (by assumption) (by first | omega | (simp only [List.length_map] at *; omega)))
       | exact par_oe (par_n (by omega) (by assumption) (by first | omega | (simp only [List.length_map] at *; omega)) (par_badL hx (by first | omega | (simp only [List.length_map] at *; omega))))
       | exact par_oe (par_n (by omega) (by assumption) (by first | omega | (simp only [List.length_map] at *; omega)) (par_badR hx hcc (.inl (by assumption))))
       | exact par_oe (par_n (by omega) (by assumption) (by first | omega | (simp only [List.length_map] at *; omega)) (par_badR hx hcc (.inr (.inl (by assumption)))))
       | exact par_oe (par_n (by omega) (by assumption) (by first | omega | (simp only [List.length_map] at *; omega)) (par_badR hx hcc (.inr (.inr (.inl (by omega))))))
       | exact par_oe (par_n (by omega) (by assumption) (by first | omega | (simp only [List.length_map] at *; omega)) (par_badR hx hcc (.inr (.inr (.inr (by omega))))))
       | exact par_o hihj22_0 (hpt.done hke (by omega) (by assumption) (by first | omega | (simp only [List.length_map] at *; omega)))

end Go.Proofs.YtmlhhdiomijpfaaGreatDoor
