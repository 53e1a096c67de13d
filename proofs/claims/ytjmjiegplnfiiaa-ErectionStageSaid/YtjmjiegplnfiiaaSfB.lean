import Derived.Test.YtjmjiegplnfiiaaSfA
import Derived.Test.YtjmjiegplnfiiaaStgA
import Derived.Test.YtjmjiegplnfiiaaShB
/- A scaffold is read. No conditions. -/
set_option linter.unusedSimpArgs false
set_option linter.unusedVariables false
set_option maxRecDepth 100000
namespace Go.Proofs.Ytjmjiegplnfiiaa
open Go Go.Pv
theorem frH119 : (inFrame Try.f119.ntmps (Try.f119.body.getD .skip) && Try.f119.results.toList.all (resScope Try.f119.ntmps)) = true := by kernel_rfl
theorem readH (h0 : Heap) (c0 : Nat → Nat) (s : Scaffold) (hs1 : s.nodes.length ≤ 1000000) (hs2 : s.members.length ≤ 1000000) : HCallsR Try.prog 119 [.agg s.enc] h0 c0 (fun v _ _ => ReadR s v) := by
 refine HCallsR.of_code Try.func119 rfl rfl (by kernel_rfl) mixed frH119 (by show _ ≤ 97; simp) ?_
 refine pwp_seq_plain rfl fun K1 hK1 => ?_
 refine p_new rfl (e_box (n := 2) rfl rfl) ⟨rfl, by decide⟩ ?_
 refine p_new rfl (e_alloc (cs := [.nil, .nil, .sc (.map none)]) (n := 3) (by kernel_rfl) rfl (by decide)) (ob_alloc (by decide)) ?_
 refine p_aS rfl ?_
 refine p_end (hK1 _ ?_); clear hK1 K1
 refine pwp_seq_plain rfl fun K2 hK2 => ?_
 refine p_e rfl (e_loadHA (cs := Scaffold.enc (s)) (n := 2) rfl ((hset_ne (key_ne rfl)).trans (hset_self _ _ _)) (by kernel_rfl) (by kernel_rfl) (by kernel_rfl) (by exact Nat.zero_lt_one) (by decide) rfl) ?_
 refine p_new rfl (e_mkmap) trivial ?_
 refine p_e rfl (e_build (zs := [.nil, .nil, .sc (.map none)]) (pl := [(0, 2, true), (2, 1, false)]) (by kernel_rfl) (by kernel_rfl) (by kernel_rfl) rfl rfl (by exact ⟨by decide, rfl, Nat.le_of_ble_eq_true rfl, rfl, ⟨by decide, rfl, Nat.le_of_ble_eq_true rfl, rfl, trivial⟩⟩) rfl) ?_
 refine p_new rfl (e_alloc (cs := [.nil, .nil, .sc (.map none)]) (n := 3) (by kernel_rfl) rfl (by decide)) (ob_alloc (by decide)) ?_
 refine p_store rfl (e_storeA rfl (hset_self _ _ _) rfl rfl rfl (by kernel_rfl) rfl (by kernel_rfl)) trivial ?_
 refine p_end (hK2 _ ?_); clear hK2 K2
 refine pwp_seq_seq ?_
 refine pwp_seq_gops rfl fun K3 hK3 => ?_
 refine g_begin ?_
 refine g_e rfl (e_faQ pl2 rfl) ?_
 refine g_e rfl (e_lH (v := .lit _ _ _) rfl ((hset_ne (key_ne rfl)).trans ((hset_ne (key_ne rfl)).trans ((hset_ne (key_ne rfl)).trans ((hset_ne (key_ne rfl)).trans (hset_self _ _ _))))) rfl) ?_
 refine g_e rfl (e_len rfl (by kernel_rfl)) ?_
 refine g_e rfl (e_gt rfl rfl) ?_
 refine g_mS rfl rfl ?_
 refine g_cases (fun hb4 => ?_) (fun hb4 => ?_)
 ·have hb4R := hb4; try simp only [zz] at hb4
  iterate 4 refine g_skip rfl rfl rfl ?_
  refine g_pT rfl rfl rfl ?_
  refine g_end (ds := [21, 22, 23, 24]) rfl rfl (hK3 _ ?_); clear hK3 K3
  refine pwp_seq_cond (t := true) rfl fun K5 hK5 => ⟨fun _ => ?_, nofun⟩
  refine pwp_seq_plain rfl fun K6 hK6 => ?_
  refine p_e rfl (e_loadHA (n := 3) rfl (hset_self _ _ _) (by kernel_rfl) (by kernel_rfl) (by kernel_rfl) (by exact Nat.zero_lt_one) (by decide) rfl) ?_
  refine p_store rfl (e_storeA rfl ((hset_ne (key_ne rfl)).trans ((hset_ne (key_ne rfl)).trans ((hset_ne (key_ne rfl)).trans (hset_self _ _ _)))) rfl rfl rfl (by kernel_rfl) rfl (by kernel_rfl)) trivial ?_
  refine p_aS rfl ?_
  refine p_end (hK6 _ ?_); clear hK6 K6
  refine pwp_ret ?_
  refine ret_seq ?_
  refine endCT rfl (hset_self _ _ _) (by kernel_rfl) (by kernel_rfl) (by kernel_rfl) rfl rfl ?_
  first
    | exact readR_of (scfE_8 (by omega))
    | exact readR_of (scfE_n hsz (frs_hit hinv hd (nodE_2 (by assumption)) (by decide)) (by decide))
    | exact readR_of (scfE_n hsz (frs_hit hinv hd (nodE_5 (by assumption) (of_decide_eq_true ((hnd n).symm.trans (by assumption)))) (by decide)) (by decide))
    | exact readR_of (scfE_m hsz hN (frs_hit hinv2 hd (memE_2 (by assumption)) (by decide)))
    | exact readR_of (scfE_m hsz hN (frs_hit hinv2 hd (memE_6 hm1 (by omega)) (by decide)))
    | exact readR_of (scfE_m hsz hN (frs_hit hinv2 hd (memE_3 hm1 hm2 (by assumption)) (by decide)))
    | exact readR_of (scfE_m hsz hN (frs_hit hinv2 hd (memE_5 hm1 hm2 (by assumption) (of_decide_eq_true ((hmb0 m).symm.trans (by assumption)))) (by decide)))
    | exact readR_of (scfE_m hsz hN hM.symm)
 ·have hb4R := hb4; try simp only [zz] at hb4
  refine g_e rfl (e_faQ pl2 rfl) ?_
  refine g_e rfl (e_lH (v := .lit _ _ _) rfl ((hset_ne (key_ne rfl)).trans ((hset_ne (key_ne rfl)).trans ((hset_ne (key_ne rfl)).trans ((hset_ne (key_ne rfl)).trans (hset_self _ _ _))))) rfl) ?_
  refine g_e rfl (e_len rfl (by kernel_rfl)) ?_
  refine g_e rfl (e_gt rfl rfl) ?_
  refine g_pF rfl rfl rfl ?_
  refine g_end (ds := [21, 22, 23, 24]) rfl rfl (hK3 _ ?_); clear hK3 K3
  refine pwp_seq_cond rfl fun K7 hK7 => ⟨fun hb8 => ?_, fun hb8 => ?_⟩
  ·have hb8R := hb8; try simp only [zz] at hb8
   refine pwp_seq_plain rfl fun K9 hK9 => ?_
   refine p_e rfl (e_loadHA (n := 3) rfl (hset_self _ _ _) (by kernel_rfl) (by kernel_rfl) (by kernel_rfl) (by exact Nat.zero_lt_one) (by decide) rfl) ?_
   refine p_store rfl (e_storeA rfl ((hset_ne (key_ne rfl)).trans ((hset_ne (key_ne rfl)).trans ((hset_ne (key_ne rfl)).trans (hset_self _ _ _)))) rfl rfl rfl (by kernel_rfl) rfl (by kernel_rfl)) trivial ?_
   refine p_aS rfl ?_
   refine p_end (hK9 _ ?_); clear hK9 K9
   refine pwp_ret ?_
   refine ret_seq ?_
   refine endCT rfl (hset_self _ _ _) (by kernel_rfl) (by kernel_rfl) (by kernel_rfl) rfl rfl ?_
   first
     | exact readR_of (scfE_8 (by omega))
     | exact readR_of (scfE_n hsz (frs_hit hinv hd (nodE_2 (by assumption)) (by decide)) (by decide))
     | exact readR_of (scfE_n hsz (frs_hit hinv hd (nodE_5 (by assumption) (of_decide_eq_true ((hnd n).symm.trans (by assumption)))) (by decide)) (by decide))
     | exact readR_of (scfE_m hsz hN (frs_hit hinv2 hd (memE_2 (by assumption)) (by decide)))
     | exact readR_of (scfE_m hsz hN (frs_hit hinv2 hd (memE_6 hm1 (by omega)) (by decide)))
     | exact readR_of (scfE_m hsz hN (frs_hit hinv2 hd (memE_3 hm1 hm2 (by assumption)) (by decide)))
     | exact readR_of (scfE_m hsz hN (frs_hit hinv2 hd (memE_5 hm1 hm2 (by assumption) (of_decide_eq_true ((hmb0 m).symm.trans (by assumption)))) (by decide)))
     | exact readR_of (scfE_m hsz hN hM.symm)
  ·have hb8R := hb8; try simp only [zz] at hb8
   refine pwp_skip ?_
   refine seq_norm (hK7 _ ?_); clear hK7 K7
   refine pwp_seq_seq ?_
   have hsz : ¬ (1000 < s.nodes.length ∨ 4000 < s.members.length) := by simp only [List.length_map] at *; omega
   refine pwp_seq_plain rfl fun K10 hK10 => ?_
   refine p_e rfl (e_faQ pl2 rfl) ?_
   refine p_e rfl (e_lH (v := .lit _ _ _) rfl ((hset_ne (key_ne rfl)).trans ((hset_ne (key_ne rfl)).trans ((hset_ne (key_ne rfl)).trans ((hset_ne (key_ne rfl)).trans (hset_self _ _ _))))) rfl) ?_
   refine p_e rfl (e_len rfl (by kernel_rfl)) ?_
   refine p_mS rfl ?_
   refine p_end (hK10 _ ?_); clear hK10 K10
   refine pwp_seq_block fun K11 hK11 => ?_
   refine pwp_loopR (α := Nat × (List (Node × Int))) [1, 2, 4, 28, 29] (fun (a12 : Nat × (List (Node × Int))) => [(30, .int (a12.1))]) (fun (a12 : Nat × (List (Node × Int))) (h : Heap) (_ : Nat → Nat) => ((a12.1) ≤ s.nodes.length) ∧ (frsF (nodE s.nodes) 0 s.nodes = frsF (nodE s.nodes) (a12.1) (s.nodes.drop (a12.1))) ∧ (NdI s.nodes (a12.1) (a12.2)) ∧ (h (1, c0 1) = some (.rows 2 [Scaffold.enc s])) ∧ (h (2, c0 2) = some (.rows 3 [[.nil, .nil, .sc (.map none)]])) ∧ (h (4, c0 4) = some (.rows 3 [[.lit true 3 (s.nodes.map Node.enc), .lit true 3 (s.members.map Member.enc), .map (14, c0 14)]])) ∧ (MapAt h (14, c0 14) (entsOf kn PV.int (a12.2)))) (fun (a12 : Nat × (List (Node × Int))) => s.nodes.length - (a12.1)) (0, []) (by exact ⟨rfl, trivial⟩) (by exact ⟨by exact Nat.zero_le _, by exact rfl, by exact NdI.nil, ((hset_ne (key_ne rfl)).trans ((hset_ne (key_ne rfl)).trans ((hset_ne (key_ne rfl)).trans ((hset_ne (key_ne rfl)).trans (hset_self _ _ _))))), ((hset_ne (key_ne rfl)).trans ((hset_ne (key_ne rfl)).trans ((hset_ne (key_ne rfl)).trans (hset_self _ _ _)))), (hset_self _ _ _), (MapAt.keep MapAt.new ((hset_ne (key_ne rfl)).trans ((hset_ne (key_ne rfl)).trans (rfl))))⟩) fun a12 r13 h14 c15 hj16 => ?_
   obtain ⟨k, mp⟩ := a12
   obtain ⟨hk, hinv, hnd, hihj16_0, hihj16_1, hihj16_2, hihj16_3⟩ := hj16
   try dsimp only at hk
   try dsimp only at hinv
   try dsimp only at hnd
   try dsimp only at hihj16_0
   try dsimp only at hihj16_1
   try dsimp only at hihj16_2
   try dsimp only at hihj16_3
   show pwp _ _ (loopQ _ _ _) ⟨sets (mix _ _ _) [(30, .int k)], _, _⟩
   refine pwp_seq_plain rfl fun K17 hK17 => ?_
   refine p_e rfl (e_lt rfl rfl) ?_
   refine p_end (hK17 _ ?_); clear hK17 K17
   refine pwp_seq_cond rfl fun K18 hK18 => ⟨fun hb19 => ?_, fun hb19 => ?_⟩
   ·have hb19R := hb19; try simp only [zz] at hb19
    obtain ⟨n, hx, hd, ht⟩ := get_lt (xs := s.nodes) (i := k) (by omega)
    refine pwp_skip ?_
    refine seq_norm (hK18 _ ?_); clear hK18 K18
    refine pwp_seq_block fun K20 hK20 => ?_
    refine pwp_seq_plain rfl fun K21 hK21 => ?_
    refine p_mS rfl ?_
    refine p_e rfl (e_ixL rfl rfl) ?_
    refine p_e rfl (e_loadA (n := 3) rfl (by kernel_rfl) (by kernel_rfl) (by kernel_rfl) (by first | omega | (simp only [List.length_map]; omega)) (by decide) (by first | exact agg_map hx rfl)) ?_
    refine p_new rfl (e_alloc (cs := [.int 0, .int 0, .int 0]) (n := 3) (by kernel_rfl) rfl (by decide)) (ob_alloc (by decide)) ?_
    refine p_aS rfl ?_
    refine p_store rfl (e_storeA rfl (hset_self _ _ _) rfl rfl rfl (by kernel_rfl) rfl (by kernel_rfl)) trivial ?_
    refine p_end (hK21 _ ?_); clear hK21 K21
    refine pwp_seq_seq ?_
    refine pwp_seq_plain rfl fun K22 hK22 => ?_
    refine p_e rfl (e_loadHA (cs := Node.enc (n)) (n := 3) rfl (hset_self _ _ _) (by kernel_rfl) (by kernel_rfl) (by kernel_rfl) (by exact Nat.zero_lt_one) (by decide) rfl) ?_
    refine p_call rfl (.cons (inn_agg (Node.pure _)) .nil) (inSpaceC _) ?_
    refine p_e rfl (e_not rfl) ?_
    refine p_end (hK22 _ ?_); clear hK22 K22
    refine pwp_seq_cond rfl fun K23 hK23 => ⟨fun hb24 => ?_, fun hb24 => ?_⟩
    ·have hb24R := hb24; try simp only [zz] at hb24
     refine pwp_seq_plain rfl fun K25 hK25 => ?_
     refine p_e rfl (e_loadHA (n := 3) rfl ((hset_ne (key_ne rfl)).trans ((hset_ne (key_ne rfl)).trans hihj16_2)) (by kernel_rfl) (by kernel_rfl) (by kernel_rfl) (by exact Nat.zero_lt_one) (by decide) rfl) ?_
     refine p_store rfl (e_storeA rfl ((hset_ne (key_ne rfl)).trans ((hset_ne (key_ne rfl)).trans hihj16_1)) rfl rfl rfl (by kernel_rfl) rfl (by kernel_rfl)) trivial ?_
     refine p_aS rfl ?_
     refine p_end (hK25 _ ?_); clear hK25 K25
     refine pwp_ret ?_
     refine ret_seq ?_
     refine ret_block ?_
     refine ret_seq ?_
     refine ret_loop ?_
     refine ret_block ?_
     refine ret_seq ?_
     refine endCT rfl (hset_self _ _ _) (by kernel_rfl) (by kernel_rfl) (by kernel_rfl) rfl rfl ?_
     first
       | exact readR_of (scfE_8 (by omega))
       | exact readR_of (scfE_n hsz (frs_hit hinv hd (nodE_2 (by assumption)) (by decide)) (by decide))
       | exact readR_of (scfE_n hsz (frs_hit hinv hd (nodE_5 (by assumption) (of_decide_eq_true ((hnd n).symm.trans (by assumption)))) (by decide)) (by decide))
       | exact readR_of (scfE_m hsz hN (frs_hit hinv2 hd (memE_2 (by assumption)) (by decide)))
       | exact readR_of (scfE_m hsz hN (frs_hit hinv2 hd (memE_6 hm1 (by omega)) (by decide)))
       | exact readR_of (scfE_m hsz hN (frs_hit hinv2 hd (memE_3 hm1 hm2 (by assumption)) (by decide)))
       | exact readR_of (scfE_m hsz hN (frs_hit hinv2 hd (memE_5 hm1 hm2 (by assumption) (of_decide_eq_true ((hmb0 m).symm.trans (by assumption)))) (by decide)))
       | exact readR_of (scfE_m hsz hN hM.symm)
    ·have hb24R := hb24; try simp only [zz] at hb24
     refine pwp_skip ?_
     refine seq_norm (hK23 _ ?_); clear hK23 K23
     refine pwp_seq_seq ?_
     refine pwp_seq_plain rfl fun K26 hK26 => ?_
     refine p_e rfl (e_faQ [(0, 2, true), (2, 1, false)] rfl) ?_
     refine p_e rfl (e_lH (v := .map _) rfl ((hset_ne (key_ne rfl)).trans ((hset_ne (key_ne rfl)).trans hihj16_2)) rfl) ?_
     refine p_e rfl (e_loadHA (cs := Node.enc (n)) (n := 3) rfl (hset_self _ _ _) (by kernel_rfl) (by kernel_rfl) (by kernel_rfl) (by exact Nat.zero_lt_one) (by decide) rfl) ?_
     refine p_e rfl (e_lookOk (kt := 144) (et := 3) (f := kn) (g := PV.int) (a := n) (l := mp) (z := 0) kn_eq kn_ok rfl rfl (MapAt.keep hihj16_3 ((hset_ne (key_ne rfl)).trans ((hset_ne (key_ne rfl)).trans (rfl)))) (by kernel_rfl) (by kernel_rfl) (by first | rfl | kernel_rfl)) ?_
     refine p_e rfl (e_move (v := .tup _) rfl) ?_
     refine p_e rfl (e_ext (v := .sc _) rfl (by simp) rfl) ?_
     refine p_e rfl (e_ext (v := .sc _) rfl (by simp) rfl) ?_
     refine p_aS rfl ?_
     refine p_aS rfl ?_
     refine p_end (hK26 _ ?_); clear hK26 K26
     refine pwp_seq_seq ?_
     refine pwp_seq_plain rfl fun K27 hK27 => ?_
     refine p_mS rfl ?_
     refine p_end (hK27 _ ?_); clear hK27 K27
     refine pwp_seq_cond rfl fun K28 hK28 => ⟨fun hb29 => ?_, fun hb29 => ?_⟩
     ·have hb29R := hb29; try simp only [zz] at hb29
      refine pwp_seq_plain rfl fun K30 hK30 => ?_
      refine p_e rfl (e_loadHA (n := 3) rfl ((hset_ne (key_ne rfl)).trans ((hset_ne (key_ne rfl)).trans hihj16_2)) (by kernel_rfl) (by kernel_rfl) (by kernel_rfl) (by exact Nat.zero_lt_one) (by decide) rfl) ?_
      refine p_store rfl (e_storeA rfl ((hset_ne (key_ne rfl)).trans ((hset_ne (key_ne rfl)).trans hihj16_1)) rfl rfl rfl (by kernel_rfl) rfl (by kernel_rfl)) trivial ?_
      refine p_aS rfl ?_
      refine p_end (hK30 _ ?_); clear hK30 K30
      refine pwp_ret ?_
      refine ret_seq ?_
      refine ret_block ?_
      refine ret_seq ?_
      refine ret_loop ?_
      refine ret_block ?_
      refine ret_seq ?_
      refine endCT rfl (hset_self _ _ _) (by kernel_rfl) (by kernel_rfl) (by kernel_rfl) rfl rfl ?_
      first
        | exact readR_of (scfE_8 (by omega))
        | exact readR_of (scfE_n hsz (frs_hit hinv hd (nodE_2 (by assumption)) (by decide)) (by decide))
        | exact readR_of (scfE_n hsz (frs_hit hinv hd (nodE_5 (by assumption) (of_decide_eq_true ((hnd n).symm.trans (by assumption)))) (by decide)) (by decide))
        | exact readR_of (scfE_m hsz hN (frs_hit hinv2 hd (memE_2 (by assumption)) (by decide)))
        | exact readR_of (scfE_m hsz hN (frs_hit hinv2 hd (memE_6 hm1 (by omega)) (by decide)))
        | exact readR_of (scfE_m hsz hN (frs_hit hinv2 hd (memE_3 hm1 hm2 (by assumption)) (by decide)))
        | exact readR_of (scfE_m hsz hN (frs_hit hinv2 hd (memE_5 hm1 hm2 (by assumption) (of_decide_eq_true ((hmb0 m).symm.trans (by assumption)))) (by decide)))
        | exact readR_of (scfE_m hsz hN hM.symm)
     ·have hb29R := hb29; try simp only [zz] at hb29
      refine pwp_skip ?_
      refine seq_norm (hK28 _ ?_); clear hK28 K28
      refine pwp_plain rfl fun K31 hK31 => ?_
      refine p_e rfl (e_faQ [(0, 2, true), (2, 1, false)] rfl) ?_
      refine p_e rfl (e_lH (v := .map _) rfl ((hset_ne (key_ne rfl)).trans ((hset_ne (key_ne rfl)).trans hihj16_2)) rfl) ?_
      refine p_e rfl (e_loadHA (cs := Node.enc (n)) (n := 3) rfl (hset_self _ _ _) (by kernel_rfl) (by kernel_rfl) (by kernel_rfl) (by exact Nat.zero_lt_one) (by decide) rfl) ?_
      refine p_mS rfl ?_
      refine p_store rfl (e_mset (kt := 144) (et := 3) (f := kn) (g := PV.int) (a := n) (b := (k : Int)) (l := mp) kn_eq kn_ok rfl rfl rfl rfl (MapAt.keep hihj16_3 ((hset_ne (key_ne rfl)).trans ((hset_ne (key_ne rfl)).trans (rfl)))) (by kernel_rfl)) trivial ?_
      refine p_end (hK31 _ ?_); clear hK31 K31
      refine block_norm ?_
      refine seq_norm (hK20 _ ?_); clear hK20 K20
      refine pwp_plain rfl fun K32 hK32 => ?_
      refine p_e rfl (e_adL rfl rfl) ?_
      refine p_mS rfl ?_
      refine p_end (hK32 _ ?_); clear hK32 K32
      exact loop_again ((k + 1, aSet n (k : Int) mp)) (by show _ < _; simp only; omega) ⟨rfl, rfl, rfl, rfl, rfl, trivial⟩ ⟨rfl, trivial⟩ (by exact ⟨by show _ + 1 ≤ _; simp only [List.length_map] at *; omega, by exact frs_go hinv hd (nodE_0 (by assumption) (of_decide_eq_false ((hnd n).symm.trans (by assumption)))), by exact hnd.step ht, ((hset_ne (key_ne rfl)).trans ((hset_ne (key_ne rfl)).trans ((hset_ne (key_ne rfl)).trans hihj16_0))), ((hset_ne (key_ne rfl)).trans ((hset_ne (key_ne rfl)).trans ((hset_ne (key_ne rfl)).trans hihj16_1))), ((hset_ne (key_ne rfl)).trans ((hset_ne (key_ne rfl)).trans ((hset_ne (key_ne rfl)).trans hihj16_2))), (MapAt.set kn_eq (MapAt.keep hihj16_3 ((hset_ne (key_ne rfl)).trans ((hset_ne (key_ne rfl)).trans (rfl)))) n (k : Int))⟩)
   ·have hb19R := hb19; try simp only [zz] at hb19
    have hN := frs_end hinv (by simp only [List.length_map] at *; omega)
    have hmp := hnd.all (by simp only [List.length_map] at *; omega)
    refine pwp_exit ?_
    refine exit_seq ?_
    clear hK18 K18
    refine exit_loop ?_
    refine exit_here ?_
    refine seq_norm (hK11 _ ?_); clear hK11 K11
    refine pwp_seq_plain rfl fun K33 hK33 => ?_
    refine p_e rfl (e_mkf rfl) ?_
    refine p_e rfl (e_assign (v := .func _ _ _) rfl) ?_
    refine p_end (hK33 _ ?_); clear hK33 K33
    refine pwp_seq_plain rfl fun K34 hK34 => ?_
    refine p_new rfl (e_mkmap) trivial ?_
    refine p_e rfl (e_assign (v := .map _) rfl) ?_
    refine p_end (hK34 _ ?_); clear hK34 K34
    refine pwp_seq_seq ?_
    refine pwp_seq_plain rfl fun K35 hK35 => ?_
    refine p_e rfl (e_faQ pl2 rfl) ?_
    refine p_e rfl (e_lH (v := .lit _ _ _) rfl ((hset_ne (key_ne rfl)).trans hihj16_0) rfl) ?_
    refine p_e rfl (e_len rfl (by kernel_rfl)) ?_
    refine p_mS rfl ?_
    refine p_end (hK35 _ ?_); clear hK35 K35
    refine pwp_seq_block fun K36 hK36 => ?_
    refine pwp_loopR (α := Nat × (List (Member × Bool))) [2, 4, 9, 10, 56, 57] (fun (a37 : Nat × (List (Member × Bool))) => [(58, .int (a37.1))]) (fun (a37 : Nat × (List (Member × Bool))) (h : Heap) (_ : Nat → Nat) => ((a37.1) ≤ s.members.length) ∧ (frsF (memE s) 0 s.members = frsF (memE s) (a37.1) (s.members.drop (a37.1))) ∧ (MbI s.members (a37.1) (a37.2)) ∧ (h (2, c0 2) = some (.rows 3 [[.nil, .nil, .sc (.map none)]])) ∧ (h (4, c0 4) = some (.rows 3 [[.lit true 3 (s.nodes.map Node.enc), .lit true 3 (s.members.map Member.enc), .map (14, c0 14)]])) ∧ (h (1, c0 1) = some (.rows 2 [Scaffold.enc s])) ∧ (MapAt h (54, c15 54) (entsOf kmb PV.bool (a37.2))) ∧ (MapAt h (14, c0 14) (entsOf kn PV.int mp))) (fun (a37 : Nat × (List (Member × Bool))) => s.members.length - (a37.1)) (0, []) (by exact ⟨rfl, trivial⟩) (by exact ⟨by exact Nat.zero_le _, by exact rfl, by exact MbI.nil, ((hset_ne (key_ne rfl)).trans hihj16_1), ((hset_ne (key_ne rfl)).trans hihj16_2), ((hset_ne (key_ne rfl)).trans hihj16_0), MapAt.new, (MapAt.keep hihj16_3 ((hset_ne (key_ne rfl)).trans (rfl)))⟩) fun a37 r38 h39 c40 hj41 => ?_
    obtain ⟨k, mm⟩ := a37
    obtain ⟨hk, hinv2, hmb0, hihj41_0, hihj41_1, hihj41_2, hihj41_3, hihj41_4⟩ := hj41
    try dsimp only at hk
    try dsimp only at hinv2
    try dsimp only at hmb0
    try dsimp only at hihj41_0
    try dsimp only at hihj41_1
    try dsimp only at hihj41_2
    try dsimp only at hihj41_3
    try dsimp only at hihj41_4
    show pwp _ _ (loopQ _ _ _) ⟨sets (mix _ _ _) [(58, .int k)], _, _⟩
    refine pwp_seq_plain rfl fun K42 hK42 => ?_
    refine p_e rfl (e_lt rfl rfl) ?_
    refine p_end (hK42 _ ?_); clear hK42 K42
    refine pwp_seq_cond rfl fun K43 hK43 => ⟨fun hb44 => ?_, fun hb44 => ?_⟩
    ·have hb44R := hb44; try simp only [zz] at hb44
     obtain ⟨m, hx, hd, ht⟩ := get_lt (xs := s.members) (i := k) (by omega)
     refine pwp_skip ?_
     refine seq_norm (hK43 _ ?_); clear hK43 K43
     refine pwp_seq_block fun K45 hK45 => ?_
     refine pwp_seq_plain rfl fun K46 hK46 => ?_
     refine p_e rfl (e_ixL rfl rfl) ?_
     refine p_e rfl (e_loadA (n := 3) rfl (by kernel_rfl) (by kernel_rfl) (by kernel_rfl) (by first | omega | (simp only [List.length_map]; omega)) (by decide) (by first | exact agg_map hx rfl)) ?_
     refine p_new rfl (e_alloc (cs := [.int 0, .int 0, .int 0]) (n := 3) (by kernel_rfl) rfl (by decide)) (ob_alloc (by decide)) ?_
     refine p_store rfl (e_storeA rfl (hset_self _ _ _) rfl rfl rfl (by kernel_rfl) rfl (by kernel_rfl)) trivial ?_
     refine p_end (hK46 _ ?_); clear hK46 K46
     refine pwp_seq_block fun K47 hK47 => ?_
     refine pwp_seq_plain rfl fun K48 hK48 => ?_
     refine p_e rfl (e_faQ pl3 rfl) ?_
     refine p_e rfl (e_lH (v := .sc _) rfl (hset_self _ _ _) rfl) ?_
     refine p_call rfl (.cons inn_sc (.cons inn_sc .nil)) (withinP _ _) ?_
     refine p_e rfl (e_not rfl) ?_
     refine p_aS rfl ?_
     refine p_end (hK48 _ ?_); clear hK48 K48
     refine pwp_cond rfl (fun hb49 => ?_) (fun hb49 => ?_)
     ·have hb49R := hb49; try simp only [zz] at hb49
      refine pwp_seq_plain rfl fun K50 hK50 => ?_
      refine p_e rfl (e_loadHA (n := 3) rfl ((hset_ne (key_ne rfl)).trans ((hset_ne (key_ne rfl)).trans hihj41_1)) (by kernel_rfl) (by kernel_rfl) (by kernel_rfl) (by exact Nat.zero_lt_one) (by decide) rfl) ?_
      refine p_store rfl (e_storeA rfl ((hset_ne (key_ne rfl)).trans ((hset_ne (key_ne rfl)).trans hihj41_0)) rfl rfl rfl (by kernel_rfl) rfl (by kernel_rfl)) trivial ?_
      refine p_aS rfl ?_
      refine p_end (hK50 _ ?_); clear hK50 K50
      refine pwp_ret ?_
      refine ret_block ?_
      refine ret_seq ?_
      refine ret_block ?_
      refine ret_seq ?_
      refine ret_loop ?_
      refine ret_block ?_
      refine ret_seq ?_
      refine endCT rfl (hset_self _ _ _) (by kernel_rfl) (by kernel_rfl) (by kernel_rfl) rfl rfl ?_
      first
        | exact readR_of (scfE_8 (by omega))
        | exact readR_of (scfE_n hsz (frs_hit hinv hd (nodE_2 (by assumption)) (by decide)) (by decide))
        | exact readR_of (scfE_n hsz (frs_hit hinv hd (nodE_5 (by assumption) (of_decide_eq_true ((hnd n).symm.trans (by assumption)))) (by decide)) (by decide))
        | exact readR_of (scfE_m hsz hN (frs_hit hinv2 hd (memE_2 (by assumption)) (by decide)))
        | exact readR_of (scfE_m hsz hN (frs_hit hinv2 hd (memE_6 hm1 (by omega)) (by decide)))
        | exact readR_of (scfE_m hsz hN (frs_hit hinv2 hd (memE_3 hm1 hm2 (by assumption)) (by decide)))
        | exact readR_of (scfE_m hsz hN (frs_hit hinv2 hd (memE_5 hm1 hm2 (by assumption) (of_decide_eq_true ((hmb0 m).symm.trans (by assumption)))) (by decide)))
        | exact readR_of (scfE_m hsz hN hM.symm)
     ·have hb49R := hb49; try simp only [zz] at hb49
      have hm1 : 0 ≤ m.kind ∧ m.kind ≤ 9 := (by assumption)
      refine pwp_seq_gops rfl fun K51 hK51 => ?_
      refine g_begin ?_
      refine g_e rfl (e_move (v := .func _ _ _) rfl) ?_
      refine g_e rfl (e_faQ pl3 rfl) ?_
      refine g_e rfl (e_lH (v := .sc _) rfl (hset_self _ _ _) rfl) ?_
      refine g_call rfl rfl rfl rfl (.cons inn_sc (.cons (.base (inn_ptr ((hset_ne (key_ne rfl)).trans ((hset_ne (key_ne rfl)).trans hihj41_2)) (pure_row (Scaffold.pure _)))) .nil)) (hasN s _ hs1) ?_
      refine g_e rfl (e_not rfl) ?_
      refine g_mS rfl rfl ?_
      refine g_cases (fun hb52 => ?_) (fun hb52 => ?_)
      ·have hb52R := hb52; try simp only [zz] at hb52
       iterate 5 refine g_skip rfl rfl rfl ?_
       refine g_pT rfl rfl rfl ?_
       refine g_aS rfl rfl ?_
       refine g_end (ds := [75, 76, 77, 78, 79]) rfl rfl (hK51 _ ?_); clear hK51 K51
       refine pwp_cond (t := true) rfl (fun _ => ?_) nofun
       refine pwp_seq_plain rfl fun K53 hK53 => ?_
       refine p_e rfl (e_loadHA (n := 3) rfl ((hset_ne (key_ne rfl)).trans ((hset_ne (key_ne rfl)).trans hihj41_1)) (by kernel_rfl) (by kernel_rfl) (by kernel_rfl) (by exact Nat.zero_lt_one) (by decide) rfl) ?_
       refine p_store rfl (e_storeA rfl ((hset_ne (key_ne rfl)).trans ((hset_ne (key_ne rfl)).trans hihj41_0)) rfl rfl rfl (by kernel_rfl) rfl (by kernel_rfl)) trivial ?_
       refine p_aS rfl ?_
       refine p_end (hK53 _ ?_); clear hK53 K53
       refine pwp_ret ?_
       refine ret_block ?_
       refine ret_seq ?_
       refine ret_block ?_
       refine ret_seq ?_
       refine ret_loop ?_
       refine ret_block ?_
       refine ret_seq ?_
       refine endCT rfl (hset_self _ _ _) (by kernel_rfl) (by kernel_rfl) (by kernel_rfl) rfl rfl ?_
       first
         | exact readR_of (scfE_8 (by omega))
         | exact readR_of (scfE_n hsz (frs_hit hinv hd (nodE_2 (by assumption)) (by decide)) (by decide))
         | exact readR_of (scfE_n hsz (frs_hit hinv hd (nodE_5 (by assumption) (of_decide_eq_true ((hnd n).symm.trans (by assumption)))) (by decide)) (by decide))
         | exact readR_of (scfE_m hsz hN (frs_hit hinv2 hd (memE_2 (by assumption)) (by decide)))
         | exact readR_of (scfE_m hsz hN (frs_hit hinv2 hd (memE_6 hm1 (by omega)) (by decide)))
         | exact readR_of (scfE_m hsz hN (frs_hit hinv2 hd (memE_3 hm1 hm2 (by assumption)) (by decide)))
         | exact readR_of (scfE_m hsz hN (frs_hit hinv2 hd (memE_5 hm1 hm2 (by assumption) (of_decide_eq_true ((hmb0 m).symm.trans (by assumption)))) (by decide)))
         | exact readR_of (scfE_m hsz hN hM.symm)
      ·have hb52R := hb52; try simp only [zz] at hb52
       refine g_e rfl (e_move (v := .func _ _ _) rfl) ?_
       refine g_e rfl (e_faQ pl3 rfl) ?_
       refine g_e rfl (e_lH (v := .sc _) rfl (hset_self _ _ _) rfl) ?_
       refine g_call rfl rfl rfl rfl (.cons inn_sc (.cons (.base (inn_ptr ((hset_ne (key_ne rfl)).trans ((hset_ne (key_ne rfl)).trans hihj41_2)) (pure_row (Scaffold.pure _)))) .nil)) (hasN s _ hs1) ?_
       refine g_e rfl (e_not rfl) ?_
       refine g_pF rfl rfl rfl ?_
       refine g_aS rfl rfl ?_
       refine g_end (ds := [75, 76, 77, 78, 79]) rfl rfl (hK51 _ ?_); clear hK51 K51
       refine pwp_cond rfl (fun hb54 => ?_) (fun hb54 => ?_)
       ·have hb54R := hb54; try simp only [zz] at hb54
        refine pwp_seq_plain rfl fun K55 hK55 => ?_
        refine p_e rfl (e_loadHA (n := 3) rfl ((hset_ne (key_ne rfl)).trans ((hset_ne (key_ne rfl)).trans hihj41_1)) (by kernel_rfl) (by kernel_rfl) (by kernel_rfl) (by exact Nat.zero_lt_one) (by decide) rfl) ?_
        refine p_store rfl (e_storeA rfl ((hset_ne (key_ne rfl)).trans ((hset_ne (key_ne rfl)).trans hihj41_0)) rfl rfl rfl (by kernel_rfl) rfl (by kernel_rfl)) trivial ?_
        refine p_aS rfl ?_
        refine p_end (hK55 _ ?_); clear hK55 K55
        refine pwp_ret ?_
        refine ret_block ?_
        refine ret_seq ?_
        refine ret_block ?_
        refine ret_seq ?_
        refine ret_loop ?_
        refine ret_block ?_
        refine ret_seq ?_
        refine endCT rfl (hset_self _ _ _) (by kernel_rfl) (by kernel_rfl) (by kernel_rfl) rfl rfl ?_
        first
          | exact readR_of (scfE_8 (by omega))
          | exact readR_of (scfE_n hsz (frs_hit hinv hd (nodE_2 (by assumption)) (by decide)) (by decide))
          | exact readR_of (scfE_n hsz (frs_hit hinv hd (nodE_5 (by assumption) (of_decide_eq_true ((hnd n).symm.trans (by assumption)))) (by decide)) (by decide))
          | exact readR_of (scfE_m hsz hN (frs_hit hinv2 hd (memE_2 (by assumption)) (by decide)))
          | exact readR_of (scfE_m hsz hN (frs_hit hinv2 hd (memE_6 hm1 (by omega)) (by decide)))
          | exact readR_of (scfE_m hsz hN (frs_hit hinv2 hd (memE_3 hm1 hm2 (by assumption)) (by decide)))
          | exact readR_of (scfE_m hsz hN (frs_hit hinv2 hd (memE_5 hm1 hm2 (by assumption) (of_decide_eq_true ((hmb0 m).symm.trans (by assumption)))) (by decide)))
          | exact readR_of (scfE_m hsz hN hM.symm)
       ·have hb54R := hb54; try simp only [zz] at hb54
        have hm2 : (0 ≤ m.a ∧ m.a < (s.nodes.length : Int)) ∧ (0 ≤ m.b ∧ m.b < (s.nodes.length : Int)) := ⟨(by assumption), (by assumption)⟩
        obtain ⟨a, ha, _, _⟩ := get_lt (xs := s.nodes) (i := m.a.toNat) (by omega)
        obtain ⟨b, hb, _, _⟩ := get_lt (xs := s.nodes) (i := m.b.toNat) (by omega)
        refine pwp_seq_plainK rfl fun hkn K56 hK56 => ?_
        refine p_e rfl (e_loadHA (n := 3) (cs := [.lit true 3 (s.nodes.map Node.enc), .lit true 3 (s.members.map Member.enc), .map (14, c0 14)]) rfl ((hset_ne (key_ne rfl)).trans ((hset_ne (key_ne rfl)).trans hihj41_1)) (by kernel_rfl) (by kernel_rfl) (by kernel_rfl) (by exact Nat.zero_lt_one) (by decide) rfl) ?_
        refine p_e rfl (e_loadHA (n := 3) (cs := m.enc) rfl (hset_self _ _ _) (by kernel_rfl) (by kernel_rfl) (by kernel_rfl) (by exact Nat.zero_lt_one) (by decide) rfl) ?_
        refine p_hcall rfl (rightH _ _ s m a b _ mp (MapAt.keep hihj41_4 ((hset_ne (key_ne rfl)).trans ((hset_ne (key_ne rfl)).trans (rfl)))) hmp hs1 hm2.1 hm2.2 ha hb hm1) fun v1 h1 c1 hR1 => ?_
        obtain ⟨rfl, hfr⟩ := hR1
        have ho57 := (hfr (2, _) (known_at hkn ((hset_ne (key_ne rfl)).trans ((hset_ne (key_ne rfl)).trans hihj41_0)))).trans ((hset_ne (key_ne rfl)).trans ((hset_ne (key_ne rfl)).trans hihj41_0))
        have ho58 := (hfr (4, _) (known_at hkn ((hset_ne (key_ne rfl)).trans ((hset_ne (key_ne rfl)).trans hihj41_1)))).trans ((hset_ne (key_ne rfl)).trans ((hset_ne (key_ne rfl)).trans hihj41_1))
        have ho59 := (hfr (1, _) (known_at hkn ((hset_ne (key_ne rfl)).trans ((hset_ne (key_ne rfl)).trans hihj41_2)))).trans ((hset_ne (key_ne rfl)).trans ((hset_ne (key_ne rfl)).trans hihj41_2))
        have ho60 := MapAt.keep (MapAt.keep hihj41_3 ((hset_ne (key_ne rfl)).trans ((hset_ne (key_ne rfl)).trans (rfl)))) (hfr (54, _) (known_map hkn (MapAt.keep hihj41_3 ((hset_ne (key_ne rfl)).trans ((hset_ne (key_ne rfl)).trans (rfl))))))
        have ho61 := MapAt.keep (MapAt.keep hihj41_4 ((hset_ne (key_ne rfl)).trans ((hset_ne (key_ne rfl)).trans (rfl)))) (hfr (14, _) (known_map hkn (MapAt.keep hihj41_4 ((hset_ne (key_ne rfl)).trans ((hset_ne (key_ne rfl)).trans (rfl))))))
        have ho62 := (hfr (12, _) (known_at hkn (hset_self _ _ _))).trans (hset_self _ _ _)
        refine p_e rfl (e_not (b := geoB s.nodes m) rfl) ?_
        refine p_aS rfl ?_
        refine p_end (hK56 _ ?_); clear hK56 K56
        refine pwp_cond rfl (fun hb63 => ?_) (fun hb63 => ?_)
        ·have hb63R := hb63; try simp only [zz] at hb63
         refine pwp_seq_plain rfl fun K64 hK64 => ?_
         refine p_e rfl (e_loadHA (n := 3) rfl ho58 (by kernel_rfl) (by kernel_rfl) (by kernel_rfl) (by exact Nat.zero_lt_one) (by decide) rfl) ?_
         refine p_store rfl (e_storeA rfl ho57 rfl rfl rfl (by kernel_rfl) rfl (by kernel_rfl)) trivial ?_
         refine p_aS rfl ?_
         refine p_end (hK64 _ ?_); clear hK64 K64
         refine pwp_ret ?_
         refine ret_block ?_
         refine ret_seq ?_
         refine ret_block ?_
         refine ret_seq ?_
         refine ret_loop ?_
         refine ret_block ?_
         refine ret_seq ?_
         refine endCT rfl (hset_self _ _ _) (by kernel_rfl) (by kernel_rfl) (by kernel_rfl) rfl rfl ?_
         first
           | exact readR_of (scfE_8 (by omega))
           | exact readR_of (scfE_n hsz (frs_hit hinv hd (nodE_2 (by assumption)) (by decide)) (by decide))
           | exact readR_of (scfE_n hsz (frs_hit hinv hd (nodE_5 (by assumption) (of_decide_eq_true ((hnd n).symm.trans (by assumption)))) (by decide)) (by decide))
           | exact readR_of (scfE_m hsz hN (frs_hit hinv2 hd (memE_2 (by assumption)) (by decide)))
           | exact readR_of (scfE_m hsz hN (frs_hit hinv2 hd (memE_6 hm1 (by omega)) (by decide)))
           | exact readR_of (scfE_m hsz hN (frs_hit hinv2 hd (memE_3 hm1 hm2 (by assumption)) (by decide)))
           | exact readR_of (scfE_m hsz hN (frs_hit hinv2 hd (memE_5 hm1 hm2 (by assumption) (of_decide_eq_true ((hmb0 m).symm.trans (by assumption)))) (by decide)))
           | exact readR_of (scfE_m hsz hN hM.symm)
        ·have hb63R := hb63; try simp only [zz] at hb63
         refine pwp_seq_plain rfl fun K65 hK65 => ?_
         refine p_e rfl (e_move (v := .map _) rfl) ?_
         refine p_e rfl (e_loadHA (cs := Member.enc (m)) (n := 3) rfl ho62 (by kernel_rfl) (by kernel_rfl) (by kernel_rfl) (by exact Nat.zero_lt_one) (by decide) rfl) ?_
         refine p_e rfl (e_look (kt := 146) (et := 4) (f := kmb) (g := PV.bool) (a := m) (l := mm) (z := false) kmb_eq kmb_ok rfl rfl ho60 (by kernel_rfl) (by kernel_rfl) (by first | rfl | kernel_rfl)) ?_
         refine p_aS rfl ?_
         refine p_end (hK65 _ ?_); clear hK65 K65
         refine pwp_cond rfl (fun hb66 => ?_) (fun hb66 => ?_)
         ·have hb66R := hb66; try simp only [zz] at hb66
          refine pwp_seq_plain rfl fun K67 hK67 => ?_
          refine p_e rfl (e_loadHA (n := 3) rfl ho58 (by kernel_rfl) (by kernel_rfl) (by kernel_rfl) (by exact Nat.zero_lt_one) (by decide) rfl) ?_
          refine p_store rfl (e_storeA rfl ho57 rfl rfl rfl (by kernel_rfl) rfl (by kernel_rfl)) trivial ?_
          refine p_aS rfl ?_
          refine p_end (hK67 _ ?_); clear hK67 K67
          refine pwp_ret ?_
          refine ret_block ?_
          refine ret_seq ?_
          refine ret_block ?_
          refine ret_seq ?_
          refine ret_loop ?_
          refine ret_block ?_
          refine ret_seq ?_
          refine endCT rfl (hset_self _ _ _) (by kernel_rfl) (by kernel_rfl) (by kernel_rfl) rfl rfl ?_
          first
            | exact readR_of (scfE_8 (by omega))
            | exact readR_of (scfE_n hsz (frs_hit hinv hd (nodE_2 (by assumption)) (by decide)) (by decide))
            | exact readR_of (scfE_n hsz (frs_hit hinv hd (nodE_5 (by assumption) (of_decide_eq_true ((hnd n).symm.trans (by assumption)))) (by decide)) (by decide))
            | exact readR_of (scfE_m hsz hN (frs_hit hinv2 hd (memE_2 (by assumption)) (by decide)))
            | exact readR_of (scfE_m hsz hN (frs_hit hinv2 hd (memE_6 hm1 (by omega)) (by decide)))
            | exact readR_of (scfE_m hsz hN (frs_hit hinv2 hd (memE_3 hm1 hm2 (by assumption)) (by decide)))
            | exact readR_of (scfE_m hsz hN (frs_hit hinv2 hd (memE_5 hm1 hm2 (by assumption) (of_decide_eq_true ((hmb0 m).symm.trans (by assumption)))) (by decide)))
            | exact readR_of (scfE_m hsz hN hM.symm)
         ·have hb66R := hb66; try simp only [zz] at hb66
          refine pwp_skip ?_
          refine block_norm ?_
          refine seq_norm (hK47 _ ?_); clear hK47 K47
          refine pwp_plain rfl fun K68 hK68 => ?_
          refine p_e rfl (e_move (v := .map _) rfl) ?_
          refine p_e rfl (e_loadHA (cs := Member.enc (m)) (n := 3) rfl ho62 (by kernel_rfl) (by kernel_rfl) (by kernel_rfl) (by exact Nat.zero_lt_one) (by decide) rfl) ?_
          refine p_store rfl (e_mset (kt := 146) (et := 4) (f := kmb) (g := PV.bool) (a := m) (b := true) (l := mm) kmb_eq kmb_ok rfl rfl rfl rfl ho60 (by kernel_rfl)) trivial ?_
          refine p_end (hK68 _ ?_); clear hK68 K68
          refine block_norm ?_
          refine seq_norm (hK45 _ ?_); clear hK45 K45
          refine pwp_plain rfl fun K69 hK69 => ?_
          refine p_e rfl (e_adL rfl rfl) ?_
          refine p_mS rfl ?_
          refine p_end (hK69 _ ?_); clear hK69 K69
          exact loop_again ((k + 1, aSet m true mm)) (by show _ < _; simp only; omega) ⟨rfl, rfl, rfl, rfl, rfl, rfl, trivial⟩ ⟨rfl, trivial⟩ (by exact ⟨by show _ + 1 ≤ _; simp only [List.length_map] at *; omega, by exact frs_go hinv2 hd (memE_0 hm1 hm2 (by assumption) (of_decide_eq_false ((hmb0 m).symm.trans (by assumption)))), by exact hmb0.step ht, ((hset_ne (key_ne rfl)).trans ho57), ((hset_ne (key_ne rfl)).trans ho58), ((hset_ne (key_ne rfl)).trans ho59), (MapAt.set kmb_eq ho60 m true), (MapAt.keep ho61 ((hset_ne (key_ne rfl)).trans (rfl)))⟩)
    ·have hb44R := hb44; try simp only [zz] at hb44
     have hM := frs_end hinv2 (by simp only [List.length_map] at *; omega)
     refine pwp_exit ?_
     refine exit_seq ?_
     clear hK43 K43
     refine exit_loop ?_
     refine exit_here ?_
     refine seq_norm (hK36 _ ?_); clear hK36 K36
     refine pwp_seq_plain rfl fun K70 hK70 => ?_
     refine p_e rfl (e_loadHA (n := 3) rfl hihj41_1 (by kernel_rfl) (by kernel_rfl) (by kernel_rfl) (by exact Nat.zero_lt_one) (by decide) rfl) ?_
     refine p_store rfl (e_storeA rfl hihj41_0 rfl rfl rfl (by kernel_rfl) rfl (by kernel_rfl)) trivial ?_
     refine p_aS rfl ?_
     refine p_end (hK70 _ ?_); clear hK70 K70
     refine pwp_ret ?_
     refine endCT rfl (hset_self _ _ _) (by kernel_rfl) (by kernel_rfl) (by kernel_rfl) rfl rfl ?_
     first
       | exact readR_of (scfE_8 (by omega))
       | exact readR_of (scfE_n hsz (frs_hit hinv hd (nodE_2 (by assumption)) (by decide)) (by decide))
       | exact readR_of (scfE_n hsz (frs_hit hinv hd (nodE_5 (by assumption) (of_decide_eq_true ((hnd n).symm.trans (by assumption)))) (by decide)) (by decide))
       | exact readR_of (scfE_m hsz hN (frs_hit hinv2 hd (memE_2 (by assumption)) (by decide)))
       | exact readR_of (scfE_m hsz hN (frs_hit hinv2 hd (memE_6 hm1 (by omega)) (by decide)))
       | exact readR_of (scfE_m hsz hN (frs_hit hinv2 hd (memE_3 hm1 hm2 (by assumption)) (by decide)))
       | exact readR_of (scfE_m hsz hN (frs_hit hinv2 hd (memE_5 hm1 hm2 (by assumption) (of_decide_eq_true ((hmb0 m).symm.trans (by assumption)))) (by decide)))
       | exact readR_of (scfE_m hsz hN hM.symm)

theorem fr89 : (inFrame Try.f89.ntmps (Try.f89.body.getD .skip) && Try.f89.results.toList.all (resScope Try.f89.ntmps)) = true := by kernel_rfl
theorem CheckScf (s : Scaffold) (hs1 : s.nodes.length ≤ 1000000) (hs2 : s.members.length ≤ 1000000) : PCalls Try.prog 89 [.agg s.enc] (.int (scfE s)) := by
 refine PCalls.of_code Try.func89 rfl rfl (by kernel_rfl) mixed fr89 (by show _ ≤ 11; simp) (.sc _) ?_
 refine pwp_seq_plain rfl fun K1 hK1 => ?_
 refine p_new rfl (e_box (n := 2) rfl rfl) ⟨rfl, by decide⟩ ?_
 refine p_aS rfl ?_
 refine p_end (hK1 _ ?_); clear hK1 K1
 refine pwp_seq_plain rfl fun K2 hK2 => ?_
 refine p_e rfl (e_loadHA (cs := Scaffold.enc (s)) (n := 2) rfl (hset_self _ _ _) (by kernel_rfl) (by kernel_rfl) (by kernel_rfl) (by exact Nat.zero_lt_one) (by decide) rfl) ?_
 refine p_hcall rfl (readH _ _ s hs1 hs2) fun v7 h7 c7 hR7 => ?_
 obtain ⟨q7, rfl⟩ := hR7
 refine p_e rfl (e_move (v := .tup _) rfl) ?_
 refine p_e rfl (e_ext (v := .agg _) rfl (by simp) rfl) ?_
 refine p_e rfl (e_ext (v := .sc _) rfl (by simp) rfl) ?_
 refine p_new rfl (e_alloc (cs := [.nil, .nil, .sc (.map none)]) (n := 3) (by kernel_rfl) rfl (by decide)) (ob_alloc (by decide)) ?_
 refine p_store rfl (e_storeA rfl (hset_self _ _ _) rfl rfl rfl (by kernel_rfl) rfl (by kernel_rfl)) trivial ?_
 refine p_aS rfl ?_
 refine p_end (hK2 _ ?_); clear hK2 K2
 refine pwp_seq_plain rfl fun K3 hK3 => ?_
 refine p_mS rfl ?_
 refine p_aS rfl ?_
 refine p_end (hK3 _ ?_); clear hK3 K3
 refine pwp_ret ?_
 refine end1 (v := .sc _) rfl ?_
 exact out_i rfl

end Go.Proofs.Ytjmjiegplnfiiaa

/- Members of some tasks. No conditions. -/
set_option linter.unusedSimpArgs false
set_option linter.unusedVariables false
set_option maxRecDepth 100000
namespace Go.Proofs.Ytjmjiegplnfiiaa
open Go Go.Pv
/-! ### The members of some tasks -/
def bigB (s : Scaffold) (x : Task) : Bool := decide ((s.members.length : Int) ≤ x.member)
def stgE (s : Scaffold) (xs : List Task) (ds : List Int) : Int :=
 if scfE s ≠ 0 then scfE s else if planE xs ≠ 0 then planE xs else if xs.any (bigB s) = true then 6 else listE ds xs.length
def mbF (s : Scaffold) (xs : List Task) (n : Int) : Option Member := if 0 ≤ (xs.getD n.toNat default).member then s.members[(xs.getD n.toNat default).member.toNat]? else none
def mbsF (s : Scaffold) (xs : List Task) (ds : List Int) : List Member := ds.filterMap (mbF s xs)
def stgX (s : Scaffold) (xs : List Task) (ds : List Int) : Scaffold × Int := if stgE s xs ds ≠ 0 then (⟨[], []⟩, stgE s xs ds) else (⟨s.nodes, mbsF s xs ds⟩, 0)
def Scaffold.encF (x : Scaffold) : List PV := [.lit false 3 (x.nodes.map Node.enc), .lit false 3 (x.members.map Member.enc)]
section
variable {s : Scaffold} {xs : List Task} {ds : List Int} {k : Nat} {n : Int} {x : Task} {m : Member}
theorem mbs_t (ht : ds.take (k + 1) = ds.take k ++ [n]) (hx : xs[n.toNat]? = some x) (h0 : 0 ≤ x.member) (hm : s.members[x.member.toNat]? = some m) : (mbsF s xs (ds.take k)).map Member.enc ++ [Member.enc m] = (mbsF s xs (ds.take (k + 1))).map Member.enc := by
 have e : mbF s xs n = some m := by
   rw [mbF, List.getD_eq_getElem?_getD, hx]; simp only [Option.getD_some]; rw [if_pos h0, hm]
 rw [ht, mbsF, mbsF, List.filterMap_append, List.filterMap_cons, e]; simp
theorem mbs_f (ht : ds.take (k + 1) = ds.take k ++ [n]) (hx : xs[n.toNat]? = some x) (h0 : x.member < 0) : (mbsF s xs (ds.take k)).map Member.enc = (mbsF s xs (ds.take (k + 1))).map Member.enc := by
 have e : mbF s xs n = none := by
   rw [mbF, List.getD_eq_getElem?_getD, hx]; simp only [Option.getD_some]; rw [if_neg (by omega)]
 rw [ht, mbsF, mbsF, List.filterMap_append, List.filterMap_cons, e]; simp
theorem mbs_len : (mbsF s xs ds).length ≤ ds.length := List.length_filterMap_le _ _
theorem stgE_s (h : scfE s ≠ 0) : scfE s = stgE s xs ds := (if_pos h).symm
theorem stgE_p (h : scfE s = 0) (h2 : planE xs ≠ 0) : planE xs = stgE s xs ds := by rw [stgE, if_neg (fun q => q h), if_pos h2]
theorem stgE_6 (h : scfE s = 0) (h2 : planE xs = 0) (h3 : xs.any (bigB s) = true) : 6 = stgE s xs ds := by rw [stgE, if_neg (fun q => q h), if_neg (fun q => q h2), if_pos h3]
theorem stgE_l (h : scfE s = 0) (h2 : planE xs = 0) (h3 : xs.any (bigB s) = false) : listE ds xs.length = stgE s xs ds := by rw [stgE, if_neg (fun q => q h), if_neg (fun q => q h2), if_neg (by rw [h3]; decide)]
theorem big_at (h : xs.any (bigB s) = false) (hx : xs[n.toNat]? = some x) : x.member < (s.members.length : Int) := by
 have := List.any_eq_false.1 h x (List.mem_of_getElem? hx)
 simp [bigB] at this; omega
theorem big_any (hx : xs[k]? = some x) (h : (s.members.length : Int) ≤ x.member) : xs.any (bigB s) = true := List.any_eq_true.2 ⟨x, List.mem_of_getElem? hx, decide_eq_true h⟩
theorem big_none (h : ∀ i, i < k → ∀ y, xs[i]? = some y → bigB s y = false) (hk : xs.length ≤ k) : xs.any (bigB s) = false := by
 rw [List.any_eq_false]
 intro y hy
 obtain ⟨i, hi⟩ := List.getElem?_of_mem hy
 rw [h i (by have := (List.getElem?_eq_some_iff.1 hi).1; omega) y hi]; decide
theorem listedX (hxl : xs.length ≤ 15) (hdl : ds.length ≤ 30) : PCalls Try.prog 75 [.lit true 1 (ds.map ci), .int (((xs.map Task.enc).length : Nat) : Int)] (.int (listE ds (xs.length : Int))) := by
 rw [List.length_map]; exact listedC ds _ (by omega) (by omega)
theorem out_agg2 {h : Heap} {a b a' b' : PV} (h1 : Out h a a') (h2 : Out h b b') : Out h (.agg [a, b]) (.agg [a', b']) := by
 refine .agg rfl fun i p q hp hq => ?_
 match i, hp, hq with
 | 0, hp, hq => cases hp; cases hq; exact h1
 | 1, hp, hq => cases hp; cases hq; exact h2
 | i + 2, hp, _ => simp at hp
theorem node_clean (a : Node) : ∀ p ∈ a.enc, Go.Pv.Clean p ∧ p.cell = true := fun p hp => by
 simp only [Node.enc, List.mem_cons, List.not_mem_nil, or_false] at hp
 rcases hp with rfl | rfl | rfl <;> exact ⟨.sc _, rfl⟩
theorem member_clean (a : Member) : ∀ p ∈ a.enc, Go.Pv.Clean p ∧ p.cell = true := fun p hp => by
 simp only [Member.enc, List.mem_cons, List.not_mem_nil, or_false] at hp
 rcases hp with rfl | rfl | rfl <;> exact ⟨.sc _, rfl⟩
theorem Scaffold.pureF (x : Scaffold) : ∀ p ∈ x.encF, Pure p := fun p hp => by
 simp only [Scaffold.encF, List.mem_cons, List.not_mem_nil, or_false] at hp
 rcases hp with rfl | rfl
 · exact .lit _ _ _ fun row hr => pure_map Node.pure row hr
 · exact .lit _ _ _ fun row hr => pure_map Member.pure row hr
theorem scf_out {h : Heap} {d : Nat} {w : PV} {ns : List Node} {ms : List Member} (hw : SliceAt h d w 3 (ms.map Member.enc)) : Out h (.agg [.lit false 3 (ns.map Node.enc), w]) (.agg (Scaffold.encF ⟨ns, ms⟩)) :=
 out_agg2 (.clean (clean_rows fun a p hp => (node_clean a p hp).1)) (out_slice hw rfl (fun _ => rfl) member_clean)
theorem stg_oute {h : Heap} {e : Int} (he : e = stgE s xs ds) (h0 : e ≠ 0) : Out h (.tup [.agg [.nil, .nil], .int e]) (.tup [.agg (stgX s xs ds).1.encF, .int (stgX s xs ds).2]) := by
 rw [stgX, if_pos (by rw [← he]; exact h0), ← he]
 exact out_2 (out_agg2 (.nil 3) (.nil 3)) (out_i rfl)
theorem stg_out0 {h : Heap} {w : PV} {d k : Nat} (he : 0 = stgE s xs ds) (hk : ds.length ≤ k) (hw : SliceAt h d w 3 ((mbsF s xs (ds.take k)).map Member.enc)) : Out h (.tup [.agg [.lit false 3 (s.nodes.map Node.enc), w], .int 0]) (.tup [.agg (stgX s xs ds).1.encF, .int (stgX s xs ds).2]) := by
 rw [stgX, if_neg (fun q => q he.symm)]
 rw [List.take_of_length_le hk] at hw
 exact out_2 (scf_out hw) (out_i rfl)
end

theorem fr91 : (inFrame Try.f91.ntmps (Try.f91.body.getD .skip) && Try.f91.results.toList.all (resScope Try.f91.ntmps)) = true := by kernel_rfl
theorem bigC (s : Scaffold) (x : Task) : PCalls Try.prog 91 [.agg x.enc, .lptr true 2 [s.enc] 0 0] (.bool (bigB s x)) := by
 refine PCalls.of_code Try.func91 rfl rfl (by kernel_rfl) mixed fr91 (by show _ ≤ 10; simp) (.sc _) ?_
 refine pwp_seq_plain rfl fun K1 hK1 => ?_
 refine p_new rfl (e_box (n := 6) rfl rfl) ⟨rfl, by decide⟩ ?_
 refine p_aS rfl ?_
 refine p_end (hK1 _ ?_); clear hK1 K1
 refine pwp_seq_plain rfl fun K2 hK2 => ?_
 refine p_e rfl (e_faQ pl6 rfl) ?_
 refine p_e rfl (e_lH (v := .sc _) rfl (hset_self _ _ _) rfl) ?_
 refine p_e rfl (e_fb pl2 rfl) ?_
 refine p_e rfl (e_load (v := .lit _ _ _) rfl (by kernel_rfl) (by kernel_rfl) (by kernel_rfl) (by exact Nat.zero_lt_one) (by decide) rfl) ?_
 refine p_e rfl (e_len rfl (by kernel_rfl)) ?_
 refine p_e rfl (e_ge rfl rfl) ?_
 refine p_aS rfl ?_
 refine p_end (hK2 _ ?_); clear hK2 K2
 refine pwp_ret ?_
 refine end1 (v := .sc _) rfl ?_
 exact out_b (by rw [bigB, Bool.eq_iff_iff]; simp only [decide_eq_true_eq, List.length_map])

theorem fr120 : (inFrame Try.f120.ntmps (Try.f120.body.getD .skip) && Try.f120.results.toList.all (resScope Try.f120.ntmps)) = true := by kernel_rfl
theorem IndexBig (s : Scaffold) (xs : List Task) (hl : xs.length ≤ 1000000) : PCalls Try.prog 120 [.lit true 6 (xs.map Task.enc), .func (.func 91) [] [.lptr true 2 [s.enc] 0 0]] (.int (ixA (bigB s) xs)) := by
 refine PCalls.of_code Try.func120 rfl rfl (by kernel_rfl) mixed fr120 (by show _ ≤ 19; simp) (.sc _) ?_
 refine pwp_seq_plain rfl fun K1 hK1 => ?_
 refine p_aS rfl ?_
 refine p_end (hK1 _ ?_); clear hK1 K1
 refine pwp_seq_seq ?_
 refine pwp_seq_plain rfl fun K2 hK2 => ?_
 refine p_e rfl (e_move (v := .lit _ _ _) rfl) ?_
 refine p_e rfl (e_len rfl (by kernel_rfl)) ?_
 refine p_mS rfl ?_
 refine p_end (hK2 _ ?_); clear hK2 K2
 refine pwp_seq_block fun K3 hK3 => ?_
 refine pwp_loopR (α := Nat) [0, 1, 7] (fun (k : Nat) => [(8, .int (k))]) (fun (k : Nat) (h : Heap) (_ : Nat → Nat) => ((k) ≤ xs.length) ∧ (∀ i, i < (k) → ∀ y, xs[i]? = some y → bigB s y = false)) (fun (k : Nat) => xs.length - (k)) (0) (by exact ⟨rfl, trivial⟩) (by exact ⟨by exact Nat.zero_le _, by exact nx_0⟩) fun k r4 h5 c6 hj7 => ?_
 obtain ⟨hk, hin⟩ := hj7
 try dsimp only at hk
 try dsimp only at hin
 show pwp _ _ (loopQ _ _ _) ⟨sets (mix _ _ _) [(8, .int k)], _, _⟩
 refine pwp_seq_plain rfl fun K8 hK8 => ?_
 refine p_e rfl (e_lt rfl rfl) ?_
 refine p_end (hK8 _ ?_); clear hK8 K8
 refine pwp_seq_cond rfl fun K9 hK9 => ⟨fun hb10 => ?_, fun hb10 => ?_⟩
 ·have hb10R := hb10; try simp only [zz] at hb10
  obtain ⟨x, hx, hd, ht⟩ := get_lt (xs := xs) (i := k) (by omega)
  refine pwp_skip ?_
  refine seq_norm (hK9 _ ?_); clear hK9 K9
  refine pwp_seq_block fun K11 hK11 => ?_
  refine pwp_seq_plain rfl fun K12 hK12 => ?_
  refine p_mS rfl ?_
  refine p_aS rfl ?_
  refine p_end (hK12 _ ?_); clear hK12 K12
  refine pwp_seq_plain rfl fun K13 hK13 => ?_
  refine p_e rfl (e_move (v := .func _ _ _) rfl) ?_
  refine p_e rfl (e_move (v := .lit _ _ _) rfl) ?_
  refine p_mS rfl ?_
  refine p_e rfl (e_ixL rfl rfl) ?_
  refine p_e rfl (e_loadA (n := 6) rfl (by kernel_rfl) (by kernel_rfl) (by kernel_rfl) (by first | omega | (simp only [List.length_map]; omega)) (by decide) (by first | exact agg_map hx rfl)) ?_
  refine p_call rfl (.cons (inn_agg (Task.pure _)) (.cons inn_lptr .nil)) (bigC s x) ?_
  refine p_end (hK13 _ ?_); clear hK13 K13
  refine pwp_cond rfl (fun hb14 => ?_) (fun hb14 => ?_)
  ·have hb14R := hb14; try simp only [zz] at hb14
   refine pwp_seq_plain rfl fun K15 hK15 => ?_
   refine p_mS rfl ?_
   refine p_aS rfl ?_
   refine p_end (hK15 _ ?_); clear hK15 K15
   refine pwp_ret ?_
   refine ret_block ?_
   refine ret_seq ?_
   refine ret_loop ?_
   refine ret_block ?_
   refine ret_seq ?_
   refine end1 (v := .sc _) rfl ?_
   first
     | exact out_i (ixA_hit (K := bigB s) hx hin (by assumption))
     | exact out_i (ixA_no (K := bigB s) hin (by simp only [List.length_map] at *; omega))
  ·have hb14R := hb14; try simp only [zz] at hb14
   refine pwp_skip ?_
   refine block_norm ?_
   refine seq_norm (hK11 _ ?_); clear hK11 K11
   refine pwp_plain rfl fun K16 hK16 => ?_
   refine p_e rfl (e_adL rfl rfl) ?_
   refine p_mS rfl ?_
   refine p_end (hK16 _ ?_); clear hK16 K16
   exact loop_again (k + 1) (by show _ < _; omega) ⟨rfl, rfl, rfl, trivial⟩ ⟨rfl, trivial⟩ (by exact ⟨by show _ + 1 ≤ _; simp only [List.length_map] at *; omega, by exact nx_step (K := bigB s) hin hx (by assumption)⟩)
 ·have hb10R := hb10; try simp only [zz] at hb10
  refine pwp_exit ?_
  refine exit_seq ?_
  clear hK9 K9
  refine exit_loop ?_
  refine exit_here ?_
  refine seq_norm (hK3 _ ?_); clear hK3 K3
  refine pwp_seq_plain rfl fun K17 hK17 => ?_
  refine p_aS rfl ?_
  refine p_end (hK17 _ ?_); clear hK17 K17
  refine pwp_ret ?_
  refine end1 (v := .sc _) rfl ?_
  first
    | exact out_i (ixA_hit (K := bigB s) hx hin (by assumption))
    | exact out_i (ixA_no (K := bigB s) hin (by simp only [List.length_map] at *; omega))

theorem fr90 : (inFrame Try.f90.ntmps (Try.f90.body.getD .skip) && Try.f90.results.toList.all (resScope Try.f90.ntmps)) = true := by kernel_rfl
theorem ContainsBig (s : Scaffold) (xs : List Task) (hl : xs.length ≤ 1000000) : PCalls Try.prog 90 [.lit true 6 (xs.map Task.enc), .func (.func 91) [] [.lptr true 2 [s.enc] 0 0]] (.bool (xs.any (bigB s))) := by
 refine PCalls.of_code Try.func90 rfl rfl (by kernel_rfl) mixed fr90 (by show _ ≤ 9; simp) (.sc _) ?_
 refine pwp_seq_plain rfl fun K1 hK1 => ?_
 refine p_aS rfl ?_
 refine p_end (hK1 _ ?_); clear hK1 K1
 refine pwp_seq_plain rfl fun K2 hK2 => ?_
 refine p_e rfl (e_move (v := .lit _ _ _) rfl) ?_
 refine p_e rfl (e_move (v := .func _ _ _) rfl) ?_
 refine p_call rfl (.cons inn_lit (.cons (inn_clos1 (.lptr id)) .nil)) (IndexBig s xs hl) ?_
 refine p_e rfl (e_ge rfl rfl) ?_
 refine p_aS rfl ?_
 refine p_end (hK2 _ ?_); clear hK2 K2
 refine pwp_ret ?_
 refine end1 (v := .sc _) rfl ?_
 exact out_b ixA_any

theorem fr92a : (inFrame Try.f92.ntmps (Try.f92.body.getD .skip) && Try.f92.results.toList.all (resScope Try.f92.ntmps)) = true := by kernel_rfl
theorem cloneNE  : PCalls Try.prog 92 [.lit true 3 (([] : List Node).map Node.enc)] (.lit false 3 (([] : List Node).map Node.enc)) := by
 refine PCalls.of_code Try.func92 rfl rfl (by kernel_rfl) mixed fr92a (by show _ ≤ 8; simp) (.lit _ _ _ fun row hr => pure_map Node.pure row hr) ?_
 refine pwp_seq_plain rfl fun K1 hK1 => ?_
 refine p_e rfl (e_assign (v := .nil) rfl) ?_
 refine p_end (hK1 _ ?_); clear hK1 K1
 refine pwp_seq_seq ?_
 refine pwp_seq_plain rfl fun K2 hK2 => ?_
 refine p_e rfl (e_move (v := .lit _ _ _) rfl) ?_
 refine p_nilq rfl (by kernel_rfl) rfl fun b => ?_
 refine p_end (hK2 _ ?_); clear hK2 K2
 refine pwp_seq_cond rfl fun K3 hK3 => ⟨fun hb4 => ?_, fun hb4 => ?_⟩
 ·have hb4R := hb4; try simp only [zz] at hb4
  refine pwp_seq_plain rfl fun K5 hK5 => ?_
  refine p_e rfl (e_assign (v := .nil) rfl) ?_
  refine p_end (hK5 _ ?_); clear hK5 K5
  refine pwp_ret ?_
  refine ret_seq ?_
  refine end1 (v := .nil) rfl ?_
  first
    | exact .nil 3
 ·have hb4R := hb4; try simp only [zz] at hb4
  refine pwp_skip ?_
  refine seq_norm (hK3 _ ?_); clear hK3 K3
  refine pwp_seq_plain rfl fun K6 hK6 => ?_
  refine p_new rfl (e_bslice (rows := []) (zs := [.int 0, .int 0, .int 0]) (sz := 3) (by kernel_rfl) (by kernel_rfl) rfl (by kernel_rfl) (by decide) rfl rfl (by exact trivial) rfl) trivial ?_
  refine p_e rfl (e_move (v := .lit _ _ _) rfl) ?_
  refine p_app rfl rfl rfl (.ofRef (hset_self _ _ _) rfl) src_lit (by kernel_rfl) (by simp only [List.length_append, List.length_map, List.length_nil, List.length_cons]; omega) fun v7 h8 c9 hs10 hf11 => ?_
  refine p_e rfl (e_assign (v := _) rfl) ?_
  refine p_end (hK6 _ ?_); clear hK6 K6
  refine pwp_ret ?_
  refine end1 (v := _) rfl ?_
  first
    | exact .nil 3
    | exact out_slice hs10 (by simp) (fun _ => rfl) node_clean

theorem fr92 : (inFrame Try.f92.ntmps (Try.f92.body.getD .skip) && Try.f92.results.toList.all (resScope Try.f92.ntmps)) = true := by kernel_rfl
theorem cloneNN (ns : List Node) (hl : ns.length ≤ 10000) (hne : ns ≠ []) : PCalls Try.prog 92 [.lit true 3 (ns.map Node.enc)] (.lit false 3 (ns.map Node.enc)) := by
 refine PCalls.of_code Try.func92 rfl rfl (by kernel_rfl) mixed fr92 (by show _ ≤ 8; simp) (.lit _ _ _ fun row hr => pure_map Node.pure row hr) ?_
 refine pwp_seq_plain rfl fun K1 hK1 => ?_
 refine p_e rfl (e_assign (v := .nil) rfl) ?_
 refine p_end (hK1 _ ?_); clear hK1 K1
 refine pwp_seq_seq ?_
 refine pwp_seq_plain rfl fun K2 hK2 => ?_
 refine p_e rfl (e_move (v := .lit _ _ _) rfl) ?_
 refine p_e rfl (e_nileq rfl (by simpa using hne) rfl (by kernel_rfl)) ?_
 refine p_end (hK2 _ ?_); clear hK2 K2
 refine pwp_seq_cond (t := false) rfl fun K3 hK3 => ⟨nofun, fun _ => ?_⟩
 refine pwp_skip ?_
 refine seq_norm (hK3 _ ?_); clear hK3 K3
 refine pwp_seq_plain rfl fun K4 hK4 => ?_
 refine p_new rfl (e_bslice (rows := []) (zs := [.int 0, .int 0, .int 0]) (sz := 3) (by kernel_rfl) (by kernel_rfl) rfl (by kernel_rfl) (by decide) rfl rfl (by exact trivial) rfl) trivial ?_
 refine p_e rfl (e_move (v := .lit _ _ _) rfl) ?_
 refine p_app rfl rfl rfl (.ofRef (hset_self _ _ _) rfl) src_lit (by kernel_rfl) (by simp only [List.length_append, List.length_map, List.length_nil, List.length_cons]; omega) fun v5 h6 c7 hs8 hf9 => ?_
 refine p_e rfl (e_assign (v := _) rfl) ?_
 refine p_end (hK4 _ ?_); clear hK4 K4
 refine pwp_ret ?_
 refine end1 (v := _) rfl ?_
 first
   | exact .nil 3
   | exact out_slice hs8 (by simp) (fun _ => rfl) node_clean

theorem cloneNC (ns : List Node) (hl : ns.length ≤ 10000) : PCalls Try.prog 92 [.lit true 3 (ns.map Node.enc)] (.lit false 3 (ns.map Node.enc)) := by
 by_cases h : ns = []
 · subst h; exact cloneNE
 · exact cloneNN ns hl h

theorem fr46 : (inFrame Try.f46.ntmps (Try.f46.body.getD .skip) && Try.f46.results.toList.all (resScope Try.f46.ntmps)) = true := by kernel_rfl
theorem StageC (s : Scaffold) (xs : List Task) (ds : List Int) (hs1 : s.nodes.length ≤ 30) (hs2 : s.members.length ≤ 40) (hf : Fair xs) (hxl : xs.length ≤ 15) (hdl : ds.length ≤ 30) : PCalls Try.prog 46 [.agg s.enc, .lit true 6 (xs.map Task.enc), .lit true 1 (ds.map ci)] (.tup [.agg (stgX s xs ds).1.encF, .int (stgX s xs ds).2]) := by
 refine PCalls.of_code Try.func46 rfl rfl (by kernel_rfl) mixed fr46 (by show _ ≤ 68; simp) (pure_2 (.agg _ (Scaffold.pureF _)) (.sc _)) ?_
 refine pwp_seq_plain rfl fun K1 hK1 => ?_
 refine p_new rfl (e_box (n := 2) rfl rfl) ⟨rfl, by decide⟩ ?_
 refine p_new rfl (e_alloc (cs := [.nil, .nil]) (n := 2) (by kernel_rfl) rfl (by decide)) (ob_alloc (by decide)) ?_
 refine p_aS rfl ?_
 refine p_end (hK1 _ ?_); clear hK1 K1
 refine pwp_seq_seq ?_
 refine pwp_seq_plain rfl fun K2 hK2 => ?_
 refine p_e rfl (e_loadHA (cs := Scaffold.enc (s)) (n := 2) rfl ((hset_ne (key_ne rfl)).trans (hset_self _ _ _)) (by kernel_rfl) (by kernel_rfl) (by kernel_rfl) (by exact Nat.zero_lt_one) (by decide) rfl) ?_
 refine p_call rfl (.cons (inn_agg (Scaffold.pure _)) .nil) (CheckScf s (by omega) (by omega)) ?_
 refine p_aS rfl ?_
 refine p_end (hK2 _ ?_); clear hK2 K2
 refine pwp_seq_seq ?_
 refine pwp_seq_plain rfl fun K3 hK3 => ?_
 refine p_mS rfl ?_
 refine p_e rfl (e_ne rfl rfl) ?_
 refine p_end (hK3 _ ?_); clear hK3 K3
 refine pwp_seq_cond rfl fun K4 hK4 => ⟨fun hb5 => ?_, fun hb5 => ?_⟩
 ·have hb5R := hb5; try simp only [zz] at hb5
  refine pwp_seq_plain rfl fun K6 hK6 => ?_
  refine p_e rfl (e_build (zs := [.nil, .nil]) (pl := [(0, 1, false), (1, 1, false)]) (by kernel_rfl) (by kernel_rfl) (by kernel_rfl) rfl rfl (by exact trivial) rfl) ?_
  refine p_mS rfl ?_
  refine p_store rfl (e_storeA rfl (hset_self _ _ _) rfl rfl rfl (by kernel_rfl) rfl (by kernel_rfl)) trivial ?_
  refine p_aS rfl ?_
  refine p_end (hK6 _ ?_); clear hK6 K6
  refine pwp_ret ?_
  refine ret_seq ?_
  refine endCT rfl (hset_self _ _ _) (by kernel_rfl) (by kernel_rfl) (by kernel_rfl) rfl rfl ?_
  first
    | exact stg_oute (stgE_s (by assumption)) (by assumption)
    | exact stg_oute (stgE_p hsc (by assumption)) (by assumption)
    | exact stg_oute (stgE_6 hsc hp (by assumption)) (by decide)
    | exact stg_oute (stgE_l hsc hp hany) (by assumption)
    | exact stg_out0 (hls.symm.trans (stgE_l hsc hp hany)) hkk (hw.keep fun g => (hset_ne (key_ne rfl)).trans ((hset_ne (key_ne rfl)).trans ((hset_ne (key_ne rfl)).trans (rfl))))
 ·have hb5R := hb5; try simp only [zz] at hb5
  refine pwp_skip ?_
  refine seq_norm (hK4 _ ?_); clear hK4 K4
  refine pwp_seq_seq ?_
  have hsc : scfE s = 0 := (by assumption)
  refine pwp_seq_plain rfl fun K7 hK7 => ?_
  refine p_e rfl (e_move (v := .lit _ _ _) rfl) ?_
  refine p_call rfl (.cons inn_lit .nil) (CheckC _ (by omega) hf) ?_
  refine p_aS rfl ?_
  refine p_end (hK7 _ ?_); clear hK7 K7
  refine pwp_seq_seq ?_
  refine pwp_seq_plain rfl fun K8 hK8 => ?_
  refine p_mS rfl ?_
  refine p_e rfl (e_ne rfl rfl) ?_
  refine p_end (hK8 _ ?_); clear hK8 K8
  refine pwp_seq_cond rfl fun K9 hK9 => ⟨fun hb10 => ?_, fun hb10 => ?_⟩
  ·have hb10R := hb10; try simp only [zz] at hb10
   refine pwp_seq_plain rfl fun K11 hK11 => ?_
   refine p_e rfl (e_build (zs := [.nil, .nil]) (pl := [(0, 1, false), (1, 1, false)]) (by kernel_rfl) (by kernel_rfl) (by kernel_rfl) rfl rfl (by exact trivial) rfl) ?_
   refine p_mS rfl ?_
   refine p_store rfl (e_storeA rfl (hset_self _ _ _) rfl rfl rfl (by kernel_rfl) rfl (by kernel_rfl)) trivial ?_
   refine p_aS rfl ?_
   refine p_end (hK11 _ ?_); clear hK11 K11
   refine pwp_ret ?_
   refine ret_seq ?_
   refine endCT rfl (hset_self _ _ _) (by kernel_rfl) (by kernel_rfl) (by kernel_rfl) rfl rfl ?_
   first
     | exact stg_oute (stgE_s (by assumption)) (by assumption)
     | exact stg_oute (stgE_p hsc (by assumption)) (by assumption)
     | exact stg_oute (stgE_6 hsc hp (by assumption)) (by decide)
     | exact stg_oute (stgE_l hsc hp hany) (by assumption)
     | exact stg_out0 (hls.symm.trans (stgE_l hsc hp hany)) hkk (hw.keep fun g => (hset_ne (key_ne rfl)).trans ((hset_ne (key_ne rfl)).trans ((hset_ne (key_ne rfl)).trans (rfl))))
  ·have hb10R := hb10; try simp only [zz] at hb10
   refine pwp_skip ?_
   refine seq_norm (hK9 _ ?_); clear hK9 K9
   refine pwp_seq_seq ?_
   have hp : planE xs = 0 := (by assumption)
   refine pwp_seq_plain rfl fun K12 hK12 => ?_
   refine p_e rfl (e_move (v := .lit _ _ _) rfl) ?_
   refine p_e rfl (e_mkf rfl) ?_
   refine p_call rfl (.cons inn_lit (.cons (inn_clos1 (inn_ptr ((hset_ne (key_ne rfl)).trans (hset_self _ _ _)) (pure_row (Scaffold.pure _)))) .nil)) (ContainsBig s xs (by omega)) ?_
   refine p_end (hK12 _ ?_); clear hK12 K12
   refine pwp_seq_cond rfl fun K13 hK13 => ⟨fun hb14 => ?_, fun hb14 => ?_⟩
   ·have hb14R := hb14; try simp only [zz] at hb14
    refine pwp_seq_plain rfl fun K15 hK15 => ?_
    refine p_e rfl (e_build (zs := [.nil, .nil]) (pl := [(0, 1, false), (1, 1, false)]) (by kernel_rfl) (by kernel_rfl) (by kernel_rfl) rfl rfl (by exact trivial) rfl) ?_
    refine p_store rfl (e_storeA rfl (hset_self _ _ _) rfl rfl rfl (by kernel_rfl) rfl (by kernel_rfl)) trivial ?_
    refine p_aS rfl ?_
    refine p_end (hK15 _ ?_); clear hK15 K15
    refine pwp_ret ?_
    refine ret_seq ?_
    refine endCT rfl (hset_self _ _ _) (by kernel_rfl) (by kernel_rfl) (by kernel_rfl) rfl rfl ?_
    first
      | exact stg_oute (stgE_s (by assumption)) (by assumption)
      | exact stg_oute (stgE_p hsc (by assumption)) (by assumption)
      | exact stg_oute (stgE_6 hsc hp (by assumption)) (by decide)
      | exact stg_oute (stgE_l hsc hp hany) (by assumption)
      | exact stg_out0 (hls.symm.trans (stgE_l hsc hp hany)) hkk (hw.keep fun g => (hset_ne (key_ne rfl)).trans ((hset_ne (key_ne rfl)).trans ((hset_ne (key_ne rfl)).trans (rfl))))
   ·have hb14R := hb14; try simp only [zz] at hb14
    refine pwp_skip ?_
    refine seq_norm (hK13 _ ?_); clear hK13 K13
    refine pwp_seq_seq ?_
    have hany : xs.any (bigB s) = false := (by assumption)
    refine pwp_seq_plain rfl fun K16 hK16 => ?_
    refine p_e rfl (e_move (v := .lit _ _ _) rfl) ?_
    refine p_e rfl (e_move (v := .lit _ _ _) rfl) ?_
    refine p_e rfl (e_len rfl (by kernel_rfl)) ?_
    refine p_call rfl (.cons inn_lit (.cons inn_sc .nil)) (listedX hxl hdl) ?_
    refine p_aS rfl ?_
    refine p_end (hK16 _ ?_); clear hK16 K16
    refine pwp_seq_seq ?_
    refine pwp_seq_plain rfl fun K17 hK17 => ?_
    refine p_mS rfl ?_
    refine p_e rfl (e_ne rfl rfl) ?_
    refine p_end (hK17 _ ?_); clear hK17 K17
    refine pwp_seq_cond rfl fun K18 hK18 => ⟨fun hb19 => ?_, fun hb19 => ?_⟩
    ·have hb19R := hb19; try simp only [zz] at hb19
     refine pwp_seq_plain rfl fun K20 hK20 => ?_
     refine p_e rfl (e_build (zs := [.nil, .nil]) (pl := [(0, 1, false), (1, 1, false)]) (by kernel_rfl) (by kernel_rfl) (by kernel_rfl) rfl rfl (by exact trivial) rfl) ?_
     refine p_mS rfl ?_
     refine p_store rfl (e_storeA rfl (hset_self _ _ _) rfl rfl rfl (by kernel_rfl) rfl (by kernel_rfl)) trivial ?_
     refine p_aS rfl ?_
     refine p_end (hK20 _ ?_); clear hK20 K20
     refine pwp_ret ?_
     refine ret_seq ?_
     refine endCT rfl (hset_self _ _ _) (by kernel_rfl) (by kernel_rfl) (by kernel_rfl) rfl rfl ?_
     first
       | exact stg_oute (stgE_s (by assumption)) (by assumption)
       | exact stg_oute (stgE_p hsc (by assumption)) (by assumption)
       | exact stg_oute (stgE_6 hsc hp (by assumption)) (by decide)
       | exact stg_oute (stgE_l hsc hp hany) (by assumption)
       | exact stg_out0 (hls.symm.trans (stgE_l hsc hp hany)) hkk (hw.keep fun g => (hset_ne (key_ne rfl)).trans ((hset_ne (key_ne rfl)).trans ((hset_ne (key_ne rfl)).trans (rfl))))
    ·have hb19R := hb19; try simp only [zz] at hb19
     refine pwp_skip ?_
     refine seq_norm (hK18 _ ?_); clear hK18 K18
     have hls : listE ds (xs.length : Int) = 0 := (by assumption)
     have hdr := (listE_ok hls).1
     refine pwp_seq_plain rfl fun K21 hK21 => ?_
     refine p_e rfl (e_faQ pl2 rfl) ?_
     refine p_e rfl (e_lH (v := .lit _ _ _) rfl ((hset_ne (key_ne rfl)).trans (hset_self _ _ _)) rfl) ?_
     refine p_call rfl (.cons inn_lit .nil) (cloneNC _ (by omega)) ?_
     refine p_e rfl (e_build (zs := [.nil, .nil]) (pl := [(0, 1, false), (1, 1, false)]) (by kernel_rfl) (by kernel_rfl) (by kernel_rfl) rfl rfl (by exact ⟨by decide, rfl, Nat.le_of_ble_eq_true rfl, rfl, trivial⟩) rfl) ?_
     refine p_new rfl (e_alloc (cs := [.nil, .nil]) (n := 2) (by kernel_rfl) rfl (by decide)) (ob_alloc (by decide)) ?_
     refine p_store rfl (e_storeA rfl (hset_self _ _ _) rfl rfl rfl (by kernel_rfl) rfl (by kernel_rfl)) trivial ?_
     refine p_end (hK21 _ ?_); clear hK21 K21
     refine pwp_seq_seq ?_
     refine pwp_seq_plain rfl fun K22 hK22 => ?_
     refine p_e rfl (e_move (v := .lit _ _ _) rfl) ?_
     refine p_e rfl (e_len rfl (by kernel_rfl)) ?_
     refine p_mS rfl ?_
     refine p_end (hK22 _ ?_); clear hK22 K22
     refine pwp_seq_block fun K23 hK23 => ?_
     refine pwp_loopR (α := Nat × PV) [1, 3, 6, 11, 43, 44] (fun (a24 : Nat × PV) => [(45, .int (a24.1))]) (fun (a24 : Nat × PV) (h : Heap) (_ : Nat → Nat) => ((a24.1) ≤ ds.length) ∧ (SliceAt h 64 (a24.2) 3 ((mbsF s xs (ds.take (a24.1))).map Member.enc)) ∧ (h (3, 0) = some (.rows 2 [Scaffold.enc s])) ∧ (h (6, 0) = some (.rows 2 [[.nil, .nil]])) ∧ (h (11, 0) = some (.rows 2 [[.lit false 3 (s.nodes.map Node.enc), (a24.2)]]))) (fun (a24 : Nat × PV) => ds.length - (a24.1)) (0, .nil) (by exact ⟨rfl, trivial⟩) (by exact ⟨by exact Nat.zero_le _, by exact .nil, ((hset_ne (key_ne rfl)).trans ((hset_ne (key_ne rfl)).trans ((hset_ne (key_ne rfl)).trans (hset_self _ _ _)))), ((hset_ne (key_ne rfl)).trans ((hset_ne (key_ne rfl)).trans (hset_self _ _ _))), (hset_self _ _ _)⟩) fun a24 r25 h26 c27 hj28 => ?_
     obtain ⟨k, w⟩ := a24
     obtain ⟨hk, hw, hihj28_0, hihj28_1, hihj28_2⟩ := hj28
     try dsimp only at hk
     try dsimp only at hw
     try dsimp only at hihj28_0
     try dsimp only at hihj28_1
     try dsimp only at hihj28_2
     show pwp _ _ (loopQ _ _ _) ⟨sets (mix _ _ _) [(45, .int k)], _, _⟩
     refine pwp_seq_plain rfl fun K29 hK29 => ?_
     refine p_e rfl (e_lt rfl rfl) ?_
     refine p_end (hK29 _ ?_); clear hK29 K29
     refine pwp_seq_cond rfl fun K30 hK30 => ⟨fun hb31 => ?_, fun hb31 => ?_⟩
     ·have hb31R := hb31; try simp only [zz] at hb31
      obtain ⟨n, hn, hdn, htn⟩ := get_lt (xs := ds) (i := k) (by omega)
      have hnr := hdr n (List.mem_of_getElem? hn)
      obtain ⟨x, hx, _, _⟩ := get_lt (xs := xs) (i := n.toNat) (by omega)
      have hxb := big_at hany hx
      have hml := mbs_len (s := s) (xs := xs) (ds := ds.take k)
      rw [List.length_take] at hml
      refine pwp_skip ?_
      refine seq_norm (hK30 _ ?_); clear hK30 K30
      refine pwp_seq_block fun K32 hK32 => ?_
      refine pwp_seq_plain rfl fun K33 hK33 => ?_
      refine p_e rfl (e_ixL rfl rfl) ?_
      refine p_e rfl (e_load (v := .sc _) rfl (by kernel_rfl) (by kernel_rfl) (by kernel_rfl) (by first | omega | (simp only [List.length_map]; omega)) (by decide) ((cell_map hn _).trans rfl)) ?_
      refine p_aS rfl ?_
      refine p_end (hK33 _ ?_); clear hK33 K33
      refine pwp_seq_plain rfl fun K34 hK34 => ?_
      refine p_e rfl (e_move (v := .lit _ _ _) rfl) ?_
      refine p_mS rfl ?_
      refine p_e rfl (e_ixL rfl rfl) ?_
      refine p_e rfl (e_fb pl6 rfl) ?_
      refine p_e rfl (e_load (v := .sc _) rfl (by kernel_rfl) (by kernel_rfl) (by kernel_rfl) (by first | omega | (simp only [List.length_map]; omega)) (by decide) ((cell_map hx _).trans rfl)) ?_
      refine p_aS rfl ?_
      refine p_end (hK34 _ ?_); clear hK34 K34
      refine pwp_seq_plain rfl fun K35 hK35 => ?_
      refine p_mS rfl ?_
      refine p_e rfl (e_ge rfl rfl) ?_
      refine p_end (hK35 _ ?_); clear hK35 K35
      refine pwp_cond rfl (fun hb36 => ?_) (fun hb36 => ?_)
      ·have hb36R := hb36; try simp only [zz] at hb36
       obtain ⟨m, hm, _, _⟩ := get_lt (xs := s.members) (i := x.member.toNat) (by omega)
       refine pwp_gops rfl fun K37 hK37 => ?_
       refine s_begin ?_
       refine s_e rfl (e_faQ pl2 rfl) ?_
       refine s_step [11] (by simp) rfl rfl rfl rfl (e_lH (v := w) rfl hihj28_2 rfl) trivial ?_
       refine s_e rfl (e_faQ pl2 rfl) ?_
       refine s_step [3] (by simp) rfl rfl rfl rfl (e_lH (v := .lit _ _ _) rfl hihj28_0 rfl) trivial ?_
       refine s_e rfl (e_move (v := .sc _) rfl) ?_
       refine s_e rfl (e_ixL rfl rfl) ?_
       refine s_e rfl (e_loadA (n := 3) rfl (by kernel_rfl) (by kernel_rfl) (by kernel_rfl) (by first | omega | (simp only [List.length_map]; omega)) (by decide) (by first | exact agg_map hm rfl)) ?_
       refine s_new [] (by simp) rfl rfl rfl rfl (e_bslice (rows := [Member.enc m]) (zs := [.int 0, .int 0, .int 0]) (sz := 3) (by kernel_rfl) (by kernel_rfl) rfl (by kernel_rfl) (by decide) rfl rfl (by exact ⟨by decide, rfl, rfl, trivial⟩) rfl) trivial ?_
       refine s_app [64, 63] [64, 64] (by simp) (by simp) (by simp) rfl rfl rfl (hw.keep fun _ => (hset_ne (key_ne rfl)).trans (rfl)) (SrcAt.ref (hset_self _ _ _) rfl) rfl (by kernel_rfl) (by simp only [List.length_append, List.length_map, List.length_nil, List.length_cons]; omega) fun v38 h39 c40 hs41 hf42 => ?_
       have ho43 := (hf42 (3, _) (key_ne rfl) (fun _ _ => key_ne rfl)).trans ((hset_ne (key_ne rfl)).trans hihj28_0)
       have ho44 := (hf42 (6, _) (key_ne rfl) (fun _ _ => key_ne rfl)).trans ((hset_ne (key_ne rfl)).trans hihj28_1)
       have ho45 := (hf42 (11, _) (key_ne rfl) (fun _ _ => key_ne rfl)).trans ((hset_ne (key_ne rfl)).trans hihj28_2)
       have ho46 := (hf42 (63, _) (key_ne rfl) (fun _ _ => key_ne rfl)).trans (hset_self _ _ _)
       refine s_e rfl (e_faQ pl2 rfl) ?_
       refine s_store [11] (by simp) rfl rfl (e_store1 rfl ho45 rfl (sl_pcells hs41) rfl (by decide) (by kernel_rfl) (SliceAt.cell hs41) (by kernel_rfl)) trivial ?_
       refine s_end (ds := []) (by kernel_rfl) (by kernel_rfl) (hK37 _ ?_); clear hK37 K37
       refine block_norm ?_
       refine seq_norm (hK32 _ ?_); clear hK32 K32
       refine pwp_plain rfl fun K47 hK47 => ?_
       refine p_e rfl (e_adL rfl rfl) ?_
       refine p_mS rfl ?_
       refine p_end (hK47 _ ?_); clear hK47 K47
       exact loop_again ((k + 1, v38)) (by show _ < _; simp only; omega) ⟨rfl, rfl, rfl, rfl, rfl, rfl, trivial⟩ ⟨rfl, trivial⟩ (by exact ⟨by show _ + 1 ≤ _; simp only [List.length_map] at *; omega, by exact SliceAt.to (hs41.keep fun _ => (hset_ne (key_ne rfl)).trans (rfl)) (by first | exact mbs_t htn hx (by omega) hm | (simp only [List.map_append, List.map_cons, List.map_nil]; exact mbs_t htn hx (by omega) hm)), ((hset_ne (key_ne rfl)).trans ho43), ((hset_ne (key_ne rfl)).trans ho44), (hset_self _ _ _)⟩)
      ·have hb36R := hb36; try simp only [zz] at hb36
       refine pwp_skip ?_
       refine block_norm ?_
       refine seq_norm (hK32 _ ?_); clear hK32 K32
       refine pwp_plain rfl fun K48 hK48 => ?_
       refine p_e rfl (e_adL rfl rfl) ?_
       refine p_mS rfl ?_
       refine p_end (hK48 _ ?_); clear hK48 K48
       exact loop_again ((k + 1, w)) (by show _ < _; simp only; omega) ⟨rfl, rfl, rfl, rfl, rfl, rfl, trivial⟩ ⟨rfl, trivial⟩ (by exact ⟨by show _ + 1 ≤ _; simp only [List.length_map] at *; omega, by exact SliceAt.to hw (mbs_f htn hx (by omega)), hihj28_0, hihj28_1, hihj28_2⟩)
     ·have hb31R := hb31; try simp only [zz] at hb31
      have hkk : ds.length ≤ k := by simp only [List.length_map] at *; omega
      refine pwp_exit ?_
      refine exit_seq ?_
      clear hK30 K30
      refine exit_loop ?_
      refine exit_here ?_
      refine seq_norm (hK23 _ ?_); clear hK23 K23
      refine pwp_seq_plain rfl fun K49 hK49 => ?_
      refine p_e rfl (e_loadHA (n := 2) (cs := [.lit false 3 (s.nodes.map Node.enc), w]) rfl hihj28_2 (by kernel_rfl) (by kernel_rfl) (by kernel_rfl) (by exact Nat.zero_lt_one) (by decide) rfl) ?_
      refine p_store rfl (e_storeA rfl hihj28_1 rfl rfl rfl (by kernel_rfl) (by simp only [List.all_cons, List.all_nil, Bool.and_true, SliceAt.cell hw]; rfl) (by kernel_rfl)) trivial ?_
      refine p_aS rfl ?_
      refine p_end (hK49 _ ?_); clear hK49 K49
      refine pwp_ret ?_
      refine endCT rfl (hset_self _ _ _) (by kernel_rfl) (by kernel_rfl) (by kernel_rfl) rfl rfl ?_
      first
        | exact stg_oute (stgE_s (by assumption)) (by assumption)
        | exact stg_oute (stgE_p hsc (by assumption)) (by assumption)
        | exact stg_oute (stgE_6 hsc hp (by assumption)) (by decide)
        | exact stg_oute (stgE_l hsc hp hany) (by assumption)
        | exact stg_out0 (hls.symm.trans (stgE_l hsc hp hany)) hkk (hw.keep fun g => (hset_ne (key_ne rfl)).trans (rfl))

end Go.Proofs.Ytjmjiegplnfiiaa

/- The reference of stages. No conditions. -/
set_option linter.unusedSimpArgs false
set_option linter.unusedVariables false
set_option maxRecDepth 100000
namespace Go.Proofs.Ytjmjiegplnfiiaa
open Go Go.Pv
theorem take_snoc3 {α : Type} {xs ys : List α} {k : Nat} {x y : α} (ht : xs.take (k + 1) = xs.take k ++ [x]) (hty : ys.take (k + 1) = ys.take k ++ [y]) (he : xs.take k = ys.take k) (h : x = y) : xs.take (k + 1) = ys.take (k + 1) := by rw [ht, hty, he, h]
theorem same_end3 {α : Type} {xs ys : List α} {k : Nat} (hk : k = xs.length) (hl : xs.length = ys.length) (h : xs.take k = ys.take k) : xs = ys := by
 subst hk
 rw [List.take_length] at h
 rw [h, hl, List.take_length]
theorem same_bad3 {α : Type} {xs ys : List α} {k : Nat} {x y : α} (hx : xs[k]? = some x) (hy : ys[k]? = some y) (hn : ¬ x = y) : ¬ xs = ys := fun h => by subst h; rw [hx] at hy; cases hy; exact hn rfl
section
variable {s t : Scaffold} {xs : List Task} {ds : List Int}
theorem scf_no (h : ¬ s.nodes = t.nodes ∨ ¬ s.members = t.members) : false = decide (s = t) := (decide_eq_false fun e => by subst e; rcases h with h | h <;> exact h rfl).symm
theorem scf_yes (h : s.nodes = t.nodes) (h2 : s.members = t.members) : true = decide (s = t) := (decide_eq_true (by cases s; cases t; simp only at h h2; rw [h, h2])).symm
theorem stgX_e (h : stgE s xs ds ≠ 0) : stgX s xs ds = (⟨[], []⟩, stgE s xs ds) := if_pos h
theorem stgX_0 (h : stgE s xs ds = 0) : stgX s xs ds = (⟨s.nodes, mbsF s xs ds⟩, 0) := if_neg (fun q => q h)
theorem stg_e1 (h : stgE s xs ds ≠ 0) (h2 : ¬ (stgX s xs ds).2 = stgE s xs ds) : False := h2 (by rw [stgX_e h])
theorem stg_e2 (h : stgE s xs ds ≠ 0) : decide ((stgX s xs ds).1 = ⟨[], []⟩) = true := by rw [stgX_e h]; exact decide_eq_true rfl
theorem stg_01 (h : stgE s xs ds = 0) (h2 : ¬ (stgX s xs ds).2 = 0) : False := h2 (by rw [stgX_0 h])
theorem stg_02 (h : stgE s xs ds = 0) : decide ((stgX s xs ds).1 = ⟨s.nodes, mbsF s xs ds⟩) = true := by rw [stgX_0 h]; exact decide_eq_true rfl
end
theorem inn_scfF {h : Heap} {x : Scaffold} : Inn h (.agg x.encF) (.agg x.enc) := by
 refine .agg rfl fun i p q hp hq => ?_
 match i, hp, hq with
 | 0, hp, hq => cases hp; cases hq; exact .lit fun e => by cases e
 | 1, hp, hq => cases hp; cases hq; exact .lit fun e => by cases e
 | i + 2, hp, _ => simp [Scaffold.encF] at hp
theorem inn_scf0 {h : Heap} : Inn h (.agg [.nil, .nil]) (.agg (Scaffold.enc ⟨[], []⟩)) := by
 refine .agg rfl fun i p q hp hq => ?_
 match i, hp, hq with
 | 0, hp, hq => cases hp; cases hq; exact .nil true 3
 | 1, hp, hq => cases hp; cases hq; exact .nil true 3
 | i + 2, hp, _ => simp at hp
theorem scf_outv {h : Heap} {d e : Nat} {v w : PV} {ns : List Node} {ms ms2 : List Member} (hv : SliceAt h e v 3 (ns.map Node.enc)) (hw : SliceAt h d w 3 (ms.map Member.enc)) (hm : ms = ms2) : Out h (.agg [v, w]) (.agg (Scaffold.encF ⟨ns, ms2⟩)) := by
 subst hm
 exact out_agg2 (out_slice hv rfl (fun _ => rfl) node_clean) (out_slice hw rfl (fun _ => rfl) member_clean)
theorem fill_v {h : Heap} {d : Nat} {v : PV} {rows : Pv.Rows} (hv : SliceAt h d v 3 rows) : fillOk pl2 [PV.nil, PV.nil].length [(0, v)] :=
 ⟨by decide, sl_pl hv, by show 0 + (pcells v).length ≤ 2; rw [sl_pl hv]; decide, sl_pc hv, trivial⟩
theorem fill_e {h : Heap} {d : Nat} {v : PV} {rows : Pv.Rows} (hv : SliceAt h d v 3 rows) : fillCells pl2 [PV.nil, PV.nil] [(0, v)] = [v, .nil] := by
 show setAt [PV.nil, PV.nil] 0 (pcells v) = _
 rw [sl_pcells hv]; rfl

theorem fr48 : (inFrame Try.f48.ntmps (Try.f48.body.getD .skip) && Try.f48.results.toList.all (resScope Try.f48.ntmps)) = true := by kernel_rfl
theorem SameScfC (s t : Scaffold) (hs1 : s.nodes.length ≤ 1000000) (hs2 : s.members.length ≤ 1000000) : PCalls Try.prog 48 [.agg s.enc, .agg t.enc] (.bool (decide (s = t))) := by
 refine PCalls.of_code Try.func48 rfl rfl (by kernel_rfl) mixed fr48 (by show _ ≤ 59; simp) (.sc _) ?_
 refine pwp_seq_plain rfl fun K1 hK1 => ?_
 refine p_new rfl (e_box (n := 2) rfl rfl) ⟨rfl, by decide⟩ ?_
 refine p_new rfl (e_box (n := 2) rfl rfl) ⟨rfl, by decide⟩ ?_
 refine p_aS rfl ?_
 refine p_end (hK1 _ ?_); clear hK1 K1
 refine pwp_seq_seq ?_
 refine pwp_seq_gops rfl fun K2 hK2 => ?_
 refine g_begin ?_
 refine g_e rfl (e_faQ pl2 rfl) ?_
 refine g_e rfl (e_lH (v := .lit _ _ _) rfl ((hset_ne (key_ne rfl)).trans (hset_self _ _ _)) rfl) ?_
 refine g_e rfl (e_len rfl (by kernel_rfl)) ?_
 refine g_e rfl (e_faQ pl2 rfl) ?_
 refine g_e rfl (e_lH (v := .lit _ _ _) rfl (hset_self _ _ _) rfl) ?_
 refine g_e rfl (e_len rfl (by kernel_rfl)) ?_
 refine g_e rfl (e_ne rfl rfl) ?_
 refine g_mS rfl rfl ?_
 refine g_cases (fun hb3 => ?_) (fun hb3 => ?_)
 ·have hb3R := hb3; try simp only [zz] at hb3
  iterate 7 refine g_skip rfl rfl rfl ?_
  refine g_pT rfl rfl rfl ?_
  refine g_end (ds := [15, 16, 17, 18, 19, 20, 21]) rfl rfl (hK2 _ ?_); clear hK2 K2
  refine pwp_seq_cond (t := true) rfl fun K4 hK4 => ⟨fun _ => ?_, nofun⟩
  refine pwp_seq_plain rfl fun K5 hK5 => ?_
  refine p_aS rfl ?_
  refine p_end (hK5 _ ?_); clear hK5 K5
  refine pwp_ret ?_
  refine ret_seq ?_
  refine end1 (v := .sc _) rfl ?_
  first
    | exact out_b (scf_no (.inl (by first | exact same_bad3 hx hy (by assumption) | (intro q; have q2 := congrArg List.length q; simp only [List.length_map] at *; omega))))
    | exact out_b (scf_no (.inr (by first | exact same_bad3 hx hy (by assumption) | (intro q; have q2 := congrArg List.length q; simp only [List.length_map] at *; omega))))
    | exact out_b (scf_yes heE hfE)
 ·have hb3R := hb3; try simp only [zz] at hb3
  refine g_e rfl (e_faQ pl2 rfl) ?_
  refine g_e rfl (e_lH (v := .lit _ _ _) rfl ((hset_ne (key_ne rfl)).trans (hset_self _ _ _)) rfl) ?_
  refine g_e rfl (e_len rfl (by kernel_rfl)) ?_
  refine g_e rfl (e_faQ pl2 rfl) ?_
  refine g_e rfl (e_lH (v := .lit _ _ _) rfl (hset_self _ _ _) rfl) ?_
  refine g_e rfl (e_len rfl (by kernel_rfl)) ?_
  refine g_e rfl (e_ne rfl rfl) ?_
  refine g_pF rfl rfl rfl ?_
  refine g_end (ds := [15, 16, 17, 18, 19, 20, 21]) rfl rfl (hK2 _ ?_); clear hK2 K2
  refine pwp_seq_cond rfl fun K6 hK6 => ⟨fun hb7 => ?_, fun hb7 => ?_⟩
  ·have hb7R := hb7; try simp only [zz] at hb7
   refine pwp_seq_plain rfl fun K8 hK8 => ?_
   refine p_aS rfl ?_
   refine p_end (hK8 _ ?_); clear hK8 K8
   refine pwp_ret ?_
   refine ret_seq ?_
   refine end1 (v := .sc _) rfl ?_
   first
     | exact out_b (scf_no (.inl (by first | exact same_bad3 hx hy (by assumption) | (intro q; have q2 := congrArg List.length q; simp only [List.length_map] at *; omega))))
     | exact out_b (scf_no (.inr (by first | exact same_bad3 hx hy (by assumption) | (intro q; have q2 := congrArg List.length q; simp only [List.length_map] at *; omega))))
     | exact out_b (scf_yes heE hfE)
  ·have hb7R := hb7; try simp only [zz] at hb7
   refine pwp_skip ?_
   refine seq_norm (hK6 _ ?_); clear hK6 K6
   refine pwp_seq_seq ?_
   refine pwp_seq_plain rfl fun K9 hK9 => ?_
   refine p_aS rfl ?_
   refine p_end (hK9 _ ?_); clear hK9 K9
   refine pwp_seq_block fun K10 hK10 => ?_
   refine pwp_loopR (α := Nat) [2, 3] (fun (k : Nat) => [(5, .int (k))]) (fun (k : Nat) (h : Heap) (_ : Nat → Nat) => ((k) ≤ s.nodes.length) ∧ (s.nodes.take (k) = t.nodes.take (k)) ∧ (h (2, 0) = some (.rows 2 [Scaffold.enc s])) ∧ (h (3, 0) = some (.rows 2 [Scaffold.enc t]))) (fun (k : Nat) => s.nodes.length - (k)) (0) (by exact ⟨rfl, trivial⟩) (by exact ⟨by exact Nat.zero_le _, by exact rfl, ((hset_ne (key_ne rfl)).trans (hset_self _ _ _)), (hset_self _ _ _)⟩) fun k r11 h12 c13 hj14 => ?_
   obtain ⟨hk, he, hihj14_0, hihj14_1⟩ := hj14
   try dsimp only at hk
   try dsimp only at he
   try dsimp only at hihj14_0
   try dsimp only at hihj14_1
   show pwp _ _ (loopQ _ _ _) ⟨sets (mix _ _ _) [(5, .int k)], _, _⟩
   refine pwp_seq_seq ?_
   refine pwp_seq_plain rfl fun K15 hK15 => ?_
   refine p_mS rfl ?_
   refine p_e rfl (e_faQ pl2 rfl) ?_
   refine p_e rfl (e_lH (v := .lit _ _ _) rfl hihj14_0 rfl) ?_
   refine p_e rfl (e_len rfl (by kernel_rfl)) ?_
   refine p_e rfl (e_lt rfl rfl) ?_
   refine p_end (hK15 _ ?_); clear hK15 K15
   refine pwp_seq_cond rfl fun K16 hK16 => ⟨fun hb17 => ?_, fun hb17 => ?_⟩
   ·have hb17R := hb17; try simp only [zz] at hb17
    obtain ⟨x, hx, hd, ht⟩ := get_lt (xs := s.nodes) (i := k) (by omega)
    obtain ⟨y, hy, hdy, hty⟩ := get_lt (xs := t.nodes) (i := k) (by omega)
    refine pwp_skip ?_
    refine seq_norm (hK16 _ ?_); clear hK16 K16
    refine pwp_seq_block fun K18 hK18 => ?_
    refine pwp_seq_gops rfl fun K19 hK19 => ?_
    refine g_begin ?_
    refine g_e rfl (e_faQ pl2 rfl) ?_
    refine g_e rfl (e_lH (v := .lit _ _ _) rfl hihj14_0 rfl) ?_
    refine g_mS rfl rfl ?_
    refine g_e rfl (e_ixL rfl rfl) ?_
    refine g_e rfl (e_loadA (n := 3) rfl (by kernel_rfl) (by kernel_rfl) (by kernel_rfl) (by first | omega | (simp only [List.length_map]; omega)) (by decide) (by first | exact agg_map hx rfl)) ?_
    refine g_e rfl (e_faQ pl2 rfl) ?_
    refine g_e rfl (e_lH (v := .lit _ _ _) rfl hihj14_1 rfl) ?_
    refine g_mS rfl rfl ?_
    refine g_e rfl (e_ixL rfl rfl) ?_
    refine g_e rfl (e_loadA (n := 3) rfl (by kernel_rfl) (by kernel_rfl) (by kernel_rfl) (by first | omega | (simp only [List.length_map]; omega)) (by decide) (by first | exact agg_map hy rfl)) ?_
    refine g_e rfl (e_ane rfl rfl (by kernel_rfl) (eqOk_Node (x) (y)) (eqV_Node (x) (y))) ?_
    refine g_end (ds := []) (by kernel_rfl) rfl (hK19 _ ?_); clear hK19 K19
    refine pwp_cond rfl (fun hb20 => ?_) (fun hb20 => ?_)
    ·have hb20R := hb20; try simp only [zz] at hb20
     refine pwp_seq_plain rfl fun K21 hK21 => ?_
     refine p_aS rfl ?_
     refine p_end (hK21 _ ?_); clear hK21 K21
     refine pwp_ret ?_
     refine ret_block ?_
     refine ret_seq ?_
     refine ret_loop ?_
     refine ret_block ?_
     refine ret_seq ?_
     refine end1 (v := .sc _) rfl ?_
     first
       | exact out_b (scf_no (.inl (by first | exact same_bad3 hx hy (by assumption) | (intro q; have q2 := congrArg List.length q; simp only [List.length_map] at *; omega))))
       | exact out_b (scf_no (.inr (by first | exact same_bad3 hx hy (by assumption) | (intro q; have q2 := congrArg List.length q; simp only [List.length_map] at *; omega))))
       | exact out_b (scf_yes heE hfE)
    ·have hb20R := hb20; try simp only [zz] at hb20
     refine pwp_skip ?_
     refine block_norm ?_
     refine seq_norm (hK18 _ ?_); clear hK18 K18
     refine pwp_plain rfl fun K22 hK22 => ?_
     refine p_mS rfl ?_
     refine p_e rfl (e_adL rfl rfl) ?_
     refine p_aS rfl ?_
     refine p_end (hK22 _ ?_); clear hK22 K22
     exact loop_again (k + 1) (by show _ < _; omega) ⟨rfl, rfl, trivial⟩ ⟨rfl, trivial⟩ (by exact ⟨by show _ + 1 ≤ _; simp only [List.length_map] at *; omega, by exact take_snoc3 ht hty he (by assumption), hihj14_0, hihj14_1⟩)
   ·have hb17R := hb17; try simp only [zz] at hb17
    have heE := same_end3 (show k = s.nodes.length by simp only [List.length_map] at *; omega) (by simp only [List.length_map] at *; omega) he
    refine pwp_exit ?_
    refine exit_seq ?_
    clear hK16 K16
    refine exit_loop ?_
    refine exit_here ?_
    refine seq_norm (hK10 _ ?_); clear hK10 K10
    refine pwp_seq_seq ?_
    refine pwp_seq_plain rfl fun K23 hK23 => ?_
    refine p_aS rfl ?_
    refine p_end (hK23 _ ?_); clear hK23 K23
    refine pwp_seq_block fun K24 hK24 => ?_
    refine pwp_loopR (α := Nat) [2, 3] (fun (k : Nat) => [(6, .int (k))]) (fun (k : Nat) (h : Heap) (_ : Nat → Nat) => ((k) ≤ s.members.length) ∧ (s.members.take (k) = t.members.take (k)) ∧ (h (2, 0) = some (.rows 2 [Scaffold.enc s])) ∧ (h (3, 0) = some (.rows 2 [Scaffold.enc t]))) (fun (k : Nat) => s.members.length - (k)) (0) (by exact ⟨rfl, trivial⟩) (by exact ⟨by exact Nat.zero_le _, by exact rfl, hihj14_0, hihj14_1⟩) fun k r25 h26 c27 hj28 => ?_
    obtain ⟨hk, hf, hihj28_0, hihj28_1⟩ := hj28
    try dsimp only at hk
    try dsimp only at hf
    try dsimp only at hihj28_0
    try dsimp only at hihj28_1
    show pwp _ _ (loopQ _ _ _) ⟨sets (mix _ _ _) [(6, .int k)], _, _⟩
    refine pwp_seq_seq ?_
    refine pwp_seq_plain rfl fun K29 hK29 => ?_
    refine p_mS rfl ?_
    refine p_e rfl (e_faQ pl2 rfl) ?_
    refine p_e rfl (e_lH (v := .lit _ _ _) rfl hihj28_0 rfl) ?_
    refine p_e rfl (e_len rfl (by kernel_rfl)) ?_
    refine p_e rfl (e_lt rfl rfl) ?_
    refine p_end (hK29 _ ?_); clear hK29 K29
    refine pwp_seq_cond rfl fun K30 hK30 => ⟨fun hb31 => ?_, fun hb31 => ?_⟩
    ·have hb31R := hb31; try simp only [zz] at hb31
     obtain ⟨x, hx, hd, ht⟩ := get_lt (xs := s.members) (i := k) (by omega)
     obtain ⟨y, hy, hdy, hty⟩ := get_lt (xs := t.members) (i := k) (by omega)
     refine pwp_skip ?_
     refine seq_norm (hK30 _ ?_); clear hK30 K30
     refine pwp_seq_block fun K32 hK32 => ?_
     refine pwp_seq_gops rfl fun K33 hK33 => ?_
     refine g_begin ?_
     refine g_e rfl (e_faQ pl2 rfl) ?_
     refine g_e rfl (e_lH (v := .lit _ _ _) rfl hihj28_0 rfl) ?_
     refine g_mS rfl rfl ?_
     refine g_e rfl (e_ixL rfl rfl) ?_
     refine g_e rfl (e_loadA (n := 3) rfl (by kernel_rfl) (by kernel_rfl) (by kernel_rfl) (by first | omega | (simp only [List.length_map]; omega)) (by decide) (by first | exact agg_map hx rfl)) ?_
     refine g_e rfl (e_faQ pl2 rfl) ?_
     refine g_e rfl (e_lH (v := .lit _ _ _) rfl hihj28_1 rfl) ?_
     refine g_mS rfl rfl ?_
     refine g_e rfl (e_ixL rfl rfl) ?_
     refine g_e rfl (e_loadA (n := 3) rfl (by kernel_rfl) (by kernel_rfl) (by kernel_rfl) (by first | omega | (simp only [List.length_map]; omega)) (by decide) (by first | exact agg_map hy rfl)) ?_
     refine g_e rfl (e_ane rfl rfl (by kernel_rfl) (eqOk_Member (x) (y)) (eqV_Member (x) (y))) ?_
     refine g_end (ds := []) (by kernel_rfl) rfl (hK33 _ ?_); clear hK33 K33
     refine pwp_cond rfl (fun hb34 => ?_) (fun hb34 => ?_)
     ·have hb34R := hb34; try simp only [zz] at hb34
      refine pwp_seq_plain rfl fun K35 hK35 => ?_
      refine p_aS rfl ?_
      refine p_end (hK35 _ ?_); clear hK35 K35
      refine pwp_ret ?_
      refine ret_block ?_
      refine ret_seq ?_
      refine ret_loop ?_
      refine ret_block ?_
      refine ret_seq ?_
      refine end1 (v := .sc _) rfl ?_
      first
        | exact out_b (scf_no (.inl (by first | exact same_bad3 hx hy (by assumption) | (intro q; have q2 := congrArg List.length q; simp only [List.length_map] at *; omega))))
        | exact out_b (scf_no (.inr (by first | exact same_bad3 hx hy (by assumption) | (intro q; have q2 := congrArg List.length q; simp only [List.length_map] at *; omega))))
        | exact out_b (scf_yes heE hfE)
     ·have hb34R := hb34; try simp only [zz] at hb34
      refine pwp_skip ?_
      refine block_norm ?_
      refine seq_norm (hK32 _ ?_); clear hK32 K32
      refine pwp_plain rfl fun K36 hK36 => ?_
      refine p_mS rfl ?_
      refine p_e rfl (e_adL rfl rfl) ?_
      refine p_aS rfl ?_
      refine p_end (hK36 _ ?_); clear hK36 K36
      exact loop_again (k + 1) (by show _ < _; omega) ⟨rfl, rfl, trivial⟩ ⟨rfl, trivial⟩ (by exact ⟨by show _ + 1 ≤ _; simp only [List.length_map] at *; omega, by exact take_snoc3 ht hty hf (by assumption), hihj28_0, hihj28_1⟩)
    ·have hb31R := hb31; try simp only [zz] at hb31
     have hfE := same_end3 (show k = s.members.length by simp only [List.length_map] at *; omega) (by simp only [List.length_map] at *; omega) hf
     refine pwp_exit ?_
     refine exit_seq ?_
     clear hK30 K30
     refine exit_loop ?_
     refine exit_here ?_
     refine seq_norm (hK24 _ ?_); clear hK24 K24
     refine pwp_seq_plain rfl fun K37 hK37 => ?_
     refine p_aS rfl ?_
     refine p_end (hK37 _ ?_); clear hK37 K37
     refine pwp_ret ?_
     refine end1 (v := .sc _) rfl ?_
     first
       | exact out_b (scf_no (.inl (by first | exact same_bad3 hx hy (by assumption) | (intro q; have q2 := congrArg List.length q; simp only [List.length_map] at *; omega))))
       | exact out_b (scf_no (.inr (by first | exact same_bad3 hx hy (by assumption) | (intro q; have q2 := congrArg List.length q; simp only [List.length_map] at *; omega))))
       | exact out_b (scf_yes heE hfE)

theorem fr47 : (inFrame Try.f47.ntmps (Try.f47.body.getD .skip) && Try.f47.results.toList.all (resScope Try.f47.ntmps)) = true := by kernel_rfl
theorem refStageE (s : Scaffold) (xs : List Task) (ds : List Int) (hs1 : s.nodes.length ≤ 30) (hs2 : s.members.length ≤ 40) (hf : Fair xs) (hxl : xs.length ≤ 15) (hdl : ds.length ≤ 30) : PCalls Try.prog 47 [.agg s.enc, .lit true 6 (xs.map Task.enc), .lit true 1 (ds.map ci)] (.int (stgE s xs ds)) := by
 refine PCalls.of_code Try.func47 rfl rfl (by kernel_rfl) mixed fr47 (by show _ ≤ 38; simp) (.sc _) ?_
 refine pwp_seq_plain rfl fun K1 hK1 => ?_
 refine p_new rfl (e_box (n := 2) rfl rfl) ⟨rfl, by decide⟩ ?_
 refine p_aS rfl ?_
 refine p_end (hK1 _ ?_); clear hK1 K1
 refine pwp_seq_seq ?_
 refine pwp_seq_plain rfl fun K2 hK2 => ?_
 refine p_e rfl (e_loadHA (cs := Scaffold.enc (s)) (n := 2) rfl (hset_self _ _ _) (by kernel_rfl) (by kernel_rfl) (by kernel_rfl) (by exact Nat.zero_lt_one) (by decide) rfl) ?_
 refine p_call rfl (.cons (inn_agg (Scaffold.pure _)) .nil) (refScfC s (by omega) (by omega)) ?_
 refine p_aS rfl ?_
 refine p_end (hK2 _ ?_); clear hK2 K2
 refine pwp_seq_seq ?_
 refine pwp_seq_plain rfl fun K3 hK3 => ?_
 refine p_mS rfl ?_
 refine p_e rfl (e_ne rfl rfl) ?_
 refine p_end (hK3 _ ?_); clear hK3 K3
 refine pwp_seq_cond rfl fun K4 hK4 => ⟨fun hb5 => ?_, fun hb5 => ?_⟩
 ·have hb5R := hb5; try simp only [zz] at hb5
  refine pwp_seq_plain rfl fun K6 hK6 => ?_
  refine p_mS rfl ?_
  refine p_aS rfl ?_
  refine p_end (hK6 _ ?_); clear hK6 K6
  refine pwp_ret ?_
  refine ret_seq ?_
  refine end1 (v := .sc _) rfl ?_
  first
    | exact out_i (stgE_s (by assumption))
    | exact out_i (stgE_p hsc (by assumption))
    | exact out_i (stgE_6 hsc hp (big_any hx (by simp only [List.length_map] at *; omega)))
    | exact out_i (stgE_l hsc hp hany)
 ·have hb5R := hb5; try simp only [zz] at hb5
  refine pwp_skip ?_
  refine seq_norm (hK4 _ ?_); clear hK4 K4
  refine pwp_seq_seq ?_
  have hsc : scfE s = 0 := (by assumption)
  refine pwp_seq_plain rfl fun K7 hK7 => ?_
  refine p_e rfl (e_move (v := .lit _ _ _) rfl) ?_
  refine p_call rfl (.cons inn_lit .nil) (refCheckC _ (by omega) hf) ?_
  refine p_aS rfl ?_
  refine p_end (hK7 _ ?_); clear hK7 K7
  refine pwp_seq_seq ?_
  refine pwp_seq_plain rfl fun K8 hK8 => ?_
  refine p_mS rfl ?_
  refine p_e rfl (e_ne rfl rfl) ?_
  refine p_end (hK8 _ ?_); clear hK8 K8
  refine pwp_seq_cond rfl fun K9 hK9 => ⟨fun hb10 => ?_, fun hb10 => ?_⟩
  ·have hb10R := hb10; try simp only [zz] at hb10
   refine pwp_seq_plain rfl fun K11 hK11 => ?_
   refine p_mS rfl ?_
   refine p_aS rfl ?_
   refine p_end (hK11 _ ?_); clear hK11 K11
   refine pwp_ret ?_
   refine ret_seq ?_
   refine end1 (v := .sc _) rfl ?_
   first
     | exact out_i (stgE_s (by assumption))
     | exact out_i (stgE_p hsc (by assumption))
     | exact out_i (stgE_6 hsc hp (big_any hx (by simp only [List.length_map] at *; omega)))
     | exact out_i (stgE_l hsc hp hany)
  ·have hb10R := hb10; try simp only [zz] at hb10
   refine pwp_skip ?_
   refine seq_norm (hK9 _ ?_); clear hK9 K9
   refine pwp_seq_seq ?_
   refine pwp_seq_plain rfl fun K12 hK12 => ?_
   refine p_aS rfl ?_
   refine p_end (hK12 _ ?_); clear hK12 K12
   refine pwp_seq_block fun K13 hK13 => ?_
   refine pwp_loopR (α := Nat) [1, 2, 3] (fun (k : Nat) => [(9, .int (k))]) (fun (k : Nat) (h : Heap) (_ : Nat → Nat) => ((k) ≤ xs.length) ∧ (∀ i, i < (k) → ∀ y, xs[i]? = some y → bigB s y = false) ∧ (h (3, 0) = some (.rows 2 [Scaffold.enc s]))) (fun (k : Nat) => xs.length - (k)) (0) (by exact ⟨rfl, trivial⟩) (by exact ⟨by exact Nat.zero_le _, by exact nx_0, (hset_self _ _ _)⟩) fun k r14 h15 c16 hj17 => ?_
   obtain ⟨hk, hin, hihj17_0⟩ := hj17
   try dsimp only at hk
   try dsimp only at hin
   try dsimp only at hihj17_0
   show pwp _ _ (loopQ _ _ _) ⟨sets (mix _ _ _) [(9, .int k)], _, _⟩
   refine pwp_seq_seq ?_
   have hp : planE xs = 0 := (by assumption)
   refine pwp_seq_plain rfl fun K18 hK18 => ?_
   refine p_mS rfl ?_
   refine p_e rfl (e_move (v := .lit _ _ _) rfl) ?_
   refine p_e rfl (e_len rfl (by kernel_rfl)) ?_
   refine p_e rfl (e_lt rfl rfl) ?_
   refine p_end (hK18 _ ?_); clear hK18 K18
   refine pwp_seq_cond rfl fun K19 hK19 => ⟨fun hb20 => ?_, fun hb20 => ?_⟩
   ·have hb20R := hb20; try simp only [zz] at hb20
    obtain ⟨x, hx, hd, ht⟩ := get_lt (xs := xs) (i := k) (by omega)
    refine pwp_skip ?_
    refine seq_norm (hK19 _ ?_); clear hK19 K19
    refine pwp_seq_block fun K21 hK21 => ?_
    refine pwp_seq_gops rfl fun K22 hK22 => ?_
    refine g_begin ?_
    refine g_e rfl (e_move (v := .lit _ _ _) rfl) ?_
    refine g_mS rfl rfl ?_
    refine g_e rfl (e_ixL rfl rfl) ?_
    refine g_e rfl (e_fb pl6 rfl) ?_
    refine g_e rfl (e_load (v := .sc _) rfl (by kernel_rfl) (by kernel_rfl) (by kernel_rfl) (by first | omega | (simp only [List.length_map]; omega)) (by decide) ((cell_map hx _).trans rfl)) ?_
    refine g_e rfl (e_faQ pl2 rfl) ?_
    refine g_e rfl (e_lH (v := .lit _ _ _) rfl hihj17_0 rfl) ?_
    refine g_e rfl (e_len rfl (by kernel_rfl)) ?_
    refine g_e rfl (e_ge rfl rfl) ?_
    refine g_end (ds := []) (by kernel_rfl) rfl (hK22 _ ?_); clear hK22 K22
    refine pwp_cond rfl (fun hb23 => ?_) (fun hb23 => ?_)
    ·have hb23R := hb23; try simp only [zz] at hb23
     refine pwp_seq_plain rfl fun K24 hK24 => ?_
     refine p_aS rfl ?_
     refine p_end (hK24 _ ?_); clear hK24 K24
     refine pwp_ret ?_
     refine ret_block ?_
     refine ret_seq ?_
     refine ret_loop ?_
     refine ret_block ?_
     refine ret_seq ?_
     refine end1 (v := .sc _) rfl ?_
     first
       | exact out_i (stgE_s (by assumption))
       | exact out_i (stgE_p hsc (by assumption))
       | exact out_i (stgE_6 hsc hp (big_any hx (by simp only [List.length_map] at *; omega)))
       | exact out_i (stgE_l hsc hp hany)
    ·have hb23R := hb23; try simp only [zz] at hb23
     refine pwp_skip ?_
     refine block_norm ?_
     refine seq_norm (hK21 _ ?_); clear hK21 K21
     refine pwp_plain rfl fun K25 hK25 => ?_
     refine p_mS rfl ?_
     refine p_e rfl (e_adL rfl rfl) ?_
     refine p_aS rfl ?_
     refine p_end (hK25 _ ?_); clear hK25 K25
     exact loop_again (k + 1) (by show _ < _; omega) ⟨rfl, rfl, rfl, trivial⟩ ⟨rfl, trivial⟩ (by exact ⟨by show _ + 1 ≤ _; simp only [List.length_map] at *; omega, by exact nx_step (K := bigB s) hin hx (decide_eq_false (by simp only [List.length_map] at *; omega)), hihj17_0⟩)
   ·have hb20R := hb20; try simp only [zz] at hb20
    have hany := big_none hin (by simp only [List.length_map] at *; omega)
    refine pwp_exit ?_
    refine exit_seq ?_
    clear hK19 K19
    refine exit_loop ?_
    refine exit_here ?_
    refine seq_norm (hK13 _ ?_); clear hK13 K13
    refine pwp_seq_plain rfl fun K26 hK26 => ?_
    refine p_e rfl (e_move (v := .lit _ _ _) rfl) ?_
    refine p_e rfl (e_move (v := .lit _ _ _) rfl) ?_
    refine p_call rfl (.cons inn_lit (.cons inn_lit .nil)) (refListC _ _ hxl hdl) ?_
    refine p_aS rfl ?_
    refine p_end (hK26 _ ?_); clear hK26 K26
    refine pwp_ret ?_
    refine end1 (v := .sc _) rfl ?_
    first
      | exact out_i (stgE_s (by assumption))
      | exact out_i (stgE_p hsc (by assumption))
      | exact out_i (stgE_6 hsc hp (big_any hx (by simp only [List.length_map] at *; omega)))
      | exact out_i (stgE_l hsc hp hany)

theorem fr49 : (inFrame Try.f49.ntmps (Try.f49.body.getD .skip) && Try.f49.results.toList.all (resScope Try.f49.ntmps)) = true := by kernel_rfl
theorem refStageC (s : Scaffold) (xs : List Task) (ds : List Int) (hs1 : s.nodes.length ≤ 30) (hs2 : s.members.length ≤ 40) (hf : Fair xs) (hxl : xs.length ≤ 15) (hdl : ds.length ≤ 30) (hany : xs.any (bigB s) = false) (hdr : ∀ z ∈ ds, 0 ≤ z ∧ z < (xs.length : Int)) : PCalls Try.prog 49 [.agg s.enc, .lit true 6 (xs.map Task.enc), .lit true 1 (ds.map ci)] (.agg (Scaffold.encF ⟨s.nodes, mbsF s xs ds⟩)) := by
 refine PCalls.of_code Try.func49 rfl rfl (by kernel_rfl) mixed fr49 (by show _ ≤ 42; simp) (.agg _ (Scaffold.pureF _)) ?_
 refine pwp_seq_plain rfl fun K1 hK1 => ?_
 refine p_new rfl (e_box (n := 2) rfl rfl) ⟨rfl, by decide⟩ ?_
 refine p_new rfl (e_alloc (cs := [.nil, .nil]) (n := 2) (by kernel_rfl) rfl (by decide)) (ob_alloc (by decide)) ?_
 refine p_end (hK1 _ ?_); clear hK1 K1
 refine pwp_seq_plain rfl fun K2 hK2 => ?_
 refine p_new rfl (e_bslice (rows := []) (zs := [.int 0, .int 0, .int 0]) (sz := 3) (by kernel_rfl) (by kernel_rfl) rfl (by kernel_rfl) (by decide) rfl rfl (by exact trivial) rfl) trivial ?_
 refine p_e rfl (e_faQ pl2 rfl) ?_
 refine p_e rfl (e_lH (v := .lit _ _ _) rfl ((hset_ne (key_ne rfl)).trans ((hset_ne (key_ne rfl)).trans (hset_self _ _ _))) rfl) ?_
 refine p_app rfl rfl rfl (.ofRef (hset_self _ _ _) rfl) src_lit (by kernel_rfl) (by simp only [List.length_map, List.length_nil]; omega) fun v13 h13 c13 hs13 hf13 => ?_
 replace hs13 : SliceAt h13 13 v13 3 (s.nodes.map Node.enc) := hs13.to (by rw [List.nil_append])
 have ho3 := (hf13 (3, 0) (key_ne rfl) (fun _ _ => key_ne rfl)).trans ((hset_ne (key_ne rfl)).trans ((hset_ne (key_ne rfl)).trans (hset_self _ _ _)))
 have ho6 := (hf13 (6, 0) (key_ne rfl) (fun _ _ => key_ne rfl)).trans ((hset_ne (key_ne rfl)).trans (hset_self _ _ _))
 refine p_e rfl (e_build (cs := [v13, .nil]) (zs := [.nil, .nil]) (pl := pl2) (by kernel_rfl) (by kernel_rfl) (by kernel_rfl) rfl rfl (fill_v hs13) (fill_e hs13)) ?_
 refine p_new rfl (e_alloc (cs := [.nil, .nil]) (n := 2) (by kernel_rfl) rfl (by decide)) (ob_alloc (by decide)) ?_
 refine p_store rfl (e_storeA rfl (hset_self _ _ _) rfl rfl rfl (by kernel_rfl) (by simp only [List.all_cons, List.all_nil, Bool.and_true, SliceAt.cell hs13]; rfl) (by kernel_rfl)) trivial ?_
 refine p_end (hK2 _ ?_); clear hK2 K2
 refine pwp_seq_seq ?_
 refine pwp_seq_plain rfl fun K3 hK3 => ?_
 refine p_aS rfl ?_
 refine p_end (hK3 _ ?_); clear hK3 K3
 refine pwp_seq_block fun K4 hK4 => ?_
 refine pwp_loopR (α := Nat × PV) [1, 2, 3, 6, 7] (fun (a5 : Nat × PV) => [(8, .int (a5.1))]) (fun (a5 : Nat × PV) (h : Heap) (_ : Nat → Nat) => ((a5.1) ≤ ds.length) ∧ (SliceAt h 39 (a5.2) 3 ((mbsF s xs (ds.take (a5.1))).map Member.enc)) ∧ (SliceAt h 13 v13 3 (s.nodes.map Node.enc)) ∧ (h (3, 0) = some (.rows 2 [Scaffold.enc s])) ∧ (h (6, 0) = some (.rows 2 [[.nil, .nil]])) ∧ (h (7, c13 7) = some (.rows 2 [[v13, (a5.2)]]))) (fun (a5 : Nat × PV) => ds.length - (a5.1)) (0, .nil) (by exact ⟨rfl, trivial⟩) (by exact ⟨by exact Nat.zero_le _, by exact .nil, (hs13.keep fun _ => (hset_ne (key_ne rfl)).trans ((hset_ne (key_ne rfl)).trans (rfl))), ((hset_ne (key_ne rfl)).trans ((hset_ne (key_ne rfl)).trans ho3)), ((hset_ne (key_ne rfl)).trans ((hset_ne (key_ne rfl)).trans ho6)), (hset_self _ _ _)⟩) fun a5 r6 h7 c8 hj9 => ?_
 obtain ⟨k, w⟩ := a5
 obtain ⟨hk, hw, hihj9_0, hihj9_1, hihj9_2, hihj9_3⟩ := hj9
 try dsimp only at hk
 try dsimp only at hw
 try dsimp only at hihj9_0
 try dsimp only at hihj9_1
 try dsimp only at hihj9_2
 try dsimp only at hihj9_3
 show pwp _ _ (loopQ _ _ _) ⟨sets (mix _ _ _) [(8, .int k)], _, _⟩
 refine pwp_seq_seq ?_
 refine pwp_seq_plain rfl fun K10 hK10 => ?_
 refine p_mS rfl ?_
 refine p_e rfl (e_move (v := .lit _ _ _) rfl) ?_
 refine p_e rfl (e_len rfl (by kernel_rfl)) ?_
 refine p_e rfl (e_lt rfl rfl) ?_
 refine p_end (hK10 _ ?_); clear hK10 K10
 refine pwp_seq_cond rfl fun K11 hK11 => ⟨fun hb12 => ?_, fun hb12 => ?_⟩
 ·have hb12R := hb12; try simp only [zz] at hb12
  obtain ⟨n, hn, hdn, htn⟩ := get_lt (xs := ds) (i := k) (by omega)
  have hnr := hdr n (List.mem_of_getElem? hn)
  obtain ⟨x, hx, _, _⟩ := get_lt (xs := xs) (i := n.toNat) (by omega)
  have hxb := big_at hany hx
  have hml := mbs_len (s := s) (xs := xs) (ds := ds.take k)
  rw [List.length_take] at hml
  refine pwp_skip ?_
  refine seq_norm (hK11 _ ?_); clear hK11 K11
  refine pwp_seq_block fun K13 hK13 => ?_
  refine pwp_seq_plain rfl fun K14 hK14 => ?_
  refine p_e rfl (e_move (v := .lit _ _ _) rfl) ?_
  refine p_e rfl (e_move (v := .lit _ _ _) rfl) ?_
  refine p_mS rfl ?_
  refine p_e rfl (e_ixL rfl rfl) ?_
  refine p_e rfl (e_load (v := .sc _) rfl (by kernel_rfl) (by kernel_rfl) (by kernel_rfl) (by first | omega | (simp only [List.length_map]; omega)) (by decide) ((cell_map hn _).trans rfl)) ?_
  refine p_e rfl (e_ixL rfl rfl) ?_
  refine p_e rfl (e_fb pl6 rfl) ?_
  refine p_e rfl (e_load (v := .sc _) rfl (by kernel_rfl) (by kernel_rfl) (by kernel_rfl) (by first | omega | (simp only [List.length_map]; omega)) (by decide) ((cell_map hx _).trans rfl)) ?_
  refine p_aS rfl ?_
  refine p_end (hK14 _ ?_); clear hK14 K14
  refine pwp_seq_plain rfl fun K15 hK15 => ?_
  refine p_mS rfl ?_
  refine p_e rfl (e_ge rfl rfl) ?_
  refine p_end (hK15 _ ?_); clear hK15 K15
  refine pwp_cond rfl (fun hb16 => ?_) (fun hb16 => ?_)
  ·have hb16R := hb16; try simp only [zz] at hb16
   obtain ⟨m, hm, _, _⟩ := get_lt (xs := s.members) (i := x.member.toNat) (by omega)
   refine pwp_gops rfl fun K17 hK17 => ?_
   refine s_begin ?_
   refine s_e rfl (e_faQ pl2 rfl) ?_
   refine s_step [7] (by simp) rfl rfl rfl rfl (e_lH (v := w) rfl hihj9_3 rfl) trivial ?_
   refine s_e rfl (e_faQ pl2 rfl) ?_
   refine s_step [3] (by simp) rfl rfl rfl rfl (e_lH (v := .lit _ _ _) rfl hihj9_1 rfl) trivial ?_
   refine s_e rfl (e_move (v := .sc _) rfl) ?_
   refine s_e rfl (e_ixL rfl rfl) ?_
   refine s_e rfl (e_loadA (n := 3) rfl (by kernel_rfl) (by kernel_rfl) (by kernel_rfl) (by first | omega | (simp only [List.length_map]; omega)) (by decide) (by first | exact agg_map hm rfl)) ?_
   refine s_new [] (by simp) rfl rfl rfl rfl (e_bslice (rows := [Member.enc m]) (zs := [.int 0, .int 0, .int 0]) (sz := 3) (by kernel_rfl) (by kernel_rfl) rfl (by kernel_rfl) (by decide) rfl rfl (by exact ⟨by decide, rfl, rfl, trivial⟩) rfl) trivial ?_
   refine s_app [39, 38] [39, 39] (by simp) (by simp) (by simp) rfl rfl rfl (hw.keep fun _ => (hset_ne (key_ne rfl)).trans (rfl)) (SrcAt.ref (hset_self _ _ _) rfl) rfl (by kernel_rfl) (by simp only [List.length_append, List.length_map, List.length_nil, List.length_cons]; omega) fun v18 h19 c20 hs21 hf22 => ?_
   have ho23 := (hf22 (3, _) (key_ne rfl) (fun _ _ => key_ne rfl)).trans ((hset_ne (key_ne rfl)).trans hihj9_1)
   have ho24 := (hf22 (6, _) (key_ne rfl) (fun _ _ => key_ne rfl)).trans ((hset_ne (key_ne rfl)).trans hihj9_2)
   have ho25 := (hf22 (7, _) (key_ne rfl) (fun _ _ => key_ne rfl)).trans ((hset_ne (key_ne rfl)).trans hihj9_3)
   have ho26 := (hf22 (38, _) (key_ne rfl) (fun _ _ => key_ne rfl)).trans (hset_self _ _ _)
   have hs27 := ((hihj9_0.keep fun _ => (hset_ne (key_ne rfl)).trans (rfl))).keep fun g => (hf22 (13, g) (key_ne rfl) (fun _ _ => key_ne rfl))
   refine s_e rfl (e_faQ pl2 rfl) ?_
   refine s_store [7] (by simp) rfl rfl (e_store1 rfl ho25 rfl (sl_pcells hs21) rfl (by decide) (by kernel_rfl) (SliceAt.cell hs21) (by kernel_rfl)) trivial ?_
   refine s_end (ds := []) (by kernel_rfl) (by kernel_rfl) (hK17 _ ?_); clear hK17 K17
   refine block_norm ?_
   refine seq_norm (hK13 _ ?_); clear hK13 K13
   refine pwp_plain rfl fun K28 hK28 => ?_
   refine p_mS rfl ?_
   refine p_e rfl (e_adL rfl rfl) ?_
   refine p_aS rfl ?_
   refine p_end (hK28 _ ?_); clear hK28 K28
   exact loop_again ((k + 1, v18)) (by show _ < _; simp only; omega) ⟨rfl, rfl, rfl, rfl, rfl, trivial⟩ ⟨rfl, trivial⟩ (by exact ⟨by show _ + 1 ≤ _; simp only [List.length_map] at *; omega, by exact SliceAt.to (hs21.keep fun _ => (hset_ne (key_ne rfl)).trans (rfl)) (by first | exact mbs_t htn hx (by omega) hm | (simp only [List.map_append, List.map_cons, List.map_nil]; exact mbs_t htn hx (by omega) hm)), (hs27.keep fun _ => (hset_ne (key_ne rfl)).trans (rfl)), ((hset_ne (key_ne rfl)).trans ho23), ((hset_ne (key_ne rfl)).trans ho24), (hset_self _ _ _)⟩)
  ·have hb16R := hb16; try simp only [zz] at hb16
   refine pwp_skip ?_
   refine block_norm ?_
   refine seq_norm (hK13 _ ?_); clear hK13 K13
   refine pwp_plain rfl fun K29 hK29 => ?_
   refine p_mS rfl ?_
   refine p_e rfl (e_adL rfl rfl) ?_
   refine p_aS rfl ?_
   refine p_end (hK29 _ ?_); clear hK29 K29
   exact loop_again ((k + 1, w)) (by show _ < _; simp only; omega) ⟨rfl, rfl, rfl, rfl, rfl, trivial⟩ ⟨rfl, trivial⟩ (by exact ⟨by show _ + 1 ≤ _; simp only [List.length_map] at *; omega, by exact SliceAt.to hw (mbs_f htn hx (by omega)), hihj9_0, hihj9_1, hihj9_2, hihj9_3⟩)
 ·have hb12R := hb12; try simp only [zz] at hb12
  have hkk : ds.length ≤ k := by simp only [List.length_map] at *; omega
  refine pwp_exit ?_
  refine exit_seq ?_
  clear hK11 K11
  refine exit_loop ?_
  refine exit_here ?_
  refine seq_norm (hK4 _ ?_); clear hK4 K4
  refine pwp_seq_plain rfl fun K30 hK30 => ?_
  refine p_e rfl (e_loadHA (n := 2) (cs := [v13, w]) rfl hihj9_3 (by kernel_rfl) (by kernel_rfl) (by kernel_rfl) (by exact Nat.zero_lt_one) (by decide) rfl) ?_
  refine p_store rfl (e_storeA rfl hihj9_2 rfl rfl rfl (by kernel_rfl) (by simp only [List.all_cons, List.all_nil, Bool.and_true, SliceAt.cell hw, SliceAt.cell hihj9_0]) (by kernel_rfl)) trivial ?_
  refine p_end (hK30 _ ?_); clear hK30 K30
  refine pwp_ret ?_
  refine endC rfl (hset_self _ _ _) (by kernel_rfl) (by kernel_rfl) (by kernel_rfl) rfl ?_
  exact scf_outv (hihj9_0.keep fun _ => (hset_ne (key_ne rfl)).trans (rfl)) (hw.keep fun g => (hset_ne (key_ne rfl)).trans (rfl)) (by rw [List.take_of_length_le hkk])

end Go.Proofs.Ytjmjiegplnfiiaa

/- ErectionStage at P level. No conditions. -/
set_option linter.unusedSimpArgs false
set_option linter.unusedVariables false
set_option maxRecDepth 100000
namespace Go.Proofs.Ytjmjiegplnfiiaa
open Go Go.Pv
def smlB (s : Scaffold) : Bool := decide (s.nodes.length ≤ 30 ∧ s.members.length ≤ 40)
theorem sml_iff {s : Scaffold} : smlB s = true ↔ s.nodes.length ≤ 30 ∧ s.members.length ≤ 40 := by rw [smlB, decide_eq_true_eq]
theorem stgE_any {s : Scaffold} {xs : List Task} {ds : List Int} (h : stgE s xs ds = 0) : xs.any (bigB s) = false ∧ ∀ z ∈ ds, 0 ≤ z ∧ z < (xs.length : Int) := by
 by_cases h1 : scfE s = 0
 · by_cases h2 : planE xs = 0
   · cases h3 : xs.any (bigB s) with
     | true => rw [← stgE_6 h1 h2 h3] at h; cases h
     | false => rw [← stgE_l h1 h2 h3] at h; exact ⟨rfl, (listE_ok h).1⟩
   · rw [← stgE_p h1 h2] at h; exact absurd h h2
 · rw [← stgE_s h1] at h; exact absurd h h1
theorem stgX_len {s : Scaffold} {xs : List Task} {ds : List Int} (h1 : s.nodes.length ≤ 30) (h2 : ds.length ≤ 30) : (stgX s xs ds).1.nodes.length ≤ 1000000 ∧ (stgX s xs ds).1.members.length ≤ 1000000 := by
 have := mbs_len (s := s) (xs := xs) (ds := ds)
 by_cases h : stgE s xs ds = 0
 · rw [stgX_0 h]; dsimp only; omega
 · rw [stgX_e h]; simp

theorem fr45 : (inFrame Try.f45.ntmps (Try.f45.body.getD .skip) && Try.f45.results.toList.all (resScope Try.f45.ntmps)) = true := by kernel_rfl
theorem SmallScf (s : Scaffold) (hs1 : s.nodes.length ≤ 9223372036854775807) (hs2 : s.members.length ≤ 9223372036854775807) : PCalls Try.prog 45 [.agg s.enc] (.bool (smlB s)) := by
 refine PCalls.of_code Try.func45 rfl rfl (by kernel_rfl) mixed fr45 (by show _ ≤ 13; simp) (.sc _) ?_
 refine pwp_seq_plain rfl fun K1 hK1 => ?_
 refine p_new rfl (e_box (n := 2) rfl rfl) ⟨rfl, by decide⟩ ?_
 refine p_aS rfl ?_
 refine p_end (hK1 _ ?_); clear hK1 K1
 refine pwp_seq_gops rfl fun K2 hK2 => ?_
 refine g_begin ?_
 refine g_e rfl (e_faQ pl2 rfl) ?_
 refine g_e rfl (e_lH (v := .lit _ _ _) rfl (hset_self _ _ _) rfl) ?_
 refine g_e rfl (e_len rfl (by kernel_rfl)) ?_
 refine g_e rfl (e_le rfl rfl) ?_
 refine g_mS rfl rfl ?_
 refine g_cases (fun hb3 => ?_) (fun hb3 => ?_)
 ·have hb3R := hb3; try simp only [zz] at hb3
  refine g_e rfl (e_faQ pl2 rfl) ?_
  refine g_e rfl (e_lH (v := .lit _ _ _) rfl (hset_self _ _ _) rfl) ?_
  refine g_e rfl (e_len rfl (by kernel_rfl)) ?_
  refine g_e rfl (e_le rfl rfl) ?_
  refine g_pT rfl rfl rfl ?_
  refine g_aS rfl rfl ?_
  refine g_end (ds := [8, 9, 10, 11]) rfl rfl (hK2 _ ?_); clear hK2 K2
  refine pwp_ret ?_
  refine end1 (v := .sc _) rfl ?_
  exact out_b (by first | (rw [smlB]; exact (decide_eq_false (by simp only [List.length_map] at *; omega)).symm) | (rw [smlB, Bool.eq_iff_iff]; simp only [decide_eq_true_eq, List.length_map] at *; omega))
 ·have hb3R := hb3; try simp only [zz] at hb3
  iterate 4 refine g_skip rfl rfl rfl ?_
  refine g_pF rfl rfl rfl ?_
  refine g_aS rfl rfl ?_
  refine g_end (ds := [8, 9, 10, 11]) rfl rfl (hK2 _ ?_); clear hK2 K2
  refine pwp_ret ?_
  refine end1 (v := .sc _) rfl ?_
  exact out_b (by first | (rw [smlB]; exact (decide_eq_false (by simp only [List.length_map] at *; omega)).symm) | (rw [smlB, Bool.eq_iff_iff]; simp only [decide_eq_true_eq, List.length_map] at *; omega))

theorem fr10 : (inFrame Try.f10.ntmps (Try.f10.body.getD .skip) && Try.f10.results.toList.all (resScope Try.f10.ntmps)) = true := by kernel_rfl
theorem hStage (s : Scaffold) (xs : List Task) (ds : List Int) (hs1 : s.nodes.length ≤ 9223372036854775807) (hs2 : s.members.length ≤ 9223372036854775807) (hl : xs.length ≤ 9223372036854775807) (hdl : ds.length ≤ 9223372036854775807) : PCalls Try.prog 10 [.agg s.enc, .lit true 6 (xs.map Task.enc), .lit true 1 (ds.map ci)] (.bool true) := by
 refine PCalls.of_code Try.func10 rfl rfl (by kernel_rfl) mixed fr10 (by show _ ≤ 56; simp) (.sc _) ?_
 refine pwp_seq_plain rfl fun K1 hK1 => ?_
 refine p_new rfl (e_box (n := 2) rfl rfl) ⟨rfl, by decide⟩ ?_
 refine p_aS rfl ?_
 refine p_end (hK1 _ ?_); clear hK1 K1
 refine pwp_seq_seq ?_
 refine pwp_seq_plain rfl fun K2 hK2 => ?_
 refine p_call rfl .nil (awake) ?_
 refine p_e rfl (e_not rfl) ?_
 refine p_end (hK2 _ ?_); clear hK2 K2
 refine pwp_seq_cond (t := false) rfl fun K3 hK3 => ⟨nofun, fun _ => ?_⟩
 refine pwp_skip ?_
 refine seq_norm (hK3 _ ?_); clear hK3 K3
 refine pwp_seq_seq ?_
 refine pwp_seq_gops rfl fun K4 hK4 => ?_
 refine g_begin ?_
 refine g_e rfl (e_loadHA (n := 2) rfl (hset_self _ _ _) (by kernel_rfl) (by kernel_rfl) (by kernel_rfl) (by exact Nat.zero_lt_one) (by decide) rfl) ?_
 refine g_call rfl rfl rfl rfl (.cons (inn_agg (Scaffold.pure _)) .nil) (SmallScf s hs1 hs2) ?_
 refine g_e rfl (e_not rfl) ?_
 refine g_mS rfl rfl ?_
 refine g_cases (fun hb5 => ?_) (fun hb5 => ?_)
 ·have hb5R := hb5; try simp only [zz] at hb5
  refine g_skip rfl rfl rfl ?_
  refine g_nocall rfl rfl rfl ?_
  refine g_skip rfl rfl rfl ?_
  refine g_pT rfl rfl rfl ?_
  refine g_mS rfl rfl ?_
  iterate 3 refine g_skip rfl rfl rfl ?_
  refine g_pT rfl rfl rfl ?_
  refine g_end (ds := [16, 17, 18, 21, 22, 23]) rfl rfl (hK4 _ ?_); clear hK4 K4
  refine pwp_seq_cond (t := true) rfl fun K6 hK6 => ⟨fun _ => ?_, nofun⟩
  refine pwp_seq_plain rfl fun K7 hK7 => ?_
  refine p_aS rfl ?_
  refine p_end (hK7 _ ?_); clear hK7 K7
  refine pwp_ret ?_
  refine ret_seq ?_
  refine end1 (v := .sc _) rfl ?_
  first
    | exact out_b rfl
    | exact (stg_e1 he (by assumption)).elim
    | exact out_b (stg_e2 he)
    | exact (stg_01 he (by assumption)).elim
    | exact out_b (stg_02 he)
 ·have hb5R := hb5; try simp only [zz] at hb5
  refine g_e rfl (e_move (v := .lit _ _ _) rfl) ?_
  refine g_call rfl rfl rfl rfl (.cons inn_lit (.cons inn_sc .nil)) (FewC _ _ (by omega)) ?_
  refine g_e rfl (e_not rfl) ?_
  refine g_pF rfl rfl rfl ?_
  refine g_mS rfl rfl ?_
  refine g_cases (fun hb8 => ?_) (fun hb8 => ?_)
  ·have hb8R := hb8; try simp only [zz] at hb8
   iterate 3 refine g_skip rfl rfl rfl ?_
   refine g_pT rfl rfl rfl ?_
   refine g_end (ds := [16, 17, 18, 21, 22, 23]) rfl rfl (hK4 _ ?_); clear hK4 K4
   refine pwp_seq_cond (t := true) rfl fun K9 hK9 => ⟨fun _ => ?_, nofun⟩
   refine pwp_seq_plain rfl fun K10 hK10 => ?_
   refine p_aS rfl ?_
   refine p_end (hK10 _ ?_); clear hK10 K10
   refine pwp_ret ?_
   refine ret_seq ?_
   refine end1 (v := .sc _) rfl ?_
   first
     | exact out_b rfl
     | exact (stg_e1 he (by assumption)).elim
     | exact out_b (stg_e2 he)
     | exact (stg_01 he (by assumption)).elim
     | exact out_b (stg_02 he)
  ·have hb8R := hb8; try simp only [zz] at hb8
   refine g_e rfl (e_move (v := .lit _ _ _) rfl) ?_
   refine g_e rfl (e_len rfl (by kernel_rfl)) ?_
   refine g_e rfl (e_gt rfl rfl) ?_
   refine g_pF rfl rfl rfl ?_
   refine g_end (ds := [16, 17, 18, 21, 22, 23]) rfl rfl (hK4 _ ?_); clear hK4 K4
   refine pwp_seq_cond rfl fun K11 hK11 => ⟨fun hb12 => ?_, fun hb12 => ?_⟩
   ·have hb12R := hb12; try simp only [zz] at hb12
    refine pwp_seq_plain rfl fun K13 hK13 => ?_
    refine p_aS rfl ?_
    refine p_end (hK13 _ ?_); clear hK13 K13
    refine pwp_ret ?_
    refine ret_seq ?_
    refine end1 (v := .sc _) rfl ?_
    first
      | exact out_b rfl
      | exact (stg_e1 he (by assumption)).elim
      | exact out_b (stg_e2 he)
      | exact (stg_01 he (by assumption)).elim
      | exact out_b (stg_02 he)
   ·have hb12R := hb12; try simp only [zz] at hb12
    refine pwp_skip ?_
    refine seq_norm (hK11 _ ?_); clear hK11 K11
    have hsm := sml_iff.1 (by assumption)
    have hfw := few_fair (by assumption)
    have hdl2 : ds.length ≤ 30 := by simp only [List.length_map] at *; omega
    refine pwp_seq_plain rfl fun K14 hK14 => ?_
    refine p_e rfl (e_loadHA (n := 2) rfl (hset_self _ _ _) (by kernel_rfl) (by kernel_rfl) (by kernel_rfl) (by exact Nat.zero_lt_one) (by decide) rfl) ?_
    refine p_e rfl (e_move (v := .lit _ _ _) rfl) ?_
    refine p_e rfl (e_move (v := .lit _ _ _) rfl) ?_
    refine p_call rfl (.cons (inn_agg (Scaffold.pure _)) (.cons inn_lit (.cons inn_lit .nil))) (StageC s xs ds hsm.1 hsm.2 hfw.2 (by omega) (by omega)) ?_
    refine p_e rfl (e_move (v := .tup _) rfl) ?_
    refine p_e rfl (e_ext (v := .agg _) rfl (by simp) rfl) ?_
    refine p_e rfl (e_ext (v := .sc _) rfl (by simp) rfl) ?_
    refine p_new rfl (e_alloc (cs := [.nil, .nil]) (n := 2) (by kernel_rfl) rfl (by decide)) (ob_alloc (by decide)) ?_
    refine p_store rfl (e_storeA rfl (hset_self _ _ _) rfl rfl rfl (by kernel_rfl) rfl (by kernel_rfl)) trivial ?_
    refine p_aS rfl ?_
    refine p_end (hK14 _ ?_); clear hK14 K14
    refine pwp_seq_seq ?_
    refine pwp_seq_plain rfl fun K15 hK15 => ?_
    refine p_e rfl (e_loadHA (n := 2) rfl ((hset_ne (key_ne rfl)).trans ((hset_ne (key_ne rfl)).trans (hset_self _ _ _))) (by kernel_rfl) (by kernel_rfl) (by kernel_rfl) (by exact Nat.zero_lt_one) (by decide) rfl) ?_
    refine p_e rfl (e_move (v := .lit _ _ _) rfl) ?_
    refine p_e rfl (e_move (v := .lit _ _ _) rfl) ?_
    refine p_call rfl (.cons (inn_agg (Scaffold.pure _)) (.cons inn_lit (.cons inn_lit .nil))) (refStageE s xs ds hsm.1 hsm.2 hfw.2 (by omega) (by omega)) ?_
    refine p_aS rfl ?_
    refine p_end (hK15 _ ?_); clear hK15 K15
    refine pwp_seq_seq ?_
    refine pwp_seq_plain rfl fun K16 hK16 => ?_
    refine p_mS rfl ?_
    refine p_e rfl (e_ne rfl rfl) ?_
    refine p_end (hK16 _ ?_); clear hK16 K16
    refine pwp_seq_cond rfl fun K17 hK17 => ⟨fun hb18 => ?_, fun hb18 => ?_⟩
    ·have hb18R := hb18; try simp only [zz] at hb18
     have he : stgE s xs ds ≠ 0 := (by assumption)
     refine pwp_seq_gops rfl fun K19 hK19 => ?_
     refine g_begin ?_
     refine g_mS rfl rfl ?_
     refine g_mS rfl rfl ?_
     refine g_e rfl (e_eq rfl rfl) ?_
     refine g_mS rfl rfl ?_
     refine g_cases (fun hb20 => ?_) (fun hb20 => ?_)
     ·have hb20R := hb20; try simp only [zz] at hb20
      refine g_e rfl (e_loadHA (n := 2) (cs := (stgX s xs ds).1.encF) rfl (hset_self _ _ _) (by kernel_rfl) (by kernel_rfl) (by kernel_rfl) (by exact Nat.zero_lt_one) (by decide) rfl) ?_
      refine g_e rfl (e_build (zs := [.nil, .nil]) (pl := pl2) (by kernel_rfl) (by kernel_rfl) (by kernel_rfl) rfl rfl (by exact trivial) rfl) ?_
      refine g_call rfl rfl rfl rfl (.cons inn_scfF (.cons inn_scf0 .nil)) (SameScfC _ _ (stgX_len hsm.1 (by omega)).1 (stgX_len hsm.1 (by omega)).2) ?_
      refine g_pT rfl rfl rfl ?_
      refine g_aS rfl rfl ?_
      refine g_end (ds := [42, 43, 44]) rfl rfl (hK19 _ ?_); clear hK19 K19
      refine pwp_ret ?_
      refine ret_seq ?_
      refine end1 (v := .sc _) rfl ?_
      first
        | exact out_b rfl
        | exact (stg_e1 he (by assumption)).elim
        | exact out_b (stg_e2 he)
        | exact (stg_01 he (by assumption)).elim
        | exact out_b (stg_02 he)
     ·have hb20R := hb20; try simp only [zz] at hb20
      iterate 2 refine g_skip rfl rfl rfl ?_
      refine g_nocall rfl rfl rfl ?_
      refine g_pF rfl rfl rfl ?_
      refine g_aS rfl rfl ?_
      refine g_end (ds := [42, 43, 44]) rfl rfl (hK19 _ ?_); clear hK19 K19
      refine pwp_ret ?_
      refine ret_seq ?_
      refine end1 (v := .sc _) rfl ?_
      first
        | exact out_b rfl
        | exact (stg_e1 he (by assumption)).elim
        | exact out_b (stg_e2 he)
        | exact (stg_01 he (by assumption)).elim
        | exact out_b (stg_02 he)
    ·have hb18R := hb18; try simp only [zz] at hb18
     refine pwp_skip ?_
     refine seq_norm (hK17 _ ?_); clear hK17 K17
     have he : stgE s xs ds = 0 := (by assumption)
     refine pwp_seq_gops rfl fun K21 hK21 => ?_
     refine g_begin ?_
     refine g_mS rfl rfl ?_
     refine g_e rfl (e_eq rfl rfl) ?_
     refine g_mS rfl rfl ?_
     refine g_cases (fun hb22 => ?_) (fun hb22 => ?_)
     ·have hb22R := hb22; try simp only [zz] at hb22
      refine g_e rfl (e_loadHA (n := 2) (cs := (stgX s xs ds).1.encF) rfl (hset_self _ _ _) (by kernel_rfl) (by kernel_rfl) (by kernel_rfl) (by exact Nat.zero_lt_one) (by decide) rfl) ?_
      refine g_e rfl (e_loadHA (n := 2) rfl ((hset_ne (key_ne rfl)).trans ((hset_ne (key_ne rfl)).trans (hset_self _ _ _))) (by kernel_rfl) (by kernel_rfl) (by kernel_rfl) (by exact Nat.zero_lt_one) (by decide) rfl) ?_
      refine g_e rfl (e_move (v := .lit _ _ _) rfl) ?_
      refine g_e rfl (e_move (v := .lit _ _ _) rfl) ?_
      refine g_call rfl rfl rfl rfl (.cons (inn_agg (Scaffold.pure _)) (.cons inn_lit (.cons inn_lit .nil))) (refStageC s xs ds hsm.1 hsm.2 hfw.2 (by omega) (by omega) (stgE_any he).1 (stgE_any he).2) ?_
      refine g_call rfl rfl rfl rfl (.cons inn_scfF (.cons inn_scfF .nil)) (SameScfC _ _ (stgX_len hsm.1 (by omega)).1 (stgX_len hsm.1 (by omega)).2) ?_
      refine g_pT rfl rfl rfl ?_
      refine g_aS rfl rfl ?_
      refine g_end (ds := [49, 50, 51, 52, 53, 54]) (by kernel_rfl) rfl (hK21 _ ?_); clear hK21 K21
      refine pwp_ret ?_
      refine end1 (v := .sc _) rfl ?_
      first
        | exact out_b rfl
        | exact (stg_e1 he (by assumption)).elim
        | exact out_b (stg_e2 he)
        | exact (stg_01 he (by assumption)).elim
        | exact out_b (stg_02 he)
     ·have hb22R := hb22; try simp only [zz] at hb22
      iterate 4 refine g_skip rfl rfl rfl ?_
      refine g_nocall rfl rfl rfl ?_
      refine g_nocall rfl rfl rfl ?_
      refine g_pF rfl rfl rfl ?_
      refine g_aS rfl rfl ?_
      refine g_end (ds := [49, 50, 51, 52, 53, 54]) (by kernel_rfl) rfl (hK21 _ ?_); clear hK21 K21
      refine pwp_ret ?_
      refine end1 (v := .sc _) rfl ?_
      first
        | exact out_b rfl
        | exact (stg_e1 he (by assumption)).elim
        | exact out_b (stg_e2 he)
        | exact (stg_01 he (by assumption)).elim
        | exact out_b (stg_02 he)

end Go.Proofs.Ytjmjiegplnfiiaa
