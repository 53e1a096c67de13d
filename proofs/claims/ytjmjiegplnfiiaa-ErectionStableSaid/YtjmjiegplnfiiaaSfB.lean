import Derived.Test.YtjmjiegplnfiiaaSfA
import Derived.Test.YtjmjiegplnfiiaaStgA
import Derived.Test.YtjmjiegplnfiiaaShB
/- A scaffold is read. No conditions. -/
set_option linter.unusedSimpArgs false
set_option linter.unusedVariables false
set_option maxRecDepth 100000
namespace Go.Proofs.Ytjmjiegplnfiiaa
open Go Go.Pv
theorem frH119 : (inFrame Try.f119.ntmps (Try.f119.body.getD .skip) && Try.f119.results.toList.all (resScope Try.f119.ntmps)) = true := by kernel_rfl
theorem readH (h0 : Heap) (c0 : Nat → Nat) (s : Scaffold) (hs1 : s.nodes.length ≤ 1000000) (hs2 : s.members.length ≤ 1000000) : HCallsR Try.prog 119 [.agg s.enc] h0 c0 (fun v _ _ => ReadR s v) := by
 refine HCallsR.of_code Try.func119 rfl rfl (by kernel_rfl) mixed frH119 (by show _ ≤ 97; simp) (pwp_seq_plain rfl fun K1 hK1 => p_new rfl (e_box (n := 2) rfl rfl) ⟨rfl, by decide⟩ (p_new rfl (e_alloc (cs := [.nil, .nil, .sc (.map none)]) (n := 3) (by kernel_rfl) rfl (by decide)) (ob_alloc (by decide)) (p_aS rfl (p_end (hK1 _ ?_))))); clear hK1 K1
 refine pwp_seq_plain rfl fun K2 hK2 => p_e rfl (e_loadHA (cs := Scaffold.enc (s)) (n := 2) rfl ((hset_ne (key_ne rfl)).trans (hset_self _ _ _)) (by kernel_rfl) (by kernel_rfl) (by kernel_rfl) (by exact Nat.zero_lt_one) (by decide) rfl) (p_new rfl (e_mkmap) trivial (p_e rfl (e_build (zs := [.nil, .nil, .sc (.map none)]) (pl := [(0, 2, true), (2, 1, false)]) (by kernel_rfl) (by kernel_rfl) (by kernel_rfl) rfl rfl (by exact ⟨by decide, rfl, Nat.le_of_ble_eq_true rfl, rfl, ⟨by decide, rfl, Nat.le_of_ble_eq_true rfl, rfl, trivial⟩⟩) rfl) (p_new rfl (e_alloc (cs := [.nil, .nil, .sc (.map none)]) (n := 3) (by kernel_rfl) rfl (by decide)) (ob_alloc (by decide)) (p_store rfl (e_storeA rfl (hset_self _ _ _) rfl rfl rfl (by kernel_rfl) rfl (by kernel_rfl)) trivial (p_end (hK2 _ ?_)))))); clear hK2 K2
 refine pwp_seq_seq (pwp_seq_gops rfl fun K3 hK3 => g_begin (g_e rfl (e_faQ pl2 rfl) (g_e rfl (e_lH (v := .lit _ _ _) rfl ((hset_ne (key_ne rfl)).trans ((hset_ne (key_ne rfl)).trans ((hset_ne (key_ne rfl)).trans ((hset_ne (key_ne rfl)).trans (hset_self _ _ _))))) rfl) (g_e rfl (e_len rfl (by kernel_rfl)) (g_e rfl (e_gt rfl rfl) (g_mS rfl rfl ?_))))))
 refine g_cases (fun hb4 => ?_) (fun hb4 => ?_)
 ·have hb4R := hb4; try simp only [zz] at hb4
  iterate 4 refine g_skip rfl rfl rfl ?_
  refine g_pT rfl rfl rfl (g_end (ds := [21, 22, 23, 24]) rfl rfl (hK3 _ ?_)); clear hK3 K3
  refine pwp_seq_cond (t := true) rfl fun K5 hK5 => ⟨fun _ => ?_, nofun⟩
  refine pwp_seq_plain rfl fun K6 hK6 => p_e rfl (e_loadHA (n := 3) rfl (hset_self _ _ _) (by kernel_rfl) (by kernel_rfl) (by kernel_rfl) (by exact Nat.zero_lt_one) (by decide) rfl) (p_store rfl (e_storeA rfl ((hset_ne (key_ne rfl)).trans ((hset_ne (key_ne rfl)).trans ((hset_ne (key_ne rfl)).trans (hset_self _ _ _)))) rfl rfl rfl (by kernel_rfl) rfl (by kernel_rfl)) trivial (p_aS rfl (p_end (hK6 _ ?_)))); clear hK6 K6
  refine pwp_ret (ret_seq (endCT rfl (hset_self _ _ _) (by kernel_rfl) (by kernel_rfl) (by kernel_rfl) rfl rfl ?_))
  first
    | exact readR_of (scfE_8 (by omega))
    | exact readR_of (scfE_n hsz (frs_hit hinv hd (nodE_2 (by assumption)) (by decide)) (by decide))
    | exact readR_of (scfE_n hsz (frs_hit hinv hd (nodE_5 (by assumption) (of_decide_eq_true ((hnd n).symm.trans (by assumption)))) (by decide)) (by decide))
    | exact readR_of (scfE_m hsz hN (frs_hit hinv2 hd (memE_2 (by assumption)) (by decide)))
    | exact readR_of (scfE_m hsz hN (frs_hit hinv2 hd (memE_6 hm1 (by omega)) (by decide)))
    | exact readR_of (scfE_m hsz hN (frs_hit hinv2 hd (memE_3 hm1 hm2 (by assumption)) (by decide)))
    | exact readR_of (scfE_m hsz hN (frs_hit hinv2 hd (memE_5 hm1 hm2 (by assumption) (of_decide_eq_true ((hmb0 m).symm.trans (by assumption)))) (by decide)))
    | exact readR_of (scfE_m hsz hN hM.symm)
 ·have hb4R := hb4; try simp only [zz] at hb4
  refine g_e rfl (e_faQ pl2 rfl) (g_e rfl (e_lH (v := .lit _ _ _) rfl ((hset_ne (key_ne rfl)).trans ((hset_ne (key_ne rfl)).trans ((hset_ne (key_ne rfl)).trans ((hset_ne (key_ne rfl)).trans (hset_self _ _ _))))) rfl) (g_e rfl (e_len rfl (by kernel_rfl)) (g_e rfl (e_gt rfl rfl) (g_pF rfl rfl rfl (g_end (ds := [21, 22, 23, 24]) rfl rfl (hK3 _ ?_)))))); clear hK3 K3
  refine pwp_seq_cond rfl fun K7 hK7 => ⟨fun hb8 => ?_, fun hb8 => ?_⟩
  ·have hb8R := hb8; try simp only [zz] at hb8
   refine pwp_seq_plain rfl fun K9 hK9 => p_e rfl (e_loadHA (n := 3) rfl (hset_self _ _ _) (by kernel_rfl) (by kernel_rfl) (by kernel_rfl) (by exact Nat.zero_lt_one) (by decide) rfl) (p_store rfl (e_storeA rfl ((hset_ne (key_ne rfl)).trans ((hset_ne (key_ne rfl)).trans ((hset_ne (key_ne rfl)).trans (hset_self _ _ _)))) rfl rfl rfl (by kernel_rfl) rfl (by kernel_rfl)) trivial (p_aS rfl (p_end (hK9 _ ?_)))); clear hK9 K9
   refine pwp_ret (ret_seq (endCT rfl (hset_self _ _ _) (by kernel_rfl) (by kernel_rfl) (by kernel_rfl) rfl rfl ?_))
   first
     | exact readR_of (scfE_8 (by omega))
     | exact readR_of (scfE_n hsz (frs_hit hinv hd (nodE_2 (by assumption)) (by decide)) (by decide))
     | exact readR_of (scfE_n hsz (frs_hit hinv hd (nodE_5 (by assumption) (of_decide_eq_true ((hnd n).symm.trans (by assumption)))) (by decide)) (by decide))
     | exact readR_of (scfE_m hsz hN (frs_hit hinv2 hd (memE_2 (by assumption)) (by decide)))
     | exact readR_of (scfE_m hsz hN (frs_hit hinv2 hd (memE_6 hm1 (by omega)) (by decide)))
     | exact readR_of (scfE_m hsz hN (frs_hit hinv2 hd (memE_3 hm1 hm2 (by assumption)) (by decide)))
     | exact readR_of (scfE_m hsz hN (frs_hit hinv2 hd (memE_5 hm1 hm2 (by assumption) (of_decide_eq_true ((hmb0 m).symm.trans (by assumption)))) (by decide)))
     | exact readR_of (scfE_m hsz hN hM.symm)
  ·have hb8R := hb8; try simp only [zz] at hb8
   refine pwp_skip (seq_norm (hK7 _ ?_)); clear hK7 K7
   refine pwp_seq_seq ?_
   have hsz : ¬ (1000 < s.nodes.length ∨ 4000 < s.members.length) := by simp only [List.length_map] at *; omega
   refine pwp_seq_plain rfl fun K10 hK10 => p_e rfl (e_faQ pl2 rfl) (p_e rfl (e_lH (v := .lit _ _ _) rfl ((hset_ne (key_ne rfl)).trans ((hset_ne (key_ne rfl)).trans ((hset_ne (key_ne rfl)).trans ((hset_ne (key_ne rfl)).trans (hset_self _ _ _))))) rfl) (p_e rfl (e_len rfl (by kernel_rfl)) (p_mS rfl (p_end (hK10 _ ?_))))); clear hK10 K10
   refine pwp_seq_block fun K11 hK11 => pwp_loopR (α := Nat × (List (Node × Int))) [1, 2, 4, 28, 29] (fun (a12 : Nat × (List (Node × Int))) => [(30, .int (a12.1))]) (fun (a12 : Nat × (List (Node × Int))) (h : Heap) (_ : Nat → Nat) => ((a12.1) ≤ s.nodes.length) ∧ (frsF (nodE s.nodes) 0 s.nodes = frsF (nodE s.nodes) (a12.1) (s.nodes.drop (a12.1))) ∧ (NdI s.nodes (a12.1) (a12.2)) ∧ (h (1, c0 1) = some (.rows 2 [Scaffold.enc s])) ∧ (h (2, c0 2) = some (.rows 3 [[.nil, .nil, .sc (.map none)]])) ∧ (h (4, c0 4) = some (.rows 3 [[.lit true 3 (s.nodes.map Node.enc), .lit true 3 (s.members.map Member.enc), .map (14, c0 14)]])) ∧ (MapAt h (14, c0 14) (entsOf kn PV.int (a12.2)))) (fun (a12 : Nat × (List (Node × Int))) => s.nodes.length - (a12.1)) (0, []) (by exact ⟨rfl, trivial⟩) (by exact ⟨by exact Nat.zero_le _, by exact rfl, by exact NdI.nil, ((hset_ne (key_ne rfl)).trans ((hset_ne (key_ne rfl)).trans ((hset_ne (key_ne rfl)).trans ((hset_ne (key_ne rfl)).trans (hset_self _ _ _))))), ((hset_ne (key_ne rfl)).trans ((hset_ne (key_ne rfl)).trans ((hset_ne (key_ne rfl)).trans (hset_self _ _ _)))), (hset_self _ _ _), (MapAt.keep MapAt.new ((hset_ne (key_ne rfl)).trans ((hset_ne (key_ne rfl)).trans (rfl))))⟩) fun a12 r13 h14 c15 hj16 => ?_
   obtain ⟨k, mp⟩ := a12
   obtain ⟨hk, hinv, hnd, hihj16_0, hihj16_1, hihj16_2, hihj16_3⟩ := hj16
   try dsimp only at hk
   try dsimp only at hinv
   try dsimp only at hnd
   try dsimp only at hihj16_0
   try dsimp only at hihj16_1
   try dsimp only at hihj16_2
   try dsimp only at hihj16_3
   show pwp _ _ (loopQ _ _ _) ⟨sets (mix _ _ _) [(30, .int k)], _, _⟩
   refine pwp_seq_plain rfl fun K17 hK17 => p_e rfl (e_lt rfl rfl) (p_end (hK17 _ ?_)); clear hK17 K17
   refine pwp_seq_cond rfl fun K18 hK18 => ⟨fun hb19 => ?_, fun hb19 => ?_⟩
   ·have hb19R := hb19; try simp only [zz] at hb19
    obtain ⟨n, hx, hd, ht⟩ := get_lt (xs := s.nodes) (i := k) (by omega)
    refine pwp_skip (seq_norm (hK18 _ ?_)); clear hK18 K18
    refine pwp_seq_block fun K20 hK20 => pwp_seq_plain rfl fun K21 hK21 => p_mS rfl (p_e rfl (e_ixL rfl rfl) (p_e rfl (e_loadA (n := 3) rfl (by kernel_rfl) (by kernel_rfl) (by kernel_rfl) (by first | omega | (simp only [List.length_map]; omega)) (by decide) (by first | exact agg_map hx rfl)) (p_new rfl (e_alloc (cs := [.int 0, .int 0, .int 0]) (n := 3) (by kernel_rfl) rfl (by decide)) (ob_alloc (by decide)) (p_aS rfl (p_store rfl (e_storeA rfl (hset_self _ _ _) rfl rfl rfl (by kernel_rfl) rfl (by kernel_rfl)) trivial ?_)))))
    refine p_end (hK21 _ ?_); clear hK21 K21
    refine pwp_seq_seq (pwp_seq_plain rfl fun K22 hK22 => p_e rfl (e_loadHA (cs := Node.enc (n)) (n := 3) rfl (hset_self _ _ _) (by kernel_rfl) (by kernel_rfl) (by kernel_rfl) (by exact Nat.zero_lt_one) (by decide) rfl) (p_call rfl (.cons (inn_agg (Node.pure _)) .nil) (inSpaceC _) (p_e rfl (e_not rfl) (p_end (hK22 _ ?_))))); clear hK22 K22
    refine pwp_seq_cond rfl fun K23 hK23 => ⟨fun hb24 => ?_, fun hb24 => ?_⟩
    ·have hb24R := hb24; try simp only [zz] at hb24
     refine pwp_seq_plain rfl fun K25 hK25 => p_e rfl (e_loadHA (n := 3) rfl ((hset_ne (key_ne rfl)).trans ((hset_ne (key_ne rfl)).trans hihj16_2)) (by kernel_rfl) (by kernel_rfl) (by kernel_rfl) (by exact Nat.zero_lt_one) (by decide) rfl) (p_store rfl (e_storeA rfl ((hset_ne (key_ne rfl)).trans ((hset_ne (key_ne rfl)).trans hihj16_1)) rfl rfl rfl (by kernel_rfl) rfl (by kernel_rfl)) trivial (p_aS rfl (p_end (hK25 _ ?_)))); clear hK25 K25
     refine pwp_ret (ret_seq (ret_block (ret_seq (ret_loop (ret_block (ret_seq (endCT rfl (hset_self _ _ _) (by kernel_rfl) (by kernel_rfl) (by kernel_rfl) rfl rfl ?_)))))))
     first
       | exact readR_of (scfE_8 (by omega))
       | exact readR_of (scfE_n hsz (frs_hit hinv hd (nodE_2 (by assumption)) (by decide)) (by decide))
       | exact readR_of (scfE_n hsz (frs_hit hinv hd (nodE_5 (by assumption) (of_decide_eq_true ((hnd n).symm.trans (by assumption)))) (by decide)) (by decide))
       | exact readR_of (scfE_m hsz hN (frs_hit hinv2 hd (memE_2 (by assumption)) (by decide)))
       | exact readR_of (scfE_m hsz hN (frs_hit hinv2 hd (memE_6 hm1 (by omega)) (by decide)))
       | exact readR_of (scfE_m hsz hN (frs_hit hinv2 hd (memE_3 hm1 hm2 (by assumption)) (by decide)))
       | exact readR_of (scfE_m hsz hN (frs_hit hinv2 hd (memE_5 hm1 hm2 (by assumption) (of_decide_eq_true ((hmb0 m).symm.trans (by assumption)))) (by decide)))
       | exact readR_of (scfE_m hsz hN hM.symm)
    ·have hb24R := hb24; try simp only [zz] at hb24
     refine pwp_skip (seq_norm (hK23 _ ?_)); clear hK23 K23
     refine pwp_seq_seq (pwp_seq_plain rfl fun K26 hK26 => p_e rfl (e_faQ [(0, 2, true), (2, 1, false)] rfl) (p_e rfl (e_lH (v := .map _) rfl ((hset_ne (key_ne rfl)).trans ((hset_ne (key_ne rfl)).trans hihj16_2)) rfl) (p_e rfl (e_loadHA (cs := Node.enc (n)) (n := 3) rfl (hset_self _ _ _) (by kernel_rfl) (by kernel_rfl) (by kernel_rfl) (by exact Nat.zero_lt_one) (by decide) rfl) (p_e rfl (e_lookOk (kt := 144) (et := 3) (f := kn) (g := PV.int) (a := n) (l := mp) (z := 0) kn_eq kn_ok rfl rfl (MapAt.keep hihj16_3 ((hset_ne (key_ne rfl)).trans ((hset_ne (key_ne rfl)).trans (rfl)))) (by kernel_rfl) (by kernel_rfl) (by first | rfl | kernel_rfl)) (p_e rfl (e_move (v := .tup _) rfl) (p_e rfl (e_ext (v := .sc _) rfl (by simp) rfl) ?_))))))
     refine p_e rfl (e_ext (v := .sc _) rfl (by simp) rfl) (p_aS rfl (p_aS rfl (p_end (hK26 _ ?_)))); clear hK26 K26
     refine pwp_seq_seq (pwp_seq_plain rfl fun K27 hK27 => p_mS rfl (p_end (hK27 _ ?_))); clear hK27 K27
     refine pwp_seq_cond rfl fun K28 hK28 => ⟨fun hb29 => ?_, fun hb29 => ?_⟩
     ·have hb29R := hb29; try simp only [zz] at hb29
      refine pwp_seq_plain rfl fun K30 hK30 => p_e rfl (e_loadHA (n := 3) rfl ((hset_ne (key_ne rfl)).trans ((hset_ne (key_ne rfl)).trans hihj16_2)) (by kernel_rfl) (by kernel_rfl) (by kernel_rfl) (by exact Nat.zero_lt_one) (by decide) rfl) (p_store rfl (e_storeA rfl ((hset_ne (key_ne rfl)).trans ((hset_ne (key_ne rfl)).trans hihj16_1)) rfl rfl rfl (by kernel_rfl) rfl (by kernel_rfl)) trivial (p_aS rfl (p_end (hK30 _ ?_)))); clear hK30 K30
      refine pwp_ret (ret_seq (ret_block (ret_seq (ret_loop (ret_block (ret_seq (endCT rfl (hset_self _ _ _) (by kernel_rfl) (by kernel_rfl) (by kernel_rfl) rfl rfl ?_)))))))
      first
        | exact readR_of (scfE_8 (by omega))
        | exact readR_of (scfE_n hsz (frs_hit hinv hd (nodE_2 (by assumption)) (by decide)) (by decide))
        | exact readR_of (scfE_n hsz (frs_hit hinv hd (nodE_5 (by assumption) (of_decide_eq_true ((hnd n).symm.trans (by assumption)))) (by decide)) (by decide))
        | exact readR_of (scfE_m hsz hN (frs_hit hinv2 hd (memE_2 (by assumption)) (by decide)))
        | exact readR_of (scfE_m hsz hN (frs_hit hinv2 hd (memE_6 hm1 (by omega)) (by decide)))
        | exact readR_of (scfE_m hsz hN (frs_hit hinv2 hd (memE_3 hm1 hm2 (by assumption)) (by decide)))
        | exact readR_of (scfE_m hsz hN (frs_hit hinv2 hd (memE_5 hm1 hm2 (by assumption) (of_decide_eq_true ((hmb0 m).symm.trans (by assumption)))) (by decide)))
        | exact readR_of (scfE_m hsz hN hM.symm)
     ·have hb29R := hb29; try simp only [zz] at hb29
      refine pwp_skip (seq_norm (hK28 _ ?_)); clear hK28 K28
      refine pwp_plain rfl fun K31 hK31 => p_e rfl (e_faQ [(0, 2, true), (2, 1, false)] rfl) (p_e rfl (e_lH (v := .map _) rfl ((hset_ne (key_ne rfl)).trans ((hset_ne (key_ne rfl)).trans hihj16_2)) rfl) (p_e rfl (e_loadHA (cs := Node.enc (n)) (n := 3) rfl (hset_self _ _ _) (by kernel_rfl) (by kernel_rfl) (by kernel_rfl) (by exact Nat.zero_lt_one) (by decide) rfl) (p_mS rfl (p_store rfl (e_mset (kt := 144) (et := 3) (f := kn) (g := PV.int) (a := n) (b := (k : Int)) (l := mp) kn_eq kn_ok rfl rfl rfl rfl (MapAt.keep hihj16_3 ((hset_ne (key_ne rfl)).trans ((hset_ne (key_ne rfl)).trans (rfl)))) (by kernel_rfl)) trivial (p_end (hK31 _ ?_)))))); clear hK31 K31
      refine block_norm (seq_norm (hK20 _ ?_)); clear hK20 K20
      refine pwp_plain rfl fun K32 hK32 => p_e rfl (e_adL rfl rfl) (p_mS rfl (p_end (hK32 _ ?_))); clear hK32 K32
      exact loop_again ((k + 1, aSet n (k : Int) mp)) (by show _ < _; simp only; omega) ⟨rfl, rfl, rfl, rfl, rfl, trivial⟩ ⟨rfl, trivial⟩ (by exact ⟨by show _ + 1 ≤ _; simp only [List.length_map] at *; omega, by exact frs_go hinv hd (nodE_0 (by assumption) (of_decide_eq_false ((hnd n).symm.trans (by assumption)))), by exact hnd.step ht, ((hset_ne (key_ne rfl)).trans ((hset_ne (key_ne rfl)).trans ((hset_ne (key_ne rfl)).trans hihj16_0))), ((hset_ne (key_ne rfl)).trans ((hset_ne (key_ne rfl)).trans ((hset_ne (key_ne rfl)).trans hihj16_1))), ((hset_ne (key_ne rfl)).trans ((hset_ne (key_ne rfl)).trans ((hset_ne (key_ne rfl)).trans hihj16_2))), (MapAt.set kn_eq (MapAt.keep hihj16_3 ((hset_ne (key_ne rfl)).trans ((hset_ne (key_ne rfl)).trans (rfl)))) n (k : Int))⟩)
   ·have hb19R := hb19; try simp only [zz] at hb19
    have hN := frs_end hinv (by simp only [List.length_map] at *; omega)
    have hmp := hnd.all (by simp only [List.length_map] at *; omega)
    refine pwp_exit (exit_seq ?_)
    clear hK18 K18
    refine exit_loop (exit_here (seq_norm (hK11 _ ?_))); clear hK11 K11
    refine pwp_seq_plain rfl fun K33 hK33 => p_e rfl (e_mkf rfl) (p_e rfl (e_assign (v := .func _ _ _) rfl) (p_end (hK33 _ ?_))); clear hK33 K33
    refine pwp_seq_plain rfl fun K34 hK34 => p_new rfl (e_mkmap) trivial (p_e rfl (e_assign (v := .map _) rfl) (p_end (hK34 _ ?_))); clear hK34 K34
    refine pwp_seq_seq (pwp_seq_plain rfl fun K35 hK35 => p_e rfl (e_faQ pl2 rfl) (p_e rfl (e_lH (v := .lit _ _ _) rfl ((hset_ne (key_ne rfl)).trans hihj16_0) rfl) (p_e rfl (e_len rfl (by kernel_rfl)) (p_mS rfl (p_end (hK35 _ ?_)))))); clear hK35 K35
    refine pwp_seq_block fun K36 hK36 => pwp_loopR (α := Nat × (List (Member × Bool))) [2, 4, 9, 10, 56, 57] (fun (a37 : Nat × (List (Member × Bool))) => [(58, .int (a37.1))]) (fun (a37 : Nat × (List (Member × Bool))) (h : Heap) (_ : Nat → Nat) => ((a37.1) ≤ s.members.length) ∧ (frsF (memE s) 0 s.members = frsF (memE s) (a37.1) (s.members.drop (a37.1))) ∧ (MbI s.members (a37.1) (a37.2)) ∧ (h (2, c0 2) = some (.rows 3 [[.nil, .nil, .sc (.map none)]])) ∧ (h (4, c0 4) = some (.rows 3 [[.lit true 3 (s.nodes.map Node.enc), .lit true 3 (s.members.map Member.enc), .map (14, c0 14)]])) ∧ (h (1, c0 1) = some (.rows 2 [Scaffold.enc s])) ∧ (MapAt h (54, c15 54) (entsOf kmb PV.bool (a37.2))) ∧ (MapAt h (14, c0 14) (entsOf kn PV.int mp))) (fun (a37 : Nat × (List (Member × Bool))) => s.members.length - (a37.1)) (0, []) (by exact ⟨rfl, trivial⟩) (by exact ⟨by exact Nat.zero_le _, by exact rfl, by exact MbI.nil, ((hset_ne (key_ne rfl)).trans hihj16_1), ((hset_ne (key_ne rfl)).trans hihj16_2), ((hset_ne (key_ne rfl)).trans hihj16_0), MapAt.new, (MapAt.keep hihj16_3 ((hset_ne (key_ne rfl)).trans (rfl)))⟩) fun a37 r38 h39 c40 hj41 => ?_
    obtain ⟨k, mm⟩ := a37
    obtain ⟨hk, hinv2, hmb0, hihj41_0, hihj41_1, hihj41_2, hihj41_3, hihj41_4⟩ := hj41
    try dsimp only at hk
    try dsimp only at hinv2
    try dsimp only at hmb0
    try dsimp only at hihj41_0
    try dsimp only at hihj41_1
    try dsimp only at hihj41_2
    try dsimp only at hihj41_3
    try dsimp only at hihj41_4
    show pwp _ _ (loopQ _ _ _) ⟨sets (mix _ _ _) [(58, .int k)], _, _⟩
    refine pwp_seq_plain rfl fun K42 hK42 => p_e rfl (e_lt rfl rfl) (p_end (hK42 _ ?_)); clear hK42 K42
    refine pwp_seq_cond rfl fun K43 hK43 => ⟨fun hb44 => ?_, fun hb44 => ?_⟩
    ·have hb44R := hb44; try simp only [zz] at hb44
     obtain ⟨m, hx, hd, ht⟩ := get_lt (xs := s.members) (i := k) (by omega)
     refine pwp_skip (seq_norm (hK43 _ ?_)); clear hK43 K43
     refine pwp_seq_block fun K45 hK45 => pwp_seq_plain rfl fun K46 hK46 => p_e rfl (e_ixL rfl rfl) (p_e rfl (e_loadA (n := 3) rfl (by kernel_rfl) (by kernel_rfl) (by kernel_rfl) (by first | omega | (simp only [List.length_map]; omega)) (by decide) (by first | exact agg_map hx rfl)) (p_new rfl (e_alloc (cs := [.int 0, .int 0, .int 0]) (n := 3) (by kernel_rfl) rfl (by decide)) (ob_alloc (by decide)) (p_store rfl (e_storeA rfl (hset_self _ _ _) rfl rfl rfl (by kernel_rfl) rfl (by kernel_rfl)) trivial (p_end (hK46 _ ?_))))); clear hK46 K46
     refine pwp_seq_block fun K47 hK47 => pwp_seq_plain rfl fun K48 hK48 => p_e rfl (e_faQ pl3 rfl) (p_e rfl (e_lH (v := .sc _) rfl (hset_self _ _ _) rfl) (p_call rfl (.cons inn_sc (.cons inn_sc .nil)) (withinP _ _) (p_e rfl (e_not rfl) (p_aS rfl (p_end (hK48 _ ?_)))))); clear hK48 K48
     refine pwp_cond rfl (fun hb49 => ?_) (fun hb49 => ?_)
     ·have hb49R := hb49; try simp only [zz] at hb49
      refine pwp_seq_plain rfl fun K50 hK50 => p_e rfl (e_loadHA (n := 3) rfl ((hset_ne (key_ne rfl)).trans ((hset_ne (key_ne rfl)).trans hihj41_1)) (by kernel_rfl) (by kernel_rfl) (by kernel_rfl) (by exact Nat.zero_lt_one) (by decide) rfl) (p_store rfl (e_storeA rfl ((hset_ne (key_ne rfl)).trans ((hset_ne (key_ne rfl)).trans hihj41_0)) rfl rfl rfl (by kernel_rfl) rfl (by kernel_rfl)) trivial (p_aS rfl (p_end (hK50 _ ?_)))); clear hK50 K50
      refine pwp_ret (ret_block (ret_seq (ret_block (ret_seq (ret_loop (ret_block (ret_seq ?_)))))))
      refine endCT rfl (hset_self _ _ _) (by kernel_rfl) (by kernel_rfl) (by kernel_rfl) rfl rfl ?_
      first
        | exact readR_of (scfE_8 (by omega))
        | exact readR_of (scfE_n hsz (frs_hit hinv hd (nodE_2 (by assumption)) (by decide)) (by decide))
        | exact readR_of (scfE_n hsz (frs_hit hinv hd (nodE_5 (by assumption) (of_decide_eq_true ((hnd n).symm.trans (by assumption)))) (by decide)) (by decide))
        | exact readR_of (scfE_m hsz hN (frs_hit hinv2 hd (memE_2 (by assumption)) (by decide)))
        | exact readR_of (scfE_m hsz hN (frs_hit hinv2 hd (memE_6 hm1 (by omega)) (by decide)))
        | exact readR_of (scfE_m hsz hN (frs_hit hinv2 hd (memE_3 hm1 hm2 (by assumption)) (by decide)))
        | exact readR_of (scfE_m hsz hN (frs_hit hinv2 hd (memE_5 hm1 hm2 (by assumption) (of_decide_eq_true ((hmb0 m).symm.trans (by assumption)))) (by decide)))
        | exact readR_of (scfE_m hsz hN hM.symm)
     ·have hb49R := hb49; try simp only [zz] at hb49
      have hm1 : 0 ≤ m.kind ∧ m.kind ≤ 9 := (by assumption)
      refine pwp_seq_gops rfl fun K51 hK51 => g_begin (g_e rfl (e_move (v := .func _ _ _) rfl) (g_e rfl (e_faQ pl3 rfl) (g_e rfl (e_lH (v := .sc _) rfl (hset_self _ _ _) rfl) (g_call rfl rfl rfl rfl (.cons inn_sc (.cons (.base (inn_ptr ((hset_ne (key_ne rfl)).trans ((hset_ne (key_ne rfl)).trans hihj41_2)) (pure_row (Scaffold.pure _)))) .nil)) (hasN s _ hs1) (g_e rfl (e_not rfl) (g_mS rfl rfl ?_))))))
      refine g_cases (fun hb52 => ?_) (fun hb52 => ?_)
      ·have hb52R := hb52; try simp only [zz] at hb52
       iterate 5 refine g_skip rfl rfl rfl ?_
       refine g_pT rfl rfl rfl (g_aS rfl rfl (g_end (ds := [75, 76, 77, 78, 79]) rfl rfl (hK51 _ ?_))); clear hK51 K51
       refine pwp_cond (t := true) rfl (fun _ => ?_) nofun
       refine pwp_seq_plain rfl fun K53 hK53 => p_e rfl (e_loadHA (n := 3) rfl ((hset_ne (key_ne rfl)).trans ((hset_ne (key_ne rfl)).trans hihj41_1)) (by kernel_rfl) (by kernel_rfl) (by kernel_rfl) (by exact Nat.zero_lt_one) (by decide) rfl) (p_store rfl (e_storeA rfl ((hset_ne (key_ne rfl)).trans ((hset_ne (key_ne rfl)).trans hihj41_0)) rfl rfl rfl (by kernel_rfl) rfl (by kernel_rfl)) trivial (p_aS rfl (p_end (hK53 _ ?_)))); clear hK53 K53
       refine pwp_ret (ret_block (ret_seq (ret_block (ret_seq (ret_loop (ret_block (ret_seq ?_)))))))
       refine endCT rfl (hset_self _ _ _) (by kernel_rfl) (by kernel_rfl) (by kernel_rfl) rfl rfl ?_
       first
         | exact readR_of (scfE_8 (by omega))
         | exact readR_of (scfE_n hsz (frs_hit hinv hd (nodE_2 (by assumption)) (by decide)) (by decide))
         | exact readR_of (scfE_n hsz (frs_hit hinv hd (nodE_5 (by assumption) (of_decide_eq_true ((hnd n).symm.trans (by assumption)))) (by decide)) (by decide))
         | exact readR_of (scfE_m hsz hN (frs_hit hinv2 hd (memE_2 (by assumption)) (by decide)))
         | exact readR_of (scfE_m hsz hN (frs_hit hinv2 hd (memE_6 hm1 (by omega)) (by decide)))
         | exact readR_of (scfE_m hsz hN (frs_hit hinv2 hd (memE_3 hm1 hm2 (by assumption)) (by decide)))
         | exact readR_of (scfE_m hsz hN (frs_hit hinv2 hd (memE_5 hm1 hm2 (by assumption) (of_decide_eq_true ((hmb0 m).symm.trans (by assumption)))) (by decide)))
         | exact readR_of (scfE_m hsz hN hM.symm)
      ·have hb52R := hb52; try simp only [zz] at hb52
       refine g_e rfl (e_move (v := .func _ _ _) rfl) (g_e rfl (e_faQ pl3 rfl) (g_e rfl (e_lH (v := .sc _) rfl (hset_self _ _ _) rfl) (g_call rfl rfl rfl rfl (.cons inn_sc (.cons (.base (inn_ptr ((hset_ne (key_ne rfl)).trans ((hset_ne (key_ne rfl)).trans hihj41_2)) (pure_row (Scaffold.pure _)))) .nil)) (hasN s _ hs1) (g_e rfl (e_not rfl) (g_pF rfl rfl rfl (g_aS rfl rfl (g_end (ds := [75, 76, 77, 78, 79]) rfl rfl (hK51 _ ?_)))))))); clear hK51 K51
       refine pwp_cond rfl (fun hb54 => ?_) (fun hb54 => ?_)
       ·have hb54R := hb54; try simp only [zz] at hb54
        refine pwp_seq_plain rfl fun K55 hK55 => p_e rfl (e_loadHA (n := 3) rfl ((hset_ne (key_ne rfl)).trans ((hset_ne (key_ne rfl)).trans hihj41_1)) (by kernel_rfl) (by kernel_rfl) (by kernel_rfl) (by exact Nat.zero_lt_one) (by decide) rfl) (p_store rfl (e_storeA rfl ((hset_ne (key_ne rfl)).trans ((hset_ne (key_ne rfl)).trans hihj41_0)) rfl rfl rfl (by kernel_rfl) rfl (by kernel_rfl)) trivial (p_aS rfl (p_end (hK55 _ ?_)))); clear hK55 K55
        refine pwp_ret (ret_block (ret_seq (ret_block (ret_seq (ret_loop (ret_block (ret_seq ?_)))))))
        refine endCT rfl (hset_self _ _ _) (by kernel_rfl) (by kernel_rfl) (by kernel_rfl) rfl rfl ?_
        first
          | exact readR_of (scfE_8 (by omega))
          | exact readR_of (scfE_n hsz (frs_hit hinv hd (nodE_2 (by assumption)) (by decide)) (by decide))
          | exact readR_of (scfE_n hsz (frs_hit hinv hd (nodE_5 (by assumption) (of_decide_eq_true ((hnd n).symm.trans (by assumption)))) (by decide)) (by decide))
          | exact readR_of (scfE_m hsz hN (frs_hit hinv2 hd (memE_2 (by assumption)) (by decide)))
          | exact readR_of (scfE_m hsz hN (frs_hit hinv2 hd (memE_6 hm1 (by omega)) (by decide)))
          | exact readR_of (scfE_m hsz hN (frs_hit hinv2 hd (memE_3 hm1 hm2 (by assumption)) (by decide)))
          | exact readR_of (scfE_m hsz hN (frs_hit hinv2 hd (memE_5 hm1 hm2 (by assumption) (of_decide_eq_true ((hmb0 m).symm.trans (by assumption)))) (by decide)))
          | exact readR_of (scfE_m hsz hN hM.symm)
       ·have hb54R := hb54; try simp only [zz] at hb54
        have hm2 : (0 ≤ m.a ∧ m.a < (s.nodes.length : Int)) ∧ (0 ≤ m.b ∧ m.b < (s.nodes.length : Int)) := ⟨(by assumption), (by assumption)⟩
        obtain ⟨a, ha, _, _⟩ := get_lt (xs := s.nodes) (i := m.a.toNat) (by omega)
        obtain ⟨b, hb, _, _⟩ := get_lt (xs := s.nodes) (i := m.b.toNat) (by omega)
        refine pwp_seq_plainK rfl fun hkn K56 hK56 => p_e rfl (e_loadHA (n := 3) (cs := [.lit true 3 (s.nodes.map Node.enc), .lit true 3 (s.members.map Member.enc), .map (14, c0 14)]) rfl ((hset_ne (key_ne rfl)).trans ((hset_ne (key_ne rfl)).trans hihj41_1)) (by kernel_rfl) (by kernel_rfl) (by kernel_rfl) (by exact Nat.zero_lt_one) (by decide) rfl) (p_e rfl (e_loadHA (n := 3) (cs := m.enc) rfl (hset_self _ _ _) (by kernel_rfl) (by kernel_rfl) (by kernel_rfl) (by exact Nat.zero_lt_one) (by decide) rfl) (p_hcall rfl (rightH _ _ s m a b _ mp (MapAt.keep hihj41_4 ((hset_ne (key_ne rfl)).trans ((hset_ne (key_ne rfl)).trans (rfl)))) hmp hs1 hm2.1 hm2.2 ha hb hm1) fun v1 h1 c1 hR1 => ?_))
        obtain ⟨rfl, hfr⟩ := hR1
        have ho57 := (hfr (2, _) (known_at hkn ((hset_ne (key_ne rfl)).trans ((hset_ne (key_ne rfl)).trans hihj41_0)))).trans ((hset_ne (key_ne rfl)).trans ((hset_ne (key_ne rfl)).trans hihj41_0))
        have ho58 := (hfr (4, _) (known_at hkn ((hset_ne (key_ne rfl)).trans ((hset_ne (key_ne rfl)).trans hihj41_1)))).trans ((hset_ne (key_ne rfl)).trans ((hset_ne (key_ne rfl)).trans hihj41_1))
        have ho59 := (hfr (1, _) (known_at hkn ((hset_ne (key_ne rfl)).trans ((hset_ne (key_ne rfl)).trans hihj41_2)))).trans ((hset_ne (key_ne rfl)).trans ((hset_ne (key_ne rfl)).trans hihj41_2))
        have ho60 := MapAt.keep (MapAt.keep hihj41_3 ((hset_ne (key_ne rfl)).trans ((hset_ne (key_ne rfl)).trans (rfl)))) (hfr (54, _) (known_map hkn (MapAt.keep hihj41_3 ((hset_ne (key_ne rfl)).trans ((hset_ne (key_ne rfl)).trans (rfl))))))
        have ho61 := MapAt.keep (MapAt.keep hihj41_4 ((hset_ne (key_ne rfl)).trans ((hset_ne (key_ne rfl)).trans (rfl)))) (hfr (14, _) (known_map hkn (MapAt.keep hihj41_4 ((hset_ne (key_ne rfl)).trans ((hset_ne (key_ne rfl)).trans (rfl))))))
        have ho62 := (hfr (12, _) (known_at hkn (hset_self _ _ _))).trans (hset_self _ _ _)
        refine p_e rfl (e_not (b := geoB s.nodes m) rfl) (p_aS rfl (p_end (hK56 _ ?_))); clear hK56 K56
        refine pwp_cond rfl (fun hb63 => ?_) (fun hb63 => ?_)
        ·have hb63R := hb63; try simp only [zz] at hb63
         refine pwp_seq_plain rfl fun K64 hK64 => p_e rfl (e_loadHA (n := 3) rfl ho58 (by kernel_rfl) (by kernel_rfl) (by kernel_rfl) (by exact Nat.zero_lt_one) (by decide) rfl) (p_store rfl (e_storeA rfl ho57 rfl rfl rfl (by kernel_rfl) rfl (by kernel_rfl)) trivial (p_aS rfl (p_end (hK64 _ ?_)))); clear hK64 K64
         refine pwp_ret (ret_block (ret_seq (ret_block (ret_seq (ret_loop (ret_block (ret_seq ?_)))))))
         refine endCT rfl (hset_self _ _ _) (by kernel_rfl) (by kernel_rfl) (by kernel_rfl) rfl rfl ?_
         first
           | exact readR_of (scfE_8 (by omega))
           | exact readR_of (scfE_n hsz (frs_hit hinv hd (nodE_2 (by assumption)) (by decide)) (by decide))
           | exact readR_of (scfE_n hsz (frs_hit hinv hd (nodE_5 (by assumption) (of_decide_eq_true ((hnd n).symm.trans (by assumption)))) (by decide)) (by decide))
           | exact readR_of (scfE_m hsz hN (frs_hit hinv2 hd (memE_2 (by assumption)) (by decide)))
           | exact readR_of (scfE_m hsz hN (frs_hit hinv2 hd (memE_6 hm1 (by omega)) (by decide)))
           | exact readR_of (scfE_m hsz hN (frs_hit hinv2 hd (memE_3 hm1 hm2 (by assumption)) (by decide)))
           | exact readR_of (scfE_m hsz hN (frs_hit hinv2 hd (memE_5 hm1 hm2 (by assumption) (of_decide_eq_true ((hmb0 m).symm.trans (by assumption)))) (by decide)))
           | exact readR_of (scfE_m hsz hN hM.symm)
        ·have hb63R := hb63; try simp only [zz] at hb63
         refine pwp_seq_plain rfl fun K65 hK65 => p_e rfl (e_move (v := .map _) rfl) (p_e rfl (e_loadHA (cs := Member.enc (m)) (n := 3) rfl ho62 (by kernel_rfl) (by kernel_rfl) (by kernel_rfl) (by exact Nat.zero_lt_one) (by decide) rfl) (p_e rfl (e_look (kt := 146) (et := 4) (f := kmb) (g := PV.bool) (a := m) (l := mm) (z := false) kmb_eq kmb_ok rfl rfl ho60 (by kernel_rfl) (by kernel_rfl) (by first | rfl | kernel_rfl)) (p_aS rfl (p_end (hK65 _ ?_))))); clear hK65 K65
         refine pwp_cond rfl (fun hb66 => ?_) (fun hb66 => ?_)
         ·have hb66R := hb66; try simp only [zz] at hb66
          refine pwp_seq_plain rfl fun K67 hK67 => p_e rfl (e_loadHA (n := 3) rfl ho58 (by kernel_rfl) (by kernel_rfl) (by kernel_rfl) (by exact Nat.zero_lt_one) (by decide) rfl) (p_store rfl (e_storeA rfl ho57 rfl rfl rfl (by kernel_rfl) rfl (by kernel_rfl)) trivial (p_aS rfl (p_end (hK67 _ ?_)))); clear hK67 K67
          refine pwp_ret (ret_block (ret_seq (ret_block (ret_seq (ret_loop (ret_block (ret_seq ?_)))))))
          refine endCT rfl (hset_self _ _ _) (by kernel_rfl) (by kernel_rfl) (by kernel_rfl) rfl rfl ?_
          first
            | exact readR_of (scfE_8 (by omega))
            | exact readR_of (scfE_n hsz (frs_hit hinv hd (nodE_2 (by assumption)) (by decide)) (by decide))
            | exact readR_of (scfE_n hsz (frs_hit hinv hd (nodE_5 (by assumption) (of_decide_eq_true ((hnd n).symm.trans (by assumption)))) (by decide)) (by decide))
            | exact readR_of (scfE_m hsz hN (frs_hit hinv2 hd (memE_2 (by assumption)) (by decide)))
            | exact readR_of (scfE_m hsz hN (frs_hit hinv2 hd (memE_6 hm1 (by omega)) (by decide)))
            | exact readR_of (scfE_m hsz hN (frs_hit hinv2 hd (memE_3 hm1 hm2 (by assumption)) (by decide)))
            | exact readR_of (scfE_m hsz hN (frs_hit hinv2 hd (memE_5 hm1 hm2 (by assumption) (of_decide_eq_true ((hmb0 m).symm.trans (by assumption)))) (by decide)))
            | exact readR_of (scfE_m hsz hN hM.symm)
         ·have hb66R := hb66; try simp only [zz] at hb66
          refine pwp_skip (block_norm (seq_norm (hK47 _ ?_))); clear hK47 K47
          refine pwp_plain rfl fun K68 hK68 => p_e rfl (e_move (v := .map _) rfl) (p_e rfl (e_loadHA (cs := Member.enc (m)) (n := 3) rfl ho62 (by kernel_rfl) (by kernel_rfl) (by kernel_rfl) (by exact Nat.zero_lt_one) (by decide) rfl) (p_store rfl (e_mset (kt := 146) (et := 4) (f := kmb) (g := PV.bool) (a := m) (b := true) (l := mm) kmb_eq kmb_ok rfl rfl rfl rfl ho60 (by kernel_rfl)) trivial (p_end (hK68 _ ?_)))); clear hK68 K68
          refine block_norm (seq_norm (hK45 _ ?_)); clear hK45 K45
          refine pwp_plain rfl fun K69 hK69 => p_e rfl (e_adL rfl rfl) (p_mS rfl (p_end (hK69 _ ?_))); clear hK69 K69
          exact loop_again ((k + 1, aSet m true mm)) (by show _ < _; simp only; omega) ⟨rfl, rfl, rfl, rfl, rfl, rfl, trivial⟩ ⟨rfl, trivial⟩ (by exact ⟨by show _ + 1 ≤ _; simp only [List.length_map] at *; omega, by exact frs_go hinv2 hd (memE_0 hm1 hm2 (by assumption) (of_decide_eq_false ((hmb0 m).symm.trans (by assumption)))), by exact hmb0.step ht, ((hset_ne (key_ne rfl)).trans ho57), ((hset_ne (key_ne rfl)).trans ho58), ((hset_ne (key_ne rfl)).trans ho59), (MapAt.set kmb_eq ho60 m true), (MapAt.keep ho61 ((hset_ne (key_ne rfl)).trans (rfl)))⟩)
    ·have hb44R := hb44; try simp only [zz] at hb44
     have hM := frs_end hinv2 (by simp only [List.length_map] at *; omega)
     refine pwp_exit (exit_seq ?_)
     clear hK43 K43
     refine exit_loop (exit_here (seq_norm (hK36 _ ?_))); clear hK36 K36
     refine pwp_seq_plain rfl fun K70 hK70 => p_e rfl (e_loadHA (n := 3) rfl hihj41_1 (by kernel_rfl) (by kernel_rfl) (by kernel_rfl) (by exact Nat.zero_lt_one) (by decide) rfl) (p_store rfl (e_storeA rfl hihj41_0 rfl rfl rfl (by kernel_rfl) rfl (by kernel_rfl)) trivial (p_aS rfl (p_end (hK70 _ ?_)))); clear hK70 K70
     refine pwp_ret (endCT rfl (hset_self _ _ _) (by kernel_rfl) (by kernel_rfl) (by kernel_rfl) rfl rfl ?_)
     first
       | exact readR_of (scfE_8 (by omega))
       | exact readR_of (scfE_n hsz (frs_hit hinv hd (nodE_2 (by assumption)) (by decide)) (by decide))
       | exact readR_of (scfE_n hsz (frs_hit hinv hd (nodE_5 (by assumption) (of_decide_eq_true ((hnd n).symm.trans (by assumption)))) (by decide)) (by decide))
       | exact readR_of (scfE_m hsz hN (frs_hit hinv2 hd (memE_2 (by assumption)) (by decide)))
       | exact readR_of (scfE_m hsz hN (frs_hit hinv2 hd (memE_6 hm1 (by omega)) (by decide)))
       | exact readR_of (scfE_m hsz hN (frs_hit hinv2 hd (memE_3 hm1 hm2 (by assumption)) (by decide)))
       | exact readR_of (scfE_m hsz hN (frs_hit hinv2 hd (memE_5 hm1 hm2 (by assumption) (of_decide_eq_true ((hmb0 m).symm.trans (by assumption)))) (by decide)))
       | exact readR_of (scfE_m hsz hN hM.symm)

theorem fr89 : (inFrame Try.f89.ntmps (Try.f89.body.getD .skip) && Try.f89.results.toList.all (resScope Try.f89.ntmps)) = true := by kernel_rfl
theorem CheckScf (s : Scaffold) (hs1 : s.nodes.length ≤ 1000000) (hs2 : s.members.length ≤ 1000000) : PCalls Try.prog 89 [.agg s.enc] (.int (scfE s)) := by
 refine PCalls.of_code Try.func89 rfl rfl (by kernel_rfl) mixed fr89 (by show _ ≤ 11; simp) (.sc _) (pwp_seq_plain rfl fun K1 hK1 => p_new rfl (e_box (n := 2) rfl rfl) ⟨rfl, by decide⟩ (p_aS rfl (p_end (hK1 _ ?_)))); clear hK1 K1
 refine pwp_seq_plain rfl fun K2 hK2 => p_e rfl (e_loadHA (cs := Scaffold.enc (s)) (n := 2) rfl (hset_self _ _ _) (by kernel_rfl) (by kernel_rfl) (by kernel_rfl) (by exact Nat.zero_lt_one) (by decide) rfl) (p_hcall rfl (readH _ _ s hs1 hs2) fun v7 h7 c7 hR7 => ?_)
 obtain ⟨q7, rfl⟩ := hR7
 refine p_e rfl (e_move (v := .tup _) rfl) (p_e rfl (e_ext (v := .agg _) rfl (by simp) rfl) (p_e rfl (e_ext (v := .sc _) rfl (by simp) rfl) (p_new rfl (e_alloc (cs := [.nil, .nil, .sc (.map none)]) (n := 3) (by kernel_rfl) rfl (by decide)) (ob_alloc (by decide)) (p_store rfl (e_storeA rfl (hset_self _ _ _) rfl rfl rfl (by kernel_rfl) rfl (by kernel_rfl)) trivial (p_aS rfl (p_end (hK2 _ ?_))))))); clear hK2 K2
 refine pwp_seq_plain rfl fun K3 hK3 => p_mS rfl (p_aS rfl (p_end (hK3 _ ?_))); clear hK3 K3
 refine pwp_ret (end1 (v := .sc _) rfl ?_)
 exact out_i rfl

end Go.Proofs.Ytjmjiegplnfiiaa

/- Members of some tasks. No conditions. -/
set_option linter.unusedSimpArgs false
set_option linter.unusedVariables false
set_option maxRecDepth 100000
namespace Go.Proofs.Ytjmjiegplnfiiaa
open Go Go.Pv
/-! ### The members of some tasks -/
section
variable {s : Scaffold} {xs : List Task} {ds : List Int} {k : Nat} {n : Int} {x : Task} {m : Member}
theorem node_clean (a : Node) : ∀ p ∈ a.enc, Go.Pv.Clean p ∧ p.cell = true := fun p hp => by
 simp only [Node.enc, List.mem_cons, List.not_mem_nil, or_false] at hp
 rcases hp with rfl | rfl | rfl <;> exact ⟨.sc _, rfl⟩
end

end Go.Proofs.Ytjmjiegplnfiiaa

/- The reference of stages. No conditions. -/
set_option linter.unusedSimpArgs false
set_option linter.unusedVariables false
set_option maxRecDepth 100000
namespace Go.Proofs.Ytjmjiegplnfiiaa
open Go Go.Pv
section
variable {s t : Scaffold} {xs : List Task} {ds : List Int}
end
end Go.Proofs.Ytjmjiegplnfiiaa

/- ErectionStage at P level. No conditions. -/
set_option linter.unusedSimpArgs false
set_option linter.unusedVariables false
set_option maxRecDepth 100000
namespace Go.Proofs.Ytjmjiegplnfiiaa
open Go Go.Pv
def smlB (s : Scaffold) : Bool := decide (s.nodes.length ≤ 30 ∧ s.members.length ≤ 40)
theorem sml_iff {s : Scaffold} : smlB s = true ↔ s.nodes.length ≤ 30 ∧ s.members.length ≤ 40 := by rw [smlB, decide_eq_true_eq]
theorem fr45 : (inFrame Try.f45.ntmps (Try.f45.body.getD .skip) && Try.f45.results.toList.all (resScope Try.f45.ntmps)) = true := by kernel_rfl
theorem SmallScf (s : Scaffold) (hs1 : s.nodes.length ≤ 9223372036854775807) (hs2 : s.members.length ≤ 9223372036854775807) : PCalls Try.prog 45 [.agg s.enc] (.bool (smlB s)) := by
 refine PCalls.of_code Try.func45 rfl rfl (by kernel_rfl) mixed fr45 (by show _ ≤ 13; simp) (.sc _) (pwp_seq_plain rfl fun K1 hK1 => p_new rfl (e_box (n := 2) rfl rfl) ⟨rfl, by decide⟩ (p_aS rfl (p_end (hK1 _ ?_)))); clear hK1 K1
 refine pwp_seq_gops rfl fun K2 hK2 => g_begin (g_e rfl (e_faQ pl2 rfl) (g_e rfl (e_lH (v := .lit _ _ _) rfl (hset_self _ _ _) rfl) (g_e rfl (e_len rfl (by kernel_rfl)) (g_e rfl (e_le rfl rfl) (g_mS rfl rfl ?_)))))
 refine g_cases (fun hb3 => ?_) (fun hb3 => ?_)
 ·have hb3R := hb3; try simp only [zz] at hb3
  refine g_e rfl (e_faQ pl2 rfl) (g_e rfl (e_lH (v := .lit _ _ _) rfl (hset_self _ _ _) rfl) (g_e rfl (e_len rfl (by kernel_rfl)) (g_e rfl (e_le rfl rfl) (g_pT rfl rfl rfl (g_aS rfl rfl (g_end (ds := [8, 9, 10, 11]) rfl rfl (hK2 _ ?_))))))); clear hK2 K2
  refine pwp_ret (end1 (v := .sc _) rfl ?_)
  exact out_b (by first | (rw [smlB]; exact (decide_eq_false (by simp only [List.length_map] at *; omega)).symm) | (rw [smlB, Bool.eq_iff_iff]; simp only [decide_eq_true_eq, List.length_map] at *; omega))
 ·have hb3R := hb3; try simp only [zz] at hb3
  iterate 4 refine g_skip rfl rfl rfl ?_
  refine g_pF rfl rfl rfl (g_aS rfl rfl (g_end (ds := [8, 9, 10, 11]) rfl rfl (hK2 _ ?_))); clear hK2 K2
  refine pwp_ret (end1 (v := .sc _) rfl ?_)
  exact out_b (by first | (rw [smlB]; exact (decide_eq_false (by simp only [List.length_map] at *; omega)).symm) | (rw [smlB, Bool.eq_iff_iff]; simp only [decide_eq_true_eq, List.length_map] at *; omega))

end Go.Proofs.Ytjmjiegplnfiiaa
