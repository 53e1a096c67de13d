import Derived.Test.YtjmjiegplnfiiaaStgA
/- Orders that are accepted. No conditions. -/
set_option linter.unusedSimpArgs false
set_option linter.unusedVariables false
set_option maxRecDepth 100000
namespace Go.Proofs.Ytjmjiegplnfiiaa
open Go Go.Pv
/-! ### Orders that are accepted -/
def accE (nd : List (List Int)) (D : List Int) (z : Int) : Int := if ¬ (0 ≤ z ∧ z ≤ (nd.length : Int) - 1) then 6 else if z ∈ D then 5 else if ¬ (∀ y ∈ nd_ nd z.toNat, y ∈ D) then 10 else 0
/-- The place of the first wrong element of an order with its error, or -1. -/
def accR (nd : List (List Int)) (ds : List Int) : Int × Int := match (List.range ds.length).find? fun k => decide (accE nd (ds.take k) (at0 ds k) ≠ 0) with
 | some k => ((k : Int), accE nd (ds.take k) (at0 ds k))
 | none => if ds.length < nd.length then ((ds.length : Int), 11) else (-1, 0)
section
variable {nd : List (List Int)} {ds : List Int} {k : Nat}
theorem acc_hit {e : Int} (hk : k < ds.length) (h : ∀ i, i < k → accE nd (ds.take i) (at0 ds i) = 0) (he : accE nd (ds.take k) (at0 ds k) = e) (hne : e ≠ 0) : accR nd ds = ((k : Int), e) := by
 have : (List.range ds.length).find? (fun k => decide (accE nd (ds.take k) (at0 ds k) ≠ 0)) = some k := by
   rw [List.find?_range_eq_some]
   exact ⟨decide_eq_true (by rw [he]; exact hne), List.mem_range.2 hk, fun j hj => by rw [h j hj]; decide⟩
 rw [accR, this]; simp only [he]
theorem acc_none (h : ∀ i, i < k → accE nd (ds.take i) (at0 ds i) = 0) (hk : ds.length ≤ k) : accR nd ds = if ds.length < nd.length then ((ds.length : Int), 11) else (-1, 0) := by
 have : (List.range ds.length).find? (fun k => decide (accE nd (ds.take k) (at0 ds k) ≠ 0)) = none := by
   rw [List.find?_eq_none]
   intro i hi
   rw [h i (by have := List.mem_range.1 hi; omega)]; decide
 rw [accR, this]
theorem acc_11 (h : ∀ i, i < k → accE nd (ds.take i) (at0 ds i) = 0) (hk : ds.length ≤ k) (hl : ds.length < nd.length) : accR nd ds = ((ds.length : Int), 11) := by rw [acc_none h hk, if_pos hl]
theorem acc_ok (h : ∀ i, i < k → accE nd (ds.take i) (at0 ds i) = 0) (hk : ds.length ≤ k) (hl : ¬ ds.length < nd.length) : accR nd ds = (-1, 0) := by rw [acc_none h hk, if_neg hl]
theorem acE_6 {D : List Int} {z : Int} (h : ¬ (0 ≤ z ∧ z ≤ (nd.length : Int) - 1)) : accE nd D z = 6 := if_pos h
theorem acE_5 {D : List Int} {z : Int} (h : 0 ≤ z ∧ z ≤ (nd.length : Int) - 1) (h2 : z ∈ D) : accE nd D z = 5 := by rw [accE, if_neg (fun q => q h), if_pos h2]
theorem acE_10 {D : List Int} {z : Int} (h : 0 ≤ z ∧ z ≤ (nd.length : Int) - 1) (h2 : z ∉ D) (h3 : ((nd_ nd z.toNat).all fun y => decide (y ∈ D)) = false) : accE nd D z = 10 := by
 rw [accE, if_neg (fun q => q h), if_neg h2, if_pos]
 intro q
 rw [List.all_eq_true.2 (fun y hy => decide_eq_true (q y hy))] at h3; cases h3
theorem acE_0 {D : List Int} {z : Int} (h : 0 ≤ z ∧ z ≤ (nd.length : Int) - 1) (h2 : z ∉ D) (h3 : ((nd_ nd z.toNat).all fun y => decide (y ∈ D)) = true) : accE nd D z = 0 := by
 rw [accE, if_neg (fun q => q h), if_neg h2, if_neg]
 intro q
 exact q fun y hy => of_decide_eq_true (List.all_eq_true.1 h3 y hy)
theorem acE_in {D : List Int} {z : Int} (h : accE nd D z = 0) : 0 ≤ z ∧ z < nd.length := by
 unfold accE at h
 split at h
 · cases h
 · rename_i h1; omega
end
def RngOK (xs : List Task) : Prop := ∀ x ∈ xs, x.needs.length ≤ 1000 ∧ ∀ z ∈ x.needs, 0 ≤ z ∧ z < xs.length

theorem frH115 : (inFrame Try.f115.ntmps (Try.f115.body.getD .skip) && Try.f115.results.toList.all (resScope Try.f115.ntmps)) = true := by kernel_rfl
theorem acc1H (bs : List Bool) (z : Int) (h0 : Heap) (c0 : Nat → Nat) (hb : h0 (6, 0) = some (.rows 1 [[.ref (11, 0) 1 0 bs.length]])) (ho : h0 (11, 0) = some (.rows 1 (bs.map cbo))) (hz : 0 ≤ z ∧ z < bs.length) : HCallsR Try.prog 115 [.int z, .ptr (6, 0) 1 0 0] h0 c0 (fun v h _ => v = .bool (!(bs.getD z.toNat false)) ∧ h = h0) := by
 refine HCallsR.of_code Try.func115 rfl rfl (by kernel_rfl) mixed frH115 (by show _ ≤ 9; simp) (pwp_seq_plain rfl fun K1 hK1 => p_aS rfl (p_end (hK1 _ ?_))); clear hK1 K1
 refine pwp_seq_plain rfl fun K2 hK2 => p_e rfl (e_lH (v := .ref _ _ _ _) rfl hb rfl) (p_mS rfl (p_e rfl (e_ixaR0 rfl rfl (by kernel_rfl) (by kernel_rfl) (by omega)) (p_e rfl (e_loadH (v := .sc _) rfl ho (by kernel_rfl) (by kernel_rfl) (by kernel_rfl) (by simp only [List.length_map]; omega) (by decide) ((cell_map (bs_get hz) _).trans rfl)) (p_e rfl (e_not rfl) (p_aS rfl (p_end (hK2 _ ?_))))))); clear hK2 K2
 refine pwp_ret (end1 (v := .sc _) rfl ?_)
 exact ⟨rfl, rfl⟩

theorem frH114 : (inFrame Try.f114.ntmps (Try.f114.body.getD .skip) && Try.f114.results.toList.all (resScope Try.f114.ntmps)) = true := by kernel_rfl
theorem accIxH (bs : List Bool) (l : List Int) (h0 : Heap) (c0 : Nat → Nat) (hb : h0 (6, 0) = some (.rows 1 [[.ref (11, 0) 1 0 bs.length]])) (ho : h0 (11, 0) = some (.rows 1 (bs.map cbo))) (hl : l.length ≤ 1000000) (hz : ∀ z ∈ l, 0 ≤ z ∧ z < bs.length) : HCallsR Try.prog 114 [.lit true 1 (l.map ci), .func (.func 115) [] [.ptr (6, 0) 1 0 0]] h0 c0 (fun v h _ => v = .int (ixI (fun z : Int => !(bs.getD z.toNat false)) l) ∧ h = h0) := by
 refine HCallsR.of_code Try.func114 rfl rfl (by kernel_rfl) mixed frH114 (by show _ ≤ 19; simp) (pwp_seq_plain rfl fun K1 hK1 => p_aS rfl (p_end (hK1 _ ?_))); clear hK1 K1
 refine pwp_seq_seq (pwp_seq_plain rfl fun K2 hK2 => p_e rfl (e_move (v := .lit _ _ _) rfl) (p_e rfl (e_len rfl (by kernel_rfl)) (p_mS rfl (p_end (hK2 _ ?_))))); clear hK2 K2
 refine pwp_seq_block fun K3 hK3 => pwp_loopR (α := Nat) [0, 1, 7] (fun (k : Nat) => [(8, .int (k))]) (fun (k : Nat) (h : Heap) (_ : Nat → Nat) => ((k) ≤ l.length) ∧ (∀ i, i < (k) → (fun z : Int => !(bs.getD z.toNat false)) (at0 l i) = false) ∧ (h = h0) ∧ (h (6, 0) = some (.rows 1 [[.ref (11, 0) 1 0 bs.length]])) ∧ (h (11, 0) = some (.rows 1 (bs.map cbo)))) (fun (k : Nat) => l.length - (k)) (0) (by exact ⟨rfl, trivial⟩) (by exact ⟨by exact Nat.zero_le _, by exact upto_0, by exact rfl, hb, ho⟩) fun k r4 h5 c6 hj7 => ?_
 obtain ⟨hk, hin, hhe, hihj7_0, hihj7_1⟩ := hj7
 try dsimp only at hk
 try dsimp only at hin
 try dsimp only at hhe
 try dsimp only at hihj7_0
 try dsimp only at hihj7_1
 show pwp _ _ (loopQ _ _ _) ⟨sets (mix _ _ _) [(8, .int k)], _, _⟩
 refine pwp_seq_plain rfl fun K8 hK8 => p_e rfl (e_lt rfl rfl) (p_end (hK8 _ ?_)); clear hK8 K8
 refine pwp_seq_cond rfl fun K9 hK9 => ⟨fun hb10 => ?_, fun hb10 => ?_⟩
 ·have hb10R := hb10; try simp only [zz] at hb10
  subst hhe
  refine pwp_skip (seq_norm (hK9 _ ?_)); clear hK9 K9
  refine pwp_seq_block fun K11 hK11 => pwp_seq_plain rfl fun K12 hK12 => p_mS rfl (p_aS rfl (p_end (hK12 _ ?_))); clear hK12 K12
  refine pwp_seq_plain rfl fun K13 hK13 => p_e rfl (e_move (v := .func _ _ _) rfl) (p_e rfl (e_move (v := .lit _ _ _) rfl) (p_mS rfl (p_e rfl (e_ixL rfl rfl) (p_e rfl (e_load (v := .sc _) rfl (by kernel_rfl) (by kernel_rfl) (by kernel_rfl) (by first | omega | (simp only [List.length_map]; omega)) (by decide) ((cell_map (at0_get (l := l) (i := k) (by simp only [List.length_map] at *; omega)) _).trans rfl)) (p_hcall rfl (acc1H bs (at0 l k) _ _ hihj7_0 hihj7_1 (hz _ (at0_mem (by simp only [List.length_map] at *; omega)))) fun v14 h15 c16 hR17 => ?_)))))
  obtain ⟨rfl, rfl⟩ := hR17
  refine p_end (hK13 _ ?_); clear hK13 K13
  refine pwp_cond rfl (fun hb18 => ?_) (fun hb18 => ?_)
  ·have hb18R := hb18; try simp only [zz] at hb18
   refine pwp_seq_plain rfl fun K19 hK19 => p_mS rfl (p_aS rfl (p_end (hK19 _ ?_))); clear hK19 K19
   refine pwp_ret (ret_block (ret_seq (ret_loop (ret_block (ret_seq (end1 (v := .sc _) rfl ?_))))))
   exact ⟨congrArg PV.int (ixI_hit (K := (fun z : Int => !(bs.getD z.toNat false))) (k := k) (by simp only [List.length_map] at *; omega) hin (by show (!(bs.getD (at0 l k).toNat false)) = true; first | assumption | simp_all)), rfl⟩
  have hb18R := hb18; try simp only [zz] at hb18
  refine pwp_skip (block_norm (seq_norm (hK11 _ ?_))); clear hK11 K11
  refine pwp_plain rfl fun K20 hK20 => p_e rfl (e_adL rfl rfl) (p_mS rfl (p_end (hK20 _ ?_))); clear hK20 K20
  exact loop_again (k + 1) (by show _ < _; omega) ⟨rfl, rfl, rfl, trivial⟩ ⟨rfl, trivial⟩ (by exact ⟨by show _ + 1 ≤ _; simp only [List.length_map] at *; omega, by exact upto_step (p := fun i => (fun z : Int => !(bs.getD z.toNat false)) (at0 l i) = false) hin (by show (!(bs.getD (at0 l k).toNat false)) = false; first | assumption | simp_all), by exact rfl, hihj7_0, hihj7_1⟩)
 have hb10R := hb10; try simp only [zz] at hb10
 subst hhe
 refine pwp_exit (exit_seq ?_)
 clear hK9 K9
 refine exit_loop (exit_here (seq_norm (hK3 _ ?_))); clear hK3 K3
 refine pwp_seq_plain rfl fun K21 hK21 => p_aS rfl (p_end (hK21 _ ?_)); clear hK21 K21
 refine pwp_ret (end1 (v := .sc _) rfl ?_)
 exact ⟨congrArg PV.int (ixI_no (K := (fun z : Int => !(bs.getD z.toNat false))) hin (by simp only [List.length_map] at *; omega)), rfl⟩

theorem frH79 : (inFrame Try.f79.ntmps (Try.f79.body.getD .skip) && Try.f79.results.toList.all (resScope Try.f79.ntmps)) = true := by kernel_rfl
theorem accAnyH (bs : List Bool) (l : List Int) (h0 : Heap) (c0 : Nat → Nat) (hb : h0 (6, 0) = some (.rows 1 [[.ref (11, 0) 1 0 bs.length]])) (ho : h0 (11, 0) = some (.rows 1 (bs.map cbo))) (hl : l.length ≤ 1000000) (hz : ∀ z ∈ l, 0 ≤ z ∧ z < bs.length) : HCallsR Try.prog 79 [.lit true 1 (l.map ci), .func (.func 115) [] [.ptr (6, 0) 1 0 0]] h0 c0 (fun v h _ => v = .bool (!(hasB bs l)) ∧ h = h0) := by
 refine HCallsR.of_code Try.func79 rfl rfl (by kernel_rfl) mixed frH79 (by show _ ≤ 9; simp) (pwp_seq_plain rfl fun K1 hK1 => p_aS rfl (p_end (hK1 _ ?_))); clear hK1 K1
 refine pwp_seq_plain rfl fun K2 hK2 => p_e rfl (e_move (v := .lit _ _ _) rfl) (p_e rfl (e_move (v := .func _ _ _) rfl) (p_hcall rfl (accIxH bs l _ _ hb ho hl hz) fun v3 h4 c5 hR6 => ?_))
 obtain ⟨rfl, rfl⟩ := hR6
 refine p_e rfl (e_ge rfl rfl) (p_aS rfl (p_end (hK2 _ ?_))); clear hK2 K2
 refine pwp_ret (end1 (v := .sc _) rfl ?_)
 exact ⟨congrArg PV.bool (ixI_any.trans (any_has bs l)), rfl⟩

theorem fr82 : (inFrame Try.f82.ntmps (Try.f82.body.getD .skip) && Try.f82.results.toList.all (resScope Try.f82.ntmps)) = true := by kernel_rfl
theorem acceptC (xs : List Task) (ds : List Int) (hxl : xs.length ≤ 15) (hdl : ds.length ≤ 30) (hr : RngOK xs) : PCalls Try.prog 82 [.lit true 6 (xs.map Task.enc), .lit true 1 (ds.map ci)] (.tup [.int (accR (ndX xs) ds).1, .int (accR (ndX xs) ds).2]) := by
 refine PCalls.of_code Try.func82 rfl rfl (by kernel_rfl) mixed fr82 (by show _ ≤ 53; simp) (pure_2 (.sc _) (.sc _)) (pwp_seq_plain rfl fun K1 hK1 => p_aS rfl (p_aS rfl (p_end (hK1 _ ?_)))); clear hK1 K1
 refine pwp_seq_plain rfl fun K2 hK2 => p_e rfl (e_move (v := .lit _ _ _) rfl) (p_e rfl (e_len rfl (by kernel_rfl)) (p_new rfl (e_mkB (n := xs.length) rfl rfl (by rw [List.length_map]) (by kernel_rfl) (by kernel_rfl) (by kernel_rfl) (by decide +kernel) (by omega)) trivial ?_))
 rw [← doneB_nil (n := xs.length), ← List.take_zero (l := ds)]
 refine p_new rfl (e_alloc (cs := [.nil]) (n := 1) (by kernel_rfl) rfl (by decide)) (ob_alloc (by decide)) (p_store rfl (e_store1 rfl (hset_self _ _ _) rfl rfl rfl (by decide) (by kernel_rfl) rfl (by kernel_rfl)) trivial (p_end (hK2 _ ?_))); clear hK2 K2
 refine pwp_seq_seq (pwp_seq_plain rfl fun K3 hK3 => p_e rfl (e_move (v := .lit _ _ _) rfl) (p_e rfl (e_len rfl (by kernel_rfl)) (p_mS rfl (p_end (hK3 _ ?_))))); clear hK3 K3
 refine pwp_seq_block fun K4 hK4 => pwp_loopR (α := Nat) [0, 1, 6, 12, 13] (fun (k : Nat) => [(14, .int (k))]) (fun (k : Nat) (h : Heap) (_ : Nat → Nat) => ((k) ≤ ds.length) ∧ (∀ i, i < (k) → accE (ndX xs) (ds.take i) (at0 ds i) = 0) ∧ (h (6, 0) = some (.rows 1 [[.ref (11, 0) 1 0 xs.length]])) ∧ (h (11, 0) = some (.rows 1 ((doneB xs.length (ds.take (k))).map cbo)))) (fun (k : Nat) => ds.length - (k)) (0) (by exact ⟨rfl, trivial⟩) (by exact ⟨by exact Nat.zero_le _, by exact upto_0, (hset_self _ _ _), ((hset_ne (key_ne rfl)).trans ((hset_ne (key_ne rfl)).trans (hset_self _ _ _)))⟩) fun k r5 h6 c7 hj8 => ?_
 obtain ⟨hk, hac, hihj8_0, hihj8_1⟩ := hj8
 try dsimp only at hk
 try dsimp only at hac
 try dsimp only at hihj8_0
 try dsimp only at hihj8_1
 show pwp _ _ (loopQ _ _ _) ⟨sets (mix _ _ _) [(14, .int k)], _, _⟩
 refine pwp_seq_plain rfl fun K9 hK9 => p_e rfl (e_lt rfl rfl) (p_end (hK9 _ ?_)); clear hK9 K9
 refine pwp_seq_cond rfl fun K10 hK10 => ⟨fun hb11 => ?_, fun hb11 => ?_⟩
 ·have hb11R := hb11; try simp only [zz] at hb11
  refine pwp_skip (seq_norm (hK10 _ ?_)); clear hK10 K10
  refine pwp_seq_block fun K12 hK12 => pwp_seq_plain rfl fun K13 hK13 => p_mS rfl (p_e rfl (e_ixL rfl rfl) (p_e rfl (e_load (v := .sc _) rfl (by kernel_rfl) (by kernel_rfl) (by kernel_rfl) (by first | omega | (simp only [List.length_map]; omega)) (by decide) ((cell_map (at0_get (l := ds) (i := k) (by simp only [List.length_map] at *; omega)) _).trans rfl)) (p_aS rfl (p_aS rfl (p_end (hK13 _ ?_)))))); clear hK13 K13
  refine pwp_seq_block fun K14 hK14 => pwp_seq_plain rfl fun K15 hK15 => p_mS rfl (p_e rfl (e_move (v := .lit _ _ _) rfl) (p_e rfl (e_len rfl (by kernel_rfl)) (p_e rfl (e_sub rfl rfl (by first | omega | (simp only [List.length_map] at *; omega))) (p_call rfl (.cons inn_sc (.cons inn_sc (.cons inn_sc .nil))) (within _ _ _) (p_e rfl (e_not rfl) ?_)))))
  refine p_aS rfl (p_end (hK15 _ ?_)); clear hK15 K15
  refine pwp_cond rfl (fun hb16 => ?_) (fun hb16 => ?_)
  ·have hb16R := hb16; try simp only [zz] at hb16
   refine pwp_seq_plain rfl fun K17 hK17 => p_mS rfl (p_aS rfl (p_aS rfl (p_end (hK17 _ ?_)))); clear hK17 K17
   refine pwp_ret (ret_block (ret_seq (ret_block (ret_seq (ret_loop (ret_block (ret_seq ?_)))))))
   refine end2 (v := .sc _) (w := .sc _) rfl rfl ?_
   exact pr2 (acc_hit (k := k) (by simp only [List.length_map] at *; omega) hac (acE_6 (by rw [ndX_len]; simp only [List.length_map] at *; omega)) (by decide))
  have hb16R := hb16; try simp only [zz] at hb16
  have hz0 : 0 ≤ at0 ds k ∧ at0 ds k ≤ (xs.length : Int) - 1 := by simp only [List.length_map] at *; omega
  have hz1 : 0 ≤ at0 ds k ∧ at0 ds k ≤ ((ndX xs).length : Int) - 1 := by rw [ndX_len]; exact hz0
  obtain ⟨u, hu, hul⟩ : ∃ u : Nat, at0 ds k = (u : Int) ∧ u < xs.length := ⟨(at0 ds k).toNat, by omega, by omega⟩
  obtain ⟨x, hx, _, _⟩ := get_lt (xs := xs) (i := (at0 ds k).toNat) (by omega)
  obtain ⟨hxl1, hxn⟩ := hr x (List.mem_of_getElem? hx)
  have hxa := has_done (D := ds.take k) hxn
  have hxe : nd_ (ndX xs) (at0 ds k).toNat = x.needs := ndX_at hx
  have hdb := doneB_len (n := xs.length) (D := ds.take k)
  refine pwp_seq_plain rfl fun K18 hK18 => p_e rfl (e_lH (v := .ref _ _ _ _) rfl hihj8_0 rfl) (p_mS rfl (p_e rfl (e_ixaR0 rfl rfl (by kernel_rfl) (by kernel_rfl) (by (first | omega | (rw [doneB_len]; omega)))) (p_e rfl (e_loadH (v := .sc _) rfl hihj8_1 (by kernel_rfl) (by kernel_rfl) (by kernel_rfl) (by simp only [List.length_map, doneB_len]; omega) (by decide) ((cell_map (done_get (by omega)) _).trans rfl)) (p_aS rfl (p_end (hK18 _ ?_)))))); clear hK18 K18
  refine pwp_cond rfl (fun hb19 => ?_) (fun hb19 => ?_)
  ·have hb19R := hb19; try simp only [zz] at hb19
   refine pwp_seq_plain rfl fun K20 hK20 => p_mS rfl (p_aS rfl (p_aS rfl (p_end (hK20 _ ?_)))); clear hK20 K20
   refine pwp_ret (ret_block (ret_seq (ret_block (ret_seq (ret_loop (ret_block (ret_seq ?_)))))))
   refine end2 (v := .sc _) (w := .sc _) rfl rfl ?_
   exact pr2 (acc_hit (k := k) (by simp only [List.length_map] at *; omega) hac (acE_5 hz1 (by assumption)) (by decide))
  have hb19R := hb19; try simp only [zz] at hb19
  refine pwp_seq_plain rfl fun K21 hK21 => p_e rfl (e_move (v := .lit _ _ _) rfl) (p_mS rfl (p_e rfl (e_ixL rfl rfl) (p_e rfl (e_fb pl6 rfl) (p_e rfl (e_load (v := .lit _ _ _) rfl (by kernel_rfl) (by kernel_rfl) (by kernel_rfl) (by first | omega | (simp only [List.length_map]; omega)) (by decide) ((cell_map hx _).trans rfl)) (p_e rfl (e_mkf rfl) (p_hcall rfl (accAnyH (doneB xs.length (ds.take k)) x.needs _ _ (by rw [doneB_len]; exact hihj8_0) hihj8_1 (by omega) (by rw [doneB_len]; exact hxn)) fun v22 h23 c24 hR25 => ?_))))))
  obtain ⟨rfl, rfl⟩ := hR25
  refine p_aS rfl (p_end (hK21 _ ?_)); clear hK21 K21
  refine pwp_cond rfl (fun hb26 => ?_) (fun hb26 => ?_)
  ·have hb26R := hb26; try simp only [zz] at hb26
   refine pwp_seq_plain rfl fun K27 hK27 => p_mS rfl (p_aS rfl (p_aS rfl (p_end (hK27 _ ?_)))); clear hK27 K27
   refine pwp_ret (ret_block (ret_seq (ret_block (ret_seq (ret_loop (ret_block (ret_seq ?_)))))))
   refine end2 (v := .sc _) (w := .sc _) rfl rfl ?_
   exact pr2 (acc_hit (k := k) (by simp only [List.length_map] at *; omega) hac (acE_10 hz1 (by assumption) (by rw [hxe, ← hxa]; first | assumption | simp_all)) (by decide))
  have hb26R := hb26; try simp only [zz] at hb26
  refine pwp_skip (block_norm (seq_norm (hK14 _ ?_))); clear hK14 K14
  refine pwp_plain rfl fun K28 hK28 => p_e rfl (e_lH (v := .ref _ _ _ _) rfl hihj8_0 rfl) (p_mS rfl (p_e rfl (e_ixaR0 rfl rfl (by kernel_rfl) (by kernel_rfl) (by (first | omega | (rw [doneB_len]; omega)))) (p_store rfl (e_storeB (zs := (doneB xs.length (ds.take k))) (a := true) rfl hihj8_1 rfl (by (first | omega | (rw [doneB_len]; omega))) (by kernel_rfl) (by kernel_rfl)) trivial (p_end (hK28 _ ?_))))); clear hK28 K28
  refine block_norm (seq_norm (hK12 _ ?_)); clear hK12 K12
  refine pwp_plain rfl fun K29 hK29 => p_e rfl (e_adL rfl rfl) (p_mS rfl (p_end (hK29 _ ?_))); clear hK29 K29
  exact loop_again (k + 1) (by show _ < _; omega) ⟨rfl, rfl, rfl, rfl, rfl, trivial⟩ ⟨rfl, trivial⟩ (by exact ⟨by show _ + 1 ≤ _; simp only [List.length_map] at *; omega, by exact upto_step (p := fun i => accE (ndX xs) (ds.take i) (at0 ds i) = 0) hac (acE_0 hz1 (by first | assumption | simp_all) (by rw [hxe, ← hxa]; first | assumption | simp_all)), ((hset_ne (key_ne rfl)).trans hihj8_0), ((hset_self _ _ _).trans (by (rw [← done_snoc (by simp only [List.length_map] at *; omega) hu hul, hu]; rfl)))⟩)
 have hb11R := hb11; try simp only [zz] at hb11
 obtain rfl : k = ds.length := by simp only [List.length_map] at *; omega
 refine pwp_exit (exit_seq ?_)
 clear hK10 K10
 refine exit_loop (exit_here (seq_norm (hK4 _ ?_))); clear hK4 K4
 refine pwp_seq_seq (pwp_seq_plain rfl fun K30 hK30 => p_e rfl (e_move (v := .lit _ _ _) rfl) (p_e rfl (e_len rfl (by kernel_rfl)) (p_e rfl (e_move (v := .lit _ _ _) rfl) (p_e rfl (e_len rfl (by kernel_rfl)) (p_e rfl (e_lt rfl rfl) (p_end (hK30 _ ?_))))))); clear hK30 K30
 refine pwp_seq_cond rfl fun K31 hK31 => ⟨fun hb32 => ?_, fun hb32 => ?_⟩
 ·have hb32R := hb32; try simp only [zz] at hb32
  refine pwp_seq_plain rfl fun K33 hK33 => p_e rfl (e_move (v := .lit _ _ _) rfl) (p_e rfl (e_len rfl (by kernel_rfl)) (p_aS rfl (p_aS rfl (p_end (hK33 _ ?_))))); clear hK33 K33
  refine pwp_ret (ret_seq (end2 (v := .sc _) (w := .sc _) rfl rfl ?_))
  exact pr2 ((acc_11 hac (by omega) (by rw [ndX_len]; simp only [List.length_map] at *; omega)).trans (by simp only [List.length_map]))
 have hb32R := hb32; try simp only [zz] at hb32
 refine pwp_skip (seq_norm (hK31 _ ?_)); clear hK31 K31
 refine pwp_seq_plain rfl fun K34 hK34 => p_aS rfl (p_aS rfl (p_end (hK34 _ ?_))); clear hK34 K34
 refine pwp_ret (end2 (v := .sc _) (w := .sc _) rfl rfl ?_)
 exact pr2 (acc_ok hac (by omega) (by rw [ndX_len]; simp only [List.length_map] at *; omega))

end Go.Proofs.Ytjmjiegplnfiiaa

/- The reverse of a plan, as the program makes it. No conditions. -/
set_option linter.unusedSimpArgs false
set_option linter.unusedVariables false
set_option maxRecDepth 100000
namespace Go.Proofs.Ytjmjiegplnfiiaa
open Go Go.Pv
/-! ### The reverse plan -/
theorem usL_len {nd : List (List Int)} : (usL nd).length = nd.length := by simp [usL]

end Go.Proofs.Ytjmjiegplnfiiaa

/- The reverse of a plan, as the reference makes it. No conditions. -/
set_option linter.unusedSimpArgs false
set_option linter.unusedVariables false
set_option maxRecDepth 100000
namespace Go.Proofs.Ytjmjiegplnfiiaa
open Go Go.Pv
/-! ### The reverse plan of the reference -/
end Go.Proofs.Ytjmjiegplnfiiaa

/- Orders, handlings and orders of the reverse plan. No conditions. -/
set_option linter.unusedSimpArgs false
set_option linter.unusedVariables false
set_option maxRecDepth 100000
namespace Go.Proofs.Ytjmjiegplnfiiaa
open Go Go.Pv

def acpX (xs : List Task) (ds : List Int) : Int × Int := if planE xs ≠ 0 then (0, planE xs) else accR (ndX xs) ds
def hndK (xs : List Task) (ds : List Int) : Nat → Int
 | 0 => 0
 | k + 1 => hndK xs ds k + if 0 < k ∧ plc xs (at0 ds (k - 1)) ≠ plc xs (at0 ds k) then 1 else 0
def hndX (xs : List Task) (ds : List Int) : Int × Int := if (acpX xs ds).2 ≠ 0 then (0, (acpX xs ds).2) else (hndK xs ds ds.length, 0)
section
variable {xs : List Task} {ds : List Int} {k : Nat}
theorem acp_e (h : planE xs ≠ 0) : acpX xs ds = (0, planE xs) := if_pos h
theorem acp_0 (h : planE xs = 0) : acpX xs ds = accR (ndX xs) ds := if_neg (fun q => q h)
theorem hnd_e (h : (acpX xs ds).2 ≠ 0) : hndX xs ds = (0, (acpX xs ds).2) := if_pos h
theorem hnd_0 (h : (acpX xs ds).2 = 0) : hndX xs ds = (hndK xs ds ds.length, 0) := if_neg (fun q => q h)
theorem hndK_b : ∀ k : Nat, 0 ≤ hndK xs ds k ∧ hndK xs ds k ≤ k
 | 0 => by unfold hndK; omega
 | k + 1 => by
   have := hndK_b k
   unfold hndK
   split <;> omega
theorem hndK_t (h0 : 0 < k) (h : plc xs (at0 ds (k - 1)) ≠ plc xs (at0 ds k)) {n : Int} (hn : n = hndK xs ds k) : n + 1 = hndK xs ds (k + 1) := by rw [hndK, if_pos ⟨h0, h⟩, hn]
theorem hndK_f (h : ¬ (0 < k ∧ plc xs (at0 ds (k - 1)) ≠ plc xs (at0 ds k))) {n : Int} (hn : n = hndK xs ds k) : n = hndK xs ds (k + 1) := by rw [hndK, if_neg h, hn]; omega
theorem plc_eq {z : Int} {x : Task} (hx : xs[z.toNat]? = some x) : plc xs z = x.place := by
 rw [plc, List.getD_eq_getElem?_getD, hx]; rfl
theorem accR_all {nd : List (List Int)} (h : (accR nd ds).2 = 0) : ∀ z ∈ ds, 0 ≤ z ∧ z < nd.length := fun z hz => by
 obtain ⟨i, hi, rfl⟩ := mem_at0 hz
 have h0 : ∀ k, k < ds.length → accE nd (ds.take k) (at0 ds k) = 0 := fun k hk => by
   rw [accR] at h
   split at h
   · rename_i j hj
     rw [List.find?_range_eq_some] at hj
     exact absurd h (of_decide_eq_true hj.1)
   · rename_i hj
     rw [List.find?_eq_none] at hj
     have := hj k (List.mem_range.2 hk)
     simpa using this
 exact acE_in (h0 i hi)
theorem rngOK (h : planE xs = 0) (hq : Fair xs) : RngOK xs := fun x hx => by
 obtain ⟨i, hi⟩ := List.getElem?_of_mem hx
 exact ⟨(hq x hx).1, (task_ok h hi).2.2.2.1⟩
end
theorem fr37 : (inFrame Try.f37.ntmps (Try.f37.body.getD .skip) && Try.f37.results.toList.all (resScope Try.f37.ntmps)) = true := by kernel_rfl
theorem AcceptX (xs : List Task) (ds : List Int) (hfw : (xs.length : Int) ≤ 15 ∧ Fair xs) (hdl : ds.length ≤ 30) : PCalls Try.prog 37 [.lit true 6 (xs.map Task.enc), .lit true 1 (ds.map ci)] (.tup [.int (acpX xs ds).1, .int (acpX xs ds).2]) := by
 refine PCalls.of_code Try.func37 rfl rfl (by kernel_rfl) mixed fr37 (by show _ ≤ 17; simp) (pure_2 (.sc _) (.sc _)) (pwp_seq_plain rfl fun K1 hK1 => p_aS rfl (p_aS rfl (p_end (hK1 _ ?_)))); clear hK1 K1
 refine pwp_seq_seq (pwp_seq_plain rfl fun K2 hK2 => p_e rfl (e_move (v := .lit _ _ _) rfl) (p_call rfl (.cons inn_lit .nil) (CheckC _ (by omega) hfw.2) (p_aS rfl (p_end (hK2 _ ?_))))); clear hK2 K2
 refine pwp_seq_seq (pwp_seq_plain rfl fun K3 hK3 => p_mS rfl (p_e rfl (e_ne rfl rfl) (p_end (hK3 _ ?_)))); clear hK3 K3
 refine pwp_seq_cond rfl fun K4 hK4 => ⟨fun hb5 => ?_, fun hb5 => ?_⟩
 ·have hb5R := hb5; try simp only [zz] at hb5
  refine pwp_seq_plain rfl fun K6 hK6 => p_mS rfl (p_aS rfl (p_aS rfl (p_end (hK6 _ ?_)))); clear hK6 K6
  refine pwp_ret (ret_seq (end2 (v := .sc _) (w := .sc _) rfl rfl ?_))
  exact pr2 (acp_e (by assumption))
 have hb5R := hb5; try simp only [zz] at hb5
 refine pwp_skip (seq_norm (hK4 _ ?_)); clear hK4 K4
 have hp : planE xs = 0 := (by assumption)
 refine pwp_seq_plain rfl fun K7 hK7 => p_e rfl (e_move (v := .lit _ _ _) rfl) (p_e rfl (e_move (v := .lit _ _ _) rfl) (p_call rfl (.cons inn_lit (.cons inn_lit .nil)) (acceptC _ _ (by omega) hdl (rngOK hp hfw.2)) (p_e rfl (e_ext (v := .sc _) rfl (by simp) rfl) (p_e rfl (e_ext (v := .sc _) rfl (by simp) rfl) (p_aS rfl (p_aS rfl ?_))))))
 refine p_end (hK7 _ ?_); clear hK7 K7
 refine pwp_ret (end2 (v := .sc _) (w := .sc _) rfl rfl ?_)
 exact (by rw [acp_0 hp]; exact pr2 rfl)

theorem fr38 : (inFrame Try.f38.ntmps (Try.f38.body.getD .skip) && Try.f38.results.toList.all (resScope Try.f38.ntmps)) = true := by kernel_rfl
theorem HandlingsX (xs : List Task) (ds : List Int) (hfw : (xs.length : Int) ≤ 15 ∧ Fair xs) (hdl : ds.length ≤ 30) : PCalls Try.prog 38 [.lit true 6 (xs.map Task.enc), .lit true 1 (ds.map ci)] (.tup [.int (hndX xs ds).1, .int (hndX xs ds).2]) := by
 refine PCalls.of_code Try.func38 rfl rfl (by kernel_rfl) mixed fr38 (by show _ ≤ 50; simp) (pure_2 (.sc _) (.sc _)) (pwp_seq_plain rfl fun K1 hK1 => p_aS rfl (p_aS rfl (p_end (hK1 _ ?_)))); clear hK1 K1
 refine pwp_seq_seq (pwp_seq_plain rfl fun K2 hK2 => p_e rfl (e_move (v := .lit _ _ _) rfl) (p_e rfl (e_move (v := .lit _ _ _) rfl) (p_call rfl (.cons inn_lit (.cons inn_lit .nil)) (AcceptX _ _ hfw hdl) (p_e rfl (e_move (v := .tup _) rfl) (p_e rfl (e_ext (v := .sc _) rfl (by simp) rfl) (p_e rfl (e_ext (v := .sc _) rfl (by simp) rfl) ?_))))))
 refine p_aS rfl (p_aS rfl (p_end (hK2 _ ?_))); clear hK2 K2
 refine pwp_seq_seq (pwp_seq_plain rfl fun K3 hK3 => p_mS rfl (p_e rfl (e_ne rfl rfl) (p_end (hK3 _ ?_)))); clear hK3 K3
 refine pwp_seq_cond rfl fun K4 hK4 => ⟨fun hb5 => ?_, fun hb5 => ?_⟩
 ·have hb5R := hb5; try simp only [zz] at hb5
  refine pwp_seq_plain rfl fun K6 hK6 => p_mS rfl (p_aS rfl (p_aS rfl (p_end (hK6 _ ?_)))); clear hK6 K6
  refine pwp_ret (ret_seq (end2 (v := .sc _) (w := .sc _) rfl rfl ?_))
  exact pr2 (hnd_e (by assumption))
 have hb5R := hb5; try simp only [zz] at hb5
 refine pwp_skip (seq_norm (hK4 _ ?_)); clear hK4 K4
 refine pwp_seq_plain rfl fun K7 hK7 => p_aS rfl (p_end (hK7 _ ?_)); clear hK7 K7
 refine pwp_seq_seq ?_
 have ha : (acpX xs ds).2 = 0 := (by assumption)
 have hdr : ∀ z ∈ ds, 0 ≤ z ∧ z < (xs.length : Int) := fun z hz => by (by_cases hp : planE xs = 0); (rw [acp_0 hp] at ha; have := accR_all ha z hz; rw [ndX_len] at this; exact this); (rw [acp_e hp] at ha; exact absurd ha hp)
 refine pwp_seq_plain rfl fun K8 hK8 => p_e rfl (e_move (v := .lit _ _ _) rfl) (p_e rfl (e_len rfl (by kernel_rfl)) (p_mS rfl (p_end (hK8 _ ?_)))); clear hK8 K8
 refine pwp_seq_block fun K9 hK9 => pwp_loopR (α := Nat × Int) [0, 1, 20, 21] (fun (a10 : Nat × Int) => [(8, .int (a10.2)), (22, .int (a10.1))]) (fun (a10 : Nat × Int) (h : Heap) (_ : Nat → Nat) => ((a10.1) ≤ ds.length) ∧ ((a10.2) = hndK xs ds (a10.1))) (fun (a10 : Nat × Int) => ds.length - (a10.1)) (0, 0) (by exact ⟨rfl, rfl, trivial⟩) (by exact ⟨by exact Nat.zero_le _, by exact rfl⟩) fun a10 r11 h12 c13 hj14 => ?_
 obtain ⟨k, n⟩ := a10
 obtain ⟨hk, hnn⟩ := hj14
 try dsimp only at hk
 try dsimp only at hnn
 show pwp _ _ (loopQ _ _ _) ⟨sets (mix _ _ _) [(8, .int n), (22, .int k)], _, _⟩
 refine pwp_seq_plain rfl fun K15 hK15 => p_e rfl (e_lt rfl rfl) (p_end (hK15 _ ?_)); clear hK15 K15
 refine pwp_seq_cond rfl fun K16 hK16 => ⟨fun hb17 => ?_, fun hb17 => ?_⟩
 ·have hb17R := hb17; try simp only [zz] at hb17
  have hyr := hdr _ (at0_mem (l := ds) (i := k) (by simp only [List.length_map] at *; omega))
  have hxr := hdr _ (at0_mem (l := ds) (i := k - 1) (by simp only [List.length_map] at *; omega))
  obtain ⟨y, hy, _, _⟩ := get_lt (xs := xs) (i := (at0 ds k).toNat) (by omega)
  obtain ⟨x, hx, _, _⟩ := get_lt (xs := xs) (i := (at0 ds (k - 1)).toNat) (by omega)
  have hpx := plc_eq hx; have hpy := plc_eq hy
  have hnb := hndK_b (xs := xs) (ds := ds) k
  refine pwp_skip (seq_norm (hK16 _ ?_)); clear hK16 K16
  refine pwp_seq_block fun K18 hK18 => pwp_seq_plain rfl fun K19 hK19 => p_mS rfl (p_e rfl (e_ixL rfl rfl) (p_e rfl (e_load (v := .sc _) rfl (by kernel_rfl) (by kernel_rfl) (by kernel_rfl) (by first | omega | (simp only [List.length_map]; omega)) (by decide) ((cell_map (at0_get (l := ds) (i := k) (by simp only [List.length_map] at *; omega)) _).trans rfl)) (p_aS rfl (p_aS rfl (p_end (hK19 _ ?_)))))); clear hK19 K19
  refine pwp_seq_gops rfl fun K20 hK20 => g_begin (g_mS rfl rfl (g_e rfl (e_gt rfl rfl) (g_mS rfl rfl ?_)))
  refine g_cases (fun hb21 => ?_) (fun hb21 => ?_)
  ·have hb21R := hb21; try simp only [zz] at hb21
   refine g_e rfl (e_move (v := .lit _ _ _) rfl) (g_e rfl (e_move (v := .lit _ _ _) rfl) (g_mS rfl rfl (g_e rfl (e_sub rfl rfl (by first | omega | (simp only [List.length_map] at *; omega))) (g_e rfl (e_ixL rfl rfl) (g_e rfl (e_load (v := .sc _) rfl (by kernel_rfl) (by kernel_rfl) (by kernel_rfl) (by first | omega | (simp only [List.length_map]; omega)) (by decide) ((cell_map (at0_prev (l := ds) (k := k) (by omega) (by simp only [List.length_map] at *; omega)) _).trans rfl)) (g_e rfl (e_ixL rfl rfl) (g_e rfl (e_fb pl6 rfl) ?_)))))))
   refine g_e rfl (e_load (v := .sc _) rfl (by kernel_rfl) (by kernel_rfl) (by kernel_rfl) (by first | omega | (simp only [List.length_map]; omega)) (by decide) ((cell_map hx _).trans rfl)) (g_e rfl (e_move (v := .lit _ _ _) rfl) (g_mS rfl rfl (g_e rfl (e_ixL rfl rfl) (g_e rfl (e_fb pl6 rfl) (g_e rfl (e_load (v := .sc _) rfl (by kernel_rfl) (by kernel_rfl) (by kernel_rfl) (by first | omega | (simp only [List.length_map]; omega)) (by decide) ((cell_map hy _).trans rfl)) (g_e rfl (e_ne rfl rfl) (g_pT rfl rfl rfl ?_)))))))
   refine g_end (ds := [30, 31, 32, 33, 34, 35, 36, 37, 38, 39, 40, 41, 42, 43, 44]) (by kernel_rfl) rfl (hK20 _ ?_); clear hK20 K20
   refine pwp_cond rfl (fun hb22 => ?_) (fun hb22 => ?_)
   ·have hb22R := hb22; try simp only [zz] at hb22
    refine pwp_plain rfl fun K23 hK23 => p_mS rfl (p_e rfl (e_adL rfl rfl) (p_aS rfl (p_end (hK23 _ ?_)))); clear hK23 K23
    refine block_norm (seq_norm (hK18 _ ?_)); clear hK18 K18
    refine pwp_plain rfl fun K24 hK24 => p_e rfl (e_adL rfl rfl) (p_mS rfl (p_end (hK24 _ ?_))); clear hK24 K24
    exact loop_again ((k + 1, (n + (1)))) (by show _ < _; simp only; omega) ⟨rfl, rfl, rfl, rfl, trivial⟩ ⟨rfl, rfl, trivial⟩ (by exact ⟨by show _ + 1 ≤ _; simp only [List.length_map] at *; omega, by first | exact hndK_t (n := n) (by omega) (by rw [hpx, hpy]; assumption) hnn | exact hndK_f (n := n) (by rw [hpx, hpy]; omega) hnn⟩)
   have hb22R := hb22; try simp only [zz] at hb22
   refine pwp_skip (block_norm (seq_norm (hK18 _ ?_))); clear hK18 K18
   refine pwp_plain rfl fun K25 hK25 => p_e rfl (e_adL rfl rfl) (p_mS rfl (p_end (hK25 _ ?_))); clear hK25 K25
   exact loop_again ((k + 1, n)) (by show _ < _; simp only; omega) ⟨rfl, rfl, rfl, rfl, trivial⟩ ⟨rfl, rfl, trivial⟩ (by exact ⟨by show _ + 1 ≤ _; simp only [List.length_map] at *; omega, by first | exact hndK_t (n := n) (by omega) (by rw [hpx, hpy]; assumption) hnn | exact hndK_f (n := n) (by rw [hpx, hpy]; omega) hnn⟩)
  have hb21R := hb21; try simp only [zz] at hb21
  iterate 15 refine g_skip rfl rfl rfl ?_
  refine g_pF rfl rfl rfl (g_end (ds := [30, 31, 32, 33, 34, 35, 36, 37, 38, 39, 40, 41, 42, 43, 44]) (by kernel_rfl) rfl (hK20 _ ?_)); clear hK20 K20
  refine pwp_cond (t := false) rfl nofun (fun _ => ?_)
  refine pwp_skip (block_norm (seq_norm (hK18 _ ?_))); clear hK18 K18
  refine pwp_plain rfl fun K26 hK26 => p_e rfl (e_adL rfl rfl) (p_mS rfl (p_end (hK26 _ ?_))); clear hK26 K26
  exact loop_again ((k + 1, n)) (by show _ < _; simp only; omega) ⟨rfl, rfl, rfl, rfl, trivial⟩ ⟨rfl, rfl, trivial⟩ (by exact ⟨by show _ + 1 ≤ _; simp only [List.length_map] at *; omega, by first | exact hndK_t (n := n) (by omega) (by rw [hpx, hpy]; assumption) hnn | exact hndK_f (n := n) (by rw [hpx, hpy]; omega) hnn⟩)
 have hb17R := hb17; try simp only [zz] at hb17
 obtain rfl : k = ds.length := by simp only [List.length_map] at *; omega
 refine pwp_exit (exit_seq ?_)
 clear hK16 K16
 refine exit_loop (exit_here (seq_norm (hK9 _ ?_))); clear hK9 K9
 refine pwp_seq_plain rfl fun K27 hK27 => p_mS rfl (p_aS rfl (p_aS rfl (p_end (hK27 _ ?_)))); clear hK27 K27
 refine pwp_ret (end2 (v := .sc _) (w := .sc _) rfl rfl ?_)
 exact pr2 ((hnd_0 ha).trans (by rw [hnn]))

end Go.Proofs.Ytjmjiegplnfiiaa
