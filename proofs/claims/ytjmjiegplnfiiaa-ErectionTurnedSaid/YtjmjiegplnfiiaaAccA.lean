import Derived.Test.YtjmjiegplnfiiaaStgA
/- Orders that are accepted. No conditions. -/
set_option linter.unusedSimpArgs false
set_option linter.unusedVariables false
set_option maxRecDepth 100000
namespace Go.Proofs.Ytjmjiegplnfiiaa
open Go Go.Pv
/-! ### Orders that are accepted -/
def accE (nd : List (List Int)) (D : List Int) (z : Int) : Int := if ¬ (0 ≤ z ∧ z ≤ (nd.length : Int) - 1) then 6 else if z ∈ D then 5 else if ¬ (∀ y ∈ nd_ nd z.toNat, y ∈ D) then 10 else 0
/-- The place of the first wrong element of an order with its error, or -1. -/
def accR (nd : List (List Int)) (ds : List Int) : Int × Int := match (List.range ds.length).find? fun k => decide (accE nd (ds.take k) (at0 ds k) ≠ 0) with
  | some k => ((k : Int), accE nd (ds.take k) (at0 ds k))
  | none => if ds.length < nd.length then ((ds.length : Int), 11) else (-1, 0)
section
variable {nd : List (List Int)} {ds : List Int} {k : Nat}
theorem acc_hit {e : Int} (hk : k < ds.length) (h : ∀ i, i < k → accE nd (ds.take i) (at0 ds i) = 0) (he : accE nd (ds.take k) (at0 ds k) = e) (hne : e ≠ 0) : accR nd ds = ((k : Int), e) := by
  have : (List.range ds.length).find? (fun k => decide (accE nd (ds.take k) (at0 ds k) ≠ 0)) = some k := by
    rw [List.find?_range_eq_some]
    exact ⟨decide_eq_true (by rw [he]; exact hne), List.mem_range.2 hk, fun j hj => by rw [h j hj]; decide⟩
  rw [accR, this]; simp only [he]
theorem acc_none (h : ∀ i, i < k → accE nd (ds.take i) (at0 ds i) = 0) (hk : ds.length ≤ k) : accR nd ds = if ds.length < nd.length then ((ds.length : Int), 11) else (-1, 0) := by
  have : (List.range ds.length).find? (fun k => decide (accE nd (ds.take k) (at0 ds k) ≠ 0)) = none := by
    rw [List.find?_eq_none]
    intro i hi
    rw [h i (by have := List.mem_range.1 hi; omega)]; decide
  rw [accR, this]
theorem acc_11 (h : ∀ i, i < k → accE nd (ds.take i) (at0 ds i) = 0) (hk : ds.length ≤ k) (hl : ds.length < nd.length) : accR nd ds = ((ds.length : Int), 11) := by rw [acc_none h hk, if_pos hl]
theorem acc_ok (h : ∀ i, i < k → accE nd (ds.take i) (at0 ds i) = 0) (hk : ds.length ≤ k) (hl : ¬ ds.length < nd.length) : accR nd ds = (-1, 0) := by rw [acc_none h hk, if_neg hl]
theorem acE_6 {D : List Int} {z : Int} (h : ¬ (0 ≤ z ∧ z ≤ (nd.length : Int) - 1)) : accE nd D z = 6 := if_pos h
theorem acE_5 {D : List Int} {z : Int} (h : 0 ≤ z ∧ z ≤ (nd.length : Int) - 1) (h2 : z ∈ D) : accE nd D z = 5 := by rw [accE, if_neg (fun q => q h), if_pos h2]
theorem acE_10 {D : List Int} {z : Int} (h : 0 ≤ z ∧ z ≤ (nd.length : Int) - 1) (h2 : z ∉ D) (h3 : ((nd_ nd z.toNat).all fun y => decide (y ∈ D)) = false) : accE nd D z = 10 := by
  rw [accE, if_neg (fun q => q h), if_neg h2, if_pos]
  intro q
  rw [List.all_eq_true.2 (fun y hy => decide_eq_true (q y hy))] at h3; cases h3
theorem acE_0 {D : List Int} {z : Int} (h : 0 ≤ z ∧ z ≤ (nd.length : Int) - 1) (h2 : z ∉ D) (h3 : ((nd_ nd z.toNat).all fun y => decide (y ∈ D)) = true) : accE nd D z = 0 := by
  rw [accE, if_neg (fun q => q h), if_neg h2, if_neg]
  intro q
  exact q fun y hy => of_decide_eq_true (List.all_eq_true.1 h3 y hy)
end
def RngOK (xs : List Task) : Prop := ∀ x ∈ xs, x.needs.length ≤ 1000 ∧ ∀ z ∈ x.needs, 0 ≤ z ∧ z < xs.length

theorem frH115 : (inFrame Try.f115.ntmps (Try.f115.body.getD .skip) && Try.f115.results.toList.all (resScope Try.f115.ntmps)) = true := by kernel_rfl
theorem acc1H (bs : List Bool) (z : Int) (h0 : Heap) (c0 : Nat → Nat) (hb : h0 (6, 0) = some (.rows 1 [[.ref (11, 0) 1 0 bs.length]])) (ho : h0 (11, 0) = some (.rows 1 (bs.map cbo))) (hz : 0 ≤ z ∧ z < bs.length) : HCallsR Try.prog 115 [.int z, .ptr (6, 0) 1 0 0] h0 c0 (fun v h _ => v = .bool (!(bs.getD z.toNat false)) ∧ h = h0) := by
  refine HCallsR.of_code Try.func115 rfl rfl (by kernel_rfl) mixed frH115 (by show _ ≤ 9; simp) ?_
  refine pwp_seq_plain rfl fun K1 hK1 => ?_
  refine p_step rfl (e_assign (v := .sc _) rfl) trivial ?_
  refine p_end (hK1 _ ?_); clear hK1 K1
  refine pwp_seq_plain rfl fun K2 hK2 => ?_
  refine p_step rfl (e_loadH (v := .ref _ _ _ _) rfl hb (by kernel_rfl) (by kernel_rfl) (by kernel_rfl) (by exact Nat.zero_lt_one) (by decide) rfl) trivial ?_
  refine p_step rfl (e_move (v := .sc _) rfl) trivial ?_
  refine p_step rfl (e_ixaR0 rfl rfl (by kernel_rfl) (by kernel_rfl) (by omega)) trivial ?_
  refine p_step rfl (e_loadH (v := .sc _) rfl ho (by kernel_rfl) (by kernel_rfl) (by kernel_rfl) (by simp only [List.length_map]; omega) (by decide) ((cell_map (bs_get hz) _).trans rfl)) trivial ?_
  refine p_step rfl (e_not rfl) trivial ?_
  refine p_step rfl (e_assign (v := .sc _) rfl) trivial ?_
  refine p_end (hK2 _ ?_); clear hK2 K2
  refine pwp_ret ?_
  refine end1 (v := .sc _) rfl ?_
  exact ⟨rfl, rfl⟩

theorem frH114 : (inFrame Try.f114.ntmps (Try.f114.body.getD .skip) && Try.f114.results.toList.all (resScope Try.f114.ntmps)) = true := by kernel_rfl
theorem accIxH (bs : List Bool) (l : List Int) (h0 : Heap) (c0 : Nat → Nat) (hb : h0 (6, 0) = some (.rows 1 [[.ref (11, 0) 1 0 bs.length]])) (ho : h0 (11, 0) = some (.rows 1 (bs.map cbo))) (hl : l.length ≤ 1000000) (hz : ∀ z ∈ l, 0 ≤ z ∧ z < bs.length) : HCallsR Try.prog 114 [.lit true 1 (l.map ci), .func (.func 115) [] [.ptr (6, 0) 1 0 0]] h0 c0 (fun v h _ => v = .int (ixI (fun z : Int => !(bs.getD z.toNat false)) l) ∧ h = h0) := by
  refine HCallsR.of_code Try.func114 rfl rfl (by kernel_rfl) mixed frH114 (by show _ ≤ 19; simp) ?_
  refine pwp_seq_plain rfl fun K1 hK1 => ?_
  refine p_step rfl (e_assign (v := .sc _) rfl) trivial ?_
  refine p_end (hK1 _ ?_); clear hK1 K1
  refine pwp_seq_seq ?_
  refine pwp_seq_plain rfl fun K2 hK2 => ?_
  refine p_step rfl (e_move (v := .lit _ _ _) rfl) trivial ?_
  refine p_step rfl (e_len rfl (by kernel_rfl)) trivial ?_
  refine p_step rfl (e_move (v := .sc _) rfl) trivial ?_
  refine p_end (hK2 _ ?_); clear hK2 K2
  refine pwp_seq_block fun K3 hK3 => ?_
  refine pwp_loopR (α := Nat) [0, 1, 7] (fun (k : Nat) => [(8, .int (k))]) (fun (k : Nat) (h : Heap) (_ : Nat → Nat) => ((k) ≤ l.length) ∧ (∀ i, i < (k) → (fun z : Int => !(bs.getD z.toNat false)) (at0 l i) = false) ∧ (h = h0) ∧ (h (6, 0) = some (.rows 1 [[.ref (11, 0) 1 0 bs.length]])) ∧ (h (11, 0) = some (.rows 1 (bs.map cbo)))) (fun (k : Nat) => l.length - (k)) (0) (by exact ⟨rfl, trivial⟩) (by exact ⟨by exact Nat.zero_le _, by exact upto_0, by exact rfl, hb, ho⟩) fun k r4 h5 c6 hj7 => ?_
  obtain ⟨hk, hin, hhe, hihj7_0, hihj7_1⟩ := hj7
  try dsimp only at hk
  try dsimp only at hin
  try dsimp only at hhe
  try dsimp only at hihj7_0
  try dsimp only at hihj7_1
  show pwp _ _ (loopQ _ _ _) ⟨sets (mix _ _ _) [(8, .int k)], _, _⟩
  refine pwp_seq_plain rfl fun K8 hK8 => ?_
  refine p_step rfl (e_lt rfl rfl) trivial ?_
  refine p_end (hK8 _ ?_); clear hK8 K8
  refine pwp_seq_cond rfl fun K9 hK9 => ⟨fun hb10 => ?_, fun hb10 => ?_⟩
  ·have hb10R := hb10; try simp only [z1, z2, z3, z4, z5, z6, ne_eq, z7, z8, z9, z10, z11, z12] at hb10
   subst hhe
   refine pwp_skip ?_
   refine seq_norm (hK9 _ ?_); clear hK9 K9
   refine pwp_seq_block fun K11 hK11 => ?_
   refine pwp_seq_plain rfl fun K12 hK12 => ?_
   refine p_step rfl (e_move (v := .sc _) rfl) trivial ?_
   refine p_step rfl (e_assign (v := .sc _) rfl) trivial ?_
   refine p_end (hK12 _ ?_); clear hK12 K12
   refine pwp_seq_plain rfl fun K13 hK13 => ?_
   refine p_step rfl (e_move (v := .func _ _ _) rfl) trivial ?_
   refine p_step rfl (e_move (v := .lit _ _ _) rfl) trivial ?_
   refine p_step rfl (e_move (v := .sc _) rfl) trivial ?_
   refine p_step rfl (e_ixa rfl rfl (by kernel_rfl) (by kernel_rfl) (by first | omega | (simp only [List.length_map]; omega))) trivial ?_
   refine p_step rfl (e_load (v := .sc _) rfl (by kernel_rfl) (by kernel_rfl) (by kernel_rfl) (by first | omega | (simp only [List.length_map]; omega)) (by decide) ((cell_map (at0_get (l := l) (i := k) (by simp only [List.length_map] at *; omega)) _).trans rfl)) trivial ?_
   refine p_hcall rfl (acc1H bs (at0 l k) _ _ hihj7_0 hihj7_1 (hz _ (at0_mem (by simp only [List.length_map] at *; omega)))) fun v14 h15 c16 hR17 => ?_
   obtain ⟨rfl, rfl⟩ := hR17
   refine p_end (hK13 _ ?_); clear hK13 K13
   refine pwp_cond rfl (fun hb18 => ?_) (fun hb18 => ?_)
   ·have hb18R := hb18; try simp only [z1, z2, z3, z4, z5, z6, ne_eq, z7, z8, z9, z10, z11, z12] at hb18
    refine pwp_seq_plain rfl fun K19 hK19 => ?_
    refine p_step rfl (e_move (v := .sc _) rfl) trivial ?_
    refine p_step rfl (e_assign (v := .sc _) rfl) trivial ?_
    refine p_end (hK19 _ ?_); clear hK19 K19
    refine pwp_ret ?_
    refine ret_block ?_
    refine ret_seq ?_
    refine ret_loop ?_
    refine ret_block ?_
    refine ret_seq ?_
    refine end1 (v := .sc _) rfl ?_
    first
      | exact ⟨congrArg PV.int (ixI_hit (K := (fun z : Int => !(bs.getD z.toNat false))) (k := k) (by simp only [List.length_map] at *; omega) hin (by show (!(bs.getD (at0 l k).toNat false)) = true; first | assumption | simp_all)), rfl⟩
      | exact ⟨congrArg PV.int (ixI_no (K := (fun z : Int => !(bs.getD z.toNat false))) hin (by simp only [List.length_map] at *; omega)), rfl⟩
   ·have hb18R := hb18; try simp only [z1, z2, z3, z4, z5, z6, ne_eq, z7, z8, z9, z10, z11, z12] at hb18
    refine pwp_skip ?_
    refine block_norm ?_
    refine seq_norm (hK11 _ ?_); clear hK11 K11
    refine pwp_plain rfl fun K20 hK20 => ?_
    refine p_step rfl (e_add rfl rfl (by first | omega | (simp only [List.length_map] at *; omega))) trivial ?_
    refine p_step rfl (e_move (v := .sc _) rfl) trivial ?_
    refine p_end (hK20 _ ?_); clear hK20 K20
    exact loop_again (k + 1) (by show _ < _; omega) ⟨rfl, rfl, rfl, trivial⟩ ⟨rfl, trivial⟩ (by exact ⟨by show _ + 1 ≤ _; simp only [List.length_map] at *; omega, by exact upto_step (p := fun i => (fun z : Int => !(bs.getD z.toNat false)) (at0 l i) = false) hin (by show (!(bs.getD (at0 l k).toNat false)) = false; first | assumption | simp_all), by exact rfl, hihj7_0, hihj7_1⟩)
  ·have hb10R := hb10; try simp only [z1, z2, z3, z4, z5, z6, ne_eq, z7, z8, z9, z10, z11, z12] at hb10
   subst hhe
   refine pwp_exit ?_
   refine exit_seq ?_
   clear hK9 K9
   refine exit_loop ?_
   refine exit_here ?_
   refine seq_norm (hK3 _ ?_); clear hK3 K3
   refine pwp_seq_plain rfl fun K21 hK21 => ?_
   refine p_step rfl (e_assign (v := .sc _) rfl) trivial ?_
   refine p_end (hK21 _ ?_); clear hK21 K21
   refine pwp_ret ?_
   refine end1 (v := .sc _) rfl ?_
   first
     | exact ⟨congrArg PV.int (ixI_hit (K := (fun z : Int => !(bs.getD z.toNat false))) (k := k) (by simp only [List.length_map] at *; omega) hin (by show (!(bs.getD (at0 l k).toNat false)) = true; first | assumption | simp_all)), rfl⟩
     | exact ⟨congrArg PV.int (ixI_no (K := (fun z : Int => !(bs.getD z.toNat false))) hin (by simp only [List.length_map] at *; omega)), rfl⟩

theorem frH79 : (inFrame Try.f79.ntmps (Try.f79.body.getD .skip) && Try.f79.results.toList.all (resScope Try.f79.ntmps)) = true := by kernel_rfl
theorem accAnyH (bs : List Bool) (l : List Int) (h0 : Heap) (c0 : Nat → Nat) (hb : h0 (6, 0) = some (.rows 1 [[.ref (11, 0) 1 0 bs.length]])) (ho : h0 (11, 0) = some (.rows 1 (bs.map cbo))) (hl : l.length ≤ 1000000) (hz : ∀ z ∈ l, 0 ≤ z ∧ z < bs.length) : HCallsR Try.prog 79 [.lit true 1 (l.map ci), .func (.func 115) [] [.ptr (6, 0) 1 0 0]] h0 c0 (fun v h _ => v = .bool (!(hasB bs l)) ∧ h = h0) := by
  refine HCallsR.of_code Try.func79 rfl rfl (by kernel_rfl) mixed frH79 (by show _ ≤ 9; simp) ?_
  refine pwp_seq_plain rfl fun K1 hK1 => ?_
  refine p_step rfl (e_assign (v := .sc _) rfl) trivial ?_
  refine p_end (hK1 _ ?_); clear hK1 K1
  refine pwp_seq_plain rfl fun K2 hK2 => ?_
  refine p_step rfl (e_move (v := .lit _ _ _) rfl) trivial ?_
  refine p_step rfl (e_move (v := .func _ _ _) rfl) trivial ?_
  refine p_hcall rfl (accIxH bs l _ _ hb ho hl hz) fun v3 h4 c5 hR6 => ?_
  obtain ⟨rfl, rfl⟩ := hR6
  refine p_step rfl (e_ge rfl rfl) trivial ?_
  refine p_step rfl (e_assign (v := .sc _) rfl) trivial ?_
  refine p_end (hK2 _ ?_); clear hK2 K2
  refine pwp_ret ?_
  refine end1 (v := .sc _) rfl ?_
  exact ⟨congrArg PV.bool (ixI_any.trans (any_has bs l)), rfl⟩

theorem fr82 : (inFrame Try.f82.ntmps (Try.f82.body.getD .skip) && Try.f82.results.toList.all (resScope Try.f82.ntmps)) = true := by kernel_rfl
theorem acceptC (xs : List Task) (ds : List Int) (hxl : xs.length ≤ 15) (hdl : ds.length ≤ 30) (hr : RngOK xs) : PCalls Try.prog 82 [.lit true 6 (xs.map Task.enc), .lit true 1 (ds.map ci)] (.tup [.int (accR (ndX xs) ds).1, .int (accR (ndX xs) ds).2]) := by
  refine PCalls.of_code Try.func82 rfl rfl (by kernel_rfl) mixed fr82 (by show _ ≤ 53; simp) (pure_2 (.sc _) (.sc _)) ?_
  refine pwp_seq_plain rfl fun K1 hK1 => ?_
  refine p_step rfl (e_assign (v := .sc _) rfl) trivial ?_
  refine p_step rfl (e_assign (v := .sc _) rfl) trivial ?_
  refine p_end (hK1 _ ?_); clear hK1 K1
  refine pwp_seq_plain rfl fun K2 hK2 => ?_
  refine p_step rfl (e_move (v := .lit _ _ _) rfl) trivial ?_
  refine p_step rfl (e_len rfl (by kernel_rfl)) trivial ?_
  refine p_new rfl (e_mkB (n := xs.length) rfl rfl (by rw [List.length_map]) (by kernel_rfl) (by kernel_rfl) (by kernel_rfl) (by decide +kernel) (by omega)) trivial ?_
  rw [← doneB_nil (n := xs.length), ← List.take_zero (l := ds)]
  refine p_new rfl (e_alloc (cs := [.nil]) (n := 1) (by kernel_rfl) rfl (by decide)) (ob_alloc (by decide)) ?_
  refine p_store rfl (e_store1 rfl (hset_self _ _ _) rfl rfl rfl (by decide) (by kernel_rfl) rfl (by kernel_rfl)) trivial ?_
  refine p_end (hK2 _ ?_); clear hK2 K2
  refine pwp_seq_seq ?_
  refine pwp_seq_plain rfl fun K3 hK3 => ?_
  refine p_step rfl (e_move (v := .lit _ _ _) rfl) trivial ?_
  refine p_step rfl (e_len rfl (by kernel_rfl)) trivial ?_
  refine p_step rfl (e_move (v := .sc _) rfl) trivial ?_
  refine p_end (hK3 _ ?_); clear hK3 K3
  refine pwp_seq_block fun K4 hK4 => ?_
  refine pwp_loopR (α := Nat) [0, 1, 6, 12, 13] (fun (k : Nat) => [(14, .int (k))]) (fun (k : Nat) (h : Heap) (_ : Nat → Nat) => ((k) ≤ ds.length) ∧ (∀ i, i < (k) → accE (ndX xs) (ds.take i) (at0 ds i) = 0) ∧ (h (6, 0) = some (.rows 1 [[.ref (11, 0) 1 0 xs.length]])) ∧ (h (11, 0) = some (.rows 1 ((doneB xs.length (ds.take (k))).map cbo)))) (fun (k : Nat) => ds.length - (k)) (0) (by exact ⟨rfl, trivial⟩) (by exact ⟨by exact Nat.zero_le _, by exact upto_0, (hset_self _ _ _), ((hset_ne (key_ne rfl)).trans ((hset_ne (key_ne rfl)).trans (hset_self _ _ _)))⟩) fun k r5 h6 c7 hj8 => ?_
  obtain ⟨hk, hac, hihj8_0, hihj8_1⟩ := hj8
  try dsimp only at hk
  try dsimp only at hac
  try dsimp only at hihj8_0
  try dsimp only at hihj8_1
  show pwp _ _ (loopQ _ _ _) ⟨sets (mix _ _ _) [(14, .int k)], _, _⟩
  refine pwp_seq_plain rfl fun K9 hK9 => ?_
  refine p_step rfl (e_lt rfl rfl) trivial ?_
  refine p_end (hK9 _ ?_); clear hK9 K9
  refine pwp_seq_cond rfl fun K10 hK10 => ⟨fun hb11 => ?_, fun hb11 => ?_⟩
  ·have hb11R := hb11; try simp only [z1, z2, z3, z4, z5, z6, ne_eq, z7, z8, z9, z10, z11, z12] at hb11
   refine pwp_skip ?_
   refine seq_norm (hK10 _ ?_); clear hK10 K10
   refine pwp_seq_block fun K12 hK12 => ?_
   refine pwp_seq_plain rfl fun K13 hK13 => ?_
   refine p_step rfl (e_move (v := .sc _) rfl) trivial ?_
   refine p_step rfl (e_ixa rfl rfl (by kernel_rfl) (by kernel_rfl) (by first | omega | (simp only [List.length_map]; omega))) trivial ?_
   refine p_step rfl (e_load (v := .sc _) rfl (by kernel_rfl) (by kernel_rfl) (by kernel_rfl) (by first | omega | (simp only [List.length_map]; omega)) (by decide) ((cell_map (at0_get (l := ds) (i := k) (by simp only [List.length_map] at *; omega)) _).trans rfl)) trivial ?_
   refine p_step rfl (e_assign (v := .sc _) rfl) trivial ?_
   refine p_step rfl (e_assign (v := .sc _) rfl) trivial ?_
   refine p_end (hK13 _ ?_); clear hK13 K13
   refine pwp_seq_block fun K14 hK14 => ?_
   refine pwp_seq_plain rfl fun K15 hK15 => ?_
   refine p_step rfl (e_move (v := .sc _) rfl) trivial ?_
   refine p_step rfl (e_move (v := .lit _ _ _) rfl) trivial ?_
   refine p_step rfl (e_len rfl (by kernel_rfl)) trivial ?_
   refine p_step rfl (e_sub rfl rfl (by first | omega | (simp only [List.length_map] at *; omega))) trivial ?_
   refine p_call rfl (.cons inn_sc (.cons inn_sc (.cons inn_sc .nil))) (within _ _ _) ?_
   refine p_step rfl (e_not rfl) trivial ?_
   refine p_step rfl (e_assign (v := .sc _) rfl) trivial ?_
   refine p_end (hK15 _ ?_); clear hK15 K15
   refine pwp_cond rfl (fun hb16 => ?_) (fun hb16 => ?_)
   ·have hb16R := hb16; try simp only [z1, z2, z3, z4, z5, z6, ne_eq, z7, z8, z9, z10, z11, z12] at hb16
    refine pwp_seq_plain rfl fun K17 hK17 => ?_
    refine p_step rfl (e_move (v := .sc _) rfl) trivial ?_
    refine p_step rfl (e_assign (v := .sc _) rfl) trivial ?_
    refine p_step rfl (e_assign (v := .sc _) rfl) trivial ?_
    refine p_end (hK17 _ ?_); clear hK17 K17
    refine pwp_ret ?_
    refine ret_block ?_
    refine ret_seq ?_
    refine ret_block ?_
    refine ret_seq ?_
    refine ret_loop ?_
    refine ret_block ?_
    refine ret_seq ?_
    refine end2 (v := .sc _) (w := .sc _) rfl rfl ?_
    first
      | exact pr2 (acc_hit (k := k) (by simp only [List.length_map] at *; omega) hac (acE_6 (by rw [ndX_len]; simp only [List.length_map] at *; omega)) (by decide))
      | exact pr2 (acc_hit (k := k) (by simp only [List.length_map] at *; omega) hac (acE_5 hz1 (by assumption)) (by decide))
      | exact pr2 (acc_hit (k := k) (by simp only [List.length_map] at *; omega) hac (acE_10 hz1 (by assumption) (by rw [hxe, ← hxa]; first | assumption | simp_all)) (by decide))
      | exact pr2 ((acc_11 hac (by omega) (by rw [ndX_len]; simp only [List.length_map] at *; omega)).trans (by simp only [List.length_map]))
      | exact pr2 (acc_ok hac (by omega) (by rw [ndX_len]; simp only [List.length_map] at *; omega))
   ·have hb16R := hb16; try simp only [z1, z2, z3, z4, z5, z6, ne_eq, z7, z8, z9, z10, z11, z12] at hb16
    have hz0 : 0 ≤ at0 ds k ∧ at0 ds k ≤ (xs.length : Int) - 1 := by simp only [List.length_map] at *; omega
    have hz1 : 0 ≤ at0 ds k ∧ at0 ds k ≤ ((ndX xs).length : Int) - 1 := by rw [ndX_len]; exact hz0
    obtain ⟨u, hu, hul⟩ : ∃ u : Nat, at0 ds k = (u : Int) ∧ u < xs.length := ⟨(at0 ds k).toNat, by omega, by omega⟩
    obtain ⟨x, hx, _, _⟩ := get_lt (xs := xs) (i := (at0 ds k).toNat) (by omega)
    obtain ⟨hxl1, hxn⟩ := hr x (List.mem_of_getElem? hx)
    have hxa := has_done (D := ds.take k) hxn
    have hxe : nd_ (ndX xs) (at0 ds k).toNat = x.needs := ndX_at hx
    have hdb := doneB_len (n := xs.length) (D := ds.take k)
    refine pwp_seq_plain rfl fun K18 hK18 => ?_
    refine p_step rfl (e_loadH (v := .ref _ _ _ _) rfl hihj8_0 (by kernel_rfl) (by kernel_rfl) (by kernel_rfl) (by exact Nat.zero_lt_one) (by decide) rfl) trivial ?_
    refine p_step rfl (e_move (v := .sc _) rfl) trivial ?_
    refine p_step rfl (e_ixaR0 rfl rfl (by kernel_rfl) (by kernel_rfl) (by (first | omega | (rw [doneB_len]; omega)))) trivial ?_
    refine p_step rfl (e_loadH (v := .sc _) rfl hihj8_1 (by kernel_rfl) (by kernel_rfl) (by kernel_rfl) (by simp only [List.length_map, doneB_len]; omega) (by decide) ((cell_map (done_get (by omega)) _).trans rfl)) trivial ?_
    refine p_step rfl (e_assign (v := .sc _) rfl) trivial ?_
    refine p_end (hK18 _ ?_); clear hK18 K18
    refine pwp_cond rfl (fun hb19 => ?_) (fun hb19 => ?_)
    ·have hb19R := hb19; try simp only [z1, z2, z3, z4, z5, z6, ne_eq, z7, z8, z9, z10, z11, z12] at hb19
     refine pwp_seq_plain rfl fun K20 hK20 => ?_
     refine p_step rfl (e_move (v := .sc _) rfl) trivial ?_
     refine p_step rfl (e_assign (v := .sc _) rfl) trivial ?_
     refine p_step rfl (e_assign (v := .sc _) rfl) trivial ?_
     refine p_end (hK20 _ ?_); clear hK20 K20
     refine pwp_ret ?_
     refine ret_block ?_
     refine ret_seq ?_
     refine ret_block ?_
     refine ret_seq ?_
     refine ret_loop ?_
     refine ret_block ?_
     refine ret_seq ?_
     refine end2 (v := .sc _) (w := .sc _) rfl rfl ?_
     first
       | exact pr2 (acc_hit (k := k) (by simp only [List.length_map] at *; omega) hac (acE_6 (by rw [ndX_len]; simp only [List.length_map] at *; omega)) (by decide))
       | exact pr2 (acc_hit (k := k) (by simp only [List.length_map] at *; omega) hac (acE_5 hz1 (by assumption)) (by decide))
       | exact pr2 (acc_hit (k := k) (by simp only [List.length_map] at *; omega) hac (acE_10 hz1 (by assumption) (by rw [hxe, ← hxa]; first | assumption | simp_all)) (by decide))
       | exact pr2 ((acc_11 hac (by omega) (by rw [ndX_len]; simp only [List.length_map] at *; omega)).trans (by simp only [List.length_map]))
       | exact pr2 (acc_ok hac (by omega) (by rw [ndX_len]; simp only [List.length_map] at *; omega))
    ·have hb19R := hb19; try simp only [z1, z2, z3, z4, z5, z6, ne_eq, z7, z8, z9, z10, z11, z12] at hb19
     refine pwp_seq_plain rfl fun K21 hK21 => ?_
     refine p_step rfl (e_move (v := .lit _ _ _) rfl) trivial ?_
     refine p_step rfl (e_move (v := .sc _) rfl) trivial ?_
     refine p_step rfl (e_ixa rfl rfl (by kernel_rfl) (by kernel_rfl) (by first | omega | (simp only [List.length_map]; omega))) trivial ?_
     refine p_step rfl (e_fa (pl := [(0, 1, false), (1, 1, false), (2, 1, false), (3, 1, false), (4, 1, false), (5, 1, false)]) rfl (by kernel_rfl) (by kernel_rfl) (by decide) rfl) trivial ?_
     refine p_step rfl (e_load (v := .lit _ _ _) rfl (by kernel_rfl) (by kernel_rfl) (by kernel_rfl) (by first | omega | (simp only [List.length_map]; omega)) (by decide) ((cell_map hx _).trans rfl)) trivial ?_
     refine p_step rfl (e_mkf rfl) trivial ?_
     refine p_hcall rfl (accAnyH (doneB xs.length (ds.take k)) x.needs _ _ (by rw [doneB_len]; exact hihj8_0) hihj8_1 (by omega) (by rw [doneB_len]; exact hxn)) fun v22 h23 c24 hR25 => ?_
     obtain ⟨rfl, rfl⟩ := hR25
     refine p_step rfl (e_assign (v := .sc _) rfl) trivial ?_
     refine p_end (hK21 _ ?_); clear hK21 K21
     refine pwp_cond rfl (fun hb26 => ?_) (fun hb26 => ?_)
     ·have hb26R := hb26; try simp only [z1, z2, z3, z4, z5, z6, ne_eq, z7, z8, z9, z10, z11, z12] at hb26
      refine pwp_seq_plain rfl fun K27 hK27 => ?_
      refine p_step rfl (e_move (v := .sc _) rfl) trivial ?_
      refine p_step rfl (e_assign (v := .sc _) rfl) trivial ?_
      refine p_step rfl (e_assign (v := .sc _) rfl) trivial ?_
      refine p_end (hK27 _ ?_); clear hK27 K27
      refine pwp_ret ?_
      refine ret_block ?_
      refine ret_seq ?_
      refine ret_block ?_
      refine ret_seq ?_
      refine ret_loop ?_
      refine ret_block ?_
      refine ret_seq ?_
      refine end2 (v := .sc _) (w := .sc _) rfl rfl ?_
      first
        | exact pr2 (acc_hit (k := k) (by simp only [List.length_map] at *; omega) hac (acE_6 (by rw [ndX_len]; simp only [List.length_map] at *; omega)) (by decide))
        | exact pr2 (acc_hit (k := k) (by simp only [List.length_map] at *; omega) hac (acE_5 hz1 (by assumption)) (by decide))
        | exact pr2 (acc_hit (k := k) (by simp only [List.length_map] at *; omega) hac (acE_10 hz1 (by assumption) (by rw [hxe, ← hxa]; first | assumption | simp_all)) (by decide))
        | exact pr2 ((acc_11 hac (by omega) (by rw [ndX_len]; simp only [List.length_map] at *; omega)).trans (by simp only [List.length_map]))
        | exact pr2 (acc_ok hac (by omega) (by rw [ndX_len]; simp only [List.length_map] at *; omega))
     ·have hb26R := hb26; try simp only [z1, z2, z3, z4, z5, z6, ne_eq, z7, z8, z9, z10, z11, z12] at hb26
      refine pwp_skip ?_
      refine block_norm ?_
      refine seq_norm (hK14 _ ?_); clear hK14 K14
      refine pwp_plain rfl fun K28 hK28 => ?_
      refine p_step rfl (e_loadH (v := .ref _ _ _ _) rfl hihj8_0 (by kernel_rfl) (by kernel_rfl) (by kernel_rfl) (by exact Nat.zero_lt_one) (by decide) rfl) trivial ?_
      refine p_step rfl (e_move (v := .sc _) rfl) trivial ?_
      refine p_step rfl (e_ixaR0 rfl rfl (by kernel_rfl) (by kernel_rfl) (by (first | omega | (rw [doneB_len]; omega)))) trivial ?_
      refine p_store rfl (e_storeB (zs := (doneB xs.length (ds.take k))) (a := true) rfl hihj8_1 rfl (by (first | omega | (rw [doneB_len]; omega))) (by kernel_rfl) (by kernel_rfl)) trivial ?_
      refine p_end (hK28 _ ?_); clear hK28 K28
      refine block_norm ?_
      refine seq_norm (hK12 _ ?_); clear hK12 K12
      refine pwp_plain rfl fun K29 hK29 => ?_
      refine p_step rfl (e_add rfl rfl (by first | omega | (simp only [List.length_map] at *; omega))) trivial ?_
      refine p_step rfl (e_move (v := .sc _) rfl) trivial ?_
      refine p_end (hK29 _ ?_); clear hK29 K29
      exact loop_again (k + 1) (by show _ < _; omega) ⟨rfl, rfl, rfl, rfl, rfl, trivial⟩ ⟨rfl, trivial⟩ (by exact ⟨by show _ + 1 ≤ _; simp only [List.length_map] at *; omega, by exact upto_step (p := fun i => accE (ndX xs) (ds.take i) (at0 ds i) = 0) hac (acE_0 hz1 (by first | assumption | simp_all) (by rw [hxe, ← hxa]; first | assumption | simp_all)), ((hset_ne (key_ne rfl)).trans hihj8_0), ((hset_self _ _ _).trans (by (rw [← done_snoc (by simp only [List.length_map] at *; omega) hu hul, hu]; rfl)))⟩)
  ·have hb11R := hb11; try simp only [z1, z2, z3, z4, z5, z6, ne_eq, z7, z8, z9, z10, z11, z12] at hb11
   obtain rfl : k = ds.length := by simp only [List.length_map] at *; omega
   refine pwp_exit ?_
   refine exit_seq ?_
   clear hK10 K10
   refine exit_loop ?_
   refine exit_here ?_
   refine seq_norm (hK4 _ ?_); clear hK4 K4
   refine pwp_seq_seq ?_
   refine pwp_seq_plain rfl fun K30 hK30 => ?_
   refine p_step rfl (e_move (v := .lit _ _ _) rfl) trivial ?_
   refine p_step rfl (e_len rfl (by kernel_rfl)) trivial ?_
   refine p_step rfl (e_move (v := .lit _ _ _) rfl) trivial ?_
   refine p_step rfl (e_len rfl (by kernel_rfl)) trivial ?_
   refine p_step rfl (e_lt rfl rfl) trivial ?_
   refine p_end (hK30 _ ?_); clear hK30 K30
   refine pwp_seq_cond rfl fun K31 hK31 => ⟨fun hb32 => ?_, fun hb32 => ?_⟩
   ·have hb32R := hb32; try simp only [z1, z2, z3, z4, z5, z6, ne_eq, z7, z8, z9, z10, z11, z12] at hb32
    refine pwp_seq_plain rfl fun K33 hK33 => ?_
    refine p_step rfl (e_move (v := .lit _ _ _) rfl) trivial ?_
    refine p_step rfl (e_len rfl (by kernel_rfl)) trivial ?_
    refine p_step rfl (e_assign (v := .sc _) rfl) trivial ?_
    refine p_step rfl (e_assign (v := .sc _) rfl) trivial ?_
    refine p_end (hK33 _ ?_); clear hK33 K33
    refine pwp_ret ?_
    refine ret_seq ?_
    refine end2 (v := .sc _) (w := .sc _) rfl rfl ?_
    first
      | exact pr2 (acc_hit (k := k) (by simp only [List.length_map] at *; omega) hac (acE_6 (by rw [ndX_len]; simp only [List.length_map] at *; omega)) (by decide))
      | exact pr2 (acc_hit (k := k) (by simp only [List.length_map] at *; omega) hac (acE_5 hz1 (by assumption)) (by decide))
      | exact pr2 (acc_hit (k := k) (by simp only [List.length_map] at *; omega) hac (acE_10 hz1 (by assumption) (by rw [hxe, ← hxa]; first | assumption | simp_all)) (by decide))
      | exact pr2 ((acc_11 hac (by omega) (by rw [ndX_len]; simp only [List.length_map] at *; omega)).trans (by simp only [List.length_map]))
      | exact pr2 (acc_ok hac (by omega) (by rw [ndX_len]; simp only [List.length_map] at *; omega))
   ·have hb32R := hb32; try simp only [z1, z2, z3, z4, z5, z6, ne_eq, z7, z8, z9, z10, z11, z12] at hb32
    refine pwp_skip ?_
    refine seq_norm (hK31 _ ?_); clear hK31 K31
    refine pwp_seq_plain rfl fun K34 hK34 => ?_
    refine p_step rfl (e_assign (v := .sc _) rfl) trivial ?_
    refine p_step rfl (e_assign (v := .sc _) rfl) trivial ?_
    refine p_end (hK34 _ ?_); clear hK34 K34
    refine pwp_ret ?_
    refine end2 (v := .sc _) (w := .sc _) rfl rfl ?_
    first
      | exact pr2 (acc_hit (k := k) (by simp only [List.length_map] at *; omega) hac (acE_6 (by rw [ndX_len]; simp only [List.length_map] at *; omega)) (by decide))
      | exact pr2 (acc_hit (k := k) (by simp only [List.length_map] at *; omega) hac (acE_5 hz1 (by assumption)) (by decide))
      | exact pr2 (acc_hit (k := k) (by simp only [List.length_map] at *; omega) hac (acE_10 hz1 (by assumption) (by rw [hxe, ← hxa]; first | assumption | simp_all)) (by decide))
      | exact pr2 ((acc_11 hac (by omega) (by rw [ndX_len]; simp only [List.length_map] at *; omega)).trans (by simp only [List.length_map]))
      | exact pr2 (acc_ok hac (by omega) (by rw [ndX_len]; simp only [List.length_map] at *; omega))

end Go.Proofs.Ytjmjiegplnfiiaa

/- The reverse of a plan, as the program makes it. No conditions. -/
set_option linter.unusedSimpArgs false
set_option linter.unusedVariables false
set_option maxRecDepth 100000
namespace Go.Proofs.Ytjmjiegplnfiiaa
open Go Go.Pv
/-! ### The reverse plan -/
def mixF (p : Task × Bool) : List PV := [.str p.1.name, .str p.1.trade, .int p.1.member, .int p.1.place, .int p.1.minutes, .lit p.2 1 (p.1.needs.map ci)]
theorem mixF_pure (p : Task × Bool) : ∀ q ∈ mixF p, Pure q := fun q hq => by
  simp only [mixF, List.mem_cons, List.not_mem_nil, or_false] at hq
  rcases hq with rfl | rfl | rfl | rfl | rfl | rfl
  · exact .sc _
  · exact .sc _
  · exact .sc _
  · exact .sc _
  · exact .sc _
  · exact .lit _ _ _ fun row hr => pure_map ci_pure row hr
def Task.encF (x : Task) : List PV := mixF (x, false)
theorem Task.pureF (x : Task) : ∀ q ∈ x.encF, Pure q := mixF_pure _
def revT (xs : List Task) (i : Nat) : Task := { xs.getD i default with needs := usR (ndX xs) (i : Int) }
def revX (xs : List Task) : List Task := (List.range xs.length).map (revT xs)
def mixL (xs : List Task) (k : Nat) : List (Task × Bool) := (List.range xs.length).map fun i => if i < k then (revT xs i, false) else (xs.getD i default, true)
theorem mixL_len {xs : List Task} {k : Nat} : (mixL xs k).length = xs.length := by simp [mixL]
theorem mixL_0 {xs : List Task} : (mixL xs 0).map mixF = xs.map Task.enc := by
  apply List.ext_getElem (by simp [mixL])
  intro i h1 h2
  simp only [mixL, List.getElem_map, List.getElem_range, Nat.not_lt_zero, if_false]
  rw [List.getD_eq_getElem?_getD, List.getElem?_eq_getElem (by simpa using h2)]; rfl
theorem mixL_all {xs : List Task} {k : Nat} (hk : xs.length ≤ k) : (mixL xs k).map mixF = (revX xs).map Task.encF := by
  simp only [mixL, revX, List.map_map]
  refine List.map_congr_left fun i hi => ?_
  have := List.mem_range.1 hi
  simp only [Function.comp, if_pos (show i < k by omega)]; rfl
theorem mixL_get {xs : List Task} {k : Nat} {x : Task} (hx : xs[k]? = some x) : (mixL xs k)[k]? = some (x, true) := by
  have hk := (List.getElem?_eq_some_iff.1 hx).1
  simp only [mixL, List.getElem?_map, List.getElem?_range hk, Option.map_some, Nat.lt_irrefl, if_false, List.getD_eq_getElem?_getD, hx, Option.getD_some]
theorem mixL_set {xs : List Task} {k : Nat} {x : Task} (hx : xs[k]? = some x) : (mixL xs k).set k ({ x with needs := usR (ndX xs) (k : Int) }, false) = mixL xs (k + 1) := by
  have hk := (List.getElem?_eq_some_iff.1 hx).1
  apply List.ext_getElem (by simp [mixL])
  intro i h1 h2
  rw [List.getElem_set]
  simp only [mixL, List.getElem_map, List.getElem_range]
  by_cases e : k = i
  · subst e
    rw [if_pos rfl, if_pos (Nat.lt_succ_self _), revT, List.getD_eq_getElem?_getD, hx]; rfl
  · rw [if_neg e]
    by_cases h : i < k
    · rw [if_pos h, if_pos (by omega)]
    · rw [if_neg h, if_neg (by omega)]
theorem revX_len {xs : List Task} : (revX xs).length = xs.length := by simp [revX]
theorem cleanF (x : Task) : ∀ p ∈ x.encF, Go.Pv.Clean p ∧ p.cell = true := fun p hp => by
  simp only [Task.encF, mixF, List.mem_cons, List.not_mem_nil, or_false] at hp
  rcases hp with rfl | rfl | rfl | rfl | rfl | rfl
  · exact ⟨.sc _, rfl⟩
  · exact ⟨.sc _, rfl⟩
  · exact ⟨.sc _, rfl⟩
  · exact ⟨.sc _, rfl⟩
  · exact ⟨.sc _, rfl⟩
  · exact ⟨.lit _ _ ints_clean, rfl⟩
def revE (xs : List Task) : List Task × Int := if planE xs ≠ 0 then ([], planE xs) else (revX xs, 0)
theorem rev_e {xs : List Task} {h : Heap} (hp : planE xs ≠ 0) : Out h (.tup [.nil, .int (planE xs)]) (.tup [.lit false 6 ((revE xs).1.map Task.encF), .int (revE xs).2]) := by
  rw [revE, if_pos hp]; exact out_2 (.nil 6) (out_i rfl)
theorem rev_0 {xs : List Task} {h : Heap} {v : PV} {k : Nat} (hp : planE xs = 0) (hk : k = xs.length) (hs : SliceAt h 7 v 6 ((mixL xs k).map mixF)) : Out h (.tup [v, .int 0]) (.tup [.lit false 6 ((revE xs).1.map Task.encF), .int (revE xs).2]) := by
  rw [revE, if_neg (fun q => q hp)]
  exact out_2 (out_slice hs (mixL_all (Nat.le_of_eq hk.symm)) (fun _ => rfl) cleanF) (out_i rfl)

theorem frH72a : (inFrame Try.f72.ntmps (Try.f72.body.getD .skip) && Try.f72.results.toList.all (resScope Try.f72.ntmps)) = true := by kernel_rfl
theorem cloneE  : HCallsR Try.prog 72 [.lit true 6 (([] : List Task).map Task.enc)] (fun _ => none) (fun _ => 0) (fun v h _ => SliceAt h 7 v 6 (([] : List Task).map Task.enc)) := by
  refine HCallsR.of_code Try.func72 rfl rfl (by kernel_rfl) mixed frH72a (by show _ ≤ 8; simp) ?_
  refine pwp_seq_plain rfl fun K1 hK1 => ?_
  refine p_step rfl (e_assign (v := .nil) rfl) trivial ?_
  refine p_end (hK1 _ ?_); clear hK1 K1
  refine pwp_seq_seq ?_
  refine pwp_seq_plain rfl fun K2 hK2 => ?_
  refine p_step rfl (e_move (v := .lit _ _ _) rfl) trivial ?_
  refine p_nilq rfl (by kernel_rfl) rfl fun b => ?_
  refine p_end (hK2 _ ?_); clear hK2 K2
  refine pwp_seq_cond rfl fun K3 hK3 => ⟨fun hb4 => ?_, fun hb4 => ?_⟩
  ·have hb4R := hb4; try simp only [z1, z2, z3, z4, z5, z6, ne_eq, z7, z8, z9, z10, z11, z12] at hb4
   refine pwp_seq_plain rfl fun K5 hK5 => ?_
   refine p_step rfl (e_assign (v := .nil) rfl) trivial ?_
   refine p_end (hK5 _ ?_); clear hK5 K5
   refine pwp_ret ?_
   refine ret_seq ?_
   refine end1 (v := .nil) rfl ?_
   first
     | exact .nil
  ·have hb4R := hb4; try simp only [z1, z2, z3, z4, z5, z6, ne_eq, z7, z8, z9, z10, z11, z12] at hb4
   refine pwp_skip ?_
   refine seq_norm (hK3 _ ?_); clear hK3 K3
   refine pwp_seq_plain rfl fun K6 hK6 => ?_
   refine p_new rfl (e_bslice (rows := []) (zs := [.str ByteArray.empty, .str ByteArray.empty, .int 0, .int 0, .int 0, .nil]) (sz := 6) (by kernel_rfl) (by kernel_rfl) rfl (by kernel_rfl) (by decide) rfl rfl (by exact trivial) rfl) trivial ?_
   refine p_step rfl (e_move (v := .lit _ _ _) rfl) trivial ?_
   refine p_app rfl rfl rfl (.ofRef (hset_self _ _ _) rfl) src_lit (by kernel_rfl) (by simp only [List.length_append, List.length_map, List.length_nil, List.length_cons]; omega) fun v7 h8 c9 hs10 hf11 => ?_
   refine p_step rfl (e_assign (v := _) rfl) trivial ?_
   refine p_end (hK6 _ ?_); clear hK6 K6
   refine pwp_ret ?_
   refine end1 (v := _) rfl ?_
   first
     | exact .nil
     | exact SliceAt.to hs10 (by simp)

theorem frH72 : (inFrame Try.f72.ntmps (Try.f72.body.getD .skip) && Try.f72.results.toList.all (resScope Try.f72.ntmps)) = true := by kernel_rfl
theorem cloneN (xs : List Task) (hl : xs.length ≤ 10000) (hne : xs ≠ []) : HCallsR Try.prog 72 [.lit true 6 (xs.map Task.enc)] (fun _ => none) (fun _ => 0) (fun v h _ => SliceAt h 7 v 6 (xs.map Task.enc)) := by
  refine HCallsR.of_code Try.func72 rfl rfl (by kernel_rfl) mixed frH72 (by show _ ≤ 8; simp) ?_
  refine pwp_seq_plain rfl fun K1 hK1 => ?_
  refine p_step rfl (e_assign (v := .nil) rfl) trivial ?_
  refine p_end (hK1 _ ?_); clear hK1 K1
  refine pwp_seq_seq ?_
  refine pwp_seq_plain rfl fun K2 hK2 => ?_
  refine p_step rfl (e_move (v := .lit _ _ _) rfl) trivial ?_
  refine p_step rfl (e_nileq rfl (by simpa using hne) rfl (by kernel_rfl)) trivial ?_
  refine p_end (hK2 _ ?_); clear hK2 K2
  refine pwp_seq_cond (t := false) rfl fun K3 hK3 => ⟨nofun, fun _ => ?_⟩
  refine pwp_skip ?_
  refine seq_norm (hK3 _ ?_); clear hK3 K3
  refine pwp_seq_plain rfl fun K4 hK4 => ?_
  refine p_new rfl (e_bslice (rows := []) (zs := [.str ByteArray.empty, .str ByteArray.empty, .int 0, .int 0, .int 0, .nil]) (sz := 6) (by kernel_rfl) (by kernel_rfl) rfl (by kernel_rfl) (by decide) rfl rfl (by exact trivial) rfl) trivial ?_
  refine p_step rfl (e_move (v := .lit _ _ _) rfl) trivial ?_
  refine p_app rfl rfl rfl (.ofRef (hset_self _ _ _) rfl) src_lit (by kernel_rfl) (by simp only [List.length_append, List.length_map, List.length_nil, List.length_cons]; omega) fun v5 h6 c7 hs8 hf9 => ?_
  refine p_step rfl (e_assign (v := _) rfl) trivial ?_
  refine p_end (hK4 _ ?_); clear hK4 K4
  refine pwp_ret ?_
  refine end1 (v := _) rfl ?_
  first
    | exact .nil
    | exact SliceAt.to hs8 (by simp)

theorem cloneC (xs : List Task) (hl : xs.length ≤ 10000) : HCallsR Try.prog 72 [.lit true 6 (xs.map Task.enc)] (fun _ => none) (fun _ => 0) (fun v h _ => SliceAt h 7 v 6 (xs.map Task.enc)) := by
  by_cases h : xs = []
  · subst h; exact cloneE
  · exact cloneN xs hl h

theorem usL_len {nd : List (List Int)} : (usL nd).length = nd.length := by simp [usL]

theorem fr24 : (inFrame Try.f24.ntmps (Try.f24.body.getD .skip) && Try.f24.results.toList.all (resScope Try.f24.ntmps)) = true := by kernel_rfl
theorem ReverseC (xs : List Task) (hl : xs.length ≤ 1000) (hq : Fair xs) : PCalls Try.prog 24 [.lit true 6 (xs.map Task.enc)] (.tup [.lit false 6 ((revE xs).1.map Task.encF), .int (revE xs).2]) := by
  refine PCalls.of_code Try.func24 rfl rfl (by kernel_rfl) mixed fr24 (by show _ ≤ 30; simp) (pure_2 (.lit _ _ _ fun row hr => pure_map Task.pureF row hr) (.sc _)) ?_
  refine pwp_seq_plain rfl fun K1 hK1 => ?_
  refine p_step rfl (e_assign (v := .nil) rfl) trivial ?_
  refine p_step rfl (e_assign (v := .sc _) rfl) trivial ?_
  refine p_end (hK1 _ ?_); clear hK1 K1
  refine pwp_seq_seq ?_
  refine pwp_seq_plain rfl fun K2 hK2 => ?_
  refine p_step rfl (e_move (v := .lit _ _ _) rfl) trivial ?_
  refine p_call rfl (.cons inn_lit .nil) (CheckC _ (by omega) hq) ?_
  refine p_step rfl (e_assign (v := .sc _) rfl) trivial ?_
  refine p_end (hK2 _ ?_); clear hK2 K2
  refine pwp_seq_seq ?_
  refine pwp_seq_plain rfl fun K3 hK3 => ?_
  refine p_step rfl (e_move (v := .sc _) rfl) trivial ?_
  refine p_step rfl (e_ne rfl rfl) trivial ?_
  refine p_end (hK3 _ ?_); clear hK3 K3
  refine pwp_seq_cond rfl fun K4 hK4 => ⟨fun hb5 => ?_, fun hb5 => ?_⟩
  ·have hb5R := hb5; try simp only [z1, z2, z3, z4, z5, z6, ne_eq, z7, z8, z9, z10, z11, z12] at hb5
   refine pwp_seq_plain rfl fun K6 hK6 => ?_
   refine p_step rfl (e_move (v := .sc _) rfl) trivial ?_
   refine p_step rfl (e_assign (v := .nil) rfl) trivial ?_
   refine p_step rfl (e_assign (v := .sc _) rfl) trivial ?_
   refine p_end (hK6 _ ?_); clear hK6 K6
   refine pwp_ret ?_
   refine ret_seq ?_
   refine end2 (v := .nil) (w := .sc _) rfl rfl ?_
   first
     | exact rev_e (by assumption)
  ·have hb5R := hb5; try simp only [z1, z2, z3, z4, z5, z6, ne_eq, z7, z8, z9, z10, z11, z12] at hb5
   refine pwp_skip ?_
   refine seq_norm (hK4 _ ?_); clear hK4 K4
   have hp : planE xs = 0 := (by assumption)
   refine pwp_seq_plain rfl fun K7 hK7 => ?_
   refine p_step rfl (e_move (v := .lit _ _ _) rfl) trivial ?_
   refine p_hcall rfl (cloneC xs (by omega)) fun v14 h14 c14 hR14 => ?_
   have hs14 : SliceAt h14 7 v14 6 ((mixL xs 0).map mixF) := hR14.to mixL_0.symm
   refine p_step rfl (e_assign (v := _) rfl) trivial ?_
   refine p_end (hK7 _ ?_); clear hK7 K7
   refine pwp_seq_seq ?_
   refine pwp_seq_plain rfl fun K8 hK8 => ?_
   refine p_step rfl (e_move (v := .lit _ _ _) rfl) trivial ?_
   refine p_call rfl (.cons inn_lit .nil) (usersC _ (by omega) (fun x hx => (hq x hx).1) (tasks_nd (planE_ok hp))) ?_
   refine p_step rfl (e_len rfl (by kernel_rfl)) trivial ?_
   refine p_step rfl (e_move (v := .sc _) rfl) trivial ?_
   refine p_end (hK8 _ ?_); clear hK8 K8
   refine pwp_seq_block fun K9 hK9 => ?_
   refine pwp_loopR (α := Nat) [5, 16, 17] (fun (k : Nat) => [(18, .int (k))]) (fun (k : Nat) (h : Heap) (_ : Nat → Nat) => ((k) ≤ xs.length) ∧ (SliceAt h 7 v14 6 ((mixL xs (k)).map mixF))) (fun (k : Nat) => xs.length - (k)) (0) (by exact ⟨rfl, trivial⟩) (by exact ⟨by exact Nat.zero_le _, hs14⟩) fun k r10 h11 c12 hj13 => ?_
   obtain ⟨hk, hihj13_0⟩ := hj13
   try dsimp only at hk
   try dsimp only at hihj13_0
   show pwp _ _ (loopQ _ _ _) ⟨sets (mix _ _ _) [(18, .int k)], _, _⟩
   refine pwp_seq_plain rfl fun K14 hK14 => ?_
   refine p_step rfl (e_lt rfl rfl) trivial ?_
   refine p_end (hK14 _ ?_); clear hK14 K14
   refine pwp_seq_cond rfl fun K15 hK15 => ⟨fun hb16 => ?_, fun hb16 => ?_⟩
   ·have hb16R := hb16; try simp only [z1, z2, z3, z4, z5, z6, ne_eq, z7, z8, z9, z10, z11, z12] at hb16
    have hkl : k < xs.length := by rw [List.length_map, usL_len, ndX_len] at *; omega
    obtain ⟨x, hx, _, _⟩ := get_lt (xs := xs) (i := k) hkl
    refine pwp_skip ?_
    refine seq_norm (hK15 _ ?_); clear hK15 K15
    refine pwp_seq_block fun K17 hK17 => ?_
    refine pwp_seq_plain rfl fun K18 hK18 => ?_
    refine p_step rfl (e_move (v := .sc _) rfl) trivial ?_
    refine p_step rfl (e_ixa rfl rfl (by kernel_rfl) (by kernel_rfl) (by first | omega | (simp only [List.length_map]; rw [usL_len, ndX_len]; omega))) trivial ?_
    refine p_step rfl (e_load (v := .lit _ _ _) rfl (by kernel_rfl) (by kernel_rfl) (by kernel_rfl) (by first | omega | (simp only [List.length_map]; rw [usL_len, ndX_len]; omega)) (by decide) ((cell_map (usL_get (by rw [ndX_len]; omega)) _).trans rfl)) trivial ?_
    refine p_step rfl (e_assign (v := .sc _) rfl) trivial ?_
    refine p_step rfl (e_assign (v := .lit _ _ _) rfl) trivial ?_
    refine p_end (hK18 _ ?_); clear hK18 K18
    obtain ⟨g, rfl, hg⟩ := SliceAt.isRef hihj13_0 (by intro q; have q2 := congrArg List.length q; simp only [List.length_map, mixL_len, List.length_nil] at q2; omega)
    refine pwp_plain rfl fun K19 hK19 => ?_
    refine p_step rfl (e_move (v := .ref _ _ _ _) rfl) trivial ?_
    refine p_step rfl (e_move (v := .sc _) rfl) trivial ?_
    refine p_step rfl (e_move (v := .lit _ _ _) rfl) trivial ?_
    refine p_step rfl (e_ixaR0 rfl rfl (by kernel_rfl) (by kernel_rfl) (by simp only [List.length_map, mixL_len]; omega)) trivial ?_
    refine p_step rfl (e_faP (pl := [(0, 1, false), (1, 1, false), (2, 1, false), (3, 1, false), (4, 1, false), (5, 1, false)]) rfl (by kernel_rfl) (by kernel_rfl) (by decide) rfl) trivial ?_
    refine p_store rfl (e_storeF (xs := mixL xs k) (a := (x, true)) (a' := ({ x with needs := usR (ndX xs) (k : Int) }, false)) rfl hg rfl (mixL_get hx) rfl (by kernel_rfl) (by kernel_rfl) rfl rfl) trivial ?_
    refine p_end (hK19 _ ?_); clear hK19 K19
    refine block_norm ?_
    refine seq_norm (hK17 _ ?_); clear hK17 K17
    refine pwp_plain rfl fun K20 hK20 => ?_
    refine p_step rfl (e_add rfl rfl (by first | omega | (rw [List.length_map, usL_len, ndX_len] at *; omega))) trivial ?_
    refine p_step rfl (e_move (v := .sc _) rfl) trivial ?_
    refine p_end (hK20 _ ?_); clear hK20 K20
    exact loop_again (k + 1) (by show _ < _; omega) ⟨rfl, rfl, rfl, trivial⟩ ⟨rfl, trivial⟩ (by exact ⟨by show _ + 1 ≤ _; omega, (.inr ⟨g, by simp only [List.length_map, mixL_len], (hset_self _ _ _).trans (congrArg some (congrArg (PObj.rows 6) (congrArg (List.map mixF) (mixL_set hx))))⟩)⟩)
   ·have hb16R := hb16; try simp only [z1, z2, z3, z4, z5, z6, ne_eq, z7, z8, z9, z10, z11, z12] at hb16
    have hkx : k = xs.length := by rw [List.length_map, usL_len, ndX_len] at *; omega
    refine pwp_exit ?_
    refine exit_seq ?_
    clear hK15 K15
    refine exit_loop ?_
    refine exit_here ?_
    refine seq_norm (hK9 _ ?_); clear hK9 K9
    refine pwp_seq_plain rfl fun K21 hK21 => ?_
    refine p_step rfl (e_move (v := _) rfl) trivial ?_
    refine p_step rfl (e_assign (v := _) rfl) trivial ?_
    refine p_step rfl (e_assign (v := .sc _) rfl) trivial ?_
    refine p_end (hK21 _ ?_); clear hK21 K21
    refine pwp_ret ?_
    refine end2 (v := _) (w := .sc _) rfl rfl ?_
    first
      | exact rev_e (by assumption)
      | exact rev_0 hp hkx hihj13_0

theorem task_eq {x y : Task} (h1 : x.name = y.name) (h2 : x.trade = y.trade) (h3 : x.member = y.member) (h4 : x.place = y.place) (h5 : x.minutes = y.minutes) (h6 : x.needs = y.needs) : x = y := by
  cases x; cases y; simp_all
theorem same_no {xs ys : List Task} {k : Nat} {x y : Task} (hx : xs[k]? = some x) (hy : ys[k]? = some y) (h : x ≠ y) : ¬ xs = ys := fun e => h (by
  rw [e, hy] at hx; exact (Option.some.inj hx).symm)
theorem same_yes {xs ys : List Task} {k : Nat} (hl : xs.length = ys.length) (h : xs.take k = ys.take k) (hk : xs.length ≤ k) : xs = ys := by
  rw [List.take_of_length_le hk, List.take_of_length_le (by omega)] at h; exact h

theorem fr28 : (inFrame Try.f28.ntmps (Try.f28.body.getD .skip) && Try.f28.results.toList.all (resScope Try.f28.ntmps)) = true := by kernel_rfl
theorem SameTasksC (xs ys : List Task) (hl : xs.length ≤ 1000) (hn : ∀ x ∈ xs, x.needs.length ≤ 1000000) : PCalls Try.prog 28 [.lit true 6 (xs.map Task.enc), .lit true 6 (ys.map Task.enc)] (.bool (decide (xs = ys))) := by
  refine PCalls.of_code Try.func28 rfl rfl (by kernel_rfl) mixed fr28 (by show _ ≤ 68; simp) (.sc _) ?_
  refine pwp_seq_plain rfl fun K1 hK1 => ?_
  refine p_step rfl (e_assign (v := .sc _) rfl) trivial ?_
  refine p_end (hK1 _ ?_); clear hK1 K1
  refine pwp_seq_seq ?_
  refine pwp_seq_plain rfl fun K2 hK2 => ?_
  refine p_step rfl (e_move (v := .lit _ _ _) rfl) trivial ?_
  refine p_step rfl (e_len rfl (by kernel_rfl)) trivial ?_
  refine p_step rfl (e_move (v := .lit _ _ _) rfl) trivial ?_
  refine p_step rfl (e_len rfl (by kernel_rfl)) trivial ?_
  refine p_step rfl (e_ne rfl rfl) trivial ?_
  refine p_end (hK2 _ ?_); clear hK2 K2
  refine pwp_seq_cond rfl fun K3 hK3 => ⟨fun hb4 => ?_, fun hb4 => ?_⟩
  ·have hb4R := hb4; try simp only [z1, z2, z3, z4, z5, z6, ne_eq, z7, z8, z9, z10, z11, z12] at hb4
   refine pwp_seq_plain rfl fun K5 hK5 => ?_
   refine p_step rfl (e_assign (v := .sc _) rfl) trivial ?_
   refine p_end (hK5 _ ?_); clear hK5 K5
   refine pwp_ret ?_
   refine ret_seq ?_
   refine end1 (v := .sc _) rfl ?_
   first
     | exact out_b (decide_eq_false (by first | (intro hc; subst hc; omega) | exact same_no hx hy (fun e => by subst e; first | exact absurd rfl (by assumption) | (simp at *; done) | fail))).symm
     | exact out_b (decide_eq_true (same_yes (by omega) he (by omega))).symm
  ·have hb4R := hb4; try simp only [z1, z2, z3, z4, z5, z6, ne_eq, z7, z8, z9, z10, z11, z12] at hb4
   refine pwp_skip ?_
   refine seq_norm (hK3 _ ?_); clear hK3 K3
   refine pwp_seq_seq ?_
   refine pwp_seq_plain rfl fun K6 hK6 => ?_
   refine p_step rfl (e_assign (v := .sc _) rfl) trivial ?_
   refine p_end (hK6 _ ?_); clear hK6 K6
   refine pwp_seq_block fun K7 hK7 => ?_
   refine pwp_loopR (α := Nat) [0, 1] (fun (k : Nat) => [(5, .int (k))]) (fun (k : Nat) (h : Heap) (_ : Nat → Nat) => ((k) ≤ xs.length) ∧ (xs.take (k) = ys.take (k))) (fun (k : Nat) => xs.length - (k)) (0) (by exact ⟨rfl, trivial⟩) (by exact ⟨by exact Nat.zero_le _, by exact rfl⟩) fun k r8 h9 c10 hj11 => ?_
   obtain ⟨hk, he⟩ := hj11
   try dsimp only at hk
   try dsimp only at he
   show pwp _ _ (loopQ _ _ _) ⟨sets (mix _ _ _) [(5, .int k)], _, _⟩
   refine pwp_seq_seq ?_
   refine pwp_seq_plain rfl fun K12 hK12 => ?_
   refine p_step rfl (e_move (v := .sc _) rfl) trivial ?_
   refine p_step rfl (e_move (v := .lit _ _ _) rfl) trivial ?_
   refine p_step rfl (e_len rfl (by kernel_rfl)) trivial ?_
   refine p_step rfl (e_lt rfl rfl) trivial ?_
   refine p_end (hK12 _ ?_); clear hK12 K12
   refine pwp_seq_cond rfl fun K13 hK13 => ⟨fun hb14 => ?_, fun hb14 => ?_⟩
   ·have hb14R := hb14; try simp only [z1, z2, z3, z4, z5, z6, ne_eq, z7, z8, z9, z10, z11, z12] at hb14
    obtain ⟨x, hx, hd, ht⟩ := get_lt (xs := xs) (i := k) (by omega)
    obtain ⟨y, hy, hdy, hty⟩ := get_lt (xs := ys) (i := k) (by omega)
    have hxl := hn x (List.mem_of_getElem? hx)
    refine pwp_skip ?_
    refine seq_norm (hK13 _ ?_); clear hK13 K13
    refine pwp_seq_block fun K15 hK15 => ?_
    refine pwp_seq_gops rfl fun K16 hK16 => ?_
    refine s_begin ?_
    refine s_step [] (by simp) rfl rfl rfl rfl (e_move (v := .lit _ _ _) rfl) trivial ?_
    refine s_step [] (by simp) rfl rfl rfl rfl (e_move (v := .sc _) rfl) trivial ?_
    refine s_step [] (by simp) rfl rfl rfl rfl (e_ixa rfl rfl (by kernel_rfl) (by kernel_rfl) (by first | omega | (simp only [List.length_map]; omega))) trivial ?_
    refine s_step [] (by simp) rfl rfl rfl rfl (e_loadA (n := 6) rfl (by kernel_rfl) (by kernel_rfl) (by kernel_rfl) (by first | omega | (simp only [List.length_map]; omega)) (by decide) (by first | exact agg_map hx rfl)) trivial ?_
    refine s_step [] (by simp) rfl rfl rfl rfl (e_move (v := .lit _ _ _) rfl) trivial ?_
    refine s_step [] (by simp) rfl rfl rfl rfl (e_move (v := .sc _) rfl) trivial ?_
    refine s_step [] (by simp) rfl rfl rfl rfl (e_ixa rfl rfl (by kernel_rfl) (by kernel_rfl) (by first | omega | (simp only [List.length_map]; omega))) trivial ?_
    refine s_step [] (by simp) rfl rfl rfl rfl (e_loadA (n := 6) rfl (by kernel_rfl) (by kernel_rfl) (by kernel_rfl) (by first | omega | (simp only [List.length_map]; omega)) (by decide) (by first | exact agg_map hy rfl)) trivial ?_
    refine s_new [] (by simp) rfl rfl rfl rfl (e_alloc (cs := [.str ByteArray.empty, .str ByteArray.empty, .int 0, .int 0, .int 0, .nil]) (n := 6) (by kernel_rfl) rfl (by decide)) (ob_alloc (by decide)) ?_
    refine s_new [] (by simp) rfl rfl rfl rfl (e_alloc (cs := [.str ByteArray.empty, .str ByteArray.empty, .int 0, .int 0, .int 0, .nil]) (n := 6) (by kernel_rfl) rfl (by decide)) (ob_alloc (by decide)) ?_
    refine s_store [6] (by simp) rfl rfl (e_storeA rfl ((hset_ne (key_ne rfl)).trans (hset_self _ _ _)) rfl rfl rfl (by kernel_rfl) rfl (by kernel_rfl)) trivial ?_
    refine s_store [7] (by simp) rfl rfl (e_storeA rfl ((hset_ne (key_ne rfl)).trans (hset_self _ _ _)) rfl rfl rfl (by kernel_rfl) rfl (by kernel_rfl)) trivial ?_
    refine s_end (ds := []) (by kernel_rfl) (by kernel_rfl) (hK16 _ ?_); clear hK16 K16
    refine pwp_seq_gops rfl fun K17 hK17 => ?_
    refine g_begin ?_
    refine g_step rfl rfl rfl rfl (e_faP (pl := [(0, 1, false), (1, 1, false), (2, 1, false), (3, 1, false), (4, 1, false), (5, 1, false)]) rfl (by kernel_rfl) (by kernel_rfl) (by decide) rfl) trivial ?_
    refine g_step rfl rfl rfl rfl (e_loadH (v := .sc _) rfl ((hset_ne (key_ne rfl)).trans (hset_self _ _ _)) (by kernel_rfl) (by kernel_rfl) (by kernel_rfl) (by exact Nat.zero_lt_one) (by decide) rfl) trivial ?_
    refine g_step rfl rfl rfl rfl (e_faP (pl := [(0, 1, false), (1, 1, false), (2, 1, false), (3, 1, false), (4, 1, false), (5, 1, false)]) rfl (by kernel_rfl) (by kernel_rfl) (by decide) rfl) trivial ?_
    refine g_step rfl rfl rfl rfl (e_loadH (v := .sc _) rfl (hset_self _ _ _) (by kernel_rfl) (by kernel_rfl) (by kernel_rfl) (by exact Nat.zero_lt_one) (by decide) rfl) trivial ?_
    refine g_step rfl rfl rfl rfl (e_sne rfl rfl) trivial ?_
    refine g_step rfl rfl rfl rfl (e_move (v := .sc _) rfl) trivial ?_
    refine g_cases (fun hb18 => ?_) (fun hb18 => ?_)
    ·have hb18R := hb18; try simp only [z1, z2, z3, z4, z5, z6, ne_eq, z7, z8, z9, z10, z11, z12] at hb18
     refine g_skip rfl rfl rfl ?_
     refine g_skip rfl rfl rfl ?_
     refine g_skip rfl rfl rfl ?_
     refine g_skip rfl rfl rfl ?_
     refine g_skip rfl rfl rfl ?_
     refine g_step rfl rfl rfl rfl (e_pickT (v := .sc _) rfl rfl) trivial ?_
     refine g_step rfl rfl rfl rfl (e_move (v := .sc _) rfl) trivial ?_
     refine g_skip rfl rfl rfl ?_
     refine g_skip rfl rfl rfl ?_
     refine g_skip rfl rfl rfl ?_
     refine g_skip rfl rfl rfl ?_
     refine g_skip rfl rfl rfl ?_
     refine g_step rfl rfl rfl rfl (e_pickT (v := .sc _) rfl rfl) trivial ?_
     refine g_step rfl rfl rfl rfl (e_move (v := .sc _) rfl) trivial ?_
     refine g_skip rfl rfl rfl ?_
     refine g_skip rfl rfl rfl ?_
     refine g_skip rfl rfl rfl ?_
     refine g_skip rfl rfl rfl ?_
     refine g_skip rfl rfl rfl ?_
     refine g_step rfl rfl rfl rfl (e_pickT (v := .sc _) rfl rfl) trivial ?_
     refine g_step rfl rfl rfl rfl (e_move (v := .sc _) rfl) trivial ?_
     refine g_skip rfl rfl rfl ?_
     refine g_skip rfl rfl rfl ?_
     refine g_skip rfl rfl rfl ?_
     refine g_skip rfl rfl rfl ?_
     refine g_skip rfl rfl rfl ?_
     refine g_step rfl rfl rfl rfl (e_pickT (v := .sc _) rfl rfl) trivial ?_
     refine g_step rfl rfl rfl rfl (e_move (v := .sc _) rfl) trivial ?_
     refine g_skip rfl rfl rfl ?_
     refine g_skip rfl rfl rfl ?_
     refine g_skip rfl rfl rfl ?_
     refine g_skip rfl rfl rfl ?_
     refine g_nocall rfl rfl rfl ?_
     refine g_skip rfl rfl rfl ?_
     refine g_step rfl rfl rfl rfl (e_pickT (v := .sc _) rfl rfl) trivial ?_
     refine g_end (ds := [33, 34, 35, 36, 37, 40, 41, 42, 43, 44, 47, 48, 49, 50, 51, 54, 55, 56, 57, 58, 61, 62, 63, 64, 65, 66]) rfl rfl (hK17 _ ?_); clear hK17 K17
     refine pwp_cond (t := true) rfl (fun _ => ?_) nofun
     refine pwp_seq_plain rfl fun K19 hK19 => ?_
     refine p_step rfl (e_assign (v := .sc _) rfl) trivial ?_
     refine p_end (hK19 _ ?_); clear hK19 K19
     refine pwp_ret ?_
     refine ret_block ?_
     refine ret_seq ?_
     refine ret_loop ?_
     refine ret_block ?_
     refine ret_seq ?_
     refine end1 (v := .sc _) rfl ?_
     first
       | exact out_b (decide_eq_false (by first | (intro hc; subst hc; omega) | exact same_no hx hy (fun e => by subst e; first | exact absurd rfl (by assumption) | (simp at *; done) | fail))).symm
       | exact out_b (decide_eq_true (same_yes (by omega) he (by omega))).symm
    ·have hb18R := hb18; try simp only [z1, z2, z3, z4, z5, z6, ne_eq, z7, z8, z9, z10, z11, z12] at hb18
     refine g_step rfl rfl rfl rfl (e_faP (pl := [(0, 1, false), (1, 1, false), (2, 1, false), (3, 1, false), (4, 1, false), (5, 1, false)]) rfl (by kernel_rfl) (by kernel_rfl) (by decide) rfl) trivial ?_
     refine g_step rfl rfl rfl rfl (e_loadH (v := .sc _) rfl ((hset_ne (key_ne rfl)).trans (hset_self _ _ _)) (by kernel_rfl) (by kernel_rfl) (by kernel_rfl) (by exact Nat.zero_lt_one) (by decide) rfl) trivial ?_
     refine g_step rfl rfl rfl rfl (e_faP (pl := [(0, 1, false), (1, 1, false), (2, 1, false), (3, 1, false), (4, 1, false), (5, 1, false)]) rfl (by kernel_rfl) (by kernel_rfl) (by decide) rfl) trivial ?_
     refine g_step rfl rfl rfl rfl (e_loadH (v := .sc _) rfl (hset_self _ _ _) (by kernel_rfl) (by kernel_rfl) (by kernel_rfl) (by exact Nat.zero_lt_one) (by decide) rfl) trivial ?_
     refine g_step rfl rfl rfl rfl (e_sne rfl rfl) trivial ?_
     refine g_step rfl rfl rfl rfl (e_pickF (v := .sc _) rfl rfl) trivial ?_
     refine g_step rfl rfl rfl rfl (e_move (v := .sc _) rfl) trivial ?_
     refine g_cases (fun hb20 => ?_) (fun hb20 => ?_)
     ·have hb20R := hb20; try simp only [z1, z2, z3, z4, z5, z6, ne_eq, z7, z8, z9, z10, z11, z12] at hb20
      refine g_skip rfl rfl rfl ?_
      refine g_skip rfl rfl rfl ?_
      refine g_skip rfl rfl rfl ?_
      refine g_skip rfl rfl rfl ?_
      refine g_skip rfl rfl rfl ?_
      refine g_step rfl rfl rfl rfl (e_pickT (v := .sc _) rfl rfl) trivial ?_
      refine g_step rfl rfl rfl rfl (e_move (v := .sc _) rfl) trivial ?_
      refine g_skip rfl rfl rfl ?_
      refine g_skip rfl rfl rfl ?_
      refine g_skip rfl rfl rfl ?_
      refine g_skip rfl rfl rfl ?_
      refine g_skip rfl rfl rfl ?_
      refine g_step rfl rfl rfl rfl (e_pickT (v := .sc _) rfl rfl) trivial ?_
      refine g_step rfl rfl rfl rfl (e_move (v := .sc _) rfl) trivial ?_
      refine g_skip rfl rfl rfl ?_
      refine g_skip rfl rfl rfl ?_
      refine g_skip rfl rfl rfl ?_
      refine g_skip rfl rfl rfl ?_
      refine g_skip rfl rfl rfl ?_
      refine g_step rfl rfl rfl rfl (e_pickT (v := .sc _) rfl rfl) trivial ?_
      refine g_step rfl rfl rfl rfl (e_move (v := .sc _) rfl) trivial ?_
      refine g_skip rfl rfl rfl ?_
      refine g_skip rfl rfl rfl ?_
      refine g_skip rfl rfl rfl ?_
      refine g_skip rfl rfl rfl ?_
      refine g_nocall rfl rfl rfl ?_
      refine g_skip rfl rfl rfl ?_
      refine g_step rfl rfl rfl rfl (e_pickT (v := .sc _) rfl rfl) trivial ?_
      refine g_end (ds := [33, 34, 35, 36, 37, 40, 41, 42, 43, 44, 47, 48, 49, 50, 51, 54, 55, 56, 57, 58, 61, 62, 63, 64, 65, 66]) rfl rfl (hK17 _ ?_); clear hK17 K17
      refine pwp_cond (t := true) rfl (fun _ => ?_) nofun
      refine pwp_seq_plain rfl fun K21 hK21 => ?_
      refine p_step rfl (e_assign (v := .sc _) rfl) trivial ?_
      refine p_end (hK21 _ ?_); clear hK21 K21
      refine pwp_ret ?_
      refine ret_block ?_
      refine ret_seq ?_
      refine ret_loop ?_
      refine ret_block ?_
      refine ret_seq ?_
      refine end1 (v := .sc _) rfl ?_
      first
        | exact out_b (decide_eq_false (by first | (intro hc; subst hc; omega) | exact same_no hx hy (fun e => by subst e; first | exact absurd rfl (by assumption) | (simp at *; done) | fail))).symm
        | exact out_b (decide_eq_true (same_yes (by omega) he (by omega))).symm
     ·have hb20R := hb20; try simp only [z1, z2, z3, z4, z5, z6, ne_eq, z7, z8, z9, z10, z11, z12] at hb20
      refine g_step rfl rfl rfl rfl (e_faP (pl := [(0, 1, false), (1, 1, false), (2, 1, false), (3, 1, false), (4, 1, false), (5, 1, false)]) rfl (by kernel_rfl) (by kernel_rfl) (by decide) rfl) trivial ?_
      refine g_step rfl rfl rfl rfl (e_loadH (v := .sc _) rfl ((hset_ne (key_ne rfl)).trans (hset_self _ _ _)) (by kernel_rfl) (by kernel_rfl) (by kernel_rfl) (by exact Nat.zero_lt_one) (by decide) rfl) trivial ?_
      refine g_step rfl rfl rfl rfl (e_faP (pl := [(0, 1, false), (1, 1, false), (2, 1, false), (3, 1, false), (4, 1, false), (5, 1, false)]) rfl (by kernel_rfl) (by kernel_rfl) (by decide) rfl) trivial ?_
      refine g_step rfl rfl rfl rfl (e_loadH (v := .sc _) rfl (hset_self _ _ _) (by kernel_rfl) (by kernel_rfl) (by kernel_rfl) (by exact Nat.zero_lt_one) (by decide) rfl) trivial ?_
      refine g_step rfl rfl rfl rfl (e_ne rfl rfl) trivial ?_
      refine g_step rfl rfl rfl rfl (e_pickF (v := .sc _) rfl rfl) trivial ?_
      refine g_step rfl rfl rfl rfl (e_move (v := .sc _) rfl) trivial ?_
      refine g_cases (fun hb22 => ?_) (fun hb22 => ?_)
      ·have hb22R := hb22; try simp only [z1, z2, z3, z4, z5, z6, ne_eq, z7, z8, z9, z10, z11, z12] at hb22
       refine g_skip rfl rfl rfl ?_
       refine g_skip rfl rfl rfl ?_
       refine g_skip rfl rfl rfl ?_
       refine g_skip rfl rfl rfl ?_
       refine g_skip rfl rfl rfl ?_
       refine g_step rfl rfl rfl rfl (e_pickT (v := .sc _) rfl rfl) trivial ?_
       refine g_step rfl rfl rfl rfl (e_move (v := .sc _) rfl) trivial ?_
       refine g_skip rfl rfl rfl ?_
       refine g_skip rfl rfl rfl ?_
       refine g_skip rfl rfl rfl ?_
       refine g_skip rfl rfl rfl ?_
       refine g_skip rfl rfl rfl ?_
       refine g_step rfl rfl rfl rfl (e_pickT (v := .sc _) rfl rfl) trivial ?_
       refine g_step rfl rfl rfl rfl (e_move (v := .sc _) rfl) trivial ?_
       refine g_skip rfl rfl rfl ?_
       refine g_skip rfl rfl rfl ?_
       refine g_skip rfl rfl rfl ?_
       refine g_skip rfl rfl rfl ?_
       refine g_nocall rfl rfl rfl ?_
       refine g_skip rfl rfl rfl ?_
       refine g_step rfl rfl rfl rfl (e_pickT (v := .sc _) rfl rfl) trivial ?_
       refine g_end (ds := [33, 34, 35, 36, 37, 40, 41, 42, 43, 44, 47, 48, 49, 50, 51, 54, 55, 56, 57, 58, 61, 62, 63, 64, 65, 66]) rfl rfl (hK17 _ ?_); clear hK17 K17
       refine pwp_cond (t := true) rfl (fun _ => ?_) nofun
       refine pwp_seq_plain rfl fun K23 hK23 => ?_
       refine p_step rfl (e_assign (v := .sc _) rfl) trivial ?_
       refine p_end (hK23 _ ?_); clear hK23 K23
       refine pwp_ret ?_
       refine ret_block ?_
       refine ret_seq ?_
       refine ret_loop ?_
       refine ret_block ?_
       refine ret_seq ?_
       refine end1 (v := .sc _) rfl ?_
       first
         | exact out_b (decide_eq_false (by first | (intro hc; subst hc; omega) | exact same_no hx hy (fun e => by subst e; first | exact absurd rfl (by assumption) | (simp at *; done) | fail))).symm
         | exact out_b (decide_eq_true (same_yes (by omega) he (by omega))).symm
      ·have hb22R := hb22; try simp only [z1, z2, z3, z4, z5, z6, ne_eq, z7, z8, z9, z10, z11, z12] at hb22
       refine g_step rfl rfl rfl rfl (e_faP (pl := [(0, 1, false), (1, 1, false), (2, 1, false), (3, 1, false), (4, 1, false), (5, 1, false)]) rfl (by kernel_rfl) (by kernel_rfl) (by decide) rfl) trivial ?_
       refine g_step rfl rfl rfl rfl (e_loadH (v := .sc _) rfl ((hset_ne (key_ne rfl)).trans (hset_self _ _ _)) (by kernel_rfl) (by kernel_rfl) (by kernel_rfl) (by exact Nat.zero_lt_one) (by decide) rfl) trivial ?_
       refine g_step rfl rfl rfl rfl (e_faP (pl := [(0, 1, false), (1, 1, false), (2, 1, false), (3, 1, false), (4, 1, false), (5, 1, false)]) rfl (by kernel_rfl) (by kernel_rfl) (by decide) rfl) trivial ?_
       refine g_step rfl rfl rfl rfl (e_loadH (v := .sc _) rfl (hset_self _ _ _) (by kernel_rfl) (by kernel_rfl) (by kernel_rfl) (by exact Nat.zero_lt_one) (by decide) rfl) trivial ?_
       refine g_step rfl rfl rfl rfl (e_ne rfl rfl) trivial ?_
       refine g_step rfl rfl rfl rfl (e_pickF (v := .sc _) rfl rfl) trivial ?_
       refine g_step rfl rfl rfl rfl (e_move (v := .sc _) rfl) trivial ?_
       refine g_cases (fun hb24 => ?_) (fun hb24 => ?_)
       ·have hb24R := hb24; try simp only [z1, z2, z3, z4, z5, z6, ne_eq, z7, z8, z9, z10, z11, z12] at hb24
        refine g_skip rfl rfl rfl ?_
        refine g_skip rfl rfl rfl ?_
        refine g_skip rfl rfl rfl ?_
        refine g_skip rfl rfl rfl ?_
        refine g_skip rfl rfl rfl ?_
        refine g_step rfl rfl rfl rfl (e_pickT (v := .sc _) rfl rfl) trivial ?_
        refine g_step rfl rfl rfl rfl (e_move (v := .sc _) rfl) trivial ?_
        refine g_skip rfl rfl rfl ?_
        refine g_skip rfl rfl rfl ?_
        refine g_skip rfl rfl rfl ?_
        refine g_skip rfl rfl rfl ?_
        refine g_nocall rfl rfl rfl ?_
        refine g_skip rfl rfl rfl ?_
        refine g_step rfl rfl rfl rfl (e_pickT (v := .sc _) rfl rfl) trivial ?_
        refine g_end (ds := [33, 34, 35, 36, 37, 40, 41, 42, 43, 44, 47, 48, 49, 50, 51, 54, 55, 56, 57, 58, 61, 62, 63, 64, 65, 66]) rfl rfl (hK17 _ ?_); clear hK17 K17
        refine pwp_cond (t := true) rfl (fun _ => ?_) nofun
        refine pwp_seq_plain rfl fun K25 hK25 => ?_
        refine p_step rfl (e_assign (v := .sc _) rfl) trivial ?_
        refine p_end (hK25 _ ?_); clear hK25 K25
        refine pwp_ret ?_
        refine ret_block ?_
        refine ret_seq ?_
        refine ret_loop ?_
        refine ret_block ?_
        refine ret_seq ?_
        refine end1 (v := .sc _) rfl ?_
        first
          | exact out_b (decide_eq_false (by first | (intro hc; subst hc; omega) | exact same_no hx hy (fun e => by subst e; first | exact absurd rfl (by assumption) | (simp at *; done) | fail))).symm
          | exact out_b (decide_eq_true (same_yes (by omega) he (by omega))).symm
       ·have hb24R := hb24; try simp only [z1, z2, z3, z4, z5, z6, ne_eq, z7, z8, z9, z10, z11, z12] at hb24
        refine g_step rfl rfl rfl rfl (e_faP (pl := [(0, 1, false), (1, 1, false), (2, 1, false), (3, 1, false), (4, 1, false), (5, 1, false)]) rfl (by kernel_rfl) (by kernel_rfl) (by decide) rfl) trivial ?_
        refine g_step rfl rfl rfl rfl (e_loadH (v := .sc _) rfl ((hset_ne (key_ne rfl)).trans (hset_self _ _ _)) (by kernel_rfl) (by kernel_rfl) (by kernel_rfl) (by exact Nat.zero_lt_one) (by decide) rfl) trivial ?_
        refine g_step rfl rfl rfl rfl (e_faP (pl := [(0, 1, false), (1, 1, false), (2, 1, false), (3, 1, false), (4, 1, false), (5, 1, false)]) rfl (by kernel_rfl) (by kernel_rfl) (by decide) rfl) trivial ?_
        refine g_step rfl rfl rfl rfl (e_loadH (v := .sc _) rfl (hset_self _ _ _) (by kernel_rfl) (by kernel_rfl) (by kernel_rfl) (by exact Nat.zero_lt_one) (by decide) rfl) trivial ?_
        refine g_step rfl rfl rfl rfl (e_ne rfl rfl) trivial ?_
        refine g_step rfl rfl rfl rfl (e_pickF (v := .sc _) rfl rfl) trivial ?_
        refine g_step rfl rfl rfl rfl (e_move (v := .sc _) rfl) trivial ?_
        refine g_cases (fun hb26 => ?_) (fun hb26 => ?_)
        ·have hb26R := hb26; try simp only [z1, z2, z3, z4, z5, z6, ne_eq, z7, z8, z9, z10, z11, z12] at hb26
         refine g_skip rfl rfl rfl ?_
         refine g_skip rfl rfl rfl ?_
         refine g_skip rfl rfl rfl ?_
         refine g_skip rfl rfl rfl ?_
         refine g_nocall rfl rfl rfl ?_
         refine g_skip rfl rfl rfl ?_
         refine g_step rfl rfl rfl rfl (e_pickT (v := .sc _) rfl rfl) trivial ?_
         refine g_end (ds := [33, 34, 35, 36, 37, 40, 41, 42, 43, 44, 47, 48, 49, 50, 51, 54, 55, 56, 57, 58, 61, 62, 63, 64, 65, 66]) rfl rfl (hK17 _ ?_); clear hK17 K17
         refine pwp_cond (t := true) rfl (fun _ => ?_) nofun
         refine pwp_seq_plain rfl fun K27 hK27 => ?_
         refine p_step rfl (e_assign (v := .sc _) rfl) trivial ?_
         refine p_end (hK27 _ ?_); clear hK27 K27
         refine pwp_ret ?_
         refine ret_block ?_
         refine ret_seq ?_
         refine ret_loop ?_
         refine ret_block ?_
         refine ret_seq ?_
         refine end1 (v := .sc _) rfl ?_
         first
           | exact out_b (decide_eq_false (by first | (intro hc; subst hc; omega) | exact same_no hx hy (fun e => by subst e; first | exact absurd rfl (by assumption) | (simp at *; done) | fail))).symm
           | exact out_b (decide_eq_true (same_yes (by omega) he (by omega))).symm
        ·have hb26R := hb26; try simp only [z1, z2, z3, z4, z5, z6, ne_eq, z7, z8, z9, z10, z11, z12] at hb26
         refine g_step rfl rfl rfl rfl (e_faP (pl := [(0, 1, false), (1, 1, false), (2, 1, false), (3, 1, false), (4, 1, false), (5, 1, false)]) rfl (by kernel_rfl) (by kernel_rfl) (by decide) rfl) trivial ?_
         refine g_step rfl rfl rfl rfl (e_loadH (v := .lit _ _ _) rfl ((hset_ne (key_ne rfl)).trans (hset_self _ _ _)) (by kernel_rfl) (by kernel_rfl) (by kernel_rfl) (by exact Nat.zero_lt_one) (by decide) rfl) trivial ?_
         refine g_step rfl rfl rfl rfl (e_faP (pl := [(0, 1, false), (1, 1, false), (2, 1, false), (3, 1, false), (4, 1, false), (5, 1, false)]) rfl (by kernel_rfl) (by kernel_rfl) (by decide) rfl) trivial ?_
         refine g_step rfl rfl rfl rfl (e_loadH (v := .lit _ _ _) rfl (hset_self _ _ _) (by kernel_rfl) (by kernel_rfl) (by kernel_rfl) (by exact Nat.zero_lt_one) (by decide) rfl) trivial ?_
         refine g_call rfl rfl rfl rfl (.cons inn_lit (.cons inn_lit .nil)) (IntsC _ _ (by omega)) ?_
         refine g_step rfl rfl rfl rfl (e_not rfl) trivial ?_
         refine g_step rfl rfl rfl rfl (e_pickF (v := .sc _) rfl rfl) trivial ?_
         refine g_end (ds := [33, 34, 35, 36, 37, 40, 41, 42, 43, 44, 47, 48, 49, 50, 51, 54, 55, 56, 57, 58, 61, 62, 63, 64, 65, 66]) rfl rfl (hK17 _ ?_); clear hK17 K17
         refine pwp_cond rfl (fun hb28 => ?_) (fun hb28 => ?_)
         ·have hb28R := hb28; try simp only [z1, z2, z3, z4, z5, z6, ne_eq, z7, z8, z9, z10, z11, z12] at hb28
          refine pwp_seq_plain rfl fun K29 hK29 => ?_
          refine p_step rfl (e_assign (v := .sc _) rfl) trivial ?_
          refine p_end (hK29 _ ?_); clear hK29 K29
          refine pwp_ret ?_
          refine ret_block ?_
          refine ret_seq ?_
          refine ret_loop ?_
          refine ret_block ?_
          refine ret_seq ?_
          refine end1 (v := .sc _) rfl ?_
          first
            | exact out_b (decide_eq_false (by first | (intro hc; subst hc; omega) | exact same_no hx hy (fun e => by subst e; first | exact absurd rfl (by assumption) | (simp at *; done) | fail))).symm
            | exact out_b (decide_eq_true (same_yes (by omega) he (by omega))).symm
         ·have hb28R := hb28; try simp only [z1, z2, z3, z4, z5, z6, ne_eq, z7, z8, z9, z10, z11, z12] at hb28
          refine pwp_skip ?_
          refine block_norm ?_
          refine seq_norm (hK15 _ ?_); clear hK15 K15
          refine pwp_plain rfl fun K30 hK30 => ?_
          refine p_step rfl (e_move (v := .sc _) rfl) trivial ?_
          refine p_step rfl (e_add rfl rfl (by first | omega | (simp only [List.length_map] at *; omega))) trivial ?_
          refine p_step rfl (e_assign (v := .sc _) rfl) trivial ?_
          refine p_end (hK30 _ ?_); clear hK30 K30
          exact loop_again (k + 1) (by show _ < _; omega) ⟨rfl, rfl, trivial⟩ ⟨rfl, trivial⟩ (by exact ⟨by show _ + 1 ≤ _; omega, by (have e := task_eq (x := x) (y := y) (by first | assumption | exact of_decide_eq_true (by assumption) | (simp_all; done) | fail) (by first | assumption | exact of_decide_eq_true (by assumption) | (simp_all; done) | fail) (by first | assumption | exact of_decide_eq_true (by assumption) | (simp_all; done) | fail) (by first | assumption | exact of_decide_eq_true (by assumption) | (simp_all; done) | fail) (by first | assumption | exact of_decide_eq_true (by assumption) | (simp_all; done) | fail) (by first | assumption | exact of_decide_eq_true (by assumption) | (simp_all; done) | fail); rw [ht, hty, he, e])⟩)
   ·have hb14R := hb14; try simp only [z1, z2, z3, z4, z5, z6, ne_eq, z7, z8, z9, z10, z11, z12] at hb14
    obtain rfl : k = xs.length := by simp only [List.length_map] at *; omega
    refine pwp_exit ?_
    refine exit_seq ?_
    clear hK13 K13
    refine exit_loop ?_
    refine exit_here ?_
    refine seq_norm (hK7 _ ?_); clear hK7 K7
    refine pwp_seq_plain rfl fun K31 hK31 => ?_
    refine p_step rfl (e_assign (v := .sc _) rfl) trivial ?_
    refine p_end (hK31 _ ?_); clear hK31 K31
    refine pwp_ret ?_
    refine end1 (v := .sc _) rfl ?_
    first
      | exact out_b (decide_eq_false (by first | (intro hc; subst hc; omega) | exact same_no hx hy (fun e => by subst e; first | exact absurd rfl (by assumption) | (simp at *; done) | fail))).symm
      | exact out_b (decide_eq_true (same_yes (by omega) he (by omega))).symm

end Go.Proofs.Ytjmjiegplnfiiaa

/- The reverse of a plan, as the reference makes it. No conditions. -/
set_option linter.unusedSimpArgs false
set_option linter.unusedVariables false
set_option maxRecDepth 100000
namespace Go.Proofs.Ytjmjiegplnfiiaa
open Go Go.Pv
/-! ### The reverse plan of the reference -/
end Go.Proofs.Ytjmjiegplnfiiaa

/- Orders, handlings and orders of the reverse plan. No conditions. -/
set_option linter.unusedSimpArgs false
set_option linter.unusedVariables false
set_option maxRecDepth 100000
namespace Go.Proofs.Ytjmjiegplnfiiaa
open Go Go.Pv

def acpX (xs : List Task) (ds : List Int) : Int × Int := if planE xs ≠ 0 then (0, planE xs) else accR (ndX xs) ds
section
variable {xs : List Task} {ds : List Int} {k : Nat}
theorem acp_e (h : planE xs ≠ 0) : acpX xs ds = (0, planE xs) := if_pos h
theorem acp_0 (h : planE xs = 0) : acpX xs ds = accR (ndX xs) ds := if_neg (fun q => q h)
theorem rngOK (h : planE xs = 0) (hq : Fair xs) : RngOK xs := fun x hx => by
  obtain ⟨i, hi⟩ := List.getElem?_of_mem hx
  exact ⟨(hq x hx).1, (task_ok h hi).2.2.2.1⟩
theorem raiseF (q : PV) : Raises [.lit true 6 (xs.map Task.encF), q] [.lit true 6 (xs.map Task.enc), q] := by
  refine .cons (.row (by simp) fun i row row' h1 h2 => ?_) (.cons (.same _) .nil)
  rw [List.getElem?_map] at h1 h2
  cases hx : xs[i]? with
  | none => rw [hx] at h1; cases h1
  | some x =>
    rw [hx] at h1 h2; cases h1; cases h2
    refine .cons (.same _) (.cons (.same _) (.cons (.same _) (.cons (.same _) (.cons (.same _) (.cons (.row rfl fun i row row' h1 h2 => ?_) .nil)))))
    rw [h1] at h2; cases h2
    exact sameR row
end
theorem revE_0 {xs : List Task} (h : planE xs = 0) : revE xs = (revX xs, 0) := if_neg (fun q => q h)
theorem fr37 : (inFrame Try.f37.ntmps (Try.f37.body.getD .skip) && Try.f37.results.toList.all (resScope Try.f37.ntmps)) = true := by kernel_rfl
theorem AcceptX (xs : List Task) (ds : List Int) (hfw : (xs.length : Int) ≤ 15 ∧ Fair xs) (hdl : ds.length ≤ 30) : PCalls Try.prog 37 [.lit true 6 (xs.map Task.enc), .lit true 1 (ds.map ci)] (.tup [.int (acpX xs ds).1, .int (acpX xs ds).2]) := by
  refine PCalls.of_code Try.func37 rfl rfl (by kernel_rfl) mixed fr37 (by show _ ≤ 17; simp) (pure_2 (.sc _) (.sc _)) ?_
  refine pwp_seq_plain rfl fun K1 hK1 => ?_
  refine p_step rfl (e_assign (v := .sc _) rfl) trivial ?_
  refine p_step rfl (e_assign (v := .sc _) rfl) trivial ?_
  refine p_end (hK1 _ ?_); clear hK1 K1
  refine pwp_seq_seq ?_
  refine pwp_seq_plain rfl fun K2 hK2 => ?_
  refine p_step rfl (e_move (v := .lit _ _ _) rfl) trivial ?_
  refine p_call rfl (.cons inn_lit .nil) (CheckC _ (by omega) hfw.2) ?_
  refine p_step rfl (e_assign (v := .sc _) rfl) trivial ?_
  refine p_end (hK2 _ ?_); clear hK2 K2
  refine pwp_seq_seq ?_
  refine pwp_seq_plain rfl fun K3 hK3 => ?_
  refine p_step rfl (e_move (v := .sc _) rfl) trivial ?_
  refine p_step rfl (e_ne rfl rfl) trivial ?_
  refine p_end (hK3 _ ?_); clear hK3 K3
  refine pwp_seq_cond rfl fun K4 hK4 => ⟨fun hb5 => ?_, fun hb5 => ?_⟩
  ·have hb5R := hb5; try simp only [z1, z2, z3, z4, z5, z6, ne_eq, z7, z8, z9, z10, z11, z12] at hb5
   refine pwp_seq_plain rfl fun K6 hK6 => ?_
   refine p_step rfl (e_move (v := .sc _) rfl) trivial ?_
   refine p_step rfl (e_assign (v := .sc _) rfl) trivial ?_
   refine p_step rfl (e_assign (v := .sc _) rfl) trivial ?_
   refine p_end (hK6 _ ?_); clear hK6 K6
   refine pwp_ret ?_
   refine ret_seq ?_
   refine end2 (v := .sc _) (w := .sc _) rfl rfl ?_
   first
     | exact pr2 (acp_e (by assumption))
     | exact (by rw [acp_0 hp]; exact pr2 rfl)
  ·have hb5R := hb5; try simp only [z1, z2, z3, z4, z5, z6, ne_eq, z7, z8, z9, z10, z11, z12] at hb5
   refine pwp_skip ?_
   refine seq_norm (hK4 _ ?_); clear hK4 K4
   have hp : planE xs = 0 := (by assumption)
   refine pwp_seq_plain rfl fun K7 hK7 => ?_
   refine p_step rfl (e_move (v := .lit _ _ _) rfl) trivial ?_
   refine p_step rfl (e_move (v := .lit _ _ _) rfl) trivial ?_
   refine p_call rfl (.cons inn_lit (.cons inn_lit .nil)) (acceptC _ _ (by omega) hdl (rngOK hp hfw.2)) ?_
   refine p_step rfl (e_ext (v := .sc _) rfl (by simp) rfl) trivial ?_
   refine p_step rfl (e_ext (v := .sc _) rfl (by simp) rfl) trivial ?_
   refine p_step rfl (e_assign (v := .sc _) rfl) trivial ?_
   refine p_step rfl (e_assign (v := .sc _) rfl) trivial ?_
   refine p_end (hK7 _ ?_); clear hK7 K7
   refine pwp_ret ?_
   refine end2 (v := .sc _) (w := .sc _) rfl rfl ?_
   first
     | exact pr2 (acp_e (by assumption))
     | exact (by rw [acp_0 hp]; exact pr2 rfl)

end Go.Proofs.Ytjmjiegplnfiiaa
