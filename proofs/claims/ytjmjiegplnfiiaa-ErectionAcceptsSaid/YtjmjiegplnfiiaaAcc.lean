/- Orders that are accepted. No conditions. -/
import Derived.Test.YtjmjiegplnfiiaaStg2
set_option linter.unusedSimpArgs false
set_option linter.unusedVariables false
set_option maxRecDepth 100000
namespace Go.Proofs.Ytjmjiegplnfiiaa
open Go Go.Pv
/-! ### Orders that are accepted -/
def accE (nd : List (List Int)) (D : List Int) (z : Int) : Int := if ¬ (0 ≤ z ∧ z ≤ (nd.length : Int) - 1) then 6 else if z ∈ D then 5 else if ¬ (∀ y ∈ nd_ nd z.toNat, y ∈ D) then 10 else 0
/-- The place of the first wrong element of an order with its error, or -1. -/
def accR (nd : List (List Int)) (ds : List Int) : Int × Int := match (List.range ds.length).find? fun k => decide (accE nd (ds.take k) (at0 ds k) ≠ 0) with
  | some k => ((k : Int), accE nd (ds.take k) (at0 ds k))
  | none => if ds.length < nd.length then ((ds.length : Int), 11) else (-1, 0)
section
variable {nd : List (List Int)} {ds : List Int} {k : Nat}
theorem acc_hit {e : Int} (hk : k < ds.length) (h : ∀ i, i < k → accE nd (ds.take i) (at0 ds i) = 0) (he : accE nd (ds.take k) (at0 ds k) = e) (hne : e ≠ 0) : accR nd ds = ((k : Int), e) := by
  have : (List.range ds.length).find? (fun k => decide (accE nd (ds.take k) (at0 ds k) ≠ 0)) = some k := by
    rw [List.find?_range_eq_some]
    exact ⟨decide_eq_true (by rw [he]; exact hne), List.mem_range.2 hk, fun j hj => by rw [h j hj]; decide⟩
  rw [accR, this]; simp only [he]
theorem acc_none (h : ∀ i, i < k → accE nd (ds.take i) (at0 ds i) = 0) (hk : ds.length ≤ k) : accR nd ds = if ds.length < nd.length then ((ds.length : Int), 11) else (-1, 0) := by
  have : (List.range ds.length).find? (fun k => decide (accE nd (ds.take k) (at0 ds k) ≠ 0)) = none := by
    rw [List.find?_eq_none]
    intro i hi
    rw [h i (by have := List.mem_range.1 hi; omega)]; decide
  rw [accR, this]
theorem acc_11 (h : ∀ i, i < k → accE nd (ds.take i) (at0 ds i) = 0) (hk : ds.length ≤ k) (hl : ds.length < nd.length) : accR nd ds = ((ds.length : Int), 11) := by rw [acc_none h hk, if_pos hl]
theorem acc_ok (h : ∀ i, i < k → accE nd (ds.take i) (at0 ds i) = 0) (hk : ds.length ≤ k) (hl : ¬ ds.length < nd.length) : accR nd ds = (-1, 0) := by rw [acc_none h hk, if_neg hl]
theorem acE_6 {D : List Int} {z : Int} (h : ¬ (0 ≤ z ∧ z ≤ (nd.length : Int) - 1)) : accE nd D z = 6 := if_pos h
theorem acE_5 {D : List Int} {z : Int} (h : 0 ≤ z ∧ z ≤ (nd.length : Int) - 1) (h2 : z ∈ D) : accE nd D z = 5 := by rw [accE, if_neg (fun q => q h), if_pos h2]
theorem acE_10 {D : List Int} {z : Int} (h : 0 ≤ z ∧ z ≤ (nd.length : Int) - 1) (h2 : z ∉ D) (h3 : ((nd_ nd z.toNat).all fun y => decide (y ∈ D)) = false) : accE nd D z = 10 := by
  rw [accE, if_neg (fun q => q h), if_neg h2, if_pos]
  intro q
  rw [List.all_eq_true.2 (fun y hy => decide_eq_true (q y hy))] at h3; cases h3
theorem acE_0 {D : List Int} {z : Int} (h : 0 ≤ z ∧ z ≤ (nd.length : Int) - 1) (h2 : z ∉ D) (h3 : ((nd_ nd z.toNat).all fun y => decide (y ∈ D)) = true) : accE nd D z = 0 := by
  rw [accE, if_neg (fun q => q h), if_neg h2, if_neg]
  intro q
  exact q fun y hy => of_decide_eq_true (List.all_eq_true.1 h3 y hy)
theorem acE_in {D : List Int} {z : Int} (h : accE nd D z = 0) : 0 ≤ z ∧ z < nd.length := by
  unfold accE at h
  split at h
  · cases h
  · rename_i h1; omega
end
def RngOK (xs : List Task) : Prop := ∀ x ∈ xs, x.needs.length ≤ 1000 ∧ ∀ z ∈ x.needs, 0 ≤ z ∧ z < xs.length

theorem frH115 : (inFrame Try.f115.ntmps (Try.f115.body.getD .skip) && Try.f115.results.toList.all (resScope Try.f115.ntmps)) = true := by kernel_rfl
theorem acc1H (bs : List Bool) (z : Int) (h0 : Heap) (c0 : Nat → Nat) (hb : h0 (6, 0) = some (.rows 1 [[.ref (11, 0) 1 0 bs.length]])) (ho : h0 (11, 0) = some (.rows 1 (bs.map cbo))) (hz : 0 ≤ z ∧ z < bs.length) : HCallsR Try.prog 115 [.int z, .ptr (6, 0) 1 0 0] h0 c0 (fun v h _ => v = .bool (!(bs.getD z.toNat false)) ∧ h = h0) := by
  refine HCallsR.of_code Try.func115 rfl rfl (by kernel_rfl) mixed frH115 (by show _ ≤ 9; simp) ?_
  refine pwp_seq_plain rfl fun K1 hK1 => ?_
  refine p_step rfl (e_assign (v := .sc _) rfl) trivial ?_
  refine p_end (hK1 _ ?_); clear hK1 K1
  refine pwp_seq_plain rfl fun K2 hK2 => ?_
  refine p_step rfl (e_loadH (v := .ref _ _ _ _) rfl hb (by kernel_rfl) (by kernel_rfl) (by kernel_rfl) (by exact Nat.zero_lt_one) (by decide) rfl) trivial ?_
  refine p_step rfl (e_move (v := .sc _) rfl) trivial ?_
  refine p_step rfl (e_ixaR0 rfl rfl (by kernel_rfl) (by kernel_rfl) (by omega)) trivial ?_
  refine p_step rfl (e_loadH (v := .sc _) rfl ho (by kernel_rfl) (by kernel_rfl) (by kernel_rfl) (by simp only [List.length_map]; omega) (by decide) ((cell_map (bs_get hz) _).trans rfl)) trivial ?_
  refine p_step rfl (e_not rfl) trivial ?_
  refine p_step rfl (e_assign (v := .sc _) rfl) trivial ?_
  refine p_end (hK2 _ ?_); clear hK2 K2
  refine pwp_ret ?_
  refine end1 (v := .sc _) rfl ?_
  exact ⟨rfl, rfl⟩

theorem frH114 : (inFrame Try.f114.ntmps (Try.f114.body.getD .skip) && Try.f114.results.toList.all (resScope Try.f114.ntmps)) = true := by kernel_rfl
theorem accIxH (bs : List Bool) (l : List Int) (h0 : Heap) (c0 : Nat → Nat) (hb : h0 (6, 0) = some (.rows 1 [[.ref (11, 0) 1 0 bs.length]])) (ho : h0 (11, 0) = some (.rows 1 (bs.map cbo))) (hl : l.length ≤ 1000000) (hz : ∀ z ∈ l, 0 ≤ z ∧ z < bs.length) : HCallsR Try.prog 114 [.lit true 1 (l.map ci), .func (.func 115) [] [.ptr (6, 0) 1 0 0]] h0 c0 (fun v h _ => v = .int (ixI (fun z : Int => !(bs.getD z.toNat false)) l) ∧ h = h0) := by
  refine HCallsR.of_code Try.func114 rfl rfl (by kernel_rfl) mixed frH114 (by show _ ≤ 19; simp) ?_
  refine pwp_seq_plain rfl fun K1 hK1 => ?_
  refine p_step rfl (e_assign (v := .sc _) rfl) trivial ?_
  refine p_end (hK1 _ ?_); clear hK1 K1
  refine pwp_seq_seq ?_
  refine pwp_seq_plain rfl fun K2 hK2 => ?_
  refine p_step rfl (e_move (v := .lit _ _ _) rfl) trivial ?_
  refine p_step rfl (e_len rfl (by kernel_rfl)) trivial ?_
  refine p_step rfl (e_move (v := .sc _) rfl) trivial ?_
  refine p_end (hK2 _ ?_); clear hK2 K2
  refine pwp_seq_block fun K3 hK3 => ?_
  refine pwp_loopR (α := Nat) [0, 1, 7] (fun (k : Nat) => [(8, .int (k))]) (fun (k : Nat) (h : Heap) (_ : Nat → Nat) => ((k) ≤ l.length) ∧ (∀ i, i < (k) → (fun z : Int => !(bs.getD z.toNat false)) (at0 l i) = false) ∧ (h = h0) ∧ (h (6, 0) = some (.rows 1 [[.ref (11, 0) 1 0 bs.length]])) ∧ (h (11, 0) = some (.rows 1 (bs.map cbo)))) (fun (k : Nat) => l.length - (k)) (0) (by exact ⟨rfl, trivial⟩) (by exact ⟨by exact Nat.zero_le _, by exact upto_0, by exact rfl, hb, ho⟩) fun k r4 h5 c6 hj7 => ?_
  obtain ⟨hk, hin, hhe, hihj7_0, hihj7_1⟩ := hj7
  try dsimp only at hk
  try dsimp only at hin
  try dsimp only at hhe
  try dsimp only at hihj7_0
  try dsimp only at hihj7_1
  show pwp _ _ (loopQ _ _ _) ⟨sets (mix _ _ _) [(8, .int k)], _, _⟩
  refine pwp_seq_plain rfl fun K8 hK8 => ?_
  refine p_step rfl (e_lt rfl rfl) trivial ?_
  refine p_end (hK8 _ ?_); clear hK8 K8
  refine pwp_seq_cond rfl fun K9 hK9 => ⟨fun hb10 => ?_, fun hb10 => ?_⟩
  ·have hb10R := hb10; try simp only [z1, z2, z3, z4, z5, z6, ne_eq, z7, z8, z9, z10, z11, z12] at hb10
   subst hhe
   refine pwp_skip ?_
   refine seq_norm (hK9 _ ?_); clear hK9 K9
   refine pwp_seq_block fun K11 hK11 => ?_
   refine pwp_seq_plain rfl fun K12 hK12 => ?_
   refine p_step rfl (e_move (v := .sc _) rfl) trivial ?_
   refine p_step rfl (e_assign (v := .sc _) rfl) trivial ?_
   refine p_end (hK12 _ ?_); clear hK12 K12
   refine pwp_seq_plain rfl fun K13 hK13 => ?_
   refine p_step rfl (e_move (v := .func _ _ _) rfl) trivial ?_
   refine p_step rfl (e_move (v := .lit _ _ _) rfl) trivial ?_
   refine p_step rfl (e_move (v := .sc _) rfl) trivial ?_
   refine p_step rfl (e_ixa rfl rfl (by kernel_rfl) (by kernel_rfl) (by first | omega | (simp only [List.length_map]; omega))) trivial ?_
   refine p_step rfl (e_load (v := .sc _) rfl (by kernel_rfl) (by kernel_rfl) (by kernel_rfl) (by first | omega | (simp only [List.length_map]; omega)) (by decide) ((cell_map (at0_get (l := l) (i := k) (by simp only [List.length_map] at *; omega)) _).trans rfl)) trivial ?_
   refine p_hcall rfl (acc1H bs (at0 l k) _ _ hihj7_0 hihj7_1 (hz _ (at0_mem (by simp only [List.length_map] at *; omega)))) fun v14 h15 c16 hR17 => ?_
   obtain ⟨rfl, rfl⟩ := hR17
   refine p_end (hK13 _ ?_); clear hK13 K13
   refine pwp_cond rfl (fun hb18 => ?_) (fun hb18 => ?_)
   ·have hb18R := hb18; try simp only [z1, z2, z3, z4, z5, z6, ne_eq, z7, z8, z9, z10, z11, z12] at hb18
    refine pwp_seq_plain rfl fun K19 hK19 => ?_
    refine p_step rfl (e_move (v := .sc _) rfl) trivial ?_
    refine p_step rfl (e_assign (v := .sc _) rfl) trivial ?_
    refine p_end (hK19 _ ?_); clear hK19 K19
    refine pwp_ret ?_
    refine ret_block ?_
    refine ret_seq ?_
    refine ret_loop ?_
    refine ret_block ?_
    refine ret_seq ?_
    refine end1 (v := .sc _) rfl ?_
    first
      | exact ⟨congrArg PV.int (ixI_hit (K := (fun z : Int => !(bs.getD z.toNat false))) (k := k) (by simp only [List.length_map] at *; omega) hin (by show (!(bs.getD (at0 l k).toNat false)) = true; first | assumption | simp_all)), rfl⟩
      | exact ⟨congrArg PV.int (ixI_no (K := (fun z : Int => !(bs.getD z.toNat false))) hin (by simp only [List.length_map] at *; omega)), rfl⟩
   ·have hb18R := hb18; try simp only [z1, z2, z3, z4, z5, z6, ne_eq, z7, z8, z9, z10, z11, z12] at hb18
    refine pwp_skip ?_
    refine block_norm ?_
    refine seq_norm (hK11 _ ?_); clear hK11 K11
    refine pwp_plain rfl fun K20 hK20 => ?_
    refine p_step rfl (e_add rfl rfl (by first | omega | (simp only [List.length_map] at *; omega))) trivial ?_
    refine p_step rfl (e_move (v := .sc _) rfl) trivial ?_
    refine p_end (hK20 _ ?_); clear hK20 K20
    exact loop_again (k + 1) (by show _ < _; omega) ⟨rfl, rfl, rfl, trivial⟩ ⟨rfl, trivial⟩ (by exact ⟨by show _ + 1 ≤ _; simp only [List.length_map] at *; omega, by exact upto_step (p := fun i => (fun z : Int => !(bs.getD z.toNat false)) (at0 l i) = false) hin (by show (!(bs.getD (at0 l k).toNat false)) = false; first | assumption | simp_all), by exact rfl, hihj7_0, hihj7_1⟩)
  ·have hb10R := hb10; try simp only [z1, z2, z3, z4, z5, z6, ne_eq, z7, z8, z9, z10, z11, z12] at hb10
   subst hhe
   refine pwp_exit ?_
   refine exit_seq ?_
   clear hK9 K9
   refine exit_loop ?_
   refine exit_here ?_
   refine seq_norm (hK3 _ ?_); clear hK3 K3
   refine pwp_seq_plain rfl fun K21 hK21 => ?_
   refine p_step rfl (e_assign (v := .sc _) rfl) trivial ?_
   refine p_end (hK21 _ ?_); clear hK21 K21
   refine pwp_ret ?_
   refine end1 (v := .sc _) rfl ?_
   first
     | exact ⟨congrArg PV.int (ixI_hit (K := (fun z : Int => !(bs.getD z.toNat false))) (k := k) (by simp only [List.length_map] at *; omega) hin (by show (!(bs.getD (at0 l k).toNat false)) = true; first | assumption | simp_all)), rfl⟩
     | exact ⟨congrArg PV.int (ixI_no (K := (fun z : Int => !(bs.getD z.toNat false))) hin (by simp only [List.length_map] at *; omega)), rfl⟩

theorem frH79 : (inFrame Try.f79.ntmps (Try.f79.body.getD .skip) && Try.f79.results.toList.all (resScope Try.f79.ntmps)) = true := by kernel_rfl
theorem accAnyH (bs : List Bool) (l : List Int) (h0 : Heap) (c0 : Nat → Nat) (hb : h0 (6, 0) = some (.rows 1 [[.ref (11, 0) 1 0 bs.length]])) (ho : h0 (11, 0) = some (.rows 1 (bs.map cbo))) (hl : l.length ≤ 1000000) (hz : ∀ z ∈ l, 0 ≤ z ∧ z < bs.length) : HCallsR Try.prog 79 [.lit true 1 (l.map ci), .func (.func 115) [] [.ptr (6, 0) 1 0 0]] h0 c0 (fun v h _ => v = .bool (!(hasB bs l)) ∧ h = h0) := by
  refine HCallsR.of_code Try.func79 rfl rfl (by kernel_rfl) mixed frH79 (by show _ ≤ 9; simp) ?_
  refine pwp_seq_plain rfl fun K1 hK1 => ?_
  refine p_step rfl (e_assign (v := .sc _) rfl) trivial ?_
  refine p_end (hK1 _ ?_); clear hK1 K1
  refine pwp_seq_plain rfl fun K2 hK2 => ?_
  refine p_step rfl (e_move (v := .lit _ _ _) rfl) trivial ?_
  refine p_step rfl (e_move (v := .func _ _ _) rfl) trivial ?_
  refine p_hcall rfl (accIxH bs l _ _ hb ho hl hz) fun v3 h4 c5 hR6 => ?_
  obtain ⟨rfl, rfl⟩ := hR6
  refine p_step rfl (e_ge rfl rfl) trivial ?_
  refine p_step rfl (e_assign (v := .sc _) rfl) trivial ?_
  refine p_end (hK2 _ ?_); clear hK2 K2
  refine pwp_ret ?_
  refine end1 (v := .sc _) rfl ?_
  exact ⟨congrArg PV.bool (ixI_any.trans (any_has bs l)), rfl⟩

theorem fr82 : (inFrame Try.f82.ntmps (Try.f82.body.getD .skip) && Try.f82.results.toList.all (resScope Try.f82.ntmps)) = true := by kernel_rfl
theorem acceptC (xs : List Task) (ds : List Int) (hxl : xs.length ≤ 15) (hdl : ds.length ≤ 30) (hr : RngOK xs) : PCalls Try.prog 82 [.lit true 6 (xs.map Task.enc), .lit true 1 (ds.map ci)] (.tup [.int (accR (ndX xs) ds).1, .int (accR (ndX xs) ds).2]) := by
  refine PCalls.of_code Try.func82 rfl rfl (by kernel_rfl) mixed fr82 (by show _ ≤ 53; simp) (pure_2 (.sc _) (.sc _)) ?_
  refine pwp_seq_plain rfl fun K1 hK1 => ?_
  refine p_step rfl (e_assign (v := .sc _) rfl) trivial ?_
  refine p_step rfl (e_assign (v := .sc _) rfl) trivial ?_
  refine p_end (hK1 _ ?_); clear hK1 K1
  refine pwp_seq_plain rfl fun K2 hK2 => ?_
  refine p_step rfl (e_move (v := .lit _ _ _) rfl) trivial ?_
  refine p_step rfl (e_len rfl (by kernel_rfl)) trivial ?_
  refine p_new rfl (e_mkB (n := xs.length) rfl rfl (by rw [List.length_map]) (by kernel_rfl) (by kernel_rfl) (by kernel_rfl) (by decide +kernel) (by omega)) trivial ?_
  rw [← doneB_nil (n := xs.length), ← List.take_zero (l := ds)]
  refine p_new rfl (e_alloc (cs := [.nil]) (n := 1) (by kernel_rfl) rfl (by decide)) (ob_alloc (by decide)) ?_
  refine p_store rfl (e_store1 rfl (hset_self _ _ _) rfl rfl rfl (by decide) (by kernel_rfl) rfl (by kernel_rfl)) trivial ?_
  refine p_end (hK2 _ ?_); clear hK2 K2
  refine pwp_seq_seq ?_
  refine pwp_seq_plain rfl fun K3 hK3 => ?_
  refine p_step rfl (e_move (v := .lit _ _ _) rfl) trivial ?_
  refine p_step rfl (e_len rfl (by kernel_rfl)) trivial ?_
  refine p_step rfl (e_move (v := .sc _) rfl) trivial ?_
  refine p_end (hK3 _ ?_); clear hK3 K3
  refine pwp_seq_block fun K4 hK4 => ?_
  refine pwp_loopR (α := Nat) [0, 1, 6, 12, 13] (fun (k : Nat) => [(14, .int (k))]) (fun (k : Nat) (h : Heap) (_ : Nat → Nat) => ((k) ≤ ds.length) ∧ (∀ i, i < (k) → accE (ndX xs) (ds.take i) (at0 ds i) = 0) ∧ (h (6, 0) = some (.rows 1 [[.ref (11, 0) 1 0 xs.length]])) ∧ (h (11, 0) = some (.rows 1 ((doneB xs.length (ds.take (k))).map cbo)))) (fun (k : Nat) => ds.length - (k)) (0) (by exact ⟨rfl, trivial⟩) (by exact ⟨by exact Nat.zero_le _, by exact upto_0, (hset_self _ _ _), ((hset_ne (key_ne rfl)).trans ((hset_ne (key_ne rfl)).trans (hset_self _ _ _)))⟩) fun k r5 h6 c7 hj8 => ?_
  obtain ⟨hk, hac, hihj8_0, hihj8_1⟩ := hj8
  try dsimp only at hk
  try dsimp only at hac
  try dsimp only at hihj8_0
  try dsimp only at hihj8_1
  show pwp _ _ (loopQ _ _ _) ⟨sets (mix _ _ _) [(14, .int k)], _, _⟩
  refine pwp_seq_plain rfl fun K9 hK9 => ?_
  refine p_step rfl (e_lt rfl rfl) trivial ?_
  refine p_end (hK9 _ ?_); clear hK9 K9
  refine pwp_seq_cond rfl fun K10 hK10 => ⟨fun hb11 => ?_, fun hb11 => ?_⟩
  ·have hb11R := hb11; try simp only [z1, z2, z3, z4, z5, z6, ne_eq, z7, z8, z9, z10, z11, z12] at hb11
   refine pwp_skip ?_
   refine seq_norm (hK10 _ ?_); clear hK10 K10
   refine pwp_seq_block fun K12 hK12 => ?_
   refine pwp_seq_plain rfl fun K13 hK13 => ?_
   refine p_step rfl (e_move (v := .sc _) rfl) trivial ?_
   refine p_step rfl (e_ixa rfl rfl (by kernel_rfl) (by kernel_rfl) (by first | omega | (simp only [List.length_map]; omega))) trivial ?_
   refine p_step rfl (e_load (v := .sc _) rfl (by kernel_rfl) (by kernel_rfl) (by kernel_rfl) (by first | omega | (simp only [List.length_map]; omega)) (by decide) ((cell_map (at0_get (l := ds) (i := k) (by simp only [List.length_map] at *; omega)) _).trans rfl)) trivial ?_
   refine p_step rfl (e_assign (v := .sc _) rfl) trivial ?_
   refine p_step rfl (e_assign (v := .sc _) rfl) trivial ?_
   refine p_end (hK13 _ ?_); clear hK13 K13
   refine pwp_seq_block fun K14 hK14 => ?_
   refine pwp_seq_plain rfl fun K15 hK15 => ?_
   refine p_step rfl (e_move (v := .sc _) rfl) trivial ?_
   refine p_step rfl (e_move (v := .lit _ _ _) rfl) trivial ?_
   refine p_step rfl (e_len rfl (by kernel_rfl)) trivial ?_
   refine p_step rfl (e_sub rfl rfl (by first | omega | (simp only [List.length_map] at *; omega))) trivial ?_
   refine p_call rfl (.cons inn_sc (.cons inn_sc (.cons inn_sc .nil))) (within _ _ _) ?_
   refine p_step rfl (e_not rfl) trivial ?_
   refine p_step rfl (e_assign (v := .sc _) rfl) trivial ?_
   refine p_end (hK15 _ ?_); clear hK15 K15
   refine pwp_cond rfl (fun hb16 => ?_) (fun hb16 => ?_)
   ·have hb16R := hb16; try simp only [z1, z2, z3, z4, z5, z6, ne_eq, z7, z8, z9, z10, z11, z12] at hb16
    refine pwp_seq_plain rfl fun K17 hK17 => ?_
    refine p_step rfl (e_move (v := .sc _) rfl) trivial ?_
    refine p_step rfl (e_assign (v := .sc _) rfl) trivial ?_
    refine p_step rfl (e_assign (v := .sc _) rfl) trivial ?_
    refine p_end (hK17 _ ?_); clear hK17 K17
    refine pwp_ret ?_
    refine ret_block ?_
    refine ret_seq ?_
    refine ret_block ?_
    refine ret_seq ?_
    refine ret_loop ?_
    refine ret_block ?_
    refine ret_seq ?_
    refine end2 (v := .sc _) (w := .sc _) rfl rfl ?_
    first
      | exact pr2 (acc_hit (k := k) (by simp only [List.length_map] at *; omega) hac (acE_6 (by rw [ndX_len]; simp only [List.length_map] at *; omega)) (by decide))
      | exact pr2 (acc_hit (k := k) (by simp only [List.length_map] at *; omega) hac (acE_5 hz1 (by assumption)) (by decide))
      | exact pr2 (acc_hit (k := k) (by simp only [List.length_map] at *; omega) hac (acE_10 hz1 (by assumption) (by rw [hxe, ← hxa]; first | assumption | simp_all)) (by decide))
      | exact pr2 ((acc_11 hac (by omega) (by rw [ndX_len]; simp only [List.length_map] at *; omega)).trans (by simp only [List.length_map]))
      | exact pr2 (acc_ok hac (by omega) (by rw [ndX_len]; simp only [List.length_map] at *; omega))
   ·have hb16R := hb16; try simp only [z1, z2, z3, z4, z5, z6, ne_eq, z7, z8, z9, z10, z11, z12] at hb16
    have hz0 : 0 ≤ at0 ds k ∧ at0 ds k ≤ (xs.length : Int) - 1 := by simp only [List.length_map] at *; omega
    have hz1 : 0 ≤ at0 ds k ∧ at0 ds k ≤ ((ndX xs).length : Int) - 1 := by rw [ndX_len]; exact hz0
    obtain ⟨u, hu, hul⟩ : ∃ u : Nat, at0 ds k = (u : Int) ∧ u < xs.length := ⟨(at0 ds k).toNat, by omega, by omega⟩
    obtain ⟨x, hx, _, _⟩ := get_lt (xs := xs) (i := (at0 ds k).toNat) (by omega)
    obtain ⟨hxl1, hxn⟩ := hr x (List.mem_of_getElem? hx)
    have hxa := has_done (D := ds.take k) hxn
    have hxe : nd_ (ndX xs) (at0 ds k).toNat = x.needs := ndX_at hx
    have hdb := doneB_len (n := xs.length) (D := ds.take k)
    refine pwp_seq_plain rfl fun K18 hK18 => ?_
    refine p_step rfl (e_loadH (v := .ref _ _ _ _) rfl hihj8_0 (by kernel_rfl) (by kernel_rfl) (by kernel_rfl) (by exact Nat.zero_lt_one) (by decide) rfl) trivial ?_
    refine p_step rfl (e_move (v := .sc _) rfl) trivial ?_
    refine p_step rfl (e_ixaR0 rfl rfl (by kernel_rfl) (by kernel_rfl) (by (first | omega | (rw [doneB_len]; omega)))) trivial ?_
    refine p_step rfl (e_loadH (v := .sc _) rfl hihj8_1 (by kernel_rfl) (by kernel_rfl) (by kernel_rfl) (by simp only [List.length_map, doneB_len]; omega) (by decide) ((cell_map (done_get (by omega)) _).trans rfl)) trivial ?_
    refine p_step rfl (e_assign (v := .sc _) rfl) trivial ?_
    refine p_end (hK18 _ ?_); clear hK18 K18
    refine pwp_cond rfl (fun hb19 => ?_) (fun hb19 => ?_)
    ·have hb19R := hb19; try simp only [z1, z2, z3, z4, z5, z6, ne_eq, z7, z8, z9, z10, z11, z12] at hb19
     refine pwp_seq_plain rfl fun K20 hK20 => ?_
     refine p_step rfl (e_move (v := .sc _) rfl) trivial ?_
     refine p_step rfl (e_assign (v := .sc _) rfl) trivial ?_
     refine p_step rfl (e_assign (v := .sc _) rfl) trivial ?_
     refine p_end (hK20 _ ?_); clear hK20 K20
     refine pwp_ret ?_
     refine ret_block ?_
     refine ret_seq ?_
     refine ret_block ?_
     refine ret_seq ?_
     refine ret_loop ?_
     refine ret_block ?_
     refine ret_seq ?_
     refine end2 (v := .sc _) (w := .sc _) rfl rfl ?_
     first
       | exact pr2 (acc_hit (k := k) (by simp only [List.length_map] at *; omega) hac (acE_6 (by rw [ndX_len]; simp only [List.length_map] at *; omega)) (by decide))
       | exact pr2 (acc_hit (k := k) (by simp only [List.length_map] at *; omega) hac (acE_5 hz1 (by assumption)) (by decide))
       | exact pr2 (acc_hit (k := k) (by simp only [List.length_map] at *; omega) hac (acE_10 hz1 (by assumption) (by rw [hxe, ← hxa]; first | assumption | simp_all)) (by decide))
       | exact pr2 ((acc_11 hac (by omega) (by rw [ndX_len]; simp only [List.length_map] at *; omega)).trans (by simp only [List.length_map]))
       | exact pr2 (acc_ok hac (by omega) (by rw [ndX_len]; simp only [List.length_map] at *; omega))
    ·have hb19R := hb19; try simp only [z1, z2, z3, z4, z5, z6, ne_eq, z7, z8, z9, z10, z11, z12] at hb19
     refine pwp_seq_plain rfl fun K21 hK21 => ?_
     refine p_step rfl (e_move (v := .lit _ _ _) rfl) trivial ?_
     refine p_step rfl (e_move (v := .sc _) rfl) trivial ?_
     refine p_step rfl (e_ixa rfl rfl (by kernel_rfl) (by kernel_rfl) (by first | omega | (simp only [List.length_map]; omega))) trivial ?_
     refine p_step rfl (e_fa (pl := [(0, 1, false), (1, 1, false), (2, 1, false), (3, 1, false), (4, 1, false), (5, 1, false)]) rfl (by kernel_rfl) (by kernel_rfl) (by decide) rfl) trivial ?_
     refine p_step rfl (e_load (v := .lit _ _ _) rfl (by kernel_rfl) (by kernel_rfl) (by kernel_rfl) (by first | omega | (simp only [List.length_map]; omega)) (by decide) ((cell_map hx _).trans rfl)) trivial ?_
     refine p_step rfl (e_mkf rfl) trivial ?_
     refine p_hcall rfl (accAnyH (doneB xs.length (ds.take k)) x.needs _ _ (by rw [doneB_len]; exact hihj8_0) hihj8_1 (by omega) (by rw [doneB_len]; exact hxn)) fun v22 h23 c24 hR25 => ?_
     obtain ⟨rfl, rfl⟩ := hR25
     refine p_step rfl (e_assign (v := .sc _) rfl) trivial ?_
     refine p_end (hK21 _ ?_); clear hK21 K21
     refine pwp_cond rfl (fun hb26 => ?_) (fun hb26 => ?_)
     ·have hb26R := hb26; try simp only [z1, z2, z3, z4, z5, z6, ne_eq, z7, z8, z9, z10, z11, z12] at hb26
      refine pwp_seq_plain rfl fun K27 hK27 => ?_
      refine p_step rfl (e_move (v := .sc _) rfl) trivial ?_
      refine p_step rfl (e_assign (v := .sc _) rfl) trivial ?_
      refine p_step rfl (e_assign (v := .sc _) rfl) trivial ?_
      refine p_end (hK27 _ ?_); clear hK27 K27
      refine pwp_ret ?_
      refine ret_block ?_
      refine ret_seq ?_
      refine ret_block ?_
      refine ret_seq ?_
      refine ret_loop ?_
      refine ret_block ?_
      refine ret_seq ?_
      refine end2 (v := .sc _) (w := .sc _) rfl rfl ?_
      first
        | exact pr2 (acc_hit (k := k) (by simp only [List.length_map] at *; omega) hac (acE_6 (by rw [ndX_len]; simp only [List.length_map] at *; omega)) (by decide))
        | exact pr2 (acc_hit (k := k) (by simp only [List.length_map] at *; omega) hac (acE_5 hz1 (by assumption)) (by decide))
        | exact pr2 (acc_hit (k := k) (by simp only [List.length_map] at *; omega) hac (acE_10 hz1 (by assumption) (by rw [hxe, ← hxa]; first | assumption | simp_all)) (by decide))
        | exact pr2 ((acc_11 hac (by omega) (by rw [ndX_len]; simp only [List.length_map] at *; omega)).trans (by simp only [List.length_map]))
        | exact pr2 (acc_ok hac (by omega) (by rw [ndX_len]; simp only [List.length_map] at *; omega))
     ·have hb26R := hb26; try simp only [z1, z2, z3, z4, z5, z6, ne_eq, z7, z8, z9, z10, z11, z12] at hb26
      refine pwp_skip ?_
      refine block_norm ?_
      refine seq_norm (hK14 _ ?_); clear hK14 K14
      refine pwp_plain rfl fun K28 hK28 => ?_
      refine p_step rfl (e_loadH (v := .ref _ _ _ _) rfl hihj8_0 (by kernel_rfl) (by kernel_rfl) (by kernel_rfl) (by exact Nat.zero_lt_one) (by decide) rfl) trivial ?_
      refine p_step rfl (e_move (v := .sc _) rfl) trivial ?_
      refine p_step rfl (e_ixaR0 rfl rfl (by kernel_rfl) (by kernel_rfl) (by (first | omega | (rw [doneB_len]; omega)))) trivial ?_
      refine p_store rfl (e_storeB (zs := (doneB xs.length (ds.take k))) (a := true) rfl hihj8_1 rfl (by (first | omega | (rw [doneB_len]; omega))) (by kernel_rfl) (by kernel_rfl)) trivial ?_
      refine p_end (hK28 _ ?_); clear hK28 K28
      refine block_norm ?_
      refine seq_norm (hK12 _ ?_); clear hK12 K12
      refine pwp_plain rfl fun K29 hK29 => ?_
      refine p_step rfl (e_add rfl rfl (by first | omega | (simp only [List.length_map] at *; omega))) trivial ?_
      refine p_step rfl (e_move (v := .sc _) rfl) trivial ?_
      refine p_end (hK29 _ ?_); clear hK29 K29
      exact loop_again (k + 1) (by show _ < _; omega) ⟨rfl, rfl, rfl, rfl, rfl, trivial⟩ ⟨rfl, trivial⟩ (by exact ⟨by show _ + 1 ≤ _; simp only [List.length_map] at *; omega, by exact upto_step (p := fun i => accE (ndX xs) (ds.take i) (at0 ds i) = 0) hac (acE_0 hz1 (by first | assumption | simp_all) (by rw [hxe, ← hxa]; first | assumption | simp_all)), ((hset_ne (key_ne rfl)).trans hihj8_0), ((hset_self _ _ _).trans (by (rw [← done_snoc (by simp only [List.length_map] at *; omega) hu hul, hu]; rfl)))⟩)
  ·have hb11R := hb11; try simp only [z1, z2, z3, z4, z5, z6, ne_eq, z7, z8, z9, z10, z11, z12] at hb11
   obtain rfl : k = ds.length := by simp only [List.length_map] at *; omega
   refine pwp_exit ?_
   refine exit_seq ?_
   clear hK10 K10
   refine exit_loop ?_
   refine exit_here ?_
   refine seq_norm (hK4 _ ?_); clear hK4 K4
   refine pwp_seq_seq ?_
   refine pwp_seq_plain rfl fun K30 hK30 => ?_
   refine p_step rfl (e_move (v := .lit _ _ _) rfl) trivial ?_
   refine p_step rfl (e_len rfl (by kernel_rfl)) trivial ?_
   refine p_step rfl (e_move (v := .lit _ _ _) rfl) trivial ?_
   refine p_step rfl (e_len rfl (by kernel_rfl)) trivial ?_
   refine p_step rfl (e_lt rfl rfl) trivial ?_
   refine p_end (hK30 _ ?_); clear hK30 K30
   refine pwp_seq_cond rfl fun K31 hK31 => ⟨fun hb32 => ?_, fun hb32 => ?_⟩
   ·have hb32R := hb32; try simp only [z1, z2, z3, z4, z5, z6, ne_eq, z7, z8, z9, z10, z11, z12] at hb32
    refine pwp_seq_plain rfl fun K33 hK33 => ?_
    refine p_step rfl (e_move (v := .lit _ _ _) rfl) trivial ?_
    refine p_step rfl (e_len rfl (by kernel_rfl)) trivial ?_
    refine p_step rfl (e_assign (v := .sc _) rfl) trivial ?_
    refine p_step rfl (e_assign (v := .sc _) rfl) trivial ?_
    refine p_end (hK33 _ ?_); clear hK33 K33
    refine pwp_ret ?_
    refine ret_seq ?_
    refine end2 (v := .sc _) (w := .sc _) rfl rfl ?_
    first
      | exact pr2 (acc_hit (k := k) (by simp only [List.length_map] at *; omega) hac (acE_6 (by rw [ndX_len]; simp only [List.length_map] at *; omega)) (by decide))
      | exact pr2 (acc_hit (k := k) (by simp only [List.length_map] at *; omega) hac (acE_5 hz1 (by assumption)) (by decide))
      | exact pr2 (acc_hit (k := k) (by simp only [List.length_map] at *; omega) hac (acE_10 hz1 (by assumption) (by rw [hxe, ← hxa]; first | assumption | simp_all)) (by decide))
      | exact pr2 ((acc_11 hac (by omega) (by rw [ndX_len]; simp only [List.length_map] at *; omega)).trans (by simp only [List.length_map]))
      | exact pr2 (acc_ok hac (by omega) (by rw [ndX_len]; simp only [List.length_map] at *; omega))
   ·have hb32R := hb32; try simp only [z1, z2, z3, z4, z5, z6, ne_eq, z7, z8, z9, z10, z11, z12] at hb32
    refine pwp_skip ?_
    refine seq_norm (hK31 _ ?_); clear hK31 K31
    refine pwp_seq_plain rfl fun K34 hK34 => ?_
    refine p_step rfl (e_assign (v := .sc _) rfl) trivial ?_
    refine p_step rfl (e_assign (v := .sc _) rfl) trivial ?_
    refine p_end (hK34 _ ?_); clear hK34 K34
    refine pwp_ret ?_
    refine end2 (v := .sc _) (w := .sc _) rfl rfl ?_
    first
      | exact pr2 (acc_hit (k := k) (by simp only [List.length_map] at *; omega) hac (acE_6 (by rw [ndX_len]; simp only [List.length_map] at *; omega)) (by decide))
      | exact pr2 (acc_hit (k := k) (by simp only [List.length_map] at *; omega) hac (acE_5 hz1 (by assumption)) (by decide))
      | exact pr2 (acc_hit (k := k) (by simp only [List.length_map] at *; omega) hac (acE_10 hz1 (by assumption) (by rw [hxe, ← hxa]; first | assumption | simp_all)) (by decide))
      | exact pr2 ((acc_11 hac (by omega) (by rw [ndX_len]; simp only [List.length_map] at *; omega)).trans (by simp only [List.length_map]))
      | exact pr2 (acc_ok hac (by omega) (by rw [ndX_len]; simp only [List.length_map] at *; omega))

theorem fr40 : (inFrame Try.f40.ntmps (Try.f40.body.getD .skip) && Try.f40.results.toList.all (resScope Try.f40.ntmps)) = true := by kernel_rfl
theorem refAcceptC (xs : List Task) (ds : List Int) (hxl : xs.length ≤ 15) (hdl : ds.length ≤ 30) (hr : RngOK xs) : PCalls Try.prog 40 [.lit true 6 (xs.map Task.enc), .lit true 1 (ds.map ci)] (.tup [.int (accR (ndX xs) ds).1, .int (accR (ndX xs) ds).2]) := by
  refine PCalls.of_code Try.func40 rfl rfl (by kernel_rfl) mixed fr40 (by show _ ≤ 53; simp) (pure_2 (.sc _) (.sc _)) ?_
  refine pwp_seq_plain rfl fun K1 hK1 => ?_
  refine p_step rfl (e_assign (v := .sc _) rfl) trivial ?_
  refine p_step rfl (e_assign (v := .sc _) rfl) trivial ?_
  refine p_end (hK1 _ ?_); clear hK1 K1
  refine pwp_seq_plain rfl fun K2 hK2 => ?_
  refine p_step rfl (e_move (v := .lit _ _ _) rfl) trivial ?_
  refine p_step rfl (e_len rfl (by kernel_rfl)) trivial ?_
  refine p_new rfl (e_mkB (n := xs.length) rfl rfl (by rw [List.length_map]) (by kernel_rfl) (by kernel_rfl) (by kernel_rfl) (by decide +kernel) (by omega)) trivial ?_
  rw [← doneB_nil (n := xs.length), ← List.take_zero (l := ds)]
  refine p_step rfl (e_assign (v := .ref _ _ _ _) rfl) trivial ?_
  refine p_end (hK2 _ ?_); clear hK2 K2
  refine pwp_seq_seq ?_
  refine pwp_seq_plain rfl fun K3 hK3 => ?_
  refine p_step rfl (e_assign (v := .sc _) rfl) trivial ?_
  refine p_end (hK3 _ ?_); clear hK3 K3
  refine pwp_seq_block fun K4 hK4 => ?_
  refine pwp_loopR (α := Nat) [0, 1, 6] (fun (k : Nat) => [(7, .int (k))]) (fun (k : Nat) (h : Heap) (_ : Nat → Nat) => ((k) ≤ ds.length) ∧ (∀ i, i < (k) → accE (ndX xs) (ds.take i) (at0 ds i) = 0) ∧ (h (11, 0) = some (.rows 1 ((doneB xs.length (ds.take (k))).map cbo)))) (fun (k : Nat) => ds.length - (k)) (0) (by exact ⟨rfl, trivial⟩) (by exact ⟨by exact Nat.zero_le _, by exact upto_0, (hset_self _ _ _)⟩) fun k r5 h6 c7 hj8 => ?_
  obtain ⟨hk, hac, hihj8_0⟩ := hj8
  try dsimp only at hk
  try dsimp only at hac
  try dsimp only at hihj8_0
  show pwp _ _ (loopQ _ _ _) ⟨sets (mix _ _ _) [(7, .int k)], _, _⟩
  refine pwp_seq_seq ?_
  refine pwp_seq_plain rfl fun K9 hK9 => ?_
  refine p_step rfl (e_move (v := .sc _) rfl) trivial ?_
  refine p_step rfl (e_move (v := .lit _ _ _) rfl) trivial ?_
  refine p_step rfl (e_len rfl (by kernel_rfl)) trivial ?_
  refine p_step rfl (e_lt rfl rfl) trivial ?_
  refine p_end (hK9 _ ?_); clear hK9 K9
  refine pwp_seq_cond rfl fun K10 hK10 => ⟨fun hb11 => ?_, fun hb11 => ?_⟩
  ·have hb11R := hb11; try simp only [z1, z2, z3, z4, z5, z6, ne_eq, z7, z8, z9, z10, z11, z12] at hb11
   refine pwp_skip ?_
   refine seq_norm (hK10 _ ?_); clear hK10 K10
   refine pwp_seq_block fun K12 hK12 => ?_
   refine pwp_seq_plain rfl fun K13 hK13 => ?_
   refine p_step rfl (e_move (v := .lit _ _ _) rfl) trivial ?_
   refine p_step rfl (e_move (v := .sc _) rfl) trivial ?_
   refine p_step rfl (e_ixa rfl rfl (by kernel_rfl) (by kernel_rfl) (by first | omega | (simp only [List.length_map]; omega))) trivial ?_
   refine p_step rfl (e_load (v := .sc _) rfl (by kernel_rfl) (by kernel_rfl) (by kernel_rfl) (by first | omega | (simp only [List.length_map]; omega)) (by decide) ((cell_map (at0_get (l := ds) (i := k) (by simp only [List.length_map] at *; omega)) _).trans rfl)) trivial ?_
   refine p_step rfl (e_assign (v := .sc _) rfl) trivial ?_
   refine p_end (hK13 _ ?_); clear hK13 K13
   refine pwp_seq_seq ?_
   refine pwp_seq_plain rfl fun K14 hK14 => ?_
   refine p_step rfl (e_move (v := .sc _) rfl) trivial ?_
   refine p_step rfl (e_move (v := .lit _ _ _) rfl) trivial ?_
   refine p_step rfl (e_len rfl (by kernel_rfl)) trivial ?_
   refine p_step rfl (e_sub rfl rfl (by first | omega | (simp only [List.length_map] at *; omega))) trivial ?_
   refine p_call rfl (.cons inn_sc (.cons inn_sc (.cons inn_sc .nil))) (Within _ _ _) ?_
   refine p_step rfl (e_not rfl) trivial ?_
   refine p_end (hK14 _ ?_); clear hK14 K14
   refine pwp_seq_cond rfl fun K15 hK15 => ⟨fun hb16 => ?_, fun hb16 => ?_⟩
   ·have hb16R := hb16; try simp only [z1, z2, z3, z4, z5, z6, ne_eq, z7, z8, z9, z10, z11, z12] at hb16
    refine pwp_seq_plain rfl fun K17 hK17 => ?_
    refine p_step rfl (e_move (v := .sc _) rfl) trivial ?_
    refine p_step rfl (e_assign (v := .sc _) rfl) trivial ?_
    refine p_step rfl (e_assign (v := .sc _) rfl) trivial ?_
    refine p_end (hK17 _ ?_); clear hK17 K17
    refine pwp_ret ?_
    refine ret_seq ?_
    refine ret_block ?_
    refine ret_seq ?_
    refine ret_loop ?_
    refine ret_block ?_
    refine ret_seq ?_
    refine end2 (v := .sc _) (w := .sc _) rfl rfl ?_
    first
      | exact pr2 (acc_hit (k := k) (by simp only [List.length_map] at *; omega) hac (acE_6 (by rw [ndX_len]; simp only [List.length_map] at *; omega)) (by decide))
      | exact pr2 (acc_hit (k := k) (by simp only [List.length_map] at *; omega) hac (acE_5 hz1 (by assumption)) (by decide))
      | exact pr2 (acc_hit (k := k) (by simp only [List.length_map] at *; omega) hac (acE_10 hz1 (by assumption) (by rw [hxe, ← hxa]; first | assumption | simp_all)) (by decide))
      | exact pr2 ((acc_11 hac (by omega) (by rw [ndX_len]; simp only [List.length_map] at *; omega)).trans (by simp only [List.length_map]))
      | exact pr2 (acc_ok hac (by omega) (by rw [ndX_len]; simp only [List.length_map] at *; omega))
   ·have hb16R := hb16; try simp only [z1, z2, z3, z4, z5, z6, ne_eq, z7, z8, z9, z10, z11, z12] at hb16
    refine pwp_skip ?_
    refine seq_norm (hK15 _ ?_); clear hK15 K15
    refine pwp_seq_seq ?_
    have hz0 : 0 ≤ at0 ds k ∧ at0 ds k ≤ (xs.length : Int) - 1 := by simp only [List.length_map] at *; omega
    have hz1 : 0 ≤ at0 ds k ∧ at0 ds k ≤ ((ndX xs).length : Int) - 1 := by rw [ndX_len]; exact hz0
    obtain ⟨u, hu, hul⟩ : ∃ u : Nat, at0 ds k = (u : Int) ∧ u < xs.length := ⟨(at0 ds k).toNat, by omega, by omega⟩
    obtain ⟨x, hx, _, _⟩ := get_lt (xs := xs) (i := (at0 ds k).toNat) (by omega)
    obtain ⟨hxl1, hxn⟩ := hr x (List.mem_of_getElem? hx)
    have hxa := has_done (D := ds.take k) hxn
    have hxe : nd_ (ndX xs) (at0 ds k).toNat = x.needs := ndX_at hx
    have hdb := doneB_len (n := xs.length) (D := ds.take k)
    refine pwp_seq_plain rfl fun K18 hK18 => ?_
    refine p_step rfl (e_move (v := .ref _ _ _ _) rfl) trivial ?_
    refine p_step rfl (e_move (v := .sc _) rfl) trivial ?_
    refine p_step rfl (e_ixaR0 rfl rfl (by kernel_rfl) (by kernel_rfl) (by (first | omega | (rw [doneB_len]; omega)))) trivial ?_
    refine p_step rfl (e_loadH (v := .sc _) rfl hihj8_0 (by kernel_rfl) (by kernel_rfl) (by kernel_rfl) (by simp only [List.length_map, doneB_len]; omega) (by decide) ((cell_map (done_get (by omega)) _).trans rfl)) trivial ?_
    refine p_end (hK18 _ ?_); clear hK18 K18
    refine pwp_seq_cond rfl fun K19 hK19 => ⟨fun hb20 => ?_, fun hb20 => ?_⟩
    ·have hb20R := hb20; try simp only [z1, z2, z3, z4, z5, z6, ne_eq, z7, z8, z9, z10, z11, z12] at hb20
     refine pwp_seq_plain rfl fun K21 hK21 => ?_
     refine p_step rfl (e_move (v := .sc _) rfl) trivial ?_
     refine p_step rfl (e_assign (v := .sc _) rfl) trivial ?_
     refine p_step rfl (e_assign (v := .sc _) rfl) trivial ?_
     refine p_end (hK21 _ ?_); clear hK21 K21
     refine pwp_ret ?_
     refine ret_seq ?_
     refine ret_block ?_
     refine ret_seq ?_
     refine ret_loop ?_
     refine ret_block ?_
     refine ret_seq ?_
     refine end2 (v := .sc _) (w := .sc _) rfl rfl ?_
     first
       | exact pr2 (acc_hit (k := k) (by simp only [List.length_map] at *; omega) hac (acE_6 (by rw [ndX_len]; simp only [List.length_map] at *; omega)) (by decide))
       | exact pr2 (acc_hit (k := k) (by simp only [List.length_map] at *; omega) hac (acE_5 hz1 (by assumption)) (by decide))
       | exact pr2 (acc_hit (k := k) (by simp only [List.length_map] at *; omega) hac (acE_10 hz1 (by assumption) (by rw [hxe, ← hxa]; first | assumption | simp_all)) (by decide))
       | exact pr2 ((acc_11 hac (by omega) (by rw [ndX_len]; simp only [List.length_map] at *; omega)).trans (by simp only [List.length_map]))
       | exact pr2 (acc_ok hac (by omega) (by rw [ndX_len]; simp only [List.length_map] at *; omega))
    ·have hb20R := hb20; try simp only [z1, z2, z3, z4, z5, z6, ne_eq, z7, z8, z9, z10, z11, z12] at hb20
     refine pwp_skip ?_
     refine seq_norm (hK19 _ ?_); clear hK19 K19
     refine pwp_seq_seq ?_
     refine pwp_seq_plain rfl fun K22 hK22 => ?_
     refine p_step rfl (e_move (v := .ref _ _ _ _) rfl) trivial ?_
     refine p_step rfl (e_move (v := .lit _ _ _) rfl) trivial ?_
     refine p_step rfl (e_move (v := .sc _) rfl) trivial ?_
     refine p_step rfl (e_ixa rfl rfl (by kernel_rfl) (by kernel_rfl) (by first | omega | (simp only [List.length_map]; omega))) trivial ?_
     refine p_step rfl (e_fa (pl := [(0, 1, false), (1, 1, false), (2, 1, false), (3, 1, false), (4, 1, false), (5, 1, false)]) rfl (by kernel_rfl) (by kernel_rfl) (by decide) rfl) trivial ?_
     refine p_step rfl (e_load (v := .lit _ _ _) rfl (by kernel_rfl) (by kernel_rfl) (by kernel_rfl) (by first | omega | (simp only [List.length_map]; omega)) (by decide) ((cell_map hx _).trans rfl)) trivial ?_
     refine p_call rfl (.cons (inn_ref (rows := ((doneB xs.length (ds.take k))).map cbo) hihj8_0 (by first | (simp; done) | (simp only [List.length_map]; omega)) rfl (by exact pure_map cbo_pure)) (.cons inn_lit .nil)) (hasC _ _ (by omega) (by rw [doneB_len]; exact hxn)) ?_
     refine p_step rfl (e_not rfl) trivial ?_
     refine p_end (hK22 _ ?_); clear hK22 K22
     refine pwp_seq_cond rfl fun K23 hK23 => ⟨fun hb24 => ?_, fun hb24 => ?_⟩
     ·have hb24R := hb24; try simp only [z1, z2, z3, z4, z5, z6, ne_eq, z7, z8, z9, z10, z11, z12] at hb24
      refine pwp_seq_plain rfl fun K25 hK25 => ?_
      refine p_step rfl (e_move (v := .sc _) rfl) trivial ?_
      refine p_step rfl (e_assign (v := .sc _) rfl) trivial ?_
      refine p_step rfl (e_assign (v := .sc _) rfl) trivial ?_
      refine p_end (hK25 _ ?_); clear hK25 K25
      refine pwp_ret ?_
      refine ret_seq ?_
      refine ret_block ?_
      refine ret_seq ?_
      refine ret_loop ?_
      refine ret_block ?_
      refine ret_seq ?_
      refine end2 (v := .sc _) (w := .sc _) rfl rfl ?_
      first
        | exact pr2 (acc_hit (k := k) (by simp only [List.length_map] at *; omega) hac (acE_6 (by rw [ndX_len]; simp only [List.length_map] at *; omega)) (by decide))
        | exact pr2 (acc_hit (k := k) (by simp only [List.length_map] at *; omega) hac (acE_5 hz1 (by assumption)) (by decide))
        | exact pr2 (acc_hit (k := k) (by simp only [List.length_map] at *; omega) hac (acE_10 hz1 (by assumption) (by rw [hxe, ← hxa]; first | assumption | simp_all)) (by decide))
        | exact pr2 ((acc_11 hac (by omega) (by rw [ndX_len]; simp only [List.length_map] at *; omega)).trans (by simp only [List.length_map]))
        | exact pr2 (acc_ok hac (by omega) (by rw [ndX_len]; simp only [List.length_map] at *; omega))
     ·have hb24R := hb24; try simp only [z1, z2, z3, z4, z5, z6, ne_eq, z7, z8, z9, z10, z11, z12] at hb24
      refine pwp_skip ?_
      refine seq_norm (hK23 _ ?_); clear hK23 K23
      refine pwp_plain rfl fun K26 hK26 => ?_
      refine p_step rfl (e_move (v := .ref _ _ _ _) rfl) trivial ?_
      refine p_step rfl (e_move (v := .sc _) rfl) trivial ?_
      refine p_step rfl (e_ixaR0 rfl rfl (by kernel_rfl) (by kernel_rfl) (by (first | omega | (rw [doneB_len]; omega)))) trivial ?_
      refine p_store rfl (e_storeB (zs := (doneB xs.length (ds.take k))) (a := true) rfl hihj8_0 rfl (by (first | omega | (rw [doneB_len]; omega))) (by kernel_rfl) (by kernel_rfl)) trivial ?_
      refine p_end (hK26 _ ?_); clear hK26 K26
      refine block_norm ?_
      refine seq_norm (hK12 _ ?_); clear hK12 K12
      refine pwp_plain rfl fun K27 hK27 => ?_
      refine p_step rfl (e_move (v := .sc _) rfl) trivial ?_
      refine p_step rfl (e_add rfl rfl (by first | omega | (simp only [List.length_map] at *; omega))) trivial ?_
      refine p_step rfl (e_assign (v := .sc _) rfl) trivial ?_
      refine p_end (hK27 _ ?_); clear hK27 K27
      exact loop_again (k + 1) (by show _ < _; omega) ⟨rfl, rfl, rfl, trivial⟩ ⟨rfl, trivial⟩ (by exact ⟨by show _ + 1 ≤ _; simp only [List.length_map] at *; omega, by exact upto_step (p := fun i => accE (ndX xs) (ds.take i) (at0 ds i) = 0) hac (acE_0 hz1 (by first | assumption | simp_all) (by rw [hxe, ← hxa]; first | assumption | simp_all)), ((hset_self _ _ _).trans (by (rw [← done_snoc (by simp only [List.length_map] at *; omega) hu hul, hu]; rfl)))⟩)
  ·have hb11R := hb11; try simp only [z1, z2, z3, z4, z5, z6, ne_eq, z7, z8, z9, z10, z11, z12] at hb11
   obtain rfl : k = ds.length := by simp only [List.length_map] at *; omega
   refine pwp_exit ?_
   refine exit_seq ?_
   clear hK10 K10
   refine exit_loop ?_
   refine exit_here ?_
   refine seq_norm (hK4 _ ?_); clear hK4 K4
   refine pwp_seq_seq ?_
   refine pwp_seq_plain rfl fun K28 hK28 => ?_
   refine p_step rfl (e_move (v := .lit _ _ _) rfl) trivial ?_
   refine p_step rfl (e_len rfl (by kernel_rfl)) trivial ?_
   refine p_step rfl (e_move (v := .lit _ _ _) rfl) trivial ?_
   refine p_step rfl (e_len rfl (by kernel_rfl)) trivial ?_
   refine p_step rfl (e_lt rfl rfl) trivial ?_
   refine p_end (hK28 _ ?_); clear hK28 K28
   refine pwp_seq_cond rfl fun K29 hK29 => ⟨fun hb30 => ?_, fun hb30 => ?_⟩
   ·have hb30R := hb30; try simp only [z1, z2, z3, z4, z5, z6, ne_eq, z7, z8, z9, z10, z11, z12] at hb30
    refine pwp_seq_plain rfl fun K31 hK31 => ?_
    refine p_step rfl (e_move (v := .lit _ _ _) rfl) trivial ?_
    refine p_step rfl (e_len rfl (by kernel_rfl)) trivial ?_
    refine p_step rfl (e_assign (v := .sc _) rfl) trivial ?_
    refine p_step rfl (e_assign (v := .sc _) rfl) trivial ?_
    refine p_end (hK31 _ ?_); clear hK31 K31
    refine pwp_ret ?_
    refine ret_seq ?_
    refine end2 (v := .sc _) (w := .sc _) rfl rfl ?_
    first
      | exact pr2 (acc_hit (k := k) (by simp only [List.length_map] at *; omega) hac (acE_6 (by rw [ndX_len]; simp only [List.length_map] at *; omega)) (by decide))
      | exact pr2 (acc_hit (k := k) (by simp only [List.length_map] at *; omega) hac (acE_5 hz1 (by assumption)) (by decide))
      | exact pr2 (acc_hit (k := k) (by simp only [List.length_map] at *; omega) hac (acE_10 hz1 (by assumption) (by rw [hxe, ← hxa]; first | assumption | simp_all)) (by decide))
      | exact pr2 ((acc_11 hac (by omega) (by rw [ndX_len]; simp only [List.length_map] at *; omega)).trans (by simp only [List.length_map]))
      | exact pr2 (acc_ok hac (by omega) (by rw [ndX_len]; simp only [List.length_map] at *; omega))
   ·have hb30R := hb30; try simp only [z1, z2, z3, z4, z5, z6, ne_eq, z7, z8, z9, z10, z11, z12] at hb30
    refine pwp_skip ?_
    refine seq_norm (hK29 _ ?_); clear hK29 K29
    refine pwp_seq_plain rfl fun K32 hK32 => ?_
    refine p_step rfl (e_assign (v := .sc _) rfl) trivial ?_
    refine p_step rfl (e_assign (v := .sc _) rfl) trivial ?_
    refine p_end (hK32 _ ?_); clear hK32 K32
    refine pwp_ret ?_
    refine end2 (v := .sc _) (w := .sc _) rfl rfl ?_
    first
      | exact pr2 (acc_hit (k := k) (by simp only [List.length_map] at *; omega) hac (acE_6 (by rw [ndX_len]; simp only [List.length_map] at *; omega)) (by decide))
      | exact pr2 (acc_hit (k := k) (by simp only [List.length_map] at *; omega) hac (acE_5 hz1 (by assumption)) (by decide))
      | exact pr2 (acc_hit (k := k) (by simp only [List.length_map] at *; omega) hac (acE_10 hz1 (by assumption) (by rw [hxe, ← hxa]; first | assumption | simp_all)) (by decide))
      | exact pr2 ((acc_11 hac (by omega) (by rw [ndX_len]; simp only [List.length_map] at *; omega)).trans (by simp only [List.length_map]))
      | exact pr2 (acc_ok hac (by omega) (by rw [ndX_len]; simp only [List.length_map] at *; omega))

end Go.Proofs.Ytjmjiegplnfiiaa
