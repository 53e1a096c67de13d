/- Demands, and what yields them. No conditions. -/
import Derived.Test.YtindehoegfiiaaaGreatDoorSha
set_option linter.unusedSimpArgs false
set_option linter.unusedVariables false
set_option maxRecDepth 100000
namespace Go.Proofs.YtindehoegfiiaaaGreatDoor
open Go Go.Pv
/-! ### What a call keeps of the memory -/
structure Keep (W : Key → Prop) (h h' : Heap) : Prop where
 same : ∀ k o, h k = some o → ¬ W k → h' k = some o
theorem Keep.trans {W : Key → Prop} {h h' h2 : Heap} (a : Keep W h h') (b : Keep W h' h2) : Keep W h h2 where
 same := fun k o hk hw => b.same k o (a.same k o hk hw) hw
theorem Keep.refl {W : Key → Prop} {h : Heap} : Keep W h h := ⟨fun _ _ hk _ => hk⟩
abbrev KnownK (h : Heap) (c : Nat → Nat) : Prop := ∀ k o, h k = some o → k.2 < c k.1
theorem Keep.old {W : Key → Prop} {h h' : Heap} {c : Nat → Nat} (hkn : KnownK h c) (hag : ∀ k : Key, k.2 < c k.1 → h' k = h k) : Keep W h h' :=
 ⟨fun k o hk _ => (hag k (hkn k o hk)).trans hk⟩
theorem old_ne' {k : Key} {c c2 : Nat → Nat} {d : Nat} (h : k.2 < c k.1) (he : c2 d = c d) : k ≠ (d, c2 d) := fun e => by
 subst e; rw [he] at h; exact absurd h (Nat.lt_irrefl _)
/-- what holds between two yields: what is kept of the memory at the start, and the caller's own predicate -/
structure DmI (W : Key → Prop) (Hk : List (Int × Int) → Heap → Prop) (h0 : Heap) (p : List (Int × Int)) (h : Heap) : Prop where
 keep : Keep W h0 h
 hk : Hk p h
abbrev Stays (Hk : List (Int × Int) → Heap → Prop) : Prop := ∀ p h h', (∀ k o, h k = some o → h' k = some o) → Hk p h → Hk p h'
theorem DmI.old {W : Key → Prop} {Hk : List (Int × Int) → Heap → Prop} {h0 h h' : Heap} {p : List (Int × Int)} {c : Nat → Nat} (hst : Stays Hk) (hI : DmI W Hk h0 p h) (hkn : KnownK h c) (hag : ∀ k : Key, k.2 < c k.1 → h' k = h k) : DmI W Hk h0 p h' :=
 ⟨hI.keep.trans (.old hkn hag), hst p h h' (fun k o hk => (hag k (hkn k o hk)).trans hk) hI.hk⟩
theorem DmI.via {W : Key → Prop} {Hk : List (Int × Int) → Heap → Prop} {h0 h hp h2 : Heap} {p : List (Int × Int)} {c : Nat → Nat} (hkp : Keep W hp h2) (hst : Stays Hk) (hI : DmI W Hk h0 p h) (hkn : KnownK h c) (hag : ∀ k : Key, k.2 < c k.1 → hp k = h k) : Keep W h0 h2 := (DmI.old hst hI hkn hag).keep.trans hkp
/-! ### Demands -/
def zT (g : Grid) (t : Tie) : Int := g.levels.getD t.level.toNat 0
def mtB (g : Grid) (r : Rule) (i h : Int) (t : Tie) : Bool := decide ((h < zT g t ∧ zT g t ≤ h + r.every) ∧ (i - r.skip ≤ t.standard ∧ t.standard ≤ i + r.skip))
def topG (g : Grid) : Int := g.levels.getD (g.levels.length - 1) 0
abbrev hts (g : Grid) : List Int := [0] ++ g.levels
def dmR (g : Grid) (r : Rule) (k : Nat) (b : List (Int × Int)) : Nat → List (Int × Int)
 | 0 => b
 | j + 1 => if topG g - (hts g).getD j 0 ≤ r.free then dmR g r k b j else dmR g r k b j ++ [((k : Int), (hts g).getD j 0)]
def dmL (g : Grid) (r : Rule) : Nat → List (Int × Int)
 | 0 => []
 | k + 1 => dmR g r k (dmL g r k) (hts g).length
section
variable {g : Grid} {r : Rule} {k j : Nat} {b : List (Int × Int)} {x : Int}
theorem hgd {l : List Int} (hx : l[j]? = some x) : l.getD j 0 = x := by rw [List.getD_eq_getElem?_getD, hx]; rfl
theorem dmR_t (hx : (hts g)[j]? = some x) (h : topG g - x ≤ r.free) : dmR g r k b (j + 1) = dmR g r k b j := by rw [dmR, hgd hx, if_pos h]
theorem dmR_f (hx : (hts g)[j]? = some x) (h : ¬ topG g - x ≤ r.free) : dmR g r k b (j + 1) = dmR g r k b j ++ [((k : Int), x)] := by rw [dmR, hgd hx, if_neg h]
theorem dmR_pre : ∀ (d : Nat), ∃ q, dmR g r k b (j + d) = dmR g r k b j ++ q
 | 0 => ⟨[], by rw [List.append_nil]; rfl⟩
 | d + 1 => by
   obtain ⟨q, hq⟩ := dmR_pre d
   rw [← Nat.add_assoc, dmR]
   split
   · exact ⟨q, hq⟩
   · exact ⟨q ++ [((k : Int), (hts g).getD (j + d) 0)], by rw [hq, List.append_assoc]⟩
theorem dmL_pre : ∀ (d : Nat), ∃ q, dmL g r (k + d) = dmL g r k ++ q
 | 0 => ⟨[], by rw [List.append_nil]; rfl⟩
 | d + 1 => by
   obtain ⟨q, hq⟩ := dmL_pre d
   obtain ⟨q2, hq2⟩ := dmR_pre (g := g) (r := r) (k := k + d) (b := dmL g r (k + d)) (j := 0) (hts g).length
   rw [← Nat.add_assoc, dmL]
   rw [Nat.zero_add] at hq2
   exact ⟨q ++ q2, by rw [hq2]; show dmL g r (k + d) ++ q2 = _; rw [hq, List.append_assoc]⟩
theorem dm_pre {A : Nat} (hk : k < A) (hj : j < (hts g).length) : ∃ q, dmL g r A = dmR g r k (dmL g r k) (j + 1) ++ q := by
 obtain ⟨q, hq⟩ := dmL_pre (g := g) (r := r) (k := k + 1) (A - (k + 1))
 obtain ⟨q2, hq2⟩ := dmR_pre (g := g) (r := r) (k := k) (b := dmL g r k) (j := j + 1) ((hts g).length - (j + 1))
 rw [show k + 1 + (A - (k + 1)) = A by omega] at hq
 rw [show j + 1 + ((hts g).length - (j + 1)) = (hts g).length by omega] at hq2
 exact ⟨q2 ++ q, by rw [hq, dmL, hq2, List.append_assoc]⟩
theorem dmR_len : ∀ {j : Nat}, (dmR g r k b j).length ≤ b.length + j
 | 0 => Nat.le_refl _
 | j + 1 => by
   have := dmR_len (j := j)
   rw [dmR]; split
   · omega
   · rw [List.length_append, List.length_singleton]; omega
theorem dmL_len : ∀ {k : Nat}, (dmL g r k).length ≤ k * (g.levels.length + 1)
 | 0 => Nat.zero_le _
 | k + 1 => by
   have h1 := dmL_len (k := k)
   have h2 := dmR_len (g := g) (r := r) (k := k) (b := dmL g r k) (j := (hts g).length)
   have h3 : (hts g).length = g.levels.length + 1 := by rw [hts, List.length_append, List.length_singleton]; omega
   rw [dmL, Nat.add_mul, Nat.one_mul]
   omega
theorem dm_len (h : gridE g = 0) : (dmL g r g.along.length).length ≤ 1860 := by
 have h1 := (grd_shape h).2
 have h2 := dmL_len (g := g) (r := r) (k := g.along.length)
 have h3 : g.along.length * (g.levels.length + 1) ≤ 60 * 31 := Nat.mul_le_mul (by omega) (by omega)
 omega
theorem top_b (h : gridE g = 0) : 1 ≤ topG g ∧ topG g ≤ 1000000 := by
 have h1 := (grd_shape h).2
 exact (al_b h).2 _ (by rw [topG, List.getD_eq_getElem?_getD, List.getElem?_eq_getElem (by omega)]; exact List.getElem_mem _)
theorem top_at {z : Int} (hz : g.levels[((((((g.levels).map ci).length : Nat) : Int)) - (1)).toNat]? = some z) : topG g = z := by
 rw [List.length_map, show (((g.levels.length : Nat) : Int) - 1).toNat = g.levels.length - 1 by omega] at hz
 rw [topG, List.getD_eq_getElem?_getD, hz]; rfl
theorem hts_b (h : gridE g = 0) (hx : x ∈ hts g) : 0 ≤ x ∧ x ≤ 1000000 := by
 rcases List.mem_append.1 hx with q | q
 · rw [List.mem_singleton] at q; omega
 · have := (al_b h).2 x q; omega
theorem ru_inv (h : ruleE r = 0) : (1 ≤ r.every ∧ r.every ≤ 1000000) ∧ (0 ≤ r.free ∧ r.free ≤ 1000000) ∧ (0 ≤ r.margin ∧ r.margin ≤ 1000000) ∧ (0 ≤ r.strength ∧ r.strength ≤ 1000000) ∧ (0 ≤ r.skip ∧ r.skip ≤ 10) := by
 rw [ruleE] at h
 by_cases q : ¬ (1 ≤ r.every ∧ r.every ≤ 1000000) ∨ ¬ (0 ≤ r.free ∧ r.free ≤ 1000000) ∨ ¬ (0 ≤ r.margin ∧ r.margin ≤ 1000000) ∨ ¬ (0 ≤ r.strength ∧ r.strength ≤ 1000000) ∨ ¬ (0 ≤ r.skip ∧ r.skip ≤ 10)
 · rw [if_pos q] at h; cases h
 · omega
end
abbrev DmR (W : Key → Prop) (Hk Done : List (Int × Int) → Heap → Prop) (g : Grid) (r : Rule) (h0 : Heap) (h2 : Heap) : Prop := Keep W h0 h2 ∧ (Hk (dmL g r g.along.length) h2 ∨ ∃ p q, dmL g r g.along.length = p ++ q ∧ Done p h2)
def YieldOK (fy : FuncId) (caps : List PV) (W : Key → Prop) (Hk Done : List (Int × Int) → Heap → Prop) (g : Grid) (r : Rule) : Prop :=
 ∀ (p : List (Int × Int)) (i x : Int) (hp : Heap) (cn : Nat → Nat) (a b c d : Nat), KnownK hp cn → Hk p hp → (0 ≤ i ∧ i < (g.along.length : Int)) → x ∈ hts g → (∃ q, dmL g r g.along.length = (p ++ [(i, x)]) ++ q) → hp (3, a) = some (.rows 3 [g.enc]) → hp (9, b) = some (.rows 1 [[.int x]]) → hp (4, c) = some (.rows 5 [r.enc]) → hp (7, d) = some (.rows 1 [[.int i]]) →
   HCallsR Tryz.prog fy ([.agg [.int i, .int x, .nil], .func (.func 118) [] [.ptr (3, a) 3 0 0, .ptr (9, b) 1 0 0, .ptr (4, c) 5 0 0, .ptr (7, d) 1 0 0]] ++ caps) hp cn fun v h2 _ => Keep W hp h2 ∧ ∃ bo, v = .bool bo ∧ (bo = true → Hk (p ++ [(i, x)]) h2) ∧ (bo = false → Done (p ++ [(i, x)]) h2)

theorem fr118 : (inFrame Tryz.f118.ntmps (Tryz.f118.body.getD .skip) && Tryz.f118.results.toList.all (resScope Tryz.f118.ntmps)) = true := by kernel_rfl
theorem meetsC (g : Grid) (r : Rule) (i x : Int) (t : Tie) (hgz : gridE g = 0) (hrz : ruleE r = 0) (hti : (0 ≤ t.standard ∧ t.standard ≤ (g.along.length : Int) - 1) ∧ (0 ≤ t.level ∧ t.level ≤ (g.levels.length : Int) - 1)) (hi : 0 ≤ i ∧ i < 1000) (hx : 0 ≤ x ∧ x ≤ 1000000) : PCalls Tryz.prog 118 [.agg t.enc, .lptr true 3 [g.enc] 0 0, .lptr true 1 [[.int x]] 0 0, .lptr true 5 [r.enc] 0 0, .lptr true 1 [[.int i]] 0 0] (.bool (mtB g r i x t)) := by
 refine PCalls.of_code Tryz.func118 rfl rfl (by kernel_rfl) mixed fr118 (by show _ ≤ 38; simp) (.sc _) ?_
 have hrr := ru_inv hrz
 obtain ⟨z, hz⟩ : ∃ z, g.levels[t.level.toNat]? = some z := ⟨_, List.getElem?_eq_getElem (by omega)⟩
 have hzb := (al_b hgz).2 z (List.mem_of_getElem? hz)
 refine pwp_seq_plain rfl fun K1 hK1 => ?_
 refine p_new rfl (e_box (n := 2) rfl rfl) ⟨rfl, by decide⟩ ?_
 refine p_aS rfl ?_
 refine p_end (hK1 _ ?_); clear hK1 K1
 refine pwp_seq_plain rfl fun K2 hK2 => ?_
 refine p_e rfl (e_fb pl3 rfl) ?_
 refine p_e rfl (e_load (v := .lit _ _ _) rfl (by kernel_rfl) (by kernel_rfl) (by kernel_rfl) (by first | omega | (simp only [List.length_map]; omega) | (simp; done)) (by decide) ((cell_map (rfl : [g][0]? = some g) _).trans rfl)) ?_
 refine p_e rfl (e_faQ pl2 rfl) ?_
 refine p_e rfl (e_lH (v := .sc _) rfl (hset_self _ _ _) rfl) ?_
 refine p_e rfl (e_ixL rfl rfl) ?_
 refine p_e rfl (e_load (v := .sc _) rfl (by kernel_rfl) (by kernel_rfl) (by kernel_rfl) (by first | omega | (simp only [List.length_map]; omega) | (simp; done)) (by decide) ((cell_map hz _).trans rfl)) ?_
 refine p_aS rfl ?_
 refine p_end (hK2 _ ?_); clear hK2 K2
 refine pwp_seq_gops rfl fun K3 hK3 => ?_
 refine g_begin ?_
 refine g_mS rfl rfl ?_
 refine g_e rfl (e_load (v := .sc _) rfl (by kernel_rfl) (by kernel_rfl) (by kernel_rfl) (by exact Nat.zero_lt_one) (by decide) rfl) ?_
 refine g_e rfl (e_gt rfl rfl) ?_
 refine g_mS rfl rfl ?_
 refine g_cases (fun hb4 => ?_) (fun hb4 => ?_)
 ·have hb4R := hb4; try simp only [zz] at hb4
  refine g_mS rfl rfl ?_
  refine g_e rfl (e_load (v := .sc _) rfl (by kernel_rfl) (by kernel_rfl) (by kernel_rfl) (by exact Nat.zero_lt_one) (by decide) rfl) ?_
  refine g_e rfl (e_fb pl5 rfl) ?_
  refine g_e rfl (e_load (v := .sc _) rfl (by kernel_rfl) (by kernel_rfl) (by kernel_rfl) (by first | omega | (simp only [List.length_map]; omega) | (simp; done)) (by decide) ((cell_map (rfl : [r][0]? = some r) _).trans rfl)) ?_
  refine g_e rfl (e_adL rfl rfl) ?_
  refine g_e rfl (e_le rfl rfl) ?_
  refine g_pT rfl rfl rfl ?_
  refine g_mS rfl rfl ?_
  refine g_cases (fun hb5 => ?_) (fun hb5 => ?_)
  ·have hb5R := hb5; try simp only [zz] at hb5
   refine g_e rfl (e_faQ pl2 rfl) ?_
   refine g_e rfl (e_lH (v := .sc _) rfl (hset_self _ _ _) rfl) ?_
   refine g_e rfl (e_load (v := .sc _) rfl (by kernel_rfl) (by kernel_rfl) (by kernel_rfl) (by exact Nat.zero_lt_one) (by decide) rfl) ?_
   refine g_e rfl (e_fb pl5 rfl) ?_
   refine g_e rfl (e_load (v := .sc _) rfl (by kernel_rfl) (by kernel_rfl) (by kernel_rfl) (by first | omega | (simp only [List.length_map]; omega) | (simp; done)) (by decide) ((cell_map (rfl : [r][0]? = some r) _).trans rfl)) ?_
   refine g_e rfl (e_sub rfl rfl (by first | omega | (simp only [List.length_map] at *; omega))) ?_
   refine g_e rfl (e_load (v := .sc _) rfl (by kernel_rfl) (by kernel_rfl) (by kernel_rfl) (by exact Nat.zero_lt_one) (by decide) rfl) ?_
   refine g_e rfl (e_fb pl5 rfl) ?_
   refine g_e rfl (e_load (v := .sc _) rfl (by kernel_rfl) (by kernel_rfl) (by kernel_rfl) (by first | omega | (simp only [List.length_map]; omega) | (simp; done)) (by decide) ((cell_map (rfl : [r][0]? = some r) _).trans rfl)) ?_
   refine g_e rfl (e_adL rfl rfl) ?_
   refine g_call rfl rfl rfl rfl (.cons inn_sc (.cons inn_sc (.cons inn_sc .nil))) (within _ _ _) ?_
   refine g_pT rfl rfl rfl ?_
   refine g_aS rfl rfl ?_
   refine g_end (ds := [18, 19, 20, 21, 22, 23, 26, 27, 28, 29, 30, 31, 32, 33, 34, 35, 36]) rfl rfl (hK3 _ ?_); clear hK3 K3
   refine pwp_ret ?_
   refine end1 (v := .sc _) rfl ?_
   exact out_b (by first | rfl | (rw [mtB, zT, gd0 hz]; first | exact (decide_eq_false (by omega)).symm | (rw [Bool.eq_iff_iff]; simp only [decide_eq_true_eq, Bool.false_eq_true, eq_self_iff_true, true_iff, false_iff, iff_true, iff_false]; omega)) | (exfalso; simp_all; done))
  ·have hb5R := hb5; try simp only [zz] at hb5
   iterate 10 refine g_skip rfl rfl rfl ?_
   refine g_nocall rfl rfl rfl ?_
   refine g_pF rfl rfl rfl ?_
   refine g_aS rfl rfl ?_
   refine g_end (ds := [18, 19, 20, 21, 22, 23, 26, 27, 28, 29, 30, 31, 32, 33, 34, 35, 36]) rfl rfl (hK3 _ ?_); clear hK3 K3
   refine pwp_ret ?_
   refine end1 (v := .sc _) rfl ?_
   exact out_b (by first | rfl | (rw [mtB, zT, gd0 hz]; first | exact (decide_eq_false (by omega)).symm | (rw [Bool.eq_iff_iff]; simp only [decide_eq_true_eq, Bool.false_eq_true, eq_self_iff_true, true_iff, false_iff, iff_true, iff_false]; omega)) | (exfalso; simp_all; done))
 ·have hb4R := hb4; try simp only [zz] at hb4
  iterate 6 refine g_skip rfl rfl rfl ?_
  refine g_pF rfl rfl rfl ?_
  refine g_mS rfl rfl ?_
  iterate 10 refine g_skip rfl rfl rfl ?_
  refine g_nocall rfl rfl rfl ?_
  refine g_pF rfl rfl rfl ?_
  refine g_aS rfl rfl ?_
  refine g_end (ds := [18, 19, 20, 21, 22, 23, 26, 27, 28, 29, 30, 31, 32, 33, 34, 35, 36]) rfl rfl (hK3 _ ?_); clear hK3 K3
  refine pwp_ret ?_
  refine end1 (v := .sc _) rfl ?_
  exact out_b (by first | rfl | (rw [mtB, zT, gd0 hz]; first | exact (decide_eq_false (by omega)).symm | (rw [Bool.eq_iff_iff]; simp only [decide_eq_true_eq, Bool.false_eq_true, eq_self_iff_true, true_iff, false_iff, iff_true, iff_false]; omega)) | (exfalso; simp_all; done))

theorem frH79 : (inFrame Tryz.f79.ntmps (Tryz.f79.body.getD .skip) && Tryz.f79.results.toList.all (resScope Tryz.f79.ntmps)) = true := by kernel_rfl
theorem demandsH (fy : FuncId) (caps : List PV) (W : Key → Prop) (Hk Done : List (Int × Int) → Heap → Prop) (g : Grid) (r : Rule) (h0 : Heap) (c0 : Nat → Nat) (hgz : gridE g = 0) (hrz : ruleE r = 0) (hst : Stays Hk) (hWs : ∀ k, W k → k.1 = 9 ∨ k.1 = 10 ∨ k.1 = 11 ∨ k.1 = 29) (hkn0 : KnownK h0 c0) (h00 : Hk [] h0) (hY : YieldOK fy caps W Hk Done g r) : HCallsR Tryz.prog 79 [.agg g.enc, .agg r.enc, .func (.func fy) [] caps] h0 c0 (fun v h2 _ => DmR W Hk Done g r h0 h2) := by
 refine HCallsR.of_code Tryz.func79 rfl rfl (by kernel_rfl) mixed frH79 (by show _ ≤ 50; simp) ?_
 have hsp := (grd_shape hgz).2
 have hrr := ru_inv hrz
 have htb := top_b hgz
 have hab := al_b hgz
 obtain ⟨z, hz⟩ : ∃ z, g.levels[((((((g.levels).map ci).length : Nat) : Int)) - (1)).toNat]? = some z := ⟨_, List.getElem?_eq_getElem (by simp only [List.length_map]; omega)⟩
 have htz := top_at hz
 have hhl : (hts g).length = g.levels.length + 1 := by rw [hts, List.length_append, List.length_singleton]; omega
 have nws : ∀ {a b : Nat}, (a ≠ 9 ∧ a ≠ 10 ∧ a ≠ 11 ∧ a ≠ 29) → ¬ W (a, b) := fun h q => by rcases hWs _ q with e | e | e | e <;> simp only at e <;> omega
 refine pwp_seq_plain rfl fun K1 hK1 => ?_
 refine p_new rfl (e_box (n := 3) rfl rfl) ⟨rfl, by decide⟩ ?_
 refine p_new rfl (e_box (n := 5) rfl rfl) ⟨rfl, by decide⟩ ?_
 refine p_end (hK1 _ ?_); clear hK1 K1
 refine pwp_seq_plain rfl fun K2 hK2 => ?_
 refine p_e rfl (e_faQ pl3 rfl) ?_
 refine p_e rfl (e_lH (v := .lit _ _ _) rfl ((hset_ne (key_ne rfl)).trans (hset_self _ _ _)) rfl) ?_
 refine p_e rfl (e_faQ pl3 rfl) ?_
 refine p_e rfl (e_lH (v := .lit _ _ _) rfl ((hset_ne (key_ne rfl)).trans (hset_self _ _ _)) rfl) ?_
 refine p_e rfl (e_len rfl (by kernel_rfl)) ?_
 refine p_e rfl (e_sub rfl rfl (by first | omega | (simp only [List.length_map] at *; omega))) ?_
 refine p_e rfl (e_ixL rfl rfl) ?_
 refine p_e rfl (e_load (v := .sc _) rfl (by kernel_rfl) (by kernel_rfl) (by kernel_rfl) (by first | omega | (simp only [List.length_map]; omega)) (by decide) ((cell_map hz _).trans rfl)) ?_
 refine p_aS rfl ?_
 refine p_end (hK2 _ ?_); clear hK2 K2
 refine pwp_seq_plain rfl fun K3 hK3 => ?_
 refine p_e rfl (e_faQ pl3 rfl) ?_
 refine p_e rfl (e_lH (v := .lit _ _ _) rfl ((hset_ne (key_ne rfl)).trans (hset_self _ _ _)) rfl) ?_
 refine p_e rfl (e_len rfl (by kernel_rfl)) ?_
 refine p_mS rfl ?_
 refine p_end (hK3 _ ?_); clear hK3 K3
 refine pwp_block ?_
 refine pwp_loopR (α := Nat) [2, 3, 4, 6, 21] (fun (k : Nat) => [(22, .int (k))]) (fun (k : Nat) (h : Heap) (_ : Nat → Nat) => ((k) ≤ g.along.length) ∧ (DmI W Hk h0 (dmL g r (k)) h) ∧ (h (3, c0 3) = some (.rows 3 [Grid.enc g])) ∧ (h (4, c0 4) = some (.rows 5 [Rule.enc r]))) (fun (k : Nat) => g.along.length - (k)) (0) (by exact ⟨rfl, trivial⟩) (by exact ⟨by exact Nat.zero_le _, by exact (DmI.mk Keep.refl h00).old hst hkn0 (fun k' hk' => (hset_ne (old_ne' hk' rfl)).trans ((hset_ne (old_ne' hk' rfl)).trans (rfl))), ((hset_ne (key_ne rfl)).trans (hset_self _ _ _)), (hset_self _ _ _)⟩) fun k r4 h5 c6 hj7 => ?_
 obtain ⟨hk, hI, hihj7_0, hihj7_1⟩ := hj7
 try dsimp only at hk
 try dsimp only at hI
 try dsimp only at hihj7_0
 try dsimp only at hihj7_1
 show pwp _ _ (loopQ _ _ _) ⟨sets (mix _ _ _) [(22, .int k)], _, _⟩
 refine pwp_seq_plain rfl fun K8 hK8 => ?_
 refine p_e rfl (e_lt rfl rfl) ?_
 refine p_end (hK8 _ ?_); clear hK8 K8
 refine pwp_seq_cond rfl fun K9 hK9 => ⟨fun hb10 => ?_, fun hb10 => ?_⟩
 ·have hb10R := hb10; try simp only [zz] at hb10
  have hkA : k < g.along.length := by simp only [List.length_map] at *; omega
  refine pwp_skip ?_
  refine seq_norm (hK9 _ ?_); clear hK9 K9
  refine pwp_seq_block fun K11 hK11 => ?_
  refine pwp_seq_plainK rfl fun hknA K12 hK12 => ?_
  refine p_mS rfl ?_
  refine p_new rfl (e_alloc (cs := [.int 0]) (n := 1) (by kernel_rfl) rfl (by decide)) (ob_alloc (by decide)) ?_
  refine p_store rfl (e_store1 rfl (hset_self _ _ _) rfl rfl rfl (by decide) (by kernel_rfl) rfl (by kernel_rfl)) trivial ?_
  refine p_end (hK12 _ ?_); clear hK12 K12
  refine pwp_seq_plain rfl fun K13 hK13 => ?_
  refine p_new rfl (e_bslice (rows := [ci 0]) (zs := [.int 0]) (sz := 1) (by kernel_rfl) (by kernel_rfl) rfl (by kernel_rfl) (by decide) rfl rfl (by exact ⟨by decide, rfl, rfl, trivial⟩) rfl) trivial ?_
  refine p_e rfl (e_faQ pl3 rfl) ?_
  refine p_e rfl (e_lH (v := .lit _ _ _) rfl ((hset_ne (key_ne rfl)).trans ((hset_ne (key_ne rfl)).trans ((hset_ne (key_ne rfl)).trans hihj7_0))) rfl) ?_
  refine p_app rfl rfl rfl (.ofRef (hset_self _ _ _) rfl) src_lit (by kernel_rfl) (by simp only [List.length_append, List.length_map, List.length_nil, List.length_cons]; omega) fun v14 h15 c16 hs17 hf18 => ?_
  have ho19 := (hf18 (3, _) (key_ne rfl) (fun _ _ => key_ne rfl)).trans ((hset_ne (key_ne rfl)).trans ((hset_ne (key_ne rfl)).trans ((hset_ne (key_ne rfl)).trans hihj7_0)))
  have ho20 := (hf18 (4, _) (key_ne rfl) (fun _ _ => key_ne rfl)).trans ((hset_ne (key_ne rfl)).trans ((hset_ne (key_ne rfl)).trans ((hset_ne (key_ne rfl)).trans hihj7_1)))
  have ho21 := (hf18 (7, _) (key_ne rfl) (fun _ _ => key_ne rfl)).trans ((hset_ne (key_ne rfl)).trans (hset_self _ _ _))
  refine p_e rfl (SliceAt.len hs17 rfl (by kernel_rfl)) ?_
  refine p_mS rfl ?_
  refine p_end (hK13 _ ?_); clear hK13 K13
  refine pwp_block ?_
  refine pwp_loopR (α := Nat) [2, 3, 4, 6, 7, 21, 22, 28, 29] (fun (j : Nat) => [(30, .int (j))]) (fun (j : Nat) (h : Heap) (_ : Nat → Nat) => ((j) ≤ (hts g).length) ∧ (DmI W Hk h0 (dmR g r k (dmL g r k) (j)) h) ∧ (SliceAt h 28 v14 1 ((([0] ++ g.levels)).map ci)) ∧ (h (3, c0 3) = some (.rows 3 [Grid.enc g])) ∧ (h (4, c0 4) = some (.rows 5 [Rule.enc r])) ∧ (h (7, c6 7) = some (.rows 1 [[.int (k : Int)]]))) (fun (j : Nat) => (hts g).length - (j)) (0) (by exact ⟨rfl, trivial⟩) (by exact ⟨by exact Nat.zero_le _, by exact hI.old hst hknA (fun k' hk' => (hf18 k' (old_ne' hk' rfl) (fun g hg => by cases hg; exact old_ne' hk' rfl)).trans ((hset_ne (old_ne' hk' rfl)).trans ((hset_ne (old_ne' hk' rfl)).trans ((hset_ne (old_ne' hk' rfl)).trans (rfl))))), hs17, ho19, ho20, ho21⟩) fun j r22 h23 c24 hj25 => ?_
  obtain ⟨hj, hI2, hihj25_0, hihj25_1, hihj25_2, hihj25_3⟩ := hj25
  try dsimp only at hj
  try dsimp only at hI2
  try dsimp only at hihj25_0
  try dsimp only at hihj25_1
  try dsimp only at hihj25_2
  try dsimp only at hihj25_3
  show pwp _ _ (loopQ _ _ _) ⟨sets (mix _ _ _) [(30, .int j)], _, _⟩
  refine pwp_seq_plain rfl fun K26 hK26 => ?_
  refine p_e rfl (e_lt rfl rfl) ?_
  refine p_end (hK26 _ ?_); clear hK26 K26
  refine pwp_seq_cond rfl fun K27 hK27 => ⟨fun hb28 => ?_, fun hb28 => ?_⟩
  ·have hb28R := hb28; try simp only [zz] at hb28
   have hjl : j < (hts g).length := by first | omega | (simp only [List.length_map, List.length_append, List.length_cons, List.length_nil] at *; omega)
   obtain ⟨x, hx⟩ : ∃ x, (hts g)[j]? = some x := ⟨_, List.getElem?_eq_getElem hjl⟩
   have hxb := hts_b hgz (List.mem_of_getElem? hx)
   refine pwp_skip ?_
   refine seq_norm (hK27 _ ?_); clear hK27 K27
   refine pwp_seq_block fun K29 hK29 => ?_
   refine pwp_seq_plainK rfl fun hknB K30 hK30 => ?_
   obtain ⟨g31, rfl, hg32⟩ := SliceAt.isRef hihj25_0 (by simp)
   refine p_e rfl (e_ixaR0 rfl rfl (by kernel_rfl) (by kernel_rfl) (by first | omega | (simp only [List.length_map, List.length_append, List.length_cons, List.length_nil] at *; omega))) ?_
   refine p_e rfl (e_loadI (a := x) rfl hg32 (by kernel_rfl) (by kernel_rfl) (by kernel_rfl) hx) ?_
   refine p_new rfl (e_alloc (cs := [.int 0]) (n := 1) (by kernel_rfl) rfl (by decide)) (ob_alloc (by decide)) ?_
   refine p_store rfl (e_store1 rfl (hset_self _ _ _) rfl rfl rfl (by decide) (by kernel_rfl) rfl (by kernel_rfl)) trivial ?_
   refine p_end (hK30 _ ?_); clear hK30 K30
   refine pwp_seq_seq ?_
   refine pwp_seq_plain rfl fun K33 hK33 => ?_
   refine p_mS rfl ?_
   refine p_e rfl (e_lH (v := .sc _) rfl (hset_self _ _ _) rfl) ?_
   refine p_e rfl (e_sub rfl rfl (by first | omega | (simp only [List.length_map] at *; omega))) ?_
   refine p_e rfl (e_faQ pl5 rfl) ?_
   refine p_e rfl (e_lH (v := .sc _) rfl ((hset_ne (key_ne rfl)).trans ((hset_ne (key_ne rfl)).trans hihj25_2)) rfl) ?_
   refine p_e rfl (e_le rfl rfl) ?_
   refine p_end (hK33 _ ?_); clear hK33 K33
   refine pwp_seq_cond rfl fun K34 hK34 => ⟨fun hb35 => ?_, fun hb35 => ?_⟩
   ·have hb35R := hb35; try simp only [zz] at hb35
    refine pwp_exit ?_
    refine exit_seq ?_
    clear hK34 K34
    refine exit_here ?_
    refine seq_norm (hK29 _ ?_); clear hK29 K29
    refine pwp_plain rfl fun K36 hK36 => ?_
    refine p_e rfl (e_adL rfl rfl) ?_
    refine p_mS rfl ?_
    refine p_end (hK36 _ ?_); clear hK36 K36
    exact loop_again (j + 1) (by show _ < _; omega) ⟨rfl, rfl, rfl, rfl, rfl, rfl, rfl, rfl, rfl, trivial⟩ ⟨rfl, trivial⟩ (by exact ⟨by show _ + 1 ≤ _; omega, by first | (rw [dmR_t hx (by omega)]; exact hI2.old hst hknB (fun k' hk' => (hset_ne (old_ne' hk' rfl)).trans ((hset_ne (old_ne' hk' rfl)).trans (rfl)))) | (rw [dmR_f hx (by omega)]; exact ⟨hkq, hbt (by first | assumption | simp_all)⟩), (.ofRef ((hset_ne (key_ne rfl)).trans ((hset_ne (key_ne rfl)).trans hg32)) (by simp)), ((hset_ne (key_ne rfl)).trans ((hset_ne (key_ne rfl)).trans hihj25_1)), ((hset_ne (key_ne rfl)).trans ((hset_ne (key_ne rfl)).trans hihj25_2)), ((hset_ne (key_ne rfl)).trans ((hset_ne (key_ne rfl)).trans hihj25_3))⟩)
   ·have hb35R := hb35; try simp only [zz] at hb35
    refine pwp_skip ?_
    refine seq_norm (hK34 _ ?_); clear hK34 K34
    refine pwp_seq_plain rfl fun K37 hK37 => ?_
    refine p_e rfl (e_mkf rfl) ?_
    refine p_e rfl (e_assign (v := .func _ _ _) rfl) ?_
    refine p_end (hK37 _ ?_); clear hK37 K37
    refine pwp_seq_plainK rfl fun hknC K38 hK38 => ?_
    refine p_e rfl (e_move (v := .func _ _ _) rfl) ?_
    refine p_e rfl (e_lH (v := .sc _) rfl ((hset_ne (key_ne rfl)).trans ((hset_ne (key_ne rfl)).trans hihj25_3)) rfl) ?_
    refine p_e rfl (e_lH (v := .sc _) rfl (hset_self _ _ _) rfl) ?_
    refine p_e rfl (e_build (zs := [.int 0, .int 0, .nil]) (pl := [(0, 1, false), (1, 1, false), (2, 1, false)]) (by kernel_rfl) (by kernel_rfl) (by kernel_rfl) rfl rfl (by exact ⟨by decide, rfl, Nat.le_of_ble_eq_true rfl, rfl, ⟨by decide, rfl, Nat.le_of_ble_eq_true rfl, rfl, trivial⟩⟩) rfl) ?_
    refine p_e rfl (e_move (v := .func _ _ _) rfl) ?_
    refine p_hcall rfl (hY _ (k : Int) x _ _ _ _ _ _ hknC (hI2.old hst hknB (fun k' hk' => (hset_ne (old_ne' hk' rfl)).trans ((hset_ne (old_ne' hk' rfl)).trans (rfl)))).hk ⟨by omega, by omega⟩ (List.mem_of_getElem? hx) (by obtain ⟨q, hq⟩ := dm_pre (r := r) hkA hjl; exact ⟨q, hq.trans (by rw [dmR_f hx (by omega)])⟩) ((hset_ne (key_ne rfl)).trans ((hset_ne (key_ne rfl)).trans hihj25_1)) (hset_self _ _ _) ((hset_ne (key_ne rfl)).trans ((hset_ne (key_ne rfl)).trans hihj25_2)) ((hset_ne (key_ne rfl)).trans ((hset_ne (key_ne rfl)).trans hihj25_3))) fun v39 h40 c41 hR42 => ?_
    obtain ⟨hkp, bo, rfl, hbt, hbf⟩ := hR42
    have hkq := DmI.via hkp hst hI2 hknB (fun k' hk' => (hset_ne (old_ne' hk' rfl)).trans ((hset_ne (old_ne' hk' rfl)).trans (rfl)))
    have ho43 := hkp.same _ _ ((hset_ne (key_ne rfl)).trans ((hset_ne (key_ne rfl)).trans hihj25_1)) (nws (by decide))
    have ho44 := hkp.same _ _ ((hset_ne (key_ne rfl)).trans ((hset_ne (key_ne rfl)).trans hihj25_2)) (nws (by decide))
    have ho45 := hkp.same _ _ ((hset_ne (key_ne rfl)).trans ((hset_ne (key_ne rfl)).trans hihj25_3)) (nws (by decide))
    have ho46 := hkp.same _ _ ((hset_ne (key_ne rfl)).trans ((hset_ne (key_ne rfl)).trans hg32)) (nws (by decide))
    refine p_e rfl (e_not rfl) ?_
    refine p_end (hK38 _ ?_); clear hK38 K38
    refine pwp_cond rfl (fun hb47 => ?_) (fun hb47 => ?_)
    ·have hb47R := hb47; try simp only [zz] at hb47
     refine pwp_ret ?_
     refine ret_block ?_
     refine ret_seq ?_
     refine ret_loop ?_
     refine ret_block ?_
     refine ret_block ?_
     refine ret_seq ?_
     refine ret_loop ?_
     refine ret_block ?_
     refine end0   ?_
     first
       | exact ⟨hI.keep, .inl hI.hk⟩
       | exact ⟨hkq, .inr (by obtain ⟨q, hq⟩ := dm_pre (r := r) hkA hjl; exact ⟨_, q, hq.trans (by rw [dmR_f hx (by omega)]), hbf (by first | assumption | simp_all)⟩)⟩
    ·have hb47R := hb47; try simp only [zz] at hb47
     refine pwp_skip ?_
     refine block_norm ?_
     refine seq_norm (hK29 _ ?_); clear hK29 K29
     refine pwp_plain rfl fun K48 hK48 => ?_
     refine p_e rfl (e_adL rfl rfl) ?_
     refine p_mS rfl ?_
     refine p_end (hK48 _ ?_); clear hK48 K48
     exact loop_again (j + 1) (by show _ < _; omega) ⟨rfl, rfl, rfl, rfl, rfl, rfl, rfl, rfl, rfl, trivial⟩ ⟨rfl, trivial⟩ (by exact ⟨by show _ + 1 ≤ _; omega, by first | (rw [dmR_t hx (by omega)]; exact hI2.old hst hknB (fun k' hk' => rfl)) | (rw [dmR_f hx (by omega)]; exact ⟨hkq, hbt (by first | assumption | simp_all)⟩), (.ofRef ho46 (by simp)), ho43, ho44, ho45⟩)
  ·have hb28R := hb28; try simp only [zz] at hb28
   have hjj : j = (hts g).length := by first | omega | (simp only [List.length_map, List.length_append, List.length_cons, List.length_nil] at *; omega)
   refine pwp_exit ?_
   refine exit_seq ?_
   clear hK27 K27
   refine exit_loop ?_
   refine exit_here ?_
   refine block_norm ?_
   refine seq_norm (hK11 _ ?_); clear hK11 K11
   refine pwp_plain rfl fun K49 hK49 => ?_
   refine p_e rfl (e_adL rfl rfl) ?_
   refine p_mS rfl ?_
   refine p_end (hK49 _ ?_); clear hK49 K49
   exact loop_again (k + 1) (by show _ < _; omega) ⟨rfl, rfl, rfl, rfl, rfl, trivial⟩ ⟨rfl, trivial⟩ (by exact ⟨by show _ + 1 ≤ _; omega, by rw [dmL, ← hjj]; exact hI2, hihj25_1, hihj25_2⟩)
 ·have hb10R := hb10; try simp only [zz] at hb10
  obtain rfl : k = g.along.length := by simp only [List.length_map] at *; omega
  refine pwp_exit ?_
  refine exit_seq ?_
  clear hK9 K9
  refine exit_loop ?_
  refine exit_here ?_
  refine end0n   ?_
  first
    | exact ⟨hI.keep, .inl hI.hk⟩
    | exact ⟨hkq, .inr (by obtain ⟨q, hq⟩ := dm_pre (r := r) hkA hjl; exact ⟨_, q, hq.trans (by rw [dmR_f hx (by omega)]), hbf (by first | assumption | simp_all)⟩)⟩

end Go.Proofs.YtindehoegfiiaaaGreatDoor
