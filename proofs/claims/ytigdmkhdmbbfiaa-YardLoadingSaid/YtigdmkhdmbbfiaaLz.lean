/- Own numbers are sorted. No conditions. -/
import Derived.Test.YtigdmkhdmbbfiaaLy
import Derived.Test.YtigdmkhdmbbfiaaAwake
import Derived.Laws.BitsAllLaws
set_option linter.unusedSimpArgs false
set_option linter.unusedVariables false
set_option maxRecDepth 100000
namespace Go.Proofs.Ytigdmkhdmbbfiaa
open Go Go.Pv
/-- The first k numbers are in order. -/
def Srtd (xs : List Int) (k : Nat) : Prop := ∀ a b, a < b → b < k → xs.getD a 0 ≤ xs.getD b 0
/-- The first numbers are in order but for that at place j, which is below those behind it. -/
def Insd (xs : List Int) (i j : Nat) : Prop := (∀ a b, a < b → b ≤ i → a ≠ j → b ≠ j → xs.getD a 0 ≤ xs.getD b 0) ∧ ∀ b, j < b → b ≤ i → xs.getD j 0 ≤ xs.getD b 0
def swpI (xs : List Int) (j : Nat) : List Int := (xs.set j (xs.getD (j - 1) 0)).set (j - 1) (xs.getD j 0)
section
variable {xs ys : List Int} {i j k : Nat}
theorem Srtd.one : Srtd xs 1 := fun a b h1 h2 => by omega
theorem Srtd.ins (h : Srtd xs i) : Insd xs i i := ⟨fun a b h1 h2 h3 h4 => h a b h1 (by omega), fun b h1 h2 => by omega⟩
theorem Insd.srt (h : Insd xs i j) (he : j = 0 ∨ ¬ xs.getD j 0 < xs.getD (j - 1) 0) : Srtd xs (i + 1) := fun a b h1 h2 => by
 by_cases e : b = j
 · subst e
   rcases he with he | he
   · omega
   · by_cases e2 : a = b - 1
     · subst e2; omega
     · have := h.1 a (b - 1) (by omega) (by omega) (by omega) (by omega); omega
 · by_cases e2 : a = j
   · subst e2; exact h.2 b h1 (by omega)
   · exact h.1 a b h1 (by omega) e2 e
theorem swp_at (hj : 1 ≤ j) (hl : j < xs.length) : (swpI xs j).getD k 0 = if j - 1 = k then xs.getD j 0 else if j = k then xs.getD (j - 1) 0 else xs.getD k 0 := by
 rw [swpI, gtS (by rw [List.length_set]; omega), gtS hl]
theorem Insd.step (h : Insd xs i j) (hj : 1 ≤ j) (hji : j ≤ i) (hl : i < xs.length) (hlt : xs.getD j 0 < xs.getD (j - 1) 0) : Insd (swpI xs j) i (j - 1) := by
 have hat := fun k => swp_at (xs := xs) (k := k) hj (by omega)
 refine ⟨fun a b h1 h2 h3 h4 => ?_, fun b h1 h2 => ?_⟩
 · rw [hat a, hat b, if_neg (show ¬ j - 1 = a by omega), if_neg (show ¬ j - 1 = b by omega)]
   by_cases e : j = a
   · subst e
     rw [if_pos rfl, if_neg (show ¬ j = b by omega)]
     exact h.1 _ _ (by omega) h2 (by omega) (by omega)
   · rw [if_neg e]
     by_cases e2 : j = b
     · subst e2
       rw [if_pos rfl]
       exact h.1 _ _ (by omega) (by omega) (by omega) (by omega)
     · rw [if_neg e2]
       exact h.1 _ _ h1 h2 (by omega) (by omega)
 · rw [hat (j - 1), hat b, if_pos rfl, if_neg (show ¬ j - 1 = b by omega)]
   by_cases e : j = b
   · rw [if_pos e]; omega
   · rw [if_neg e]; exact h.2 b (by omega) h2
theorem swp_perm (hj : 1 ≤ j) (hl : j < xs.length) : (swpI xs j).Perm xs := by
 have h1 : xs.getD j 0 = xs[j] := by rw [List.getD_eq_getElem?_getD, List.getElem?_eq_getElem hl]; rfl
 have h2 : xs.getD (j - 1) 0 = xs[j - 1] := by rw [List.getD_eq_getElem?_getD, List.getElem?_eq_getElem (by omega)]; rfl
 rw [swpI, h1, h2]
 exact List.set_set_perm hl (by omega)
theorem Srtd.pw (h : Srtd xs xs.length) (hp : xs.Perm ys) (hn : ys.Nodup) : xs.Pairwise (· < ·) := by
 have h1 : xs.Nodup := hp.nodup_iff.2 hn
 rw [List.pairwise_iff_getElem]
 intro a b ha hb hab
 have h2 := h a b hab hb
 rw [List.getD_eq_getElem?_getD, List.getD_eq_getElem?_getD, List.getElem?_eq_getElem ha, List.getElem?_eq_getElem hb] at h2
 have h3 : xs[a] ≠ xs[b] := (List.pairwise_iff_getElem.1 h1) a b ha hb hab
 have h4 : xs[a] ≤ xs[b] := h2
 omega
end
theorem Srtd.mono {xs : List Int} {i j : Nat} (h : Srtd xs i) (hj : j ≤ i) : Srtd xs j := fun a b h1 h2 => h a b h1 (by omega)
theorem gt_get {xs : List Int} {i : Int} {j : Nat} (hi : i.toNat = j) (hj : j < xs.length) : xs[i.toNat]? = some (xs.getD j 0) := by
 subst hi; rw [List.getD_eq_getElem?_getD, List.getElem?_eq_getElem hj]; rfl
theorem bitsLen : ∀ n : Nat, n ≤ 6 → ∃ z : Int, PCalls Try.prog 107 [.sc (.int .u64 (n : Int))] (.int z)
 | 0, _ => ⟨0, closed_calls mixed goods_ok (by kernel_rfl : closedI Try.prog goods 50 107 [.sc (.int .u64 0)] = some (.int 0))⟩
 | 1, _ => ⟨1, closed_calls mixed goods_ok (by kernel_rfl : closedI Try.prog goods 50 107 [.sc (.int .u64 1)] = some (.int 1))⟩
 | 2, _ => ⟨2, closed_calls mixed goods_ok (by kernel_rfl : closedI Try.prog goods 50 107 [.sc (.int .u64 2)] = some (.int 2))⟩
 | 3, _ => ⟨2, closed_calls mixed goods_ok (by kernel_rfl : closedI Try.prog goods 50 107 [.sc (.int .u64 3)] = some (.int 2))⟩
 | 4, _ => ⟨3, closed_calls mixed goods_ok (by kernel_rfl : closedI Try.prog goods 50 107 [.sc (.int .u64 4)] = some (.int 3))⟩
 | 5, _ => ⟨3, closed_calls mixed goods_ok (by kernel_rfl : closedI Try.prog goods 50 107 [.sc (.int .u64 5)] = some (.int 3))⟩
 | 6, _ => ⟨3, closed_calls mixed goods_ok (by kernel_rfl : closedI Try.prog goods 50 107 [.sc (.int .u64 6)] = some (.int 3))⟩
 | n + 7, h => by omega
/-- What sorting own numbers leaves. -/
def SrtH (g N : Nat) (l0 : List Int) (h0 : Heap) (c0 : Nat → Nat) (h : Heap) (c : Nat → Nat) : Prop := ∃ ys : List Int, ys.length = N ∧ ys.Perm l0 ∧ Srtd ys N ∧ h (140, g) = some (.rows 1 (ys.map ci)) ∧ (∀ k : Key, k ≠ (140, g) → h k = h0 k) ∧ c = c0

theorem fr120 : (inFrame Try.f120.ntmps (Try.f120.body.getD .skip) && Try.f120.results.toList.all (resScope Try.f120.ntmps)) = true := by kernel_rfl
theorem lessC (a b : Int) : PCalls Try.prog 120 [.int a, .int b] (.bool (decide (a < b))) := by
 refine PCalls.of_code Try.func120 rfl rfl (by kernel_rfl) mixed fr120 (by show _ ≤ 17; simp) (.sc _) ?_
 refine pwp_seq_plain rfl fun K1 hK1 => ?_
 refine p_aS rfl ?_
 refine p_end (hK1 _ ?_); clear hK1 K1
 refine pwp_seq_gops rfl fun K2 hK2 => ?_
 refine g_begin ?_
 refine g_mS rfl rfl ?_
 refine g_call rfl rfl rfl rfl (.cons inn_sc .nil) (isNaNC _) ?_
 refine g_mS rfl rfl ?_
 refine g_skip rfl rfl rfl ?_
 refine g_nocall rfl rfl rfl ?_
 refine g_skip rfl rfl rfl ?_
 refine g_pF rfl rfl rfl ?_
 refine g_mS rfl rfl ?_
 refine g_mS rfl rfl ?_
 refine g_mS rfl rfl ?_
 refine g_e rfl (e_lt rfl rfl) ?_
 refine g_pF rfl rfl rfl ?_
 refine g_aS rfl rfl ?_
 refine g_end (ds := [8, 9, 10, 13, 14, 15]) rfl rfl (hK2 _ ?_); clear hK2 K2
 refine pwp_ret ?_
 refine end1 (v := .sc _) rfl ?_
 exact out_b rfl

theorem frH114 : (inFrame Try.f114.ntmps (Try.f114.body.getD .skip) && Try.f114.results.toList.all (resScope Try.f114.ntmps)) = true := by kernel_rfl
theorem insH (g N : Nat) (hN : N ≤ 6) (l0 : List Int) (hl0 : l0.length = N) (h0 : Heap) (c0 : Nat → Nat) (hk : h0 (140, g) = some (.rows 1 (l0.map ci))) : HCallsR Try.prog 114 [.ref (140, g) 1 0 N, .int 0, .int (N : Int)] h0 c0 (fun _ h c => SrtH g N l0 h0 c0 h c) := by
 refine HCallsR.of_code Try.func114 rfl rfl (by kernel_rfl) mixed frH114 (by show _ ≤ 49; simp) ?_
 refine pwp_seq_plain rfl fun K1 hK1 => ?_
 refine p_mS rfl ?_
 refine p_e rfl (e_adL rfl rfl) ?_
 refine p_aS rfl ?_
 refine p_end (hK1 _ ?_); clear hK1 K1
 refine pwp_block ?_
 refine pwp_loopR (α := Nat × (List Int)) [0, 1, 2] (fun (a2 : Nat × (List Int)) => [(6, .int (a2.1))]) (fun (a2 : Nat × (List Int)) (h : Heap) (c : Nat → Nat) => (1 ≤ (a2.1)) ∧ ((a2.2).length = N) ∧ (Srtd (a2.2) (a2.1)) ∧ ((a2.2).Perm l0) ∧ (∀ k : Key, k ≠ (140, g) → h k = h0 k) ∧ (c = c0) ∧ (h (140, g) = some (.rows 1 ((a2.2).map ci)))) (fun (a2 : Nat × (List Int)) => N - (a2.1)) (1, l0) (by exact ⟨rfl, trivial⟩) (by exact ⟨by exact Nat.le_refl _, by exact hl0, by exact Srtd.one, by exact List.Perm.refl _, by exact fun _ _ => rfl, by exact rfl, hk⟩) fun a2 r3 h4 c5 hj6 => ?_
 obtain ⟨i, xs⟩ := a2
 obtain ⟨hi, hxl, hsr, hpm, hfr, hc, hihj6_0⟩ := hj6
 try dsimp only at hi
 try dsimp only at hxl
 try dsimp only at hsr
 try dsimp only at hpm
 try dsimp only at hfr
 try dsimp only at hc
 try dsimp only at hihj6_0
 show pwp _ _ (loopQ _ _ _) ⟨sets (mix _ _ _) [(6, .int i)], _, _⟩
 refine pwp_seq_seq ?_
 refine pwp_seq_plain rfl fun K7 hK7 => ?_
 refine p_mS rfl ?_
 refine p_mS rfl ?_
 refine p_e rfl (e_lt rfl rfl) ?_
 refine p_end (hK7 _ ?_); clear hK7 K7
 refine pwp_seq_cond rfl fun K8 hK8 => ⟨fun hb9 => ?_, fun hb9 => ?_⟩
 ·have hb9R := hb9; try simp only [zz] at hb9
  refine pwp_skip ?_
  refine seq_norm (hK8 _ ?_); clear hK8 K8
  refine pwp_seq_block fun K10 hK10 => ?_
  refine pwp_seq_plain rfl fun K11 hK11 => ?_
  refine p_mS rfl ?_
  refine p_aS rfl ?_
  refine p_end (hK11 _ ?_); clear hK11 K11
  refine pwp_block ?_
  refine pwp_loopR (α := Int × (List Int)) [0, 1, 2, 6] (fun (a12 : Int × (List Int)) => [(7, .int (a12.1))]) (fun (a12 : Int × (List Int)) (h : Heap) (c : Nat → Nat) => (0 ≤ (a12.1) ∧ (a12.1) ≤ (i : Int)) ∧ ((a12.2).length = N) ∧ (Insd (a12.2) i (a12.1).toNat) ∧ ((a12.2).Perm l0) ∧ (∀ k : Key, k ≠ (140, g) → h k = h0 k) ∧ (c = c0) ∧ (h (140, g) = some (.rows 1 ((a12.2).map ci)))) (fun (a12 : Int × (List Int)) => (a12.1).toNat) ((i : Int), xs) (by exact ⟨rfl, trivial⟩) (by exact ⟨by exact ⟨by omega, Int.le_refl _⟩, by exact hxl, by exact hsr.ins, by exact hpm, by exact hfr, by exact hc, hihj6_0⟩) fun a12 r13 h14 c15 hj16 => ?_
  obtain ⟨j, xs⟩ := a12
  obtain ⟨hj, hxl, hin, hpm, hfr, hc, hihj16_0⟩ := hj16
  try dsimp only at hj
  try dsimp only at hxl
  try dsimp only at hin
  try dsimp only at hpm
  try dsimp only at hfr
  try dsimp only at hc
  try dsimp only at hihj16_0
  show pwp _ _ (loopQ _ _ _) ⟨sets (mix _ _ _) [(7, .int j)], _, _⟩
  refine pwp_seq_seq ?_
  have hxj : xs[j.toNat]? = some (xs.getD j.toNat 0) := gt_get rfl (by omega)
  have hxj1 : xs[(j - (1)).toNat]? = some (xs.getD (j.toNat - 1) 0) := gt_get (by omega) (by omega)
  refine pwp_seq_gops rfl fun K17 hK17 => ?_
  refine s_begin ?_
  refine s_e rfl (e_move (v := .sc _) rfl) ?_
  refine s_e rfl (e_move (v := .sc _) rfl) ?_
  refine s_e rfl (e_gt rfl rfl) ?_
  refine s_e rfl (e_move (v := .sc _) rfl) ?_
  refine s_cases (fun hb18 => ?_) (fun hb18 => ?_)
  ·have hb18R := hb18; try simp only [zz] at hb18
   refine s_e rfl (e_move (v := .ref _ _ _ _) rfl) ?_
   refine s_e rfl (e_move (v := .sc _) rfl) ?_
   refine s_e rfl (e_ixaR0 rfl rfl (by kernel_rfl) (by kernel_rfl) (by omega)) ?_
   refine s_step [140] (by simp) rfl rfl rfl rfl (e_loadI (a := (xs.getD j.toNat 0)) rfl hihj16_0 (by kernel_rfl) (by kernel_rfl) (by kernel_rfl) hxj) trivial ?_
   refine s_e rfl (e_move (v := .ref _ _ _ _) rfl) ?_
   refine s_e rfl (e_move (v := .sc _) rfl) ?_
   refine s_e rfl (e_sub rfl rfl (by first | omega | (simp only [List.length_map] at *; omega))) ?_
   refine s_e rfl (e_ixaR0 rfl rfl (by kernel_rfl) (by kernel_rfl) (by omega)) ?_
   refine s_step [140] (by simp) rfl rfl rfl rfl (e_loadI (a := (xs.getD (j.toNat - 1) 0)) rfl hihj16_0 (by kernel_rfl) (by kernel_rfl) (by kernel_rfl) hxj1) trivial ?_
   refine s_call (args := [.sc _, .sc _]) [] (by intro k hk; simp [keysOf, Go.Pv.keyOf] at hk; try (first | (subst hk; simp; done) | (rcases hk with rfl | rfl <;> simp; done))) rfl rfl rfl rfl (.cons inn_sc (.cons inn_sc .nil)) (lessC _ _) ?_
   refine s_e rfl (e_pickT (v := .sc _) rfl rfl) ?_
   refine s_end (ds := [20, 21, 22, 23, 24, 25, 26, 27, 28, 29]) (by kernel_rfl) (by kernel_rfl) (hK17 _ ?_); clear hK17 K17
   refine pwp_seq_cond rfl fun K19 hK19 => ⟨fun hb20 => ?_, fun hb20 => ?_⟩
   ·have hb20R := hb20; try simp only [zz] at hb20
    have ej : (j - (1)).toNat = j.toNat - 1 := by omega
    refine pwp_skip ?_
    refine seq_norm (hK19 _ ?_); clear hK19 K19
    refine pwp_seq_block fun K21 hK21 => ?_
    refine pwp_gops rfl fun K22 hK22 => ?_
    refine s_begin ?_
    refine s_e rfl (e_move (v := .ref _ _ _ _) rfl) ?_
    refine s_e rfl (e_move (v := .sc _) rfl) ?_
    refine s_e rfl (e_move (v := .ref _ _ _ _) rfl) ?_
    refine s_e rfl (e_move (v := .sc _) rfl) ?_
    refine s_e rfl (e_sub rfl rfl (by first | omega | (simp only [List.length_map] at *; omega))) ?_
    refine s_e rfl (e_move (v := .ref _ _ _ _) rfl) ?_
    refine s_e rfl (e_move (v := .sc _) rfl) ?_
    refine s_e rfl (e_sub rfl rfl (by first | omega | (simp only [List.length_map] at *; omega))) ?_
    refine s_e rfl (e_ixaR0 rfl rfl (by kernel_rfl) (by kernel_rfl) (by omega)) ?_
    refine s_step [140] (by simp) rfl rfl rfl rfl (e_loadI (a := (xs.getD (j.toNat - 1) 0)) rfl hihj16_0 (by kernel_rfl) (by kernel_rfl) (by kernel_rfl) hxj1) trivial ?_
    refine s_e rfl (e_move (v := .ref _ _ _ _) rfl) ?_
    refine s_e rfl (e_move (v := .sc _) rfl) ?_
    refine s_e rfl (e_ixaR0 rfl rfl (by kernel_rfl) (by kernel_rfl) (by omega)) ?_
    refine s_step [140] (by simp) rfl rfl rfl rfl (e_loadI (a := (xs.getD j.toNat 0)) rfl hihj16_0 (by kernel_rfl) (by kernel_rfl) (by kernel_rfl) hxj) trivial ?_
    refine s_e rfl (e_ixaR0 rfl rfl (by kernel_rfl) (by kernel_rfl) (by omega)) ?_
    refine s_store [140] (by simp) rfl rfl (e_storeI (zs := xs) (a := (xs.getD (j.toNat - 1) 0)) rfl hihj16_0 rfl (by first | omega | (simp only [List.length_set]; omega)) (by kernel_rfl) (by kernel_rfl)) trivial ?_
    refine s_e rfl (e_ixaR0 rfl rfl (by kernel_rfl) (by kernel_rfl) (by omega)) ?_
    refine s_store [140] (by simp) rfl rfl (e_storeI (zs := ((xs).set (j).toNat (xs.getD (j.toNat - 1) 0))) (a := (xs.getD j.toNat 0)) rfl (hset_self _ _ _) rfl (by first | omega | (simp only [List.length_set]; omega)) (by kernel_rfl) (by kernel_rfl)) trivial ?_
    refine s_end (ds := []) (by kernel_rfl) (by kernel_rfl) (hK22 _ ?_); clear hK22 K22
    refine block_norm ?_
    refine seq_norm (hK21 _ ?_); clear hK21 K21
    refine pwp_plain rfl fun K23 hK23 => ?_
    refine p_mS rfl ?_
    refine p_e rfl (e_sub rfl rfl (by first | omega | (simp only [List.length_map] at *; omega))) ?_
    refine p_aS rfl ?_
    refine p_end (hK23 _ ?_); clear hK23 K23
    exact loop_again ((j - 1, ((((xs).set (j).toNat (xs.getD (j.toNat - 1) 0))).set ((j - (1))).toNat (xs.getD j.toNat 0)))) (by show _ < _; simp only; omega) ⟨rfl, rfl, rfl, rfl, trivial⟩ ⟨rfl, trivial⟩ (by exact ⟨by show 0 ≤ _ ∧ _ ≤ _; omega, by simp only [List.length_set]; exact hxl, by rw [ej]; exact hin.step (by omega) (by omega) (by omega) (by omega), by rw [ej]; exact (swp_perm (by omega) (by omega)).trans hpm, by exact fun k hk => (hset_ne hk).trans ((hset_ne hk).trans (hfr k hk)), by exact hc, (hset_self _ _ _)⟩)
   ·have hb20R := hb20; try simp only [zz] at hb20
    refine pwp_exit ?_
    refine exit_seq ?_
    clear hK19 K19
    refine exit_loop ?_
    refine exit_here ?_
    refine block_norm ?_
    refine seq_norm (hK10 _ ?_); clear hK10 K10
    refine pwp_plain rfl fun K24 hK24 => ?_
    refine p_mS rfl ?_
    refine p_e rfl (e_adL rfl rfl) ?_
    refine p_aS rfl ?_
    refine p_end (hK24 _ ?_); clear hK24 K24
    exact loop_again ((i + 1, xs)) (by show _ < _; simp only; omega) ⟨rfl, rfl, rfl, trivial⟩ ⟨rfl, trivial⟩ (by exact ⟨by show 1 ≤ _ + 1; omega, by exact hxl, by first | exact hin.srt (.inl (by omega)) | exact hin.srt (.inr (by omega)), by exact hpm, by exact hfr, by exact hc, hihj16_0⟩)
  ·have hb18R := hb18; try simp only [zz] at hb18
   refine s_skip rfl rfl rfl ?_
   refine s_skip rfl rfl rfl ?_
   refine s_skip rfl rfl rfl ?_
   refine s_skip rfl rfl rfl ?_
   refine s_skip rfl rfl rfl ?_
   refine s_skip rfl rfl rfl ?_
   refine s_skip rfl rfl rfl ?_
   refine s_skip rfl rfl rfl ?_
   refine s_skip rfl rfl rfl ?_
   refine s_nocall (args := [.dead, .dead]) [] (by intro k hk; simp [keysOf, Go.Pv.keyOf] at hk) rfl rfl rfl ?_
   refine s_e rfl (e_pickF (v := .sc _) rfl rfl) ?_
   refine s_end (ds := [20, 21, 22, 23, 24, 25, 26, 27, 28, 29]) (by kernel_rfl) (by kernel_rfl) (hK17 _ ?_); clear hK17 K17
   refine pwp_seq_cond (t := false) rfl fun K25 hK25 => ⟨nofun, fun _ => ?_⟩
   refine pwp_exit ?_
   refine exit_seq ?_
   clear hK25 K25
   refine exit_loop ?_
   refine exit_here ?_
   refine block_norm ?_
   refine seq_norm (hK10 _ ?_); clear hK10 K10
   refine pwp_plain rfl fun K26 hK26 => ?_
   refine p_mS rfl ?_
   refine p_e rfl (e_adL rfl rfl) ?_
   refine p_aS rfl ?_
   refine p_end (hK26 _ ?_); clear hK26 K26
   exact loop_again ((i + 1, xs)) (by show _ < _; simp only; omega) ⟨rfl, rfl, rfl, trivial⟩ ⟨rfl, trivial⟩ (by exact ⟨by show 1 ≤ _ + 1; omega, by exact hxl, by first | exact hin.srt (.inl (by omega)) | exact hin.srt (.inr (by omega)), by exact hpm, by exact hfr, by exact hc, hihj16_0⟩)
 ·have hb9R := hb9; try simp only [zz] at hb9
  have hse : Srtd xs N := hsr.mono (by omega)
  refine pwp_exit ?_
  refine exit_seq ?_
  clear hK8 K8
  refine exit_loop ?_
  refine exit_here ?_
  refine end0n   ?_
  exact ⟨xs, hxl, hpm, hse, hihj6_0, hfr, hc⟩

theorem frH106 : (inFrame Try.f106.ntmps (Try.f106.body.getD .skip) && Try.f106.results.toList.all (resScope Try.f106.ntmps)) = true := by kernel_rfl
theorem pdqH (g N : Nat) (hN : N ≤ 6) (l0 : List Int) (hl0 : l0.length = N) (h0 : Heap) (c0 : Nat → Nat) (hk : h0 (140, g) = some (.rows 1 (l0.map ci))) (z : Int) : HCallsR Try.prog 106 [.ref (140, g) 1 0 N, .int 0, .int (N : Int), .int z] h0 c0 (fun _ h c => SrtH g N l0 h0 c0 h c) := by
 refine HCallsR.of_code Try.func106 rfl rfl (by kernel_rfl) mixed frH106 (by show _ ≤ 134; simp) ?_
 refine pwp_seq_plain rfl fun K1 hK1 => ?_
 refine p_aS rfl ?_
 refine p_end (hK1 _ ?_); clear hK1 K1
 refine pwp_seq_plain rfl fun K2 hK2 => ?_
 refine p_aS rfl ?_
 refine p_end (hK2 _ ?_); clear hK2 K2
 refine pwp_block ?_
 refine pwp_loopR (α := Nat) [0] (fun (q : Nat) => [(1, .int 0), (2, .int (N : Int)), (3, .int z), (8, .bool true), (9, .bool true)]) (fun (q : Nat) (h : Heap) (c : Nat → Nat) => (∀ k : Key, k ≠ (140, g) → h k = h0 k) ∧ (c = c0) ∧ (h (140, g) = some (.rows 1 (l0.map ci)))) (fun (q : Nat) => (q)) (0) (by exact ⟨rfl, rfl, rfl, rfl, rfl, trivial⟩) (by exact ⟨by exact fun _ _ => rfl, by exact rfl, hk⟩) fun q r3 h4 c5 hj6 => ?_
 obtain ⟨hfr, hc, hihj6_0⟩ := hj6
 try dsimp only at hfr
 try dsimp only at hc
 try dsimp only at hihj6_0
 show pwp _ _ (loopQ _ _ _) ⟨sets (mix _ _ _) [(1, .int 0), (2, .int (N : Int)), (3, .int z), (8, .bool true), (9, .bool true)], _, _⟩
 refine pwp_block ?_
 refine pwp_seq_plain rfl fun K7 hK7 => ?_
 refine p_mS rfl ?_
 refine p_mS rfl ?_
 refine p_e rfl (e_sub rfl rfl (by first | omega | (simp only [List.length_map] at *; omega))) ?_
 refine p_aS rfl ?_
 refine p_end (hK7 _ ?_); clear hK7 K7
 refine pwp_seq_seq ?_
 refine pwp_seq_plain rfl fun K8 hK8 => ?_
 refine p_mS rfl ?_
 refine p_e rfl (e_le rfl rfl) ?_
 refine p_end (hK8 _ ?_); clear hK8 K8
 refine pwp_seq_cond rfl fun K9 hK9 => ⟨fun hb10 => ?_, fun hb10 => ?_⟩
 ·have hb10R := hb10; try simp only [zz] at hb10
  refine pwp_seq_plain rfl fun K11 hK11 => ?_
  refine p_e rfl (e_move (v := .ref _ _ _ _) rfl) ?_
  refine p_mS rfl ?_
  refine p_mS rfl ?_
  refine p_hcall rfl (insH g N hN l0 hl0 _ _  hihj6_0) fun v_ h_ c_ hR_ => ?_
  obtain ⟨ys, hy1, hy2, hy3, hy4, hy5, hy6⟩ := hR_
  refine p_end (hK11 _ ?_); clear hK11 K11
  refine pwp_ret ?_
  refine ret_seq ?_
  refine ret_block ?_
  refine ret_loop ?_
  refine ret_block ?_
  refine end0   ?_
  exact ⟨ys, hy1, hy2, hy3, hy4, fun k hk => (hy5 k hk).trans (hfr k hk), hy6.trans hc⟩
 ·have hb10R := hb10; try simp only [zz] at hb10
  exfalso; omega

theorem frH90 : (inFrame Try.f90.ntmps (Try.f90.body.getD .skip) && Try.f90.results.toList.all (resScope Try.f90.ntmps)) = true := by kernel_rfl
theorem sortH (g N : Nat) (hN : N ≤ 6) (l0 : List Int) (hl0 : l0.length = N) (h0 : Heap) (c0 : Nat → Nat) (hk : h0 (140, g) = some (.rows 1 (l0.map ci))) : HCallsR Try.prog 90 [.ref (140, g) 1 0 N] h0 c0 (fun _ h c => SrtH g N l0 h0 c0 h c) := by
 refine HCallsR.of_code Try.func90 rfl rfl (by kernel_rfl) mixed frH90 (by show _ ≤ 11; simp) ?_
 obtain ⟨z, hz⟩ := bitsLen N hN
 refine pwp_seq_plain rfl fun K1 hK1 => ?_
 refine p_e rfl (e_move (v := .ref _ _ _ _) rfl) ?_
 refine p_e rfl (e_lenR rfl (by kernel_rfl)) ?_
 refine p_aS rfl ?_
 refine p_end (hK1 _ ?_); clear hK1 K1
 refine pwp_plain rfl fun K2 hK2 => ?_
 refine p_e rfl (e_move (v := .ref _ _ _ _) rfl) ?_
 refine p_mS rfl ?_
 refine p_mS rfl ?_
 refine p_e rfl (e_conv (k := .u64) rfl (by kernel_rfl) (by kernel_rfl) (by rw [IntKind.wrap_u64]; omega)) ?_
 refine p_call rfl (.cons inn_sc .nil) (hz) ?_
 refine p_hcall rfl (pdqH g N hN l0 hl0 _ _ (z := z) hk) fun v_ h_ c_ hR_ => ?_
 obtain ⟨ys, hy1, hy2, hy3, hy4, hy5, hy6⟩ := hR_
 refine p_end (hK2 _ ?_); clear hK2 K2
 refine end0n   ?_
 exact ⟨ys, hy1, hy2, hy3, hy4, hy5, hy6⟩

end Go.Proofs.Ytigdmkhdmbbfiaa
