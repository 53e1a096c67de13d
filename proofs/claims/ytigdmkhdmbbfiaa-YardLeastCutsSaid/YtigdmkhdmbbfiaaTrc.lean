/- Traffics. No conditions. -/
import Derived.Test.YtigdmkhdmbbfiaaTrf
import Derived.Test.YtigdmkhdmbbfiaaNam
set_option linter.unusedSimpArgs false
set_option linter.unusedVariables false
set_option maxRecDepth 100000
namespace Go.Proofs.Ytigdmkhdmbbfiaa
open Go Go.Pv
theorem nx_step {α : Type} {K : α → Bool} {l : List α} {k : Nat} {x : α} (h : ∀ i, i < k → ∀ y, l[i]? = some y → K y = false) (hx : l[k]? = some x) (h2 : K x = false) : ∀ i, i < k + 1 → ∀ y, l[i]? = some y → K y = false := fun i hi y hy => by
 by_cases e : i = k
 · subst e; rw [hx] at hy; cases hy; exact h2
 · exact h i (by omega) y hy
theorem nx_0 {α : Type} {K : α → Bool} {l : List α} : ∀ i, i < 0 → ∀ y, l[i]? = some y → K y = false := fun i h => absurd h (Nat.not_lt_zero _)
/-! ### The first error of a list -/
def feL {α : Type} (f : α → Int) : List α → Int
 | [] => 0
 | x :: l => if f x = 0 then feL f l else f x
section
variable {α : Type} {f : α → Int} {l : List α} {k : Nat} {x : α}
theorem feL_hit : ∀ {l : List α} {k : Nat}, (∀ i, i < k → ∀ y, l[i]? = some y → decide (f y ≠ 0) = false) → l[k]? = some x → f x ≠ 0 → feL f l = f x
 | [], _, _, hx, _ => by simp at hx
 | y :: l, 0, _, hx, h => by
   simp at hx; subst hx
   rw [feL, if_neg h]
 | y :: l, k + 1, hin, hx, h => by
   have h0 : f y = 0 := by
     have := hin 0 (Nat.succ_pos _) y rfl
     simpa using this
   rw [feL, if_pos h0]
   exact feL_hit (fun i hi z hz => hin (i + 1) (Nat.succ_lt_succ hi) z hz) hx h
theorem feL_no : ∀ {l : List α} {k : Nat}, (∀ i, i < k → ∀ y, l[i]? = some y → decide (f y ≠ 0) = false) → l.length ≤ k → feL f l = 0
 | [], _, _, _ => rfl
 | y :: l, 0, _, hk => by simp at hk
 | y :: l, k + 1, hin, hk => by
   have h0 : f y = 0 := by
     have := hin 0 (Nat.succ_pos _) y rfl
     simpa using this
   rw [feL, if_pos h0]
   exact feL_no (fun i hi z hz => hin (i + 1) (Nat.succ_lt_succ hi) z hz) (by simpa using hk)
theorem feL_all : ∀ {l : List α}, feL f l = 0 → ∀ x ∈ l, f x = 0
 | [], _, _, hx => by simp at hx
 | y :: l, h, x, hx => by
   rw [feL] at h
   split at h
   · rename_i h0
     rcases List.mem_cons.1 hx with rfl | hx
     · exact h0
     · exact feL_all h x hx
   · rename_i h0; exact absurd h h0
end
/-- What a function tells of the first k elements, added up. -/
def capS {α : Type} (f : α → Int) (l : List α) (k : Nat) : Int := ((l.take k).map f).sum
section
variable {α : Type} {f : α → Int} {l : List α} {k : Nat} {x : α}
theorem capS_0 : capS f l 0 = 0 := rfl
theorem capS_s (hx : l[k]? = some x) : capS f l (k + 1) = capS f l k + f x := by
 have h1 : l.take (k + 1) = l.take k ++ [x] := by rw [List.take_add_one, hx]; rfl
 rw [capS, capS, h1]; simp
theorem capS_n {n : Nat} (h : l.length ≤ k) (h2 : l.length ≤ n) : capS f l k = capS f l n := by
 rw [capS, capS, List.take_of_length_le h, List.take_of_length_le h2]
theorem capS_b {m : Int} (h : ∀ y ∈ l, 0 ≤ f y ∧ f y ≤ m) : ∀ {k : Nat}, k ≤ l.length → 0 ≤ capS f l k ∧ capS f l k ≤ m * (k : Int)
 | 0, _ => by rw [capS_0]; simp
 | k + 1, hk => by
   have hx : l[k]? = some l[k] := List.getElem?_eq_getElem (by omega)
   have h1 := capS_b h (k := k) (by omega)
   have h2 := h _ (List.mem_of_getElem? hx)
   rw [capS_s hx]
   have h3 : m * ((k + 1 : Nat) : Int) = m * (k : Int) + m := by
     rw [show ((k + 1 : Nat) : Int) = (k : Int) + 1 by omega, Int.mul_add, Int.mul_one]
   rw [h3]; omega
end
/-! ### Traffics -/
def supF (t : Traffic) (s : Supply) : Int :=
 if ¬ (0 ≤ s.place ∧ s.place ≤ t.places - 1) then 6 else if ¬ (0 ≤ s.day ∧ s.day ≤ t.days - 1) ∨ ¬ (0 ≤ s.count ∧ s.count ≤ 1000000) then 2 else 0
def rtF (t : Traffic) (r : Route) : Int :=
 if ¬ (0 ≤ r.fro ∧ r.fro ≤ t.places - 1) ∨ ¬ (0 ≤ r.til ∧ r.til ≤ t.places - 1) then 6 else if r.fro = r.til then 3
 else if ¬ (1 ≤ r.days ∧ r.days ≤ 20) ∨ ¬ (0 ≤ r.most ∧ r.most ≤ 1000000) then 2 else 0
def trafE (t : Traffic) : Int :=
 if ¬ (1 ≤ t.places ∧ t.places ≤ 8) ∨ ¬ (1 ≤ t.days ∧ t.days ≤ 20) then 2
 else if 30 < (t.routes.length : Int) ∨ 40 < (t.supplies.length : Int) ∨ 40 < (t.needs.length : Int) then 8
 else if feL (rtF t) t.routes ≠ 0 then feL (rtF t) t.routes
 else if feL (supF t) t.supplies ≠ 0 then feL (supF t) t.supplies else feL (supF t) t.needs
section
variable {t : Traffic} {l : List Supply} {k : Nat} {s : Supply} {r : Route}
theorem supF_6 (h : ¬ (0 ≤ s.place ∧ s.place ≤ t.places - 1)) : supF t s = 6 := if_pos h
theorem supF_2 (h : 0 ≤ s.place ∧ s.place ≤ t.places - 1) (h1 : ¬ (0 ≤ s.day ∧ s.day ≤ t.days - 1) ∨ ¬ (0 ≤ s.count ∧ s.count ≤ 1000000)) : supF t s = 2 := by
 rw [supF, if_neg (fun q => q h), if_pos h1]
theorem supF_0 (h : 0 ≤ s.place ∧ s.place ≤ t.places - 1) (h1 : 0 ≤ s.day ∧ s.day ≤ t.days - 1) (h2 : 0 ≤ s.count ∧ s.count ≤ 1000000) : supF t s = 0 := by
 rw [supF, if_neg (fun q => q h), if_neg (by rintro (q | q); exact q h1; exact q h2)]
theorem supF_inv (h : supF t s = 0) : (0 ≤ s.place ∧ s.place ≤ t.places - 1) ∧ (0 ≤ s.day ∧ s.day ≤ t.days - 1) ∧ (0 ≤ s.count ∧ s.count ≤ 1000000) := by
 by_cases h1 : 0 ≤ s.place ∧ s.place ≤ t.places - 1
 · by_cases h2 : 0 ≤ s.day ∧ s.day ≤ t.days - 1
   · by_cases h3 : 0 ≤ s.count ∧ s.count ≤ 1000000
     · exact ⟨h1, h2, h3⟩
     · rw [supF_2 h1 (.inr h3)] at h; cases h
   · rw [supF_2 h1 (.inl h2)] at h; cases h
 · rw [supF_6 h1] at h; cases h
theorem rtF_6 (h : ¬ (0 ≤ r.fro ∧ r.fro ≤ t.places - 1) ∨ ¬ (0 ≤ r.til ∧ r.til ≤ t.places - 1)) : rtF t r = 6 := if_pos h
theorem rtF_3 (h : 0 ≤ r.fro ∧ r.fro ≤ t.places - 1) (h1 : 0 ≤ r.til ∧ r.til ≤ t.places - 1) (h2 : r.fro = r.til) : rtF t r = 3 := by
 rw [rtF, if_neg (by rintro (q | q); exact q h; exact q h1), if_pos h2]
theorem rtF_2 (h : 0 ≤ r.fro ∧ r.fro ≤ t.places - 1) (h1 : 0 ≤ r.til ∧ r.til ≤ t.places - 1) (h2 : ¬ r.fro = r.til) (h3 : ¬ (1 ≤ r.days ∧ r.days ≤ 20) ∨ ¬ (0 ≤ r.most ∧ r.most ≤ 1000000)) : rtF t r = 2 := by
 rw [rtF, if_neg (by rintro (q | q); exact q h; exact q h1), if_neg h2, if_pos h3]
theorem rtF_0 (h : 0 ≤ r.fro ∧ r.fro ≤ t.places - 1) (h1 : 0 ≤ r.til ∧ r.til ≤ t.places - 1) (h2 : ¬ r.fro = r.til) (h3 : 1 ≤ r.days ∧ r.days ≤ 20) (h4 : 0 ≤ r.most ∧ r.most ≤ 1000000) : rtF t r = 0 := by
 rw [rtF, if_neg (by rintro (q | q); exact q h; exact q h1), if_neg h2, if_neg (by rintro (q | q); exact q h3; exact q h4)]
theorem rtF_inv (h : rtF t r = 0) : (0 ≤ r.fro ∧ r.fro ≤ t.places - 1) ∧ (0 ≤ r.til ∧ r.til ≤ t.places - 1) ∧ ¬ r.fro = r.til ∧ (1 ≤ r.days ∧ r.days ≤ 20) ∧ (0 ≤ r.most ∧ r.most ≤ 1000000) := by
 by_cases h1 : 0 ≤ r.fro ∧ r.fro ≤ t.places - 1
 · by_cases h2 : 0 ≤ r.til ∧ r.til ≤ t.places - 1
   · by_cases h3 : r.fro = r.til
     · rw [rtF_3 h1 h2 h3] at h; cases h
     · by_cases h4 : 1 ≤ r.days ∧ r.days ≤ 20
       · by_cases h5 : 0 ≤ r.most ∧ r.most ≤ 1000000
         · exact ⟨h1, h2, h3, h4, h5⟩
         · rw [rtF_2 h1 h2 h3 (.inr h5)] at h; cases h
       · rw [rtF_2 h1 h2 h3 (.inl h4)] at h; cases h
   · rw [rtF_6 (.inr h2)] at h; cases h
 · rw [rtF_6 (.inl h1)] at h; cases h
theorem sp_hit {z : Int} (hin : ∀ i, i < k → ∀ y, l[i]? = some y → decide (supF t y ≠ 0) = false) (hx : l[k]? = some s) (h : supF t s = z) (hz : z ≠ 0) : z = feL (supF t) l := by
 rw [feL_hit hin hx (by rw [h]; exact hz), h]
theorem sp_no (hin : ∀ i, i < k → ∀ y, l[i]? = some y → decide (supF t y ≠ 0) = false) (hk : l.length ≤ k) : 0 = feL (supF t) l := (feL_no hin hk).symm
theorem tfE_2 (h : ¬ (1 ≤ t.places ∧ t.places ≤ 8) ∨ ¬ (1 ≤ t.days ∧ t.days ≤ 20)) : 2 = trafE t := (if_pos h).symm
variable (hA : 1 ≤ t.places ∧ t.places ≤ 8) (hB : 1 ≤ t.days ∧ t.days ≤ 20)
include hA hB
theorem tfE_8 (h : 30 < (t.routes.length : Int) ∨ 40 < (t.supplies.length : Int) ∨ 40 < (t.needs.length : Int)) : 8 = trafE t := by
 rw [trafE, if_neg (by rintro (q | q); exact q hA; exact q hB), if_pos h]
variable (hL : (t.routes.length : Int) ≤ 30 ∧ (t.supplies.length : Int) ≤ 40 ∧ (t.needs.length : Int) ≤ 40)
include hL
theorem tfE_r {z : Int} (hin : ∀ i, i < k → ∀ y, t.routes[i]? = some y → decide (rtF t y ≠ 0) = false) (hx : t.routes[k]? = some r) (h : rtF t r = z) (hz : z ≠ 0) : z = trafE t := by
 have h1 : feL (rtF t) t.routes = z := by rw [feL_hit hin hx (by rw [h]; exact hz), h]
 rw [trafE, if_neg (by rintro (q | q); exact q hA; exact q hB), if_neg (by omega), if_pos (by rw [h1]; exact hz), h1]
theorem tfE_s (hr : feL (rtF t) t.routes = 0) (h : ¬ feL (supF t) t.supplies = 0) : feL (supF t) t.supplies = trafE t := by
 rw [trafE, if_neg (by rintro (q | q); exact q hA; exact q hB), if_neg (by omega), if_neg (by rw [hr]; decide), if_pos h]
theorem tfE_n (hr : feL (rtF t) t.routes = 0) (h : feL (supF t) t.supplies = 0) : feL (supF t) t.needs = trafE t := by
 rw [trafE, if_neg (by rintro (q | q); exact q hA; exact q hB), if_neg (by omega), if_neg (by rw [hr]; decide), if_neg (by rw [h]; decide)]
end
structure TrOK (t : Traffic) : Prop where
 hA : 1 ≤ t.places ∧ t.places ≤ 8
 hB : 1 ≤ t.days ∧ t.days ≤ 20
 hr : t.routes.length ≤ 30
 hs : t.supplies.length ≤ 40
 hn : t.needs.length ≤ 40
 rt : ∀ r ∈ t.routes, (0 ≤ r.fro ∧ r.fro ≤ t.places - 1) ∧ (0 ≤ r.til ∧ r.til ≤ t.places - 1) ∧ ¬ r.fro = r.til ∧ (1 ≤ r.days ∧ r.days ≤ 20) ∧ (0 ≤ r.most ∧ r.most ≤ 1000000)
 sp : ∀ s ∈ t.supplies, (0 ≤ s.place ∧ s.place ≤ t.places - 1) ∧ (0 ≤ s.day ∧ s.day ≤ t.days - 1) ∧ (0 ≤ s.count ∧ s.count ≤ 1000000)
 nd : ∀ s ∈ t.needs, (0 ≤ s.place ∧ s.place ≤ t.places - 1) ∧ (0 ≤ s.day ∧ s.day ≤ t.days - 1) ∧ (0 ≤ s.count ∧ s.count ≤ 1000000)
theorem trafE_inv {t : Traffic} (h : trafE t = 0) : TrOK t := by
 rw [trafE] at h
 split at h
 · cases h
 rename_i h1
 split at h
 · cases h
 rename_i h2
 split at h
 · rename_i h3; exact absurd h h3
 rename_i h3
 split at h
 · rename_i h4; exact absurd h h4
 rename_i h4
 have h3' : feL (rtF t) t.routes = 0 := Classical.byContradiction h3
 have h4' : feL (supF t) t.supplies = 0 := Classical.byContradiction h4
 exact ⟨by omega, by omega, by omega, by omega, by omega, fun r hr => rtF_inv (feL_all h3' r hr), fun s hs => supF_inv (feL_all h4' s hs), fun s hs => supF_inv (feL_all h s hs)⟩

theorem fr79 : (inFrame Try.f79.ntmps (Try.f79.body.getD .skip) && Try.f79.results.toList.all (resScope Try.f79.ntmps)) = true := by kernel_rfl
theorem supsC (t : Traffic) (l : List Supply) (hp : t.places ≤ 8) (hd : t.days ≤ 20) (hl : l.length ≤ 1000000) (hp2 : 1 ≤ t.places) (hd2 : 1 ≤ t.days) : PCalls Try.prog 79 [.agg t.enc, .lit true 3 (l.map Supply.enc)] (.int (feL (supF t) l)) := by
 refine PCalls.of_code Try.func79 rfl rfl (by kernel_rfl) mixed fr79 (by show _ ≤ 36; simp) (.sc _) ?_
 refine pwp_seq_plain rfl fun K1 hK1 => ?_
 refine p_new rfl (e_box (n := 5) rfl rfl) ⟨rfl, by decide⟩ ?_
 refine p_aS rfl ?_
 refine p_end (hK1 _ ?_); clear hK1 K1
 refine pwp_seq_seq ?_
 refine pwp_seq_plain rfl fun K2 hK2 => ?_
 refine p_e rfl (e_move (v := .lit _ _ _) rfl) ?_
 refine p_e rfl (e_len rfl (by kernel_rfl)) ?_
 refine p_mS rfl ?_
 refine p_end (hK2 _ ?_); clear hK2 K2
 refine pwp_seq_block fun K3 hK3 => ?_
 refine pwp_loopR (α := Nat) [2, 7, 8] (fun (k : Nat) => [(9, .int (k))]) (fun (k : Nat) (h : Heap) (_ : Nat → Nat) => ((k) ≤ (l).length) ∧ (∀ i, i < (k) → ∀ y, (l)[i]? = some y → decide (supF t y ≠ 0) = false) ∧ (h (2, 0) = some (.rows 5 [Traffic.enc t]))) (fun (k : Nat) => (l).length - (k)) (0) (by exact ⟨rfl, trivial⟩) (by exact ⟨by exact Nat.zero_le _, by exact nx_0 (K := fun y => decide (supF t y ≠ 0)), (hset_self _ _ _)⟩) fun k r4 h5 c6 hj7 => ?_
 obtain ⟨hk, hin, hihj7_0⟩ := hj7
 try dsimp only at hk
 try dsimp only at hin
 try dsimp only at hihj7_0
 show pwp _ _ (loopQ _ _ _) ⟨sets (mix _ _ _) [(9, .int k)], _, _⟩
 refine pwp_seq_plain rfl fun K8 hK8 => ?_
 refine p_e rfl (e_lt rfl rfl) ?_
 refine p_end (hK8 _ ?_); clear hK8 K8
 refine pwp_seq_cond rfl fun K9 hK9 => ⟨fun hb10 => ?_, fun hb10 => ?_⟩
 ·have hb10R := hb10; try simp only [zz] at hb10
  obtain ⟨x, hx, hd, ht⟩ := get_lt (xs := l) (i := k) (by omega)
  refine pwp_skip ?_
  refine seq_norm (hK9 _ ?_); clear hK9 K9
  refine pwp_seq_block fun K11 hK11 => ?_
  refine pwp_seq_plain rfl fun K12 hK12 => ?_
  refine p_e rfl (e_ixL rfl rfl) ?_
  refine p_e rfl (e_loadA (n := 3) rfl (by kernel_rfl) (by kernel_rfl) (by kernel_rfl) (by first | omega | (simp only [List.length_map]; omega)) (by decide) (by first | exact agg_map hx rfl)) ?_
  refine p_new rfl (e_alloc (cs := [.int 0, .int 0, .int 0]) (n := 3) (by kernel_rfl) rfl (by decide)) (ob_alloc (by decide)) ?_
  refine p_store rfl (e_storeA rfl (hset_self _ _ _) rfl rfl rfl (by kernel_rfl) rfl (by kernel_rfl)) trivial ?_
  refine p_end (hK12 _ ?_); clear hK12 K12
  refine pwp_block ?_
  refine pwp_seq_plain rfl fun K13 hK13 => ?_
  refine p_e rfl (e_faQ pl3 rfl) ?_
  refine p_e rfl (e_lH (v := .sc _) rfl (hset_self _ _ _) rfl) ?_
  refine p_e rfl (e_faQ pl5 rfl) ?_
  refine p_e rfl (e_lH (v := .sc _) rfl ((hset_ne (key_ne rfl)).trans ((hset_ne (key_ne rfl)).trans hihj7_0)) rfl) ?_
  refine p_e rfl (e_sub rfl rfl (by first | omega | (simp only [List.length_map] at *; omega))) ?_
  refine p_call rfl (.cons inn_sc (.cons inn_sc (.cons inn_sc .nil))) (within _ _ _) ?_
  refine p_e rfl (e_not rfl) ?_
  refine p_aS rfl ?_
  refine p_end (hK13 _ ?_); clear hK13 K13
  refine pwp_cond rfl (fun hb14 => ?_) (fun hb14 => ?_)
  ·have hb14R := hb14; try simp only [zz] at hb14
   refine pwp_seq_plain rfl fun K15 hK15 => ?_
   refine p_aS rfl ?_
   refine p_end (hK15 _ ?_); clear hK15 K15
   refine pwp_ret ?_
   refine ret_block ?_
   refine ret_block ?_
   refine ret_seq ?_
   refine ret_loop ?_
   refine ret_block ?_
   refine ret_seq ?_
   refine end1 (v := .sc _) rfl ?_
   exact out_i (sp_hit hin hx (supF_6 (by omega)) (by decide))
  have hb14R := hb14; try simp only [zz] at hb14
  refine pwp_seq_gops rfl fun K16 hK16 => ?_
  refine g_begin ?_
  refine g_e rfl (e_faQ pl3 rfl) ?_
  refine g_e rfl (e_lH (v := .sc _) rfl (hset_self _ _ _) rfl) ?_
  refine g_e rfl (e_faQ pl5 rfl) ?_
  refine g_e rfl (e_lH (v := .sc _) rfl ((hset_ne (key_ne rfl)).trans ((hset_ne (key_ne rfl)).trans hihj7_0)) rfl) ?_
  refine g_e rfl (e_sub rfl rfl (by first | omega | (simp only [List.length_map] at *; omega))) ?_
  refine g_call rfl rfl rfl rfl (.cons inn_sc (.cons inn_sc (.cons inn_sc .nil))) (within _ _ _) ?_
  refine g_e rfl (e_not rfl) ?_
  refine g_mS rfl rfl ?_
  refine g_cases (fun hb17 => ?_) (fun hb17 => ?_)
  ·have hb17R := hb17; try simp only [zz] at hb17
   iterate 2 refine g_skip rfl rfl rfl ?_
   refine g_nocall rfl rfl rfl ?_
   refine g_skip rfl rfl rfl ?_
   refine g_pT rfl rfl rfl ?_
   refine g_aS rfl rfl ?_
   refine g_end (ds := [30, 31, 32, 33]) rfl rfl (hK16 _ ?_); clear hK16 K16
   refine pwp_cond (t := true) rfl (fun _ => ?_) nofun
   refine pwp_seq_plain rfl fun K18 hK18 => ?_
   refine p_aS rfl ?_
   refine p_end (hK18 _ ?_); clear hK18 K18
   refine pwp_ret ?_
   refine ret_block ?_
   refine ret_block ?_
   refine ret_seq ?_
   refine ret_loop ?_
   refine ret_block ?_
   refine ret_seq ?_
   refine end1 (v := .sc _) rfl ?_
   exact out_i (sp_hit hin hx (supF_2 (by omega) (by omega)) (by decide))
  have hb17R := hb17; try simp only [zz] at hb17
  refine g_e rfl (e_faQ pl3 rfl) ?_
  refine g_e rfl (e_lH (v := .sc _) rfl (hset_self _ _ _) rfl) ?_
  refine g_call rfl rfl rfl rfl (.cons inn_sc (.cons inn_sc (.cons inn_sc .nil))) (within _ _ _) ?_
  refine g_e rfl (e_not rfl) ?_
  refine g_pF rfl rfl rfl ?_
  refine g_aS rfl rfl ?_
  refine g_end (ds := [30, 31, 32, 33]) rfl rfl (hK16 _ ?_); clear hK16 K16
  refine pwp_cond rfl (fun hb19 => ?_) (fun hb19 => ?_)
  ·have hb19R := hb19; try simp only [zz] at hb19
   refine pwp_seq_plain rfl fun K20 hK20 => ?_
   refine p_aS rfl ?_
   refine p_end (hK20 _ ?_); clear hK20 K20
   refine pwp_ret ?_
   refine ret_block ?_
   refine ret_block ?_
   refine ret_seq ?_
   refine ret_loop ?_
   refine ret_block ?_
   refine ret_seq ?_
   refine end1 (v := .sc _) rfl ?_
   exact out_i (sp_hit hin hx (supF_2 (by omega) (by omega)) (by decide))
  have hb19R := hb19; try simp only [zz] at hb19
  refine pwp_skip ?_
  refine block_norm ?_
  refine block_norm ?_
  refine seq_norm (hK11 _ ?_); clear hK11 K11
  refine pwp_plain rfl fun K21 hK21 => ?_
  refine p_e rfl (e_adL rfl rfl) ?_
  refine p_mS rfl ?_
  refine p_end (hK21 _ ?_); clear hK21 K21
  exact loop_again (k + 1) (by show _ < _; omega) ⟨rfl, rfl, rfl, trivial⟩ ⟨rfl, trivial⟩ (by exact ⟨by show _ + 1 ≤ _; simp only [List.length_map] at *; omega, by exact nx_step (K := fun y => decide (supF t y ≠ 0)) hin hx (by rw [supF_0 (by omega) (by omega) (by omega)]; rfl), ((hset_ne (key_ne rfl)).trans ((hset_ne (key_ne rfl)).trans hihj7_0))⟩)
 have hb10R := hb10; try simp only [zz] at hb10
 refine pwp_exit ?_
 refine exit_seq ?_
 clear hK9 K9
 refine exit_loop ?_
 refine exit_here ?_
 refine seq_norm (hK3 _ ?_); clear hK3 K3
 refine pwp_seq_plain rfl fun K22 hK22 => ?_
 refine p_aS rfl ?_
 refine p_end (hK22 _ ?_); clear hK22 K22
 refine pwp_ret ?_
 refine end1 (v := .sc _) rfl ?_
 exact out_i (sp_no hin (by simp only [List.length_map] at *; omega))

theorem fr58 : (inFrame Try.f58.ntmps (Try.f58.body.getD .skip) && Try.f58.results.toList.all (resScope Try.f58.ntmps)) = true := by kernel_rfl
theorem refSupsC (t : Traffic) (l : List Supply) (hp : t.places ≤ 8) (hd : t.days ≤ 20) (hl : l.length ≤ 1000000) (hp2 : 1 ≤ t.places) (hd2 : 1 ≤ t.days) : PCalls Try.prog 58 [.agg t.enc, .lit true 3 (l.map Supply.enc)] (.int (feL (supF t) l)) := by
 refine PCalls.of_code Try.func58 rfl rfl (by kernel_rfl) mixed fr58 (by show _ ≤ 41; simp) (.sc _) ?_
 refine pwp_seq_plain rfl fun K1 hK1 => ?_
 refine p_new rfl (e_box (n := 5) rfl rfl) ⟨rfl, by decide⟩ ?_
 refine p_aS rfl ?_
 refine p_end (hK1 _ ?_); clear hK1 K1
 refine pwp_seq_seq ?_
 refine pwp_seq_plain rfl fun K2 hK2 => ?_
 refine p_aS rfl ?_
 refine p_end (hK2 _ ?_); clear hK2 K2
 refine pwp_seq_block fun K3 hK3 => ?_
 refine pwp_loopR (α := Nat) [1, 2] (fun (k : Nat) => [(5, .int (k))]) (fun (k : Nat) (h : Heap) (_ : Nat → Nat) => ((k) ≤ (l).length) ∧ (∀ i, i < (k) → ∀ y, (l)[i]? = some y → decide (supF t y ≠ 0) = false) ∧ (h (2, 0) = some (.rows 5 [Traffic.enc t]))) (fun (k : Nat) => (l).length - (k)) (0) (by exact ⟨rfl, trivial⟩) (by exact ⟨by exact Nat.zero_le _, by exact nx_0 (K := fun y => decide (supF t y ≠ 0)), (hset_self _ _ _)⟩) fun k r4 h5 c6 hj7 => ?_
 obtain ⟨hk, hin, hihj7_0⟩ := hj7
 try dsimp only at hk
 try dsimp only at hin
 try dsimp only at hihj7_0
 show pwp _ _ (loopQ _ _ _) ⟨sets (mix _ _ _) [(5, .int k)], _, _⟩
 refine pwp_seq_seq ?_
 refine pwp_seq_plain rfl fun K8 hK8 => ?_
 refine p_mS rfl ?_
 refine p_e rfl (e_move (v := .lit _ _ _) rfl) ?_
 refine p_e rfl (e_len rfl (by kernel_rfl)) ?_
 refine p_e rfl (e_lt rfl rfl) ?_
 refine p_end (hK8 _ ?_); clear hK8 K8
 refine pwp_seq_cond rfl fun K9 hK9 => ⟨fun hb10 => ?_, fun hb10 => ?_⟩
 ·have hb10R := hb10; try simp only [zz] at hb10
  obtain ⟨x, hx, hd, ht⟩ := get_lt (xs := l) (i := k) (by omega)
  refine pwp_skip ?_
  refine seq_norm (hK9 _ ?_); clear hK9 K9
  refine pwp_seq_block fun K11 hK11 => ?_
  refine pwp_seq_seq ?_
  refine pwp_seq_gops rfl fun K12 hK12 => ?_
  refine g_begin ?_
  refine g_e rfl (e_move (v := .lit _ _ _) rfl) ?_
  refine g_mS rfl rfl ?_
  refine g_e rfl (e_ixL rfl rfl) ?_
  refine g_e rfl (e_fb pl3 rfl) ?_
  refine g_e rfl (e_load (v := .sc _) rfl (by kernel_rfl) (by kernel_rfl) (by kernel_rfl) (by first | omega | (simp only [List.length_map]; omega)) (by decide) ((cell_map hx _).trans rfl)) ?_
  refine g_e rfl (e_faQ pl5 rfl) ?_
  refine g_e rfl (e_lH (v := .sc _) rfl hihj7_0 rfl) ?_
  refine g_e rfl (e_sub rfl rfl (by first | omega | (simp only [List.length_map] at *; omega))) ?_
  refine g_call rfl rfl rfl rfl (.cons inn_sc (.cons inn_sc (.cons inn_sc .nil))) (Within _ _ _) ?_
  refine g_e rfl (e_not rfl) ?_
  refine g_end (ds := []) (by kernel_rfl) rfl (hK12 _ ?_); clear hK12 K12
  refine pwp_seq_cond rfl fun K13 hK13 => ⟨fun hb14 => ?_, fun hb14 => ?_⟩
  ·have hb14R := hb14; try simp only [zz] at hb14
   refine pwp_seq_plain rfl fun K15 hK15 => ?_
   refine p_aS rfl ?_
   refine p_end (hK15 _ ?_); clear hK15 K15
   refine pwp_ret ?_
   refine ret_seq ?_
   refine ret_block ?_
   refine ret_seq ?_
   refine ret_loop ?_
   refine ret_block ?_
   refine ret_seq ?_
   refine end1 (v := .sc _) rfl ?_
   exact out_i (sp_hit hin hx (supF_6 (by omega)) (by decide))
  have hb14R := hb14; try simp only [zz] at hb14
  refine pwp_skip ?_
  refine seq_norm (hK13 _ ?_); clear hK13 K13
  refine pwp_seq_gops rfl fun K16 hK16 => ?_
  refine g_begin ?_
  refine g_e rfl (e_move (v := .lit _ _ _) rfl) ?_
  refine g_mS rfl rfl ?_
  refine g_e rfl (e_ixL rfl rfl) ?_
  refine g_e rfl (e_fb pl3 rfl) ?_
  refine g_e rfl (e_load (v := .sc _) rfl (by kernel_rfl) (by kernel_rfl) (by kernel_rfl) (by first | omega | (simp only [List.length_map]; omega)) (by decide) ((cell_map hx _).trans rfl)) ?_
  refine g_e rfl (e_faQ pl5 rfl) ?_
  refine g_e rfl (e_lH (v := .sc _) rfl hihj7_0 rfl) ?_
  refine g_e rfl (e_sub rfl rfl (by first | omega | (simp only [List.length_map] at *; omega))) ?_
  refine g_call rfl rfl rfl rfl (.cons inn_sc (.cons inn_sc (.cons inn_sc .nil))) (Within _ _ _) ?_
  refine g_e rfl (e_not rfl) ?_
  refine g_mS rfl rfl ?_
  refine g_cases (fun hb17 => ?_) (fun hb17 => ?_)
  ·have hb17R := hb17; try simp only [zz] at hb17
   iterate 5 refine g_skip rfl rfl rfl ?_
   refine g_nocall rfl rfl rfl ?_
   refine g_skip rfl rfl rfl ?_
   refine g_pT rfl rfl rfl ?_
   refine g_end (ds := [33, 34, 35, 36, 37, 38, 39]) (by kernel_rfl) rfl (hK16 _ ?_); clear hK16 K16
   refine pwp_cond (t := true) rfl (fun _ => ?_) nofun
   refine pwp_seq_plain rfl fun K18 hK18 => ?_
   refine p_aS rfl ?_
   refine p_end (hK18 _ ?_); clear hK18 K18
   refine pwp_ret ?_
   refine ret_block ?_
   refine ret_seq ?_
   refine ret_loop ?_
   refine ret_block ?_
   refine ret_seq ?_
   refine end1 (v := .sc _) rfl ?_
   exact out_i (sp_hit hin hx (supF_2 (by omega) (by omega)) (by decide))
  have hb17R := hb17; try simp only [zz] at hb17
  refine g_e rfl (e_move (v := .lit _ _ _) rfl) ?_
  refine g_mS rfl rfl ?_
  refine g_e rfl (e_ixL rfl rfl) ?_
  refine g_e rfl (e_fb pl3 rfl) ?_
  refine g_e rfl (e_load (v := .sc _) rfl (by kernel_rfl) (by kernel_rfl) (by kernel_rfl) (by first | omega | (simp only [List.length_map]; omega)) (by decide) ((cell_map hx _).trans rfl)) ?_
  refine g_call rfl rfl rfl rfl (.cons inn_sc (.cons inn_sc (.cons inn_sc .nil))) (Within _ _ _) ?_
  refine g_e rfl (e_not rfl) ?_
  refine g_pF rfl rfl rfl ?_
  refine g_end (ds := [33, 34, 35, 36, 37, 38, 39]) (by kernel_rfl) rfl (hK16 _ ?_); clear hK16 K16
  refine pwp_cond rfl (fun hb19 => ?_) (fun hb19 => ?_)
  ·have hb19R := hb19; try simp only [zz] at hb19
   refine pwp_seq_plain rfl fun K20 hK20 => ?_
   refine p_aS rfl ?_
   refine p_end (hK20 _ ?_); clear hK20 K20
   refine pwp_ret ?_
   refine ret_block ?_
   refine ret_seq ?_
   refine ret_loop ?_
   refine ret_block ?_
   refine ret_seq ?_
   refine end1 (v := .sc _) rfl ?_
   exact out_i (sp_hit hin hx (supF_2 (by omega) (by omega)) (by decide))
  have hb19R := hb19; try simp only [zz] at hb19
  refine pwp_skip ?_
  refine block_norm ?_
  refine seq_norm (hK11 _ ?_); clear hK11 K11
  refine pwp_plain rfl fun K21 hK21 => ?_
  refine p_mS rfl ?_
  refine p_e rfl (e_adL rfl rfl) ?_
  refine p_aS rfl ?_
  refine p_end (hK21 _ ?_); clear hK21 K21
  exact loop_again (k + 1) (by show _ < _; omega) ⟨rfl, rfl, trivial⟩ ⟨rfl, trivial⟩ (by exact ⟨by show _ + 1 ≤ _; simp only [List.length_map] at *; omega, by exact nx_step (K := fun y => decide (supF t y ≠ 0)) hin hx (by rw [supF_0 (by omega) (by omega) (by omega)]; rfl), hihj7_0⟩)
 have hb10R := hb10; try simp only [zz] at hb10
 refine pwp_exit ?_
 refine exit_seq ?_
 clear hK9 K9
 refine exit_loop ?_
 refine exit_here ?_
 refine seq_norm (hK3 _ ?_); clear hK3 K3
 refine pwp_seq_plain rfl fun K22 hK22 => ?_
 refine p_aS rfl ?_
 refine p_end (hK22 _ ?_); clear hK22 K22
 refine pwp_ret ?_
 refine end1 (v := .sc _) rfl ?_
 exact out_i (sp_no hin (by simp only [List.length_map] at *; omega))

theorem fr43 : (inFrame Try.f43.ntmps (Try.f43.body.getD .skip) && Try.f43.results.toList.all (resScope Try.f43.ntmps)) = true := by kernel_rfl
theorem CheckTrafficC (t : Traffic) (hl1 : t.routes.length ≤ 9223372036854775807) (hl2 : t.supplies.length ≤ 9223372036854775807) (hl3 : t.needs.length ≤ 9223372036854775807) : PCalls Try.prog 43 [.agg t.enc] (.int (trafE t)) := by
 refine PCalls.of_code Try.func43 rfl rfl (by kernel_rfl) mixed fr43 (by show _ ≤ 87; simp) (.sc _) ?_
 refine pwp_seq_plain rfl fun K1 hK1 => ?_
 refine p_new rfl (e_box (n := 5) rfl rfl) ⟨rfl, by decide⟩ ?_
 refine p_aS rfl ?_
 refine p_end (hK1 _ ?_); clear hK1 K1
 refine pwp_seq_block fun K2 hK2 => ?_
 refine pwp_seq_gops rfl fun K3 hK3 => ?_
 refine g_begin ?_
 refine g_e rfl (e_faQ pl5 rfl) ?_
 refine g_e rfl (e_lH (v := .sc _) rfl (hset_self _ _ _) rfl) ?_
 refine g_call rfl rfl rfl rfl (.cons inn_sc (.cons inn_sc (.cons inn_sc .nil))) (within _ _ _) ?_
 refine g_e rfl (e_not rfl) ?_
 refine g_mS rfl rfl ?_
 refine g_cases (fun hb4 => ?_) (fun hb4 => ?_)
 ·have hb4R := hb4; try simp only [zz] at hb4
  iterate 2 refine g_skip rfl rfl rfl ?_
  refine g_nocall rfl rfl rfl ?_
  refine g_skip rfl rfl rfl ?_
  refine g_pT rfl rfl rfl ?_
  refine g_aS rfl rfl ?_
  refine g_end (ds := [12, 13, 14, 15]) rfl rfl (hK3 _ ?_); clear hK3 K3
  refine pwp_cond (t := true) rfl (fun _ => ?_) nofun
  refine pwp_seq_plain rfl fun K5 hK5 => ?_
  refine p_aS rfl ?_
  refine p_end (hK5 _ ?_); clear hK5 K5
  refine pwp_ret ?_
  refine ret_block ?_
  refine ret_seq ?_
  refine end1 (v := .sc _) rfl ?_
  exact out_i (tfE_2 (by omega))
 have hb4R := hb4; try simp only [zz] at hb4
 refine g_e rfl (e_faQ pl5 rfl) ?_
 refine g_e rfl (e_lH (v := .sc _) rfl (hset_self _ _ _) rfl) ?_
 refine g_call rfl rfl rfl rfl (.cons inn_sc (.cons inn_sc (.cons inn_sc .nil))) (within _ _ _) ?_
 refine g_e rfl (e_not rfl) ?_
 refine g_pF rfl rfl rfl ?_
 refine g_aS rfl rfl ?_
 refine g_end (ds := [12, 13, 14, 15]) rfl rfl (hK3 _ ?_); clear hK3 K3
 refine pwp_cond rfl (fun hb6 => ?_) (fun hb6 => ?_)
 ·have hb6R := hb6; try simp only [zz] at hb6
  refine pwp_seq_plain rfl fun K7 hK7 => ?_
  refine p_aS rfl ?_
  refine p_end (hK7 _ ?_); clear hK7 K7
  refine pwp_ret ?_
  refine ret_block ?_
  refine ret_seq ?_
  refine end1 (v := .sc _) rfl ?_
  exact out_i (tfE_2 (by omega))
 have hb6R := hb6; try simp only [zz] at hb6
 refine pwp_seq_gops rfl fun K8 hK8 => ?_
 refine g_begin ?_
 refine g_e rfl (e_faQ pl5 rfl) ?_
 refine g_e rfl (e_lH (v := .lit _ _ _) rfl (hset_self _ _ _) rfl) ?_
 refine g_e rfl (e_len rfl (by kernel_rfl)) ?_
 refine g_e rfl (e_gt rfl rfl) ?_
 refine g_mS rfl rfl ?_
 refine g_cases (fun hb9 => ?_) (fun hb9 => ?_)
 ·have hb9R := hb9; try simp only [zz] at hb9
  iterate 4 refine g_skip rfl rfl rfl ?_
  refine g_pT rfl rfl rfl ?_
  refine g_mS rfl rfl ?_
  iterate 4 refine g_skip rfl rfl rfl ?_
  refine g_pT rfl rfl rfl ?_
  refine g_aS rfl rfl ?_
  refine g_end (ds := [23, 24, 25, 26, 29, 30, 31, 32]) rfl rfl (hK8 _ ?_); clear hK8 K8
  refine pwp_cond (t := true) rfl (fun _ => ?_) nofun
  refine pwp_seq_plain rfl fun K10 hK10 => ?_
  refine p_aS rfl ?_
  refine p_end (hK10 _ ?_); clear hK10 K10
  refine pwp_ret ?_
  refine ret_block ?_
  refine ret_seq ?_
  refine end1 (v := .sc _) rfl ?_
  exact out_i (tfE_8 (by omega) (by omega) (by omega))
 have hb9R := hb9; try simp only [zz] at hb9
 refine g_e rfl (e_faQ pl5 rfl) ?_
 refine g_e rfl (e_lH (v := .lit _ _ _) rfl (hset_self _ _ _) rfl) ?_
 refine g_e rfl (e_len rfl (by kernel_rfl)) ?_
 refine g_e rfl (e_gt rfl rfl) ?_
 refine g_pF rfl rfl rfl ?_
 refine g_mS rfl rfl ?_
 refine g_cases (fun hb11 => ?_) (fun hb11 => ?_)
 ·have hb11R := hb11; try simp only [zz] at hb11
  iterate 4 refine g_skip rfl rfl rfl ?_
  refine g_pT rfl rfl rfl ?_
  refine g_aS rfl rfl ?_
  refine g_end (ds := [23, 24, 25, 26, 29, 30, 31, 32]) rfl rfl (hK8 _ ?_); clear hK8 K8
  refine pwp_cond (t := true) rfl (fun _ => ?_) nofun
  refine pwp_seq_plain rfl fun K12 hK12 => ?_
  refine p_aS rfl ?_
  refine p_end (hK12 _ ?_); clear hK12 K12
  refine pwp_ret ?_
  refine ret_block ?_
  refine ret_seq ?_
  refine end1 (v := .sc _) rfl ?_
  exact out_i (tfE_8 (by omega) (by omega) (by omega))
 have hb11R := hb11; try simp only [zz] at hb11
 refine g_e rfl (e_faQ pl5 rfl) ?_
 refine g_e rfl (e_lH (v := .lit _ _ _) rfl (hset_self _ _ _) rfl) ?_
 refine g_e rfl (e_len rfl (by kernel_rfl)) ?_
 refine g_e rfl (e_gt rfl rfl) ?_
 refine g_pF rfl rfl rfl ?_
 refine g_aS rfl rfl ?_
 refine g_end (ds := [23, 24, 25, 26, 29, 30, 31, 32]) rfl rfl (hK8 _ ?_); clear hK8 K8
 refine pwp_cond rfl (fun hb13 => ?_) (fun hb13 => ?_)
 ·have hb13R := hb13; try simp only [zz] at hb13
  refine pwp_seq_plain rfl fun K14 hK14 => ?_
  refine p_aS rfl ?_
  refine p_end (hK14 _ ?_); clear hK14 K14
  refine pwp_ret ?_
  refine ret_block ?_
  refine ret_seq ?_
  refine end1 (v := .sc _) rfl ?_
  exact out_i (tfE_8 (by omega) (by omega) (by omega))
 have hb13R := hb13; try simp only [zz] at hb13
 refine pwp_skip ?_
 refine block_norm ?_
 refine seq_norm (hK2 _ ?_); clear hK2 K2
 refine pwp_seq_seq ?_
 refine pwp_seq_plain rfl fun K15 hK15 => ?_
 refine p_e rfl (e_faQ pl5 rfl) ?_
 refine p_e rfl (e_lH (v := .lit _ _ _) rfl (hset_self _ _ _) rfl) ?_
 refine p_e rfl (e_len rfl (by kernel_rfl)) ?_
 refine p_mS rfl ?_
 refine p_end (hK15 _ ?_); clear hK15 K15
 refine pwp_seq_block fun K16 hK16 => ?_
 refine pwp_loopR (α := Nat) [1, 35, 36] (fun (k : Nat) => [(37, .int (k))]) (fun (k : Nat) (h : Heap) (_ : Nat → Nat) => ((k) ≤ (t.routes).length) ∧ (∀ i, i < (k) → ∀ y, (t.routes)[i]? = some y → decide (rtF t y ≠ 0) = false) ∧ (h (1, 0) = some (.rows 5 [Traffic.enc t]))) (fun (k : Nat) => (t.routes).length - (k)) (0) (by exact ⟨rfl, trivial⟩) (by exact ⟨by exact Nat.zero_le _, by exact nx_0 (K := fun y => decide (rtF t y ≠ 0)), (hset_self _ _ _)⟩) fun k r17 h18 c19 hj20 => ?_
 obtain ⟨hk, hin, hihj20_0⟩ := hj20
 try dsimp only at hk
 try dsimp only at hin
 try dsimp only at hihj20_0
 show pwp _ _ (loopQ _ _ _) ⟨sets (mix _ _ _) [(37, .int k)], _, _⟩
 refine pwp_seq_plain rfl fun K21 hK21 => ?_
 refine p_e rfl (e_lt rfl rfl) ?_
 refine p_end (hK21 _ ?_); clear hK21 K21
 refine pwp_seq_cond rfl fun K22 hK22 => ⟨fun hb23 => ?_, fun hb23 => ?_⟩
 ·have hb23R := hb23; try simp only [zz] at hb23
  obtain ⟨x, hx, hd, ht⟩ := get_lt (xs := t.routes) (i := k) (by omega)
  refine pwp_skip ?_
  refine seq_norm (hK22 _ ?_); clear hK22 K22
  refine pwp_seq_block fun K24 hK24 => ?_
  refine pwp_seq_plain rfl fun K25 hK25 => ?_
  refine p_e rfl (e_ixL rfl rfl) ?_
  refine p_e rfl (e_loadA (n := 4) rfl (by kernel_rfl) (by kernel_rfl) (by kernel_rfl) (by first | omega | (simp only [List.length_map]; omega)) (by decide) (by first | exact agg_map hx rfl)) ?_
  refine p_new rfl (e_alloc (cs := [.int 0, .int 0, .int 0, .int 0]) (n := 4) (by kernel_rfl) rfl (by decide)) (ob_alloc (by decide)) ?_
  refine p_store rfl (e_storeA rfl (hset_self _ _ _) rfl rfl rfl (by kernel_rfl) rfl (by kernel_rfl)) trivial ?_
  refine p_end (hK25 _ ?_); clear hK25 K25
  refine pwp_block ?_
  refine pwp_seq_gops rfl fun K26 hK26 => ?_
  refine g_begin ?_
  refine g_e rfl (e_faQ pl4 rfl) ?_
  refine g_e rfl (e_lH (v := .sc _) rfl (hset_self _ _ _) rfl) ?_
  refine g_e rfl (e_faQ pl5 rfl) ?_
  refine g_e rfl (e_lH (v := .sc _) rfl ((hset_ne (key_ne rfl)).trans ((hset_ne (key_ne rfl)).trans hihj20_0)) rfl) ?_
  refine g_e rfl (e_sub rfl rfl (by first | omega | (simp only [List.length_map] at *; omega))) ?_
  refine g_call rfl rfl rfl rfl (.cons inn_sc (.cons inn_sc (.cons inn_sc .nil))) (within _ _ _) ?_
  refine g_e rfl (e_not rfl) ?_
  refine g_mS rfl rfl ?_
  refine g_cases (fun hb27 => ?_) (fun hb27 => ?_)
  ·have hb27R := hb27; try simp only [zz] at hb27
   iterate 5 refine g_skip rfl rfl rfl ?_
   refine g_nocall rfl rfl rfl ?_
   refine g_skip rfl rfl rfl ?_
   refine g_pT rfl rfl rfl ?_
   refine g_aS rfl rfl ?_
   refine g_end (ds := [50, 51, 52, 53, 54, 55, 56]) rfl rfl (hK26 _ ?_); clear hK26 K26
   refine pwp_cond (t := true) rfl (fun _ => ?_) nofun
   refine pwp_seq_plain rfl fun K28 hK28 => ?_
   refine p_aS rfl ?_
   refine p_end (hK28 _ ?_); clear hK28 K28
   refine pwp_ret ?_
   refine ret_block ?_
   refine ret_block ?_
   refine ret_seq ?_
   refine ret_loop ?_
   refine ret_block ?_
   refine ret_seq ?_
   refine end1 (v := .sc _) rfl ?_
   exact out_i (tfE_r (by omega) (by omega) (by omega) hin hx (rtF_6 (by omega)) (by decide))
  have hb27R := hb27; try simp only [zz] at hb27
  refine g_e rfl (e_faQ pl4 rfl) ?_
  refine g_e rfl (e_lH (v := .sc _) rfl (hset_self _ _ _) rfl) ?_
  refine g_e rfl (e_faQ pl5 rfl) ?_
  refine g_e rfl (e_lH (v := .sc _) rfl ((hset_ne (key_ne rfl)).trans ((hset_ne (key_ne rfl)).trans hihj20_0)) rfl) ?_
  refine g_e rfl (e_sub rfl rfl (by first | omega | (simp only [List.length_map] at *; omega))) ?_
  refine g_call rfl rfl rfl rfl (.cons inn_sc (.cons inn_sc (.cons inn_sc .nil))) (within _ _ _) ?_
  refine g_e rfl (e_not rfl) ?_
  refine g_pF rfl rfl rfl ?_
  refine g_aS rfl rfl ?_
  refine g_end (ds := [50, 51, 52, 53, 54, 55, 56]) rfl rfl (hK26 _ ?_); clear hK26 K26
  refine pwp_cond rfl (fun hb29 => ?_) (fun hb29 => ?_)
  ·have hb29R := hb29; try simp only [zz] at hb29
   refine pwp_seq_plain rfl fun K30 hK30 => ?_
   refine p_aS rfl ?_
   refine p_end (hK30 _ ?_); clear hK30 K30
   refine pwp_ret ?_
   refine ret_block ?_
   refine ret_block ?_
   refine ret_seq ?_
   refine ret_loop ?_
   refine ret_block ?_
   refine ret_seq ?_
   refine end1 (v := .sc _) rfl ?_
   exact out_i (tfE_r (by omega) (by omega) (by omega) hin hx (rtF_6 (by omega)) (by decide))
  have hb29R := hb29; try simp only [zz] at hb29
  refine pwp_seq_plain rfl fun K31 hK31 => ?_
  refine p_e rfl (e_faQ pl4 rfl) ?_
  refine p_e rfl (e_lH (v := .sc _) rfl (hset_self _ _ _) rfl) ?_
  refine p_e rfl (e_faQ pl4 rfl) ?_
  refine p_e rfl (e_lH (v := .sc _) rfl (hset_self _ _ _) rfl) ?_
  refine p_e rfl (e_eq rfl rfl) ?_
  refine p_aS rfl ?_
  refine p_end (hK31 _ ?_); clear hK31 K31
  refine pwp_cond rfl (fun hb32 => ?_) (fun hb32 => ?_)
  ·have hb32R := hb32; try simp only [zz] at hb32
   refine pwp_seq_plain rfl fun K33 hK33 => ?_
   refine p_aS rfl ?_
   refine p_end (hK33 _ ?_); clear hK33 K33
   refine pwp_ret ?_
   refine ret_block ?_
   refine ret_block ?_
   refine ret_seq ?_
   refine ret_loop ?_
   refine ret_block ?_
   refine ret_seq ?_
   refine end1 (v := .sc _) rfl ?_
   exact out_i (tfE_r (by omega) (by omega) (by omega) hin hx (rtF_3 (by omega) (by omega) (by omega)) (by decide))
  have hb32R := hb32; try simp only [zz] at hb32
  refine pwp_seq_gops rfl fun K34 hK34 => ?_
  refine g_begin ?_
  refine g_e rfl (e_faQ pl4 rfl) ?_
  refine g_e rfl (e_lH (v := .sc _) rfl (hset_self _ _ _) rfl) ?_
  refine g_call rfl rfl rfl rfl (.cons inn_sc (.cons inn_sc (.cons inn_sc .nil))) (within _ _ _) ?_
  refine g_e rfl (e_not rfl) ?_
  refine g_mS rfl rfl ?_
  refine g_cases (fun hb35 => ?_) (fun hb35 => ?_)
  ·have hb35R := hb35; try simp only [zz] at hb35
   iterate 2 refine g_skip rfl rfl rfl ?_
   refine g_nocall rfl rfl rfl ?_
   refine g_skip rfl rfl rfl ?_
   refine g_pT rfl rfl rfl ?_
   refine g_aS rfl rfl ?_
   refine g_end (ds := [70, 71, 72, 73]) rfl rfl (hK34 _ ?_); clear hK34 K34
   refine pwp_cond (t := true) rfl (fun _ => ?_) nofun
   refine pwp_seq_plain rfl fun K36 hK36 => ?_
   refine p_aS rfl ?_
   refine p_end (hK36 _ ?_); clear hK36 K36
   refine pwp_ret ?_
   refine ret_block ?_
   refine ret_block ?_
   refine ret_seq ?_
   refine ret_loop ?_
   refine ret_block ?_
   refine ret_seq ?_
   refine end1 (v := .sc _) rfl ?_
   exact out_i (tfE_r (by omega) (by omega) (by omega) hin hx (rtF_2 (by omega) (by omega) (by omega) (by omega)) (by decide))
  have hb35R := hb35; try simp only [zz] at hb35
  refine g_e rfl (e_faQ pl4 rfl) ?_
  refine g_e rfl (e_lH (v := .sc _) rfl (hset_self _ _ _) rfl) ?_
  refine g_call rfl rfl rfl rfl (.cons inn_sc (.cons inn_sc (.cons inn_sc .nil))) (within _ _ _) ?_
  refine g_e rfl (e_not rfl) ?_
  refine g_pF rfl rfl rfl ?_
  refine g_aS rfl rfl ?_
  refine g_end (ds := [70, 71, 72, 73]) rfl rfl (hK34 _ ?_); clear hK34 K34
  refine pwp_cond rfl (fun hb37 => ?_) (fun hb37 => ?_)
  ·have hb37R := hb37; try simp only [zz] at hb37
   refine pwp_seq_plain rfl fun K38 hK38 => ?_
   refine p_aS rfl ?_
   refine p_end (hK38 _ ?_); clear hK38 K38
   refine pwp_ret ?_
   refine ret_block ?_
   refine ret_block ?_
   refine ret_seq ?_
   refine ret_loop ?_
   refine ret_block ?_
   refine ret_seq ?_
   refine end1 (v := .sc _) rfl ?_
   exact out_i (tfE_r (by omega) (by omega) (by omega) hin hx (rtF_2 (by omega) (by omega) (by omega) (by omega)) (by decide))
  have hb37R := hb37; try simp only [zz] at hb37
  refine pwp_skip ?_
  refine block_norm ?_
  refine block_norm ?_
  refine seq_norm (hK24 _ ?_); clear hK24 K24
  refine pwp_plain rfl fun K39 hK39 => ?_
  refine p_e rfl (e_adL rfl rfl) ?_
  refine p_mS rfl ?_
  refine p_end (hK39 _ ?_); clear hK39 K39
  exact loop_again (k + 1) (by show _ < _; omega) ⟨rfl, rfl, rfl, trivial⟩ ⟨rfl, trivial⟩ (by exact ⟨by show _ + 1 ≤ _; simp only [List.length_map] at *; omega, by exact nx_step (K := fun y => decide (rtF t y ≠ 0)) hin hx (by rw [rtF_0 (by omega) (by omega) (by omega) (by omega) (by omega)]; rfl), ((hset_ne (key_ne rfl)).trans ((hset_ne (key_ne rfl)).trans hihj20_0))⟩)
 have hb23R := hb23; try simp only [zz] at hb23
 have hrr : feL (rtF t) t.routes = 0 := feL_no hin (by simp only [List.length_map] at *; omega)
 refine pwp_exit ?_
 refine exit_seq ?_
 clear hK22 K22
 refine exit_loop ?_
 refine exit_here ?_
 refine seq_norm (hK16 _ ?_); clear hK16 K16
 refine pwp_seq_seq ?_
 refine pwp_seq_plain rfl fun K40 hK40 => ?_
 refine p_e rfl (e_loadHA (cs := Traffic.enc (t)) (n := 5) rfl hihj20_0 (by kernel_rfl) (by kernel_rfl) (by kernel_rfl) (by exact Nat.zero_lt_one) (by decide) rfl) ?_
 refine p_e rfl (e_faQ pl5 rfl) ?_
 refine p_e rfl (e_lH (v := .lit _ _ _) rfl hihj20_0 rfl) ?_
 refine p_call rfl (.cons (inn_agg (Traffic.pure _)) (.cons inn_lit .nil)) (supsC t _ (by omega) (by omega) (by omega) (by omega) (by omega)) ?_
 refine p_aS rfl ?_
 refine p_end (hK40 _ ?_); clear hK40 K40
 refine pwp_seq_seq ?_
 refine pwp_seq_plain rfl fun K41 hK41 => ?_
 refine p_mS rfl ?_
 refine p_e rfl (e_ne rfl rfl) ?_
 refine p_end (hK41 _ ?_); clear hK41 K41
 refine pwp_seq_cond rfl fun K42 hK42 => ⟨fun hb43 => ?_, fun hb43 => ?_⟩
 ·have hb43R := hb43; try simp only [zz] at hb43
  refine pwp_seq_plain rfl fun K44 hK44 => ?_
  refine p_mS rfl ?_
  refine p_aS rfl ?_
  refine p_end (hK44 _ ?_); clear hK44 K44
  refine pwp_ret ?_
  refine ret_seq ?_
  refine end1 (v := .sc _) rfl ?_
  exact out_i (tfE_s (by omega) (by omega) (by omega) hrr (by omega))
 have hb43R := hb43; try simp only [zz] at hb43
 refine pwp_skip ?_
 refine seq_norm (hK42 _ ?_); clear hK42 K42
 refine pwp_seq_plain rfl fun K45 hK45 => ?_
 refine p_e rfl (e_loadHA (cs := Traffic.enc (t)) (n := 5) rfl hihj20_0 (by kernel_rfl) (by kernel_rfl) (by kernel_rfl) (by exact Nat.zero_lt_one) (by decide) rfl) ?_
 refine p_e rfl (e_faQ pl5 rfl) ?_
 refine p_e rfl (e_lH (v := .lit _ _ _) rfl hihj20_0 rfl) ?_
 refine p_call rfl (.cons (inn_agg (Traffic.pure _)) (.cons inn_lit .nil)) (supsC t _ (by omega) (by omega) (by omega) (by omega) (by omega)) ?_
 refine p_aS rfl ?_
 refine p_end (hK45 _ ?_); clear hK45 K45
 refine pwp_ret ?_
 refine end1 (v := .sc _) rfl ?_
 exact out_i (tfE_n (by omega) (by omega) (by omega) hrr (by omega))

theorem fr15 : (inFrame Try.f15.ntmps (Try.f15.body.getD .skip) && Try.f15.results.toList.all (resScope Try.f15.ntmps)) = true := by kernel_rfl
theorem refTrafficC (t : Traffic) (hl1 : t.routes.length ≤ 9223372036854775807) (hl2 : t.supplies.length ≤ 9223372036854775807) (hl3 : t.needs.length ≤ 9223372036854775807) : PCalls Try.prog 15 [.agg t.enc] (.int (trafE t)) := by
 refine PCalls.of_code Try.func15 rfl rfl (by kernel_rfl) mixed fr15 (by show _ ≤ 86; simp) (.sc _) ?_
 refine pwp_seq_plain rfl fun K1 hK1 => ?_
 refine p_new rfl (e_box (n := 5) rfl rfl) ⟨rfl, by decide⟩ ?_
 refine p_aS rfl ?_
 refine p_end (hK1 _ ?_); clear hK1 K1
 refine pwp_seq_seq ?_
 refine pwp_seq_gops rfl fun K2 hK2 => ?_
 refine g_begin ?_
 refine g_e rfl (e_faQ pl5 rfl) ?_
 refine g_e rfl (e_lH (v := .sc _) rfl (hset_self _ _ _) rfl) ?_
 refine g_call rfl rfl rfl rfl (.cons inn_sc (.cons inn_sc (.cons inn_sc .nil))) (Within _ _ _) ?_
 refine g_e rfl (e_not rfl) ?_
 refine g_mS rfl rfl ?_
 refine g_cases (fun hb3 => ?_) (fun hb3 => ?_)
 ·have hb3R := hb3; try simp only [zz] at hb3
  iterate 2 refine g_skip rfl rfl rfl ?_
  refine g_nocall rfl rfl rfl ?_
  refine g_skip rfl rfl rfl ?_
  refine g_pT rfl rfl rfl ?_
  refine g_end (ds := [11, 12, 13, 14]) rfl rfl (hK2 _ ?_); clear hK2 K2
  refine pwp_seq_cond (t := true) rfl fun K4 hK4 => ⟨fun _ => ?_, nofun⟩
  refine pwp_seq_plain rfl fun K5 hK5 => ?_
  refine p_aS rfl ?_
  refine p_end (hK5 _ ?_); clear hK5 K5
  refine pwp_ret ?_
  refine ret_seq ?_
  refine end1 (v := .sc _) rfl ?_
  exact out_i (tfE_2 (by omega))
 have hb3R := hb3; try simp only [zz] at hb3
 refine g_e rfl (e_faQ pl5 rfl) ?_
 refine g_e rfl (e_lH (v := .sc _) rfl (hset_self _ _ _) rfl) ?_
 refine g_call rfl rfl rfl rfl (.cons inn_sc (.cons inn_sc (.cons inn_sc .nil))) (Within _ _ _) ?_
 refine g_e rfl (e_not rfl) ?_
 refine g_pF rfl rfl rfl ?_
 refine g_end (ds := [11, 12, 13, 14]) rfl rfl (hK2 _ ?_); clear hK2 K2
 refine pwp_seq_cond rfl fun K6 hK6 => ⟨fun hb7 => ?_, fun hb7 => ?_⟩
 ·have hb7R := hb7; try simp only [zz] at hb7
  refine pwp_seq_plain rfl fun K8 hK8 => ?_
  refine p_aS rfl ?_
  refine p_end (hK8 _ ?_); clear hK8 K8
  refine pwp_ret ?_
  refine ret_seq ?_
  refine end1 (v := .sc _) rfl ?_
  exact out_i (tfE_2 (by omega))
 have hb7R := hb7; try simp only [zz] at hb7
 refine pwp_skip ?_
 refine seq_norm (hK6 _ ?_); clear hK6 K6
 refine pwp_seq_seq ?_
 refine pwp_seq_gops rfl fun K9 hK9 => ?_
 refine g_begin ?_
 refine g_e rfl (e_faQ pl5 rfl) ?_
 refine g_e rfl (e_lH (v := .lit _ _ _) rfl (hset_self _ _ _) rfl) ?_
 refine g_e rfl (e_len rfl (by kernel_rfl)) ?_
 refine g_e rfl (e_gt rfl rfl) ?_
 refine g_mS rfl rfl ?_
 refine g_cases (fun hb10 => ?_) (fun hb10 => ?_)
 ·have hb10R := hb10; try simp only [zz] at hb10
  iterate 4 refine g_skip rfl rfl rfl ?_
  refine g_pT rfl rfl rfl ?_
  refine g_mS rfl rfl ?_
  iterate 4 refine g_skip rfl rfl rfl ?_
  refine g_pT rfl rfl rfl ?_
  refine g_end (ds := [21, 22, 23, 24, 27, 28, 29, 30]) rfl rfl (hK9 _ ?_); clear hK9 K9
  refine pwp_seq_cond (t := true) rfl fun K11 hK11 => ⟨fun _ => ?_, nofun⟩
  refine pwp_seq_plain rfl fun K12 hK12 => ?_
  refine p_aS rfl ?_
  refine p_end (hK12 _ ?_); clear hK12 K12
  refine pwp_ret ?_
  refine ret_seq ?_
  refine end1 (v := .sc _) rfl ?_
  exact out_i (tfE_8 (by omega) (by omega) (by omega))
 have hb10R := hb10; try simp only [zz] at hb10
 refine g_e rfl (e_faQ pl5 rfl) ?_
 refine g_e rfl (e_lH (v := .lit _ _ _) rfl (hset_self _ _ _) rfl) ?_
 refine g_e rfl (e_len rfl (by kernel_rfl)) ?_
 refine g_e rfl (e_gt rfl rfl) ?_
 refine g_pF rfl rfl rfl ?_
 refine g_mS rfl rfl ?_
 refine g_cases (fun hb13 => ?_) (fun hb13 => ?_)
 ·have hb13R := hb13; try simp only [zz] at hb13
  iterate 4 refine g_skip rfl rfl rfl ?_
  refine g_pT rfl rfl rfl ?_
  refine g_end (ds := [21, 22, 23, 24, 27, 28, 29, 30]) rfl rfl (hK9 _ ?_); clear hK9 K9
  refine pwp_seq_cond (t := true) rfl fun K14 hK14 => ⟨fun _ => ?_, nofun⟩
  refine pwp_seq_plain rfl fun K15 hK15 => ?_
  refine p_aS rfl ?_
  refine p_end (hK15 _ ?_); clear hK15 K15
  refine pwp_ret ?_
  refine ret_seq ?_
  refine end1 (v := .sc _) rfl ?_
  exact out_i (tfE_8 (by omega) (by omega) (by omega))
 have hb13R := hb13; try simp only [zz] at hb13
 refine g_e rfl (e_faQ pl5 rfl) ?_
 refine g_e rfl (e_lH (v := .lit _ _ _) rfl (hset_self _ _ _) rfl) ?_
 refine g_e rfl (e_len rfl (by kernel_rfl)) ?_
 refine g_e rfl (e_gt rfl rfl) ?_
 refine g_pF rfl rfl rfl ?_
 refine g_end (ds := [21, 22, 23, 24, 27, 28, 29, 30]) rfl rfl (hK9 _ ?_); clear hK9 K9
 refine pwp_seq_cond rfl fun K16 hK16 => ⟨fun hb17 => ?_, fun hb17 => ?_⟩
 ·have hb17R := hb17; try simp only [zz] at hb17
  refine pwp_seq_plain rfl fun K18 hK18 => ?_
  refine p_aS rfl ?_
  refine p_end (hK18 _ ?_); clear hK18 K18
  refine pwp_ret ?_
  refine ret_seq ?_
  refine end1 (v := .sc _) rfl ?_
  exact out_i (tfE_8 (by omega) (by omega) (by omega))
 have hb17R := hb17; try simp only [zz] at hb17
 refine pwp_skip ?_
 refine seq_norm (hK16 _ ?_); clear hK16 K16
 refine pwp_seq_seq ?_
 refine pwp_seq_plain rfl fun K19 hK19 => ?_
 refine p_aS rfl ?_
 refine p_end (hK19 _ ?_); clear hK19 K19
 refine pwp_seq_block fun K20 hK20 => ?_
 refine pwp_loopR (α := Nat) [1] (fun (k : Nat) => [(3, .int (k))]) (fun (k : Nat) (h : Heap) (_ : Nat → Nat) => ((k) ≤ (t.routes).length) ∧ (∀ i, i < (k) → ∀ y, (t.routes)[i]? = some y → decide (rtF t y ≠ 0) = false) ∧ (h (1, 0) = some (.rows 5 [Traffic.enc t]))) (fun (k : Nat) => (t.routes).length - (k)) (0) (by exact ⟨rfl, trivial⟩) (by exact ⟨by exact Nat.zero_le _, by exact nx_0 (K := fun y => decide (rtF t y ≠ 0)), (hset_self _ _ _)⟩) fun k r21 h22 c23 hj24 => ?_
 obtain ⟨hk, hin, hihj24_0⟩ := hj24
 try dsimp only at hk
 try dsimp only at hin
 try dsimp only at hihj24_0
 show pwp _ _ (loopQ _ _ _) ⟨sets (mix _ _ _) [(3, .int k)], _, _⟩
 refine pwp_seq_seq ?_
 refine pwp_seq_plain rfl fun K25 hK25 => ?_
 refine p_mS rfl ?_
 refine p_e rfl (e_faQ pl5 rfl) ?_
 refine p_e rfl (e_lH (v := .lit _ _ _) rfl hihj24_0 rfl) ?_
 refine p_e rfl (e_len rfl (by kernel_rfl)) ?_
 refine p_e rfl (e_lt rfl rfl) ?_
 refine p_end (hK25 _ ?_); clear hK25 K25
 refine pwp_seq_cond rfl fun K26 hK26 => ⟨fun hb27 => ?_, fun hb27 => ?_⟩
 ·have hb27R := hb27; try simp only [zz] at hb27
  obtain ⟨x, hx, hd, ht⟩ := get_lt (xs := t.routes) (i := k) (by omega)
  refine pwp_skip ?_
  refine seq_norm (hK26 _ ?_); clear hK26 K26
  refine pwp_seq_block fun K28 hK28 => ?_
  refine pwp_seq_plain rfl fun K29 hK29 => ?_
  refine p_e rfl (e_faQ pl5 rfl) ?_
  refine p_e rfl (e_lH (v := .lit _ _ _) rfl hihj24_0 rfl) ?_
  refine p_mS rfl ?_
  refine p_e rfl (e_ixL rfl rfl) ?_
  refine p_e rfl (e_loadA (n := 4) rfl (by kernel_rfl) (by kernel_rfl) (by kernel_rfl) (by first | omega | (simp only [List.length_map]; omega)) (by decide) (by first | exact agg_map hx rfl)) ?_
  refine p_new rfl (e_alloc (cs := [.int 0, .int 0, .int 0, .int 0]) (n := 4) (by kernel_rfl) rfl (by decide)) (ob_alloc (by decide)) ?_
  refine p_store rfl (e_storeA rfl (hset_self _ _ _) rfl rfl rfl (by kernel_rfl) rfl (by kernel_rfl)) trivial ?_
  refine p_end (hK29 _ ?_); clear hK29 K29
  refine pwp_seq_seq ?_
  refine pwp_seq_gops rfl fun K30 hK30 => ?_
  refine g_begin ?_
  refine g_e rfl (e_faQ pl4 rfl) ?_
  refine g_e rfl (e_lH (v := .sc _) rfl (hset_self _ _ _) rfl) ?_
  refine g_e rfl (e_faQ pl5 rfl) ?_
  refine g_e rfl (e_lH (v := .sc _) rfl ((hset_ne (key_ne rfl)).trans ((hset_ne (key_ne rfl)).trans hihj24_0)) rfl) ?_
  refine g_e rfl (e_sub rfl rfl (by first | omega | (simp only [List.length_map] at *; omega))) ?_
  refine g_call rfl rfl rfl rfl (.cons inn_sc (.cons inn_sc (.cons inn_sc .nil))) (Within _ _ _) ?_
  refine g_e rfl (e_not rfl) ?_
  refine g_mS rfl rfl ?_
  refine g_cases (fun hb31 => ?_) (fun hb31 => ?_)
  ·have hb31R := hb31; try simp only [zz] at hb31
   iterate 5 refine g_skip rfl rfl rfl ?_
   refine g_nocall rfl rfl rfl ?_
   refine g_skip rfl rfl rfl ?_
   refine g_pT rfl rfl rfl ?_
   refine g_end (ds := [52, 53, 54, 55, 56, 57, 58]) rfl rfl (hK30 _ ?_); clear hK30 K30
   refine pwp_seq_cond (t := true) rfl fun K32 hK32 => ⟨fun _ => ?_, nofun⟩
   refine pwp_seq_plain rfl fun K33 hK33 => ?_
   refine p_aS rfl ?_
   refine p_end (hK33 _ ?_); clear hK33 K33
   refine pwp_ret ?_
   refine ret_seq ?_
   refine ret_block ?_
   refine ret_seq ?_
   refine ret_loop ?_
   refine ret_block ?_
   refine ret_seq ?_
   refine end1 (v := .sc _) rfl ?_
   exact out_i (tfE_r (by omega) (by omega) (by omega) hin hx (rtF_6 (by omega)) (by decide))
  have hb31R := hb31; try simp only [zz] at hb31
  refine g_e rfl (e_faQ pl4 rfl) ?_
  refine g_e rfl (e_lH (v := .sc _) rfl (hset_self _ _ _) rfl) ?_
  refine g_e rfl (e_faQ pl5 rfl) ?_
  refine g_e rfl (e_lH (v := .sc _) rfl ((hset_ne (key_ne rfl)).trans ((hset_ne (key_ne rfl)).trans hihj24_0)) rfl) ?_
  refine g_e rfl (e_sub rfl rfl (by first | omega | (simp only [List.length_map] at *; omega))) ?_
  refine g_call rfl rfl rfl rfl (.cons inn_sc (.cons inn_sc (.cons inn_sc .nil))) (Within _ _ _) ?_
  refine g_e rfl (e_not rfl) ?_
  refine g_pF rfl rfl rfl ?_
  refine g_end (ds := [52, 53, 54, 55, 56, 57, 58]) rfl rfl (hK30 _ ?_); clear hK30 K30
  refine pwp_seq_cond rfl fun K34 hK34 => ⟨fun hb35 => ?_, fun hb35 => ?_⟩
  ·have hb35R := hb35; try simp only [zz] at hb35
   refine pwp_seq_plain rfl fun K36 hK36 => ?_
   refine p_aS rfl ?_
   refine p_end (hK36 _ ?_); clear hK36 K36
   refine pwp_ret ?_
   refine ret_seq ?_
   refine ret_block ?_
   refine ret_seq ?_
   refine ret_loop ?_
   refine ret_block ?_
   refine ret_seq ?_
   refine end1 (v := .sc _) rfl ?_
   exact out_i (tfE_r (by omega) (by omega) (by omega) hin hx (rtF_6 (by omega)) (by decide))
  have hb35R := hb35; try simp only [zz] at hb35
  refine pwp_skip ?_
  refine seq_norm (hK34 _ ?_); clear hK34 K34
  refine pwp_seq_seq ?_
  refine pwp_seq_plain rfl fun K37 hK37 => ?_
  refine p_e rfl (e_faQ pl4 rfl) ?_
  refine p_e rfl (e_lH (v := .sc _) rfl (hset_self _ _ _) rfl) ?_
  refine p_e rfl (e_faQ pl4 rfl) ?_
  refine p_e rfl (e_lH (v := .sc _) rfl (hset_self _ _ _) rfl) ?_
  refine p_e rfl (e_eq rfl rfl) ?_
  refine p_end (hK37 _ ?_); clear hK37 K37
  refine pwp_seq_cond rfl fun K38 hK38 => ⟨fun hb39 => ?_, fun hb39 => ?_⟩
  ·have hb39R := hb39; try simp only [zz] at hb39
   refine pwp_seq_plain rfl fun K40 hK40 => ?_
   refine p_aS rfl ?_
   refine p_end (hK40 _ ?_); clear hK40 K40
   refine pwp_ret ?_
   refine ret_seq ?_
   refine ret_block ?_
   refine ret_seq ?_
   refine ret_loop ?_
   refine ret_block ?_
   refine ret_seq ?_
   refine end1 (v := .sc _) rfl ?_
   exact out_i (tfE_r (by omega) (by omega) (by omega) hin hx (rtF_3 (by omega) (by omega) (by omega)) (by decide))
  have hb39R := hb39; try simp only [zz] at hb39
  refine pwp_skip ?_
  refine seq_norm (hK38 _ ?_); clear hK38 K38
  refine pwp_seq_gops rfl fun K41 hK41 => ?_
  refine g_begin ?_
  refine g_e rfl (e_faQ pl4 rfl) ?_
  refine g_e rfl (e_lH (v := .sc _) rfl (hset_self _ _ _) rfl) ?_
  refine g_call rfl rfl rfl rfl (.cons inn_sc (.cons inn_sc (.cons inn_sc .nil))) (Within _ _ _) ?_
  refine g_e rfl (e_not rfl) ?_
  refine g_mS rfl rfl ?_
  refine g_cases (fun hb42 => ?_) (fun hb42 => ?_)
  ·have hb42R := hb42; try simp only [zz] at hb42
   iterate 2 refine g_skip rfl rfl rfl ?_
   refine g_nocall rfl rfl rfl ?_
   refine g_skip rfl rfl rfl ?_
   refine g_pT rfl rfl rfl ?_
   refine g_end (ds := [70, 71, 72, 73]) rfl rfl (hK41 _ ?_); clear hK41 K41
   refine pwp_cond (t := true) rfl (fun _ => ?_) nofun
   refine pwp_seq_plain rfl fun K43 hK43 => ?_
   refine p_aS rfl ?_
   refine p_end (hK43 _ ?_); clear hK43 K43
   refine pwp_ret ?_
   refine ret_block ?_
   refine ret_seq ?_
   refine ret_loop ?_
   refine ret_block ?_
   refine ret_seq ?_
   refine end1 (v := .sc _) rfl ?_
   exact out_i (tfE_r (by omega) (by omega) (by omega) hin hx (rtF_2 (by omega) (by omega) (by omega) (by omega)) (by decide))
  have hb42R := hb42; try simp only [zz] at hb42
  refine g_e rfl (e_faQ pl4 rfl) ?_
  refine g_e rfl (e_lH (v := .sc _) rfl (hset_self _ _ _) rfl) ?_
  refine g_call rfl rfl rfl rfl (.cons inn_sc (.cons inn_sc (.cons inn_sc .nil))) (Within _ _ _) ?_
  refine g_e rfl (e_not rfl) ?_
  refine g_pF rfl rfl rfl ?_
  refine g_end (ds := [70, 71, 72, 73]) rfl rfl (hK41 _ ?_); clear hK41 K41
  refine pwp_cond rfl (fun hb44 => ?_) (fun hb44 => ?_)
  ·have hb44R := hb44; try simp only [zz] at hb44
   refine pwp_seq_plain rfl fun K45 hK45 => ?_
   refine p_aS rfl ?_
   refine p_end (hK45 _ ?_); clear hK45 K45
   refine pwp_ret ?_
   refine ret_block ?_
   refine ret_seq ?_
   refine ret_loop ?_
   refine ret_block ?_
   refine ret_seq ?_
   refine end1 (v := .sc _) rfl ?_
   exact out_i (tfE_r (by omega) (by omega) (by omega) hin hx (rtF_2 (by omega) (by omega) (by omega) (by omega)) (by decide))
  have hb44R := hb44; try simp only [zz] at hb44
  refine pwp_skip ?_
  refine block_norm ?_
  refine seq_norm (hK28 _ ?_); clear hK28 K28
  refine pwp_plain rfl fun K46 hK46 => ?_
  refine p_mS rfl ?_
  refine p_e rfl (e_adL rfl rfl) ?_
  refine p_aS rfl ?_
  refine p_end (hK46 _ ?_); clear hK46 K46
  exact loop_again (k + 1) (by show _ < _; omega) ⟨rfl, trivial⟩ ⟨rfl, trivial⟩ (by exact ⟨by show _ + 1 ≤ _; simp only [List.length_map] at *; omega, by exact nx_step (K := fun y => decide (rtF t y ≠ 0)) hin hx (by rw [rtF_0 (by omega) (by omega) (by omega) (by omega) (by omega)]; rfl), ((hset_ne (key_ne rfl)).trans ((hset_ne (key_ne rfl)).trans hihj24_0))⟩)
 have hb27R := hb27; try simp only [zz] at hb27
 have hrr : feL (rtF t) t.routes = 0 := feL_no hin (by simp only [List.length_map] at *; omega)
 refine pwp_exit ?_
 refine exit_seq ?_
 clear hK26 K26
 refine exit_loop ?_
 refine exit_here ?_
 refine seq_norm (hK20 _ ?_); clear hK20 K20
 refine pwp_seq_seq ?_
 refine pwp_seq_plain rfl fun K47 hK47 => ?_
 refine p_e rfl (e_loadHA (cs := Traffic.enc (t)) (n := 5) rfl hihj24_0 (by kernel_rfl) (by kernel_rfl) (by kernel_rfl) (by exact Nat.zero_lt_one) (by decide) rfl) ?_
 refine p_e rfl (e_faQ pl5 rfl) ?_
 refine p_e rfl (e_lH (v := .lit _ _ _) rfl hihj24_0 rfl) ?_
 refine p_call rfl (.cons (inn_agg (Traffic.pure _)) (.cons inn_lit .nil)) (refSupsC t _ (by omega) (by omega) (by omega) (by omega) (by omega)) ?_
 refine p_aS rfl ?_
 refine p_end (hK47 _ ?_); clear hK47 K47
 refine pwp_seq_seq ?_
 refine pwp_seq_plain rfl fun K48 hK48 => ?_
 refine p_mS rfl ?_
 refine p_e rfl (e_ne rfl rfl) ?_
 refine p_end (hK48 _ ?_); clear hK48 K48
 refine pwp_seq_cond rfl fun K49 hK49 => ⟨fun hb50 => ?_, fun hb50 => ?_⟩
 ·have hb50R := hb50; try simp only [zz] at hb50
  refine pwp_seq_plain rfl fun K51 hK51 => ?_
  refine p_mS rfl ?_
  refine p_aS rfl ?_
  refine p_end (hK51 _ ?_); clear hK51 K51
  refine pwp_ret ?_
  refine ret_seq ?_
  refine end1 (v := .sc _) rfl ?_
  exact out_i (tfE_s (by omega) (by omega) (by omega) hrr (by omega))
 have hb50R := hb50; try simp only [zz] at hb50
 refine pwp_skip ?_
 refine seq_norm (hK49 _ ?_); clear hK49 K49
 refine pwp_seq_plain rfl fun K52 hK52 => ?_
 refine p_e rfl (e_loadHA (cs := Traffic.enc (t)) (n := 5) rfl hihj24_0 (by kernel_rfl) (by kernel_rfl) (by kernel_rfl) (by exact Nat.zero_lt_one) (by decide) rfl) ?_
 refine p_e rfl (e_faQ pl5 rfl) ?_
 refine p_e rfl (e_lH (v := .lit _ _ _) rfl hihj24_0 rfl) ?_
 refine p_call rfl (.cons (inn_agg (Traffic.pure _)) (.cons inn_lit .nil)) (refSupsC t _ (by omega) (by omega) (by omega) (by omega) (by omega)) ?_
 refine p_aS rfl ?_
 refine p_end (hK52 _ ?_); clear hK52 K52
 refine pwp_ret ?_
 refine end1 (v := .sc _) rfl ?_
 exact out_i (tfE_n (by omega) (by omega) (by omega) hrr (by omega))

end Go.Proofs.Ytigdmkhdmbbfiaa
