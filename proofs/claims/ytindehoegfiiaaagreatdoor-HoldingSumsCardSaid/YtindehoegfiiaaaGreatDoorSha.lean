/- Shares of the wind. No conditions. -/
import Derived.Test.YtindehoegfiiaaaGreatDoorTis
set_option linter.unusedSimpArgs false
set_option linter.unusedVariables false
set_option maxRecDepth 100000
namespace Go.Proofs.YtindehoegfiiaaaGreatDoor
open Go Go.Pv
/-! ### Shares of the wind -/
def dsA (a b : Int) : Int := max (a - b) (b - a)
def tdA (g : Grid) (x z : Int) (t : Tie) : Int := dsA x (g.along.getD t.standard.toNat 0) + dsA z (g.levels.getD t.level.toNat 0)
def nrA (f : Tie → Int) (l : List Tie) : Nat → Nat × Int
 | 0 => (0, 0)
 | k + 1 => if k = 0 ∨ f (l.getD k default) < (nrA f l k).2 then (k, f (l.getD k default)) else nrA f l k
def nrF (g : Grid) (l : List Tie) (i : Nat) : Nat := (nrA (tdA g (g.along.getD (i / g.levels.length) 0) (g.levels.getD (i % g.levels.length) 0)) l l.length).1
def adA (o : List Int) (n : Nat) (v : Int) : List Int := o.set n (o.getD n 0 + v)
def shA (g : Grid) (l : List Tie) (w : List Int) : Nat → List Int
 | 0 => List.replicate l.length 0
 | i + 1 => adA (shA g l w i) (nrF g l i) (w.getD i 0)
def windE (g : Grid) (l : List Tie) (w : List Int) : Int :=
 if gridE g ≠ 0 then gridE g else if tiesE g l ≠ 0 then tiesE g l else if (w.length : Int) ≠ (g.along.length : Int) * (g.levels.length : Int) then 11
 else if w.any (outB 0 1000000) = true then 2 else if l.length = 0 then 27 else 0
def shX (g : Grid) (l : List Tie) (w : List Int) : List Int × Int := if windE g l w ≠ 0 then ([], windE g l w) else (shA g l w w.length, 0)
section
variable {f : Tie → Int} {l : List Tie} {k i n : Nat} {t : Tie} {g : Grid} {w o : List Int} {v x z b : Int}
theorem nrA_lt : ∀ {k : Nat}, 1 ≤ k → (nrA f l k).1 < k
 | k + 1, _ => by
   rw [nrA]
   split
   · exact Nat.lt_succ_self k
   · rename_i h
     have := nrA_lt (k := k) (by omega)
     omega
theorem nrA_t (ht : l[k]? = some t) (h : k = 0 ∨ f t < (nrA f l k).2) : nrA f l (k + 1) = (k, f t) := by rw [nrA, ts_x ht, if_pos h]
theorem nrA_f (ht : l[k]? = some t) (h : ¬ (k = 0 ∨ f t < (nrA f l k).2)) : nrA f l (k + 1) = nrA f l k := by rw [nrA, ts_x ht, if_neg h]
theorem ds_b (hx : -1000000 ≤ x ∧ x ≤ 1000000) (hz : -1000000 ≤ z ∧ z ≤ 1000000) : 0 ≤ dsA x z ∧ dsA x z ≤ 2000000 := by rw [dsA]; omega
theorem nrA_b (h : ∀ i t, i < k → l[i]? = some t → 0 ≤ f t ∧ f t ≤ 4000000) (hk : k ≤ l.length) : 0 ≤ (nrA f l k).2 ∧ (nrA f l k).2 ≤ 4000000 := by
 induction k with
 | zero => rw [nrA]; omega
 | succ k ih =>
   have ht : l[k]? = some (l.getD k default) := by rw [List.getD_eq_getElem?_getD, List.getElem?_eq_getElem (by omega)]; rfl
   rw [nrA]
   split
   · exact h k _ (by omega) ht
   · exact ih (fun i t hi => h i t (by omega)) (by omega)
theorem adA_len : (adA o n v).length = o.length := by rw [adA, List.length_set]
theorem shA_len : (shA g l w i).length = l.length := by
 induction i with
 | zero => rw [shA, List.length_replicate]
 | succ i ih => rw [shA, adA_len, ih]
theorem adA_b {b c : Int} (h : ∀ y ∈ o, 0 ≤ y ∧ y ≤ b) (hv : 0 ≤ v ∧ v ≤ c) (hb : 0 ≤ b) : ∀ y ∈ adA o n v, 0 ≤ y ∧ y ≤ b + c := fun y hy => by
 rw [adA] at hy
 have hd : 0 ≤ o.getD n 0 ∧ o.getD n 0 ≤ b := by
   rw [List.getD_eq_getElem?_getD]
   by_cases q : n < o.length
   · rw [List.getElem?_eq_getElem q]; exact h _ (List.getElem_mem q)
   · rw [List.getElem?_eq_none (by omega)]; exact ⟨Int.le_refl _, hb⟩
 rcases List.mem_or_eq_of_mem_set hy with q | rfl
 · have := h y q; omega
 · omega
theorem any_out {lo hi : Int} (h : w.any (outB lo hi) = false) (hx : x ∈ w) : lo ≤ x ∧ x ≤ hi := by
 rw [List.any_eq_false] at h
 have q := h x hx
 rw [outB, Bool.not_eq_true, Bool.not_eq_false', decide_eq_true_eq] at q
 exact q
theorem shA_b (hw : w.any (outB 0 1000000) = false) : ∀ {i : Nat}, i ≤ w.length → ∀ y ∈ shA g l w i, 0 ≤ y ∧ y ≤ 1000000 * (i : Int)
 | 0, _, y, hy => by
   rw [shA] at hy
   obtain ⟨_, rfl⟩ := List.mem_replicate.1 hy
   omega
 | i + 1, hi, y, hy => by
   rw [shA] at hy
   have hx : w.getD i 0 ∈ w := by rw [List.getD_eq_getElem?_getD, List.getElem?_eq_getElem (by omega)]; exact List.getElem_mem _
   have := adA_b (shA_b hw (by omega)) (any_out hw hx) (by omega) y hy
   omega
theorem sum_set : ∀ {o : List Int} {n : Nat} {v : Int}, n < o.length → (adA o n v).sum = o.sum + v
 | a :: o, 0, v, _ => by
   show (a + v) + o.sum = (a + o.sum) + v
   omega
 | a :: o, n + 1, v, h => by
   have := sum_set (o := o) (n := n) (v := v) (by simpa using h)
   show a + (adA o n v).sum = (a + o.sum) + v
   omega
theorem nrF_lt (h : 1 ≤ l.length) : nrF g l i < l.length := nrA_lt h
theorem sum_rep : ∀ {m : Nat}, (List.replicate m (0 : Int)).sum = 0
 | 0 => rfl
 | m + 1 => by
   have := sum_rep (m := m)
   show 0 + (List.replicate m (0 : Int)).sum = 0
   omega
theorem take_sum (hx : w[k]? = some x) : (w.take (k + 1)).sum = (w.take k).sum + x := by
 obtain ⟨hk, rfl⟩ := List.getElem?_eq_some_iff.1 hx
 rw [List.take_succ_eq_append_getElem hk, List.sum_append]
 simp
theorem shA_sum (h : 1 ≤ l.length) : ∀ {i : Nat}, i ≤ w.length → (shA g l w i).sum = (w.take i).sum
 | 0, _ => by rw [shA, sum_rep]; rfl
 | i + 1, hi => by
   have hx : w[i]? = some (w.getD i 0) := by rw [List.getD_eq_getElem?_getD, List.getElem?_eq_getElem (by omega)]; rfl
   rw [shA, sum_set (by rw [shA_len]; exact nrF_lt h), shA_sum h (by omega), take_sum hx]
theorem ix_div {k m : Nat} : ((k : Int) / (m : Int)).toNat = k / m := by rw [← Int.natCast_ediv, Int.toNat_natCast]
theorem ix_mod {k m : Nat} : ((k : Int) % (m : Int)).toNat = k % m := by rw [← Int.natCast_emod, Int.toNat_natCast]
theorem windE_g (h : gridE g ≠ 0) : windE g l w = gridE g := by rw [windE, if_pos h]
theorem windE_t (h : gridE g = 0) (h1 : tiesE g l ≠ 0) : windE g l w = tiesE g l := by rw [windE, if_neg (fun q => q h), if_pos h1]
theorem windE_s (h : gridE g = 0) (h1 : tiesE g l = 0) (h2 : ¬ (w.length : Int) = (g.along.length : Int) * (g.levels.length : Int)) : windE g l w = 11 := by
 rw [windE, if_neg (fun q => q h), if_neg (fun q => q h1), if_pos h2]
theorem windE_r (h : gridE g = 0) (h1 : tiesE g l = 0) (h2 : (w.length : Int) = (g.along.length : Int) * (g.levels.length : Int)) (h3 : w.any (outB 0 1000000) = true) : windE g l w = 2 := by
 rw [windE, if_neg (fun q => q h), if_neg (fun q => q h1), if_neg (fun q => q h2), if_pos h3]
theorem windE_n (h : gridE g = 0) (h1 : tiesE g l = 0) (h2 : (w.length : Int) = (g.along.length : Int) * (g.levels.length : Int)) (h3 : w.any (outB 0 1000000) = false) (h4 : l.length = 0) : windE g l w = 27 := by
 rw [windE, if_neg (fun q => q h), if_neg (fun q => q h1), if_neg (fun q => q h2), if_neg (by rw [h3]; decide), if_pos h4]
theorem windE_0 (h : gridE g = 0) (h1 : tiesE g l = 0) (h2 : (w.length : Int) = (g.along.length : Int) * (g.levels.length : Int)) (h3 : w.any (outB 0 1000000) = false) (h4 : ¬ l.length = 0) : windE g l w = 0 := by
 rw [windE, if_neg (fun q => q h), if_neg (fun q => q h1), if_neg (fun q => q h2), if_neg (by rw [h3]; decide), if_neg h4]
theorem windE_inv (h : windE g l w = 0) : gridE g = 0 ∧ tiesE g l = 0 ∧ (w.length : Int) = (g.along.length : Int) * (g.levels.length : Int) ∧ w.any (outB 0 1000000) = false ∧ 1 ≤ l.length := by
 by_cases h1 : gridE g = 0
 · by_cases h2 : tiesE g l = 0
   · by_cases h3 : (w.length : Int) = (g.along.length : Int) * (g.levels.length : Int)
     · cases h4 : w.any (outB 0 1000000) with
       | false =>
         by_cases h5 : l.length = 0
         · rw [windE_n h1 h2 h3 h4 h5] at h; cases h
         · exact ⟨h1, h2, h3, rfl, by omega⟩
       | true => rw [windE_r h1 h2 h3 h4] at h; cases h
     · rw [windE_s h1 h2 h3] at h; cases h
   · rw [windE_t h1 h2] at h; exact absurd h h2
 · rw [windE_g h1] at h; exact absurd h h1
theorem shX_e {e : Int} (h : windE g l w = e) (he : e ≠ 0) : shX g l w = ([], e) := by subst h; rw [shX, if_pos he]
theorem shX_0 (h : windE g l w = 0) : shX g l w = (shA g l w w.length, 0) := by rw [shX, if_neg (fun q => q h)]
theorem shX_c (g : Grid) (l : List Tie) (w : List Int) : (windE g l w ≠ 0 ∧ (shX g l w).1 = [] ∧ (shX g l w).2 = windE g l w) ∨ (windE g l w = 0 ∧ (shX g l w).1 = shA g l w w.length ∧ (shX g l w).2 = 0) := by
 by_cases h : windE g l w = 0
 · rw [shX_0 h]; exact .inr ⟨h, rfl, rfl⟩
 · rw [shX_e rfl h]; exact .inl ⟨h, rfl, rfl⟩
theorem al_b (h : gridE g = 0) : (∀ y ∈ g.along, -1000000 ≤ y ∧ y ≤ 1000000) ∧ (∀ y ∈ g.levels, 1 ≤ y ∧ y ≤ 1000000) := by
 obtain ⟨h1, h2⟩ := grd_shape h
 cases h3 : g.along.any (outB (-1000000) 1000000) with
 | true => rw [← grd_2a h1 h2 h3] at h; cases h
 | false =>
   cases h4 : g.levels.any (outB 1 1000000) with
   | true => rw [← grd_2l h1 h2 h3 h4] at h; cases h
   | false => exact ⟨fun y hy => any_out h3 hy, fun y hy => any_out h4 hy⟩
theorem gd0 {l : List Int} {i : Nat} (h : l[i]? = some x) : l.getD i 0 = x := by rw [List.getD_eq_getElem?_getD, h]; rfl
/-- the distance of a tie of the list lies in bounds -/
theorem td_b (h : gridE g = 0) (ht : tiesE g l = 0) (hx : -1000000 ≤ x ∧ x ≤ 1000000) (hz : -1000000 ≤ z ∧ z ≤ 1000000) (i : Nat) (t : Tie) (hi : l[i]? = some t) : 0 ≤ tdA g x z t ∧ tdA g x z t ≤ 4000000 := by
 have h1 := ti_at ht hi
 have ⟨h2, h3⟩ := al_b h
 have ha : g.along.getD t.standard.toNat 0 ∈ g.along := by rw [List.getD_eq_getElem?_getD, List.getElem?_eq_getElem (by omega)]; exact List.getElem_mem _
 have hb : g.levels.getD t.level.toNat 0 ∈ g.levels := by rw [List.getD_eq_getElem?_getD, List.getElem?_eq_getElem (by omega)]; exact List.getElem_mem _
 have h4 := ds_b hx (h2 _ ha)
 have h5 := h3 _ hb
 have h6 := ds_b hz (z := g.levels.getD t.level.toNat 0) (by omega)
 rw [tdA]; omega
theorem td_at {a c : Int} (ha : g.along[t.standard.toNat]? = some a) (hc : g.levels[t.level.toNat]? = some c) : dsA x a + dsA z c = tdA g x z t := by rw [tdA, gd0 ha, gd0 hc]
/-- the nearest tie so far: its place and its distance, the way each side keeps them -/
abbrev NrO (f : Tie → Int) (l : List Tie) (k : Nat) (n d : Int) : Prop := n = ((nrA f l k).1 : Int) ∧ d = if k = 0 then -1 else (nrA f l k).2
theorem nrO_t {n d e : Int} (h : NrO f l k n d) (ht : l[k]? = some t) (he : e = f t) (hb : 0 ≤ (nrA f l k).2) (hc : d < 0 ∨ e < d) : NrO f l (k + 1) (k : Int) e := by
 have : k = 0 ∨ f t < (nrA f l k).2 := by
   by_cases q : k = 0
   · exact .inl q
   · have := h.2; rw [if_neg q] at this; exact .inr (by omega)
 rw [NrO, nrA_t ht this]; exact ⟨rfl, by rw [if_neg (by omega)]; exact he⟩
theorem nrO_f {n d e : Int} (h : NrO f l k n d) (ht : l[k]? = some t) (he : e = f t) (hc : 0 ≤ d) (hc2 : d ≤ e) : NrO f l (k + 1) n d := by
 have hk : ¬ k = 0 := fun q => by have := h.2; rw [if_pos q] at this; omega
 have h2 := h.2; rw [if_neg hk] at h2
 have : ¬ (k = 0 ∨ f t < (nrA f l k).2) := by omega
 rw [NrO, nrA_f ht this]; exact ⟨h.1, by rw [if_neg (by omega)]; exact h2⟩
theorem flat_lt {k r A M : Nat} (hk : k < A) (hr : r < M) : k * M + r < A * M := by
 have h1 : (k + 1) * M ≤ A * M := Nat.mul_le_mul_right M hk
 rw [Nat.add_mul, Nat.one_mul] at h1
 omega
theorem few_t {g : Grid} (h : fewB g = true) : g.along.length ≤ 100 ∧ g.levels.length ≤ 100 ∧ (g.along.length ≤ 6 ∧ g.levels.length ≤ 6 ∨ gridE g ≠ 0) := of_decide_eq_true h
theorem sum_b : ∀ {l : List Int} {b : Int}, (∀ y ∈ l, 0 ≤ y ∧ y ≤ b) → 0 ≤ l.sum ∧ l.sum ≤ b * (l.length : Int)
 | [], b, _ => by simp
 | a :: l, b, h => by
   have h1 := sum_b (l := l) (b := b) fun y hy => h y (List.mem_cons_of_mem _ hy)
   have h2 := h a (List.mem_cons_self ..)
   have h3 : b * (((a :: l).length : Nat) : Int) = b * (l.length : Int) + b := by rw [List.length_cons, Int.natCast_add, Int.mul_add]; simp
   rw [h3]
   show 0 ≤ a + l.sum ∧ a + l.sum ≤ _
   omega
theorem tsum_b {k : Nat} {b : Int} {l : List Int} (h : ∀ y ∈ l, 0 ≤ y ∧ y ≤ b) (hb : 0 ≤ b) (hl : l.length ≤ 200) : 0 ≤ (l.take k).sum ∧ (l.take k).sum ≤ b * 200 := by
 have h1 := sum_b (l := l.take k) (b := b) fun y hy => h y (List.mem_of_mem_take hy)
 have h2 : b * (((l.take k).length : Nat) : Int) ≤ b * 200 := Int.mul_le_mul_of_nonneg_left (by simp only [List.length_take]; omega) hb
 omega
end

theorem fr87 : (inFrame Tryz.f87.ntmps (Tryz.f87.body.getD .skip) && Tryz.f87.results.toList.all (resScope Tryz.f87.ntmps)) = true := by kernel_rfl
theorem outW (z : Int) : PCalls Tryz.prog 87 [.int z] (.bool (outB 0 1000000 z)) := by
 refine PCalls.of_code Tryz.func87 rfl rfl (by kernel_rfl) mixed fr87 (by show _ ≤ 6; simp) (.sc _) ?_
 refine pwp_seq_plain rfl fun K1 hK1 => ?_
 refine p_aS rfl ?_
 refine p_end (hK1 _ ?_); clear hK1 K1
 refine pwp_seq_plain rfl fun K2 hK2 => ?_
 refine p_mS rfl ?_
 refine p_call rfl (.cons inn_sc (.cons inn_sc (.cons inn_sc .nil))) (within _ _ _) ?_
 refine p_e rfl (e_not rfl) ?_
 refine p_aS rfl ?_
 refine p_end (hK2 _ ?_); clear hK2 K2
 refine pwp_ret ?_
 refine end1 (v := .sc _) rfl ?_
 exact out_b (by rw [outB])

theorem fr88 : (inFrame Tryz.f88.ntmps (Tryz.f88.body.getD .skip) && Tryz.f88.results.toList.all (resScope Tryz.f88.ntmps)) = true := by kernel_rfl
theorem distC (a b : Int) (ha : -3000000 ≤ a ∧ a ≤ 3000000) (hb : -3000000 ≤ b ∧ b ≤ 3000000) : PCalls Tryz.prog 88 [.int a, .int b] (.int (dsA a b)) := by
 refine PCalls.of_code Tryz.func88 rfl rfl (by kernel_rfl) mixed fr88 (by show _ ≤ 12; simp) (.sc _) ?_
 refine pwp_seq_plain rfl fun K1 hK1 => ?_
 refine p_aS rfl ?_
 refine p_end (hK1 _ ?_); clear hK1 K1
 refine pwp_seq_plain rfl fun K2 hK2 => ?_
 refine p_mS rfl ?_
 refine p_mS rfl ?_
 refine p_e rfl (e_sub rfl rfl (by first | omega | (simp only [List.length_map] at *; omega))) ?_
 refine p_mS rfl ?_
 refine p_mS rfl ?_
 refine p_e rfl (e_sub rfl rfl (by first | omega | (simp only [List.length_map] at *; omega))) ?_
 refine p_e rfl (e_max rfl rfl) ?_
 refine p_aS rfl ?_
 refine p_end (hK2 _ ?_); clear hK2 K2
 refine pwp_ret ?_
 refine end1 (v := .sc _) rfl ?_
 exact out_i rfl

theorem fr38 : (inFrame Tryz.f38.ntmps (Tryz.f38.body.getD .skip) && Tryz.f38.results.toList.all (resScope Tryz.f38.ntmps)) = true := by kernel_rfl
theorem SharesC (g : Grid) (l : List Tie) (w : List Int) (ha : g.along.length ≤ 100) (hb : g.levels.length ≤ 100) (hl : l.length ≤ 100000) (hw : w.length ≤ 100000) : PCalls Tryz.prog 38 [.agg g.enc, .lit true 2 (l.map Tie.enc), .lit true 1 (w.map ci)] (.tup [.lit false 1 ((shX g l w).1.map ci), .int (shX g l w).2]) := by
 refine PCalls.of_code Tryz.func38 rfl rfl (by kernel_rfl) mixed fr38 (by show _ ≤ 120; simp) (pure_2 (.lit _ _ _ fun row hr => pure_map ci_pure row hr) (.sc _)) ?_
 refine pwp_seq_plain rfl fun K1 hK1 => ?_
 refine p_new rfl (e_box (n := 3) rfl rfl) ⟨rfl, by decide⟩ ?_
 refine p_e rfl (e_assign (v := .nil) rfl) ?_
 refine p_aS rfl ?_
 refine p_end (hK1 _ ?_); clear hK1 K1
 refine pwp_seq_seq ?_
 refine pwp_seq_plain rfl fun K2 hK2 => ?_
 refine p_e rfl (e_loadHA (cs := Grid.enc (g)) (n := 3) rfl (hset_self _ _ _) (by kernel_rfl) (by kernel_rfl) (by kernel_rfl) (by exact Nat.zero_lt_one) (by decide) rfl) ?_
 refine p_call rfl (.cons (inn_agg (Grid.pure _)) .nil) (CheckGridC g (by omega) (by omega)) ?_
 refine p_aS rfl ?_
 refine p_end (hK2 _ ?_); clear hK2 K2
 refine pwp_seq_seq ?_
 refine pwp_seq_plain rfl fun K3 hK3 => ?_
 refine p_mS rfl ?_
 refine p_e rfl (e_ne rfl rfl) ?_
 refine p_end (hK3 _ ?_); clear hK3 K3
 refine pwp_seq_cond rfl fun K4 hK4 => ⟨fun hb5 => ?_, fun hb5 => ?_⟩
 ·have hb5R := hb5; try simp only [zz] at hb5
  refine pwp_seq_plain rfl fun K6 hK6 => ?_
  refine p_mS rfl ?_
  refine p_e rfl (e_assign (v := .nil) rfl) ?_
  refine p_aS rfl ?_
  refine p_end (hK6 _ ?_); clear hK6 K6
  refine pwp_ret ?_
  refine ret_seq ?_
  refine end2 (v := .nil) (w := .sc _) rfl rfl ?_
  first
    | exact li_oe (shX_e (windE_g (by assumption)) (by assumption))
    | exact li_oe (shX_e (windE_t (by assumption) (by assumption)) (by assumption))
    | exact li_oe (shX_e (windE_s (by assumption) (by assumption) (by simp only [List.length_map] at *; omega)) (by decide))
    | exact li_oe (shX_e (windE_r (by assumption) (by assumption) (by simp only [List.length_map] at *; omega) (by assumption)) (by decide))
    | exact li_oe (shX_e (windE_n (by assumption) (by assumption) (by simp only [List.length_map] at *; omega) (by assumption) (by simp only [List.length_map] at *; omega)) (by decide))
 ·have hb5R := hb5; try simp only [zz] at hb5
  refine pwp_skip ?_
  refine seq_norm (hK4 _ ?_); clear hK4 K4
  refine pwp_seq_seq ?_
  refine pwp_seq_plain rfl fun K7 hK7 => ?_
  refine p_e rfl (e_loadHA (cs := Grid.enc (g)) (n := 3) rfl (hset_self _ _ _) (by kernel_rfl) (by kernel_rfl) (by kernel_rfl) (by exact Nat.zero_lt_one) (by decide) rfl) ?_
  refine p_e rfl (e_move (v := .lit _ _ _) rfl) ?_
  refine p_call rfl (.cons (inn_agg (Grid.pure _)) (.cons inn_lit .nil)) (checkTiesC g l (by omega) (by omega) (by omega)) ?_
  refine p_aS rfl ?_
  refine p_end (hK7 _ ?_); clear hK7 K7
  refine pwp_seq_seq ?_
  refine pwp_seq_plain rfl fun K8 hK8 => ?_
  refine p_mS rfl ?_
  refine p_e rfl (e_ne rfl rfl) ?_
  refine p_end (hK8 _ ?_); clear hK8 K8
  refine pwp_seq_cond rfl fun K9 hK9 => ⟨fun hb10 => ?_, fun hb10 => ?_⟩
  ·have hb10R := hb10; try simp only [zz] at hb10
   refine pwp_seq_plain rfl fun K11 hK11 => ?_
   refine p_mS rfl ?_
   refine p_e rfl (e_assign (v := .nil) rfl) ?_
   refine p_aS rfl ?_
   refine p_end (hK11 _ ?_); clear hK11 K11
   refine pwp_ret ?_
   refine ret_seq ?_
   refine end2 (v := .nil) (w := .sc _) rfl rfl ?_
   first
     | exact li_oe (shX_e (windE_g (by assumption)) (by assumption))
     | exact li_oe (shX_e (windE_t (by assumption) (by assumption)) (by assumption))
     | exact li_oe (shX_e (windE_s (by assumption) (by assumption) (by simp only [List.length_map] at *; omega)) (by decide))
     | exact li_oe (shX_e (windE_r (by assumption) (by assumption) (by simp only [List.length_map] at *; omega) (by assumption)) (by decide))
     | exact li_oe (shX_e (windE_n (by assumption) (by assumption) (by simp only [List.length_map] at *; omega) (by assumption) (by simp only [List.length_map] at *; omega)) (by decide))
  ·have hb10R := hb10; try simp only [zz] at hb10
   refine pwp_skip ?_
   refine seq_norm (hK9 _ ?_); clear hK9 K9
   refine pwp_seq_block fun K12 hK12 => ?_
   have hgz : gridE g = 0 := by omega
   have hsp := (grd_shape hgz).2
   have hml : 0 ≤ (g.along.length : Int) * (g.levels.length : Int) ∧ (g.along.length : Int) * (g.levels.length : Int) ≤ 100 * 100 := ⟨Int.mul_nonneg (by omega) (by omega), Int.mul_le_mul (by omega) (by omega) (by omega) (by omega)⟩
   refine pwp_seq_plain rfl fun K13 hK13 => ?_
   refine p_e rfl (e_move (v := .lit _ _ _) rfl) ?_
   refine p_e rfl (e_len rfl (by kernel_rfl)) ?_
   refine p_e rfl (e_faQ pl3 rfl) ?_
   refine p_e rfl (e_lH (v := .lit _ _ _) rfl (hset_self _ _ _) rfl) ?_
   refine p_e rfl (e_len rfl (by kernel_rfl)) ?_
   refine p_e rfl (e_faQ pl3 rfl) ?_
   refine p_e rfl (e_lH (v := .lit _ _ _) rfl (hset_self _ _ _) rfl) ?_
   refine p_e rfl (e_len rfl (by kernel_rfl)) ?_
   refine p_e rfl (e_mul rfl rfl (by first | omega | (simp only [List.length_map] at *; omega))) ?_
   refine p_e rfl (e_ne rfl rfl) ?_
   refine p_aS rfl ?_
   refine p_end (hK13 _ ?_); clear hK13 K13
   refine pwp_cond rfl (fun hb14 => ?_) (fun hb14 => ?_)
   ·have hb14R := hb14; try simp only [zz] at hb14
    refine pwp_seq_plain rfl fun K15 hK15 => ?_
    refine p_e rfl (e_assign (v := .nil) rfl) ?_
    refine p_aS rfl ?_
    refine p_end (hK15 _ ?_); clear hK15 K15
    refine pwp_ret ?_
    refine ret_block ?_
    refine ret_seq ?_
    refine end2 (v := .nil) (w := .sc _) rfl rfl ?_
    first
      | exact li_oe (shX_e (windE_g (by assumption)) (by assumption))
      | exact li_oe (shX_e (windE_t (by assumption) (by assumption)) (by assumption))
      | exact li_oe (shX_e (windE_s (by assumption) (by assumption) (by simp only [List.length_map] at *; omega)) (by decide))
      | exact li_oe (shX_e (windE_r (by assumption) (by assumption) (by simp only [List.length_map] at *; omega) (by assumption)) (by decide))
      | exact li_oe (shX_e (windE_n (by assumption) (by assumption) (by simp only [List.length_map] at *; omega) (by assumption) (by simp only [List.length_map] at *; omega)) (by decide))
   ·have hb14R := hb14; try simp only [zz] at hb14
    refine pwp_seq_plain rfl fun K16 hK16 => ?_
    refine p_e rfl (e_move (v := .lit _ _ _) rfl) ?_
    refine p_call rfl (.cons inn_lit (.cons inn_func0 .nil)) (ContainsI 87 (outB 0 1000000) outW _ (by omega)) ?_
    refine p_aS rfl ?_
    refine p_end (hK16 _ ?_); clear hK16 K16
    refine pwp_cond rfl (fun hb17 => ?_) (fun hb17 => ?_)
    ·have hb17R := hb17; try simp only [zz] at hb17
     refine pwp_seq_plain rfl fun K18 hK18 => ?_
     refine p_e rfl (e_assign (v := .nil) rfl) ?_
     refine p_aS rfl ?_
     refine p_end (hK18 _ ?_); clear hK18 K18
     refine pwp_ret ?_
     refine ret_block ?_
     refine ret_seq ?_
     refine end2 (v := .nil) (w := .sc _) rfl rfl ?_
     first
       | exact li_oe (shX_e (windE_g (by assumption)) (by assumption))
       | exact li_oe (shX_e (windE_t (by assumption) (by assumption)) (by assumption))
       | exact li_oe (shX_e (windE_s (by assumption) (by assumption) (by simp only [List.length_map] at *; omega)) (by decide))
       | exact li_oe (shX_e (windE_r (by assumption) (by assumption) (by simp only [List.length_map] at *; omega) (by assumption)) (by decide))
       | exact li_oe (shX_e (windE_n (by assumption) (by assumption) (by simp only [List.length_map] at *; omega) (by assumption) (by simp only [List.length_map] at *; omega)) (by decide))
    ·have hb17R := hb17; try simp only [zz] at hb17
     refine pwp_seq_plain rfl fun K19 hK19 => ?_
     refine p_e rfl (e_move (v := .lit _ _ _) rfl) ?_
     refine p_e rfl (e_len rfl (by kernel_rfl)) ?_
     refine p_e rfl (e_eq rfl rfl) ?_
     refine p_aS rfl ?_
     refine p_end (hK19 _ ?_); clear hK19 K19
     refine pwp_cond rfl (fun hb20 => ?_) (fun hb20 => ?_)
     ·have hb20R := hb20; try simp only [zz] at hb20
      refine pwp_seq_plain rfl fun K21 hK21 => ?_
      refine p_e rfl (e_assign (v := .nil) rfl) ?_
      refine p_aS rfl ?_
      refine p_end (hK21 _ ?_); clear hK21 K21
      refine pwp_ret ?_
      refine ret_block ?_
      refine ret_seq ?_
      refine end2 (v := .nil) (w := .sc _) rfl rfl ?_
      first
        | exact li_oe (shX_e (windE_g (by assumption)) (by assumption))
        | exact li_oe (shX_e (windE_t (by assumption) (by assumption)) (by assumption))
        | exact li_oe (shX_e (windE_s (by assumption) (by assumption) (by simp only [List.length_map] at *; omega)) (by decide))
        | exact li_oe (shX_e (windE_r (by assumption) (by assumption) (by simp only [List.length_map] at *; omega) (by assumption)) (by decide))
        | exact li_oe (shX_e (windE_n (by assumption) (by assumption) (by simp only [List.length_map] at *; omega) (by assumption) (by simp only [List.length_map] at *; omega)) (by decide))
     ·have hb20R := hb20; try simp only [zz] at hb20
      refine pwp_skip ?_
      refine block_norm ?_
      refine seq_norm (hK12 _ ?_); clear hK12 K12
      have hgz : gridE g = 0 := by omega
      have htz : tiesE g l = 0 := by omega
      have hwl : (w.length : Int) = (g.along.length : Int) * (g.levels.length : Int) := by first | assumption | (simp only [List.length_map] at *; omega)
      have hwz : w.any (outB 0 1000000) = false := by assumption
      have hl1 : 1 ≤ l.length := by simp only [List.length_map] at *; omega
      have hwe : windE g l w = 0 := windE_0 hgz htz hwl hwz (by omega)
      have hsp := (grd_shape hgz).2; have hab := al_b hgz; have hwi := fun {y} => any_out (x := y) hwz
      have hwl2 : w.length = g.along.length * g.levels.length := by exact_mod_cast hwl
      refine pwp_seq_plain rfl fun K22 hK22 => ?_
      refine p_e rfl (e_move (v := .lit _ _ _) rfl) ?_
      refine p_e rfl (e_len rfl (by kernel_rfl)) ?_
      refine p_new rfl (e_mkI (n := l.length) rfl rfl (by simp) (by kernel_rfl) (by kernel_rfl) (by kernel_rfl) (by decide +kernel) (by omega)) trivial ?_
      refine p_e rfl (e_assign (v := .ref _ _ _ _) rfl) ?_
      refine p_end (hK22 _ ?_); clear hK22 K22
      refine pwp_seq_seq ?_
      refine pwp_seq_plain rfl fun K23 hK23 => ?_
      refine p_e rfl (e_move (v := .lit _ _ _) rfl) ?_
      refine p_e rfl (e_len rfl (by kernel_rfl)) ?_
      refine p_mS rfl ?_
      refine p_end (hK23 _ ?_); clear hK23 K23
      refine pwp_seq_block fun K24 hK24 => ?_
      refine pwp_loopR (α := Nat × (List Int)) [1, 3, 10, 52, 53] (fun (a25 : Nat × (List Int)) => [(54, .int (a25.1))]) (fun (a25 : Nat × (List Int)) (h : Heap) (_ : Nat → Nat) => ((a25.1) ≤ w.length) ∧ ((a25.2) = shA g l w (a25.1)) ∧ (h (3, 0) = some (.rows 3 [Grid.enc g])) ∧ (h (51, 0) = some (.rows 1 ((a25.2).map ci)))) (fun (a25 : Nat × (List Int)) => w.length - (a25.1)) (0, (List.replicate l.length 0)) (by exact ⟨rfl, trivial⟩) (by exact ⟨by exact Nat.zero_le _, by exact rfl, ((hset_ne (key_ne rfl)).trans (hset_self _ _ _)), (hset_self _ _ _)⟩) fun a25 r26 h27 c28 hj29 => ?_
      obtain ⟨k, zs⟩ := a25
      obtain ⟨hk, hzs, hihj29_0, hihj29_1⟩ := hj29
      try dsimp only at hk
      try dsimp only at hzs
      try dsimp only at hihj29_0
      try dsimp only at hihj29_1
      show pwp _ _ (loopQ _ _ _) ⟨sets (mix _ _ _) [(54, .int k)], _, _⟩
      refine pwp_seq_plain rfl fun K30 hK30 => ?_
      refine p_e rfl (e_lt rfl rfl) ?_
      refine p_end (hK30 _ ?_); clear hK30 K30
      refine pwp_seq_cond rfl fun K31 hK31 => ⟨fun hb32 => ?_, fun hb32 => ?_⟩
      ·have hb32R := hb32; try simp only [zz] at hb32
       obtain ⟨f, hf, hd, ht⟩ := get_lt (xs := w) (i := k) (by omega)
       have hfb := hwi (List.mem_of_getElem? hf)
       have hkl : k < g.along.length * g.levels.length := by omega
       have hia : k / g.levels.length < g.along.length := Nat.div_lt_of_lt_mul (by rw [Nat.mul_comm]; exact hkl)
       have hib : k % g.levels.length < g.levels.length := Nat.mod_lt _ (by omega)
       obtain ⟨x, hx⟩ : ∃ x, g.along[k / g.levels.length]? = some x := ⟨_, List.getElem?_eq_getElem hia⟩
       obtain ⟨z, hz⟩ : ∃ z, g.levels[k % g.levels.length]? = some z := ⟨_, List.getElem?_eq_getElem hib⟩
       have hlm : (g.levels.map ci).length = g.levels.length := List.length_map ..
       have hxi : g.along[(((k : Int) / ((((g.levels).map ci).length : Nat) : Int))).toNat]? = some x := by rw [hlm, ix_div]; exact hx
       have hzi : g.levels[(((k : Int) % ((((g.levels).map ci).length : Nat) : Int))).toNat]? = some z := by rw [hlm, ix_mod]; exact hz
       have hqa : 0 ≤ ((k : Int) / ((((g.levels).map ci).length : Nat) : Int)) ∧ ((k : Int) / ((((g.levels).map ci).length : Nat) : Int)) < g.along.length := by rw [hlm, ← Int.natCast_ediv]; exact ⟨Int.natCast_nonneg _, by exact_mod_cast hia⟩
       have hqb : 0 ≤ ((k : Int) % ((((g.levels).map ci).length : Nat) : Int)) ∧ ((k : Int) % ((((g.levels).map ci).length : Nat) : Int)) < g.levels.length := by rw [hlm, ← Int.natCast_emod]; exact ⟨Int.natCast_nonneg _, by exact_mod_cast hib⟩
       have hqa2 := hqa; have hqb2 := hqb; rw [hlm] at hqa2 hqb2
       have hxb := hab.1 x (List.mem_of_getElem? hx); have hzb := hab.2 z (List.mem_of_getElem? hz)
       refine pwp_skip ?_
       refine seq_norm (hK31 _ ?_); clear hK31 K31
       refine pwp_seq_block fun K33 hK33 => ?_
       refine pwp_seq_plain rfl fun K34 hK34 => ?_
       refine p_mS rfl ?_
       refine p_e rfl (e_ixL rfl rfl) ?_
       refine p_e rfl (e_load (v := .sc _) rfl (by kernel_rfl) (by kernel_rfl) (by kernel_rfl) (by first | omega | (simp only [List.length_map]; omega)) (by decide) ((cell_map hf _).trans rfl)) ?_
       refine p_aS rfl ?_
       refine p_aS rfl ?_
       refine p_end (hK34 _ ?_); clear hK34 K34
       refine pwp_seq_gops rfl fun K35 hK35 => ?_
       refine g_begin ?_
       refine g_e rfl (e_faQ pl3 rfl) ?_
       refine g_e rfl (e_lH (v := .lit _ _ _) rfl hihj29_0 rfl) ?_
       refine g_mS rfl rfl ?_
       refine g_e rfl (e_faQ pl3 rfl) ?_
       refine g_e rfl (e_lH (v := .lit _ _ _) rfl hihj29_0 rfl) ?_
       refine g_e rfl (e_len rfl (by kernel_rfl)) ?_
       refine g_e rfl (e_quo rfl rfl (by omega) (by omega) (by omega)) ?_
       refine g_e rfl (e_ixL rfl rfl) ?_
       refine g_e rfl (e_load (v := .sc _) rfl (by kernel_rfl) (by kernel_rfl) (by kernel_rfl) (by first | omega | (simp only [List.length_map]; omega)) (by decide) ((cell_map hxi _).trans rfl)) ?_
       refine g_e rfl (e_faQ pl3 rfl) ?_
       refine g_e rfl (e_lH (v := .lit _ _ _) rfl hihj29_0 rfl) ?_
       refine g_mS rfl rfl ?_
       refine g_e rfl (e_faQ pl3 rfl) ?_
       refine g_e rfl (e_lH (v := .lit _ _ _) rfl hihj29_0 rfl) ?_
       refine g_e rfl (e_len rfl (by kernel_rfl)) ?_
       refine g_e rfl (e_rem rfl rfl (by omega) (by omega)) ?_
       refine g_e rfl (e_ixL rfl rfl) ?_
       refine g_e rfl (e_load (v := .sc _) rfl (by kernel_rfl) (by kernel_rfl) (by kernel_rfl) (by first | omega | (simp only [List.length_map]; omega)) (by decide) ((cell_map hzi _).trans rfl)) ?_
       refine g_aS rfl rfl ?_
       refine g_aS rfl rfl ?_
       refine g_end (ds := []) (by kernel_rfl) rfl (hK35 _ ?_); clear hK35 K35
       refine pwp_seq_plain rfl fun K36 hK36 => ?_
       refine p_aS rfl ?_
       refine p_aS rfl ?_
       refine p_end (hK36 _ ?_); clear hK36 K36
       refine pwp_seq_seq ?_
       refine pwp_seq_plain rfl fun K37 hK37 => ?_
       refine p_e rfl (e_move (v := .lit _ _ _) rfl) ?_
       refine p_e rfl (e_len rfl (by kernel_rfl)) ?_
       refine p_mS rfl ?_
       refine p_end (hK37 _ ?_); clear hK37 K37
       refine pwp_seq_block fun K38 hK38 => ?_
       refine pwp_loopR (α := Nat × Int × Int) [1, 3, 10, 12, 13, 14, 52, 53, 54, 77, 78] (fun (a39 : Nat × Int × Int) => [(15, .int (a39.2.1)), (16, .int (a39.2.2)), (79, .int (a39.1))]) (fun (a39 : Nat × Int × Int) (h : Heap) (_ : Nat → Nat) => ((a39.1) ≤ l.length) ∧ (NrO (tdA g x z) l (a39.1) (a39.2.1) (a39.2.2)) ∧ (h (3, 0) = some (.rows 3 [Grid.enc g])) ∧ (h (51, 0) = some (.rows 1 (zs.map ci)))) (fun (a39 : Nat × Int × Int) => l.length - (a39.1)) (0, 0, -1) (by exact ⟨rfl, rfl, rfl, trivial⟩) (by exact ⟨by exact Nat.zero_le _, by exact ⟨rfl, rfl⟩, hihj29_0, hihj29_1⟩) fun a39 r40 h41 c42 hj43 => ?_
       obtain ⟨j, n, d⟩ := a39
       obtain ⟨hj, hnr, hihj43_0, hihj43_1⟩ := hj43
       try dsimp only at hj
       try dsimp only at hnr
       try dsimp only at hihj43_0
       try dsimp only at hihj43_1
       show pwp _ _ (loopQ _ _ _) ⟨sets (mix _ _ _) [(15, .int n), (16, .int d), (79, .int j)], _, _⟩
       refine pwp_seq_plain rfl fun K44 hK44 => ?_
       refine p_e rfl (e_lt rfl rfl) ?_
       refine p_end (hK44 _ ?_); clear hK44 K44
       refine pwp_seq_cond rfl fun K45 hK45 => ⟨fun hb46 => ?_, fun hb46 => ?_⟩
       ·have hb46R := hb46; try simp only [zz] at hb46
        obtain ⟨t, ht, hd2, ht2⟩ := get_lt (xs := l) (i := j) (by omega)
        have hti := ti_at htz ht
        obtain ⟨a, hax⟩ : ∃ a, g.along[t.standard.toNat]? = some a := ⟨_, List.getElem?_eq_getElem (by omega)⟩
        obtain ⟨c, hcx⟩ : ∃ c, g.levels[t.level.toNat]? = some c := ⟨_, List.getElem?_eq_getElem (by omega)⟩
        have hab1 := hab.1 a (List.mem_of_getElem? hax); have hab2 := hab.2 c (List.mem_of_getElem? hcx)
        have hd1 := ds_b hxb hab1; have hd3 := ds_b (x := z) (z := c) (by omega) (by omega)
        have hnb := nrA_b (f := (tdA g x z)) (l := l) (k := j) (fun i t _ hi => td_b hgz htz hxb (by omega) i t hi) (by omega)
        have hte : dsA x a + dsA z c = tdA g x z t := td_at hax hcx
        refine pwp_skip ?_
        refine seq_norm (hK45 _ ?_); clear hK45 K45
        refine pwp_seq_block fun K47 hK47 => ?_
        refine pwp_seq_plain rfl fun K48 hK48 => ?_
        refine p_mS rfl ?_
        refine p_e rfl (e_ixL rfl rfl) ?_
        refine p_e rfl (e_loadA (n := 2) rfl (by kernel_rfl) (by kernel_rfl) (by kernel_rfl) (by first | omega | (simp only [List.length_map]; omega)) (by decide) (by first | exact agg_map ht rfl)) ?_
        refine p_new rfl (e_alloc (cs := [.int 0, .int 0]) (n := 2) (by kernel_rfl) rfl (by decide)) (ob_alloc (by decide)) ?_
        refine p_aS rfl ?_
        refine p_store rfl (e_storeA rfl (hset_self _ _ _) rfl rfl rfl (by kernel_rfl) rfl (by kernel_rfl)) trivial ?_
        refine p_end (hK48 _ ?_); clear hK48 K48
        refine pwp_seq_gops rfl fun K49 hK49 => ?_
        refine g_begin ?_
        refine g_mS rfl rfl ?_
        refine g_e rfl (e_faQ pl3 rfl) ?_
        refine g_e rfl (e_lH (v := .lit _ _ _) rfl ((hset_ne (key_ne rfl)).trans ((hset_ne (key_ne rfl)).trans hihj43_0)) rfl) ?_
        refine g_e rfl (e_faQ pl2 rfl) ?_
        refine g_e rfl (e_lH (v := .sc _) rfl (hset_self _ _ _) rfl) ?_
        refine g_e rfl (e_ixL rfl rfl) ?_
        refine g_e rfl (e_load (v := .sc _) rfl (by kernel_rfl) (by kernel_rfl) (by kernel_rfl) (by first | omega | (simp only [List.length_map]; omega)) (by decide) ((cell_map hax _).trans rfl)) ?_
        refine g_call rfl rfl rfl rfl (.cons inn_sc (.cons inn_sc .nil)) (distC _ _ (by omega) (by omega)) ?_
        refine g_mS rfl rfl ?_
        refine g_e rfl (e_faQ pl3 rfl) ?_
        refine g_e rfl (e_lH (v := .lit _ _ _) rfl ((hset_ne (key_ne rfl)).trans ((hset_ne (key_ne rfl)).trans hihj43_0)) rfl) ?_
        refine g_e rfl (e_faQ pl2 rfl) ?_
        refine g_e rfl (e_lH (v := .sc _) rfl (hset_self _ _ _) rfl) ?_
        refine g_e rfl (e_ixL rfl rfl) ?_
        refine g_e rfl (e_load (v := .sc _) rfl (by kernel_rfl) (by kernel_rfl) (by kernel_rfl) (by first | omega | (simp only [List.length_map]; omega)) (by decide) ((cell_map hcx _).trans rfl)) ?_
        refine g_call rfl rfl rfl rfl (.cons inn_sc (.cons inn_sc .nil)) (distC _ _ (by omega) (by omega)) ?_
        refine g_e rfl (e_adL rfl rfl) ?_
        refine g_aS rfl rfl ?_
        refine g_end (ds := []) (by kernel_rfl) rfl (hK49 _ ?_); clear hK49 K49
        refine pwp_seq_gops rfl fun K50 hK50 => ?_
        refine g_begin ?_
        refine g_mS rfl rfl ?_
        refine g_e rfl (e_lt rfl rfl) ?_
        refine g_mS rfl rfl ?_
        refine g_cases (fun hb51 => ?_) (fun hb51 => ?_)
        ·have hb51R := hb51; try simp only [zz] at hb51
         iterate 3 refine g_skip rfl rfl rfl ?_
         refine g_pT rfl rfl rfl ?_
         refine g_end (ds := [104, 105, 106]) rfl rfl (hK50 _ ?_); clear hK50 K50
         refine pwp_cond (t := true) rfl (fun _ => ?_) nofun
         refine pwp_plain rfl fun K52 hK52 => ?_
         refine p_mS rfl ?_
         refine p_mS rfl ?_
         refine p_aS rfl ?_
         refine p_aS rfl ?_
         refine p_end (hK52 _ ?_); clear hK52 K52
         refine block_norm ?_
         refine seq_norm (hK47 _ ?_); clear hK47 K47
         refine pwp_plain rfl fun K53 hK53 => ?_
         refine p_e rfl (e_adL rfl rfl) ?_
         refine p_mS rfl ?_
         refine p_end (hK53 _ ?_); clear hK53 K53
         exact loop_again ((j + 1, (j : Int), ((dsA x a) + (dsA z c)))) (by show _ < _; simp only; omega) ⟨rfl, rfl, rfl, rfl, rfl, rfl, rfl, rfl, rfl, rfl, rfl, trivial⟩ ⟨rfl, rfl, rfl, trivial⟩ (by exact ⟨by show _ + 1 ≤ _; simp only [List.length_map] at *; omega, by dsimp only; first | exact nrO_t hnr ht hte hnb.1 (by omega) | exact nrO_f hnr ht hte (by omega) (by omega), ((hset_ne (key_ne rfl)).trans ((hset_ne (key_ne rfl)).trans hihj43_0)), ((hset_ne (key_ne rfl)).trans ((hset_ne (key_ne rfl)).trans hihj43_1))⟩)
        ·have hb51R := hb51; try simp only [zz] at hb51
         refine g_mS rfl rfl ?_
         refine g_mS rfl rfl ?_
         refine g_e rfl (e_lt rfl rfl) ?_
         refine g_pF rfl rfl rfl ?_
         refine g_end (ds := [104, 105, 106]) rfl rfl (hK50 _ ?_); clear hK50 K50
         refine pwp_cond rfl (fun hb54 => ?_) (fun hb54 => ?_)
         ·have hb54R := hb54; try simp only [zz] at hb54
          refine pwp_plain rfl fun K55 hK55 => ?_
          refine p_mS rfl ?_
          refine p_mS rfl ?_
          refine p_aS rfl ?_
          refine p_aS rfl ?_
          refine p_end (hK55 _ ?_); clear hK55 K55
          refine block_norm ?_
          refine seq_norm (hK47 _ ?_); clear hK47 K47
          refine pwp_plain rfl fun K56 hK56 => ?_
          refine p_e rfl (e_adL rfl rfl) ?_
          refine p_mS rfl ?_
          refine p_end (hK56 _ ?_); clear hK56 K56
          exact loop_again ((j + 1, (j : Int), ((dsA x a) + (dsA z c)))) (by show _ < _; simp only; omega) ⟨rfl, rfl, rfl, rfl, rfl, rfl, rfl, rfl, rfl, rfl, rfl, trivial⟩ ⟨rfl, rfl, rfl, trivial⟩ (by exact ⟨by show _ + 1 ≤ _; simp only [List.length_map] at *; omega, by dsimp only; first | exact nrO_t hnr ht hte hnb.1 (by omega) | exact nrO_f hnr ht hte (by omega) (by omega), ((hset_ne (key_ne rfl)).trans ((hset_ne (key_ne rfl)).trans hihj43_0)), ((hset_ne (key_ne rfl)).trans ((hset_ne (key_ne rfl)).trans hihj43_1))⟩)
         ·have hb54R := hb54; try simp only [zz] at hb54
          refine pwp_skip ?_
          refine block_norm ?_
          refine seq_norm (hK47 _ ?_); clear hK47 K47
          refine pwp_plain rfl fun K57 hK57 => ?_
          refine p_e rfl (e_adL rfl rfl) ?_
          refine p_mS rfl ?_
          refine p_end (hK57 _ ?_); clear hK57 K57
          exact loop_again ((j + 1, n, d)) (by show _ < _; simp only; omega) ⟨rfl, rfl, rfl, rfl, rfl, rfl, rfl, rfl, rfl, rfl, rfl, trivial⟩ ⟨rfl, rfl, rfl, trivial⟩ (by exact ⟨by show _ + 1 ≤ _; simp only [List.length_map] at *; omega, by dsimp only; first | exact nrO_t hnr ht hte hnb.1 (by omega) | exact nrO_f hnr ht hte (by omega) (by omega), ((hset_ne (key_ne rfl)).trans ((hset_ne (key_ne rfl)).trans hihj43_0)), ((hset_ne (key_ne rfl)).trans ((hset_ne (key_ne rfl)).trans hihj43_1))⟩)
       ·have hb46R := hb46; try simp only [zz] at hb46
        obtain rfl : j = l.length := by simp only [List.length_map] at *; omega
        have hnl := nrA_lt (f := (tdA g x z)) (l := l) hl1
        have hnn : n = ((nrA (tdA g x z) l l.length).1 : Int) := by first | exact hnr.1 | (have q := hnr.1; rw [if_neg (by omega)] at q; exact q)
        have hzl : zs.length = l.length := by rw [hzs, shA_len]
        obtain ⟨v0, hv0⟩ : ∃ v, zs[n.toNat]? = some v := ⟨_, List.getElem?_eq_getElem (by omega)⟩
        have hvb := shA_b hwz (g := g) (l := l) (i := k) (by omega) v0 (by rw [← hzs]; exact List.mem_of_getElem? hv0)
        refine pwp_exit ?_
        refine exit_seq ?_
        clear hK45 K45
        refine exit_loop ?_
        refine exit_here ?_
        refine seq_norm (hK38 _ ?_); clear hK38 K38
        refine pwp_plain rfl fun K58 hK58 => ?_
        refine p_e rfl (e_move (v := .ref _ _ _ _) rfl) ?_
        refine p_mS rfl ?_
        refine p_e rfl (e_ixaR0 rfl rfl (by kernel_rfl) (by kernel_rfl) (by omega)) ?_
        refine p_e rfl (e_loadI (a := v0) rfl hihj43_1 (by kernel_rfl) (by kernel_rfl) (by kernel_rfl) hv0) ?_
        refine p_mS rfl ?_
        refine p_e rfl (e_adL rfl rfl) ?_
        refine p_e rfl (e_ixaR0 rfl rfl (by kernel_rfl) (by kernel_rfl) (by omega)) ?_
        refine p_store rfl (e_storeI (zs := zs) (a := (v0 + f)) rfl hihj43_1 rfl (by omega) (by kernel_rfl) (by kernel_rfl)) trivial ?_
        refine p_end (hK58 _ ?_); clear hK58 K58
        refine block_norm ?_
        refine seq_norm (hK33 _ ?_); clear hK33 K33
        refine pwp_plain rfl fun K59 hK59 => ?_
        refine p_e rfl (e_adL rfl rfl) ?_
        refine p_mS rfl ?_
        refine p_end (hK59 _ ?_); clear hK59 K59
        exact loop_again ((k + 1, ((zs).set (n).toNat (v0 + f)))) (by show _ < _; simp only; omega) ⟨rfl, rfl, rfl, rfl, rfl, trivial⟩ ⟨rfl, trivial⟩ (by exact ⟨by show _ + 1 ≤ _; simp only [List.length_map] at *; omega, by rw [shA, ← hzs, nrF, gd0 hx, gd0 hz, gd0 hf, show (nrA (tdA g x z) l l.length).1 = n.toNat by omega, adA, gd0 hv0], ((hset_ne (key_ne rfl)).trans hihj43_0), (hset_self _ _ _)⟩)
      ·have hb32R := hb32; try simp only [zz] at hb32
       obtain rfl : k = w.length := by simp only [List.length_map] at *; omega
       refine pwp_exit ?_
       refine exit_seq ?_
       clear hK31 K31
       refine exit_loop ?_
       refine exit_here ?_
       refine seq_norm (hK24 _ ?_); clear hK24 K24
       refine pwp_seq_plain rfl fun K60 hK60 => ?_
       refine p_e rfl (e_move (v := .ref _ _ _ _) rfl) ?_
       refine p_e rfl (e_assign (v := .ref _ _ _ _) rfl) ?_
       refine p_aS rfl ?_
       refine p_end (hK60 _ ?_); clear hK60 K60
       refine pwp_ret ?_
       refine end2 (v := .ref _ _ _ _) (w := .sc _) rfl rfl ?_
       first
         | exact li_oe (shX_e (windE_g (by assumption)) (by assumption))
         | exact li_oe (shX_e (windE_t (by assumption) (by assumption)) (by assumption))
         | exact li_oe (shX_e (windE_s (by assumption) (by assumption) (by simp only [List.length_map] at *; omega)) (by decide))
         | exact li_oe (shX_e (windE_r (by assumption) (by assumption) (by simp only [List.length_map] at *; omega) (by assumption)) (by decide))
         | exact li_oe (shX_e (windE_n (by assumption) (by assumption) (by simp only [List.length_map] at *; omega) (by assumption) (by simp only [List.length_map] at *; omega)) (by decide))
         | exact li_o (SliceAt.ofRef hihj29_1 (by simp [hzs, shA_len])) (by rw [hzs, shX_0 hwe])

theorem fr9 : (inFrame Tryz.f9.ntmps (Tryz.f9.body.getD .skip) && Tryz.f9.results.toList.all (resScope Tryz.f9.ntmps)) = true := by kernel_rfl
theorem hSums (g : Grid) (l : List Tie) (w : List Int) (ha : g.along.length ≤ 9223372036854775807) (hb : g.levels.length ≤ 9223372036854775807) (hl : l.length ≤ 9223372036854775807) (hw : w.length ≤ 9223372036854775807) : PCalls Tryz.prog 9 [.agg g.enc, .lit true 2 (l.map Tie.enc), .lit true 1 (w.map ci)] (.bool true) := by
 refine PCalls.of_code Tryz.func9 rfl rfl (by kernel_rfl) mixed fr9 (by show _ ≤ 79; simp) (.sc _) ?_
 have hsx := shX_c g l w
 have hsxn : windE g l w = 0 ∨ ((shX g l w).1.length = 0) := by rcases shX_c g l w with ⟨_, e, _⟩ | ⟨e, _⟩ <;> first | exact .inl e | (rw [e]; exact .inr rfl)
 refine pwp_seq_plain rfl fun K1 hK1 => ?_
 refine p_new rfl (e_box (n := 3) rfl rfl) ⟨rfl, by decide⟩ ?_
 refine p_aS rfl ?_
 refine p_end (hK1 _ ?_); clear hK1 K1
 refine pwp_seq_seq ?_
 refine pwp_seq_plain rfl fun K2 hK2 => ?_
 refine p_call rfl .nil (awake) ?_
 refine p_e rfl (e_not rfl) ?_
 refine p_end (hK2 _ ?_); clear hK2 K2
 refine pwp_seq_cond (t := false) rfl fun K3 hK3 => ⟨nofun, fun _ => ?_⟩
 refine pwp_skip ?_
 refine seq_norm (hK3 _ ?_); clear hK3 K3
 refine pwp_seq_seq ?_
 refine pwp_seq_gops rfl fun K4 hK4 => ?_
 refine g_begin ?_
 refine g_e rfl (e_loadHA (cs := Grid.enc (g)) (n := 3) rfl (hset_self _ _ _) (by kernel_rfl) (by kernel_rfl) (by kernel_rfl) (by exact Nat.zero_lt_one) (by decide) rfl) ?_
 refine g_call rfl rfl rfl rfl (.cons (inn_agg (Grid.pure _)) .nil) (FewC g (by omega) (by omega)) ?_
 refine g_e rfl (e_not rfl) ?_
 refine g_mS rfl rfl ?_
 refine g_cases (fun hb5 => ?_) (fun hb5 => ?_)
 ·have hb5R := hb5; try simp only [zz] at hb5
  iterate 3 refine g_skip rfl rfl rfl ?_
  refine g_pT rfl rfl rfl ?_
  refine g_mS rfl rfl ?_
  iterate 3 refine g_skip rfl rfl rfl ?_
  refine g_pT rfl rfl rfl ?_
  refine g_end (ds := [19, 20, 21, 24, 25, 26]) rfl rfl (hK4 _ ?_); clear hK4 K4
  refine pwp_seq_cond (t := true) rfl fun K6 hK6 => ⟨fun _ => ?_, nofun⟩
  refine pwp_seq_plain rfl fun K7 hK7 => ?_
  refine p_aS rfl ?_
  refine p_end (hK7 _ ?_); clear hK7 K7
  refine pwp_ret ?_
  refine ret_seq ?_
  refine end1 (v := .sc _) rfl ?_
  first
    | exact out_b rfl
    | exact out_b (by rw [decide_eq_true_eq]; simp only [List.length_map] at *; omega)
    | (exfalso; simp only [List.length_map] at *; omega)
    | exact absurd hsl (by assumption)
    | (exfalso; simp_all; done)
 ·have hb5R := hb5; try simp only [zz] at hb5
  refine g_e rfl (e_move (v := .lit _ _ _) rfl) ?_
  refine g_e rfl (e_len rfl (by kernel_rfl)) ?_
  refine g_e rfl (e_gt rfl rfl) ?_
  refine g_pF rfl rfl rfl ?_
  refine g_mS rfl rfl ?_
  refine g_cases (fun hb8 => ?_) (fun hb8 => ?_)
  ·have hb8R := hb8; try simp only [zz] at hb8
   iterate 3 refine g_skip rfl rfl rfl ?_
   refine g_pT rfl rfl rfl ?_
   refine g_end (ds := [19, 20, 21, 24, 25, 26]) rfl rfl (hK4 _ ?_); clear hK4 K4
   refine pwp_seq_cond (t := true) rfl fun K9 hK9 => ⟨fun _ => ?_, nofun⟩
   refine pwp_seq_plain rfl fun K10 hK10 => ?_
   refine p_aS rfl ?_
   refine p_end (hK10 _ ?_); clear hK10 K10
   refine pwp_ret ?_
   refine ret_seq ?_
   refine end1 (v := .sc _) rfl ?_
   first
     | exact out_b rfl
     | exact out_b (by rw [decide_eq_true_eq]; simp only [List.length_map] at *; omega)
     | (exfalso; simp only [List.length_map] at *; omega)
     | exact absurd hsl (by assumption)
     | (exfalso; simp_all; done)
  ·have hb8R := hb8; try simp only [zz] at hb8
   refine g_e rfl (e_move (v := .lit _ _ _) rfl) ?_
   refine g_e rfl (e_len rfl (by kernel_rfl)) ?_
   refine g_e rfl (e_gt rfl rfl) ?_
   refine g_pF rfl rfl rfl ?_
   refine g_end (ds := [19, 20, 21, 24, 25, 26]) rfl rfl (hK4 _ ?_); clear hK4 K4
   refine pwp_seq_cond rfl fun K11 hK11 => ⟨fun hb12 => ?_, fun hb12 => ?_⟩
   ·have hb12R := hb12; try simp only [zz] at hb12
    refine pwp_seq_plain rfl fun K13 hK13 => ?_
    refine p_aS rfl ?_
    refine p_end (hK13 _ ?_); clear hK13 K13
    refine pwp_ret ?_
    refine ret_seq ?_
    refine end1 (v := .sc _) rfl ?_
    first
      | exact out_b rfl
      | exact out_b (by rw [decide_eq_true_eq]; simp only [List.length_map] at *; omega)
      | (exfalso; simp only [List.length_map] at *; omega)
      | exact absurd hsl (by assumption)
      | (exfalso; simp_all; done)
   ·have hb12R := hb12; try simp only [zz] at hb12
    refine pwp_skip ?_
    refine seq_norm (hK11 _ ?_); clear hK11 K11
    have hfw := few_t (g := g) (by first | assumption | simp_all)
    have hl2 : l.length ≤ 40 := by simp only [List.length_map] at *; omega
    have hw2 : w.length ≤ 100 := by simp only [List.length_map] at *; omega
    have hsn : (shX g l w).1.length ≤ 1000 := by rcases shX_c g l w with ⟨_, e, _⟩ | ⟨_, e, _⟩ <;> rw [e] <;> first | exact Nat.zero_le _ | (rw [shA_len]; omega)
    have hsq : (shA g l w w.length).length ≤ 1000 := by rw [shA_len]; omega
    refine pwp_seq_plain rfl fun K14 hK14 => ?_
    refine p_e rfl (e_loadHA (cs := Grid.enc (g)) (n := 3) rfl (hset_self _ _ _) (by kernel_rfl) (by kernel_rfl) (by kernel_rfl) (by exact Nat.zero_lt_one) (by decide) rfl) ?_
    refine p_e rfl (e_move (v := .lit _ _ _) rfl) ?_
    refine p_e rfl (e_move (v := .lit _ _ _) rfl) ?_
    refine p_call rfl (.cons (inn_agg (Grid.pure _)) (.cons inn_lit (.cons inn_lit .nil))) (SharesC g l w (by omega) (by omega) (by omega) (by omega)) ?_
    refine p_e rfl (e_move (v := .tup _) rfl) ?_
    refine p_e rfl (e_ext (v := .lit _ _ _) rfl (by simp) rfl) ?_
    refine p_e rfl (e_ext (v := .sc _) rfl (by simp) rfl) ?_
    refine p_e rfl (e_assign (v := .lit _ _ _) rfl) ?_
    refine p_aS rfl ?_
    refine p_end (hK14 _ ?_); clear hK14 K14
    refine pwp_seq_seq ?_
    refine pwp_seq_plain rfl fun K15 hK15 => ?_
    refine p_mS rfl ?_
    refine p_e rfl (e_ne rfl rfl) ?_
    refine p_end (hK15 _ ?_); clear hK15 K15
    refine pwp_seq_cond rfl fun K16 hK16 => ⟨fun hb17 => ?_, fun hb17 => ?_⟩
    ·have hb17R := hb17; try simp only [zz] at hb17
     refine pwp_seq_plain rfl fun K18 hK18 => ?_
     refine p_e rfl (e_move (v := .lit _ _ _) rfl) ?_
     refine p_e rfl (e_len rfl (by kernel_rfl)) ?_
     refine p_e rfl (e_eq rfl rfl) ?_
     refine p_aS rfl ?_
     refine p_end (hK18 _ ?_); clear hK18 K18
     refine pwp_ret ?_
     refine ret_seq ?_
     refine end1 (v := .sc _) rfl ?_
     first
       | exact out_b rfl
       | exact out_b (by rw [decide_eq_true_eq]; simp only [List.length_map] at *; omega)
       | (exfalso; simp only [List.length_map] at *; omega)
       | exact absurd hsl (by assumption)
       | (exfalso; simp_all; done)
    ·have hb17R := hb17; try simp only [zz] at hb17
     refine pwp_skip ?_
     refine seq_norm (hK16 _ ?_); clear hK16 K16
     have hwe : windE g l w = 0 := by omega
     obtain ⟨hgz, htz, hwl, hwz, hl1⟩ := windE_inv hwe
     have hwi := fun {y} => any_out (x := y) hwz
     have hsl : (shX g l w).1 = shA g l w w.length := by rw [shX_0 hwe]
     have hzn : (shX g l w).1.length = l.length := by rw [hsl, shA_len]
     have hzb : ∀ y ∈ (shX g l w).1, 0 ≤ y ∧ y ≤ 100000000 := fun y hy => by rw [hsl] at hy; have q := shA_b hwz (Nat.le_refl _) y hy; omega
     have hzs : (shX g l w).1.sum = w.sum := by rw [hsl, shA_sum hl1 (Nat.le_refl _), List.take_length]
     refine pwp_seq_plain rfl fun K19 hK19 => ?_
     refine p_aS rfl ?_
     refine p_aS rfl ?_
     refine p_end (hK19 _ ?_); clear hK19 K19
     refine pwp_seq_seq ?_
     refine pwp_seq_plain rfl fun K20 hK20 => ?_
     refine p_aS rfl ?_
     refine p_end (hK20 _ ?_); clear hK20 K20
     refine pwp_seq_block fun K21 hK21 => ?_
     refine pwp_loopR (α := Nat × Int) [1, 2, 7, 10] (fun (a22 : Nat × Int) => [(9, .int (a22.2)), (11, .int (a22.1))]) (fun (a22 : Nat × Int) (h : Heap) (_ : Nat → Nat) => ((a22.1) ≤ w.length) ∧ ((a22.2) = (w.take (a22.1)).sum)) (fun (a22 : Nat × Int) => w.length - (a22.1)) (0, 0) (by exact ⟨rfl, rfl, trivial⟩) (by exact ⟨by exact Nat.zero_le _, by exact rfl⟩) fun a22 r23 h24 c25 hj26 => ?_
     obtain ⟨k, s⟩ := a22
     obtain ⟨hk, hs⟩ := hj26
     try dsimp only at hk
     try dsimp only at hs
     show pwp _ _ (loopQ _ _ _) ⟨sets (mix _ _ _) [(9, .int s), (11, .int k)], _, _⟩
     refine pwp_seq_seq ?_
     refine pwp_seq_plain rfl fun K27 hK27 => ?_
     refine p_mS rfl ?_
     refine p_e rfl (e_move (v := .lit _ _ _) rfl) ?_
     refine p_e rfl (e_len rfl (by kernel_rfl)) ?_
     refine p_e rfl (e_lt rfl rfl) ?_
     refine p_end (hK27 _ ?_); clear hK27 K27
     refine pwp_seq_cond rfl fun K28 hK28 => ⟨fun hb29 => ?_, fun hb29 => ?_⟩
     ·have hb29R := hb29; try simp only [zz] at hb29
      obtain ⟨x, hx, hd, ht⟩ := get_lt (xs := w) (i := k) (by omega)
      have hxb := hwi (List.mem_of_getElem? hx)
      have hsb := tsum_b (k := k) (fun y hy => hwi hy) (by omega) (by omega)
      refine pwp_skip ?_
      refine seq_norm (hK28 _ ?_); clear hK28 K28
      refine pwp_seq_block fun K30 hK30 => ?_
      refine pwp_plain rfl fun K31 hK31 => ?_
      refine p_mS rfl ?_
      refine p_e rfl (e_move (v := .lit _ _ _) rfl) ?_
      refine p_mS rfl ?_
      refine p_e rfl (e_ixL rfl rfl) ?_
      refine p_e rfl (e_load (v := .sc _) rfl (by kernel_rfl) (by kernel_rfl) (by kernel_rfl) (by first | omega | (simp only [List.length_map]; omega)) (by decide) ((cell_map hx _).trans rfl)) ?_
      refine p_e rfl (e_adL rfl rfl) ?_
      refine p_aS rfl ?_
      refine p_end (hK31 _ ?_); clear hK31 K31
      refine block_norm ?_
      refine seq_norm (hK30 _ ?_); clear hK30 K30
      refine pwp_plain rfl fun K32 hK32 => ?_
      refine p_mS rfl ?_
      refine p_e rfl (e_adL rfl rfl) ?_
      refine p_aS rfl ?_
      refine p_end (hK32 _ ?_); clear hK32 K32
      exact loop_again ((k + 1, (s + x))) (by show _ < _; simp only; omega) ⟨rfl, rfl, rfl, rfl, trivial⟩ ⟨rfl, rfl, trivial⟩ (by exact ⟨by show _ + 1 ≤ _; simp only [List.length_map] at *; omega, by rw [take_sum hx, hs]⟩)
     ·have hb29R := hb29; try simp only [zz] at hb29
      obtain rfl : k = w.length := by simp only [List.length_map] at *; omega
      rw [List.take_length] at hs
      refine pwp_exit ?_
      refine exit_seq ?_
      clear hK28 K28
      refine exit_loop ?_
      refine exit_here ?_
      refine seq_norm (hK21 _ ?_); clear hK21 K21
      refine pwp_seq_seq ?_
      refine pwp_seq_plain rfl fun K33 hK33 => ?_
      refine p_aS rfl ?_
      refine p_end (hK33 _ ?_); clear hK33 K33
      refine pwp_seq_block fun K34 hK34 => ?_
      refine pwp_loopR (α := Nat × Int) [1, 7, 9] (fun (a35 : Nat × Int) => [(10, .int (a35.2)), (12, .int (a35.1))]) (fun (a35 : Nat × Int) (h : Heap) (_ : Nat → Nat) => ((a35.1) ≤ (shX g l w).1.length) ∧ ((a35.2) = ((shX g l w).1.take (a35.1)).sum)) (fun (a35 : Nat × Int) => (shX g l w).1.length - (a35.1)) (0, 0) (by exact ⟨rfl, rfl, trivial⟩) (by exact ⟨by exact Nat.zero_le _, by exact rfl⟩) fun a35 r36 h37 c38 hj39 => ?_
      obtain ⟨j, u⟩ := a35
      obtain ⟨hj, hu⟩ := hj39
      try dsimp only at hj
      try dsimp only at hu
      show pwp _ _ (loopQ _ _ _) ⟨sets (mix _ _ _) [(10, .int u), (12, .int j)], _, _⟩
      refine pwp_seq_seq ?_
      refine pwp_seq_plain rfl fun K40 hK40 => ?_
      refine p_mS rfl ?_
      refine p_e rfl (e_move (v := .lit _ _ _) rfl) ?_
      refine p_e rfl (e_len rfl (by kernel_rfl)) ?_
      refine p_e rfl (e_lt rfl rfl) ?_
      refine p_end (hK40 _ ?_); clear hK40 K40
      refine pwp_seq_cond rfl fun K41 hK41 => ⟨fun hb42 => ?_, fun hb42 => ?_⟩
      ·have hb42R := hb42; try simp only [zz] at hb42
       obtain ⟨y, hy, hd, ht⟩ := get_lt (xs := (shX g l w).1) (i := j) (by omega)
       have hyb := hzb y (List.mem_of_getElem? hy)
       have hub := tsum_b (k := j) hzb (by omega) (by omega)
       refine pwp_skip ?_
       refine seq_norm (hK41 _ ?_); clear hK41 K41
       refine pwp_seq_block fun K43 hK43 => ?_
       refine pwp_seq_seq ?_
       refine pwp_seq_plain rfl fun K44 hK44 => ?_
       refine p_e rfl (e_move (v := .lit _ _ _) rfl) ?_
       refine p_mS rfl ?_
       refine p_e rfl (e_ixL rfl rfl) ?_
       refine p_e rfl (e_load (v := .sc _) rfl (by kernel_rfl) (by kernel_rfl) (by kernel_rfl) (by first | omega | (simp only [List.length_map]; omega)) (by decide) ((cell_map hy _).trans rfl)) ?_
       refine p_e rfl (e_lt rfl rfl) ?_
       refine p_end (hK44 _ ?_); clear hK44 K44
       refine pwp_seq_cond rfl fun K45 hK45 => ⟨fun hb46 => ?_, fun hb46 => ?_⟩
       ·have hb46R := hb46; try simp only [zz] at hb46
        refine pwp_seq_plain rfl fun K47 hK47 => ?_
        refine p_aS rfl ?_
        refine p_end (hK47 _ ?_); clear hK47 K47
        refine pwp_ret ?_
        refine ret_seq ?_
        refine ret_block ?_
        refine ret_seq ?_
        refine ret_loop ?_
        refine ret_block ?_
        refine ret_seq ?_
        refine end1 (v := .sc _) rfl ?_
        first
          | exact out_b rfl
          | exact out_b (by rw [decide_eq_true_eq]; simp only [List.length_map] at *; omega)
          | (exfalso; simp only [List.length_map] at *; omega)
          | exact absurd hsl (by assumption)
          | (exfalso; simp_all; done)
       ·have hb46R := hb46; try simp only [zz] at hb46
        refine pwp_skip ?_
        refine seq_norm (hK45 _ ?_); clear hK45 K45
        refine pwp_plain rfl fun K48 hK48 => ?_
        refine p_mS rfl ?_
        refine p_e rfl (e_move (v := .lit _ _ _) rfl) ?_
        refine p_mS rfl ?_
        refine p_e rfl (e_ixL rfl rfl) ?_
        refine p_e rfl (e_load (v := .sc _) rfl (by kernel_rfl) (by kernel_rfl) (by kernel_rfl) (by first | omega | (simp only [List.length_map]; omega)) (by decide) ((cell_map hy _).trans rfl)) ?_
        refine p_e rfl (e_adL rfl rfl) ?_
        refine p_aS rfl ?_
        refine p_end (hK48 _ ?_); clear hK48 K48
        refine block_norm ?_
        refine seq_norm (hK43 _ ?_); clear hK43 K43
        refine pwp_plain rfl fun K49 hK49 => ?_
        refine p_mS rfl ?_
        refine p_e rfl (e_adL rfl rfl) ?_
        refine p_aS rfl ?_
        refine p_end (hK49 _ ?_); clear hK49 K49
        exact loop_again ((j + 1, (u + y))) (by show _ < _; simp only; omega) ⟨rfl, rfl, rfl, trivial⟩ ⟨rfl, rfl, trivial⟩ (by exact ⟨by show _ + 1 ≤ _; simp only [List.length_map] at *; omega, by rw [take_sum hy, hu]⟩)
      ·have hb42R := hb42; try simp only [zz] at hb42
       obtain rfl : j = (shX g l w).1.length := by simp only [List.length_map] at *; omega
       rw [List.take_length] at hu
       refine pwp_exit ?_
       refine exit_seq ?_
       clear hK41 K41
       refine exit_loop ?_
       refine exit_here ?_
       refine seq_norm (hK34 _ ?_); clear hK34 K34
       refine pwp_seq_gops rfl fun K50 hK50 => ?_
       refine g_begin ?_
       refine g_e rfl (e_move (v := .lit _ _ _) rfl) ?_
       refine g_e rfl (e_len rfl (by kernel_rfl)) ?_
       refine g_e rfl (e_move (v := .lit _ _ _) rfl) ?_
       refine g_e rfl (e_len rfl (by kernel_rfl)) ?_
       refine g_e rfl (e_eq rfl rfl) ?_
       refine g_mS rfl rfl ?_
       refine g_cases (fun hb51 => ?_) (fun hb51 => ?_)
       ·have hb51R := hb51; try simp only [zz] at hb51
        refine g_mS rfl rfl ?_
        refine g_mS rfl rfl ?_
        refine g_e rfl (e_eq rfl rfl) ?_
        refine g_pT rfl rfl rfl ?_
        refine g_aS rfl rfl ?_
        refine g_end (ds := [75, 76, 77]) rfl rfl (hK50 _ ?_); clear hK50 K50
        refine pwp_ret ?_
        refine end1 (v := .sc _) rfl ?_
        first
          | exact out_b rfl
          | exact out_b (by rw [decide_eq_true_eq]; simp only [List.length_map] at *; omega)
          | (exfalso; simp only [List.length_map] at *; omega)
          | exact absurd hsl (by assumption)
          | (exfalso; simp_all; done)
       ·have hb51R := hb51; try simp only [zz] at hb51
        iterate 3 refine g_skip rfl rfl rfl ?_
        refine g_pF rfl rfl rfl ?_
        refine g_aS rfl rfl ?_
        refine g_end (ds := [75, 76, 77]) rfl rfl (hK50 _ ?_); clear hK50 K50
        refine pwp_ret ?_
        refine end1 (v := .sc _) rfl ?_
        first
          | exact out_b rfl
          | exact out_b (by rw [decide_eq_true_eq]; simp only [List.length_map] at *; omega)
          | (exfalso; simp only [List.length_map] at *; omega)
          | exact absurd hsl (by assumption)
          | (exfalso; simp_all; done)

end Go.Proofs.YtindehoegfiiaaaGreatDoor
