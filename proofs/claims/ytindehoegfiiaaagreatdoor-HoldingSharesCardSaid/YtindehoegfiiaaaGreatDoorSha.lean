/- Shares of the wind. No conditions. -/
import Derived.Test.YtindehoegfiiaaaGreatDoorTis
set_option linter.unusedSimpArgs false
set_option linter.unusedVariables false
set_option maxRecDepth 100000
namespace Go.Proofs.YtindehoegfiiaaaGreatDoor
open Go Go.Pv
/-! ### Shares of the wind -/
def dsA (a b : Int) : Int := max (a - b) (b - a)
def tdA (g : Grid) (x z : Int) (t : Tie) : Int := dsA x (g.along.getD t.standard.toNat 0) + dsA z (g.levels.getD t.level.toNat 0)
def nrA (f : Tie → Int) (l : List Tie) : Nat → Nat × Int
 | 0 => (0, 0)
 | k + 1 => if k = 0 ∨ f (l.getD k default) < (nrA f l k).2 then (k, f (l.getD k default)) else nrA f l k
def nrF (g : Grid) (l : List Tie) (i : Nat) : Nat := (nrA (tdA g (g.along.getD (i / g.levels.length) 0) (g.levels.getD (i % g.levels.length) 0)) l l.length).1
def adA (o : List Int) (n : Nat) (v : Int) : List Int := o.set n (o.getD n 0 + v)
def shA (g : Grid) (l : List Tie) (w : List Int) : Nat → List Int
 | 0 => List.replicate l.length 0
 | i + 1 => adA (shA g l w i) (nrF g l i) (w.getD i 0)
def windE (g : Grid) (l : List Tie) (w : List Int) : Int :=
 if gridE g ≠ 0 then gridE g else if tiesE g l ≠ 0 then tiesE g l else if (w.length : Int) ≠ (g.along.length : Int) * (g.levels.length : Int) then 11
 else if w.any (outB 0 1000000) = true then 2 else if l.length = 0 then 27 else 0
def shX (g : Grid) (l : List Tie) (w : List Int) : List Int × Int := if windE g l w ≠ 0 then ([], windE g l w) else (shA g l w w.length, 0)
section
variable {f : Tie → Int} {l : List Tie} {k i n : Nat} {t : Tie} {g : Grid} {w o : List Int} {v x z b : Int}
theorem nrA_lt : ∀ {k : Nat}, 1 ≤ k → (nrA f l k).1 < k
 | k + 1, _ => by
   rw [nrA]
   split
   · exact Nat.lt_succ_self k
   · rename_i h
     have := nrA_lt (k := k) (by omega)
     omega
theorem nrA_t (ht : l[k]? = some t) (h : k = 0 ∨ f t < (nrA f l k).2) : nrA f l (k + 1) = (k, f t) := by rw [nrA, ts_x ht, if_pos h]
theorem nrA_f (ht : l[k]? = some t) (h : ¬ (k = 0 ∨ f t < (nrA f l k).2)) : nrA f l (k + 1) = nrA f l k := by rw [nrA, ts_x ht, if_neg h]
theorem ds_b (hx : -1000000 ≤ x ∧ x ≤ 1000000) (hz : -1000000 ≤ z ∧ z ≤ 1000000) : 0 ≤ dsA x z ∧ dsA x z ≤ 2000000 := by rw [dsA]; omega
theorem nrA_b (h : ∀ i t, i < k → l[i]? = some t → 0 ≤ f t ∧ f t ≤ 4000000) (hk : k ≤ l.length) : 0 ≤ (nrA f l k).2 ∧ (nrA f l k).2 ≤ 4000000 := by
 induction k with
 | zero => rw [nrA]; omega
 | succ k ih =>
   have ht : l[k]? = some (l.getD k default) := by rw [List.getD_eq_getElem?_getD, List.getElem?_eq_getElem (by omega)]; rfl
   rw [nrA]
   split
   · exact h k _ (by omega) ht
   · exact ih (fun i t hi => h i t (by omega)) (by omega)
theorem adA_len : (adA o n v).length = o.length := by rw [adA, List.length_set]
theorem shA_len : (shA g l w i).length = l.length := by
 induction i with
 | zero => rw [shA, List.length_replicate]
 | succ i ih => rw [shA, adA_len, ih]
theorem adA_b {b c : Int} (h : ∀ y ∈ o, 0 ≤ y ∧ y ≤ b) (hv : 0 ≤ v ∧ v ≤ c) (hb : 0 ≤ b) : ∀ y ∈ adA o n v, 0 ≤ y ∧ y ≤ b + c := fun y hy => by
 rw [adA] at hy
 have hd : 0 ≤ o.getD n 0 ∧ o.getD n 0 ≤ b := by
   rw [List.getD_eq_getElem?_getD]
   by_cases q : n < o.length
   · rw [List.getElem?_eq_getElem q]; exact h _ (List.getElem_mem q)
   · rw [List.getElem?_eq_none (by omega)]; exact ⟨Int.le_refl _, hb⟩
 rcases List.mem_or_eq_of_mem_set hy with q | rfl
 · have := h y q; omega
 · omega
theorem any_out {lo hi : Int} (h : w.any (outB lo hi) = false) (hx : x ∈ w) : lo ≤ x ∧ x ≤ hi := by
 rw [List.any_eq_false] at h
 have q := h x hx
 rw [outB, Bool.not_eq_true, Bool.not_eq_false', decide_eq_true_eq] at q
 exact q
theorem shA_b (hw : w.any (outB 0 1000000) = false) : ∀ {i : Nat}, i ≤ w.length → ∀ y ∈ shA g l w i, 0 ≤ y ∧ y ≤ 1000000 * (i : Int)
 | 0, _, y, hy => by
   rw [shA] at hy
   obtain ⟨_, rfl⟩ := List.mem_replicate.1 hy
   omega
 | i + 1, hi, y, hy => by
   rw [shA] at hy
   have hx : w.getD i 0 ∈ w := by rw [List.getD_eq_getElem?_getD, List.getElem?_eq_getElem (by omega)]; exact List.getElem_mem _
   have := adA_b (shA_b hw (by omega)) (any_out hw hx) (by omega) y hy
   omega
theorem ix_div {k m : Nat} : ((k : Int) / (m : Int)).toNat = k / m := by rw [← Int.natCast_ediv, Int.toNat_natCast]
theorem ix_mod {k m : Nat} : ((k : Int) % (m : Int)).toNat = k % m := by rw [← Int.natCast_emod, Int.toNat_natCast]
theorem abs_ds : dsA (x - z) 0 = dsA x z := by rw [dsA, dsA]; omega
theorem ds_abs : dsA x 0 = if x < 0 then -x else x := by rw [dsA]; split <;> omega
theorem windE_g (h : gridE g ≠ 0) : windE g l w = gridE g := by rw [windE, if_pos h]
theorem windE_t (h : gridE g = 0) (h1 : tiesE g l ≠ 0) : windE g l w = tiesE g l := by rw [windE, if_neg (fun q => q h), if_pos h1]
theorem windE_s (h : gridE g = 0) (h1 : tiesE g l = 0) (h2 : ¬ (w.length : Int) = (g.along.length : Int) * (g.levels.length : Int)) : windE g l w = 11 := by
 rw [windE, if_neg (fun q => q h), if_neg (fun q => q h1), if_pos h2]
theorem windE_r (h : gridE g = 0) (h1 : tiesE g l = 0) (h2 : (w.length : Int) = (g.along.length : Int) * (g.levels.length : Int)) (h3 : w.any (outB 0 1000000) = true) : windE g l w = 2 := by
 rw [windE, if_neg (fun q => q h), if_neg (fun q => q h1), if_neg (fun q => q h2), if_pos h3]
theorem windE_n (h : gridE g = 0) (h1 : tiesE g l = 0) (h2 : (w.length : Int) = (g.along.length : Int) * (g.levels.length : Int)) (h3 : w.any (outB 0 1000000) = false) (h4 : l.length = 0) : windE g l w = 27 := by
 rw [windE, if_neg (fun q => q h), if_neg (fun q => q h1), if_neg (fun q => q h2), if_neg (by rw [h3]; decide), if_pos h4]
theorem windE_0 (h : gridE g = 0) (h1 : tiesE g l = 0) (h2 : (w.length : Int) = (g.along.length : Int) * (g.levels.length : Int)) (h3 : w.any (outB 0 1000000) = false) (h4 : ¬ l.length = 0) : windE g l w = 0 := by
 rw [windE, if_neg (fun q => q h), if_neg (fun q => q h1), if_neg (fun q => q h2), if_neg (by rw [h3]; decide), if_neg h4]
theorem windE_inv (h : windE g l w = 0) : gridE g = 0 ∧ tiesE g l = 0 ∧ (w.length : Int) = (g.along.length : Int) * (g.levels.length : Int) ∧ w.any (outB 0 1000000) = false ∧ 1 ≤ l.length := by
 by_cases h1 : gridE g = 0
 · by_cases h2 : tiesE g l = 0
   · by_cases h3 : (w.length : Int) = (g.along.length : Int) * (g.levels.length : Int)
     · cases h4 : w.any (outB 0 1000000) with
       | false =>
         by_cases h5 : l.length = 0
         · rw [windE_n h1 h2 h3 h4 h5] at h; cases h
         · exact ⟨h1, h2, h3, rfl, by omega⟩
       | true => rw [windE_r h1 h2 h3 h4] at h; cases h
     · rw [windE_s h1 h2 h3] at h; cases h
   · rw [windE_t h1 h2] at h; exact absurd h h2
 · rw [windE_g h1] at h; exact absurd h h1
theorem shX_e {e : Int} (h : windE g l w = e) (he : e ≠ 0) : shX g l w = ([], e) := by subst h; rw [shX, if_pos he]
theorem shX_0 (h : windE g l w = 0) : shX g l w = (shA g l w w.length, 0) := by rw [shX, if_neg (fun q => q h)]
theorem shX_c (g : Grid) (l : List Tie) (w : List Int) : (windE g l w ≠ 0 ∧ (shX g l w).1 = [] ∧ (shX g l w).2 = windE g l w) ∨ (windE g l w = 0 ∧ (shX g l w).1 = shA g l w w.length ∧ (shX g l w).2 = 0) := by
 by_cases h : windE g l w = 0
 · rw [shX_0 h]; exact .inr ⟨h, rfl, rfl⟩
 · rw [shX_e rfl h]; exact .inl ⟨h, rfl, rfl⟩
theorem al_b (h : gridE g = 0) : (∀ y ∈ g.along, -1000000 ≤ y ∧ y ≤ 1000000) ∧ (∀ y ∈ g.levels, 1 ≤ y ∧ y ≤ 1000000) := by
 obtain ⟨h1, h2⟩ := grd_shape h
 cases h3 : g.along.any (outB (-1000000) 1000000) with
 | true => rw [← grd_2a h1 h2 h3] at h; cases h
 | false =>
   cases h4 : g.levels.any (outB 1 1000000) with
   | true => rw [← grd_2l h1 h2 h3 h4] at h; cases h
   | false => exact ⟨fun y hy => any_out h3 hy, fun y hy => any_out h4 hy⟩
theorem gd0 {l : List Int} {i : Nat} (h : l[i]? = some x) : l.getD i 0 = x := by rw [List.getD_eq_getElem?_getD, h]; rfl
/-- the distance of a tie of the list lies in bounds -/
theorem td_b (h : gridE g = 0) (ht : tiesE g l = 0) (hx : -1000000 ≤ x ∧ x ≤ 1000000) (hz : -1000000 ≤ z ∧ z ≤ 1000000) (i : Nat) (t : Tie) (hi : l[i]? = some t) : 0 ≤ tdA g x z t ∧ tdA g x z t ≤ 4000000 := by
 have h1 := ti_at ht hi
 have ⟨h2, h3⟩ := al_b h
 have ha : g.along.getD t.standard.toNat 0 ∈ g.along := by rw [List.getD_eq_getElem?_getD, List.getElem?_eq_getElem (by omega)]; exact List.getElem_mem _
 have hb : g.levels.getD t.level.toNat 0 ∈ g.levels := by rw [List.getD_eq_getElem?_getD, List.getElem?_eq_getElem (by omega)]; exact List.getElem_mem _
 have h4 := ds_b hx (h2 _ ha)
 have h5 := h3 _ hb
 have h6 := ds_b hz (z := g.levels.getD t.level.toNat 0) (by omega)
 rw [tdA]; omega
theorem td_at {a c : Int} (ha : g.along[t.standard.toNat]? = some a) (hc : g.levels[t.level.toNat]? = some c) : dsA x a + dsA z c = tdA g x z t := by rw [tdA, gd0 ha, gd0 hc]
/-- the nearest tie so far: its place and its distance, the way each side keeps them -/
abbrev NrO (f : Tie → Int) (l : List Tie) (k : Nat) (n d : Int) : Prop := n = ((nrA f l k).1 : Int) ∧ d = if k = 0 then -1 else (nrA f l k).2
abbrev NrR (f : Tie → Int) (l : List Tie) (k : Nat) (n d : Int) : Prop := (n = if k = 0 then -1 else ((nrA f l k).1 : Int)) ∧ d = (nrA f l k).2
theorem nrO_t {n d e : Int} (h : NrO f l k n d) (ht : l[k]? = some t) (he : e = f t) (hb : 0 ≤ (nrA f l k).2) (hc : d < 0 ∨ e < d) : NrO f l (k + 1) (k : Int) e := by
 have : k = 0 ∨ f t < (nrA f l k).2 := by
   by_cases q : k = 0
   · exact .inl q
   · have := h.2; rw [if_neg q] at this; exact .inr (by omega)
 rw [NrO, nrA_t ht this]; exact ⟨rfl, by rw [if_neg (by omega)]; exact he⟩
theorem nrO_f {n d e : Int} (h : NrO f l k n d) (ht : l[k]? = some t) (he : e = f t) (hc : 0 ≤ d) (hc2 : d ≤ e) : NrO f l (k + 1) n d := by
 have hk : ¬ k = 0 := fun q => by have := h.2; rw [if_pos q] at this; omega
 have h2 := h.2; rw [if_neg hk] at h2
 have : ¬ (k = 0 ∨ f t < (nrA f l k).2) := by omega
 rw [NrO, nrA_f ht this]; exact ⟨h.1, by rw [if_neg (by omega)]; exact h2⟩
theorem nrR_t {n d e : Int} (h : NrR f l k n d) (ht : l[k]? = some t) (he : e = f t) (hc : n < 0 ∨ e < d) : NrR f l (k + 1) (k : Int) e := by
 have : k = 0 ∨ f t < (nrA f l k).2 := by
   by_cases q : k = 0
   · exact .inl q
   · have := h.1; have h2 := h.2; rw [if_neg q] at this; exact .inr (by omega)
 rw [NrR, nrA_t ht this]; exact ⟨by rw [if_neg (by omega)], he⟩
theorem nrR_f {n d e : Int} (h : NrR f l k n d) (ht : l[k]? = some t) (he : e = f t) (hc : 0 ≤ n) (hc2 : d ≤ e) : NrR f l (k + 1) n d := by
 have hk : ¬ k = 0 := fun q => by have := h.1; rw [if_pos q] at this; omega
 have h1 := h.1; rw [if_neg hk] at h1
 have h2 := h.2
 have : ¬ (k = 0 ∨ f t < (nrA f l k).2) := by omega
 rw [NrR, nrA_f ht this]; exact ⟨by rw [if_neg (by omega)]; exact h1, h2⟩
theorem flat_lt {k r A M : Nat} (hk : k < A) (hr : r < M) : k * M + r < A * M := by
 have h1 : (k + 1) * M ≤ A * M := Nat.mul_le_mul_right M hk
 rw [Nat.add_mul, Nat.one_mul] at h1
 omega
theorem flat_div {k r M : Nat} (hr : r < M) : (k * M + r) / M = k := by
 rw [Nat.mul_comm, Nat.mul_add_div (by omega), Nat.div_eq_of_lt hr, Nat.add_zero]
theorem flat_mod {k r M : Nat} (hr : r < M) : (k * M + r) % M = r := by
 rw [Nat.mul_comm, Nat.mul_add_mod, Nat.mod_eq_of_lt hr]
def strB (r : Rule) (n : Int) : Bool := decide (r.strength < n)
def ancX (g : Grid) (r : Rule) (l : List Tie) (w : List Int) : Int × Int :=
 if gridE g ≠ 0 then (0, gridE g) else if ruleE r ≠ 0 then (0, ruleE r) else if windE g l w ≠ 0 then (0, windE g l w) else (ixA (strB r) (shA g l w w.length), 0)
theorem anc_c (g : Grid) (r : Rule) (l : List Tie) (w : List Int) : (gridE g ≠ 0 ∧ (ancX g r l w).1 = 0 ∧ (ancX g r l w).2 = gridE g) ∨ (gridE g = 0 ∧ ruleE r ≠ 0 ∧ (ancX g r l w).1 = 0 ∧ (ancX g r l w).2 = ruleE r) ∨
   (gridE g = 0 ∧ ruleE r = 0 ∧ windE g l w ≠ 0 ∧ (ancX g r l w).1 = 0 ∧ (ancX g r l w).2 = windE g l w) ∨
   (gridE g = 0 ∧ ruleE r = 0 ∧ windE g l w = 0 ∧ (ancX g r l w).1 = ixA (strB r) (shA g l w w.length) ∧ (ancX g r l w).2 = 0) := by
 by_cases h : gridE g = 0
 · by_cases h1 : ruleE r = 0
   · by_cases h2 : windE g l w = 0
     · refine .inr (.inr (.inr ⟨h, h1, h2, ?_⟩))
       rw [ancX, if_neg (fun q => q h), if_neg (fun q => q h1), if_neg (fun q => q h2)]; exact ⟨rfl, rfl⟩
     · refine .inr (.inr (.inl ⟨h, h1, h2, ?_⟩))
       rw [ancX, if_neg (fun q => q h), if_neg (fun q => q h1), if_pos h2]; exact ⟨rfl, rfl⟩
   · refine .inr (.inl ⟨h, h1, ?_⟩)
     rw [ancX, if_neg (fun q => q h), if_pos h1]; exact ⟨rfl, rfl⟩
 · refine .inl ⟨h, ?_⟩
   rw [ancX, if_pos h]; exact ⟨rfl, rfl⟩
def rule0 : Rule := ⟨4000, 2000, 1, 100, 5000⟩
theorem rule0_ok : ruleE rule0 = 0 := by decide
theorem few_t {g : Grid} (h : fewB g = true) : g.along.length ≤ 100 ∧ g.levels.length ≤ 100 ∧ (g.along.length ≤ 6 ∧ g.levels.length ≤ 6 ∨ gridE g ≠ 0) := of_decide_eq_true h
theorem one_pure (r : Rule) : ∀ row ∈ [Rule.enc r], ∀ p ∈ row, Pure p := fun row hr => pure_map (xs := [r]) Rule.pure row hr
theorem anc_f {r : Rule} (hr : ruleE r = 0) : (windE g l w ≠ 0 ∧ (ancX g r l w).1 = 0 ∧ (ancX g r l w).2 = windE g l w) ∨ (windE g l w = 0 ∧ (ancX g r l w).1 = ixA (strB r) (shA g l w w.length) ∧ (ancX g r l w).2 = 0) := by
 rcases anc_c g r l w with ⟨h, h1, h2⟩ | ⟨_, h, _⟩ | ⟨_, _, h, h1, h2⟩ | ⟨_, _, h, h1, h2⟩
 · rw [windE_g h]; exact .inl ⟨h, h1, h2⟩
 · exact absurd hr h
 · exact .inl ⟨h, h1, h2⟩
 · exact .inr ⟨h, h1, h2⟩
end

theorem fr87 : (inFrame Tryz.f87.ntmps (Tryz.f87.body.getD .skip) && Tryz.f87.results.toList.all (resScope Tryz.f87.ntmps)) = true := by kernel_rfl
theorem outW (z : Int) : PCalls Tryz.prog 87 [.int z] (.bool (outB 0 1000000 z)) := by
 refine PCalls.of_code Tryz.func87 rfl rfl (by kernel_rfl) mixed fr87 (by show _ ≤ 6; simp) (.sc _) ?_
 refine pwp_seq_plain rfl fun K1 hK1 => ?_
 refine p_aS rfl ?_
 refine p_end (hK1 _ ?_); clear hK1 K1
 refine pwp_seq_plain rfl fun K2 hK2 => ?_
 refine p_mS rfl ?_
 refine p_call rfl (.cons inn_sc (.cons inn_sc (.cons inn_sc .nil))) (within _ _ _) ?_
 refine p_e rfl (e_not rfl) ?_
 refine p_aS rfl ?_
 refine p_end (hK2 _ ?_); clear hK2 K2
 refine pwp_ret ?_
 refine end1 (v := .sc _) rfl ?_
 exact out_b (by rw [outB])

theorem fr88 : (inFrame Tryz.f88.ntmps (Tryz.f88.body.getD .skip) && Tryz.f88.results.toList.all (resScope Tryz.f88.ntmps)) = true := by kernel_rfl
theorem distC (a b : Int) (ha : -3000000 ≤ a ∧ a ≤ 3000000) (hb : -3000000 ≤ b ∧ b ≤ 3000000) : PCalls Tryz.prog 88 [.int a, .int b] (.int (dsA a b)) := by
 refine PCalls.of_code Tryz.func88 rfl rfl (by kernel_rfl) mixed fr88 (by show _ ≤ 12; simp) (.sc _) ?_
 refine pwp_seq_plain rfl fun K1 hK1 => ?_
 refine p_aS rfl ?_
 refine p_end (hK1 _ ?_); clear hK1 K1
 refine pwp_seq_plain rfl fun K2 hK2 => ?_
 refine p_mS rfl ?_
 refine p_mS rfl ?_
 refine p_e rfl (e_sub rfl rfl (by first | omega | (simp only [List.length_map] at *; omega))) ?_
 refine p_mS rfl ?_
 refine p_mS rfl ?_
 refine p_e rfl (e_sub rfl rfl (by first | omega | (simp only [List.length_map] at *; omega))) ?_
 refine p_e rfl (e_max rfl rfl) ?_
 refine p_aS rfl ?_
 refine p_end (hK2 _ ?_); clear hK2 K2
 refine pwp_ret ?_
 refine end1 (v := .sc _) rfl ?_
 exact out_i rfl

theorem fr92 : (inFrame Tryz.f92.ntmps (Tryz.f92.body.getD .skip) && Tryz.f92.results.toList.all (resScope Tryz.f92.ntmps)) = true := by kernel_rfl
theorem absC (a : Int) (ha : -6000000 ≤ a ∧ a ≤ 6000000) : PCalls Tryz.prog 92 [.int a] (.int (dsA a 0)) := by
 refine PCalls.of_code Tryz.func92 rfl rfl (by kernel_rfl) mixed fr92 (by show _ ≤ 8; simp) (.sc _) ?_
 refine pwp_seq_plain rfl fun K1 hK1 => ?_
 refine p_aS rfl ?_
 refine p_end (hK1 _ ?_); clear hK1 K1
 refine pwp_seq_seq ?_
 refine pwp_seq_plain rfl fun K2 hK2 => ?_
 refine p_mS rfl ?_
 refine p_e rfl (e_lt rfl rfl) ?_
 refine p_end (hK2 _ ?_); clear hK2 K2
 refine pwp_seq_cond rfl fun K3 hK3 => ⟨fun hb4 => ?_, fun hb4 => ?_⟩
 ·have hb4R := hb4; try simp only [zz] at hb4
  refine pwp_seq_plain rfl fun K5 hK5 => ?_
  refine p_mS rfl ?_
  refine p_e rfl (e_neg rfl (by omega)) ?_
  refine p_aS rfl ?_
  refine p_end (hK5 _ ?_); clear hK5 K5
  refine pwp_ret ?_
  refine ret_seq ?_
  refine end1 (v := .sc _) rfl ?_
  exact out_i (by rw [ds_abs]; split <;> omega)
 ·have hb4R := hb4; try simp only [zz] at hb4
  refine pwp_skip ?_
  refine seq_norm (hK3 _ ?_); clear hK3 K3
  refine pwp_seq_plain rfl fun K6 hK6 => ?_
  refine p_mS rfl ?_
  refine p_aS rfl ?_
  refine p_end (hK6 _ ?_); clear hK6 K6
  refine pwp_ret ?_
  refine end1 (v := .sc _) rfl ?_
  exact out_i (by rw [ds_abs]; split <;> omega)

theorem fr38 : (inFrame Tryz.f38.ntmps (Tryz.f38.body.getD .skip) && Tryz.f38.results.toList.all (resScope Tryz.f38.ntmps)) = true := by kernel_rfl
theorem SharesC (g : Grid) (l : List Tie) (w : List Int) (ha : g.along.length ≤ 100) (hb : g.levels.length ≤ 100) (hl : l.length ≤ 100000) (hw : w.length ≤ 100000) : PCalls Tryz.prog 38 [.agg g.enc, .lit true 2 (l.map Tie.enc), .lit true 1 (w.map ci)] (.tup [.lit false 1 ((shX g l w).1.map ci), .int (shX g l w).2]) := by
 refine PCalls.of_code Tryz.func38 rfl rfl (by kernel_rfl) mixed fr38 (by show _ ≤ 120; simp) (pure_2 (.lit _ _ _ fun row hr => pure_map ci_pure row hr) (.sc _)) ?_
 refine pwp_seq_plain rfl fun K1 hK1 => ?_
 refine p_new rfl (e_box (n := 3) rfl rfl) ⟨rfl, by decide⟩ ?_
 refine p_e rfl (e_assign (v := .nil) rfl) ?_
 refine p_aS rfl ?_
 refine p_end (hK1 _ ?_); clear hK1 K1
 refine pwp_seq_seq ?_
 refine pwp_seq_plain rfl fun K2 hK2 => ?_
 refine p_e rfl (e_loadHA (cs := Grid.enc (g)) (n := 3) rfl (hset_self _ _ _) (by kernel_rfl) (by kernel_rfl) (by kernel_rfl) (by exact Nat.zero_lt_one) (by decide) rfl) ?_
 refine p_call rfl (.cons (inn_agg (Grid.pure _)) .nil) (CheckGridC g (by omega) (by omega)) ?_
 refine p_aS rfl ?_
 refine p_end (hK2 _ ?_); clear hK2 K2
 refine pwp_seq_seq ?_
 refine pwp_seq_plain rfl fun K3 hK3 => ?_
 refine p_mS rfl ?_
 refine p_e rfl (e_ne rfl rfl) ?_
 refine p_end (hK3 _ ?_); clear hK3 K3
 refine pwp_seq_cond rfl fun K4 hK4 => ⟨fun hb5 => ?_, fun hb5 => ?_⟩
 ·have hb5R := hb5; try simp only [zz] at hb5
  refine pwp_seq_plain rfl fun K6 hK6 => ?_
  refine p_mS rfl ?_
  refine p_e rfl (e_assign (v := .nil) rfl) ?_
  refine p_aS rfl ?_
  refine p_end (hK6 _ ?_); clear hK6 K6
  refine pwp_ret ?_
  refine ret_seq ?_
  refine end2 (v := .nil) (w := .sc _) rfl rfl ?_
  first
    | exact li_oe (shX_e (windE_g (by assumption)) (by assumption))
    | exact li_oe (shX_e (windE_t (by assumption) (by assumption)) (by assumption))
    | exact li_oe (shX_e (windE_s (by assumption) (by assumption) (by simp only [List.length_map] at *; omega)) (by decide))
    | exact li_oe (shX_e (windE_r (by assumption) (by assumption) (by simp only [List.length_map] at *; omega) (by assumption)) (by decide))
    | exact li_oe (shX_e (windE_n (by assumption) (by assumption) (by simp only [List.length_map] at *; omega) (by assumption) (by simp only [List.length_map] at *; omega)) (by decide))
 ·have hb5R := hb5; try simp only [zz] at hb5
  refine pwp_skip ?_
  refine seq_norm (hK4 _ ?_); clear hK4 K4
  refine pwp_seq_seq ?_
  refine pwp_seq_plain rfl fun K7 hK7 => ?_
  refine p_e rfl (e_loadHA (cs := Grid.enc (g)) (n := 3) rfl (hset_self _ _ _) (by kernel_rfl) (by kernel_rfl) (by kernel_rfl) (by exact Nat.zero_lt_one) (by decide) rfl) ?_
  refine p_e rfl (e_move (v := .lit _ _ _) rfl) ?_
  refine p_call rfl (.cons (inn_agg (Grid.pure _)) (.cons inn_lit .nil)) (checkTiesC g l (by omega) (by omega) (by omega)) ?_
  refine p_aS rfl ?_
  refine p_end (hK7 _ ?_); clear hK7 K7
  refine pwp_seq_seq ?_
  refine pwp_seq_plain rfl fun K8 hK8 => ?_
  refine p_mS rfl ?_
  refine p_e rfl (e_ne rfl rfl) ?_
  refine p_end (hK8 _ ?_); clear hK8 K8
  refine pwp_seq_cond rfl fun K9 hK9 => ⟨fun hb10 => ?_, fun hb10 => ?_⟩
  ·have hb10R := hb10; try simp only [zz] at hb10
   refine pwp_seq_plain rfl fun K11 hK11 => ?_
   refine p_mS rfl ?_
   refine p_e rfl (e_assign (v := .nil) rfl) ?_
   refine p_aS rfl ?_
   refine p_end (hK11 _ ?_); clear hK11 K11
   refine pwp_ret ?_
   refine ret_seq ?_
   refine end2 (v := .nil) (w := .sc _) rfl rfl ?_
   first
     | exact li_oe (shX_e (windE_g (by assumption)) (by assumption))
     | exact li_oe (shX_e (windE_t (by assumption) (by assumption)) (by assumption))
     | exact li_oe (shX_e (windE_s (by assumption) (by assumption) (by simp only [List.length_map] at *; omega)) (by decide))
     | exact li_oe (shX_e (windE_r (by assumption) (by assumption) (by simp only [List.length_map] at *; omega) (by assumption)) (by decide))
     | exact li_oe (shX_e (windE_n (by assumption) (by assumption) (by simp only [List.length_map] at *; omega) (by assumption) (by simp only [List.length_map] at *; omega)) (by decide))
  ·have hb10R := hb10; try simp only [zz] at hb10
   refine pwp_skip ?_
   refine seq_norm (hK9 _ ?_); clear hK9 K9
   refine pwp_seq_block fun K12 hK12 => ?_
   have hgz : gridE g = 0 := by omega
   have hsp := (grd_shape hgz).2
   have hml : 0 ≤ (g.along.length : Int) * (g.levels.length : Int) ∧ (g.along.length : Int) * (g.levels.length : Int) ≤ 100 * 100 := ⟨Int.mul_nonneg (by omega) (by omega), Int.mul_le_mul (by omega) (by omega) (by omega) (by omega)⟩
   refine pwp_seq_plain rfl fun K13 hK13 => ?_
   refine p_e rfl (e_move (v := .lit _ _ _) rfl) ?_
   refine p_e rfl (e_len rfl (by kernel_rfl)) ?_
   refine p_e rfl (e_faQ pl3 rfl) ?_
   refine p_e rfl (e_lH (v := .lit _ _ _) rfl (hset_self _ _ _) rfl) ?_
   refine p_e rfl (e_len rfl (by kernel_rfl)) ?_
   refine p_e rfl (e_faQ pl3 rfl) ?_
   refine p_e rfl (e_lH (v := .lit _ _ _) rfl (hset_self _ _ _) rfl) ?_
   refine p_e rfl (e_len rfl (by kernel_rfl)) ?_
   refine p_e rfl (e_mul rfl rfl (by first | omega | (simp only [List.length_map] at *; omega))) ?_
   refine p_e rfl (e_ne rfl rfl) ?_
   refine p_aS rfl ?_
   refine p_end (hK13 _ ?_); clear hK13 K13
   refine pwp_cond rfl (fun hb14 => ?_) (fun hb14 => ?_)
   ·have hb14R := hb14; try simp only [zz] at hb14
    refine pwp_seq_plain rfl fun K15 hK15 => ?_
    refine p_e rfl (e_assign (v := .nil) rfl) ?_
    refine p_aS rfl ?_
    refine p_end (hK15 _ ?_); clear hK15 K15
    refine pwp_ret ?_
    refine ret_block ?_
    refine ret_seq ?_
    refine end2 (v := .nil) (w := .sc _) rfl rfl ?_
    first
      | exact li_oe (shX_e (windE_g (by assumption)) (by assumption))
      | exact li_oe (shX_e (windE_t (by assumption) (by assumption)) (by assumption))
      | exact li_oe (shX_e (windE_s (by assumption) (by assumption) (by simp only [List.length_map] at *; omega)) (by decide))
      | exact li_oe (shX_e (windE_r (by assumption) (by assumption) (by simp only [List.length_map] at *; omega) (by assumption)) (by decide))
      | exact li_oe (shX_e (windE_n (by assumption) (by assumption) (by simp only [List.length_map] at *; omega) (by assumption) (by simp only [List.length_map] at *; omega)) (by decide))
   ·have hb14R := hb14; try simp only [zz] at hb14
    refine pwp_seq_plain rfl fun K16 hK16 => ?_
    refine p_e rfl (e_move (v := .lit _ _ _) rfl) ?_
    refine p_call rfl (.cons inn_lit (.cons inn_func0 .nil)) (ContainsI 87 (outB 0 1000000) outW _ (by omega)) ?_
    refine p_aS rfl ?_
    refine p_end (hK16 _ ?_); clear hK16 K16
    refine pwp_cond rfl (fun hb17 => ?_) (fun hb17 => ?_)
    ·have hb17R := hb17; try simp only [zz] at hb17
     refine pwp_seq_plain rfl fun K18 hK18 => ?_
     refine p_e rfl (e_assign (v := .nil) rfl) ?_
     refine p_aS rfl ?_
     refine p_end (hK18 _ ?_); clear hK18 K18
     refine pwp_ret ?_
     refine ret_block ?_
     refine ret_seq ?_
     refine end2 (v := .nil) (w := .sc _) rfl rfl ?_
     first
       | exact li_oe (shX_e (windE_g (by assumption)) (by assumption))
       | exact li_oe (shX_e (windE_t (by assumption) (by assumption)) (by assumption))
       | exact li_oe (shX_e (windE_s (by assumption) (by assumption) (by simp only [List.length_map] at *; omega)) (by decide))
       | exact li_oe (shX_e (windE_r (by assumption) (by assumption) (by simp only [List.length_map] at *; omega) (by assumption)) (by decide))
       | exact li_oe (shX_e (windE_n (by assumption) (by assumption) (by simp only [List.length_map] at *; omega) (by assumption) (by simp only [List.length_map] at *; omega)) (by decide))
    ·have hb17R := hb17; try simp only [zz] at hb17
     refine pwp_seq_plain rfl fun K19 hK19 => ?_
     refine p_e rfl (e_move (v := .lit _ _ _) rfl) ?_
     refine p_e rfl (e_len rfl (by kernel_rfl)) ?_
     refine p_e rfl (e_eq rfl rfl) ?_
     refine p_aS rfl ?_
     refine p_end (hK19 _ ?_); clear hK19 K19
     refine pwp_cond rfl (fun hb20 => ?_) (fun hb20 => ?_)
     ·have hb20R := hb20; try simp only [zz] at hb20
      refine pwp_seq_plain rfl fun K21 hK21 => ?_
      refine p_e rfl (e_assign (v := .nil) rfl) ?_
      refine p_aS rfl ?_
      refine p_end (hK21 _ ?_); clear hK21 K21
      refine pwp_ret ?_
      refine ret_block ?_
      refine ret_seq ?_
      refine end2 (v := .nil) (w := .sc _) rfl rfl ?_
      first
        | exact li_oe (shX_e (windE_g (by assumption)) (by assumption))
        | exact li_oe (shX_e (windE_t (by assumption) (by assumption)) (by assumption))
        | exact li_oe (shX_e (windE_s (by assumption) (by assumption) (by simp only [List.length_map] at *; omega)) (by decide))
        | exact li_oe (shX_e (windE_r (by assumption) (by assumption) (by simp only [List.length_map] at *; omega) (by assumption)) (by decide))
        | exact li_oe (shX_e (windE_n (by assumption) (by assumption) (by simp only [List.length_map] at *; omega) (by assumption) (by simp only [List.length_map] at *; omega)) (by decide))
     ·have hb20R := hb20; try simp only [zz] at hb20
      refine pwp_skip ?_
      refine block_norm ?_
      refine seq_norm (hK12 _ ?_); clear hK12 K12
      have hgz : gridE g = 0 := by omega
      have htz : tiesE g l = 0 := by omega
      have hwl : (w.length : Int) = (g.along.length : Int) * (g.levels.length : Int) := by first | assumption | (simp only [List.length_map] at *; omega)
      have hwz : w.any (outB 0 1000000) = false := by assumption
      have hl1 : 1 ≤ l.length := by simp only [List.length_map] at *; omega
      have hwe : windE g l w = 0 := windE_0 hgz htz hwl hwz (by omega)
      have hsp := (grd_shape hgz).2; have hab := al_b hgz; have hwi := fun {y} => any_out (x := y) hwz
      have hwl2 : w.length = g.along.length * g.levels.length := by exact_mod_cast hwl
      refine pwp_seq_plain rfl fun K22 hK22 => ?_
      refine p_e rfl (e_move (v := .lit _ _ _) rfl) ?_
      refine p_e rfl (e_len rfl (by kernel_rfl)) ?_
      refine p_new rfl (e_mkI (n := l.length) rfl rfl (by simp) (by kernel_rfl) (by kernel_rfl) (by kernel_rfl) (by decide +kernel) (by omega)) trivial ?_
      refine p_e rfl (e_assign (v := .ref _ _ _ _) rfl) ?_
      refine p_end (hK22 _ ?_); clear hK22 K22
      refine pwp_seq_seq ?_
      refine pwp_seq_plain rfl fun K23 hK23 => ?_
      refine p_e rfl (e_move (v := .lit _ _ _) rfl) ?_
      refine p_e rfl (e_len rfl (by kernel_rfl)) ?_
      refine p_mS rfl ?_
      refine p_end (hK23 _ ?_); clear hK23 K23
      refine pwp_seq_block fun K24 hK24 => ?_
      refine pwp_loopR (α := Nat × (List Int)) [1, 3, 10, 52, 53] (fun (a25 : Nat × (List Int)) => [(54, .int (a25.1))]) (fun (a25 : Nat × (List Int)) (h : Heap) (_ : Nat → Nat) => ((a25.1) ≤ w.length) ∧ ((a25.2) = shA g l w (a25.1)) ∧ (h (3, 0) = some (.rows 3 [Grid.enc g])) ∧ (h (51, 0) = some (.rows 1 ((a25.2).map ci)))) (fun (a25 : Nat × (List Int)) => w.length - (a25.1)) (0, (List.replicate l.length 0)) (by exact ⟨rfl, trivial⟩) (by exact ⟨by exact Nat.zero_le _, by exact rfl, ((hset_ne (key_ne rfl)).trans (hset_self _ _ _)), (hset_self _ _ _)⟩) fun a25 r26 h27 c28 hj29 => ?_
      obtain ⟨k, zs⟩ := a25
      obtain ⟨hk, hzs, hihj29_0, hihj29_1⟩ := hj29
      try dsimp only at hk
      try dsimp only at hzs
      try dsimp only at hihj29_0
      try dsimp only at hihj29_1
      show pwp _ _ (loopQ _ _ _) ⟨sets (mix _ _ _) [(54, .int k)], _, _⟩
      refine pwp_seq_plain rfl fun K30 hK30 => ?_
      refine p_e rfl (e_lt rfl rfl) ?_
      refine p_end (hK30 _ ?_); clear hK30 K30
      refine pwp_seq_cond rfl fun K31 hK31 => ⟨fun hb32 => ?_, fun hb32 => ?_⟩
      ·have hb32R := hb32; try simp only [zz] at hb32
       obtain ⟨f, hf, hd, ht⟩ := get_lt (xs := w) (i := k) (by omega)
       have hfb := hwi (List.mem_of_getElem? hf)
       have hkl : k < g.along.length * g.levels.length := by omega
       have hia : k / g.levels.length < g.along.length := Nat.div_lt_of_lt_mul (by rw [Nat.mul_comm]; exact hkl)
       have hib : k % g.levels.length < g.levels.length := Nat.mod_lt _ (by omega)
       obtain ⟨x, hx⟩ : ∃ x, g.along[k / g.levels.length]? = some x := ⟨_, List.getElem?_eq_getElem hia⟩
       obtain ⟨z, hz⟩ : ∃ z, g.levels[k % g.levels.length]? = some z := ⟨_, List.getElem?_eq_getElem hib⟩
       have hlm : (g.levels.map ci).length = g.levels.length := List.length_map ..
       have hxi : g.along[(((k : Int) / ((((g.levels).map ci).length : Nat) : Int))).toNat]? = some x := by rw [hlm, ix_div]; exact hx
       have hzi : g.levels[(((k : Int) % ((((g.levels).map ci).length : Nat) : Int))).toNat]? = some z := by rw [hlm, ix_mod]; exact hz
       have hqa : 0 ≤ ((k : Int) / ((((g.levels).map ci).length : Nat) : Int)) ∧ ((k : Int) / ((((g.levels).map ci).length : Nat) : Int)) < g.along.length := by rw [hlm, ← Int.natCast_ediv]; exact ⟨Int.natCast_nonneg _, by exact_mod_cast hia⟩
       have hqb : 0 ≤ ((k : Int) % ((((g.levels).map ci).length : Nat) : Int)) ∧ ((k : Int) % ((((g.levels).map ci).length : Nat) : Int)) < g.levels.length := by rw [hlm, ← Int.natCast_emod]; exact ⟨Int.natCast_nonneg _, by exact_mod_cast hib⟩
       have hqa2 := hqa; have hqb2 := hqb; rw [hlm] at hqa2 hqb2
       have hxb := hab.1 x (List.mem_of_getElem? hx); have hzb := hab.2 z (List.mem_of_getElem? hz)
       refine pwp_skip ?_
       refine seq_norm (hK31 _ ?_); clear hK31 K31
       refine pwp_seq_block fun K33 hK33 => ?_
       refine pwp_seq_plain rfl fun K34 hK34 => ?_
       refine p_mS rfl ?_
       refine p_e rfl (e_ixL rfl rfl) ?_
       refine p_e rfl (e_load (v := .sc _) rfl (by kernel_rfl) (by kernel_rfl) (by kernel_rfl) (by first | omega | (simp only [List.length_map]; omega)) (by decide) ((cell_map hf _).trans rfl)) ?_
       refine p_aS rfl ?_
       refine p_aS rfl ?_
       refine p_end (hK34 _ ?_); clear hK34 K34
       refine pwp_seq_gops rfl fun K35 hK35 => ?_
       refine g_begin ?_
       refine g_e rfl (e_faQ pl3 rfl) ?_
       refine g_e rfl (e_lH (v := .lit _ _ _) rfl hihj29_0 rfl) ?_
       refine g_mS rfl rfl ?_
       refine g_e rfl (e_faQ pl3 rfl) ?_
       refine g_e rfl (e_lH (v := .lit _ _ _) rfl hihj29_0 rfl) ?_
       refine g_e rfl (e_len rfl (by kernel_rfl)) ?_
       refine g_e rfl (e_quo rfl rfl (by omega) (by omega) (by omega)) ?_
       refine g_e rfl (e_ixL rfl rfl) ?_
       refine g_e rfl (e_load (v := .sc _) rfl (by kernel_rfl) (by kernel_rfl) (by kernel_rfl) (by first | omega | (simp only [List.length_map]; omega)) (by decide) ((cell_map hxi _).trans rfl)) ?_
       refine g_e rfl (e_faQ pl3 rfl) ?_
       refine g_e rfl (e_lH (v := .lit _ _ _) rfl hihj29_0 rfl) ?_
       refine g_mS rfl rfl ?_
       refine g_e rfl (e_faQ pl3 rfl) ?_
       refine g_e rfl (e_lH (v := .lit _ _ _) rfl hihj29_0 rfl) ?_
       refine g_e rfl (e_len rfl (by kernel_rfl)) ?_
       refine g_e rfl (e_rem rfl rfl (by omega) (by omega)) ?_
       refine g_e rfl (e_ixL rfl rfl) ?_
       refine g_e rfl (e_load (v := .sc _) rfl (by kernel_rfl) (by kernel_rfl) (by kernel_rfl) (by first | omega | (simp only [List.length_map]; omega)) (by decide) ((cell_map hzi _).trans rfl)) ?_
       refine g_aS rfl rfl ?_
       refine g_aS rfl rfl ?_
       refine g_end (ds := []) (by kernel_rfl) rfl (hK35 _ ?_); clear hK35 K35
       refine pwp_seq_plain rfl fun K36 hK36 => ?_
       refine p_aS rfl ?_
       refine p_aS rfl ?_
       refine p_end (hK36 _ ?_); clear hK36 K36
       refine pwp_seq_seq ?_
       refine pwp_seq_plain rfl fun K37 hK37 => ?_
       refine p_e rfl (e_move (v := .lit _ _ _) rfl) ?_
       refine p_e rfl (e_len rfl (by kernel_rfl)) ?_
       refine p_mS rfl ?_
       refine p_end (hK37 _ ?_); clear hK37 K37
       refine pwp_seq_block fun K38 hK38 => ?_
       refine pwp_loopR (α := Nat × Int × Int) [1, 3, 10, 12, 13, 14, 52, 53, 54, 77, 78] (fun (a39 : Nat × Int × Int) => [(15, .int (a39.2.1)), (16, .int (a39.2.2)), (79, .int (a39.1))]) (fun (a39 : Nat × Int × Int) (h : Heap) (_ : Nat → Nat) => ((a39.1) ≤ l.length) ∧ (NrO (tdA g x z) l (a39.1) (a39.2.1) (a39.2.2)) ∧ (h (3, 0) = some (.rows 3 [Grid.enc g])) ∧ (h (51, 0) = some (.rows 1 (zs.map ci)))) (fun (a39 : Nat × Int × Int) => l.length - (a39.1)) (0, 0, -1) (by exact ⟨rfl, rfl, rfl, trivial⟩) (by exact ⟨by exact Nat.zero_le _, by exact ⟨rfl, rfl⟩, hihj29_0, hihj29_1⟩) fun a39 r40 h41 c42 hj43 => ?_
       obtain ⟨j, n, d⟩ := a39
       obtain ⟨hj, hnr, hihj43_0, hihj43_1⟩ := hj43
       try dsimp only at hj
       try dsimp only at hnr
       try dsimp only at hihj43_0
       try dsimp only at hihj43_1
       show pwp _ _ (loopQ _ _ _) ⟨sets (mix _ _ _) [(15, .int n), (16, .int d), (79, .int j)], _, _⟩
       refine pwp_seq_plain rfl fun K44 hK44 => ?_
       refine p_e rfl (e_lt rfl rfl) ?_
       refine p_end (hK44 _ ?_); clear hK44 K44
       refine pwp_seq_cond rfl fun K45 hK45 => ⟨fun hb46 => ?_, fun hb46 => ?_⟩
       ·have hb46R := hb46; try simp only [zz] at hb46
        obtain ⟨t, ht, hd2, ht2⟩ := get_lt (xs := l) (i := j) (by omega)
        have hti := ti_at htz ht
        obtain ⟨a, hax⟩ : ∃ a, g.along[t.standard.toNat]? = some a := ⟨_, List.getElem?_eq_getElem (by omega)⟩
        obtain ⟨c, hcx⟩ : ∃ c, g.levels[t.level.toNat]? = some c := ⟨_, List.getElem?_eq_getElem (by omega)⟩
        have hab1 := hab.1 a (List.mem_of_getElem? hax); have hab2 := hab.2 c (List.mem_of_getElem? hcx)
        have hd1 := ds_b hxb hab1; have hd3 := ds_b (x := z) (z := c) (by omega) (by omega)
        have hnb := nrA_b (f := (tdA g x z)) (l := l) (k := j) (fun i t _ hi => td_b hgz htz hxb (by omega) i t hi) (by omega)
        have hte : dsA x a + dsA z c = tdA g x z t := td_at hax hcx
        refine pwp_skip ?_
        refine seq_norm (hK45 _ ?_); clear hK45 K45
        refine pwp_seq_block fun K47 hK47 => ?_
        refine pwp_seq_plain rfl fun K48 hK48 => ?_
        refine p_mS rfl ?_
        refine p_e rfl (e_ixL rfl rfl) ?_
        refine p_e rfl (e_loadA (n := 2) rfl (by kernel_rfl) (by kernel_rfl) (by kernel_rfl) (by first | omega | (simp only [List.length_map]; omega)) (by decide) (by first | exact agg_map ht rfl)) ?_
        refine p_new rfl (e_alloc (cs := [.int 0, .int 0]) (n := 2) (by kernel_rfl) rfl (by decide)) (ob_alloc (by decide)) ?_
        refine p_aS rfl ?_
        refine p_store rfl (e_storeA rfl (hset_self _ _ _) rfl rfl rfl (by kernel_rfl) rfl (by kernel_rfl)) trivial ?_
        refine p_end (hK48 _ ?_); clear hK48 K48
        refine pwp_seq_gops rfl fun K49 hK49 => ?_
        refine g_begin ?_
        refine g_mS rfl rfl ?_
        refine g_e rfl (e_faQ pl3 rfl) ?_
        refine g_e rfl (e_lH (v := .lit _ _ _) rfl ((hset_ne (key_ne rfl)).trans ((hset_ne (key_ne rfl)).trans hihj43_0)) rfl) ?_
        refine g_e rfl (e_faQ pl2 rfl) ?_
        refine g_e rfl (e_lH (v := .sc _) rfl (hset_self _ _ _) rfl) ?_
        refine g_e rfl (e_ixL rfl rfl) ?_
        refine g_e rfl (e_load (v := .sc _) rfl (by kernel_rfl) (by kernel_rfl) (by kernel_rfl) (by first | omega | (simp only [List.length_map]; omega)) (by decide) ((cell_map hax _).trans rfl)) ?_
        refine g_call rfl rfl rfl rfl (.cons inn_sc (.cons inn_sc .nil)) (distC _ _ (by omega) (by omega)) ?_
        refine g_mS rfl rfl ?_
        refine g_e rfl (e_faQ pl3 rfl) ?_
        refine g_e rfl (e_lH (v := .lit _ _ _) rfl ((hset_ne (key_ne rfl)).trans ((hset_ne (key_ne rfl)).trans hihj43_0)) rfl) ?_
        refine g_e rfl (e_faQ pl2 rfl) ?_
        refine g_e rfl (e_lH (v := .sc _) rfl (hset_self _ _ _) rfl) ?_
        refine g_e rfl (e_ixL rfl rfl) ?_
        refine g_e rfl (e_load (v := .sc _) rfl (by kernel_rfl) (by kernel_rfl) (by kernel_rfl) (by first | omega | (simp only [List.length_map]; omega)) (by decide) ((cell_map hcx _).trans rfl)) ?_
        refine g_call rfl rfl rfl rfl (.cons inn_sc (.cons inn_sc .nil)) (distC _ _ (by omega) (by omega)) ?_
        refine g_e rfl (e_adL rfl rfl) ?_
        refine g_aS rfl rfl ?_
        refine g_end (ds := []) (by kernel_rfl) rfl (hK49 _ ?_); clear hK49 K49
        refine pwp_seq_gops rfl fun K50 hK50 => ?_
        refine g_begin ?_
        refine g_mS rfl rfl ?_
        refine g_e rfl (e_lt rfl rfl) ?_
        refine g_mS rfl rfl ?_
        refine g_cases (fun hb51 => ?_) (fun hb51 => ?_)
        ·have hb51R := hb51; try simp only [zz] at hb51
         iterate 3 refine g_skip rfl rfl rfl ?_
         refine g_pT rfl rfl rfl ?_
         refine g_end (ds := [104, 105, 106]) rfl rfl (hK50 _ ?_); clear hK50 K50
         refine pwp_cond (t := true) rfl (fun _ => ?_) nofun
         refine pwp_plain rfl fun K52 hK52 => ?_
         refine p_mS rfl ?_
         refine p_mS rfl ?_
         refine p_aS rfl ?_
         refine p_aS rfl ?_
         refine p_end (hK52 _ ?_); clear hK52 K52
         refine block_norm ?_
         refine seq_norm (hK47 _ ?_); clear hK47 K47
         refine pwp_plain rfl fun K53 hK53 => ?_
         refine p_e rfl (e_adL rfl rfl) ?_
         refine p_mS rfl ?_
         refine p_end (hK53 _ ?_); clear hK53 K53
         exact loop_again ((j + 1, (j : Int), ((dsA x a) + (dsA z c)))) (by show _ < _; simp only; omega) ⟨rfl, rfl, rfl, rfl, rfl, rfl, rfl, rfl, rfl, rfl, rfl, trivial⟩ ⟨rfl, rfl, rfl, trivial⟩ (by exact ⟨by show _ + 1 ≤ _; simp only [List.length_map] at *; omega, by dsimp only; first | exact nrO_t hnr ht hte hnb.1 (by omega) | exact nrO_f hnr ht hte (by omega) (by omega), ((hset_ne (key_ne rfl)).trans ((hset_ne (key_ne rfl)).trans hihj43_0)), ((hset_ne (key_ne rfl)).trans ((hset_ne (key_ne rfl)).trans hihj43_1))⟩)
        ·have hb51R := hb51; try simp only [zz] at hb51
         refine g_mS rfl rfl ?_
         refine g_mS rfl rfl ?_
         refine g_e rfl (e_lt rfl rfl) ?_
         refine g_pF rfl rfl rfl ?_
         refine g_end (ds := [104, 105, 106]) rfl rfl (hK50 _ ?_); clear hK50 K50
         refine pwp_cond rfl (fun hb54 => ?_) (fun hb54 => ?_)
         ·have hb54R := hb54; try simp only [zz] at hb54
          refine pwp_plain rfl fun K55 hK55 => ?_
          refine p_mS rfl ?_
          refine p_mS rfl ?_
          refine p_aS rfl ?_
          refine p_aS rfl ?_
          refine p_end (hK55 _ ?_); clear hK55 K55
          refine block_norm ?_
          refine seq_norm (hK47 _ ?_); clear hK47 K47
          refine pwp_plain rfl fun K56 hK56 => ?_
          refine p_e rfl (e_adL rfl rfl) ?_
          refine p_mS rfl ?_
          refine p_end (hK56 _ ?_); clear hK56 K56
          exact loop_again ((j + 1, (j : Int), ((dsA x a) + (dsA z c)))) (by show _ < _; simp only; omega) ⟨rfl, rfl, rfl, rfl, rfl, rfl, rfl, rfl, rfl, rfl, rfl, trivial⟩ ⟨rfl, rfl, rfl, trivial⟩ (by exact ⟨by show _ + 1 ≤ _; simp only [List.length_map] at *; omega, by dsimp only; first | exact nrO_t hnr ht hte hnb.1 (by omega) | exact nrO_f hnr ht hte (by omega) (by omega), ((hset_ne (key_ne rfl)).trans ((hset_ne (key_ne rfl)).trans hihj43_0)), ((hset_ne (key_ne rfl)).trans ((hset_ne (key_ne rfl)).trans hihj43_1))⟩)
         ·have hb54R := hb54; try simp only [zz] at hb54
          refine pwp_skip ?_
          refine block_norm ?_
          refine seq_norm (hK47 _ ?_); clear hK47 K47
          refine pwp_plain rfl fun K57 hK57 => ?_
          refine p_e rfl (e_adL rfl rfl) ?_
          refine p_mS rfl ?_
          refine p_end (hK57 _ ?_); clear hK57 K57
          exact loop_again ((j + 1, n, d)) (by show _ < _; simp only; omega) ⟨rfl, rfl, rfl, rfl, rfl, rfl, rfl, rfl, rfl, rfl, rfl, trivial⟩ ⟨rfl, rfl, rfl, trivial⟩ (by exact ⟨by show _ + 1 ≤ _; simp only [List.length_map] at *; omega, by dsimp only; first | exact nrO_t hnr ht hte hnb.1 (by omega) | exact nrO_f hnr ht hte (by omega) (by omega), ((hset_ne (key_ne rfl)).trans ((hset_ne (key_ne rfl)).trans hihj43_0)), ((hset_ne (key_ne rfl)).trans ((hset_ne (key_ne rfl)).trans hihj43_1))⟩)
       ·have hb46R := hb46; try simp only [zz] at hb46
        obtain rfl : j = l.length := by simp only [List.length_map] at *; omega
        have hnl := nrA_lt (f := (tdA g x z)) (l := l) hl1
        have hnn : n = ((nrA (tdA g x z) l l.length).1 : Int) := by first | exact hnr.1 | (have q := hnr.1; rw [if_neg (by omega)] at q; exact q)
        have hzl : zs.length = l.length := by rw [hzs, shA_len]
        obtain ⟨v0, hv0⟩ : ∃ v, zs[n.toNat]? = some v := ⟨_, List.getElem?_eq_getElem (by omega)⟩
        have hvb := shA_b hwz (g := g) (l := l) (i := k) (by omega) v0 (by rw [← hzs]; exact List.mem_of_getElem? hv0)
        refine pwp_exit ?_
        refine exit_seq ?_
        clear hK45 K45
        refine exit_loop ?_
        refine exit_here ?_
        refine seq_norm (hK38 _ ?_); clear hK38 K38
        refine pwp_plain rfl fun K58 hK58 => ?_
        refine p_e rfl (e_move (v := .ref _ _ _ _) rfl) ?_
        refine p_mS rfl ?_
        refine p_e rfl (e_ixaR0 rfl rfl (by kernel_rfl) (by kernel_rfl) (by omega)) ?_
        refine p_e rfl (e_loadI (a := v0) rfl hihj43_1 (by kernel_rfl) (by kernel_rfl) (by kernel_rfl) hv0) ?_
        refine p_mS rfl ?_
        refine p_e rfl (e_adL rfl rfl) ?_
        refine p_e rfl (e_ixaR0 rfl rfl (by kernel_rfl) (by kernel_rfl) (by omega)) ?_
        refine p_store rfl (e_storeI (zs := zs) (a := (v0 + f)) rfl hihj43_1 rfl (by omega) (by kernel_rfl) (by kernel_rfl)) trivial ?_
        refine p_end (hK58 _ ?_); clear hK58 K58
        refine block_norm ?_
        refine seq_norm (hK33 _ ?_); clear hK33 K33
        refine pwp_plain rfl fun K59 hK59 => ?_
        refine p_e rfl (e_adL rfl rfl) ?_
        refine p_mS rfl ?_
        refine p_end (hK59 _ ?_); clear hK59 K59
        exact loop_again ((k + 1, ((zs).set (n).toNat (v0 + f)))) (by show _ < _; simp only; omega) ⟨rfl, rfl, rfl, rfl, rfl, trivial⟩ ⟨rfl, trivial⟩ (by exact ⟨by show _ + 1 ≤ _; simp only [List.length_map] at *; omega, by rw [shA, ← hzs, nrF, gd0 hx, gd0 hz, gd0 hf, show (nrA (tdA g x z) l l.length).1 = n.toNat by omega, adA, gd0 hv0], ((hset_ne (key_ne rfl)).trans hihj43_0), (hset_self _ _ _)⟩)
      ·have hb32R := hb32; try simp only [zz] at hb32
       obtain rfl : k = w.length := by simp only [List.length_map] at *; omega
       refine pwp_exit ?_
       refine exit_seq ?_
       clear hK31 K31
       refine exit_loop ?_
       refine exit_here ?_
       refine seq_norm (hK24 _ ?_); clear hK24 K24
       refine pwp_seq_plain rfl fun K60 hK60 => ?_
       refine p_e rfl (e_move (v := .ref _ _ _ _) rfl) ?_
       refine p_e rfl (e_assign (v := .ref _ _ _ _) rfl) ?_
       refine p_aS rfl ?_
       refine p_end (hK60 _ ?_); clear hK60 K60
       refine pwp_ret ?_
       refine end2 (v := .ref _ _ _ _) (w := .sc _) rfl rfl ?_
       first
         | exact li_oe (shX_e (windE_g (by assumption)) (by assumption))
         | exact li_oe (shX_e (windE_t (by assumption) (by assumption)) (by assumption))
         | exact li_oe (shX_e (windE_s (by assumption) (by assumption) (by simp only [List.length_map] at *; omega)) (by decide))
         | exact li_oe (shX_e (windE_r (by assumption) (by assumption) (by simp only [List.length_map] at *; omega) (by assumption)) (by decide))
         | exact li_oe (shX_e (windE_n (by assumption) (by assumption) (by simp only [List.length_map] at *; omega) (by assumption) (by simp only [List.length_map] at *; omega)) (by decide))
         | exact li_o (SliceAt.ofRef hihj29_1 (by simp [hzs, shA_len])) (by rw [hzs, shX_0 hwe])

theorem fr46 : (inFrame Tryz.f46.ntmps (Tryz.f46.body.getD .skip) && Tryz.f46.results.toList.all (resScope Tryz.f46.ntmps)) = true := by kernel_rfl
theorem refSharesC (g : Grid) (l : List Tie) (w : List Int) (ha : g.along.length ≤ 100) (hb : g.levels.length ≤ 100) (hl : l.length ≤ 100000) (hw : w.length ≤ 100000) (hwe : windE g l w = 0) : PCalls Tryz.prog 46 [.agg g.enc, .lit true 2 (l.map Tie.enc), .lit true 1 (w.map ci)] (.lit false 1 ((shA g l w w.length).map ci)) := by
 refine PCalls.of_code Tryz.func46 rfl rfl (by kernel_rfl) mixed fr46 (by show _ ≤ 98; simp) (.lit _ _ _ fun row hr => pure_map ci_pure row hr) ?_
 obtain ⟨hgz, htz, hwl, hwz, hl1⟩ := windE_inv hwe
 have hsp := (grd_shape hgz).2; have hab := al_b hgz; have hwi := fun {y} => any_out (x := y) hwz
 have hwl2 : w.length = g.along.length * g.levels.length := by exact_mod_cast hwl
 have hml : g.along.length * g.levels.length ≤ 100 * 100 := Nat.mul_le_mul ha hb
 refine pwp_seq_plain rfl fun K1 hK1 => ?_
 refine p_new rfl (e_box (n := 3) rfl rfl) ⟨rfl, by decide⟩ ?_
 refine p_e rfl (e_assign (v := .nil) rfl) ?_
 refine p_end (hK1 _ ?_); clear hK1 K1
 refine pwp_seq_plain rfl fun K2 hK2 => ?_
 refine p_e rfl (e_move (v := .lit _ _ _) rfl) ?_
 refine p_e rfl (e_len rfl (by kernel_rfl)) ?_
 refine p_new rfl (e_mkI (n := l.length) rfl rfl (by simp) (by kernel_rfl) (by kernel_rfl) (by kernel_rfl) (by decide +kernel) (by omega)) trivial ?_
 refine p_e rfl (e_assign (v := .ref _ _ _ _) rfl) ?_
 refine p_end (hK2 _ ?_); clear hK2 K2
 refine pwp_seq_seq ?_
 refine pwp_seq_plain rfl fun K3 hK3 => ?_
 refine p_aS rfl ?_
 refine p_end (hK3 _ ?_); clear hK3 K3
 refine pwp_seq_block fun K4 hK4 => ?_
 refine pwp_loopR (α := Nat × (List Int)) [1, 2, 3, 7] (fun (a5 : Nat × (List Int)) => [(8, .int (a5.1))]) (fun (a5 : Nat × (List Int)) (h : Heap) (_ : Nat → Nat) => ((a5.1) ≤ g.along.length) ∧ ((a5.2) = shA g l w ((a5.1) * g.levels.length)) ∧ (h (3, 0) = some (.rows 3 [Grid.enc g])) ∧ (h (16, 0) = some (.rows 1 ((a5.2).map ci)))) (fun (a5 : Nat × (List Int)) => g.along.length - (a5.1)) (0, (List.replicate l.length 0)) (by exact ⟨rfl, trivial⟩) (by exact ⟨by exact Nat.zero_le _, by rw [Nat.zero_mul]; rfl, ((hset_ne (key_ne rfl)).trans (hset_self _ _ _)), (hset_self _ _ _)⟩) fun a5 r6 h7 c8 hj9 => ?_
 obtain ⟨k, zs⟩ := a5
 obtain ⟨hk, hzs, hihj9_0, hihj9_1⟩ := hj9
 try dsimp only at hk
 try dsimp only at hzs
 try dsimp only at hihj9_0
 try dsimp only at hihj9_1
 show pwp _ _ (loopQ _ _ _) ⟨sets (mix _ _ _) [(8, .int k)], _, _⟩
 refine pwp_seq_seq ?_
 refine pwp_seq_plain rfl fun K10 hK10 => ?_
 refine p_mS rfl ?_
 refine p_e rfl (e_faQ pl3 rfl) ?_
 refine p_e rfl (e_lH (v := .lit _ _ _) rfl hihj9_0 rfl) ?_
 refine p_e rfl (e_len rfl (by kernel_rfl)) ?_
 refine p_e rfl (e_lt rfl rfl) ?_
 refine p_end (hK10 _ ?_); clear hK10 K10
 refine pwp_seq_cond rfl fun K11 hK11 => ⟨fun hb12 => ?_, fun hb12 => ?_⟩
 ·have hb12R := hb12; try simp only [zz] at hb12
  have hkl : k < g.along.length := by simp only [List.length_map] at *; omega
  obtain ⟨x, hx⟩ : ∃ x, g.along[k]? = some x := ⟨_, List.getElem?_eq_getElem hkl⟩
  have hxb := hab.1 x (List.mem_of_getElem? hx)
  refine pwp_skip ?_
  refine seq_norm (hK11 _ ?_); clear hK11 K11
  refine pwp_seq_block fun K13 hK13 => ?_
  refine pwp_seq_plain rfl fun K14 hK14 => ?_
  refine p_aS rfl ?_
  refine p_end (hK14 _ ?_); clear hK14 K14
  refine pwp_block ?_
  refine pwp_loopR (α := Nat × (List Int)) [1, 2, 3, 7, 8] (fun (a15 : Nat × (List Int)) => [(9, .int (a15.1))]) (fun (a15 : Nat × (List Int)) (h : Heap) (_ : Nat → Nat) => ((a15.1) ≤ g.levels.length) ∧ ((a15.2) = shA g l w (k * g.levels.length + (a15.1))) ∧ (h (3, 0) = some (.rows 3 [Grid.enc g])) ∧ (h (16, 0) = some (.rows 1 ((a15.2).map ci)))) (fun (a15 : Nat × (List Int)) => g.levels.length - (a15.1)) (0, zs) (by exact ⟨rfl, trivial⟩) (by exact ⟨by exact Nat.zero_le _, by exact hzs, hihj9_0, hihj9_1⟩) fun a15 r16 h17 c18 hj19 => ?_
  obtain ⟨r, zs⟩ := a15
  obtain ⟨hr, hzs, hihj19_0, hihj19_1⟩ := hj19
  try dsimp only at hr
  try dsimp only at hzs
  try dsimp only at hihj19_0
  try dsimp only at hihj19_1
  show pwp _ _ (loopQ _ _ _) ⟨sets (mix _ _ _) [(9, .int r)], _, _⟩
  refine pwp_seq_seq ?_
  refine pwp_seq_plain rfl fun K20 hK20 => ?_
  refine p_mS rfl ?_
  refine p_e rfl (e_faQ pl3 rfl) ?_
  refine p_e rfl (e_lH (v := .lit _ _ _) rfl hihj19_0 rfl) ?_
  refine p_e rfl (e_len rfl (by kernel_rfl)) ?_
  refine p_e rfl (e_lt rfl rfl) ?_
  refine p_end (hK20 _ ?_); clear hK20 K20
  refine pwp_seq_cond rfl fun K21 hK21 => ⟨fun hb22 => ?_, fun hb22 => ?_⟩
  ·have hb22R := hb22; try simp only [zz] at hb22
   have hrl : r < g.levels.length := by simp only [List.length_map] at *; omega
   have hfl := flat_lt hkl hrl
   have hkn : k * g.levels.length + r < w.length := by omega
   obtain ⟨z, hz⟩ : ∃ z, g.levels[r]? = some z := ⟨_, List.getElem?_eq_getElem hrl⟩
   obtain ⟨f, hf⟩ : ∃ f, w[k * g.levels.length + r]? = some f := ⟨_, List.getElem?_eq_getElem hkn⟩
   have hzb := hab.2 z (List.mem_of_getElem? hz); have hfb := hwi (List.mem_of_getElem? hf)
   have hlm : (g.levels.map ci).length = g.levels.length := List.length_map ..
   have hkm : (k : Int) * ((g.levels.length : Nat) : Int) = ((k * g.levels.length : Nat) : Int) := (Int.natCast_mul _ _).symm
   have hkm2 : (k : Int) * ((((g.levels).map ci).length : Nat) : Int) = ((k * g.levels.length : Nat) : Int) := by rw [hlm]; exact hkm
   have hfi : w[((((k : Int) * ((((g.levels).map ci).length : Nat) : Int)) + (r : Int))).toNat]? = some f := by rw [hkm2, ← Int.natCast_add, Int.toNat_natCast]; exact hf
   refine pwp_skip ?_
   refine seq_norm (hK21 _ ?_); clear hK21 K21
   refine pwp_seq_block fun K23 hK23 => ?_
   refine pwp_seq_plain rfl fun K24 hK24 => ?_
   refine p_aS rfl ?_
   refine p_aS rfl ?_
   refine p_end (hK24 _ ?_); clear hK24 K24
   refine pwp_seq_seq ?_
   refine pwp_seq_plain rfl fun K25 hK25 => ?_
   refine p_aS rfl ?_
   refine p_end (hK25 _ ?_); clear hK25 K25
   refine pwp_seq_block fun K26 hK26 => ?_
   refine pwp_loopR (α := Nat × Int × Int) [1, 2, 3, 7, 8, 9] (fun (a27 : Nat × Int × Int) => [(10, .int (a27.2.1)), (11, .int (a27.2.2)), (12, .int (a27.1))]) (fun (a27 : Nat × Int × Int) (h : Heap) (_ : Nat → Nat) => ((a27.1) ≤ l.length) ∧ (NrR (tdA g x z) l (a27.1) (a27.2.1) (a27.2.2)) ∧ (h (3, 0) = some (.rows 3 [Grid.enc g])) ∧ (h (16, 0) = some (.rows 1 (zs.map ci)))) (fun (a27 : Nat × Int × Int) => l.length - (a27.1)) (0, -1, 0) (by exact ⟨rfl, rfl, rfl, trivial⟩) (by exact ⟨by exact Nat.zero_le _, by exact ⟨rfl, rfl⟩, hihj19_0, hihj19_1⟩) fun a27 r28 h29 c30 hj31 => ?_
   obtain ⟨j, n, d⟩ := a27
   obtain ⟨hj, hnr, hihj31_0, hihj31_1⟩ := hj31
   try dsimp only at hj
   try dsimp only at hnr
   try dsimp only at hihj31_0
   try dsimp only at hihj31_1
   show pwp _ _ (loopQ _ _ _) ⟨sets (mix _ _ _) [(10, .int n), (11, .int d), (12, .int j)], _, _⟩
   refine pwp_seq_seq ?_
   refine pwp_seq_plain rfl fun K32 hK32 => ?_
   refine p_mS rfl ?_
   refine p_e rfl (e_move (v := .lit _ _ _) rfl) ?_
   refine p_e rfl (e_len rfl (by kernel_rfl)) ?_
   refine p_e rfl (e_lt rfl rfl) ?_
   refine p_end (hK32 _ ?_); clear hK32 K32
   refine pwp_seq_cond rfl fun K33 hK33 => ⟨fun hb34 => ?_, fun hb34 => ?_⟩
   ·have hb34R := hb34; try simp only [zz] at hb34
    obtain ⟨t, ht, hd2, ht2⟩ := get_lt (xs := l) (i := j) (by omega)
    have hti := ti_at htz ht
    obtain ⟨a, hax⟩ : ∃ a, g.along[t.standard.toNat]? = some a := ⟨_, List.getElem?_eq_getElem (by omega)⟩
    obtain ⟨c, hcx⟩ : ∃ c, g.levels[t.level.toNat]? = some c := ⟨_, List.getElem?_eq_getElem (by omega)⟩
    have hab1 := hab.1 a (List.mem_of_getElem? hax); have hab2 := hab.2 c (List.mem_of_getElem? hcx)
    have hd1 := ds_b hxb hab1; have hd3 := ds_b (x := z) (z := c) (by omega) (by omega)
    have hnb := nrA_b (f := (tdA g x z)) (l := l) (k := j) (fun i t _ hi => td_b hgz htz hxb (by omega) i t hi) (by omega)
    have hte : dsA x a + dsA z c = tdA g x z t := td_at hax hcx
    have he1 : dsA (x - a) 0 = dsA x a := abs_ds
    have he2 : dsA (z - c) 0 = dsA z c := abs_ds
    refine pwp_skip ?_
    refine seq_norm (hK33 _ ?_); clear hK33 K33
    refine pwp_seq_block fun K35 hK35 => ?_
    refine pwp_seq_gops rfl fun K36 hK36 => ?_
    refine g_begin ?_
    refine g_e rfl (e_faQ pl3 rfl) ?_
    refine g_e rfl (e_lH (v := .lit _ _ _) rfl hihj31_0 rfl) ?_
    refine g_mS rfl rfl ?_
    refine g_e rfl (e_ixL rfl rfl) ?_
    refine g_e rfl (e_load (v := .sc _) rfl (by kernel_rfl) (by kernel_rfl) (by kernel_rfl) (by first | omega | (simp only [List.length_map]; omega)) (by decide) ((cell_map hx _).trans rfl)) ?_
    refine g_e rfl (e_faQ pl3 rfl) ?_
    refine g_e rfl (e_lH (v := .lit _ _ _) rfl hihj31_0 rfl) ?_
    refine g_e rfl (e_move (v := .lit _ _ _) rfl) ?_
    refine g_mS rfl rfl ?_
    refine g_e rfl (e_ixL rfl rfl) ?_
    refine g_e rfl (e_fb pl2 rfl) ?_
    refine g_e rfl (e_load (v := .sc _) rfl (by kernel_rfl) (by kernel_rfl) (by kernel_rfl) (by first | omega | (simp only [List.length_map]; omega)) (by decide) ((cell_map ht _).trans rfl)) ?_
    refine g_e rfl (e_ixL rfl rfl) ?_
    refine g_e rfl (e_load (v := .sc _) rfl (by kernel_rfl) (by kernel_rfl) (by kernel_rfl) (by first | omega | (simp only [List.length_map]; omega)) (by decide) ((cell_map hax _).trans rfl)) ?_
    refine g_e rfl (e_sub rfl rfl (by first | omega | (simp only [List.length_map] at *; omega))) ?_
    refine g_call rfl rfl rfl rfl (.cons inn_sc .nil) (absC _ (by omega)) ?_
    refine g_e rfl (e_faQ pl3 rfl) ?_
    refine g_e rfl (e_lH (v := .lit _ _ _) rfl hihj31_0 rfl) ?_
    refine g_mS rfl rfl ?_
    refine g_e rfl (e_ixL rfl rfl) ?_
    refine g_e rfl (e_load (v := .sc _) rfl (by kernel_rfl) (by kernel_rfl) (by kernel_rfl) (by first | omega | (simp only [List.length_map]; omega)) (by decide) ((cell_map hz _).trans rfl)) ?_
    refine g_e rfl (e_faQ pl3 rfl) ?_
    refine g_e rfl (e_lH (v := .lit _ _ _) rfl hihj31_0 rfl) ?_
    refine g_e rfl (e_move (v := .lit _ _ _) rfl) ?_
    refine g_mS rfl rfl ?_
    refine g_e rfl (e_ixL rfl rfl) ?_
    refine g_e rfl (e_fb pl2 rfl) ?_
    refine g_e rfl (e_load (v := .sc _) rfl (by kernel_rfl) (by kernel_rfl) (by kernel_rfl) (by first | omega | (simp only [List.length_map]; omega)) (by decide) ((cell_map ht _).trans rfl)) ?_
    refine g_e rfl (e_ixL rfl rfl) ?_
    refine g_e rfl (e_load (v := .sc _) rfl (by kernel_rfl) (by kernel_rfl) (by kernel_rfl) (by first | omega | (simp only [List.length_map]; omega)) (by decide) ((cell_map hcx _).trans rfl)) ?_
    refine g_e rfl (e_sub rfl rfl (by first | omega | (simp only [List.length_map] at *; omega))) ?_
    refine g_call rfl rfl rfl rfl (.cons inn_sc .nil) (absC _ (by omega)) ?_
    refine g_e rfl (e_adL rfl rfl) ?_
    refine g_aS rfl rfl ?_
    refine g_endR (ds := []) [0, 1, 0, 7, 15, 0, 32, 0, 0, 384, 896, 1920, 4064, 8160, 16383, 32767, 0, 65536, 0, 458752, 983040, 0, 2097152, 0, 0, 25165824, 58720256, 125829120, 266338304, 534773760, 1073676288, 2147483647, 4294967295, 8589934591] (by kernel_rfl) rfl (hK36 _ ?_); clear hK36 K36
    refine pwp_seq_gops rfl fun K37 hK37 => ?_
    refine g_begin ?_
    refine g_mS rfl rfl ?_
    refine g_e rfl (e_lt rfl rfl) ?_
    refine g_mS rfl rfl ?_
    refine g_cases (fun hb38 => ?_) (fun hb38 => ?_)
    ·have hb38R := hb38; try simp only [zz] at hb38
     iterate 3 refine g_skip rfl rfl rfl ?_
     refine g_pT rfl rfl rfl ?_
     refine g_end (ds := [73, 74, 75]) rfl rfl (hK37 _ ?_); clear hK37 K37
     refine pwp_cond (t := true) rfl (fun _ => ?_) nofun
     refine pwp_plain rfl fun K39 hK39 => ?_
     refine p_mS rfl ?_
     refine p_mS rfl ?_
     refine p_aS rfl ?_
     refine p_aS rfl ?_
     refine p_end (hK39 _ ?_); clear hK39 K39
     refine block_norm ?_
     refine seq_norm (hK35 _ ?_); clear hK35 K35
     refine pwp_plain rfl fun K40 hK40 => ?_
     refine p_mS rfl ?_
     refine p_e rfl (e_adL rfl rfl) ?_
     refine p_aS rfl ?_
     refine p_end (hK40 _ ?_); clear hK40 K40
     exact loop_again ((j + 1, (j : Int), ((dsA (x - a) 0) + (dsA (z - c) 0)))) (by show _ < _; simp only; omega) ⟨rfl, rfl, rfl, rfl, rfl, rfl, trivial⟩ ⟨rfl, rfl, rfl, trivial⟩ (by exact ⟨by show _ + 1 ≤ _; simp only [List.length_map] at *; omega, by dsimp only; first | exact nrR_t hnr ht (by rw [abs_ds, abs_ds]; exact hte) (by first | omega | (simp only [abs_ds] at *; omega)) | exact nrR_f hnr ht hte (by omega) (by simp only [abs_ds] at *; omega), hihj31_0, hihj31_1⟩)
    ·have hb38R := hb38; try simp only [zz] at hb38
     refine g_mS rfl rfl ?_
     refine g_mS rfl rfl ?_
     refine g_e rfl (e_lt rfl rfl) ?_
     refine g_pF rfl rfl rfl ?_
     refine g_end (ds := [73, 74, 75]) rfl rfl (hK37 _ ?_); clear hK37 K37
     refine pwp_cond rfl (fun hb41 => ?_) (fun hb41 => ?_)
     ·have hb41R := hb41; try simp only [zz] at hb41
      refine pwp_plain rfl fun K42 hK42 => ?_
      refine p_mS rfl ?_
      refine p_mS rfl ?_
      refine p_aS rfl ?_
      refine p_aS rfl ?_
      refine p_end (hK42 _ ?_); clear hK42 K42
      refine block_norm ?_
      refine seq_norm (hK35 _ ?_); clear hK35 K35
      refine pwp_plain rfl fun K43 hK43 => ?_
      refine p_mS rfl ?_
      refine p_e rfl (e_adL rfl rfl) ?_
      refine p_aS rfl ?_
      refine p_end (hK43 _ ?_); clear hK43 K43
      exact loop_again ((j + 1, (j : Int), ((dsA (x - a) 0) + (dsA (z - c) 0)))) (by show _ < _; simp only; omega) ⟨rfl, rfl, rfl, rfl, rfl, rfl, trivial⟩ ⟨rfl, rfl, rfl, trivial⟩ (by exact ⟨by show _ + 1 ≤ _; simp only [List.length_map] at *; omega, by dsimp only; first | exact nrR_t hnr ht (by rw [abs_ds, abs_ds]; exact hte) (by first | omega | (simp only [abs_ds] at *; omega)) | exact nrR_f hnr ht hte (by omega) (by simp only [abs_ds] at *; omega), hihj31_0, hihj31_1⟩)
     ·have hb41R := hb41; try simp only [zz] at hb41
      refine pwp_skip ?_
      refine block_norm ?_
      refine seq_norm (hK35 _ ?_); clear hK35 K35
      refine pwp_plain rfl fun K44 hK44 => ?_
      refine p_mS rfl ?_
      refine p_e rfl (e_adL rfl rfl) ?_
      refine p_aS rfl ?_
      refine p_end (hK44 _ ?_); clear hK44 K44
      exact loop_again ((j + 1, n, d)) (by show _ < _; simp only; omega) ⟨rfl, rfl, rfl, rfl, rfl, rfl, trivial⟩ ⟨rfl, rfl, rfl, trivial⟩ (by exact ⟨by show _ + 1 ≤ _; simp only [List.length_map] at *; omega, by dsimp only; first | exact nrR_t hnr ht (by rw [abs_ds, abs_ds]; exact hte) (by first | omega | (simp only [abs_ds] at *; omega)) | exact nrR_f hnr ht hte (by omega) (by simp only [abs_ds] at *; omega), hihj31_0, hihj31_1⟩)
   ·have hb34R := hb34; try simp only [zz] at hb34
    obtain rfl : j = l.length := by simp only [List.length_map] at *; omega
    have hnl := nrA_lt (f := (tdA g x z)) (l := l) hl1
    have hnn : n = ((nrA (tdA g x z) l l.length).1 : Int) := by first | exact hnr.1 | (have q := hnr.1; rw [if_neg (by omega)] at q; exact q)
    have hzl : zs.length = l.length := by rw [hzs, shA_len]
    obtain ⟨v0, hv0⟩ : ∃ v, zs[n.toNat]? = some v := ⟨_, List.getElem?_eq_getElem (by omega)⟩
    have hvb := shA_b hwz (g := g) (l := l) (i := (k * g.levels.length + r)) (by omega) v0 (by rw [← hzs]; exact List.mem_of_getElem? hv0)
    refine pwp_exit ?_
    refine exit_seq ?_
    clear hK33 K33
    refine exit_loop ?_
    refine exit_here ?_
    refine seq_norm (hK26 _ ?_); clear hK26 K26
    refine pwp_gops rfl fun K45 hK45 => ?_
    refine s_begin ?_
    refine s_e rfl (e_move (v := .ref _ _ _ _) rfl) ?_
    refine s_e rfl (e_move (v := .sc _) rfl) ?_
    refine s_e rfl (e_move (v := .ref _ _ _ _) rfl) ?_
    refine s_e rfl (e_move (v := .sc _) rfl) ?_
    refine s_e rfl (e_ixaR0 rfl rfl (by kernel_rfl) (by kernel_rfl) (by omega)) ?_
    refine s_step [16] (by simp) rfl rfl rfl rfl (e_loadI (a := v0) rfl hihj31_1 (by kernel_rfl) (by kernel_rfl) (by kernel_rfl) hv0) trivial ?_
    refine s_e rfl (e_move (v := .lit _ _ _) rfl) ?_
    refine s_e rfl (e_move (v := .sc _) rfl) ?_
    refine s_e rfl (e_faQ pl3 rfl) ?_
    refine s_step [3] (by simp) rfl rfl rfl rfl (e_lH (v := .lit _ _ _) rfl hihj31_0 rfl) trivial ?_
    refine s_e rfl (e_len rfl (by kernel_rfl)) ?_
    refine s_e rfl (e_mul rfl rfl (by first | omega | (simp only [List.length_map] at *; omega))) ?_
    refine s_e rfl (e_move (v := .sc _) rfl) ?_
    refine s_e rfl (e_adL rfl rfl) ?_
    refine s_e rfl (e_ixL rfl rfl) ?_
    refine s_e rfl (e_load (v := .sc _) rfl (by kernel_rfl) (by kernel_rfl) (by kernel_rfl) (by first | omega | (simp only [List.length_map]; omega)) (by decide) ((cell_map hfi _).trans rfl)) ?_
    refine s_e rfl (e_adL rfl rfl) ?_
    refine s_e rfl (e_ixaR0 rfl rfl (by kernel_rfl) (by kernel_rfl) (by omega)) ?_
    refine s_store [16] (by simp) rfl rfl (e_storeI (zs := zs) (a := (v0 + f)) rfl hihj31_1 rfl (by omega) (by kernel_rfl) (by kernel_rfl)) trivial ?_
    refine s_end (ds := []) (by kernel_rfl) (by kernel_rfl) (hK45 _ ?_); clear hK45 K45
    refine block_norm ?_
    refine seq_norm (hK23 _ ?_); clear hK23 K23
    refine pwp_plain rfl fun K46 hK46 => ?_
    refine p_mS rfl ?_
    refine p_e rfl (e_adL rfl rfl) ?_
    refine p_aS rfl ?_
    refine p_end (hK46 _ ?_); clear hK46 K46
    exact loop_again ((r + 1, ((zs).set (n).toNat (v0 + f)))) (by show _ < _; simp only; omega) ⟨rfl, rfl, rfl, rfl, rfl, trivial⟩ ⟨rfl, trivial⟩ (by exact ⟨by show _ + 1 ≤ _; omega, by show _ = shA g l w (k * g.levels.length + r + 1); rw [shA, ← hzs, nrF, flat_div hrl, flat_mod hrl, gd0 hx, gd0 hz, gd0 hf, show (nrA (tdA g x z) l l.length).1 = n.toNat by omega, adA, gd0 hv0], ((hset_ne (key_ne rfl)).trans hihj31_0), (hset_self _ _ _)⟩)
  ·have hb22R := hb22; try simp only [zz] at hb22
   obtain rfl : r = g.levels.length := by simp only [List.length_map] at *; omega
   refine pwp_exit ?_
   refine exit_seq ?_
   clear hK21 K21
   refine exit_loop ?_
   refine exit_here ?_
   refine block_norm ?_
   refine seq_norm (hK13 _ ?_); clear hK13 K13
   refine pwp_plain rfl fun K47 hK47 => ?_
   refine p_mS rfl ?_
   refine p_e rfl (e_adL rfl rfl) ?_
   refine p_aS rfl ?_
   refine p_end (hK47 _ ?_); clear hK47 K47
   exact loop_again ((k + 1, zs)) (by show _ < _; simp only; omega) ⟨rfl, rfl, rfl, rfl, trivial⟩ ⟨rfl, trivial⟩ (by exact ⟨by show _ + 1 ≤ _; omega, by rw [Nat.add_mul, Nat.one_mul]; exact hzs, hihj19_0, hihj19_1⟩)
 ·have hb12R := hb12; try simp only [zz] at hb12
  obtain rfl : k = g.along.length := by simp only [List.length_map] at *; omega
  refine pwp_exit ?_
  refine exit_seq ?_
  clear hK11 K11
  refine exit_loop ?_
  refine exit_here ?_
  refine seq_norm (hK4 _ ?_); clear hK4 K4
  refine pwp_seq_plain rfl fun K48 hK48 => ?_
  refine p_e rfl (e_move (v := .ref _ _ _ _) rfl) ?_
  refine p_e rfl (e_assign (v := .ref _ _ _ _) rfl) ?_
  refine p_end (hK48 _ ?_); clear hK48 K48
  refine pwp_ret ?_
  refine end1 (v := .ref _ _ _ _) rfl ?_
  first
    | exact out_slice (SliceAt.ofRef hihj9_1 (by simp [hzs, shA_len])) (by rw [hzs, hwl2]) (fun _ => rfl) ci_clean

theorem fr45 : (inFrame Tryz.f45.ntmps (Tryz.f45.body.getD .skip) && Tryz.f45.results.toList.all (resScope Tryz.f45.ntmps)) = true := by kernel_rfl
theorem CheckWindC (g : Grid) (l : List Tie) (w : List Int) (ha : g.along.length ≤ 100) (hb : g.levels.length ≤ 100) (hl : l.length ≤ 100000) (hw : w.length ≤ 100000) : PCalls Tryz.prog 45 [.agg g.enc, .lit true 2 (l.map Tie.enc), .lit true 1 (w.map ci)] (.int (windE g l w)) := by
 refine PCalls.of_code Tryz.func45 rfl rfl (by kernel_rfl) mixed fr45 (by show _ ≤ 46; simp) (.sc _) ?_
 refine pwp_seq_plain rfl fun K1 hK1 => ?_
 refine p_new rfl (e_box (n := 3) rfl rfl) ⟨rfl, by decide⟩ ?_
 refine p_aS rfl ?_
 refine p_end (hK1 _ ?_); clear hK1 K1
 refine pwp_seq_seq ?_
 refine pwp_seq_plain rfl fun K2 hK2 => ?_
 refine p_e rfl (e_loadHA (cs := Grid.enc (g)) (n := 3) rfl (hset_self _ _ _) (by kernel_rfl) (by kernel_rfl) (by kernel_rfl) (by exact Nat.zero_lt_one) (by decide) rfl) ?_
 refine p_call rfl (.cons (inn_agg (Grid.pure _)) .nil) (refGridC g (by omega) (by omega)) ?_
 refine p_aS rfl ?_
 refine p_end (hK2 _ ?_); clear hK2 K2
 refine pwp_seq_seq ?_
 refine pwp_seq_plain rfl fun K3 hK3 => ?_
 refine p_mS rfl ?_
 refine p_e rfl (e_ne rfl rfl) ?_
 refine p_end (hK3 _ ?_); clear hK3 K3
 refine pwp_seq_cond rfl fun K4 hK4 => ⟨fun hb5 => ?_, fun hb5 => ?_⟩
 ·have hb5R := hb5; try simp only [zz] at hb5
  refine pwp_seq_plain rfl fun K6 hK6 => ?_
  refine p_mS rfl ?_
  refine p_aS rfl ?_
  refine p_end (hK6 _ ?_); clear hK6 K6
  refine pwp_ret ?_
  refine ret_seq ?_
  refine end1 (v := .sc _) rfl ?_
  first
    | exact out_i (windE_g (by assumption)).symm
    | exact out_i (windE_t (by assumption) (by assumption)).symm
    | exact out_i (windE_s (by assumption) (by assumption) (by simp only [List.length_map] at *; omega)).symm
    | exact out_i (windE_r (by assumption) (by assumption) (by simp only [List.length_map] at *; omega) (any_hit hx (by rw [outB, decide_eq_false (by omega)]; rfl))).symm
    | exact out_i (windE_n (by assumption) (by assumption) (by simp only [List.length_map] at *; omega) hwz (by simp only [List.length_map] at *; omega)).symm
    | exact out_i (windE_0 (by assumption) (by assumption) (by simp only [List.length_map] at *; omega) hwz (by simp only [List.length_map] at *; omega)).symm
 ·have hb5R := hb5; try simp only [zz] at hb5
  refine pwp_skip ?_
  refine seq_norm (hK4 _ ?_); clear hK4 K4
  refine pwp_seq_seq ?_
  refine pwp_seq_plain rfl fun K7 hK7 => ?_
  refine p_e rfl (e_loadHA (cs := Grid.enc (g)) (n := 3) rfl (hset_self _ _ _) (by kernel_rfl) (by kernel_rfl) (by kernel_rfl) (by exact Nat.zero_lt_one) (by decide) rfl) ?_
  refine p_e rfl (e_move (v := .lit _ _ _) rfl) ?_
  refine p_call rfl (.cons (inn_agg (Grid.pure _)) (.cons inn_lit .nil)) (refTiesC g l (by omega) (by omega) (by omega)) ?_
  refine p_aS rfl ?_
  refine p_end (hK7 _ ?_); clear hK7 K7
  refine pwp_seq_seq ?_
  refine pwp_seq_plain rfl fun K8 hK8 => ?_
  refine p_mS rfl ?_
  refine p_e rfl (e_ne rfl rfl) ?_
  refine p_end (hK8 _ ?_); clear hK8 K8
  refine pwp_seq_cond rfl fun K9 hK9 => ⟨fun hb10 => ?_, fun hb10 => ?_⟩
  ·have hb10R := hb10; try simp only [zz] at hb10
   refine pwp_seq_plain rfl fun K11 hK11 => ?_
   refine p_mS rfl ?_
   refine p_aS rfl ?_
   refine p_end (hK11 _ ?_); clear hK11 K11
   refine pwp_ret ?_
   refine ret_seq ?_
   refine end1 (v := .sc _) rfl ?_
   first
     | exact out_i (windE_g (by assumption)).symm
     | exact out_i (windE_t (by assumption) (by assumption)).symm
     | exact out_i (windE_s (by assumption) (by assumption) (by simp only [List.length_map] at *; omega)).symm
     | exact out_i (windE_r (by assumption) (by assumption) (by simp only [List.length_map] at *; omega) (any_hit hx (by rw [outB, decide_eq_false (by omega)]; rfl))).symm
     | exact out_i (windE_n (by assumption) (by assumption) (by simp only [List.length_map] at *; omega) hwz (by simp only [List.length_map] at *; omega)).symm
     | exact out_i (windE_0 (by assumption) (by assumption) (by simp only [List.length_map] at *; omega) hwz (by simp only [List.length_map] at *; omega)).symm
  ·have hb10R := hb10; try simp only [zz] at hb10
   refine pwp_skip ?_
   refine seq_norm (hK9 _ ?_); clear hK9 K9
   refine pwp_seq_seq ?_
   have hgz : gridE g = 0 := by omega
   have hsp := (grd_shape hgz).2
   have hml : 0 ≤ (g.along.length : Int) * (g.levels.length : Int) ∧ (g.along.length : Int) * (g.levels.length : Int) ≤ 100 * 100 := ⟨Int.mul_nonneg (by omega) (by omega), Int.mul_le_mul (by omega) (by omega) (by omega) (by omega)⟩
   refine pwp_seq_plain rfl fun K12 hK12 => ?_
   refine p_e rfl (e_move (v := .lit _ _ _) rfl) ?_
   refine p_e rfl (e_len rfl (by kernel_rfl)) ?_
   refine p_e rfl (e_faQ pl3 rfl) ?_
   refine p_e rfl (e_lH (v := .lit _ _ _) rfl (hset_self _ _ _) rfl) ?_
   refine p_e rfl (e_len rfl (by kernel_rfl)) ?_
   refine p_e rfl (e_faQ pl3 rfl) ?_
   refine p_e rfl (e_lH (v := .lit _ _ _) rfl (hset_self _ _ _) rfl) ?_
   refine p_e rfl (e_len rfl (by kernel_rfl)) ?_
   refine p_e rfl (e_mul rfl rfl (by first | omega | (simp only [List.length_map] at *; omega))) ?_
   refine p_e rfl (e_ne rfl rfl) ?_
   refine p_end (hK12 _ ?_); clear hK12 K12
   refine pwp_seq_cond rfl fun K13 hK13 => ⟨fun hb14 => ?_, fun hb14 => ?_⟩
   ·have hb14R := hb14; try simp only [zz] at hb14
    refine pwp_seq_plain rfl fun K15 hK15 => ?_
    refine p_aS rfl ?_
    refine p_end (hK15 _ ?_); clear hK15 K15
    refine pwp_ret ?_
    refine ret_seq ?_
    refine end1 (v := .sc _) rfl ?_
    first
      | exact out_i (windE_g (by assumption)).symm
      | exact out_i (windE_t (by assumption) (by assumption)).symm
      | exact out_i (windE_s (by assumption) (by assumption) (by simp only [List.length_map] at *; omega)).symm
      | exact out_i (windE_r (by assumption) (by assumption) (by simp only [List.length_map] at *; omega) (any_hit hx (by rw [outB, decide_eq_false (by omega)]; rfl))).symm
      | exact out_i (windE_n (by assumption) (by assumption) (by simp only [List.length_map] at *; omega) hwz (by simp only [List.length_map] at *; omega)).symm
      | exact out_i (windE_0 (by assumption) (by assumption) (by simp only [List.length_map] at *; omega) hwz (by simp only [List.length_map] at *; omega)).symm
   ·have hb14R := hb14; try simp only [zz] at hb14
    refine pwp_skip ?_
    refine seq_norm (hK13 _ ?_); clear hK13 K13
    refine pwp_seq_seq ?_
    refine pwp_seq_plain rfl fun K16 hK16 => ?_
    refine p_aS rfl ?_
    refine p_end (hK16 _ ?_); clear hK16 K16
    refine pwp_seq_block fun K17 hK17 => ?_
    refine pwp_loopR (α := Nat) [1, 2] (fun (k : Nat) => [(9, .int (k))]) (fun (k : Nat) (h : Heap) (_ : Nat → Nat) => ((k) ≤ w.length) ∧ (∀ i, i < (k) → ∀ y, w[i]? = some y → (outB 0 1000000) y = false)) (fun (k : Nat) => w.length - (k)) (0) (by exact ⟨rfl, trivial⟩) (by exact ⟨by exact Nat.zero_le _, by exact nx_0⟩) fun k r18 h19 c20 hj21 => ?_
    obtain ⟨hk, hin⟩ := hj21
    try dsimp only at hk
    try dsimp only at hin
    show pwp _ _ (loopQ _ _ _) ⟨sets (mix _ _ _) [(9, .int k)], _, _⟩
    refine pwp_seq_seq ?_
    refine pwp_seq_plain rfl fun K22 hK22 => ?_
    refine p_mS rfl ?_
    refine p_e rfl (e_move (v := .lit _ _ _) rfl) ?_
    refine p_e rfl (e_len rfl (by kernel_rfl)) ?_
    refine p_e rfl (e_lt rfl rfl) ?_
    refine p_end (hK22 _ ?_); clear hK22 K22
    refine pwp_seq_cond rfl fun K23 hK23 => ⟨fun hb24 => ?_, fun hb24 => ?_⟩
    ·have hb24R := hb24; try simp only [zz] at hb24
     obtain ⟨x, hx, hd, ht⟩ := get_lt (xs := w) (i := k) (by omega)
     refine pwp_skip ?_
     refine seq_norm (hK23 _ ?_); clear hK23 K23
     refine pwp_seq_block fun K25 hK25 => ?_
     refine pwp_seq_plain rfl fun K26 hK26 => ?_
     refine p_e rfl (e_move (v := .lit _ _ _) rfl) ?_
     refine p_mS rfl ?_
     refine p_e rfl (e_ixL rfl rfl) ?_
     refine p_e rfl (e_load (v := .sc _) rfl (by kernel_rfl) (by kernel_rfl) (by kernel_rfl) (by first | omega | (simp only [List.length_map]; omega)) (by decide) ((cell_map hx _).trans rfl)) ?_
     refine p_call rfl (.cons inn_sc (.cons inn_sc (.cons inn_sc .nil))) (Within _ _ _) ?_
     refine p_e rfl (e_not rfl) ?_
     refine p_end (hK26 _ ?_); clear hK26 K26
     refine pwp_cond rfl (fun hb27 => ?_) (fun hb27 => ?_)
     ·have hb27R := hb27; try simp only [zz] at hb27
      refine pwp_seq_plain rfl fun K28 hK28 => ?_
      refine p_aS rfl ?_
      refine p_end (hK28 _ ?_); clear hK28 K28
      refine pwp_ret ?_
      refine ret_block ?_
      refine ret_seq ?_
      refine ret_loop ?_
      refine ret_block ?_
      refine ret_seq ?_
      refine end1 (v := .sc _) rfl ?_
      first
        | exact out_i (windE_g (by assumption)).symm
        | exact out_i (windE_t (by assumption) (by assumption)).symm
        | exact out_i (windE_s (by assumption) (by assumption) (by simp only [List.length_map] at *; omega)).symm
        | exact out_i (windE_r (by assumption) (by assumption) (by simp only [List.length_map] at *; omega) (any_hit hx (by rw [outB, decide_eq_false (by omega)]; rfl))).symm
        | exact out_i (windE_n (by assumption) (by assumption) (by simp only [List.length_map] at *; omega) hwz (by simp only [List.length_map] at *; omega)).symm
        | exact out_i (windE_0 (by assumption) (by assumption) (by simp only [List.length_map] at *; omega) hwz (by simp only [List.length_map] at *; omega)).symm
     ·have hb27R := hb27; try simp only [zz] at hb27
      refine pwp_skip ?_
      refine block_norm ?_
      refine seq_norm (hK25 _ ?_); clear hK25 K25
      refine pwp_plain rfl fun K29 hK29 => ?_
      refine p_mS rfl ?_
      refine p_e rfl (e_adL rfl rfl) ?_
      refine p_aS rfl ?_
      refine p_end (hK29 _ ?_); clear hK29 K29
      exact loop_again (k + 1) (by show _ < _; omega) ⟨rfl, rfl, trivial⟩ ⟨rfl, trivial⟩ (by exact ⟨by show _ + 1 ≤ _; simp only [List.length_map] at *; omega, by exact nx_step (K := outB 0 1000000) hin hx (by rw [outB, decide_eq_true (by omega)]; rfl)⟩)
    ·have hb24R := hb24; try simp only [zz] at hb24
     have hwz : w.any (outB 0 1000000) = false := any_no hin (by simp only [List.length_map] at *; omega)
     refine pwp_exit ?_
     refine exit_seq ?_
     clear hK23 K23
     refine exit_loop ?_
     refine exit_here ?_
     refine seq_norm (hK17 _ ?_); clear hK17 K17
     refine pwp_seq_seq ?_
     refine pwp_seq_plain rfl fun K30 hK30 => ?_
     refine p_e rfl (e_move (v := .lit _ _ _) rfl) ?_
     refine p_e rfl (e_len rfl (by kernel_rfl)) ?_
     refine p_e rfl (e_eq rfl rfl) ?_
     refine p_end (hK30 _ ?_); clear hK30 K30
     refine pwp_seq_cond rfl fun K31 hK31 => ⟨fun hb32 => ?_, fun hb32 => ?_⟩
     ·have hb32R := hb32; try simp only [zz] at hb32
      refine pwp_seq_plain rfl fun K33 hK33 => ?_
      refine p_aS rfl ?_
      refine p_end (hK33 _ ?_); clear hK33 K33
      refine pwp_ret ?_
      refine ret_seq ?_
      refine end1 (v := .sc _) rfl ?_
      first
        | exact out_i (windE_g (by assumption)).symm
        | exact out_i (windE_t (by assumption) (by assumption)).symm
        | exact out_i (windE_s (by assumption) (by assumption) (by simp only [List.length_map] at *; omega)).symm
        | exact out_i (windE_r (by assumption) (by assumption) (by simp only [List.length_map] at *; omega) (any_hit hx (by rw [outB, decide_eq_false (by omega)]; rfl))).symm
        | exact out_i (windE_n (by assumption) (by assumption) (by simp only [List.length_map] at *; omega) hwz (by simp only [List.length_map] at *; omega)).symm
        | exact out_i (windE_0 (by assumption) (by assumption) (by simp only [List.length_map] at *; omega) hwz (by simp only [List.length_map] at *; omega)).symm
     ·have hb32R := hb32; try simp only [zz] at hb32
      refine pwp_skip ?_
      refine seq_norm (hK31 _ ?_); clear hK31 K31
      refine pwp_seq_plain rfl fun K34 hK34 => ?_
      refine p_aS rfl ?_
      refine p_end (hK34 _ ?_); clear hK34 K34
      refine pwp_ret ?_
      refine end1 (v := .sc _) rfl ?_
      first
        | exact out_i (windE_g (by assumption)).symm
        | exact out_i (windE_t (by assumption) (by assumption)).symm
        | exact out_i (windE_s (by assumption) (by assumption) (by simp only [List.length_map] at *; omega)).symm
        | exact out_i (windE_r (by assumption) (by assumption) (by simp only [List.length_map] at *; omega) (any_hit hx (by rw [outB, decide_eq_false (by omega)]; rfl))).symm
        | exact out_i (windE_n (by assumption) (by assumption) (by simp only [List.length_map] at *; omega) hwz (by simp only [List.length_map] at *; omega)).symm
        | exact out_i (windE_0 (by assumption) (by assumption) (by simp only [List.length_map] at *; omega) hwz (by simp only [List.length_map] at *; omega)).symm

theorem fr91 : (inFrame Tryz.f91.ntmps (Tryz.f91.body.getD .skip) && Tryz.f91.results.toList.all (resScope Tryz.f91.ntmps)) = true := by kernel_rfl
theorem strC (n : Int) (r : Rule) : PCalls Tryz.prog 91 [.int n, .lptr true 5 [Rule.enc r] 0 0] (.bool (strB r n)) := by
 refine PCalls.of_code Tryz.func91 rfl rfl (by kernel_rfl) mixed fr91 (by show _ ≤ 8; simp) (.sc _) ?_
 refine pwp_seq_plain rfl fun K1 hK1 => ?_
 refine p_aS rfl ?_
 refine p_end (hK1 _ ?_); clear hK1 K1
 refine pwp_seq_plain rfl fun K2 hK2 => ?_
 refine p_mS rfl ?_
 refine p_e rfl (e_fb pl5 rfl) ?_
 refine p_e rfl (e_load (v := .sc _) rfl (by kernel_rfl) (by kernel_rfl) (by kernel_rfl) (by first | omega | (simp; done)) (by decide) ((cell_map (rfl : [r][0]? = some r) _).trans rfl)) ?_
 refine p_e rfl (e_gt rfl rfl) ?_
 refine p_aS rfl ?_
 refine p_end (hK2 _ ?_); clear hK2 K2
 refine pwp_ret ?_
 refine end1 (v := .sc _) rfl ?_
 exact out_b rfl

theorem fr90r : (inFrame Tryz.f90.ntmps (Tryz.f90.body.getD .skip) && Tryz.f90.results.toList.all (resScope Tryz.f90.ntmps)) = true := by kernel_rfl
theorem IndexR (t : Bool) (xs : List Int) (r : Rule) (hl : xs.length ≤ 1000000) : PCalls Tryz.prog 90 [.lit t 1 (xs.map ci), .func (.func 91) [] [.lptr true 5 [Rule.enc r] 0 0]] (.int (ixA (strB r) xs)) := by
 refine PCalls.of_code Tryz.func90 rfl rfl (by kernel_rfl) mixed fr90r (by show _ ≤ 19; simp) (.sc _) ?_
 refine pwp_seq_plain rfl fun K1 hK1 => ?_
 refine p_aS rfl ?_
 refine p_end (hK1 _ ?_); clear hK1 K1
 refine pwp_seq_seq ?_
 refine pwp_seq_plain rfl fun K2 hK2 => ?_
 refine p_e rfl (e_move (v := .lit _ _ _) rfl) ?_
 refine p_e rfl (e_len rfl (by kernel_rfl)) ?_
 refine p_mS rfl ?_
 refine p_end (hK2 _ ?_); clear hK2 K2
 refine pwp_seq_block fun K3 hK3 => ?_
 refine pwp_loopR (α := Nat) [0, 1, 7] (fun (k : Nat) => [(8, .int (k))]) (fun (k : Nat) (h : Heap) (_ : Nat → Nat) => ((k) ≤ xs.length) ∧ (∀ i, i < (k) → ∀ y, xs[i]? = some y → strB r y = false)) (fun (k : Nat) => xs.length - (k)) (0) (by exact ⟨rfl, trivial⟩) (by exact ⟨by exact Nat.zero_le _, by exact nx_0⟩) fun k r4 h5 c6 hj7 => ?_
 obtain ⟨hk, hin⟩ := hj7
 try dsimp only at hk
 try dsimp only at hin
 show pwp _ _ (loopQ _ _ _) ⟨sets (mix _ _ _) [(8, .int k)], _, _⟩
 refine pwp_seq_plain rfl fun K8 hK8 => ?_
 refine p_e rfl (e_lt rfl rfl) ?_
 refine p_end (hK8 _ ?_); clear hK8 K8
 refine pwp_seq_cond rfl fun K9 hK9 => ⟨fun hb10 => ?_, fun hb10 => ?_⟩
 ·have hb10R := hb10; try simp only [zz] at hb10
  obtain ⟨x, hx, hd, ht⟩ := get_lt (xs := xs) (i := k) (by omega)
  refine pwp_skip ?_
  refine seq_norm (hK9 _ ?_); clear hK9 K9
  refine pwp_seq_block fun K11 hK11 => ?_
  refine pwp_seq_plain rfl fun K12 hK12 => ?_
  refine p_mS rfl ?_
  refine p_aS rfl ?_
  refine p_end (hK12 _ ?_); clear hK12 K12
  refine pwp_seq_plain rfl fun K13 hK13 => ?_
  refine p_e rfl (e_move (v := .func _ _ _) rfl) ?_
  refine p_e rfl (e_move (v := .lit _ _ _) rfl) ?_
  refine p_mS rfl ?_
  refine p_e rfl (e_ixL rfl rfl) ?_
  refine p_e rfl (e_load (v := .sc _) rfl (by kernel_rfl) (by kernel_rfl) (by kernel_rfl) (by first | omega | (simp only [List.length_map]; omega)) (by decide) ((cell_map hx _).trans rfl)) ?_
  refine p_call rfl (.cons inn_sc (.cons inn_lptr .nil)) (strC _ r) ?_
  refine p_end (hK13 _ ?_); clear hK13 K13
  refine pwp_cond rfl (fun hb14 => ?_) (fun hb14 => ?_)
  ·have hb14R := hb14; try simp only [zz] at hb14
   refine pwp_seq_plain rfl fun K15 hK15 => ?_
   refine p_mS rfl ?_
   refine p_aS rfl ?_
   refine p_end (hK15 _ ?_); clear hK15 K15
   refine pwp_ret ?_
   refine ret_block ?_
   refine ret_seq ?_
   refine ret_loop ?_
   refine ret_block ?_
   refine ret_seq ?_
   refine end1 (v := .sc _) rfl ?_
   first
     | exact out_i (ixA_hit (K := strB r) hx hin (by assumption))
     | exact out_i (ixA_no (K := strB r) hin (by simp only [List.length_map] at *; omega))
  ·have hb14R := hb14; try simp only [zz] at hb14
   refine pwp_skip ?_
   refine block_norm ?_
   refine seq_norm (hK11 _ ?_); clear hK11 K11
   refine pwp_plain rfl fun K16 hK16 => ?_
   refine p_e rfl (e_adL rfl rfl) ?_
   refine p_mS rfl ?_
   refine p_end (hK16 _ ?_); clear hK16 K16
   exact loop_again (k + 1) (by show _ < _; omega) ⟨rfl, rfl, rfl, trivial⟩ ⟨rfl, trivial⟩ (by exact ⟨by show _ + 1 ≤ _; simp only [List.length_map] at *; omega, by exact nx_step (K := strB r) hin hx (by assumption)⟩)
 ·have hb10R := hb10; try simp only [zz] at hb10
  refine pwp_exit ?_
  refine exit_seq ?_
  clear hK9 K9
  refine exit_loop ?_
  refine exit_here ?_
  refine seq_norm (hK3 _ ?_); clear hK3 K3
  refine pwp_seq_plain rfl fun K17 hK17 => ?_
  refine p_aS rfl ?_
  refine p_end (hK17 _ ?_); clear hK17 K17
  refine pwp_ret ?_
  refine end1 (v := .sc _) rfl ?_
  first
    | exact out_i (ixA_hit (K := strB r) hx hin (by assumption))
    | exact out_i (ixA_no (K := strB r) hin (by simp only [List.length_map] at *; omega))

theorem fr43 : (inFrame Tryz.f43.ntmps (Tryz.f43.body.getD .skip) && Tryz.f43.results.toList.all (resScope Tryz.f43.ntmps)) = true := by kernel_rfl
theorem AnchoredC (g : Grid) (r : Rule) (l : List Tie) (w : List Int) (ha : g.along.length ≤ 100) (hb : g.levels.length ≤ 100) (hl : l.length ≤ 100000) (hw : w.length ≤ 100000) : PCalls Tryz.prog 43 [.agg g.enc, .agg r.enc, .lit true 2 (l.map Tie.enc), .lit true 1 (w.map ci)] (.tup [.int (ancX g r l w).1, .int (ancX g r l w).2]) := by
 refine PCalls.of_code Tryz.func43 rfl rfl (by kernel_rfl) mixed fr43 (by show _ ≤ 37; simp) (pure_2 (.sc _) (.sc _)) ?_
 have hsx := shX_c g l w
 have hac := anc_c g r l w
 refine pwp_seq_plain rfl fun K1 hK1 => ?_
 refine p_new rfl (e_box (n := 3) rfl rfl) ⟨rfl, by decide⟩ ?_
 refine p_new rfl (e_box (n := 5) rfl rfl) ⟨rfl, by decide⟩ ?_
 refine p_aS rfl ?_
 refine p_aS rfl ?_
 refine p_end (hK1 _ ?_); clear hK1 K1
 refine pwp_seq_seq ?_
 refine pwp_seq_plain rfl fun K2 hK2 => ?_
 refine p_e rfl (e_loadHA (cs := Grid.enc (g)) (n := 3) rfl ((hset_ne (key_ne rfl)).trans (hset_self _ _ _)) (by kernel_rfl) (by kernel_rfl) (by kernel_rfl) (by exact Nat.zero_lt_one) (by decide) rfl) ?_
 refine p_call rfl (.cons (inn_agg (Grid.pure _)) .nil) (CheckGridC g (by omega) (by omega)) ?_
 refine p_aS rfl ?_
 refine p_end (hK2 _ ?_); clear hK2 K2
 refine pwp_seq_seq ?_
 refine pwp_seq_plain rfl fun K3 hK3 => ?_
 refine p_mS rfl ?_
 refine p_e rfl (e_ne rfl rfl) ?_
 refine p_end (hK3 _ ?_); clear hK3 K3
 refine pwp_seq_cond rfl fun K4 hK4 => ⟨fun hb5 => ?_, fun hb5 => ?_⟩
 ·have hb5R := hb5; try simp only [zz] at hb5
  refine pwp_seq_plain rfl fun K6 hK6 => ?_
  refine p_mS rfl ?_
  refine p_aS rfl ?_
  refine p_aS rfl ?_
  refine p_end (hK6 _ ?_); clear hK6 K6
  refine pwp_ret ?_
  refine ret_seq ?_
  refine end2 (v := .sc _) (w := .sc _) rfl rfl ?_
  first
    | exact out_12 (by omega) (by omega)
    | exact out_12 (by rw [hsl]; omega) (by omega)
 ·have hb5R := hb5; try simp only [zz] at hb5
  refine pwp_skip ?_
  refine seq_norm (hK4 _ ?_); clear hK4 K4
  refine pwp_seq_seq ?_
  refine pwp_seq_plain rfl fun K7 hK7 => ?_
  refine p_e rfl (e_loadHA (cs := Rule.enc (r)) (n := 5) rfl (hset_self _ _ _) (by kernel_rfl) (by kernel_rfl) (by kernel_rfl) (by exact Nat.zero_lt_one) (by decide) rfl) ?_
  refine p_call rfl (.cons (inn_agg (Rule.pure _)) .nil) (CheckRuleC r) ?_
  refine p_aS rfl ?_
  refine p_end (hK7 _ ?_); clear hK7 K7
  refine pwp_seq_seq ?_
  refine pwp_seq_plain rfl fun K8 hK8 => ?_
  refine p_mS rfl ?_
  refine p_e rfl (e_ne rfl rfl) ?_
  refine p_end (hK8 _ ?_); clear hK8 K8
  refine pwp_seq_cond rfl fun K9 hK9 => ⟨fun hb10 => ?_, fun hb10 => ?_⟩
  ·have hb10R := hb10; try simp only [zz] at hb10
   refine pwp_seq_plain rfl fun K11 hK11 => ?_
   refine p_mS rfl ?_
   refine p_aS rfl ?_
   refine p_aS rfl ?_
   refine p_end (hK11 _ ?_); clear hK11 K11
   refine pwp_ret ?_
   refine ret_seq ?_
   refine end2 (v := .sc _) (w := .sc _) rfl rfl ?_
   first
     | exact out_12 (by omega) (by omega)
     | exact out_12 (by rw [hsl]; omega) (by omega)
  ·have hb10R := hb10; try simp only [zz] at hb10
   refine pwp_skip ?_
   refine seq_norm (hK9 _ ?_); clear hK9 K9
   refine pwp_seq_plain rfl fun K12 hK12 => ?_
   refine p_e rfl (e_loadHA (cs := Grid.enc (g)) (n := 3) rfl ((hset_ne (key_ne rfl)).trans (hset_self _ _ _)) (by kernel_rfl) (by kernel_rfl) (by kernel_rfl) (by exact Nat.zero_lt_one) (by decide) rfl) ?_
   refine p_e rfl (e_move (v := .lit _ _ _) rfl) ?_
   refine p_e rfl (e_move (v := .lit _ _ _) rfl) ?_
   refine p_call rfl (.cons (inn_agg (Grid.pure _)) (.cons inn_lit (.cons inn_lit .nil))) (SharesC g l w (by omega) (by omega) (by omega) (by omega)) ?_
   refine p_e rfl (e_move (v := .tup _) rfl) ?_
   refine p_e rfl (e_ext (v := .lit _ _ _) rfl (by simp) rfl) ?_
   refine p_e rfl (e_ext (v := .sc _) rfl (by simp) rfl) ?_
   refine p_e rfl (e_assign (v := .lit _ _ _) rfl) ?_
   refine p_aS rfl ?_
   refine p_end (hK12 _ ?_); clear hK12 K12
   refine pwp_seq_seq ?_
   refine pwp_seq_plain rfl fun K13 hK13 => ?_
   refine p_mS rfl ?_
   refine p_e rfl (e_ne rfl rfl) ?_
   refine p_end (hK13 _ ?_); clear hK13 K13
   refine pwp_seq_cond rfl fun K14 hK14 => ⟨fun hb15 => ?_, fun hb15 => ?_⟩
   ·have hb15R := hb15; try simp only [zz] at hb15
    refine pwp_seq_plain rfl fun K16 hK16 => ?_
    refine p_mS rfl ?_
    refine p_aS rfl ?_
    refine p_aS rfl ?_
    refine p_end (hK16 _ ?_); clear hK16 K16
    refine pwp_ret ?_
    refine ret_seq ?_
    refine end2 (v := .sc _) (w := .sc _) rfl rfl ?_
    first
      | exact out_12 (by omega) (by omega)
      | exact out_12 (by rw [hsl]; omega) (by omega)
   ·have hb15R := hb15; try simp only [zz] at hb15
    refine pwp_skip ?_
    refine seq_norm (hK14 _ ?_); clear hK14 K14
    have hwe : windE g l w = 0 := by omega
    have hsl : (shX g l w).1 = shA g l w w.length := by rw [shX_0 hwe]
    have hsn : (shX g l w).1.length ≤ 100000 := by rw [hsl, shA_len]; omega
    refine pwp_seq_plain rfl fun K17 hK17 => ?_
    refine p_e rfl (e_move (v := .lit _ _ _) rfl) ?_
    refine p_e rfl (e_mkf rfl) ?_
    refine p_call rfl (.cons inn_lit (.cons (inn_clos1 (inn_ptr (hset_self _ _ _) (one_pure r))) .nil)) (IndexR _ _ r (by omega)) ?_
    refine p_aS rfl ?_
    refine p_aS rfl ?_
    refine p_end (hK17 _ ?_); clear hK17 K17
    refine pwp_ret ?_
    refine end2 (v := .sc _) (w := .sc _) rfl rfl ?_
    first
      | exact out_12 (by omega) (by omega)
      | exact out_12 (by rw [hsl]; omega) (by omega)

theorem fr47 : (inFrame Tryz.f47.ntmps (Tryz.f47.body.getD .skip) && Tryz.f47.results.toList.all (resScope Tryz.f47.ntmps)) = true := by kernel_rfl
theorem refAnchoredC (g : Grid) (r : Rule) (l : List Tie) (w : List Int) (ha : g.along.length ≤ 100) (hb : g.levels.length ≤ 100) (hl : l.length ≤ 100000) (hw : w.length ≤ 100000) (hwe : windE g l w = 0) : PCalls Tryz.prog 47 [.agg g.enc, .agg r.enc, .lit true 2 (l.map Tie.enc), .lit true 1 (w.map ci)] (.int (ixA (strB r) (shA g l w w.length))) := by
 refine PCalls.of_code Tryz.func47 rfl rfl (by kernel_rfl) mixed fr47 (by show _ ≤ 29; simp) (.sc _) ?_
 have hsn : (shA g l w w.length).length ≤ 100000 := by rw [shA_len]; omega
 refine pwp_seq_plain rfl fun K1 hK1 => ?_
 refine p_new rfl (e_box (n := 3) rfl rfl) ⟨rfl, by decide⟩ ?_
 refine p_new rfl (e_box (n := 5) rfl rfl) ⟨rfl, by decide⟩ ?_
 refine p_aS rfl ?_
 refine p_end (hK1 _ ?_); clear hK1 K1
 refine pwp_seq_plain rfl fun K2 hK2 => ?_
 refine p_e rfl (e_loadHA (cs := Grid.enc (g)) (n := 3) rfl ((hset_ne (key_ne rfl)).trans (hset_self _ _ _)) (by kernel_rfl) (by kernel_rfl) (by kernel_rfl) (by exact Nat.zero_lt_one) (by decide) rfl) ?_
 refine p_e rfl (e_move (v := .lit _ _ _) rfl) ?_
 refine p_e rfl (e_move (v := .lit _ _ _) rfl) ?_
 refine p_call rfl (.cons (inn_agg (Grid.pure _)) (.cons inn_lit (.cons inn_lit .nil))) (refSharesC g l w (by omega) (by omega) (by omega) (by omega) (by first | assumption | omega)) ?_
 refine p_e rfl (e_assign (v := .lit _ _ _) rfl) ?_
 refine p_end (hK2 _ ?_); clear hK2 K2
 refine pwp_seq_seq ?_
 refine pwp_seq_plain rfl fun K3 hK3 => ?_
 refine p_aS rfl ?_
 refine p_end (hK3 _ ?_); clear hK3 K3
 refine pwp_seq_block fun K4 hK4 => ?_
 refine pwp_loopR (α := Nat) [5, 9] (fun (k : Nat) => [(10, .int (k))]) (fun (k : Nat) (h : Heap) (_ : Nat → Nat) => ((k) ≤ (shA g l w w.length).length) ∧ (∀ i, i < (k) → ∀ y, (shA g l w w.length)[i]? = some y → strB r y = false) ∧ (h (5, 0) = some (.rows 5 [Rule.enc r]))) (fun (k : Nat) => (shA g l w w.length).length - (k)) (0) (by exact ⟨rfl, trivial⟩) (by exact ⟨by exact Nat.zero_le _, by exact nx_0, (hset_self _ _ _)⟩) fun k r5 h6 c7 hj8 => ?_
 obtain ⟨hk, hin, hihj8_0⟩ := hj8
 try dsimp only at hk
 try dsimp only at hin
 try dsimp only at hihj8_0
 show pwp _ _ (loopQ _ _ _) ⟨sets (mix _ _ _) [(10, .int k)], _, _⟩
 refine pwp_seq_seq ?_
 refine pwp_seq_plain rfl fun K9 hK9 => ?_
 refine p_mS rfl ?_
 refine p_e rfl (e_move (v := .lit _ _ _) rfl) ?_
 refine p_e rfl (e_len rfl (by kernel_rfl)) ?_
 refine p_e rfl (e_lt rfl rfl) ?_
 refine p_end (hK9 _ ?_); clear hK9 K9
 refine pwp_seq_cond rfl fun K10 hK10 => ⟨fun hb11 => ?_, fun hb11 => ?_⟩
 ·have hb11R := hb11; try simp only [zz] at hb11
  obtain ⟨x, hx, hd, ht⟩ := get_lt (xs := (shA g l w w.length)) (i := k) (by omega)
  refine pwp_skip ?_
  refine seq_norm (hK10 _ ?_); clear hK10 K10
  refine pwp_seq_block fun K12 hK12 => ?_
  refine pwp_seq_gops rfl fun K13 hK13 => ?_
  refine g_begin ?_
  refine g_e rfl (e_move (v := .lit _ _ _) rfl) ?_
  refine g_mS rfl rfl ?_
  refine g_e rfl (e_ixL rfl rfl) ?_
  refine g_e rfl (e_load (v := .sc _) rfl (by kernel_rfl) (by kernel_rfl) (by kernel_rfl) (by first | omega | (simp only [List.length_map]; omega)) (by decide) ((cell_map hx _).trans rfl)) ?_
  refine g_e rfl (e_faQ pl5 rfl) ?_
  refine g_e rfl (e_lH (v := .sc _) rfl hihj8_0 rfl) ?_
  refine g_e rfl (e_gt rfl rfl) ?_
  refine g_end (ds := []) (by kernel_rfl) rfl (hK13 _ ?_); clear hK13 K13
  refine pwp_cond rfl (fun hb14 => ?_) (fun hb14 => ?_)
  ·have hb14R := hb14; try simp only [zz] at hb14
   refine pwp_seq_plain rfl fun K15 hK15 => ?_
   refine p_mS rfl ?_
   refine p_aS rfl ?_
   refine p_end (hK15 _ ?_); clear hK15 K15
   refine pwp_ret ?_
   refine ret_block ?_
   refine ret_seq ?_
   refine ret_loop ?_
   refine ret_block ?_
   refine ret_seq ?_
   refine end1 (v := .sc _) rfl ?_
   first
     | exact out_i (ixA_hit (K := strB r) hx hin (decide_eq_true (by omega)))
     | exact out_i (ixA_no (K := strB r) hin (by simp only [List.length_map] at *; omega))
  ·have hb14R := hb14; try simp only [zz] at hb14
   refine pwp_skip ?_
   refine block_norm ?_
   refine seq_norm (hK12 _ ?_); clear hK12 K12
   refine pwp_plain rfl fun K16 hK16 => ?_
   refine p_mS rfl ?_
   refine p_e rfl (e_adL rfl rfl) ?_
   refine p_aS rfl ?_
   refine p_end (hK16 _ ?_); clear hK16 K16
   exact loop_again (k + 1) (by show _ < _; omega) ⟨rfl, rfl, trivial⟩ ⟨rfl, trivial⟩ (by exact ⟨by show _ + 1 ≤ _; simp only [List.length_map] at *; omega, by exact nx_step (K := strB r) hin hx (decide_eq_false (by omega)), hihj8_0⟩)
 ·have hb11R := hb11; try simp only [zz] at hb11
  refine pwp_exit ?_
  refine exit_seq ?_
  clear hK10 K10
  refine exit_loop ?_
  refine exit_here ?_
  refine seq_norm (hK4 _ ?_); clear hK4 K4
  refine pwp_seq_plain rfl fun K17 hK17 => ?_
  refine p_aS rfl ?_
  refine p_end (hK17 _ ?_); clear hK17 K17
  refine pwp_ret ?_
  refine end1 (v := .sc _) rfl ?_
  first
    | exact out_i (ixA_hit (K := strB r) hx hin (decide_eq_true (by omega)))
    | exact out_i (ixA_no (K := strB r) hin (by simp only [List.length_map] at *; omega))

theorem rule_run : closedI Tryz.prog goods 200 44 [] = some (.agg rule0.enc) := by kernel_rfl
theorem ruleC : PCalls Tryz.prog 44 [] (.agg rule0.enc) := closed_calls (by kernel_rfl) goods_ok rule_run
theorem fr11 : (inFrame Tryz.f11.ntmps (Tryz.f11.body.getD .skip) && Tryz.f11.results.toList.all (resScope Tryz.f11.ntmps)) = true := by kernel_rfl
theorem hShares (g : Grid) (l : List Tie) (w : List Int) (ha : g.along.length ≤ 9223372036854775807) (hb : g.levels.length ≤ 9223372036854775807) (hl : l.length ≤ 9223372036854775807) (hw : w.length ≤ 9223372036854775807) : PCalls Tryz.prog 11 [.agg g.enc, .lit true 2 (l.map Tie.enc), .lit true 1 (w.map ci)] (.bool true) := by
 refine PCalls.of_code Tryz.func11 rfl rfl (by kernel_rfl) mixed fr11 (by show _ ≤ 88; simp) (.sc _) ?_
 have hsx := shX_c g l w
 have hac := anc_f (g := g) (l := l) (w := w) rule0_ok
 have hsxn : windE g l w = 0 ∨ ((shX g l w).1.length = 0) := by rcases shX_c g l w with ⟨_, e, _⟩ | ⟨e, _⟩ <;> first | exact .inl e | (rw [e]; exact .inr rfl)
 refine pwp_seq_plain rfl fun K1 hK1 => ?_
 refine p_new rfl (e_box (n := 3) rfl rfl) ⟨rfl, by decide⟩ ?_
 refine p_aS rfl ?_
 refine p_end (hK1 _ ?_); clear hK1 K1
 refine pwp_seq_seq ?_
 refine pwp_seq_plain rfl fun K2 hK2 => ?_
 refine p_call rfl .nil (awake) ?_
 refine p_e rfl (e_not rfl) ?_
 refine p_end (hK2 _ ?_); clear hK2 K2
 refine pwp_seq_cond (t := false) rfl fun K3 hK3 => ⟨nofun, fun _ => ?_⟩
 refine pwp_skip ?_
 refine seq_norm (hK3 _ ?_); clear hK3 K3
 refine pwp_seq_seq ?_
 refine pwp_seq_gops rfl fun K4 hK4 => ?_
 refine g_begin ?_
 refine g_e rfl (e_loadHA (cs := Grid.enc (g)) (n := 3) rfl (hset_self _ _ _) (by kernel_rfl) (by kernel_rfl) (by kernel_rfl) (by exact Nat.zero_lt_one) (by decide) rfl) ?_
 refine g_call rfl rfl rfl rfl (.cons (inn_agg (Grid.pure _)) .nil) (FewC g (by omega) (by omega)) ?_
 refine g_e rfl (e_not rfl) ?_
 refine g_mS rfl rfl ?_
 refine g_cases (fun hb5 => ?_) (fun hb5 => ?_)
 ·have hb5R := hb5; try simp only [zz] at hb5
  iterate 3 refine g_skip rfl rfl rfl ?_
  refine g_pT rfl rfl rfl ?_
  refine g_mS rfl rfl ?_
  iterate 3 refine g_skip rfl rfl rfl ?_
  refine g_pT rfl rfl rfl ?_
  refine g_end (ds := [18, 19, 20, 23, 24, 25]) rfl rfl (hK4 _ ?_); clear hK4 K4
  refine pwp_seq_cond (t := true) rfl fun K6 hK6 => ⟨fun _ => ?_, nofun⟩
  refine pwp_seq_plain rfl fun K7 hK7 => ?_
  refine p_aS rfl ?_
  refine p_end (hK7 _ ?_); clear hK7 K7
  refine pwp_ret ?_
  refine ret_seq ?_
  refine end1 (v := .sc _) rfl ?_
  first
    | exact out_b rfl
    | exact out_b (by rw [decide_eq_true_eq]; simp only [List.length_map] at *; omega)
    | (exfalso; simp only [List.length_map] at *; omega)
    | exact absurd hsl (by assumption)
    | (exfalso; simp_all; done)
 ·have hb5R := hb5; try simp only [zz] at hb5
  refine g_e rfl (e_move (v := .lit _ _ _) rfl) ?_
  refine g_e rfl (e_len rfl (by kernel_rfl)) ?_
  refine g_e rfl (e_gt rfl rfl) ?_
  refine g_pF rfl rfl rfl ?_
  refine g_mS rfl rfl ?_
  refine g_cases (fun hb8 => ?_) (fun hb8 => ?_)
  ·have hb8R := hb8; try simp only [zz] at hb8
   iterate 3 refine g_skip rfl rfl rfl ?_
   refine g_pT rfl rfl rfl ?_
   refine g_end (ds := [18, 19, 20, 23, 24, 25]) rfl rfl (hK4 _ ?_); clear hK4 K4
   refine pwp_seq_cond (t := true) rfl fun K9 hK9 => ⟨fun _ => ?_, nofun⟩
   refine pwp_seq_plain rfl fun K10 hK10 => ?_
   refine p_aS rfl ?_
   refine p_end (hK10 _ ?_); clear hK10 K10
   refine pwp_ret ?_
   refine ret_seq ?_
   refine end1 (v := .sc _) rfl ?_
   first
     | exact out_b rfl
     | exact out_b (by rw [decide_eq_true_eq]; simp only [List.length_map] at *; omega)
     | (exfalso; simp only [List.length_map] at *; omega)
     | exact absurd hsl (by assumption)
     | (exfalso; simp_all; done)
  ·have hb8R := hb8; try simp only [zz] at hb8
   refine g_e rfl (e_move (v := .lit _ _ _) rfl) ?_
   refine g_e rfl (e_len rfl (by kernel_rfl)) ?_
   refine g_e rfl (e_gt rfl rfl) ?_
   refine g_pF rfl rfl rfl ?_
   refine g_end (ds := [18, 19, 20, 23, 24, 25]) rfl rfl (hK4 _ ?_); clear hK4 K4
   refine pwp_seq_cond rfl fun K11 hK11 => ⟨fun hb12 => ?_, fun hb12 => ?_⟩
   ·have hb12R := hb12; try simp only [zz] at hb12
    refine pwp_seq_plain rfl fun K13 hK13 => ?_
    refine p_aS rfl ?_
    refine p_end (hK13 _ ?_); clear hK13 K13
    refine pwp_ret ?_
    refine ret_seq ?_
    refine end1 (v := .sc _) rfl ?_
    first
      | exact out_b rfl
      | exact out_b (by rw [decide_eq_true_eq]; simp only [List.length_map] at *; omega)
      | (exfalso; simp only [List.length_map] at *; omega)
      | exact absurd hsl (by assumption)
      | (exfalso; simp_all; done)
   ·have hb12R := hb12; try simp only [zz] at hb12
    refine pwp_skip ?_
    refine seq_norm (hK11 _ ?_); clear hK11 K11
    have hfw := few_t (g := g) (by first | assumption | simp_all)
    have hl2 : l.length ≤ 40 := by simp only [List.length_map] at *; omega
    have hw2 : w.length ≤ 100 := by simp only [List.length_map] at *; omega
    have hsn : (shX g l w).1.length ≤ 1000 := by rcases shX_c g l w with ⟨_, e, _⟩ | ⟨_, e, _⟩ <;> rw [e] <;> first | exact Nat.zero_le _ | (rw [shA_len]; omega)
    have hsq : (shA g l w w.length).length ≤ 1000 := by rw [shA_len]; omega
    refine pwp_seq_plain rfl fun K14 hK14 => ?_
    refine p_e rfl (e_loadHA (cs := Grid.enc (g)) (n := 3) rfl (hset_self _ _ _) (by kernel_rfl) (by kernel_rfl) (by kernel_rfl) (by exact Nat.zero_lt_one) (by decide) rfl) ?_
    refine p_e rfl (e_move (v := .lit _ _ _) rfl) ?_
    refine p_e rfl (e_move (v := .lit _ _ _) rfl) ?_
    refine p_call rfl (.cons (inn_agg (Grid.pure _)) (.cons inn_lit (.cons inn_lit .nil))) (SharesC g l w (by omega) (by omega) (by omega) (by omega)) ?_
    refine p_e rfl (e_move (v := .tup _) rfl) ?_
    refine p_e rfl (e_ext (v := .lit _ _ _) rfl (by simp) rfl) ?_
    refine p_e rfl (e_ext (v := .sc _) rfl (by simp) rfl) ?_
    refine p_e rfl (e_assign (v := .lit _ _ _) rfl) ?_
    refine p_aS rfl ?_
    refine p_end (hK14 _ ?_); clear hK14 K14
    refine pwp_seq_gops rfl fun K15 hK15 => ?_
    refine g_begin ?_
    refine g_e rfl (e_loadHA (cs := Grid.enc (g)) (n := 3) rfl (hset_self _ _ _) (by kernel_rfl) (by kernel_rfl) (by kernel_rfl) (by exact Nat.zero_lt_one) (by decide) rfl) ?_
    refine g_call rfl rfl rfl rfl .nil (ruleC) ?_
    refine g_e rfl (e_move (v := .lit _ _ _) rfl) ?_
    refine g_e rfl (e_move (v := .lit _ _ _) rfl) ?_
    refine g_call rfl rfl rfl rfl (.cons (inn_agg (Grid.pure _)) (.cons (inn_agg (Rule.pure _)) (.cons inn_lit (.cons inn_lit .nil)))) (AnchoredC g rule0 l w (by omega) (by omega) (by omega) (by omega)) ?_
    refine g_e rfl (e_move (v := .tup _) rfl) ?_
    refine g_e rfl (e_ext (v := .sc _) rfl (by simp) rfl) ?_
    refine g_e rfl (e_ext (v := .sc _) rfl (by simp) rfl) ?_
    refine g_aS rfl rfl ?_
    refine g_aS rfl rfl ?_
    refine g_end (ds := []) (by kernel_rfl) rfl (hK15 _ ?_); clear hK15 K15
    refine pwp_seq_seq ?_
    refine pwp_seq_plain rfl fun K16 hK16 => ?_
    refine p_e rfl (e_loadHA (cs := Grid.enc (g)) (n := 3) rfl (hset_self _ _ _) (by kernel_rfl) (by kernel_rfl) (by kernel_rfl) (by exact Nat.zero_lt_one) (by decide) rfl) ?_
    refine p_e rfl (e_move (v := .lit _ _ _) rfl) ?_
    refine p_e rfl (e_move (v := .lit _ _ _) rfl) ?_
    refine p_call rfl (.cons (inn_agg (Grid.pure _)) (.cons inn_lit (.cons inn_lit .nil))) (CheckWindC g l w (by omega) (by omega) (by omega) (by omega)) ?_
    refine p_aS rfl ?_
    refine p_end (hK16 _ ?_); clear hK16 K16
    refine pwp_seq_seq ?_
    refine pwp_seq_plain rfl fun K17 hK17 => ?_
    refine p_mS rfl ?_
    refine p_e rfl (e_ne rfl rfl) ?_
    refine p_end (hK17 _ ?_); clear hK17 K17
    refine pwp_seq_cond rfl fun K18 hK18 => ⟨fun hb19 => ?_, fun hb19 => ?_⟩
    ·have hb19R := hb19; try simp only [zz] at hb19
     refine pwp_seq_gops rfl fun K20 hK20 => ?_
     refine g_begin ?_
     refine g_mS rfl rfl ?_
     refine g_mS rfl rfl ?_
     refine g_e rfl (e_eq rfl rfl) ?_
     refine g_mS rfl rfl ?_
     refine g_cases (fun hb21 => ?_) (fun hb21 => ?_)
     ·have hb21R := hb21; try simp only [zz] at hb21
      refine g_mS rfl rfl ?_
      refine g_mS rfl rfl ?_
      refine g_e rfl (e_eq rfl rfl) ?_
      refine g_pT rfl rfl rfl ?_
      refine g_mS rfl rfl ?_
      refine g_cases (fun hb22 => ?_) (fun hb22 => ?_)
      ·have hb22R := hb22; try simp only [zz] at hb22
       refine g_e rfl (e_move (v := .lit _ _ _) rfl) ?_
       refine g_e rfl (e_len rfl (by kernel_rfl)) ?_
       refine g_e rfl (e_eq rfl rfl) ?_
       refine g_pT rfl rfl rfl ?_
       refine g_mS rfl rfl ?_
       refine g_cases (fun hb23 => ?_) (fun hb23 => ?_)
       ·have hb23R := hb23; try simp only [zz] at hb23
        refine g_mS rfl rfl ?_
        refine g_e rfl (e_eq rfl rfl) ?_
        refine g_pT rfl rfl rfl ?_
        refine g_aS rfl rfl ?_
        refine g_end (ds := [52, 53, 54, 57, 58, 59, 62, 63]) rfl rfl (hK20 _ ?_); clear hK20 K20
        refine pwp_ret ?_
        refine ret_seq ?_
        refine end1 (v := .sc _) rfl ?_
        first
          | exact out_b rfl
          | exact out_b (by rw [decide_eq_true_eq]; simp only [List.length_map] at *; omega)
          | (exfalso; simp only [List.length_map] at *; omega)
          | exact absurd hsl (by assumption)
          | (exfalso; simp_all; done)
       ·have hb23R := hb23; try simp only [zz] at hb23
        iterate 2 refine g_skip rfl rfl rfl ?_
        refine g_pF rfl rfl rfl ?_
        refine g_aS rfl rfl ?_
        refine g_end (ds := [52, 53, 54, 57, 58, 59, 62, 63]) rfl rfl (hK20 _ ?_); clear hK20 K20
        refine pwp_ret ?_
        refine ret_seq ?_
        refine end1 (v := .sc _) rfl ?_
        first
          | exact out_b rfl
          | exact out_b (by rw [decide_eq_true_eq]; simp only [List.length_map] at *; omega)
          | (exfalso; simp only [List.length_map] at *; omega)
          | exact absurd hsl (by assumption)
          | (exfalso; simp_all; done)
      ·have hb22R := hb22; try simp only [zz] at hb22
       iterate 3 refine g_skip rfl rfl rfl ?_
       refine g_pF rfl rfl rfl ?_
       refine g_mS rfl rfl ?_
       iterate 2 refine g_skip rfl rfl rfl ?_
       refine g_pF rfl rfl rfl ?_
       refine g_aS rfl rfl ?_
       refine g_end (ds := [52, 53, 54, 57, 58, 59, 62, 63]) rfl rfl (hK20 _ ?_); clear hK20 K20
       refine pwp_ret ?_
       refine ret_seq ?_
       refine end1 (v := .sc _) rfl ?_
       first
         | exact out_b rfl
         | exact out_b (by rw [decide_eq_true_eq]; simp only [List.length_map] at *; omega)
         | (exfalso; simp only [List.length_map] at *; omega)
         | exact absurd hsl (by assumption)
         | (exfalso; simp_all; done)
     ·have hb21R := hb21; try simp only [zz] at hb21
      iterate 3 refine g_skip rfl rfl rfl ?_
      refine g_pF rfl rfl rfl ?_
      refine g_mS rfl rfl ?_
      iterate 3 refine g_skip rfl rfl rfl ?_
      refine g_pF rfl rfl rfl ?_
      refine g_mS rfl rfl ?_
      iterate 2 refine g_skip rfl rfl rfl ?_
      refine g_pF rfl rfl rfl ?_
      refine g_aS rfl rfl ?_
      refine g_end (ds := [52, 53, 54, 57, 58, 59, 62, 63]) rfl rfl (hK20 _ ?_); clear hK20 K20
      refine pwp_ret ?_
      refine ret_seq ?_
      refine end1 (v := .sc _) rfl ?_
      first
        | exact out_b rfl
        | exact out_b (by rw [decide_eq_true_eq]; simp only [List.length_map] at *; omega)
        | (exfalso; simp only [List.length_map] at *; omega)
        | exact absurd hsl (by assumption)
        | (exfalso; simp_all; done)
    ·have hb19R := hb19; try simp only [zz] at hb19
     refine pwp_skip ?_
     refine seq_norm (hK18 _ ?_); clear hK18 K18
     have hwe : windE g l w = 0 := by omega
     have hsl : (shX g l w).1 = shA g l w w.length := by rw [shX_0 hwe]
     refine pwp_seq_gops rfl fun K24 hK24 => ?_
     refine g_begin ?_
     refine g_mS rfl rfl ?_
     refine g_e rfl (e_eq rfl rfl) ?_
     refine g_mS rfl rfl ?_
     refine g_cases (fun hb25 => ?_) (fun hb25 => ?_)
     ·have hb25R := hb25; try simp only [zz] at hb25
      refine g_mS rfl rfl ?_
      refine g_e rfl (e_eq rfl rfl) ?_
      refine g_pT rfl rfl rfl ?_
      refine g_mS rfl rfl ?_
      refine g_cases (fun hb26 => ?_) (fun hb26 => ?_)
      ·have hb26R := hb26; try simp only [zz] at hb26
       refine g_e rfl (e_move (v := .lit _ _ _) rfl) ?_
       refine g_e rfl (e_loadHA (cs := Grid.enc (g)) (n := 3) rfl (hset_self _ _ _) (by kernel_rfl) (by kernel_rfl) (by kernel_rfl) (by exact Nat.zero_lt_one) (by decide) rfl) ?_
       refine g_e rfl (e_move (v := .lit _ _ _) rfl) ?_
       refine g_e rfl (e_move (v := .lit _ _ _) rfl) ?_
       refine g_call rfl rfl rfl rfl (.cons (inn_agg (Grid.pure _)) (.cons inn_lit (.cons inn_lit .nil))) (refSharesC g l w (by omega) (by omega) (by omega) (by omega) (by first | assumption | omega)) ?_
       refine g_call rfl rfl rfl rfl (.cons inn_lit (.cons inn_lit .nil)) (IntsC _ _ _ _ (by omega) (by omega)) ?_
       refine g_pT rfl rfl rfl ?_
       refine g_mS rfl rfl ?_
       refine g_cases (fun hb27 => ?_) (fun hb27 => ?_)
       ·have hb27R := hb27; try simp only [zz] at hb27
        refine g_mS rfl rfl ?_
        refine g_e rfl (e_loadHA (cs := Grid.enc (g)) (n := 3) rfl (hset_self _ _ _) (by kernel_rfl) (by kernel_rfl) (by kernel_rfl) (by exact Nat.zero_lt_one) (by decide) rfl) ?_
        refine g_call rfl rfl rfl rfl .nil (ruleC) ?_
        refine g_e rfl (e_move (v := .lit _ _ _) rfl) ?_
        refine g_e rfl (e_move (v := .lit _ _ _) rfl) ?_
        refine g_call rfl rfl rfl rfl (.cons (inn_agg (Grid.pure _)) (.cons (inn_agg (Rule.pure _)) (.cons inn_lit (.cons inn_lit .nil)))) (refAnchoredC g rule0 l w (by omega) (by omega) (by omega) (by omega) (by first | assumption | omega)) ?_
        refine g_e rfl (e_eq rfl rfl) ?_
        refine g_pT rfl rfl rfl ?_
        refine g_aS rfl rfl ?_
        refine g_endR (ds := [68, 69, 72, 73, 74, 75, 76, 77, 80, 81, 82, 83, 84, 85, 86]) [0, 1, 3, 7, 15, 31, 63, 127, 127, 127, 127, 1919, 4095, 8191, 16383, 32767, 32767, 32767, 32767, 32767, 1015807, 2097151, 4194303, 8388607] (by kernel_rfl) rfl (hK24 _ ?_); clear hK24 K24
        refine pwp_ret ?_
        refine end1 (v := .sc _) rfl ?_
        first
          | exact out_b rfl
          | exact out_b (by rw [decide_eq_true_eq]; simp only [List.length_map] at *; omega)
          | (exfalso; simp only [List.length_map] at *; omega)
          | exact absurd hsl (by assumption)
          | (exfalso; simp_all; done)
       ·have hb27R := hb27; try simp only [zz] at hb27
        iterate 2 refine g_skip rfl rfl rfl ?_
        refine g_nocall rfl rfl rfl ?_
        iterate 2 refine g_skip rfl rfl rfl ?_
        refine g_nocall rfl rfl rfl ?_
        refine g_skip rfl rfl rfl ?_
        refine g_pF rfl rfl rfl ?_
        refine g_aS rfl rfl ?_
        refine g_endR (ds := [68, 69, 72, 73, 74, 75, 76, 77, 80, 81, 82, 83, 84, 85, 86]) [0, 1, 3, 7, 15, 31, 63, 127, 127, 127, 127, 1919, 4095, 8191, 16383, 32767, 32767, 32767, 32767, 32767, 1015807, 2097151, 4194303, 8388607] (by kernel_rfl) rfl (hK24 _ ?_); clear hK24 K24
        refine pwp_ret ?_
        refine end1 (v := .sc _) rfl ?_
        first
          | exact out_b rfl
          | exact out_b (by rw [decide_eq_true_eq]; simp only [List.length_map] at *; omega)
          | (exfalso; simp only [List.length_map] at *; omega)
          | exact absurd hsl (by assumption)
          | (exfalso; simp_all; done)
      ·have hb26R := hb26; try simp only [zz] at hb26
       iterate 4 refine g_skip rfl rfl rfl ?_
       refine g_nocall rfl rfl rfl ?_
       refine g_nocall rfl rfl rfl ?_
       refine g_pF rfl rfl rfl ?_
       refine g_mS rfl rfl ?_
       iterate 2 refine g_skip rfl rfl rfl ?_
       refine g_nocall rfl rfl rfl ?_
       iterate 2 refine g_skip rfl rfl rfl ?_
       refine g_nocall rfl rfl rfl ?_
       refine g_skip rfl rfl rfl ?_
       refine g_pF rfl rfl rfl ?_
       refine g_aS rfl rfl ?_
       refine g_endR (ds := [68, 69, 72, 73, 74, 75, 76, 77, 80, 81, 82, 83, 84, 85, 86]) [0, 1, 3, 7, 15, 31, 63, 127, 127, 127, 127, 1919, 4095, 8191, 16383, 32767, 32767, 32767, 32767, 32767, 1015807, 2097151, 4194303, 8388607] (by kernel_rfl) rfl (hK24 _ ?_); clear hK24 K24
       refine pwp_ret ?_
       refine end1 (v := .sc _) rfl ?_
       first
         | exact out_b rfl
         | exact out_b (by rw [decide_eq_true_eq]; simp only [List.length_map] at *; omega)
         | (exfalso; simp only [List.length_map] at *; omega)
         | exact absurd hsl (by assumption)
         | (exfalso; simp_all; done)
     ·have hb25R := hb25; try simp only [zz] at hb25
      iterate 2 refine g_skip rfl rfl rfl ?_
      refine g_pF rfl rfl rfl ?_
      refine g_mS rfl rfl ?_
      iterate 4 refine g_skip rfl rfl rfl ?_
      refine g_nocall rfl rfl rfl ?_
      refine g_nocall rfl rfl rfl ?_
      refine g_pF rfl rfl rfl ?_
      refine g_mS rfl rfl ?_
      iterate 2 refine g_skip rfl rfl rfl ?_
      refine g_nocall rfl rfl rfl ?_
      iterate 2 refine g_skip rfl rfl rfl ?_
      refine g_nocall rfl rfl rfl ?_
      refine g_skip rfl rfl rfl ?_
      refine g_pF rfl rfl rfl ?_
      refine g_aS rfl rfl ?_
      refine g_endR (ds := [68, 69, 72, 73, 74, 75, 76, 77, 80, 81, 82, 83, 84, 85, 86]) [0, 1, 3, 7, 15, 31, 63, 127, 127, 127, 127, 1919, 4095, 8191, 16383, 32767, 32767, 32767, 32767, 32767, 1015807, 2097151, 4194303, 8388607] (by kernel_rfl) rfl (hK24 _ ?_); clear hK24 K24
      refine pwp_ret ?_
      refine end1 (v := .sc _) rfl ?_
      first
        | exact out_b rfl
        | exact out_b (by rw [decide_eq_true_eq]; simp only [List.length_map] at *; omega)
        | (exfalso; simp only [List.length_map] at *; omega)
        | exact absurd hsl (by assumption)
        | (exfalso; simp_all; done)

end Go.Proofs.YtindehoegfiiaaaGreatDoor
