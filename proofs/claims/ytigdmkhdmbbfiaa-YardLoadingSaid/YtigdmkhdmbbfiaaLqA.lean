import Derived.Test.YtigdmkhdmbbfiaaLo
/- Loading lorries by the best filling of each set: plain law. No conditions. -/
set_option linter.unusedSimpArgs false
set_option linter.unusedVariables false
namespace Go.Proofs.Ytigdmkhdmbbfiaa
open Go Go.Pv
/-- A filling: lorries, mass on the last one, the item that was loaded last. -/
structure Fil where
 l : Int
 m : Int
 z : Int
 deriving Inhabited
def Fil.enc (f : Fil) : List PV := [.int f.l, .int f.m, .int f.z]
/-- The set s, as a number, has the item i. -/
def hasI (s i : Nat) : Prop := s / 2 ^ i % 2 = 1
instance (s i : Nat) : Decidable (hasI s i) := inferInstanceAs (Decidable (_ = _))
theorem hasI_le {s i : Nat} (h : hasI s i) : 2 ^ i ≤ s := by
 refine Nat.le_of_not_lt fun h1 => ?_
 rw [hasI, Nat.div_eq_of_lt h1] at h; exact absurd h (by decide)
theorem hasI_del0 : ∀ s, s < 64 → ∀ i, i < 6 → ∀ j, j < 6 → s / 2 ^ i % 2 = 1 → (s - 2 ^ i) / 2 ^ j % 2 = if j = i then 0 else s / 2 ^ j % 2 := by decide +kernel
theorem hasI_del (s : Nat) (hs : s < 64) (i : Nat) (hi : i < 6) (h : hasI s i) (j : Nat) (hj : j < 6) : hasI (s - 2 ^ i) j ↔ hasI s j ∧ j ≠ i := by
 rw [hasI, hasI_del0 s hs i hi j hj h, hasI]
 by_cases e : j = i
 · rw [if_pos e]; exact ⟨fun q => absurd q (by decide), fun q => absurd e q.2⟩
 · rw [if_neg e]; exact ⟨fun q => ⟨q, e⟩, fun q => q.1⟩
theorem hasI_ex : ∀ s, s < 64 → s ≠ 0 → ∃ i, i < 6 ∧ hasI s i := by decide +kernel
theorem hasI_lt : ∀ n, n ≤ 6 → ∀ s, s < 2 ^ n → ∀ i, i < 6 → hasI s i → i < n := by decide +kernel
def Fil.bet (f g : Fil) : Prop := f.l < g.l ∨ (f.l = g.l ∧ f.m < g.m)
instance (f g : Fil) : Decidable (f.bet g) := inferInstanceAs (Decidable (_ ∨ _))
/-- No worse. -/
def Fil.leq (f g : Fil) : Prop := f.l < g.l ∨ (f.l = g.l ∧ f.m ≤ g.m)
def stepF (M x : Int) (i : Nat) (f : Fil) : Fil := if M < f.m + x then ⟨f.l + 1, x, i⟩ else ⟨f.l, f.m + x, i⟩
def pickF (acc f : Fil) : Fil := if f.bet acc then f else acc
/-- The best filling of a set. -/
def filV (ms : List Int) (M : Int) (s : Nat) : Fil :=
 if s = 0 then ⟨1, 0, 0⟩ else (List.range ms.length).foldl (fun acc i => if h : hasI s i then pickF acc (stepF M (ms.getD i 0) i (filV ms M (s - 2 ^ i))) else acc) ⟨ms.length + 1, 0, 0⟩
termination_by s
decreasing_by
 have := hasI_le h
 have : 0 < 2 ^ i := Nat.two_pow_pos i
 omega
/-- The best of the first k items' fillings. -/
def filK (ms : List Int) (M : Int) (s k : Nat) : Fil := (List.range k).foldl (fun acc i => if hasI s i then pickF acc (stepF M (ms.getD i 0) i (filV ms M (s - 2 ^ i))) else acc) ⟨ms.length + 1, 0, 0⟩
section
variable {ms : List Int} {M : Int} {s k i : Nat} {f g r : Fil}
theorem filV_0 : filV ms M 0 = ⟨1, 0, 0⟩ := by rw [filV, if_pos rfl]
theorem filV_K (h : s ≠ 0) : filV ms M s = filK ms M s ms.length := by
 rw [filV, if_neg h, filK]; rfl
theorem filK_s : filK ms M s (k + 1) = if hasI s k then pickF (filK ms M s k) (stepF M (ms.getD k 0) k (filV ms M (s - 2 ^ k))) else filK ms M s k := by
 rw [filK, List.range_succ, List.foldl_append]; rfl
theorem Fil.leq.refl : f.leq f := .inr ⟨rfl, Int.le_refl _⟩
theorem Fil.leq.trans (h1 : f.leq g) (h2 : g.leq r) : f.leq r := by
 unfold Fil.leq at *; omega
theorem pick_l : (pickF f g).leq f := by
 unfold pickF; split
 · rename_i h; unfold Fil.bet at h; unfold Fil.leq; omega
 · exact .refl
theorem pick_r : (pickF f g).leq g := by
 unfold pickF; split
 · exact .refl
 · rename_i h; unfold Fil.bet at h; unfold Fil.leq; omega
/-- The best is no worse than each that it is taken from. -/
theorem filK_le : ∀ {k : Nat}, i < k → hasI s i → (filK ms M s k).leq (stepF M (ms.getD i 0) i (filV ms M (s - 2 ^ i)))
 | 0, h, _ => absurd h (Nat.not_lt_zero _)
 | k + 1, h, hi => by
   rw [filK_s]
   by_cases e : i = k
   · subst e; rw [if_pos hi]; exact pick_r
   · have h1 := filK_le (k := k) (by omega) hi
     split
     · exact pick_l.trans h1
     · exact h1
/-- A step is monotone. -/
theorem step_le {x N m : Int} (h : f.leq ⟨N, m - x, r.z⟩) (hm : m ≤ M) (hx : 0 ≤ x) (hr : x ≤ m) : (stepF M x i f).leq ⟨N, m, r.z⟩ := by
 unfold stepF Fil.leq at *
 simp only at h
 split <;> simp only <;> omega
end
/-! ### Sums of the masses in a lorry -/
def binS (ms : List Int) (c : Nat → Nat) (s b : Nat) (n : Nat) : Int := lvl (fun i => if hasI s i ∧ c i = b then ms.getD i 0 else 0) n
theorem lvl_one {f g : Nat → Int} {d : Int} {i : Nat} : ∀ {n : Nat}, i < n → f i = g i + d → (∀ j, j < n → j ≠ i → f j = g j) → lvl f n = lvl g n + d
 | 0, h, _, _ => absurd h (Nat.not_lt_zero _)
 | n + 1, h, h1, h2 => by
   rw [lvl, lvl]
   by_cases e : i = n
   · subst e
     have : lvl f i = lvl g i := by
       have main : ∀ k, k ≤ i → lvl f k = lvl g k := fun k => by
         induction k with
         | zero => intro _; rfl
         | succ k ih => intro hk; rw [lvl, lvl, ih (by omega), h2 k (by omega) (by omega)]
       exact main i (Nat.le_refl _)
     rw [this, h1]; omega
   · rw [lvl_one (n := n) (by omega) h1 (fun j hj => h2 j (by omega)), h2 n (by omega) (by omega)]; omega
theorem lvl_same {f g : Nat → Int} : ∀ {n : Nat}, (∀ j, j < n → f j = g j) → lvl f n = lvl g n
 | 0, _ => rfl
 | n + 1, h => by rw [lvl, lvl, lvl_same (n := n) (fun j hj => h j (by omega)), h n (by omega)]
theorem lvl_nn {f : Nat → Int} : ∀ {n : Nat}, (∀ j, j < n → 0 ≤ f j) → 0 ≤ lvl f n
 | 0, _ => Int.le_refl _
 | n + 1, h => by
   have h1 := lvl_nn (f := f) (n := n) (fun j hj => h j (by omega)); have h2 := h n (by omega)
   rw [lvl]; omega
section
variable {ms : List Int} {M : Int} {c : Nat → Nat} {s b i : Nat}
theorem bin_del (hn : ms.length ≤ 6) (hs : s < 64) (hi : i < ms.length) (h : hasI s i) (hb : c i = b) : binS ms c s b ms.length = binS ms c (s - 2 ^ i) b ms.length + ms.getD i 0 := by
 refine lvl_one hi ?_ fun j hj hji => ?_
 · have h1 : ¬ hasI (s - 2 ^ i) i := fun q => ((hasI_del s hs i (by omega) h i (by omega)).1 q).2 rfl
   rw [if_pos ⟨h, hb⟩, if_neg (fun q => h1 q.1), Int.zero_add]
 · have h1 := hasI_del s hs i (by omega) h j (by omega)
   by_cases e : hasI s j ∧ c j = b
   · rw [if_pos e, if_pos ⟨h1.2 ⟨e.1, hji⟩, e.2⟩]
   · rw [if_neg e, if_neg (fun q => e ⟨(h1.1 q.1).1, q.2⟩)]
theorem bin_oth (hn : ms.length ≤ 6) (hs : s < 64) (hi : i < ms.length) (h : hasI s i) (hb : c i ≠ b) : binS ms c s b ms.length = binS ms c (s - 2 ^ i) b ms.length := by
 refine lvl_same fun j hj => ?_
 have h1 := hasI_del s hs i (by omega) h j (by omega)
 by_cases e : hasI s j ∧ c j = b
 · rw [if_pos e, if_pos ⟨h1.2 ⟨e.1, fun q => hb (q ▸ e.2)⟩, e.2⟩]
 · rw [if_neg e, if_neg (fun q => e ⟨(h1.1 q.1).1, q.2⟩)]
theorem bin_nn (hms : ∀ x ∈ ms, 0 ≤ x) : 0 ≤ binS ms c s b ms.length := lvl_nn fun j hj => by
 split
 · rw [List.getD_eq_getElem?_getD, List.getElem?_eq_getElem hj]; exact hms _ (List.getElem_mem hj)
 · exact Int.le_refl _
/-- The best filling is no worse than any loading. -/
theorem filV_le (hn : ms.length ≤ 6) (hms : ∀ x ∈ ms, 0 ≤ x) : ∀ (s : Nat), s < 2 ^ ms.length → ∀ N : Nat, (∀ i, i < ms.length → hasI s i → c i < N + 1) → (∀ b, b < N + 1 → binS ms c s b ms.length ≤ M) → (filV ms M s).leq ⟨(N : Int) + 1, binS ms c s N ms.length, 0⟩ := fun s => by
 induction s using Nat.strongRecOn with
 | ind s ihs =>
   intro hs N
   have hs6 : s < 64 := Nat.lt_of_lt_of_le hs (Nat.pow_le_pow_right (by decide) hn)
   induction N with
   | zero =>
     intro hc hb
     by_cases h0 : s = 0
     · subst h0; rw [filV_0]
       have := bin_nn (ms := ms) (c := c) (s := 0) (b := 0) hms
       unfold Fil.leq; simp only; omega
     · obtain ⟨i, h1, h2⟩ := hasI_ex s hs6 h0
       have hi := hasI_lt _ hn s hs i h1 h2
       have hle := hasI_le h2
       have hpos : 0 < 2 ^ i := Nat.two_pow_pos i
       have hci : c i = 0 := by have := hc i hi h2; omega
       have h3 := bin_del hn hs6 hi h2 hci
       have h4 := ihs (s - 2 ^ i) (by omega) (by omega) 0 (fun j hj q => hc j hj ((hasI_del s hs6 i h1 h2 j (by omega)).1 q).1) (fun b hb0 => by
         obtain rfl : b = 0 := by omega
         have h5 := hb 0 (by omega)
         have : 0 ≤ ms.getD i 0 := by rw [List.getD_eq_getElem?_getD, List.getElem?_eq_getElem hi]; exact hms _ (List.getElem_mem hi)
         omega)
       have hx : 0 ≤ ms.getD i 0 := by rw [List.getD_eq_getElem?_getD, List.getElem?_eq_getElem hi]; exact hms _ (List.getElem_mem hi)
       rw [filV_K h0]
       refine (filK_le hi h2).trans (step_le (r := ⟨0, 0, 0⟩) ?_ (hb 0 (by omega)) hx ?_)
       · rw [h3, Int.add_sub_cancel]; exact h4
       · have := bin_nn (ms := ms) (c := c) (s := s - 2 ^ i) (b := 0) hms
         omega
   | succ N ih =>
     intro hc hb
     by_cases h0 : s = 0
     · subst h0; rw [filV_0]
       unfold Fil.leq; simp only; omega
     · by_cases h : ∃ i, i < ms.length ∧ hasI s i ∧ c i = N + 1
       · obtain ⟨i, hi, h2, hci⟩ := h
         have h1 : i < 6 := by omega
         have hle := hasI_le h2
         have hpos : 0 < 2 ^ i := Nat.two_pow_pos i
         have hx : 0 ≤ ms.getD i 0 := by rw [List.getD_eq_getElem?_getD, List.getElem?_eq_getElem hi]; exact hms _ (List.getElem_mem hi)
         have h3 := bin_del hn hs6 hi h2 hci
         have h4 := ihs (s - 2 ^ i) (by omega) (by omega) (N + 1) (fun j hj q => hc j hj ((hasI_del s hs6 i h1 h2 j (by omega)).1 q).1) (fun b hb0 => by
           have h5 := hb b hb0
           by_cases e : c i = b
           · have := bin_del hn hs6 hi h2 e; omega
           · rw [← bin_oth hn hs6 hi h2 e]; exact h5)
         rw [filV_K h0]
         refine (filK_le hi h2).trans (step_le (r := ⟨0, 0, 0⟩) ?_ (hb (N + 1) (by omega)) hx ?_)
         · rw [h3, Int.add_sub_cancel]; exact h4
         · have := bin_nn (ms := ms) (c := c) (s := s - 2 ^ i) (b := N + 1) hms
           omega
       · have h1 := ih (fun i hi q => by
           have := hc i hi q
           have : c i ≠ N + 1 := fun e => h ⟨i, hi, q, e⟩
           omega) (fun b hb0 => hb b (by omega))
         unfold Fil.leq at h1 ⊢
         simp only at h1 ⊢; omega
end
end Go.Proofs.Ytigdmkhdmbbfiaa

/- Lorries by trying, and assignments of items to lorries: plain law. No conditions. -/
set_option linter.unusedSimpArgs false
set_option linter.unusedVariables false
namespace Go.Proofs.Ytigdmkhdmbbfiaa
open Go Go.Pv
/-- What comes into the lorry b of the items from place k on. -/
def ldS (d : Nat → Nat) (b : Nat) : List Item → Nat → Int
 | [], _ => 0
 | y :: r, k => (if d k = b then y.mass else 0) + ldS d b r (k + 1)
def updN (k v : Nat) (d : Nat → Nat) (j : Nat) : Nat := if j = k then v else d j
theorem updN_e {k v : Nat} {d : Nat → Nat} : updN k v d k = v := if_pos rfl
theorem updN_n {k v j : Nat} {d : Nat → Nat} (h : j ≠ k) : updN k v d j = d j := if_neg h
def swpN (a b : Nat) (d : Nat → Nat) (j : Nat) : Nat := if d j = a then b else if d j = b then a else d j
section
variable {d e : Nat → Nat} {b k : Nat} {r : List Item} {M most : Int} {ls : List Int}
theorem ldS_congr : ∀ {r : List Item} {k : Nat}, (∀ j, k ≤ j → (d j = b ↔ e j = b)) → ldS d b r k = ldS e b r k
 | [], _, _ => rfl
 | y :: r, k, h => by
   rw [ldS, ldS, ldS_congr (r := r) (k := k + 1) (fun j hj => h j (by omega))]
   by_cases q : d k = b
   · rw [if_pos q, if_pos ((h k (Nat.le_refl _)).1 q)]
   · rw [if_neg q, if_neg (fun p => q ((h k (Nat.le_refl _)).2 p))]
theorem ldS_two {b b' : Nat} : ∀ {r : List Item} {k : Nat}, (∀ j, k ≤ j → (d j = b ↔ e j = b')) → ldS d b r k = ldS e b' r k
 | [], _, _ => rfl
 | y :: r, k, h => by
   rw [ldS, ldS, ldS_two (r := r) (k := k + 1) (fun j hj => h j (by omega))]
   by_cases q : d k = b
   · rw [if_pos q, if_pos ((h k (Nat.le_refl _)).1 q)]
   · rw [if_neg q, if_neg (fun p => q ((h k (Nat.le_refl _)).2 p))]
theorem ldS_nn : ∀ {r : List Item} {k : Nat}, (∀ y ∈ r, 0 ≤ y.mass) → 0 ≤ ldS d b r k
 | [], _, _ => Int.le_refl _
 | y :: r, k, h => by
   have h1 := ldS_nn (r := r) (k := k + 1) (fun z hz => h z (List.mem_cons_of_mem _ hz))
   have h2 := h y (List.mem_cons_self ..)
   rw [ldS]; split <;> omega
theorem gtS {l : List Int} {i j : Nat} {v : Int} (hi : i < l.length) : (l.set i v).getD j 0 = if i = j then v else l.getD j 0 := by
 rw [List.getD_eq_getElem?_getD, List.getD_eq_getElem?_getD, List.getElem?_set]
 by_cases h : i = j
 · rw [if_pos h, if_pos h, if_pos (h ▸ hi)]; rfl
 · rw [if_neg h, if_neg h]
theorem getD_app {l : List Int} {j : Nat} {v : Int} : (l ++ [v]).getD j 0 = if j = l.length then v else l.getD j 0 := by
 rw [List.getD_eq_getElem?_getD, List.getD_eq_getElem?_getD, List.getElem?_append]
 by_cases h : j < l.length
 · rw [if_pos h, if_neg (by omega)]
 · rw [if_neg h]
   by_cases h2 : j = l.length
   · subst h2; rw [if_pos rfl, Nat.sub_self]; rfl
   · rw [if_neg h2, List.getElem?_eq_none (by rw [List.length_singleton]; omega), List.getElem?_eq_none (by omega)]
theorem getD_out {l : List Int} {j : Nat} (h : l.length ≤ j) : l.getD j 0 = 0 := by
 rw [List.getD_eq_getElem?_getD, List.getElem?_eq_none h]; rfl
/-- If it fits, there is an assignment. -/
theorem fits_as : ∀ {r : List Item} {ls : List Int} {k : Nat}, (∀ y ∈ r, y.mass ≤ M) → (∀ b, b < ls.length → ls.getD b 0 ≤ M) → (ls.length : Int) ≤ most → fitsV M most r ls = true →
   ∃ (d : Nat → Nat) (N : Nat), ls.length ≤ N ∧ (N : Int) ≤ most ∧ (∀ j, k ≤ j → j < k + r.length → d j < N) ∧ ∀ b, b < N → ls.getD b 0 + ldS d b r k ≤ M
 | [], ls, k, _, hl, hm, _ => ⟨fun _ => 0, ls.length, Nat.le_refl _, hm, fun j h1 h2 => by rw [List.length_nil] at h2; omega, fun b hb => by rw [ldS]; have := hl b hb; omega⟩
 | y :: r, ls, k, hy, hl, hm, hf => by
   rw [fitsV, Bool.or_eq_true] at hf
   rcases hf with hf | hf
   · obtain ⟨i, hi, hf⟩ := List.any_eq_true.1 hf
     have hi := List.mem_range.1 hi
     rw [Bool.and_eq_true, decide_eq_true_eq] at hf
     obtain ⟨d, N, h1, h2, h3, h4⟩ := fits_as (r := r) (ls := ls.set i (ls.getD i 0 + y.mass)) (k := k + 1) (fun z hz => hy z (List.mem_cons_of_mem _ hz)) (fun b hb => by
       rw [List.length_set] at hb
       rw [gtS hi]; split
       · exact hf.1
       · exact hl b hb) (by rw [List.length_set]; exact hm) hf.2
     rw [List.length_set] at h1
     refine ⟨updN k i d, N, h1, h2, fun j h5 h6 => ?_, fun b hb => ?_⟩
     · by_cases e : j = k
       · rw [e, updN_e]; omega
       · rw [updN_n e]; exact h3 j (by omega) (by rw [List.length_cons] at h6; omega)
     · have h7 := h4 b hb
       rw [gtS hi] at h7
       rw [ldS, ldS_congr (d := updN k i d) (e := d) (fun j hj => by rw [updN_n (by omega)]), updN_e]
       by_cases e : i = b
       · rw [if_pos e] at h7 ⊢; rw [← e] at h7 ⊢; omega
       · rw [if_neg e] at h7 ⊢; omega
   · rw [Bool.and_eq_true, decide_eq_true_eq] at hf
     obtain ⟨d, N, h1, h2, h3, h4⟩ := fits_as (r := r) (ls := ls ++ [y.mass]) (k := k + 1) (fun z hz => hy z (List.mem_cons_of_mem _ hz)) (fun b hb => by
       rw [List.length_append, List.length_singleton] at hb
       rw [getD_app]; split
       · exact hy y (List.mem_cons_self ..)
       · exact hl b (by omega)) (by rw [List.length_append, List.length_singleton]; omega) hf.2
     rw [List.length_append, List.length_singleton] at h1
     refine ⟨updN k ls.length d, N, by omega, h2, fun j h5 h6 => ?_, fun b hb => ?_⟩
     · by_cases e : j = k
       · rw [e, updN_e]; omega
       · rw [updN_n e]; exact h3 j (by omega) (by rw [List.length_cons] at h6; omega)
     · have h7 := h4 b hb
       rw [getD_app] at h7
       rw [ldS, ldS_congr (d := updN k ls.length d) (e := d) (fun j hj => by rw [updN_n (by omega)]), updN_e]
       by_cases e : b = ls.length
       · rw [if_pos e] at h7; rw [if_pos e.symm, getD_out (by omega)]; omega
       · rw [if_neg e] at h7; rw [if_neg (fun q => e q.symm)]; omega
/-- If there is an assignment, it fits. -/
theorem as_fits : ∀ {r : List Item} {ls : List Int} {k : Nat} {d : Nat → Nat} {N : Nat}, (∀ y ∈ r, 0 ≤ y.mass) → ls.length ≤ N → (N : Int) ≤ most → (∀ j, k ≤ j → j < k + r.length → d j < N) → (∀ b, b < N → ls.getD b 0 + ldS d b r k ≤ M) → fitsV M most r ls = true
 | [], _, _, _, _, _, _, _, _, _ => by rw [fitsV]
 | y :: r, ls, k, d, N, hy, hl, hm, hd, hb => by
   have hy0 := hy y (List.mem_cons_self ..)
   have hyr : ∀ z ∈ r, 0 ≤ z.mass := fun z hz => hy z (List.mem_cons_of_mem _ hz)
   have hk := hd k (Nat.le_refl _) (by rw [List.length_cons]; omega)
   rw [fitsV, Bool.or_eq_true]
   by_cases h : d k < ls.length
   · refine .inl (List.any_eq_true.2 ⟨d k, List.mem_range.2 h, ?_⟩)
     rw [Bool.and_eq_true, decide_eq_true_eq]
     have h1 := hb (d k) hk
     rw [ldS, if_pos rfl] at h1
     have h2 := ldS_nn (d := d) (b := d k) (r := r) (k := k + 1) hyr
     refine ⟨by omega, as_fits (k := k + 1) (d := d) (N := N) hyr (by rw [List.length_set]; exact hl) hm (fun j h3 h4 => hd j (by omega) (by rw [List.length_cons]; omega)) fun b h3 => ?_⟩
     have h4 := hb b h3
     rw [ldS] at h4
     rw [gtS h]
     by_cases e : d k = b
     · rw [if_pos e] at h4 ⊢; rw [e]; omega
     · rw [if_neg e] at h4 ⊢; omega
   · refine .inr ?_
     rw [Bool.and_eq_true, decide_eq_true_eq]
     refine ⟨by omega, as_fits (k := k + 1) (d := swpN (d k) ls.length d) (N := N) hyr (by rw [List.length_append, List.length_singleton]; omega) hm (fun j h3 h4 => ?_) fun b h3 => ?_⟩
     · have h5 := hd j (by omega) (by rw [List.length_cons]; omega)
       rw [swpN]; split
       · omega
       · split <;> omega
     · rw [getD_app]
       by_cases e : b = ls.length
       · have h4 := hb (d k) hk
         rw [ldS, if_pos rfl, getD_out (by omega)] at h4
         rw [if_pos e, ldS_two (b := b) (b' := d k) (e := d) (fun j hj => by
           subst e; rw [swpN]
           by_cases q : d j = d k
           · rw [if_pos q]; exact ⟨fun _ => q, fun _ => rfl⟩
           · rw [if_neg q]
             by_cases q2 : d j = ls.length
             · rw [if_pos q2]; exact ⟨fun p => by omega, fun p => absurd p q⟩
             · rw [if_neg q2]; exact ⟨fun p => absurd p q2, fun p => absurd p q⟩)]
         omega
       · rw [if_neg e]
         by_cases e2 : b = d k
         · have h4 := hb ls.length (by omega)
           rw [ldS, if_neg (by omega), getD_out (Nat.le_refl _)] at h4
           rw [getD_out (by omega), ldS_two (b := b) (b' := ls.length) (e := d) (fun j hj => by
             subst e2; rw [swpN]
             by_cases q : d j = d k
             · rw [if_pos q]; exact ⟨fun p => by omega, fun p => by omega⟩
             · rw [if_neg q]
               by_cases q2 : d j = ls.length
               · rw [if_pos q2]; exact ⟨fun _ => q2, fun _ => rfl⟩
               · rw [if_neg q2]; exact ⟨fun p => absurd p q, fun p => absurd p q2⟩)]
           omega
         · have h4 := hb b h3
           rw [ldS, if_neg (fun q => e2 q.symm)] at h4
           rw [ldS_two (b := b) (b' := b) (e := d) (fun j hj => by
             rw [swpN]
             by_cases q : d j = d k
             · rw [if_pos q]; exact ⟨fun p => by omega, fun p => by omega⟩
             · rw [if_neg q]
               by_cases q2 : d j = ls.length
               · rw [if_pos q2]; exact ⟨fun p => by omega, fun p => by omega⟩
               · rw [if_neg q2])]
           omega
end
end Go.Proofs.Ytigdmkhdmbbfiaa
