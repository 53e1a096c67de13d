/- Feet. No conditions. -/
import Derived.Test.YtindehoegfiiaaaGreatDoorGro
import Derived.Test.YtindehoegfiiaaaGreatDoorSel
set_option linter.unusedSimpArgs false
set_option linter.unusedVariables false
set_option maxRecDepth 100000
namespace Go.Proofs.YtindehoegfiiaaaGreatDoor
open Go Go.Pv
/-! ### The record of ground and jack -/
structure Feet where
 ground : List Ground
 jack : Jack
 deriving Inhabited
def Feet.enc (x : Feet) : List PV := [.lit true 4 (x.ground.map Ground.enc), .int x.jack.least, .int x.jack.most, .int x.jack.sole]
structure Feet.ok (x : Feet) : Prop where
 ground : x.ground.length ≤ maxLen ∧ ∀ z ∈ x.ground, z.ok
 jack : x.jack.ok
theorem Feet.pure (x : Feet) : ∀ p ∈ x.enc, Pure p := fun p hp => by
 simp only [Feet.enc, List.mem_cons, List.not_mem_nil, or_false] at hp
 rcases hp with rfl | rfl | rfl | rfl
 · exact .lit _ _ _ fun row hr => pure_map Ground.pure row hr
 · exact .sc _
 · exact .sc _
 · exact .sc _
theorem Feet.of {row : List PV} (h : CellsP Tryz.prog [71, 3, 3, 3] row) : ∃ x : Feet, row = x.enc ∧ x.ok := by
 obtain ⟨q0, l0, rfl, h0, h1⟩ := h.cons_inv
 obtain ⟨z0, rfl, w0⟩ := Ground.ofs h0
 obtain ⟨j, rfl, hj⟩ := Jack.of h1
 exact ⟨⟨z0, j⟩, rfl, ⟨w0, hj⟩⟩
theorem Feet.arg {q : PV} (h : ArgP Tryz.prog 112 q) : ∃ x : Feet, q = .agg x.enc ∧ x.ok := by
 obtain ⟨cs, rfl, h1⟩ := h.agg (by kernel_rfl) (tys := [71, 3, 3, 3]) (by kernel_rfl)
 obtain ⟨x, rfl, h2⟩ := Feet.of h1
 exact ⟨x, rfl, h2⟩
/-! ### The greatest and the least of a list -/
def mxL : List Int → Int
 | [] => 0
 | x :: l => l.foldl max x
def mnL : List Int → Int
 | [] => 0
 | x :: l => l.foldl min x
theorem fold_mx : ∀ (l : List Int) (x : Int), (l.foldl max x = x ∨ l.foldl max x ∈ l) ∧ x ≤ l.foldl max x ∧ ∀ y ∈ l, y ≤ l.foldl max x
 | [], x => ⟨.inl rfl, Int.le_refl _, fun y h => absurd h (List.not_mem_nil)⟩
 | a :: l, x => by
   have ⟨h1, h2, h3⟩ := fold_mx l (max x a)
   show (l.foldl max (max x a) = x ∨ l.foldl max (max x a) ∈ a :: l) ∧ x ≤ l.foldl max (max x a) ∧ ∀ y ∈ a :: l, y ≤ l.foldl max (max x a)
   refine ⟨?_, by omega, fun y hy => ?_⟩
   · rcases h1 with h1 | h1
     · rw [h1]
       by_cases q : x ≤ a
       · rw [show max x a = a by omega]; exact .inr (List.mem_cons_self ..)
       · exact .inl (by omega)
     · exact .inr (List.mem_cons_of_mem _ h1)
   · rcases List.mem_cons.1 hy with rfl | hy
     · omega
     · exact h3 y hy
theorem fold_mn : ∀ (l : List Int) (x : Int), (l.foldl min x = x ∨ l.foldl min x ∈ l) ∧ l.foldl min x ≤ x ∧ ∀ y ∈ l, l.foldl min x ≤ y
 | [], x => ⟨.inl rfl, Int.le_refl _, fun y h => absurd h (List.not_mem_nil)⟩
 | a :: l, x => by
   have ⟨h1, h2, h3⟩ := fold_mn l (min x a)
   show (l.foldl min (min x a) = x ∨ l.foldl min (min x a) ∈ a :: l) ∧ l.foldl min (min x a) ≤ x ∧ ∀ y ∈ a :: l, l.foldl min (min x a) ≤ y
   refine ⟨?_, by omega, fun y hy => ?_⟩
   · rcases h1 with h1 | h1
     · rw [h1]
       by_cases q : a ≤ x
       · rw [show min x a = a by omega]; exact .inr (List.mem_cons_self ..)
       · exact .inl (by omega)
     · exact .inr (List.mem_cons_of_mem _ h1)
   · rcases List.mem_cons.1 hy with rfl | hy
     · omega
     · exact h3 y hy
theorem mx_mem : ∀ {l : List Int}, 1 ≤ l.length → mxL l ∈ l
 | [], h => by simp at h
 | x :: l, _ => by
   rcases (fold_mx l x).1 with h | h
   · show l.foldl max x ∈ _; rw [h]; exact List.mem_cons_self ..
   · exact List.mem_cons_of_mem _ h
theorem mx_le : ∀ {l : List Int} {y : Int}, y ∈ l → y ≤ mxL l
 | [], _, h => absurd h (List.not_mem_nil)
 | x :: l, y, h => by
   have ⟨_, h2, h3⟩ := fold_mx l x
   rcases List.mem_cons.1 h with rfl | h
   · exact h2
   · exact h3 y h
theorem mn_mem : ∀ {l : List Int}, 1 ≤ l.length → mnL l ∈ l
 | [], h => by simp at h
 | x :: l, _ => by
   rcases (fold_mn l x).1 with h | h
   · show l.foldl min x ∈ _; rw [h]; exact List.mem_cons_self ..
   · exact List.mem_cons_of_mem _ h
theorem mn_le : ∀ {l : List Int} {y : Int}, y ∈ l → mnL l ≤ y
 | [], _, h => absurd h (List.not_mem_nil)
 | x :: l, y, h => by
   have ⟨_, h2, h3⟩ := fold_mn l x
   rcases List.mem_cons.1 h with rfl | h
   · exact h2
   · exact h3 y h
abbrev MxI (l : List Int) (k : Nat) (m : Int) : Prop := m ∈ l ∧ ∀ i, i < k → ∀ y, l[i]? = some y → y ≤ m
abbrev MnI (l : List Int) (k : Nat) (m : Int) : Prop := m ∈ l ∧ ∀ i, i < k → ∀ y, l[i]? = some y → m ≤ y
section
variable {l : List Int} {k : Nat} {m x : Int}
theorem mxI_1 (h : l[0]? = some x) : MxI l 1 x := ⟨List.mem_of_getElem? h, fun i hi y hy => by
 have q : i = 0 := by omega
 subst q; rw [h] at hy; cases hy; exact Int.le_refl _⟩
theorem mxI_0 (h : l[0]? = some x) : MxI l 0 x := ⟨List.mem_of_getElem? h, fun i hi => by omega⟩
theorem mnI_1 (h : l[0]? = some x) : MnI l 1 x := ⟨List.mem_of_getElem? h, fun i hi y hy => by
 have q : i = 0 := by omega
 subst q; rw [h] at hy; cases hy; exact Int.le_refl _⟩
theorem mxI_s (h : MxI l k m) (hx : l[k]? = some x) {n : Int} (hn : n = m ∨ n = x) (h1 : m ≤ n) (h2 : x ≤ n) : MxI l (k + 1) n := by
 refine ⟨?_, fun i hi y hy => ?_⟩
 · rcases hn with rfl | rfl
   · exact h.1
   · exact List.mem_of_getElem? hx
 · by_cases e : i = k
   · subst e; rw [hx] at hy; cases hy; exact h2
   · exact Int.le_trans (h.2 i (by omega) y hy) h1
theorem mnI_s (h : MnI l k m) (hx : l[k]? = some x) {n : Int} (hn : n = m ∨ n = x) (h1 : n ≤ m) (h2 : n ≤ x) : MnI l (k + 1) n := by
 refine ⟨?_, fun i hi y hy => ?_⟩
 · rcases hn with rfl | rfl
   · exact h.1
   · exact List.mem_of_getElem? hx
 · by_cases e : i = k
   · subst e; rw [hx] at hy; cases hy; exact h2
   · exact Int.le_trans h1 (h.2 i (by omega) y hy)
theorem mxI_e (h : MxI l k m) (hk : l.length ≤ k) : m = mxL l := by
 have hl : 1 ≤ l.length := List.length_pos_of_mem h.1
 obtain ⟨i, hi, he⟩ := List.getElem_of_mem (mx_mem hl)
 have h1 := h.2 i (by omega) _ (List.getElem?_eq_getElem hi)
 have h2 := mx_le h.1
 omega
theorem mnI_e (h : MnI l k m) (hk : l.length ≤ k) : m = mnL l := by
 have hl : 1 ≤ l.length := List.length_pos_of_mem h.1
 obtain ⟨i, hi, he⟩ := List.getElem_of_mem (mn_mem hl)
 have h1 := h.2 i (by omega) _ (List.getElem?_eq_getElem hi)
 have h2 := mn_le h.1
 omega
end
/-! ### Feet and jacks -/
def hgtAt (l : List Ground) (x : Int) : Int := (l.getD (stX l x).toNat default).height
def offB (l : List Ground) (x : Int) : Bool := decide (stX l x < 0)
def jackE (j : Jack) : Int := if ¬ (0 ≤ j.least ∧ j.least ≤ 10000) ∨ ¬ (0 ≤ j.most ∧ j.most ≤ 10000) ∨ ¬ (0 ≤ j.sole ∧ j.sole ≤ 10000) ∨ j.most < j.least then 2 else 0
def feetE (g : Grid) (l : List Ground) (j : Jack) : Int :=
 if gridE g ≠ 0 then gridE g else if groundE l ≠ 0 then groundE l else if jackE j ≠ 0 then jackE j else if g.along.any (offB l) = true then 6 else 0
def ftX (f : Int → Int) (g : Grid) (l : List Ground) (j : Jack) : List Int × Int := if feetE g l j ≠ 0 then ([], feetE g l j) else (g.along.map f, 0)
def ftS (l : List Ground) (j : Jack) (x : Int) : Int := hgtAt l x + j.sole
def datX (g : Grid) (l : List Ground) (j : Jack) : Int × Int :=
 if feetE g l j ≠ 0 then (0, feetE g l j)
 else if mnL (g.along.map (ftS l j)) + j.most < mxL (g.along.map (ftS l j)) + j.least then (0, 20)
 else (mxL (g.along.map (ftS l j)) + j.least, 0)
def extB (j : Jack) (d n : Int) : Bool := decide (j.least ≤ d - n ∧ d - n ≤ j.most)
def jckX (g : Grid) (l : List Ground) (j : Jack) (d : Int) : List Int × Int :=
 if feetE g l j ≠ 0 then ([], feetE g l j)
 else if ¬ (-2000000 ≤ d ∧ d ≤ 2000000) then ([], 2)
 else if (g.along.map (ftS l j)).all (extB j d) = true then ((g.along.map (ftS l j)).map (fun n => d - n), 0) else ([], 20)
theorem ci_clean (a : Int) : ∀ p ∈ ci a, Go.Pv.Clean p ∧ p.cell = true := fun p hp => by
 simp only [ci, List.mem_cons, List.not_mem_nil, or_false] at hp
 subst hp; exact ⟨.sc _, rfl⟩
theorem li_oe {h : Heap} {e : Int} {x : List Int × Int} (hx : x = ([], e)) : Out h (.tup [.nil, .int e]) (.tup [.lit false 1 (x.1.map ci), .int x.2]) := by
 subst hx; exact out_2 (.nil 1) (out_i rfl)
theorem li_o {h : Heap} {v : PV} {d : Nat} {x : List Int × Int} {l : List Int} (hv : SliceAt h d v 1 (l.map ci)) (hx : x = (l, 0)) : Out h (.tup [v, .int 0]) (.tup [.lit false 1 (x.1.map ci), .int x.2]) := by
 subst hx; exact out_2 (out_slice hv rfl (fun _ => rfl) ci_clean) (out_i rfl)
section
variable {g : Grid} {l : List Ground} {j : Jack} {x d n : Int} {f : Int → Int} {k : Nat} {xs : List Int} {s : Ground}
theorem tk_s (hx : xs[k]? = some x) : (xs.take (k + 1)).map f = (xs.take k).map f ++ [f x] := by
 obtain ⟨hk, rfl⟩ := List.getElem?_eq_some_iff.1 hx
 rw [List.take_succ_eq_append_getElem hk, List.map_append]; rfl
theorem tk_e (hk : xs.length ≤ k) : (xs.take k).map f = xs.map f := by rw [List.take_of_length_le hk]
theorem ftS_at (hs : l[(stX l x).toNat]? = some s) : ftS l j x = s.height + j.sole := by rw [ftS, hgtAt, gat hs]
theorem hgtAt_at (hs : l[(stX l x).toNat]? = some s) : hgtAt l x = s.height := by rw [hgtAt, gat hs]
theorem feE_g (h : gridE g ≠ 0) : feetE g l j = gridE g := by rw [feetE, if_pos h]
theorem feE_r (h : gridE g = 0) (h1 : groundE l ≠ 0) : feetE g l j = groundE l := by rw [feetE, if_neg (fun q => q h), if_pos h1]
theorem feE_j (h : gridE g = 0) (h1 : groundE l = 0) (h2 : jackE j ≠ 0) : feetE g l j = jackE j := by rw [feetE, if_neg (fun q => q h), if_neg (fun q => q h1), if_pos h2]
theorem feE_m (h : gridE g = 0) (h1 : groundE l = 0) (h2 : jackE j = 0) (h3 : g.along.any (offB l) = true) : feetE g l j = 6 := by
 rw [feetE, if_neg (fun q => q h), if_neg (fun q => q h1), if_neg (fun q => q h2), if_pos h3]
theorem feE_0 (h : gridE g = 0) (h1 : groundE l = 0) (h2 : jackE j = 0) (h3 : g.along.any (offB l) = false) : feetE g l j = 0 := by
 rw [feetE, if_neg (fun q => q h), if_neg (fun q => q h1), if_neg (fun q => q h2), if_neg (by rw [h3]; decide)]
theorem fe_inv (h : feetE g l j = 0) : gridE g = 0 ∧ groundE l = 0 ∧ jackE j = 0 ∧ g.along.any (offB l) = false := by
 by_cases h1 : gridE g = 0
 · by_cases h2 : groundE l = 0
   · by_cases h3 : jackE j = 0
     · cases h4 : g.along.any (offB l) with
       | false => exact ⟨h1, h2, h3, rfl⟩
       | true => rw [feE_m h1 h2 h3 h4] at h; cases h
     · rw [feE_j h1 h2 h3] at h; exact absurd h h3
   · rw [feE_r h1 h2] at h; exact absurd h h2
 · rw [feE_g h1] at h; exact absurd h h1
theorem jk_2 (h : ¬ ((0 ≤ j.least ∧ j.least ≤ 10000) ∧ (0 ≤ j.most ∧ j.most ≤ 10000) ∧ (0 ≤ j.sole ∧ j.sole ≤ 10000) ∧ j.least ≤ j.most)) : jackE j = 2 := by rw [jackE, if_pos (by omega)]
theorem jk_0 (h : (0 ≤ j.least ∧ j.least ≤ 10000) ∧ (0 ≤ j.most ∧ j.most ≤ 10000) ∧ (0 ≤ j.sole ∧ j.sole ≤ 10000) ∧ j.least ≤ j.most) : jackE j = 0 := by rw [jackE, if_neg (by omega)]
theorem jk_inv (h : jackE j = 0) : (0 ≤ j.least ∧ j.least ≤ 10000) ∧ (0 ≤ j.most ∧ j.most ≤ 10000) ∧ (0 ≤ j.sole ∧ j.sole ≤ 10000) ∧ j.least ≤ j.most := by
 by_cases q : (0 ≤ j.least ∧ j.least ≤ 10000) ∧ (0 ≤ j.most ∧ j.most ≤ 10000) ∧ (0 ≤ j.sole ∧ j.sole ≤ 10000) ∧ j.least ≤ j.most
 · exact q
 · rw [jk_2 q] at h; cases h
theorem hg_b (h : groundE l = 0) (h0 : 0 ≤ stX l x) : -1000000 ≤ hgtAt l x ∧ hgtAt l x ≤ 1000000 := by
 have h1 := gr_len h
 have h2 := stX_lt (x := x) h1.1
 have hs : l[(stX l x).toNat]? = some (l.getD (stX l x).toNat default) := by rw [List.getD_eq_getElem?_getD, List.getElem?_eq_getElem (by omega)]; rfl
 exact (gr_at h hs).1.2.2.1
theorem off_no (h : g.along.any (offB l) = false) (hx : x ∈ g.along) : 0 ≤ stX l x := by
 rw [List.any_eq_false] at h
 have := h x hx
 rw [offB, decide_eq_true_eq] at this; omega
/-- what is in the list of the feet lies in bounds -/
theorem ft_b (h : feetE g l j = 0) (hn : n ∈ g.along.map (ftS l j)) : -1000000 ≤ n ∧ n ≤ 1010000 := by
 obtain ⟨h1, h2, h3, h4⟩ := fe_inv h
 obtain ⟨y, hy, rfl⟩ := List.mem_map.1 hn
 have := hg_b h2 (off_no h4 hy)
 have := jk_inv h3
 show _ ≤ hgtAt l y + j.sole ∧ hgtAt l y + j.sole ≤ _
 omega
theorem ht_b (h : feetE g l j = 0) (hn : n ∈ g.along.map (hgtAt l)) : -1000000 ≤ n ∧ n ≤ 1000000 := by
 obtain ⟨h1, h2, h3, h4⟩ := fe_inv h
 obtain ⟨y, hy, rfl⟩ := List.mem_map.1 hn
 exact hg_b h2 (off_no h4 hy)
theorem fe_len (h : feetE g l j = 0) : 1 ≤ g.along.length ∧ g.along.length ≤ 60 := by
 have := (grd_shape (fe_inv h).1).2; omega
/-- the greatest foot is the greatest height with the sole -/
theorem mx_ft (h : 1 ≤ g.along.length) : mxL (g.along.map (ftS l j)) = mxL (g.along.map (hgtAt l)) + j.sole := by
 obtain ⟨y, hy, e⟩ := List.mem_map.1 (mx_mem (l := g.along.map (ftS l j)) (by simpa using h))
 obtain ⟨z, hz, e2⟩ := List.mem_map.1 (mx_mem (l := g.along.map (hgtAt l)) (by simpa using h))
 have h1 := mx_le (List.mem_map_of_mem (f := ftS l j) hz)
 have h2 := mx_le (List.mem_map_of_mem (f := hgtAt l) hy)
 simp only [ftS] at e h1
 omega
/-- one datum serves all feet just if the least foot is not too low -/
theorem all_ext (h : 1 ≤ g.along.length) (hj : j.least ≤ j.most) : (g.along.map (ftS l j)).all (extB j (mxL (g.along.map (ftS l j)) + j.least)) = decide (mxL (g.along.map (ftS l j)) + j.least ≤ mnL (g.along.map (ftS l j)) + j.most) := by
 have h0 : 1 ≤ (g.along.map (ftS l j)).length := by simpa using h
 rw [Bool.eq_iff_iff, List.all_eq_true, decide_eq_true_eq]
 constructor
 · intro q
   have := q _ (mn_mem h0)
   rw [extB, decide_eq_true_eq] at this; omega
 · intro q n hn
   have h1 := mx_le hn; have h2 := mn_le hn
   rw [extB, decide_eq_true_eq]; omega
theorem ext_all {d : Int} : (g.along.map (ftS l j)).all (extB j d) = (g.along.map (hgtAt l)).all (fun n => decide (j.least ≤ d - n - j.sole ∧ d - n - j.sole ≤ j.most)) := by
 rw [List.all_map, List.all_map]
 congr 1
 funext y
 show decide (j.least ≤ d - (hgtAt l y + j.sole) ∧ d - (hgtAt l y + j.sole) ≤ j.most) = decide (j.least ≤ d - hgtAt l y - j.sole ∧ d - hgtAt l y - j.sole ≤ j.most)
 rw [Bool.eq_iff_iff, decide_eq_true_eq, decide_eq_true_eq]
 omega
theorem ext_map {d : Int} : (g.along.map (ftS l j)).map (fun n => d - n) = (g.along.map (hgtAt l)).map (fun n => d - n - j.sole) := by
 rw [List.map_map, List.map_map]
 congr 1
 funext y
 show d - (hgtAt l y + j.sole) = d - hgtAt l y - j.sole
 omega
end
section
variable {g : Grid} {l : List Ground} {j : Jack} {d : Int} {f : Int → Int}
theorem ftX_e {e : Int} (h : feetE g l j = e) (he : e ≠ 0) : ftX f g l j = ([], e) := by subst h; rw [ftX, if_pos he]
theorem ftX_0 (h : feetE g l j = 0) : ftX f g l j = (g.along.map f, 0) := by rw [ftX, if_neg (fun q => q h)]
theorem ftX_c (f : Int → Int) (g : Grid) (l : List Ground) (j : Jack) : (feetE g l j ≠ 0 ∧ (ftX f g l j).1 = [] ∧ (ftX f g l j).2 = feetE g l j) ∨ (feetE g l j = 0 ∧ (ftX f g l j).1 = g.along.map f ∧ (ftX f g l j).2 = 0) := by
 by_cases h : feetE g l j = 0
 · rw [ftX_0 h]; exact .inr ⟨h, rfl, rfl⟩
 · rw [ftX_e rfl h]; exact .inl ⟨h, rfl, rfl⟩
theorem ftX_len (ha : g.along.length ≤ 100) : (ftX f g l j).1.length ≤ 100 := by
 rcases ftX_c f g l j with ⟨_, h, _⟩ | ⟨_, h, _⟩ <;> rw [h]
 · exact Nat.zero_le _
 · rw [List.length_map]; exact ha
theorem dat_c (g : Grid) (l : List Ground) (j : Jack) : (feetE g l j ≠ 0 ∧ (datX g l j).1 = 0 ∧ (datX g l j).2 = feetE g l j) ∨
   (feetE g l j = 0 ∧ mnL (g.along.map (ftS l j)) + j.most < mxL (g.along.map (ftS l j)) + j.least ∧ (datX g l j).1 = 0 ∧ (datX g l j).2 = 20) ∨
   (feetE g l j = 0 ∧ mxL (g.along.map (ftS l j)) + j.least ≤ mnL (g.along.map (ftS l j)) + j.most ∧ (datX g l j).1 = mxL (g.along.map (ftS l j)) + j.least ∧ (datX g l j).2 = 0) := by
 by_cases h : feetE g l j = 0
 · by_cases h2 : mnL (g.along.map (ftS l j)) + j.most < mxL (g.along.map (ftS l j)) + j.least
   · rw [datX, if_neg (fun q => q h), if_pos h2]; exact .inr (.inl ⟨h, h2, rfl, rfl⟩)
   · rw [datX, if_neg (fun q => q h), if_neg h2]; exact .inr (.inr ⟨h, by omega, rfl, rfl⟩)
 · rw [datX, if_pos h]; exact .inl ⟨h, rfl, rfl⟩
theorem jck_c (g : Grid) (l : List Ground) (j : Jack) (d : Int) : (feetE g l j ≠ 0 ∧ (jckX g l j d) = ([], feetE g l j)) ∨
   (feetE g l j = 0 ∧ ¬ (-2000000 ≤ d ∧ d ≤ 2000000) ∧ (jckX g l j d) = ([], 2)) ∨
   (feetE g l j = 0 ∧ (-2000000 ≤ d ∧ d ≤ 2000000) ∧ (g.along.map (ftS l j)).all (extB j d) = true ∧ (jckX g l j d) = ((g.along.map (ftS l j)).map (fun n => d - n), 0)) ∨
   (feetE g l j = 0 ∧ (-2000000 ≤ d ∧ d ≤ 2000000) ∧ (g.along.map (ftS l j)).all (extB j d) = false ∧ (jckX g l j d) = ([], 20)) := by
 by_cases h : feetE g l j = 0
 · by_cases h2 : -2000000 ≤ d ∧ d ≤ 2000000
   · cases h3 : (g.along.map (ftS l j)).all (extB j d) with
     | true => rw [jckX, if_neg (fun q => q h), if_neg (fun q => q h2), if_pos h3]; exact .inr (.inr (.inl ⟨h, h2, rfl, rfl⟩))
     | false => rw [jckX, if_neg (fun q => q h), if_neg (fun q => q h2), if_neg (by rw [h3]; decide)]; exact .inr (.inr (.inr ⟨h, h2, rfl, rfl⟩))
   · rw [jckX, if_neg (fun q => q h), if_pos h2]; exact .inr (.inl ⟨h, h2, rfl⟩)
 · rw [jckX, if_pos h]; exact .inl ⟨h, rfl⟩
theorem all_f {K : Int → Bool} {l : List Int} {k : Nat} {x : Int} (hx : l[k]? = some x) (h : K x = false) : l.all K = false := by
 cases q : l.all K with
 | false => rfl
 | true => rw [List.all_eq_true.1 q x (List.mem_of_getElem? hx)] at h; cases h
theorem all_t {K : Int → Bool} {l : List Int} {k : Nat} (h : ∀ i, i < k → ∀ y, l[i]? = some y → K y = true) (hk : l.length ≤ k) : l.all K = true := by
 rw [List.all_eq_true]
 intro y hy
 obtain ⟨i, hi, rfl⟩ := List.getElem_of_mem hy
 exact h i (by omega) _ (List.getElem?_eq_getElem hi)
theorem nt_step {K : Int → Bool} {l : List Int} {k : Nat} {x : Int} (h : ∀ i, i < k → ∀ y, l[i]? = some y → K y = true) (hx : l[k]? = some x) (h2 : K x = true) : ∀ i, i < k + 1 → ∀ y, l[i]? = some y → K y = true := fun i hi y hy => by
 by_cases e : i = k
 · subst e; rw [hx] at hy; cases hy; exact h2
 · exact h i (by omega) y hy
theorem tka_s {K : Int → Bool} {l : List Int} {k : Nat} {x : Int} (hx : l[k]? = some x) : (l.take (k + 1)).all K = ((l.take k).all K && K x) := by
 obtain ⟨hk, rfl⟩ := List.getElem?_eq_some_iff.1 hx
 rw [List.take_succ_eq_append_getElem hk, List.all_append]
 simp
end
/-! ### The document's extensions -/
def xtB (j : Jack) (d n : Int) : Bool := decide (j.least ≤ d - n - j.sole ∧ d - n - j.sole ≤ j.most)
def xtL (j : Jack) (d n : Int) : Int := d - n - j.sole
def dat0 (g : Grid) (l : List Ground) (j : Jack) : Int := mxL (g.along.map (hgtAt l)) + j.sole + j.least
section
variable {g : Grid} {l : List Ground} {j : Jack} {d : Int}
theorem jk_facts (h : feetE g l j = 0) (d : Int) : (¬ (-2000000 ≤ d ∧ d ≤ 2000000) → (jckX g l j d).1.length = 0 ∧ (jckX g l j d).2 = 2) ∧
   ((-2000000 ≤ d ∧ d ≤ 2000000) → (g.along.map (hgtAt l)).all (xtB j d) = false → (jckX g l j d).1.length = 0 ∧ (jckX g l j d).2 = 20) ∧
   ((-2000000 ≤ d ∧ d ≤ 2000000) → (g.along.map (hgtAt l)).all (xtB j d) = true → (jckX g l j d).1 = (g.along.map (hgtAt l)).map (xtL j d) ∧ (jckX g l j d).2 = 0) := by
 have e1 : (g.along.map (ftS l j)).all (extB j d) = (g.along.map (hgtAt l)).all (xtB j d) := ext_all
 have e2 : (g.along.map (ftS l j)).map (fun n => d - n) = (g.along.map (hgtAt l)).map (xtL j d) := ext_map
 rcases jck_c g l j d with ⟨q, _⟩ | ⟨_, q, e⟩ | ⟨_, q, a, e⟩ | ⟨_, q, a, e⟩
 · exact absurd h q
 · rw [e]; exact ⟨fun _ => ⟨rfl, rfl⟩, fun r => absurd r q, fun r => absurd r q⟩
 · rw [e, e2, ← e1, a]; exact ⟨fun r => absurd q r, fun _ r => absurd r (by decide), fun _ _ => ⟨rfl, rfl⟩⟩
 · rw [e, ← e1, a]; exact ⟨fun r => absurd q r, fun _ _ => ⟨rfl, rfl⟩, fun _ r => absurd r (by decide)⟩
theorem dat0_b (h : feetE g l j = 0) : (-1000000 ≤ mxL (g.along.map (hgtAt l)) ∧ mxL (g.along.map (hgtAt l)) ≤ 1000000) ∧ dat0 g l j = mxL (g.along.map (ftS l j)) + j.least ∧ -2000000 ≤ dat0 g l j ∧ dat0 g l j ≤ 2000000 := by
 have h1 := fe_len h
 have h2 := ht_b h (mx_mem (l := g.along.map (hgtAt l)) (by rw [List.length_map]; omega))
 have h3 := jk_inv (fe_inv h).2.2.1
 have h4 := mx_ft (g := g) (l := l) (j := j) h1.1
 rw [dat0]
 omega
theorem dat_facts (h : feetE g l j = 0) : ((g.along.map (hgtAt l)).all (xtB j (dat0 g l j)) = false → (datX g l j).1 = 0 ∧ (datX g l j).2 = 20) ∧
   ((g.along.map (hgtAt l)).all (xtB j (dat0 g l j)) = true → (datX g l j).1 = dat0 g l j ∧ (datX g l j).2 = 0 ∧ (jckX g l j (datX g l j).1).2 = 0 ∧ ((jckX g l j (datX g l j).1).1.any fun y => decide (y = j.least)) = true) := by
 have h1 := fe_len h
 have h3 := jk_inv (fe_inv h).2.2.1
 obtain ⟨_, hd, hb⟩ := dat0_b h
 have e1 : (g.along.map (ftS l j)).all (extB j (dat0 g l j)) = (g.along.map (hgtAt l)).all (xtB j (dat0 g l j)) := ext_all
 have e2 := all_ext (g := g) (l := l) (j := j) h1.1 h3.2.2.2
 rw [← hd, e1] at e2
 rcases dat_c g l j with ⟨q, _⟩ | ⟨_, q, r1, r2⟩ | ⟨_, q, r1, r2⟩
 · exact absurd h q
 · rw [e2]
   exact ⟨fun _ => ⟨r1, r2⟩, fun r => by rw [decide_eq_true_eq] at r; omega⟩
 · rw [r1, r2, ← hd, e2]
   refine ⟨fun r => ?_, fun r => ⟨rfl, rfl, ?_⟩⟩
   · rw [decide_eq_false_iff_not] at r; omega
   · have q2 := (jk_facts h (dat0 g l j)).2.2 hb (by rw [e2]; exact r)
     refine ⟨q2.2, ?_⟩
     rw [q2.1]
     have hm := mx_mem (l := g.along.map (hgtAt l)) (by rw [List.length_map]; omega)
     refine List.any_eq_true.2 ⟨j.least, List.mem_map.2 ⟨_, hm, ?_⟩, decide_eq_true rfl⟩
     rw [xtL, dat0]; omega
end
theorem jck_len {g : Grid} {l : List Ground} {j : Jack} (d : Int) (ha : g.along.length ≤ 100) : (jckX g l j d).1.length ≤ 100 := by
 rcases jck_c g l j d with ⟨_, e⟩ | ⟨_, _, e⟩ | ⟨_, _, _, e⟩ | ⟨_, _, _, e⟩ <;> rw [e] <;> first | exact Nat.zero_le _ | (rw [List.length_map, List.length_map]; exact ha)
theorem jck_c0 (g : Grid) (l : List Ground) (j : Jack) (d : Int) : feetE g l j = 0 ∨ ((jckX g l j d).1.length = 0 ∧ (jckX g l j d).2 = feetE g l j) := by
 rcases jck_c g l j d with ⟨_, e⟩ | ⟨h, _⟩ | ⟨h, _⟩ | ⟨h, _⟩
 · rw [e]; exact .inr ⟨rfl, rfl⟩
 · exact .inl h
 · exact .inl h
 · exact .inl h

theorem fr107 : (inFrame Tryz.f107.ntmps (Tryz.f107.body.getD .skip) && Tryz.f107.results.toList.all (resScope Tryz.f107.ntmps)) = true := by kernel_rfl
theorem MaxC (t : Bool) (xs : List Int) (h1 : 1 ≤ xs.length) (hl : xs.length ≤ 1000000) : PCalls Tryz.prog 107 [.lit t 1 (xs.map ci)] (.int (mxL xs)) := by
 refine PCalls.of_code Tryz.func107 rfl rfl (by kernel_rfl) mixed fr107 (by show _ ≤ 25; simp) (.sc _) ?_
 obtain ⟨z, hz⟩ : ∃ z, xs[0]? = some z := ⟨_, List.getElem?_eq_getElem (by omega)⟩
 refine pwp_seq_plain rfl fun K1 hK1 => ?_
 refine p_aS rfl ?_
 refine p_end (hK1 _ ?_); clear hK1 K1
 refine pwp_seq_seq ?_
 refine pwp_seq_plain rfl fun K2 hK2 => ?_
 refine p_e rfl (e_move (v := .lit _ _ _) rfl) ?_
 refine p_e rfl (e_len rfl (by kernel_rfl)) ?_
 refine p_e rfl (e_lt rfl rfl) ?_
 refine p_end (hK2 _ ?_); clear hK2 K2
 refine pwp_seq_cond rfl fun K3 hK3 => ⟨fun hb4 => ?_, fun hb4 => ?_⟩
 ·have hb4R := hb4; try simp only [zz] at hb4
  exfalso; simp only [List.length_map] at *; omega
 ·have hb4R := hb4; try simp only [zz] at hb4
  refine pwp_skip ?_
  refine seq_norm (hK3 _ ?_); clear hK3 K3
  refine pwp_seq_plain rfl fun K5 hK5 => ?_
  refine p_e rfl (e_move (v := .lit _ _ _) rfl) ?_
  refine p_e rfl (e_ixL rfl rfl) ?_
  refine p_e rfl (e_load (v := .sc _) rfl (by kernel_rfl) (by kernel_rfl) (by kernel_rfl) (by first | omega | (simp only [List.length_map]; omega)) (by decide) ((cell_map hz _).trans rfl)) ?_
  refine p_aS rfl ?_
  refine p_end (hK5 _ ?_); clear hK5 K5
  refine pwp_seq_seq ?_
  refine pwp_seq_plain rfl fun K6 hK6 => ?_
  refine p_aS rfl ?_
  refine p_end (hK6 _ ?_); clear hK6 K6
  refine pwp_seq_block fun K7 hK7 => ?_
  refine pwp_loopR (α := Nat × Int) [0] (fun (a8 : Nat × Int) => [(3, .int (a8.2)), (4, .int (a8.1))]) (fun (a8 : Nat × Int) (h : Heap) (_ : Nat → Nat) => ((a8.1) ≤ xs.length) ∧ (MxI xs (a8.1) (a8.2))) (fun (a8 : Nat × Int) => xs.length - (a8.1)) (1, z) (by exact ⟨rfl, rfl, trivial⟩) (by exact ⟨by first | exact Nat.zero_le _ | omega, by exact mxI_1 hz⟩) fun a8 r9 h10 c11 hj12 => ?_
  obtain ⟨k, m⟩ := a8
  obtain ⟨hk, hin⟩ := hj12
  try dsimp only at hk
  try dsimp only at hin
  show pwp _ _ (loopQ _ _ _) ⟨sets (mix _ _ _) [(3, .int m), (4, .int k)], _, _⟩
  refine pwp_seq_seq ?_
  refine pwp_seq_plain rfl fun K13 hK13 => ?_
  refine p_mS rfl ?_
  refine p_e rfl (e_move (v := .lit _ _ _) rfl) ?_
  refine p_e rfl (e_len rfl (by kernel_rfl)) ?_
  refine p_e rfl (e_lt rfl rfl) ?_
  refine p_end (hK13 _ ?_); clear hK13 K13
  refine pwp_seq_cond rfl fun K14 hK14 => ⟨fun hb15 => ?_, fun hb15 => ?_⟩
  ·have hb15R := hb15; try simp only [zz] at hb15
   obtain ⟨x, hx, hd, ht⟩ := get_lt (xs := xs) (i := k) (by omega)
   refine pwp_skip ?_
   refine seq_norm (hK14 _ ?_); clear hK14 K14
   refine pwp_seq_block fun K16 hK16 => ?_
   refine pwp_plain rfl fun K17 hK17 => ?_
   refine p_mS rfl ?_
   refine p_e rfl (e_move (v := .lit _ _ _) rfl) ?_
   refine p_mS rfl ?_
   refine p_e rfl (e_ixL rfl rfl) ?_
   refine p_e rfl (e_load (v := .sc _) rfl (by kernel_rfl) (by kernel_rfl) (by kernel_rfl) (by first | omega | (simp only [List.length_map]; omega)) (by decide) ((cell_map hx _).trans rfl)) ?_
   refine p_e rfl (e_max rfl rfl) ?_
   refine p_aS rfl ?_
   refine p_end (hK17 _ ?_); clear hK17 K17
   refine block_norm ?_
   refine seq_norm (hK16 _ ?_); clear hK16 K16
   refine pwp_plain rfl fun K18 hK18 => ?_
   refine p_mS rfl ?_
   refine p_e rfl (e_adL rfl rfl) ?_
   refine p_aS rfl ?_
   refine p_end (hK18 _ ?_); clear hK18 K18
   exact loop_again ((k + 1, (max m x))) (by show _ < _; simp only; omega) ⟨rfl, trivial⟩ ⟨rfl, rfl, trivial⟩ (by exact ⟨by show _ + 1 ≤ _; simp only [List.length_map] at *; omega, by exact mxI_s hin hx (by omega) (by omega) (by omega)⟩)
  ·have hb15R := hb15; try simp only [zz] at hb15
   refine pwp_exit ?_
   refine exit_seq ?_
   clear hK14 K14
   refine exit_loop ?_
   refine exit_here ?_
   refine seq_norm (hK7 _ ?_); clear hK7 K7
   refine pwp_seq_plain rfl fun K19 hK19 => ?_
   refine p_mS rfl ?_
   refine p_aS rfl ?_
   refine p_end (hK19 _ ?_); clear hK19 K19
   refine pwp_ret ?_
   refine end1 (v := .sc _) rfl ?_
   exact out_i (mxI_e hin (by simp only [List.length_map] at *; omega))

theorem fr108 : (inFrame Tryz.f108.ntmps (Tryz.f108.body.getD .skip) && Tryz.f108.results.toList.all (resScope Tryz.f108.ntmps)) = true := by kernel_rfl
theorem MinC (t : Bool) (xs : List Int) (h1 : 1 ≤ xs.length) (hl : xs.length ≤ 1000000) : PCalls Tryz.prog 108 [.lit t 1 (xs.map ci)] (.int (mnL xs)) := by
 refine PCalls.of_code Tryz.func108 rfl rfl (by kernel_rfl) mixed fr108 (by show _ ≤ 25; simp) (.sc _) ?_
 obtain ⟨z, hz⟩ : ∃ z, xs[0]? = some z := ⟨_, List.getElem?_eq_getElem (by omega)⟩
 refine pwp_seq_plain rfl fun K1 hK1 => ?_
 refine p_aS rfl ?_
 refine p_end (hK1 _ ?_); clear hK1 K1
 refine pwp_seq_seq ?_
 refine pwp_seq_plain rfl fun K2 hK2 => ?_
 refine p_e rfl (e_move (v := .lit _ _ _) rfl) ?_
 refine p_e rfl (e_len rfl (by kernel_rfl)) ?_
 refine p_e rfl (e_lt rfl rfl) ?_
 refine p_end (hK2 _ ?_); clear hK2 K2
 refine pwp_seq_cond rfl fun K3 hK3 => ⟨fun hb4 => ?_, fun hb4 => ?_⟩
 ·have hb4R := hb4; try simp only [zz] at hb4
  exfalso; simp only [List.length_map] at *; omega
 ·have hb4R := hb4; try simp only [zz] at hb4
  refine pwp_skip ?_
  refine seq_norm (hK3 _ ?_); clear hK3 K3
  refine pwp_seq_plain rfl fun K5 hK5 => ?_
  refine p_e rfl (e_move (v := .lit _ _ _) rfl) ?_
  refine p_e rfl (e_ixL rfl rfl) ?_
  refine p_e rfl (e_load (v := .sc _) rfl (by kernel_rfl) (by kernel_rfl) (by kernel_rfl) (by first | omega | (simp only [List.length_map]; omega)) (by decide) ((cell_map hz _).trans rfl)) ?_
  refine p_aS rfl ?_
  refine p_end (hK5 _ ?_); clear hK5 K5
  refine pwp_seq_seq ?_
  refine pwp_seq_plain rfl fun K6 hK6 => ?_
  refine p_aS rfl ?_
  refine p_end (hK6 _ ?_); clear hK6 K6
  refine pwp_seq_block fun K7 hK7 => ?_
  refine pwp_loopR (α := Nat × Int) [0] (fun (a8 : Nat × Int) => [(3, .int (a8.2)), (4, .int (a8.1))]) (fun (a8 : Nat × Int) (h : Heap) (_ : Nat → Nat) => ((a8.1) ≤ xs.length) ∧ (MnI xs (a8.1) (a8.2))) (fun (a8 : Nat × Int) => xs.length - (a8.1)) (1, z) (by exact ⟨rfl, rfl, trivial⟩) (by exact ⟨by first | exact Nat.zero_le _ | omega, by exact mnI_1 hz⟩) fun a8 r9 h10 c11 hj12 => ?_
  obtain ⟨k, m⟩ := a8
  obtain ⟨hk, hin⟩ := hj12
  try dsimp only at hk
  try dsimp only at hin
  show pwp _ _ (loopQ _ _ _) ⟨sets (mix _ _ _) [(3, .int m), (4, .int k)], _, _⟩
  refine pwp_seq_seq ?_
  refine pwp_seq_plain rfl fun K13 hK13 => ?_
  refine p_mS rfl ?_
  refine p_e rfl (e_move (v := .lit _ _ _) rfl) ?_
  refine p_e rfl (e_len rfl (by kernel_rfl)) ?_
  refine p_e rfl (e_lt rfl rfl) ?_
  refine p_end (hK13 _ ?_); clear hK13 K13
  refine pwp_seq_cond rfl fun K14 hK14 => ⟨fun hb15 => ?_, fun hb15 => ?_⟩
  ·have hb15R := hb15; try simp only [zz] at hb15
   obtain ⟨x, hx, hd, ht⟩ := get_lt (xs := xs) (i := k) (by omega)
   refine pwp_skip ?_
   refine seq_norm (hK14 _ ?_); clear hK14 K14
   refine pwp_seq_block fun K16 hK16 => ?_
   refine pwp_plain rfl fun K17 hK17 => ?_
   refine p_mS rfl ?_
   refine p_e rfl (e_move (v := .lit _ _ _) rfl) ?_
   refine p_mS rfl ?_
   refine p_e rfl (e_ixL rfl rfl) ?_
   refine p_e rfl (e_load (v := .sc _) rfl (by kernel_rfl) (by kernel_rfl) (by kernel_rfl) (by first | omega | (simp only [List.length_map]; omega)) (by decide) ((cell_map hx _).trans rfl)) ?_
   refine p_e rfl (e_min rfl rfl) ?_
   refine p_aS rfl ?_
   refine p_end (hK17 _ ?_); clear hK17 K17
   refine block_norm ?_
   refine seq_norm (hK16 _ ?_); clear hK16 K16
   refine pwp_plain rfl fun K18 hK18 => ?_
   refine p_mS rfl ?_
   refine p_e rfl (e_adL rfl rfl) ?_
   refine p_aS rfl ?_
   refine p_end (hK18 _ ?_); clear hK18 K18
   exact loop_again ((k + 1, (min m x))) (by show _ < _; simp only; omega) ⟨rfl, trivial⟩ ⟨rfl, rfl, trivial⟩ (by exact ⟨by show _ + 1 ≤ _; simp only [List.length_map] at *; omega, by exact mnI_s hin hx (by omega) (by omega) (by omega)⟩)
  ·have hb15R := hb15; try simp only [zz] at hb15
   refine pwp_exit ?_
   refine exit_seq ?_
   clear hK14 K14
   refine exit_loop ?_
   refine exit_here ?_
   refine seq_norm (hK7 _ ?_); clear hK7 K7
   refine pwp_seq_plain rfl fun K19 hK19 => ?_
   refine p_mS rfl ?_
   refine p_aS rfl ?_
   refine p_end (hK19 _ ?_); clear hK19 K19
   refine pwp_ret ?_
   refine end1 (v := .sc _) rfl ?_
   exact out_i (mnI_e hin (by simp only [List.length_map] at *; omega))

theorem fr36 : (inFrame Tryz.f36.ntmps (Tryz.f36.body.getD .skip) && Tryz.f36.results.toList.all (resScope Tryz.f36.ntmps)) = true := by kernel_rfl
theorem IntsC (t t2 : Bool) (l l2 : List Int) (hl : l.length ≤ 1000000) (hl2 : l2.length ≤ 1000000) : PCalls Tryz.prog 36 [.lit t 1 (l.map ci), .lit t2 1 (l2.map ci)] (.bool (decide (l = l2))) := by
 refine PCalls.of_code Tryz.func36 rfl rfl (by kernel_rfl) mixed fr36 (by show _ ≤ 26; simp) (.sc _) ?_
 refine pwp_seq_plain rfl fun K1 hK1 => ?_
 refine p_aS rfl ?_
 refine p_end (hK1 _ ?_); clear hK1 K1
 refine pwp_seq_seq ?_
 refine pwp_seq_plain rfl fun K2 hK2 => ?_
 refine p_e rfl (e_move (v := .lit _ _ _) rfl) ?_
 refine p_e rfl (e_len rfl (by kernel_rfl)) ?_
 refine p_e rfl (e_move (v := .lit _ _ _) rfl) ?_
 refine p_e rfl (e_len rfl (by kernel_rfl)) ?_
 refine p_e rfl (e_ne rfl rfl) ?_
 refine p_end (hK2 _ ?_); clear hK2 K2
 refine pwp_seq_cond rfl fun K3 hK3 => ⟨fun hb4 => ?_, fun hb4 => ?_⟩
 ·have hb4R := hb4; try simp only [zz] at hb4
  refine pwp_seq_plain rfl fun K5 hK5 => ?_
  refine p_aS rfl ?_
  refine p_end (hK5 _ ?_); clear hK5 K5
  refine pwp_ret ?_
  refine ret_seq ?_
  refine end1 (v := .sc _) rfl ?_
  first
    | exact out_b (same_l (by simp only [List.length_map] at *; omega))
    | exact out_b (same_f hx hy (by first | assumption | simp_all))
    | exact out_b (same_t hin hlen (by simp only [List.length_map] at *; omega))
 ·have hb4R := hb4; try simp only [zz] at hb4
  refine pwp_skip ?_
  refine seq_norm (hK3 _ ?_); clear hK3 K3
  refine pwp_seq_seq ?_
  have hlen : l.length = l2.length := by simp only [List.length_map] at *; omega
  refine pwp_seq_plain rfl fun K6 hK6 => ?_
  refine p_aS rfl ?_
  refine p_end (hK6 _ ?_); clear hK6 K6
  refine pwp_seq_block fun K7 hK7 => ?_
  refine pwp_loopR (α := Nat) [0, 1] (fun (k : Nat) => [(5, .int (k))]) (fun (k : Nat) (h : Heap) (_ : Nat → Nat) => ((k) ≤ l.length) ∧ (SameTo l l2 (k))) (fun (k : Nat) => l.length - (k)) (0) (by exact ⟨rfl, trivial⟩) (by exact ⟨by exact Nat.zero_le _, by exact fun i h => absurd h (Nat.not_lt_zero _)⟩) fun k r8 h9 c10 hj11 => ?_
  obtain ⟨hk, hin⟩ := hj11
  try dsimp only at hk
  try dsimp only at hin
  show pwp _ _ (loopQ _ _ _) ⟨sets (mix _ _ _) [(5, .int k)], _, _⟩
  refine pwp_seq_seq ?_
  refine pwp_seq_plain rfl fun K12 hK12 => ?_
  refine p_mS rfl ?_
  refine p_e rfl (e_move (v := .lit _ _ _) rfl) ?_
  refine p_e rfl (e_len rfl (by kernel_rfl)) ?_
  refine p_e rfl (e_lt rfl rfl) ?_
  refine p_end (hK12 _ ?_); clear hK12 K12
  refine pwp_seq_cond rfl fun K13 hK13 => ⟨fun hb14 => ?_, fun hb14 => ?_⟩
  ·have hb14R := hb14; try simp only [zz] at hb14
   obtain ⟨x, hx, hd, ht⟩ := get_lt (xs := l) (i := k) (by omega)
   obtain ⟨y, hy⟩ : ∃ y, l2[k]? = some y := ⟨_, List.getElem?_eq_getElem (by omega)⟩
   refine pwp_skip ?_
   refine seq_norm (hK13 _ ?_); clear hK13 K13
   refine pwp_seq_block fun K15 hK15 => ?_
   refine pwp_seq_gops rfl fun K16 hK16 => ?_
   refine g_begin ?_
   refine g_e rfl (e_move (v := .lit _ _ _) rfl) ?_
   refine g_mS rfl rfl ?_
   refine g_e rfl (e_ixL rfl rfl) ?_
   refine g_e rfl (e_load (v := .sc _) rfl (by kernel_rfl) (by kernel_rfl) (by kernel_rfl) (by first | omega | (simp only [List.length_map]; omega)) (by decide) ((cell_map hx _).trans rfl)) ?_
   refine g_e rfl (e_move (v := .lit _ _ _) rfl) ?_
   refine g_mS rfl rfl ?_
   refine g_e rfl (e_ixL rfl rfl) ?_
   refine g_e rfl (e_load (v := .sc _) rfl (by kernel_rfl) (by kernel_rfl) (by kernel_rfl) (by first | omega | (simp only [List.length_map]; omega)) (by decide) ((cell_map hy _).trans rfl)) ?_
   refine g_e rfl (e_ne rfl rfl) ?_
   refine g_end (ds := []) (by kernel_rfl) rfl (hK16 _ ?_); clear hK16 K16
   refine pwp_cond rfl (fun hb17 => ?_) (fun hb17 => ?_)
   ·have hb17R := hb17; try simp only [zz] at hb17
    refine pwp_seq_plain rfl fun K18 hK18 => ?_
    refine p_aS rfl ?_
    refine p_end (hK18 _ ?_); clear hK18 K18
    refine pwp_ret ?_
    refine ret_block ?_
    refine ret_seq ?_
    refine ret_loop ?_
    refine ret_block ?_
    refine ret_seq ?_
    refine end1 (v := .sc _) rfl ?_
    first
      | exact out_b (same_l (by simp only [List.length_map] at *; omega))
      | exact out_b (same_f hx hy (by first | assumption | simp_all))
      | exact out_b (same_t hin hlen (by simp only [List.length_map] at *; omega))
   ·have hb17R := hb17; try simp only [zz] at hb17
    refine pwp_skip ?_
    refine block_norm ?_
    refine seq_norm (hK15 _ ?_); clear hK15 K15
    refine pwp_plain rfl fun K19 hK19 => ?_
    refine p_mS rfl ?_
    refine p_e rfl (e_adL rfl rfl) ?_
    refine p_aS rfl ?_
    refine p_end (hK19 _ ?_); clear hK19 K19
    exact loop_again (k + 1) (by show _ < _; omega) ⟨rfl, rfl, trivial⟩ ⟨rfl, trivial⟩ (by exact ⟨by show _ + 1 ≤ _; simp only [List.length_map] at *; omega, by exact same_s hin hx hy (by first | assumption | simp_all)⟩)
  ·have hb14R := hb14; try simp only [zz] at hb14
   refine pwp_exit ?_
   refine exit_seq ?_
   clear hK13 K13
   refine exit_loop ?_
   refine exit_here ?_
   refine seq_norm (hK7 _ ?_); clear hK7 K7
   refine pwp_seq_plain rfl fun K20 hK20 => ?_
   refine p_aS rfl ?_
   refine p_end (hK20 _ ?_); clear hK20 K20
   refine pwp_ret ?_
   refine end1 (v := .sc _) rfl ?_
   first
     | exact out_b (same_l (by simp only [List.length_map] at *; omega))
     | exact out_b (same_f hx hy (by first | assumption | simp_all))
     | exact out_b (same_t hin hlen (by simp only [List.length_map] at *; omega))

theorem fr63 : (inFrame Tryz.f63.ntmps (Tryz.f63.body.getD .skip) && Tryz.f63.results.toList.all (resScope Tryz.f63.ntmps)) = true := by kernel_rfl
theorem HasC (t : Bool) (xs : List Int) (n : Int) (hl : xs.length ≤ 1000000) : PCalls Tryz.prog 63 [.lit t 1 (xs.map ci), .int n] (.bool (xs.any fun y => decide (y = n))) := by
 refine PCalls.of_code Tryz.func63 rfl rfl (by kernel_rfl) mixed fr63 (by show _ ≤ 18; simp) (.sc _) ?_
 refine pwp_seq_plain rfl fun K1 hK1 => ?_
 refine p_aS rfl ?_
 refine p_end (hK1 _ ?_); clear hK1 K1
 refine pwp_seq_seq ?_
 refine pwp_seq_plain rfl fun K2 hK2 => ?_
 refine p_aS rfl ?_
 refine p_end (hK2 _ ?_); clear hK2 K2
 refine pwp_seq_block fun K3 hK3 => ?_
 refine pwp_loopR (α := Nat) [0, 1] (fun (k : Nat) => [(5, .int (k))]) (fun (k : Nat) (h : Heap) (_ : Nat → Nat) => ((k) ≤ xs.length) ∧ (∀ i, i < (k) → ∀ y, xs[i]? = some y → (decide (y = n)) = false)) (fun (k : Nat) => xs.length - (k)) (0) (by exact ⟨rfl, trivial⟩) (by exact ⟨by exact Nat.zero_le _, by exact nx_0 (K := fun y => decide (y = n))⟩) fun k r4 h5 c6 hj7 => ?_
 obtain ⟨hk, hin⟩ := hj7
 try dsimp only at hk
 try dsimp only at hin
 show pwp _ _ (loopQ _ _ _) ⟨sets (mix _ _ _) [(5, .int k)], _, _⟩
 refine pwp_seq_seq ?_
 refine pwp_seq_plain rfl fun K8 hK8 => ?_
 refine p_mS rfl ?_
 refine p_e rfl (e_move (v := .lit _ _ _) rfl) ?_
 refine p_e rfl (e_len rfl (by kernel_rfl)) ?_
 refine p_e rfl (e_lt rfl rfl) ?_
 refine p_end (hK8 _ ?_); clear hK8 K8
 refine pwp_seq_cond rfl fun K9 hK9 => ⟨fun hb10 => ?_, fun hb10 => ?_⟩
 ·have hb10R := hb10; try simp only [zz] at hb10
  obtain ⟨x, hx, hd, ht⟩ := get_lt (xs := xs) (i := k) (by omega)
  refine pwp_skip ?_
  refine seq_norm (hK9 _ ?_); clear hK9 K9
  refine pwp_seq_block fun K11 hK11 => ?_
  refine pwp_seq_plain rfl fun K12 hK12 => ?_
  refine p_e rfl (e_move (v := .lit _ _ _) rfl) ?_
  refine p_mS rfl ?_
  refine p_e rfl (e_ixL rfl rfl) ?_
  refine p_e rfl (e_load (v := .sc _) rfl (by kernel_rfl) (by kernel_rfl) (by kernel_rfl) (by first | omega | (simp only [List.length_map]; omega)) (by decide) ((cell_map hx _).trans rfl)) ?_
  refine p_mS rfl ?_
  refine p_e rfl (e_eq rfl rfl) ?_
  refine p_end (hK12 _ ?_); clear hK12 K12
  refine pwp_cond rfl (fun hb13 => ?_) (fun hb13 => ?_)
  ·have hb13R := hb13; try simp only [zz] at hb13
   refine pwp_seq_plain rfl fun K14 hK14 => ?_
   refine p_aS rfl ?_
   refine p_end (hK14 _ ?_); clear hK14 K14
   refine pwp_ret ?_
   refine ret_block ?_
   refine ret_seq ?_
   refine ret_loop ?_
   refine ret_block ?_
   refine ret_seq ?_
   refine end1 (v := .sc _) rfl ?_
   first
     | exact out_b (any_hit (K := fun y => decide (y = n)) hx (decide_eq_true (by assumption))).symm
     | exact out_b (any_no (K := fun y => decide (y = n)) hin (by simp only [List.length_map] at *; omega)).symm
  ·have hb13R := hb13; try simp only [zz] at hb13
   refine pwp_skip ?_
   refine block_norm ?_
   refine seq_norm (hK11 _ ?_); clear hK11 K11
   refine pwp_plain rfl fun K15 hK15 => ?_
   refine p_mS rfl ?_
   refine p_e rfl (e_adL rfl rfl) ?_
   refine p_aS rfl ?_
   refine p_end (hK15 _ ?_); clear hK15 K15
   exact loop_again (k + 1) (by show _ < _; omega) ⟨rfl, rfl, trivial⟩ ⟨rfl, trivial⟩ (by exact ⟨by show _ + 1 ≤ _; simp only [List.length_map] at *; omega, by exact nx_step (K := fun y => decide (y = n)) hin hx (decide_eq_false (by assumption))⟩)
 ·have hb10R := hb10; try simp only [zz] at hb10
  refine pwp_exit ?_
  refine exit_seq ?_
  clear hK9 K9
  refine exit_loop ?_
  refine exit_here ?_
  refine seq_norm (hK3 _ ?_); clear hK3 K3
  refine pwp_seq_plain rfl fun K16 hK16 => ?_
  refine p_aS rfl ?_
  refine p_end (hK16 _ ?_); clear hK16 K16
  refine pwp_ret ?_
  refine end1 (v := .sc _) rfl ?_
  first
    | exact out_b (any_hit (K := fun y => decide (y = n)) hx (decide_eq_true (by assumption))).symm
    | exact out_b (any_no (K := fun y => decide (y = n)) hin (by simp only [List.length_map] at *; omega)).symm

theorem fr109 : (inFrame Tryz.f109.ntmps (Tryz.f109.body.getD .skip) && Tryz.f109.results.toList.all (resScope Tryz.f109.ntmps)) = true := by kernel_rfl
theorem refJackC (j : Jack) : PCalls Tryz.prog 109 [.agg j.enc] (.int (jackE j)) := by
 refine PCalls.of_code Tryz.func109 rfl rfl (by kernel_rfl) mixed fr109 (by show _ ≤ 26; simp) (.sc _) ?_
 refine pwp_seq_plain rfl fun K1 hK1 => ?_
 refine p_new rfl (e_box (n := 3) rfl rfl) ⟨rfl, by decide⟩ ?_
 refine p_aS rfl ?_
 refine p_end (hK1 _ ?_); clear hK1 K1
 refine pwp_seq_seq ?_
 refine pwp_seq_gops rfl fun K2 hK2 => ?_
 refine g_begin ?_
 refine g_e rfl (e_faQ pl3 rfl) ?_
 refine g_e rfl (e_lH (v := .sc _) rfl (hset_self _ _ _) rfl) ?_
 refine g_call rfl rfl rfl rfl (.cons inn_sc (.cons inn_sc (.cons inn_sc .nil))) (Within _ _ _) ?_
 refine g_e rfl (e_not rfl) ?_
 refine g_mS rfl rfl ?_
 refine g_cases (fun hb3 => ?_) (fun hb3 => ?_)
 ·have hb3R := hb3; try simp only [zz] at hb3
  iterate 2 refine g_skip rfl rfl rfl ?_
  refine g_nocall rfl rfl rfl ?_
  refine g_skip rfl rfl rfl ?_
  refine g_pT rfl rfl rfl ?_
  refine g_mS rfl rfl ?_
  iterate 2 refine g_skip rfl rfl rfl ?_
  refine g_nocall rfl rfl rfl ?_
  refine g_skip rfl rfl rfl ?_
  refine g_pT rfl rfl rfl ?_
  refine g_mS rfl rfl ?_
  iterate 5 refine g_skip rfl rfl rfl ?_
  refine g_pT rfl rfl rfl ?_
  refine g_end (ds := [8, 9, 10, 11, 14, 15, 16, 17, 20, 21, 22, 23, 24]) rfl rfl (hK2 _ ?_); clear hK2 K2
  refine pwp_seq_cond (t := true) rfl fun K4 hK4 => ⟨fun _ => ?_, nofun⟩
  refine pwp_seq_plain rfl fun K5 hK5 => ?_
  refine p_aS rfl ?_
  refine p_end (hK5 _ ?_); clear hK5 K5
  refine pwp_ret ?_
  refine ret_seq ?_
  refine end1 (v := .sc _) rfl ?_
  exact out_i (by first | exact (jk_2 (by omega)).symm | exact (jk_0 (by omega)).symm)
 ·have hb3R := hb3; try simp only [zz] at hb3
  refine g_e rfl (e_faQ pl3 rfl) ?_
  refine g_e rfl (e_lH (v := .sc _) rfl (hset_self _ _ _) rfl) ?_
  refine g_call rfl rfl rfl rfl (.cons inn_sc (.cons inn_sc (.cons inn_sc .nil))) (Within _ _ _) ?_
  refine g_e rfl (e_not rfl) ?_
  refine g_pF rfl rfl rfl ?_
  refine g_mS rfl rfl ?_
  refine g_cases (fun hb6 => ?_) (fun hb6 => ?_)
  ·have hb6R := hb6; try simp only [zz] at hb6
   iterate 2 refine g_skip rfl rfl rfl ?_
   refine g_nocall rfl rfl rfl ?_
   refine g_skip rfl rfl rfl ?_
   refine g_pT rfl rfl rfl ?_
   refine g_mS rfl rfl ?_
   iterate 5 refine g_skip rfl rfl rfl ?_
   refine g_pT rfl rfl rfl ?_
   refine g_end (ds := [8, 9, 10, 11, 14, 15, 16, 17, 20, 21, 22, 23, 24]) rfl rfl (hK2 _ ?_); clear hK2 K2
   refine pwp_seq_cond (t := true) rfl fun K7 hK7 => ⟨fun _ => ?_, nofun⟩
   refine pwp_seq_plain rfl fun K8 hK8 => ?_
   refine p_aS rfl ?_
   refine p_end (hK8 _ ?_); clear hK8 K8
   refine pwp_ret ?_
   refine ret_seq ?_
   refine end1 (v := .sc _) rfl ?_
   exact out_i (by first | exact (jk_2 (by omega)).symm | exact (jk_0 (by omega)).symm)
  ·have hb6R := hb6; try simp only [zz] at hb6
   refine g_e rfl (e_faQ pl3 rfl) ?_
   refine g_e rfl (e_lH (v := .sc _) rfl (hset_self _ _ _) rfl) ?_
   refine g_call rfl rfl rfl rfl (.cons inn_sc (.cons inn_sc (.cons inn_sc .nil))) (Within _ _ _) ?_
   refine g_e rfl (e_not rfl) ?_
   refine g_pF rfl rfl rfl ?_
   refine g_mS rfl rfl ?_
   refine g_cases (fun hb9 => ?_) (fun hb9 => ?_)
   ·have hb9R := hb9; try simp only [zz] at hb9
    iterate 5 refine g_skip rfl rfl rfl ?_
    refine g_pT rfl rfl rfl ?_
    refine g_end (ds := [8, 9, 10, 11, 14, 15, 16, 17, 20, 21, 22, 23, 24]) rfl rfl (hK2 _ ?_); clear hK2 K2
    refine pwp_seq_cond (t := true) rfl fun K10 hK10 => ⟨fun _ => ?_, nofun⟩
    refine pwp_seq_plain rfl fun K11 hK11 => ?_
    refine p_aS rfl ?_
    refine p_end (hK11 _ ?_); clear hK11 K11
    refine pwp_ret ?_
    refine ret_seq ?_
    refine end1 (v := .sc _) rfl ?_
    exact out_i (by first | exact (jk_2 (by omega)).symm | exact (jk_0 (by omega)).symm)
   ·have hb9R := hb9; try simp only [zz] at hb9
    refine g_e rfl (e_faQ pl3 rfl) ?_
    refine g_e rfl (e_lH (v := .sc _) rfl (hset_self _ _ _) rfl) ?_
    refine g_e rfl (e_faQ pl3 rfl) ?_
    refine g_e rfl (e_lH (v := .sc _) rfl (hset_self _ _ _) rfl) ?_
    refine g_e rfl (e_gt rfl rfl) ?_
    refine g_pF rfl rfl rfl ?_
    refine g_end (ds := [8, 9, 10, 11, 14, 15, 16, 17, 20, 21, 22, 23, 24]) rfl rfl (hK2 _ ?_); clear hK2 K2
    refine pwp_seq_cond rfl fun K12 hK12 => ⟨fun hb13 => ?_, fun hb13 => ?_⟩
    ·have hb13R := hb13; try simp only [zz] at hb13
     refine pwp_seq_plain rfl fun K14 hK14 => ?_
     refine p_aS rfl ?_
     refine p_end (hK14 _ ?_); clear hK14 K14
     refine pwp_ret ?_
     refine ret_seq ?_
     refine end1 (v := .sc _) rfl ?_
     exact out_i (by first | exact (jk_2 (by omega)).symm | exact (jk_0 (by omega)).symm)
    ·have hb13R := hb13; try simp only [zz] at hb13
     refine pwp_skip ?_
     refine seq_norm (hK12 _ ?_); clear hK12 K12
     refine pwp_seq_plain rfl fun K15 hK15 => ?_
     refine p_aS rfl ?_
     refine p_end (hK15 _ ?_); clear hK15 K15
     refine pwp_ret ?_
     refine end1 (v := .sc _) rfl ?_
     exact out_i (by first | exact (jk_2 (by omega)).symm | exact (jk_0 (by omega)).symm)

theorem fr106 : (inFrame Tryz.f106.ntmps (Tryz.f106.body.getD .skip) && Tryz.f106.results.toList.all (resScope Tryz.f106.ntmps)) = true := by kernel_rfl
theorem feetC (g : Grid) (l : List Ground) (j : Jack) (ha : g.along.length ≤ 100) (hb : g.levels.length ≤ 100) (hl : l.length ≤ 1000) : PCalls Tryz.prog 106 [.agg g.enc, .lit true 4 (l.map Ground.enc), .agg j.enc] (.tup [.lit false 1 ((ftX (ftS l j) g l j).1.map ci), .int (ftX (ftS l j) g l j).2]) := by
 refine PCalls.of_code Tryz.func106 rfl rfl (by kernel_rfl) mixed fr106 (by show _ ≤ 72; simp) (pure_2 (.lit _ _ _ fun row hr => pure_map ci_pure row hr) (.sc _)) ?_
 refine pwp_seq_plain rfl fun K1 hK1 => ?_
 refine p_new rfl (e_box (n := 3) rfl rfl) ⟨rfl, by decide⟩ ?_
 refine p_new rfl (e_box (n := 3) rfl rfl) ⟨rfl, by decide⟩ ?_
 refine p_e rfl (e_assign (v := .nil) rfl) ?_
 refine p_aS rfl ?_
 refine p_end (hK1 _ ?_); clear hK1 K1
 refine pwp_seq_seq ?_
 refine pwp_seq_plain rfl fun K2 hK2 => ?_
 refine p_e rfl (e_loadHA (cs := Grid.enc (g)) (n := 3) rfl ((hset_ne (key_ne rfl)).trans (hset_self _ _ _)) (by kernel_rfl) (by kernel_rfl) (by kernel_rfl) (by exact Nat.zero_lt_one) (by decide) rfl) ?_
 refine p_call rfl (.cons (inn_agg (Grid.pure _)) .nil) (CheckGridC g (by omega) (by omega)) ?_
 refine p_aS rfl ?_
 refine p_end (hK2 _ ?_); clear hK2 K2
 refine pwp_seq_seq ?_
 refine pwp_seq_plain rfl fun K3 hK3 => ?_
 refine p_mS rfl ?_
 refine p_e rfl (e_ne rfl rfl) ?_
 refine p_end (hK3 _ ?_); clear hK3 K3
 refine pwp_seq_cond rfl fun K4 hK4 => ⟨fun hb5 => ?_, fun hb5 => ?_⟩
 ·have hb5R := hb5; try simp only [zz] at hb5
  refine pwp_seq_plain rfl fun K6 hK6 => ?_
  refine p_mS rfl ?_
  refine p_e rfl (e_assign (v := .nil) rfl) ?_
  refine p_aS rfl ?_
  refine p_end (hK6 _ ?_); clear hK6 K6
  refine pwp_ret ?_
  refine ret_seq ?_
  refine end2 (v := .nil) (w := .sc _) rfl rfl ?_
  first
    | exact li_oe (ftX_e (feE_g (by assumption)) (by assumption))
    | exact li_oe (ftX_e (feE_r (by assumption) (by assumption)) (by assumption))
    | exact li_oe (ftX_e ((feE_j (by assumption) (by assumption) (by first | assumption | (rw [jk_2 (by omega)]; decide))).trans (by first | rfl | exact jk_2 (by omega))) (by decide))
    | exact li_oe (ftX_e (feE_j (by assumption) (by assumption) (by assumption)) (by assumption))
    | exact li_oe (ftX_e (feE_m (by assumption) (by assumption) (by first | assumption | exact jk_0 (by omega)) (any_hit hx (decide_eq_true (by omega)))) (by decide))
 ·have hb5R := hb5; try simp only [zz] at hb5
  refine pwp_skip ?_
  refine seq_norm (hK4 _ ?_); clear hK4 K4
  refine pwp_seq_seq ?_
  refine pwp_seq_plain rfl fun K7 hK7 => ?_
  refine p_e rfl (e_move (v := .lit _ _ _) rfl) ?_
  refine p_call rfl (.cons inn_lit .nil) (CheckGroundC l (by omega)) ?_
  refine p_aS rfl ?_
  refine p_end (hK7 _ ?_); clear hK7 K7
  refine pwp_seq_seq ?_
  refine pwp_seq_plain rfl fun K8 hK8 => ?_
  refine p_mS rfl ?_
  refine p_e rfl (e_ne rfl rfl) ?_
  refine p_end (hK8 _ ?_); clear hK8 K8
  refine pwp_seq_cond rfl fun K9 hK9 => ⟨fun hb10 => ?_, fun hb10 => ?_⟩
  ·have hb10R := hb10; try simp only [zz] at hb10
   refine pwp_seq_plain rfl fun K11 hK11 => ?_
   refine p_mS rfl ?_
   refine p_e rfl (e_assign (v := .nil) rfl) ?_
   refine p_aS rfl ?_
   refine p_end (hK11 _ ?_); clear hK11 K11
   refine pwp_ret ?_
   refine ret_seq ?_
   refine end2 (v := .nil) (w := .sc _) rfl rfl ?_
   first
     | exact li_oe (ftX_e (feE_g (by assumption)) (by assumption))
     | exact li_oe (ftX_e (feE_r (by assumption) (by assumption)) (by assumption))
     | exact li_oe (ftX_e ((feE_j (by assumption) (by assumption) (by first | assumption | (rw [jk_2 (by omega)]; decide))).trans (by first | rfl | exact jk_2 (by omega))) (by decide))
     | exact li_oe (ftX_e (feE_j (by assumption) (by assumption) (by assumption)) (by assumption))
     | exact li_oe (ftX_e (feE_m (by assumption) (by assumption) (by first | assumption | exact jk_0 (by omega)) (any_hit hx (decide_eq_true (by omega)))) (by decide))
  ·have hb10R := hb10; try simp only [zz] at hb10
   refine pwp_skip ?_
   refine seq_norm (hK9 _ ?_); clear hK9 K9
   refine pwp_seq_seq ?_
   have hgr : groundE l = 0 := by omega
   have hl1 := gr_len hgr
   have hgz : gridE g = 0 := by omega
   refine pwp_seq_gops rfl fun K12 hK12 => ?_
   refine g_begin ?_
   refine g_e rfl (e_faQ pl3 rfl) ?_
   refine g_e rfl (e_lH (v := .sc _) rfl (hset_self _ _ _) rfl) ?_
   refine g_call rfl rfl rfl rfl (.cons inn_sc (.cons inn_sc (.cons inn_sc .nil))) (within _ _ _) ?_
   refine g_e rfl (e_not rfl) ?_
   refine g_mS rfl rfl ?_
   refine g_cases (fun hb13 => ?_) (fun hb13 => ?_)
   ·have hb13R := hb13; try simp only [zz] at hb13
    iterate 2 refine g_skip rfl rfl rfl ?_
    refine g_nocall rfl rfl rfl ?_
    refine g_skip rfl rfl rfl ?_
    refine g_pT rfl rfl rfl ?_
    refine g_mS rfl rfl ?_
    iterate 2 refine g_skip rfl rfl rfl ?_
    refine g_nocall rfl rfl rfl ?_
    refine g_skip rfl rfl rfl ?_
    refine g_pT rfl rfl rfl ?_
    refine g_mS rfl rfl ?_
    iterate 5 refine g_skip rfl rfl rfl ?_
    refine g_pT rfl rfl rfl ?_
    refine g_end (ds := [29, 30, 31, 32, 35, 36, 37, 38, 41, 42, 43, 44, 45]) rfl rfl (hK12 _ ?_); clear hK12 K12
    refine pwp_seq_cond (t := true) rfl fun K14 hK14 => ⟨fun _ => ?_, nofun⟩
    refine pwp_seq_plain rfl fun K15 hK15 => ?_
    refine p_e rfl (e_assign (v := .nil) rfl) ?_
    refine p_aS rfl ?_
    refine p_end (hK15 _ ?_); clear hK15 K15
    refine pwp_ret ?_
    refine ret_seq ?_
    refine end2 (v := .nil) (w := .sc _) rfl rfl ?_
    first
      | exact li_oe (ftX_e (feE_g (by assumption)) (by assumption))
      | exact li_oe (ftX_e (feE_r (by assumption) (by assumption)) (by assumption))
      | exact li_oe (ftX_e ((feE_j (by assumption) (by assumption) (by first | assumption | (rw [jk_2 (by omega)]; decide))).trans (by first | rfl | exact jk_2 (by omega))) (by decide))
      | exact li_oe (ftX_e (feE_j (by assumption) (by assumption) (by assumption)) (by assumption))
      | exact li_oe (ftX_e (feE_m (by assumption) (by assumption) (by first | assumption | exact jk_0 (by omega)) (any_hit hx (decide_eq_true (by omega)))) (by decide))
   ·have hb13R := hb13; try simp only [zz] at hb13
    refine g_e rfl (e_faQ pl3 rfl) ?_
    refine g_e rfl (e_lH (v := .sc _) rfl (hset_self _ _ _) rfl) ?_
    refine g_call rfl rfl rfl rfl (.cons inn_sc (.cons inn_sc (.cons inn_sc .nil))) (within _ _ _) ?_
    refine g_e rfl (e_not rfl) ?_
    refine g_pF rfl rfl rfl ?_
    refine g_mS rfl rfl ?_
    refine g_cases (fun hb16 => ?_) (fun hb16 => ?_)
    ·have hb16R := hb16; try simp only [zz] at hb16
     iterate 2 refine g_skip rfl rfl rfl ?_
     refine g_nocall rfl rfl rfl ?_
     refine g_skip rfl rfl rfl ?_
     refine g_pT rfl rfl rfl ?_
     refine g_mS rfl rfl ?_
     iterate 5 refine g_skip rfl rfl rfl ?_
     refine g_pT rfl rfl rfl ?_
     refine g_end (ds := [29, 30, 31, 32, 35, 36, 37, 38, 41, 42, 43, 44, 45]) rfl rfl (hK12 _ ?_); clear hK12 K12
     refine pwp_seq_cond (t := true) rfl fun K17 hK17 => ⟨fun _ => ?_, nofun⟩
     refine pwp_seq_plain rfl fun K18 hK18 => ?_
     refine p_e rfl (e_assign (v := .nil) rfl) ?_
     refine p_aS rfl ?_
     refine p_end (hK18 _ ?_); clear hK18 K18
     refine pwp_ret ?_
     refine ret_seq ?_
     refine end2 (v := .nil) (w := .sc _) rfl rfl ?_
     first
       | exact li_oe (ftX_e (feE_g (by assumption)) (by assumption))
       | exact li_oe (ftX_e (feE_r (by assumption) (by assumption)) (by assumption))
       | exact li_oe (ftX_e ((feE_j (by assumption) (by assumption) (by first | assumption | (rw [jk_2 (by omega)]; decide))).trans (by first | rfl | exact jk_2 (by omega))) (by decide))
       | exact li_oe (ftX_e (feE_j (by assumption) (by assumption) (by assumption)) (by assumption))
       | exact li_oe (ftX_e (feE_m (by assumption) (by assumption) (by first | assumption | exact jk_0 (by omega)) (any_hit hx (decide_eq_true (by omega)))) (by decide))
    ·have hb16R := hb16; try simp only [zz] at hb16
     refine g_e rfl (e_faQ pl3 rfl) ?_
     refine g_e rfl (e_lH (v := .sc _) rfl (hset_self _ _ _) rfl) ?_
     refine g_call rfl rfl rfl rfl (.cons inn_sc (.cons inn_sc (.cons inn_sc .nil))) (within _ _ _) ?_
     refine g_e rfl (e_not rfl) ?_
     refine g_pF rfl rfl rfl ?_
     refine g_mS rfl rfl ?_
     refine g_cases (fun hb19 => ?_) (fun hb19 => ?_)
     ·have hb19R := hb19; try simp only [zz] at hb19
      iterate 5 refine g_skip rfl rfl rfl ?_
      refine g_pT rfl rfl rfl ?_
      refine g_end (ds := [29, 30, 31, 32, 35, 36, 37, 38, 41, 42, 43, 44, 45]) rfl rfl (hK12 _ ?_); clear hK12 K12
      refine pwp_seq_cond (t := true) rfl fun K20 hK20 => ⟨fun _ => ?_, nofun⟩
      refine pwp_seq_plain rfl fun K21 hK21 => ?_
      refine p_e rfl (e_assign (v := .nil) rfl) ?_
      refine p_aS rfl ?_
      refine p_end (hK21 _ ?_); clear hK21 K21
      refine pwp_ret ?_
      refine ret_seq ?_
      refine end2 (v := .nil) (w := .sc _) rfl rfl ?_
      first
        | exact li_oe (ftX_e (feE_g (by assumption)) (by assumption))
        | exact li_oe (ftX_e (feE_r (by assumption) (by assumption)) (by assumption))
        | exact li_oe (ftX_e ((feE_j (by assumption) (by assumption) (by first | assumption | (rw [jk_2 (by omega)]; decide))).trans (by first | rfl | exact jk_2 (by omega))) (by decide))
        | exact li_oe (ftX_e (feE_j (by assumption) (by assumption) (by assumption)) (by assumption))
        | exact li_oe (ftX_e (feE_m (by assumption) (by assumption) (by first | assumption | exact jk_0 (by omega)) (any_hit hx (decide_eq_true (by omega)))) (by decide))
     ·have hb19R := hb19; try simp only [zz] at hb19
      refine g_e rfl (e_faQ pl3 rfl) ?_
      refine g_e rfl (e_lH (v := .sc _) rfl (hset_self _ _ _) rfl) ?_
      refine g_e rfl (e_faQ pl3 rfl) ?_
      refine g_e rfl (e_lH (v := .sc _) rfl (hset_self _ _ _) rfl) ?_
      refine g_e rfl (e_gt rfl rfl) ?_
      refine g_pF rfl rfl rfl ?_
      refine g_end (ds := [29, 30, 31, 32, 35, 36, 37, 38, 41, 42, 43, 44, 45]) rfl rfl (hK12 _ ?_); clear hK12 K12
      refine pwp_seq_cond rfl fun K22 hK22 => ⟨fun hb23 => ?_, fun hb23 => ?_⟩
      ·have hb23R := hb23; try simp only [zz] at hb23
       refine pwp_seq_plain rfl fun K24 hK24 => ?_
       refine p_e rfl (e_assign (v := .nil) rfl) ?_
       refine p_aS rfl ?_
       refine p_end (hK24 _ ?_); clear hK24 K24
       refine pwp_ret ?_
       refine ret_seq ?_
       refine end2 (v := .nil) (w := .sc _) rfl rfl ?_
       first
         | exact li_oe (ftX_e (feE_g (by assumption)) (by assumption))
         | exact li_oe (ftX_e (feE_r (by assumption) (by assumption)) (by assumption))
         | exact li_oe (ftX_e ((feE_j (by assumption) (by assumption) (by first | assumption | (rw [jk_2 (by omega)]; decide))).trans (by first | rfl | exact jk_2 (by omega))) (by decide))
         | exact li_oe (ftX_e (feE_j (by assumption) (by assumption) (by assumption)) (by assumption))
         | exact li_oe (ftX_e (feE_m (by assumption) (by assumption) (by first | assumption | exact jk_0 (by omega)) (any_hit hx (decide_eq_true (by omega)))) (by decide))
      ·have hb23R := hb23; try simp only [zz] at hb23
       refine pwp_skip ?_
       refine seq_norm (hK22 _ ?_); clear hK22 K22
       refine pwp_seq_plain rfl fun K25 hK25 => ?_
       refine p_e rfl (e_assign (v := .nil) rfl) ?_
       refine p_end (hK25 _ ?_); clear hK25 K25
       refine pwp_seq_seq ?_
       refine pwp_seq_plain rfl fun K26 hK26 => ?_
       refine p_e rfl (e_faQ pl3 rfl) ?_
       refine p_e rfl (e_lH (v := .lit _ _ _) rfl ((hset_ne (key_ne rfl)).trans (hset_self _ _ _)) rfl) ?_
       refine p_e rfl (e_len rfl (by kernel_rfl)) ?_
       refine p_mS rfl ?_
       refine p_end (hK26 _ ?_); clear hK26 K26
       refine pwp_seq_block fun K27 hK27 => ?_
       refine pwp_loopR (α := Nat × PV) [1, 5, 48, 49] (fun (a28 : Nat × PV) => [(10, (a28.2)), (50, .int (a28.1))]) (fun (a28 : Nat × PV) (h : Heap) (_ : Nat → Nat) => ((a28.1) ≤ g.along.length) ∧ (∀ i, i < (a28.1) → ∀ y, g.along[i]? = some y → offB l y = false) ∧ (SliceAt h 69 (a28.2) 1 ((((g.along.take (a28.1)).map (ftS l j))).map ci)) ∧ (h (5, 0) = some (.rows 3 [Jack.enc j]))) (fun (a28 : Nat × PV) => g.along.length - (a28.1)) (0, .nil) (by exact ⟨rfl, rfl, trivial⟩) (by exact ⟨by exact Nat.zero_le _, by exact nx_0, .nil, (hset_self _ _ _)⟩) fun a28 r29 h30 c31 hj32 => ?_
       obtain ⟨k, v⟩ := a28
       obtain ⟨hk, hin, hihj32_0, hihj32_1⟩ := hj32
       try dsimp only at hk
       try dsimp only at hin
       try dsimp only at hihj32_0
       try dsimp only at hihj32_1
       show pwp _ _ (loopQ _ _ _) ⟨sets (mix _ _ _) [(10, v), (50, .int k)], _, _⟩
       refine pwp_seq_plain rfl fun K33 hK33 => ?_
       refine p_e rfl (e_lt rfl rfl) ?_
       refine p_end (hK33 _ ?_); clear hK33 K33
       refine pwp_seq_cond rfl fun K34 hK34 => ⟨fun hb35 => ?_, fun hb35 => ?_⟩
       ·have hb35R := hb35; try simp only [zz] at hb35
        obtain ⟨x, hx, hd, ht⟩ := get_lt (xs := g.along) (i := k) (by omega)
        refine pwp_skip ?_
        refine seq_norm (hK34 _ ?_); clear hK34 K34
        refine pwp_seq_block fun K36 hK36 => ?_
        refine pwp_seq_plain rfl fun K37 hK37 => ?_
        refine p_e rfl (e_ixL rfl rfl) ?_
        refine p_e rfl (e_load (v := .sc _) rfl (by kernel_rfl) (by kernel_rfl) (by kernel_rfl) (by first | omega | (simp only [List.length_map]; omega)) (by decide) ((cell_map hx _).trans rfl)) ?_
        refine p_aS rfl ?_
        refine p_end (hK37 _ ?_); clear hK37 K37
        refine pwp_seq_plain rfl fun K38 hK38 => ?_
        refine p_e rfl (e_move (v := .lit _ _ _) rfl) ?_
        refine p_mS rfl ?_
        refine p_call rfl (.cons inn_lit (.cons inn_sc .nil)) (stepC l _ (by omega) (by omega)) ?_
        refine p_aS rfl ?_
        refine p_end (hK38 _ ?_); clear hK38 K38
        refine pwp_seq_seq ?_
        refine pwp_seq_plain rfl fun K39 hK39 => ?_
        refine p_mS rfl ?_
        refine p_e rfl (e_lt rfl rfl) ?_
        refine p_end (hK39 _ ?_); clear hK39 K39
        refine pwp_seq_cond rfl fun K40 hK40 => ⟨fun hb41 => ?_, fun hb41 => ?_⟩
        ·have hb41R := hb41; try simp only [zz] at hb41
         refine pwp_seq_plain rfl fun K42 hK42 => ?_
         refine p_e rfl (e_assign (v := .nil) rfl) ?_
         refine p_aS rfl ?_
         refine p_end (hK42 _ ?_); clear hK42 K42
         refine pwp_ret ?_
         refine ret_seq ?_
         refine ret_block ?_
         refine ret_seq ?_
         refine ret_loop ?_
         refine ret_block ?_
         refine ret_seq ?_
         refine end2 (v := .nil) (w := .sc _) rfl rfl ?_
         first
           | exact li_oe (ftX_e (feE_g (by assumption)) (by assumption))
           | exact li_oe (ftX_e (feE_r (by assumption) (by assumption)) (by assumption))
           | exact li_oe (ftX_e ((feE_j (by assumption) (by assumption) (by first | assumption | (rw [jk_2 (by omega)]; decide))).trans (by first | rfl | exact jk_2 (by omega))) (by decide))
           | exact li_oe (ftX_e (feE_j (by assumption) (by assumption) (by assumption)) (by assumption))
           | exact li_oe (ftX_e (feE_m (by assumption) (by assumption) (by first | assumption | exact jk_0 (by omega)) (any_hit hx (decide_eq_true (by omega)))) (by decide))
           | exact li_o hihj32_0 (by rw [tk_e (by simp only [List.length_map] at *; omega), ftX_0 (feE_0 (by assumption) (by assumption) (by first | assumption | exact jk_0 (by omega)) (any_no hin (by simp only [List.length_map] at *; omega)))])
        ·have hb41R := hb41; try simp only [zz] at hb41
         refine pwp_skip ?_
         refine seq_norm (hK40 _ ?_); clear hK40 K40
         have hlt := stX_lt (x := x) hl1.1
         obtain ⟨s, hs⟩ : ∃ s, l[(stX l x).toNat]? = some s := ⟨_, List.getElem?_eq_getElem (by omega)⟩
         have hgb : -1000000 ≤ s.height ∧ s.height ≤ 1000000 := by have q := hg_b (x := x) hgr (by omega); rwa [hgtAt_at hs] at q
         refine pwp_gops rfl fun K43 hK43 => ?_
         refine s_begin ?_
         refine s_e rfl (e_move (v := _) rfl) ?_
         refine s_e rfl (e_move (v := .lit _ _ _) rfl) ?_
         refine s_e rfl (e_move (v := .sc _) rfl) ?_
         refine s_e rfl (e_ixL rfl rfl) ?_
         refine s_e rfl (e_fb pl4 rfl) ?_
         refine s_e rfl (e_load (v := .sc _) rfl (by kernel_rfl) (by kernel_rfl) (by kernel_rfl) (by first | omega | (simp only [List.length_map]; omega)) (by decide) ((cell_map hs _).trans rfl)) ?_
         refine s_e rfl (e_faQ pl3 rfl) ?_
         refine s_step [5] (by simp) rfl rfl rfl rfl (e_lH (v := .sc _) rfl hihj32_1 rfl) trivial ?_
         refine s_e rfl (e_adL rfl rfl) ?_
         refine s_new [] (by simp) rfl rfl rfl rfl (e_bslice (rows := [ci (s.height + j.sole)]) (zs := [.int 0]) (sz := 1) (by kernel_rfl) (by kernel_rfl) rfl (by kernel_rfl) (by decide) rfl rfl (by exact ⟨by decide, rfl, rfl, trivial⟩) rfl) trivial ?_
         refine s_app [69, 68] [69, 69] (by simp) (by simp) (by simp) rfl rfl rfl (hihj32_0.keep fun _ => (hset_ne (key_ne rfl)).trans (rfl)) (SrcAt.ref (hset_self _ _ _) rfl) rfl (by kernel_rfl) (by simp only [List.length_append, List.length_map, List.length_nil, List.length_cons, List.length_take]; omega) fun v44 h45 c46 hs47 hf48 => ?_
         have ho49 := (hf48 (5, _) (key_ne rfl) (fun _ _ => key_ne rfl)).trans ((hset_ne (key_ne rfl)).trans hihj32_1)
         have ho50 := (hf48 (68, _) (key_ne rfl) (fun _ _ => key_ne rfl)).trans (hset_self _ _ _)
         refine s_e rfl (e_assign (v := _) rfl) ?_
         refine s_end (ds := []) (by kernel_rfl) (by kernel_rfl) (hK43 _ ?_); clear hK43 K43
         refine block_norm ?_
         refine seq_norm (hK36 _ ?_); clear hK36 K36
         refine pwp_plain rfl fun K51 hK51 => ?_
         refine p_e rfl (e_adL rfl rfl) ?_
         refine p_mS rfl ?_
         refine p_end (hK51 _ ?_); clear hK51 K51
         exact loop_again ((k + 1, v44)) (by show _ < _; simp only; omega) ⟨rfl, rfl, rfl, rfl, trivial⟩ ⟨rfl, rfl, trivial⟩ (by exact ⟨by show _ + 1 ≤ _; simp only [List.length_map] at *; omega, by exact nx_step (K := offB l) hin hx (decide_eq_false (by omega)), (SliceAt.to hs47 (by rw [tk_s hx, List.map_append, ftS_at hs]; rfl)), ho49⟩)
       ·have hb35R := hb35; try simp only [zz] at hb35
        refine pwp_exit ?_
        refine exit_seq ?_
        clear hK34 K34
        refine exit_loop ?_
        refine exit_here ?_
        refine seq_norm (hK27 _ ?_); clear hK27 K27
        refine pwp_seq_plain rfl fun K52 hK52 => ?_
        refine p_e rfl (e_move (v := _) rfl) ?_
        refine p_e rfl (e_assign (v := _) rfl) ?_
        refine p_aS rfl ?_
        refine p_end (hK52 _ ?_); clear hK52 K52
        refine pwp_ret ?_
        refine end2 (v := _) (w := .sc _) rfl rfl ?_
        first
          | exact li_oe (ftX_e (feE_g (by assumption)) (by assumption))
          | exact li_oe (ftX_e (feE_r (by assumption) (by assumption)) (by assumption))
          | exact li_oe (ftX_e ((feE_j (by assumption) (by assumption) (by first | assumption | (rw [jk_2 (by omega)]; decide))).trans (by first | rfl | exact jk_2 (by omega))) (by decide))
          | exact li_oe (ftX_e (feE_j (by assumption) (by assumption) (by assumption)) (by assumption))
          | exact li_oe (ftX_e (feE_m (by assumption) (by assumption) (by first | assumption | exact jk_0 (by omega)) (any_hit hx (decide_eq_true (by omega)))) (by decide))
          | exact li_o hihj32_0 (by rw [tk_e (by simp only [List.length_map] at *; omega), ftX_0 (feE_0 (by assumption) (by assumption) (by first | assumption | exact jk_0 (by omega)) (any_no hin (by simp only [List.length_map] at *; omega)))])

theorem fr60 : (inFrame Tryz.f60.ntmps (Tryz.f60.body.getD .skip) && Tryz.f60.results.toList.all (resScope Tryz.f60.ntmps)) = true := by kernel_rfl
theorem HeightsC (g : Grid) (l : List Ground) (j : Jack) (ha : g.along.length ≤ 100) (hb : g.levels.length ≤ 100) (hl : l.length ≤ 1000) : PCalls Tryz.prog 60 [.agg g.enc, .lit true 4 (l.map Ground.enc), .agg j.enc] (.tup [.lit false 1 ((ftX (hgtAt l) g l j).1.map ci), .int (ftX (hgtAt l) g l j).2]) := by
 refine PCalls.of_code Tryz.func60 rfl rfl (by kernel_rfl) mixed fr60 (by show _ ≤ 54; simp) (pure_2 (.lit _ _ _ fun row hr => pure_map ci_pure row hr) (.sc _)) ?_
 refine pwp_seq_plain rfl fun K1 hK1 => ?_
 refine p_new rfl (e_box (n := 3) rfl rfl) ⟨rfl, by decide⟩ ?_
 refine p_new rfl (e_box (n := 3) rfl rfl) ⟨rfl, by decide⟩ ?_
 refine p_e rfl (e_assign (v := .nil) rfl) ?_
 refine p_aS rfl ?_
 refine p_end (hK1 _ ?_); clear hK1 K1
 refine pwp_seq_seq ?_
 refine pwp_seq_plain rfl fun K2 hK2 => ?_
 refine p_e rfl (e_loadHA (cs := Grid.enc (g)) (n := 3) rfl ((hset_ne (key_ne rfl)).trans (hset_self _ _ _)) (by kernel_rfl) (by kernel_rfl) (by kernel_rfl) (by exact Nat.zero_lt_one) (by decide) rfl) ?_
 refine p_call rfl (.cons (inn_agg (Grid.pure _)) .nil) (refGridC g (by omega) (by omega)) ?_
 refine p_aS rfl ?_
 refine p_end (hK2 _ ?_); clear hK2 K2
 refine pwp_seq_seq ?_
 refine pwp_seq_plain rfl fun K3 hK3 => ?_
 refine p_mS rfl ?_
 refine p_e rfl (e_ne rfl rfl) ?_
 refine p_end (hK3 _ ?_); clear hK3 K3
 refine pwp_seq_cond rfl fun K4 hK4 => ⟨fun hb5 => ?_, fun hb5 => ?_⟩
 ·have hb5R := hb5; try simp only [zz] at hb5
  refine pwp_seq_plain rfl fun K6 hK6 => ?_
  refine p_mS rfl ?_
  refine p_e rfl (e_assign (v := .nil) rfl) ?_
  refine p_aS rfl ?_
  refine p_end (hK6 _ ?_); clear hK6 K6
  refine pwp_ret ?_
  refine ret_seq ?_
  refine end2 (v := .nil) (w := .sc _) rfl rfl ?_
  first
    | exact li_oe (ftX_e (feE_g (by assumption)) (by assumption))
    | exact li_oe (ftX_e (feE_r (by assumption) (by assumption)) (by assumption))
    | exact li_oe (ftX_e ((feE_j (by assumption) (by assumption) (by first | assumption | (rw [jk_2 (by omega)]; decide))).trans (by first | rfl | exact jk_2 (by omega))) (by decide))
    | exact li_oe (ftX_e (feE_j (by assumption) (by assumption) (by assumption)) (by assumption))
    | exact li_oe (ftX_e (feE_m (by assumption) (by assumption) (by first | assumption | exact jk_0 (by omega)) (any_hit hx (decide_eq_true (by omega)))) (by decide))
 ·have hb5R := hb5; try simp only [zz] at hb5
  refine pwp_skip ?_
  refine seq_norm (hK4 _ ?_); clear hK4 K4
  refine pwp_seq_seq ?_
  refine pwp_seq_plain rfl fun K7 hK7 => ?_
  refine p_e rfl (e_move (v := .lit _ _ _) rfl) ?_
  refine p_call rfl (.cons inn_lit .nil) (refGroundC l (by omega)) ?_
  refine p_aS rfl ?_
  refine p_end (hK7 _ ?_); clear hK7 K7
  refine pwp_seq_seq ?_
  refine pwp_seq_plain rfl fun K8 hK8 => ?_
  refine p_mS rfl ?_
  refine p_e rfl (e_ne rfl rfl) ?_
  refine p_end (hK8 _ ?_); clear hK8 K8
  refine pwp_seq_cond rfl fun K9 hK9 => ⟨fun hb10 => ?_, fun hb10 => ?_⟩
  ·have hb10R := hb10; try simp only [zz] at hb10
   refine pwp_seq_plain rfl fun K11 hK11 => ?_
   refine p_mS rfl ?_
   refine p_e rfl (e_assign (v := .nil) rfl) ?_
   refine p_aS rfl ?_
   refine p_end (hK11 _ ?_); clear hK11 K11
   refine pwp_ret ?_
   refine ret_seq ?_
   refine end2 (v := .nil) (w := .sc _) rfl rfl ?_
   first
     | exact li_oe (ftX_e (feE_g (by assumption)) (by assumption))
     | exact li_oe (ftX_e (feE_r (by assumption) (by assumption)) (by assumption))
     | exact li_oe (ftX_e ((feE_j (by assumption) (by assumption) (by first | assumption | (rw [jk_2 (by omega)]; decide))).trans (by first | rfl | exact jk_2 (by omega))) (by decide))
     | exact li_oe (ftX_e (feE_j (by assumption) (by assumption) (by assumption)) (by assumption))
     | exact li_oe (ftX_e (feE_m (by assumption) (by assumption) (by first | assumption | exact jk_0 (by omega)) (any_hit hx (decide_eq_true (by omega)))) (by decide))
  ·have hb10R := hb10; try simp only [zz] at hb10
   refine pwp_skip ?_
   refine seq_norm (hK9 _ ?_); clear hK9 K9
   refine pwp_seq_seq ?_
   have hgr : groundE l = 0 := by omega
   have hl1 := gr_len hgr
   have hgz : gridE g = 0 := by omega
   refine pwp_seq_plain rfl fun K12 hK12 => ?_
   refine p_e rfl (e_loadHA (cs := Jack.enc (j)) (n := 3) rfl (hset_self _ _ _) (by kernel_rfl) (by kernel_rfl) (by kernel_rfl) (by exact Nat.zero_lt_one) (by decide) rfl) ?_
   refine p_call rfl (.cons (inn_agg (Jack.pure _)) .nil) (refJackC j) ?_
   refine p_aS rfl ?_
   refine p_end (hK12 _ ?_); clear hK12 K12
   refine pwp_seq_seq ?_
   refine pwp_seq_plain rfl fun K13 hK13 => ?_
   refine p_mS rfl ?_
   refine p_e rfl (e_ne rfl rfl) ?_
   refine p_end (hK13 _ ?_); clear hK13 K13
   refine pwp_seq_cond rfl fun K14 hK14 => ⟨fun hb15 => ?_, fun hb15 => ?_⟩
   ·have hb15R := hb15; try simp only [zz] at hb15
    refine pwp_seq_plain rfl fun K16 hK16 => ?_
    refine p_mS rfl ?_
    refine p_e rfl (e_assign (v := .nil) rfl) ?_
    refine p_aS rfl ?_
    refine p_end (hK16 _ ?_); clear hK16 K16
    refine pwp_ret ?_
    refine ret_seq ?_
    refine end2 (v := .nil) (w := .sc _) rfl rfl ?_
    first
      | exact li_oe (ftX_e (feE_g (by assumption)) (by assumption))
      | exact li_oe (ftX_e (feE_r (by assumption) (by assumption)) (by assumption))
      | exact li_oe (ftX_e ((feE_j (by assumption) (by assumption) (by first | assumption | (rw [jk_2 (by omega)]; decide))).trans (by first | rfl | exact jk_2 (by omega))) (by decide))
      | exact li_oe (ftX_e (feE_j (by assumption) (by assumption) (by assumption)) (by assumption))
      | exact li_oe (ftX_e (feE_m (by assumption) (by assumption) (by first | assumption | exact jk_0 (by omega)) (any_hit hx (decide_eq_true (by omega)))) (by decide))
   ·have hb15R := hb15; try simp only [zz] at hb15
    refine pwp_skip ?_
    refine seq_norm (hK14 _ ?_); clear hK14 K14
    have hjz : jackE j = 0 := by omega
    refine pwp_seq_plain rfl fun K17 hK17 => ?_
    refine p_e rfl (e_assign (v := .nil) rfl) ?_
    refine p_end (hK17 _ ?_); clear hK17 K17
    refine pwp_seq_seq ?_
    refine pwp_seq_plain rfl fun K18 hK18 => ?_
    refine p_aS rfl ?_
    refine p_end (hK18 _ ?_); clear hK18 K18
    refine pwp_seq_block fun K19 hK19 => ?_
    refine pwp_loopR (α := Nat × PV) [1, 3] (fun (a20 : Nat × PV) => [(11, (a20.2)), (12, .int (a20.1))]) (fun (a20 : Nat × PV) (h : Heap) (_ : Nat → Nat) => ((a20.1) ≤ g.along.length) ∧ (∀ i, i < (a20.1) → ∀ y, g.along[i]? = some y → offB l y = false) ∧ (SliceAt h 52 (a20.2) 1 ((((g.along.take (a20.1)).map (hgtAt l))).map ci)) ∧ (h (3, 0) = some (.rows 3 [Grid.enc g]))) (fun (a20 : Nat × PV) => g.along.length - (a20.1)) (0, .nil) (by exact ⟨rfl, rfl, trivial⟩) (by exact ⟨by exact Nat.zero_le _, by exact nx_0, .nil, ((hset_ne (key_ne rfl)).trans (hset_self _ _ _))⟩) fun a20 r21 h22 c23 hj24 => ?_
    obtain ⟨k, v⟩ := a20
    obtain ⟨hk, hin, hihj24_0, hihj24_1⟩ := hj24
    try dsimp only at hk
    try dsimp only at hin
    try dsimp only at hihj24_0
    try dsimp only at hihj24_1
    show pwp _ _ (loopQ _ _ _) ⟨sets (mix _ _ _) [(11, v), (12, .int k)], _, _⟩
    refine pwp_seq_seq ?_
    refine pwp_seq_plain rfl fun K25 hK25 => ?_
    refine p_mS rfl ?_
    refine p_e rfl (e_faQ pl3 rfl) ?_
    refine p_e rfl (e_lH (v := .lit _ _ _) rfl hihj24_1 rfl) ?_
    refine p_e rfl (e_len rfl (by kernel_rfl)) ?_
    refine p_e rfl (e_lt rfl rfl) ?_
    refine p_end (hK25 _ ?_); clear hK25 K25
    refine pwp_seq_cond rfl fun K26 hK26 => ⟨fun hb27 => ?_, fun hb27 => ?_⟩
    ·have hb27R := hb27; try simp only [zz] at hb27
     obtain ⟨x, hx, hd, ht⟩ := get_lt (xs := g.along) (i := k) (by omega)
     refine pwp_skip ?_
     refine seq_norm (hK26 _ ?_); clear hK26 K26
     refine pwp_seq_block fun K28 hK28 => ?_
     refine pwp_seq_plain rfl fun K29 hK29 => ?_
     refine p_e rfl (e_move (v := .lit _ _ _) rfl) ?_
     refine p_e rfl (e_faQ pl3 rfl) ?_
     refine p_e rfl (e_lH (v := .lit _ _ _) rfl hihj24_1 rfl) ?_
     refine p_mS rfl ?_
     refine p_e rfl (e_ixL rfl rfl) ?_
     refine p_e rfl (e_load (v := .sc _) rfl (by kernel_rfl) (by kernel_rfl) (by kernel_rfl) (by first | omega | (simp only [List.length_map]; omega)) (by decide) ((cell_map hx _).trans rfl)) ?_
     refine p_call rfl (.cons inn_lit (.cons inn_sc .nil)) (StepAtC l _ (by omega) (by omega)) ?_
     refine p_aS rfl ?_
     refine p_end (hK29 _ ?_); clear hK29 K29
     refine pwp_seq_seq ?_
     refine pwp_seq_plain rfl fun K30 hK30 => ?_
     refine p_mS rfl ?_
     refine p_e rfl (e_lt rfl rfl) ?_
     refine p_end (hK30 _ ?_); clear hK30 K30
     refine pwp_seq_cond rfl fun K31 hK31 => ⟨fun hb32 => ?_, fun hb32 => ?_⟩
     ·have hb32R := hb32; try simp only [zz] at hb32
      refine pwp_seq_plain rfl fun K33 hK33 => ?_
      refine p_e rfl (e_assign (v := .nil) rfl) ?_
      refine p_aS rfl ?_
      refine p_end (hK33 _ ?_); clear hK33 K33
      refine pwp_ret ?_
      refine ret_seq ?_
      refine ret_block ?_
      refine ret_seq ?_
      refine ret_loop ?_
      refine ret_block ?_
      refine ret_seq ?_
      refine end2 (v := .nil) (w := .sc _) rfl rfl ?_
      first
        | exact li_oe (ftX_e (feE_g (by assumption)) (by assumption))
        | exact li_oe (ftX_e (feE_r (by assumption) (by assumption)) (by assumption))
        | exact li_oe (ftX_e ((feE_j (by assumption) (by assumption) (by first | assumption | (rw [jk_2 (by omega)]; decide))).trans (by first | rfl | exact jk_2 (by omega))) (by decide))
        | exact li_oe (ftX_e (feE_j (by assumption) (by assumption) (by assumption)) (by assumption))
        | exact li_oe (ftX_e (feE_m (by assumption) (by assumption) (by first | assumption | exact jk_0 (by omega)) (any_hit hx (decide_eq_true (by omega)))) (by decide))
        | exact li_o hihj24_0 (by rw [tk_e (by simp only [List.length_map] at *; omega), ftX_0 (feE_0 (by assumption) (by assumption) (by first | assumption | exact jk_0 (by omega)) (any_no hin (by simp only [List.length_map] at *; omega)))])
     ·have hb32R := hb32; try simp only [zz] at hb32
      refine pwp_skip ?_
      refine seq_norm (hK31 _ ?_); clear hK31 K31
      have hlt := stX_lt (x := x) hl1.1
      obtain ⟨s, hs⟩ : ∃ s, l[(stX l x).toNat]? = some s := ⟨_, List.getElem?_eq_getElem (by omega)⟩
      have hgb : -1000000 ≤ s.height ∧ s.height ≤ 1000000 := by have q := hg_b (x := x) hgr (by omega); rwa [hgtAt_at hs] at q
      refine pwp_plain rfl fun K34 hK34 => ?_
      refine p_e rfl (e_move (v := _) rfl) ?_
      refine p_e rfl (e_move (v := .lit _ _ _) rfl) ?_
      refine p_mS rfl ?_
      refine p_e rfl (e_ixL rfl rfl) ?_
      refine p_e rfl (e_fb pl4 rfl) ?_
      refine p_e rfl (e_load (v := .sc _) rfl (by kernel_rfl) (by kernel_rfl) (by kernel_rfl) (by first | omega | (simp only [List.length_map]; omega)) (by decide) ((cell_map hs _).trans rfl)) ?_
      refine p_new rfl (e_bslice (rows := [ci s.height]) (zs := [.int 0]) (sz := 1) (by kernel_rfl) (by kernel_rfl) rfl (by kernel_rfl) (by decide) rfl rfl (by exact ⟨by decide, rfl, rfl, trivial⟩) rfl) trivial ?_
      refine p_app rfl rfl rfl (hihj24_0.keep fun _ => (hset_ne (key_ne rfl)).trans (rfl)) (src_ref (hset_self _ _ _) rfl) (by kernel_rfl) (by simp only [List.length_append, List.length_map, List.length_nil, List.length_cons, List.length_take]; omega) fun v35 h36 c37 hs38 hf39 => ?_
      have ho40 := (hf39 (3, _) (key_ne rfl) (fun _ _ => key_ne rfl)).trans ((hset_ne (key_ne rfl)).trans hihj24_1)
      have ho41 := (hf39 (51, _) (key_ne rfl) (fun _ _ => key_ne rfl)).trans (hset_self _ _ _)
      refine p_e rfl (e_assign (v := _) rfl) ?_
      refine p_end (hK34 _ ?_); clear hK34 K34
      refine block_norm ?_
      refine seq_norm (hK28 _ ?_); clear hK28 K28
      refine pwp_plain rfl fun K42 hK42 => ?_
      refine p_mS rfl ?_
      refine p_e rfl (e_adL rfl rfl) ?_
      refine p_aS rfl ?_
      refine p_end (hK42 _ ?_); clear hK42 K42
      exact loop_again ((k + 1, v35)) (by show _ < _; simp only; omega) ⟨rfl, rfl, trivial⟩ ⟨rfl, rfl, trivial⟩ (by exact ⟨by show _ + 1 ≤ _; simp only [List.length_map] at *; omega, by exact nx_step (K := offB l) hin hx (decide_eq_false (by omega)), (SliceAt.to hs38 (by rw [tk_s hx, List.map_append, hgtAt_at hs]; rfl)), ho40⟩)
    ·have hb27R := hb27; try simp only [zz] at hb27
     refine pwp_exit ?_
     refine exit_seq ?_
     clear hK26 K26
     refine exit_loop ?_
     refine exit_here ?_
     refine seq_norm (hK19 _ ?_); clear hK19 K19
     refine pwp_seq_plain rfl fun K43 hK43 => ?_
     refine p_e rfl (e_move (v := _) rfl) ?_
     refine p_e rfl (e_assign (v := _) rfl) ?_
     refine p_aS rfl ?_
     refine p_end (hK43 _ ?_); clear hK43 K43
     refine pwp_ret ?_
     refine end2 (v := _) (w := .sc _) rfl rfl ?_
     first
       | exact li_oe (ftX_e (feE_g (by assumption)) (by assumption))
       | exact li_oe (ftX_e (feE_r (by assumption) (by assumption)) (by assumption))
       | exact li_oe (ftX_e ((feE_j (by assumption) (by assumption) (by first | assumption | (rw [jk_2 (by omega)]; decide))).trans (by first | rfl | exact jk_2 (by omega))) (by decide))
       | exact li_oe (ftX_e (feE_j (by assumption) (by assumption) (by assumption)) (by assumption))
       | exact li_oe (ftX_e (feE_m (by assumption) (by assumption) (by first | assumption | exact jk_0 (by omega)) (any_hit hx (decide_eq_true (by omega)))) (by decide))
       | exact li_o hihj24_0 (by rw [tk_e (by simp only [List.length_map] at *; omega), ftX_0 (feE_0 (by assumption) (by assumption) (by first | assumption | exact jk_0 (by omega)) (any_no hin (by simp only [List.length_map] at *; omega)))])

theorem fr58 : (inFrame Tryz.f58.ntmps (Tryz.f58.body.getD .skip) && Tryz.f58.results.toList.all (resScope Tryz.f58.ntmps)) = true := by kernel_rfl
theorem DatumC (g : Grid) (l : List Ground) (j : Jack) (ha : g.along.length ≤ 100) (hb : g.levels.length ≤ 100) (hl : l.length ≤ 1000) : PCalls Tryz.prog 58 [.agg g.enc, .lit true 4 (l.map Ground.enc), .agg j.enc] (.tup [.int (datX g l j).1, .int (datX g l j).2]) := by
 refine PCalls.of_code Tryz.func58 rfl rfl (by kernel_rfl) mixed fr58 (by show _ ≤ 34; simp) (pure_2 (.sc _) (.sc _)) ?_
 have hfx := ftX_c (ftS l j) g l j
 have hfn := ftX_len (f := ftS l j) (g := g) (l := l) (j := j) ha
 refine pwp_seq_plain rfl fun K1 hK1 => ?_
 refine p_new rfl (e_box (n := 3) rfl rfl) ⟨rfl, by decide⟩ ?_
 refine p_new rfl (e_box (n := 3) rfl rfl) ⟨rfl, by decide⟩ ?_
 refine p_aS rfl ?_
 refine p_aS rfl ?_
 refine p_end (hK1 _ ?_); clear hK1 K1
 refine pwp_seq_plain rfl fun K2 hK2 => ?_
 refine p_e rfl (e_loadHA (cs := Grid.enc (g)) (n := 3) rfl ((hset_ne (key_ne rfl)).trans (hset_self _ _ _)) (by kernel_rfl) (by kernel_rfl) (by kernel_rfl) (by exact Nat.zero_lt_one) (by decide) rfl) ?_
 refine p_e rfl (e_move (v := .lit _ _ _) rfl) ?_
 refine p_e rfl (e_loadHA (cs := Jack.enc (j)) (n := 3) rfl (hset_self _ _ _) (by kernel_rfl) (by kernel_rfl) (by kernel_rfl) (by exact Nat.zero_lt_one) (by decide) rfl) ?_
 refine p_call rfl (.cons (inn_agg (Grid.pure _)) (.cons inn_lit (.cons (inn_agg (Jack.pure _)) .nil))) (feetC g l j (by omega) (by omega) (by omega)) ?_
 refine p_e rfl (e_move (v := .tup _) rfl) ?_
 refine p_e rfl (e_ext (v := .lit _ _ _) rfl (by simp) rfl) ?_
 refine p_e rfl (e_ext (v := .sc _) rfl (by simp) rfl) ?_
 refine p_e rfl (e_assign (v := .lit _ _ _) rfl) ?_
 refine p_aS rfl ?_
 refine p_end (hK2 _ ?_); clear hK2 K2
 refine pwp_seq_seq ?_
 refine pwp_seq_plain rfl fun K3 hK3 => ?_
 refine p_mS rfl ?_
 refine p_e rfl (e_ne rfl rfl) ?_
 refine p_end (hK3 _ ?_); clear hK3 K3
 refine pwp_seq_cond rfl fun K4 hK4 => ⟨fun hb5 => ?_, fun hb5 => ?_⟩
 ·have hb5R := hb5; try simp only [zz] at hb5
  refine pwp_seq_plain rfl fun K6 hK6 => ?_
  refine p_mS rfl ?_
  refine p_aS rfl ?_
  refine p_aS rfl ?_
  refine p_end (hK6 _ ?_); clear hK6 K6
  refine pwp_ret ?_
  refine ret_seq ?_
  refine end2 (v := .sc _) (w := .sc _) rfl rfl ?_
  first
    | exact out_2 (out_i (by rw [datX, if_pos (by omega)])) (out_i (by rw [datX, if_pos (by omega)]; show _ = feetE g l j; omega))
    | exact out_2 (out_i (by rw [datX, if_neg (fun q => q hfz), if_pos (by rw [← hfl]; omega)])) (out_i (by rw [datX, if_neg (fun q => q hfz), if_pos (by rw [← hfl]; omega)]))
    | exact out_2 (out_i (by rw [datX, if_neg (fun q => q hfz), if_neg (by rw [← hfl]; omega), ← hfl])) (out_i (by rw [datX, if_neg (fun q => q hfz), if_neg (by rw [← hfl]; omega)]))
 ·have hb5R := hb5; try simp only [zz] at hb5
  refine pwp_skip ?_
  refine seq_norm (hK4 _ ?_); clear hK4 K4
  have hfz : feetE g l j = 0 := by omega
  have hfl : (ftX (ftS l j) g l j).1 = g.along.map (ftS l j) := by rw [ftX_0 hfz]
  have hln := fe_len hfz
  have hjj := jk_inv (fe_inv hfz).2.2.1
  have hmx := ft_b hfz (mx_mem (by rw [List.length_map]; omega))
  have hmn := ft_b hfz (mn_mem (by rw [List.length_map]; omega))
  rw [← hfl] at hmx hmn
  refine pwp_seq_gops rfl fun K7 hK7 => ?_
  refine g_begin ?_
  refine g_e rfl (e_move (v := .lit _ _ _) rfl) ?_
  refine g_call rfl rfl rfl rfl (.cons inn_lit .nil) (MaxC _ (ftX (ftS l j) g l j).1 (by rw [hfl, List.length_map]; omega) (by omega)) ?_
  refine g_e rfl (e_faQ pl3 rfl) ?_
  refine g_e rfl (e_lH (v := .sc _) rfl (hset_self _ _ _) rfl) ?_
  refine g_e rfl (e_adL rfl rfl) ?_
  refine g_aS rfl rfl ?_
  refine g_end (ds := []) (by kernel_rfl) rfl (hK7 _ ?_); clear hK7 K7
  refine pwp_seq_seq ?_
  refine pwp_seq_gops rfl fun K8 hK8 => ?_
  refine g_begin ?_
  refine g_mS rfl rfl ?_
  refine g_e rfl (e_move (v := .lit _ _ _) rfl) ?_
  refine g_call rfl rfl rfl rfl (.cons inn_lit .nil) (MinC _ (ftX (ftS l j) g l j).1 (by rw [hfl, List.length_map]; omega) (by omega)) ?_
  refine g_e rfl (e_faQ pl3 rfl) ?_
  refine g_e rfl (e_lH (v := .sc _) rfl (hset_self _ _ _) rfl) ?_
  refine g_e rfl (e_adL rfl rfl) ?_
  refine g_e rfl (e_gt rfl rfl) ?_
  refine g_end (ds := []) (by kernel_rfl) rfl (hK8 _ ?_); clear hK8 K8
  refine pwp_seq_cond rfl fun K9 hK9 => ⟨fun hb10 => ?_, fun hb10 => ?_⟩
  ·have hb10R := hb10; try simp only [zz] at hb10
   refine pwp_seq_plain rfl fun K11 hK11 => ?_
   refine p_aS rfl ?_
   refine p_aS rfl ?_
   refine p_end (hK11 _ ?_); clear hK11 K11
   refine pwp_ret ?_
   refine ret_seq ?_
   refine end2 (v := .sc _) (w := .sc _) rfl rfl ?_
   first
     | exact out_2 (out_i (by rw [datX, if_pos (by omega)])) (out_i (by rw [datX, if_pos (by omega)]; show _ = feetE g l j; omega))
     | exact out_2 (out_i (by rw [datX, if_neg (fun q => q hfz), if_pos (by rw [← hfl]; omega)])) (out_i (by rw [datX, if_neg (fun q => q hfz), if_pos (by rw [← hfl]; omega)]))
     | exact out_2 (out_i (by rw [datX, if_neg (fun q => q hfz), if_neg (by rw [← hfl]; omega), ← hfl])) (out_i (by rw [datX, if_neg (fun q => q hfz), if_neg (by rw [← hfl]; omega)]))
  ·have hb10R := hb10; try simp only [zz] at hb10
   refine pwp_skip ?_
   refine seq_norm (hK9 _ ?_); clear hK9 K9
   refine pwp_seq_plain rfl fun K12 hK12 => ?_
   refine p_mS rfl ?_
   refine p_aS rfl ?_
   refine p_aS rfl ?_
   refine p_end (hK12 _ ?_); clear hK12 K12
   refine pwp_ret ?_
   refine end2 (v := .sc _) (w := .sc _) rfl rfl ?_
   first
     | exact out_2 (out_i (by rw [datX, if_pos (by omega)])) (out_i (by rw [datX, if_pos (by omega)]; show _ = feetE g l j; omega))
     | exact out_2 (out_i (by rw [datX, if_neg (fun q => q hfz), if_pos (by rw [← hfl]; omega)])) (out_i (by rw [datX, if_neg (fun q => q hfz), if_pos (by rw [← hfl]; omega)]))
     | exact out_2 (out_i (by rw [datX, if_neg (fun q => q hfz), if_neg (by rw [← hfl]; omega), ← hfl])) (out_i (by rw [datX, if_neg (fun q => q hfz), if_neg (by rw [← hfl]; omega)]))

theorem fr59 : (inFrame Tryz.f59.ntmps (Tryz.f59.body.getD .skip) && Tryz.f59.results.toList.all (resScope Tryz.f59.ntmps)) = true := by kernel_rfl
theorem JacksC (g : Grid) (l : List Ground) (j : Jack) (datum : Int) (ha : g.along.length ≤ 100) (hb : g.levels.length ≤ 100) (hl : l.length ≤ 1000) : PCalls Tryz.prog 59 [.agg g.enc, .lit true 4 (l.map Ground.enc), .agg j.enc, .int datum] (.tup [.lit false 1 ((jckX g l j datum).1.map ci), .int (jckX g l j datum).2]) := by
 refine PCalls.of_code Tryz.func59 rfl rfl (by kernel_rfl) mixed fr59 (by show _ ≤ 51; simp) (pure_2 (.lit _ _ _ fun row hr => pure_map ci_pure row hr) (.sc _)) ?_
 have hfx := ftX_c (ftS l j) g l j
 have hfn := ftX_len (f := ftS l j) (g := g) (l := l) (j := j) ha
 refine pwp_seq_plain rfl fun K1 hK1 => ?_
 refine p_new rfl (e_box (n := 3) rfl rfl) ⟨rfl, by decide⟩ ?_
 refine p_new rfl (e_box (n := 3) rfl rfl) ⟨rfl, by decide⟩ ?_
 refine p_e rfl (e_assign (v := .nil) rfl) ?_
 refine p_aS rfl ?_
 refine p_end (hK1 _ ?_); clear hK1 K1
 refine pwp_seq_plain rfl fun K2 hK2 => ?_
 refine p_e rfl (e_loadHA (cs := Grid.enc (g)) (n := 3) rfl ((hset_ne (key_ne rfl)).trans (hset_self _ _ _)) (by kernel_rfl) (by kernel_rfl) (by kernel_rfl) (by exact Nat.zero_lt_one) (by decide) rfl) ?_
 refine p_e rfl (e_move (v := .lit _ _ _) rfl) ?_
 refine p_e rfl (e_loadHA (cs := Jack.enc (j)) (n := 3) rfl (hset_self _ _ _) (by kernel_rfl) (by kernel_rfl) (by kernel_rfl) (by exact Nat.zero_lt_one) (by decide) rfl) ?_
 refine p_call rfl (.cons (inn_agg (Grid.pure _)) (.cons inn_lit (.cons (inn_agg (Jack.pure _)) .nil))) (feetC g l j (by omega) (by omega) (by omega)) ?_
 refine p_e rfl (e_move (v := .tup _) rfl) ?_
 refine p_e rfl (e_ext (v := .lit _ _ _) rfl (by simp) rfl) ?_
 refine p_e rfl (e_ext (v := .sc _) rfl (by simp) rfl) ?_
 refine p_e rfl (e_assign (v := .lit _ _ _) rfl) ?_
 refine p_aS rfl ?_
 refine p_end (hK2 _ ?_); clear hK2 K2
 refine pwp_seq_seq ?_
 refine pwp_seq_plain rfl fun K3 hK3 => ?_
 refine p_mS rfl ?_
 refine p_e rfl (e_ne rfl rfl) ?_
 refine p_end (hK3 _ ?_); clear hK3 K3
 refine pwp_seq_cond rfl fun K4 hK4 => ⟨fun hb5 => ?_, fun hb5 => ?_⟩
 ·have hb5R := hb5; try simp only [zz] at hb5
  refine pwp_seq_plain rfl fun K6 hK6 => ?_
  refine p_mS rfl ?_
  refine p_e rfl (e_assign (v := .nil) rfl) ?_
  refine p_aS rfl ?_
  refine p_end (hK6 _ ?_); clear hK6 K6
  refine pwp_ret ?_
  refine ret_seq ?_
  refine end2 (v := .nil) (w := .sc _) rfl rfl ?_
  first
    | exact li_oe (by rw [jckX, if_pos (by omega)]; show _ = ([], _); congr 1; omega)
    | exact li_oe (by rw [jckX, if_neg (fun q => q hfz), if_pos (by omega)])
    | exact li_oe (by rw [jckX, if_neg (fun q => q hfz), if_neg (by omega), if_neg (by rw [← hfl, all_f (K := extB j datum) hx (decide_eq_false (by omega))]; decide)])
 ·have hb5R := hb5; try simp only [zz] at hb5
  refine pwp_skip ?_
  refine seq_norm (hK4 _ ?_); clear hK4 K4
  refine pwp_seq_seq ?_
  have hfz : feetE g l j = 0 := by omega
  have hfl : (ftX (ftS l j) g l j).1 = g.along.map (ftS l j) := by rw [ftX_0 hfz]
  have hln := fe_len hfz
  have hjj := jk_inv (fe_inv hfz).2.2.1
  refine pwp_seq_plain rfl fun K7 hK7 => ?_
  refine p_mS rfl ?_
  refine p_call rfl (.cons inn_sc (.cons inn_sc (.cons inn_sc .nil))) (within _ _ _) ?_
  refine p_e rfl (e_not rfl) ?_
  refine p_end (hK7 _ ?_); clear hK7 K7
  refine pwp_seq_cond rfl fun K8 hK8 => ⟨fun hb9 => ?_, fun hb9 => ?_⟩
  ·have hb9R := hb9; try simp only [zz] at hb9
   refine pwp_seq_plain rfl fun K10 hK10 => ?_
   refine p_e rfl (e_assign (v := .nil) rfl) ?_
   refine p_aS rfl ?_
   refine p_end (hK10 _ ?_); clear hK10 K10
   refine pwp_ret ?_
   refine ret_seq ?_
   refine end2 (v := .nil) (w := .sc _) rfl rfl ?_
   first
     | exact li_oe (by rw [jckX, if_pos (by omega)]; show _ = ([], _); congr 1; omega)
     | exact li_oe (by rw [jckX, if_neg (fun q => q hfz), if_pos (by omega)])
     | exact li_oe (by rw [jckX, if_neg (fun q => q hfz), if_neg (by omega), if_neg (by rw [← hfl, all_f (K := extB j datum) hx (decide_eq_false (by omega))]; decide)])
  ·have hb9R := hb9; try simp only [zz] at hb9
   refine pwp_skip ?_
   refine seq_norm (hK8 _ ?_); clear hK8 K8
   refine pwp_seq_plain rfl fun K11 hK11 => ?_
   refine p_e rfl (e_assign (v := .nil) rfl) ?_
   refine p_end (hK11 _ ?_); clear hK11 K11
   refine pwp_seq_seq ?_
   refine pwp_seq_plain rfl fun K12 hK12 => ?_
   refine p_e rfl (e_move (v := .lit _ _ _) rfl) ?_
   refine p_e rfl (e_len rfl (by kernel_rfl)) ?_
   refine p_mS rfl ?_
   refine p_end (hK12 _ ?_); clear hK12 K12
   refine pwp_seq_block fun K13 hK13 => ?_
   refine pwp_loopR (α := Nat × PV) [3, 6, 28, 29] (fun (a14 : Nat × PV) => [(12, (a14.2)), (30, .int (a14.1))]) (fun (a14 : Nat × PV) (h : Heap) (_ : Nat → Nat) => ((a14.1) ≤ (ftX (ftS l j) g l j).1.length) ∧ (∀ i, i < (a14.1) → ∀ y, (ftX (ftS l j) g l j).1[i]? = some y → extB j datum y = true) ∧ (SliceAt h 48 (a14.2) 1 (((((ftX (ftS l j) g l j).1.take (a14.1)).map (fun n => datum - n))).map ci)) ∧ (h (6, 0) = some (.rows 3 [Jack.enc j]))) (fun (a14 : Nat × PV) => (ftX (ftS l j) g l j).1.length - (a14.1)) (0, .nil) (by exact ⟨rfl, rfl, trivial⟩) (by exact ⟨by exact Nat.zero_le _, by intro i h; omega, .nil, (hset_self _ _ _)⟩) fun a14 r15 h16 c17 hj18 => ?_
   obtain ⟨k, v⟩ := a14
   obtain ⟨hk, hin, hihj18_0, hihj18_1⟩ := hj18
   try dsimp only at hk
   try dsimp only at hin
   try dsimp only at hihj18_0
   try dsimp only at hihj18_1
   show pwp _ _ (loopQ _ _ _) ⟨sets (mix _ _ _) [(12, v), (30, .int k)], _, _⟩
   refine pwp_seq_plain rfl fun K19 hK19 => ?_
   refine p_e rfl (e_lt rfl rfl) ?_
   refine p_end (hK19 _ ?_); clear hK19 K19
   refine pwp_seq_cond rfl fun K20 hK20 => ⟨fun hb21 => ?_, fun hb21 => ?_⟩
   ·have hb21R := hb21; try simp only [zz] at hb21
    obtain ⟨x, hx, hd, ht⟩ := get_lt (xs := (ftX (ftS l j) g l j).1) (i := k) (by omega)
    have hxb := ft_b hfz (by rw [← hfl]; exact List.mem_of_getElem? hx)
    refine pwp_skip ?_
    refine seq_norm (hK20 _ ?_); clear hK20 K20
    refine pwp_seq_block fun K22 hK22 => ?_
    refine pwp_seq_plain rfl fun K23 hK23 => ?_
    refine p_e rfl (e_ixL rfl rfl) ?_
    refine p_e rfl (e_load (v := .sc _) rfl (by kernel_rfl) (by kernel_rfl) (by kernel_rfl) (by first | omega | (simp only [List.length_map]; omega)) (by decide) ((cell_map hx _).trans rfl)) ?_
    refine p_aS rfl ?_
    refine p_end (hK23 _ ?_); clear hK23 K23
    refine pwp_seq_seq ?_
    refine pwp_seq_plain rfl fun K24 hK24 => ?_
    refine p_mS rfl ?_
    refine p_mS rfl ?_
    refine p_e rfl (e_sub rfl rfl (by first | omega | (simp only [List.length_map] at *; omega))) ?_
    refine p_e rfl (e_faQ pl3 rfl) ?_
    refine p_e rfl (e_lH (v := .sc _) rfl hihj18_1 rfl) ?_
    refine p_e rfl (e_faQ pl3 rfl) ?_
    refine p_e rfl (e_lH (v := .sc _) rfl hihj18_1 rfl) ?_
    refine p_call rfl (.cons inn_sc (.cons inn_sc (.cons inn_sc .nil))) (within _ _ _) ?_
    refine p_e rfl (e_not rfl) ?_
    refine p_end (hK24 _ ?_); clear hK24 K24
    refine pwp_seq_cond rfl fun K25 hK25 => ⟨fun hb26 => ?_, fun hb26 => ?_⟩
    ·have hb26R := hb26; try simp only [zz] at hb26
     refine pwp_seq_plain rfl fun K27 hK27 => ?_
     refine p_e rfl (e_assign (v := .nil) rfl) ?_
     refine p_aS rfl ?_
     refine p_end (hK27 _ ?_); clear hK27 K27
     refine pwp_ret ?_
     refine ret_seq ?_
     refine ret_block ?_
     refine ret_seq ?_
     refine ret_loop ?_
     refine ret_block ?_
     refine ret_seq ?_
     refine end2 (v := .nil) (w := .sc _) rfl rfl ?_
     first
       | exact li_oe (by rw [jckX, if_pos (by omega)]; show _ = ([], _); congr 1; omega)
       | exact li_oe (by rw [jckX, if_neg (fun q => q hfz), if_pos (by omega)])
       | exact li_oe (by rw [jckX, if_neg (fun q => q hfz), if_neg (by omega), if_neg (by rw [← hfl, all_f (K := extB j datum) hx (decide_eq_false (by omega))]; decide)])
       | exact li_o hihj18_0 (by rw [tk_e (by simp only [List.length_map] at *; omega), jckX, if_neg (fun q => q hfz), if_neg (by omega), if_pos (by rw [← hfl]; exact all_t hin (by simp only [List.length_map] at *; omega)), hfl])
    ·have hb26R := hb26; try simp only [zz] at hb26
     refine pwp_skip ?_
     refine seq_norm (hK25 _ ?_); clear hK25 K25
     refine pwp_plain rfl fun K28 hK28 => ?_
     refine p_e rfl (e_move (v := _) rfl) ?_
     refine p_mS rfl ?_
     refine p_mS rfl ?_
     refine p_e rfl (e_sub rfl rfl (by first | omega | (simp only [List.length_map] at *; omega))) ?_
     refine p_new rfl (e_bslice (rows := [ci (datum - x)]) (zs := [.int 0]) (sz := 1) (by kernel_rfl) (by kernel_rfl) rfl (by kernel_rfl) (by decide) rfl rfl (by exact ⟨by decide, rfl, rfl, trivial⟩) rfl) trivial ?_
     refine p_app rfl rfl rfl (hihj18_0.keep fun _ => (hset_ne (key_ne rfl)).trans (rfl)) (src_ref (hset_self _ _ _) rfl) (by kernel_rfl) (by simp only [List.length_append, List.length_map, List.length_nil, List.length_cons, List.length_take]; omega) fun v29 h30 c31 hs32 hf33 => ?_
     have ho34 := (hf33 (6, _) (key_ne rfl) (fun _ _ => key_ne rfl)).trans ((hset_ne (key_ne rfl)).trans hihj18_1)
     have ho35 := (hf33 (47, _) (key_ne rfl) (fun _ _ => key_ne rfl)).trans (hset_self _ _ _)
     refine p_e rfl (e_assign (v := _) rfl) ?_
     refine p_end (hK28 _ ?_); clear hK28 K28
     refine block_norm ?_
     refine seq_norm (hK22 _ ?_); clear hK22 K22
     refine pwp_plain rfl fun K36 hK36 => ?_
     refine p_e rfl (e_adL rfl rfl) ?_
     refine p_mS rfl ?_
     refine p_end (hK36 _ ?_); clear hK36 K36
     exact loop_again ((k + 1, v29)) (by show _ < _; simp only; omega) ⟨rfl, rfl, rfl, rfl, trivial⟩ ⟨rfl, rfl, trivial⟩ (by exact ⟨by show _ + 1 ≤ _; simp only [List.length_map] at *; omega, by exact nt_step (K := extB j datum) hin hx (decide_eq_true (by omega)), (SliceAt.to hs32 (by rw [tk_s hx, List.map_append]; rfl)), ho34⟩)
   ·have hb21R := hb21; try simp only [zz] at hb21
    refine pwp_exit ?_
    refine exit_seq ?_
    clear hK20 K20
    refine exit_loop ?_
    refine exit_here ?_
    refine seq_norm (hK13 _ ?_); clear hK13 K13
    refine pwp_seq_plain rfl fun K37 hK37 => ?_
    refine p_e rfl (e_move (v := _) rfl) ?_
    refine p_e rfl (e_assign (v := _) rfl) ?_
    refine p_aS rfl ?_
    refine p_end (hK37 _ ?_); clear hK37 K37
    refine pwp_ret ?_
    refine end2 (v := _) (w := .sc _) rfl rfl ?_
    first
      | exact li_oe (by rw [jckX, if_pos (by omega)]; show _ = ([], _); congr 1; omega)
      | exact li_oe (by rw [jckX, if_neg (fun q => q hfz), if_pos (by omega)])
      | exact li_oe (by rw [jckX, if_neg (fun q => q hfz), if_neg (by omega), if_neg (by rw [← hfl, all_f (K := extB j datum) hx (decide_eq_false (by omega))]; decide)])
      | exact li_o hihj18_0 (by rw [tk_e (by simp only [List.length_map] at *; omega), jckX, if_neg (fun q => q hfz), if_neg (by omega), if_pos (by rw [← hfl]; exact all_t hin (by simp only [List.length_map] at *; omega)), hfl])

theorem fr61 : (inFrame Tryz.f61.ntmps (Tryz.f61.body.getD .skip) && Tryz.f61.results.toList.all (resScope Tryz.f61.ntmps)) = true := by kernel_rfl
theorem ExtensionsC (t : Bool) (hs : List Int) (j : Jack) (d : Int) (hj : jackE j = 0) (hsb : ∀ y ∈ hs, -1000000 ≤ y ∧ y ≤ 1000000) (hdd : -3000000 ≤ d ∧ d ≤ 3000000) (hsl : hs.length ≤ 100) : PCalls Tryz.prog 61 [.lit t 1 (hs.map ci), .agg j.enc, .int d] (.tup [.lit false 1 ((hs.map (xtL j d)).map ci), .bool (hs.all (xtB j d))]) := by
 refine PCalls.of_code Tryz.func61 rfl rfl (by kernel_rfl) mixed fr61 (by show _ ≤ 42; simp) (pure_2 (.lit _ _ _ fun row hr => pure_map ci_pure row hr) (.sc _)) ?_
 have hjj := jk_inv hj
 refine pwp_seq_plain rfl fun K1 hK1 => ?_
 refine p_new rfl (e_box (n := 3) rfl rfl) ⟨rfl, by decide⟩ ?_
 refine p_e rfl (e_assign (v := .nil) rfl) ?_
 refine p_aS rfl ?_
 refine p_end (hK1 _ ?_); clear hK1 K1
 refine pwp_seq_plain rfl fun K2 hK2 => ?_
 refine p_aS rfl ?_
 refine p_end (hK2 _ ?_); clear hK2 K2
 refine pwp_seq_plain rfl fun K3 hK3 => ?_
 refine p_e rfl (e_assign (v := .nil) rfl) ?_
 refine p_end (hK3 _ ?_); clear hK3 K3
 refine pwp_seq_seq ?_
 refine pwp_seq_plain rfl fun K4 hK4 => ?_
 refine p_aS rfl ?_
 refine p_end (hK4 _ ?_); clear hK4 K4
 refine pwp_seq_block fun K5 hK5 => ?_
 refine pwp_loopR (α := Nat × PV × Bool) [0, 2, 4] (fun (a6 : Nat × PV × Bool) => [(8, .bool (a6.2.2)), (9, (a6.2.1)), (10, .int (a6.1))]) (fun (a6 : Nat × PV × Bool) (h : Heap) (_ : Nat → Nat) => ((a6.1) ≤ hs.length) ∧ ((a6.2.2) = (hs.take (a6.1)).all (xtB j d)) ∧ (SliceAt h 30 (a6.2.1) 1 ((((hs.take (a6.1)).map (xtL j d))).map ci)) ∧ (h (4, 0) = some (.rows 3 [Jack.enc j]))) (fun (a6 : Nat × PV × Bool) => hs.length - (a6.1)) (0, .nil, true) (by exact ⟨rfl, rfl, rfl, trivial⟩) (by exact ⟨by exact Nat.zero_le _, by exact rfl, .nil, (hset_self _ _ _)⟩) fun a6 r7 h8 c9 hj10 => ?_
 obtain ⟨k, v, b⟩ := a6
 obtain ⟨hk, hbv, hihj10_0, hihj10_1⟩ := hj10
 try dsimp only at hk
 try dsimp only at hbv
 try dsimp only at hihj10_0
 try dsimp only at hihj10_1
 show pwp _ _ (loopQ _ _ _) ⟨sets (mix _ _ _) [(8, .bool b), (9, v), (10, .int k)], _, _⟩
 refine pwp_seq_seq ?_
 refine pwp_seq_plain rfl fun K11 hK11 => ?_
 refine p_mS rfl ?_
 refine p_e rfl (e_move (v := .lit _ _ _) rfl) ?_
 refine p_e rfl (e_len rfl (by kernel_rfl)) ?_
 refine p_e rfl (e_lt rfl rfl) ?_
 refine p_end (hK11 _ ?_); clear hK11 K11
 refine pwp_seq_cond rfl fun K12 hK12 => ⟨fun hb13 => ?_, fun hb13 => ?_⟩
 ·have hb13R := hb13; try simp only [zz] at hb13
  obtain ⟨x, hx, hd, ht⟩ := get_lt (xs := hs) (i := k) (by omega)
  have hxb := hsb x (List.mem_of_getElem? hx)
  refine pwp_skip ?_
  refine seq_norm (hK12 _ ?_); clear hK12 K12
  refine pwp_seq_block fun K14 hK14 => ?_
  refine pwp_seq_gops rfl fun K15 hK15 => ?_
  refine g_begin ?_
  refine g_mS rfl rfl ?_
  refine g_e rfl (e_move (v := .lit _ _ _) rfl) ?_
  refine g_mS rfl rfl ?_
  refine g_e rfl (e_ixL rfl rfl) ?_
  refine g_e rfl (e_load (v := .sc _) rfl (by kernel_rfl) (by kernel_rfl) (by kernel_rfl) (by first | omega | (simp only [List.length_map]; omega)) (by decide) ((cell_map hx _).trans rfl)) ?_
  refine g_e rfl (e_sub rfl rfl (by first | omega | (simp only [List.length_map] at *; omega))) ?_
  refine g_e rfl (e_faQ pl3 rfl) ?_
  refine g_e rfl (e_lH (v := .sc _) rfl hihj10_1 rfl) ?_
  refine g_e rfl (e_sub rfl rfl (by first | omega | (simp only [List.length_map] at *; omega))) ?_
  refine g_aS rfl rfl ?_
  refine g_end (ds := []) (by kernel_rfl) rfl (hK15 _ ?_); clear hK15 K15
  refine pwp_seq_plain rfl fun K16 hK16 => ?_
  refine p_e rfl (e_move (v := _) rfl) ?_
  refine p_mS rfl ?_
  refine p_new rfl (e_bslice (rows := [ci (d - x - j.sole)]) (zs := [.int 0]) (sz := 1) (by kernel_rfl) (by kernel_rfl) rfl (by kernel_rfl) (by decide) rfl rfl (by exact ⟨by decide, rfl, rfl, trivial⟩) rfl) trivial ?_
  refine p_app rfl rfl rfl (hihj10_0.keep fun _ => (hset_ne (key_ne rfl)).trans (rfl)) (src_ref (hset_self _ _ _) rfl) (by kernel_rfl) (by simp only [List.length_append, List.length_map, List.length_nil, List.length_cons, List.length_take]; omega) fun v17 h18 c19 hs20 hf21 => ?_
  have ho22 := (hf21 (4, _) (key_ne rfl) (fun _ _ => key_ne rfl)).trans ((hset_ne (key_ne rfl)).trans hihj10_1)
  have ho23 := (hf21 (29, _) (key_ne rfl) (fun _ _ => key_ne rfl)).trans (hset_self _ _ _)
  refine p_e rfl (e_assign (v := _) rfl) ?_
  refine p_end (hK16 _ ?_); clear hK16 K16
  refine pwp_gops rfl fun K24 hK24 => ?_
  refine g_begin ?_
  refine g_mS rfl rfl ?_
  refine g_mS rfl rfl ?_
  refine g_cases (fun hb25 => ?_) (fun hb25 => ?_)
  ·have hb25R := hb25; try simp only [zz] at hb25
   refine g_mS rfl rfl ?_
   refine g_e rfl (e_faQ pl3 rfl) ?_
   refine g_e rfl (e_lH (v := .sc _) rfl ho22 rfl) ?_
   refine g_e rfl (e_faQ pl3 rfl) ?_
   refine g_e rfl (e_lH (v := .sc _) rfl ho22 rfl) ?_
   refine g_call rfl rfl rfl rfl (.cons inn_sc (.cons inn_sc (.cons inn_sc .nil))) (Within _ _ _) ?_
   refine g_pT rfl rfl rfl ?_
   refine g_aS rfl rfl ?_
   refine g_end (ds := [33, 34, 35, 36, 37, 38]) rfl rfl (hK24 _ ?_); clear hK24 K24
   refine block_norm ?_
   refine seq_norm (hK14 _ ?_); clear hK14 K14
   refine pwp_plain rfl fun K26 hK26 => ?_
   refine p_mS rfl ?_
   refine p_e rfl (e_adL rfl rfl) ?_
   refine p_aS rfl ?_
   refine p_end (hK26 _ ?_); clear hK26 K26
   exact loop_again ((k + 1, v17, (decide (j.least ≤ ((d - x) - j.sole) ∧ ((d - x) - j.sole) ≤ j.most)))) (by show _ < _; simp only; omega) ⟨rfl, rfl, rfl, trivial⟩ ⟨rfl, rfl, rfl, trivial⟩ (by exact ⟨by show _ + 1 ≤ _; simp only [List.length_map] at *; omega, by rw [tka_s hx, ← hbv, xtB]; clear hbv; cases b <;> first | (simp only [Bool.true_and, Bool.false_and]; done) | rfl | (exfalso; simp_all; done), (SliceAt.to hs20 (by rw [tk_s hx, List.map_append]; rfl)), ho22⟩)
  ·have hb25R := hb25; try simp only [zz] at hb25
   iterate 5 refine g_skip rfl rfl rfl ?_
   refine g_nocall rfl rfl rfl ?_
   refine g_pF rfl rfl rfl ?_
   refine g_aS rfl rfl ?_
   refine g_end (ds := [33, 34, 35, 36, 37, 38]) rfl rfl (hK24 _ ?_); clear hK24 K24
   refine block_norm ?_
   refine seq_norm (hK14 _ ?_); clear hK14 K14
   refine pwp_plain rfl fun K27 hK27 => ?_
   refine p_mS rfl ?_
   refine p_e rfl (e_adL rfl rfl) ?_
   refine p_aS rfl ?_
   refine p_end (hK27 _ ?_); clear hK27 K27
   exact loop_again ((k + 1, v17, false)) (by show _ < _; simp only; omega) ⟨rfl, rfl, rfl, trivial⟩ ⟨rfl, rfl, rfl, trivial⟩ (by exact ⟨by show _ + 1 ≤ _; simp only [List.length_map] at *; omega, by rw [tka_s hx, ← hbv, xtB]; clear hbv; cases b <;> first | (simp only [Bool.true_and, Bool.false_and]; done) | rfl | (exfalso; simp_all; done), (SliceAt.to hs20 (by rw [tk_s hx, List.map_append]; rfl)), ho22⟩)
 ·have hb13R := hb13; try simp only [zz] at hb13
  refine pwp_exit ?_
  refine exit_seq ?_
  clear hK12 K12
  refine exit_loop ?_
  refine exit_here ?_
  refine seq_norm (hK5 _ ?_); clear hK5 K5
  refine pwp_seq_plain rfl fun K28 hK28 => ?_
  refine p_e rfl (e_move (v := _) rfl) ?_
  refine p_mS rfl ?_
  refine p_e rfl (e_assign (v := _) rfl) ?_
  refine p_aS rfl ?_
  refine p_end (hK28 _ ?_); clear hK28 K28
  refine pwp_ret ?_
  refine end2 (v := _) (w := .sc _) rfl rfl ?_
  first
    | exact out_2 (out_slice (SliceAt.to hihj10_0 (by rw [tk_e (by simp only [List.length_map] at *; omega)])) rfl (fun _ => rfl) ci_clean) (out_b (by rw [hbv, List.take_of_length_le (by simp only [List.length_map] at *; omega)]))

theorem fr62 : (inFrame Tryz.f62.ntmps (Tryz.f62.body.getD .skip) && Tryz.f62.results.toList.all (resScope Tryz.f62.ntmps)) = true := by kernel_rfl
theorem refDatumC (t : Bool) (hs : List Int) (j : Jack) (h1 : 1 ≤ hs.length) (hj : jackE j = 0) (hsb : ∀ y ∈ hs, -1000000 ≤ y ∧ y ≤ 1000000) (hsl : hs.length ≤ 100) : PCalls Tryz.prog 62 [.lit t 1 (hs.map ci), .agg j.enc] (.tup [.int (mxL hs + j.sole + j.least), .bool (hs.all (xtB j (mxL hs + j.sole + j.least)))]) := by
 refine PCalls.of_code Tryz.func62 rfl rfl (by kernel_rfl) mixed fr62 (by show _ ≤ 42; simp) (pure_2 (.sc _) (.sc _)) ?_
 obtain ⟨z, hz⟩ : ∃ z, hs[0]? = some z := ⟨_, List.getElem?_eq_getElem (by omega)⟩
 have hjj := jk_inv hj
 refine pwp_seq_plain rfl fun K1 hK1 => ?_
 refine p_new rfl (e_box (n := 3) rfl rfl) ⟨rfl, by decide⟩ ?_
 refine p_aS rfl ?_
 refine p_aS rfl ?_
 refine p_end (hK1 _ ?_); clear hK1 K1
 refine pwp_seq_plain rfl fun K2 hK2 => ?_
 refine p_e rfl (e_move (v := .lit _ _ _) rfl) ?_
 refine p_e rfl (e_ixL rfl rfl) ?_
 refine p_e rfl (e_load (v := .sc _) rfl (by kernel_rfl) (by kernel_rfl) (by kernel_rfl) (by first | omega | (simp only [List.length_map]; omega)) (by decide) ((cell_map hz _).trans rfl)) ?_
 refine p_aS rfl ?_
 refine p_end (hK2 _ ?_); clear hK2 K2
 refine pwp_seq_seq ?_
 refine pwp_seq_plain rfl fun K3 hK3 => ?_
 refine p_aS rfl ?_
 refine p_end (hK3 _ ?_); clear hK3 K3
 refine pwp_seq_block fun K4 hK4 => ?_
 refine pwp_loopR (α := Nat × Int) [0, 3] (fun (a5 : Nat × Int) => [(6, .int (a5.2)), (7, .int (a5.1))]) (fun (a5 : Nat × Int) (h : Heap) (_ : Nat → Nat) => ((a5.1) ≤ hs.length) ∧ (MxI hs (a5.1) (a5.2)) ∧ (h (3, 0) = some (.rows 3 [Jack.enc j]))) (fun (a5 : Nat × Int) => hs.length - (a5.1)) (0, z) (by exact ⟨rfl, rfl, trivial⟩) (by exact ⟨by exact Nat.zero_le _, by exact mxI_0 hz, (hset_self _ _ _)⟩) fun a5 r6 h7 c8 hj9 => ?_
 obtain ⟨k, m⟩ := a5
 obtain ⟨hk, hin, hihj9_0⟩ := hj9
 try dsimp only at hk
 try dsimp only at hin
 try dsimp only at hihj9_0
 show pwp _ _ (loopQ _ _ _) ⟨sets (mix _ _ _) [(6, .int m), (7, .int k)], _, _⟩
 refine pwp_seq_seq ?_
 refine pwp_seq_plain rfl fun K10 hK10 => ?_
 refine p_mS rfl ?_
 refine p_e rfl (e_move (v := .lit _ _ _) rfl) ?_
 refine p_e rfl (e_len rfl (by kernel_rfl)) ?_
 refine p_e rfl (e_lt rfl rfl) ?_
 refine p_end (hK10 _ ?_); clear hK10 K10
 refine pwp_seq_cond rfl fun K11 hK11 => ⟨fun hb12 => ?_, fun hb12 => ?_⟩
 ·have hb12R := hb12; try simp only [zz] at hb12
  obtain ⟨x, hx, hd, ht⟩ := get_lt (xs := hs) (i := k) (by omega)
  refine pwp_skip ?_
  refine seq_norm (hK11 _ ?_); clear hK11 K11
  refine pwp_seq_block fun K13 hK13 => ?_
  refine pwp_plain rfl fun K14 hK14 => ?_
  refine p_mS rfl ?_
  refine p_e rfl (e_move (v := .lit _ _ _) rfl) ?_
  refine p_mS rfl ?_
  refine p_e rfl (e_ixL rfl rfl) ?_
  refine p_e rfl (e_load (v := .sc _) rfl (by kernel_rfl) (by kernel_rfl) (by kernel_rfl) (by first | omega | (simp only [List.length_map]; omega)) (by decide) ((cell_map hx _).trans rfl)) ?_
  refine p_e rfl (e_max rfl rfl) ?_
  refine p_aS rfl ?_
  refine p_end (hK14 _ ?_); clear hK14 K14
  refine block_norm ?_
  refine seq_norm (hK13 _ ?_); clear hK13 K13
  refine pwp_plain rfl fun K15 hK15 => ?_
  refine p_mS rfl ?_
  refine p_e rfl (e_adL rfl rfl) ?_
  refine p_aS rfl ?_
  refine p_end (hK15 _ ?_); clear hK15 K15
  exact loop_again ((k + 1, (max m x))) (by show _ < _; simp only; omega) ⟨rfl, rfl, trivial⟩ ⟨rfl, rfl, trivial⟩ (by exact ⟨by show _ + 1 ≤ _; simp only [List.length_map] at *; omega, by exact mxI_s hin hx (by omega) (by omega) (by omega), hihj9_0⟩)
 ·have hb12R := hb12; try simp only [zz] at hb12
  have hmz : m = mxL hs := mxI_e hin (by simp only [List.length_map] at *; omega)
  have hmb := hsb m hin.1
  refine pwp_exit ?_
  refine exit_seq ?_
  clear hK11 K11
  refine exit_loop ?_
  refine exit_here ?_
  refine seq_norm (hK4 _ ?_); clear hK4 K4
  refine pwp_seq_plain rfl fun K16 hK16 => ?_
  refine p_mS rfl ?_
  refine p_e rfl (e_faQ pl3 rfl) ?_
  refine p_e rfl (e_lH (v := .sc _) rfl hihj9_0 rfl) ?_
  refine p_e rfl (e_adL rfl rfl) ?_
  refine p_e rfl (e_faQ pl3 rfl) ?_
  refine p_e rfl (e_lH (v := .sc _) rfl hihj9_0 rfl) ?_
  refine p_e rfl (e_adL rfl rfl) ?_
  refine p_aS rfl ?_
  refine p_end (hK16 _ ?_); clear hK16 K16
  refine pwp_seq_plain rfl fun K17 hK17 => ?_
  refine p_e rfl (e_move (v := .lit _ _ _) rfl) ?_
  refine p_e rfl (e_loadHA (cs := Jack.enc (j)) (n := 3) rfl hihj9_0 (by kernel_rfl) (by kernel_rfl) (by kernel_rfl) (by exact Nat.zero_lt_one) (by decide) rfl) ?_
  refine p_mS rfl ?_
  refine p_call rfl (.cons inn_lit (.cons (inn_agg (Jack.pure _)) (.cons inn_sc .nil))) (ExtensionsC _ _ _ _ hj hsb (by omega) (by omega)) ?_
  refine p_e rfl (e_move (v := .tup _) rfl) ?_
  refine p_e rfl (e_ext (v := .lit _ _ _) rfl (by simp) rfl) ?_
  refine p_e rfl (e_ext (v := .sc _) rfl (by simp) rfl) ?_
  refine p_e rfl (e_assign (v := .lit _ _ _) rfl) ?_
  refine p_aS rfl ?_
  refine p_end (hK17 _ ?_); clear hK17 K17
  refine pwp_seq_plain rfl fun K18 hK18 => ?_
  refine p_mS rfl ?_
  refine p_mS rfl ?_
  refine p_aS rfl ?_
  refine p_aS rfl ?_
  refine p_end (hK18 _ ?_); clear hK18 K18
  refine pwp_ret ?_
  refine end2 (v := .sc _) (w := .sc _) rfl rfl ?_
  exact out_2 (out_i (by rw [hmz])) (out_b (by rw [hmz]))

theorem fr13 : (inFrame Tryz.f13.ntmps (Tryz.f13.body.getD .skip) && Tryz.f13.results.toList.all (resScope Tryz.f13.ntmps)) = true := by kernel_rfl
theorem hJacks (g : Grid) (x : Feet) (datum : Int) (ha : g.along.length ≤ 9223372036854775807) (hb : g.levels.length ≤ 9223372036854775807) (hl : x.ground.length ≤ 9223372036854775807) : PCalls Tryz.prog 13 [.agg g.enc, .agg x.enc, .int datum] (.bool true) := by
 refine PCalls.of_code Tryz.func13 rfl rfl (by kernel_rfl) mixed fr13 (by show _ ≤ 162; simp) (.sc _) ?_
 have hda := dat_c g x.ground x.jack
 have hjc := jck_c0 g x.ground x.jack datum
 have hfx := ftX_c (hgtAt x.ground) g x.ground x.jack
 refine pwp_seq_plain rfl fun K1 hK1 => ?_
 refine p_new rfl (e_box (n := 3) rfl rfl) ⟨rfl, by decide⟩ ?_
 refine p_new rfl (e_box (n := 4) rfl rfl) ⟨rfl, by decide⟩ ?_
 refine p_aS rfl ?_
 refine p_end (hK1 _ ?_); clear hK1 K1
 refine pwp_seq_seq ?_
 refine pwp_seq_plain rfl fun K2 hK2 => ?_
 refine p_call rfl .nil (awake) ?_
 refine p_e rfl (e_not rfl) ?_
 refine p_end (hK2 _ ?_); clear hK2 K2
 refine pwp_seq_cond (t := false) rfl fun K3 hK3 => ⟨nofun, fun _ => ?_⟩
 refine pwp_skip ?_
 refine seq_norm (hK3 _ ?_); clear hK3 K3
 refine pwp_seq_seq ?_
 refine pwp_seq_gops rfl fun K4 hK4 => ?_
 refine g_begin ?_
 refine g_e rfl (e_faQ pl3 rfl) ?_
 refine g_e rfl (e_lH (v := .lit _ _ _) rfl ((hset_ne (key_ne rfl)).trans (hset_self _ _ _)) rfl) ?_
 refine g_e rfl (e_len rfl (by kernel_rfl)) ?_
 refine g_e rfl (e_gt rfl rfl) ?_
 refine g_mS rfl rfl ?_
 refine g_cases (fun hb5 => ?_) (fun hb5 => ?_)
 ·have hb5R := hb5; try simp only [zz] at hb5
  iterate 4 refine g_skip rfl rfl rfl ?_
  refine g_pT rfl rfl rfl ?_
  refine g_mS rfl rfl ?_
  iterate 4 refine g_skip rfl rfl rfl ?_
  refine g_pT rfl rfl rfl ?_
  refine g_end (ds := [26, 27, 28, 29, 32, 33, 34, 35]) rfl rfl (hK4 _ ?_); clear hK4 K4
  refine pwp_seq_cond (t := true) rfl fun K6 hK6 => ⟨fun _ => ?_, nofun⟩
  refine pwp_seq_plain rfl fun K7 hK7 => ?_
  refine p_aS rfl ?_
  refine p_end (hK7 _ ?_); clear hK7 K7
  refine pwp_ret ?_
  refine ret_seq ?_
  refine end1 (v := .sc _) rfl ?_
  first
    | exact out_b rfl
    | exact out_b (by rw [decide_eq_true_eq]; simp only [List.length_map] at *; omega)
    | (exfalso; simp only [List.length_map] at *; omega)
    | exact out_b hdq.2.2.2
    | exact absurd hjq.1 (by assumption)
    | (exfalso; rw [decide_eq_true hjq.1] at *; simp_all; done)
 ·have hb5R := hb5; try simp only [zz] at hb5
  refine g_e rfl (e_faQ pl3 rfl) ?_
  refine g_e rfl (e_lH (v := .lit _ _ _) rfl ((hset_ne (key_ne rfl)).trans (hset_self _ _ _)) rfl) ?_
  refine g_e rfl (e_len rfl (by kernel_rfl)) ?_
  refine g_e rfl (e_gt rfl rfl) ?_
  refine g_pF rfl rfl rfl ?_
  refine g_mS rfl rfl ?_
  refine g_cases (fun hb8 => ?_) (fun hb8 => ?_)
  ·have hb8R := hb8; try simp only [zz] at hb8
   iterate 4 refine g_skip rfl rfl rfl ?_
   refine g_pT rfl rfl rfl ?_
   refine g_end (ds := [26, 27, 28, 29, 32, 33, 34, 35]) rfl rfl (hK4 _ ?_); clear hK4 K4
   refine pwp_seq_cond (t := true) rfl fun K9 hK9 => ⟨fun _ => ?_, nofun⟩
   refine pwp_seq_plain rfl fun K10 hK10 => ?_
   refine p_aS rfl ?_
   refine p_end (hK10 _ ?_); clear hK10 K10
   refine pwp_ret ?_
   refine ret_seq ?_
   refine end1 (v := .sc _) rfl ?_
   first
     | exact out_b rfl
     | exact out_b (by rw [decide_eq_true_eq]; simp only [List.length_map] at *; omega)
     | (exfalso; simp only [List.length_map] at *; omega)
     | exact out_b hdq.2.2.2
     | exact absurd hjq.1 (by assumption)
     | (exfalso; rw [decide_eq_true hjq.1] at *; simp_all; done)
  ·have hb8R := hb8; try simp only [zz] at hb8
   refine g_e rfl (e_faQ [(0, 1, false), (1, 3, true)] rfl) ?_
   refine g_e rfl (e_lH (v := .lit _ _ _) rfl (hset_self _ _ _) rfl) ?_
   refine g_e rfl (e_len rfl (by kernel_rfl)) ?_
   refine g_e rfl (e_gt rfl rfl) ?_
   refine g_pF rfl rfl rfl ?_
   refine g_end (ds := [26, 27, 28, 29, 32, 33, 34, 35]) rfl rfl (hK4 _ ?_); clear hK4 K4
   refine pwp_seq_cond rfl fun K11 hK11 => ⟨fun hb12 => ?_, fun hb12 => ?_⟩
   ·have hb12R := hb12; try simp only [zz] at hb12
    refine pwp_seq_plain rfl fun K13 hK13 => ?_
    refine p_aS rfl ?_
    refine p_end (hK13 _ ?_); clear hK13 K13
    refine pwp_ret ?_
    refine ret_seq ?_
    refine end1 (v := .sc _) rfl ?_
    first
      | exact out_b rfl
      | exact out_b (by rw [decide_eq_true_eq]; simp only [List.length_map] at *; omega)
      | (exfalso; simp only [List.length_map] at *; omega)
      | exact out_b hdq.2.2.2
      | exact absurd hjq.1 (by assumption)
      | (exfalso; rw [decide_eq_true hjq.1] at *; simp_all; done)
   ·have hb12R := hb12; try simp only [zz] at hb12
    refine pwp_skip ?_
    refine seq_norm (hK11 _ ?_); clear hK11 K11
    have ha2 : g.along.length ≤ 100 := by simp only [List.length_map] at *; omega
    have hb2 : g.levels.length ≤ 100 := by simp only [List.length_map] at *; omega
    have hl2 : x.ground.length ≤ 1000 := by simp only [List.length_map] at *; omega
    refine pwp_seq_plain rfl fun K14 hK14 => ?_
    refine p_e rfl (e_loadHA (cs := Grid.enc (g)) (n := 3) rfl ((hset_ne (key_ne rfl)).trans (hset_self _ _ _)) (by kernel_rfl) (by kernel_rfl) (by kernel_rfl) (by exact Nat.zero_lt_one) (by decide) rfl) ?_
    refine p_e rfl (e_faQ [(0, 1, false), (1, 3, true)] rfl) ?_
    refine p_e rfl (e_lH (v := .lit _ _ _) rfl (hset_self _ _ _) rfl) ?_
    refine p_e rfl (e_faQ [(0, 1, false), (1, 3, true)] rfl) ?_
    refine p_e rfl (e_loadHA (cs := Jack.enc (x.jack)) (n := 3) rfl (hset_self _ _ _) (by kernel_rfl) (by kernel_rfl) (by kernel_rfl) (by exact Nat.zero_lt_one) (by decide) rfl) ?_
    refine p_call rfl (.cons (inn_agg (Grid.pure _)) (.cons inn_lit (.cons (inn_agg (Jack.pure _)) .nil))) (DatumC g x.ground x.jack (by omega) (by omega) (by omega)) ?_
    refine p_e rfl (e_move (v := .tup _) rfl) ?_
    refine p_e rfl (e_ext (v := .sc _) rfl (by simp) rfl) ?_
    refine p_e rfl (e_ext (v := .sc _) rfl (by simp) rfl) ?_
    refine p_aS rfl ?_
    refine p_aS rfl ?_
    refine p_end (hK14 _ ?_); clear hK14 K14
    refine pwp_seq_plain rfl fun K15 hK15 => ?_
    refine p_e rfl (e_loadHA (cs := Grid.enc (g)) (n := 3) rfl ((hset_ne (key_ne rfl)).trans (hset_self _ _ _)) (by kernel_rfl) (by kernel_rfl) (by kernel_rfl) (by exact Nat.zero_lt_one) (by decide) rfl) ?_
    refine p_e rfl (e_faQ [(0, 1, false), (1, 3, true)] rfl) ?_
    refine p_e rfl (e_lH (v := .lit _ _ _) rfl (hset_self _ _ _) rfl) ?_
    refine p_e rfl (e_faQ [(0, 1, false), (1, 3, true)] rfl) ?_
    refine p_e rfl (e_loadHA (cs := Jack.enc (x.jack)) (n := 3) rfl (hset_self _ _ _) (by kernel_rfl) (by kernel_rfl) (by kernel_rfl) (by exact Nat.zero_lt_one) (by decide) rfl) ?_
    refine p_mS rfl ?_
    refine p_call rfl (.cons (inn_agg (Grid.pure _)) (.cons inn_lit (.cons (inn_agg (Jack.pure _)) (.cons inn_sc .nil)))) (JacksC g x.ground x.jack datum (by omega) (by omega) (by omega)) ?_
    refine p_e rfl (e_move (v := .tup _) rfl) ?_
    refine p_e rfl (e_ext (v := .lit _ _ _) rfl (by simp) rfl) ?_
    refine p_e rfl (e_ext (v := .sc _) rfl (by simp) rfl) ?_
    refine p_e rfl (e_assign (v := .lit _ _ _) rfl) ?_
    refine p_aS rfl ?_
    refine p_end (hK15 _ ?_); clear hK15 K15
    refine pwp_seq_plain rfl fun K16 hK16 => ?_
    refine p_e rfl (e_loadHA (cs := Grid.enc (g)) (n := 3) rfl ((hset_ne (key_ne rfl)).trans (hset_self _ _ _)) (by kernel_rfl) (by kernel_rfl) (by kernel_rfl) (by exact Nat.zero_lt_one) (by decide) rfl) ?_
    refine p_e rfl (e_faQ [(0, 1, false), (1, 3, true)] rfl) ?_
    refine p_e rfl (e_lH (v := .lit _ _ _) rfl (hset_self _ _ _) rfl) ?_
    refine p_e rfl (e_faQ [(0, 1, false), (1, 3, true)] rfl) ?_
    refine p_e rfl (e_loadHA (cs := Jack.enc (x.jack)) (n := 3) rfl (hset_self _ _ _) (by kernel_rfl) (by kernel_rfl) (by kernel_rfl) (by exact Nat.zero_lt_one) (by decide) rfl) ?_
    refine p_call rfl (.cons (inn_agg (Grid.pure _)) (.cons inn_lit (.cons (inn_agg (Jack.pure _)) .nil))) (HeightsC g x.ground x.jack (by omega) (by omega) (by omega)) ?_
    refine p_e rfl (e_move (v := .tup _) rfl) ?_
    refine p_e rfl (e_ext (v := .lit _ _ _) rfl (by simp) rfl) ?_
    refine p_e rfl (e_ext (v := .sc _) rfl (by simp) rfl) ?_
    refine p_e rfl (e_assign (v := .lit _ _ _) rfl) ?_
    refine p_aS rfl ?_
    refine p_end (hK16 _ ?_); clear hK16 K16
    refine pwp_seq_seq ?_
    refine pwp_seq_plain rfl fun K17 hK17 => ?_
    refine p_mS rfl ?_
    refine p_e rfl (e_ne rfl rfl) ?_
    refine p_end (hK17 _ ?_); clear hK17 K17
    refine pwp_seq_cond rfl fun K18 hK18 => ⟨fun hb19 => ?_, fun hb19 => ?_⟩
    ·have hb19R := hb19; try simp only [zz] at hb19
     refine pwp_seq_gops rfl fun K20 hK20 => ?_
     refine g_begin ?_
     refine g_mS rfl rfl ?_
     refine g_mS rfl rfl ?_
     refine g_e rfl (e_eq rfl rfl) ?_
     refine g_mS rfl rfl ?_
     refine g_cases (fun hb21 => ?_) (fun hb21 => ?_)
     ·have hb21R := hb21; try simp only [zz] at hb21
      refine g_mS rfl rfl ?_
      refine g_mS rfl rfl ?_
      refine g_e rfl (e_eq rfl rfl) ?_
      refine g_pT rfl rfl rfl ?_
      refine g_mS rfl rfl ?_
      refine g_cases (fun hb22 => ?_) (fun hb22 => ?_)
      ·have hb22R := hb22; try simp only [zz] at hb22
       refine g_mS rfl rfl ?_
       refine g_e rfl (e_eq rfl rfl) ?_
       refine g_pT rfl rfl rfl ?_
       refine g_mS rfl rfl ?_
       refine g_cases (fun hb23 => ?_) (fun hb23 => ?_)
       ·have hb23R := hb23; try simp only [zz] at hb23
        refine g_e rfl (e_move (v := .lit _ _ _) rfl) ?_
        refine g_e rfl (e_len rfl (by kernel_rfl)) ?_
        refine g_e rfl (e_eq rfl rfl) ?_
        refine g_pT rfl rfl rfl ?_
        refine g_aS rfl rfl ?_
        refine g_end (ds := [71, 72, 73, 76, 77, 80, 81, 82]) rfl rfl (hK20 _ ?_); clear hK20 K20
        refine pwp_ret ?_
        refine ret_seq ?_
        refine end1 (v := .sc _) rfl ?_
        first
          | exact out_b rfl
          | exact out_b (by rw [decide_eq_true_eq]; simp only [List.length_map] at *; omega)
          | (exfalso; simp only [List.length_map] at *; omega)
          | exact out_b hdq.2.2.2
          | exact absurd hjq.1 (by assumption)
          | (exfalso; rw [decide_eq_true hjq.1] at *; simp_all; done)
       ·have hb23R := hb23; try simp only [zz] at hb23
        iterate 3 refine g_skip rfl rfl rfl ?_
        refine g_pF rfl rfl rfl ?_
        refine g_aS rfl rfl ?_
        refine g_end (ds := [71, 72, 73, 76, 77, 80, 81, 82]) rfl rfl (hK20 _ ?_); clear hK20 K20
        refine pwp_ret ?_
        refine ret_seq ?_
        refine end1 (v := .sc _) rfl ?_
        first
          | exact out_b rfl
          | exact out_b (by rw [decide_eq_true_eq]; simp only [List.length_map] at *; omega)
          | (exfalso; simp only [List.length_map] at *; omega)
          | exact out_b hdq.2.2.2
          | exact absurd hjq.1 (by assumption)
          | (exfalso; rw [decide_eq_true hjq.1] at *; simp_all; done)
      ·have hb22R := hb22; try simp only [zz] at hb22
       iterate 2 refine g_skip rfl rfl rfl ?_
       refine g_pF rfl rfl rfl ?_
       refine g_mS rfl rfl ?_
       iterate 3 refine g_skip rfl rfl rfl ?_
       refine g_pF rfl rfl rfl ?_
       refine g_aS rfl rfl ?_
       refine g_end (ds := [71, 72, 73, 76, 77, 80, 81, 82]) rfl rfl (hK20 _ ?_); clear hK20 K20
       refine pwp_ret ?_
       refine ret_seq ?_
       refine end1 (v := .sc _) rfl ?_
       first
         | exact out_b rfl
         | exact out_b (by rw [decide_eq_true_eq]; simp only [List.length_map] at *; omega)
         | (exfalso; simp only [List.length_map] at *; omega)
         | exact out_b hdq.2.2.2
         | exact absurd hjq.1 (by assumption)
         | (exfalso; rw [decide_eq_true hjq.1] at *; simp_all; done)
     ·have hb21R := hb21; try simp only [zz] at hb21
      iterate 3 refine g_skip rfl rfl rfl ?_
      refine g_pF rfl rfl rfl ?_
      refine g_mS rfl rfl ?_
      iterate 2 refine g_skip rfl rfl rfl ?_
      refine g_pF rfl rfl rfl ?_
      refine g_mS rfl rfl ?_
      iterate 3 refine g_skip rfl rfl rfl ?_
      refine g_pF rfl rfl rfl ?_
      refine g_aS rfl rfl ?_
      refine g_end (ds := [71, 72, 73, 76, 77, 80, 81, 82]) rfl rfl (hK20 _ ?_); clear hK20 K20
      refine pwp_ret ?_
      refine ret_seq ?_
      refine end1 (v := .sc _) rfl ?_
      first
        | exact out_b rfl
        | exact out_b (by rw [decide_eq_true_eq]; simp only [List.length_map] at *; omega)
        | (exfalso; simp only [List.length_map] at *; omega)
        | exact out_b hdq.2.2.2
        | exact absurd hjq.1 (by assumption)
        | (exfalso; rw [decide_eq_true hjq.1] at *; simp_all; done)
    ·have hb19R := hb19; try simp only [zz] at hb19
     refine pwp_skip ?_
     refine seq_norm (hK18 _ ?_); clear hK18 K18
     refine pwp_seq_seq ?_
     have hfz : feetE g x.ground x.jack = 0 := by simp only [List.length_map] at *; omega
     have hfn : (ftX (hgtAt x.ground) g x.ground x.jack).1.length ≤ 100 := ftX_len ha2
     have hfe : (ftX (hgtAt x.ground) g x.ground x.jack).1 = g.along.map (hgtAt x.ground) := by rw [ftX_0 hfz]
     have hjz := (fe_inv hfz).2.2.1
     have hjj := jk_inv hjz
     have hsb : ∀ y ∈ (ftX (hgtAt x.ground) g x.ground x.jack).1, -1000000 ≤ y ∧ y ≤ 1000000 := by rw [hfe]; exact fun y hy => ht_b hfz hy
     have hln := fe_len hfz
     have hfl1 : 1 ≤ (ftX (hgtAt x.ground) g x.ground x.jack).1.length := by rw [hfe, List.length_map]; omega
     have hjf := jk_facts hfz datum
     have hdf := dat_facts hfz
     rw [dat0] at hdf
     rw [← hfe] at hjf hdf
     refine pwp_seq_plain rfl fun K24 hK24 => ?_
     refine p_mS rfl ?_
     refine p_call rfl (.cons inn_sc (.cons inn_sc (.cons inn_sc .nil))) (Within _ _ _) ?_
     refine p_e rfl (e_not rfl) ?_
     refine p_end (hK24 _ ?_); clear hK24 K24
     refine pwp_seq_cond rfl fun K25 hK25 => ⟨fun hb26 => ?_, fun hb26 => ?_⟩
     ·have hb26R := hb26; try simp only [zz] at hb26
      have hjq := hjf.1 (by omega)
      refine pwp_seq_gops rfl fun K27 hK27 => ?_
      refine g_begin ?_
      refine g_mS rfl rfl ?_
      refine g_e rfl (e_ne rfl rfl) ?_
      refine g_mS rfl rfl ?_
      refine g_cases (fun hb28 => ?_) (fun hb28 => ?_)
      ·have hb28R := hb28; try simp only [zz] at hb28
       iterate 3 refine g_skip rfl rfl rfl ?_
       refine g_pT rfl rfl rfl ?_
       refine g_end (ds := [90, 91, 92]) rfl rfl (hK27 _ ?_); clear hK27 K27
       refine pwp_cond (t := true) rfl (fun _ => ?_) nofun
       refine pwp_seq_plain rfl fun K29 hK29 => ?_
       refine p_aS rfl ?_
       refine p_end (hK29 _ ?_); clear hK29 K29
       refine pwp_ret ?_
       refine ret_seq ?_
       refine end1 (v := .sc _) rfl ?_
       first
         | exact out_b rfl
         | exact out_b (by rw [decide_eq_true_eq]; simp only [List.length_map] at *; omega)
         | (exfalso; simp only [List.length_map] at *; omega)
         | exact out_b hdq.2.2.2
         | exact absurd hjq.1 (by assumption)
         | (exfalso; rw [decide_eq_true hjq.1] at *; simp_all; done)
      ·have hb28R := hb28; try simp only [zz] at hb28
       refine g_e rfl (e_move (v := .lit _ _ _) rfl) ?_
       refine g_e rfl (e_len rfl (by kernel_rfl)) ?_
       refine g_e rfl (e_gt rfl rfl) ?_
       refine g_pF rfl rfl rfl ?_
       refine g_end (ds := [90, 91, 92]) rfl rfl (hK27 _ ?_); clear hK27 K27
       refine pwp_cond rfl (fun hb30 => ?_) (fun hb30 => ?_)
       ·have hb30R := hb30; try simp only [zz] at hb30
        refine pwp_seq_plain rfl fun K31 hK31 => ?_
        refine p_aS rfl ?_
        refine p_end (hK31 _ ?_); clear hK31 K31
        refine pwp_ret ?_
        refine ret_seq ?_
        refine end1 (v := .sc _) rfl ?_
        first
          | exact out_b rfl
          | exact out_b (by rw [decide_eq_true_eq]; simp only [List.length_map] at *; omega)
          | (exfalso; simp only [List.length_map] at *; omega)
          | exact out_b hdq.2.2.2
          | exact absurd hjq.1 (by assumption)
          | (exfalso; rw [decide_eq_true hjq.1] at *; simp_all; done)
       ·have hb30R := hb30; try simp only [zz] at hb30
        refine pwp_skip ?_
        refine seq_norm (hK25 _ ?_); clear hK25 K25
        refine pwp_seq_plain rfl fun K32 hK32 => ?_
        refine p_e rfl (e_move (v := .lit _ _ _) rfl) ?_
        refine p_e rfl (e_faQ [(0, 1, false), (1, 3, true)] rfl) ?_
        refine p_e rfl (e_loadHA (cs := Jack.enc (x.jack)) (n := 3) rfl (hset_self _ _ _) (by kernel_rfl) (by kernel_rfl) (by kernel_rfl) (by exact Nat.zero_lt_one) (by decide) rfl) ?_
        refine p_call rfl (.cons inn_lit (.cons (inn_agg (Jack.pure _)) .nil)) (refDatumC _ (ftX (hgtAt x.ground) g x.ground x.jack).1 _ hfl1 hjz hsb hfn) ?_
        refine p_e rfl (e_move (v := .tup _) rfl) ?_
        refine p_e rfl (e_ext (v := .sc _) rfl (by simp) rfl) ?_
        refine p_e rfl (e_ext (v := .sc _) rfl (by simp) rfl) ?_
        refine p_aS rfl ?_
        refine p_aS rfl ?_
        refine p_end (hK32 _ ?_); clear hK32 K32
        refine pwp_seq_seq ?_
        refine pwp_seq_plain rfl fun K33 hK33 => ?_
        refine p_mS rfl ?_
        refine p_e rfl (e_not rfl) ?_
        refine p_end (hK33 _ ?_); clear hK33 K33
        refine pwp_seq_cond rfl fun K34 hK34 => ⟨fun hb35 => ?_, fun hb35 => ?_⟩
        ·have hb35R := hb35; try simp only [zz] at hb35
         have hdq := hdf.1 (by first | assumption | (simp only [Bool.not_eq_true'] at *; assumption))
         refine pwp_seq_gops rfl fun K36 hK36 => ?_
         refine g_begin ?_
         refine g_mS rfl rfl ?_
         refine g_e rfl (e_eq rfl rfl) ?_
         refine g_mS rfl rfl ?_
         refine g_cases (fun hb37 => ?_) (fun hb37 => ?_)
         ·have hb37R := hb37; try simp only [zz] at hb37
          refine g_mS rfl rfl ?_
          refine g_e rfl (e_eq rfl rfl) ?_
          refine g_pT rfl rfl rfl ?_
          refine g_aS rfl rfl ?_
          refine g_end (ds := [131, 132]) rfl rfl (hK36 _ ?_); clear hK36 K36
          refine pwp_ret ?_
          refine ret_seq ?_
          refine end1 (v := .sc _) rfl ?_
          first
            | exact out_b rfl
            | exact out_b (by rw [decide_eq_true_eq]; simp only [List.length_map] at *; omega)
            | (exfalso; simp only [List.length_map] at *; omega)
            | exact out_b hdq.2.2.2
            | exact absurd hjq.1 (by assumption)
            | (exfalso; rw [decide_eq_true hjq.1] at *; simp_all; done)
         ·have hb37R := hb37; try simp only [zz] at hb37
          iterate 2 refine g_skip rfl rfl rfl ?_
          refine g_pF rfl rfl rfl ?_
          refine g_aS rfl rfl ?_
          refine g_end (ds := [131, 132]) rfl rfl (hK36 _ ?_); clear hK36 K36
          refine pwp_ret ?_
          refine ret_seq ?_
          refine end1 (v := .sc _) rfl ?_
          first
            | exact out_b rfl
            | exact out_b (by rw [decide_eq_true_eq]; simp only [List.length_map] at *; omega)
            | (exfalso; simp only [List.length_map] at *; omega)
            | exact out_b hdq.2.2.2
            | exact absurd hjq.1 (by assumption)
            | (exfalso; rw [decide_eq_true hjq.1] at *; simp_all; done)
        ·have hb35R := hb35; try simp only [zz] at hb35
         refine pwp_skip ?_
         refine seq_norm (hK34 _ ?_); clear hK34 K34
         have hdq := hdf.2 (by first | assumption | (simp only [Bool.not_eq_true'] at *; assumption))
         refine pwp_seq_plain rfl fun K38 hK38 => ?_
         refine p_e rfl (e_loadHA (cs := Grid.enc (g)) (n := 3) rfl ((hset_ne (key_ne rfl)).trans (hset_self _ _ _)) (by kernel_rfl) (by kernel_rfl) (by kernel_rfl) (by exact Nat.zero_lt_one) (by decide) rfl) ?_
         refine p_e rfl (e_faQ [(0, 1, false), (1, 3, true)] rfl) ?_
         refine p_e rfl (e_lH (v := .lit _ _ _) rfl (hset_self _ _ _) rfl) ?_
         refine p_e rfl (e_faQ [(0, 1, false), (1, 3, true)] rfl) ?_
         refine p_e rfl (e_loadHA (cs := Jack.enc (x.jack)) (n := 3) rfl (hset_self _ _ _) (by kernel_rfl) (by kernel_rfl) (by kernel_rfl) (by exact Nat.zero_lt_one) (by decide) rfl) ?_
         refine p_mS rfl ?_
         refine p_call rfl (.cons (inn_agg (Grid.pure _)) (.cons inn_lit (.cons (inn_agg (Jack.pure _)) (.cons inn_sc .nil)))) (JacksC g x.ground x.jack (datX g x.ground x.jack).1 (by omega) (by omega) (by omega)) ?_
         refine p_e rfl (e_move (v := .tup _) rfl) ?_
         refine p_e rfl (e_ext (v := .lit _ _ _) rfl (by simp) rfl) ?_
         refine p_e rfl (e_ext (v := .sc _) rfl (by simp) rfl) ?_
         refine p_e rfl (e_assign (v := .lit _ _ _) rfl) ?_
         refine p_aS rfl ?_
         refine p_end (hK38 _ ?_); clear hK38 K38
         have hjl := jck_len (l := x.ground) (j := x.jack) (datX g x.ground x.jack).1 ha2
         refine pwp_seq_gops rfl fun K39 hK39 => ?_
         refine g_begin ?_
         refine g_mS rfl rfl ?_
         refine g_e rfl (e_eq rfl rfl) ?_
         refine g_mS rfl rfl ?_
         refine g_cases (fun hb40 => ?_) (fun hb40 => ?_)
         ·have hb40R := hb40; try simp only [zz] at hb40
          refine g_mS rfl rfl ?_
          refine g_mS rfl rfl ?_
          refine g_e rfl (e_eq rfl rfl) ?_
          refine g_pT rfl rfl rfl ?_
          refine g_mS rfl rfl ?_
          refine g_cases (fun hb41 => ?_) (fun hb41 => ?_)
          ·have hb41R := hb41; try simp only [zz] at hb41
           refine g_mS rfl rfl ?_
           refine g_e rfl (e_eq rfl rfl) ?_
           refine g_pT rfl rfl rfl ?_
           refine g_mS rfl rfl ?_
           refine g_cases (fun hb42 => ?_) (fun hb42 => ?_)
           ·have hb42R := hb42; try simp only [zz] at hb42
            refine g_e rfl (e_move (v := .lit _ _ _) rfl) ?_
            refine g_e rfl (e_faQ [(0, 1, false), (1, 3, true)] rfl) ?_
            refine g_e rfl (e_faQ pl3 rfl) ?_
            refine g_e rfl (e_lH (v := .sc _) rfl (hset_self _ _ _) rfl) ?_
            refine g_call rfl rfl rfl rfl (.cons inn_lit (.cons inn_sc .nil)) (HasC _ _ _ (by first | omega | (simp only [List.length_map]; omega))) ?_
            refine g_pT rfl rfl rfl ?_
            refine g_aS rfl rfl ?_
            refine g_end (ds := [147, 148, 149, 152, 153, 156, 157, 158, 159, 160]) rfl rfl (hK39 _ ?_); clear hK39 K39
            refine pwp_ret ?_
            refine end1 (v := .sc _) rfl ?_
            first
              | exact out_b rfl
              | exact out_b (by rw [decide_eq_true_eq]; simp only [List.length_map] at *; omega)
              | (exfalso; simp only [List.length_map] at *; omega)
              | exact out_b hdq.2.2.2
              | exact absurd hjq.1 (by assumption)
              | (exfalso; rw [decide_eq_true hjq.1] at *; simp_all; done)
           ·have hb42R := hb42; try simp only [zz] at hb42
            iterate 4 refine g_skip rfl rfl rfl ?_
            refine g_nocall rfl rfl rfl ?_
            refine g_pF rfl rfl rfl ?_
            refine g_aS rfl rfl ?_
            refine g_end (ds := [147, 148, 149, 152, 153, 156, 157, 158, 159, 160]) rfl rfl (hK39 _ ?_); clear hK39 K39
            refine pwp_ret ?_
            refine end1 (v := .sc _) rfl ?_
            first
              | exact out_b rfl
              | exact out_b (by rw [decide_eq_true_eq]; simp only [List.length_map] at *; omega)
              | (exfalso; simp only [List.length_map] at *; omega)
              | exact out_b hdq.2.2.2
              | exact absurd hjq.1 (by assumption)
              | (exfalso; rw [decide_eq_true hjq.1] at *; simp_all; done)
          ·have hb41R := hb41; try simp only [zz] at hb41
           iterate 2 refine g_skip rfl rfl rfl ?_
           refine g_pF rfl rfl rfl ?_
           refine g_mS rfl rfl ?_
           iterate 4 refine g_skip rfl rfl rfl ?_
           refine g_nocall rfl rfl rfl ?_
           refine g_pF rfl rfl rfl ?_
           refine g_aS rfl rfl ?_
           refine g_end (ds := [147, 148, 149, 152, 153, 156, 157, 158, 159, 160]) rfl rfl (hK39 _ ?_); clear hK39 K39
           refine pwp_ret ?_
           refine end1 (v := .sc _) rfl ?_
           first
             | exact out_b rfl
             | exact out_b (by rw [decide_eq_true_eq]; simp only [List.length_map] at *; omega)
             | (exfalso; simp only [List.length_map] at *; omega)
             | exact out_b hdq.2.2.2
             | exact absurd hjq.1 (by assumption)
             | (exfalso; rw [decide_eq_true hjq.1] at *; simp_all; done)
         ·have hb40R := hb40; try simp only [zz] at hb40
          iterate 3 refine g_skip rfl rfl rfl ?_
          refine g_pF rfl rfl rfl ?_
          refine g_mS rfl rfl ?_
          iterate 2 refine g_skip rfl rfl rfl ?_
          refine g_pF rfl rfl rfl ?_
          refine g_mS rfl rfl ?_
          iterate 4 refine g_skip rfl rfl rfl ?_
          refine g_nocall rfl rfl rfl ?_
          refine g_pF rfl rfl rfl ?_
          refine g_aS rfl rfl ?_
          refine g_end (ds := [147, 148, 149, 152, 153, 156, 157, 158, 159, 160]) rfl rfl (hK39 _ ?_); clear hK39 K39
          refine pwp_ret ?_
          refine end1 (v := .sc _) rfl ?_
          first
            | exact out_b rfl
            | exact out_b (by rw [decide_eq_true_eq]; simp only [List.length_map] at *; omega)
            | (exfalso; simp only [List.length_map] at *; omega)
            | exact out_b hdq.2.2.2
            | exact absurd hjq.1 (by assumption)
            | (exfalso; rw [decide_eq_true hjq.1] at *; simp_all; done)
     ·have hb26R := hb26; try simp only [zz] at hb26
      refine pwp_seq_plain rfl fun K43 hK43 => ?_
      refine p_e rfl (e_move (v := .lit _ _ _) rfl) ?_
      refine p_e rfl (e_faQ [(0, 1, false), (1, 3, true)] rfl) ?_
      refine p_e rfl (e_loadHA (cs := Jack.enc (x.jack)) (n := 3) rfl (hset_self _ _ _) (by kernel_rfl) (by kernel_rfl) (by kernel_rfl) (by exact Nat.zero_lt_one) (by decide) rfl) ?_
      refine p_mS rfl ?_
      refine p_call rfl (.cons inn_lit (.cons (inn_agg (Jack.pure _)) (.cons inn_sc .nil))) (ExtensionsC _ (ftX (hgtAt x.ground) g x.ground x.jack).1 _ _ hjz hsb (by omega) hfn) ?_
      refine p_e rfl (e_move (v := .tup _) rfl) ?_
      refine p_e rfl (e_ext (v := .lit _ _ _) rfl (by simp) rfl) ?_
      refine p_e rfl (e_ext (v := .sc _) rfl (by simp) rfl) ?_
      refine p_e rfl (e_assign (v := .lit _ _ _) rfl) ?_
      refine p_aS rfl ?_
      refine p_end (hK43 _ ?_); clear hK43 K43
      refine pwp_seq_plain rfl fun K44 hK44 => ?_
      refine p_mS rfl ?_
      refine p_e rfl (e_not rfl) ?_
      refine p_end (hK44 _ ?_); clear hK44 K44
      refine pwp_cond rfl (fun hb45 => ?_) (fun hb45 => ?_)
      ·have hb45R := hb45; try simp only [zz] at hb45
       have hjq := hjf.2.1 (by omega) (by first | assumption | (simp only [Bool.not_eq_true'] at *; assumption))
       refine pwp_seq_gops rfl fun K46 hK46 => ?_
       refine g_begin ?_
       refine g_mS rfl rfl ?_
       refine g_e rfl (e_ne rfl rfl) ?_
       refine g_mS rfl rfl ?_
       refine g_cases (fun hb47 => ?_) (fun hb47 => ?_)
       ·have hb47R := hb47; try simp only [zz] at hb47
        iterate 3 refine g_skip rfl rfl rfl ?_
        refine g_pT rfl rfl rfl ?_
        refine g_end (ds := [107, 108, 109]) rfl rfl (hK46 _ ?_); clear hK46 K46
        refine pwp_cond (t := true) rfl (fun _ => ?_) nofun
        refine pwp_seq_plain rfl fun K48 hK48 => ?_
        refine p_aS rfl ?_
        refine p_end (hK48 _ ?_); clear hK48 K48
        refine pwp_ret ?_
        refine ret_seq ?_
        refine end1 (v := .sc _) rfl ?_
        first
          | exact out_b rfl
          | exact out_b (by rw [decide_eq_true_eq]; simp only [List.length_map] at *; omega)
          | (exfalso; simp only [List.length_map] at *; omega)
          | exact out_b hdq.2.2.2
          | exact absurd hjq.1 (by assumption)
          | (exfalso; rw [decide_eq_true hjq.1] at *; simp_all; done)
       ·have hb47R := hb47; try simp only [zz] at hb47
        refine g_e rfl (e_move (v := .lit _ _ _) rfl) ?_
        refine g_e rfl (e_len rfl (by kernel_rfl)) ?_
        refine g_e rfl (e_gt rfl rfl) ?_
        refine g_pF rfl rfl rfl ?_
        refine g_end (ds := [107, 108, 109]) rfl rfl (hK46 _ ?_); clear hK46 K46
        refine pwp_cond rfl (fun hb49 => ?_) (fun hb49 => ?_)
        ·have hb49R := hb49; try simp only [zz] at hb49
         refine pwp_seq_plain rfl fun K50 hK50 => ?_
         refine p_aS rfl ?_
         refine p_end (hK50 _ ?_); clear hK50 K50
         refine pwp_ret ?_
         refine ret_seq ?_
         refine end1 (v := .sc _) rfl ?_
         first
           | exact out_b rfl
           | exact out_b (by rw [decide_eq_true_eq]; simp only [List.length_map] at *; omega)
           | (exfalso; simp only [List.length_map] at *; omega)
           | exact out_b hdq.2.2.2
           | exact absurd hjq.1 (by assumption)
           | (exfalso; rw [decide_eq_true hjq.1] at *; simp_all; done)
        ·have hb49R := hb49; try simp only [zz] at hb49
         refine pwp_skip ?_
         refine seq_norm (hK25 _ ?_); clear hK25 K25
         refine pwp_seq_plain rfl fun K51 hK51 => ?_
         refine p_e rfl (e_move (v := .lit _ _ _) rfl) ?_
         refine p_e rfl (e_faQ [(0, 1, false), (1, 3, true)] rfl) ?_
         refine p_e rfl (e_loadHA (cs := Jack.enc (x.jack)) (n := 3) rfl (hset_self _ _ _) (by kernel_rfl) (by kernel_rfl) (by kernel_rfl) (by exact Nat.zero_lt_one) (by decide) rfl) ?_
         refine p_call rfl (.cons inn_lit (.cons (inn_agg (Jack.pure _)) .nil)) (refDatumC _ (ftX (hgtAt x.ground) g x.ground x.jack).1 _ hfl1 hjz hsb hfn) ?_
         refine p_e rfl (e_move (v := .tup _) rfl) ?_
         refine p_e rfl (e_ext (v := .sc _) rfl (by simp) rfl) ?_
         refine p_e rfl (e_ext (v := .sc _) rfl (by simp) rfl) ?_
         refine p_aS rfl ?_
         refine p_aS rfl ?_
         refine p_end (hK51 _ ?_); clear hK51 K51
         refine pwp_seq_seq ?_
         refine pwp_seq_plain rfl fun K52 hK52 => ?_
         refine p_mS rfl ?_
         refine p_e rfl (e_not rfl) ?_
         refine p_end (hK52 _ ?_); clear hK52 K52
         refine pwp_seq_cond rfl fun K53 hK53 => ⟨fun hb54 => ?_, fun hb54 => ?_⟩
         ·have hb54R := hb54; try simp only [zz] at hb54
          have hdq := hdf.1 (by first | assumption | (simp only [Bool.not_eq_true'] at *; assumption))
          refine pwp_seq_gops rfl fun K55 hK55 => ?_
          refine g_begin ?_
          refine g_mS rfl rfl ?_
          refine g_e rfl (e_eq rfl rfl) ?_
          refine g_mS rfl rfl ?_
          refine g_cases (fun hb56 => ?_) (fun hb56 => ?_)
          ·have hb56R := hb56; try simp only [zz] at hb56
           refine g_mS rfl rfl ?_
           refine g_e rfl (e_eq rfl rfl) ?_
           refine g_pT rfl rfl rfl ?_
           refine g_aS rfl rfl ?_
           refine g_end (ds := [131, 132]) rfl rfl (hK55 _ ?_); clear hK55 K55
           refine pwp_ret ?_
           refine ret_seq ?_
           refine end1 (v := .sc _) rfl ?_
           first
             | exact out_b rfl
             | exact out_b (by rw [decide_eq_true_eq]; simp only [List.length_map] at *; omega)
             | (exfalso; simp only [List.length_map] at *; omega)
             | exact out_b hdq.2.2.2
             | exact absurd hjq.1 (by assumption)
             | (exfalso; rw [decide_eq_true hjq.1] at *; simp_all; done)
          ·have hb56R := hb56; try simp only [zz] at hb56
           iterate 2 refine g_skip rfl rfl rfl ?_
           refine g_pF rfl rfl rfl ?_
           refine g_aS rfl rfl ?_
           refine g_end (ds := [131, 132]) rfl rfl (hK55 _ ?_); clear hK55 K55
           refine pwp_ret ?_
           refine ret_seq ?_
           refine end1 (v := .sc _) rfl ?_
           first
             | exact out_b rfl
             | exact out_b (by rw [decide_eq_true_eq]; simp only [List.length_map] at *; omega)
             | (exfalso; simp only [List.length_map] at *; omega)
             | exact out_b hdq.2.2.2
             | exact absurd hjq.1 (by assumption)
             | (exfalso; rw [decide_eq_true hjq.1] at *; simp_all; done)
         ·have hb54R := hb54; try simp only [zz] at hb54
          refine pwp_skip ?_
          refine seq_norm (hK53 _ ?_); clear hK53 K53
          have hdq := hdf.2 (by first | assumption | (simp only [Bool.not_eq_true'] at *; assumption))
          refine pwp_seq_plain rfl fun K57 hK57 => ?_
          refine p_e rfl (e_loadHA (cs := Grid.enc (g)) (n := 3) rfl ((hset_ne (key_ne rfl)).trans (hset_self _ _ _)) (by kernel_rfl) (by kernel_rfl) (by kernel_rfl) (by exact Nat.zero_lt_one) (by decide) rfl) ?_
          refine p_e rfl (e_faQ [(0, 1, false), (1, 3, true)] rfl) ?_
          refine p_e rfl (e_lH (v := .lit _ _ _) rfl (hset_self _ _ _) rfl) ?_
          refine p_e rfl (e_faQ [(0, 1, false), (1, 3, true)] rfl) ?_
          refine p_e rfl (e_loadHA (cs := Jack.enc (x.jack)) (n := 3) rfl (hset_self _ _ _) (by kernel_rfl) (by kernel_rfl) (by kernel_rfl) (by exact Nat.zero_lt_one) (by decide) rfl) ?_
          refine p_mS rfl ?_
          refine p_call rfl (.cons (inn_agg (Grid.pure _)) (.cons inn_lit (.cons (inn_agg (Jack.pure _)) (.cons inn_sc .nil)))) (JacksC g x.ground x.jack (datX g x.ground x.jack).1 (by omega) (by omega) (by omega)) ?_
          refine p_e rfl (e_move (v := .tup _) rfl) ?_
          refine p_e rfl (e_ext (v := .lit _ _ _) rfl (by simp) rfl) ?_
          refine p_e rfl (e_ext (v := .sc _) rfl (by simp) rfl) ?_
          refine p_e rfl (e_assign (v := .lit _ _ _) rfl) ?_
          refine p_aS rfl ?_
          refine p_end (hK57 _ ?_); clear hK57 K57
          have hjl := jck_len (l := x.ground) (j := x.jack) (datX g x.ground x.jack).1 ha2
          refine pwp_seq_gops rfl fun K58 hK58 => ?_
          refine g_begin ?_
          refine g_mS rfl rfl ?_
          refine g_e rfl (e_eq rfl rfl) ?_
          refine g_mS rfl rfl ?_
          refine g_cases (fun hb59 => ?_) (fun hb59 => ?_)
          ·have hb59R := hb59; try simp only [zz] at hb59
           refine g_mS rfl rfl ?_
           refine g_mS rfl rfl ?_
           refine g_e rfl (e_eq rfl rfl) ?_
           refine g_pT rfl rfl rfl ?_
           refine g_mS rfl rfl ?_
           refine g_cases (fun hb60 => ?_) (fun hb60 => ?_)
           ·have hb60R := hb60; try simp only [zz] at hb60
            refine g_mS rfl rfl ?_
            refine g_e rfl (e_eq rfl rfl) ?_
            refine g_pT rfl rfl rfl ?_
            refine g_mS rfl rfl ?_
            refine g_cases (fun hb61 => ?_) (fun hb61 => ?_)
            ·have hb61R := hb61; try simp only [zz] at hb61
             refine g_e rfl (e_move (v := .lit _ _ _) rfl) ?_
             refine g_e rfl (e_faQ [(0, 1, false), (1, 3, true)] rfl) ?_
             refine g_e rfl (e_faQ pl3 rfl) ?_
             refine g_e rfl (e_lH (v := .sc _) rfl (hset_self _ _ _) rfl) ?_
             refine g_call rfl rfl rfl rfl (.cons inn_lit (.cons inn_sc .nil)) (HasC _ _ _ (by first | omega | (simp only [List.length_map]; omega))) ?_
             refine g_pT rfl rfl rfl ?_
             refine g_aS rfl rfl ?_
             refine g_end (ds := [147, 148, 149, 152, 153, 156, 157, 158, 159, 160]) rfl rfl (hK58 _ ?_); clear hK58 K58
             refine pwp_ret ?_
             refine end1 (v := .sc _) rfl ?_
             first
               | exact out_b rfl
               | exact out_b (by rw [decide_eq_true_eq]; simp only [List.length_map] at *; omega)
               | (exfalso; simp only [List.length_map] at *; omega)
               | exact out_b hdq.2.2.2
               | exact absurd hjq.1 (by assumption)
               | (exfalso; rw [decide_eq_true hjq.1] at *; simp_all; done)
            ·have hb61R := hb61; try simp only [zz] at hb61
             iterate 4 refine g_skip rfl rfl rfl ?_
             refine g_nocall rfl rfl rfl ?_
             refine g_pF rfl rfl rfl ?_
             refine g_aS rfl rfl ?_
             refine g_end (ds := [147, 148, 149, 152, 153, 156, 157, 158, 159, 160]) rfl rfl (hK58 _ ?_); clear hK58 K58
             refine pwp_ret ?_
             refine end1 (v := .sc _) rfl ?_
             first
               | exact out_b rfl
               | exact out_b (by rw [decide_eq_true_eq]; simp only [List.length_map] at *; omega)
               | (exfalso; simp only [List.length_map] at *; omega)
               | exact out_b hdq.2.2.2
               | exact absurd hjq.1 (by assumption)
               | (exfalso; rw [decide_eq_true hjq.1] at *; simp_all; done)
           ·have hb60R := hb60; try simp only [zz] at hb60
            iterate 2 refine g_skip rfl rfl rfl ?_
            refine g_pF rfl rfl rfl ?_
            refine g_mS rfl rfl ?_
            iterate 4 refine g_skip rfl rfl rfl ?_
            refine g_nocall rfl rfl rfl ?_
            refine g_pF rfl rfl rfl ?_
            refine g_aS rfl rfl ?_
            refine g_end (ds := [147, 148, 149, 152, 153, 156, 157, 158, 159, 160]) rfl rfl (hK58 _ ?_); clear hK58 K58
            refine pwp_ret ?_
            refine end1 (v := .sc _) rfl ?_
            first
              | exact out_b rfl
              | exact out_b (by rw [decide_eq_true_eq]; simp only [List.length_map] at *; omega)
              | (exfalso; simp only [List.length_map] at *; omega)
              | exact out_b hdq.2.2.2
              | exact absurd hjq.1 (by assumption)
              | (exfalso; rw [decide_eq_true hjq.1] at *; simp_all; done)
          ·have hb59R := hb59; try simp only [zz] at hb59
           iterate 3 refine g_skip rfl rfl rfl ?_
           refine g_pF rfl rfl rfl ?_
           refine g_mS rfl rfl ?_
           iterate 2 refine g_skip rfl rfl rfl ?_
           refine g_pF rfl rfl rfl ?_
           refine g_mS rfl rfl ?_
           iterate 4 refine g_skip rfl rfl rfl ?_
           refine g_nocall rfl rfl rfl ?_
           refine g_pF rfl rfl rfl ?_
           refine g_aS rfl rfl ?_
           refine g_end (ds := [147, 148, 149, 152, 153, 156, 157, 158, 159, 160]) rfl rfl (hK58 _ ?_); clear hK58 K58
           refine pwp_ret ?_
           refine end1 (v := .sc _) rfl ?_
           first
             | exact out_b rfl
             | exact out_b (by rw [decide_eq_true_eq]; simp only [List.length_map] at *; omega)
             | (exfalso; simp only [List.length_map] at *; omega)
             | exact out_b hdq.2.2.2
             | exact absurd hjq.1 (by assumption)
             | (exfalso; rw [decide_eq_true hjq.1] at *; simp_all; done)
      ·have hb45R := hb45; try simp only [zz] at hb45
       have hjq := hjf.2.2 (by omega) (by first | assumption | (simp only [Bool.not_eq_true'] at *; assumption))
       have hjl := jck_len (l := x.ground) (j := x.jack) datum ha2
       refine pwp_seq_gops rfl fun K62 hK62 => ?_
       refine g_begin ?_
       refine g_mS rfl rfl ?_
       refine g_e rfl (e_ne rfl rfl) ?_
       refine g_mS rfl rfl ?_
       refine g_cases (fun hb63 => ?_) (fun hb63 => ?_)
       ·have hb63R := hb63; try simp only [zz] at hb63
        iterate 2 refine g_skip rfl rfl rfl ?_
        refine g_nocall rfl rfl rfl ?_
        refine g_skip rfl rfl rfl ?_
        refine g_pT rfl rfl rfl ?_
        refine g_end (ds := [114, 115, 116, 117]) rfl rfl (hK62 _ ?_); clear hK62 K62
        refine pwp_cond (t := true) rfl (fun _ => ?_) nofun
        refine pwp_seq_plain rfl fun K64 hK64 => ?_
        refine p_aS rfl ?_
        refine p_end (hK64 _ ?_); clear hK64 K64
        refine pwp_ret ?_
        refine ret_seq ?_
        refine end1 (v := .sc _) rfl ?_
        first
          | exact out_b rfl
          | exact out_b (by rw [decide_eq_true_eq]; simp only [List.length_map] at *; omega)
          | (exfalso; simp only [List.length_map] at *; omega)
          | exact out_b hdq.2.2.2
          | exact absurd hjq.1 (by assumption)
          | (exfalso; rw [decide_eq_true hjq.1] at *; simp_all; done)
       ·have hb63R := hb63; try simp only [zz] at hb63
        refine g_e rfl (e_move (v := .lit _ _ _) rfl) ?_
        refine g_e rfl (e_move (v := .lit _ _ _) rfl) ?_
        refine g_call rfl rfl rfl rfl (.cons inn_lit (.cons inn_lit .nil)) (IntsC _ _ _ _ (by first | omega | (simp only [List.length_map]; omega)) (by first | omega | (simp only [List.length_map]; omega))) ?_
        refine g_e rfl (e_not rfl) ?_
        refine g_pF rfl rfl rfl ?_
        refine g_end (ds := [114, 115, 116, 117]) rfl rfl (hK62 _ ?_); clear hK62 K62
        refine pwp_cond rfl (fun hb65 => ?_) (fun hb65 => ?_)
        ·have hb65R := hb65; try simp only [zz] at hb65
         refine pwp_seq_plain rfl fun K66 hK66 => ?_
         refine p_aS rfl ?_
         refine p_end (hK66 _ ?_); clear hK66 K66
         refine pwp_ret ?_
         refine ret_seq ?_
         refine end1 (v := .sc _) rfl ?_
         first
           | exact out_b rfl
           | exact out_b (by rw [decide_eq_true_eq]; simp only [List.length_map] at *; omega)
           | (exfalso; simp only [List.length_map] at *; omega)
           | exact out_b hdq.2.2.2
           | exact absurd hjq.1 (by assumption)
           | (exfalso; rw [decide_eq_true hjq.1] at *; simp_all; done)
        ·have hb65R := hb65; try simp only [zz] at hb65
         refine pwp_skip ?_
         refine seq_norm (hK25 _ ?_); clear hK25 K25
         refine pwp_seq_plain rfl fun K67 hK67 => ?_
         refine p_e rfl (e_move (v := .lit _ _ _) rfl) ?_
         refine p_e rfl (e_faQ [(0, 1, false), (1, 3, true)] rfl) ?_
         refine p_e rfl (e_loadHA (cs := Jack.enc (x.jack)) (n := 3) rfl (hset_self _ _ _) (by kernel_rfl) (by kernel_rfl) (by kernel_rfl) (by exact Nat.zero_lt_one) (by decide) rfl) ?_
         refine p_call rfl (.cons inn_lit (.cons (inn_agg (Jack.pure _)) .nil)) (refDatumC _ (ftX (hgtAt x.ground) g x.ground x.jack).1 _ hfl1 hjz hsb hfn) ?_
         refine p_e rfl (e_move (v := .tup _) rfl) ?_
         refine p_e rfl (e_ext (v := .sc _) rfl (by simp) rfl) ?_
         refine p_e rfl (e_ext (v := .sc _) rfl (by simp) rfl) ?_
         refine p_aS rfl ?_
         refine p_aS rfl ?_
         refine p_end (hK67 _ ?_); clear hK67 K67
         refine pwp_seq_seq ?_
         refine pwp_seq_plain rfl fun K68 hK68 => ?_
         refine p_mS rfl ?_
         refine p_e rfl (e_not rfl) ?_
         refine p_end (hK68 _ ?_); clear hK68 K68
         refine pwp_seq_cond rfl fun K69 hK69 => ⟨fun hb70 => ?_, fun hb70 => ?_⟩
         ·have hb70R := hb70; try simp only [zz] at hb70
          have hdq := hdf.1 (by first | assumption | (simp only [Bool.not_eq_true'] at *; assumption))
          refine pwp_seq_gops rfl fun K71 hK71 => ?_
          refine g_begin ?_
          refine g_mS rfl rfl ?_
          refine g_e rfl (e_eq rfl rfl) ?_
          refine g_mS rfl rfl ?_
          refine g_cases (fun hb72 => ?_) (fun hb72 => ?_)
          ·have hb72R := hb72; try simp only [zz] at hb72
           refine g_mS rfl rfl ?_
           refine g_e rfl (e_eq rfl rfl) ?_
           refine g_pT rfl rfl rfl ?_
           refine g_aS rfl rfl ?_
           refine g_end (ds := [131, 132]) rfl rfl (hK71 _ ?_); clear hK71 K71
           refine pwp_ret ?_
           refine ret_seq ?_
           refine end1 (v := .sc _) rfl ?_
           first
             | exact out_b rfl
             | exact out_b (by rw [decide_eq_true_eq]; simp only [List.length_map] at *; omega)
             | (exfalso; simp only [List.length_map] at *; omega)
             | exact out_b hdq.2.2.2
             | exact absurd hjq.1 (by assumption)
             | (exfalso; rw [decide_eq_true hjq.1] at *; simp_all; done)
          ·have hb72R := hb72; try simp only [zz] at hb72
           iterate 2 refine g_skip rfl rfl rfl ?_
           refine g_pF rfl rfl rfl ?_
           refine g_aS rfl rfl ?_
           refine g_end (ds := [131, 132]) rfl rfl (hK71 _ ?_); clear hK71 K71
           refine pwp_ret ?_
           refine ret_seq ?_
           refine end1 (v := .sc _) rfl ?_
           first
             | exact out_b rfl
             | exact out_b (by rw [decide_eq_true_eq]; simp only [List.length_map] at *; omega)
             | (exfalso; simp only [List.length_map] at *; omega)
             | exact out_b hdq.2.2.2
             | exact absurd hjq.1 (by assumption)
             | (exfalso; rw [decide_eq_true hjq.1] at *; simp_all; done)
         ·have hb70R := hb70; try simp only [zz] at hb70
          refine pwp_skip ?_
          refine seq_norm (hK69 _ ?_); clear hK69 K69
          have hdq := hdf.2 (by first | assumption | (simp only [Bool.not_eq_true'] at *; assumption))
          refine pwp_seq_plain rfl fun K73 hK73 => ?_
          refine p_e rfl (e_loadHA (cs := Grid.enc (g)) (n := 3) rfl ((hset_ne (key_ne rfl)).trans (hset_self _ _ _)) (by kernel_rfl) (by kernel_rfl) (by kernel_rfl) (by exact Nat.zero_lt_one) (by decide) rfl) ?_
          refine p_e rfl (e_faQ [(0, 1, false), (1, 3, true)] rfl) ?_
          refine p_e rfl (e_lH (v := .lit _ _ _) rfl (hset_self _ _ _) rfl) ?_
          refine p_e rfl (e_faQ [(0, 1, false), (1, 3, true)] rfl) ?_
          refine p_e rfl (e_loadHA (cs := Jack.enc (x.jack)) (n := 3) rfl (hset_self _ _ _) (by kernel_rfl) (by kernel_rfl) (by kernel_rfl) (by exact Nat.zero_lt_one) (by decide) rfl) ?_
          refine p_mS rfl ?_
          refine p_call rfl (.cons (inn_agg (Grid.pure _)) (.cons inn_lit (.cons (inn_agg (Jack.pure _)) (.cons inn_sc .nil)))) (JacksC g x.ground x.jack (datX g x.ground x.jack).1 (by omega) (by omega) (by omega)) ?_
          refine p_e rfl (e_move (v := .tup _) rfl) ?_
          refine p_e rfl (e_ext (v := .lit _ _ _) rfl (by simp) rfl) ?_
          refine p_e rfl (e_ext (v := .sc _) rfl (by simp) rfl) ?_
          refine p_e rfl (e_assign (v := .lit _ _ _) rfl) ?_
          refine p_aS rfl ?_
          refine p_end (hK73 _ ?_); clear hK73 K73
          have hjl := jck_len (l := x.ground) (j := x.jack) (datX g x.ground x.jack).1 ha2
          refine pwp_seq_gops rfl fun K74 hK74 => ?_
          refine g_begin ?_
          refine g_mS rfl rfl ?_
          refine g_e rfl (e_eq rfl rfl) ?_
          refine g_mS rfl rfl ?_
          refine g_cases (fun hb75 => ?_) (fun hb75 => ?_)
          ·have hb75R := hb75; try simp only [zz] at hb75
           refine g_mS rfl rfl ?_
           refine g_mS rfl rfl ?_
           refine g_e rfl (e_eq rfl rfl) ?_
           refine g_pT rfl rfl rfl ?_
           refine g_mS rfl rfl ?_
           refine g_cases (fun hb76 => ?_) (fun hb76 => ?_)
           ·have hb76R := hb76; try simp only [zz] at hb76
            refine g_mS rfl rfl ?_
            refine g_e rfl (e_eq rfl rfl) ?_
            refine g_pT rfl rfl rfl ?_
            refine g_mS rfl rfl ?_
            refine g_cases (fun hb77 => ?_) (fun hb77 => ?_)
            ·have hb77R := hb77; try simp only [zz] at hb77
             refine g_e rfl (e_move (v := .lit _ _ _) rfl) ?_
             refine g_e rfl (e_faQ [(0, 1, false), (1, 3, true)] rfl) ?_
             refine g_e rfl (e_faQ pl3 rfl) ?_
             refine g_e rfl (e_lH (v := .sc _) rfl (hset_self _ _ _) rfl) ?_
             refine g_call rfl rfl rfl rfl (.cons inn_lit (.cons inn_sc .nil)) (HasC _ _ _ (by first | omega | (simp only [List.length_map]; omega))) ?_
             refine g_pT rfl rfl rfl ?_
             refine g_aS rfl rfl ?_
             refine g_end (ds := [147, 148, 149, 152, 153, 156, 157, 158, 159, 160]) rfl rfl (hK74 _ ?_); clear hK74 K74
             refine pwp_ret ?_
             refine end1 (v := .sc _) rfl ?_
             first
               | exact out_b rfl
               | exact out_b (by rw [decide_eq_true_eq]; simp only [List.length_map] at *; omega)
               | (exfalso; simp only [List.length_map] at *; omega)
               | exact out_b hdq.2.2.2
               | exact absurd hjq.1 (by assumption)
               | (exfalso; rw [decide_eq_true hjq.1] at *; simp_all; done)
            ·have hb77R := hb77; try simp only [zz] at hb77
             iterate 4 refine g_skip rfl rfl rfl ?_
             refine g_nocall rfl rfl rfl ?_
             refine g_pF rfl rfl rfl ?_
             refine g_aS rfl rfl ?_
             refine g_end (ds := [147, 148, 149, 152, 153, 156, 157, 158, 159, 160]) rfl rfl (hK74 _ ?_); clear hK74 K74
             refine pwp_ret ?_
             refine end1 (v := .sc _) rfl ?_
             first
               | exact out_b rfl
               | exact out_b (by rw [decide_eq_true_eq]; simp only [List.length_map] at *; omega)
               | (exfalso; simp only [List.length_map] at *; omega)
               | exact out_b hdq.2.2.2
               | exact absurd hjq.1 (by assumption)
               | (exfalso; rw [decide_eq_true hjq.1] at *; simp_all; done)
           ·have hb76R := hb76; try simp only [zz] at hb76
            iterate 2 refine g_skip rfl rfl rfl ?_
            refine g_pF rfl rfl rfl ?_
            refine g_mS rfl rfl ?_
            iterate 4 refine g_skip rfl rfl rfl ?_
            refine g_nocall rfl rfl rfl ?_
            refine g_pF rfl rfl rfl ?_
            refine g_aS rfl rfl ?_
            refine g_end (ds := [147, 148, 149, 152, 153, 156, 157, 158, 159, 160]) rfl rfl (hK74 _ ?_); clear hK74 K74
            refine pwp_ret ?_
            refine end1 (v := .sc _) rfl ?_
            first
              | exact out_b rfl
              | exact out_b (by rw [decide_eq_true_eq]; simp only [List.length_map] at *; omega)
              | (exfalso; simp only [List.length_map] at *; omega)
              | exact out_b hdq.2.2.2
              | exact absurd hjq.1 (by assumption)
              | (exfalso; rw [decide_eq_true hjq.1] at *; simp_all; done)
          ·have hb75R := hb75; try simp only [zz] at hb75
           iterate 3 refine g_skip rfl rfl rfl ?_
           refine g_pF rfl rfl rfl ?_
           refine g_mS rfl rfl ?_
           iterate 2 refine g_skip rfl rfl rfl ?_
           refine g_pF rfl rfl rfl ?_
           refine g_mS rfl rfl ?_
           iterate 4 refine g_skip rfl rfl rfl ?_
           refine g_nocall rfl rfl rfl ?_
           refine g_pF rfl rfl rfl ?_
           refine g_aS rfl rfl ?_
           refine g_end (ds := [147, 148, 149, 152, 153, 156, 157, 158, 159, 160]) rfl rfl (hK74 _ ?_); clear hK74 K74
           refine pwp_ret ?_
           refine end1 (v := .sc _) rfl ?_
           first
             | exact out_b rfl
             | exact out_b (by rw [decide_eq_true_eq]; simp only [List.length_map] at *; omega)
             | (exfalso; simp only [List.length_map] at *; omega)
             | exact out_b hdq.2.2.2
             | exact absurd hjq.1 (by assumption)
             | (exfalso; rw [decide_eq_true hjq.1] at *; simp_all; done)

end Go.Proofs.YtindehoegfiiaaaGreatDoor
