import Derived.Test.YtigdmkhdmbbfiaaTb1
import Derived.Test.YtigdmkhdmbbfiaaCu1
set_option linter.unusedSimpArgs false
set_option linter.unusedVariables false
set_option maxRecDepth 100000
namespace Go.Proofs.Ytigdmkhdmbbfiaa
open Go Go.Pv
section
variable {t : Traffic} {l : List Trip} {k : Nat} {x : Trip} {r : Route}
theorem bk_0 (p d : Nat) : spM t.supplies t.supplies.length p d = bkM t l 0 p d := by
 show _ = spM t.supplies t.supplies.length p d + 0 - 0;omega
theorem bk_at (hx : l[k]? = some x) (p d : Nat) : bkM t l (k + 1) p d = bkM t l k p d + (if aI t x p d = true then x.count else 0) - (if aG t x p d = true then x.count else 0) := by
 have h1 : inM t l (k + 1) p d = inM t l k p d + (if aI t x p d = true then x.count else 0) := zGM hx p d;have h2 : goM t l (k + 1) p d = goM t l k p d + (if aG t x p d = true then x.count else 0) := zGM hx p d;rw [bkM, coM, h1, h2, bkM, coM]; omega
theorem bk_s (hx : l[k]? = some x) {i j i2 j2 : Nat} (hG : ∀ p d, aG t x p d = true ↔ p = i ∧ d = j) (hI : ∀ p d, aI t x p d = true ↔ p = i2 ∧ d = j2) (p d : Nat) :
   upd (upd (bkM t l k) i j (bkM t l k i j - x.count)) i2 j2 (upd (bkM t l k) i j (bkM t l k i j - x.count) i2 j2 + x.count) p d = bkM t l (k + 1) p d := by
 rw [bk_at hx];by_cases e2 : p = i2 ∧ d = j2
 · obtain ⟨rfl, rfl⟩ := e2;rw [upd, if_pos ⟨rfl, rfl⟩, if_pos ((hI _ _).2 ⟨rfl, rfl⟩), upd];by_cases e : p = i ∧ d = j
   · rw [if_pos e, if_pos ((hG _ _).2 e), e.1, e.2]; omega
   · rw [if_neg e, if_neg (fun q => e ((hG _ _).1 q))]; omega
 · rw [upd, if_neg e2, if_neg (fun q => e2 ((hI _ _).1 q)), upd];by_cases e : p = i ∧ d = j
   · rw [if_pos e, if_pos ((hG _ _).2 e), e.1, e.2]; omega
   · rw [if_neg e, if_neg (fun q => e ((hG _ _).1 q))]; omega
theorem bk_b (hT : TrOK t) (h : ∀ y ∈ l, 0 ≤ y.count ∧ y.count ≤ 1000000) (hl : l.length ≤ 2000) (hk : k ≤ l.length) (p d : Nat) : -2000000000 ≤ bkM t l k p d ∧ bkM t l k p d ≤ 2100000000 := by
 have h1 : 0 ≤ spM t.supplies t.supplies.length p d ∧ spM t.supplies t.supplies.length p d ≤ 1000000 * (t.supplies.length : Int) := tab_b (fun y hy => (hT.sp y hy).2.2) (Nat.le_refl _) p d;have h2 : 0 ≤ inM t l k p d ∧ inM t l k p d ≤ 1000000 * (k : Int) := tab_b h hk p d;have h3 : 0 ≤ goM t l k p d ∧ goM t l k p d ≤ 1000000 * (k : Int) := tab_b h hk p d;have h4 := hT.hs;rw [bkM, coM]; omega
theorem us_b (h : ∀ y ∈ l, 0 ≤ y.count ∧ y.count ≤ 1000000) (hk : k ≤ l.length) (p d : Nat) : 0 ≤ usM l k p d ∧ usM l k p d ≤ 1000000 * (k : Int) := tab_b h hk p d
def MpU (m : List (At × Int)) (l : List Trip) (k : Nat) : Prop := ∀ p d : Nat, (aGet (⟨(p : Int), (d : Int)⟩ : At) m).getD 0 = usM l k p d
theorem mu_0 : MpU [] l 0 := fun p d => rfl
theorem zLX {m : List (At × Int)} (h : MpU m l k) {a b : Int} (ha : 0 ≤ a) (hb : 0 ≤ b) : (aGet (⟨a, b⟩ : At) m).getD 0 = usM l k a.toNat b.toNat := by
 rw [← h, Int.toNat_of_nonneg ha, Int.toNat_of_nonneg hb]
theorem mu_s {m : List (At × Int)} (h : MpU m l k) (hx : l[k]? = some x) (h1 : 0 ≤ x.route) (h2 : 0 ≤ x.day) : MpU (aSet ⟨x.route, x.day⟩ ((aGet (⟨x.route, x.day⟩ : At) m).getD 0 + x.count) m) l (k + 1) := fun p d => by
 have h3 : usM l (k + 1) p d = usM l k p d + (if aU x p d = true then x.count else 0) := zGM hx p d;rw [zFv, h3];by_cases e : (⟨(p : Int), (d : Int)⟩ : At) = ⟨x.route, x.day⟩
 · rw [if_pos e, if_pos (by simp only [At.mk.injEq] at e; rw [zJI h1 h2]; omega), ← e, Option.getD_some, h]
 · rw [if_neg e, if_neg (by rw [zJI h1 h2]; exact fun q => e (by simp only [At.mk.injEq]; omega)), h, Int.add_zero]
theorem lim_s (hx : l[k]? = some x) (h1 : 0 ≤ x.route) (h2 : 0 ≤ x.day) (hr : rtOf t x = r) (hin : ∀ i, i < t.routes.length → ∀ d, d < t.days.toNat → usM l k i d ≤ (t.routes.getD i default).most) (hc : usM l (k + 1) x.route.toNat x.day.toNat ≤ r.most) :
   ∀ i, i < t.routes.length → ∀ d, d < t.days.toNat → usM l (k + 1) i d ≤ (t.routes.getD i default).most := fun i hi d hd => by
 by_cases e : i = x.route.toNat ∧ d = x.day.toNat
 · obtain ⟨rfl, rfl⟩ := e;rw [rtOf] at hr; rw [hr]; exact hc
 · have h3 : usM l (k + 1) i d = usM l k i d + (if aU x i d = true then x.count else 0) := zGM hx i d;rw [h3, if_neg (fun q => e ((zJI h1 h2 i d).1 q)), Int.add_zero];exact hin i hi d hd
theorem lim_0 (hT : TrOK t) : ∀ i, i < t.routes.length → ∀ d, d < t.days.toNat → usM l 0 i d ≤ (t.routes.getD i default).most := fun i hi d _ => by
 have h1 : usM l 0 i d = 0 := rfl;rw [h1, List.getD_eq_getElem?_getD, List.getElem?_eq_getElem hi];exact (hT.rt _ (List.getElem_mem hi)).2.2.2.2.1
theorem lim_hit (h : ∀ y ∈ l, 0 ≤ y.count) (hk : k + 1 ≤ l.length) {i d : Nat} (hi : i < t.routes.length) (hd : d < t.days.toNat) (hr : rtOf t x = r) (he : i = x.route.toNat) (hc : r.most < usM l (k + 1) i d) : limB t l = true := by
 subst he;refine lim_t hi hd ?_;have h1 : usM l (k + 1) x.route.toNat d ≤ usM l l.length x.route.toNat d := tab_m h hk (Nat.le_refl _) _ _;rw [rtOf] at hr; rw [hr]; omega
theorem rng_set {α : Type} {f : Nat → α} {D j : Nat} {w : α} : ((List.range D).map f).set j w = (List.range D).map (fun d => if d = j then w else f d) := by
 apply List.ext_getElem?;intro i;rw [List.getElem?_set, lM, List.length_range];rcases Nat.lt_or_ge i D with q | q
 · rw [zEa q, zEa q];by_cases e : j = i
   · subst e; rw [if_pos rfl, if_pos q, if_pos rfl]
   · rw [if_neg e, if_neg (fun e2 => e e2.symm)]
 · rw [List.getElem?_eq_none (l := (List.range D).map f) (by simpa using q), List.getElem?_eq_none (l := (List.range D).map _) (by simpa using q)];split
   · rename_i e; subst e; rw [if_neg (by omega)]
   · rfl
theorem nd_z (D p : Nat) (l : List Supply) : List.replicate D (0 : Int) = (List.range D).map (spM l 0 p) :=
 (List.eq_replicate_iff.2 ⟨by simp, fun x hx => by obtain ⟨_, _, rfl⟩ := List.mem_map.1 hx; rfl⟩).symm
theorem nd_s {l : List Supply} {s : Supply} {D p : Nat} (hx : l[k]? = some s) (hp : s.place = (p : Int)) (h2 : 0 ≤ s.day) : ((List.range D).map (spM l k p)).set s.day.toNat (spM l k p s.day.toNat + s.count) = (List.range D).map (spM l (k + 1) p) := by
 rw [rng_set];refine List.map_congr_left fun d _ => ?_;have h3 : spM l (k + 1) p d = spM l k p d + (if aS s p d = true then s.count else 0) := zGM hx p d;rw [h3];by_cases e : d = s.day.toNat
 · rw [if_pos e, if_pos (by rw [zHn (by omega) h2]; omega), e]
 · rw [if_neg e, if_neg (by rw [zHn (by omega) h2]; omega), Int.add_zero]
theorem nd_n {l : List Supply} {s : Supply} {D p : Nat} (hx : l[k]? = some s) (hp : ¬ s.place = (p : Int)) : (List.range D).map (spM l k p) = (List.range D).map (spM l (k + 1) p) := by
 refine List.map_congr_left fun d _ => ?_;have h3 : spM l (k + 1) p d = spM l k p d + (if aS s p d = true then s.count else 0) := zGM hx p d;rw [h3, if_neg (by rw [aS, decide_eq_true_eq]; exact fun q => hp q.1), Int.add_zero]
theorem nd_e {l : List Supply} {D p n : Nat} (h : l.length ≤ k) (hn : l.length ≤ n) : (List.range D).map (spM l k p) = (List.range D).map (spM l n p) :=
 List.map_congr_left fun d _ => tab_n h hn p d
def lvM (t : Traffic) (l : List Trip) (p k i j : Nat) : Int := if i < p ∨ (i = p ∧ j < k) then lvB t l i j else bkM t l l.length i j
theorem lv_0 (i j : Nat) : bkM t l l.length i j = lvM t l 0 0 i j := by rw [lvM, if_neg (by omega)]
theorem lv_s {p d : Nat} {w : Int} (hw : w = lvB t l p d) (i j : Nat) : upd (lvM t l p d) p d w i j = lvM t l p (d + 1) i j := by
 rw [upd, lvM, lvM];by_cases e : i = p ∧ j = d
 · rw [if_pos e, if_pos (by omega), e.1, e.2, hw]
 · rw [if_neg e];by_cases e2 : i < p ∨ (i = p ∧ j < d)
   · rw [if_pos e2, if_pos (by omega)]
   · rw [if_neg e2, if_neg (by omega)]
theorem lv_n {p D : Nat} (i j : Nat) (hj : j < D) : lvM t l p D i j = lvM t l (p + 1) 0 i j := by
 rw [lvM, lvM];by_cases e : i < p + 1
 · rw [if_pos (by omega), if_pos (by omega)]
 · rw [if_neg (by omega), if_neg (by omega)]
theorem lv_r {p d : Nat} : lvM t l p d p d = bkM t l l.length p d := by rw [lvM, if_neg (by omega)]
theorem lv_row {D p : Nat} : ((List.range D).map (lvM t l p D p)) = (List.range D).map (lvB t l p) :=
 List.map_congr_left fun d hd => by rw [lvM, if_pos (.inr ⟨rfl, List.mem_range.1 hd⟩)]
theorem lvB_b (hT : TrOK t) (h : ∀ y ∈ l, 0 ≤ y.count ∧ y.count ≤ 1000000) (hl : l.length ≤ 2000) {p d : Nat} (hd : d ≤ 20) : -42000000000 ≤ lvl (bkM t l l.length p) d ∧ lvl (bkM t l l.length p) d ≤ 42000000000 := by
 have h1 := lvl_b (f := bkM t l l.length p) (m := 2100000000) (D := 20) (fun d _ => by have := bk_b hT h hl (Nat.le_refl _) p d; omega) hd;omega
theorem met_b (hT : TrOK t) {p : Nat} (hp : p ≤ t.places.toNat) : 0 ≤ lvl (fun p => tkN (lvB t l p) (ndM t p) t.days.toNat t.days.toNat) p ∧ lvl (fun p => tkN (lvB t l p) (ndM t p) t.days.toNat t.days.toNat) p ≤ 20000000000 * (p : Int) := by
 induction p with
 | zero => rw [lvl]; simp
 | succ p ih =>
   have h1 := ih (by omega)
   have h2 := tkN_b (L := lvB t l p) (N := ndM t p) (D := t.days.toNat) (m := 40000000) (fun d _ => by
     have h3 : 0 ≤ spM t.needs t.needs.length p d ∧ spM t.needs t.needs.length p d ≤ 1000000 * (t.needs.length : Int) := tab_b (fun y hy => (hT.nd y hy).2.2) (Nat.le_refl _) p d;have h4 := hT.hn;rw [ndM]; omega) (Nat.le_refl _)
   have h5 := hT.hB;rw [lvl];omega
theorem nd_b (hT : TrOK t) (p d : Nat) : 0 ≤ ndM t p d ∧ ndM t p d ≤ 40000000 := by
 have h3 : 0 ≤ spM t.needs t.needs.length p d ∧ spM t.needs t.needs.length p d ≤ 1000000 * (t.needs.length : Int) := tab_b (fun y hy => (hT.nd y hy).2.2) (Nat.le_refl _) p d;have h4 := hT.hn;rw [ndM]; omega
end
section
variable {α : Type} {h : Heap} {k0 : Key} {s n D g : Nat} {f : α → List PV} {gs : List Nat} {b : Nat → Nat → α} {o : Option PObj} {r : Nat → PV} {c : Nat → Nat}
theorem zKT (hk : Known ⟨r, h, c⟩) (hM : Mat h k0 s n D f gs b) : ∀ x ∈ gs, x ≠ c s := fun x hx e => by
 obtain ⟨i, hi⟩ := List.mem_iff_getElem?.1 hx;have h1 : x < c s := hk (s, x) _ (hM.inn i x hi);omega
theorem Mat.far (h0 : Nat.beq k0.1 s = false) (hg : ∀ x ∈ gs, x ≠ g) (hM : Mat h k0 s n D f gs b) : Mat (hset h (s, g) o) k0 s n D f gs b :=
 ⟨hM.le, hM.nd, (zAb (by intro q; rw [q] at h0; simp at h0)).trans hM.out, fun i x hx => (zAb (fun q => hg x (List.mem_of_getElem? hx) (by cases q; rfl))).trans (hM.inn i x hx)⟩
end
end Go.Proofs.Ytigdmkhdmbbfiaa
