/- The trips of a flow. No conditions. -/
import Derived.Test.YtigdmkhdmbbfiaaFb
set_option linter.unusedSimpArgs false
set_option linter.unusedVariables false
set_option maxRecDepth 100000
namespace Go.Proofs.Ytigdmkhdmbbfiaa
open Go Go.Pv
/-! ### The trips of a flow -/
def trO (q : Arc × Int) : Option Trip := match q.1.tg with
 | some z => if 0 < q.2 then some ⟨z.1, z.2, q.2⟩ else none
 | none => none
def tripsL (af : List (Arc × Int)) : List Trip := af.filterMap trO
def tgS (ψ : Int → Int → Bool) (q : Arc × Int) : Int := match q.1.tg with
 | some z => if ψ z.1 z.2 = true then q.2 else 0
 | none => 0
section
variable {t : Traffic} {af : List (Arc × Int)} {n : Int}
theorem trips_sum {ψ : Int → Int → Bool} : ∀ {af : List (Arc × Int)}, (∀ q ∈ af, 0 ≤ q.2) → sumL (fun x : Trip => if ψ x.route x.day = true then x.count else 0) (tripsL af) = sumL (tgS ψ) af
 | [], _ => rfl
 | q :: af, h => by
   have ih := trips_sum (ψ := ψ) (af := af) fun q hq => h q (by simp [hq])
   have h0 := h q (by simp)
   have e : tripsL (q :: af) = (match trO q with | none => tripsL af | some x => x :: tripsL af) := by
     rw [tripsL, List.filterMap_cons]; cases trO q <;> rfl
   rw [e, sumL]
   cases hq : q.1.tg with
   | none =>
     have h1 : trO q = none := by rw [trO, hq]
     have h2 : tgS ψ q = 0 := by rw [tgS, hq]
     rw [h1, h2, ih]; omega
   | some z =>
     have h2 : tgS ψ q = if ψ z.1 z.2 = true then q.2 else 0 := by rw [tgS, hq]
     by_cases e0 : 0 < q.2
     · have h1 : trO q = some ⟨z.1, z.2, q.2⟩ := by rw [trO, hq]; exact if_pos e0
       rw [h1, h2]; simp only [sumL]; rw [ih]
     · have h1 : trO q = none := by rw [trO, hq]; exact if_neg e0
       rw [h1, h2, ih, show q.2 = 0 by omega]; split <;> omega
theorem trips_mem {x : Trip} (hx : x ∈ tripsL af) : ∃ q ∈ af, q.1.tg = some (x.route, x.day) ∧ x.count = q.2 ∧ 0 < q.2 := by
 rw [tripsL, List.mem_filterMap] at hx
 obtain ⟨q, h1, h2⟩ := hx
 unfold trO at h2
 cases hq : q.1.tg with
 | none => rw [hq] at h2; cases h2
 | some z =>
   rw [hq] at h2
   simp only [] at h2
   split at h2
   · rename_i h3; cases h2; exact ⟨q, h1, hq, rfl, h3⟩
   · cases h2
theorem trips_len : (tripsL af).length ≤ af.length := List.length_filterMap_le _ _
theorem arcs_len (hT : TrOK t) : (arcs t).length ≤ 1000 := by
 have hA := hT.hA; have hB := hT.hB; have hr := hT.hr; have hs := hT.hs; have hn := hT.hn
 have main : ∀ {α : Type} (f : α → List Arc) (m : Nat) (l : List α), (∀ x ∈ l, (f x).length ≤ m) → (l.flatMap f).length ≤ l.length * m := fun f m l => by
   induction l with
   | nil => intro _; simp
   | cons x l ih =>
     intro h
     rw [List.flatMap_cons, List.length_append, List.length_cons, Nat.add_mul]
     have h1 := h x (by simp)
     have h2 := ih fun y hy => h y (by simp [hy])
     omega
 have h1 := main (fun p => (List.range (t.days.toNat - 1)).map (arH t p)) 20 (List.range t.places.toNat) (fun p _ => by rw [List.length_map, List.length_range]; omega)
 have h2 := main (rtL t) 20 (List.range t.routes.length) (fun i hi => by
   rw [rtL, List.length_map, List.length_range]
   rw [List.mem_range] at hi
   have h7 : t.routes.getD i default = t.routes[i] := by rw [List.getD_eq_getElem?_getD, List.getElem?_eq_getElem hi]; rfl
   have h8 := hT.rt _ (List.getElem_mem hi)
   rw [h7]; omega)
 rw [List.length_range] at h1 h2
 rw [arcs, List.length_append, List.length_append, List.length_append, List.length_map, List.length_map, hldL]
 omega
theorem tg_arc (hT : TrOK t) {a : Arc} (ha : a ∈ arcs t) {z : Int × Int} (hz : a.tg = some z) : ∃ (i d : Nat) (r : Route), z = ((i : Int), (d : Int)) ∧ t.routes[i]? = some r ∧ (d : Int) + r.days < t.days ∧ a = arR t i r d := by
 rcases ar_cases ha with ⟨s, h1, e⟩ | ⟨s, h1, e⟩ | ⟨p, d, h1, h2, e⟩ | ⟨i, d, r, h1, h2, e⟩
 · rw [e] at hz; cases hz
 · rw [e] at hz; cases hz
 · rw [e] at hz; cases hz
 · rw [e] at hz
   cases hz
   exact ⟨i, d, r, rfl, h1, h2, e⟩
theorem Flow.nn (hF : Flow t af n) : ∀ q ∈ af, 0 ≤ q.2 := fun q hq => (hF.cap q hq).1
theorem Flow.tr0 (hF : Flow t af n) (hT : TrOK t) {x : Trip} (hx : x ∈ tripsL af) : trF t x = 0 := by
 obtain ⟨q, h1, h2, h3, h4⟩ := trips_mem hx
 obtain ⟨i, d, r, h5, h6, h7, h8⟩ := tg_arc hT (hF.mem h1) h2
 have h9 := hT.rt r (List.mem_of_getElem? h6)
 have h10 := (hF.cap q h1).2
 rw [h8] at h10; simp only [arR] at h10
 have hi := (List.getElem?_eq_some_iff.1 h6).1
 have e1 : x.route = (i : Int) := congrArg Prod.fst h5
 have e2 : x.day = (d : Int) := congrArg Prod.snd h5
 have hr : rtOf t x = r := by
   rw [rtOf, e1, Int.toNat_natCast, List.getD_eq_getElem?_getD, h6]; rfl
 exact trF_0 (by omega) hr (by omega) (by omega) (by omega)
theorem Flow.lim (hF : Flow t af n) (hT : TrOK t) : limB t (tripsL af) = false := by
 refine lim_f fun i hi d hd => ?_
 have h0 : usM (tripsL af) (tripsL af).length i d = _ := tab_sum
 rw [h0]
 have h1 : sumL (fun x : Trip => if aU x i d = true then x.count else 0) (tripsL af) = sumL (tgS fun ρ δ => decide (ρ = (i : Int) ∧ δ = (d : Int))) af := trips_sum (ψ := fun ρ δ => decide (ρ = (i : Int) ∧ δ = (d : Int))) hF.nn
 rw [h1]
 have h2 : sumL (tgS fun ρ δ => decide (ρ = (i : Int) ∧ δ = (d : Int))) af ≤ sumL (fun q => (fun a : Arc => match a.tg with | some z => if decide (z.1 = (i : Int) ∧ z.2 = (d : Int)) = true then a.cap else 0 | none => 0) q.1) af := sumL_le fun q hq => by
   have h3 := (hF.cap q hq).2
   rw [tgS]
   dsimp only
   cases q.1.tg with
   | none => exact Int.le_refl _
   | some z => dsimp only; split <;> omega
 refine Int.le_trans h2 ?_
 refine Int.le_trans (Int.le_of_eq (sum_fst (F := fun a : Arc => match a.tg with | some z => if decide (z.1 = (i : Int) ∧ z.2 = (d : Int)) = true then a.cap else 0 | none => 0))) ?_
 rw [hF.ar, arcs, sumL_app, sumL_app, sumL_app, sumL_map, sumL_map]
 have e1 : sumL (fun s => (fun a : Arc => match a.tg with | some z => if decide (z.1 = (i : Int) ∧ z.2 = (d : Int)) = true then a.cap else 0 | none => 0) (arS t s)) t.supplies = 0 := sumL_z fun s _ => rfl
 have e2 : sumL (fun s => (fun a : Arc => match a.tg with | some z => if decide (z.1 = (i : Int) ∧ z.2 = (d : Int)) = true then a.cap else 0 | none => 0) (arN t s)) t.needs = 0 := sumL_z fun s _ => rfl
 have e3 : sumL (fun a : Arc => match a.tg with | some z => if decide (z.1 = (i : Int) ∧ z.2 = (d : Int)) = true then a.cap else 0 | none => 0) (hldL t) = 0 := sumL_z fun a ha => by
   rw [hldL, List.mem_flatMap] at ha
   obtain ⟨p, h4, h5⟩ := ha
   obtain ⟨d, h6, rfl⟩ := List.mem_map.1 h5
   rfl
 have hri : t.routes.getD i default = t.routes[i] := by rw [List.getD_eq_getElem?_getD, List.getElem?_eq_getElem hi]; rfl
 have hm : 0 ≤ (t.routes.getD i default).most := by rw [hri]; exact (hT.rt _ (List.getElem_mem hi)).2.2.2.2.1
 have e4 : sumL (fun a : Arc => match a.tg with | some z => if decide (z.1 = (i : Int) ∧ z.2 = (d : Int)) = true then a.cap else 0 | none => 0) ((List.range t.routes.length).flatMap (rtL t)) ≤ (t.routes.getD i default).most := by
   rw [sumL_flat, sumL_range]
   refine Int.le_trans (lvl_le (g := fun j => if j = i then (t.routes.getD i default).most else 0) fun j hj => ?_) (by rw [lvl_ind, if_pos hi]; exact Int.le_refl _)
   rw [rtL, sumL_map, sumL_range]
   by_cases e : j = i
   · subst e
     rw [if_pos rfl]
     refine Int.le_trans (lvl_le (g := fun e => if e = d then (t.routes.getD j default).most else 0) fun e he => ?_) (by rw [lvl_ind]; split <;> omega)
     simp only [arR]
     by_cases e2 : e = d
     · subst e2; simp
     · rw [if_neg e2, if_neg (by simp; omega)]; exact Int.le_refl _
   · rw [if_neg e]
     exact Int.le_of_eq (lvl_z fun e' he' => if_neg (by simp; omega))
 rw [e1, e2, e3]; omega
theorem tab_lvl {α : Type} {A : α → Nat → Nat → Bool} {c : α → Int} {l : List α} {p m : Nat} (px dx : α → Nat) (hA : ∀ x ∈ l, ∀ p d, A x p d = true ↔ p = px x ∧ d = dx x) :
   lvl (tab A c l l.length p) m = sumL (fun x => if decide (px x = p ∧ dx x < m) = true then c x else 0) l := by
 have h1 : lvl (tab A c l l.length p) m = lvl (fun d => sumL (fun x => if A x p d = true then c x else 0) l) m := lvl_congr fun d _ => tab_sum
 rw [h1, lvl_sum]
 refine sumL_congr fun x hx => ?_
 have h2 : lvl (fun d => if A x p d = true then c x else 0) m = lvl (fun d => if d = dx x then (if px x = p then c x else 0) else 0) m := lvl_congr fun d _ => by
   by_cases e : p = px x ∧ d = dx x
   · rw [if_pos ((hA x hx p d).2 e), if_pos e.2, if_pos e.1.symm]
   · rw [if_neg (fun q => e ((hA x hx p d).1 q))]
     by_cases e2 : d = dx x
     · rw [if_pos e2, if_neg (fun q => e ⟨q.symm, e2⟩)]
     · rw [if_neg e2]
 rw [h2, lvl_ind]
 by_cases e1 : dx x < m <;> by_cases e2 : px x = p <;> simp [e1, e2]
/-- What the needs of a place take up to a day. -/
def gP (t : Traffic) (f2 : List (Arc × Int)) (p k : Nat) : Int := sumL (fun q => if decide (q.1.a / t.days = (p : Int) ∧ q.1.a % t.days < (k : Int)) = true then q.2 else 0) f2
theorem Flow.place (hF : Flow t af n) (hT : TrOK t) {f1 f2 f3 f4 : List (Arc × Int)} (h0 : af = f1 ++ (f2 ++ (f3 ++ f4))) (m1 : f1.map (·.1) = t.supplies.map (arS t)) (m2 : f2.map (·.1) = t.needs.map (arN t)) (m3 : f3.map (·.1) = hldL t) (m4 : f4.map (·.1) = (List.range t.routes.length).flatMap (rtL t))
   {p d : Nat} (hp : p < t.places.toNat) (hd : d < t.days.toNat) : gP t f2 p (d + 1) ≤ lvB t (tripsL af) p d := by
 have hA := hT.hA; have hB := hT.hB
 have hS0 : 0 ≤ ndS t := Int.mul_nonneg (by omega) (by omega)
 have h00 : ndE t = ndS t + 1 := rfl
 let X : Int → Bool := fun v => decide (v < ndS t ∧ v / t.days = (p : Int) ∧ v % t.days < ((d + 1 : Nat) : Int))
 have hX : ∀ v, X v = true ↔ v < ndS t ∧ v / t.days = (p : Int) ∧ v % t.days < ((d + 1 : Nat) : Int) := fun v => decide_eq_true_iff
 have hXn : ∀ a b : Int, 0 ≤ a ∧ a ≤ t.places - 1 → 0 ≤ b ∧ b ≤ t.days - 1 → (X (ndI t a b) = true ↔ a = (p : Int) ∧ b < ((d + 1 : Nat) : Int)) := fun a b h1 h2 => by
   rw [hX, pl_nd (by omega) h2.1 h2.2, dy_nd (by omega) h2.1 h2.2]
   have := nd_rng hT h1 h2
   exact ⟨fun q => ⟨q.2.1, q.2.2⟩, fun q => ⟨this.2, q.1, q.2⟩⟩
 have hXS : ¬ X (ndS t) = true := by rw [hX]; omega
 have hXE : ¬ X (ndE t) = true := by rw [hX]; omega
 have h1 := hF.set hT (X := X)
 rw [bI_f hXS, bI_f hXE] at h1
 have hmem : ∀ {f : List (Arc × Int)} {q : Arc × Int}, q ∈ f → (f = f1 ∨ f = f2 ∨ f = f3 ∨ f = f4) → q ∈ af := fun {f q} hq hf => by
   rw [h0]; simp only [List.mem_append]
   rcases hf with rfl | rfl | rfl | rfl
   · exact .inl hq
   · exact .inr (.inl hq)
   · exact .inr (.inr (.inl hq))
   · exact .inr (.inr (.inr hq))
 have h2 : SX X af = SX X f1 + (SX X f2 + (SX X f3 + SX X f4)) := by rw [h0]; simp only [SX, sumL_app]
 -- supplies
 have p1 : -(sumL (fun s : Supply => if decide (s.place.toNat = p ∧ s.day.toNat < d + 1) = true then s.count else 0) t.supplies) ≤ SX X f1 := by
   have e1 : sumL (fun q => (fun a : Arc => if X a.b = true then a.cap else 0) q.1) f1 = sumL (fun s : Supply => if decide (s.place.toNat = p ∧ s.day.toNat < d + 1) = true then s.count else 0) t.supplies := by
     refine (sum_fst (F := fun a : Arc => if X a.b = true then a.cap else 0)).trans ?_
     rw [m1, sumL_map]
     refine sumL_congr fun s hs => ?_
     have h5 := hT.sp s hs
     have h6 := hXn s.place s.day h5.1 h5.2.1
     simp only [arS, decide_eq_true_eq]
     by_cases e : s.place = (p : Int) ∧ s.day < ((d + 1 : Nat) : Int)
     · exact (if_pos (h6.2 e)).trans (if_pos (by omega)).symm
     · exact (if_neg (fun q => e (h6.1 q))).trans (if_neg (by omega)).symm
   rw [← e1]
   have e2 : 0 ≤ sumL (fun q => q.2 * uX X q.1 + (fun a : Arc => if X a.b = true then a.cap else 0) q.1) f1 := sumL_nn fun q hq => by
     obtain ⟨s, _, hs⟩ := of_map m1 hq
     have h5 := hF.cap q (hmem hq (.inl rfl))
     have h6 : ¬ X q.1.a = true := by rw [hs]; exact hXS
     rw [uX, bI_f h6]
     simp only
     by_cases e : X q.1.b = true
     · rw [bI_t e, if_pos e]; omega
     · rw [bI_f e, if_neg e]; simp
   rw [sumL_add] at e2
   rw [SX]; omega
 -- needs
 have p2 : SX X f2 = gP t f2 p (d + 1) := sumL_congr fun q hq => by
   obtain ⟨s, hs1, hs⟩ := of_map m2 hq
   have h5 := hT.nd s hs1
   have h6 : ¬ X q.1.b = true := by rw [hs]; exact hXE
   have h7 := nd_rng hT h5.1 h5.2.1
   rw [uX, bI_f h6]
   by_cases e : q.1.a / t.days = (p : Int) ∧ q.1.a % t.days < ((d + 1 : Nat) : Int)
   · rw [bI_t ((hX _).2 ⟨by rw [hs]; exact h7.2, e⟩), if_pos (decide_eq_true e)]; omega
   · rw [bI_f (fun q => e ((hX _).1 q).2), if_neg (by rw [decide_eq_false e]; decide)]; omega
 -- what is held
 have p3 : 0 ≤ SX X f3 := sumL_nn fun q hq => by
   have h5 : q.1 ∈ hldL t := by rw [← m3]; exact List.mem_map.2 ⟨q, hq, rfl⟩
   rw [hldL, List.mem_flatMap] at h5
   obtain ⟨p', h6, h7⟩ := h5
   obtain ⟨d', h8, h9⟩ := List.mem_map.1 h7
   rw [List.mem_range] at h6 h8
   refine Int.mul_nonneg (hF.cap q (hmem hq (.inr (.inr (.inl rfl))))).1 ?_
   rw [uX, ← h9]
   simp only [arH]
   have g1 := hXn (p' : Int) (d' : Int) (by omega) (by omega)
   have g2 := hXn (p' : Int) ((d' : Int) + 1) (by omega) (by omega)
   have hb := bI_b (X (ndI t (p' : Int) (d' : Int))); have hc := bI_b (X (ndI t (p' : Int) ((d' : Int) + 1)))
   by_cases e : X (ndI t (p' : Int) ((d' : Int) + 1)) = true
   · have := g2.1 e
     rw [bI_t (g1.2 ⟨this.1, by omega⟩)]; omega
   · rw [bI_f e]; omega
 -- trips
 have hcn : ∀ y ∈ tripsL af, trF t y = 0 := fun y hy => hF.tr0 hT hy
 have hrt : ∀ y ∈ tripsL af, (0 ≤ y.day ∧ 0 ≤ (rtOf t y).fro ∧ 0 ≤ (rtOf t y).til ∧ 0 ≤ y.day + (rtOf t y).days) := fun y hy => by
   have h5 := trF_inv (hcn y hy)
   obtain ⟨r, h6, h7, h8⟩ := rt_ex h5.1
   have h9 := hT.rt r h8
   rw [h7]; omega
 let ψo : Int → Int → Bool := fun i δ => decide ((t.routes.getD i.toNat default).fro.toNat = p ∧ δ.toNat < d + 1)
 let ψi : Int → Int → Bool := fun i δ => decide ((t.routes.getD i.toNat default).til.toNat = p ∧ (δ + (t.routes.getD i.toNat default).days).toNat < d + 1)
 have g1 : lvl (goM t (tripsL af) (tripsL af).length p) (d + 1) = sumL (tgS ψo) af := by
   rw [← trips_sum (ψ := ψo) hF.nn]
   exact tab_lvl (A := aG t) (fun x => (rtOf t x).fro.toNat) (fun x => x.day.toNat) fun x hx => aG_iff rfl (hrt x hx).2.1 (hrt x hx).1
 have g2 : lvl (inM t (tripsL af) (tripsL af).length p) (d + 1) = sumL (tgS ψi) af := by
   rw [← trips_sum (ψ := ψi) hF.nn]
   exact tab_lvl (A := aI t) (fun x => (rtOf t x).til.toNat) (fun x => (x.day + (rtOf t x).days).toNat) fun x hx => aI_iff rfl (hrt x hx).2.2.1 (hrt x hx).2.2.2
 have zz : ∀ (ψ : Int → Int → Bool), sumL (tgS ψ) af = sumL (tgS ψ) f4 := fun ψ => by
   rw [h0, sumL_app, sumL_app, sumL_app]
   have z1 : sumL (tgS ψ) f1 = 0 := sumL_z fun q hq => by obtain ⟨s, _, hs⟩ := of_map m1 hq; rw [tgS, hs]; rfl
   have z2 : sumL (tgS ψ) f2 = 0 := sumL_z fun q hq => by obtain ⟨s, _, hs⟩ := of_map m2 hq; rw [tgS, hs]; rfl
   have z3 : sumL (tgS ψ) f3 = 0 := sumL_z fun q hq => by
     have h5 : q.1 ∈ hldL t := by rw [← m3]; exact List.mem_map.2 ⟨q, hq, rfl⟩
     rw [hldL, List.mem_flatMap] at h5
     obtain ⟨p', h6, h7⟩ := h5
     obtain ⟨d', h8, h9⟩ := List.mem_map.1 h7
     rw [tgS, ← h9]; rfl
   rw [z1, z2, z3]; omega
 have p4 : SX X f4 = sumL (tgS ψo) f4 - sumL (tgS ψi) f4 := by
   rw [← sumL_sub]
   refine sumL_congr fun q hq => ?_
   have hm : q.1 ∈ (List.range t.routes.length).flatMap (rtL t) := by rw [← m4]; exact List.mem_map.2 ⟨q, hq, rfl⟩
   rw [List.mem_flatMap] at hm
   obtain ⟨i, h6, h7⟩ := hm
   rw [List.mem_range] at h6
   rw [rtL] at h7
   obtain ⟨e, h8, h9⟩ := List.mem_map.1 h7
   rw [List.mem_range] at h8
   have h10 : t.routes.getD i default = t.routes[i] := by rw [List.getD_eq_getElem?_getD, List.getElem?_eq_getElem h6]; rfl
   have h11 := hT.rt _ (List.getElem_mem h6)
   rw [← h10] at h11
   have k1 := hXn (t.routes.getD i default).fro (e : Int) h11.1 (by omega)
   have k2 := hXn (t.routes.getD i default).til ((e : Int) + (t.routes.getD i default).days) h11.2.1 (by omega)
   have l1 : bI (X q.1.a) = if ψo (i : Int) (e : Int) = true then 1 else 0 := by
     rw [← h9]
     show bI (X (ndI t (t.routes.getD i default).fro (e : Int))) = if decide ((t.routes.getD ((i : Int)).toNat default).fro.toNat = p ∧ ((e : Int)).toNat < d + 1) = true then 1 else 0
     rw [Int.toNat_natCast, Int.toNat_natCast]
     by_cases z : (t.routes.getD i default).fro = (p : Int) ∧ (e : Int) < ((d + 1 : Nat) : Int)
     · rw [bI_t (k1.2 z), if_pos (by rw [decide_eq_true_eq]; omega)]
     · rw [bI_f (fun y => z (k1.1 y)), if_neg (by rw [decide_eq_true_eq]; omega)]
   have l2 : bI (X q.1.b) = if ψi (i : Int) (e : Int) = true then 1 else 0 := by
     rw [← h9]
     show bI (X (ndI t (t.routes.getD i default).til ((e : Int) + (t.routes.getD i default).days))) = if decide ((t.routes.getD ((i : Int)).toNat default).til.toNat = p ∧ ((e : Int) + (t.routes.getD ((i : Int)).toNat default).days).toNat < d + 1) = true then 1 else 0
     rw [Int.toNat_natCast]
     by_cases z : (t.routes.getD i default).til = (p : Int) ∧ (e : Int) + (t.routes.getD i default).days < ((d + 1 : Nat) : Int)
     · rw [bI_t (k2.2 z), if_pos (by rw [decide_eq_true_eq]; omega)]
     · rw [bI_f (fun y => z (k2.1 y)), if_neg (by rw [decide_eq_true_eq]; omega)]
   have l3 : ∀ ψ : Int → Int → Bool, tgS ψ q = if ψ (i : Int) (e : Int) = true then q.2 else 0 := fun ψ => by rw [tgS, ← h9]; rfl
   rw [uX, l1, l2, l3, l3]
   by_cases z1 : ψo (i : Int) (e : Int) = true <;> by_cases z2 : ψi (i : Int) (e : Int) = true <;> simp only [z1, z2, if_true, if_false, Bool.false_eq_true] <;> omega
 have g0 : lvl (spM t.supplies t.supplies.length p) (d + 1) = sumL (fun s : Supply => if decide (s.place.toNat = p ∧ s.day.toNat < d + 1) = true then s.count else 0) t.supplies :=
   tab_lvl (fun s : Supply => s.place.toNat) (fun s => s.day.toNat) fun s hs => aS_iff (hT.sp s hs).1.1 (hT.sp s hs).2.1.1
 have hl : lvB t (tripsL af) p d = lvl (spM t.supplies t.supplies.length p) (d + 1) + lvl (inM t (tripsL af) (tripsL af).length p) (d + 1) - lvl (goM t (tripsL af) (tripsL af).length p) (d + 1) := by
   rw [← lvl_add, ← lvl_sub]; rfl
 rw [hl, g0, g1, g2, zz, zz]
 rw [h2, p2, p4] at h1
 have h1 : SX X f1 + (gP t f2 p (d + 1) + (SX X f3 + (sumL (tgS ψo) f4 - sumL (tgS ψi) f4))) = n * (0 - 0) := h1
 rw [Int.sub_zero, Int.mul_zero] at h1
 omega
theorem Flow.trips (hF : Flow t af n) (hT : TrOK t) (hc : ∃ c, cutV t c = (n, 0)) : tripE t (tripsL af) = (n, 0) := by
 have hA := hT.hA; have hB := hT.hB
 have hS0 : 0 ≤ ndS t := Int.mul_nonneg (by omega) (by omega)
 have h00 : ndE t = ndS t + 1 := rfl
 obtain ⟨c, hc⟩ := hc
 obtain ⟨f1, f2, f3, f4, h0, m1, m2, m3, m4⟩ := hF.split
 have hpl := fun {p d : Nat} (hp : p < t.places.toNat) (hd : d < t.days.toNat) => hF.place hT h0 m1 m2 m3 m4 hp hd
 have hmem : ∀ q ∈ f2, q ∈ af := fun q hq => by rw [h0]; simp only [List.mem_append]; exact .inr (.inl hq)
 have hg0 : ∀ p k, 0 ≤ gP t f2 p k := fun p k => sumL_nn fun q hq => by have := hF.nn q (hmem q hq); split <;> omega
 have hgm : ∀ p {j k : Nat}, j ≤ k → gP t f2 p j ≤ gP t f2 p k := fun p j k hjk => sumL_le fun q hq => by
   have := hF.nn q (hmem q hq)
   by_cases e : q.1.a / t.days = (p : Int) ∧ q.1.a % t.days < (j : Int)
   · rw [if_pos (decide_eq_true e), if_pos (decide_eq_true ⟨e.1, by omega⟩)]; exact Int.le_refl _
   · rw [if_neg (by rw [decide_eq_false e]; decide)]; split <;> omega
 have hlen : ((tripsL af).length : Int) ≤ 2000 := by
   have h1 := trips_len (af := af)
   have h2 := arcs_len hT
   rw [← hF.ar, List.length_map] at h2; omega
 have htr : feL (trF t) (tripsL af) = 0 := feL_no (k := (tripsL af).length) (fun i _ y hy => by rw [hF.tr0 hT (List.mem_of_getElem? hy)]; rfl) (Nat.le_refl _)
 have hst : stkB t (tripsL af) = false := stk_f fun p hp d hd => Int.le_trans (hg0 p (d + 1)) (hpl hp hd)
 have hnd : ∀ p d, d < t.days.toNat → gP t f2 p (d + 1) ≤ gP t f2 p d + ndM t p d := fun p d hd => by
   have h1 : ndM t p d = sumL (fun q => (fun a : Arc => if decide (a.a / t.days = (p : Int) ∧ a.a % t.days = (d : Int)) = true then a.cap else 0) q.1) f2 := by
     refine Eq.trans ?_ (sum_fst (F := fun a : Arc => if decide (a.a / t.days = (p : Int) ∧ a.a % t.days = (d : Int)) = true then a.cap else 0)).symm
     rw [m2, sumL_map]
     have h2 : ndM t p d = _ := tab_sum
     rw [h2]
     refine sumL_congr fun s hs => ?_
     have h5 := hT.nd s hs
     have h6 := aS_iff h5.1.1 h5.2.1.1 p d
     simp only [arN, pl_nd (show 1 ≤ t.days by omega) h5.2.1.1 h5.2.1.2, dy_nd (show 1 ≤ t.days by omega) h5.2.1.1 h5.2.1.2, decide_eq_true_eq]
     by_cases e : p = s.place.toNat ∧ d = s.day.toNat
     · rw [if_pos (h6.2 e), if_pos (by omega)]
     · rw [if_neg (fun q => e (h6.1 q)), if_neg (by omega)]
   rw [h1, gP, gP, ← sumL_add]
   refine sumL_le fun q hq => ?_
   have h3 := hF.cap q (hmem q hq)
   simp only [decide_eq_true_eq]
   by_cases e1 : q.1.a / t.days = (p : Int) <;> by_cases e2 : q.1.a % t.days < (d : Int) <;> by_cases e3 : q.1.a % t.days = (d : Int) <;> simp only [e1, e2, e3, true_and, false_and, if_true, if_false]
   all_goals first | omega | (split <;> omega)
 have hgz : ∀ p, gP t f2 p 0 = 0 := fun p => sumL_z fun q _ => if_neg (by
   rw [decide_eq_true_eq]
   rintro ⟨_, h2⟩
   have := Int.emod_nonneg q.1.a (show t.days ≠ 0 by omega)
   omega)
 have htk : ∀ p, p < t.places.toNat → ∀ d, d ≤ t.days.toNat → gP t f2 p d ≤ tkN (lvB t (tripsL af) p) (ndM t p) t.days.toNat d := fun p hp d => by
   induction d with
   | zero => intro _; rw [hgz, tkN]; exact Int.le_refl _
   | succ d ih =>
     intro hd
     have h1 := ih (by omega)
     have h2 := hnd p d (by omega)
     obtain ⟨k, h3, h4⟩ := mnF_mem (L := lvB t (tripsL af) p) (d := d) (n := t.days.toNat - 1 - d)
     have h5 := hpl hp (d := d + k) (by omega)
     have h6 := hgm p (j := d + 1) (k := d + k + 1) (by omega)
     rw [tkN, h4]; omega
 have hmet : n ≤ metV t (tripsL af) := by
   have h1 := hF.set hT (X := fun u => decide (u = ndE t))
   rw [bI_t (b := decide (ndE t = ndE t)) (by simp), bI_f (b := decide (ndS t = ndE t)) (by simp only [decide_eq_true_eq]; omega)] at h1
   have h2 : SX (fun u => decide (u = ndE t)) af = - sumL (fun q => q.2) f2 := by
     have zf : ∀ {f : List (Arc × Int)}, (∀ q ∈ f, q.1.a ≠ ndE t ∧ q.1.b ≠ ndE t) → SX (fun u => decide (u = ndE t)) f = 0 := fun {f} hf => sumL_z fun q hq => by
       rw [uX, bI_f (by simpa using (hf q hq).1), bI_f (by simpa using (hf q hq).2)]; simp
     have e1 : SX (fun u => decide (u = ndE t)) f1 = 0 := zf fun q hq => by
       obtain ⟨s, hs1, hs⟩ := of_map m1 hq
       have h5 := hT.sp s hs1
       have h6 := nd_rng hT h5.1 h5.2.1
       rw [hs]; simp only [arS]; omega
     have e3 : SX (fun u => decide (u = ndE t)) f3 = 0 := zf fun q hq => by
       have h5 : q.1 ∈ hldL t := by rw [← m3]; exact List.mem_map.2 ⟨q, hq, rfl⟩
       rw [hldL, List.mem_flatMap] at h5
       obtain ⟨p', h6, h7⟩ := h5
       obtain ⟨d', h8, h9⟩ := List.mem_map.1 h7
       rw [List.mem_range] at h6 h8
       have g1 := nd_rng hT (p := (p' : Int)) (d := (d' : Int)) (by omega) (by omega)
       have g2 := nd_rng hT (p := (p' : Int)) (d := (d' : Int) + 1) (by omega) (by omega)
       rw [← h9]; simp only [arH]; omega
     have e4 : SX (fun u => decide (u = ndE t)) f4 = 0 := zf fun q hq => by
       have hm : q.1 ∈ (List.range t.routes.length).flatMap (rtL t) := by rw [← m4]; exact List.mem_map.2 ⟨q, hq, rfl⟩
       rw [List.mem_flatMap] at hm
       obtain ⟨i, h6, h7⟩ := hm
       rw [List.mem_range] at h6
       rw [rtL] at h7
       obtain ⟨e, h8, h9⟩ := List.mem_map.1 h7
       rw [List.mem_range] at h8
       have h10 : t.routes.getD i default = t.routes[i] := by rw [List.getD_eq_getElem?_getD, List.getElem?_eq_getElem h6]; rfl
       have h11 := hT.rt _ (List.getElem_mem h6)
       rw [← h10] at h11
       have g1 := nd_rng hT (p := (t.routes.getD i default).fro) (d := (e : Int)) h11.1 (by omega)
       have g2 := nd_rng hT (p := (t.routes.getD i default).til) (d := (e : Int) + (t.routes.getD i default).days) h11.2.1 (by omega)
       rw [← h9]; simp only [arR]; omega
     have e2 : SX (fun u => decide (u = ndE t)) f2 = - sumL (fun q => q.2) f2 := by
       have : sumL (fun q => q.2 * uX (fun u => decide (u = ndE t)) q.1 + q.2) f2 = 0 := sumL_z fun q hq => by
         obtain ⟨s, hs1, hs⟩ := of_map m2 hq
         have h5 := hT.nd s hs1
         have h6 := nd_rng hT h5.1 h5.2.1
         have g1 : ¬ decide (q.1.a = ndE t) = true := fun z => by
           have z := of_decide_eq_true z; rw [hs] at z; simp only [arN] at z; omega
         have g2 : decide (q.1.b = ndE t) = true := by rw [hs]; simp [arN]
         rw [uX, bI_f g1, bI_t g2]; omega
       rw [sumL_add] at this
       change SX (fun u => decide (u = ndE t)) f2 + sumL (fun q => q.2) f2 = 0 at this
       omega
     have e0 : SX (fun u => decide (u = ndE t)) af = SX (fun u => decide (u = ndE t)) f1 + (SX (fun u => decide (u = ndE t)) f2 + (SX (fun u => decide (u = ndE t)) f3 + SX (fun u => decide (u = ndE t)) f4)) := by rw [h0]; simp only [SX, sumL_app]
     rw [e0, e1, e2, e3, e4]; omega
   have h3 : lvl (fun p => gP t f2 p t.days.toNat) t.places.toNat = sumL (fun q => q.2) f2 := by
     have h4 : lvl (fun p => gP t f2 p t.days.toNat) t.places.toNat = lvl (fun p => sumL (fun q => if p = (q.1.a / t.days).toNat then q.2 else 0) f2) t.places.toNat := lvl_congr fun p _ => sumL_congr fun q hq => by
       obtain ⟨s, hs1, hs⟩ := of_map m2 hq
       have h5 := hT.nd s hs1
       rw [hs]
       simp only [arN, pl_nd (show 1 ≤ t.days by omega) h5.2.1.1 h5.2.1.2, dy_nd (show 1 ≤ t.days by omega) h5.2.1.1 h5.2.1.2, decide_eq_true_eq]
       by_cases e : p = s.place.toNat
       · rw [if_pos e, if_pos (by omega)]
       · rw [if_neg e, if_neg (by omega)]
     rw [h4, lvl_sum]
     refine sumL_congr fun q hq => ?_
     obtain ⟨s, hs1, hs⟩ := of_map m2 hq
     have h5 := hT.nd s hs1
     rw [lvl_ind, if_pos (by rw [hs]; simp only [arN, pl_nd (show 1 ≤ t.days by omega) h5.2.1.1 h5.2.1.2]; omega)]
   have h4 : lvl (fun p => gP t f2 p t.days.toNat) t.places.toNat ≤ metV t (tripsL af) := lvl_le fun p hp => htk p hp _ (Nat.le_refl _)
   rw [h2] at h1
   omega
 have he := (tr_0 hlen htr (hF.lim hT) hst).symm
 have hw := weak hT he hc
 rw [he]
 exact congrArg (fun z => (z, (0 : Int))) (Int.le_antisymm hw hmet)
end

end Go.Proofs.Ytigdmkhdmbbfiaa
