/- The trips of a flow. No conditions. -/
import Derived.Test.YtigdmkhdmbbfiaaFb
set_option linter.unusedSimpArgs false
set_option linter.unusedVariables false
set_option maxRecDepth 100000
namespace Go.Proofs.Ytigdmkhdmbbfiaa
open Go Go.Pv
/-! ### The trips of a flow -/
def trO (q : Arc × Int) : Option Trip := match q.1.tg with
 | some z => if 0 < q.2 then some ⟨z.1, z.2, q.2⟩ else none
 | none => none
def tripsL (af : List (Arc × Int)) : List Trip := af.filterMap trO
def tgS (ψ : Int → Int → Bool) (q : Arc × Int) : Int := match q.1.tg with
 | some z => if ψ z.1 z.2 = true then q.2 else 0
 | none => 0
section
variable {t : Traffic} {af : List (Arc × Int)} {n : Int}
theorem trips_sum {ψ : Int → Int → Bool} : ∀ {af : List (Arc × Int)}, (∀ q ∈ af, 0 ≤ q.2) → sumL (fun x : Trip => if ψ x.route x.day = true then x.count else 0) (tripsL af) = sumL (tgS ψ) af
 | [], _ => rfl
 | q :: af, h => by
   have ih := trips_sum (ψ := ψ) (af := af) fun q hq => h q (by simp [hq])
   have h0 := h q (by simp)
   have e : tripsL (q :: af) = (match trO q with | none => tripsL af | some x => x :: tripsL af) := by
     rw [tripsL, List.filterMap_cons]; cases trO q <;> rfl
   rw [e, sumL]
   cases hq : q.1.tg with
   | none =>
     have h1 : trO q = none := by rw [trO, hq]
     have h2 : tgS ψ q = 0 := by rw [tgS, hq]
     rw [h1, h2, ih]; omega
   | some z =>
     have h2 : tgS ψ q = if ψ z.1 z.2 = true then q.2 else 0 := by rw [tgS, hq]
     by_cases e0 : 0 < q.2
     · have h1 : trO q = some ⟨z.1, z.2, q.2⟩ := by rw [trO, hq]; exact if_pos e0
       rw [h1, h2]; simp only [sumL]; rw [ih]
     · have h1 : trO q = none := by rw [trO, hq]; exact if_neg e0
       rw [h1, h2, ih, show q.2 = 0 by omega]; split <;> omega
theorem trips_mem {x : Trip} (hx : x ∈ tripsL af) : ∃ q ∈ af, q.1.tg = some (x.route, x.day) ∧ x.count = q.2 ∧ 0 < q.2 := by
 rw [tripsL, List.mem_filterMap] at hx
 obtain ⟨q, h1, h2⟩ := hx
 unfold trO at h2
 cases hq : q.1.tg with
 | none => rw [hq] at h2; cases h2
 | some z =>
   rw [hq] at h2
   simp only [] at h2
   split at h2
   · rename_i h3; cases h2; exact ⟨q, h1, hq, rfl, h3⟩
   · cases h2
theorem tg_arc (hT : TrOK t) {a : Arc} (ha : a ∈ arcs t) {z : Int × Int} (hz : a.tg = some z) : ∃ (i d : Nat) (r : Route), z = ((i : Int), (d : Int)) ∧ t.routes[i]? = some r ∧ (d : Int) + r.days < t.days ∧ a = arR t i r d := by
 rcases ar_cases ha with ⟨s, h1, e⟩ | ⟨s, h1, e⟩ | ⟨p, d, h1, h2, e⟩ | ⟨i, d, r, h1, h2, e⟩
 · rw [e] at hz; cases hz
 · rw [e] at hz; cases hz
 · rw [e] at hz; cases hz
 · rw [e] at hz
   cases hz
   exact ⟨i, d, r, rfl, h1, h2, e⟩
theorem Flow.nn (hF : Flow t af n) : ∀ q ∈ af, 0 ≤ q.2 := fun q hq => (hF.cap q hq).1
theorem Flow.tr0 (hF : Flow t af n) (hT : TrOK t) {x : Trip} (hx : x ∈ tripsL af) : trF t x = 0 := by
 obtain ⟨q, h1, h2, h3, h4⟩ := trips_mem hx
 obtain ⟨i, d, r, h5, h6, h7, h8⟩ := tg_arc hT (hF.mem h1) h2
 have h9 := hT.rt r (List.mem_of_getElem? h6)
 have h10 := (hF.cap q h1).2
 rw [h8] at h10; simp only [arR] at h10
 have hi := (List.getElem?_eq_some_iff.1 h6).1
 have e1 : x.route = (i : Int) := congrArg Prod.fst h5
 have e2 : x.day = (d : Int) := congrArg Prod.snd h5
 have hr : rtOf t x = r := by
   rw [rtOf, e1, Int.toNat_natCast, List.getD_eq_getElem?_getD, h6]; rfl
 exact trF_0 (by omega) hr (by omega) (by omega) (by omega)
theorem tab_lvl {α : Type} {A : α → Nat → Nat → Bool} {c : α → Int} {l : List α} {p m : Nat} (px dx : α → Nat) (hA : ∀ x ∈ l, ∀ p d, A x p d = true ↔ p = px x ∧ d = dx x) :
   lvl (tab A c l l.length p) m = sumL (fun x => if decide (px x = p ∧ dx x < m) = true then c x else 0) l := by
 have h1 : lvl (tab A c l l.length p) m = lvl (fun d => sumL (fun x => if A x p d = true then c x else 0) l) m := lvl_congr fun d _ => tab_sum
 rw [h1, lvl_sum]
 refine sumL_congr fun x hx => ?_
 have h2 : lvl (fun d => if A x p d = true then c x else 0) m = lvl (fun d => if d = dx x then (if px x = p then c x else 0) else 0) m := lvl_congr fun d _ => by
   by_cases e : p = px x ∧ d = dx x
   · rw [if_pos ((hA x hx p d).2 e), if_pos e.2, if_pos e.1.symm]
   · rw [if_neg (fun q => e ((hA x hx p d).1 q))]
     by_cases e2 : d = dx x
     · rw [if_pos e2, if_neg (fun q => e ⟨q.symm, e2⟩)]
     · rw [if_neg e2]
 rw [h2, lvl_ind]
 by_cases e1 : dx x < m <;> by_cases e2 : px x = p <;> simp [e1, e2]
/-- What the needs of a place take up to a day. -/
def gP (t : Traffic) (f2 : List (Arc × Int)) (p k : Nat) : Int := sumL (fun q => if decide (q.1.a / t.days = (p : Int) ∧ q.1.a % t.days < (k : Int)) = true then q.2 else 0) f2
theorem Flow.place (hF : Flow t af n) (hT : TrOK t) {f1 f2 f3 f4 : List (Arc × Int)} (h0 : af = f1 ++ (f2 ++ (f3 ++ f4))) (m1 : f1.map (·.1) = t.supplies.map (arS t)) (m2 : f2.map (·.1) = t.needs.map (arN t)) (m3 : f3.map (·.1) = hldL t) (m4 : f4.map (·.1) = (List.range t.routes.length).flatMap (rtL t))
   {p d : Nat} (hp : p < t.places.toNat) (hd : d < t.days.toNat) : gP t f2 p (d + 1) ≤ lvB t (tripsL af) p d := by
 have hA := hT.hA; have hB := hT.hB
 have hS0 : 0 ≤ ndS t := Int.mul_nonneg (by omega) (by omega)
 have h00 : ndE t = ndS t + 1 := rfl
 let X : Int → Bool := fun v => decide (v < ndS t ∧ v / t.days = (p : Int) ∧ v % t.days < ((d + 1 : Nat) : Int))
 have hX : ∀ v, X v = true ↔ v < ndS t ∧ v / t.days = (p : Int) ∧ v % t.days < ((d + 1 : Nat) : Int) := fun v => decide_eq_true_iff
 have hXn : ∀ a b : Int, 0 ≤ a ∧ a ≤ t.places - 1 → 0 ≤ b ∧ b ≤ t.days - 1 → (X (ndI t a b) = true ↔ a = (p : Int) ∧ b < ((d + 1 : Nat) : Int)) := fun a b h1 h2 => by
   rw [hX, pl_nd (by omega) h2.1 h2.2, dy_nd (by omega) h2.1 h2.2]
   have := nd_rng hT h1 h2
   exact ⟨fun q => ⟨q.2.1, q.2.2⟩, fun q => ⟨this.2, q.1, q.2⟩⟩
 have hXS : ¬ X (ndS t) = true := by rw [hX]; omega
 have hXE : ¬ X (ndE t) = true := by rw [hX]; omega
 have h1 := hF.set hT (X := X)
 rw [bI_f hXS, bI_f hXE] at h1
 have hmem : ∀ {f : List (Arc × Int)} {q : Arc × Int}, q ∈ f → (f = f1 ∨ f = f2 ∨ f = f3 ∨ f = f4) → q ∈ af := fun {f q} hq hf => by
   rw [h0]; simp only [List.mem_append]
   rcases hf with rfl | rfl | rfl | rfl
   · exact .inl hq
   · exact .inr (.inl hq)
   · exact .inr (.inr (.inl hq))
   · exact .inr (.inr (.inr hq))
 have h2 : SX X af = SX X f1 + (SX X f2 + (SX X f3 + SX X f4)) := by rw [h0]; simp only [SX, sumL_app]
 -- supplies
 have p1 : -(sumL (fun s : Supply => if decide (s.place.toNat = p ∧ s.day.toNat < d + 1) = true then s.count else 0) t.supplies) ≤ SX X f1 := by
   have e1 : sumL (fun q => (fun a : Arc => if X a.b = true then a.cap else 0) q.1) f1 = sumL (fun s : Supply => if decide (s.place.toNat = p ∧ s.day.toNat < d + 1) = true then s.count else 0) t.supplies := by
     refine (sum_fst (F := fun a : Arc => if X a.b = true then a.cap else 0)).trans ?_
     rw [m1, sumL_map]
     refine sumL_congr fun s hs => ?_
     have h5 := hT.sp s hs
     have h6 := hXn s.place s.day h5.1 h5.2.1
     simp only [arS, decide_eq_true_eq]
     by_cases e : s.place = (p : Int) ∧ s.day < ((d + 1 : Nat) : Int)
     · exact (if_pos (h6.2 e)).trans (if_pos (by omega)).symm
     · exact (if_neg (fun q => e (h6.1 q))).trans (if_neg (by omega)).symm
   rw [← e1]
   have e2 : 0 ≤ sumL (fun q => q.2 * uX X q.1 + (fun a : Arc => if X a.b = true then a.cap else 0) q.1) f1 := sumL_nn fun q hq => by
     obtain ⟨s, _, hs⟩ := of_map m1 hq
     have h5 := hF.cap q (hmem hq (.inl rfl))
     have h6 : ¬ X q.1.a = true := by rw [hs]; exact hXS
     rw [uX, bI_f h6]
     simp only
     by_cases e : X q.1.b = true
     · rw [bI_t e, if_pos e]; omega
     · rw [bI_f e, if_neg e]; simp
   rw [sumL_add] at e2
   rw [SX]; omega
 -- needs
 have p2 : SX X f2 = gP t f2 p (d + 1) := sumL_congr fun q hq => by
   obtain ⟨s, hs1, hs⟩ := of_map m2 hq
   have h5 := hT.nd s hs1
   have h6 : ¬ X q.1.b = true := by rw [hs]; exact hXE
   have h7 := nd_rng hT h5.1 h5.2.1
   rw [uX, bI_f h6]
   by_cases e : q.1.a / t.days = (p : Int) ∧ q.1.a % t.days < ((d + 1 : Nat) : Int)
   · rw [bI_t ((hX _).2 ⟨by rw [hs]; exact h7.2, e⟩), if_pos (decide_eq_true e)]; omega
   · rw [bI_f (fun q => e ((hX _).1 q).2), if_neg (by rw [decide_eq_false e]; decide)]; omega
 -- what is held
 have p3 : 0 ≤ SX X f3 := sumL_nn fun q hq => by
   have h5 : q.1 ∈ hldL t := by rw [← m3]; exact List.mem_map.2 ⟨q, hq, rfl⟩
   rw [hldL, List.mem_flatMap] at h5
   obtain ⟨p', h6, h7⟩ := h5
   obtain ⟨d', h8, h9⟩ := List.mem_map.1 h7
   rw [List.mem_range] at h6 h8
   refine Int.mul_nonneg (hF.cap q (hmem hq (.inr (.inr (.inl rfl))))).1 ?_
   rw [uX, ← h9]
   simp only [arH]
   have g1 := hXn (p' : Int) (d' : Int) (by omega) (by omega)
   have g2 := hXn (p' : Int) ((d' : Int) + 1) (by omega) (by omega)
   have hb := bI_b (X (ndI t (p' : Int) (d' : Int))); have hc := bI_b (X (ndI t (p' : Int) ((d' : Int) + 1)))
   by_cases e : X (ndI t (p' : Int) ((d' : Int) + 1)) = true
   · have := g2.1 e
     rw [bI_t (g1.2 ⟨this.1, by omega⟩)]; omega
   · rw [bI_f e]; omega
 -- trips
 have hcn : ∀ y ∈ tripsL af, trF t y = 0 := fun y hy => hF.tr0 hT hy
 have hrt : ∀ y ∈ tripsL af, (0 ≤ y.day ∧ 0 ≤ (rtOf t y).fro ∧ 0 ≤ (rtOf t y).til ∧ 0 ≤ y.day + (rtOf t y).days) := fun y hy => by
   have h5 := trF_inv (hcn y hy)
   obtain ⟨r, h6, h7, h8⟩ := rt_ex h5.1
   have h9 := hT.rt r h8
   rw [h7]; omega
 let ψo : Int → Int → Bool := fun i δ => decide ((t.routes.getD i.toNat default).fro.toNat = p ∧ δ.toNat < d + 1)
 let ψi : Int → Int → Bool := fun i δ => decide ((t.routes.getD i.toNat default).til.toNat = p ∧ (δ + (t.routes.getD i.toNat default).days).toNat < d + 1)
 have g1 : lvl (goM t (tripsL af) (tripsL af).length p) (d + 1) = sumL (tgS ψo) af := by
   rw [← trips_sum (ψ := ψo) hF.nn]
   exact tab_lvl (A := aG t) (fun x => (rtOf t x).fro.toNat) (fun x => x.day.toNat) fun x hx => aG_iff rfl (hrt x hx).2.1 (hrt x hx).1
 have g2 : lvl (inM t (tripsL af) (tripsL af).length p) (d + 1) = sumL (tgS ψi) af := by
   rw [← trips_sum (ψ := ψi) hF.nn]
   exact tab_lvl (A := aI t) (fun x => (rtOf t x).til.toNat) (fun x => (x.day + (rtOf t x).days).toNat) fun x hx => aI_iff rfl (hrt x hx).2.2.1 (hrt x hx).2.2.2
 have zz : ∀ (ψ : Int → Int → Bool), sumL (tgS ψ) af = sumL (tgS ψ) f4 := fun ψ => by
   rw [h0, sumL_app, sumL_app, sumL_app]
   have z1 : sumL (tgS ψ) f1 = 0 := sumL_z fun q hq => by obtain ⟨s, _, hs⟩ := of_map m1 hq; rw [tgS, hs]; rfl
   have z2 : sumL (tgS ψ) f2 = 0 := sumL_z fun q hq => by obtain ⟨s, _, hs⟩ := of_map m2 hq; rw [tgS, hs]; rfl
   have z3 : sumL (tgS ψ) f3 = 0 := sumL_z fun q hq => by
     have h5 : q.1 ∈ hldL t := by rw [← m3]; exact List.mem_map.2 ⟨q, hq, rfl⟩
     rw [hldL, List.mem_flatMap] at h5
     obtain ⟨p', h6, h7⟩ := h5
     obtain ⟨d', h8, h9⟩ := List.mem_map.1 h7
     rw [tgS, ← h9]; rfl
   rw [z1, z2, z3]; omega
 have p4 : SX X f4 = sumL (tgS ψo) f4 - sumL (tgS ψi) f4 := by
   rw [← sumL_sub]
   refine sumL_congr fun q hq => ?_
   have hm : q.1 ∈ (List.range t.routes.length).flatMap (rtL t) := by rw [← m4]; exact List.mem_map.2 ⟨q, hq, rfl⟩
   rw [List.mem_flatMap] at hm
   obtain ⟨i, h6, h7⟩ := hm
   rw [List.mem_range] at h6
   rw [rtL] at h7
   obtain ⟨e, h8, h9⟩ := List.mem_map.1 h7
   rw [List.mem_range] at h8
   have h10 : t.routes.getD i default = t.routes[i] := by rw [List.getD_eq_getElem?_getD, List.getElem?_eq_getElem h6]; rfl
   have h11 := hT.rt _ (List.getElem_mem h6)
   rw [← h10] at h11
   have k1 := hXn (t.routes.getD i default).fro (e : Int) h11.1 (by omega)
   have k2 := hXn (t.routes.getD i default).til ((e : Int) + (t.routes.getD i default).days) h11.2.1 (by omega)
   have l1 : bI (X q.1.a) = if ψo (i : Int) (e : Int) = true then 1 else 0 := by
     rw [← h9]
     show bI (X (ndI t (t.routes.getD i default).fro (e : Int))) = if decide ((t.routes.getD ((i : Int)).toNat default).fro.toNat = p ∧ ((e : Int)).toNat < d + 1) = true then 1 else 0
     rw [Int.toNat_natCast, Int.toNat_natCast]
     by_cases z : (t.routes.getD i default).fro = (p : Int) ∧ (e : Int) < ((d + 1 : Nat) : Int)
     · rw [bI_t (k1.2 z), if_pos (by rw [decide_eq_true_eq]; omega)]
     · rw [bI_f (fun y => z (k1.1 y)), if_neg (by rw [decide_eq_true_eq]; omega)]
   have l2 : bI (X q.1.b) = if ψi (i : Int) (e : Int) = true then 1 else 0 := by
     rw [← h9]
     show bI (X (ndI t (t.routes.getD i default).til ((e : Int) + (t.routes.getD i default).days))) = if decide ((t.routes.getD ((i : Int)).toNat default).til.toNat = p ∧ ((e : Int) + (t.routes.getD ((i : Int)).toNat default).days).toNat < d + 1) = true then 1 else 0
     rw [Int.toNat_natCast]
     by_cases z : (t.routes.getD i default).til = (p : Int) ∧ (e : Int) + (t.routes.getD i default).days < ((d + 1 : Nat) : Int)
     · rw [bI_t (k2.2 z), if_pos (by rw [decide_eq_true_eq]; omega)]
     · rw [bI_f (fun y => z (k2.1 y)), if_neg (by rw [decide_eq_true_eq]; omega)]
   have l3 : ∀ ψ : Int → Int → Bool, tgS ψ q = if ψ (i : Int) (e : Int) = true then q.2 else 0 := fun ψ => by rw [tgS, ← h9]; rfl
   rw [uX, l1, l2, l3, l3]
   by_cases z1 : ψo (i : Int) (e : Int) = true <;> by_cases z2 : ψi (i : Int) (e : Int) = true <;> simp only [z1, z2, if_true, if_false, Bool.false_eq_true] <;> omega
 have g0 : lvl (spM t.supplies t.supplies.length p) (d + 1) = sumL (fun s : Supply => if decide (s.place.toNat = p ∧ s.day.toNat < d + 1) = true then s.count else 0) t.supplies :=
   tab_lvl (fun s : Supply => s.place.toNat) (fun s => s.day.toNat) fun s hs => aS_iff (hT.sp s hs).1.1 (hT.sp s hs).2.1.1
 have hl : lvB t (tripsL af) p d = lvl (spM t.supplies t.supplies.length p) (d + 1) + lvl (inM t (tripsL af) (tripsL af).length p) (d + 1) - lvl (goM t (tripsL af) (tripsL af).length p) (d + 1) := by
   rw [← lvl_add, ← lvl_sub]; rfl
 rw [hl, g0, g1, g2, zz, zz]
 rw [h2, p2, p4] at h1
 have h1 : SX X f1 + (gP t f2 p (d + 1) + (SX X f3 + (sumL (tgS ψo) f4 - sumL (tgS ψi) f4))) = n * (0 - 0) := h1
 rw [Int.sub_zero, Int.mul_zero] at h1
 omega
end

end Go.Proofs.Ytigdmkhdmbbfiaa
