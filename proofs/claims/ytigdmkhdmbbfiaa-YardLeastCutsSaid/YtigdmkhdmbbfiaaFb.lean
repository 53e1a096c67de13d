/- The network of a traffic; the cut of a set of nodes. No conditions. -/
import Derived.Test.YtigdmkhdmbbfiaaFa
set_option linter.unusedSimpArgs false
set_option linter.unusedVariables false
set_option maxRecDepth 100000
namespace Go.Proofs.Ytigdmkhdmbbfiaa
open Go Go.Pv
/-! ### The network of a traffic -/
structure Arc where
 a : Int
 b : Int
 cap : Int
 tg : Option (Int × Int)
def ndI (t : Traffic) (p d : Int) : Int := p * t.days + d
def ndS (t : Traffic) : Int := t.places * t.days
def ndE (t : Traffic) : Int := t.places * t.days + 1
def allC (t : Traffic) : Int := sumL (·.count) t.supplies
def arS (t : Traffic) (s : Supply) : Arc := ⟨ndS t, ndI t s.place s.day, s.count, none⟩
def arN (t : Traffic) (s : Supply) : Arc := ⟨ndI t s.place s.day, ndE t, s.count, none⟩
def arH (t : Traffic) (p d : Nat) : Arc := ⟨ndI t p d, ndI t p ((d : Int) + 1), allC t + 1, none⟩
def arR (t : Traffic) (i : Nat) (r : Route) (d : Nat) : Arc := ⟨ndI t r.fro d, ndI t r.til ((d : Int) + r.days), r.most, some ((i : Int), (d : Int))⟩
def hldL (t : Traffic) : List Arc := (List.range t.places.toNat).flatMap fun p => (List.range (t.days.toNat - 1)).map (arH t p)
def rtL (t : Traffic) (i : Nat) : List Arc := (List.range (t.days - (t.routes.getD i default).days).toNat).map (arR t i (t.routes.getD i default))
def arcs (t : Traffic) : List Arc := t.supplies.map (arS t) ++ (t.needs.map (arN t) ++ (hldL t ++ (List.range t.routes.length).flatMap (rtL t)))
theorem sumL_range {f : Nat → Int} : ∀ {n : Nat}, sumL f (List.range n) = lvl f n
 | 0 => rfl
 | n + 1 => by rw [List.range_succ, sumL_app, sumL_range, lvl, sumL, sumL]; omega
section
variable {t : Traffic}
theorem pl_nd (hD : 1 ≤ t.days) {p d : Int} (h1 : 0 ≤ d) (h2 : d ≤ t.days - 1) : ndI t p d / t.days = p := by
 rw [ndI, Int.add_comm, Int.add_mul_ediv_right _ _ (by omega), Int.ediv_eq_zero_of_lt h1 (by omega), Int.zero_add]
theorem dy_nd (hD : 1 ≤ t.days) {p d : Int} (h1 : 0 ≤ d) (h2 : d ≤ t.days - 1) : ndI t p d % t.days = d := by
 rw [ndI, Int.add_comm, Int.add_mul_emod_self_right, Int.emod_eq_of_lt h1 (by omega)]
theorem nd_rng (hT : TrOK t) {p d : Int} (hp : 0 ≤ p ∧ p ≤ t.places - 1) (hd : 0 ≤ d ∧ d ≤ t.days - 1) : 0 ≤ ndI t p d ∧ ndI t p d < ndS t := by
 have hB := hT.hB
 have h1 : 0 ≤ p * t.days := Int.mul_nonneg hp.1 (by omega)
 have h2 : p * t.days ≤ (t.places - 1) * t.days := Int.mul_le_mul_of_nonneg_right hp.2 (by omega)
 have h3 : (t.places - 1) * t.days = t.places * t.days - t.days := by rw [Int.sub_mul, Int.one_mul]
 rw [ndI, ndS]; omega
theorem ar_cases {a : Arc} (ha : a ∈ arcs t) : (∃ s ∈ t.supplies, a = arS t s) ∨ (∃ s ∈ t.needs, a = arN t s) ∨ (∃ p d : Nat, p < t.places.toNat ∧ d + 1 < t.days.toNat ∧ a = arH t p d) ∨ (∃ (i d : Nat) (r : Route), t.routes[i]? = some r ∧ (d : Int) + r.days < t.days ∧ a = arR t i r d) := by
 rw [arcs, List.mem_append, List.mem_append, List.mem_append, List.mem_map, List.mem_map, hldL, List.mem_flatMap, List.mem_flatMap] at ha
 rcases ha with ⟨s, h1, rfl⟩ | ⟨s, h1, rfl⟩ | ⟨p, h1, h2⟩ | ⟨i, h1, h2⟩
 · exact .inl ⟨s, h1, rfl⟩
 · exact .inr (.inl ⟨s, h1, rfl⟩)
 · obtain ⟨d, h3, rfl⟩ := List.mem_map.1 h2
   rw [List.mem_range] at h1 h3
   exact .inr (.inr (.inl ⟨p, d, h1, by omega, rfl⟩))
 · rw [rtL] at h2
   obtain ⟨d, h3, rfl⟩ := List.mem_map.1 h2
   rw [List.mem_range] at h1 h3
   have h4 : t.routes[i]? = some t.routes[i] := List.getElem?_eq_getElem h1
   have h5 : t.routes.getD i default = t.routes[i] := by rw [List.getD_eq_getElem?_getD, h4]; rfl
   rw [h5] at h3 ⊢
   exact .inr (.inr (.inr ⟨i, d, _, h4, by omega, rfl⟩))
theorem hld_mem {p d : Nat} (hp : p < t.places.toNat) (hd : d + 1 < t.days.toNat) : arH t p d ∈ arcs t := by
 rw [arcs, List.mem_append, List.mem_append, List.mem_append, hldL, List.mem_flatMap]
 exact .inr (.inr (.inl ⟨p, List.mem_range.2 hp, List.mem_map.2 ⟨d, List.mem_range.2 (by omega), rfl⟩⟩))
/-- The ends of an arc. -/
theorem ar_ends (hT : TrOK t) {a : Arc} (ha : a ∈ arcs t) : (0 ≤ a.a ∧ a.a ≤ ndE t) ∧ (0 ≤ a.b ∧ a.b ≤ ndE t) ∧ a.a ≠ a.b ∧ 0 ≤ a.cap ∧ a.cap ≤ allC t + 1000000 := by
 have hA := hT.hA; have hB := hT.hB
 have h0 : 0 ≤ ndS t := Int.mul_nonneg (by omega) (by omega)
 have h00 : ndE t = ndS t + 1 := rfl
 have hal : 0 ≤ allC t := sumL_nn fun s hs => (hT.sp s hs).2.2.1
 rcases ar_cases ha with ⟨s, h1, rfl⟩ | ⟨s, h1, rfl⟩ | ⟨p, d, h1, h2, rfl⟩ | ⟨i, d, r, h1, h2, rfl⟩
 · have h3 := hT.sp s h1
   have h4 := nd_rng hT h3.1 h3.2.1
   simp only [arS]; omega
 · have h3 := hT.nd s h1
   have h4 := nd_rng hT h3.1 h3.2.1
   simp only [arN]; omega
 · have h4 := nd_rng hT (p := (p : Int)) (d := (d : Int)) (by omega) (by omega)
   have h5 := nd_rng hT (p := (p : Int)) (d := (d : Int) + 1) (by omega) (by omega)
   simp only [arH]
   refine ⟨by omega, by omega, ?_, by omega, by omega⟩
   rw [ndI, ndI]; omega
 · have h3 := hT.rt r (List.mem_of_getElem? h1)
   have h4 := nd_rng hT (p := r.fro) (d := (d : Int)) h3.1 (by omega)
   have h5 := nd_rng hT (p := r.til) (d := (d : Int) + r.days) h3.2.1 (by omega)
   simp only [arR]
   refine ⟨by omega, by omega, fun q => ?_, by omega, by omega⟩
   have h6 : ndI t r.fro (d : Int) / t.days = ndI t r.til ((d : Int) + r.days) / t.days := congrArg (fun z => z / t.days) q
   rw [pl_nd (by omega) (by omega) (by omega), pl_nd (by omega) (by omega) (by omega)] at h6
   exact h3.2.2.1 h6
end
def bI (b : Bool) : Int := if b = true then 1 else 0
theorem bI_t {b : Bool} (h : b = true) : bI b = 1 := if_pos h
theorem bI_f {b : Bool} (h : ¬ b = true) : bI b = 0 := if_neg h
/-- What an arc takes out of a set of nodes. -/
def uX (X : Int → Bool) (a : Arc) : Int := bI (X a.a) - bI (X a.b)
def SX (X : Int → Bool) (af : List (Arc × Int)) : Int := sumL (fun q => q.2 * uX X q.1) af
structure Flow (t : Traffic) (af : List (Arc × Int)) (n : Int) : Prop where
 ar : af.map (·.1) = arcs t
 cap : ∀ q ∈ af, 0 ≤ q.2 ∧ q.2 ≤ q.1.cap
 ex : ∀ v : Int, SX (fun u => decide (u = v)) af = n * (bI (decide (ndS t = v)) - bI (decide (ndE t = v)))
section
variable {t : Traffic} {af : List (Arc × Int)} {n : Int} {X R : Int → Bool}
theorem Flow.mem (hF : Flow t af n) {q : Arc × Int} (hq : q ∈ af) : q.1 ∈ arcs t := by
 rw [← hF.ar]; exact List.mem_map.2 ⟨q, hq, rfl⟩
theorem lvl_pick {x : Int} {N : Nat} (h0 : 0 ≤ x) (hN : x < (N : Int)) : lvl (fun v => if X (v : Int) = true then bI (decide (x = (v : Int))) else 0) N = bI (X x) := by
 have h1 : lvl (fun v => if X (v : Int) = true then bI (decide (x = (v : Int))) else 0) N = lvl (fun v => if v = x.toNat then bI (X x) else 0) N := lvl_congr fun v _ => by
   by_cases e : v = x.toNat
   · subst e
     rw [Int.toNat_of_nonneg h0, if_pos rfl]
     by_cases z : X x = true <;> simp [bI, z]
   · rw [if_neg e, bI_f (b := decide (x = (v : Int))) (by simp only [decide_eq_true_eq]; omega)]
     split <;> rfl
 rw [h1, lvl_ind, if_pos (by omega)]
theorem lvl_mul {f : Nat → Int} {c : Int} : ∀ {N : Nat}, lvl (fun i => c * f i) N = c * lvl f N
 | 0 => by rw [lvl, lvl, Int.mul_zero]
 | N + 1 => by rw [lvl, lvl, lvl_mul, Int.mul_add]
/-- What a set of nodes gives. -/
theorem Flow.set (hF : Flow t af n) (hT : TrOK t) : SX X af = n * (bI (X (ndS t)) - bI (X (ndE t))) := by
 have hA := hT.hA; have hB := hT.hB
 have h0 : 0 ≤ ndS t := Int.mul_nonneg (by omega) (by omega)
 have h00 : ndE t = ndS t + 1 := rfl
 have h1 : SX X af = lvl (fun v => if X (v : Int) = true then SX (fun u => decide (u = (v : Int))) af else 0) ((ndE t).toNat + 1) := by
   have h2 : ∀ v : Nat, (if X (v : Int) = true then SX (fun u => decide (u = (v : Int))) af else 0) = sumL (fun q => q.2 * (if X (v : Int) = true then uX (fun u => decide (u = (v : Int))) q.1 else 0)) af := fun v => by
     by_cases e : X (v : Int) = true
     · rw [if_pos e]; exact sumL_congr fun q _ => by rw [if_pos e]
     · rw [if_neg e]; exact (sumL_z fun q _ => by rw [if_neg e, Int.mul_zero]).symm
   rw [lvl_congr fun v _ => h2 v, lvl_sum]
   refine sumL_congr fun q hq => ?_
   have h3 := ar_ends hT (hF.mem hq)
   rw [lvl_mul]
   congr 1
   have h4 : ∀ v : Nat, (if X (v : Int) = true then uX (fun u => decide (u = (v : Int))) q.1 else 0) = (if X (v : Int) = true then bI (decide (q.1.a = (v : Int))) else 0) - (if X (v : Int) = true then bI (decide (q.1.b = (v : Int))) else 0) := fun v => by
     split <;> rfl
   rw [lvl_congr fun v _ => h4 v, lvl_sub, lvl_pick (by omega) (by omega), lvl_pick (by omega) (by omega), uX]
 have h5 : ∀ v : Nat, (if X (v : Int) = true then SX (fun u => decide (u = (v : Int))) af else 0) = n * ((if X (v : Int) = true then bI (decide (ndS t = (v : Int))) else 0) - (if X (v : Int) = true then bI (decide (ndE t = (v : Int))) else 0)) := fun v => by
   by_cases e : X (v : Int) = true
   · rw [if_pos e, if_pos e, if_pos e, hF.ex]
   · rw [if_neg e, if_neg e, if_neg e]; simp
 rw [h1, lvl_congr fun v _ => h5 v, lvl_mul, lvl_sub, lvl_pick h0 (by omega), lvl_pick (by omega) (by omega)]
theorem bI_b (b : Bool) : 0 ≤ bI b ∧ bI b ≤ 1 := by rw [bI]; split <;> omega
/-- The flow in its four parts. -/
theorem Flow.split (hF : Flow t af n) : ∃ f1 f2 f3 f4, af = f1 ++ (f2 ++ (f3 ++ f4)) ∧ f1.map (·.1) = t.supplies.map (arS t) ∧ f2.map (·.1) = t.needs.map (arN t) ∧ f3.map (·.1) = hldL t ∧ f4.map (·.1) = (List.range t.routes.length).flatMap (rtL t) := by
 obtain ⟨f1, g1, h1, h2, h3⟩ := List.map_eq_append_iff.1 hF.ar
 obtain ⟨f2, g2, h4, h5, h6⟩ := List.map_eq_append_iff.1 h3
 obtain ⟨f3, f4, h7, h8, h9⟩ := List.map_eq_append_iff.1 h6
 exact ⟨f1, f2, f3, f4, by rw [h1, h4, h7], h2, h5, h8, h9⟩
theorem of_map {β : Type} {f : List (Arc × Int)} {h : β → Arc} {l : List β} (hm : f.map (·.1) = l.map h) {q : Arc × Int} (hq : q ∈ f) : ∃ x ∈ l, q.1 = h x := by
 have h1 : q.1 ∈ f.map (·.1) := List.mem_map.2 ⟨q, hq, rfl⟩
 rw [hm] at h1
 obtain ⟨x, h2, h3⟩ := List.mem_map.1 h1
 exact ⟨x, h2, h3.symm⟩
theorem sum_fst {f : List (Arc × Int)} {F : Arc → Int} : sumL (fun q => F q.1) f = sumL F (f.map (·.1)) := by rw [sumL_map]
/-- No more flows than all supplies. -/
theorem Flow.all (hF : Flow t af n) (hT : TrOK t) : n ≤ allC t := by
 have hA := hT.hA; have hB := hT.hB
 have h0 : 0 ≤ ndS t := Int.mul_nonneg (by omega) (by omega)
 have h1 := hF.set hT (X := fun u => decide (u = ndS t))
 have h00 : ndE t = ndS t + 1 := rfl
 rw [bI_t (by simp), bI_f (by simp only [decide_eq_true_eq]; omega)] at h1
 have h2 : SX (fun u => decide (u = ndS t)) af ≤ sumL (fun q => (fun a : Arc => if a.a = ndS t then a.cap else 0) q.1) af := by
   refine sumL_le fun q hq => ?_
   have h3 := hF.cap q hq
   have h4 := bI_b (decide (q.1.b = ndS t))
   have h5 := ar_ends hT (hF.mem hq)
   rw [uX]
   simp only
   by_cases e : q.1.a = ndS t
   · have h6 : ¬ q.1.b = ndS t := fun h => h5.2.2.1 (e.trans h.symm)
     rw [bI_t (decide_eq_true e), bI_f (by simpa using h6), if_pos e]; omega
   · rw [bI_f (by simpa using e), if_neg e]
     rw [Int.zero_sub, Int.mul_neg]
     have h7 : 0 ≤ q.2 * bI (decide (q.1.b = ndS t)) := Int.mul_nonneg h3.1 h4.1
     omega
 have h3 : sumL (fun q => (fun a : Arc => if a.a = ndS t then a.cap else 0) q.1) af = allC t := by
   refine (sum_fst (F := fun a : Arc => if a.a = ndS t then a.cap else 0)).trans ?_
   rw [hF.ar, arcs, sumL_app, sumL_app, sumL_app, sumL_map, sumL_map]
   have e1 : sumL (fun s => if (arS t s).a = ndS t then (arS t s).cap else 0) t.supplies = allC t := sumL_congr fun s _ => if_pos rfl
   have e2 : sumL (fun s => if (arN t s).a = ndS t then (arN t s).cap else 0) t.needs = 0 := sumL_z fun s hs => if_neg (by have h3 := hT.nd s hs; have := nd_rng hT h3.1 h3.2.1; simp only [arN]; omega)
   have e3 : sumL (fun a : Arc => if a.a = ndS t then a.cap else 0) (hldL t) = 0 := sumL_z fun a ha => by
     rw [hldL, List.mem_flatMap] at ha
     obtain ⟨p, h4, h5⟩ := ha
     obtain ⟨d, h6, rfl⟩ := List.mem_map.1 h5
     rw [List.mem_range] at h4 h6
     have := nd_rng hT (p := (p : Int)) (d := (d : Int)) (by omega) (by omega)
     exact if_neg (by simp only [arH]; omega)
   have e4 : sumL (fun a : Arc => if a.a = ndS t then a.cap else 0) ((List.range t.routes.length).flatMap (rtL t)) = 0 := sumL_z fun a ha => by
     have hm : a ∈ arcs t := by rw [arcs, List.mem_append, List.mem_append, List.mem_append]; exact .inr (.inr (.inr ha))
     rw [List.mem_flatMap] at ha
     obtain ⟨i, h4, h5⟩ := ha
     rw [rtL] at h5
     obtain ⟨d, h6, rfl⟩ := List.mem_map.1 h5
     rw [List.mem_range] at h4 h6
     have h7 : t.routes.getD i default = t.routes[i] := by rw [List.getD_eq_getElem?_getD, List.getElem?_eq_getElem h4]; rfl
     have h8 := hT.rt _ (List.getElem_mem h4)
     rw [h7] at h6 ⊢
     have := nd_rng hT (p := t.routes[i].fro) (d := (d : Int)) h8.1 (by omega)
     exact if_neg (by simp only [arR]; omega)
   rw [e1, e2, e3, e4]; omega
 omega
/-- What is held over a night is no more than what flows in all. -/
theorem Flow.hold (hF : Flow t af n) (hT : TrOK t) {q : Arc × Int} (hq : q ∈ af) {p d : Nat} (hp : p < t.places.toNat) (hd : d + 1 < t.days.toNat) (he : q.1 = arH t p d) : q.2 ≤ n := by
 have hA := hT.hA; have hB := hT.hB
 have h0 : 0 ≤ ndS t := Int.mul_nonneg (by omega) (by omega)
 have h00 : ndE t = ndS t + 1 := rfl
 let X : Int → Bool := fun v => decide (v = ndS t ∨ (v < ndS t ∧ v % t.days ≤ (d : Int)))
 have hX : ∀ v, X v = true ↔ v = ndS t ∨ (v < ndS t ∧ v % t.days ≤ (d : Int)) := fun v => decide_eq_true_iff
 have h1 := hF.set hT (X := X)
 rw [bI_t ((hX _).2 (.inl rfl)), bI_f (by rw [hX]; omega)] at h1
 have hn : ∀ q ∈ af, 0 ≤ q.2 * uX X q.1 := fun q hq => by
   refine Int.mul_nonneg (hF.cap q hq).1 ?_
   have hb := bI_b (X q.1.a); have hc := bI_b (X q.1.b)
   have key : X q.1.b = true → X q.1.a = true := fun hxb => by
     rw [hX] at hxb ⊢
     rcases ar_cases (hF.mem hq) with ⟨s, h1, e⟩ | ⟨s, h1, e⟩ | ⟨p, d, h1, h2, e⟩ | ⟨i, d, r, h1, h2, e⟩
     · left; rw [e]; rfl
     · rw [e] at hxb; simp only [arN] at hxb; omega
     · rw [e] at hxb ⊢
       have g1 := nd_rng hT (p := (p : Int)) (d := (d : Int)) (by omega) (by omega)
       have g2 := nd_rng hT (p := (p : Int)) (d := (d : Int) + 1) (by omega) (by omega)
       simp only [arH] at hxb ⊢
       rw [dy_nd (by omega) (by omega) (by omega)] at hxb
       rw [dy_nd (by omega) (by omega) (by omega)]
       omega
     · rw [e] at hxb ⊢
       have h3 := hT.rt r (List.mem_of_getElem? h1)
       have g1 := nd_rng hT (p := r.fro) (d := (d : Int)) h3.1 (by omega)
       have g2 := nd_rng hT (p := r.til) (d := (d : Int) + r.days) h3.2.1 (by omega)
       simp only [arR] at hxb ⊢
       rw [dy_nd (by omega) (by omega) (by omega)] at hxb
       rw [dy_nd (by omega) (by omega) (by omega)]
       omega
   rw [uX]
   by_cases e : X q.1.b = true
   · rw [bI_t (key e)]; omega
   · rw [bI_f e]; omega
 have h2 : q.2 * uX X q.1 ≤ SX X af := sumL_mem hn hq
 have g1 := nd_rng hT (p := (p : Int)) (d := (d : Int)) (by omega) (by omega)
 have g2 := nd_rng hT (p := (p : Int)) (d := (d : Int) + 1) (by omega) (by omega)
 have h3 : uX X q.1 = 1 := by
   rw [uX, he]
   simp only [arH]
   rw [bI_t ((hX _).2 (.inr ⟨g1.2, by rw [dy_nd (by omega) (by omega) (by omega)]; omega⟩)), bI_f (by rw [hX, dy_nd (by omega) (by omega) (by omega)]; omega)]; rfl
 rw [h3] at h2; omega
/-! ### The cut of a set of nodes -/
def cutL (t : Traffic) (R : Int → Bool) : List At := (List.range t.places.toNat).flatMap fun p : Nat => ((List.range t.days.toNat).filter fun d : Nat => R (ndI t p d)).map fun d : Nat => ⟨(p : Int), (d : Int)⟩
theorem cut_mem {a b : Int} : (⟨a, b⟩ : At) ∈ cutL t R ↔ (0 ≤ a ∧ a < t.places) ∧ (0 ≤ b ∧ b < t.days) ∧ R (ndI t a b) = true := by
 rw [cutL, List.mem_flatMap]
 constructor
 · rintro ⟨p, h1, h2⟩
   obtain ⟨d, h3, h4⟩ := List.mem_map.1 h2
   rw [List.mem_filter, List.mem_range] at h3
   rw [List.mem_range] at h1
   cases h4
   exact ⟨by omega, by omega, h3.2⟩
 · rintro ⟨h1, h2, h3⟩
   refine ⟨a.toNat, List.mem_range.2 (by omega), List.mem_map.2 ⟨b.toNat, List.mem_filter.2 ⟨List.mem_range.2 (by omega), ?_⟩, ?_⟩⟩
   · rw [Int.toNat_of_nonneg h1.1, Int.toNat_of_nonneg h2.1]; exact h3
   · rw [Int.toNat_of_nonneg h1.1, Int.toNat_of_nonneg h2.1]
theorem cut_sorted : (cutL t R).Pairwise atLt := by
 rw [cutL, List.pairwise_flatMap]
 refine ⟨fun p _ => ?_, ?_⟩
 · rw [List.pairwise_map]
   refine List.Pairwise.filter _ ?_
   exact List.Pairwise.imp (fun {a b} hab => .inr ⟨rfl, by show (a : Int) < (b : Int); omega⟩) List.pairwise_lt_range
 · refine List.Pairwise.imp (fun {a b} hab x hx y hy => ?_) List.pairwise_lt_range
   obtain ⟨d, _, rfl⟩ := List.mem_map.1 hx
   obtain ⟨e, _, rfl⟩ := List.mem_map.1 hy
   exact .inl (by show (a : Int) < (b : Int); omega)
theorem cut_E : cutE t (cutL t R) = 0 := by
 refine ct_no (k := (cutL t R).length) (fun i hi => ?_) (Nat.le_refl _)
 have hx : (cutL t R)[i]? = some (cutL t R)[i] := List.getElem?_eq_getElem hi
 have hin : atIn t (cutL t R)[i] := by
   have h1 := cut_mem.1 (show (⟨((cutL t R)[i]).a0, ((cutL t R)[i]).a1⟩ : At) ∈ cutL t R from List.getElem_mem hi)
   exact ⟨by omega, by omega⟩
 rw [ct_at hx, if_neg (fun q => q hin), if_neg]
 rintro ⟨h1, h2⟩
 refine h2 ?_
 rw [List.getD_eq_getElem?_getD, List.getElem?_eq_getElem (by omega)]
 exact List.pairwise_iff_getElem.1 cut_sorted (i - 1) i (by omega) hi (by omega)
theorem cut_len (hT : TrOK t) : (cutL t R).length ≤ 160 := by
 have h1 : ∀ l : List Nat, (l.flatMap fun p : Nat => ((List.range t.days.toNat).filter fun d : Nat => R (ndI t p d)).map fun d : Nat => (⟨(p : Int), (d : Int)⟩ : At)).length ≤ l.length * 20 := fun l => by
   induction l with
   | nil => simp
   | cons x l ih =>
     rw [List.flatMap_cons, List.length_append, List.length_map, List.length_cons]
     have h2 := List.length_filter_le (fun d : Nat => R (ndI t x d)) (List.range t.days.toNat)
     rw [List.length_range] at h2
     have := hT.hB; omega
 have h2 := h1 (List.range t.places.toNat)
 rw [List.length_range] at h2
 have := hT.hA
 rw [cutL]; omega
theorem Flow.cut (hF : Flow t af n) (hT : TrOK t) (hS : R (ndS t) = true) (hE : R (ndE t) = false) (hcl : ∀ q ∈ af, (R q.1.a = true → R q.1.b = false → q.2 = q.1.cap) ∧ (R q.1.a = false → R q.1.b = true → q.2 = 0)) : cutV t (cutL t R) = (n, 0) := by
 have hA := hT.hA; have hB := hT.hB
 have hup : ∀ p d : Nat, p < t.places.toNat → d + 1 < t.days.toNat → R (ndI t p d) = true → R (ndI t p ((d : Int) + 1)) = true := fun p d hp hd h => by
   have h1 := hld_mem (t := t) hp hd
   rw [← hF.ar] at h1
   obtain ⟨q, h2, h3⟩ := List.mem_map.1 h1
   have h4 := hF.hold hT h2 hp hd h3
   have h5 := hF.all hT
   cases h6 : R (ndI t p ((d : Int) + 1)) with
   | true => rfl
   | false =>
     have h7 := (hcl q h2).1 (by rw [h3]; exact h) (by rw [h3]; exact h6)
     rw [h3] at h7; simp only [arH] at h7; omega
 have hgap : (cutL t R).any (gapB t (cutL t R)) = false := by
   rw [List.any_eq_false]
   rintro ⟨a, b⟩ hx
   have h1 := cut_mem.1 hx
   rw [gapB]
   simp only [Bool.and_eq_true, decide_eq_true_eq, Bool.not_eq_true', decide_eq_false_iff_not, not_and, Decidable.not_not]
   intro h2
   refine cut_mem.2 ⟨h1.1, by omega, ?_⟩
   have h3 := hup a.toNat b.toNat (by omega) (by omega) (by rw [Int.toNat_of_nonneg h1.1.1, Int.toNat_of_nonneg h1.2.1.1]; exact h1.2.2)
   rwa [Int.toNat_of_nonneg h1.1.1, Int.toNat_of_nonneg h1.2.1.1] at h3
 rw [cv_0 cut_E hgap]
 congr 1
 have h1 := hF.set hT (X := R)
 rw [bI_t hS, bI_f (by rw [hE]; decide)] at h1
 have h2 : SX R af = sumL (fun q => (fun a : Arc => if R a.a = true ∧ R a.b = false then a.cap else 0) q.1) af := by
   refine sumL_congr fun q hq => ?_
   have h3 := hcl q hq
   simp only
   rw [uX]
   cases ha : R q.1.a <;> cases hb : R q.1.b
   · simp [bI]
   · rw [h3.2 ha hb]; simp
   · rw [h3.1 ha hb]; simp [bI]
   · simp [bI]
 have hmem : ∀ a b : Int, 0 ≤ a ∧ a ≤ t.places - 1 → 0 ≤ b ∧ b ≤ t.days - 1 → ((⟨a, b⟩ : At) ∈ cutL t R ↔ R (ndI t a b) = true) := fun a b h1 h2 => by
   rw [cut_mem]; exact ⟨fun q => q.2.2, fun q => ⟨by omega, by omega, q⟩⟩
 have h3 : cutS t (cutL t R) = sumL (supC (cutL t R)) t.supplies + sumL (needC (cutL t R)) t.needs + sumL (rtC t (cutL t R)) t.routes := by rw [cutS, sumL_cap, sumL_cap, sumL_cap]
 rw [h3]
 have e1 : sumL (fun s => if R (arS t s).a = true ∧ R (arS t s).b = false then (arS t s).cap else 0) t.supplies = sumL (supC (cutL t R)) t.supplies := sumL_congr fun s hs => by
   have h5 := hT.sp s hs
   rw [supC]
   simp only [hmem s.place s.day h5.1 h5.2.1, arS, hS]
   by_cases z1 : R (ndI t s.place s.day) = true <;> simp [z1]
 have e2 : sumL (fun s => if R (arN t s).a = true ∧ R (arN t s).b = false then (arN t s).cap else 0) t.needs = sumL (needC (cutL t R)) t.needs := sumL_congr fun s hs => by
   have h5 := hT.nd s hs
   rw [needC]
   simp only [hmem s.place s.day h5.1 h5.2.1, arN, hE]
   by_cases z1 : R (ndI t s.place s.day) = true <;> simp [z1]
 have e3 : sumL (fun a : Arc => if R a.a = true ∧ R a.b = false then a.cap else 0) (hldL t) = 0 := sumL_z fun a ha => by
   rw [hldL, List.mem_flatMap] at ha
   obtain ⟨p, h4, h5⟩ := ha
   obtain ⟨d, h6, rfl⟩ := List.mem_map.1 h5
   rw [List.mem_range] at h4 h6
   refine if_neg ?_
   rintro ⟨q1, q2⟩
   have := hup p d h4 (by omega) q1
   simp only [arH] at q2
   rw [this] at q2; cases q2
 have e4 : sumL (fun a : Arc => if R a.a = true ∧ R a.b = false then a.cap else 0) ((List.range t.routes.length).flatMap (rtL t)) = sumL (rtC t (cutL t R)) t.routes := by
   rw [sumL_flat, sumL_range, ← lvl_list]
   refine lvl_congr fun i hi => ?_
   have h7 : t.routes.getD i default = t.routes[i] := by rw [List.getD_eq_getElem?_getD, List.getElem?_eq_getElem hi]; rfl
   have h8 := hT.rt _ (List.getElem_mem hi)
   rw [rtL, h7, sumL_map, sumL_range, rtC, rt_sum]
   refine lvl_congr fun d hd => ?_
   rw [dayC]
   simp only [hmem t.routes[i].fro d h8.1 (by omega), hmem t.routes[i].til ((d : Int) + t.routes[i].days) h8.2.1 (by omega), arR]
   by_cases z1 : R (ndI t t.routes[i].fro d) = true <;> by_cases z2 : R (ndI t t.routes[i].til ((d : Int) + t.routes[i].days)) = true <;> simp [z1, z2]
 have h2 := h2.trans (sum_fst (F := fun a : Arc => if R a.a = true ∧ R a.b = false then a.cap else 0))
 rw [hF.ar, arcs, sumL_app, sumL_app, sumL_app, sumL_map, sumL_map, e1, e2, e3, e4] at h2
 omega
end

end Go.Proofs.Ytigdmkhdmbbfiaa
