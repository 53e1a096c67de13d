/- The network of a traffic; the cut of a set of nodes. No conditions. -/
import Derived.Test.YtigdmkhdmbbfiaaFa
set_option linter.unusedSimpArgs false
set_option linter.unusedVariables false
set_option maxRecDepth 100000
namespace Go.Proofs.Ytigdmkhdmbbfiaa
open Go Go.Pv
/-! ### The network of a traffic -/
structure Arc where
 a : Int
 b : Int
 cap : Int
 tg : Option (Int × Int)
def ndI (t : Traffic) (p d : Int) : Int := p * t.days + d
def ndS (t : Traffic) : Int := t.places * t.days
def ndE (t : Traffic) : Int := t.places * t.days + 1
def allC (t : Traffic) : Int := sumL (·.count) t.supplies
def arS (t : Traffic) (s : Supply) : Arc := ⟨ndS t, ndI t s.place s.day, s.count, none⟩
def arN (t : Traffic) (s : Supply) : Arc := ⟨ndI t s.place s.day, ndE t, s.count, none⟩
def arH (t : Traffic) (p d : Nat) : Arc := ⟨ndI t p d, ndI t p ((d : Int) + 1), allC t + 1, none⟩
def arR (t : Traffic) (i : Nat) (r : Route) (d : Nat) : Arc := ⟨ndI t r.fro d, ndI t r.til ((d : Int) + r.days), r.most, some ((i : Int), (d : Int))⟩
def hldL (t : Traffic) : List Arc := (List.range t.places.toNat).flatMap fun p => (List.range (t.days.toNat - 1)).map (arH t p)
def rtL (t : Traffic) (i : Nat) : List Arc := (List.range (t.days - (t.routes.getD i default).days).toNat).map (arR t i (t.routes.getD i default))
def arcs (t : Traffic) : List Arc := t.supplies.map (arS t) ++ (t.needs.map (arN t) ++ (hldL t ++ (List.range t.routes.length).flatMap (rtL t)))
theorem sumL_range {f : Nat → Int} : ∀ {n : Nat}, sumL f (List.range n) = lvl f n
 | 0 => rfl
 | n + 1 => by rw [List.range_succ, sumL_app, sumL_range, lvl, sumL, sumL]; omega
section
variable {t : Traffic}
theorem pl_nd (hD : 1 ≤ t.days) {p d : Int} (h1 : 0 ≤ d) (h2 : d ≤ t.days - 1) : ndI t p d / t.days = p := by
 rw [ndI, Int.add_comm, Int.add_mul_ediv_right _ _ (by omega), Int.ediv_eq_zero_of_lt h1 (by omega), Int.zero_add]
theorem dy_nd (hD : 1 ≤ t.days) {p d : Int} (h1 : 0 ≤ d) (h2 : d ≤ t.days - 1) : ndI t p d % t.days = d := by
 rw [ndI, Int.add_comm, Int.add_mul_emod_self_right, Int.emod_eq_of_lt h1 (by omega)]
theorem nd_rng (hT : TrOK t) {p d : Int} (hp : 0 ≤ p ∧ p ≤ t.places - 1) (hd : 0 ≤ d ∧ d ≤ t.days - 1) : 0 ≤ ndI t p d ∧ ndI t p d < ndS t := by
 have hB := hT.hB
 have h1 : 0 ≤ p * t.days := Int.mul_nonneg hp.1 (by omega)
 have h2 : p * t.days ≤ (t.places - 1) * t.days := Int.mul_le_mul_of_nonneg_right hp.2 (by omega)
 have h3 : (t.places - 1) * t.days = t.places * t.days - t.days := by rw [Int.sub_mul, Int.one_mul]
 rw [ndI, ndS]; omega
theorem ar_cases {a : Arc} (ha : a ∈ arcs t) : (∃ s ∈ t.supplies, a = arS t s) ∨ (∃ s ∈ t.needs, a = arN t s) ∨ (∃ p d : Nat, p < t.places.toNat ∧ d + 1 < t.days.toNat ∧ a = arH t p d) ∨ (∃ (i d : Nat) (r : Route), t.routes[i]? = some r ∧ (d : Int) + r.days < t.days ∧ a = arR t i r d) := by
 rw [arcs, List.mem_append, List.mem_append, List.mem_append, List.mem_map, List.mem_map, hldL, List.mem_flatMap, List.mem_flatMap] at ha
 rcases ha with ⟨s, h1, rfl⟩ | ⟨s, h1, rfl⟩ | ⟨p, h1, h2⟩ | ⟨i, h1, h2⟩
 · exact .inl ⟨s, h1, rfl⟩
 · exact .inr (.inl ⟨s, h1, rfl⟩)
 · obtain ⟨d, h3, rfl⟩ := List.mem_map.1 h2
   rw [List.mem_range] at h1 h3
   exact .inr (.inr (.inl ⟨p, d, h1, by omega, rfl⟩))
 · rw [rtL] at h2
   obtain ⟨d, h3, rfl⟩ := List.mem_map.1 h2
   rw [List.mem_range] at h1 h3
   have h4 : t.routes[i]? = some t.routes[i] := List.getElem?_eq_getElem h1
   have h5 : t.routes.getD i default = t.routes[i] := by rw [List.getD_eq_getElem?_getD, h4]; rfl
   rw [h5] at h3 ⊢
   exact .inr (.inr (.inr ⟨i, d, _, h4, by omega, rfl⟩))
/-- The ends of an arc. -/
theorem ar_ends (hT : TrOK t) {a : Arc} (ha : a ∈ arcs t) : (0 ≤ a.a ∧ a.a ≤ ndE t) ∧ (0 ≤ a.b ∧ a.b ≤ ndE t) ∧ a.a ≠ a.b ∧ 0 ≤ a.cap ∧ a.cap ≤ allC t + 1000000 := by
 have hA := hT.hA; have hB := hT.hB
 have h0 : 0 ≤ ndS t := Int.mul_nonneg (by omega) (by omega)
 have h00 : ndE t = ndS t + 1 := rfl
 have hal : 0 ≤ allC t := sumL_nn fun s hs => (hT.sp s hs).2.2.1
 rcases ar_cases ha with ⟨s, h1, rfl⟩ | ⟨s, h1, rfl⟩ | ⟨p, d, h1, h2, rfl⟩ | ⟨i, d, r, h1, h2, rfl⟩
 · have h3 := hT.sp s h1
   have h4 := nd_rng hT h3.1 h3.2.1
   simp only [arS]; omega
 · have h3 := hT.nd s h1
   have h4 := nd_rng hT h3.1 h3.2.1
   simp only [arN]; omega
 · have h4 := nd_rng hT (p := (p : Int)) (d := (d : Int)) (by omega) (by omega)
   have h5 := nd_rng hT (p := (p : Int)) (d := (d : Int) + 1) (by omega) (by omega)
   simp only [arH]
   refine ⟨by omega, by omega, ?_, by omega, by omega⟩
   rw [ndI, ndI]; omega
 · have h3 := hT.rt r (List.mem_of_getElem? h1)
   have h4 := nd_rng hT (p := r.fro) (d := (d : Int)) h3.1 (by omega)
   have h5 := nd_rng hT (p := r.til) (d := (d : Int) + r.days) h3.2.1 (by omega)
   simp only [arR]
   refine ⟨by omega, by omega, fun q => ?_, by omega, by omega⟩
   have h6 : ndI t r.fro (d : Int) / t.days = ndI t r.til ((d : Int) + r.days) / t.days := congrArg (fun z => z / t.days) q
   rw [pl_nd (by omega) (by omega) (by omega), pl_nd (by omega) (by omega) (by omega)] at h6
   exact h3.2.2.1 h6
end
def bI (b : Bool) : Int := if b = true then 1 else 0
theorem bI_t {b : Bool} (h : b = true) : bI b = 1 := if_pos h
theorem bI_f {b : Bool} (h : ¬ b = true) : bI b = 0 := if_neg h
/-- What an arc takes out of a set of nodes. -/
def uX (X : Int → Bool) (a : Arc) : Int := bI (X a.a) - bI (X a.b)
def SX (X : Int → Bool) (af : List (Arc × Int)) : Int := sumL (fun q => q.2 * uX X q.1) af
structure Flow (t : Traffic) (af : List (Arc × Int)) (n : Int) : Prop where
 ar : af.map (·.1) = arcs t
 cap : ∀ q ∈ af, 0 ≤ q.2 ∧ q.2 ≤ q.1.cap
 ex : ∀ v : Int, SX (fun u => decide (u = v)) af = n * (bI (decide (ndS t = v)) - bI (decide (ndE t = v)))
section
variable {t : Traffic} {af : List (Arc × Int)} {n : Int} {X R : Int → Bool}
theorem Flow.mem (hF : Flow t af n) {q : Arc × Int} (hq : q ∈ af) : q.1 ∈ arcs t := by
 rw [← hF.ar]; exact List.mem_map.2 ⟨q, hq, rfl⟩
theorem lvl_pick {x : Int} {N : Nat} (h0 : 0 ≤ x) (hN : x < (N : Int)) : lvl (fun v => if X (v : Int) = true then bI (decide (x = (v : Int))) else 0) N = bI (X x) := by
 have h1 : lvl (fun v => if X (v : Int) = true then bI (decide (x = (v : Int))) else 0) N = lvl (fun v => if v = x.toNat then bI (X x) else 0) N := lvl_congr fun v _ => by
   by_cases e : v = x.toNat
   · subst e
     rw [Int.toNat_of_nonneg h0, if_pos rfl]
     by_cases z : X x = true <;> simp [bI, z]
   · rw [if_neg e, bI_f (b := decide (x = (v : Int))) (by simp only [decide_eq_true_eq]; omega)]
     split <;> rfl
 rw [h1, lvl_ind, if_pos (by omega)]
theorem lvl_mul {f : Nat → Int} {c : Int} : ∀ {N : Nat}, lvl (fun i => c * f i) N = c * lvl f N
 | 0 => by rw [lvl, lvl, Int.mul_zero]
 | N + 1 => by rw [lvl, lvl, lvl_mul, Int.mul_add]
/-- What a set of nodes gives. -/
theorem Flow.set (hF : Flow t af n) (hT : TrOK t) : SX X af = n * (bI (X (ndS t)) - bI (X (ndE t))) := by
 have hA := hT.hA; have hB := hT.hB
 have h0 : 0 ≤ ndS t := Int.mul_nonneg (by omega) (by omega)
 have h00 : ndE t = ndS t + 1 := rfl
 have h1 : SX X af = lvl (fun v => if X (v : Int) = true then SX (fun u => decide (u = (v : Int))) af else 0) ((ndE t).toNat + 1) := by
   have h2 : ∀ v : Nat, (if X (v : Int) = true then SX (fun u => decide (u = (v : Int))) af else 0) = sumL (fun q => q.2 * (if X (v : Int) = true then uX (fun u => decide (u = (v : Int))) q.1 else 0)) af := fun v => by
     by_cases e : X (v : Int) = true
     · rw [if_pos e]; exact sumL_congr fun q _ => by rw [if_pos e]
     · rw [if_neg e]; exact (sumL_z fun q _ => by rw [if_neg e, Int.mul_zero]).symm
   rw [lvl_congr fun v _ => h2 v, lvl_sum]
   refine sumL_congr fun q hq => ?_
   have h3 := ar_ends hT (hF.mem hq)
   rw [lvl_mul]
   congr 1
   have h4 : ∀ v : Nat, (if X (v : Int) = true then uX (fun u => decide (u = (v : Int))) q.1 else 0) = (if X (v : Int) = true then bI (decide (q.1.a = (v : Int))) else 0) - (if X (v : Int) = true then bI (decide (q.1.b = (v : Int))) else 0) := fun v => by
     split <;> rfl
   rw [lvl_congr fun v _ => h4 v, lvl_sub, lvl_pick (by omega) (by omega), lvl_pick (by omega) (by omega), uX]
 have h5 : ∀ v : Nat, (if X (v : Int) = true then SX (fun u => decide (u = (v : Int))) af else 0) = n * ((if X (v : Int) = true then bI (decide (ndS t = (v : Int))) else 0) - (if X (v : Int) = true then bI (decide (ndE t = (v : Int))) else 0)) := fun v => by
   by_cases e : X (v : Int) = true
   · rw [if_pos e, if_pos e, if_pos e, hF.ex]
   · rw [if_neg e, if_neg e, if_neg e]; simp
 rw [h1, lvl_congr fun v _ => h5 v, lvl_mul, lvl_sub, lvl_pick h0 (by omega), lvl_pick (by omega) (by omega)]
theorem bI_b (b : Bool) : 0 ≤ bI b ∧ bI b ≤ 1 := by rw [bI]; split <;> omega
/-- The flow in its four parts. -/
theorem Flow.split (hF : Flow t af n) : ∃ f1 f2 f3 f4, af = f1 ++ (f2 ++ (f3 ++ f4)) ∧ f1.map (·.1) = t.supplies.map (arS t) ∧ f2.map (·.1) = t.needs.map (arN t) ∧ f3.map (·.1) = hldL t ∧ f4.map (·.1) = (List.range t.routes.length).flatMap (rtL t) := by
 obtain ⟨f1, g1, h1, h2, h3⟩ := List.map_eq_append_iff.1 hF.ar
 obtain ⟨f2, g2, h4, h5, h6⟩ := List.map_eq_append_iff.1 h3
 obtain ⟨f3, f4, h7, h8, h9⟩ := List.map_eq_append_iff.1 h6
 exact ⟨f1, f2, f3, f4, by rw [h1, h4, h7], h2, h5, h8, h9⟩
theorem of_map {β : Type} {f : List (Arc × Int)} {h : β → Arc} {l : List β} (hm : f.map (·.1) = l.map h) {q : Arc × Int} (hq : q ∈ f) : ∃ x ∈ l, q.1 = h x := by
 have h1 : q.1 ∈ f.map (·.1) := List.mem_map.2 ⟨q, hq, rfl⟩
 rw [hm] at h1
 obtain ⟨x, h2, h3⟩ := List.mem_map.1 h1
 exact ⟨x, h2, h3.symm⟩
theorem sum_fst {f : List (Arc × Int)} {F : Arc → Int} : sumL (fun q => F q.1) f = sumL F (f.map (·.1)) := by rw [sumL_map]
/-! ### The cut of a set of nodes -/
end

end Go.Proofs.Ytigdmkhdmbbfiaa
