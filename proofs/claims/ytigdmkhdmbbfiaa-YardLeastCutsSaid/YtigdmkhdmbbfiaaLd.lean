/- The least cut by trying is the least cut: plain law. No conditions. -/
import Derived.Test.YtigdmkhdmbbfiaaLc
import Derived.Test.YtigdmkhdmbbfiaaFb
set_option linter.unusedSimpArgs false
set_option linter.unusedVariables false
namespace Go.Proofs.Ytigdmkhdmbbfiaa
open Go Go.Pv
/-- The set that a list of first days tells. -/
def thR (t : Traffic) (fr : List Int) (v : Int) : Bool := decide (fr.getD (v / t.days).toNat 0 ≤ v % t.days)
theorem thR_at {t : Traffic} {fr : List Int} {a b : Int} (hb : 0 ≤ b ∧ b < t.days) : thR t fr (ndI t a b) = decide (fr.getD a.toNat 0 ≤ b) := by
 have h1 : (a * t.days + b) / t.days = a := by
   rw [Int.add_comm, Int.add_mul_ediv_right _ _ (by omega), Int.ediv_eq_zero_of_lt hb.1 hb.2, Int.zero_add]
 have h2 : (a * t.days + b) % t.days = b := by
   rw [Int.add_comm, Int.add_mul_emod_self_right, Int.emod_eq_of_lt hb.1 hb.2]
 rw [thR, ndI, h1, h2]
theorem thrL_cut {t : Traffic} {fr : List Int} : thrL t fr t.places.toNat 0 = cutL t (thR t fr) := by
 rw [thrL, cutL]
 simp only [List.range_zero, List.filter_nil, List.map_nil, List.append_nil]
 congr 1; funext p; congr 1
 refine List.filter_congr fun d hd => ?_
 have := List.mem_range.1 hd
 rw [thR_at (by omega), Int.toNat_natCast]
theorem thr_mem {t : Traffic} {fr : List Int} {a b : Int} : (⟨a, b⟩ : At) ∈ thrL t fr t.places.toNat 0 ↔ (0 ≤ a ∧ a < t.places) ∧ (0 ≤ b ∧ b < t.days) ∧ fr.getD a.toNat 0 ≤ b := by
 rw [thrL_cut, cut_mem]
 constructor
 · intro ⟨h1, h2, h3⟩
   rw [thR_at h2] at h3; exact ⟨h1, h2, of_decide_eq_true h3⟩
 · intro ⟨h1, h2, h3⟩
   refine ⟨h1, h2, ?_⟩
   rw [thR_at h2]; exact decide_eq_true h3
/-- Each such set is a cut. -/
theorem thr_V {t : Traffic} {fr : List Int} : cutV t (thrL t fr t.places.toNat 0) = (cutS t (thrL t fr t.places.toNat 0), 0) := by
 refine cv_0 (by rw [thrL_cut]; exact cut_E) ?_
 rw [List.any_eq_false]
 rintro ⟨a, b⟩ hx
 have h1 := thr_mem.1 hx
 rw [gapB]
 simp only [Bool.and_eq_true, decide_eq_true_eq, Bool.not_eq_true', decide_eq_false_iff_not, not_and, Decidable.not_not]
 intro h2
 exact thr_mem.2 ⟨h1.1, by omega, by omega⟩
theorem cut_in {t : Traffic} {c : List At} (h : cutE t c = 0) {x : At} (hx : x ∈ c) : atIn t x := by
 obtain ⟨i, h1⟩ := List.getElem?_of_mem hx
 have h2 : i < c.length := (List.getElem?_eq_some_iff.1 h1).1
 have h3 := feL_all h i (List.mem_range.2 h2)
 rw [ctF, h1] at h3
 simp only at h3
 by_cases h4 : atIn t x
 · exact h4
 · rw [if_pos h4] at h3; exact absurd h3 (by decide)
/-- The worth of a cut hangs on its members alone. -/
theorem cutS_mem {t : Traffic} {c k : List At} (h : ∀ x, x ∈ c ↔ x ∈ k) : cutS t c = cutS t k := by
 have h1 : supC c = supC k := by funext s; rw [supC, supC]; simp only [h]
 have h2 : needC c = needC k := by funext s; rw [needC, needC]; simp only [h]
 have h3 : rtC t c = rtC t k := by
   funext r
   rw [rtC, rtC]
   generalize (t.days - r.days).toNat = n
   induction n with
   | zero => rfl
   | succ n ih => rw [rtN, rtN, ih, dayC, dayC]; simp only [h]
 rw [cutS, cutS, h1, h2, h3]
theorem thr_of {t : Traffic} (hT : TrOK t) {k : List At} {n : Int} (hk : cutV t k = (n, 0)) : ∃ fr : List Int, fr.length = t.places.toNat ∧ (∀ x ∈ fr, 0 ≤ x ∧ x ≤ t.days) ∧ cutS t (thrL t fr t.places.toNat 0) = n := by
 obtain ⟨hc, hg, rfl⟩ := cutV_inv hk
 have hB := hT.hB
 have hth : ∀ p : Nat, ∃ th : Nat, th ≤ t.days.toNat ∧ ∀ d, d < t.days.toNat → (inC k p d = true ↔ th ≤ d) := fun p => thr_ex fun d hd h => gap_up hc hg (by omega) h
 refine ⟨(List.range t.places.toNat).map fun p => ((Classical.choose (hth p) : Nat) : Int), by simp, fun x hx => ?_, cutS_mem fun x => ?_⟩
 · obtain ⟨p, _, rfl⟩ := List.mem_map.1 hx
   have := (Classical.choose_spec (hth p)).1
   omega
 · obtain ⟨a, b⟩ := x
   rw [thr_mem]
   constructor
   · intro ⟨h1, h2, h3⟩
     have h4 : a.toNat < t.places.toNat := by omega
     rw [List.getD_eq_getElem?_getD, List.getElem?_map, List.getElem?_range h4] at h3
     have h5 := ((Classical.choose_spec (hth a.toNat)).2 b.toNat (by omega)).2 (by simp only [Option.map_some, Option.getD_some] at h3; omega)
     rw [inC_of h1.1 h2.1] at h5
     exact of_decide_eq_true h5
   · intro hx
     have h1 := cut_in hc hx
     rw [atIn] at h1; simp only at h1
     refine ⟨by omega, by omega, ?_⟩
     have h4 : a.toNat < t.places.toNat := by omega
     rw [List.getD_eq_getElem?_getD, List.getElem?_map, List.getElem?_range h4]
     have h5 := ((Classical.choose_spec (hth a.toNat)).2 b.toNat (by omega)).1 (by rw [inC_of (by omega) (by omega)]; exact decide_eq_true hx)
     simp only [Option.map_some, Option.getD_some]; omega
theorem cutS_nn {t : Traffic} (hT : TrOK t) (l : List At) : 0 ≤ cutS t l := by
 have h1 := (capS_b (f := supC l) (l := t.supplies) (m := 1000000) (fun y hy => supC_b (hT.sp y hy).2.2) (k := t.supplies.length) (by omega)).1
 have h2 := (capS_b (f := needC l) (l := t.needs) (m := 1000000) (fun y hy => needC_b (hT.nd y hy).2.2) (k := t.needs.length) (by omega)).1
 have h3 := (capS_b (f := rtC t l) (l := t.routes) (m := 20000000) (fun y hy => rtC_b (hT.rt y hy).2.2.2.2 hT.hB.2 (hT.rt y hy).2.2.2.1.1) (k := t.routes.length) (by omega)).1
 rw [cutS]; omega
/-- A fold for the least. -/
theorem fold_min {v : Nat → Int} {n : Int} (h0 : 0 ≤ n) : ∀ {K : Nat}, (∀ d, d < K → n ≤ v d) → (K = 0 ∧ (List.range K).foldl (fun (b : Int) (d : Nat) => minB b (v d)) (-1) = -1) ∨ (n ≤ (List.range K).foldl (fun (b : Int) (d : Nat) => minB b (v d)) (-1) ∧ ∀ d, d < K → v d = n → (List.range K).foldl (fun (b : Int) (d : Nat) => minB b (v d)) (-1) = n)
 | 0, _ => .inl ⟨rfl, rfl⟩
 | K + 1, hv => by
   right
   have h1 := hv K (by omega)
   rw [List.range_succ, List.foldl_append]
   simp only [List.foldl_cons, List.foldl_nil]
   rcases fold_min h0 (K := K) (fun d hd => hv d (by omega)) with ⟨h2, h3⟩ | ⟨h2, h3⟩
   · rw [h3, minB, if_pos (.inl (by decide))]
     refine ⟨h1, fun d hd e => ?_⟩
     rw [show K = d by omega]; exact e
   · generalize (List.range K).foldl (fun (b : Int) (d : Nat) => minB b (v d)) (-1) = b at h2 h3
     rw [minB]
     split
     · refine ⟨h1, fun d hd e => ?_⟩
       by_cases e2 : d = K
       · rw [← e2]; exact e
       · have := h3 d (by omega) e; omega
     · refine ⟨h2, fun d hd e => ?_⟩
       by_cases e2 : d = K
       · subst e2; omega
       · exact h3 d (by omega) e
section
variable {t : Traffic} {n : Int}
theorem least_ge (h0 : 0 ≤ n) (hlo : ∀ fr : List Int, n ≤ cutS t (thrL t fr t.places.toNat 0)) : ∀ (m : Nat) (fr : List Int), n ≤ leastV t m fr
 | 0, fr => by rw [leastV, thr_V]; exact hlo fr
 | m + 1, fr => by
   rw [leastV]
   rcases fold_min (v := fun d => leastV t m (fr ++ [(d : Int)])) h0 (K := t.days.toNat + 1) (fun d _ => least_ge h0 hlo m _) with ⟨h, _⟩ | ⟨h, _⟩
   · omega
   · exact h
theorem least_eq (h0 : 0 ≤ n) (hlo : ∀ fr : List Int, n ≤ cutS t (thrL t fr t.places.toNat 0)) : ∀ (s fr : List Int), (∀ x ∈ s, 0 ≤ x ∧ x ≤ t.days) → cutS t (thrL t (fr ++ s) t.places.toNat 0) = n → leastV t s.length fr = n
 | [], fr, _, h => by rw [List.append_nil] at h; rw [List.length_nil, leastV, thr_V]; exact h
 | x :: s, fr, hs, h => by
   have hx := hs x (List.mem_cons_self ..)
   have h1 : leastV t s.length (fr ++ [((x.toNat : Nat) : Int)]) = n := by
     refine least_eq h0 hlo s _ (fun y hy => hs y (List.mem_cons_of_mem _ hy)) ?_
     rw [Int.toNat_of_nonneg hx.1, List.append_assoc]; exact h
   rw [List.length_cons, leastV]
   rcases fold_min (v := fun d => leastV t s.length (fr ++ [(d : Int)])) h0 (K := t.days.toNat + 1) (fun d _ => least_ge h0 hlo _ _) with ⟨h2, _⟩ | ⟨_, h2⟩
   · omega
   · exact h2 x.toNat (by omega) h1
theorem least_n (hT : TrOK t) {l : List Trip} {k : List At} (hl : tripE t l = (n, 0)) (hk : cutV t k = (n, 0)) : leastV t t.places.toNat [] = n := by
 obtain ⟨fr, h1, h2, h3⟩ := thr_of hT hk
 have h0 : 0 ≤ n := by rw [← h3]; exact cutS_nn hT _
 have := least_eq h0 (fun fr' => weak hT hl thr_V) fr [] h2 (by rw [List.nil_append]; exact h3)
 rwa [h1] at this
end
end Go.Proofs.Ytigdmkhdmbbfiaa
