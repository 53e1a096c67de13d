/- Trips: plain laws. No conditions. -/
import Derived.Test.YtigdmkhdmbbfiaaMa1
import Derived.Test.YtigdmkhdmbbfiaaPvGh
set_option linter.unusedSimpArgs false
set_option linter.unusedVariables false
set_option maxRecDepth 100000
namespace Go.Proofs.Ytigdmkhdmbbfiaa
open Go Go.Pv
/-! ### Trips -/
def rtOf (t : Traffic) (x : Trip) : Route := t.routes.getD x.route.toNat default
def trF (t : Traffic) (x : Trip) : Int :=
 if ¬ (0 ≤ x.route ∧ x.route ≤ (t.routes.length : Int) - 1) then 6
 else if ¬ (0 ≤ x.day ∧ x.day ≤ t.days - 1) ∨ t.days ≤ x.day + (rtOf t x).days ∨ ¬ (1 ≤ x.count ∧ x.count ≤ 1000000) then 2 else 0
/-- What a list says of places and days, added up. -/
def tab {α : Type} (A : α → Nat → Nat → Bool) (c : α → Int) (l : List α) (k : Nat) (p d : Nat) : Int := capS (fun x => if A x p d = true then c x else 0) l k
def aS (s : Supply) (p d : Nat) : Bool := decide (s.place = (p : Int) ∧ s.day = (d : Int))
def aU (x : Trip) (p d : Nat) : Bool := decide (x.route = (p : Int) ∧ x.day = (d : Int))
def aG (t : Traffic) (x : Trip) (p d : Nat) : Bool := decide ((rtOf t x).fro = (p : Int) ∧ x.day = (d : Int))
def aI (t : Traffic) (x : Trip) (p d : Nat) : Bool := decide ((rtOf t x).til = (p : Int) ∧ x.day + (rtOf t x).days = (d : Int))
def spM (l : List Supply) (k : Nat) : Nat → Nat → Int := tab aS (·.count) l k
def usM (l : List Trip) (k : Nat) : Nat → Nat → Int := tab aU (·.count) l k
def goM (t : Traffic) (l : List Trip) (k : Nat) : Nat → Nat → Int := tab (aG t) (·.count) l k
def inM (t : Traffic) (l : List Trip) (k : Nat) : Nat → Nat → Int := tab (aI t) (·.count) l k
def coM (t : Traffic) (l : List Trip) (k p d : Nat) : Int := spM t.supplies t.supplies.length p d + inM t l k p d
def bkM (t : Traffic) (l : List Trip) (k p d : Nat) : Int := coM t l k p d - goM t l k p d
/-- The sum of the first values. -/
def lvl (f : Nat → Int) : Nat → Int
 | 0 => 0
 | d + 1 => lvl f d + f d
/-- The least of a value and the n behind it. -/
def mnF (L : Nat → Int) : Nat → Nat → Int
 | d, 0 => L d
 | d, n + 1 => min (L d) (mnF L (d + 1) n)
/-- What needs can take, day by day. -/
def tkN (L N : Nat → Int) (D : Nat) : Nat → Int
 | 0 => 0
 | d + 1 => min (tkN L N D d + N d) (max (mnF L d (D - 1 - d)) (tkN L N D d))
def lvB (t : Traffic) (l : List Trip) (p d : Nat) : Int := lvl (bkM t l l.length p) (d + 1)
def ndM (t : Traffic) (p d : Nat) : Int := spM t.needs t.needs.length p d
def metV (t : Traffic) (l : List Trip) : Int := lvl (fun p => tkN (lvB t l p) (ndM t p) t.days.toNat t.days.toNat) t.places.toNat
def limB (t : Traffic) (l : List Trip) : Bool := (List.range t.routes.length).any fun r => (List.range t.days.toNat).any fun d => decide ((t.routes.getD r default).most < usM l l.length r d)
def stkB (t : Traffic) (l : List Trip) : Bool := (List.range t.places.toNat).any fun p => (List.range t.days.toNat).any fun d => decide (lvB t l p d < 0)
def tripE (t : Traffic) (l : List Trip) : Int × Int :=
 if 2000 < (l.length : Int) then (0, 8) else if feL (trF t) l ≠ 0 then (0, feL (trF t) l) else if limB t l = true then (0, 18) else if stkB t l = true then (0, 22) else (metV t l, 0)
section
variable {α : Type} {A : α → Nat → Nat → Bool} {c : α → Int} {l : List α} {k i j : Nat} {x : α}
theorem tab_b (h : ∀ y ∈ l, 0 ≤ c y ∧ c y ≤ 1000000) (hk : k ≤ l.length) (p d : Nat) : 0 ≤ tab A c l k p d ∧ tab A c l k p d ≤ 1000000 * (k : Int) :=
 capS_b (m := 1000000) (fun y hy => by have := h y hy; split <;> omega) hk
end
section
variable {t : Traffic} {l : List Trip} {k : Nat} {x : Trip} {s : Supply} {r : Route}
theorem aS_iff (h1 : 0 ≤ s.place) (h2 : 0 ≤ s.day) (p d : Nat) : aS s p d = true ↔ p = s.place.toNat ∧ d = s.day.toNat := by
 rw [aS, decide_eq_true_eq]; omega
theorem aU_iff (h1 : 0 ≤ x.route) (h2 : 0 ≤ x.day) (p d : Nat) : aU x p d = true ↔ p = x.route.toNat ∧ d = x.day.toNat := by
 rw [aU, decide_eq_true_eq]; omega
theorem aG_iff (hr : rtOf t x = r) (h1 : 0 ≤ r.fro) (h2 : 0 ≤ x.day) (p d : Nat) : aG t x p d = true ↔ p = r.fro.toNat ∧ d = x.day.toNat := by
 rw [aG, hr, decide_eq_true_eq]; omega
theorem aI_iff (hr : rtOf t x = r) (h1 : 0 ≤ r.til) (h2 : 0 ≤ x.day + r.days) (p d : Nat) : aI t x p d = true ↔ p = r.til.toNat ∧ d = (x.day + r.days).toNat := by
 rw [aI, hr, decide_eq_true_eq]; omega
theorem rt_ex (h : 0 ≤ x.route ∧ x.route ≤ (t.routes.length : Int) - 1) : ∃ r, t.routes[x.route.toNat]? = some r ∧ rtOf t x = r ∧ r ∈ t.routes := by
 have h1 : x.route.toNat < t.routes.length := by omega
 refine ⟨t.routes[x.route.toNat], List.getElem?_eq_getElem h1, ?_, List.getElem_mem h1⟩
 rw [rtOf, List.getD_eq_getElem?_getD, List.getElem?_eq_getElem h1]; rfl
theorem trF_0 (h : 0 ≤ x.route ∧ x.route ≤ (t.routes.length : Int) - 1) (hr : rtOf t x = r) (h1 : 0 ≤ x.day ∧ x.day ≤ t.days - 1) (h2 : x.day + r.days < t.days) (h3 : 1 ≤ x.count ∧ x.count ≤ 1000000) : trF t x = 0 := by
 rw [trF, if_neg (fun q => q h), hr, if_neg (by rintro (q | q | q); exact q h1; omega; exact q h3)]
theorem trF_inv (h : trF t x = 0) : (0 ≤ x.route ∧ x.route ≤ (t.routes.length : Int) - 1) ∧ (0 ≤ x.day ∧ x.day ≤ t.days - 1) ∧ x.day + (rtOf t x).days < t.days ∧ (1 ≤ x.count ∧ x.count ≤ 1000000) := by
 rw [trF] at h
 split at h
 · cases h
 split at h
 · cases h
 rename_i h1 h2
 exact ⟨by omega, by omega, by omega, by omega⟩
theorem tr_0 (hl : (l.length : Int) ≤ 2000) (h : feL (trF t) l = 0) (h1 : limB t l = false) (h2 : stkB t l = false) : (metV t l, 0) = tripE t l := by
 rw [tripE, if_neg (by omega), if_neg (fun q => q h), if_neg (by rw [h1]; decide), if_neg (by rw [h2]; decide)]
theorem lim_t {i d : Nat} (hi : i < t.routes.length) (hd : d < t.days.toNat) (h : (t.routes.getD i default).most < usM l l.length i d) : limB t l = true :=
 List.any_eq_true.2 ⟨i, List.mem_range.2 hi, List.any_eq_true.2 ⟨d, List.mem_range.2 hd, decide_eq_true h⟩⟩
theorem lim_f (h : ∀ i, i < t.routes.length → ∀ d, d < t.days.toNat → usM l l.length i d ≤ (t.routes.getD i default).most) : limB t l = false := by
 rw [limB, List.any_eq_false]
 intro i hi
 rw [Bool.not_eq_true, List.any_eq_false]
 intro d hd
 have h1 := h i (List.mem_range.1 hi) d (List.mem_range.1 hd)
 exact fun q => by have h2 := of_decide_eq_true q; omega
theorem stk_t {p d : Nat} (hp : p < t.places.toNat) (hd : d < t.days.toNat) (h : lvB t l p d < 0) : stkB t l = true :=
 List.any_eq_true.2 ⟨p, List.mem_range.2 hp, List.any_eq_true.2 ⟨d, List.mem_range.2 hd, decide_eq_true h⟩⟩
theorem stk_f (h : ∀ p, p < t.places.toNat → ∀ d, d < t.days.toNat → 0 ≤ lvB t l p d) : stkB t l = false := by
 rw [stkB, List.any_eq_false]
 intro i hi
 rw [Bool.not_eq_true, List.any_eq_false]
 intro d hd
 have h1 := h i (List.mem_range.1 hi) d (List.mem_range.1 hd)
 exact fun q => by have h2 := of_decide_eq_true q; omega
theorem mnF_le {L : Nat → Int} : ∀ {d n k : Nat}, k ≤ n → mnF L d n ≤ L (d + k)
 | d, 0, k, h => by rw [Nat.le_zero.1 h]; exact Int.le_refl _
 | d, n + 1, 0, _ => by rw [mnF]; exact Int.min_le_left _ _
 | d, n + 1, k + 1, h => by
   rw [mnF]
   have := mnF_le (L := L) (d := d + 1) (n := n) (k := k) (by omega)
   rw [show d + (k + 1) = d + 1 + k by omega]
   exact Int.le_trans (Int.min_le_right _ _) this
theorem mnF_mem {L : Nat → Int} : ∀ {d n : Nat}, ∃ k, k ≤ n ∧ mnF L d n = L (d + k)
 | d, 0 => ⟨0, Nat.le_refl _, rfl⟩
 | d, n + 1 => by
   obtain ⟨k, h1, h2⟩ := mnF_mem (L := L) (d := d + 1) (n := n)
   rw [mnF]
   by_cases h : L d ≤ mnF L (d + 1) n
   · exact ⟨0, Nat.zero_le _, by rw [Int.min_eq_left h]; rfl⟩
   · exact ⟨k + 1, by omega, by rw [Int.min_eq_right (by omega), h2]; congr 1; omega⟩
end

end Go.Proofs.Ytigdmkhdmbbfiaa
