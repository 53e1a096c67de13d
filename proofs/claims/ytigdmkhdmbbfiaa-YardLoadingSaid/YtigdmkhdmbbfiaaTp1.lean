/- Trips: plain laws. No conditions. -/
import Derived.Test.YtigdmkhdmbbfiaaMa1
import Derived.Test.YtigdmkhdmbbfiaaPvGh
set_option linter.unusedSimpArgs false
set_option linter.unusedVariables false
set_option maxRecDepth 100000
namespace Go.Proofs.Ytigdmkhdmbbfiaa
open Go Go.Pv
/-! ### Trips -/
def rtOf (t : Traffic) (x : Trip) : Route := t.routes.getD x.route.toNat default
def trF (t : Traffic) (x : Trip) : Int :=
 if ¬ (0 ≤ x.route ∧ x.route ≤ (t.routes.length : Int) - 1) then 6
 else if ¬ (0 ≤ x.day ∧ x.day ≤ t.days - 1) ∨ t.days ≤ x.day + (rtOf t x).days ∨ ¬ (1 ≤ x.count ∧ x.count ≤ 1000000) then 2 else 0
/-- What a list says of places and days, added up. -/
def tab {α : Type} (A : α → Nat → Nat → Bool) (c : α → Int) (l : List α) (k : Nat) (p d : Nat) : Int := capS (fun x => if A x p d = true then c x else 0) l k
def aS (s : Supply) (p d : Nat) : Bool := decide (s.place = (p : Int) ∧ s.day = (d : Int))
def aG (t : Traffic) (x : Trip) (p d : Nat) : Bool := decide ((rtOf t x).fro = (p : Int) ∧ x.day = (d : Int))
def aI (t : Traffic) (x : Trip) (p d : Nat) : Bool := decide ((rtOf t x).til = (p : Int) ∧ x.day + (rtOf t x).days = (d : Int))
def spM (l : List Supply) (k : Nat) : Nat → Nat → Int := tab aS (·.count) l k
def goM (t : Traffic) (l : List Trip) (k : Nat) : Nat → Nat → Int := tab (aG t) (·.count) l k
def inM (t : Traffic) (l : List Trip) (k : Nat) : Nat → Nat → Int := tab (aI t) (·.count) l k
def coM (t : Traffic) (l : List Trip) (k p d : Nat) : Int := spM t.supplies t.supplies.length p d + inM t l k p d
def bkM (t : Traffic) (l : List Trip) (k p d : Nat) : Int := coM t l k p d - goM t l k p d
/-- The sum of the first values. -/
def lvl (f : Nat → Int) : Nat → Int
 | 0 => 0
 | d + 1 => lvl f d + f d
def lvB (t : Traffic) (l : List Trip) (p d : Nat) : Int := lvl (bkM t l l.length p) (d + 1)
section
variable {α : Type} {A : α → Nat → Nat → Bool} {c : α → Int} {l : List α} {k i j : Nat} {x : α}
end
section
variable {t : Traffic} {l : List Trip} {k : Nat} {x : Trip} {s : Supply} {r : Route}
theorem aS_iff (h1 : 0 ≤ s.place) (h2 : 0 ≤ s.day) (p d : Nat) : aS s p d = true ↔ p = s.place.toNat ∧ d = s.day.toNat := by
 rw [aS, decide_eq_true_eq]; omega
theorem aG_iff (hr : rtOf t x = r) (h1 : 0 ≤ r.fro) (h2 : 0 ≤ x.day) (p d : Nat) : aG t x p d = true ↔ p = r.fro.toNat ∧ d = x.day.toNat := by
 rw [aG, hr, decide_eq_true_eq]; omega
theorem aI_iff (hr : rtOf t x = r) (h1 : 0 ≤ r.til) (h2 : 0 ≤ x.day + r.days) (p d : Nat) : aI t x p d = true ↔ p = r.til.toNat ∧ d = (x.day + r.days).toNat := by
 rw [aI, hr, decide_eq_true_eq]; omega
theorem rt_ex (h : 0 ≤ x.route ∧ x.route ≤ (t.routes.length : Int) - 1) : ∃ r, t.routes[x.route.toNat]? = some r ∧ rtOf t x = r ∧ r ∈ t.routes := by
 have h1 : x.route.toNat < t.routes.length := by omega
 refine ⟨t.routes[x.route.toNat], List.getElem?_eq_getElem h1, ?_, List.getElem_mem h1⟩
 rw [rtOf, List.getD_eq_getElem?_getD, List.getElem?_eq_getElem h1]; rfl
theorem trF_0 (h : 0 ≤ x.route ∧ x.route ≤ (t.routes.length : Int) - 1) (hr : rtOf t x = r) (h1 : 0 ≤ x.day ∧ x.day ≤ t.days - 1) (h2 : x.day + r.days < t.days) (h3 : 1 ≤ x.count ∧ x.count ≤ 1000000) : trF t x = 0 := by
 rw [trF, if_neg (fun q => q h), hr, if_neg (by rintro (q | q | q); exact q h1; omega; exact q h3)]
theorem trF_inv (h : trF t x = 0) : (0 ≤ x.route ∧ x.route ≤ (t.routes.length : Int) - 1) ∧ (0 ≤ x.day ∧ x.day ≤ t.days - 1) ∧ x.day + (rtOf t x).days < t.days ∧ (1 ≤ x.count ∧ x.count ≤ 1000000) := by
 rw [trF] at h
 split at h
 · cases h
 split at h
 · cases h
 rename_i h1 h2
 exact ⟨by omega, by omega, by omega, by omega⟩
end

end Go.Proofs.Ytigdmkhdmbbfiaa
