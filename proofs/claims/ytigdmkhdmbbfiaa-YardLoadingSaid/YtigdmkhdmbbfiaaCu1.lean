/- Cuts: plain laws. No conditions. -/
import Derived.Test.YtigdmkhdmbbfiaaTrc
set_option linter.unusedSimpArgs false
set_option linter.unusedVariables false
set_option maxRecDepth 100000
namespace Go.Proofs.Ytigdmkhdmbbfiaa
open Go Go.Pv
/-! ### Cuts -/
def atLt (x y : At) : Prop := x.a0 < y.a0 ∨ (x.a0 = y.a0 ∧ x.a1 < y.a1)
instance (x y : At) : Decidable (atLt x y) := by unfold atLt; exact inferInstance
def atIn (t : Traffic) (x : At) : Prop := (0 ≤ x.a0 ∧ x.a0 ≤ t.places - 1) ∧ (0 ≤ x.a1 ∧ x.a1 ≤ t.days - 1)
instance (t : Traffic) (x : At) : Decidable (atIn t x) := by unfold atIn; exact inferInstance
def ctF (t : Traffic) (l : List At) (i : Nat) : Int :=
 match l[i]? with
 | none => 0
 | some x => if ¬ atIn t x then 6 else if 1 ≤ i ∧ ¬ atLt (l.getD (i - 1) default) x then 10 else 0
def cutE (t : Traffic) (l : List At) : Int := feL (ctF t l) (List.range l.length)
def gapB (t : Traffic) (l : List At) (x : At) : Bool := decide (x.a1 + 1 < t.days) && !decide ((⟨x.a0, x.a1 + 1⟩ : At) ∈ l)
def supC (l : List At) (s : Supply) : Int := if (⟨s.place, s.day⟩ : At) ∈ l then 0 else s.count
def needC (l : List At) (s : Supply) : Int := if (⟨s.place, s.day⟩ : At) ∈ l then s.count else 0
def dayC (l : List At) (r : Route) (d : Int) : Int := if (⟨r.fro, d⟩ : At) ∈ l ∧ ¬ (⟨r.til, d + r.days⟩ : At) ∈ l then r.most else 0
def rtN (l : List At) (r : Route) : Nat → Int
 | 0 => 0
 | k + 1 => rtN l r k + dayC l r (k : Int)
def rtC (t : Traffic) (l : List At) (r : Route) : Int := rtN l r (t.days - r.days).toNat
def cutS (t : Traffic) (l : List At) : Int := capS (supC l) t.supplies t.supplies.length + capS (needC l) t.needs t.needs.length + capS (rtC t l) t.routes t.routes.length
def cutV (t : Traffic) (l : List At) : Int × Int :=
 if cutE t l ≠ 0 then (0, cutE t l) else if l.any (gapB t l) = true then (0, 25) else (cutS t l, 0)
section
variable {t : Traffic} {l : List At} {k : Nat} {x y : At} {s : Supply} {r : Route} {a b : Int}
/-! ### The map of a cut -/
end
/-! ### Arrays as slices -/
end Go.Proofs.Ytigdmkhdmbbfiaa
