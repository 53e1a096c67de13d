/- Patterns of ties. No conditions. -/
import Derived.Test.YtindehoegfiiaaaGreatDoorGro
set_option linter.unusedSimpArgs false
set_option linter.unusedVariables false
set_option maxRecDepth 100000
namespace Go.Proofs.YtindehoegfiiaaaGreatDoor
open Go Go.Pv
section
variable {p : Pattern} {m i r k : Nat} {b : List Tie} {g : Grid}
end
/-! ### Two lists that are the same -/
theorem same_f {α : Type} [DecidableEq α] {l m : List α} {k : Nat} {x y : α} (hx : l[k]? = some x) (hy : m[k]? = some y) (h : ¬ x = y) : false = decide (l = m) := (decide_eq_false fun q => by subst q; rw [hx] at hy; exact h (Option.some.inj hy)).symm
theorem same_l {α : Type} [DecidableEq α] {l m : List α} (h : ¬ l.length = m.length) : false = decide (l = m) := (decide_eq_false fun q => h (by rw [q])).symm
abbrev SameTo {α : Type} (l m : List α) (k : Nat) : Prop := ∀ i, i < k → l[i]? = m[i]?
theorem same_s {α : Type} {l m : List α} {k : Nat} {x y : α} (h : SameTo l m k) (hx : l[k]? = some x) (hy : m[k]? = some y) (he : x = y) : SameTo l m (k + 1) := fun i hi => by
 by_cases e : i = k
 · subst e; rw [hx, hy, he]
 · exact h i (by omega)
theorem same_t {α : Type} [DecidableEq α] {l m : List α} {k : Nat} (h : SameTo l m k) (hl : l.length = m.length) (hk : l.length ≤ k) : true = decide (l = m) := (decide_eq_true (List.ext_getElem? fun i => by
 by_cases e : i < k
 · exact h i e
 · rw [List.getElem?_eq_none (by omega), List.getElem?_eq_none (by omega)])).symm

end Go.Proofs.YtindehoegfiiaaaGreatDoor
