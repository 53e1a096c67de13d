/- Held. No conditions. -/
import Derived.Test.YtindehoegfiiaaaGreatDoorDem
set_option linter.unusedSimpArgs false
set_option linter.unusedVariables false
set_option maxRecDepth 100000
namespace Go.Proofs.YtindehoegfiiaaaGreatDoor
open Go Go.Pv
theorem gen_ne {d a b : Nat} (h : a < b) : ((d, a) : Key) ≠ (d, b) := fun e => by
 have q : a = b := congrArg Prod.snd e
 omega
theorem grid_pure (g : Grid) : ∀ row ∈ [g.enc], ∀ p ∈ row, Pure p := fun row hr => pure_map (xs := [g]) Grid.pure row hr
theorem rule_pure (r : Rule) : ∀ row ∈ [r.enc], ∀ p ∈ row, Pure p := fun row hr => pure_map (xs := [r]) Rule.pure row hr
/-! ### What Held keeps -/
def hdE (g : Grid) (r : Rule) (l : List Tie) (e : Int × Int) : Bool := l.any (mtB g r e.1 e.2)
structure HkH (g : Grid) (r : Rule) (l : List Tie) (p : List (Int × Int)) (h : Heap) : Prop where
 ties : h (5, 0) = some (.rows 1 [[.lit true 2 (l.map Tie.enc)]])
 held : h (10, 0) = some (.rows 1 [[.bool true]])
 first : h (11, 0) = some (.rows 3 [[.int 0, .int 0, .nil]])
 all : ∀ e ∈ p, hdE g r l e = true
structure DnH (g : Grid) (r : Rule) (l : List Tie) (p : List (Int × Int)) (h : Heap) : Prop where
 last : ∃ q i x, p = q ++ [(i, x)] ∧ (∀ e ∈ q, hdE g r l e = true) ∧ hdE g r l (i, x) = false ∧ h (10, 0) = some (.rows 1 [[.bool false]]) ∧ h (11, 0) = some (.rows 3 [[.int i, .int x, .nil]])
section
variable {g : Grid} {r : Rule} {l : List Tie} {h0 h2 : Heap}
theorem allE_inv (h : allE g r l = 0) : gridE g = 0 ∧ ruleE r = 0 ∧ tiesE g l = 0 := by
 rcases allE_c g r l with ⟨q, e⟩ | ⟨_, q, e⟩ | ⟨q1, q2, e⟩
 · exact absurd (e.symm.trans h) q
 · exact absurd (e.symm.trans h) q
 · exact ⟨q1, q2, e.symm.trans h⟩
end
end Go.Proofs.YtindehoegfiiaaaGreatDoor
