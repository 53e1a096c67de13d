/- Held. No conditions. -/
import Derived.Test.YtindehoegfiiaaaGreatDoorDem
set_option linter.unusedSimpArgs false
set_option linter.unusedVariables false
set_option maxRecDepth 100000
namespace Go.Proofs.YtindehoegfiiaaaGreatDoor
open Go Go.Pv
/-! ### What Held keeps -/
def hdE (g : Grid) (r : Rule) (l : List Tie) (e : Int × Int) : Bool := l.any (mtB g r e.1 e.2)
structure HkH (g : Grid) (r : Rule) (l : List Tie) (p : List (Int × Int)) (h : Heap) : Prop where
 ties : h (5, 0) = some (.rows 1 [[.lit true 2 (l.map Tie.enc)]])
 held : h (10, 0) = some (.rows 1 [[.bool true]])
 first : h (11, 0) = some (.rows 3 [[.int 0, .int 0, .nil]])
 all : ∀ e ∈ p, hdE g r l e = true
structure DnH (g : Grid) (r : Rule) (l : List Tie) (p : List (Int × Int)) (h : Heap) : Prop where
 last : ∃ q i x, p = q ++ [(i, x)] ∧ (∀ e ∈ q, hdE g r l e = true) ∧ hdE g r l (i, x) = false ∧ h (10, 0) = some (.rows 1 [[.bool false]]) ∧ h (11, 0) = some (.rows 3 [[.int i, .int x, .nil]])
section
variable {g : Grid} {r : Rule} {l : List Tie} {h0 h2 : Heap}
end
end Go.Proofs.YtindehoegfiiaaaGreatDoor
