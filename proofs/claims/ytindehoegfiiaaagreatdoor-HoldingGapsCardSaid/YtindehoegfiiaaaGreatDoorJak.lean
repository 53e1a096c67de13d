/- Feet. No conditions. -/
import Derived.Test.YtindehoegfiiaaaGreatDoorGro
import Derived.Test.YtindehoegfiiaaaGreatDoorSel
set_option linter.unusedSimpArgs false
set_option linter.unusedVariables false
set_option maxRecDepth 100000
namespace Go.Proofs.YtindehoegfiiaaaGreatDoor
open Go Go.Pv
/-! ### The record of ground and jack -/
structure Feet where
 ground : List Ground
 jack : Jack
 deriving Inhabited
structure Feet.ok (x : Feet) : Prop where
 ground : x.ground.length ≤ maxLen ∧ ∀ z ∈ x.ground, z.ok
 jack : x.jack.ok
/-! ### The greatest and the least of a list -/
section
variable {l : List Int} {k : Nat} {m x : Int}
end
/-! ### Feet and jacks -/
section
variable {g : Grid} {l : List Ground} {j : Jack} {x d n : Int} {f : Int → Int} {k : Nat} {xs : List Int} {s : Ground}
end
section
variable {g : Grid} {l : List Ground} {j : Jack} {d : Int} {f : Int → Int}
end
/-! ### The document's extensions -/
section
variable {g : Grid} {l : List Ground} {j : Jack} {d : Int}
end
end Go.Proofs.YtindehoegfiiaaaGreatDoor
