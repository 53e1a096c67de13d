/- Grounds. No conditions. -/
import Derived.Test.YtindehoegfiiaaaGreatDoorGrd
set_option linter.unusedSimpArgs false
set_option linter.unusedVariables false
set_option maxRecDepth 100000
namespace Go.Proofs.YtindehoegfiiaaaGreatDoor
open Go Go.Pv
/-! ### The first error of a list -/
section
variable {α : Type} {E : Nat → α → Int} {R : Int} {xs : List α} {k : Nat} {x : α}
end
/-! ### Grounds -/
section
variable {l : List Ground} {k : Nat} {s p z : Ground} {x : Int}
end

end Go.Proofs.YtindehoegfiiaaaGreatDoor
