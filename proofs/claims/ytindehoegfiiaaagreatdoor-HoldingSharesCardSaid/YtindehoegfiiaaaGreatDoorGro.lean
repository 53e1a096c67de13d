/- Grounds. No conditions. -/
import Derived.Test.YtindehoegfiiaaaGreatDoorGrd
set_option linter.unusedSimpArgs false
set_option linter.unusedVariables false
set_option maxRecDepth 100000
namespace Go.Proofs.YtindehoegfiiaaaGreatDoor
open Go Go.Pv
/-! ### The first error of a list -/
section
variable {α : Type} {E : Nat → α → Int} {R : Int} {xs : List α} {k : Nat} {x : α}
end
/-! ### Grounds -/
section
variable {l : List Ground} {k : Nat} {s p z : Ground} {x : Int}
theorem out_12 {h : Heap} {a b : Int} {c : Int × Int} (h1 : a = c.1) (h2 : b = c.2) : Out h (.tup [.int a, .int b]) (.tup [.int c.1, .int c.2]) := out_2 (out_i h1) (out_i h2)
end

end Go.Proofs.YtindehoegfiiaaaGreatDoor
