import Derived.Test.YtjihcgcbnbaclaaGreatDoorRMovC
set_option linter.unusedSimpArgs false
set_option linter.unusedVariables false
set_option maxRecDepth 100000
namespace Go.Proofs.YtjihcgcbnbaclaaGreatDoor.Y9
open Go Go.Pv Go.Proofs.YtjihcgcbnbaclaaGreatDoor
structure Tms where
 a : Int
 b : Int
 c : Int
 deriving Inhabited
section
variable {ts : List Term} {ms : List Move} {a b c : Int}
end
section
variable {ts : List Term} {ms : List Move} {a b c : Int}
end
end Go.Proofs.YtjihcgcbnbaclaaGreatDoor.Y9
