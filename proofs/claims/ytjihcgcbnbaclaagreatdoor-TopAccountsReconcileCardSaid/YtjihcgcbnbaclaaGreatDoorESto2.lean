import Derived.Test.YtjihcgcbnbaclaaGreatDoorESto1
set_option linter.unusedSimpArgs false
set_option linter.unusedVariables false
set_option maxRecDepth 100000
namespace Go.Proofs.YtjihcgcbnbaclaaGreatDoor.Y8
open Go Go.Pv Go.Proofs.YtjihcgcbnbaclaaGreatDoor
end Go.Proofs.YtjihcgcbnbaclaaGreatDoor.Y8
