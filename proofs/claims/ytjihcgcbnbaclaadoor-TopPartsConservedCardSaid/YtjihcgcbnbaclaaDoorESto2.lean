import Derived.Test.YtjihcgcbnbaclaaDoorESto1
set_option linter.unusedSimpArgs false
set_option linter.unusedVariables false
set_option maxRecDepth 100000
namespace Go.Proofs.YtjihcgcbnbaclaaDoor.Y8
open Go Go.Pv Go.Proofs.YtjihcgcbnbaclaaDoor
end Go.Proofs.YtjihcgcbnbaclaaDoor.Y8
