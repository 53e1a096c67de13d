import Derived.Test.YtjihcgcbnbaclaaDoorRRec4
import Derived.Test.YtjihcgcbnbaclaaDoorPvGg
set_option linter.unusedSimpArgs false
set_option linter.unusedVariables false
set_option maxRecDepth 100000
namespace Go.Proofs.YtjihcgcbnbaclaaDoor.Y9
open Go Go.Pv Go.Proofs.YtjihcgcbnbaclaaDoor
end Go.Proofs.YtjihcgcbnbaclaaDoor.Y9
