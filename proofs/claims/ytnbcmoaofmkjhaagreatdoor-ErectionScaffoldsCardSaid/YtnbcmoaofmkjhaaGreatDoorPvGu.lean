import Derived.Shelf.SlIter.Nil
import Derived.Test.YtnbcmoaofmkjhaaGreatDoorPvGy
set_option linter.unusedSimpArgs false
set_option linter.unusedVariables false
namespace Go.Pv
open Go Go.RowKit Go.Maps Go.Proofs Go.Sort
open Go.WideMaps (keyOf_string_mk)
variable {P : Program}
end Go.Pv
