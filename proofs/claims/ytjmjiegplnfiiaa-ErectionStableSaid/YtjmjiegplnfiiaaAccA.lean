import Derived.Test.YtjmjiegplnfiiaaStgA
/- Orders that are accepted. No conditions. -/
set_option linter.unusedSimpArgs false
set_option linter.unusedVariables false
set_option maxRecDepth 100000
namespace Go.Proofs.Ytjmjiegplnfiiaa
open Go Go.Pv
/-! ### Orders that are accepted -/
section
variable {nd : List (List Int)} {ds : List Int} {k : Nat}
end
end Go.Proofs.Ytjmjiegplnfiiaa

/- The reverse of a plan, as the program makes it. No conditions. -/
set_option linter.unusedSimpArgs false
set_option linter.unusedVariables false
set_option maxRecDepth 100000
namespace Go.Proofs.Ytjmjiegplnfiiaa
open Go Go.Pv
/-! ### The reverse plan -/
end Go.Proofs.Ytjmjiegplnfiiaa

/- The reverse of a plan, as the reference makes it. No conditions. -/
set_option linter.unusedSimpArgs false
set_option linter.unusedVariables false
set_option maxRecDepth 100000
namespace Go.Proofs.Ytjmjiegplnfiiaa
open Go Go.Pv
/-! ### The reverse plan of the reference -/
end Go.Proofs.Ytjmjiegplnfiiaa

/- Orders, handlings and orders of the reverse plan. No conditions. -/
set_option linter.unusedSimpArgs false
set_option linter.unusedVariables false
set_option maxRecDepth 100000
namespace Go.Proofs.Ytjmjiegplnfiiaa
open Go Go.Pv

section
variable {xs : List Task} {ds : List Int} {k : Nat}
end
end Go.Proofs.Ytjmjiegplnfiiaa
