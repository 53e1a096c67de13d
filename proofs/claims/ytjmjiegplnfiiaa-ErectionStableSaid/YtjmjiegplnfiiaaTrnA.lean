import Derived.Test.YtjmjiegplnfiiaaAccA
/- Orders that are right, turned round; the reverse of the reverse plan. Plain laws. No conditions. -/
set_option linter.unusedSimpArgs false
set_option linter.unusedVariables false
namespace Go.Proofs.Ytjmjiegplnfiiaa
open Go Go.Pv

/-! ### Right orders -/
section
variable {nd : List (List Int)} {D : List Int}
/-! ### Turned round -/
end
/-! ### The reverse of the reverse -/
end Go.Proofs.Ytjmjiegplnfiiaa

/- An order turned round is one of the reverse plan. No conditions. -/
set_option linter.unusedSimpArgs false
set_option linter.unusedVariables false
set_option maxRecDepth 100000
namespace Go.Proofs.Ytjmjiegplnfiiaa
open Go Go.Pv

end Go.Proofs.Ytjmjiegplnfiiaa
