import Derived.Test.YtjmjiegplnfiiaaAwkA
/- Ends of slots. No conditions. -/
set_option linter.unusedSimpArgs false
set_option linter.unusedVariables false
set_option maxRecDepth 100000
namespace Go.Proofs.Ytjmjiegplnfiiaa
open Go Go.Pv

/-! ### The end of slots -/
section
variable {xs : List Task} {ss : List Slot} {k : Nat} {s : Slot} {x : Task}
end

end Go.Proofs.Ytjmjiegplnfiiaa

/- Stages: what the program tells. No conditions. -/
set_option linter.unusedSimpArgs false
set_option linter.unusedVariables false
set_option maxRecDepth 100000
namespace Go.Proofs.Ytjmjiegplnfiiaa
open Go Go.Pv
/-! ### Stages -/
section
variable {xs : List Task} {D : List Int} {k : Nat}
end
end Go.Proofs.Ytjmjiegplnfiiaa

/- Ready and closed stages. No conditions. -/
set_option linter.unusedSimpArgs false
set_option linter.unusedVariables false
set_option maxRecDepth 100000
namespace Go.Proofs.Ytjmjiegplnfiiaa
open Go Go.Pv
end Go.Proofs.Ytjmjiegplnfiiaa
