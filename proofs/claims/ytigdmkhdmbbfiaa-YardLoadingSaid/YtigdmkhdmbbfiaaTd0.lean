/- Trips, step by step: plain laws. No conditions. -/
import Derived.Test.YtigdmkhdmbbfiaaTb1
import Derived.Test.YtigdmkhdmbbfiaaCu1
set_option linter.unusedSimpArgs false
set_option linter.unusedVariables false
set_option maxRecDepth 100000
namespace Go.Proofs.Ytigdmkhdmbbfiaa
open Go Go.Pv
/-! ### Trips, step by step -/
section
variable {t : Traffic} {l : List Trip} {k : Nat} {x : Trip} {r : Route}
end
section
variable {α : Type} {h : Heap} {k0 : Key} {s n D g : Nat} {f : α → List PV} {gs : List Nat} {b : Nat → Nat → α} {o : Option PObj} {r : Nat → PV} {c : Nat → Nat}
end

end Go.Proofs.Ytigdmkhdmbbfiaa
