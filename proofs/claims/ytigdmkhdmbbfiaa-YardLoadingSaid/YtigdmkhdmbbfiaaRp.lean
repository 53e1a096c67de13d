/- slices.Repeat of one number. No conditions. -/
import Derived.Test.YtigdmkhdmbbfiaaFd
import Derived.Laws.BitsAllLaws
set_option linter.unusedSimpArgs false
set_option linter.unusedVariables false
set_option maxRecDepth 100000
namespace Go.Proofs.Ytigdmkhdmbbfiaa
open Go Go.Pv
/-! ### Words of 64 bits -/
section
variable {P : Program} {ρ : Operand → PV} {h : Heap} {key : Key} {x y : Operand} {t t' : TypeId}
end
theorem e_gtF {P : Program} {ρ : Operand → PV} {h : Heap} {key : Key} {x y : Operand} {t t' : TypeId} {k : IntKind} {a b : Int} (hx : ρ x = .sc (.int k a)) (hy : ρ y = .sc (.int k b)) (hb : ¬ b < a) : eff P ρ h key (.binOp .gtr t x y t') = ⟨True, .bool false, [], [], false⟩ := by
 rw [e_gt hx hy, decide_eq_false hb]
end Go.Proofs.Ytigdmkhdmbbfiaa
