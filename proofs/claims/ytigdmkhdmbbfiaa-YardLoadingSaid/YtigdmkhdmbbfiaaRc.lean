/- Which nodes are reached, as the program tells it. No conditions. -/
import Derived.Test.YtigdmkhdmbbfiaaRp
import Derived.Test.YtigdmkhdmbbfiaaFj
import Derived.Test.YtigdmkhdmbbfiaaTb1
set_option linter.unusedSimpArgs false
set_option linter.unusedVariables false
set_option maxRecDepth 100000
namespace Go.Proofs.Ytigdmkhdmbbfiaa
open Go Go.Pv
/-! ### A queue: an own slice from a place on -/
section
variable {P : Program} {ρ : Operand → PV} {h : Heap} {key : Key} {x y : Operand} {t : TypeId}
end
theorem HCallsR.new1 {P : Program} {f : FuncId} {args as' : List PV} {h : Heap} {cnt : Nat → Nat} {sz N : Nat} {rows : Pv.Rows} (site : Nat) (hc : PNew P f as' sz rows) (ha : Inns h args as') (hN : rows.length = N) :
   HCallsR P f args h cnt fun v h' cnt' => v = .ref (site, cnt site) sz 0 N ∧ h' = hset h (site, cnt site) (some (.rows sz rows)) ∧ cnt' = cset cnt site := by
 subst hN
 exact HCallsR.mono (HCallsR.of_new site hc ha) fun v h' c' q => ⟨q.1, q.2.1, q.2.2⟩
section
variable {ps : List Pipe} {l bs done : List Int} {fs : List (List Int)} {i N : Nat} {u w k : Int} {p : Pipe}
end
end Go.Proofs.Ytigdmkhdmbbfiaa
