/- The network as it is built: plain laws. No conditions. -/
import Derived.Test.YtigdmkhdmbbfiaaFh
import Derived.Test.YtigdmkhdmbbfiaaPvGh
set_option linter.unusedSimpArgs false
set_option linter.unusedVariables false
set_option maxRecDepth 100000
namespace Go.Proofs.Ytigdmkhdmbbfiaa
open Go Go.Pv
section
variable {α β : Type} [DecidableEq α] {f : α → PV} {g : β → PV} {P : Program} {ρ : Operand → PV} {h : Heap} {key : Key} {x y z : Operand} {t t' : TypeId}
end
/-! ### The network as it is built -/
section
variable {t : Traffic} {k p d i : Nat} {s : Supply}
end
section
variable {t : Traffic} {N : Nat} {h h' h0 : Heap} {gp gF gm : Nat} {ps : List Pipe} {al : List Arc} {x : Arc} {c0 c c' : Nat → Nat}
end
section
variable {P : Program} {K : PS → Prop} {d : Nat} {op : Op} {ty : TypeId} {pos : String} {aft : Array Edge} {gd : Option (Nat × Bool)} {rest : List Oper} {r : Nat → PV} {h : Heap} {cnt : Nat → Nat} {ops : Array Oper} {i : Nat} {G : Nat → Bool} {dd : Bool}
end

end Go.Proofs.Ytigdmkhdmbbfiaa
