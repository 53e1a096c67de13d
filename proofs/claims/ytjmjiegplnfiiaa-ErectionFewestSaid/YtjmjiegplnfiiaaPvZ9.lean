/- Appends that tell how the generations go on. No conditions. -/
import Derived.Test.YtjmjiegplnfiiaaPvZ8
namespace Go.Pv
open Go
section
variable {P : Program} {h : Heap} {key : Key} {x y z : Operand} {t t' : TypeId} {v : PV} {K : PS → Prop} {d : Nat} {ty : TypeId} {pos : String} {aft : Array Edge} {gd : Option (Nat × Bool)} {rest : List Oper} {r : Nat → PV} {cnt : Nat → Nat}
end
section
variable {P : Program} {K : PS → Prop} {d : Nat} {op : Op} {ty : TypeId} {pos : String} {aft : Array Edge} {rest : List Oper} {r : Nat → PV} {h : Heap} {cnt : Nat → Nat} {ops : Array Oper} {i : Nat} {G : Nat → Bool} {dd : Bool} {x y : Operand} {t : TypeId}
end
end Go.Pv
