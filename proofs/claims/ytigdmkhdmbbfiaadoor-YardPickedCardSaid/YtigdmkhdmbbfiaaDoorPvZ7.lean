/- Blocks that a called function has laid, as own memory: slices.Grow of nothing, sorted keys; closures over three places; texts in own rows; the end of own rows cleared. -/
import Derived.Test.YtigdmkhdmbbfiaaDoorPvZ6
import Derived.Test.YtigdmkhdmbbfiaaDoorPvU1
namespace Go.Pv
open Go Go.RowKit
section
variable {P : Program} {K : PS → Prop} {d : Nat} {op : Op} {ty : TypeId} {pos : String} {aft : Array Edge} {gd : Option (Nat × Bool)} {rest : List Oper} {r : Nat → PV} {h : Heap} {cnt : Nat → Nat} {ops : Array Oper} {i : Nat} {G : Nat → Bool} {dd : Bool}
end
end Go.Pv
namespace Go.Pv
open Go Go.Proofs Go.RowKit Go.Maps Go.Sort

section
variable {P : Program}
end
end Go.Pv
namespace Go.Pv
open Go
section
variable {P : Program} {ρ : Operand → PV} {h : Heap} {key : Key} {x y : Operand} {t : TypeId}
end
end Go.Pv
namespace Go.Pv
open Go Go.RowKit
section
variable {P : Program} {K : PS → Prop} {d : Nat} {op : Op} {ty : TypeId} {pos : String} {aft : Array Edge} {gd : Option (Nat × Bool)} {rest : List Oper} {r : Nat → PV} {h : Heap} {cnt : Nat → Nat} {ops : Array Oper} {i : Nat} {G : Nat → Bool} {dd : Bool}
end

end Go.Pv
