/- Drawn regions whose places are told apart by more than the place in the text; calls that change memory in them; appends whose new key is known. -/
import Derived.Test.YtjmjiegplnfiiaaPvZ7
namespace Go.Pv
open Go Go.RowKit
section
variable {P : Program} {K : PS → Prop} {d : Nat} {op : Op} {ty : TypeId} {pos : String} {aft : Array Edge} {gd : Option (Nat × Bool)} {rest : List Oper} {r : Nat → PV} {h : Heap} {cnt : Nat → Nat} {ops : Array Oper} {i : Nat} {G : Nat → Bool} {dd : Bool} {vs : Key → Nat}

variable {x y : Operand} {t : TypeId}
end
end Go.Pv

/-! ### Who waits for whom, told by sets of numbers -/
namespace Go.Pv
open Go Go.RowKit
end Go.Pv
