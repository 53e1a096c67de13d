/- Iteration over a map of typed entries; arrays; rows of texts. -/
import Derived.Test.YtjmjiegplnfiiaaPvZ5
namespace Go.Pv
open Go
section
variable {α β : Type} [DecidableEq α] {f : α → PV} {g : β → PV}

variable {P : Program} {ρ : Operand → PV} {h : Heap} {key : Key} {x y : Operand} {t : TypeId}
end

/-! ### Arrays -/
section
variable {P : Program} {ρ : Operand → PV} {h : Heap} {key : Key} {x y : Operand} {t : TypeId}
end

/-! ### An own slice in another place of the text -/
/-! ### Rows of texts -/
def cb (s : ByteArray) : List PV := [.str s]
end Go.Pv

namespace Go.Pv
open Go Go.RowKit
/-! ### Appends in drawn regions; parts of own slices as what is appended -/
section
variable {P : Program} {K : PS → Prop} {d : Nat} {op : Op} {ty : TypeId} {pos : String} {aft : Array Edge} {rest : List Oper} {r : Nat → PV} {h : Heap} {cnt : Nat → Nat} {ops : Array Oper} {i : Nat} {G : Nat → Bool} {dd : Bool} {x y : Operand} {t : TypeId}

end
end Go.Pv
