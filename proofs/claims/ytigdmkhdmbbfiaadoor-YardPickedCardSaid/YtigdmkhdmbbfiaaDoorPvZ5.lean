/- More operations at states that are written out: slices compared with nil, records stored into own slices. -/
import Derived.Test.YtigdmkhdmbbfiaaDoorPvZ4
namespace Go.Pv
open Go
section
variable {P : Program} {ρ : Operand → PV} {h : Heap} {key : Key} {x y : Operand} {t t' : TypeId}

end

section
variable {h h' : Heap} {d sz : Nat} {v : PV} {rows : Rows}
/-- A slice that was just made, in a heap where nothing else has changed. -/
theorem SliceAt.mk {g n : Nat} (hk : h (d, g) = some (.rows sz rows)) (hn : rows.length = n) : SliceAt h d (.ref (d, g) sz 0 n) sz rows := .ofRef hk hn
end

end Go.Pv
