import Derived.Test.YtjmjiegplnfiiaaCrwA
/- Times that meet, and closed places. No conditions. -/
set_option linter.unusedSimpArgs false
set_option linter.unusedVariables false
set_option maxRecDepth 100000
namespace Go.Proofs.Ytjmjiegplnfiiaa
open Go Go.Pv
section
variable {P : Program} {Q : Exit → PS → Prop} {s : PS}
end
section
variable {P : Program} {K : PS → Prop} {d : Nat} {op : Op} {ty t : TypeId} {pos : String} {aft : Array Edge} {rest : List Oper} {r : Nat → PV} {h : Heap} {cnt : Nat → Nat} {ops : Array Oper} {i : Nat} {G : Nat → Bool} {dd : Bool} {x y : Operand}
end

/-! ### Times of gangs and of places -/
def bsG (xs : List Task) (d : List Slot) (g : Int) : List Sp := (d.filter fun y => decide (y.gang = g)).map (spY xs)
def clL (cs : List Span) (p : Int) : List Sp := (cs.filter fun z => decide (z.place = p)).map fun z => ⟨z.fro, z.til⟩
section
variable {xs : List Task} {c : Crew} {d : List Slot} {x : Slot} {m z : Nat}
end

end Go.Proofs.Ytjmjiegplnfiiaa

/- The error of a schedule, as the program tells it. No conditions. -/
set_option linter.unusedSimpArgs false
set_option linter.unusedVariables false
set_option maxRecDepth 100000
namespace Go.Proofs.Ytjmjiegplnfiiaa
open Go Go.Pv
section
variable {xs : List Task} {c : Crew} {d : List Slot} {x : Slot} {t : Task} {m : Nat}
end

end Go.Proofs.Ytjmjiegplnfiiaa

/- ErectionScheduleChecks at P level. No conditions. -/
set_option linter.unusedSimpArgs false
set_option linter.unusedVariables false
set_option maxRecDepth 100000
namespace Go.Proofs.Ytjmjiegplnfiiaa
open Go Go.Pv
end Go.Proofs.Ytjmjiegplnfiiaa
