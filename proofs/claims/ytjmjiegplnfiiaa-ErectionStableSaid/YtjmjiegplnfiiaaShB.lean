import Derived.Test.YtjmjiegplnfiiaaShA
import Derived.Test.YtjmjiegplnfiiaaSchA
/- The schedule of the reference. No conditions. -/
set_option linter.unusedSimpArgs false
set_option linter.unusedVariables false
set_option maxRecDepth 100000
namespace Go.Proofs.Ytjmjiegplnfiiaa
open Go Go.Pv
section
variable {P : Program} {ρ : Operand → PV} {h : Heap} {key : Key} {t : TypeId}
end
section
variable {xs : List Task} {c : Crew} {D D2 : List Slot} {T f m z i : Int} {fd : Bool} {O : List Int} {k : Nat}
end
end Go.Proofs.Ytjmjiegplnfiiaa

/- The schedule of the program. No conditions. -/
set_option linter.unusedSimpArgs false
set_option linter.unusedVariables false
set_option maxRecDepth 100000
namespace Go.Proofs.Ytjmjiegplnfiiaa
open Go Go.Pv
/-! ### The best gang so far -/
section
variable {xs : List Task} {c : Crew} {D : List Slot} {T f i bg bs : Int} {x : Task} {g : Gang}
/-- What the rounds of the gangs know. -/
structure GK (xs : List Task) (c : Crew) (D : List Slot) (T f i : Int) (x : Task) (g : Gang) : Prop where
 hx : xs[T.toNat]? = some x
 hg : c.gangs[i.toNat]? = some g
 hB : ∀ s ∈ spL xs c D x.place i, s.b ≤ 1000000
 hf : 0 ≤ f ∧ f ≤ 1000000
 hr : 0 ≤ g.fro ∧ g.fro ≤ 1000000
end
section
variable {P : Program} {K : PS → Prop} {d : Nat} {op : Op} {ty : TypeId} {pos : String} {aft : Array Edge} {gd : Option (Nat × Bool)} {rest : List Oper} {r : Nat → PV} {h : Heap} {cnt : Nat → Nat} {ops : Array Oper} {i : Nat} {G : Nat → Bool} {dd : Bool}
end
end Go.Proofs.Ytjmjiegplnfiiaa

/- ErectionSchedules at P level. No conditions. -/
set_option linter.unusedSimpArgs false
set_option linter.unusedVariables false
set_option maxRecDepth 100000
namespace Go.Proofs.Ytjmjiegplnfiiaa
open Go Go.Pv
section
variable {xs : List Task} {c : Crew}
end

end Go.Proofs.Ytjmjiegplnfiiaa
