/- Blocks that a called function has laid, as own memory: slices.Grow of nothing, sorted keys; closures over three places; texts in own rows; the end of own rows cleared. -/
import Derived.Test.YtjmjiegplnfiiaaPvZ6
import Derived.Test.YtjmjiegplnfiiaaPvU1
namespace Go.Pv
open Go Go.RowKit
section
variable {P : Program} {K : PS → Prop} {d : Nat} {op : Op} {ty : TypeId} {pos : String} {aft : Array Edge} {gd : Option (Nat × Bool)} {rest : List Oper} {r : Nat → PV} {h : Heap} {cnt : Nat → Nat} {ops : Array Oper} {i : Nat} {G : Nat → Bool} {dd : Bool}
end
end Go.Pv
namespace Go.Pv
open Go Go.Proofs Go.RowKit Go.Maps Go.Sort

section
variable {P : Program}
end
end Go.Pv
namespace Go.Pv
open Go
section
variable {P : Program} {ρ : Operand → PV} {h : Heap} {key : Key} {x y : Operand} {t : TypeId}
theorem inn_func0 {f : Fn} : Inn h (.func f [] []) (.func f [] []) := .base (.pure (.func _ _ _ (by simp) (by simp)))
/-- A part of an own slice from its beginning, and from a place on. -/
theorem e_cutR {k : Key} {sz len n : Nat} (hx : ρ x = .ref k sz 0 len) (hy : ρ y = .int (n : Int)) (hn : n ≤ len) (ht : sliceOk P t = true) (hz : tySize P (elemTy P t) = sz) :
   eff P ρ h key (.slice t x none (some y) none) = ⟨True, .ref k sz 0 n, [], [], false⟩ := by
 simp only [eff, Option.map_none, Option.map_some, hx, hy, sliceEff, bound, ht, hz]; simp; omega
end
end Go.Pv
namespace Go.Pv
open Go Go.RowKit
section
variable {P : Program} {K : PS → Prop} {d : Nat} {op : Op} {ty : TypeId} {pos : String} {aft : Array Edge} {gd : Option (Nat × Bool)} {rest : List Oper} {r : Nat → PV} {h : Heap} {cnt : Nat → Nat} {ops : Array Oper} {i : Nat} {G : Nat → Bool} {dd : Bool}
end

end Go.Pv
