/- Drawn regions whose places are told apart by more than the place in the text; calls that change memory in them; appends whose new key is known. -/
import Derived.Test.YtjmjiegplnfiiaaPvZ7
namespace Go.Pv
open Go Go.RowKit
section
variable {P : Program} {K : PS → Prop} {d : Nat} {op : Op} {ty : TypeId} {pos : String} {aft : Array Edge} {gd : Option (Nat × Bool)} {rest : List Oper} {r : Nat → PV} {h : Heap} {cnt : Nat → Nat} {ops : Array Oper} {i : Nat} {G : Nat → Bool} {dd : Bool} {vs : Key → Nat}

variable {x y : Operand} {t : TypeId}
end
end Go.Pv

/-! ### Who waits for whom, told by sets of numbers -/
namespace Go.Pv
open Go Go.RowKit
def staticR (ops : Array Oper) (R : List Nat) : Bool := okR ops R && (List.range ops.size).all fun j => (List.range j).all fun i =>
 (R.getD j 0).testBit i || (((do let a ← ops[i]?; let b ← ops[j]?; pure (a.apart ops b && (siteOf a != siteOf b || (a.dst.isNone && b.dst.isNone)))) : Option Bool).getD false)
theorem staticR_ok {ops : Array Oper} {R : List Nat} (h : staticR ops R = true) : staticB ops = true := by
 unfold staticR at h
 rw [Bool.and_eq_true] at h
 refine List.all_eq_true.2 fun j hj => List.all_eq_true.2 fun i hi => ?_
 have h1 := List.all_eq_true.1 (List.all_eq_true.1 h.2 j hj) i hi
 unfold pairB
 rw [Bool.or_eq_true] at h1 ⊢
 rcases h1 with h1 | h1
 · left; exact okR_waits h.1 ops.size j i (List.mem_range.1 hj) (List.mem_range.1 hj) h1
 · right; exact h1
theorem g_endR {P : Program} {K : PS → Prop} {r : Nat → PV} {h : Heap} {cnt : Nat → Nat} {ops : Array Oper} {i : Nat} {G : Nat → Bool} {dr : Bool} {ds : List Nat} (R : List Nat) (hs : staticR ops R = true) (hd : guardedOf ops.toList = ds) (hk : K ⟨deadT r ds, h, cnt⟩) : gRun P ops dr K [] i ⟨r, h, cnt⟩ G :=
 g_end (by rw [staticR_ok hs]; simp) hd hk
end Go.Pv
