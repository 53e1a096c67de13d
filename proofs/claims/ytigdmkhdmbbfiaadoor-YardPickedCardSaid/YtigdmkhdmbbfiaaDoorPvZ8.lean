/- Drawn regions whose places are told apart by more than the place in the text; calls that change memory in them; appends whose new key is known. -/
import Derived.Test.YtigdmkhdmbbfiaaDoorPvZ7
namespace Go.Pv
open Go Go.RowKit
section
variable {P : Program} {K : PS → Prop} {d : Nat} {op : Op} {ty : TypeId} {pos : String} {aft : Array Edge} {gd : Option (Nat × Bool)} {rest : List Oper} {r : Nat → PV} {h : Heap} {cnt : Nat → Nat} {ops : Array Oper} {i : Nat} {G : Nat → Bool} {dd : Bool} {vs : Key → Nat}

def FitsV (vs : Key → Nat) (tr : List Foot) (ts : List Ft) : Prop := tr.length = ts.length ∧ ∀ (j : Nat) (x : Foot) (t : Ft), tr[j]? = some x → ts[j]? = some t → x.i = t.i ∧ (∀ k ∈ x.rd, vs k ∈ t.rd) ∧ (∀ k ∈ x.wr, vs k ∈ t.wr)
theorem FitsV.snoc {tr : List Foot} {ts : List Ft} {x : Foot} {t : Ft} (hf : FitsV vs tr ts) (h1 : x.i = t.i) (h2 : ∀ k ∈ x.rd, vs k ∈ t.rd) (h3 : ∀ k ∈ x.wr, vs k ∈ t.wr) : FitsV vs (tr ++ [x]) (ts ++ [t]) := by
  refine ⟨by simp [hf.1], fun j y u hy hu => ?_⟩
  rw [List.getElem?_append] at hy hu
  by_cases hj : j < tr.length
  · rw [if_pos hj] at hy
    rw [if_pos (by rw [← hf.1]; exact hj)] at hu
    exact hf.2 j y u hy hu
  · rw [if_neg hj] at hy
    rw [if_neg (by rw [← hf.1]; exact hj)] at hu
    rw [hf.1] at hy
    cases hq : j - ts.length with
    | zero => rw [hq] at hy hu; simp at hy hu; subst hy; subst hu; exact ⟨h1, h2, h3⟩
    | succ m => rw [hq] at hy; simp at hy
variable {x y : Operand} {t : TypeId}
end
end Go.Pv

/-! ### Who waits for whom, told by sets of numbers -/
namespace Go.Pv
open Go Go.RowKit
def staticR (ops : Array Oper) (R : List Nat) : Bool := okR ops R && (List.range ops.size).all fun j => (List.range j).all fun i =>
  (R.getD j 0).testBit i || (((do let a ← ops[i]?; let b ← ops[j]?; pure (a.apart ops b && (siteOf a != siteOf b || (a.dst.isNone && b.dst.isNone)))) : Option Bool).getD false)
theorem staticR_ok {ops : Array Oper} {R : List Nat} (h : staticR ops R = true) : staticB ops = true := by
  unfold staticR at h
  rw [Bool.and_eq_true] at h
  refine List.all_eq_true.2 fun j hj => List.all_eq_true.2 fun i hi => ?_
  have h1 := List.all_eq_true.1 (List.all_eq_true.1 h.2 j hj) i hi
  unfold pairB
  rw [Bool.or_eq_true] at h1 ⊢
  rcases h1 with h1 | h1
  · left; exact okR_waits h.1 ops.size j i (List.mem_range.1 hj) (List.mem_range.1 hj) h1
  · right; exact h1
theorem g_endR {P : Program} {K : PS → Prop} {r : Nat → PV} {h : Heap} {cnt : Nat → Nat} {ops : Array Oper} {i : Nat} {G : Nat → Bool} {dr : Bool} {ds : List Nat} (R : List Nat) (hs : staticR ops R = true) (hd : guardedOf ops.toList = ds) (hk : K ⟨deadT r ds, h, cnt⟩) : gRun P ops dr K [] i ⟨r, h, cnt⟩ G :=
  g_end (by rw [staticR_ok hs]; simp) hd hk
end Go.Pv
