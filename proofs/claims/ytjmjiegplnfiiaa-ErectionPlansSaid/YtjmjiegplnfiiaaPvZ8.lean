/- Drawn regions whose places are told apart by more than the place in the text; calls that change memory in them; appends whose new key is known. -/
import Derived.Test.YtjmjiegplnfiiaaPvZ7
namespace Go.Pv
open Go Go.RowKit
section
variable {P : Program} {K : PS → Prop} {d : Nat} {op : Op} {ty : TypeId} {pos : String} {aft : Array Edge} {gd : Option (Nat × Bool)} {rest : List Oper} {r : Nat → PV} {h : Heap} {cnt : Nat → Nat} {ops : Array Oper} {i : Nat} {G : Nat → Bool} {dd : Bool} {vs : Key → Nat}

def FitsV (vs : Key → Nat) (tr : List Foot) (ts : List Ft) : Prop := tr.length = ts.length ∧ ∀ (j : Nat) (x : Foot) (t : Ft), tr[j]? = some x → ts[j]? = some t → x.i = t.i ∧ (∀ k ∈ x.rd, vs k ∈ t.rd) ∧ (∀ k ∈ x.wr, vs k ∈ t.wr)
theorem FitsV.snoc {tr : List Foot} {ts : List Ft} {x : Foot} {t : Ft} (hf : FitsV vs tr ts) (h1 : x.i = t.i) (h2 : ∀ k ∈ x.rd, vs k ∈ t.rd) (h3 : ∀ k ∈ x.wr, vs k ∈ t.wr) : FitsV vs (tr ++ [x]) (ts ++ [t]) := by
  refine ⟨by simp [hf.1], fun j y u hy hu => ?_⟩
  rw [List.getElem?_append] at hy hu
  by_cases hj : j < tr.length
  · rw [if_pos hj] at hy
    rw [if_pos (by rw [← hf.1]; exact hj)] at hu
    exact hf.2 j y u hy hu
  · rw [if_neg hj] at hy
    rw [if_neg (by rw [← hf.1]; exact hj)] at hu
    rw [hf.1] at hy
    cases hq : j - ts.length with
    | zero => rw [hq] at hy hu; simp at hy hu; subst hy; subst hu; exact ⟨h1, h2, h3⟩
    | succ m => rw [hq] at hy; simp at hy
variable {x y : Operand} {t : TypeId}
end
end Go.Pv

/-! ### Who waits for whom, told by sets of numbers -/
namespace Go.Pv
open Go Go.RowKit
end Go.Pv
