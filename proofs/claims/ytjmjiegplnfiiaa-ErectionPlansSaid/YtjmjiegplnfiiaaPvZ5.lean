/- More operations at states that are written out: slices compared with nil, records stored into own slices. -/
import Derived.Test.YtjmjiegplnfiiaaPvZ4
namespace Go.Pv
open Go
section
variable {P : Program} {ρ : Operand → PV} {h : Heap} {key : Key} {x y : Operand} {t t' : TypeId}

theorem e_nileq {tt : Bool} {sz : Nat} {rows : Rows} (hx : ρ x = .lit tt sz rows) (hn : rows ≠ []) (hy : isNilC y = true) (ht : isSliceTy P t = true) : eff P ρ h key (.binOp .eql t x y t') = ⟨True, .bool false, [], [], false⟩ := by
  cases rows with
  | nil => exact absurd rfl hn
  | cons row rows => simp only [eff, hx, hy, binEffN, nilEff, ht]; simp

theorem e_ixaR0 {k : Key} {sz len : Nat} {kd : IntKind} {i : Int} (hx : ρ x = .ref k sz 0 len) (hy : ρ y = .sc (.int kd i)) (ht : sliceOk P t = true) (hs : tySize P (elemTy P t) = sz) (hi : 0 ≤ i ∧ i < len) :
    eff P ρ h key (.indexAddr t x y) = ⟨True, .ptr k sz i.toNat 0, [], [], false⟩ := by
  have := e_ixaR (P := P) (h := h) (key := key) hx hy ht hs hi
  rw [Nat.zero_add] at this; exact this

end

section
variable {h h' : Heap} {d sz : Nat} {v : PV} {rows : Rows}
/-- A slice that was just made, in a heap where nothing else has changed. -/
theorem SliceAt.mk {g n : Nat} (hk : h (d, g) = some (.rows sz rows)) (hn : rows.length = n) : SliceAt h d (.ref (d, g) sz 0 n) sz rows := .ofRef hk hn
end

end Go.Pv
