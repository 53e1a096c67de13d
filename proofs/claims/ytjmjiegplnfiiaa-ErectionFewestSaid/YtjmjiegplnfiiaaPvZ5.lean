/- More operations at states that are written out: slices compared with nil, records stored into own slices. -/
import Derived.Test.YtjmjiegplnfiiaaPvZ4
namespace Go.Pv
open Go
section
variable {P : Program} {ρ : Operand → PV} {h : Heap} {key : Key} {x y : Operand} {t t' : TypeId}

theorem e_ixaR0 {k : Key} {sz len : Nat} {kd : IntKind} {i : Int} (hx : ρ x = .ref k sz 0 len) (hy : ρ y = .sc (.int kd i)) (ht : sliceOk P t = true) (hs : tySize P (elemTy P t) = sz) (hi : 0 ≤ i ∧ i < len) :
   eff P ρ h key (.indexAddr t x y) = ⟨True, .ptr k sz i.toNat 0, [], [], false⟩ := by
 have := e_ixaR (P := P) (h := h) (key := key) hx hy ht hs hi
 rw [Nat.zero_add] at this; exact this

end

section
variable {h h' : Heap} {d sz : Nat} {v : PV} {rows : Rows}
end

end Go.Pv
