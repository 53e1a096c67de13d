/- More operations at states that are written out: slices compared with nil, records stored into own slices. -/
import Derived.Test.YtigdmkhdmbbfiaaPvZ4
namespace Go.Pv
open Go
section
variable {P : Program} {ρ : Operand → PV} {h : Heap} {key : Key} {x y : Operand} {t t' : TypeId}

theorem e_nileq {tt : Bool} {sz : Nat} {rows : Rows} (hx : ρ x = .lit tt sz rows) (hn : rows ≠ []) (hy : isNilC y = true) (ht : isSliceTy P t = true) : eff P ρ h key (.binOp .eql t x y t') = ⟨True, .bool false, [], [], false⟩ := by
  cases rows with
  | nil => exact absurd rfl hn
  | cons row rows => simp only [eff, hx, hy, binEffN, nilEff, ht]; simp

theorem e_ixaR0 {k : Key} {sz len : Nat} {kd : IntKind} {i : Int} (hx : ρ x = .ref k sz 0 len) (hy : ρ y = .sc (.int kd i)) (ht : sliceOk P t = true) (hs : tySize P (elemTy P t) = sz) (hi : 0 ≤ i ∧ i < len) :
    eff P ρ h key (.indexAddr t x y) = ⟨True, .ptr k sz i.toNat 0, [], [], false⟩ := by
  have := e_ixaR (P := P) (h := h) (key := key) hx hy ht hs hi
  rw [Nat.zero_add] at this; exact this

theorem e_storeR {α : Type} {f : α → List PV} {xs : List α} {k : Key} {sz i : Nat} {a : α} (hx : ρ x = .ptr k sz i 0) (hk : h k = some (.rows sz (xs.map f))) (hy : ρ y = .agg (f a)) (hi : i < xs.length) (hl : ∀ a, (f a).length = sz) (hs : tySize P t = sz) (hc : (f a).all PV.cell = true) (ht : tyOk P t = true) :
    eff P ρ h key (.store t x y) = ⟨True, .dead, [(k, some (.rows sz ((xs.set i a).map f)))], [k], false⟩ := by
  have h1 : setRow (xs.map f) i 0 (f a) = (xs.set i a).map f := by
    unfold setRow setAt
    rw [List.map_set]
    congr 1
    have h2 : ((xs.map f).getD i []).length = sz := by
      rw [List.getD_eq_getElem?_getD, List.getElem?_map, List.getElem?_eq_getElem hi]
      exact hl _
    rw [List.take_zero, List.nil_append, Nat.zero_add, List.drop_eq_nil_of_le (by rw [h2, hl a]; exact Nat.le_refl _), List.append_nil]
  simp only [eff, storeEff, hx, hk, hy, pcells, hs, hc, ht, h1, hl a]
  simp [hi]
end

section
variable {h h' : Heap} {d sz : Nat} {v : PV} {rows : Rows}
/-- A slice that was just made, in a heap where nothing else has changed. -/
theorem SliceAt.mk {g n : Nat} (hk : h (d, g) = some (.rows sz rows)) (hn : rows.length = n) : SliceAt h d (.ref (d, g) sz 0 n) sz rows := .ofRef hk hn
theorem out_nil {α : Type} {f : α → List PV} : Out h .nil (.lit false sz (([] : List α).map f)) := .nil sz
end

theorem endH1 {P : Program} {R : PV → Heap → (Nat → Nat) → Prop} {r : Nat → PV} {h : Heap} {cnt : Nat → Nat} {t : Nat} {v : PV} (hv : r t = v) (hR : R v h cnt) : endQ P [.tmp t] R .ret ⟨r, h, cnt⟩ := end1 hv hR
end Go.Pv
