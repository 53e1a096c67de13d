/- Own rows of truth values; entries of own maps that are made and stored in two steps. -/
import Derived.Test.YtjmjiegplnfiiaaPvZ9
namespace Go.Pv
open Go Go.RowKit
def cbo (b : Bool) : List PV := [.bool b]
theorem cbo_pure (b : Bool) : ∀ p ∈ cbo b, Pure p := fun p hp => by simp [cbo] at hp; subst hp; exact .sc _
section
variable {P : Program} {ρ : Operand → PV} {h : Heap} {key : Key} {x y : Operand} {t : TypeId}
theorem e_mkB {l c : Operand} {L : Int} {n : Nat} (hx : ρ l = .int L) (hy : ρ c = .int L) (hn : L = (n : Int)) (hz : zeroCellsOf P (elemTy P t) = some [.bool false]) (ho : sliceOk P t = true) (hs : tySize P (elemTy P t) = 1) (hb : P.bytesOf (elemTy P t) < 2 ^ 15) (hl : n < 2 ^ 32) :
   eff P ρ h key (.makeSlice t l c) = ⟨True, .ref key 1 0 n, [(key, some (.rows 1 ((List.replicate n false).map cbo)))], [], true⟩ := by
 subst hn
 have h1 : (List.replicate n false).map cbo = List.replicate n [PV.bool false] := by simp [cbo]
 simp only [eff, hx, hy, makeSliceEff, hz, ho, hs, hb, h1]
 simp [PV.cell]; omega
theorem e_storeB {k : Key} {zs : List Bool} {i : Nat} {a : Bool} (hx : ρ x = .ptr k 1 i 0) (hk : h k = some (.rows 1 (zs.map cbo))) (hy : ρ y = .bool a) (hi : i < zs.length) (hs : tySize P t = 1) (ht : tyOk P t = true) :
   eff P ρ h key (.store t x y) = ⟨True, .dead, [(k, some (.rows 1 ((zs.set i a).map cbo)))], [k], false⟩ := by
 have h1 : setRow (zs.map cbo) i 0 [.bool a] = (zs.set i a).map cbo := by
   unfold setRow setAt
   rw [List.map_set]
   congr 1
   simp [List.getD_eq_getElem?_getD, hi, cbo]
 simp only [eff, storeEff, hx, hk, hy, hs, ht, pcells]
 rw [h1]
 simp [hi, PV.cell]
end
/-! ### Entries that are made, and stored -/
section
variable {α β : Type} [DecidableEq α] {f : α → PV} {g : β → PV}
end
section
variable {α β : Type} [DecidableEq α] {f : α → PV} {g : β → PV}
variable {P : Program} {K : PS → Prop} {d : Nat} {ty : TypeId} {pos : String} {aft : Array Edge} {gd : Option (Nat × Bool)} {rest : List Oper} {r : Nat → PV} {h : Heap} {cnt : Nat → Nat} {ops : Array Oper} {i : Nat} {G : Nat → Bool} {dd : Bool} {x y w : Operand} {t : TypeId}
end
end Go.Pv
