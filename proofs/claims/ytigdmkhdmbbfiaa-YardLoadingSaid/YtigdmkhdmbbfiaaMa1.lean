/- Own tables: plain laws. No conditions. -/
import Derived.Test.YtigdmkhdmbbfiaaCu1
import Derived.Test.YtigdmkhdmbbfiaaPvGh
set_option linter.unusedSimpArgs false
set_option linter.unusedVariables false
set_option maxRecDepth 100000
namespace Go.Proofs.Ytigdmkhdmbbfiaa
open Go Go.Pv
/-! ### Own tables: rows of their own block behind an own row of slices -/
section
variable {P : Program} {ρ : Operand → PV} {h : Heap} {key : Key} {x y : Operand} {t : TypeId}
theorem e_mkV {l c : Operand} {L : Int} {n : Nat} (hx : ρ l = .int L) (hy : ρ c = .int L) (hn : L = (n : Int)) (hz : zeroCellsOf P (elemTy P t) = some [.nil]) (ho : sliceOk P t = true) (hs : tySize P (elemTy P t) = 1) (hb : P.bytesOf (elemTy P t) < 2 ^ 15) (hl : n < 2 ^ 32) :
   eff P ρ h key (.makeSlice t l c) = ⟨True, .ref key 1 0 n, [(key, some (.rows 1 ((List.replicate n PV.nil).map cv)))], [], true⟩ := by
 subst hn
 have h1 : (List.replicate n PV.nil).map cv = List.replicate n [PV.nil] := by simp [cv]
 simp only [eff, hx, hy, makeSliceEff, hz, ho, hs, hb, h1]
 simp [PV.cell]; omega
theorem e_loadV {k : Key} {zs : List PV} {i : Nat} {v : PV} (hx : ρ x = .ptr k 1 i 0) (hk : h k = some (.rows 1 (zs.map cv))) (hg : tyAgg P t = false) (hs : tySize P t = 1) (ht : tyOk P t = true) (ha : zs[i]? = some v) :
   eff P ρ h key (.load t x) = ⟨True, v, [], [k], false⟩ := by
 have hi : i < zs.length := (List.getElem?_eq_some_iff.1 ha).1
 exact e_loadH hx hk hg hs ht (by simpa using hi) (by omega) ((cell_map ha _).trans rfl)
theorem e_storeV {k : Key} {zs : List PV} {i : Nat} {v : PV} (hx : ρ x = .ptr k 1 i 0) (hk : h k = some (.rows 1 (zs.map cv))) (hy : ρ y = v) (hp : pcells v = [v]) (hc : v.cell = true) (hi : i < zs.length) (hs : tySize P t = 1) (ht : tyOk P t = true) :
   eff P ρ h key (.store t x y) = ⟨True, .dead, [(k, some (.rows 1 ((zs.set i v).map cv)))], [k], false⟩ := by
 have h1 : setRow (zs.map cv) i 0 [v] = (zs.set i v).map cv := by
   unfold setRow setAt
   rw [List.map_set]
   congr 1
   simp [List.getD_eq_getElem?_getD, hi, cv]
 simp only [eff, storeEff, hx, hk, hy, hp, hs, ht, h1]
 simp [hi, hc]
end
def mrows (s D n : Nat) (gs : List Nat) : List PV := gs.map (fun g => PV.ref (s, g) 1 0 D) ++ List.replicate (n - gs.length) PV.nil
structure Mat {α : Type} (h : Heap) (k0 : Key) (s n D : Nat) (f : α → List PV) (gs : List Nat) (b : Nat → Nat → α) : Prop where
 le : gs.length ≤ n
 nd : gs.Nodup
 out : h k0 = some (.rows 1 ((mrows s D n gs).map cv))
 inn : ∀ i g, gs[i]? = some g → h (s, g) = some (.rows 1 (((List.range D).map (b i)).map f))
section
variable {α : Type} {h h' : Heap} {k0 : Key} {s n D : Nat} {f : α → List PV} {gs : List Nat} {b b' : Nat → Nat → α} {i j g : Nat} {w z : α}
end

end Go.Proofs.Ytigdmkhdmbbfiaa
