/- Demands, and what yields them. No conditions. -/
import Derived.Test.YtindehoegfiiaaaGreatDoorSha
set_option linter.unusedSimpArgs false
set_option linter.unusedVariables false
set_option maxRecDepth 100000
namespace Go.Proofs.YtindehoegfiiaaaGreatDoor
open Go Go.Pv
/-! ### What a call keeps of the memory -/
structure Keep (W : Key → Prop) (h h' : Heap) : Prop where
 same : ∀ k o, h k = some o → ¬ W k → h' k = some o
theorem Keep.trans {W : Key → Prop} {h h' h2 : Heap} (a : Keep W h h') (b : Keep W h' h2) : Keep W h h2 where
 same := fun k o hk hw => b.same k o (a.same k o hk hw) hw
abbrev KnownK (h : Heap) (c : Nat → Nat) : Prop := ∀ k o, h k = some o → k.2 < c k.1
theorem Keep.old {W : Key → Prop} {h h' : Heap} {c : Nat → Nat} (hkn : KnownK h c) (hag : ∀ k : Key, k.2 < c k.1 → h' k = h k) : Keep W h h' :=
 ⟨fun k o hk _ => (hag k (hkn k o hk)).trans hk⟩
/-- what holds between two yields: what is kept of the memory at the start, and the caller's own predicate -/
structure DmI (W : Key → Prop) (Hk : List (Int × Int) → Heap → Prop) (h0 : Heap) (p : List (Int × Int)) (h : Heap) : Prop where
 keep : Keep W h0 h
 hk : Hk p h
abbrev Stays (Hk : List (Int × Int) → Heap → Prop) : Prop := ∀ p h h', (∀ k o, h k = some o → h' k = some o) → Hk p h → Hk p h'
theorem DmI.old {W : Key → Prop} {Hk : List (Int × Int) → Heap → Prop} {h0 h h' : Heap} {p : List (Int × Int)} {c : Nat → Nat} (hst : Stays Hk) (hI : DmI W Hk h0 p h) (hkn : KnownK h c) (hag : ∀ k : Key, k.2 < c k.1 → h' k = h k) : DmI W Hk h0 p h' :=
 ⟨hI.keep.trans (.old hkn hag), hst p h h' (fun k o hk => (hag k (hkn k o hk)).trans hk) hI.hk⟩
/-! ### Demands -/
def zT (g : Grid) (t : Tie) : Int := g.levels.getD t.level.toNat 0
def mtB (g : Grid) (r : Rule) (i h : Int) (t : Tie) : Bool := decide ((h < zT g t ∧ zT g t ≤ h + r.every) ∧ (i - r.skip ≤ t.standard ∧ t.standard ≤ i + r.skip))
abbrev hts (g : Grid) : List Int := [0] ++ g.levels
section
variable {g : Grid} {r : Rule} {k j : Nat} {b : List (Int × Int)} {x : Int}
theorem hgd {l : List Int} (hx : l[j]? = some x) : l.getD j 0 = x := by rw [List.getD_eq_getElem?_getD, hx]; rfl
end
end Go.Proofs.YtindehoegfiiaaaGreatDoor
