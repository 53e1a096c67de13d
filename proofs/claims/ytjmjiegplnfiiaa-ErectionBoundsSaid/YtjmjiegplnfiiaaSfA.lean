import Derived.Test.YtjmjiegplnfiiaaCrwA
/- The error of a scaffold, as the reference tells it. No conditions. -/
set_option linter.unusedSimpArgs false
set_option linter.unusedVariables false
set_option maxRecDepth 100000
namespace Go.Proofs.Ytjmjiegplnfiiaa
open Go Go.Pv
/-! ### The first error of a list -/
section
variable {α : Type} {E : Nat → α → Int} {R : Int} {xs : List α} {k : Nat} {x : α}
end

/-! ### Scaffolds -/
section
variable {s : Scaffold} {ns : List Node} {n : Node} {m x : Member} {k : Nat}
end
end Go.Proofs.Ytjmjiegplnfiiaa

/- A scaffold is read: members. No conditions. -/
set_option linter.unusedSimpArgs false
set_option linter.unusedVariables false
set_option maxRecDepth 100000
namespace Go.Proofs.Ytjmjiegplnfiiaa
open Go Go.Pv
section
variable {P : Program} {ρ : Operand → PV} {h : Heap} {key : Key} {x y : Operand} {t : TypeId} {α β : Type} [DecidableEq α] {f : α → PV} {g : β → PV}
end
theorem old_ne {c0 : Nat → Nat} {k' : Key} {d g : Nat} (hk : k'.2 < c0 k'.1) (hg : g = c0 d) : k' ≠ (d, g) := fun e => by
 subst e; simp only at hk; omega
theorem known_at {r : Nat → PV} {h : Heap} {cnt : Nat → Nat} (hk : Known ⟨r, h, cnt⟩) {d g : Nat} {o : PObj} (h1 : h (d, g) = some o) : g < cnt d := hk (d, g) o h1
end Go.Proofs.Ytjmjiegplnfiiaa
