/- Feet. No conditions. -/
import Derived.Test.YtindehoegfiiaaaGreatDoorGro
import Derived.Test.YtindehoegfiiaaaGreatDoorSel
set_option linter.unusedSimpArgs false
set_option linter.unusedVariables false
set_option maxRecDepth 100000
namespace Go.Proofs.YtindehoegfiiaaaGreatDoor
open Go Go.Pv
/-! ### The record of ground and jack -/
structure Feet where
 ground : List Ground
 jack : Jack
 deriving Inhabited
def Feet.enc (x : Feet) : List PV := [.lit true 4 (x.ground.map Ground.enc), .int x.jack.least, .int x.jack.most, .int x.jack.sole]
structure Feet.ok (x : Feet) : Prop where
 ground : x.ground.length ≤ maxLen ∧ ∀ z ∈ x.ground, z.ok
 jack : x.jack.ok
theorem Feet.pure (x : Feet) : ∀ p ∈ x.enc, Pure p := fun p hp => by
 simp only [Feet.enc, List.mem_cons, List.not_mem_nil, or_false] at hp
 rcases hp with rfl | rfl | rfl | rfl
 · exact .lit _ _ _ fun row hr => pure_map Ground.pure row hr
 · exact .sc _
 · exact .sc _
 · exact .sc _
/-! ### The greatest and the least of a list -/
section
variable {l : List Int} {k : Nat} {m x : Int}
end
/-! ### Feet and jacks -/
theorem ci_clean (a : Int) : ∀ p ∈ ci a, Go.Pv.Clean p ∧ p.cell = true := fun p hp => by
 simp only [ci, List.mem_cons, List.not_mem_nil, or_false] at hp
 subst hp; exact ⟨.sc _, rfl⟩
theorem li_oe {h : Heap} {e : Int} {x : List Int × Int} (hx : x = ([], e)) : Out h (.tup [.nil, .int e]) (.tup [.lit false 1 (x.1.map ci), .int x.2]) := by
 subst hx; exact out_2 (.nil 1) (out_i rfl)
theorem li_o {h : Heap} {v : PV} {d : Nat} {x : List Int × Int} {l : List Int} (hv : SliceAt h d v 1 (l.map ci)) (hx : x = (l, 0)) : Out h (.tup [v, .int 0]) (.tup [.lit false 1 (x.1.map ci), .int x.2]) := by
 subst hx; exact out_2 (out_slice hv rfl (fun _ => rfl) ci_clean) (out_i rfl)
section
variable {g : Grid} {l : List Ground} {j : Jack} {x d n : Int} {f : Int → Int} {k : Nat} {xs : List Int} {s : Ground}
end
section
variable {g : Grid} {l : List Ground} {j : Jack} {d : Int} {f : Int → Int}
end
/-! ### The document's extensions -/
section
variable {g : Grid} {l : List Ground} {j : Jack} {d : Int}
end
end Go.Proofs.YtindehoegfiiaaaGreatDoor
