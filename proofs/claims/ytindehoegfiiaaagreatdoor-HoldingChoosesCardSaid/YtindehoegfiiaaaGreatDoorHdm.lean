/- Held by the reference; lists of demands that are the same. No conditions. -/
import Derived.Test.YtindehoegfiiaaaGreatDoorRdm
set_option linter.unusedSimpArgs false
set_option linter.unusedVariables false
set_option maxRecDepth 100000
namespace Go.Proofs.YtindehoegfiiaaaGreatDoor
open Go Go.Pv
section
variable {g : Grid} {r : Rule} {l : List Tie} {k : Nat} {y : Demand} {h : Heap}
theorem dmd_pl {e : Int × Int} : (dmd g r l e).places.length ≤ l.length := plT_len
theorem dmX_pl (hd : y ∈ dmX g r l) : y.places.length ≤ l.length := by
 by_cases h : allE g r l = 0
 · rw [dmX_0 h] at hd
   obtain ⟨e, _, rfl⟩ := List.mem_map.1 hd
   exact dmd_pl
 · rw [dmX_e h] at hd; cases hd
end

end Go.Proofs.YtindehoegfiiaaaGreatDoor
