import Derived.Test.YtjihcgcbnbaclaaGreatDoorRTerms
import Derived.Test.YtjihcgcbnbaclaaGreatDoorRDataL
import Derived.Test.YtjihcgcbnbaclaaGreatDoorPvGh
set_option linter.unusedSimpArgs false
set_option linter.unusedVariables false
set_option maxRecDepth 100000
namespace Go.Proofs.YtjihcgcbnbaclaaGreatDoor.Y9
open Go Go.Pv Go.Proofs.YtjihcgcbnbaclaaGreatDoor
theorem move_clean (a : Move) (q : PV) (hq : q ∈ a.enc) : Go.Pv.Clean q ∧ q.cell = true := by
 simp only [Move.enc, List.mem_cons, List.not_mem_nil, or_false] at hq;rcases hq with rfl | rfl | rfl | rfl <;> exact ⟨.sc _, rfl⟩
theorem lot_clean (a : Lot) (q : PV) (hq : q ∈ a.enc) : Go.Pv.Clean q ∧ q.cell = true := by
 simp only [Lot.enc, List.mem_cons, List.not_mem_nil, or_false] at hq;rcases hq with rfl | rfl | rfl | rfl | rfl <;> exact ⟨.sc _, rfl⟩
end Go.Proofs.YtjihcgcbnbaclaaGreatDoor.Y9
