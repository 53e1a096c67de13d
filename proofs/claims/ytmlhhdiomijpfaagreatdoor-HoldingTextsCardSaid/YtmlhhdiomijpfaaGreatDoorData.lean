/- The records of this program as they lie in cells. No conditions. -/
import Derived.Test.YtmlhhdiomijpfaaGreatDoorProg
import Derived.Test.YtmlhhdiomijpfaaGreatDoorPvGh
namespace Go.Proofs.YtmlhhdiomijpfaaGreatDoor
open Go Go.Pv
set_option maxRecDepth 100000
theorem mixed : Tryz.prog.follows .mixedOrders = true := by kernel_rfl
def cl (l : List Int) : List PV := [.lit true 1 (l.map ci)]
abbrev In64 (z : Int) : Prop := -9223372036854775808 ≤ z ∧ z ≤ 9223372036854775807
structure Tie where
 standard : Int
 level : Int
 deriving Inhabited, DecidableEq
def Tie.enc (x : Tie) : List PV := [.int x.standard, .int x.level]
structure Tie.ok (x : Tie) : Prop where
 standard : In64 x.standard
 level : In64 x.level
theorem Tie.pure (x : Tie) : ∀ p ∈ x.enc, Pure p := fun p hp => by
 simp only [Tie.enc, List.mem_cons, List.not_mem_nil, or_false] at hp
 rcases hp with rfl | rfl
 · exact .sc _
 · exact .sc _
theorem Tie.of {row : List PV} (h : CellsP Tryz.prog [3, 3] row) : ∃ x : Tie, row = x.enc ∧ x.ok := by
 obtain ⟨q0, l0, rfl, h0, h⟩ := h.cons_inv
 obtain ⟨q1, l1, rfl, h1, h⟩ := h.cons_inv
 obtain rfl := h.nil_inv
 obtain ⟨z0, rfl, w0⟩ := h0.int_inv (k := .i64) Tryz.underlying3
 obtain ⟨z1, rfl, w1⟩ := h1.int_inv (k := .i64) Tryz.underlying3
 exact ⟨⟨z0, z1⟩, rfl, ⟨wf64 w0, wf64 w1⟩⟩
theorem Tie.ofs {q : PV} (h : CellP Tryz.prog 22 q) : ∃ xs : List Tie, q = .lit true 2 (xs.map Tie.enc) ∧ xs.length ≤ maxLen ∧ ∀ x ∈ xs, x.ok := by
 obtain ⟨rows, rfl, h1, h2⟩ := h.slice_at (tys := [3, 3]) (n := 2) Tryz.underlying22 (by kernel_rfl) (by kernel_rfl)
 obtain ⟨xs, rfl, h3⟩ := rows_of fun row hr => Tie.of (h2 row hr)
 exact ⟨xs, rfl, by simpa using h1, h3⟩
theorem Tie.arg {q : PV} (h : ArgP Tryz.prog 22 q) : ∃ xs : List Tie, q = .lit true 2 (xs.map Tie.enc) ∧ xs.length ≤ maxLen ∧ ∀ x ∈ xs, x.ok := Tie.ofs (h.cell (by kernel_rfl))
structure Task where
 name : ByteArray
 trade : ByteArray
 member : Int
 place : Int
 minutes : Int
 needs : List Int
 deriving Inhabited, DecidableEq
structure Task.ok (x : Task) : Prop where
 name : x.name.size ≤ maxLen
 trade : x.trade.size ≤ maxLen
 member : In64 x.member
 place : In64 x.place
 minutes : In64 x.minutes
 needs : x.needs.length ≤ maxLen ∧ ∀ z ∈ x.needs, In64 z
end Go.Proofs.YtmlhhdiomijpfaaGreatDoor
