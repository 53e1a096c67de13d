import Derived.Test.YtjihcgcbnbaclaaGreatDoorProg
import Derived.Test.YtjihcgcbnbaclaaGreatDoorPvGg
set_option linter.unusedSimpArgs false
set_option linter.unusedVariables false
namespace Go.Proofs.YtjihcgcbnbaclaaGreatDoor.Y8
open Go Go.Pv
set_option maxRecDepth 100000
theorem mixed : Tryz.prog.follows .mixedOrders = true := by kernel_rfl
structure Stock where
 part : ByteArray
 place : Int
 state : Int
 count : Int
 deriving Inhabited, DecidableEq
def Stock.enc (x : Stock) : List PV := [.str x.part, .int x.place, .int x.state, .int x.count]
structure Stock.ok (x : Stock) : Prop where
 part : x.part.size ≤ maxLen
 place : -9223372036854775808 ≤ x.place ∧ x.place ≤ 9223372036854775807
 state : -9223372036854775808 ≤ x.state ∧ x.state ≤ 9223372036854775807
 count : -9223372036854775808 ≤ x.count ∧ x.count ≤ 9223372036854775807
theorem Stock.pure (x : Stock) : ∀ p ∈ x.enc, Pure p := fun p hp => by
 simp only [Stock.enc, List.mem_cons, List.not_mem_nil, or_false] at hp;rcases hp with rfl | rfl | rfl | rfl <;> exact .sc _
theorem Stock.of {row : List PV} (h : CellsP Tryz.prog [9, 3, 3, 3] row) : ∃ x : Stock, row = x.enc ∧ x.ok := by
 obtain ⟨q0, l0, rfl, h0, h⟩ := h.cons_inv;obtain ⟨q1, l1, rfl, h1, h⟩ := h.cons_inv;obtain ⟨q2, l2, rfl, h2, h⟩ := h.cons_inv;obtain ⟨q3, l3, rfl, h3, h⟩ := h.cons_inv;obtain rfl := h.nil_inv;obtain ⟨z0, rfl, w0⟩ := h0.str_inv Tryz.underlying9;obtain ⟨z1, rfl, w1⟩ := h1.int_inv (k := .i64) Tryz.underlying3;obtain ⟨z2, rfl, w2⟩ := h2.int_inv (k := .i64) Tryz.underlying3;obtain ⟨z3, rfl, w3⟩ := h3.int_inv (k := .i64) Tryz.underlying3;exact ⟨⟨z0, z1, z2, z3⟩, rfl, ⟨w0, wf64 w1, wf64 w2, wf64 w3⟩⟩
structure Movement where
 part : ByteArray
 fro : Int
 til : Int
 before : Int
 after : Int
 count : Int
 deriving Inhabited, DecidableEq
def Movement.enc (x : Movement) : List PV := [.str x.part, .int x.fro, .int x.til, .int x.before, .int x.after, .int x.count]
structure Movement.ok (x : Movement) : Prop where
 part : x.part.size ≤ maxLen
 fro : -9223372036854775808 ≤ x.fro ∧ x.fro ≤ 9223372036854775807
 til : -9223372036854775808 ≤ x.til ∧ x.til ≤ 9223372036854775807
 before : -9223372036854775808 ≤ x.before ∧ x.before ≤ 9223372036854775807
 after : -9223372036854775808 ≤ x.after ∧ x.after ≤ 9223372036854775807
 count : -9223372036854775808 ≤ x.count ∧ x.count ≤ 9223372036854775807
theorem Movement.pure (x : Movement) : ∀ p ∈ x.enc, Pure p := fun p hp => by
 simp only [Movement.enc, List.mem_cons, List.not_mem_nil, or_false] at hp;rcases hp with rfl | rfl | rfl | rfl | rfl | rfl <;> exact .sc _
structure Shelf where
 part : ByteArray
 place : Int
 state : Int
 deriving Inhabited, DecidableEq
def Shelf.enc (x : Shelf) : List PV := [.str x.part, .int x.place, .int x.state]
structure Shelf.ok (x : Shelf) : Prop where
 part : x.part.size ≤ maxLen
 place : -9223372036854775808 ≤ x.place ∧ x.place ≤ 9223372036854775807
 state : -9223372036854775808 ≤ x.state ∧ x.state ≤ 9223372036854775807
theorem Shelf.of {row : List PV} (h : CellsP Tryz.prog [9, 3, 3] row) : ∃ x : Shelf, row = x.enc ∧ x.ok := by
 obtain ⟨q0, l0, rfl, h0, h⟩ := h.cons_inv;obtain ⟨q1, l1, rfl, h1, h⟩ := h.cons_inv;obtain ⟨q2, l2, rfl, h2, h⟩ := h.cons_inv;obtain rfl := h.nil_inv;obtain ⟨z0, rfl, w0⟩ := h0.str_inv Tryz.underlying9;obtain ⟨z1, rfl, w1⟩ := h1.int_inv (k := .i64) Tryz.underlying3;obtain ⟨z2, rfl, w2⟩ := h2.int_inv (k := .i64) Tryz.underlying3;exact ⟨⟨z0, z1, z2⟩, rfl, ⟨w0, wf64 w1, wf64 w2⟩⟩
end Go.Proofs.YtjihcgcbnbaclaaGreatDoor.Y8
