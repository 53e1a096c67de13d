import Derived.Test.YtjihcgcbnbaclaaGreatDoorRDayA
import Derived.Test.YtjihcgcbnbaclaaGreatDoorPvGg
set_option linter.unusedSimpArgs false
set_option linter.unusedVariables false
namespace Go.Proofs.YtjihcgcbnbaclaaGreatDoor.Y9
open Go Go.Pv
set_option maxRecDepth 100000
structure Ev where
 day : Int
 kind : Int
 platform : ByteArray
 number : Int
 passed : Bool
 grave : Bool
 deriving Inhabited, DecidableEq
def Ev.enc (x : Ev) : List PV := [.int x.day, .int x.kind, .str x.platform, .int x.number, .bool x.passed, .bool x.grave]
structure Ev.ok (x : Ev) : Prop where
 day : -9223372036854775808 ≤ x.day ∧ x.day ≤ 9223372036854775807
 kind : -9223372036854775808 ≤ x.kind ∧ x.kind ≤ 9223372036854775807
 platform : x.platform.size ≤ maxLen
 number : -9223372036854775808 ≤ x.number ∧ x.number ≤ 9223372036854775807
theorem Ev.pure (x : Ev) : ∀ p ∈ x.enc, Pure p := fun p hp => by
 simp only [Ev.enc, List.mem_cons, List.not_mem_nil, or_false] at hp;rcases hp with rfl | rfl | rfl | rfl | rfl | rfl <;> exact .sc _
theorem Ev.of {row : List PV} (h : CellsP Tryz.prog [3, 3, 9, 3, 4, 4] row) : ∃ x : Ev, row = x.enc ∧ x.ok := by
 obtain ⟨q0, l0, rfl, h0, h⟩ := h.cons_inv;obtain ⟨q1, l1, rfl, h1, h⟩ := h.cons_inv;obtain ⟨q2, l2, rfl, h2, h⟩ := h.cons_inv;obtain ⟨q3, l3, rfl, h3, h⟩ := h.cons_inv;obtain ⟨q4, l4, rfl, h4, h⟩ := h.cons_inv;obtain ⟨q5, l5, rfl, h5, h⟩ := h.cons_inv;obtain rfl := h.nil_inv;obtain ⟨z0, rfl, w0⟩ := h0.int_inv (k := .i64) Tryz.underlying3;obtain ⟨z1, rfl, w1⟩ := h1.int_inv (k := .i64) Tryz.underlying3;obtain ⟨z2, rfl, w2⟩ := h2.str_inv Tryz.underlying9;obtain ⟨z3, rfl, w3⟩ := h3.int_inv (k := .i64) Tryz.underlying3;obtain ⟨z4, rfl⟩ := h4.bool_inv Tryz.underlying4;obtain ⟨z5, rfl⟩ := h5.bool_inv Tryz.underlying4;exact ⟨⟨z0, z1, z2, z3, z4, z5⟩, rfl, ⟨wf64 w0, wf64 w1, w2, wf64 w3⟩⟩
structure Term where
 part : ByteArray
 week : Int
 least : Int
 price : Int
 deriving Inhabited, DecidableEq
def Term.enc (x : Term) : List PV := [.str x.part, .int x.week, .int x.least, .int x.price]
structure Term.ok (x : Term) : Prop where
 part : x.part.size ≤ maxLen
 week : -9223372036854775808 ≤ x.week ∧ x.week ≤ 9223372036854775807
 least : -9223372036854775808 ≤ x.least ∧ x.least ≤ 9223372036854775807
 price : -9223372036854775808 ≤ x.price ∧ x.price ≤ 9223372036854775807
theorem Term.pure (x : Term) : ∀ p ∈ x.enc, Pure p := fun p hp => by
 simp only [Term.enc, List.mem_cons, List.not_mem_nil, or_false] at hp;rcases hp with rfl | rfl | rfl | rfl <;> exact .sc _
theorem Term.of {row : List PV} (h : CellsP Tryz.prog [9, 3, 3, 3] row) : ∃ x : Term, row = x.enc ∧ x.ok := by
 obtain ⟨q0, l0, rfl, h0, h⟩ := h.cons_inv;obtain ⟨q1, l1, rfl, h1, h⟩ := h.cons_inv;obtain ⟨q2, l2, rfl, h2, h⟩ := h.cons_inv;obtain ⟨q3, l3, rfl, h3, h⟩ := h.cons_inv;obtain rfl := h.nil_inv;obtain ⟨z0, rfl, w0⟩ := h0.str_inv Tryz.underlying9;obtain ⟨z1, rfl, w1⟩ := h1.int_inv (k := .i64) Tryz.underlying3;obtain ⟨z2, rfl, w2⟩ := h2.int_inv (k := .i64) Tryz.underlying3;obtain ⟨z3, rfl, w3⟩ := h3.int_inv (k := .i64) Tryz.underlying3;exact ⟨⟨z0, z1, z2, z3⟩, rfl, ⟨w0, wf64 w1, wf64 w2, wf64 w3⟩⟩
structure Move where
 day : Int
 kind : Int
 part : ByteArray
 count : Int
 deriving Inhabited, DecidableEq
def Move.enc (x : Move) : List PV := [.int x.day, .int x.kind, .str x.part, .int x.count]
structure Move.ok (x : Move) : Prop where
 day : -9223372036854775808 ≤ x.day ∧ x.day ≤ 9223372036854775807
 kind : -9223372036854775808 ≤ x.kind ∧ x.kind ≤ 9223372036854775807
 part : x.part.size ≤ maxLen
 count : -9223372036854775808 ≤ x.count ∧ x.count ≤ 9223372036854775807
theorem Move.pure (x : Move) : ∀ p ∈ x.enc, Pure p := fun p hp => by
 simp only [Move.enc, List.mem_cons, List.not_mem_nil, or_false] at hp;rcases hp with rfl | rfl | rfl | rfl <;> exact .sc _
theorem Move.of {row : List PV} (h : CellsP Tryz.prog [3, 3, 9, 3] row) : ∃ x : Move, row = x.enc ∧ x.ok := by
 obtain ⟨q0, l0, rfl, h0, h⟩ := h.cons_inv;obtain ⟨q1, l1, rfl, h1, h⟩ := h.cons_inv;obtain ⟨q2, l2, rfl, h2, h⟩ := h.cons_inv;obtain ⟨q3, l3, rfl, h3, h⟩ := h.cons_inv;obtain rfl := h.nil_inv;obtain ⟨z0, rfl, w0⟩ := h0.int_inv (k := .i64) Tryz.underlying3;obtain ⟨z1, rfl, w1⟩ := h1.int_inv (k := .i64) Tryz.underlying3;obtain ⟨z2, rfl, w2⟩ := h2.str_inv Tryz.underlying9;obtain ⟨z3, rfl, w3⟩ := h3.int_inv (k := .i64) Tryz.underlying3;exact ⟨⟨z0, z1, z2, z3⟩, rfl, ⟨wf64 w0, wf64 w1, w2, wf64 w3⟩⟩
structure Lot where
 part : ByteArray
 count : Int
 inn : Int
 day : Int
 out : Int
 deriving Inhabited, DecidableEq
def Lot.enc (x : Lot) : List PV := [.str x.part, .int x.count, .int x.inn, .int x.day, .int x.out]
structure Lot.ok (x : Lot) : Prop where
 part : x.part.size ≤ maxLen
 count : -9223372036854775808 ≤ x.count ∧ x.count ≤ 9223372036854775807
 inn : -9223372036854775808 ≤ x.inn ∧ x.inn ≤ 9223372036854775807
 day : -9223372036854775808 ≤ x.day ∧ x.day ≤ 9223372036854775807
 out : -9223372036854775808 ≤ x.out ∧ x.out ≤ 9223372036854775807
theorem Lot.pure (x : Lot) : ∀ p ∈ x.enc, Pure p := fun p hp => by
 simp only [Lot.enc, List.mem_cons, List.not_mem_nil, or_false] at hp;rcases hp with rfl | rfl | rfl | rfl | rfl <;> exact .sc _
theorem Lot.of {row : List PV} (h : CellsP Tryz.prog [9, 3, 3, 3, 3] row) : ∃ x : Lot, row = x.enc ∧ x.ok := by
 obtain ⟨q0, l0, rfl, h0, h⟩ := h.cons_inv;obtain ⟨q1, l1, rfl, h1, h⟩ := h.cons_inv;obtain ⟨q2, l2, rfl, h2, h⟩ := h.cons_inv;obtain ⟨q3, l3, rfl, h3, h⟩ := h.cons_inv;obtain ⟨q4, l4, rfl, h4, h⟩ := h.cons_inv;obtain rfl := h.nil_inv;obtain ⟨z0, rfl, w0⟩ := h0.str_inv Tryz.underlying9;obtain ⟨z1, rfl, w1⟩ := h1.int_inv (k := .i64) Tryz.underlying3;obtain ⟨z2, rfl, w2⟩ := h2.int_inv (k := .i64) Tryz.underlying3;obtain ⟨z3, rfl, w3⟩ := h3.int_inv (k := .i64) Tryz.underlying3;obtain ⟨z4, rfl, w4⟩ := h4.int_inv (k := .i64) Tryz.underlying3;exact ⟨⟨z0, z1, z2, z3, z4⟩, rfl, ⟨w0, wf64 w1, wf64 w2, wf64 w3, wf64 w4⟩⟩
structure Charge where
 part : ByteArray
 count : Int
 weeks : Int
 amount : Int
 deriving Inhabited, DecidableEq
def Charge.enc (x : Charge) : List PV := [.str x.part, .int x.count, .int x.weeks, .int x.amount]
theorem Charge.pure (x : Charge) : ∀ p ∈ x.enc, Pure p := fun p hp => by
 simp only [Charge.enc, List.mem_cons, List.not_mem_nil, or_false] at hp;rcases hp with rfl | rfl | rfl | rfl <;> exact .sc _
end Go.Proofs.YtjihcgcbnbaclaaGreatDoor.Y9

set_option linter.unusedSimpArgs false
set_option linter.unusedVariables false
