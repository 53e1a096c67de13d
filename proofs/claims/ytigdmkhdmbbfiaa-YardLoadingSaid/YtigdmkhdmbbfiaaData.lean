/- The records of this program as they lie in cells. No conditions. -/
import Derived.Test.YtigdmkhdmbbfiaaProg
import Derived.Test.YtigdmkhdmbbfiaaPvGg
namespace Go.Proofs.Ytigdmkhdmbbfiaa
open Go Go.Pv
set_option maxRecDepth 100000
theorem mixed : Try.prog.follows .mixedOrders = true := by kernel_rfl
structure Want where
 part : ByteArray
 count : Int
 deriving Inhabited, DecidableEq
def Want.enc (x : Want) : List PV := [.str x.part, .int x.count]
structure Want.ok (x : Want) : Prop where
 part : x.part.size ≤ maxLen
 count : -9223372036854775808 ≤ x.count ∧ x.count ≤ 9223372036854775807
theorem Want.pure (x : Want) : ∀ p ∈ x.enc, Pure p := fun p hp => by
 simp only [Want.enc, List.mem_cons, List.not_mem_nil, or_false] at hp
 rcases hp with rfl | rfl <;> exact .sc _
structure Part where
 name : ByteArray
 kind : Int
 square : Int
 mass : Int
 strength : Int
 ends0 : Int
 ends1 : Int
 deriving Inhabited, DecidableEq
structure Part.ok (x : Part) : Prop where
 name : x.name.size ≤ maxLen
 kind : -9223372036854775808 ≤ x.kind ∧ x.kind ≤ 9223372036854775807
 square : -9223372036854775808 ≤ x.square ∧ x.square ≤ 9223372036854775807
 mass : -9223372036854775808 ≤ x.mass ∧ x.mass ≤ 9223372036854775807
 strength : -9223372036854775808 ≤ x.strength ∧ x.strength ≤ 9223372036854775807
 ends0 : -9223372036854775808 ≤ x.ends0 ∧ x.ends0 ≤ 9223372036854775807
 ends1 : -9223372036854775808 ≤ x.ends1 ∧ x.ends1 ≤ 9223372036854775807
structure Item where
 name : ByteArray
 mass : Int
 length : Int
 deriving Inhabited, DecidableEq
def Item.enc (x : Item) : List PV := [.str x.name, .int x.mass, .int x.length]
structure Item.ok (x : Item) : Prop where
 name : x.name.size ≤ maxLen
 mass : -9223372036854775808 ≤ x.mass ∧ x.mass ≤ 9223372036854775807
 length : -9223372036854775808 ≤ x.length ∧ x.length ≤ 9223372036854775807
theorem Item.pure (x : Item) : ∀ p ∈ x.enc, Pure p := fun p hp => by
 simp only [Item.enc, List.mem_cons, List.not_mem_nil, or_false] at hp
 rcases hp with rfl | rfl | rfl <;> exact .sc _
theorem Item.of {row : List PV} (h : CellsP Try.prog [9, 3, 3] row) : ∃ x : Item, row = x.enc ∧ x.ok := by
 obtain ⟨q0, l0, rfl, h0, h⟩ := h.cons_inv
 obtain ⟨q1, l1, rfl, h1, h⟩ := h.cons_inv
 obtain ⟨q2, l2, rfl, h2, h⟩ := h.cons_inv
 obtain rfl := h.nil_inv
 obtain ⟨z0, rfl, w0⟩ := h0.str_inv Try.underlying9
 obtain ⟨z1, rfl, w1⟩ := h1.int_inv (k := .i64) Try.underlying3
 obtain ⟨z2, rfl, w2⟩ := h2.int_inv (k := .i64) Try.underlying3
 exact ⟨⟨z0, z1, z2⟩, rfl, ⟨w0, wf64 w1, wf64 w2⟩⟩
theorem Item.arg {q : PV} (h : ArgP Try.prog 50 q) : ∃ xs : List Item, q = .lit true 3 (xs.map Item.enc) ∧ xs.length ≤ maxLen ∧ ∀ x ∈ xs, x.ok := by
 obtain ⟨rows, rfl, h1, h2⟩ := (h.cell (by kernel_rfl)).slice_at (tys := [9, 3, 3]) (n := 3) Try.underlying50 (by kernel_rfl) (by kernel_rfl)
 obtain ⟨xs, rfl, h3⟩ := rows_of fun row hr => Item.of (h2 row hr)
 exact ⟨xs, rfl, by simpa using h1, h3⟩
structure Stock where
 part : ByteArray
 place : Int
 state : Int
 count : Int
 deriving Inhabited, DecidableEq
structure Stock.ok (x : Stock) : Prop where
 part : x.part.size ≤ maxLen
 place : -9223372036854775808 ≤ x.place ∧ x.place ≤ 9223372036854775807
 state : -9223372036854775808 ≤ x.state ∧ x.state ≤ 9223372036854775807
 count : -9223372036854775808 ≤ x.count ∧ x.count ≤ 9223372036854775807
structure Lorry where
 mass : Int
 length : Int
 deriving Inhabited, DecidableEq
def Lorry.enc (x : Lorry) : List PV := [.int x.mass, .int x.length]
structure Lorry.ok (x : Lorry) : Prop where
 mass : -9223372036854775808 ≤ x.mass ∧ x.mass ≤ 9223372036854775807
 length : -9223372036854775808 ≤ x.length ∧ x.length ≤ 9223372036854775807
theorem Lorry.pure (x : Lorry) : ∀ p ∈ x.enc, Pure p := fun p hp => by
 simp only [Lorry.enc, List.mem_cons, List.not_mem_nil, or_false] at hp
 rcases hp with rfl | rfl <;> exact .sc _
theorem Lorry.of {row : List PV} (h : CellsP Try.prog [3, 3] row) : ∃ x : Lorry, row = x.enc ∧ x.ok := by
 obtain ⟨q0, l0, rfl, h0, h⟩ := h.cons_inv
 obtain ⟨q1, l1, rfl, h1, h⟩ := h.cons_inv
 obtain rfl := h.nil_inv
 obtain ⟨z0, rfl, w0⟩ := h0.int_inv (k := .i64) Try.underlying3
 obtain ⟨z1, rfl, w1⟩ := h1.int_inv (k := .i64) Try.underlying3
 exact ⟨⟨z0, z1⟩, rfl, ⟨wf64 w0, wf64 w1⟩⟩
structure Route where
 fro : Int
 til : Int
 days : Int
 most : Int
 deriving Inhabited, DecidableEq
def Route.enc (x : Route) : List PV := [.int x.fro, .int x.til, .int x.days, .int x.most]
structure Route.ok (x : Route) : Prop where
 fro : -9223372036854775808 ≤ x.fro ∧ x.fro ≤ 9223372036854775807
 til : -9223372036854775808 ≤ x.til ∧ x.til ≤ 9223372036854775807
 days : -9223372036854775808 ≤ x.days ∧ x.days ≤ 9223372036854775807
 most : -9223372036854775808 ≤ x.most ∧ x.most ≤ 9223372036854775807
structure Supply where
 place : Int
 day : Int
 count : Int
 deriving Inhabited, DecidableEq
def Supply.enc (x : Supply) : List PV := [.int x.place, .int x.day, .int x.count]
structure Supply.ok (x : Supply) : Prop where
 place : -9223372036854775808 ≤ x.place ∧ x.place ≤ 9223372036854775807
 day : -9223372036854775808 ≤ x.day ∧ x.day ≤ 9223372036854775807
 count : -9223372036854775808 ≤ x.count ∧ x.count ≤ 9223372036854775807
structure Trip where
 route : Int
 day : Int
 count : Int
 deriving Inhabited, DecidableEq
structure Trip.ok (x : Trip) : Prop where
 route : -9223372036854775808 ≤ x.route ∧ x.route ≤ 9223372036854775807
 day : -9223372036854775808 ≤ x.day ∧ x.day ≤ 9223372036854775807
 count : -9223372036854775808 ≤ x.count ∧ x.count ≤ 9223372036854775807
structure Swap where
 part : ByteArray
 via : ByteArray
 count : Int
 deriving Inhabited, DecidableEq
structure Swap.ok (x : Swap) : Prop where
 part : x.part.size ≤ maxLen
 via : x.via.size ≤ maxLen
 count : -9223372036854775808 ≤ x.count ∧ x.count ≤ 9223372036854775807
structure Movement where
 part : ByteArray
 fro : Int
 til : Int
 before : Int
 after : Int
 count : Int
 deriving Inhabited, DecidableEq
structure Movement.ok (x : Movement) : Prop where
 part : x.part.size ≤ maxLen
 fro : -9223372036854775808 ≤ x.fro ∧ x.fro ≤ 9223372036854775807
 til : -9223372036854775808 ≤ x.til ∧ x.til ≤ 9223372036854775807
 before : -9223372036854775808 ≤ x.before ∧ x.before ≤ 9223372036854775807
 after : -9223372036854775808 ≤ x.after ∧ x.after ≤ 9223372036854775807
 count : -9223372036854775808 ≤ x.count ∧ x.count ≤ 9223372036854775807
structure Shelf where
 part : ByteArray
 place : Int
 state : Int
 deriving Inhabited, DecidableEq
structure Shelf.ok (x : Shelf) : Prop where
 part : x.part.size ≤ maxLen
 place : -9223372036854775808 ≤ x.place ∧ x.place ≤ 9223372036854775807
 state : -9223372036854775808 ≤ x.state ∧ x.state ≤ 9223372036854775807
end Go.Proofs.Ytigdmkhdmbbfiaa
