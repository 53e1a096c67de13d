/- The records of this program as they lie in cells. No conditions. -/
import Derived.Test.YtigdmkhdmbbfiaaDoorProg
import Derived.Test.YtigdmkhdmbbfiaaDoorPvZ2
namespace Go.Proofs.YtigdmkhdmbbfiaaDoor
open Go Go.Pv
set_option maxRecDepth 100000
theorem mixed : Tryd.prog.follows .mixedOrders = true := by kernel_rfl
structure Want where
  part : ByteArray
  count : Int
  deriving Inhabited, DecidableEq
def Want.enc (x : Want) : List PV := [.str x.part, .int x.count]
structure Want.ok (x : Want) : Prop where
  part : x.part.size ≤ maxLen
  count : -9223372036854775808 ≤ x.count ∧ x.count ≤ 9223372036854775807
theorem Want.pure (x : Want) : ∀ p ∈ x.enc, Pure p := fun p hp => by
  simp only [Want.enc, List.mem_cons, List.not_mem_nil, or_false] at hp
  rcases hp with rfl | rfl <;> exact .sc _
theorem Want.of {row : List PV} (h : CellsP Tryd.prog [9, 3] row) : ∃ x : Want, row = x.enc ∧ x.ok := by
  obtain ⟨q0, l0, rfl, h0, h⟩ := h.cons_inv
  obtain ⟨q1, l1, rfl, h1, h⟩ := h.cons_inv
  obtain rfl := h.nil_inv
  obtain ⟨z0, rfl, w0⟩ := h0.str_inv Tryd.underlying9
  obtain ⟨z1, rfl, w1⟩ := h1.int_inv (k := .i64) Tryd.underlying3
  exact ⟨⟨z0, z1⟩, rfl, ⟨w0, wf64 w1⟩⟩
theorem Want.arg {q : PV} (h : ArgP Tryd.prog 54 q) : ∃ xs : List Want, q = .lit true 2 (xs.map Want.enc) ∧ xs.length ≤ maxLen ∧ ∀ x ∈ xs, x.ok := by
  obtain ⟨rows, rfl, h1, h2⟩ := (h.cell (by kernel_rfl)).slice_at (tys := [9, 3]) (n := 2) Tryd.underlying54 (by kernel_rfl) (by kernel_rfl)
  obtain ⟨xs, rfl, h3⟩ := rows_of fun row hr => Want.of (h2 row hr)
  exact ⟨xs, rfl, by simpa using h1, h3⟩
structure Item where
  name : ByteArray
  mass : Int
  length : Int
  deriving Inhabited, DecidableEq
def Item.enc (x : Item) : List PV := [.str x.name, .int x.mass, .int x.length]
structure Item.ok (x : Item) : Prop where
  name : x.name.size ≤ maxLen
  mass : -9223372036854775808 ≤ x.mass ∧ x.mass ≤ 9223372036854775807
  length : -9223372036854775808 ≤ x.length ∧ x.length ≤ 9223372036854775807
theorem Item.pure (x : Item) : ∀ p ∈ x.enc, Pure p := fun p hp => by
  simp only [Item.enc, List.mem_cons, List.not_mem_nil, or_false] at hp
  rcases hp with rfl | rfl | rfl <;> exact .sc _
theorem Item.of {row : List PV} (h : CellsP Tryd.prog [9, 3, 3] row) : ∃ x : Item, row = x.enc ∧ x.ok := by
  obtain ⟨q0, l0, rfl, h0, h⟩ := h.cons_inv
  obtain ⟨q1, l1, rfl, h1, h⟩ := h.cons_inv
  obtain ⟨q2, l2, rfl, h2, h⟩ := h.cons_inv
  obtain rfl := h.nil_inv
  obtain ⟨z0, rfl, w0⟩ := h0.str_inv Tryd.underlying9
  obtain ⟨z1, rfl, w1⟩ := h1.int_inv (k := .i64) Tryd.underlying3
  obtain ⟨z2, rfl, w2⟩ := h2.int_inv (k := .i64) Tryd.underlying3
  exact ⟨⟨z0, z1, z2⟩, rfl, ⟨w0, wf64 w1, wf64 w2⟩⟩
theorem Item.arg {q : PV} (h : ArgP Tryd.prog 77 q) : ∃ xs : List Item, q = .lit true 3 (xs.map Item.enc) ∧ xs.length ≤ maxLen ∧ ∀ x ∈ xs, x.ok := by
  obtain ⟨rows, rfl, h1, h2⟩ := (h.cell (by kernel_rfl)).slice_at (tys := [9, 3, 3]) (n := 3) Tryd.underlying77 (by kernel_rfl) (by kernel_rfl)
  obtain ⟨xs, rfl, h3⟩ := rows_of fun row hr => Item.of (h2 row hr)
  exact ⟨xs, rfl, by simpa using h1, h3⟩
structure Stock where
  part : ByteArray
  place : Int
  state : Int
  count : Int
  deriving Inhabited, DecidableEq
def Stock.enc (x : Stock) : List PV := [.str x.part, .int x.place, .int x.state, .int x.count]
structure Stock.ok (x : Stock) : Prop where
  part : x.part.size ≤ maxLen
  place : -9223372036854775808 ≤ x.place ∧ x.place ≤ 9223372036854775807
  state : -9223372036854775808 ≤ x.state ∧ x.state ≤ 9223372036854775807
  count : -9223372036854775808 ≤ x.count ∧ x.count ≤ 9223372036854775807
theorem Stock.pure (x : Stock) : ∀ p ∈ x.enc, Pure p := fun p hp => by
  simp only [Stock.enc, List.mem_cons, List.not_mem_nil, or_false] at hp
  rcases hp with rfl | rfl | rfl | rfl <;> exact .sc _
theorem Stock.of {row : List PV} (h : CellsP Tryd.prog [9, 3, 3, 3] row) : ∃ x : Stock, row = x.enc ∧ x.ok := by
  obtain ⟨q0, l0, rfl, h0, h⟩ := h.cons_inv
  obtain ⟨q1, l1, rfl, h1, h⟩ := h.cons_inv
  obtain ⟨q2, l2, rfl, h2, h⟩ := h.cons_inv
  obtain ⟨q3, l3, rfl, h3, h⟩ := h.cons_inv
  obtain rfl := h.nil_inv
  obtain ⟨z0, rfl, w0⟩ := h0.str_inv Tryd.underlying9
  obtain ⟨z1, rfl, w1⟩ := h1.int_inv (k := .i64) Tryd.underlying3
  obtain ⟨z2, rfl, w2⟩ := h2.int_inv (k := .i64) Tryd.underlying3
  obtain ⟨z3, rfl, w3⟩ := h3.int_inv (k := .i64) Tryd.underlying3
  exact ⟨⟨z0, z1, z2, z3⟩, rfl, ⟨w0, wf64 w1, wf64 w2, wf64 w3⟩⟩
theorem Stock.arg {q : PV} (h : ArgP Tryd.prog 22 q) : ∃ xs : List Stock, q = .lit true 4 (xs.map Stock.enc) ∧ xs.length ≤ maxLen ∧ ∀ x ∈ xs, x.ok := by
  obtain ⟨rows, rfl, h1, h2⟩ := (h.cell (by kernel_rfl)).slice_at (tys := [9, 3, 3, 3]) (n := 4) Tryd.underlying22 (by kernel_rfl) (by kernel_rfl)
  obtain ⟨xs, rfl, h3⟩ := rows_of fun row hr => Stock.of (h2 row hr)
  exact ⟨xs, rfl, by simpa using h1, h3⟩
structure Lorry where
  mass : Int
  length : Int
  deriving Inhabited, DecidableEq
def Lorry.enc (x : Lorry) : List PV := [.int x.mass, .int x.length]
structure Lorry.ok (x : Lorry) : Prop where
  mass : -9223372036854775808 ≤ x.mass ∧ x.mass ≤ 9223372036854775807
  length : -9223372036854775808 ≤ x.length ∧ x.length ≤ 9223372036854775807
theorem Lorry.pure (x : Lorry) : ∀ p ∈ x.enc, Pure p := fun p hp => by
  simp only [Lorry.enc, List.mem_cons, List.not_mem_nil, or_false] at hp
  rcases hp with rfl | rfl <;> exact .sc _
theorem Lorry.of {row : List PV} (h : CellsP Tryd.prog [3, 3] row) : ∃ x : Lorry, row = x.enc ∧ x.ok := by
  obtain ⟨q0, l0, rfl, h0, h⟩ := h.cons_inv
  obtain ⟨q1, l1, rfl, h1, h⟩ := h.cons_inv
  obtain rfl := h.nil_inv
  obtain ⟨z0, rfl, w0⟩ := h0.int_inv (k := .i64) Tryd.underlying3
  obtain ⟨z1, rfl, w1⟩ := h1.int_inv (k := .i64) Tryd.underlying3
  exact ⟨⟨z0, z1⟩, rfl, ⟨wf64 w0, wf64 w1⟩⟩
structure Route where
  fro : Int
  til : Int
  days : Int
  most : Int
  deriving Inhabited, DecidableEq
def Route.enc (x : Route) : List PV := [.int x.fro, .int x.til, .int x.days, .int x.most]
structure Route.ok (x : Route) : Prop where
  fro : -9223372036854775808 ≤ x.fro ∧ x.fro ≤ 9223372036854775807
  til : -9223372036854775808 ≤ x.til ∧ x.til ≤ 9223372036854775807
  days : -9223372036854775808 ≤ x.days ∧ x.days ≤ 9223372036854775807
  most : -9223372036854775808 ≤ x.most ∧ x.most ≤ 9223372036854775807
theorem Route.pure (x : Route) : ∀ p ∈ x.enc, Pure p := fun p hp => by
  simp only [Route.enc, List.mem_cons, List.not_mem_nil, or_false] at hp
  rcases hp with rfl | rfl | rfl | rfl <;> exact .sc _
theorem Route.of {row : List PV} (h : CellsP Tryd.prog [3, 3, 3, 3] row) : ∃ x : Route, row = x.enc ∧ x.ok := by
  obtain ⟨q0, l0, rfl, h0, h⟩ := h.cons_inv
  obtain ⟨q1, l1, rfl, h1, h⟩ := h.cons_inv
  obtain ⟨q2, l2, rfl, h2, h⟩ := h.cons_inv
  obtain ⟨q3, l3, rfl, h3, h⟩ := h.cons_inv
  obtain rfl := h.nil_inv
  obtain ⟨z0, rfl, w0⟩ := h0.int_inv (k := .i64) Tryd.underlying3
  obtain ⟨z1, rfl, w1⟩ := h1.int_inv (k := .i64) Tryd.underlying3
  obtain ⟨z2, rfl, w2⟩ := h2.int_inv (k := .i64) Tryd.underlying3
  obtain ⟨z3, rfl, w3⟩ := h3.int_inv (k := .i64) Tryd.underlying3
  exact ⟨⟨z0, z1, z2, z3⟩, rfl, ⟨wf64 w0, wf64 w1, wf64 w2, wf64 w3⟩⟩
theorem Route.arg {q : PV} (h : ArgP Tryd.prog 69 q) : ∃ xs : List Route, q = .lit true 4 (xs.map Route.enc) ∧ xs.length ≤ maxLen ∧ ∀ x ∈ xs, x.ok := by
  obtain ⟨rows, rfl, h1, h2⟩ := (h.cell (by kernel_rfl)).slice_at (tys := [3, 3, 3, 3]) (n := 4) Tryd.underlying69 (by kernel_rfl) (by kernel_rfl)
  obtain ⟨xs, rfl, h3⟩ := rows_of fun row hr => Route.of (h2 row hr)
  exact ⟨xs, rfl, by simpa using h1, h3⟩
structure Supply where
  place : Int
  day : Int
  count : Int
  deriving Inhabited, DecidableEq
def Supply.enc (x : Supply) : List PV := [.int x.place, .int x.day, .int x.count]
structure Supply.ok (x : Supply) : Prop where
  place : -9223372036854775808 ≤ x.place ∧ x.place ≤ 9223372036854775807
  day : -9223372036854775808 ≤ x.day ∧ x.day ≤ 9223372036854775807
  count : -9223372036854775808 ≤ x.count ∧ x.count ≤ 9223372036854775807
theorem Supply.pure (x : Supply) : ∀ p ∈ x.enc, Pure p := fun p hp => by
  simp only [Supply.enc, List.mem_cons, List.not_mem_nil, or_false] at hp
  rcases hp with rfl | rfl | rfl <;> exact .sc _
theorem Supply.of {row : List PV} (h : CellsP Tryd.prog [3, 3, 3] row) : ∃ x : Supply, row = x.enc ∧ x.ok := by
  obtain ⟨q0, l0, rfl, h0, h⟩ := h.cons_inv
  obtain ⟨q1, l1, rfl, h1, h⟩ := h.cons_inv
  obtain ⟨q2, l2, rfl, h2, h⟩ := h.cons_inv
  obtain rfl := h.nil_inv
  obtain ⟨z0, rfl, w0⟩ := h0.int_inv (k := .i64) Tryd.underlying3
  obtain ⟨z1, rfl, w1⟩ := h1.int_inv (k := .i64) Tryd.underlying3
  obtain ⟨z2, rfl, w2⟩ := h2.int_inv (k := .i64) Tryd.underlying3
  exact ⟨⟨z0, z1, z2⟩, rfl, ⟨wf64 w0, wf64 w1, wf64 w2⟩⟩
theorem Supply.arg {q : PV} (h : ArgP Tryd.prog 70 q) : ∃ xs : List Supply, q = .lit true 3 (xs.map Supply.enc) ∧ xs.length ≤ maxLen ∧ ∀ x ∈ xs, x.ok := by
  obtain ⟨rows, rfl, h1, h2⟩ := (h.cell (by kernel_rfl)).slice_at (tys := [3, 3, 3]) (n := 3) Tryd.underlying70 (by kernel_rfl) (by kernel_rfl)
  obtain ⟨xs, rfl, h3⟩ := rows_of fun row hr => Supply.of (h2 row hr)
  exact ⟨xs, rfl, by simpa using h1, h3⟩
structure Trip where
  route : Int
  day : Int
  count : Int
  deriving Inhabited, DecidableEq
def Trip.enc (x : Trip) : List PV := [.int x.route, .int x.day, .int x.count]
structure Trip.ok (x : Trip) : Prop where
  route : -9223372036854775808 ≤ x.route ∧ x.route ≤ 9223372036854775807
  day : -9223372036854775808 ≤ x.day ∧ x.day ≤ 9223372036854775807
  count : -9223372036854775808 ≤ x.count ∧ x.count ≤ 9223372036854775807
theorem Trip.pure (x : Trip) : ∀ p ∈ x.enc, Pure p := fun p hp => by
  simp only [Trip.enc, List.mem_cons, List.not_mem_nil, or_false] at hp
  rcases hp with rfl | rfl | rfl <;> exact .sc _
theorem Trip.of {row : List PV} (h : CellsP Tryd.prog [3, 3, 3] row) : ∃ x : Trip, row = x.enc ∧ x.ok := by
  obtain ⟨q0, l0, rfl, h0, h⟩ := h.cons_inv
  obtain ⟨q1, l1, rfl, h1, h⟩ := h.cons_inv
  obtain ⟨q2, l2, rfl, h2, h⟩ := h.cons_inv
  obtain rfl := h.nil_inv
  obtain ⟨z0, rfl, w0⟩ := h0.int_inv (k := .i64) Tryd.underlying3
  obtain ⟨z1, rfl, w1⟩ := h1.int_inv (k := .i64) Tryd.underlying3
  obtain ⟨z2, rfl, w2⟩ := h2.int_inv (k := .i64) Tryd.underlying3
  exact ⟨⟨z0, z1, z2⟩, rfl, ⟨wf64 w0, wf64 w1, wf64 w2⟩⟩
theorem Trip.arg {q : PV} (h : ArgP Tryd.prog 66 q) : ∃ xs : List Trip, q = .lit true 3 (xs.map Trip.enc) ∧ xs.length ≤ maxLen ∧ ∀ x ∈ xs, x.ok := by
  obtain ⟨rows, rfl, h1, h2⟩ := (h.cell (by kernel_rfl)).slice_at (tys := [3, 3, 3]) (n := 3) Tryd.underlying66 (by kernel_rfl) (by kernel_rfl)
  obtain ⟨xs, rfl, h3⟩ := rows_of fun row hr => Trip.of (h2 row hr)
  exact ⟨xs, rfl, by simpa using h1, h3⟩
structure Swap where
  part : ByteArray
  via : ByteArray
  count : Int
  deriving Inhabited, DecidableEq
def Swap.enc (x : Swap) : List PV := [.str x.part, .str x.via, .int x.count]
structure Swap.ok (x : Swap) : Prop where
  part : x.part.size ≤ maxLen
  via : x.via.size ≤ maxLen
  count : -9223372036854775808 ≤ x.count ∧ x.count ≤ 9223372036854775807
theorem Swap.pure (x : Swap) : ∀ p ∈ x.enc, Pure p := fun p hp => by
  simp only [Swap.enc, List.mem_cons, List.not_mem_nil, or_false] at hp
  rcases hp with rfl | rfl | rfl <;> exact .sc _
theorem Swap.of {row : List PV} (h : CellsP Tryd.prog [9, 9, 3] row) : ∃ x : Swap, row = x.enc ∧ x.ok := by
  obtain ⟨q0, l0, rfl, h0, h⟩ := h.cons_inv
  obtain ⟨q1, l1, rfl, h1, h⟩ := h.cons_inv
  obtain ⟨q2, l2, rfl, h2, h⟩ := h.cons_inv
  obtain rfl := h.nil_inv
  obtain ⟨z0, rfl, w0⟩ := h0.str_inv Tryd.underlying9
  obtain ⟨z1, rfl, w1⟩ := h1.str_inv Tryd.underlying9
  obtain ⟨z2, rfl, w2⟩ := h2.int_inv (k := .i64) Tryd.underlying3
  exact ⟨⟨z0, z1, z2⟩, rfl, ⟨w0, w1, wf64 w2⟩⟩
theorem Swap.arg {q : PV} (h : ArgP Tryd.prog 53 q) : ∃ xs : List Swap, q = .lit true 3 (xs.map Swap.enc) ∧ xs.length ≤ maxLen ∧ ∀ x ∈ xs, x.ok := by
  obtain ⟨rows, rfl, h1, h2⟩ := (h.cell (by kernel_rfl)).slice_at (tys := [9, 9, 3]) (n := 3) Tryd.underlying53 (by kernel_rfl) (by kernel_rfl)
  obtain ⟨xs, rfl, h3⟩ := rows_of fun row hr => Swap.of (h2 row hr)
  exact ⟨xs, rfl, by simpa using h1, h3⟩
structure Movement where
  part : ByteArray
  fro : Int
  til : Int
  before : Int
  after : Int
  count : Int
  deriving Inhabited, DecidableEq
def Movement.enc (x : Movement) : List PV := [.str x.part, .int x.fro, .int x.til, .int x.before, .int x.after, .int x.count]
structure Movement.ok (x : Movement) : Prop where
  part : x.part.size ≤ maxLen
  fro : -9223372036854775808 ≤ x.fro ∧ x.fro ≤ 9223372036854775807
  til : -9223372036854775808 ≤ x.til ∧ x.til ≤ 9223372036854775807
  before : -9223372036854775808 ≤ x.before ∧ x.before ≤ 9223372036854775807
  after : -9223372036854775808 ≤ x.after ∧ x.after ≤ 9223372036854775807
  count : -9223372036854775808 ≤ x.count ∧ x.count ≤ 9223372036854775807
theorem Movement.pure (x : Movement) : ∀ p ∈ x.enc, Pure p := fun p hp => by
  simp only [Movement.enc, List.mem_cons, List.not_mem_nil, or_false] at hp
  rcases hp with rfl | rfl | rfl | rfl | rfl | rfl <;> exact .sc _
theorem Movement.of {row : List PV} (h : CellsP Tryd.prog [9, 3, 3, 3, 3, 3] row) : ∃ x : Movement, row = x.enc ∧ x.ok := by
  obtain ⟨q0, l0, rfl, h0, h⟩ := h.cons_inv
  obtain ⟨q1, l1, rfl, h1, h⟩ := h.cons_inv
  obtain ⟨q2, l2, rfl, h2, h⟩ := h.cons_inv
  obtain ⟨q3, l3, rfl, h3, h⟩ := h.cons_inv
  obtain ⟨q4, l4, rfl, h4, h⟩ := h.cons_inv
  obtain ⟨q5, l5, rfl, h5, h⟩ := h.cons_inv
  obtain rfl := h.nil_inv
  obtain ⟨z0, rfl, w0⟩ := h0.str_inv Tryd.underlying9
  obtain ⟨z1, rfl, w1⟩ := h1.int_inv (k := .i64) Tryd.underlying3
  obtain ⟨z2, rfl, w2⟩ := h2.int_inv (k := .i64) Tryd.underlying3
  obtain ⟨z3, rfl, w3⟩ := h3.int_inv (k := .i64) Tryd.underlying3
  obtain ⟨z4, rfl, w4⟩ := h4.int_inv (k := .i64) Tryd.underlying3
  obtain ⟨z5, rfl, w5⟩ := h5.int_inv (k := .i64) Tryd.underlying3
  exact ⟨⟨z0, z1, z2, z3, z4, z5⟩, rfl, ⟨w0, wf64 w1, wf64 w2, wf64 w3, wf64 w4, wf64 w5⟩⟩
theorem Movement.arg {q : PV} (h : ArgP Tryd.prog 41 q) : ∃ xs : List Movement, q = .lit true 6 (xs.map Movement.enc) ∧ xs.length ≤ maxLen ∧ ∀ x ∈ xs, x.ok := by
  obtain ⟨rows, rfl, h1, h2⟩ := (h.cell (by kernel_rfl)).slice_at (tys := [9, 3, 3, 3, 3, 3]) (n := 6) Tryd.underlying41 (by kernel_rfl) (by kernel_rfl)
  obtain ⟨xs, rfl, h3⟩ := rows_of fun row hr => Movement.of (h2 row hr)
  exact ⟨xs, rfl, by simpa using h1, h3⟩
structure Shelf where
  part : ByteArray
  place : Int
  state : Int
  deriving Inhabited, DecidableEq
def Shelf.enc (x : Shelf) : List PV := [.str x.part, .int x.place, .int x.state]
structure Shelf.ok (x : Shelf) : Prop where
  part : x.part.size ≤ maxLen
  place : -9223372036854775808 ≤ x.place ∧ x.place ≤ 9223372036854775807
  state : -9223372036854775808 ≤ x.state ∧ x.state ≤ 9223372036854775807
theorem Shelf.pure (x : Shelf) : ∀ p ∈ x.enc, Pure p := fun p hp => by
  simp only [Shelf.enc, List.mem_cons, List.not_mem_nil, or_false] at hp
  rcases hp with rfl | rfl | rfl <;> exact .sc _
theorem Shelf.of {row : List PV} (h : CellsP Tryd.prog [9, 3, 3] row) : ∃ x : Shelf, row = x.enc ∧ x.ok := by
  obtain ⟨q0, l0, rfl, h0, h⟩ := h.cons_inv
  obtain ⟨q1, l1, rfl, h1, h⟩ := h.cons_inv
  obtain ⟨q2, l2, rfl, h2, h⟩ := h.cons_inv
  obtain rfl := h.nil_inv
  obtain ⟨z0, rfl, w0⟩ := h0.str_inv Tryd.underlying9
  obtain ⟨z1, rfl, w1⟩ := h1.int_inv (k := .i64) Tryd.underlying3
  obtain ⟨z2, rfl, w2⟩ := h2.int_inv (k := .i64) Tryd.underlying3
  exact ⟨⟨z0, z1, z2⟩, rfl, ⟨w0, wf64 w1, wf64 w2⟩⟩
end Go.Proofs.YtigdmkhdmbbfiaaDoor
