/- The records of this program as they lie in cells. No conditions. -/
import Derived.Test.YtdbpfhbppcpbbaaAwake
import Derived.Test.YtdbpfhbppcpbbaaPvZ2
namespace Go.Proofs.Ytdbpfhbppcpbbaa
open Go Go.Pv
set_option maxRecDepth 100000
structure Charge where
  part : ByteArray
  count : Int
  weeks : Int
  amount : Int
  deriving Inhabited, DecidableEq
def Charge.enc (x : Charge) : List PV := [.str x.part, .int x.count, .int x.weeks, .int x.amount]
structure Charge.ok (x : Charge) : Prop where
  part : x.part.size ≤ maxLen
  count : -9223372036854775808 ≤ x.count ∧ x.count ≤ 9223372036854775807
  weeks : -9223372036854775808 ≤ x.weeks ∧ x.weeks ≤ 9223372036854775807
  amount : -9223372036854775808 ≤ x.amount ∧ x.amount ≤ 9223372036854775807
theorem Charge.pure (x : Charge) : ∀ p ∈ x.enc, Pure p := fun p hp => by
  simp only [Charge.enc, List.mem_cons, List.not_mem_nil, or_false] at hp
  rcases hp with rfl | rfl | rfl | rfl <;> exact .sc _
theorem Charge.of {row : List PV} (h : CellsP Try.prog [9, 3, 3, 3] row) : ∃ x : Charge, row = x.enc ∧ x.ok := by
  obtain ⟨q0, l0, rfl, h0, h⟩ := h.cons_inv
  obtain ⟨q1, l1, rfl, h1, h⟩ := h.cons_inv
  obtain ⟨q2, l2, rfl, h2, h⟩ := h.cons_inv
  obtain ⟨q3, l3, rfl, h3, h⟩ := h.cons_inv
  obtain rfl := h.nil_inv
  obtain ⟨z0, rfl, w0⟩ := h0.str_inv Try.underlying9
  obtain ⟨z1, rfl, w1⟩ := h1.int_inv (k := .i64) Try.underlying3
  obtain ⟨z2, rfl, w2⟩ := h2.int_inv (k := .i64) Try.underlying3
  obtain ⟨z3, rfl, w3⟩ := h3.int_inv (k := .i64) Try.underlying3
  exact ⟨⟨z0, z1, z2, z3⟩, rfl, ⟨w0, wf64 w1, wf64 w2, wf64 w3⟩⟩
theorem Charge.arg {q : PV} (h : ArgP Try.prog 51 q) : ∃ xs : List Charge, q = .lit true 4 (xs.map Charge.enc) ∧ xs.length ≤ maxLen ∧ ∀ x ∈ xs, x.ok := by
  obtain ⟨rows, rfl, h1, h2⟩ := (h.cell (by kernel_rfl)).slice_at (tys := [9, 3, 3, 3]) (n := 4) Try.underlying51 (by kernel_rfl) (by kernel_rfl)
  obtain ⟨xs, rfl, h3⟩ := rows_of fun row hr => Charge.of (h2 row hr)
  exact ⟨xs, rfl, by simpa using h1, h3⟩
structure Ev where
  day : Int
  kind : Int
  platform : ByteArray
  number : Int
  passed : Bool
  grave : Bool
  deriving Inhabited, DecidableEq
def Ev.enc (x : Ev) : List PV := [.int x.day, .int x.kind, .str x.platform, .int x.number, .bool x.passed, .bool x.grave]
structure Ev.ok (x : Ev) : Prop where
  day : -9223372036854775808 ≤ x.day ∧ x.day ≤ 9223372036854775807
  kind : -9223372036854775808 ≤ x.kind ∧ x.kind ≤ 9223372036854775807
  platform : x.platform.size ≤ maxLen
  number : -9223372036854775808 ≤ x.number ∧ x.number ≤ 9223372036854775807
theorem Ev.pure (x : Ev) : ∀ p ∈ x.enc, Pure p := fun p hp => by
  simp only [Ev.enc, List.mem_cons, List.not_mem_nil, or_false] at hp
  rcases hp with rfl | rfl | rfl | rfl | rfl | rfl <;> exact .sc _
theorem Ev.of {row : List PV} (h : CellsP Try.prog [3, 3, 9, 3, 4, 4] row) : ∃ x : Ev, row = x.enc ∧ x.ok := by
  obtain ⟨q0, l0, rfl, h0, h⟩ := h.cons_inv
  obtain ⟨q1, l1, rfl, h1, h⟩ := h.cons_inv
  obtain ⟨q2, l2, rfl, h2, h⟩ := h.cons_inv
  obtain ⟨q3, l3, rfl, h3, h⟩ := h.cons_inv
  obtain ⟨q4, l4, rfl, h4, h⟩ := h.cons_inv
  obtain ⟨q5, l5, rfl, h5, h⟩ := h.cons_inv
  obtain rfl := h.nil_inv
  obtain ⟨z0, rfl, w0⟩ := h0.int_inv (k := .i64) Try.underlying3
  obtain ⟨z1, rfl, w1⟩ := h1.int_inv (k := .i64) Try.underlying3
  obtain ⟨z2, rfl, w2⟩ := h2.str_inv Try.underlying9
  obtain ⟨z3, rfl, w3⟩ := h3.int_inv (k := .i64) Try.underlying3
  obtain ⟨z4, rfl⟩ := h4.bool_inv Try.underlying4
  obtain ⟨z5, rfl⟩ := h5.bool_inv Try.underlying4
  exact ⟨⟨z0, z1, z2, z3, z4, z5⟩, rfl, ⟨wf64 w0, wf64 w1, w2, wf64 w3⟩⟩
theorem Ev.arg {q : PV} (h : ArgP Try.prog 22 q) : ∃ xs : List Ev, q = .lit true 6 (xs.map Ev.enc) ∧ xs.length ≤ maxLen ∧ ∀ x ∈ xs, x.ok := by
  obtain ⟨rows, rfl, h1, h2⟩ := (h.cell (by kernel_rfl)).slice_at (tys := [3, 3, 9, 3, 4, 4]) (n := 6) Try.underlying22 (by kernel_rfl) (by kernel_rfl)
  obtain ⟨xs, rfl, h3⟩ := rows_of fun row hr => Ev.of (h2 row hr)
  exact ⟨xs, rfl, by simpa using h1, h3⟩
structure Term where
  part : ByteArray
  week : Int
  least : Int
  price : Int
  deriving Inhabited, DecidableEq
def Term.enc (x : Term) : List PV := [.str x.part, .int x.week, .int x.least, .int x.price]
structure Term.ok (x : Term) : Prop where
  part : x.part.size ≤ maxLen
  week : -9223372036854775808 ≤ x.week ∧ x.week ≤ 9223372036854775807
  least : -9223372036854775808 ≤ x.least ∧ x.least ≤ 9223372036854775807
  price : -9223372036854775808 ≤ x.price ∧ x.price ≤ 9223372036854775807
theorem Term.pure (x : Term) : ∀ p ∈ x.enc, Pure p := fun p hp => by
  simp only [Term.enc, List.mem_cons, List.not_mem_nil, or_false] at hp
  rcases hp with rfl | rfl | rfl | rfl <;> exact .sc _
theorem Term.of {row : List PV} (h : CellsP Try.prog [9, 3, 3, 3] row) : ∃ x : Term, row = x.enc ∧ x.ok := by
  obtain ⟨q0, l0, rfl, h0, h⟩ := h.cons_inv
  obtain ⟨q1, l1, rfl, h1, h⟩ := h.cons_inv
  obtain ⟨q2, l2, rfl, h2, h⟩ := h.cons_inv
  obtain ⟨q3, l3, rfl, h3, h⟩ := h.cons_inv
  obtain rfl := h.nil_inv
  obtain ⟨z0, rfl, w0⟩ := h0.str_inv Try.underlying9
  obtain ⟨z1, rfl, w1⟩ := h1.int_inv (k := .i64) Try.underlying3
  obtain ⟨z2, rfl, w2⟩ := h2.int_inv (k := .i64) Try.underlying3
  obtain ⟨z3, rfl, w3⟩ := h3.int_inv (k := .i64) Try.underlying3
  exact ⟨⟨z0, z1, z2, z3⟩, rfl, ⟨w0, wf64 w1, wf64 w2, wf64 w3⟩⟩
theorem Term.arg {q : PV} (h : ArgP Try.prog 40 q) : ∃ xs : List Term, q = .lit true 4 (xs.map Term.enc) ∧ xs.length ≤ maxLen ∧ ∀ x ∈ xs, x.ok := by
  obtain ⟨rows, rfl, h1, h2⟩ := (h.cell (by kernel_rfl)).slice_at (tys := [9, 3, 3, 3]) (n := 4) Try.underlying40 (by kernel_rfl) (by kernel_rfl)
  obtain ⟨xs, rfl, h3⟩ := rows_of fun row hr => Term.of (h2 row hr)
  exact ⟨xs, rfl, by simpa using h1, h3⟩
structure Move where
  day : Int
  kind : Int
  part : ByteArray
  count : Int
  deriving Inhabited, DecidableEq
def Move.enc (x : Move) : List PV := [.int x.day, .int x.kind, .str x.part, .int x.count]
structure Move.ok (x : Move) : Prop where
  day : -9223372036854775808 ≤ x.day ∧ x.day ≤ 9223372036854775807
  kind : -9223372036854775808 ≤ x.kind ∧ x.kind ≤ 9223372036854775807
  part : x.part.size ≤ maxLen
  count : -9223372036854775808 ≤ x.count ∧ x.count ≤ 9223372036854775807
theorem Move.pure (x : Move) : ∀ p ∈ x.enc, Pure p := fun p hp => by
  simp only [Move.enc, List.mem_cons, List.not_mem_nil, or_false] at hp
  rcases hp with rfl | rfl | rfl | rfl <;> exact .sc _
theorem Move.of {row : List PV} (h : CellsP Try.prog [3, 3, 9, 3] row) : ∃ x : Move, row = x.enc ∧ x.ok := by
  obtain ⟨q0, l0, rfl, h0, h⟩ := h.cons_inv
  obtain ⟨q1, l1, rfl, h1, h⟩ := h.cons_inv
  obtain ⟨q2, l2, rfl, h2, h⟩ := h.cons_inv
  obtain ⟨q3, l3, rfl, h3, h⟩ := h.cons_inv
  obtain rfl := h.nil_inv
  obtain ⟨z0, rfl, w0⟩ := h0.int_inv (k := .i64) Try.underlying3
  obtain ⟨z1, rfl, w1⟩ := h1.int_inv (k := .i64) Try.underlying3
  obtain ⟨z2, rfl, w2⟩ := h2.str_inv Try.underlying9
  obtain ⟨z3, rfl, w3⟩ := h3.int_inv (k := .i64) Try.underlying3
  exact ⟨⟨z0, z1, z2, z3⟩, rfl, ⟨wf64 w0, wf64 w1, w2, wf64 w3⟩⟩
theorem Move.arg {q : PV} (h : ArgP Try.prog 41 q) : ∃ xs : List Move, q = .lit true 4 (xs.map Move.enc) ∧ xs.length ≤ maxLen ∧ ∀ x ∈ xs, x.ok := by
  obtain ⟨rows, rfl, h1, h2⟩ := (h.cell (by kernel_rfl)).slice_at (tys := [3, 3, 9, 3]) (n := 4) Try.underlying41 (by kernel_rfl) (by kernel_rfl)
  obtain ⟨xs, rfl, h3⟩ := rows_of fun row hr => Move.of (h2 row hr)
  exact ⟨xs, rfl, by simpa using h1, h3⟩
structure Span where
  fro : Int
  til : Int
  tag : Int
  deriving Inhabited, DecidableEq
def Span.enc (x : Span) : List PV := [.int x.fro, .int x.til, .int x.tag]
structure Span.ok (x : Span) : Prop where
  fro : -9223372036854775808 ≤ x.fro ∧ x.fro ≤ 9223372036854775807
  til : -9223372036854775808 ≤ x.til ∧ x.til ≤ 9223372036854775807
  tag : -9223372036854775808 ≤ x.tag ∧ x.tag ≤ 9223372036854775807
theorem Span.pure (x : Span) : ∀ p ∈ x.enc, Pure p := fun p hp => by
  simp only [Span.enc, List.mem_cons, List.not_mem_nil, or_false] at hp
  rcases hp with rfl | rfl | rfl <;> exact .sc _
theorem Span.of {row : List PV} (h : CellsP Try.prog [3, 3, 3] row) : ∃ x : Span, row = x.enc ∧ x.ok := by
  obtain ⟨q0, l0, rfl, h0, h⟩ := h.cons_inv
  obtain ⟨q1, l1, rfl, h1, h⟩ := h.cons_inv
  obtain ⟨q2, l2, rfl, h2, h⟩ := h.cons_inv
  obtain rfl := h.nil_inv
  obtain ⟨z0, rfl, w0⟩ := h0.int_inv (k := .i64) Try.underlying3
  obtain ⟨z1, rfl, w1⟩ := h1.int_inv (k := .i64) Try.underlying3
  obtain ⟨z2, rfl, w2⟩ := h2.int_inv (k := .i64) Try.underlying3
  exact ⟨⟨z0, z1, z2⟩, rfl, ⟨wf64 w0, wf64 w1, wf64 w2⟩⟩
theorem Span.arg {q : PV} (h : ArgP Try.prog 28 q) : ∃ xs : List Span, q = .lit true 3 (xs.map Span.enc) ∧ xs.length ≤ maxLen ∧ ∀ x ∈ xs, x.ok := by
  obtain ⟨rows, rfl, h1, h2⟩ := (h.cell (by kernel_rfl)).slice_at (tys := [3, 3, 3]) (n := 3) Try.underlying28 (by kernel_rfl) (by kernel_rfl)
  obtain ⟨xs, rfl, h3⟩ := rows_of fun row hr => Span.of (h2 row hr)
  exact ⟨xs, rfl, by simpa using h1, h3⟩
structure Days where
  platform : ByteArray
  fro : Int
  til : Int
  deriving Inhabited, DecidableEq
def Days.enc (x : Days) : List PV := [.str x.platform, .int x.fro, .int x.til]
structure Days.ok (x : Days) : Prop where
  platform : x.platform.size ≤ maxLen
  fro : -9223372036854775808 ≤ x.fro ∧ x.fro ≤ 9223372036854775807
  til : -9223372036854775808 ≤ x.til ∧ x.til ≤ 9223372036854775807
theorem Days.pure (x : Days) : ∀ p ∈ x.enc, Pure p := fun p hp => by
  simp only [Days.enc, List.mem_cons, List.not_mem_nil, or_false] at hp
  rcases hp with rfl | rfl | rfl <;> exact .sc _
theorem Days.of {row : List PV} (h : CellsP Try.prog [9, 3, 3] row) : ∃ x : Days, row = x.enc ∧ x.ok := by
  obtain ⟨q0, l0, rfl, h0, h⟩ := h.cons_inv
  obtain ⟨q1, l1, rfl, h1, h⟩ := h.cons_inv
  obtain ⟨q2, l2, rfl, h2, h⟩ := h.cons_inv
  obtain rfl := h.nil_inv
  obtain ⟨z0, rfl, w0⟩ := h0.str_inv Try.underlying9
  obtain ⟨z1, rfl, w1⟩ := h1.int_inv (k := .i64) Try.underlying3
  obtain ⟨z2, rfl, w2⟩ := h2.int_inv (k := .i64) Try.underlying3
  exact ⟨⟨z0, z1, z2⟩, rfl, ⟨w0, wf64 w1, wf64 w2⟩⟩
end Go.Proofs.Ytdbpfhbppcpbbaa
