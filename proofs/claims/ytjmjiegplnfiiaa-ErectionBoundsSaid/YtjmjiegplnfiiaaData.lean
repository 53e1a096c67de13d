/- The records of this program as they lie in cells. No conditions. -/
import Derived.Test.YtjmjiegplnfiiaaProg
import Derived.Test.YtjmjiegplnfiiaaPvGh
namespace Go.Proofs.Ytjmjiegplnfiiaa
open Go Go.Pv
set_option maxRecDepth 100000
theorem mixed : Try.prog.follows .mixedOrders = true := by kernel_rfl
def cl (l : List Int) : List PV := [.lit true 1 (l.map ci)]
abbrev In64 (z : Int) : Prop := -9223372036854775808 ≤ z ∧ z ≤ 9223372036854775807
theorem int_of {row : List PV} (h : CellsP Try.prog [3] row) : ∃ z : Int, row = ci z ∧ In64 z := by
 obtain ⟨q0, l0, rfl, h0, h⟩ := h.cons_inv
 obtain rfl := h.nil_inv
 obtain ⟨z0, rfl, w0⟩ := h0.int_inv (k := .i64) Try.underlying3
 exact ⟨z0, rfl, wf64 w0⟩
theorem str_of {row : List PV} (h : CellsP Try.prog [9] row) : ∃ s : ByteArray, row = cb s ∧ s.size ≤ maxLen := by
 obtain ⟨q0, l0, rfl, h0, h⟩ := h.cons_inv
 obtain rfl := h.nil_inv
 obtain ⟨z0, rfl, w0⟩ := h0.str_inv Try.underlying9
 exact ⟨z0, rfl, w0⟩
theorem ints_of {q : PV} (h : CellP Try.prog 25 q) : ∃ l : List Int, q = .lit true 1 (l.map ci) ∧ l.length ≤ maxLen ∧ ∀ z ∈ l, In64 z := by
 obtain ⟨rows, rfl, h1, h2⟩ := h.slice_at (tys := [3]) (n := 1) Try.underlying25 (by kernel_rfl) (by kernel_rfl)
 obtain ⟨xs, rfl, h3⟩ := rows_of fun row hr => int_of (h2 row hr)
 exact ⟨xs, rfl, by simpa using h1, h3⟩
theorem strs_of {q : PV} (h : CellP Try.prog 85 q) : ∃ l : List ByteArray, q = .lit true 1 (l.map cb) ∧ l.length ≤ maxLen ∧ ∀ z ∈ l, z.size ≤ maxLen := by
 obtain ⟨rows, rfl, h1, h2⟩ := h.slice_at (tys := [9]) (n := 1) Try.underlying85 (by kernel_rfl) (by kernel_rfl)
 obtain ⟨xs, rfl, h3⟩ := rows_of fun row hr => str_of (h2 row hr)
 exact ⟨xs, rfl, by simpa using h1, h3⟩
structure Node where
 px : Int
 py : Int
 pz : Int
 deriving Inhabited, DecidableEq
def Node.enc (x : Node) : List PV := [.int x.px, .int x.py, .int x.pz]
structure Node.ok (x : Node) : Prop where
 px : In64 x.px
 py : In64 x.py
 pz : In64 x.pz
theorem Node.pure (x : Node) : ∀ p ∈ x.enc, Pure p := fun p hp => by
 simp only [Node.enc, List.mem_cons, List.not_mem_nil, or_false] at hp
 rcases hp with rfl | rfl | rfl
 · exact .sc _
 · exact .sc _
 · exact .sc _
structure Member where
 kind : Int
 a : Int
 b : Int
 deriving Inhabited, DecidableEq
structure Member.ok (x : Member) : Prop where
 kind : In64 x.kind
 a : In64 x.a
 b : In64 x.b
structure Scaffold where
 nodes : List Node
 members : List Member
 deriving Inhabited, DecidableEq
structure Scaffold.ok (x : Scaffold) : Prop where
 nodes : x.nodes.length ≤ maxLen ∧ ∀ z ∈ x.nodes, z.ok
 members : x.members.length ≤ maxLen ∧ ∀ z ∈ x.members, z.ok
structure Task where
 name : ByteArray
 trade : ByteArray
 member : Int
 place : Int
 minutes : Int
 needs : List Int
 deriving Inhabited, DecidableEq
def Task.enc (x : Task) : List PV := [.str x.name, .str x.trade, .int x.member, .int x.place, .int x.minutes, .lit true 1 (x.needs.map ci)]
structure Task.ok (x : Task) : Prop where
 name : x.name.size ≤ maxLen
 trade : x.trade.size ≤ maxLen
 member : In64 x.member
 place : In64 x.place
 minutes : In64 x.minutes
 needs : x.needs.length ≤ maxLen ∧ ∀ z ∈ x.needs, In64 z
theorem Task.pure (x : Task) : ∀ p ∈ x.enc, Pure p := fun p hp => by
 simp only [Task.enc, List.mem_cons, List.not_mem_nil, or_false] at hp
 rcases hp with rfl | rfl | rfl | rfl | rfl | rfl
 · exact .sc _
 · exact .sc _
 · exact .sc _
 · exact .sc _
 · exact .sc _
 · exact .lit _ _ _ fun row hr => pure_map ci_pure row hr
theorem Task.of {row : List PV} (h : CellsP Try.prog [9, 9, 3, 3, 3, 25] row) : ∃ x : Task, row = x.enc ∧ x.ok := by
 obtain ⟨q0, l0, rfl, h0, h⟩ := h.cons_inv
 obtain ⟨q1, l1, rfl, h1, h⟩ := h.cons_inv
 obtain ⟨q2, l2, rfl, h2, h⟩ := h.cons_inv
 obtain ⟨q3, l3, rfl, h3, h⟩ := h.cons_inv
 obtain ⟨q4, l4, rfl, h4, h⟩ := h.cons_inv
 obtain ⟨q5, l5, rfl, h5, h⟩ := h.cons_inv
 obtain rfl := h.nil_inv
 obtain ⟨z0, rfl, w0⟩ := h0.str_inv Try.underlying9
 obtain ⟨z1, rfl, w1⟩ := h1.str_inv Try.underlying9
 obtain ⟨z2, rfl, w2⟩ := h2.int_inv (k := .i64) Try.underlying3
 obtain ⟨z3, rfl, w3⟩ := h3.int_inv (k := .i64) Try.underlying3
 obtain ⟨z4, rfl, w4⟩ := h4.int_inv (k := .i64) Try.underlying3
 obtain ⟨z5, rfl, w5⟩ := ints_of h5
 exact ⟨⟨z0, z1, z2, z3, z4, z5⟩, rfl, ⟨w0, w1, wf64 w2, wf64 w3, wf64 w4, w5⟩⟩
theorem Task.ofs {q : PV} (h : CellP Try.prog 22 q) : ∃ xs : List Task, q = .lit true 6 (xs.map Task.enc) ∧ xs.length ≤ maxLen ∧ ∀ x ∈ xs, x.ok := by
 obtain ⟨rows, rfl, h1, h2⟩ := h.slice_at (tys := [9, 9, 3, 3, 3, 25]) (n := 6) Try.underlying22 (by kernel_rfl) (by kernel_rfl)
 obtain ⟨xs, rfl, h3⟩ := rows_of fun row hr => Task.of (h2 row hr)
 exact ⟨xs, rfl, by simpa using h1, h3⟩
theorem Task.arg {q : PV} (h : ArgP Try.prog 22 q) : ∃ xs : List Task, q = .lit true 6 (xs.map Task.enc) ∧ xs.length ≤ maxLen ∧ ∀ x ∈ xs, x.ok := Task.ofs (h.cell (by kernel_rfl))
structure Slot where
 task : Int
 gang : Int
 start : Int
 deriving Inhabited, DecidableEq
def Slot.enc (x : Slot) : List PV := [.int x.task, .int x.gang, .int x.start]
structure Slot.ok (x : Slot) : Prop where
 task : In64 x.task
 gang : In64 x.gang
 start : In64 x.start
theorem Slot.pure (x : Slot) : ∀ p ∈ x.enc, Pure p := fun p hp => by
 simp only [Slot.enc, List.mem_cons, List.not_mem_nil, or_false] at hp
 rcases hp with rfl | rfl | rfl
 · exact .sc _
 · exact .sc _
 · exact .sc _
structure Gang where
 name : ByteArray
 trades : List ByteArray
 fro : Int
 til : Int
 deriving Inhabited, DecidableEq
def Gang.enc (x : Gang) : List PV := [.str x.name, .lit true 1 (x.trades.map cb), .int x.fro, .int x.til]
structure Gang.ok (x : Gang) : Prop where
 name : x.name.size ≤ maxLen
 trades : x.trades.length ≤ maxLen ∧ ∀ z ∈ x.trades, z.size ≤ maxLen
 fro : In64 x.fro
 til : In64 x.til
theorem Gang.pure (x : Gang) : ∀ p ∈ x.enc, Pure p := fun p hp => by
 simp only [Gang.enc, List.mem_cons, List.not_mem_nil, or_false] at hp
 rcases hp with rfl | rfl | rfl | rfl
 · exact .sc _
 · exact .lit _ _ _ fun row hr => pure_map cb_pure row hr
 · exact .sc _
 · exact .sc _
theorem Gang.of {row : List PV} (h : CellsP Try.prog [9, 85, 3, 3] row) : ∃ x : Gang, row = x.enc ∧ x.ok := by
 obtain ⟨q0, l0, rfl, h0, h⟩ := h.cons_inv
 obtain ⟨q1, l1, rfl, h1, h⟩ := h.cons_inv
 obtain ⟨q2, l2, rfl, h2, h⟩ := h.cons_inv
 obtain ⟨q3, l3, rfl, h3, h⟩ := h.cons_inv
 obtain rfl := h.nil_inv
 obtain ⟨z0, rfl, w0⟩ := h0.str_inv Try.underlying9
 obtain ⟨z1, rfl, w1⟩ := strs_of h1
 obtain ⟨z2, rfl, w2⟩ := h2.int_inv (k := .i64) Try.underlying3
 obtain ⟨z3, rfl, w3⟩ := h3.int_inv (k := .i64) Try.underlying3
 exact ⟨⟨z0, z1, z2, z3⟩, rfl, ⟨w0, w1, wf64 w2, wf64 w3⟩⟩
theorem Gang.ofs {q : PV} (h : CellP Try.prog 64 q) : ∃ xs : List Gang, q = .lit true 4 (xs.map Gang.enc) ∧ xs.length ≤ maxLen ∧ ∀ x ∈ xs, x.ok := by
 obtain ⟨rows, rfl, h1, h2⟩ := h.slice_at (tys := [9, 85, 3, 3]) (n := 4) Try.underlying64 (by kernel_rfl) (by kernel_rfl)
 obtain ⟨xs, rfl, h3⟩ := rows_of fun row hr => Gang.of (h2 row hr)
 exact ⟨xs, rfl, by simpa using h1, h3⟩
structure Span where
 place : Int
 fro : Int
 til : Int
 deriving Inhabited, DecidableEq
def Span.enc (x : Span) : List PV := [.int x.place, .int x.fro, .int x.til]
structure Span.ok (x : Span) : Prop where
 place : In64 x.place
 fro : In64 x.fro
 til : In64 x.til
theorem Span.pure (x : Span) : ∀ p ∈ x.enc, Pure p := fun p hp => by
 simp only [Span.enc, List.mem_cons, List.not_mem_nil, or_false] at hp
 rcases hp with rfl | rfl | rfl
 · exact .sc _
 · exact .sc _
 · exact .sc _
theorem Span.of {row : List PV} (h : CellsP Try.prog [3, 3, 3] row) : ∃ x : Span, row = x.enc ∧ x.ok := by
 obtain ⟨q0, l0, rfl, h0, h⟩ := h.cons_inv
 obtain ⟨q1, l1, rfl, h1, h⟩ := h.cons_inv
 obtain ⟨q2, l2, rfl, h2, h⟩ := h.cons_inv
 obtain rfl := h.nil_inv
 obtain ⟨z0, rfl, w0⟩ := h0.int_inv (k := .i64) Try.underlying3
 obtain ⟨z1, rfl, w1⟩ := h1.int_inv (k := .i64) Try.underlying3
 obtain ⟨z2, rfl, w2⟩ := h2.int_inv (k := .i64) Try.underlying3
 exact ⟨⟨z0, z1, z2⟩, rfl, ⟨wf64 w0, wf64 w1, wf64 w2⟩⟩
theorem Span.ofs {q : PV} (h : CellP Try.prog 65 q) : ∃ xs : List Span, q = .lit true 3 (xs.map Span.enc) ∧ xs.length ≤ maxLen ∧ ∀ x ∈ xs, x.ok := by
 obtain ⟨rows, rfl, h1, h2⟩ := h.slice_at (tys := [3, 3, 3]) (n := 3) Try.underlying65 (by kernel_rfl) (by kernel_rfl)
 obtain ⟨xs, rfl, h3⟩ := rows_of fun row hr => Span.of (h2 row hr)
 exact ⟨xs, rfl, by simpa using h1, h3⟩
structure Crew where
 gangs : List Gang
 closed : List Span
 deriving Inhabited, DecidableEq
def Crew.enc (x : Crew) : List PV := [.lit true 4 (x.gangs.map Gang.enc), .lit true 3 (x.closed.map Span.enc)]
structure Crew.ok (x : Crew) : Prop where
 gangs : x.gangs.length ≤ maxLen ∧ ∀ z ∈ x.gangs, z.ok
 closed : x.closed.length ≤ maxLen ∧ ∀ z ∈ x.closed, z.ok
theorem Crew.pure (x : Crew) : ∀ p ∈ x.enc, Pure p := fun p hp => by
 simp only [Crew.enc, List.mem_cons, List.not_mem_nil, or_false] at hp
 rcases hp with rfl | rfl
 · exact .lit _ _ _ fun row hr => pure_map Gang.pure row hr
 · exact .lit _ _ _ fun row hr => pure_map Span.pure row hr
theorem Crew.of {row : List PV} (h : CellsP Try.prog [64, 65] row) : ∃ x : Crew, row = x.enc ∧ x.ok := by
 obtain ⟨q0, l0, rfl, h0, h⟩ := h.cons_inv
 obtain ⟨q1, l1, rfl, h1, h⟩ := h.cons_inv
 obtain rfl := h.nil_inv
 obtain ⟨z0, rfl, w0⟩ := Gang.ofs h0
 obtain ⟨z1, rfl, w1⟩ := Span.ofs h1
 exact ⟨⟨z0, z1⟩, rfl, ⟨w0, w1⟩⟩
theorem Crew.arg {q : PV} (h : ArgP Try.prog 67 q) : ∃ x : Crew, q = .agg x.enc ∧ x.ok := by
 obtain ⟨cs, rfl, h1⟩ := h.agg (by kernel_rfl) (tys := [64, 65]) (by kernel_rfl)
 obtain ⟨x, rfl, h2⟩ := Crew.of h1
 exact ⟨x, rfl, h2⟩
end Go.Proofs.Ytjmjiegplnfiiaa
