/- The records of this program as they lie in cells. No conditions. -/
import Derived.Test.YtjmjiegplnfiiaaProg
import Derived.Test.YtjmjiegplnfiiaaPvGh
namespace Go.Proofs.Ytjmjiegplnfiiaa
open Go Go.Pv
set_option maxRecDepth 100000
theorem mixed : Try.prog.follows .mixedOrders = true := by kernel_rfl
def cl (l : List Int) : List PV := [.lit true 1 (l.map ci)]
abbrev In64 (z : Int) : Prop := -9223372036854775808 ≤ z ∧ z ≤ 9223372036854775807
theorem int_arg {q : PV} (h : ArgP Try.prog 3 q) : ∃ z : Int, q = .int z ∧ In64 z := by
 obtain ⟨z0, rfl, w0⟩ := (h.cell (by kernel_rfl)).int_inv (k := .i64) Try.underlying3
 exact ⟨z0, rfl, wf64 w0⟩
structure Node where
 px : Int
 py : Int
 pz : Int
 deriving Inhabited, DecidableEq
def Node.enc (x : Node) : List PV := [.int x.px, .int x.py, .int x.pz]
structure Node.ok (x : Node) : Prop where
 px : In64 x.px
 py : In64 x.py
 pz : In64 x.pz
theorem Node.pure (x : Node) : ∀ p ∈ x.enc, Pure p := fun p hp => by
 simp only [Node.enc, List.mem_cons, List.not_mem_nil, or_false] at hp
 rcases hp with rfl | rfl | rfl
 · exact .sc _
 · exact .sc _
 · exact .sc _
theorem Node.of {row : List PV} (h : CellsP Try.prog [3, 3, 3] row) : ∃ x : Node, row = x.enc ∧ x.ok := by
 obtain ⟨q0, l0, rfl, h0, h⟩ := h.cons_inv
 obtain ⟨q1, l1, rfl, h1, h⟩ := h.cons_inv
 obtain ⟨q2, l2, rfl, h2, h⟩ := h.cons_inv
 obtain rfl := h.nil_inv
 obtain ⟨z0, rfl, w0⟩ := h0.int_inv (k := .i64) Try.underlying3
 obtain ⟨z1, rfl, w1⟩ := h1.int_inv (k := .i64) Try.underlying3
 obtain ⟨z2, rfl, w2⟩ := h2.int_inv (k := .i64) Try.underlying3
 exact ⟨⟨z0, z1, z2⟩, rfl, ⟨wf64 w0, wf64 w1, wf64 w2⟩⟩
theorem Node.ofs {q : PV} (h : CellP Try.prog 72 q) : ∃ xs : List Node, q = .lit true 3 (xs.map Node.enc) ∧ xs.length ≤ maxLen ∧ ∀ x ∈ xs, x.ok := by
 obtain ⟨rows, rfl, h1, h2⟩ := h.slice_at (tys := [3, 3, 3]) (n := 3) Try.underlying72 (by kernel_rfl) (by kernel_rfl)
 obtain ⟨xs, rfl, h3⟩ := rows_of fun row hr => Node.of (h2 row hr)
 exact ⟨xs, rfl, by simpa using h1, h3⟩
structure Member where
 kind : Int
 a : Int
 b : Int
 deriving Inhabited, DecidableEq
def Member.enc (x : Member) : List PV := [.int x.kind, .int x.a, .int x.b]
structure Member.ok (x : Member) : Prop where
 kind : In64 x.kind
 a : In64 x.a
 b : In64 x.b
theorem Member.pure (x : Member) : ∀ p ∈ x.enc, Pure p := fun p hp => by
 simp only [Member.enc, List.mem_cons, List.not_mem_nil, or_false] at hp
 rcases hp with rfl | rfl | rfl
 · exact .sc _
 · exact .sc _
 · exact .sc _
theorem Member.of {row : List PV} (h : CellsP Try.prog [3, 3, 3] row) : ∃ x : Member, row = x.enc ∧ x.ok := by
 obtain ⟨q0, l0, rfl, h0, h⟩ := h.cons_inv
 obtain ⟨q1, l1, rfl, h1, h⟩ := h.cons_inv
 obtain ⟨q2, l2, rfl, h2, h⟩ := h.cons_inv
 obtain rfl := h.nil_inv
 obtain ⟨z0, rfl, w0⟩ := h0.int_inv (k := .i64) Try.underlying3
 obtain ⟨z1, rfl, w1⟩ := h1.int_inv (k := .i64) Try.underlying3
 obtain ⟨z2, rfl, w2⟩ := h2.int_inv (k := .i64) Try.underlying3
 exact ⟨⟨z0, z1, z2⟩, rfl, ⟨wf64 w0, wf64 w1, wf64 w2⟩⟩
theorem Member.ofs {q : PV} (h : CellP Try.prog 73 q) : ∃ xs : List Member, q = .lit true 3 (xs.map Member.enc) ∧ xs.length ≤ maxLen ∧ ∀ x ∈ xs, x.ok := by
 obtain ⟨rows, rfl, h1, h2⟩ := h.slice_at (tys := [3, 3, 3]) (n := 3) Try.underlying73 (by kernel_rfl) (by kernel_rfl)
 obtain ⟨xs, rfl, h3⟩ := rows_of fun row hr => Member.of (h2 row hr)
 exact ⟨xs, rfl, by simpa using h1, h3⟩
structure Scaffold where
 nodes : List Node
 members : List Member
 deriving Inhabited, DecidableEq
def Scaffold.enc (x : Scaffold) : List PV := [.lit true 3 (x.nodes.map Node.enc), .lit true 3 (x.members.map Member.enc)]
structure Scaffold.ok (x : Scaffold) : Prop where
 nodes : x.nodes.length ≤ maxLen ∧ ∀ z ∈ x.nodes, z.ok
 members : x.members.length ≤ maxLen ∧ ∀ z ∈ x.members, z.ok
theorem Scaffold.pure (x : Scaffold) : ∀ p ∈ x.enc, Pure p := fun p hp => by
 simp only [Scaffold.enc, List.mem_cons, List.not_mem_nil, or_false] at hp
 rcases hp with rfl | rfl
 · exact .lit _ _ _ fun row hr => pure_map Node.pure row hr
 · exact .lit _ _ _ fun row hr => pure_map Member.pure row hr
theorem Scaffold.of {row : List PV} (h : CellsP Try.prog [72, 73] row) : ∃ x : Scaffold, row = x.enc ∧ x.ok := by
 obtain ⟨q0, l0, rfl, h0, h⟩ := h.cons_inv
 obtain ⟨q1, l1, rfl, h1, h⟩ := h.cons_inv
 obtain rfl := h.nil_inv
 obtain ⟨z0, rfl, w0⟩ := Node.ofs h0
 obtain ⟨z1, rfl, w1⟩ := Member.ofs h1
 exact ⟨⟨z0, z1⟩, rfl, ⟨w0, w1⟩⟩
theorem Scaffold.arg {q : PV} (h : ArgP Try.prog 75 q) : ∃ x : Scaffold, q = .agg x.enc ∧ x.ok := by
 obtain ⟨cs, rfl, h1⟩ := h.agg (by kernel_rfl) (tys := [72, 73]) (by kernel_rfl)
 obtain ⟨x, rfl, h2⟩ := Scaffold.of h1
 exact ⟨x, rfl, h2⟩
structure Task where
 name : ByteArray
 trade : ByteArray
 member : Int
 place : Int
 minutes : Int
 needs : List Int
 deriving Inhabited, DecidableEq
def Task.enc (x : Task) : List PV := [.str x.name, .str x.trade, .int x.member, .int x.place, .int x.minutes, .lit true 1 (x.needs.map ci)]
structure Task.ok (x : Task) : Prop where
 name : x.name.size ≤ maxLen
 trade : x.trade.size ≤ maxLen
 member : In64 x.member
 place : In64 x.place
 minutes : In64 x.minutes
 needs : x.needs.length ≤ maxLen ∧ ∀ z ∈ x.needs, In64 z
theorem Task.pure (x : Task) : ∀ p ∈ x.enc, Pure p := fun p hp => by
 simp only [Task.enc, List.mem_cons, List.not_mem_nil, or_false] at hp
 rcases hp with rfl | rfl | rfl | rfl | rfl | rfl
 · exact .sc _
 · exact .sc _
 · exact .sc _
 · exact .sc _
 · exact .sc _
 · exact .lit _ _ _ fun row hr => pure_map ci_pure row hr
structure Slot where
 task : Int
 gang : Int
 start : Int
 deriving Inhabited, DecidableEq
structure Slot.ok (x : Slot) : Prop where
 task : In64 x.task
 gang : In64 x.gang
 start : In64 x.start
structure Gang where
 name : ByteArray
 trades : List ByteArray
 fro : Int
 til : Int
 deriving Inhabited, DecidableEq
structure Gang.ok (x : Gang) : Prop where
 name : x.name.size ≤ maxLen
 trades : x.trades.length ≤ maxLen ∧ ∀ z ∈ x.trades, z.size ≤ maxLen
 fro : In64 x.fro
 til : In64 x.til
structure Span where
 place : Int
 fro : Int
 til : Int
 deriving Inhabited, DecidableEq
structure Span.ok (x : Span) : Prop where
 place : In64 x.place
 fro : In64 x.fro
 til : In64 x.til
structure Crew where
 gangs : List Gang
 closed : List Span
 deriving Inhabited, DecidableEq
structure Crew.ok (x : Crew) : Prop where
 gangs : x.gangs.length ≤ maxLen ∧ ∀ z ∈ x.gangs, z.ok
 closed : x.closed.length ≤ maxLen ∧ ∀ z ∈ x.closed, z.ok
end Go.Proofs.Ytjmjiegplnfiiaa
