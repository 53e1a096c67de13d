import Derived.Test.YtjihcgcbnbaclaaDoorRAwake
import Derived.Test.YtjihcgcbnbaclaaDoorPvGg
set_option linter.unusedSimpArgs false
set_option linter.unusedVariables false
namespace Go.Proofs.YtjihcgcbnbaclaaDoor.Y9
open Go Go.Pv
set_option maxRecDepth 100000
structure Ev where
 day : Int
 kind : Int
 platform : ByteArray
 number : Int
 passed : Bool
 grave : Bool
 deriving Inhabited, DecidableEq
def Ev.enc (x : Ev) : List PV := [.int x.day, .int x.kind, .str x.platform, .int x.number, .bool x.passed, .bool x.grave]
structure Ev.ok (x : Ev) : Prop where
 day : -9223372036854775808 ≤ x.day ∧ x.day ≤ 9223372036854775807
 kind : -9223372036854775808 ≤ x.kind ∧ x.kind ≤ 9223372036854775807
 platform : x.platform.size ≤ maxLen
 number : -9223372036854775808 ≤ x.number ∧ x.number ≤ 9223372036854775807
theorem Ev.pure (x : Ev) : ∀ p ∈ x.enc, Pure p := fun p hp => by
 simp only [Ev.enc, List.mem_cons, List.not_mem_nil, or_false] at hp;rcases hp with rfl | rfl | rfl | rfl | rfl | rfl <;> exact .sc _
theorem Ev.of {row : List PV} (h : CellsP Tryd.prog [3, 3, 9, 3, 4, 4] row) : ∃ x : Ev, row = x.enc ∧ x.ok := by
 obtain ⟨q0, l0, rfl, h0, h⟩ := h.cons_inv;obtain ⟨q1, l1, rfl, h1, h⟩ := h.cons_inv;obtain ⟨q2, l2, rfl, h2, h⟩ := h.cons_inv;obtain ⟨q3, l3, rfl, h3, h⟩ := h.cons_inv;obtain ⟨q4, l4, rfl, h4, h⟩ := h.cons_inv;obtain ⟨q5, l5, rfl, h5, h⟩ := h.cons_inv;obtain rfl := h.nil_inv;obtain ⟨z0, rfl, w0⟩ := h0.int_inv (k := .i64) Tryd.underlying3;obtain ⟨z1, rfl, w1⟩ := h1.int_inv (k := .i64) Tryd.underlying3;obtain ⟨z2, rfl, w2⟩ := h2.str_inv Tryd.underlying9;obtain ⟨z3, rfl, w3⟩ := h3.int_inv (k := .i64) Tryd.underlying3;obtain ⟨z4, rfl⟩ := h4.bool_inv Tryd.underlying4;obtain ⟨z5, rfl⟩ := h5.bool_inv Tryd.underlying4;exact ⟨⟨z0, z1, z2, z3, z4, z5⟩, rfl, ⟨wf64 w0, wf64 w1, w2, wf64 w3⟩⟩
theorem Ev.arg {q : PV} (h : ArgP Tryd.prog 55 q) : ∃ xs : List Ev, q = .lit true 6 (xs.map Ev.enc) ∧ xs.length ≤ maxLen ∧ ∀ x ∈ xs, x.ok := by
 obtain ⟨rows, rfl, h1, h2⟩ := (h.cell (by kernel_rfl)).slice_at (tys := [3, 3, 9, 3, 4, 4]) (n := 6) Tryd.underlying55 (by kernel_rfl) (by kernel_rfl);obtain ⟨xs, rfl, h3⟩ := rows_of fun row hr => Ev.of (h2 row hr);exact ⟨xs, rfl, by simpa using h1, h3⟩
structure Term where
 part : ByteArray
 week : Int
 least : Int
 price : Int
 deriving Inhabited, DecidableEq
structure Term.ok (x : Term) : Prop where
 part : x.part.size ≤ maxLen
 week : -9223372036854775808 ≤ x.week ∧ x.week ≤ 9223372036854775807
 least : -9223372036854775808 ≤ x.least ∧ x.least ≤ 9223372036854775807
 price : -9223372036854775808 ≤ x.price ∧ x.price ≤ 9223372036854775807
structure Move where
 day : Int
 kind : Int
 part : ByteArray
 count : Int
 deriving Inhabited, DecidableEq
structure Move.ok (x : Move) : Prop where
 day : -9223372036854775808 ≤ x.day ∧ x.day ≤ 9223372036854775807
 kind : -9223372036854775808 ≤ x.kind ∧ x.kind ≤ 9223372036854775807
 part : x.part.size ≤ maxLen
 count : -9223372036854775808 ≤ x.count ∧ x.count ≤ 9223372036854775807
end Go.Proofs.YtjihcgcbnbaclaaDoor.Y9
