/- The records of this program as they lie in cells. No conditions. -/
import Derived.Test.YtdbpfhbppcpbbaaData
import Derived.Test.YtdbpfhbppcpbbaaPvZ2
namespace Go.Proofs.Ytdbpfhbppcpbbaa
open Go Go.Pv
set_option maxRecDepth 100000
structure Lot where
  part : ByteArray
  count : Int
  inn : Int
  day : Int
  out : Int
  deriving Inhabited, DecidableEq
def Lot.enc (x : Lot) : List PV := [.str x.part, .int x.count, .int x.inn, .int x.day, .int x.out]
structure Lot.ok (x : Lot) : Prop where
  part : x.part.size ≤ maxLen
  count : -9223372036854775808 ≤ x.count ∧ x.count ≤ 9223372036854775807
  inn : -9223372036854775808 ≤ x.inn ∧ x.inn ≤ 9223372036854775807
  day : -9223372036854775808 ≤ x.day ∧ x.day ≤ 9223372036854775807
  out : -9223372036854775808 ≤ x.out ∧ x.out ≤ 9223372036854775807
theorem Lot.pure (x : Lot) : ∀ p ∈ x.enc, Pure p := fun p hp => by
  simp only [Lot.enc, List.mem_cons, List.not_mem_nil, or_false] at hp
  rcases hp with rfl | rfl | rfl | rfl | rfl <;> exact .sc _
theorem Lot.of {row : List PV} (h : CellsP Try.prog [9, 3, 3, 3, 3] row) : ∃ x : Lot, row = x.enc ∧ x.ok := by
  obtain ⟨q0, l0, rfl, h0, h⟩ := h.cons_inv
  obtain ⟨q1, l1, rfl, h1, h⟩ := h.cons_inv
  obtain ⟨q2, l2, rfl, h2, h⟩ := h.cons_inv
  obtain ⟨q3, l3, rfl, h3, h⟩ := h.cons_inv
  obtain ⟨q4, l4, rfl, h4, h⟩ := h.cons_inv
  obtain rfl := h.nil_inv
  obtain ⟨z0, rfl, w0⟩ := h0.str_inv Try.underlying9
  obtain ⟨z1, rfl, w1⟩ := h1.int_inv (k := .i64) Try.underlying3
  obtain ⟨z2, rfl, w2⟩ := h2.int_inv (k := .i64) Try.underlying3
  obtain ⟨z3, rfl, w3⟩ := h3.int_inv (k := .i64) Try.underlying3
  obtain ⟨z4, rfl, w4⟩ := h4.int_inv (k := .i64) Try.underlying3
  exact ⟨⟨z0, z1, z2, z3, z4⟩, rfl, ⟨w0, wf64 w1, wf64 w2, wf64 w3, wf64 w4⟩⟩
theorem Lot.arg {q : PV} (h : ArgP Try.prog 61 q) : ∃ xs : List Lot, q = .lit true 5 (xs.map Lot.enc) ∧ xs.length ≤ maxLen ∧ ∀ x ∈ xs, x.ok := by
  obtain ⟨rows, rfl, h1, h2⟩ := (h.cell (by kernel_rfl)).slice_at (tys := [9, 3, 3, 3, 3]) (n := 5) Try.underlying61 (by kernel_rfl) (by kernel_rfl)
  obtain ⟨xs, rfl, h3⟩ := rows_of fun row hr => Lot.of (h2 row hr)
  exact ⟨xs, rfl, by simpa using h1, h3⟩
end Go.Proofs.Ytdbpfhbppcpbbaa
