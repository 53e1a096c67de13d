/- The records of this program as they lie in cells. No conditions. -/
import Derived.Test.YtigdmkhdmbbfiaaData
import Derived.Test.YtigdmkhdmbbfiaaPvGh
set_option linter.unusedSimpArgs false
set_option linter.unusedVariables false
namespace Go.Proofs.Ytigdmkhdmbbfiaa
open Go Go.Pv
set_option maxRecDepth 100000
def cl (l : List Int) : List PV := [.lit true 1 (l.map ci)]
abbrev In64 (z : Int) : Prop := -9223372036854775808 ≤ z ∧ z ≤ 9223372036854775807
theorem Route.ofs {q : PV} (h : CellP Try.prog 22 q) : ∃ xs : List Route, q = .lit true 4 (xs.map Route.enc) ∧ xs.length ≤ maxLen ∧ ∀ x ∈ xs, x.ok := by
 obtain ⟨rows, rfl, h1, h2⟩ := h.slice_at (tys := [3, 3, 3, 3]) (n := 4) Try.underlying22 (by kernel_rfl) (by kernel_rfl)
 obtain ⟨xs, rfl, h3⟩ := rows_of fun row hr => Route.of (h2 row hr)
 exact ⟨xs, rfl, by simpa using h1, h3⟩
theorem Supply.ofs {q : PV} (h : CellP Try.prog 23 q) : ∃ xs : List Supply, q = .lit true 3 (xs.map Supply.enc) ∧ xs.length ≤ maxLen ∧ ∀ x ∈ xs, x.ok := by
 obtain ⟨rows, rfl, h1, h2⟩ := h.slice_at (tys := [3, 3, 3]) (n := 3) Try.underlying23 (by kernel_rfl) (by kernel_rfl)
 obtain ⟨xs, rfl, h3⟩ := rows_of fun row hr => Supply.of (h2 row hr)
 exact ⟨xs, rfl, by simpa using h1, h3⟩
structure At where
 a0 : Int
 a1 : Int
 deriving Inhabited, DecidableEq
def At.enc (x : At) : List PV := [.int x.a0, .int x.a1]
structure At.ok (x : At) : Prop where
 a0 : In64 x.a0
 a1 : In64 x.a1
theorem At.pure (x : At) : ∀ p ∈ x.enc, Pure p := fun p hp => by
 simp only [At.enc, List.mem_cons, List.not_mem_nil, or_false] at hp
 rcases hp with rfl | rfl
 · exact .sc _
 · exact .sc _
structure Traffic where
 places : Int
 days : Int
 routes : List Route
 supplies : List Supply
 needs : List Supply
 deriving Inhabited, DecidableEq
def Traffic.enc (x : Traffic) : List PV := [.int x.places, .int x.days, .lit true 4 (x.routes.map Route.enc), .lit true 3 (x.supplies.map Supply.enc), .lit true 3 (x.needs.map Supply.enc)]
structure Traffic.ok (x : Traffic) : Prop where
 places : In64 x.places
 days : In64 x.days
 routes : x.routes.length ≤ maxLen ∧ ∀ z ∈ x.routes, z.ok
 supplies : x.supplies.length ≤ maxLen ∧ ∀ z ∈ x.supplies, z.ok
 needs : x.needs.length ≤ maxLen ∧ ∀ z ∈ x.needs, z.ok
theorem Traffic.pure (x : Traffic) : ∀ p ∈ x.enc, Pure p := fun p hp => by
 simp only [Traffic.enc, List.mem_cons, List.not_mem_nil, or_false] at hp
 rcases hp with rfl | rfl | rfl | rfl | rfl
 · exact .sc _
 · exact .sc _
 · exact .lit _ _ _ fun row hr => pure_map Route.pure row hr
 · exact .lit _ _ _ fun row hr => pure_map Supply.pure row hr
 · exact .lit _ _ _ fun row hr => pure_map Supply.pure row hr
theorem Traffic.of {row : List PV} (h : CellsP Try.prog [3, 3, 22, 23, 23] row) : ∃ x : Traffic, row = x.enc ∧ x.ok := by
 obtain ⟨q0, l0, rfl, h0, h⟩ := h.cons_inv
 obtain ⟨q1, l1, rfl, h1, h⟩ := h.cons_inv
 obtain ⟨q2, l2, rfl, h2, h⟩ := h.cons_inv
 obtain ⟨q3, l3, rfl, h3, h⟩ := h.cons_inv
 obtain ⟨q4, l4, rfl, h4, h⟩ := h.cons_inv
 obtain rfl := h.nil_inv
 obtain ⟨z0, rfl, w0⟩ := h0.int_inv (k := .i64) Try.underlying3
 obtain ⟨z1, rfl, w1⟩ := h1.int_inv (k := .i64) Try.underlying3
 obtain ⟨z2, rfl, w2⟩ := Route.ofs h2
 obtain ⟨z3, rfl, w3⟩ := Supply.ofs h3
 obtain ⟨z4, rfl, w4⟩ := Supply.ofs h4
 exact ⟨⟨z0, z1, z2, z3, z4⟩, rfl, ⟨wf64 w0, wf64 w1, w2, w3, w4⟩⟩
theorem Traffic.arg {q : PV} (h : ArgP Try.prog 25 q) : ∃ x : Traffic, q = .agg x.enc ∧ x.ok := by
 obtain ⟨cs, rfl, h1⟩ := h.agg (by kernel_rfl) (tys := [3, 3, 22, 23, 23]) (by kernel_rfl)
 obtain ⟨x, rfl, h2⟩ := Traffic.of h1
 exact ⟨x, rfl, h2⟩
end Go.Proofs.Ytigdmkhdmbbfiaa
