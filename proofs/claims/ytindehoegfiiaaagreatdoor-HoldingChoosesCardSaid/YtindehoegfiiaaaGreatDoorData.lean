/- The records of this program as they lie in cells. No conditions. -/
import Derived.Test.YtindehoegfiiaaaGreatDoorProg
import Derived.Test.YtindehoegfiiaaaGreatDoorPvGh
namespace Go.Proofs.YtindehoegfiiaaaGreatDoor
open Go Go.Pv
set_option maxRecDepth 100000
theorem mixed : Tryz.prog.follows .mixedOrders = true := by kernel_rfl
def cl (l : List Int) : List PV := [.lit true 1 (l.map ci)]
abbrev In64 (z : Int) : Prop := -9223372036854775808 ≤ z ∧ z ≤ 9223372036854775807
theorem int_of {row : List PV} (h : CellsP Tryz.prog [3] row) : ∃ z : Int, row = ci z ∧ In64 z := by
 obtain ⟨q0, l0, rfl, h0, h⟩ := h.cons_inv
 obtain rfl := h.nil_inv
 obtain ⟨z0, rfl, w0⟩ := h0.int_inv (k := .i64) Tryz.underlying3
 exact ⟨z0, rfl, wf64 w0⟩
theorem ints_of {q : PV} (h : CellP Tryz.prog 22 q) : ∃ l : List Int, q = .lit true 1 (l.map ci) ∧ l.length ≤ maxLen ∧ ∀ z ∈ l, In64 z := by
 obtain ⟨rows, rfl, h1, h2⟩ := h.slice_at (tys := [3]) (n := 1) Tryz.underlying22 (by kernel_rfl) (by kernel_rfl)
 obtain ⟨xs, rfl, h3⟩ := rows_of fun row hr => int_of (h2 row hr)
 exact ⟨xs, rfl, by simpa using h1, h3⟩
structure Grid where
 facade : Int
 along : List Int
 levels : List Int
 deriving Inhabited, DecidableEq
def Grid.enc (x : Grid) : List PV := [.int x.facade, .lit true 1 (x.along.map ci), .lit true 1 (x.levels.map ci)]
structure Grid.ok (x : Grid) : Prop where
 facade : In64 x.facade
 along : x.along.length ≤ maxLen ∧ ∀ z ∈ x.along, In64 z
 levels : x.levels.length ≤ maxLen ∧ ∀ z ∈ x.levels, In64 z
theorem Grid.pure (x : Grid) : ∀ p ∈ x.enc, Pure p := fun p hp => by
 simp only [Grid.enc, List.mem_cons, List.not_mem_nil, or_false] at hp
 rcases hp with rfl | rfl | rfl
 · exact .sc _
 · exact .lit _ _ _ fun row hr => pure_map ci_pure row hr
 · exact .lit _ _ _ fun row hr => pure_map ci_pure row hr
theorem Grid.of {row : List PV} (h : CellsP Tryz.prog [3, 22, 22] row) : ∃ x : Grid, row = x.enc ∧ x.ok := by
 obtain ⟨q0, l0, rfl, h0, h⟩ := h.cons_inv
 obtain ⟨q1, l1, rfl, h1, h⟩ := h.cons_inv
 obtain ⟨q2, l2, rfl, h2, h⟩ := h.cons_inv
 obtain rfl := h.nil_inv
 obtain ⟨z0, rfl, w0⟩ := h0.int_inv (k := .i64) Tryz.underlying3
 obtain ⟨z1, rfl, w1⟩ := ints_of h1
 obtain ⟨z2, rfl, w2⟩ := ints_of h2
 exact ⟨⟨z0, z1, z2⟩, rfl, ⟨wf64 w0, w1, w2⟩⟩
theorem Grid.arg {q : PV} (h : ArgP Tryz.prog 24 q) : ∃ x : Grid, q = .agg x.enc ∧ x.ok := by
 obtain ⟨cs, rfl, h1⟩ := h.agg (by kernel_rfl) (tys := [3, 22, 22]) (by kernel_rfl)
 obtain ⟨x, rfl, h2⟩ := Grid.of h1
 exact ⟨x, rfl, h2⟩
structure Rule where
 every : Int
 free : Int
 skip : Int
 margin : Int
 strength : Int
 deriving Inhabited, DecidableEq
def Rule.enc (x : Rule) : List PV := [.int x.every, .int x.free, .int x.skip, .int x.margin, .int x.strength]
structure Rule.ok (x : Rule) : Prop where
 every : In64 x.every
 free : In64 x.free
 skip : In64 x.skip
 margin : In64 x.margin
 strength : In64 x.strength
theorem Rule.pure (x : Rule) : ∀ p ∈ x.enc, Pure p := fun p hp => by
 simp only [Rule.enc, List.mem_cons, List.not_mem_nil, or_false] at hp
 rcases hp with rfl | rfl | rfl | rfl | rfl
 · exact .sc _
 · exact .sc _
 · exact .sc _
 · exact .sc _
 · exact .sc _
theorem Rule.of {row : List PV} (h : CellsP Tryz.prog [3, 3, 3, 3, 3] row) : ∃ x : Rule, row = x.enc ∧ x.ok := by
 obtain ⟨q0, l0, rfl, h0, h⟩ := h.cons_inv
 obtain ⟨q1, l1, rfl, h1, h⟩ := h.cons_inv
 obtain ⟨q2, l2, rfl, h2, h⟩ := h.cons_inv
 obtain ⟨q3, l3, rfl, h3, h⟩ := h.cons_inv
 obtain ⟨q4, l4, rfl, h4, h⟩ := h.cons_inv
 obtain rfl := h.nil_inv
 obtain ⟨z0, rfl, w0⟩ := h0.int_inv (k := .i64) Tryz.underlying3
 obtain ⟨z1, rfl, w1⟩ := h1.int_inv (k := .i64) Tryz.underlying3
 obtain ⟨z2, rfl, w2⟩ := h2.int_inv (k := .i64) Tryz.underlying3
 obtain ⟨z3, rfl, w3⟩ := h3.int_inv (k := .i64) Tryz.underlying3
 obtain ⟨z4, rfl, w4⟩ := h4.int_inv (k := .i64) Tryz.underlying3
 exact ⟨⟨z0, z1, z2, z3, z4⟩, rfl, ⟨wf64 w0, wf64 w1, wf64 w2, wf64 w3, wf64 w4⟩⟩
theorem Rule.arg {q : PV} (h : ArgP Tryz.prog 26 q) : ∃ x : Rule, q = .agg x.enc ∧ x.ok := by
 obtain ⟨cs, rfl, h1⟩ := h.agg (by kernel_rfl) (tys := [3, 3, 3, 3, 3]) (by kernel_rfl)
 obtain ⟨x, rfl, h2⟩ := Rule.of h1
 exact ⟨x, rfl, h2⟩
structure Tie where
 standard : Int
 level : Int
 deriving Inhabited, DecidableEq
def Tie.enc (x : Tie) : List PV := [.int x.standard, .int x.level]
structure Tie.ok (x : Tie) : Prop where
 standard : In64 x.standard
 level : In64 x.level
theorem Tie.pure (x : Tie) : ∀ p ∈ x.enc, Pure p := fun p hp => by
 simp only [Tie.enc, List.mem_cons, List.not_mem_nil, or_false] at hp
 rcases hp with rfl | rfl
 · exact .sc _
 · exact .sc _
theorem Tie.of {row : List PV} (h : CellsP Tryz.prog [3, 3] row) : ∃ x : Tie, row = x.enc ∧ x.ok := by
 obtain ⟨q0, l0, rfl, h0, h⟩ := h.cons_inv
 obtain ⟨q1, l1, rfl, h1, h⟩ := h.cons_inv
 obtain rfl := h.nil_inv
 obtain ⟨z0, rfl, w0⟩ := h0.int_inv (k := .i64) Tryz.underlying3
 obtain ⟨z1, rfl, w1⟩ := h1.int_inv (k := .i64) Tryz.underlying3
 exact ⟨⟨z0, z1⟩, rfl, ⟨wf64 w0, wf64 w1⟩⟩
theorem Tie.ofs {q : PV} (h : CellP Tryz.prog 34 q) : ∃ xs : List Tie, q = .lit true 2 (xs.map Tie.enc) ∧ xs.length ≤ maxLen ∧ ∀ x ∈ xs, x.ok := by
 obtain ⟨rows, rfl, h1, h2⟩ := h.slice_at (tys := [3, 3]) (n := 2) Tryz.underlying34 (by kernel_rfl) (by kernel_rfl)
 obtain ⟨xs, rfl, h3⟩ := rows_of fun row hr => Tie.of (h2 row hr)
 exact ⟨xs, rfl, by simpa using h1, h3⟩
theorem Tie.arg {q : PV} (h : ArgP Tryz.prog 34 q) : ∃ xs : List Tie, q = .lit true 2 (xs.map Tie.enc) ∧ xs.length ≤ maxLen ∧ ∀ x ∈ xs, x.ok := Tie.ofs (h.cell (by kernel_rfl))
structure Demand where
 standard : Int
 fro : Int
 places : List Int
 deriving Inhabited, DecidableEq
structure Demand.ok (x : Demand) : Prop where
 standard : In64 x.standard
 fro : In64 x.fro
 places : x.places.length ≤ maxLen ∧ ∀ z ∈ x.places, In64 z
structure Pattern where
 step : Int
 rise : Int
 shift : Int
 deriving Inhabited, DecidableEq
structure Pattern.ok (x : Pattern) : Prop where
 step : In64 x.step
 rise : In64 x.rise
 shift : In64 x.shift
structure Ground where
 fro : Int
 til : Int
 height : Int
 bearing : Int
 deriving Inhabited, DecidableEq
def Ground.enc (x : Ground) : List PV := [.int x.fro, .int x.til, .int x.height, .int x.bearing]
structure Ground.ok (x : Ground) : Prop where
 fro : In64 x.fro
 til : In64 x.til
 height : In64 x.height
 bearing : In64 x.bearing
theorem Ground.pure (x : Ground) : ∀ p ∈ x.enc, Pure p := fun p hp => by
 simp only [Ground.enc, List.mem_cons, List.not_mem_nil, or_false] at hp
 rcases hp with rfl | rfl | rfl | rfl
 · exact .sc _
 · exact .sc _
 · exact .sc _
 · exact .sc _
structure Sole where
 length : Int
 width : Int
 deriving Inhabited, DecidableEq
structure Sole.ok (x : Sole) : Prop where
 length : In64 x.length
 width : In64 x.width
structure Jack where
 least : Int
 most : Int
 sole : Int
 deriving Inhabited, DecidableEq
structure Jack.ok (x : Jack) : Prop where
 least : In64 x.least
 most : In64 x.most
 sole : In64 x.sole
structure Boards where
 loads : List Int
 boards : List Sole
 deriving Inhabited, DecidableEq
structure Boards.ok (x : Boards) : Prop where
 loads : x.loads.length ≤ maxLen ∧ ∀ z ∈ x.loads, In64 z
 boards : x.boards.length ≤ maxLen ∧ ∀ z ∈ x.boards, z.ok
end Go.Proofs.YtindehoegfiiaaaGreatDoor
