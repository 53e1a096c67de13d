/- What Demands yields to. No conditions. -/
import Derived.Test.YtindehoegfiiaaaGreatDoorHel
set_option linter.unusedSimpArgs false
set_option linter.unusedVariables false
set_option maxRecDepth 100000
namespace Go.Proofs.YtindehoegfiiaaaGreatDoor
open Go Go.Pv
/-! ### Demands with their places -/
def plT (K : Tie → Bool) (l : List Tie) : Nat → List Int
 | 0 => []
 | k + 1 => if K (l.getD k default) = true then plT K l k ++ [(k : Int)] else plT K l k
def dmd (g : Grid) (r : Rule) (l : List Tie) (e : Int × Int) : Demand := ⟨e.1, e.2, plT (mtB g r e.1 e.2) l l.length⟩
structure NestD (d : Nat) (h : Heap) (rows : Go.Pv.Rows) (ds : List Demand) : Prop where
 len : rows.length = ds.length
 at_ : ∀ (n : Nat) (x : Demand), ds[n]? = some x → ∃ pv, rows[n]? = some [.int x.standard, .int x.fro, pv] ∧ SliceAt h d pv 1 (x.places.map ci)
section
variable {K : Tie → Bool} {l : List Tie} {k d : Nat} {t : Tie} {h h' : Heap} {rows : Go.Pv.Rows} {ds : List Demand} {x : Demand} {pv v : PV} {sz : Nat}
theorem sl_mono (hs : SliceAt h d v sz rows) (hk : ∀ g o, h (d, g) = some o → h' (d, g) = some o) : SliceAt h' d v sz rows := by
 rcases hs with q | ⟨g, q1, q2⟩
 · exact .inl q
 · exact .inr ⟨g, q1, hk g _ q2⟩
theorem NestD.mono (hn : NestD d h rows ds) (hk : ∀ g o, h (d, g) = some o → h' (d, g) = some o) : NestD d h' rows ds :=
 ⟨hn.len, fun n x hx => by obtain ⟨pv, h1, h2⟩ := hn.at_ n x hx; exact ⟨pv, h1, sl_mono h2 hk⟩⟩
end
/-! ### What Demands keeps -/
structure DkH (g : Grid) (r : Rule) (l : List Tie) (p : List (Int × Int)) (h : Heap) : Prop where
 ties : h (5, 0) = some (.rows 1 [[.lit true 2 (l.map Tie.enc)]])
 out : ∃ v rows, h (9, 0) = some (.rows 1 [[v]]) ∧ SliceAt h 29 v 3 rows ∧ NestD 23 h rows (p.map (dmd g r l)) ∧ v.cell = true
end Go.Proofs.YtindehoegfiiaaaGreatDoor
