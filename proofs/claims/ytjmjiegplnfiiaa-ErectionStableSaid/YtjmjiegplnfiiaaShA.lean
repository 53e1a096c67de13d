import Derived.Shelf.Spec.SlicesGrow
import Derived.Ground.Names8Prog
import Derived.Test.YtjmjiegplnfiiaaProg
import Derived.Test.YtjmjiegplnfiiaaPvGh
import Derived.Test.YtjmjiegplnfiiaaSchA
/- 'slices.Grow' of nothing at this program, told from the library's contract. No conditions. -/
namespace Go.Proofs
open Go.Shelf
end Go.Proofs
namespace Go.Proofs.Ytjmjiegplnfiiaa
open Go Go.Proofs Go.RowKit Go.Shelf Go.Pv
end Go.Proofs.Ytjmjiegplnfiiaa

/- Lists of times joined; the earliest time. No conditions. -/
set_option linter.unusedSimpArgs false
set_option linter.unusedVariables false
set_option maxRecDepth 100000
namespace Go.Proofs.Ytjmjiegplnfiiaa
open Go Go.Pv
/-! ### The earliest time -/
end Go.Proofs.Ytjmjiegplnfiiaa

/- The schedule of a crew: plain laws. No conditions. -/
set_option linter.unusedSimpArgs false
set_option linter.unusedVariables false
namespace Go.Proofs.Ytjmjiegplnfiiaa
open Go Go.Pv

/-! ### The time from which a task can be done -/
def endY (xs : List Task) (y : Slot) : Int := y.start + (tsk xs y).minutes
section
variable {xs : List Task} {D : List Slot} {l : List Int} {x y : Slot} {k n : Nat}
end

/-! ### The first slot that fits -/
structure PkN (xs : List Task) (c : Crew) (D : List Slot) (t f : Int) (n : Int) (x : Slot) : Prop where
 task : x.task = t
 gang : 0 ≤ x.gang ∧ x.gang < n
 fro : f ≤ x.start
 fit : fitsB xs c D x = true
 fst : ∀ y : Slot, y.task = t → 0 ≤ y.gang ∧ y.gang < n → f ≤ y.start → fitsB xs c D y = true → x.start < y.start ∨ x.start = y.start ∧ x.gang ≤ y.gang
open Classical in
noncomputable def pk (xs : List Task) (c : Crew) (D : List Slot) (t f : Int) : Option Slot := if h : ∃ x, PkN xs c D t f c.gangs.length x then some h.choose else none
section
variable {xs : List Task} {c : Crew} {D : List Slot} {t f n : Int} {x y : Slot}
end

/-! ### One gang -/
def spL (xs : List Task) (c : Crew) (D : List Slot) (p i : Int) : List Sp := bsG xs D i ++ clL c.closed p
section
variable {xs : List Task} {c : Crew} {D : List Slot} {f i : Int} {x : Task} {g : Gang} {y : Slot} {t : Int}
end

/-! ### All tasks -/
structure DInv (xs : List Task) (c : Crew) (O : List Int) (k : Nat) (D : List Slot) : Prop where
 tasks : D.map (·.task) = O.take k
 ok : ∀ y ∈ D, (0 ≤ y.gang ∧ y.gang < c.gangs.length) ∧ 0 ≤ y.start ∧ y.start ≤ 1000000 ∧ endY xs y ≤ 1000000
section
variable {xs : List Task} {c : Crew} {O : List Int} {k : Nat} {D : List Slot} {x : Slot}
theorem DInv.mem (h : DInv xs c O k D) {y : Slot} (hy : y ∈ D) : y.task ∈ O.take k := by
 rw [← h.tasks]; exact List.mem_map.2 ⟨y, hy, rfl⟩
end
end Go.Proofs.Ytjmjiegplnfiiaa
