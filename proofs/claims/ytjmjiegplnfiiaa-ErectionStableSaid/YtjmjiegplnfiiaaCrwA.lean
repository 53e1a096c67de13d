import Derived.Test.YtjmjiegplnfiiaaLayA
/- Crews. No conditions. -/
set_option linter.unusedSimpArgs false
set_option linter.unusedVariables false
set_option maxRecDepth 100000
namespace Go.Proofs.Ytjmjiegplnfiiaa
open Go Go.Pv
/-! ### The first one of a list that is so -/
def ixA {α : Type} (K : α → Bool) (l : List α) : Int := match l.findIdx? K with | some i => (i : Int) | none => -1
theorem ixA_hit {α : Type} {K : α → Bool} {l : List α} {k : Nat} {x : α} (hx : l[k]? = some x) (h : ∀ i, i < k → ∀ y, l[i]? = some y → K y = false) (h2 : K x = true) : (k : Int) = ixA K l := by
 obtain ⟨h1, e⟩ := List.getElem?_eq_some_iff.1 hx
 have : l.findIdx? K = some k := by
   rw [List.findIdx?_eq_some_iff_getElem]
   exact ⟨h1, by rw [e]; exact h2, fun j hj => by rw [h j hj _ (List.getElem?_eq_getElem (by omega))]; decide⟩
 rw [ixA, this]
theorem ixA_no {α : Type} {K : α → Bool} {l : List α} {k : Nat} (h : ∀ i, i < k → ∀ y, l[i]? = some y → K y = false) (h2 : l.length ≤ k) : -1 = ixA K l := by
 have : l.findIdx? K = none := by
   rw [List.findIdx?_eq_none_iff]
   intro z hz
   obtain ⟨i, hi⟩ := List.getElem?_of_mem hz
   exact h i (by have := (List.getElem?_eq_some_iff.1 hi).1; omega) z hi
 rw [ixA, this]
theorem ixA_any {α : Type} {K : α → Bool} {l : List α} : decide (0 ≤ ixA K l) = l.any K := by
 rw [Bool.eq_iff_iff, decide_eq_true_eq, ixA, List.any_eq_true]
 cases h : l.findIdx? K with
 | none =>
   rw [List.findIdx?_eq_none_iff] at h
   simp only [Int.reduceNeg]
   exact ⟨fun h => absurd h (by decide), fun ⟨x, h1, h2⟩ => by rw [h x h1] at h2; cases h2⟩
 | some i =>
   rw [List.findIdx?_eq_some_iff_getElem] at h
   obtain ⟨h1, h2, _⟩ := h
   exact ⟨fun _ => ⟨_, List.getElem_mem h1, h2⟩, fun _ => Int.natCast_nonneg i⟩
theorem nx_step {α : Type} {K : α → Bool} {l : List α} {k : Nat} {x : α} (h : ∀ i, i < k → ∀ y, l[i]? = some y → K y = false) (hx : l[k]? = some x) (h2 : K x = false) : ∀ i, i < k + 1 → ∀ y, l[i]? = some y → K y = false := fun i hi y hy => by
 rcases Nat.lt_succ_iff_lt_or_eq.1 hi with h3 | h3
 · exact h i h3 y hy
 · subst h3; rw [hx] at hy; cases hy; exact h2
theorem nx_0 {α : Type} {K : α → Bool} {l : List α} : ∀ i, i < 0 → ∀ y, l[i]? = some y → K y = false := fun i h => absurd h (Nat.not_lt_zero _)

/-! ### Crews -/
def grng (g : Gang) : Prop := 0 ≤ g.fro ∧ g.fro ≤ g.til ∧ g.til ≤ 1000000
instance (g : Gang) : Decidable (grng g) := inferInstanceAs (Decidable (_ ∧ _))
def crng (x : Span) : Prop := (0 ≤ x.place ∧ x.place ≤ 999) ∧ 0 ≤ x.fro ∧ x.fro ≤ x.til ∧ x.til ≤ 1000000
instance (x : Span) : Decidable (crng x) := inferInstanceAs (Decidable (_ ∧ _))
section
variable {gs : List Gang} {k : Nat} {g : Gang}
end
section
variable {c : Crew} {k : Nat}
end
end Go.Proofs.Ytjmjiegplnfiiaa

/- Schedules: whether a slot fits. No conditions. -/
set_option linter.unusedSimpArgs false
set_option linter.unusedVariables false
set_option maxRecDepth 100000
namespace Go.Proofs.Ytjmjiegplnfiiaa
open Go Go.Pv
/-! ### Times that meet -/
structure Sp where
 a : Int
 b : Int
 deriving Inhabited, DecidableEq
def mtB (x y : Sp) : Bool := decide (max x.a y.a < min x.b y.b)
def hasT (l : List ByteArray) (s : ByteArray) : Bool := l.any fun t => decide (t = s)
/-! ### Slots that clash -/
def tsk (xs : List Task) (x : Slot) : Task := xs.getD x.task.toNat default
def gng (c : Crew) (x : Slot) : Gang := c.gangs.getD x.gang.toNat default
def spY (xs : List Task) (y : Slot) : Sp := ⟨y.start, y.start + (tsk xs y).minutes⟩
def dK (xs : List Task) (x y : Slot) : Bool := decide (y.gang = x.gang) && mtB (spY xs x) (spY xs y)
def cK (xs : List Task) (x : Slot) (z : Span) : Bool := decide (z.place = (tsk xs x).place) && mtB (spY xs x) ⟨z.fro, z.til⟩
def inG (xs : List Task) (c : Crew) (x : Slot) : Prop := hasT (gng c x).trades (tsk xs x).trade = true ∧ (gng c x).fro ≤ x.start ∧ x.start + (tsk xs x).minutes ≤ (gng c x).til
instance (xs : List Task) (c : Crew) (x : Slot) : Decidable (inG xs c x) := inferInstanceAs (Decidable (_ ∧ _))
def clB (xs : List Task) (c : Crew) (d : List Slot) (x : Slot) : Bool := d.any (dK xs x) || c.closed.any (cK xs x)
def fitsB (xs : List Task) (c : Crew) (d : List Slot) (x : Slot) : Bool := decide (inG xs c x) && !(clB xs c d x)
section
variable {xs : List Task} {c : Crew} {d : List Slot} {x : Slot} {t : Task} {g : Gang} {k : Nat}
end

end Go.Proofs.Ytjmjiegplnfiiaa

/- The error of a schedule, as the reference tells it. No conditions. -/
set_option linter.unusedSimpArgs false
set_option linter.unusedVariables false
set_option maxRecDepth 100000
namespace Go.Proofs.Ytjmjiegplnfiiaa
open Go Go.Pv
/-! ### The error of a schedule -/
section
variable {xs : List Task} {c : Crew} {s : List Slot} {x : Slot} {t : Task} {g : Gang} {k : Nat}
end

end Go.Proofs.Ytjmjiegplnfiiaa
