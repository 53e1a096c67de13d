/- Traffics. No conditions. -/
import Derived.Test.YtigdmkhdmbbfiaaTrf
import Derived.Test.YtigdmkhdmbbfiaaNam
set_option linter.unusedSimpArgs false
set_option linter.unusedVariables false
set_option maxRecDepth 100000
namespace Go.Proofs.Ytigdmkhdmbbfiaa
open Go Go.Pv
/-! ### The first error of a list -/
def feL {α : Type} (f : α → Int) : List α → Int
 | [] => 0
 | x :: l => if f x = 0 then feL f l else f x
section
variable {α : Type} {f : α → Int} {l : List α} {k : Nat} {x : α}
theorem feL_no : ∀ {l : List α} {k : Nat}, (∀ i, i < k → ∀ y, l[i]? = some y → decide (f y ≠ 0) = false) → l.length ≤ k → feL f l = 0
 | [], _, _, _ => rfl
 | y :: l, 0, _, hk => by simp at hk
 | y :: l, k + 1, hin, hk => by
   have h0 : f y = 0 := by
     have := hin 0 (Nat.succ_pos _) y rfl
     simpa using this
   rw [feL, if_pos h0]
   exact feL_no (fun i hi z hz => hin (i + 1) (Nat.succ_lt_succ hi) z hz) (by simpa using hk)
end
/-- What a function tells of the first k elements, added up. -/
def capS {α : Type} (f : α → Int) (l : List α) (k : Nat) : Int := ((l.take k).map f).sum
section
variable {α : Type} {f : α → Int} {l : List α} {k : Nat} {x : α}
end
/-! ### Traffics -/
section
variable {t : Traffic} {l : List Supply} {k : Nat} {s : Supply} {r : Route}
variable (hA : 1 ≤ t.places ∧ t.places ≤ 8) (hB : 1 ≤ t.days ∧ t.days ≤ 20)
include hA hB
variable (hL : (t.routes.length : Int) ≤ 30 ∧ (t.supplies.length : Int) ≤ 40 ∧ (t.needs.length : Int) ≤ 40)
include hL
end
structure TrOK (t : Traffic) : Prop where
 hA : 1 ≤ t.places ∧ t.places ≤ 8
 hB : 1 ≤ t.days ∧ t.days ≤ 20
 hr : t.routes.length ≤ 30
 hs : t.supplies.length ≤ 40
 hn : t.needs.length ≤ 40
 rt : ∀ r ∈ t.routes, (0 ≤ r.fro ∧ r.fro ≤ t.places - 1) ∧ (0 ≤ r.til ∧ r.til ≤ t.places - 1) ∧ ¬ r.fro = r.til ∧ (1 ≤ r.days ∧ r.days ≤ 20) ∧ (0 ≤ r.most ∧ r.most ≤ 1000000)
 sp : ∀ s ∈ t.supplies, (0 ≤ s.place ∧ s.place ≤ t.places - 1) ∧ (0 ≤ s.day ∧ s.day ≤ t.days - 1) ∧ (0 ≤ s.count ∧ s.count ≤ 1000000)
 nd : ∀ s ∈ t.needs, (0 ≤ s.place ∧ s.place ≤ t.places - 1) ∧ (0 ≤ s.day ∧ s.day ≤ t.days - 1) ∧ (0 ≤ s.count ∧ s.count ≤ 1000000)
end Go.Proofs.Ytigdmkhdmbbfiaa
