/- Cuts: plain laws. No conditions. -/
import Derived.Test.YtigdmkhdmbbfiaaTrc
set_option linter.unusedSimpArgs false
set_option linter.unusedVariables false
set_option maxRecDepth 100000
namespace Go.Proofs.Ytigdmkhdmbbfiaa
open Go Go.Pv
/-! ### Cuts -/
def atLt (x y : At) : Prop := x.a0 < y.a0 ∨ (x.a0 = y.a0 ∧ x.a1 < y.a1)
instance (x y : At) : Decidable (atLt x y) := by unfold atLt; exact inferInstance
def atIn (t : Traffic) (x : At) : Prop := (0 ≤ x.a0 ∧ x.a0 ≤ t.places - 1) ∧ (0 ≤ x.a1 ∧ x.a1 ≤ t.days - 1)
instance (t : Traffic) (x : At) : Decidable (atIn t x) := by unfold atIn; exact inferInstance
section
variable {t : Traffic} {l : List At} {k : Nat} {x y : At} {s : Supply} {r : Route} {a b : Int}
/-! ### The map of a cut -/
def ka (x : At) : PV := .agg x.enc
theorem ka_eq (a b : At) : keyEq (ka a) (ka b) = decide (a = b) := by
 show scsEq [.int a.a0, .int a.a1] [.int b.a0, .int b.a1] = _
 rw [Bool.eq_iff_iff]
 cases a; cases b
 simp [scsEq, scEq]
theorem ka_ok (a : At) : keyOk Try.prog 35 (ka a) := by
 show keyAgg Try.prog 35 [.int a.a0, .int a.a1] = true
 kernel_rfl
end
/-! ### Arrays as slices -/
theorem out_p {h : Heap} {p : Int × Int} {a b : Int} (e : (a, b) = p) : Out h (.tup [.int a, .int b]) (.tup [.int p.1, .int p.2]) := by
 subst e; exact out_2 (out_i rfl) (out_i rfl)
end Go.Proofs.Ytigdmkhdmbbfiaa
