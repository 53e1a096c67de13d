/- What one operation yields, at operands that are written out. -/
import Derived.Test.YtjmjiegplnfiiaaPvX
import Derived.IntWalk
namespace Go.Pv
open Go
section
variable {P : Program} {ρ : Operand → PV} {h : Heap} {key : Key} {x y z : Operand} {t t' : TypeId} {v : PV}

theorem wrap64 {n : Int} (h1 : -9223372036854775808 ≤ n) (h2 : n ≤ 9223372036854775807) : IntKind.i64.wrap n = n := IntWalk.i64_in n ⟨h1, h2⟩

theorem e_move (hx : ρ x = v) : eff P ρ h key (.move x) = ⟨True, v, [], [], false⟩ := by rw [← hx]; rfl
theorem e_assign (hx : ρ x = v) : eff P ρ h key (.assign x) = ⟨True, v, [], [], false⟩ := by rw [← hx]; rfl

theorem e_add {a b : Int} (hx : ρ x = .int a) (hy : ρ y = .int b) (h1 : -9223372036854775808 ≤ a + b ∧ a + b ≤ 9223372036854775807) : eff P ρ h key (.binOp .add t x y t') = ⟨True, .int (a + b), [], [], false⟩ := by
 simp only [eff, hx, hy, binEffN, binEff, intBin, wrap64 h1.1 h1.2]; simp
theorem e_sub {a b : Int} (hx : ρ x = .int a) (hy : ρ y = .int b) (h1 : -9223372036854775808 ≤ a - b ∧ a - b ≤ 9223372036854775807) : eff P ρ h key (.binOp .sub t x y t') = ⟨True, .int (a - b), [], [], false⟩ := by
 simp only [eff, hx, hy, binEffN, binEff, intBin, wrap64 h1.1 h1.2]; simp
theorem e_mul {a b : Int} (hx : ρ x = .int a) (hy : ρ y = .int b) (h1 : -9223372036854775808 ≤ a * b ∧ a * b ≤ 9223372036854775807) : eff P ρ h key (.binOp .mul t x y t') = ⟨True, .int (a * b), [], [], false⟩ := by
 simp only [eff, hx, hy, binEffN, binEff, intBin, wrap64 h1.1 h1.2]; simp
theorem e_quo {a b : Int} (hx : ρ x = .int a) (hy : ρ y = .int b) (ha : 0 ≤ a) (hb : 0 < b) (h1 : a ≤ 9223372036854775807) : eff P ρ h key (.binOp .quo t x y t') = ⟨True, .int (a / b), [], [], false⟩ := by
 have h2 : a.tdiv b = a / b := Int.tdiv_eq_ediv_of_nonneg ha
 have h3 : 0 ≤ a / b := Int.ediv_nonneg ha (by omega)
 have h4 : a / b ≤ a := Int.ediv_le_self _ ha
 simp only [eff, hx, hy, binEffN, binEff, intBin, h2, wrap64 (n := a / b) (by omega) (by omega)]; simp; omega
theorem e_eq {k : IntKind} {a b : Int} (hx : ρ x = .sc (.int k a)) (hy : ρ y = .sc (.int k b)) : eff P ρ h key (.binOp .eql t x y t') = ⟨True, .bool (decide (a = b)), [], [], false⟩ := by
 simp only [eff, hx, hy, binEffN, binEff, intBin]; simp [Bool.beq_eq_decide_eq]
theorem e_ne {k : IntKind} {a b : Int} (hx : ρ x = .sc (.int k a)) (hy : ρ y = .sc (.int k b)) : eff P ρ h key (.binOp .neq t x y t') = ⟨True, .bool (decide (a ≠ b)), [], [], false⟩ := by
 simp only [eff, hx, hy, binEffN, binEff, intBin, bne]; simp [Bool.beq_eq_decide_eq]
theorem e_lt {k : IntKind} {a b : Int} (hx : ρ x = .sc (.int k a)) (hy : ρ y = .sc (.int k b)) : eff P ρ h key (.binOp .lss t x y t') = ⟨True, .bool (decide (a < b)), [], [], false⟩ := by
 simp only [eff, hx, hy, binEffN, binEff, intBin]; simp
theorem e_le {k : IntKind} {a b : Int} (hx : ρ x = .sc (.int k a)) (hy : ρ y = .sc (.int k b)) : eff P ρ h key (.binOp .leq t x y t') = ⟨True, .bool (decide (a ≤ b)), [], [], false⟩ := by
 simp only [eff, hx, hy, binEffN, binEff, intBin]; simp
theorem e_gt {k : IntKind} {a b : Int} (hx : ρ x = .sc (.int k a)) (hy : ρ y = .sc (.int k b)) : eff P ρ h key (.binOp .gtr t x y t') = ⟨True, .bool (decide (b < a)), [], [], false⟩ := by
 simp only [eff, hx, hy, binEffN, binEff, intBin]; simp
theorem e_ge {k : IntKind} {a b : Int} (hx : ρ x = .sc (.int k a)) (hy : ρ y = .sc (.int k b)) : eff P ρ h key (.binOp .geq t x y t') = ⟨True, .bool (decide (b ≤ a)), [], [], false⟩ := by
 simp only [eff, hx, hy, binEffN, binEff, intBin]; simp
theorem e_seq {a b : ByteArray} (hx : ρ x = .str a) (hy : ρ y = .str b) : eff P ρ h key (.binOp .eql t x y t') = ⟨True, .bool (decide (a = b)), [], [], false⟩ := by
 simp only [eff, hx, hy, binEffN, binEff, strBin]
theorem e_not {b : Bool} (hx : ρ x = .bool b) : eff P ρ h key (.unOp .not t x) = ⟨True, .bool (!b), [], [], false⟩ := by
 simp only [eff, hx, unEff]
theorem e_pickT (hx : ρ x = .bool true) (hy : ρ y = v) : eff P ρ h key (.pick x y z) = ⟨True, v, [], [], false⟩ := by
 simp only [eff, hx, pickEff, if_true, hy]
theorem e_pickF (hx : ρ x = .bool false) (hz : ρ z = v) : eff P ρ h key (.pick x y z) = ⟨True, v, [], [], false⟩ := by
 simp only [eff, hx, pickEff, hz]; simp
/-- A conversion of integers that keeps the number. -/
theorem e_conv {k k' : IntKind} {a : Int} (hx : ρ x = .sc (.int k' a)) (hk : intKind P t' = some k) (hs : (P.underlying t).isSome = true) (hw : k.wrap a = a) : eff P ρ h key (.convert t t' x) = ⟨True, .sc (.int k a), [], [], false⟩ := by
 simp only [eff, hx, convEff, hk, hs, hw]
theorem e_ext {vs : List PV} {i : Nat} (hx : ρ x = .tup vs) (hi : i < vs.length) (hv : vs.getD i .dead = v) : eff P ρ h key (.extract x i) = ⟨True, v, [], [], false⟩ := by
 simp only [eff, hx, extractEff, hv, hi]
theorem e_max {as : Array TypeId} {a b : Int} (hx : ρ x = .int a) (hy : ρ y = .int b) : eff P ρ h key (.call { callee := .builtin .max, args := #[x, y], argTypes := as }) = ⟨True, .int (max a b), [], [], false⟩ := by
 show builtinEff P h key .max as.toList [ρ x, ρ y] = _
 rw [hx, hy]
 unfold builtinEff
 cases as.toList <;> simp [maxs]
theorem e_min {as : Array TypeId} {a b : Int} (hx : ρ x = .int a) (hy : ρ y = .int b) : eff P ρ h key (.call { callee := .builtin .min, args := #[x, y], argTypes := as }) = ⟨True, .int (min a b), [], [], false⟩ := by
 show builtinEff P h key .min as.toList [ρ x, ρ y] = _
 rw [hx, hy]
 unfold builtinEff
 cases as.toList <;> simp [mins]
theorem e_len {tt : Bool} {sz : Nat} {rows : Rows} {t2 : TypeId} (hx : ρ x = .lit tt sz rows) (ht : sliceOk P t2 = true) : eff P ρ h key (.call { callee := .builtin .len, args := #[x], argTypes := #[t2] }) = ⟨True, .int rows.length, [], [], false⟩ := by
 show lenEff P h t2 (ρ x) = _
 rw [hx]; simp only [lenEff, ht]
theorem e_lenS {s : ByteArray} {t2 : TypeId} (hx : ρ x = .str s) (ht : isStringTy P t2 = true) : eff P ρ h key (.call { callee := .builtin .len, args := #[x], argTypes := #[t2] }) = ⟨True, .int s.size, [], [], false⟩ := by
 show lenEff P h t2 (ρ x) = _
 rw [hx]; simp only [lenEff, ht]
theorem e_lenR {k : Key} {sz off len : Nat} {t2 : TypeId} (hx : ρ x = .ref k sz off len) (ht : sliceOk P t2 = true) : eff P ρ h key (.call { callee := .builtin .len, args := #[x], argTypes := #[t2] }) = ⟨True, .int len, [], [], false⟩ := by
 show lenEff P h t2 (ρ x) = _
 rw [hx]; simp only [lenEff, ht]
theorem e_lenN {t2 : TypeId} (hx : ρ x = .nil) (ht : sliceOk P t2 = true) : eff P ρ h key (.call { callee := .builtin .len, args := #[x], argTypes := #[t2] }) = ⟨True, .int 0, [], [], false⟩ := by
 show lenEff P h t2 (ρ x) = _
 rw [hx]; simp only [lenEff, ht]
/-- The address of an element of a slice that came in. -/
theorem e_ixa {tt : Bool} {sz : Nat} {rows : Rows} {k : IntKind} {i : Int} (hx : ρ x = .lit tt sz rows) (hy : ρ y = .sc (.int k i)) (ht : sliceOk P t = true) (hs : tySize P (elemTy P t) = sz) (hi : 0 ≤ i ∧ i < rows.length) :
   eff P ρ h key (.indexAddr t x y) = ⟨True, .lptr tt sz rows i.toNat 0, [], [], false⟩ := by
 simp only [eff, hx, hy, indexAddrEff, ht, hs]; simp [hi]
theorem e_load {tt : Bool} {sz : Nat} {rows : Rows} {i j : Nat} (hx : ρ x = .lptr tt sz rows i j) (hg : tyAgg P t = false) (hs : tySize P t = 1) (ht : tyOk P t = true) (hi : i < rows.length) (hj : j < sz) (hv : cellAt rows i j = v) :
   eff P ρ h key (.load t x) = ⟨True, v, [], [], false⟩ := by
 simp only [eff, hx, loadEff, hg, hs, ht, hv]; simp [hi]; omega
theorem e_loadA {tt : Bool} {sz : Nat} {rows : Rows} {i j n : Nat} {cs : List PV} (hx : ρ x = .lptr tt sz rows i j) (hg : tyAgg P t = true) (hs : tySize P t = n) (ht : tyOk P t = true) (hi : i < rows.length) (hj : j + n ≤ sz) (hv : aggAt rows i j n = cs) :
   eff P ρ h key (.load t x) = ⟨True, .agg cs, [], [], false⟩ := by
 simp only [eff, hx, loadEff, hg, hs, ht, hv]; simp [hi, hj]
theorem e_fa {tt : Bool} {sz : Nat} {rows : Rows} {i j f : Nat} {pl : List (Nat × Nat × Bool)} {o : Nat} (hx : ρ x = .lptr tt sz rows i j) (ht : structOk P t = true) (hp : places P t = pl) (hf : f < pl.length) (ho : (pl.getD f (0, 0, false)).1 = o) :
   eff P ρ h key (.fieldAddr t x f) = ⟨True, .lptr tt sz rows i (j + o), [], [], false⟩ := by
 simp only [eff, hx, fieldAddrEff, ht, hp, ho, hf]; simp
end
end Go.Pv
