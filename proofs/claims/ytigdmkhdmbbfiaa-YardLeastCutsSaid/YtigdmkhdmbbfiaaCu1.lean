/- Cuts: plain laws. No conditions. -/
import Derived.Test.YtigdmkhdmbbfiaaTrc
set_option linter.unusedSimpArgs false
set_option linter.unusedVariables false
set_option maxRecDepth 100000
namespace Go.Proofs.Ytigdmkhdmbbfiaa
open Go Go.Pv
/-! ### Cuts -/
def atLt (x y : At) : Prop := x.a0 < y.a0 ∨ (x.a0 = y.a0 ∧ x.a1 < y.a1)
instance (x y : At) : Decidable (atLt x y) := by unfold atLt; exact inferInstance
def atIn (t : Traffic) (x : At) : Prop := (0 ≤ x.a0 ∧ x.a0 ≤ t.places - 1) ∧ (0 ≤ x.a1 ∧ x.a1 ≤ t.days - 1)
instance (t : Traffic) (x : At) : Decidable (atIn t x) := by unfold atIn; exact inferInstance
def ctF (t : Traffic) (l : List At) (i : Nat) : Int :=
 match l[i]? with
 | none => 0
 | some x => if ¬ atIn t x then 6 else if 1 ≤ i ∧ ¬ atLt (l.getD (i - 1) default) x then 10 else 0
def cutE (t : Traffic) (l : List At) : Int := feL (ctF t l) (List.range l.length)
def gapB (t : Traffic) (l : List At) (x : At) : Bool := decide (x.a1 + 1 < t.days) && !decide ((⟨x.a0, x.a1 + 1⟩ : At) ∈ l)
def supC (l : List At) (s : Supply) : Int := if (⟨s.place, s.day⟩ : At) ∈ l then 0 else s.count
def needC (l : List At) (s : Supply) : Int := if (⟨s.place, s.day⟩ : At) ∈ l then s.count else 0
def dayC (l : List At) (r : Route) (d : Int) : Int := if (⟨r.fro, d⟩ : At) ∈ l ∧ ¬ (⟨r.til, d + r.days⟩ : At) ∈ l then r.most else 0
def rtN (l : List At) (r : Route) : Nat → Int
 | 0 => 0
 | k + 1 => rtN l r k + dayC l r (k : Int)
def rtC (t : Traffic) (l : List At) (r : Route) : Int := rtN l r (t.days - r.days).toNat
def cutS (t : Traffic) (l : List At) : Int := capS (supC l) t.supplies t.supplies.length + capS (needC l) t.needs t.needs.length + capS (rtC t l) t.routes t.routes.length
def cutV (t : Traffic) (l : List At) : Int × Int :=
 if cutE t l ≠ 0 then (0, cutE t l) else if l.any (gapB t l) = true then (0, 25) else (cutS t l, 0)
section
variable {t : Traffic} {l : List At} {k : Nat} {x y : At} {s : Supply} {r : Route} {a b : Int}
theorem ct_at (hx : l[k]? = some x) : ctF t l k = if ¬ atIn t x then 6 else if 1 ≤ k ∧ ¬ atLt (l.getD (k - 1) default) x then 10 else 0 := by
 rw [ctF, hx]
theorem ct_hit {z : Int} (hin : ∀ i, i < k → ctF t l i = 0) (hx : l[k]? = some x) (h : ctF t l k = z) (hz : z ≠ 0) : z = cutE t l := by
 have hk : k < l.length := (List.getElem?_eq_some_iff.1 hx).1
 rw [cutE, feL_hit (k := k) (x := k) (fun i hi y hy => ?_) (List.getElem?_range hk) (by rw [h]; exact hz), h]
 rw [List.getElem?_range (by omega)] at hy
 cases hy
 rw [hin i hi]; rfl
theorem ct_no (hin : ∀ i, i < k → ctF t l i = 0) (hk : l.length ≤ k) : cutE t l = 0 := by
 refine feL_no (k := l.length) (fun i hi y hy => ?_) (by simp)
 rw [List.getElem?_range hi] at hy
 cases hy
 rw [hin i (by omega)]; rfl
theorem ct_6 (hx : l[k]? = some x) (h : ¬ atIn t x) : ctF t l k = 6 := by rw [ct_at hx, if_pos h]
theorem ct_10 (hx : l[k]? = some x) (h : atIn t x) (hk : 1 ≤ k) (hy : l[((k : Int) - 1).toNat]? = some y) (h2 : ¬ atLt y x) : ctF t l k = 10 := by
 rw [show ((k : Int) - 1).toNat = k - 1 by omega] at hy
 have h3 : l.getD (k - 1) default = y := by rw [List.getD_eq_getElem?_getD, hy]; rfl
 rw [ct_at hx, if_neg (fun q => q h), h3, if_pos ⟨hk, h2⟩]
theorem ct_z (hx : l[k]? = some x) (h : atIn t x) (hk : k = 0) : ctF t l k = 0 := by
 rw [ct_at hx, if_neg (fun q => q h), if_neg (by omega)]
theorem ct_0 (hx : l[k]? = some x) (h : atIn t x) (hk : 1 ≤ k) (hy : l[((k : Int) - 1).toNat]? = some y) (h2 : atLt y x) : ctF t l k = 0 := by
 rw [show ((k : Int) - 1).toNat = k - 1 by omega] at hy
 have h3 : l.getD (k - 1) default = y := by rw [List.getD_eq_getElem?_getD, hy]; rfl
 rw [ct_at hx, if_neg (fun q => q h), h3, if_neg (fun q => q.2 h2)]
theorem ct_s (hin : ∀ i, i < k → ctF t l i = 0) (h : ctF t l k = 0) : ∀ i, i < k + 1 → ctF t l i = 0 := fun i hi => by
 by_cases e : i = k
 · rw [e]; exact h
 · exact hin i (by omega)
theorem ct_in (h : cutE t l = 0) (hx : x ∈ l) : atIn t x := by
 obtain ⟨i, hi, rfl⟩ := List.getElem_of_mem hx
 have h1 := feL_all h i (List.mem_range.2 hi)
 rw [ct_at (List.getElem?_eq_getElem hi)] at h1
 split at h1
 · cases h1
 · rename_i q; exact Classical.byContradiction q
theorem cv_e (h : cutE t l ≠ 0) : cutV t l = (0, cutE t l) := if_pos h
theorem cv_25 (h : cutE t l = 0) (h1 : l.any (gapB t l) = true) : cutV t l = (0, 25) := by rw [cutV, if_neg (fun q => q h), if_pos h1]
theorem cv_0 (h : cutE t l = 0) (h1 : l.any (gapB t l) = false) : cutV t l = (cutS t l, 0) := by rw [cutV, if_neg (fun q => q h), if_neg (by rw [h1]; decide)]
theorem cv_hit {z : Int} (hin : ∀ i, i < k → ctF t l i = 0) (hx : l[k]? = some x) (h : ctF t l k = z) (hz : z ≠ 0) : (0, z) = cutV t l := by
 have h1 := ct_hit hin hx h hz
 rw [cv_e (by rw [← h1]; exact hz), ← h1]
theorem supC_b (h : 0 ≤ s.count ∧ s.count ≤ 1000000) : 0 ≤ supC l s ∧ supC l s ≤ 1000000 := by rw [supC]; split <;> omega
theorem needC_b (h : 0 ≤ s.count ∧ s.count ≤ 1000000) : 0 ≤ needC l s ∧ needC l s ≤ 1000000 := by rw [needC]; split <;> omega
theorem dayC_b {d : Int} (h : 0 ≤ r.most ∧ r.most ≤ 1000000) : 0 ≤ dayC l r d ∧ dayC l r d ≤ 1000000 := by rw [dayC]; split <;> omega
theorem rtN_b (h : 0 ≤ r.most ∧ r.most ≤ 1000000) : ∀ {n : Nat}, 0 ≤ rtN l r n ∧ rtN l r n ≤ 1000000 * (n : Int)
 | 0 => by rw [rtN]; simp
 | n + 1 => by
   have h1 := rtN_b h (n := n)
   have h2 := dayC_b (l := l) (d := (n : Int)) h
   rw [rtN]; omega
theorem rtC_b (h : 0 ≤ r.most ∧ r.most ≤ 1000000) (hd : t.days ≤ 20) (h2 : 1 ≤ r.days) : 0 ≤ rtC t l r ∧ rtC t l r ≤ 20000000 := by
 have h1 := rtN_b (l := l) h (n := (t.days - r.days).toNat)
 rw [rtC]; omega
theorem supC_t (h : decide ((⟨s.place, s.day⟩ : At) ∈ l) = true) : supC l s = 0 := if_pos (by simpa using h)
theorem supC_f (h : decide ((⟨s.place, s.day⟩ : At) ∈ l) = false) : supC l s = s.count := if_neg (by simpa using h)
theorem needC_t (h : decide ((⟨s.place, s.day⟩ : At) ∈ l) = true) : needC l s = s.count := if_pos (by simpa using h)
theorem needC_f (h : decide ((⟨s.place, s.day⟩ : At) ∈ l) = false) : needC l s = 0 := if_neg (by simpa using h)
theorem dayC_t {d : Int} (h : decide ((⟨r.fro, d⟩ : At) ∈ l) = true) (h2 : decide ((⟨r.til, d + r.days⟩ : At) ∈ l) = false) : dayC l r d = r.most := if_pos ⟨by simpa using h, by simpa using h2⟩
theorem dayC_f {d : Int} (h : decide ((⟨r.fro, d⟩ : At) ∈ l) = false) : dayC l r d = 0 := if_neg fun q => by simp [q.1] at h
theorem dayC_g {d : Int} (h2 : decide ((⟨r.til, d + r.days⟩ : At) ∈ l) = true) : dayC l r d = 0 := if_neg fun q => by simp [q.2] at h2
theorem rtN_s : rtN l r (k + 1) = rtN l r k + dayC l r (k : Int) := rfl
theorem rtN_end (h : ¬ (k : Int) + r.days < t.days) (hk : k = 0 ∨ (k : Int) - 1 + r.days < t.days) : rtN l r k = rtC t l r := by
 rw [rtC]; congr 1; omega
/-! ### The map of a cut -/
end
/-! ### Arrays as slices -/
theorem e_ixaLA {P : Program} {ρ : Operand → PV} {h : Heap} {key : Key} {x y : Operand} {t : TypeId} {tt : Bool} {sz a b n : Nat} {rs : Go.Pv.Rows} {e : TypeId} {kd : IntKind} {i : Int} (hx : ρ x = .lptr tt sz rs a b) (hy : ρ y = .sc (.int kd i)) (ht : arrOk P t = some (n, e)) (hs : tySize P e = 1) (hi : 0 ≤ i ∧ i < n) :
   eff P ρ h key (.indexAddr t x y) = ⟨True, .lptr tt sz rs a (b + i.toNat), [], [], false⟩ := by
 simp only [eff, hx, hy, indexAddrEff, ht, hs]; simp [hi]
theorem out_p {h : Heap} {p : Int × Int} {a b : Int} (e : (a, b) = p) : Out h (.tup [.int a, .int b]) (.tup [.int p.1, .int p.2]) := by
 subst e; exact out_2 (out_i rfl) (out_i rfl)
theorem prev_ex (l : List At) (k : Nat) (hk : k < l.length) : ∃ y, 1 ≤ k → l[((k : Int) - 1).toNat]? = some y :=
 ⟨l.getD (k - 1) default, fun h => by
   rw [show ((k : Int) - 1).toNat = k - 1 by omega, List.getD_eq_getElem?_getD, List.getElem?_eq_getElem (by omega)]; rfl⟩
end Go.Proofs.Ytigdmkhdmbbfiaa
