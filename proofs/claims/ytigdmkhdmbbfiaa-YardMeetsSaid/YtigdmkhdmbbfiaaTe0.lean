import Derived.Test.YtigdmkhdmbbfiaaTb2
import Derived.Test.YtigdmkhdmbbfiaaTd0
import Derived.Test.YtigdmkhdmbbfiaaPvGh
set_option linter.unusedSimpArgs false
set_option linter.unusedVariables false
set_option maxRecDepth 100000
namespace Go.Proofs.Ytigdmkhdmbbfiaa
open Go Go.Pv
theorem Old.triv {h : Heap} {c : Nat → Nat} : Old (fun _ => 0) (fun _ => none) h c := ⟨fun k hk => absurd hk (Nat.not_lt_zero _), fun _ => Nat.zero_le _⟩
section
variable {t : Traffic} {l : List Trip} {k : Nat} {x : Trip} {r : Route}
theorem zKH {α : Type} {A : α → Nat → Nat → Bool} {c : α → Int} {l : List α} (p d : Nat) : ∀ {k : Nat}, (∀ i, i < k → ∀ y, l[i]? = some y → 0 ≤ c y ∧ c y ≤ 1000000) → k ≤ l.length → 0 ≤ tab A c l k p d ∧ tab A c l k p d ≤ 1000000 * (k : Int)
 | 0, _, _ => by have : tab A c l 0 p d = 0 := rfl; rw [this]; simp
 | k + 1, h, hk => by
   have h1 := zKH (A := A) (c := c) p d (k := k) (fun i hi => h i (by omega)) (by omega);have hx : l[k]? = some l[k] := List.getElem?_eq_getElem (by omega);have h2 := h k (by omega) _ hx;rw [zGM hx];split <;> omega
theorem cn_of (hin : ∀ i, i < k → ∀ y, l[i]? = some y → decide (trF t y ≠ 0) = false) : ∀ i, i < k → ∀ y, l[i]? = some y → 0 ≤ y.count ∧ y.count ≤ 1000000 := fun i hi y hy => by
 have h1 := hin i hi y hy;have h2 := (zHu (t := t) (x := y) (by simpa using h1)).2.2.2;omega
theorem co_0 (p d : Nat) : spM t.supplies t.supplies.length p d = coM t l 0 p d := by
 show _ = spM t.supplies t.supplies.length p d + 0;omega
theorem co_s (hx : l[k]? = some x) {i j : Nat} (hI : ∀ p d, aI t x p d = true ↔ p = i ∧ d = j) (p d : Nat) : upd (coM t l k) i j (coM t l k i j + x.count) p d = coM t l (k + 1) p d := by
 have h1 : inM t l (k + 1) p d = inM t l k p d + (if aI t x p d = true then x.count else 0) := zGM hx p d;rw [upd];by_cases e : p = i ∧ d = j
 · rw [if_pos e, coM, coM, h1, if_pos ((hI _ _).2 e), e.1, e.2]; omega
 · rw [if_neg e, coM, coM, h1, if_neg (fun q => e ((hI _ _).1 q))]; omega
theorem co_b (hT : TrOK t) (hin : ∀ i, i < k → ∀ y, l[i]? = some y → decide (trF t y ≠ 0) = false) (hk : k ≤ l.length) (hl : l.length ≤ 2000) (p d : Nat) : 0 ≤ coM t l k p d ∧ coM t l k p d ≤ 2040000000 := by
 have h1 : 0 ≤ spM t.supplies t.supplies.length p d ∧ spM t.supplies t.supplies.length p d ≤ 1000000 * (t.supplies.length : Int) := tab_b (fun y hy => (hT.sp y hy).2.2) (Nat.le_refl _) p d;have h2 : 0 ≤ inM t l k p d ∧ inM t l k p d ≤ 1000000 * (k : Int) := zKH p d (cn_of hin) hk;have h4 := hT.hs;rw [coM]; omega
theorem go_b (hin : ∀ i, i < k → ∀ y, l[i]? = some y → decide (trF t y ≠ 0) = false) (hk : k ≤ l.length) (hl : l.length ≤ 2000) (p d : Nat) : 0 ≤ goM t l k p d ∧ goM t l k p d ≤ 2000000000 := by
 have h2 : 0 ≤ goM t l k p d ∧ goM t l k p d ≤ 1000000 * (k : Int) := zKH p d (cn_of hin) hk;omega
theorem us_bk (hin : ∀ i, i < k → ∀ y, l[i]? = some y → decide (trF t y ≠ 0) = false) (hk : k ≤ l.length) (hl : l.length ≤ 2000) (p d : Nat) : 0 ≤ usM l k p d ∧ usM l k p d ≤ 2000000000 := by
 have h2 : 0 ≤ usM l k p d ∧ usM l k p d ≤ 1000000 * (k : Int) := zKH p d (cn_of hin) hk;omega
theorem tkR_no {D : Nat} {C G N : Nat → Int} (h : (tkR D C G N).2 = false) : ∃ d, d < D ∧ lvl (fun i => C i - G i) (d + 1) < 0 := by
 rw [tkR] at h;split at h
 · rename_i q;obtain ⟨d, h1, h2⟩ := List.any_eq_true.1 q;exact ⟨d, List.mem_range.1 h1, of_decide_eq_true h2⟩
 · cases h
theorem tkR_yes {D : Nat} {C G N : Nat → Int} (h : (tkR D C G N).2 = true) : (tkR D C G N).1 = tkN (fun d => lvl (fun i => C i - G i) (d + 1)) N D D ∧ ∀ d, d < D → 0 ≤ lvl (fun i => C i - G i) (d + 1) := by
 rw [tkR] at h ⊢;split at h
 · cases h
 · rename_i q;rw [if_neg q];rw [Bool.not_eq_true, List.any_eq_false] at q;refine ⟨rfl, fun d hd => ?_⟩;have h1 := q d (List.mem_range.2 hd);simp only [decide_eq_true_eq] at h1; omega
theorem stk_of {p : Nat} (hp : p < t.places.toNat) (h : (tkR t.days.toNat (coM t l l.length p) (goM t l l.length p) (spM t.needs t.needs.length p)).2 = false) : stkB t l = true := by
 obtain ⟨d, h1, h2⟩ := tkR_no h;exact stk_t hp h1 h2
theorem zLD {p : Nat} (h : (tkR t.days.toNat (coM t l l.length p) (goM t l l.length p) (spM t.needs t.needs.length p)).2 = true) : (tkR t.days.toNat (coM t l l.length p) (goM t l l.length p) (spM t.needs t.needs.length p)).1 = tkN (lvB t l p) (ndM t p) t.days.toNat t.days.toNat ∧ ∀ d, d < t.days.toNat → 0 ≤ lvB t l p d := tkR_yes h
end
section
variable {P : Program} {K : PS → Prop} {d : Nat} {op : Op} {ty : TypeId} {pos : String} {aft : Array Edge} {rest : List Oper} {r : Nat → PV} {h : Heap} {cnt : Nat → Nat} {ops : Array Oper} {i : Nat} {G : Nat → Bool}
theorem x_pcall {f : FuncId} {args as' : List PV} {v : PV} {tr : List XIt} (ho : ops[i]? = some ⟨some d, op, ty, pos, aft, none⟩) (hc : zAO r op = some (f, args)) (hkl : zCV op = false) (hv : zB5 r G op = true) (hi : Inns h args as') (hp : PCalls P f as' v)
   (hk : xS P ops K rest (i + 1) ⟨⟨setT r d v, h, cnt⟩, setB G d true⟩ (tr ++ [⟨i, ⟨some d, op, ty, pos, aft, none⟩, true, .val True v, ⟨i, args.flatMap zBS, []⟩, none, fun _ => .val True v⟩])) :
   xS P ops K (⟨some d, op, ty, pos, aft, none⟩ :: rest) i ⟨⟨r, h, cnt⟩, G⟩ tr := by
 refine XAt.next (x := ⟨i, ⟨some d, op, ty, pos, aft, none⟩, true, .val True v, ⟨i, args.flatMap zBS, []⟩, none, fun _ => .val True v⟩) ⟨⟨ho, rfl, trivial, rfl, .inr (.inl ⟨f, args, v, hc, fun _ => ⟨zBe hv, as', hi, hp⟩, rfl, rfl, rfl⟩)⟩, fun q => by rw [hkl] at q; cases q⟩ rfl ?_;show xS P ops K rest (i + 1) ⟨⟨putR r (some d) v, _, _⟩, setG G (some d) true⟩ _;rw [zAY, zBu]; exact hk
end
theorem Bld.matU {c0 c : Nat → Nat} {h0 h : Heap} {v : PV} {a s D n : Nat} {gs : List Nat} (hB : Bld c0 h0 h c v a s D gs) (hl : gs.length = n) : ∃ g, 1 ≤ n → v = .ref (a, g) 1 0 n ∧ Mat h (a, g) s n D ci gs (fun _ _ => 0) := by
 by_cases hn : 1 ≤ n
 · obtain ⟨g, h1, _, h3⟩ := hB.mat hl hn;exact ⟨g, fun _ => ⟨h1, h3⟩⟩
 · exact ⟨0, fun q => absurd q hn⟩
end Go.Proofs.Ytigdmkhdmbbfiaa
