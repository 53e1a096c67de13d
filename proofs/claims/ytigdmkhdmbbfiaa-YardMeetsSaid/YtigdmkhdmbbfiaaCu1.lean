import Derived.Test.YtigdmkhdmbbfiaaTrc
set_option linter.unusedSimpArgs false
set_option linter.unusedVariables false
set_option maxRecDepth 100000
namespace Go.Proofs.Ytigdmkhdmbbfiaa
open Go Go.Pv
def atLt (x y : At) : Prop := x.a0 < y.a0 ∨ (x.a0 = y.a0 ∧ x.a1 < y.a1)
instance (x y : At) : Decidable (atLt x y) := by unfold atLt; exact inferInstance
def atIn (t : Traffic) (x : At) : Prop := (0 ≤ x.a0 ∧ x.a0 ≤ t.places - 1) ∧ (0 ≤ x.a1 ∧ x.a1 ≤ t.days - 1)
instance (t : Traffic) (x : At) : Decidable (atIn t x) := by unfold atIn; exact inferInstance
def ctF (t : Traffic) (l : List At) (i : Nat) : Int :=
 match l[i]? with
 | none => 0
 | some x => if ¬ atIn t x then 6 else if 1 ≤ i ∧ ¬ atLt (l.getD (i - 1) default) x then 10 else 0
def cutE (t : Traffic) (l : List At) : Int := feL (ctF t l) (List.range l.length)
def gapB (t : Traffic) (l : List At) (x : At) : Bool := decide (x.a1 + 1 < t.days) && !decide ((⟨x.a0, x.a1 + 1⟩ : At) ∈ l)
def supC (l : List At) (s : Supply) : Int := if (⟨s.place, s.day⟩ : At) ∈ l then 0 else s.count
def needC (l : List At) (s : Supply) : Int := if (⟨s.place, s.day⟩ : At) ∈ l then s.count else 0
def dayC (l : List At) (r : Route) (d : Int) : Int := if (⟨r.fro, d⟩ : At) ∈ l ∧ ¬ (⟨r.til, d + r.days⟩ : At) ∈ l then r.most else 0
def rtN (l : List At) (r : Route) : Nat → Int
 | 0 => 0
 | k + 1 => rtN l r k + dayC l r (k : Int)
def rtC (t : Traffic) (l : List At) (r : Route) : Int := rtN l r (t.days - r.days).toNat
def cutS (t : Traffic) (l : List At) : Int := capS (supC l) t.supplies t.supplies.length + capS (needC l) t.needs t.needs.length + capS (rtC t l) t.routes t.routes.length
def cutV (t : Traffic) (l : List At) : Int × Int :=
 if cutE t l ≠ 0 then (0, cutE t l) else if l.any (gapB t l) = true then (0, 25) else (cutS t l, 0)
def cpI (a b : Int) : Int := if a < b then -1 else if b < a then 1 else 0
def cpL : List Int → List Int → Int
 | [], [] => 0
 | [], _ :: _ => -1
 | _ :: _, [] => 1
 | a :: l, b :: m => if cpI a b ≠ 0 then cpI a b else cpL l m
section
variable {t : Traffic} {l : List At} {k : Nat} {x y : At} {s : Supply} {r : Route} {a b : Int}
theorem cpI_l (h : a < b) : -1 = cpI a b := (if_pos h).symm
theorem cpI_g (h : b < a) : 1 = cpI a b := by rw [cpI, if_neg (by omega), if_pos h]
theorem cpI_e (h : a = b) : 0 = cpI a b := by rw [cpI, if_neg (by omega), if_neg (by omega)]
theorem cpI_0 : cpI a b = 0 ↔ a = b := by
 rw [cpI]; split
 · exact ⟨fun h => (by cases h), fun h => by omega⟩
 · split
   · exact ⟨fun h => (by cases h), fun h => by omega⟩
   · exact ⟨fun _ => by omega, fun _ => rfl⟩
theorem zLo {l m : List Int} : ∀ {k : Nat} {l m : List Int}, (∀ i, i < k → ∀ u w, l[i]? = some u → m[i]? = some w → u = w) → k < m.length → l[k]? = some a → m[k]? = some b → cpI a b ≠ 0 → cpI a b = cpL l m
 | 0, [], _, _, _, h, _, _ => by simp at h
 | 0, _ :: _, [], _, h, _, _, _ => by simp at h
 | 0, u :: l, w :: m, _, _, h1, h2, h3 => by
   simp at h1 h2; subst h1; subst h2;rw [cpL, if_pos h3]
 | k + 1, [], _, _, _, h, _, _ => by simp at h
 | k + 1, _ :: _, [], _, h, _, _, _ => by simp at h
 | k + 1, u :: l, w :: m, hin, hk, h1, h2, h3 => by
   have h0 : u = w := hin 0 (Nat.succ_pos _) u w rfl rfl;rw [cpL, if_neg (by rw [cpI_0.2 h0]; decide)];exact zLo (l := l) (m := m) (fun i hi u w g1 g2 => hin (i + 1) (Nat.succ_lt_succ hi) u w g1 g2) (by simpa using hk) h1 h2 h3
theorem cpL_2 {u v : Int} : 0 ≤ cpL [a, b] [u, v] ↔ ¬ atLt ⟨a, b⟩ ⟨u, v⟩ := by
 simp only [cpL, cpI, atLt];by_cases h1 : a < u
 · simp [h1]
 · by_cases h2 : u < a
   · simp [h1, h2]; omega
   · have h3 : a = u := by omega
     subst h3;by_cases h4 : b < v
     · simp [h4]
     · by_cases h5 : v < b
       · simp [h4, h5]
       · simp [h4, h5]
theorem ct_at (hx : l[k]? = some x) : ctF t l k = if ¬ atIn t x then 6 else if 1 ≤ k ∧ ¬ atLt (l.getD (k - 1) default) x then 10 else 0 := by
 rw [ctF, hx]
theorem ct_hit {z : Int} (hin : ∀ i, i < k → ctF t l i = 0) (hx : l[k]? = some x) (h : ctF t l k = z) (hz : z ≠ 0) : z = cutE t l := by
 have hk : k < l.length := (List.getElem?_eq_some_iff.1 hx).1;rw [cutE, zH9 (k := k) (x := k) (fun i hi y hy => ?_) (List.getElem?_range hk) (by rw [h]; exact hz), h];rw [List.getElem?_range (by omega)] at hy;cases hy;rw [hin i hi]; rfl
theorem ct_no (hin : ∀ i, i < k → ctF t l i = 0) (hk : l.length ≤ k) : cutE t l = 0 := by
 refine zH8 (k := l.length) (fun i hi y hy => ?_) (by simp);rw [List.getElem?_range hi] at hy;cases hy;rw [hin i (by omega)]; rfl
theorem ct_6 (hx : l[k]? = some x) (h : ¬ atIn t x) : ctF t l k = 6 := by rw [ct_at hx, if_pos h]
theorem ct_10 (hx : l[k]? = some x) (h : atIn t x) (hk : 1 ≤ k) (hy : l[((k : Int) - 1).toNat]? = some y) (h2 : ¬ atLt y x) : ctF t l k = 10 := by
 rw [show ((k : Int) - 1).toNat = k - 1 by omega] at hy;have h3 : l.getD (k - 1) default = y := by rw [List.getD_eq_getElem?_getD, hy]; rfl
 rw [ct_at hx, if_neg (fun q => q h), h3, if_pos ⟨hk, h2⟩]
theorem ct_z (hx : l[k]? = some x) (h : atIn t x) (hk : k = 0) : ctF t l k = 0 := by
 rw [ct_at hx, if_neg (fun q => q h), if_neg (by omega)]
theorem ct_0 (hx : l[k]? = some x) (h : atIn t x) (hk : 1 ≤ k) (hy : l[((k : Int) - 1).toNat]? = some y) (h2 : atLt y x) : ctF t l k = 0 := by
 rw [show ((k : Int) - 1).toNat = k - 1 by omega] at hy;have h3 : l.getD (k - 1) default = y := by rw [List.getD_eq_getElem?_getD, hy]; rfl
 rw [ct_at hx, if_neg (fun q => q h), h3, if_neg (fun q => q.2 h2)]
theorem ct_s (hin : ∀ i, i < k → ctF t l i = 0) (h : ctF t l k = 0) : ∀ i, i < k + 1 → ctF t l i = 0 := fun i hi => by
 by_cases e : i = k
 · rw [e]; exact h
 · exact hin i (by omega)
theorem ct_in (h : cutE t l = 0) (hx : x ∈ l) : atIn t x := by
 obtain ⟨i, hi, rfl⟩ := List.getElem_of_mem hx;have h1 := zFf h i (List.mem_range.2 hi);rw [ct_at (List.getElem?_eq_getElem hi)] at h1;split at h1
 · cases h1
 · rename_i q; exact Classical.byContradiction q
theorem cv_e (h : cutE t l ≠ 0) : cutV t l = (0, cutE t l) := if_pos h
theorem cv_25 (h : cutE t l = 0) (h1 : l.any (gapB t l) = true) : cutV t l = (0, 25) := by rw [cutV, if_neg (fun q => q h), if_pos h1]
theorem cv_0 (h : cutE t l = 0) (h1 : l.any (gapB t l) = false) : cutV t l = (cutS t l, 0) := by rw [cutV, if_neg (fun q => q h), if_neg (by rw [h1]; decide)]
theorem zID {z : Int} (hin : ∀ i, i < k → ctF t l i = 0) (hx : l[k]? = some x) (h : ctF t l k = z) (hz : z ≠ 0) : (0, z) = cutV t l := by
 have h1 := ct_hit hin hx h hz;rw [cv_e (by rw [← h1]; exact hz), ← h1]
theorem zKK (h : 0 ≤ s.count ∧ s.count ≤ 1000000) : 0 ≤ supC l s ∧ supC l s ≤ 1000000 := by rw [supC]; split <;> omega
theorem zI3 (h : 0 ≤ s.count ∧ s.count ≤ 1000000) : 0 ≤ needC l s ∧ needC l s ≤ 1000000 := by rw [needC]; split <;> omega
theorem zL7 {d : Int} (h : 0 ≤ r.most ∧ r.most ≤ 1000000) : 0 ≤ dayC l r d ∧ dayC l r d ≤ 1000000 := by rw [dayC]; split <;> omega
theorem rtN_b (h : 0 ≤ r.most ∧ r.most ≤ 1000000) : ∀ {n : Nat}, 0 ≤ rtN l r n ∧ rtN l r n ≤ 1000000 * (n : Int)
 | 0 => by rw [rtN]; simp
 | n + 1 => by
   have h1 := rtN_b h (n := n);have h2 := zL7 (l := l) (d := (n : Int)) h;rw [rtN]; omega
theorem rtC_b (h : 0 ≤ r.most ∧ r.most ≤ 1000000) (hd : t.days ≤ 20) (h2 : 1 ≤ r.days) : 0 ≤ rtC t l r ∧ rtC t l r ≤ 20000000 := by
 have h1 := rtN_b (l := l) h (n := (t.days - r.days).toNat);rw [rtC]; omega
theorem zKI (h : decide ((⟨s.place, s.day⟩ : At) ∈ l) = true) : supC l s = 0 := if_pos (by simpa using h)
theorem zKJ (h : decide ((⟨s.place, s.day⟩ : At) ∈ l) = false) : supC l s = s.count := if_neg (by simpa using h)
theorem zI1 (h : decide ((⟨s.place, s.day⟩ : At) ∈ l) = true) : needC l s = s.count := if_pos (by simpa using h)
theorem zI2 (h : decide ((⟨s.place, s.day⟩ : At) ∈ l) = false) : needC l s = 0 := if_neg (by simpa using h)
theorem zJE {d : Int} (h : decide ((⟨r.fro, d⟩ : At) ∈ l) = true) (h2 : decide ((⟨r.til, d + r.days⟩ : At) ∈ l) = false) : dayC l r d = r.most := if_pos ⟨by simpa using h, by simpa using h2⟩
theorem zJG {d : Int} (h : decide ((⟨r.fro, d⟩ : At) ∈ l) = false) : dayC l r d = 0 := if_neg fun q => by simp [q.1] at h
theorem zJF {d : Int} (h2 : decide ((⟨r.til, d + r.days⟩ : At) ∈ l) = true) : dayC l r d = 0 := if_neg fun q => by simp [q.2] at h2
theorem rtN_s : rtN l r (k + 1) = rtN l r k + dayC l r (k : Int) := rfl
theorem zK7 (h : ¬ (k : Int) + r.days < t.days) (hk : k = 0 ∨ (k : Int) - 1 + r.days < t.days) : rtN l r k = rtC t l r := by
 rw [rtC]; congr 1; omega
def ka (x : At) : PV := .agg x.enc
theorem ka_eq (a b : At) : keyEq (ka a) (ka b) = decide (a = b) := by
 show scsEq [.int a.a0, .int a.a1] [.int b.a0, .int b.a1] = _;rw [Bool.eq_iff_iff];cases a; cases b;simp [scsEq, scEq]
theorem ka_ok (a : At) : keyOk Try.prog 35 (ka a) := by
 show zJB Try.prog 35 [.int a.a0, .int a.a1] = true;kernel_rfl
def MpOK (m : List (At × Bool)) (l : List At) : Prop := ∀ a, aGet a m = if a ∈ l then some true else none
theorem mp_0 : MpOK [] [] := fun a => by simp [aGet]
theorem mp_s {m : List (At × Bool)} (h : MpOK m (l.take k)) (hx : l[k]? = some x) : MpOK (aSet x true m) (l.take (k + 1)) := fun a => by
 have h1 : l.take (k + 1) = l.take k ++ [x] := by rw [List.take_add_one, hx]; rfl
 rw [zFv, h1, h a];by_cases e : a = x
 · subst e; simp
 · simp [e]
theorem mp_all {m : List (At × Bool)} (h : MpOK m (l.take k)) (hk : l.length ≤ k) : MpOK m l := by rwa [List.take_of_length_le hk] at h
theorem zCK {m : List (At × Bool)} (h : MpOK m l) (a : At) : ((aGet a m).getD false) = decide (a ∈ l) := by
 rw [h a]; split
 · rename_i q; simp [q]
 · rename_i q; simp [q]
theorem zKG {β : Type} : ∀ {m : List (At × β)} {e : At × β}, e ∈ m → aGet e.1 m ≠ none
 | [], _, h => by simp at h
 | x :: m, e, h => by
   rw [aGet];split
   · simp
   · rename_i q;rcases List.mem_cons.1 h with rfl | h
     · exact absurd rfl q
     · exact zKG h
theorem zLY {m : List (At × Bool)} (h : MpOK m l) {e : At × Bool} (he : e ∈ m) : e.1 ∈ l := by
 have h1 := zKG he;rw [h] at h1;exact Classical.byContradiction fun q => h1 (if_neg q)
theorem mp_ex {m : List (At × Bool)} (h : MpOK m l) (hx : x ∈ l) : ∃ e ∈ m, e.1 = x := by
 have h1 : aGet x m ≠ none := by rw [h, if_pos hx]; simp
 have h2 : x ∈ m.map (·.1) := Classical.byContradiction fun q => h1 (zJs q);obtain ⟨e, h3, h4⟩ := List.mem_map.1 h2;exact ⟨e, h3, h4⟩
def RmOK (t : Traffic) (l : List At) (m : List (At × Bool)) (rem : List ((At × Bool) × Nat)) : Prop := (∀ q ∈ rem, q.1 ∈ m) ∧ ∀ e ∈ m, gapB t l e.1 = true → ∃ q ∈ rem, q.1 = e
theorem rm_0 {m : List (At × Bool)} {rem : List ((At × Bool) × Nat)} (h : rem.map (·.1) = m) : RmOK t l m rem := by
 subst h;refine ⟨fun q hq => List.mem_map.2 ⟨q, hq, rfl⟩, fun e he _ => ?_⟩;obtain ⟨q, h1, h2⟩ := List.mem_map.1 he;exact ⟨q, h1, h2⟩
theorem rm_s {m : List (At × Bool)} {rem l1 l2 : List ((At × Bool) × Nat)} {x : (At × Bool) × Nat} (h : RmOK t l m rem) (hr : rem = l1 ++ x :: l2) (hx : gapB t l x.1.1 = false) : RmOK t l m (l1 ++ l2) := by
 subst hr;refine ⟨fun q hq => h.1 q (by simp only [List.mem_append, List.mem_cons] at hq ⊢; rcases hq with hq | hq; exact .inl hq; exact .inr (.inr hq)), fun e he hg => ?_⟩;obtain ⟨q, h1, h2⟩ := h.2 e he hg;refine ⟨q, ?_, h2⟩;simp only [List.mem_append, List.mem_cons] at h1 ⊢;rcases h1 with h1 | h1 | h1
 · exact .inl h1
 · subst h1; rw [h2, hg] at hx; cases hx
 · exact .inr h1
theorem rm_end {m : List (At × Bool)} {rem : List ((At × Bool) × Nat)} (hm : MpOK m l) (h : RmOK t l m rem) (hr : rem = []) : l.any (gapB t l) = false := by
 rw [List.any_eq_false];intro x hx hg;obtain ⟨e, h1, h2⟩ := mp_ex hm hx;obtain ⟨q, h3, _⟩ := h.2 e h1 (by rw [h2]; exact hg);rw [hr] at h3; simp at h3
theorem rm_hit {m : List (At × Bool)} {rem l1 l2 : List ((At × Bool) × Nat)} {x : (At × Bool) × Nat} (hm : MpOK m l) (h : RmOK t l m rem) (hr : rem = l1 ++ x :: l2) (hx : gapB t l x.1.1 = true) : l.any (gapB t l) = true := by
 have h1 := h.1 x (by rw [hr]; simp);exact List.any_eq_true.2 ⟨x.1.1, zLY hm h1, hx⟩
theorem gp_t (h : x.a1 + 1 < t.days) (h1 : decide ((⟨x.a0, x.a1 + 1⟩ : At) ∈ l) = false) : gapB t l x = true := by rw [gapB, h1, decide_eq_true h]; rfl
theorem gp_f (h : ¬ x.a1 + 1 < t.days) : gapB t l x = false := by rw [gapB, decide_eq_false h]; rfl
theorem gp_g (h1 : decide ((⟨x.a0, x.a1 + 1⟩ : At) ∈ l) = true) : gapB t l x = false := by rw [gapB, h1]; simp
end
theorem zCk {P : Program} {ρ : Operand → PV} {h : Heap} {key : Key} {x y : Operand} {t : TypeId} {tt : Bool} {sz a b n : Nat} {rs : Go.Pv.Rows} {e : TypeId} {kd : IntKind} {i : Int} (hx : ρ x = .lptr tt sz rs a b) (hy : ρ y = .sc (.int kd i)) (ht : arrOk P t = some (n, e)) (hs : zAn P e = 1) (hi : 0 ≤ i ∧ i < n) :
   eff P ρ h key (.indexAddr t x y) = ⟨True, .lptr tt sz rs a (b + i.toNat), [], [], false⟩ := by
 simp only [eff, hx, hy, zBq, ht, hs]; simp [hi]
theorem e_slA {P : Program} {ρ : Operand → PV} {h : Heap} {key : Key} {x : Operand} {t : TypeId} {tt : Bool} {sz i j n : Nat} {rs rows : Go.Pv.Rows} {e : TypeId} (hx : ρ x = .lptr tt sz rs i j) (ht : arrOk P t = some (n, e)) (hs : zAn P e = 1) (hn : 1 ≤ n) (hi : i < rs.length) (hj : j + n ≤ sz) (hr : ((aggAt rs i j n).map fun p => [p]) = rows) :
   eff P ρ h key (.slice t x none none none) = ⟨True, .lit tt 1 rows, [], [], false⟩ := by
 simp only [eff, Option.map_none, hx, zC2, ht, hs, hr]; simp [hn, hi, hj]
theorem agl {l : List At} {i : Nat} {y : At} (hy : l[i]? = some y) : ((aggAt (l.map At.enc) i 0 2).map fun p => [p]) = [y.a0, y.a1].map ci := by
 rw [aggAt, List.getD_eq_getElem?_getD, List.getElem?_map, hy]; rfl
theorem out_p {h : Heap} {p : Int × Int} {a b : Int} (e : (a, b) = p) : Out h (.tup [.int a, .int b]) (.tup [.int p.1, .int p.2]) := by
 subst e; exact out_2 (out_i rfl) (out_i rfl)
theorem zL8 {l m : List Int} : ∀ {k : Nat} {l m : List Int}, (∀ i, i < k → ∀ u w, l[i]? = some u → m[i]? = some w → u = w) → l.length = m.length → l.length ≤ k → 0 = cpL l m
 | 0, [], [], _, _, _ => rfl
 | _ + 1, [], [], _, _, _ => rfl
 | _, [], _ :: _, _, h, _ => by simp at h
 | _, _ :: _, [], _, h, _ => by simp at h
 | 0, _ :: _, _ :: _, _, _, h => by simp at h
 | k + 1, u :: l, w :: m, hin, hl, hk => by
   have h0 : u = w := hin 0 (Nat.succ_pos _) u w rfl rfl;rw [cpL, if_neg (by rw [cpI_0.2 h0]; decide)];exact zL8 (l := l) (m := m) (fun i hi u w g1 g2 => hin (i + 1) (Nat.succ_lt_succ hi) u w g1 g2) (by simpa using hl) (by simpa using hk)
theorem eq_s {l m : List Int} {k : Nat} {a b : Int} (hin : ∀ i, i < k → ∀ u w, l[i]? = some u → m[i]? = some w → u = w) (h1 : l[k]? = some a) (h2 : m[k]? = some b) (h : cpI a b = 0) : ∀ i, i < k + 1 → ∀ u w, l[i]? = some u → m[i]? = some w → u = w := fun i hi u w g1 g2 => by
 by_cases e : i = k
 · subst e; rw [h1] at g1; rw [h2] at g2; cases g1; cases g2; exact cpI_0.1 h
 · exact hin i (by omega) u w g1 g2
theorem lt_of {x y : At} (h : cpL [y.a0, y.a1] [x.a0, x.a1] < 0) : atLt y x := Classical.byContradiction fun q => by
 have := cpL_2.2 q; omega
theorem nlt_of {x y : At} (h : 0 ≤ cpL [y.a0, y.a1] [x.a0, x.a1]) : ¬ atLt y x := cpL_2.1 h
theorem zLf (l : List At) (k : Nat) (hk : k < l.length) : ∃ y, 1 ≤ k → l[((k : Int) - 1).toNat]? = some y :=
 ⟨l.getD (k - 1) default, fun h => by
   rw [show ((k : Int) - 1).toNat = k - 1 by omega, List.getD_eq_getElem?_getD, List.getElem?_eq_getElem (by omega)]; rfl⟩
def cutW (t : Traffic) (l : List At) : Int × Int := if trafE t ≠ 0 then (0, trafE t) else cutV t l
theorem cw_e {t : Traffic} {l : List At} (h : ¬ trafE t = 0) : (0, trafE t) = cutW t l := (if_pos h).symm
theorem cw_0 {t : Traffic} {l : List At} (h : trafE t = 0) : cutW t l = cutV t l := if_neg (fun q => q h)
end Go.Proofs.Ytigdmkhdmbbfiaa
