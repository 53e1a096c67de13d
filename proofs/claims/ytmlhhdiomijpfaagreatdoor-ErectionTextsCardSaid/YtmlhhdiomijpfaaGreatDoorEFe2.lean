import Derived.Test.YtmlhhdiomijpfaaGreatDoorEFe1
set_option linter.unusedSimpArgs false
set_option linter.unusedVariables false
namespace Go.Proofs.YtmlhhdiomijpfaaGreatDoor.E7
open Go Go.Pv Go.Proofs.YtmlhhdiomijpfaaGreatDoor
theorem can_iff {l : List Int} {a k : Nat} (ha : a < 4611686018427387904) (hl : ∀ z ∈ l, 0 ≤ z ∧ z < 14) : canB (bitsP l l.length) a k = true ↔ a.testBit k = false ∧ ∀ z ∈ l, a.testBit z.toNat = true := by
 have h0 : ∀ (m : List Int) (b i : Nat), (m.foldl (fun b z => b ||| 2 ^ z.toNat) b).testBit i = (b.testBit i || m.any fun z => decide (z.toNat = i)) := by
   intro m;induction m with
   | nil => intro b i; simp
   | cons z m ih =>
     intro b i;rw [List.foldl_cons, ih, Nat.testBit_or, Nat.testBit_two_pow, List.any_cons, Bool.or_assoc]
 have h1 : ∀ i, (bitsP l l.length).testBit i = l.any fun z => decide (z.toNat = i) := fun i => by
   rw [bitsP, List.take_length, h0]; simp
 have h2 : ∀ i, (18446744073709551615 - a).testBit i = (decide (i < 64) && !a.testBit i) := fun i => by
   have := Nat.testBit_two_pow_sub_succ (x := a) (n := 64) (by omega) i;rw [show 2 ^ 64 - (a + 1) = 18446744073709551615 - a by omega] at this;exact this
 have h3 : ((a / 2 ^ k) &&& 1 = 0) ↔ a.testBit k = false := by
   rw [Nat.testBit, Nat.shiftRight_eq_div_pow, Nat.and_comm];cases h : (1 &&& a / 2 ^ k) with
   | zero => simp
   | succ n => simp
 have h4 : (bitsP l l.length &&& (18446744073709551615 - a) = 0) ↔ ∀ z ∈ l, a.testBit z.toNat = true := by
   constructor
   · intro h z hz;have h5 : (bitsP l l.length &&& (18446744073709551615 - a)).testBit z.toNat = false := by rw [h]; exact Nat.zero_testBit _
     rw [Nat.testBit_and, h1, h2] at h5;have h6 : (l.any fun y => decide (y.toNat = z.toNat)) = true := List.any_eq_true.2 ⟨z, hz, by simp⟩;have h7 := hl z hz;rw [h6, show decide (z.toNat < 64) = true from decide_eq_true (by omega)] at h5;simpa using h5
   · intro h;apply Nat.eq_of_testBit_eq;intro i;rw [Nat.testBit_and, h1, h2, Nat.zero_testBit];cases e : (l.any fun z => decide (z.toNat = i)) with
     | false => rfl
     | true =>
       obtain ⟨z, hz, h5⟩ := List.any_eq_true.1 e;have h5 := of_decide_eq_true h5;rw [← h5, h z hz]; simp
 unfold canB;rw [Bool.and_eq_true, decide_eq_true_eq, decide_eq_true_eq, ← h3, ← h4];exact ⟨fun ⟨p, q⟩ => ⟨by exact_mod_cast p, by exact_mod_cast q⟩, fun ⟨p, q⟩ => ⟨by exact_mod_cast p, by exact_mod_cast q⟩⟩
theorem or_gt {a k : Nat} (h : a.testBit k = false) : a < a ||| 2 ^ k := by
 have h1 : a ≤ a ||| 2 ^ k := Nat.left_le_or
 rcases Nat.lt_or_eq_of_le h1 with h2 | h2
 · exact h2
 · have h3 : (a ||| 2 ^ k).testBit k = a.testBit k := by rw [← h2]
   rw [Nat.testBit_or, Nat.testBit_two_pow_self, h] at h3;simp at h3
theorem or_lt {a k n : Nat} (ha : a < 2 ^ n) (hk : k < n) : a ||| 2 ^ k < 2 ^ n := Nat.or_lt_two_pow ha (Nat.pow_lt_pow_right (by decide) hk)
abbrev nbD (xs : List Task) (k : Nat) : Nat := (bitsL xs).getD k 0
def bstG (xs : List Task) (V : Nat → Nat → Int) (a l : Nat) : Nat → Int
 | 0 => 1048576
 | k + 1 => if canB (nbD xs k) a k = true then min (bstG xs V a l k) (mvF xs l k + V (a ||| 2 ^ k) k) else bstG xs V a l k
def DV (xs : List Task) : Nat → Nat → Nat → Int
 | 0, _, _ => 0
 | f + 1, a, l => if 2 ^ xs.length - 1 ≤ a then 0 else bstG xs (DV xs f) a l xs.length
def DX (xs : List Task) (a l : Nat) : Int := DV xs (2 ^ xs.length) a l
theorem mvF_b {xs : List Task} {l k : Int} : 0 ≤ mvF xs l k ∧ mvF xs l k ≤ 1 := by unfold mvF; split <;> omega
theorem bstG_b {xs : List Task} {V : Nat → Nat → Int} (hV : ∀ a l, 0 ≤ V a l) {a l : Nat} : ∀ k, 0 ≤ bstG xs V a l k ∧ bstG xs V a l k ≤ 1048576
 | 0 => by unfold bstG; omega
 | k + 1 => by
   have h1 := bstG_b (xs := xs) hV (a := a) (l := l) k;have h2 := hV (a ||| 2 ^ k) k;have h3 := mvF_b (xs := xs) (l := l) (k := k);unfold bstG;split
   · rw [Int.min_def]; split <;> omega
   · exact h1
theorem DV_b {xs : List Task} : ∀ (f a l : Nat), 0 ≤ DV xs f a l ∧ DV xs f a l ≤ 1048576
 | 0, _, _ => by unfold DV; omega
 | f + 1, a, l => by
   unfold DV;split
   · omega
   · exact bstG_b (fun a l => (DV_b f a l).1) _
theorem DX_b {xs : List Task} {a l : Nat} : 0 ≤ DX xs a l ∧ DX xs a l ≤ 1048576 := DV_b _ _ _
theorem bstG_congr {xs : List Task} {V W : Nat → Nat → Int} {a l : Nat} : ∀ (k : Nat), (∀ j, j < k → canB (nbD xs j) a j = true → V (a ||| 2 ^ j) j = W (a ||| 2 ^ j) j) → bstG xs V a l k = bstG xs W a l k
 | 0, _ => rfl
 | k + 1, h => by
   have h1 := bstG_congr (l := l) k fun j hj => h j (by omega);unfold bstG;rw [h1];split
   · rename_i h2; rw [h k (by omega) h2]
   · rfl
theorem can_bit {nb a k : Nat} (h : canB nb a k = true) : a.testBit k = false := by
 unfold canB at h;rw [Bool.and_eq_true, decide_eq_true_eq] at h;have h1 : (a / 2 ^ k) &&& 1 = 0 := by exact_mod_cast h.1
 rw [Nat.testBit, Nat.shiftRight_eq_div_pow, Nat.and_comm, h1]; rfl
theorem DV_fuel {xs : List Task} : ∀ (g a l f f' : Nat), a < 2 ^ xs.length → 2 ^ xs.length - 1 - a ≤ g → g ≤ f → g ≤ f' → DV xs f a l = DV xs f' a l := by
 intro g;induction g with
 | zero =>
   intro a l f f' ha hg _ _
   have h0 : ∀ f, DV xs f a l = 0 := fun f => by
     cases f with
     | zero => rfl
     | succ f => unfold DV; rw [if_pos (by omega)]
   rw [h0, h0]
 | succ g ih =>
   intro a l f f' ha hg hf hf';obtain ⟨f, rfl⟩ : ∃ f0, f = f0 + 1 := ⟨f - 1, by omega⟩
   obtain ⟨f', rfl⟩ : ∃ f0, f' = f0 + 1 := ⟨f' - 1, by omega⟩
   unfold DV;split
   · rfl
   · refine bstG_congr _ fun j hj hc => ih _ _ _ _ (or_lt ha hj) ?_ (by omega) (by omega);have := or_gt (can_bit hc);omega
theorem DX_eq {xs : List Task} {a l : Nat} (ha : a < 2 ^ xs.length) : DX xs a l = if 2 ^ xs.length - 1 ≤ a then 0 else bstG xs (DX xs) a l xs.length := by
 have h0 : 2 ^ xs.length = (2 ^ xs.length - 1) + 1 := by omega
 have h1 : DX xs a l = DV xs ((2 ^ xs.length - 1) + 1) a l := by rw [← h0]; rfl
 rw [h1];show (if 2 ^ xs.length - 1 ≤ a then 0 else bstG xs (DV xs (2 ^ xs.length - 1)) a l xs.length) = _;split
 · rfl
 · refine bstG_congr _ fun j hj hc => ?_;have := or_gt (can_bit hc);exact DV_fuel (2 ^ xs.length - 1 - (a ||| 2 ^ j)) _ _ _ _ (or_lt ha hj) (Nat.le_refl _) (by omega) (by omega)
theorem idx_lt {a l n m : Nat} (ha : a < m) (hl : l < n) : a * n + l < m * max n 1 := by
 have h1 : (a + 1) * n ≤ m * n := Nat.mul_le_mul_right _ ha;rw [Nat.add_mul, Nat.one_mul] at h1;rw [show max n 1 = n by omega]; omega
theorem idx_inj {a b l k n : Nat} (hl : l < n) (hk : k < n) (h : a * n + l = b * n + k) : a = b ∧ l = k := by
 have h1 : (a * n + l) / n = a := by rw [Nat.mul_comm, Nat.mul_add_div (by omega), Nat.div_eq_of_lt hl, Nat.add_zero]
 have h2 : (b * n + k) / n = b := by rw [Nat.mul_comm, Nat.mul_add_div (by omega), Nat.div_eq_of_lt hk, Nat.add_zero]
 have h3 : a = b := by rw [← h1, h, h2]
 subst h3;exact ⟨rfl, by omega⟩
structure RI (xs : List Task) (r : List Int) (z : Int) : Prop where
 len : r.length = 2 ^ xs.length * max xs.length 1
 val : ∀ a l : Nat, z < (a : Int) → a < 2 ^ xs.length → l < xs.length → at0 r (a * xs.length + l) = DX xs a l
structure RM (xs : List Task) (r : List Int) (z : Int) (k : Nat) : Prop where
 ri : RI xs r z
 row : ∀ l : Nat, l < k → at0 r (z.toNat * xs.length + l) = DX xs z.toNat l
theorem RI.start {xs : List Task} : RI xs (List.replicate (2 ^ xs.length * max xs.length 1) 0) (((2 ^ xs.length - 1 : Nat) : Int) - 1) := by
 refine ⟨List.length_replicate, fun a l h1 h2 h3 => ?_⟩;rw [DX_eq h2, if_pos (by omega)];simp only [at0, List.getD_eq_getElem?_getD, List.getElem?_replicate];split <;> rfl
theorem RI.mid {xs : List Task} {r : List Int} {z : Int} (h : RI xs r z) : RM xs r z 0 := ⟨h, fun l hl => absurd hl (Nat.not_lt_zero _)⟩
theorem RM.step {xs : List Task} {r : List Int} {z v : Int} {k : Nat} (h : RM xs r z k) (hz : 0 ≤ z ∧ z < ((2 ^ xs.length - 1 : Nat) : Int)) (hk : k < xs.length) (hv : v = bstG xs (DX xs) z.toNat k xs.length) : RM xs (r.set (z.toNat * xs.length + k) v) z (k + 1) := by
 have hl : z.toNat * xs.length + k < r.length := by rw [h.ri.len]; exact idx_lt (by omega) hk
 refine ⟨⟨by rw [List.length_set]; exact h.ri.len, fun a l h1 h2 h3 => ?_⟩, fun l h1 => ?_⟩
 · rw [at0_set hl, if_neg fun e => by have := (idx_inj hk h3 e).1; omega];exact h.ri.val a l h1 h2 h3
 · rw [at0_set hl];split
   · rename_i e;have := (idx_inj hk (by omega) e).2;subst this;rw [hv, DX_eq (by omega), if_neg (by omega)]
   · rename_i e
     exact h.row l (by
       have : l ≠ k := fun q => e (by rw [q]);omega)
theorem RM.stop {xs : List Task} {r : List Int} {z : Int} {k : Nat} (h : RM xs r z k) (hz : 0 ≤ z) (hk : xs.length ≤ k) : RI xs r (z - 1) := by
 refine ⟨h.ri.len, fun a l h1 h2 h3 => ?_⟩;by_cases e : z.toNat = a
 · subst e; exact h.row l (by omega)
 · exact h.ri.val a l (by omega) h2 h3
theorem ordF_at {nd : List (List Int)} : ∀ (f : Nat) {D : List Int}, OrdAt nd D → OrdAt nd (ordF nd f D)
 | 0, D, h => h
 | f + 1, D, h => by
   unfold ordF;cases e : leastR nd D with
   | none => exact h
   | some i =>
     rw [leastR, List.find?_range_eq_some] at e;obtain ⟨h1, h2, h3⟩ := e;refine ordF_at f (h.step (List.mem_range.1 h2) h1 fun j hj hr => ?_);rcases Nat.lt_or_ge j i with h4 | h4
     · have h5 := h3 j h4; rw [hr] at h5; cases h5
     · exact h4
theorem ordF_in {nd : List (List Int)} {A : Int → Prop} (hA : ∀ i : Nat, i < nd.length → ¬ A i → ∃ z ∈ nd_ nd i, ¬ A z) : ∀ (f : Nat) {D : List Int}, (∀ x ∈ D, A x) → ∀ x ∈ ordF nd f D, A x
 | 0, D, h => h
 | f + 1, D, h => by
   unfold ordF;cases e : leastR nd D with
   | none => exact h
   | some i =>
     refine ordF_in hA f fun x hx => ?_;rcases List.mem_append.1 hx with h1 | h1
     · exact h x h1
     · have h1 := List.mem_singleton.1 h1;subst h1;rw [leastR, List.find?_range_eq_some] at e;obtain ⟨h2, h3, _⟩ := e;have h4 := rdyB_iff.1 h2;refine Classical.byContradiction fun hn => ?_;obtain ⟨z, hz, hz2⟩ := hA i (List.mem_range.1 h3) hn;exact hz2 (h z (h4.2 z hz))
theorem ord_all {nd : List (List Int)} (h : ¬ (ordR nd).length < nd.length) {i : Nat} (hi : i < nd.length) : (i : Int) ∈ ordR nd := by
 have h1 := (ordF_at (nd := nd) nd.length .nil).len
 have h2 : leftR nd (ordR nd) = 0 := by
   have : (ordR nd).length + leftR nd (ordR nd) = nd.length := h1;omega
 have h3 := List.eq_nil_of_length_eq_zero h2;rw [List.filter_eq_nil_iff] at h3;have := h3 i (List.mem_range.2 hi);simpa using this
theorem planE_len {xs : List Task} (h : planE xs = 0) : ¬ (ordR (ndX xs)).length < (ndX xs).length := by
 rw [ndX_len];unfold planE at h;split at h
 · cases h
 · split at h
   · rename_i h1; exact absurd h h1
   · split at h
     · cases h
     · assumption
theorem task_ok {xs : List Task} (h : planE xs = 0) {k : Nat} {t : Task} (ht : xs[k]? = some t) : rngT t ∧ isNm t.name = true ∧ isNm t.trade = true ∧ (∀ z ∈ t.needs, 0 ≤ z ∧ z < xs.length) ∧ ascB t.needs = true :=
 task_needs (by have := tasks_ok (planE_ok h) k t ht; rw [Nat.zero_add] at this; exact this)
theorem nbD_eq {xs : List Task} {k : Nat} {t : Task} (ht : xs[k]? = some t) : nbD xs k = bitsP t.needs t.needs.length := by
 simp [nbD, bitsL, List.getD_eq_getElem?_getD, List.getElem?_map, ht]
theorem nbD_can {xs : List Task} (h : planE xs = 0) (hn : xs.length ≤ 14) {a k : Nat} (ha : a < 4611686018427387904) {t : Task} (ht : xs[k]? = some t) : canB (nbD xs k) a k = true ↔ a.testBit k = false ∧ ∀ z ∈ t.needs, a.testBit z.toNat = true := by
 rw [nbD_eq ht];exact can_iff ha fun z hz => by have := (task_ok h ht).2.2.2.1 z hz; omega
theorem nbD_lt {xs : List Task} (h : planE xs = 0) (hn : xs.length ≤ 14) (k : Nat) : nbD xs k < 4611686018427387904 := by
 cases hx : xs[k]? with
 | none =>
   have : nbD xs k = 0 := by simp [nbD, bitsL, List.getD_eq_getElem?_getD, List.getElem?_map, hx]
   omega
 | some t =>
   rw [nbD_eq hx];exact Nat.lt_of_lt_of_le (bitsP_lt (n := 14) fun z hz => by have := (task_ok h hx).2.2.2.1 z hz; omega) (by decide)
theorem can_some {xs : List Task} (h : planE xs = 0) (hn : xs.length ≤ 14) {a i : Nat} (ha : a < 4611686018427387904) (hi : i < xs.length) (hb : a.testBit i = false) : ∃ k, k < xs.length ∧ canB (nbD xs k) a k = true := by
 refine Classical.byContradiction fun hno => ?_
 have h1 := ordF_in (nd := ndX xs) (A := fun x => a.testBit x.toNat = true) (fun j hj hnj => by
   rw [ndX_len] at hj;obtain ⟨t, ht⟩ : ∃ t, xs[j]? = some t := ⟨_, List.getElem?_eq_getElem hj⟩
   refine Classical.byContradiction fun hq => hno ⟨j, hj, (nbD_can h hn ha ht).2 ⟨by simpa using hnj, fun z hz => ?_⟩⟩;refine Classical.byContradiction fun hz2 => hq ⟨z, by rw [ndX_at ht]; exact hz, hz2⟩) (ndX xs).length (D := []) (fun x hx => by cases hx)
 have h2 := h1 _ (ord_all (planE_len h) (by rw [ndX_len]; exact hi));rw [Int.toNat_natCast, hb] at h2;cases h2
def nxtG (xs : List Task) (a : Nat) (l : Int) : Nat → Int × Int
 | 0 => (-1, 1048576)
 | k + 1 => if canB (nbD xs k) a k = true then (if (nxtG xs a l k).1 < 0 ∨ mvF xs l k + DX xs (a ||| 2 ^ k) k < (nxtG xs a l k).2 then ((k : Int), mvF xs l k + DX xs (a ||| 2 ^ k) k) else nxtG xs a l k) else nxtG xs a l k
def nxtX (xs : List Task) (a : Nat) (l : Int) : Int := (nxtG xs a l xs.length).1
structure Way where
 a : Nat
 l : Int
 out : List Int
 sum : Int
def grdF (xs : List Task) : Nat → Way
 | 0 => ⟨0, -1, [], 0⟩
 | i + 1 => ⟨(grdF xs i).a ||| 2 ^ (nxtX xs (grdF xs i).a (grdF xs i).l).toNat, nxtX xs (grdF xs i).a (grdF xs i).l, (grdF xs i).out ++ [nxtX xs (grdF xs i).a (grdF xs i).l], (grdF xs i).sum + mvF xs (grdF xs i).l (nxtX xs (grdF xs i).a (grdF xs i).l)⟩
theorem nxtG_rng {xs : List Task} {a : Nat} {l : Int} : ∀ k : Nat, (nxtG xs a l k).1 = -1 ∧ (∀ j, j < k → canB (nbD xs j) a j = false) ∨ ∃ j : Nat, (nxtG xs a l k).1 = (j : Int) ∧ j < k ∧ canB (nbD xs j) a j = true
 | 0 => .inl ⟨rfl, fun j hj => absurd hj (Nat.not_lt_zero _)⟩
 | k + 1 => by
   have ih := nxtG_rng (xs := xs) (a := a) (l := l) k;unfold nxtG;split
   · rename_i hc;split
     · exact .inr ⟨k, rfl, Nat.lt_succ_self _, hc⟩
     · rename_i hn;rcases ih with ⟨h1, _⟩ | ⟨j, h1, h2, h3⟩
       · exact absurd (.inl (by omega)) hn
       · exact .inr ⟨j, h1, by omega, h3⟩
   · rename_i hc;rcases ih with ⟨h1, h2⟩ | ⟨j, h1, h2, h3⟩
     · refine .inl ⟨h1, fun j hj => ?_⟩;rcases Nat.lt_succ_iff_lt_or_eq.1 hj with h4 | rfl
       · exact h2 j h4
       · simpa using hc
     · exact .inr ⟨j, h1, by omega, h3⟩
theorem nxtG_b {xs : List Task} {a : Nat} {l : Int} : ∀ k : Nat, 0 ≤ (nxtG xs a l k).2 ∧ (nxtG xs a l k).2 ≤ 1048577
 | 0 => by unfold nxtG; omega
 | k + 1 => by
   have ih := nxtG_b (xs := xs) (a := a) (l := l) k;have h1 := mvF_b (xs := xs) (l := l) (k := k);have h2 := DX_b (xs := xs) (a := a ||| 2 ^ k) (l := k);unfold nxtG;split
   · split
     · simp only; omega
     · exact ih
   · exact ih
def popN (n a : Nat) : Nat := ((List.range n).filter fun k => a.testBit k).length
theorem popN_step {n a k : Nat} (hk : k < n) (hb : a.testBit k = false) : popN n (a ||| 2 ^ k) = popN n a + 1 := by
 rw [popN, filter_less (i := k) List.nodup_range (List.mem_range.2 hk) (by rw [Nat.testBit_or, Nat.testBit_two_pow_self, Bool.or_true]), popN];congr 2;refine List.filter_congr fun j _ => ?_;rw [Nat.testBit_or, Nat.testBit_two_pow];by_cases e : k = j
 · subst e; simp [hb]
 · have : j ≠ k := fun q => e q.symm;simp [e, this]
theorem popN_bit {n a : Nat} (h : popN n a < n) : ∃ i, i < n ∧ a.testBit i = false := by
 refine Classical.byContradiction fun hno => ?_
 have : (List.range n).filter (fun k => a.testBit k) = List.range n := List.filter_eq_self.2 fun k hk => by
   cases e : a.testBit k with
   | true => rfl
   | false => exact absurd ⟨k, List.mem_range.1 hk, e⟩ hno
 rw [popN, this, List.length_range] at h;omega
theorem grd_step {xs : List Task} (h : planE xs = 0) (hn : xs.length ≤ 14) : ∀ (i : Nat), i ≤ xs.length → (grdF xs i).a < 2 ^ xs.length ∧ popN xs.length (grdF xs i).a = i ∧ (-1 ≤ (grdF xs i).l ∧ (grdF xs i).l < xs.length) ∧ (0 ≤ (grdF xs i).sum ∧ (grdF xs i).sum ≤ i) ∧ (grdF xs i).out.length = i ∧
   (i < xs.length → ∃ j : Nat, nxtX xs (grdF xs i).a (grdF xs i).l = (j : Int) ∧ j < xs.length ∧ canB (nbD xs j) (grdF xs i).a j = true) := by
 have hnx : ∀ i, i ≤ xs.length → (grdF xs i).a < 2 ^ xs.length → popN xs.length (grdF xs i).a = i → i < xs.length → ∃ j : Nat, nxtX xs (grdF xs i).a (grdF xs i).l = (j : Int) ∧ j < xs.length ∧ canB (nbD xs j) (grdF xs i).a j = true := fun i hi h1 h2 h3 => by
   have h62 : (2 : Nat) ^ xs.length < 4611686018427387904 := two_lt (by omega);obtain ⟨b, hb, hb2⟩ := popN_bit (n := xs.length) (a := (grdF xs i).a) (by omega);obtain ⟨k, hk, hk2⟩ := can_some h hn (Nat.lt_trans h1 h62) hb hb2;rcases nxtG_rng (xs := xs) (a := (grdF xs i).a) (l := (grdF xs i).l) xs.length with ⟨_, h4⟩ | h4
   · rw [h4 k hk] at hk2; cases hk2
   · exact h4
 intro i;induction i with
 | zero =>
   intro _
   have h0 : popN xs.length 0 = 0 := by
     rw [popN, List.filter_eq_nil_iff.2 (fun k _ => by simp)]; rfl
   refine ⟨Nat.pow_pos (by decide), h0, by simp only [grdF]; omega, by simp [grdF], rfl, ?_⟩;exact hnx 0 (by omega) (Nat.pow_pos (by decide)) h0
 | succ i ih =>
   intro hi;obtain ⟨h1, h2, h3, h4, h5, h6⟩ := ih (by omega);obtain ⟨j, h7, h8, h9⟩ := h6 (by omega);have hm := mvF_b (xs := xs) (l := (grdF xs i).l) (k := nxtX xs (grdF xs i).a (grdF xs i).l)
   have e1 : (grdF xs (i + 1)).a < 2 ^ xs.length := by
     simp only [grdF]; rw [h7, Int.toNat_natCast]; exact or_lt h1 h8
   have e2 : popN xs.length (grdF xs (i + 1)).a = i + 1 := by
     simp only [grdF]; rw [h7, Int.toNat_natCast, popN_step h8 (can_bit h9), h2]
   refine ⟨e1, e2, by simp only [grdF]; rw [h7]; omega, ?_, by simp only [grdF, List.length_append, h5]; rfl, hnx (i + 1) hi e1 e2⟩;simp only [grdF]; omega
def fewR (xs : List Task) : List Int × Int × Int := if smallE xs ≠ 0 then ([], 0, smallE xs) else ((grdF xs xs.length).out, (grdF xs xs.length).sum, 0)
end Go.Proofs.YtmlhhdiomijpfaaGreatDoor.E7
