import Derived.Test.YtjmjiegplnfiiaaAccA
import Derived.Test.YtjmjiegplnfiiaaFewA
import Derived.Test.YtjmjiegplnfiiaaAwkA
import Derived.Test.YtjmjiegplnfiiaaStgA
/- The search through all orders of a small plan, and the number of orders: plain laws. No conditions. -/
set_option linter.unusedSimpArgs false
set_option linter.unusedVariables false
namespace Go.Proofs.Ytjmjiegplnfiiaa
open Go Go.Pv

/-! ### The search -/
structure Srch where
 cnt : Int
 best : List Int
 least : Int
def leafS (xs : List Task) (o : List Int) (s : Srch) : Srch := if s.cnt = 0 ∨ hndK xs o o.length < s.least then ⟨s.cnt + 1, o, hndK xs o o.length⟩ else ⟨s.cnt + 1, s.best, s.least⟩
def wkF (xs : List Task) : Nat → List Int → Srch → Srch
 | 0, o, s => leafS xs o s
 | r + 1, o, s => (List.range xs.length).foldl (fun s i => if rdyB (ndX xs) o i = true then wkF xs r (o ++ [(i : Int)]) s else s) s
def wkP (xs : List Task) (r : Nat) (o : List Int) (s : Srch) (k : Nat) : Srch := (List.range k).foldl (fun s i => if rdyB (ndX xs) o i = true then wkF xs r (o ++ [(i : Int)]) s else s) s
section
variable {xs : List Task} {r k : Nat} {o : List Int} {s : Srch}
theorem wkF_succ : wkF xs (r + 1) o s = wkP xs r o s xs.length := rfl
theorem wkP_0 : wkP xs r o s 0 = s := rfl
theorem wkP_t (h : rdyB (ndX xs) o k = true) : wkP xs r o s (k + 1) = wkF xs r (o ++ [(k : Int)]) (wkP xs r o s k) := by
 simp only [wkP, List.range_succ, List.foldl_append, List.foldl_cons, List.foldl_nil]; rw [if_pos h]
theorem wkP_f (h : rdyB (ndX xs) o k = false) : wkP xs r o s (k + 1) = wkP xs r o s k := by
 simp only [wkP, List.range_succ, List.foldl_append, List.foldl_cons, List.foldl_nil]; rw [if_neg (by rw [h]; decide)]
end
theorem wkP_cnt {xs : List Task} {r : Nat} {o : List Int} {s : Srch} (ih : ∀ o s, s.cnt ≤ (wkF xs r o s).cnt ∧ (wkF xs r o s).cnt ≤ s.cnt + ((xs.length ^ r : Nat) : Int)) : ∀ k : Nat, s.cnt ≤ (wkP xs r o s k).cnt ∧ (wkP xs r o s k).cnt ≤ s.cnt + ((k * xs.length ^ r : Nat) : Int)
 | 0 => by rw [wkP_0]; simp
 | k + 1 => by
   have h1 := wkP_cnt ih (o := o) (s := s) k
   rw [Nat.add_mul, Nat.one_mul]
   cases e : rdyB (ndX xs) o k with
   | true => rw [wkP_t e]; have h2 := ih (o ++ [(k : Int)]) (wkP xs r o s k); omega
   | false => rw [wkP_f e]; omega
theorem wkF_cnt {xs : List Task} : ∀ (r : Nat) (o : List Int) (s : Srch), s.cnt ≤ (wkF xs r o s).cnt ∧ (wkF xs r o s).cnt ≤ s.cnt + ((xs.length ^ r : Nat) : Int)
 | 0, o, s => by rw [wkF, leafS]; split <;> simp only [Nat.pow_zero] <;> omega
 | r + 1, o, s => by
   rw [wkF_succ, Nat.pow_succ, Nat.mul_comm]
   exact wkP_cnt (wkF_cnt r) _

/-! ### Sets of lists -/
def setO (o : List Int) : Nat := o.foldl (fun b z => b ||| 2 ^ z.toNat) 0
theorem setO_app {o : List Int} {k : Nat} : setO (o ++ [(k : Int)]) = setO o ||| 2 ^ k := by
 simp [setO, List.foldl_append]
theorem setO_bit {o : List Int} (h : ∀ z ∈ o, 0 ≤ z) (i : Nat) : (setO o).testBit i = decide ((i : Int) ∈ o) := by
 have h0 : ∀ (m : List Int) (b : Nat), (∀ z ∈ m, 0 ≤ z) → (m.foldl (fun b z => b ||| 2 ^ z.toNat) b).testBit i = (b.testBit i || decide ((i : Int) ∈ m)) := by
   intro m
   induction m with
   | nil => intro b _; simp
   | cons z m ih =>
     intro b hz
     rw [List.foldl_cons, ih _ (fun y hy => hz y (List.mem_cons_of_mem _ hy)), Nat.testBit_or, Nat.testBit_two_pow, Bool.or_assoc]
     congr 1
     have h1 := hz z (List.mem_cons_self ..)
     rw [Bool.eq_iff_iff]
     simp only [Bool.or_eq_true, decide_eq_true_eq, List.mem_cons]
     constructor
     · rintro (h2 | h2)
       · left; omega
       · right; exact h2
     · rintro (h2 | h2)
       · left; omega
       · right; exact h2
 rw [setO, h0 o 0 h]; simp
theorem setO_lt {o : List Int} {n : Nat} (h : ∀ z ∈ o, 0 ≤ z ∧ z < (n : Int)) : setO o < 2 ^ n := foldl_or_lt (Nat.pow_pos (by decide)) h
theorem rdy_can {xs : List Task} {o : List Int} {k : Nat} (h : planE xs = 0) (hn : xs.length ≤ 14) (ho : ∀ z ∈ o, 0 ≤ z ∧ z < (xs.length : Int)) (hk : k < xs.length) : rdyB (ndX xs) o k = canB (nbD xs k) (setO o) k := by
 obtain ⟨t, ht⟩ : ∃ t, xs[k]? = some t := ⟨_, List.getElem?_eq_getElem hk⟩
 have ha : setO o < 4611686018427387904 := Nat.lt_trans (setO_lt ho) (two_lt (by omega))
 rw [Bool.eq_iff_iff, rdyB_iff, nbD_can h hn ha ht, ndX_at ht, setO_bit fun z hz => (ho z hz).1, decide_eq_false_iff_not]
 refine and_congr Iff.rfl (forall_congr' fun z => forall_congr' fun hz => ?_)
 have := (task_ok h ht).2.2.2.1 z hz
 rw [setO_bit fun z hz => (ho z hz).1, Int.toNat_of_nonneg this.1, decide_eq_true_eq]

/-! ### Sums -/
def smN (f : Nat → Int) : Nat → Int
 | 0 => 0
 | k + 1 => smN f k + f k
theorem smN_congr {f g : Nat → Int} : ∀ {m : Nat}, (∀ k, k < m → f k = g k) → smN f m = smN g m
 | 0, _ => rfl
 | m + 1, h => by rw [smN, smN, smN_congr fun k hk => h k (by omega), h m (by omega)]
theorem smN_upd {f g : Nat → Int} {j : Nat} : ∀ {m : Nat}, (∀ k, k < m → k ≠ j → f k = g k) → j < m → smN f m = smN g m + (f j - g j)
 | 0, _, hj => absurd hj (Nat.not_lt_zero _)
 | m + 1, h, hj => by
   rw [smN, smN]
   by_cases e : j = m
   · subst e
     rw [smN_congr fun k hk => h k (by omega) (by omega)]; omega
   · rw [smN_upd (fun k hk => h k (by omega)) (by omega : j < m), h m (by omega) (fun q => e q.symm)]; omega
theorem smN_nn {f : Nat → Int} : ∀ {m : Nat}, (∀ k, k < m → 0 ≤ f k) → 0 ≤ smN f m
 | 0, _ => Int.le_refl _
 | m + 1, h => by
   have := smN_nn (m := m) fun k hk => h k (by omega)
   have := h m (by omega)
   rw [smN]; omega
theorem smN_le {f : Nat → Int} {j : Nat} : ∀ {m : Nat}, (∀ k, k < m → 0 ≤ f k) → j < m → f j ≤ smN f m
 | 0, _, hj => absurd hj (Nat.not_lt_zero _)
 | m + 1, h, hj => by
   have h1 := smN_nn (m := m) fun k hk => h k (by omega)
   have h2 := h m (by omega)
   rw [smN]
   by_cases e : j = m
   · subst e; omega
   · have := smN_le (m := m) (fun k hk => h k (by omega)) (by omega : j < m)
     omega
theorem smN_b {f : Nat → Int} {B : Int} : ∀ {m : Nat}, (∀ k, k < m → f k ≤ B) → smN f m ≤ m * B
 | 0, _ => by simp [smN]
 | m + 1, h => by
   have h1 := smN_b (m := m) fun k hk => h k (by omega)
   have h2 := h m (by omega)
   rw [smN, Int.natCast_succ, Int.add_mul, Int.one_mul]; omega

/-! ### The number of orders behind a set -/
def cntC (xs : List Task) : Nat → Nat → Int
 | 0, _ => 1
 | r + 1, a => smN (fun k => if canB (nbD xs k) a k = true then cntC xs r (a ||| 2 ^ k) else 0) xs.length
theorem cntC_nn {xs : List Task} : ∀ (r a : Nat), 0 ≤ cntC xs r a
 | 0, _ => by unfold cntC; omega
 | r + 1, a => smN_nn fun k _ => by split; exact cntC_nn r _; omega
theorem cntC_le {xs : List Task} : ∀ (r a : Nat), cntC xs r a ≤ ((xs.length ^ r : Nat) : Int)
 | 0, _ => by unfold cntC; simp
 | r + 1, a => by
   have h1 : cntC xs (r + 1) a ≤ xs.length * ((xs.length ^ r : Nat) : Int) := smN_b fun k _ => by
     split
     · exact cntC_le r _
     · exact Int.natCast_nonneg _
   rw [Nat.pow_succ, Nat.mul_comm, Int.natCast_mul]; exact h1
theorem popN_all {n a : Nat} (h : popN n a = n) : ∀ i, i < n → a.testBit i = true := by
 intro i hi
 have h1 : ((List.range n).filter fun k => a.testBit k).length = (List.range n).length := by rw [List.length_range]; exact h
 have h2 := List.length_filter_eq_length_iff.1 h1
 exact h2 i (List.mem_range.2 hi)
theorem popN_full {n a : Nat} (ha : a < 2 ^ n) (h : popN n a = n) : a = 2 ^ n - 1 := by
 apply Nat.eq_of_testBit_eq
 intro i
 rw [Nat.testBit_two_pow_sub_one]
 rcases Nat.lt_or_ge i n with h1 | h1
 · rw [popN_all h i h1, decide_eq_true h1]
 · rw [decide_eq_false (by omega), Nat.testBit_lt_two_pow (Nat.lt_of_lt_of_le ha (Nat.pow_le_pow_right (by decide) h1))]
theorem cntC_pos {xs : List Task} (h : planE xs = 0) (hn : xs.length ≤ 14) : ∀ (r a : Nat), a < 2 ^ xs.length → popN xs.length a + r = xs.length → 1 ≤ cntC xs r a
 | 0, _, _, _ => by unfold cntC; omega
 | r + 1, a, ha, hr => by
   obtain ⟨i, hi, hb⟩ := popN_bit (n := xs.length) (a := a) (by omega)
   obtain ⟨k, hk, hc⟩ := can_some h hn (Nat.lt_trans ha (two_lt (by omega))) hi hb
   have h1 := cntC_pos h hn r (a ||| 2 ^ k) (or_lt ha hk) (by rw [popN_step hk (can_bit hc)]; omega)
   have h2 := smN_le (f := fun k => if canB (nbD xs k) a k = true then cntC xs r (a ||| 2 ^ k) else 0) (m := xs.length) (fun k _ => by split; exact cntC_nn r _; omega) hk
   simp only [if_pos hc] at h2
   show 1 ≤ smN _ _
   omega

/-! ### The fewest handlings -/
theorem bstG_le {xs : List Task} {V : Nat → Nat → Int} {a l j : Nat} (hc : canB (nbD xs j) a j = true) : ∀ {k : Nat}, j < k → bstG xs V a l k ≤ mvF xs l j + V (a ||| 2 ^ j) j
 | 0, hj => absurd hj (Nat.not_lt_zero _)
 | k + 1, hj => by
   rw [bstG]
   by_cases e : j = k
   · subst e; rw [if_pos hc]; omega
   · have := bstG_le (V := V) (l := l) hc (by omega : j < k)
     split <;> omega
theorem DX_small {xs : List Task} (h : planE xs = 0) (hn : xs.length ≤ 14) : ∀ (r a l : Nat), a < 2 ^ xs.length → popN xs.length a + r = xs.length → DX xs a l ≤ r
 | 0, a, l, ha, hr => by
   have := popN_full ha (by omega)
   rw [DX_eq ha, if_pos (by omega)]; omega
 | r + 1, a, l, ha, hr => by
   rw [DX_eq ha]
   split
   · omega
   · obtain ⟨i, hi, hb⟩ := popN_bit (n := xs.length) (a := a) (by omega)
     obtain ⟨k, hk, hc⟩ := can_some h hn (Nat.lt_trans ha (two_lt (by omega))) hi hb
     have h1 := DX_small h hn r (a ||| 2 ^ k) k (or_lt ha hk) (by rw [popN_step hk (can_bit hc)]; omega)
     have h2 := bstG_le (V := DX xs) (l := l) hc hk
     have h3 := mvF_b (xs := xs) (l := (l : Int)) (k := (k : Int))
     omega
theorem nxtG_none {xs : List Task} {a : Nat} {l : Int} : ∀ {k : Nat}, (nxtG xs a l k).1 < 0 → nxtG xs a l k = (-1, 1048576)
 | 0, _ => rfl
 | k + 1, h => by
   rw [nxtG] at h ⊢
   split at h
   · rename_i hc
     rw [if_pos hc]
     split at h
     · simp only at h; omega
     · rename_i h2
       exact absurd (.inl h) h2
   · rename_i hc
     rw [if_neg hc]; exact nxtG_none h
theorem nxtG_bst {xs : List Task} {a l : Nat} : ∀ (k : Nat), (∀ j, j < k → canB (nbD xs j) a j = true → mvF xs l j + DX xs (a ||| 2 ^ j) j ≤ 1048576) → (nxtG xs a l k).2 = bstG xs (DX xs) a l k
 | 0, _ => rfl
 | k + 1, h => by
   have ih := nxtG_bst k fun j hj => h j (by omega)
   rw [nxtG, bstG]
   cases hc : canB (nbD xs k) a k with
   | false => rw [if_neg (by decide), if_neg (by decide)]; exact ih
   | true =>
     rw [if_pos rfl, if_pos rfl]
     have h1 := h k (by omega) hc
     split
     · rename_i h2
       rcases h2 with h2 | h2
       · have h3 := nxtG_none h2
         rw [h3] at ih
         simp only at ih ⊢
         omega
       · simp only; omega
     · rename_i h2
       omega
/-- The handlings behind the set a with the last task l; r tasks are left. -/
def rstV (xs : List Task) (r a : Nat) (l : Int) : Int := if r = 0 then 0 else (nxtG xs a l xs.length).2
theorem rst_DX {xs : List Task} (h : planE xs = 0) (hn : xs.length ≤ 14) {r a l : Nat} (ha : a < 2 ^ xs.length) (hr : popN xs.length a + r = xs.length) : rstV xs r a l = DX xs a l := by
 cases r with
 | zero =>
   have := popN_full ha (by omega)
   rw [rstV, if_pos rfl, DX_eq ha, if_pos (by omega)]
 | succ r =>
   have hlt : ¬ 2 ^ xs.length - 1 ≤ a := fun q => by
     have e : a = 2 ^ xs.length - 1 := by omega
     obtain ⟨i, hi, hb⟩ := popN_bit (n := xs.length) (a := a) (by omega)
     rw [e, Nat.testBit_two_pow_sub_one, decide_eq_true hi] at hb
     cases hb
   rw [rstV, if_neg (by omega), DX_eq ha, if_neg hlt]
   refine nxtG_bst _ fun j hj hc => ?_
   have h1 := DX_small h hn r (a ||| 2 ^ j) j (or_lt ha hj) (by rw [popN_step hj (can_bit hc)]; omega)
   have h3 := mvF_b (xs := xs) (l := (l : Int)) (k := (j : Int))
   omega
def wayF (xs : List Task) : Nat → Nat → Int → List Int
 | 0, _, _ => []
 | r + 1, a, l => nxtX xs a l :: wayF xs r (a ||| 2 ^ (nxtX xs a l).toNat) (nxtX xs a l)
def lstO (o : List Int) : Int := if o = [] then -1 else at0 o (o.length - 1)
theorem lstO_app {o : List Int} {k : Int} : lstO (o ++ [k]) = k := by
 rw [lstO, if_neg (by simp)]
 simp [at0]
theorem hndK_congr {xs : List Task} {o p : List Int} : ∀ {m : Nat}, (∀ i, i < m → at0 o i = at0 p i) → hndK xs o m = hndK xs p m
 | 0, _ => rfl
 | m + 1, h => by
   rw [hndK, hndK, hndK_congr fun i hi => h i (by omega), h m (by omega), h (m - 1) (by omega)]
theorem hnd_app {xs : List Task} {o : List Int} {k : Nat} (ho : ∀ z ∈ o, 0 ≤ z) : hndK xs (o ++ [(k : Int)]) (o ++ [(k : Int)]).length = hndK xs o o.length + mvF xs (lstO o) k := by
 rw [List.length_append, List.length_singleton, hndK, hndK_congr (p := o) fun i hi => by simp [at0, List.getElem?_append_left hi]]
 congr 1
 have h1 : at0 (o ++ [(k : Int)]) o.length = k := by simp [at0]
 rw [h1, mvF, lstO]
 by_cases he : o = []
 · subst he; simp
 · have h2 : 0 < o.length := List.length_pos_iff.2 he
   have h3 : at0 (o ++ [(k : Int)]) (o.length - 1) = at0 o (o.length - 1) := by simp [at0, List.getElem?_append_left (show o.length - 1 < o.length by omega)]
   have h4 := ho _ (at0_mem (l := o) (i := o.length - 1) (by omega))
   rw [h3, if_neg he]
   by_cases hq : plc xs (at0 o (o.length - 1)) ≠ plc xs (k : Int)
   · rw [if_pos ⟨h2, hq⟩, if_pos ⟨h4, hq⟩]
   · rw [if_neg (fun q => hq q.2), if_neg (fun q => hq q.2)]
/-- What the search behind o makes of a state. -/
def endS (xs : List Task) (r : Nat) (o : List Int) (s : Srch) : Srch :=
 if s.cnt = 0 ∨ hndK xs o o.length + rstV xs r (setO o) (lstO o) < s.least then ⟨s.cnt + cntC xs r (setO o), o ++ wayF xs r (setO o) (lstO o), hndK xs o o.length + rstV xs r (setO o) (lstO o)⟩
 else ⟨s.cnt + cntC xs r (setO o), s.best, s.least⟩
/-- The same behind the first k of the tasks. -/
def midS (xs : List Task) (r : Nat) (o : List Int) (s : Srch) (k : Nat) : Srch :=
 if 0 ≤ (nxtG xs (setO o) (lstO o) k).1 ∧ (s.cnt = 0 ∨ hndK xs o o.length + (nxtG xs (setO o) (lstO o) k).2 < s.least) then
   ⟨s.cnt + smN (fun k => if canB (nbD xs k) (setO o) k = true then cntC xs r (setO o ||| 2 ^ k) else 0) k, o ++ (nxtG xs (setO o) (lstO o) k).1 :: wayF xs r (setO o ||| 2 ^ (nxtG xs (setO o) (lstO o) k).1.toNat) (nxtG xs (setO o) (lstO o) k).1, hndK xs o o.length + (nxtG xs (setO o) (lstO o) k).2⟩
 else ⟨s.cnt + smN (fun k => if canB (nbD xs k) (setO o) k = true then cntC xs r (setO o ||| 2 ^ k) else 0) k, s.best, s.least⟩
theorem mid_cnt {xs : List Task} {r : Nat} {o : List Int} {s : Srch} {k : Nat} : (midS xs r o s k).cnt = s.cnt + smN (fun k => if canB (nbD xs k) (setO o) k = true then cntC xs r (setO o ||| 2 ^ k) else 0) k := by
 rw [midS]; split <;> rfl
theorem mid_eq {xs : List Task} {r : Nat} {o : List Int} {s : Srch} {k : Nat} {G : Int × Int} {T : Int} (h1 : nxtG xs (setO o) (lstO o) k = G) (h2 : smN (fun k => if canB (nbD xs k) (setO o) k = true then cntC xs r (setO o ||| 2 ^ k) else 0) k = T) :
   midS xs r o s k = if 0 ≤ G.1 ∧ (s.cnt = 0 ∨ hndK xs o o.length + G.2 < s.least) then ⟨s.cnt + T, o ++ G.1 :: wayF xs r (setO o ||| 2 ^ G.1.toNat) G.1, hndK xs o o.length + G.2⟩ else ⟨s.cnt + T, s.best, s.least⟩ := by
 subst h1; subst h2; rfl
theorem wk_main {xs : List Task} (h : planE xs = 0) (hn : xs.length ≤ 14) : ∀ (r : Nat) (o : List Int) (s : Srch), (∀ z ∈ o, 0 ≤ z ∧ z < (xs.length : Int)) → popN xs.length (setO o) + r = xs.length → 0 ≤ s.cnt → wkF xs r o s = endS xs r o s
 | 0, o, s, ho, hr, hs => by
   rw [wkF, leafS, endS, rstV, if_pos rfl, cntC, wayF, List.append_nil, Int.add_zero]
 | r + 1, o, s, ho, hr, hs => by
   have ha := setO_lt ho
   have hmid : ∀ k, k ≤ xs.length → wkP xs r o s k = midS xs r o s k := by
     intro k
     induction k with
     | zero =>
       intro _
       rw [wkP_0, midS, nxtG, if_neg (by simp), smN, Int.add_zero]
     | succ k ih =>
       intro hk
       have ih := ih (by omega)
       have hrc := rdy_can h hn ho (show k < xs.length by omega)
       cases hc : canB (nbD xs k) (setO o) k with
       | false =>
         have e1 : nxtG xs (setO o) (lstO o) (k + 1) = nxtG xs (setO o) (lstO o) k := by rw [nxtG, if_neg (by rw [hc]; decide)]
         have e2 : smN (fun k => if canB (nbD xs k) (setO o) k = true then cntC xs r (setO o ||| 2 ^ k) else 0) (k + 1) = smN (fun k => if canB (nbD xs k) (setO o) k = true then cntC xs r (setO o ||| 2 ^ k) else 0) k := by rw [smN, if_neg (by rw [hc]; decide), Int.add_zero]
         rw [wkP_f (hrc.trans hc), ih]; unfold midS; rw [e1, e2]
       | true =>
         rw [wkP_t (hrc.trans hc), ih]
         have hpop : popN xs.length (setO o ||| 2 ^ k) + r = xs.length := by rw [popN_step (by omega) (can_bit hc)]; omega
         have hok : ∀ z ∈ o ++ [(k : Int)], 0 ≤ z ∧ z < (xs.length : Int) := fun z hz => by
           rcases List.mem_append.1 hz with h1 | h1
           · exact ho z h1
           · rw [List.mem_singleton.1 h1]; omega
         have hsn : 0 ≤ smN (fun k => if canB (nbD xs k) (setO o) k = true then cntC xs r (setO o ||| 2 ^ k) else 0) k := smN_nn fun k _ => by split; exact cntC_nn r _; omega
         rw [wk_main h hn r _ _ hok (by rw [setO_app]; exact hpop) (by rw [mid_cnt]; omega)]
         have hv : hndK xs (o ++ [(k : Int)]) (o ++ [(k : Int)]).length + rstV xs r (setO (o ++ [(k : Int)])) (lstO (o ++ [(k : Int)])) = hndK xs o o.length + (mvF xs (lstO o) k + DX xs (setO o ||| 2 ^ k) k) := by
           rw [hnd_app fun z hz => (ho z hz).1, setO_app, lstO_app, rst_DX h hn (or_lt ha (by omega)) hpop]; omega
         rw [endS, hv, mid_cnt, setO_app, lstO_app]
         have e1 : nxtG xs (setO o) (lstO o) (k + 1) = if (nxtG xs (setO o) (lstO o) k).1 < 0 ∨ mvF xs (lstO o) k + DX xs (setO o ||| 2 ^ k) k < (nxtG xs (setO o) (lstO o) k).2 then ((k : Int), mvF xs (lstO o) k + DX xs (setO o ||| 2 ^ k) k) else nxtG xs (setO o) (lstO o) k := by rw [nxtG, if_pos hc]
         have e2 : smN (fun k => if canB (nbD xs k) (setO o) k = true then cntC xs r (setO o ||| 2 ^ k) else 0) (k + 1) = smN (fun k => if canB (nbD xs k) (setO o) k = true then cntC xs r (setO o ||| 2 ^ k) else 0) k + cntC xs r (setO o ||| 2 ^ k) := by rw [smN, if_pos hc]
         rw [mid_eq e1 e2]
         have hpos : ∀ j, j < k → canB (nbD xs j) (setO o) j = true → 1 ≤ smN (fun k => if canB (nbD xs k) (setO o) k = true then cntC xs r (setO o ||| 2 ^ k) else 0) k := fun j hj hcj => by
           have h1 := smN_le (f := fun k => if canB (nbD xs k) (setO o) k = true then cntC xs r (setO o ||| 2 ^ k) else 0) (m := k) (fun k _ => by split; exact cntC_nn r _; omega) hj
           simp only [if_pos hcj] at h1
           have h2 := cntC_pos h hn r (setO o ||| 2 ^ j) (or_lt ha (by omega)) (by rw [popN_step (by omega) (can_bit hcj)]; omega)
           omega
         rcases nxtG_rng (xs := xs) (a := setO o) (l := lstO o) k with ⟨hn1, hn2⟩ | ⟨j, hn1, hn2, hn3⟩
         · have hz : smN (fun k => if canB (nbD xs k) (setO o) k = true then cntC xs r (setO o ||| 2 ^ k) else 0) k = 0 := by
             rw [smN_congr (g := fun _ => 0) fun j hj => by rw [if_neg (by rw [hn2 j hj]; decide)]]
             have : ∀ m, smN (fun _ => 0) m = 0 := fun m => by
               induction m with
               | zero => rfl
               | succ m ih => rw [smN, ih]; rfl
             exact this k
           have hm : midS xs r o s k = ⟨s.cnt + 0, s.best, s.least⟩ := by rw [midS, hz, if_neg (by rw [hn1]; omega)]
           rw [hm, hz]
           rw [if_pos (show (nxtG xs (setO o) (lstO o) k).1 < 0 ∨ _ from .inl (by omega))]
           simp only [Int.add_zero, Int.zero_add, Int.toNat_natCast]
           by_cases q : s.cnt = 0 ∨ hndK xs o o.length + (mvF xs (lstO o) k + DX xs (setO o ||| 2 ^ k) k) < s.least
           · rw [if_pos q, if_pos ⟨by omega, q⟩]; simp
           · rw [if_neg q, if_neg (fun w => q w.2)]
         · have hp1 := hpos j hn2 hn3
           generalize hSM : smN (fun k => if canB (nbD xs k) (setO o) k = true then cntC xs r (setO o ||| 2 ^ k) else 0) k = SM at *
           have hc0 : ¬ (s.cnt + SM = 0) := by omega
           have hj0 : 0 ≤ (nxtG xs (setO o) (lstO o) k).1 := by omega
           have hm : midS xs r o s k = if s.cnt = 0 ∨ hndK xs o o.length + (nxtG xs (setO o) (lstO o) k).2 < s.least then ⟨s.cnt + SM, o ++ (nxtG xs (setO o) (lstO o) k).1 :: wayF xs r (setO o ||| 2 ^ (nxtG xs (setO o) (lstO o) k).1.toNat) (nxtG xs (setO o) (lstO o) k).1, hndK xs o o.length + (nxtG xs (setO o) (lstO o) k).2⟩ else ⟨s.cnt + SM, s.best, s.least⟩ := by
             rw [midS, hSM]
             by_cases q : s.cnt = 0 ∨ hndK xs o o.length + (nxtG xs (setO o) (lstO o) k).2 < s.least
             · rw [if_pos q, if_pos ⟨hj0, q⟩]
             · rw [if_neg q, if_neg (fun w => q w.2)]
           rw [hm]
           generalize hV : mvF xs (lstO o) k + DX xs (setO o ||| 2 ^ k) k = V at *
           generalize hG : nxtG xs (setO o) (lstO o) k = G at *
           obtain ⟨g1, g2⟩ := G
           simp only at *
           by_cases q2 : V < g2
           · have hG2 : (if g1 < 0 ∨ V < g2 then ((k : Int), V) else (g1, g2)) = ((k : Int), V) := if_pos (.inr q2)
             rw [hG2]
             simp only [Int.toNat_natCast]
             by_cases q1 : s.cnt = 0 ∨ hndK xs o o.length + g2 < s.least
             · rw [if_pos q1]
               simp only
               rw [if_pos (.inr (by omega)), if_pos ⟨by omega, by rcases q1 with q1 | q1; exact .inl q1; exact .inr (by omega)⟩]
               simp [Int.add_assoc]
             · rw [if_neg q1]
               simp only
               by_cases q3 : hndK xs o o.length + V < s.least
               · rw [if_pos (.inr q3), if_pos ⟨by omega, .inr q3⟩]; simp [Int.add_assoc]
               · rw [if_neg (by rintro (w | w); exact hc0 w; exact q3 w), if_neg (by rintro ⟨_, w | w⟩; exact q1 (.inl w); exact q3 w)]; simp [Int.add_assoc]
           · have hG2 : (if g1 < 0 ∨ V < g2 then ((k : Int), V) else (g1, g2)) = (g1, g2) := if_neg (by rintro (w | w); omega; exact q2 w)
             rw [hG2]
             simp only
             by_cases q1 : s.cnt = 0 ∨ hndK xs o o.length + g2 < s.least
             · rw [if_pos q1]
               simp only
               rw [if_neg (by rintro (w | w); exact hc0 w; omega), if_pos ⟨hj0, q1⟩]; simp [Int.add_assoc]
             · rw [if_neg q1]
               simp only
               rw [if_neg (by rintro (w | w); exact hc0 w; exact q1 (.inr (by omega))), if_neg (fun w => q1 w.2)]; simp [Int.add_assoc]
   rw [wkF_succ, hmid _ (Nat.le_refl _), mid_eq rfl rfl, endS]
   obtain ⟨i, hi, hb⟩ := popN_bit (n := xs.length) (a := setO o) (by omega)
   obtain ⟨j, hj, hc⟩ := can_some h hn (Nat.lt_trans ha (two_lt (by omega))) hi hb
   have hg : 0 ≤ (nxtG xs (setO o) (lstO o) xs.length).1 := by
     rcases nxtG_rng (xs := xs) (a := setO o) (l := lstO o) xs.length with ⟨_, h2⟩ | ⟨q, h1, _⟩
     · rw [h2 j hj] at hc; cases hc
     · omega
   have hrst : rstV xs (r + 1) (setO o) (lstO o) = (nxtG xs (setO o) (lstO o) xs.length).2 := if_neg (by omega)
   rw [hrst]
   have e : (smN (fun k => if canB (nbD xs k) (setO o) k = true then cntC xs r (setO o ||| 2 ^ k) else 0) xs.length) = cntC xs (r + 1) (setO o) := rfl
   rw [e]
   by_cases q : s.cnt = 0 ∨ hndK xs o o.length + (nxtG xs (setO o) (lstO o) xs.length).2 < s.least
   · rw [if_pos ⟨hg, q⟩, if_pos q]; rfl
   · rw [if_neg (fun w : _ ∧ _ => q w.2), if_neg q]
end Go.Proofs.Ytjmjiegplnfiiaa

/- The first order with the fewest handlings, and the number of orders: plain laws. No conditions. -/
set_option linter.unusedSimpArgs false
set_option linter.unusedVariables false
namespace Go.Proofs.Ytjmjiegplnfiiaa
open Go Go.Pv
theorem popN_0 {n : Nat} : popN n 0 = 0 := by
 rw [popN, List.filter_eq_nil_iff.2 (fun k _ => by simp)]; rfl
theorem nxtG_val {xs : List Task} {a : Nat} {l : Int} {j : Nat} : ∀ {k : Nat}, (nxtG xs a l k).1 = (j : Int) → (nxtG xs a l k).2 = mvF xs l j + DX xs (a ||| 2 ^ j) j
 | 0, h => by simp only [nxtG] at h; omega
 | k + 1, h => by
   rw [nxtG] at h ⊢
   split at h
   · rename_i hc
     rw [if_pos hc]
     split at h
     · rename_i h2
       rw [if_pos h2]
       have : j = k := by simp only at h; omega
       subst this; rfl
     · rename_i h2
       rw [if_neg h2]; exact nxtG_val h
   · rename_i hc
     rw [if_neg hc]; exact nxtG_val h
theorem grd_way {xs : List Task} (h : planE xs = 0) (hn : xs.length ≤ 14) : ∀ i, i ≤ xs.length → wayF xs xs.length 0 (-1) = (grdF xs i).out ++ wayF xs (xs.length - i) (grdF xs i).a (grdF xs i).l ∧ rstV xs xs.length 0 (-1) = (grdF xs i).sum + rstV xs (xs.length - i) (grdF xs i).a (grdF xs i).l
 | 0, _ => by simp [grdF]
 | i + 1, hi => by
   obtain ⟨h1, h2⟩ := grd_way h hn i (by omega)
   obtain ⟨g1, g2, g3, g4, g5, g6⟩ := grd_step h hn i (by omega)
   obtain ⟨j, hj, hjn, hjc⟩ := g6 (by omega)
   have e : xs.length - i = (xs.length - (i + 1)) + 1 := by omega
   rw [e] at h1 h2
   constructor
   · rw [h1, wayF]; simp [grdF]
   · rw [h2, rstV, if_neg (by omega)]
     have hv := nxtG_val (k := xs.length) (show (nxtG xs (grdF xs i).a (grdF xs i).l xs.length).1 = (j : Int) from hj)
     have hr := rst_DX h hn (r := xs.length - (i + 1)) (a := (grdF xs i).a ||| 2 ^ j) (l := j) (or_lt g1 hjn) (by rw [popN_step hjn (can_bit hjc)]; omega)
     rw [hv]
     simp only [grdF]
     rw [hj, Int.toNat_natCast, hr]; omega
/-- What the search tells is what Fewest tells. -/
theorem walk_few {xs : List Task} (h : planE xs = 0) (hn : xs.length ≤ 14) : wkF xs xs.length [] ⟨0, [], 0⟩ = ⟨cntC xs xs.length 0, (grdF xs xs.length).out, (grdF xs xs.length).sum⟩ := by
 have h0 : popN xs.length (setO []) = 0 := popN_0
 rw [wk_main h hn _ _ _ (fun z hz => by cases hz) (by rw [h0]; omega) (Int.le_refl _), endS, if_pos (.inl rfl)]
 obtain ⟨h1, h2⟩ := grd_way h hn xs.length (Nat.le_refl _)
 rw [Nat.sub_self] at h1 h2
 have e1 : setO [] = 0 := rfl
 have e2 : lstO [] = -1 := rfl
 have e3 : hndK xs [] ([] : List Int).length = 0 := rfl
 have e4 : rstV xs 0 (grdF xs xs.length).a (grdF xs xs.length).l = 0 := if_pos rfl
 rw [e1, e2, e3, h1, h2, e4]
 simp [wayF]

/-! ### The number of orders, by sets -/
def C0 (xs : List Task) (a : Nat) : Int := cntC xs (xs.length - popN xs.length a) a
structure WI (xs : List Task) (w : List Int) (a : Nat) : Prop where
 len : w.length = 2 ^ xs.length
 nn : ∀ b, 0 ≤ at0 w b
 sum : a < 2 ^ xs.length → smN (fun b => if a ≤ b then at0 w b * C0 xs b else 0) (2 ^ xs.length) = C0 xs 0
 fin : 2 ^ xs.length ≤ a → at0 w (2 ^ xs.length - 1) = C0 xs 0
structure WM (xs : List Task) (w : List Int) (a i : Nat) : Prop where
 len : w.length = 2 ^ xs.length
 nn : ∀ b, 0 ≤ at0 w b
 le : at0 w a ≤ C0 xs 0
 sum : a < 2 ^ xs.length - 1 → smN (fun b => if a < b then at0 w b * C0 xs b else 0) (2 ^ xs.length) + at0 w a * smN (fun k => if i ≤ k then (if canB (nbD xs k) a k = true then C0 xs (a ||| 2 ^ k) else 0) else 0) xs.length = C0 xs 0
 fin : a = 2 ^ xs.length - 1 → at0 w a = C0 xs 0
section
variable {xs : List Task} {w : List Int} {a i k : Nat}
theorem C0_nn : 0 ≤ C0 xs a := cntC_nn _ _
theorem C0_pos (h : planE xs = 0) (hn : xs.length ≤ 14) (ha : a < 2 ^ xs.length) : 1 ≤ C0 xs a := by
 have hp : popN xs.length a ≤ xs.length := by
   have := List.length_filter_le (fun k => a.testBit k) (List.range xs.length)
   rw [List.length_range] at this; exact this
 exact cntC_pos h hn _ _ ha (by omega)
theorem C0_le : C0 xs 0 ≤ ((xs.length ^ xs.length : Nat) : Int) := by
 rw [C0, popN_0]; exact cntC_le _ _
theorem popN_le {n b : Nat} : popN n b ≤ n := by
 have := List.length_filter_le (fun k => b.testBit k) (List.range n)
 rw [List.length_range] at this; exact this
theorem popN_ones {n : Nat} : popN n (2 ^ n - 1) = n := by
 have : (List.range n).filter (fun k => (2 ^ n - 1).testBit k) = List.range n := List.filter_eq_self.2 fun k hk => by
   rw [Nat.testBit_two_pow_sub_one]; exact decide_eq_true (List.mem_range.1 hk)
 rw [popN, this, List.length_range]
theorem C0_full : C0 xs (2 ^ xs.length - 1) = 1 := by rw [C0, popN_ones, Nat.sub_self, cntC]
theorem C0_step (ha : a < 2 ^ xs.length - 1) : C0 xs a = smN (fun k => if canB (nbD xs k) a k = true then C0 xs (a ||| 2 ^ k) else 0) xs.length := by
 have hlt : popN xs.length a < xs.length := by
   rcases Nat.lt_or_ge (popN xs.length a) xs.length with h | h
   · exact h
   · have := popN_full (n := xs.length) (a := a) (by omega) (Nat.le_antisymm popN_le h); omega
 obtain ⟨r, hr⟩ : ∃ r, xs.length - popN xs.length a = r + 1 := ⟨xs.length - popN xs.length a - 1, by omega⟩
 rw [C0, hr, cntC]
 refine smN_congr fun k hk => ?_
 split
 · rename_i hc
   rw [C0, popN_step hk (can_bit hc), show xs.length - (popN xs.length a + 1) = r by omega]
 · rfl
theorem WI.start : WI xs ((List.replicate (2 ^ xs.length) 0).set 0 1) 0 := by
 have hp : 0 < 2 ^ xs.length := Nat.pow_pos (by decide)
 have h0 : ∀ b, at0 ((List.replicate (2 ^ xs.length) (0 : Int)).set 0 1) b = if b = 0 then 1 else 0 := fun b => by
   rw [at0_set (by rw [List.length_replicate]; exact hp)]
   by_cases e : b = 0
   · subst e; rw [if_pos rfl, if_pos rfl]
   · rw [if_neg (fun q => e q.symm), if_neg e]
     simp only [at0, List.getD_eq_getElem?_getD, List.getElem?_replicate]
     split <;> rfl
 refine ⟨by rw [List.length_set, List.length_replicate], fun b => by rw [h0]; split <;> omega, fun _ => ?_, fun q => by omega⟩
 rw [smN_upd (g := fun _ => 0) (j := 0) (fun k hk hne => by rw [if_pos (Nat.zero_le _), h0, if_neg hne]; omega) hp]
 have hz : ∀ m, smN (fun _ => 0) m = 0 := fun m => by
   induction m with
   | zero => rfl
   | succ m ih => rw [smN, ih]; rfl
 rw [hz, if_pos (Nat.le_refl _), h0, if_pos rfl]; omega
theorem WI.le (h : planE xs = 0) (hn : xs.length ≤ 14) (hw : WI xs w a) (ha : a < 2 ^ xs.length) : at0 w a ≤ C0 xs 0 := by
 have h1 := smN_le (f := fun b => if a ≤ b then at0 w b * C0 xs b else 0) (m := 2 ^ xs.length) (fun b _ => by split; exact Int.mul_nonneg (hw.nn b) C0_nn; omega) ha
 rw [hw.sum ha] at h1
 simp only [if_pos (Nat.le_refl a)] at h1
 have h2 := C0_pos h hn ha
 have h3 := Int.mul_le_mul_of_nonneg_left h2 (hw.nn a)
 omega
theorem WI.mid (h : planE xs = 0) (hn : xs.length ≤ 14) (hw : WI xs w a) (ha : a < 2 ^ xs.length) : WM xs w a 0 := by
 refine ⟨hw.len, hw.nn, hw.le h hn ha, fun h1 => ?_, fun h1 => ?_⟩
 · have e : smN (fun k => if 0 ≤ k then (if canB (nbD xs k) a k = true then C0 xs (a ||| 2 ^ k) else 0) else 0) xs.length = C0 xs a := by
     rw [C0_step h1]; exact smN_congr fun k _ => if_pos (Nat.zero_le _)
   rw [e, ← hw.sum ha, smN_upd (f := fun b => if a ≤ b then at0 w b * C0 xs b else 0) (g := fun b => if a < b then at0 w b * C0 xs b else 0) (j := a) (fun b _ hne => by
     by_cases q : a < b
     · rw [if_pos q, if_pos (by omega)]
     · rw [if_neg q, if_neg (by omega)]) ha]
   simp only [if_pos (Nat.le_refl a), if_neg (Nat.lt_irrefl a)]; omega
 · have h2 := hw.sum ha
   subst h1
   rw [smN_upd (g := fun _ => 0) (j := 2 ^ xs.length - 1) (fun b hb hne => if_neg (by omega)) ha] at h2
   have hz : ∀ m, smN (fun _ => 0) m = 0 := fun m => by
     induction m with
     | zero => rfl
     | succ m ih => rw [smN, ih]; rfl
   rw [hz, if_pos (Nat.le_refl _), C0_full] at h2; omega
theorem WM.stop (hw : WM xs w a i) (ha : a < 2 ^ xs.length) (hi : xs.length ≤ i) : WI xs w (a + 1) := by
 refine ⟨hw.len, hw.nn, fun h1 => ?_, fun h1 => ?_⟩
 · have h2 := hw.sum (by omega)
   rw [smN_congr (f := fun k => if i ≤ k then _ else 0) (g := fun _ => 0) fun k hk => if_neg (by omega)] at h2
   have hz : ∀ m, smN (fun _ => 0) m = 0 := fun m => by
     induction m with
     | zero => rfl
     | succ m ih => rw [smN, ih]; rfl
   rw [hz, Int.mul_zero, Int.add_zero] at h2
   rw [← h2]; exact smN_congr fun b _ => rfl
 · have e : a = 2 ^ xs.length - 1 := by omega
   rw [← e]; exact hw.fin e
theorem sm_tail (hi : i < xs.length) {f : Nat → Int} : smN (fun k => if i ≤ k then f k else 0) xs.length = smN (fun k => if i + 1 ≤ k then f k else 0) xs.length + f i := by
 rw [smN_upd (f := fun k => if i ≤ k then f k else 0) (g := fun k => if i + 1 ≤ k then f k else 0) (j := i) (fun k _ hne => by
   by_cases q : i + 1 ≤ k
   · rw [if_pos q, if_pos (by omega)]
   · rw [if_neg q, if_neg (by omega)]) hi]
 simp only [if_pos (Nat.le_refl i), if_neg (show ¬ i + 1 ≤ i by omega)]; omega
theorem WM.skip (hw : WM xs w a i) (hi : i < xs.length) (h : ¬ (0 < at0 w a ∧ canB (nbD xs i) a i = true)) : WM xs w a (i + 1) := by
 refine ⟨hw.len, hw.nn, hw.le, fun h1 => ?_, hw.fin⟩
 have h2 := hw.sum h1
 rw [sm_tail hi, Int.mul_add] at h2
 have h3 : at0 w a * (if canB (nbD xs i) a i = true then C0 xs (a ||| 2 ^ i) else 0) = 0 := by
   by_cases q : 0 < at0 w a
   · rw [if_neg (fun e => h ⟨q, e⟩), Int.mul_zero]
   · have := hw.nn a
     rw [show at0 w a = 0 by omega, Int.zero_mul]
 rw [h3, Int.add_zero] at h2; exact h2
theorem WM.bound (h : planE xs = 0) (hn : xs.length ≤ 14) (hw : WM xs w a i) (ha : a < 2 ^ xs.length - 1) {b : Nat} (hb : a < b) (hb2 : b < 2 ^ xs.length) : at0 w b ≤ C0 xs 0 := by
 have h1 := smN_le (f := fun b => if a < b then at0 w b * C0 xs b else 0) (m := 2 ^ xs.length) (fun b _ => by split; exact Int.mul_nonneg (hw.nn b) C0_nn; omega) hb2
 have h0 := hw.sum ha
 simp only [if_pos hb] at h1
 have h2 := C0_pos h hn hb2
 have h3 := Int.mul_le_mul_of_nonneg_left h2 (hw.nn b)
 have h4 : 0 ≤ at0 w a * smN (fun k => if i ≤ k then (if canB (nbD xs k) a k = true then C0 xs (a ||| 2 ^ k) else 0) else 0) xs.length := Int.mul_nonneg (hw.nn a) (smN_nn fun k _ => by
   split
   · split
     · exact C0_nn
     · omega
   · omega)
 omega
theorem WM.add (hw : WM xs w a i) (ha : a < 2 ^ xs.length) (hi : i < xs.length) (hc : canB (nbD xs i) a i = true) : WM xs (w.set (a ||| 2 ^ i) (at0 w (a ||| 2 ^ i) + at0 w a)) a (i + 1) := by
 have hg := or_gt (can_bit hc)
 have hl := or_lt ha hi
 have hs : ∀ b, at0 (w.set (a ||| 2 ^ i) (at0 w (a ||| 2 ^ i) + at0 w a)) b = if a ||| 2 ^ i = b then at0 w (a ||| 2 ^ i) + at0 w a else at0 w b := fun b => by rw [at0_set (by rw [hw.len]; exact hl)]
 have hn1 := hw.nn (a ||| 2 ^ i); have hn2 := hw.nn a
 refine ⟨by rw [List.length_set]; exact hw.len, fun b => by rw [hs]; split; omega; exact hw.nn b, by rw [hs, if_neg (by omega)]; exact hw.le, fun h1 => ?_, fun h1 => ?_⟩
 · have h2 := hw.sum h1
   rw [sm_tail hi, if_pos hc, Int.mul_add] at h2
   rw [hs a, if_neg (by omega), smN_upd (f := fun b => if a < b then at0 (w.set (a ||| 2 ^ i) (at0 w (a ||| 2 ^ i) + at0 w a)) b * C0 xs b else 0) (g := fun b => if a < b then at0 w b * C0 xs b else 0) (j := a ||| 2 ^ i) (fun b _ hne => by
     split
     · rw [hs, if_neg (fun q => hne q.symm)]
     · rfl) hl]
   simp only [if_pos hg]
   rw [hs, if_pos rfl, Int.add_mul]
   omega
 · omega
end
/-- The number of orders, as the search counts them. -/
theorem C0_orders {xs : List Task} : C0 xs 0 = cntC xs xs.length 0 := by rw [C0, popN_0, Nat.sub_zero]
end Go.Proofs.Ytjmjiegplnfiiaa

/- The number of orders. No conditions. -/
set_option linter.unusedSimpArgs false
set_option linter.unusedVariables false
set_option maxRecDepth 100000
namespace Go.Proofs.Ytjmjiegplnfiiaa
open Go Go.Pv
section
variable {P : Program} {ρ : Operand → PV} {h : Heap} {key : Key} {x y l c : Operand} {t t' : TypeId}
theorem e_incU {a : Nat} (hx : ρ x = .sc (.int .u64 (a : Int))) (hy : ρ y = .sc (.int .u64 1)) (ha : a < 4611686018427387904) : eff P ρ h key (.binOp .add t x y t') = ⟨True, .sc (.int .u64 ((a + 1 : Nat) : Int)), [], [], false⟩ := by
 simp only [eff, hx, hy, binEffN, binEff, intBin, IntKind.wrap_u64]
 have : ((a : Int) + 1) % 18446744073709551616 = ((a + 1 : Nat) : Int) := by omega
 rw [this]; simp
theorem e_mkIU {n : Nat} (hx : ρ l = .sc (.int .u64 (n : Int))) (hy : ρ c = .sc (.int .u64 (n : Int))) (hz : zeroCellsOf P (elemTy P t) = some [.int 0]) (ho : sliceOk P t = true) (hs : tySize P (elemTy P t) = 1) (hb : P.bytesOf (elemTy P t) < 2 ^ 15) (hl : n < 2 ^ 32) :
   eff P ρ h key (.makeSlice t l c) = ⟨True, .ref key 1 0 n, [(key, some (.rows 1 ((List.replicate n (0 : Int)).map ci)))], [], true⟩ := by
 have h1 : (List.replicate n (0 : Int)).map ci = List.replicate n [PV.int 0] := by simp [ci]
 simp only [eff, hx, hy, makeSliceEff, hz, ho, hs, hb, h1]
 simp [PV.cell]; omega
end
def ordN (xs : List Task) : Int × Int := if smallE xs ≠ 0 then (0, smallE xs) else (C0 xs 0, 0)
theorem pow_nn {n : Nat} (h : n ≤ 6) : ((n ^ n : Nat) : Int) ≤ 46656 := by
 have : n ^ n ≤ 6 ^ 6 := Nat.le_trans (Nat.pow_le_pow_left h n) (Nat.pow_le_pow_right (by decide) h)
 have e : (6 : Nat) ^ 6 = 46656 := by decide
 omega
theorem ord_out0 {h : Heap} {xs : List Task} (hs : smallE xs ≠ 0) : Out h (.tup [.int 0, .int (smallE xs)]) (.tup [.int (ordN xs).1, .int (ordN xs).2]) := by
 rw [ordN, if_pos hs]; exact out_2 (out_i rfl) (out_i rfl)
theorem ord_out {h : Heap} {xs : List Task} {q : List Int} {a : Nat} (hs : smallE xs = 0) (hw : WI xs q a) (ha : 2 ^ xs.length ≤ a) : Out h (.tup [.int (at0 q (2 ^ xs.length - 1)), .int 0]) (.tup [.int (ordN xs).1, .int (ordN xs).2]) := by
 rw [ordN, if_neg (fun e => e hs), hw.fin ha]; exact out_2 (out_i rfl) (out_i rfl)

theorem fr17 : (inFrame Try.f17.ntmps (Try.f17.body.getD .skip) && Try.f17.results.toList.all (resScope Try.f17.ntmps)) = true := by kernel_rfl
theorem OrdersC (xs : List Task) (hl : xs.length ≤ 10000) (hq : Fair xs) (h6 : xs.length ≤ 6 ∨ 14 < xs.length) : PCalls Try.prog 17 [.lit true 6 (xs.map Task.enc)] (.tup [.int (ordN xs).1, .int (ordN xs).2]) := by
 refine PCalls.of_code Try.func17 rfl rfl (by kernel_rfl) mixed fr17 (by show _ ≤ 65; simp) (pure_2 (.sc _) (.sc _)) ?_
 refine pwp_seq_plain rfl fun K1 hK1 => ?_
 refine p_step rfl (e_assign (v := .sc _) rfl) trivial ?_
 refine p_step rfl (e_assign (v := .sc _) rfl) trivial ?_
 refine p_end (hK1 _ ?_); clear hK1 K1
 refine pwp_seq_plain rfl fun K2 hK2 => ?_
 refine p_step rfl (e_move (v := .lit _ _ _) rfl) trivial ?_
 refine p_hcall rfl (smallC xs hl hq) fun v1 h1 c1 hR1 => ?_
 obtain ⟨T, w, rfl, ⟨hTc, hwc⟩, hTw⟩ := hR1
 refine p_step rfl (e_move (v := .tup _) rfl) trivial ?_
 refine p_step rfl (e_ext (v := .agg _) rfl (by simp) rfl) trivial ?_
 refine p_step rfl (e_ext (v := .sc _) rfl (by simp) rfl) trivial ?_
 refine p_new rfl (e_alloc (cs := [.nil, .nil]) (n := 2) (by kernel_rfl) rfl (by decide)) (ob_alloc (by decide)) ?_
 refine p_store rfl (e_storeA rfl (hset_self _ _ _) rfl rfl rfl (by kernel_rfl) (by simp only [List.all_cons, List.all_nil, Bool.and_true, hTc, hwc]) (by kernel_rfl)) trivial ?_
 refine p_step rfl (e_assign (v := .sc _) rfl) trivial ?_
 refine p_end (hK2 _ ?_); clear hK2 K2
 refine pwp_seq_seq ?_
 refine pwp_seq_plain rfl fun K3 hK3 => ?_
 refine p_step rfl (e_move (v := .sc _) rfl) trivial ?_
 refine p_step rfl (e_ne rfl rfl) trivial ?_
 refine p_end (hK3 _ ?_); clear hK3 K3
 refine pwp_seq_cond rfl fun K4 hK4 => ⟨fun hb5 => ?_, fun hb5 => ?_⟩
 ·have hb5R := hb5; try simp only [z1, z2, z3, z4, z5, z6, ne_eq, z7, z8, z9, z10, z11, z12] at hb5
  refine pwp_seq_plain rfl fun K6 hK6 => ?_
  refine p_step rfl (e_move (v := .sc _) rfl) trivial ?_
  refine p_step rfl (e_assign (v := .sc _) rfl) trivial ?_
  refine p_step rfl (e_assign (v := .sc _) rfl) trivial ?_
  refine p_end (hK6 _ ?_); clear hK6 K6
  refine pwp_ret ?_
  refine ret_seq ?_
  refine end2 (v := .sc _) (w := .sc _) rfl rfl ?_
  first
    | exact ord_out0 (by assumption)
    | exact ord_out hs0 hwi hae
 ·have hb5R := hb5; try simp only [z1, z2, z3, z4, z5, z6, ne_eq, z7, z8, z9, z10, z11, z12] at hb5
  refine pwp_skip ?_
  refine seq_norm (hK4 _ ?_); clear hK4 K4
  have hs0 : smallE xs = 0 := by assumption
  obtain ⟨rfl, hw⟩ := hTw hs0
  obtain ⟨hpl, hn14⟩ := small0 hs0
  have hn6 : xs.length ≤ 6 := by omega
  have hp2 := pow_le6 hn6
  have hC0 := C0_le (xs := xs)
  have hC1 := pow_nn hn6
  refine pwp_seq_plain rfl fun K7 hK7 => ?_
  refine p_step rfl (e_loadHA (n := 2) (cs := [.lit true 6 (xs.map Task.enc), w]) rfl (hset_self _ _ _) (by kernel_rfl) (by kernel_rfl) (by kernel_rfl) (by exact Nat.zero_lt_one) (by decide) rfl) trivial ?_
  refine p_call rfl (.cons (inn_sets (hw.keep fun _ => (hset_ne (key_ne rfl)).trans ((hset_ne (key_ne rfl)).trans (rfl)))) .nil) (fullD (by omega)) ?_
  refine p_step rfl (e_incU rfl rfl (by omega)) trivial ?_
  rw [show 2 ^ xs.length - 1 + 1 = 2 ^ xs.length by omega]
  refine p_new rfl (e_mkIU (n := 2 ^ xs.length) rfl rfl (by kernel_rfl) (by kernel_rfl) (by kernel_rfl) (by decide +kernel) (by omega)) trivial ?_
  refine p_step rfl (e_assign (v := .ref _ _ _ _) rfl) trivial ?_
  refine p_end (hK7 _ ?_); clear hK7 K7
  refine pwp_seq_plain rfl fun K8 hK8 => ?_
  refine p_step rfl (e_move (v := .ref _ _ _ _) rfl) trivial ?_
  refine p_step rfl (e_ixaR0 rfl rfl (by kernel_rfl) (by kernel_rfl) (by omega)) trivial ?_
  refine p_store rfl (e_storeI (zs := (List.replicate (2 ^ xs.length) 0)) (a := (1)) rfl (hset_self _ _ _) rfl (by first | omega | (rw [List.length_replicate]; omega)) (by kernel_rfl) (by kernel_rfl)) trivial ?_
  refine p_end (hK8 _ ?_); clear hK8 K8
  refine pwp_seq_seq ?_
  refine pwp_seq_plain rfl fun K9 hK9 => ?_
  refine p_step rfl (e_move (v := .ref _ _ _ _) rfl) trivial ?_
  refine p_step rfl (e_lenR rfl (by kernel_rfl)) trivial ?_
  refine p_step rfl (e_move (v := .sc _) rfl) trivial ?_
  refine p_end (hK9 _ ?_); clear hK9 K9
  refine pwp_seq_block fun K10 hK10 => ?_
  refine pwp_loopR (α := Nat × (List Int)) [0, 4, 6, 24] (fun (a11 : Nat × (List Int)) => [(25, .int (a11.1))]) (fun (a11 : Nat × (List Int)) (h : Heap) (_ : Nat → Nat) => ((a11.1) ≤ 2 ^ xs.length) ∧ (WI xs (a11.2) (a11.1)) ∧ (SliceAt h 45 w 1 ((bitsL xs).map cN)) ∧ (h (4, c1 4) = some (.rows 2 [[.lit true 6 (xs.map Task.enc), w]])) ∧ (h (20, c1 20) = some (.rows 1 ((a11.2).map ci)))) (fun (a11 : Nat × (List Int)) => 2 ^ xs.length - (a11.1)) (0, _) (by exact ⟨rfl, trivial⟩) (by exact ⟨by exact Nat.zero_le _, by exact WI.start, (SliceAt.to (hw.keep fun _ => (hset_ne (key_ne rfl)).trans ((hset_ne (key_ne rfl)).trans ((hset_ne (key_ne rfl)).trans ((hset_ne (key_ne rfl)).trans (rfl))))) (by first | rfl | (simp only [List.map_append, List.map_cons, List.map_nil] <;> rfl))), ((hset_ne (key_ne rfl)).trans ((hset_ne (key_ne rfl)).trans (hset_self _ _ _))), (hset_self _ _ _)⟩) fun a11 r12 h13 c14 hj15 => ?_
  obtain ⟨a, q⟩ := a11
  obtain ⟨ha, hwi, hihj15_0, hihj15_1, hihj15_2⟩ := hj15
  try dsimp only at ha
  try dsimp only at hwi
  try dsimp only at hihj15_0
  try dsimp only at hihj15_1
  try dsimp only at hihj15_2
  show pwp _ _ (loopQ _ _ _) ⟨sets (mix _ _ _) [(25, .int a)], _, _⟩
  refine pwp_seq_plain rfl fun K16 hK16 => ?_
  refine p_step rfl (e_lt rfl rfl) trivial ?_
  refine p_end (hK16 _ ?_); clear hK16 K16
  refine pwp_seq_cond rfl fun K17 hK17 => ⟨fun hb18 => ?_, fun hb18 => ?_⟩
  ·have hb18R := hb18; try simp only [z1, z2, z3, z4, z5, z6, ne_eq, z7, z8, z9, z10, z11, z12] at hb18
   have han : a < 2 ^ xs.length := by omega
   refine pwp_skip ?_
   refine seq_norm (hK17 _ ?_); clear hK17 K17
   refine pwp_seq_block fun K19 hK19 => ?_
   refine pwp_seq_plain rfl fun K20 hK20 => ?_
   refine p_step rfl (e_move (v := .sc _) rfl) trivial ?_
   refine p_step rfl (e_assign (v := .sc _) rfl) trivial ?_
   refine p_end (hK20 _ ?_); clear hK20 K20
   refine pwp_seq_plain rfl fun K21 hK21 => ?_
   refine p_step rfl (e_move (v := .lit _ _ _) rfl) trivial ?_
   refine p_step rfl (e_len rfl (by kernel_rfl)) trivial ?_
   refine p_step rfl (e_move (v := .sc _) rfl) trivial ?_
   refine p_end (hK21 _ ?_); clear hK21 K21
   refine pwp_block ?_
   refine pwp_loopR (α := Nat × (List Int)) [0, 4, 6, 7, 24, 25, 29] (fun (a22 : Nat × (List Int)) => [(30, .int (a22.1))]) (fun (a22 : Nat × (List Int)) (h : Heap) (_ : Nat → Nat) => ((a22.1) ≤ xs.length) ∧ (WM xs (a22.2) a (a22.1)) ∧ (SliceAt h 45 w 1 ((bitsL xs).map cN)) ∧ (h (4, c1 4) = some (.rows 2 [[.lit true 6 (xs.map Task.enc), w]])) ∧ (h (20, c1 20) = some (.rows 1 ((a22.2).map ci)))) (fun (a22 : Nat × (List Int)) => xs.length - (a22.1)) (0, _) (by exact ⟨rfl, trivial⟩) (by exact ⟨by exact Nat.zero_le _, by exact hwi.mid hpl (by omega) han, (SliceAt.to hihj15_0 (by first | rfl | (simp only [List.map_append, List.map_cons, List.map_nil] <;> rfl))), hihj15_1, hihj15_2⟩) fun a22 r23 h24 c25 hj26 => ?_
   obtain ⟨i, q⟩ := a22
   obtain ⟨hi, hwm, hihj26_0, hihj26_1, hihj26_2⟩ := hj26
   try dsimp only at hi
   try dsimp only at hwm
   try dsimp only at hihj26_0
   try dsimp only at hihj26_1
   try dsimp only at hihj26_2
   show pwp _ _ (loopQ _ _ _) ⟨sets (mix _ _ _) [(30, .int i)], _, _⟩
   refine pwp_seq_plain rfl fun K27 hK27 => ?_
   refine p_step rfl (e_lt rfl rfl) trivial ?_
   refine p_end (hK27 _ ?_); clear hK27 K27
   refine pwp_seq_cond rfl fun K28 hK28 => ⟨fun hb29 => ?_, fun hb29 => ?_⟩
   ·have hb29R := hb29; try simp only [z1, z2, z3, z4, z5, z6, ne_eq, z7, z8, z9, z10, z11, z12] at hb29
    have hin : i < xs.length := by simp only [List.length_map] at *; omega
    have hql := hwm.len
    have h2i := two_lt (k := i) (by omega)
    refine pwp_skip ?_
    refine seq_norm (hK28 _ ?_); clear hK28 K28
    refine pwp_seq_block fun K30 hK30 => ?_
    refine pwp_seq_plain rfl fun K31 hK31 => ?_
    refine p_step rfl (e_move (v := .sc _) rfl) trivial ?_
    refine p_step rfl (e_assign (v := .sc _) rfl) trivial ?_
    refine p_end (hK31 _ ?_); clear hK31 K31
    refine pwp_seq_gops rfl fun K32 hK32 => ?_
    refine g_begin ?_
    refine g_step rfl rfl rfl rfl (e_move (v := .ref _ _ _ _) rfl) trivial ?_
    refine g_step rfl rfl rfl rfl (e_move (v := .sc _) rfl) trivial ?_
    refine g_step rfl rfl rfl rfl (e_ixaR0 rfl rfl (by kernel_rfl) (by kernel_rfl) (by omega)) trivial ?_
    refine g_step rfl rfl rfl rfl (e_loadI (a := (at0 q a)) rfl hihj26_2 (by kernel_rfl) (by kernel_rfl) (by kernel_rfl) (at0_get (by omega))) trivial ?_
    refine g_step rfl rfl rfl rfl (e_gt rfl rfl) trivial ?_
    refine g_step rfl rfl rfl rfl (e_move (v := .sc _) rfl) trivial ?_
    refine g_cases (fun hb33 => ?_) (fun hb33 => ?_)
    ·have hb33R := hb33; try simp only [z1, z2, z3, z4, z5, z6, ne_eq, z7, z8, z9, z10, z11, z12] at hb33
     refine g_step rfl rfl rfl rfl (e_loadHA (n := 2) (cs := [.lit true 6 (xs.map Task.enc), w]) rfl hihj26_1 (by kernel_rfl) (by kernel_rfl) (by kernel_rfl) (by exact Nat.zero_lt_one) (by decide) rfl) trivial ?_
     refine g_step rfl rfl rfl rfl (e_move (v := .sc _) rfl) trivial ?_
     refine g_step rfl rfl rfl rfl (e_cvU (a := a) rfl (by kernel_rfl) (by kernel_rfl) rfl (by omega)) trivial ?_
     refine g_step rfl rfl rfl rfl (e_move (v := .sc _) rfl) trivial ?_
     refine g_call rfl rfl rfl rfl (.cons (inn_sets hihj26_0) (.cons inn_sc (.cons inn_sc .nil))) (canD hpl (by omega) (by omega) (by first | assumption | omega)) ?_
     refine g_step rfl rfl rfl rfl (e_pickT (v := .sc _) rfl rfl) trivial ?_
     refine g_end (ds := [39, 40, 41, 42, 43]) rfl rfl (hK32 _ ?_); clear hK32 K32
     refine pwp_cond rfl (fun hb34 => ?_) (fun hb34 => ?_)
     ·have hb34R := hb34; try simp only [z1, z2, z3, z4, z5, z6, ne_eq, z7, z8, z9, z10, z11, z12] at hb34
      have hc : canB (nbD xs i) a i = true := (by assumption)
      have hog := or_gt (can_bit hc)
      have hol := or_lt (n := xs.length) han hin
      have hba := hwm.bound hpl (by omega) (by omega) hog hol
      have hbb := hwm.le
      have hnn1 := hwm.nn (a ||| 2 ^ i)
      have hnn2 := hwm.nn a
      refine pwp_gops rfl fun K35 hK35 => ?_
      refine s_begin ?_
      refine s_step [] (by simp) rfl rfl rfl rfl (e_move (v := .ref _ _ _ _) rfl) trivial ?_
      refine s_step [] (by simp) rfl rfl rfl rfl (e_move (v := .sc _) rfl) trivial ?_
      refine s_step [] (by simp) rfl rfl rfl rfl (e_move (v := .sc _) rfl) trivial ?_
      refine s_step [] (by simp) rfl rfl rfl rfl (e_shlI (k := i) rfl rfl (by omega)) trivial ?_
      refine s_step [] (by simp) rfl rfl rfl rfl (e_orI (a := a) rfl rfl (by omega) (two_lt (by omega))) trivial ?_
      refine s_step [] (by simp) rfl rfl rfl rfl (e_ixaR0 rfl rfl (by kernel_rfl) (by kernel_rfl) (by omega)) trivial ?_
      refine s_step [20] (by simp) rfl rfl rfl rfl (e_loadI (a := (at0 q (a ||| 2 ^ i))) rfl hihj26_2 (by kernel_rfl) (by kernel_rfl) (by kernel_rfl) (at0_get (by omega))) trivial ?_
      refine s_step [] (by simp) rfl rfl rfl rfl (e_move (v := .ref _ _ _ _) rfl) trivial ?_
      refine s_step [] (by simp) rfl rfl rfl rfl (e_move (v := .sc _) rfl) trivial ?_
      refine s_step [] (by simp) rfl rfl rfl rfl (e_ixaR0 rfl rfl (by kernel_rfl) (by kernel_rfl) (by omega)) trivial ?_
      refine s_step [20] (by simp) rfl rfl rfl rfl (e_loadI (a := (at0 q a)) rfl hihj26_2 (by kernel_rfl) (by kernel_rfl) (by kernel_rfl) (at0_get (by omega))) trivial ?_
      refine s_step [] (by simp) rfl rfl rfl rfl (e_add rfl rfl (by first | omega | (simp only [List.length_map] at *; omega))) trivial ?_
      refine s_step [] (by simp) rfl rfl rfl rfl (e_ixaR0 rfl rfl (by kernel_rfl) (by kernel_rfl) (by omega)) trivial ?_
      refine s_store [20] (by simp) rfl rfl (e_storeI (zs := q) (a := ((at0 q (a ||| 2 ^ i)) + (at0 q a))) rfl hihj26_2 rfl (by first | omega | (rw [List.length_replicate]; omega)) (by kernel_rfl) (by kernel_rfl)) trivial ?_
      refine s_end (ds := []) (by kernel_rfl) (by kernel_rfl) (hK35 _ ?_); clear hK35 K35
      refine block_norm ?_
      refine seq_norm (hK30 _ ?_); clear hK30 K30
      refine pwp_plain rfl fun K36 hK36 => ?_
      refine p_step rfl (e_add rfl rfl (by first | omega | (simp only [List.length_map] at *; omega))) trivial ?_
      refine p_step rfl (e_move (v := .sc _) rfl) trivial ?_
      refine p_end (hK36 _ ?_); clear hK36 K36
      exact loop_again ((i + 1, _)) (by show _ < _; simp only; omega) ⟨rfl, rfl, rfl, rfl, rfl, rfl, rfl, trivial⟩ ⟨rfl, trivial⟩ (by exact ⟨by show _ + 1 ≤ _; omega, by first | exact hwm.add han hin (by assumption) | exact hwm.skip hin (fun e => by omega) | exact hwm.skip hin (fun e => by simp_all), (hihj26_0.keep fun _ => (hset_ne (key_ne rfl)).trans (rfl)), ((hset_ne (key_ne rfl)).trans hihj26_1), ((hset_self _ _ _).trans (by rfl))⟩)
     ·have hb34R := hb34; try simp only [z1, z2, z3, z4, z5, z6, ne_eq, z7, z8, z9, z10, z11, z12] at hb34
      refine pwp_skip ?_
      refine block_norm ?_
      refine seq_norm (hK30 _ ?_); clear hK30 K30
      refine pwp_plain rfl fun K37 hK37 => ?_
      refine p_step rfl (e_add rfl rfl (by first | omega | (simp only [List.length_map] at *; omega))) trivial ?_
      refine p_step rfl (e_move (v := .sc _) rfl) trivial ?_
      refine p_end (hK37 _ ?_); clear hK37 K37
      exact loop_again ((i + 1, _)) (by show _ < _; simp only; omega) ⟨rfl, rfl, rfl, rfl, rfl, rfl, rfl, trivial⟩ ⟨rfl, trivial⟩ (by exact ⟨by show _ + 1 ≤ _; omega, by first | exact hwm.add han hin (by assumption) | exact hwm.skip hin (fun e => by omega) | exact hwm.skip hin (fun e => by simp_all), hihj26_0, hihj26_1, (hihj26_2.trans (by rfl))⟩)
    ·have hb33R := hb33; try simp only [z1, z2, z3, z4, z5, z6, ne_eq, z7, z8, z9, z10, z11, z12] at hb33
     refine g_skip rfl rfl rfl ?_
     refine g_skip rfl rfl rfl ?_
     refine g_skip rfl rfl rfl ?_
     refine g_skip rfl rfl rfl ?_
     refine g_nocall rfl rfl rfl ?_
     refine g_step rfl rfl rfl rfl (e_pickF (v := .sc _) rfl rfl) trivial ?_
     refine g_end (ds := [39, 40, 41, 42, 43]) rfl rfl (hK32 _ ?_); clear hK32 K32
     refine pwp_cond (t := false) rfl nofun (fun _ => ?_)
     refine pwp_skip ?_
     refine block_norm ?_
     refine seq_norm (hK30 _ ?_); clear hK30 K30
     refine pwp_plain rfl fun K38 hK38 => ?_
     refine p_step rfl (e_add rfl rfl (by first | omega | (simp only [List.length_map] at *; omega))) trivial ?_
     refine p_step rfl (e_move (v := .sc _) rfl) trivial ?_
     refine p_end (hK38 _ ?_); clear hK38 K38
     exact loop_again ((i + 1, _)) (by show _ < _; simp only; omega) ⟨rfl, rfl, rfl, rfl, rfl, rfl, rfl, trivial⟩ ⟨rfl, trivial⟩ (by exact ⟨by show _ + 1 ≤ _; omega, by first | exact hwm.add han hin (by assumption) | exact hwm.skip hin (fun e => by omega) | exact hwm.skip hin (fun e => by simp_all), hihj26_0, hihj26_1, (hihj26_2.trans (by rfl))⟩)
   ·have hb29R := hb29; try simp only [z1, z2, z3, z4, z5, z6, ne_eq, z7, z8, z9, z10, z11, z12] at hb29
    refine pwp_exit ?_
    refine exit_seq ?_
    clear hK28 K28
    refine exit_loop ?_
    refine exit_here ?_
    refine block_norm ?_
    refine seq_norm (hK19 _ ?_); clear hK19 K19
    refine pwp_plain rfl fun K39 hK39 => ?_
    refine p_step rfl (e_add rfl rfl (by first | omega | (simp only [List.length_map] at *; omega))) trivial ?_
    refine p_step rfl (e_move (v := .sc _) rfl) trivial ?_
    refine p_end (hK39 _ ?_); clear hK39 K39
    exact loop_again ((a + 1, _)) (by show _ < _; simp only; omega) ⟨rfl, rfl, rfl, rfl, trivial⟩ ⟨rfl, trivial⟩ (by exact ⟨by show _ + 1 ≤ _; omega, by exact hwm.stop han (by omega), hihj26_0, hihj26_1, (hihj26_2.trans (by rfl))⟩)
  ·have hb18R := hb18; try simp only [z1, z2, z3, z4, z5, z6, ne_eq, z7, z8, z9, z10, z11, z12] at hb18
   have hae : 2 ^ xs.length ≤ a := by omega
   have hql := hwi.len
   refine pwp_exit ?_
   refine exit_seq ?_
   clear hK17 K17
   refine exit_loop ?_
   refine exit_here ?_
   refine seq_norm (hK10 _ ?_); clear hK10 K10
   refine pwp_seq_plain rfl fun K40 hK40 => ?_
   refine p_step rfl (e_move (v := .ref _ _ _ _) rfl) trivial ?_
   refine p_step rfl (e_loadHA (n := 2) (cs := [.lit true 6 (xs.map Task.enc), w]) rfl hihj15_1 (by kernel_rfl) (by kernel_rfl) (by kernel_rfl) (by exact Nat.zero_lt_one) (by decide) rfl) trivial ?_
   refine p_call rfl (.cons (inn_sets hihj15_0) .nil) (fullD (by omega)) ?_
   refine p_step rfl (e_ixaR0 rfl rfl (by kernel_rfl) (by kernel_rfl) (by omega)) trivial ?_
   refine p_step rfl (e_loadI (a := (at0 q (2 ^ xs.length - 1))) rfl hihj15_2 (by kernel_rfl) (by kernel_rfl) (by kernel_rfl) (at0_get (by omega))) trivial ?_
   refine p_step rfl (e_assign (v := .sc _) rfl) trivial ?_
   refine p_step rfl (e_assign (v := .sc _) rfl) trivial ?_
   refine p_end (hK40 _ ?_); clear hK40 K40
   refine pwp_ret ?_
   refine end2 (v := .sc _) (w := .sc _) rfl rfl ?_
   first
     | exact ord_out0 (by assumption)
     | exact ord_out hs0 hwi hae

end Go.Proofs.Ytjmjiegplnfiiaa

/- The search through all orders, as the reference makes it. No conditions. -/
set_option linter.unusedSimpArgs false
set_option linter.unusedVariables false
set_option maxRecDepth 100000
namespace Go.Proofs.Ytjmjiegplnfiiaa
open Go Go.Pv
theorem p_appR {P : Program} {K : PS → Prop} {d : Nat} {ty t : TypeId} {pos : String} {aft : Array Edge} {gd : Option (Nat × Bool)} {rest : List Oper} {r : Nat → PV} {h : Heap} {cnt : Nat → Nat} {x y : Operand} {ts : Array TypeId} {t2 : TypeId} {u2 : PV} {sz d1 g : Nat} {rows rows2 : Pv.Rows} (hts : ts.toList = [t, t2]) (hx : ev r x = .ref (d1, g) sz 0 rows.length) (hy : ev r y = u2) (hg : h (d1, g) = some (.rows sz rows)) (hsr : (srcRows h sz u2).1 ∧ (srcRows h sz u2).2.1 = rows2)
   (hok : (sliceOk P t && (decide (P.bytesOf (elemTy P t) < 2 ^ 15) && (decide (intKind P t2 = none) && (zeroOk P (elemTy P t) && ((P.underlying t2).isSome && decide (tySize P (elemTy P t) = sz)))))) = true) (hlen : rows.length + rows2.length < 2 ^ 32)
   (hk : ∀ v' h' c', (∃ g', v' = .ref (d, g') sz 0 (rows ++ rows2).length ∧ h' (d, g') = some (.rows sz (rows ++ rows2))) → pOps P K rest ⟨setT r d v', h', c'⟩) :
   pOps P K (⟨some d, .call { callee := .builtin .append, args := #[x, y], argTypes := ts }, ty, pos, aft, gd⟩ :: rest) ⟨r, h, cnt⟩ := by
 simp only [Bool.and_eq_true, decide_eq_true_eq] at hok
 obtain ⟨o1, o2, o3, o4, o5, o6⟩ := hok
 subst o6
 have hq : eff P (ev r) h (d, cnt d) (.call { callee := .builtin .append, args := #[x, y], argTypes := ts }) = appendEff P h (d, cnt d) t t2 (.ref (d1, g) (tySize P (elemTy P t)) 0 rows.length) u2 := by
   show builtinEff P h (d, cnt d) .append ts.toList [ev r x, ev r y] = _
   rw [hts, hx, hy]; rfl
 unfold appendEff at hq
 simp only [hg, hsr.2] at hq
 refine p_renew rfl hq (by refine ⟨⟨o1, o2, o3, o4, o5⟩, hsr.1, ?_⟩; simp; omega) (hk _ _ _ ⟨cnt d, by rw [List.length_append], ?_⟩)
 rw [hset_self, List.drop_zero, List.take_length]
theorem frH67 : (inFrame Try.f67.ntmps (Try.f67.body.getD .skip) && Try.f67.results.toList.all (resScope Try.f67.ntmps)) = true := by kernel_rfl
theorem copyH (l : List Int) (hl : l.length ≤ 1000000) : HCallsR Try.prog 67 [.lit true 1 (l.map ci)] (fun _ => none) (fun _ => 0) fun v h _ => ∃ g, v = .ref (5, g) 1 0 (l.map ci).length ∧ h (5, g) = some (.rows 1 (l.map ci)) := by
 refine HCallsR.of_code Try.func67 rfl rfl (by kernel_rfl) mixed frH67 (by show _ ≤ 6; simp) ?_
 refine pwp_seq_plain rfl fun K1 hK1 => ?_
 refine p_step rfl (e_assign (v := .nil) rfl) trivial ?_
 refine p_end (hK1 _ ?_); clear hK1 K1
 refine pwp_seq_plain rfl fun K2 hK2 => ?_
 refine p_new rfl (e_bslice (rows := []) (zs := [.int 0]) (sz := 1) (by kernel_rfl) (by kernel_rfl) rfl (by kernel_rfl) (by decide) rfl rfl (by exact trivial) rfl) trivial ?_
 refine p_step rfl (e_move (v := .lit _ _ _) rfl) trivial ?_
 refine p_appR (rows := []) rfl rfl rfl (hset_self _ _ _) src_lit (by kernel_rfl) (by simp only [List.length_append, List.length_map, List.length_nil, List.length_cons]; omega) fun v3 h4 c5 hs6 => ?_
 refine p_step rfl (e_assign (v := _) rfl) trivial ?_
 refine p_end (hK2 _ ?_); clear hK2 K2
 refine pwp_ret ?_
 refine end1 (v := _) rfl ?_
 exact hs6
theorem copyN (l : List Int) (hl : l.length ≤ 1000000) : PNew Try.prog 67 [.lit true 1 (l.map ci)] 1 (l.map ci) := by
 refine PNew.of_calls (d := 5) (by omega) (fun row hr => ?_) (fun row hr p hp => ?_) (copyH l hl)
 · obtain ⟨e, _, rfl⟩ := List.mem_map.1 hr; rfl
 · obtain ⟨e, _, rfl⟩ := List.mem_map.1 hr
   simp only [ci, List.mem_cons, List.not_mem_nil, or_false] at hp
   subst hp; exact ⟨_, rfl, rfl⟩

/-! ### The search's own memory -/
def BestV (w : PV) (l : List Int) : Prop := (w = .nil ∧ l = []) ∨ w = .lit false 1 (l.map ci)
theorem BestV.cell {w : PV} {l : List Int} (h : BestV w l) : w.cell = true := by rcases h with ⟨h, _⟩ | h <;> rw [h] <;> rfl
def SrR (xs : List Task) (S : Srch) (w : PV) : PObj := .rows 4 [[.lit true 6 (xs.map Task.enc), .int S.cnt, w, .int S.least]]
structure FrmW (h0 : Heap) (c0 : Nat → Nat) (h : Heap) (c : Nat → Nat) : Prop where
 eq : ∀ k : Key, k.1 ≠ 70 → k.2 < c0 k.1 → h k = h0 k
 le : ∀ s, c0 s ≤ c s
section
variable {h0 h h' : Heap} {c0 c c' : Nat → Nat}
theorem FrmW.refl : FrmW h0 c0 h0 c0 := ⟨fun _ _ _ => rfl, fun _ => Nat.le_refl _⟩
theorem FrmW.set {g : Nat} {o : Option PObj} (hf : FrmW h0 c0 h c) : FrmW h0 c0 (hset h (70, g) o) c := ⟨fun k h1 h2 => (hset_ne fun e => h1 (by rw [e])).trans (hf.eq k h1 h2), hf.le⟩
theorem FrmW.new {s : Nat} {o : Option PObj} (hf : FrmW h0 c0 h c) : FrmW h0 c0 (hset h (s, c s) o) (cset c s) := by
 refine ⟨fun k h1 h2 => (hset_ne fun e => ?_).trans (hf.eq k h1 h2), fun t => ?_⟩
 · subst e; have := hf.le s; simp only at h2; omega
 · have := hf.le t
   unfold cset; split <;> omega
theorem FrmW.trans (hf : FrmW h0 c0 h c) (hg : FrmW h c h' c') : FrmW h0 c0 h' c' :=
 ⟨fun k h1 h2 => (hg.eq k h1 (Nat.lt_of_lt_of_le h2 (hf.le _))).trans (hf.eq k h1 h2), fun s => Nat.le_trans (hf.le s) (hg.le s)⟩
end
def WalkR (xs : List Task) (R : Nat) (o : List Int) (S : Srch) (h0 : Heap) (c0 : Nat → Nat) (h : Heap) (c : Nat → Nat) : Prop := (∃ w, h (70, 0) = some (SrR xs (wkF xs R o S) w) ∧ BestV w (wkF xs R o S).best) ∧ FrmW h0 c0 h c
def WalkOK (xs : List Task) (R : Nat) : Prop := ∀ (o : List Int) (S : Srch) (w v : PV) (h0 : Heap) (c0 : Nat → Nat), (∀ z ∈ o, 0 ≤ z ∧ z < (xs.length : Int)) → o.length + R = xs.length → 0 ≤ S.cnt → S.cnt + ((xs.length ^ R : Nat) : Int) ≤ 1000000 → h0 (70, 0) = some (SrR xs S w) → BestV w S.best → SliceAt h0 88 v 1 (o.map ci) → (∀ g n, v = .ref (88, g) 1 0 n → g < c0 88) →
 HCallsR Try.prog 19 [.ptr (70, 0) 4 0 0, v] h0 c0 fun _ h' c' => WalkR xs R o S h0 c0 h' c'
section
variable {xs : List Task} {R k : Nat} {o : List Int} {S : Srch} {h0 h : Heap} {c0 c : Nat → Nat} {w : PV} {x : Task}
theorem walk_l1 (hR : R = 0) (hc : S.cnt = 0 ∨ hndK xs o o.length < S.least) (hb : h (70, 0) = some (.rows 4 [[.lit true 6 (xs.map Task.enc), .int (S.cnt + 1), .lit false 1 (o.map ci), .int (hndK xs o o.length)]])) (hf : FrmW h0 c0 h c) : WalkR xs R o S h0 c0 h c := by
 subst hR
 have e : wkF xs 0 o S = ⟨S.cnt + 1, o, hndK xs o o.length⟩ := by rw [wkF, leafS, if_pos hc]
 rw [WalkR, e]; exact ⟨⟨_, hb, .inr rfl⟩, hf⟩
theorem walk_l2 (hR : R = 0) (hc : ¬ (S.cnt = 0 ∨ hndK xs o o.length < S.least)) (hw : BestV w S.best) (hb : h (70, 0) = some (.rows 4 [[.lit true 6 (xs.map Task.enc), .int (S.cnt + 1), w, .int S.least]])) (hf : FrmW h0 c0 h c) : WalkR xs R o S h0 c0 h c := by
 subst hR
 have e : wkF xs 0 o S = ⟨S.cnt + 1, S.best, S.least⟩ := by rw [wkF, leafS, if_neg hc]
 rw [WalkR, e]; exact ⟨⟨_, hb, hw⟩, hf⟩
theorem walk_e {r : Nat} (hk : k ≤ xs.length) (hk2 : xs.length ≤ k) (hb : h (70, 0) = some (SrR xs (wkP xs r o S k) w)) (hw : BestV w (wkP xs r o S k).best) (hf : FrmW h0 c0 h c) : WalkR xs (r + 1) o S h0 c0 h c := by
 obtain rfl : k = xs.length := by omega
 rw [WalkR, wkF_succ]; exact ⟨⟨_, hb, hw⟩, hf⟩
theorem rdy_t (hrd : rdyB (ndX xs) o k = (!decide ((k : Int) ∈ o) && hasB (doneB xs.length o) x.needs)) (h1 : (k : Int) ∉ o) (h2 : hasB (doneB xs.length o) x.needs = true) : rdyB (ndX xs) o k = true := by rw [hrd, decide_eq_false h1, h2]; rfl
theorem rdy_f1 (hrd : rdyB (ndX xs) o k = (!decide ((k : Int) ∈ o) && hasB (doneB xs.length o) x.needs)) (h1 : (k : Int) ∈ o) : rdyB (ndX xs) o k = false := by rw [hrd, decide_eq_true h1]; rfl
theorem rdy_f2 (hrd : rdyB (ndX xs) o k = (!decide ((k : Int) ∈ o) && hasB (doneB xs.length o) x.needs)) (h2 : hasB (doneB xs.length o) x.needs = false) : rdyB (ndX xs) o k = false := by rw [hrd, h2, Bool.and_false]
end
theorem sl_keep {h0 h : Heap} {c0 c : Nat → Nat} {v : PV} {l : List Int} (hv : SliceAt h0 88 v 1 (l.map ci)) (hg : ∀ g n, v = .ref (88, g) 1 0 n → g < c0 88) (hf : FrmW h0 c0 h c) : SliceAt h 88 v 1 (l.map ci) := by
 rcases hv with hv | ⟨g, e, hk⟩
 · exact .inl hv
 · exact .inr ⟨g, e, (hf.eq (88, g) (show (88 : Nat) ≠ 70 by decide) (hg g _ e)).trans hk⟩
theorem le_cset {c : Nat → Nat} {s t : Nat} : c s ≤ cset c t s := by unfold cset; split <;> omega
theorem hnew1 {P : Program} {f : FuncId} {args as' : List PV} {h : Heap} {cnt : Nat → Nat} {sz : Nat} {rows : Pv.Rows} (site : Nat) (hc : PNew P f as' sz rows) (ha : Inns h args as') :
   HCallsR P f args h cnt fun v h' cnt' => v = .ref (site, cnt site) sz 0 rows.length ∧ h' = hset h (site, cnt site) (some (.rows sz rows)) ∧ cnt' = cset cnt site := HCallsR.of_new site hc ha

theorem fr67 : (inFrame Try.f67.ntmps (Try.f67.body.getD .skip) && Try.f67.results.toList.all (resScope Try.f67.ntmps)) = true := by kernel_rfl
theorem copyC (o : List Int) (hl : o.length ≤ 1000000) : PCalls Try.prog 67 [.lit true 1 (o.map ci)] (.lit false 1 (o.map ci)) := by
 refine PCalls.of_code Try.func67 rfl rfl (by kernel_rfl) mixed fr67 (by show _ ≤ 6; simp) (.lit _ _ _ fun row hr => pure_map ci_pure row hr) ?_
 refine pwp_seq_plain rfl fun K1 hK1 => ?_
 refine p_step rfl (e_assign (v := .nil) rfl) trivial ?_
 refine p_end (hK1 _ ?_); clear hK1 K1
 refine pwp_seq_plain rfl fun K2 hK2 => ?_
 refine p_new rfl (e_bslice (rows := []) (zs := [.int 0]) (sz := 1) (by kernel_rfl) (by kernel_rfl) rfl (by kernel_rfl) (by decide) rfl rfl (by exact trivial) rfl) trivial ?_
 refine p_step rfl (e_move (v := .lit _ _ _) rfl) trivial ?_
 refine p_app rfl rfl rfl (.ofRef (hset_self _ _ _) rfl) src_lit (by kernel_rfl) (by simp only [List.length_append, List.length_map, List.length_nil, List.length_cons]; omega) fun v3 h4 c5 hs6 hf7 => ?_
 refine p_step rfl (e_assign (v := _) rfl) trivial ?_
 refine p_end (hK2 _ ?_); clear hK2 K2
 refine pwp_ret ?_
 refine end1 (v := _) rfl ?_
 exact out_slice hs6 (by simp) (fun _ => rfl) fun a p hp => by simp [ci] at hp; subst hp; exact ⟨.sc _, rfl⟩

theorem FrmW.app {h0 h h1 : Heap} {c0 c : Nat → Nat} {o1 o2 : Option PObj} {n : Nat} (hf : FrmW h0 c0 h c) (hf1 : ∀ k' : Key, k' ≠ (88, (cset (cset c 85) 87) 88) → (∀ g, PV.ref (85, c 85) 1 0 n = .ref (85, g) 1 0 n → k' ≠ (85, g)) → h1 k' = hset (hset h (85, c 85) o1) (87, (cset c 85) 87) o2 k') : FrmW h0 c0 h1 (cset (cset (cset c 85) 87) 88) := by
 have h2 := (hf.new (s := 85) (o := o1)).new (s := 87) (o := o2)
 refine ⟨fun k q1 q2 => (hf1 k (fun e => ?_) (fun g hg e => ?_)).trans (h2.eq k q1 q2), fun s => Nat.le_trans (h2.le s) le_cset⟩
 · subst e; have := h2.le 88; simp only at q2; omega
 · have e2 : c 85 = g := congrArg gen hg
   subst e2; subst e; have := hf.le 85; simp only at q2; omega
theorem app_gen {c : Nat → Nat} {g n m : Nat} (e : PV.ref (88, (cset (cset c 85) 87) 88) 1 0 m = .ref (88, g) 1 0 n) : g < (cset (cset (cset c 85) 87) 88) 88 := by
 have e2 : (cset (cset c 85) 87) 88 = g := congrArg gen e
 subst e2
 simp [cset]

theorem frH19 : (inFrame Try.f19.ntmps (Try.f19.body.getD .skip) && Try.f19.results.toList.all (resScope Try.f19.ntmps)) = true := by kernel_rfl
theorem walkS (xs : List Task) (hp : planE xs = 0) (hq : Fair xs) (hn : xs.length ≤ 6) (R : Nat) (hih : ∀ r, r < R → WalkOK xs r) (o : List Int) (S : Srch) (w0 v : PV) (h0 : Heap) (c0 : Nat → Nat) (ho : ∀ z ∈ o, 0 ≤ z ∧ z < (xs.length : Int)) (hR : o.length + R = xs.length) (hS : 0 ≤ S.cnt) (hS2 : S.cnt + ((xs.length ^ R : Nat) : Int) ≤ 1000000) (hb : h0 (70, 0) = some (SrR xs S w0)) (hbv0 : BestV w0 S.best) (hv : SliceAt h0 88 v 1 (o.map ci)) (hvg : ∀ g n, v = .ref (88, g) 1 0 n → g < c0 88) : HCallsR Try.prog 19 [.ptr (70, 0) 4 0 0, v] h0 c0 (fun _ h' c' => WalkR xs R o S h0 c0 h' c') := by
 refine HCallsR.of_code Try.func19 rfl rfl (by kernel_rfl) mixed frH19 (by show _ ≤ 90; simp) ?_
 have hbc := hbv0.cell
 refine pwp_seq_seq ?_
 refine pwp_seq_plain rfl fun K1 hK1 => ?_
 refine p_step rfl (e_move (v := _) rfl) trivial ?_
 refine p_step rfl (SliceAt.len hv rfl (by kernel_rfl)) trivial ?_
 refine p_step rfl (e_move (v := .ptr _ _ _ _) rfl) trivial ?_
 refine p_step rfl (e_nilc rfl) trivial ?_
 refine p_step rfl (e_faP (pl := [(0, 1, false), (1, 1, false), (2, 1, false), (3, 1, false)]) rfl (by kernel_rfl) (by kernel_rfl) (by decide) rfl) trivial ?_
 refine p_step rfl (e_loadH (v := .lit _ _ _) rfl hb (by kernel_rfl) (by kernel_rfl) (by kernel_rfl) (by exact Nat.zero_lt_one) (by decide) rfl) trivial ?_
 refine p_step rfl (e_len rfl (by kernel_rfl)) trivial ?_
 refine p_step rfl (e_eq rfl rfl) trivial ?_
 refine p_end (hK1 _ ?_); clear hK1 K1
 refine pwp_seq_cond rfl fun K2 hK2 => ⟨fun hb3 => ?_, fun hb3 => ?_⟩
 ·have hb3R := hb3; try simp only [z1, z2, z3, z4, z5, z6, ne_eq, z7, z8, z9, z10, z11, z12] at hb3
  refine pwp_seq_plain rfl fun K4 hK4 => ?_
  refine p_step rfl (e_move (v := .ptr _ _ _ _) rfl) trivial ?_
  refine p_step rfl (e_nilc rfl) trivial ?_
  refine p_step rfl (e_faP (pl := [(0, 1, false), (1, 1, false), (2, 1, false), (3, 1, false)]) rfl (by kernel_rfl) (by kernel_rfl) (by decide) rfl) trivial ?_
  refine p_step rfl (e_loadH (v := .lit _ _ _) rfl hb (by kernel_rfl) (by kernel_rfl) (by kernel_rfl) (by exact Nat.zero_lt_one) (by decide) rfl) trivial ?_
  refine p_step rfl (e_move (v := _) rfl) trivial ?_
  refine p_call rfl (.cons inn_lit (.cons (SliceAt.inn (rows' := (o).map ci) hv (by simp) (by first | exact pure_map ci_pure | (simp only [← List.map_append, List.nil_append]; exact pure_map ci_pure))) .nil)) (refHandlingsX _ _ (by omega) (by omega) ho) ?_
  refine p_step rfl (e_assign (v := .sc _) rfl) trivial ?_
  refine p_end (hK4 _ ?_); clear hK4 K4
  refine pwp_seq_seq ?_
  refine pwp_seq_gops rfl fun K5 hK5 => ?_
  refine g_begin ?_
  refine g_step rfl rfl rfl rfl (e_move (v := .ptr _ _ _ _) rfl) trivial ?_
  refine g_step rfl rfl rfl rfl (e_nilc rfl) trivial ?_
  refine g_step rfl rfl rfl rfl (e_faP (pl := [(0, 1, false), (1, 1, false), (2, 1, false), (3, 1, false)]) rfl (by kernel_rfl) (by kernel_rfl) (by decide) rfl) trivial ?_
  refine g_step rfl rfl rfl rfl (e_loadH (v := .sc _) rfl hb (by kernel_rfl) (by kernel_rfl) (by kernel_rfl) (by exact Nat.zero_lt_one) (by decide) rfl) trivial ?_
  refine g_step rfl rfl rfl rfl (e_eq rfl rfl) trivial ?_
  refine g_step rfl rfl rfl rfl (e_move (v := .sc _) rfl) trivial ?_
  refine g_cases (fun hb6 => ?_) (fun hb6 => ?_)
  ·have hb6R := hb6; try simp only [z1, z2, z3, z4, z5, z6, ne_eq, z7, z8, z9, z10, z11, z12] at hb6
   refine g_skip rfl rfl rfl ?_
   refine g_skip rfl rfl rfl ?_
   refine g_skip rfl rfl rfl ?_
   refine g_skip rfl rfl rfl ?_
   refine g_skip rfl rfl rfl ?_
   refine g_skip rfl rfl rfl ?_
   refine g_step rfl rfl rfl rfl (e_pickT (v := .sc _) rfl rfl) trivial ?_
   refine g_end (ds := [27, 28, 29, 30, 31, 32]) rfl rfl (hK5 _ ?_); clear hK5 K5
   refine pwp_seq_cond (t := true) rfl fun K7 hK7 => ⟨fun _ => ?_, nofun⟩
   refine pwp_plain rfl fun K8 hK8 => ?_
   refine p_step rfl (e_move (v := .ptr _ _ _ _) rfl) trivial ?_
   refine p_step rfl (e_move (v := .ptr _ _ _ _) rfl) trivial ?_
   refine p_step rfl (e_move (v := _) rfl) trivial ?_
   refine p_call rfl (.cons (SliceAt.inn (rows' := (o).map ci) hv (by simp) (by first | exact pure_map ci_pure | (simp only [← List.map_append, List.nil_append]; exact pure_map ci_pure))) .nil) (copyC _ (by omega)) ?_
   refine p_step rfl (e_move (v := .sc _) rfl) trivial ?_
   refine p_step rfl (e_nilc rfl) trivial ?_
   refine p_step rfl (e_faP (pl := [(0, 1, false), (1, 1, false), (2, 1, false), (3, 1, false)]) rfl (by kernel_rfl) (by kernel_rfl) (by decide) rfl) trivial ?_
   refine p_store rfl (e_store1 rfl hb rfl rfl rfl (by decide) (by kernel_rfl) rfl (by kernel_rfl)) trivial ?_
   refine p_step rfl (e_nilc rfl) trivial ?_
   refine p_step rfl (e_faP (pl := [(0, 1, false), (1, 1, false), (2, 1, false), (3, 1, false)]) rfl (by kernel_rfl) (by kernel_rfl) (by decide) rfl) trivial ?_
   refine p_store rfl (e_store1 rfl (hset_self _ _ _) rfl rfl rfl (by decide) (by kernel_rfl) rfl (by kernel_rfl)) trivial ?_
   refine p_end (hK8 _ ?_); clear hK8 K8
   refine seq_norm (hK7 _ ?_); clear hK7 K7
   refine pwp_seq_plain rfl fun K9 hK9 => ?_
   refine p_step rfl (e_move (v := .ptr _ _ _ _) rfl) trivial ?_
   refine p_step rfl (e_move (v := .ptr _ _ _ _) rfl) trivial ?_
   refine p_step rfl (e_nilc rfl) trivial ?_
   refine p_step rfl (e_faP (pl := [(0, 1, false), (1, 1, false), (2, 1, false), (3, 1, false)]) rfl (by kernel_rfl) (by kernel_rfl) (by decide) rfl) trivial ?_
   refine p_step rfl (e_loadH (v := .sc _) rfl (hset_self _ _ _) (by kernel_rfl) (by kernel_rfl) (by kernel_rfl) (by exact Nat.zero_lt_one) (by decide) rfl) trivial ?_
   refine p_step rfl (e_add rfl rfl (by first | omega | (simp only [List.length_map] at *; omega))) trivial ?_
   refine p_step rfl (e_nilc rfl) trivial ?_
   refine p_step rfl (e_faP (pl := [(0, 1, false), (1, 1, false), (2, 1, false), (3, 1, false)]) rfl (by kernel_rfl) (by kernel_rfl) (by decide) rfl) trivial ?_
   refine p_store rfl (e_store1 rfl (hset_self _ _ _) rfl rfl rfl (by decide) (by kernel_rfl) rfl (by kernel_rfl)) trivial ?_
   refine p_end (hK9 _ ?_); clear hK9 K9
   refine pwp_ret ?_
   refine ret_seq ?_
   refine end0   ?_
   first
     | exact walk_l1 (by omega) (by omega) (hset_self _ _ _) (FrmW.refl.set.set.set)
     | exact walk_l2 (by omega) (by omega) hbv0 (hset_self _ _ _) (FrmW.refl.set)
     | exact walk_e (by omega) (by omega) (hset_self _ _ _) hbv hfr
  ·have hb6R := hb6; try simp only [z1, z2, z3, z4, z5, z6, ne_eq, z7, z8, z9, z10, z11, z12] at hb6
   refine g_step rfl rfl rfl rfl (e_move (v := .sc _) rfl) trivial ?_
   refine g_step rfl rfl rfl rfl (e_move (v := .ptr _ _ _ _) rfl) trivial ?_
   refine g_step rfl rfl rfl rfl (e_nilc rfl) trivial ?_
   refine g_step rfl rfl rfl rfl (e_faP (pl := [(0, 1, false), (1, 1, false), (2, 1, false), (3, 1, false)]) rfl (by kernel_rfl) (by kernel_rfl) (by decide) rfl) trivial ?_
   refine g_step rfl rfl rfl rfl (e_loadH (v := .sc _) rfl hb (by kernel_rfl) (by kernel_rfl) (by kernel_rfl) (by exact Nat.zero_lt_one) (by decide) rfl) trivial ?_
   refine g_step rfl rfl rfl rfl (e_lt rfl rfl) trivial ?_
   refine g_step rfl rfl rfl rfl (e_pickF (v := .sc _) rfl rfl) trivial ?_
   refine g_end (ds := [27, 28, 29, 30, 31, 32]) rfl rfl (hK5 _ ?_); clear hK5 K5
   refine pwp_seq_cond rfl fun K10 hK10 => ⟨fun hb11 => ?_, fun hb11 => ?_⟩
   ·have hb11R := hb11; try simp only [z1, z2, z3, z4, z5, z6, ne_eq, z7, z8, z9, z10, z11, z12] at hb11
    refine pwp_plain rfl fun K12 hK12 => ?_
    refine p_step rfl (e_move (v := .ptr _ _ _ _) rfl) trivial ?_
    refine p_step rfl (e_move (v := .ptr _ _ _ _) rfl) trivial ?_
    refine p_step rfl (e_move (v := _) rfl) trivial ?_
    refine p_call rfl (.cons (SliceAt.inn (rows' := (o).map ci) hv (by simp) (by first | exact pure_map ci_pure | (simp only [← List.map_append, List.nil_append]; exact pure_map ci_pure))) .nil) (copyC _ (by omega)) ?_
    refine p_step rfl (e_move (v := .sc _) rfl) trivial ?_
    refine p_step rfl (e_nilc rfl) trivial ?_
    refine p_step rfl (e_faP (pl := [(0, 1, false), (1, 1, false), (2, 1, false), (3, 1, false)]) rfl (by kernel_rfl) (by kernel_rfl) (by decide) rfl) trivial ?_
    refine p_store rfl (e_store1 rfl hb rfl rfl rfl (by decide) (by kernel_rfl) rfl (by kernel_rfl)) trivial ?_
    refine p_step rfl (e_nilc rfl) trivial ?_
    refine p_step rfl (e_faP (pl := [(0, 1, false), (1, 1, false), (2, 1, false), (3, 1, false)]) rfl (by kernel_rfl) (by kernel_rfl) (by decide) rfl) trivial ?_
    refine p_store rfl (e_store1 rfl (hset_self _ _ _) rfl rfl rfl (by decide) (by kernel_rfl) rfl (by kernel_rfl)) trivial ?_
    refine p_end (hK12 _ ?_); clear hK12 K12
    refine seq_norm (hK10 _ ?_); clear hK10 K10
    refine pwp_seq_plain rfl fun K13 hK13 => ?_
    refine p_step rfl (e_move (v := .ptr _ _ _ _) rfl) trivial ?_
    refine p_step rfl (e_move (v := .ptr _ _ _ _) rfl) trivial ?_
    refine p_step rfl (e_nilc rfl) trivial ?_
    refine p_step rfl (e_faP (pl := [(0, 1, false), (1, 1, false), (2, 1, false), (3, 1, false)]) rfl (by kernel_rfl) (by kernel_rfl) (by decide) rfl) trivial ?_
    refine p_step rfl (e_loadH (v := .sc _) rfl (hset_self _ _ _) (by kernel_rfl) (by kernel_rfl) (by kernel_rfl) (by exact Nat.zero_lt_one) (by decide) rfl) trivial ?_
    refine p_step rfl (e_add rfl rfl (by first | omega | (simp only [List.length_map] at *; omega))) trivial ?_
    refine p_step rfl (e_nilc rfl) trivial ?_
    refine p_step rfl (e_faP (pl := [(0, 1, false), (1, 1, false), (2, 1, false), (3, 1, false)]) rfl (by kernel_rfl) (by kernel_rfl) (by decide) rfl) trivial ?_
    refine p_store rfl (e_store1 rfl (hset_self _ _ _) rfl rfl rfl (by decide) (by kernel_rfl) rfl (by kernel_rfl)) trivial ?_
    refine p_end (hK13 _ ?_); clear hK13 K13
    refine pwp_ret ?_
    refine ret_seq ?_
    refine end0   ?_
    first
      | exact walk_l1 (by omega) (by omega) (hset_self _ _ _) (FrmW.refl.set.set.set)
      | exact walk_l2 (by omega) (by omega) hbv0 (hset_self _ _ _) (FrmW.refl.set)
      | exact walk_e (by omega) (by omega) (hset_self _ _ _) hbv hfr
   ·have hb11R := hb11; try simp only [z1, z2, z3, z4, z5, z6, ne_eq, z7, z8, z9, z10, z11, z12] at hb11
    refine pwp_skip ?_
    refine seq_norm (hK10 _ ?_); clear hK10 K10
    refine pwp_seq_plain rfl fun K14 hK14 => ?_
    refine p_step rfl (e_move (v := .ptr _ _ _ _) rfl) trivial ?_
    refine p_step rfl (e_move (v := .ptr _ _ _ _) rfl) trivial ?_
    refine p_step rfl (e_nilc rfl) trivial ?_
    refine p_step rfl (e_faP (pl := [(0, 1, false), (1, 1, false), (2, 1, false), (3, 1, false)]) rfl (by kernel_rfl) (by kernel_rfl) (by decide) rfl) trivial ?_
    refine p_step rfl (e_loadH (v := .sc _) rfl hb (by kernel_rfl) (by kernel_rfl) (by kernel_rfl) (by exact Nat.zero_lt_one) (by decide) rfl) trivial ?_
    refine p_step rfl (e_add rfl rfl (by first | omega | (simp only [List.length_map] at *; omega))) trivial ?_
    refine p_step rfl (e_nilc rfl) trivial ?_
    refine p_step rfl (e_faP (pl := [(0, 1, false), (1, 1, false), (2, 1, false), (3, 1, false)]) rfl (by kernel_rfl) (by kernel_rfl) (by decide) rfl) trivial ?_
    refine p_store rfl (e_store1 rfl hb rfl rfl rfl (by decide) (by kernel_rfl) rfl (by kernel_rfl)) trivial ?_
    refine p_end (hK14 _ ?_); clear hK14 K14
    refine pwp_ret ?_
    refine ret_seq ?_
    refine end0   ?_
    first
      | exact walk_l1 (by omega) (by omega) (hset_self _ _ _) (FrmW.refl.set.set.set)
      | exact walk_l2 (by omega) (by omega) hbv0 (hset_self _ _ _) (FrmW.refl.set)
      | exact walk_e (by omega) (by omega) (hset_self _ _ _) hbv hfr
 ·have hb3R := hb3; try simp only [z1, z2, z3, z4, z5, z6, ne_eq, z7, z8, z9, z10, z11, z12] at hb3
  refine pwp_skip ?_
  refine seq_norm (hK2 _ ?_); clear hK2 K2
  obtain ⟨r, rfl⟩ : ∃ r, R = r + 1 := ⟨R - 1, by simp only [List.length_map] at *; omega⟩
  refine pwp_seq_plain rfl fun K15 hK15 => ?_
  refine p_step rfl (e_move (v := .ptr _ _ _ _) rfl) trivial ?_
  refine p_step rfl (e_nilc rfl) trivial ?_
  refine p_step rfl (e_faP (pl := [(0, 1, false), (1, 1, false), (2, 1, false), (3, 1, false)]) rfl (by kernel_rfl) (by kernel_rfl) (by decide) rfl) trivial ?_
  refine p_step rfl (e_loadH (v := .lit _ _ _) rfl hb (by kernel_rfl) (by kernel_rfl) (by kernel_rfl) (by exact Nat.zero_lt_one) (by decide) rfl) trivial ?_
  refine p_step rfl (e_move (v := _) rfl) trivial ?_
  refine p_call rfl (.cons inn_lit (.cons (SliceAt.inn (rows' := (o).map ci) hv (by simp) (by first | exact pure_map ci_pure | (simp only [← List.map_append, List.nil_append]; exact pure_map ci_pure))) .nil)) (marksC _ _ (by omega) (by omega) ho) ?_
  refine p_step rfl (e_assign (v := .lit _ _ _) rfl) trivial ?_
  refine p_end (hK15 _ ?_); clear hK15 K15
  refine pwp_seq_plain rfl fun K16 hK16 => ?_
  refine p_step rfl (e_assign (v := .sc _) rfl) trivial ?_
  refine p_end (hK16 _ ?_); clear hK16 K16
  refine pwp_block ?_
  refine pwp_loopR (α := Nat × PV) [0, 1, 5] (fun (a17 : Nat × PV) => [(6, .int (a17.1))]) (fun (a17 : Nat × PV) (h : Heap) (c : Nat → Nat) => ((a17.1) ≤ xs.length) ∧ (BestV (a17.2) (wkP xs r o S (a17.1)).best) ∧ (FrmW h0 c0 h c) ∧ (SliceAt h 88 v 1 (o.map ci)) ∧ (h (70, 0) = some (SrR xs (wkP xs r o S (a17.1)) (a17.2)))) (fun (a17 : Nat × PV) => xs.length - (a17.1)) (0, w0) (by exact ⟨rfl, trivial⟩) (by exact ⟨by exact Nat.zero_le _, by exact hbv0, by exact FrmW.refl, hv, hb⟩) fun a17 r18 h19 c20 hj21 => ?_
  obtain ⟨k, w⟩ := a17
  obtain ⟨hk, hbv, hfr, hihj21_0, hihj21_1⟩ := hj21
  try dsimp only at hk
  try dsimp only at hbv
  try dsimp only at hfr
  try dsimp only at hihj21_0
  try dsimp only at hihj21_1
  show pwp _ _ (loopQ _ _ _) ⟨sets (mix _ _ _) [(6, .int k)], _, _⟩
  refine pwp_seq_seq ?_
  refine pwp_seq_plain rfl fun K22 hK22 => ?_
  refine p_step rfl (e_move (v := .sc _) rfl) trivial ?_
  refine p_step rfl (e_move (v := .ptr _ _ _ _) rfl) trivial ?_
  refine p_step rfl (e_nilc rfl) trivial ?_
  refine p_step rfl (e_faP (pl := [(0, 1, false), (1, 1, false), (2, 1, false), (3, 1, false)]) rfl (by kernel_rfl) (by kernel_rfl) (by decide) rfl) trivial ?_
  refine p_step rfl (e_loadH (v := .lit _ _ _) rfl hihj21_1 (by kernel_rfl) (by kernel_rfl) (by kernel_rfl) (by exact Nat.zero_lt_one) (by decide) rfl) trivial ?_
  refine p_step rfl (e_len rfl (by kernel_rfl)) trivial ?_
  refine p_step rfl (e_lt rfl rfl) trivial ?_
  refine p_end (hK22 _ ?_); clear hK22 K22
  refine pwp_seq_cond rfl fun K23 hK23 => ⟨fun hb24 => ?_, fun hb24 => ?_⟩
  ·have hb24R := hb24; try simp only [z1, z2, z3, z4, z5, z6, ne_eq, z7, z8, z9, z10, z11, z12] at hb24
   have hkn1 : k < xs.length := by simp only [List.length_map] at *; omega
   obtain ⟨x, hx, hd, ht⟩ := get_lt (xs := xs) (i := k) (by omega)
   have hxr := (task_ok hp hx).2.2.2.1
   have hxl := (hq x (List.mem_of_getElem? hx)).1
   have hrd := not_has (D := o) hx hxr
   have hdl := doneB_len (n := xs.length) (D := o)
   have hct := wkP_cnt (wkF_cnt (xs := xs) r) (o := o) (s := S) k
   have hmu : k * xs.length ^ r + xs.length ^ r ≤ xs.length ^ (r + 1) := by rw [Nat.pow_succ, Nat.mul_comm (xs.length ^ r), ← Nat.succ_mul]; exact Nat.mul_le_mul_right _ hkn1
   have hok : ∀ z ∈ o ++ [(k : Int)], 0 ≤ z ∧ z < (xs.length : Int) := fun z hz => by
     rcases List.mem_append.1 hz with h1 | h1
     · exact ho z h1
     · rw [List.mem_singleton.1 h1]; omega
   refine pwp_skip ?_
   refine seq_norm (hK23 _ ?_); clear hK23 K23
   refine pwp_seq_block fun K25 hK25 => ?_
   refine pwp_seq_gops rfl fun K26 hK26 => ?_
   refine g_begin ?_
   refine g_step rfl rfl rfl rfl (e_move (v := .lit _ _ _) rfl) trivial ?_
   refine g_step rfl rfl rfl rfl (e_move (v := .sc _) rfl) trivial ?_
   refine g_step rfl rfl rfl rfl (e_ixa rfl rfl (by kernel_rfl) (by kernel_rfl) (by first | omega | (simp only [List.length_map, doneB_len]; omega))) trivial ?_
   refine g_step rfl rfl rfl rfl (e_load (v := .sc _) rfl (by kernel_rfl) (by kernel_rfl) (by kernel_rfl) (by first | omega | (simp only [List.length_map, doneB_len]; omega)) (by decide) ((cell_map (doneB_get hkn1) _).trans rfl)) trivial ?_
   refine g_step rfl rfl rfl rfl (e_not rfl) trivial ?_
   refine g_step rfl rfl rfl rfl (e_move (v := .sc _) rfl) trivial ?_
   refine g_cases (fun hb27 => ?_) (fun hb27 => ?_)
   ·have hb27R := hb27; try simp only [z1, z2, z3, z4, z5, z6, ne_eq, z7, z8, z9, z10, z11, z12] at hb27
    refine g_step rfl rfl rfl rfl (e_move (v := .lit _ _ _) rfl) trivial ?_
    refine g_step rfl rfl rfl rfl (e_move (v := .ptr _ _ _ _) rfl) trivial ?_
    refine g_step rfl rfl rfl rfl (e_nilc rfl) trivial ?_
    refine g_step rfl rfl rfl rfl (e_faP (pl := [(0, 1, false), (1, 1, false), (2, 1, false), (3, 1, false)]) rfl (by kernel_rfl) (by kernel_rfl) (by decide) rfl) trivial ?_
    refine g_step rfl rfl rfl rfl (e_loadH (v := .lit _ _ _) rfl hihj21_1 (by kernel_rfl) (by kernel_rfl) (by kernel_rfl) (by exact Nat.zero_lt_one) (by decide) rfl) trivial ?_
    refine g_step rfl rfl rfl rfl (e_move (v := .sc _) rfl) trivial ?_
    refine g_step rfl rfl rfl rfl (e_ixa rfl rfl (by kernel_rfl) (by kernel_rfl) (by first | omega | (simp only [List.length_map, doneB_len]; omega))) trivial ?_
    refine g_step rfl rfl rfl rfl (e_fa (pl := [(0, 1, false), (1, 1, false), (2, 1, false), (3, 1, false), (4, 1, false), (5, 1, false)]) rfl (by kernel_rfl) (by kernel_rfl) (by decide) rfl) trivial ?_
    refine g_step rfl rfl rfl rfl (e_load (v := .lit _ _ _) rfl (by kernel_rfl) (by kernel_rfl) (by kernel_rfl) (by first | omega | (simp only [List.length_map, doneB_len]; omega)) (by decide) ((cell_map hx _).trans rfl)) trivial ?_
    refine g_call rfl rfl rfl rfl (.cons inn_lit (.cons inn_lit .nil)) (hasC _ _ (by omega) (by rw [doneB_len]; exact hxr)) ?_
    refine g_step rfl rfl rfl rfl (e_pickT (v := .sc _) rfl rfl) trivial ?_
    refine g_end (ds := [72, 73, 74, 75, 76, 77, 78, 79, 80, 81]) rfl rfl (hK26 _ ?_); clear hK26 K26
    refine pwp_cond rfl (fun hb28 => ?_) (fun hb28 => ?_)
    ·have hb28R := hb28; try simp only [z1, z2, z3, z4, z5, z6, ne_eq, z7, z8, z9, z10, z11, z12] at hb28
     refine pwp_plainK rfl fun hkn K29 hK29 => ?_
     refine p_step rfl (e_move (v := .ptr _ _ _ _) rfl) trivial ?_
     refine p_step rfl (e_move (v := v) rfl) trivial ?_
     refine p_hcall rfl (hnew1 85 (copyN o (by omega)) (.cons (SliceAt.inn (rows' := o.map ci) hihj21_0 rfl (by exact pure_map ci_pure)) .nil)) fun v85 h85 c85 hR85 => ?_
     obtain ⟨rfl, rfl, rfl⟩ := hR85
     refine p_step rfl (e_move (v := .sc _) rfl) trivial ?_
     refine p_new rfl (e_bslice (rows := [ci (k : Int)]) (zs := [.int 0]) (sz := 1) (by kernel_rfl) (by kernel_rfl) rfl (by kernel_rfl) (by decide) rfl rfl (by exact ⟨by decide, rfl, rfl, trivial⟩) rfl) trivial ?_
     refine p_appK (u := .ref (85, _) 1 0 (o.map ci).length) (sz := 1) (d1 := 85) (rows := o.map ci) (rows2 := [ci (k : Int)]) rfl rfl rfl (.inr ⟨_, rfl, (hset_ne (key_ne rfl)).trans (hset_self _ _ _)⟩) (src_ref (hset_self _ _ _) rfl) (by kernel_rfl) (by simp only [List.length_map, List.length_cons, List.length_nil]; omega) (by simp) fun h1 hr1 hf1 => ?_
     have hfa := FrmW.app hfr hf1
     have hb1 := (hf1 (70, 0) (key_ne rfl) (fun _ _ => key_ne rfl)).trans ((hset_ne (key_ne rfl)).trans ((hset_ne (key_ne rfl)).trans hihj21_1))
     refine p_hcall rfl (hih r (by omega) (o ++ [(k : Int)]) (wkP xs r o S k) w _ h1 _ hok (by rw [List.length_append, List.length_singleton]; omega) (by omega) (by omega) hb1 hbv (.inr ⟨_, congrArg (PV.ref _ 1 0) (by simp only [List.length_map, List.length_append, List.length_cons, List.length_nil]), hr1.trans (by rw [List.map_append]; rfl)⟩) (fun g n e => app_gen e)) fun v9 h9 c9 hR9 => ?_
     obtain ⟨⟨w9, hb9, hbv9⟩, hfw9⟩ := hR9
     have hfr9 := hfa.trans hfw9
     have hv9 := sl_keep hv hvg hfr9
     refine p_end (hK29 _ ?_); clear hK29 K29
     refine block_norm ?_
     refine seq_norm (hK25 _ ?_); clear hK25 K25
     have hwk := wkP_t (r := r) (s := S) (rdy_t hrd (by assumption) (by assumption))
     refine pwp_plain rfl fun K30 hK30 => ?_
     refine p_step rfl (e_move (v := .sc _) rfl) trivial ?_
     refine p_step rfl (e_add rfl rfl (by first | omega | (simp only [List.length_map] at *; omega))) trivial ?_
     refine p_step rfl (e_assign (v := .sc _) rfl) trivial ?_
     refine p_end (hK30 _ ?_); clear hK30 K30
     exact loop_again ((k + 1, w9)) (by show _ < _; simp only; omega) ⟨rfl, rfl, rfl, trivial⟩ ⟨rfl, trivial⟩ (by exact ⟨by show _ + 1 ≤ _; omega, by (show BestV _ (wkP xs r o S (k + 1)).best; rw [hwk]; first | exact hbv9 | exact hbv), by first | exact hfr9 | exact hfr, hv9, (hb9.trans (by (rw [hwk])))⟩)
    ·have hb28R := hb28; try simp only [z1, z2, z3, z4, z5, z6, ne_eq, z7, z8, z9, z10, z11, z12] at hb28
     refine pwp_skip ?_
     refine block_norm ?_
     refine seq_norm (hK25 _ ?_); clear hK25 K25
     have hwk : wkP xs r o S (k + 1) = wkP xs r o S k := by
      first
      | exact wkP_f (rdy_f1 hrd (by assumption))
      | exact wkP_f (rdy_f2 hrd (by assumption))
     refine pwp_plain rfl fun K31 hK31 => ?_
     refine p_step rfl (e_move (v := .sc _) rfl) trivial ?_
     refine p_step rfl (e_add rfl rfl (by first | omega | (simp only [List.length_map] at *; omega))) trivial ?_
     refine p_step rfl (e_assign (v := .sc _) rfl) trivial ?_
     refine p_end (hK31 _ ?_); clear hK31 K31
     exact loop_again ((k + 1, w)) (by show _ < _; simp only; omega) ⟨rfl, rfl, rfl, trivial⟩ ⟨rfl, trivial⟩ (by exact ⟨by show _ + 1 ≤ _; omega, by (show BestV _ (wkP xs r o S (k + 1)).best; rw [hwk]; first | exact hbv9 | exact hbv), by first | exact hfr9 | exact hfr, hihj21_0, (hihj21_1.trans (by (rw [hwk])))⟩)
   ·have hb27R := hb27; try simp only [z1, z2, z3, z4, z5, z6, ne_eq, z7, z8, z9, z10, z11, z12] at hb27
    refine g_skip rfl rfl rfl ?_
    refine g_skip rfl rfl rfl ?_
    refine g_skip rfl rfl rfl ?_
    refine g_skip rfl rfl rfl ?_
    refine g_skip rfl rfl rfl ?_
    refine g_skip rfl rfl rfl ?_
    refine g_skip rfl rfl rfl ?_
    refine g_skip rfl rfl rfl ?_
    refine g_skip rfl rfl rfl ?_
    refine g_nocall rfl rfl rfl ?_
    refine g_step rfl rfl rfl rfl (e_pickF (v := .sc _) rfl rfl) trivial ?_
    refine g_end (ds := [72, 73, 74, 75, 76, 77, 78, 79, 80, 81]) rfl rfl (hK26 _ ?_); clear hK26 K26
    refine pwp_cond (t := false) rfl nofun (fun _ => ?_)
    refine pwp_skip ?_
    refine block_norm ?_
    refine seq_norm (hK25 _ ?_); clear hK25 K25
    have hwk : wkP xs r o S (k + 1) = wkP xs r o S k := by
     first
     | exact wkP_f (rdy_f1 hrd (by assumption))
     | exact wkP_f (rdy_f2 hrd (by assumption))
    refine pwp_plain rfl fun K32 hK32 => ?_
    refine p_step rfl (e_move (v := .sc _) rfl) trivial ?_
    refine p_step rfl (e_add rfl rfl (by first | omega | (simp only [List.length_map] at *; omega))) trivial ?_
    refine p_step rfl (e_assign (v := .sc _) rfl) trivial ?_
    refine p_end (hK32 _ ?_); clear hK32 K32
    exact loop_again ((k + 1, w)) (by show _ < _; simp only; omega) ⟨rfl, rfl, rfl, trivial⟩ ⟨rfl, trivial⟩ (by exact ⟨by show _ + 1 ≤ _; omega, by (show BestV _ (wkP xs r o S (k + 1)).best; rw [hwk]; first | exact hbv9 | exact hbv), by first | exact hfr9 | exact hfr, hihj21_0, (hihj21_1.trans (by (rw [hwk])))⟩)
  ·have hb24R := hb24; try simp only [z1, z2, z3, z4, z5, z6, ne_eq, z7, z8, z9, z10, z11, z12] at hb24
   have hkl : xs.length ≤ k := by simp only [List.length_map] at *; omega
   refine pwp_exit ?_
   refine exit_seq ?_
   clear hK23 K23
   refine exit_loop ?_
   refine exit_here ?_
   refine end0n   ?_
   first
     | exact walk_l1 (by omega) (by omega) hihj21_1 (FrmW.refl.set.set.set)
     | exact walk_l2 (by omega) (by omega) hbv0 hihj21_1 (FrmW.refl.set)
     | exact walk_e (by omega) (by omega) hihj21_1 hbv hfr

theorem walkC {xs : List Task} (hp : planE xs = 0) (hq : Fair xs) (hn : xs.length ≤ 6) (R : Nat) : WalkOK xs R := by
 induction R using Nat.strongRecOn with
 | ind R ih => exact fun o S w v h0 c0 h1 h2 h3 h4 h5 h6 h7 h8 => walkS xs hp hq hn R ih o S w v h0 c0 h1 h2 h3 h4 h5 h6 h7 h8

end Go.Proofs.Ytjmjiegplnfiiaa

/- ErectionFewest at P level. No conditions. -/
set_option linter.unusedSimpArgs false
set_option linter.unusedVariables false
set_option maxRecDepth 100000
namespace Go.Proofs.Ytjmjiegplnfiiaa
open Go Go.Pv
theorem LitV.inn {h : Heap} {w : PV} {l : List Int} (hb : BestV w l) : Inn h w (.lit true 1 (l.map ci)) := by
 rcases hb with ⟨rfl, rfl⟩ | rfl
 · exact .base (.nil true 1)
 · exact .base (.lit fun _ => rfl)
section
variable {xs : List Task} {e : Int}
theorem small_pE (h : planE xs ≠ 0) : smallE xs = planE xs := if_pos h
theorem small_8E (h : planE xs = 0) (h2 : 14 < xs.length) : smallE xs = 8 := by rw [smallE, if_neg (fun q => q h), if_pos h2]
theorem small_0E (h : planE xs = 0) (h2 : xs.length ≤ 14) : smallE xs = 0 := by rw [smallE, if_neg (fun q => q h), if_neg (by omega)]
theorem few_eqE (h : smallE xs = e) (he : e ≠ 0) : fewR xs = ([], 0, e) := by rw [fewR, h, if_pos he]
theorem ord_eqE (h : smallE xs = e) (he : e ≠ 0) : ordN xs = (0, e) := by rw [ordN, h, if_pos he]
theorem few_eq0 (h : smallE xs = 0) : fewR xs = ((grdF xs xs.length).out, (grdF xs xs.length).sum, 0) := by rw [fewR, if_neg (fun q => q h)]
theorem ord_eq0 (h : smallE xs = 0) : ordN xs = (cntC xs xs.length 0, 0) := by rw [ordN, if_neg (fun q => q h), C0_orders]
theorem grd_len (h : planE xs = 0) (hn : xs.length ≤ 14) : (grdF xs xs.length).out.length = xs.length := (grd_step h hn _ (Nat.le_refl _)).2.2.2.2.1
theorem walk_pow {n : Nat} (h : n ≤ 6) : (0 : Int) + ((n ^ n : Nat) : Int) ≤ 1000000 := by have := pow_nn h; omega
end

theorem fr3 : (inFrame Try.f3.ntmps (Try.f3.body.getD .skip) && Try.f3.results.toList.all (resScope Try.f3.ntmps)) = true := by kernel_rfl
theorem hFewest (xs : List Task) (hl : xs.length ≤ 9223372036854775807) : PCalls Try.prog 3 [.lit true 6 (xs.map Task.enc)] (.bool true) := by
 refine PCalls.of_code Try.func3 rfl rfl (by kernel_rfl) mixed fr3 (by show _ ≤ 103; simp) (.sc _) ?_
 refine pwp_seq_plain rfl fun K1 hK1 => ?_
 refine p_step rfl (e_assign (v := .sc _) rfl) trivial ?_
 refine p_end (hK1 _ ?_); clear hK1 K1
 refine pwp_seq_seq ?_
 refine pwp_seq_plain rfl fun K2 hK2 => ?_
 refine p_call rfl .nil (awake) ?_
 refine p_step rfl (e_not rfl) trivial ?_
 refine p_end (hK2 _ ?_); clear hK2 K2
 refine pwp_seq_cond (t := false) rfl fun K3 hK3 => ⟨nofun, fun _ => ?_⟩
 refine pwp_skip ?_
 refine seq_norm (hK3 _ ?_); clear hK3 K3
 refine pwp_seq_seq ?_
 refine pwp_seq_gops rfl fun K4 hK4 => ?_
 refine g_begin ?_
 refine g_step rfl rfl rfl rfl (e_move (v := .lit _ _ _) rfl) trivial ?_
 refine g_call rfl rfl rfl rfl (.cons inn_lit (.cons inn_sc .nil)) (FewC _ _ (by omega)) ?_
 refine g_step rfl rfl rfl rfl (e_not rfl) trivial ?_
 refine g_step rfl rfl rfl rfl (e_move (v := .sc _) rfl) trivial ?_
 refine g_cases (fun hb5 => ?_) (fun hb5 => ?_)
 ·have hb5R := hb5; try simp only [z1, z2, z3, z4, z5, z6, ne_eq, z7, z8, z9, z10, z11, z12] at hb5
  refine g_skip rfl rfl rfl ?_
  refine g_skip rfl rfl rfl ?_
  refine g_skip rfl rfl rfl ?_
  refine g_skip rfl rfl rfl ?_
  refine g_skip rfl rfl rfl ?_
  refine g_skip rfl rfl rfl ?_
  refine g_skip rfl rfl rfl ?_
  refine g_skip rfl rfl rfl ?_
  refine g_step rfl rfl rfl rfl (e_pickT (v := .sc _) rfl rfl) trivial ?_
  refine g_end (ds := [16, 17, 18, 19, 20, 21, 22, 23]) rfl rfl (hK4 _ ?_); clear hK4 K4
  refine pwp_seq_cond (t := true) rfl fun K6 hK6 => ⟨fun _ => ?_, nofun⟩
  refine pwp_seq_plain rfl fun K7 hK7 => ?_
  refine p_step rfl (e_assign (v := .sc _) rfl) trivial ?_
  refine p_end (hK7 _ ?_); clear hK7 K7
  refine pwp_ret ?_
  refine ret_seq ?_
  refine end1 (v := .sc _) rfl ?_
  first
    | exact out_b rfl
    | exact out_b (by first | (simp_all; done) | fail)
 ·have hb5R := hb5; try simp only [z1, z2, z3, z4, z5, z6, ne_eq, z7, z8, z9, z10, z11, z12] at hb5
  refine g_step rfl rfl rfl rfl (e_move (v := .lit _ _ _) rfl) trivial ?_
  refine g_step rfl rfl rfl rfl (e_len rfl (by kernel_rfl)) trivial ?_
  refine g_step rfl rfl rfl rfl (e_gt rfl rfl) trivial ?_
  refine g_step rfl rfl rfl rfl (e_move (v := .sc _) rfl) trivial ?_
  refine g_cases (fun hb8 => ?_) (fun hb8 => ?_)
  ·have hb8R := hb8; try simp only [z1, z2, z3, z4, z5, z6, ne_eq, z7, z8, z9, z10, z11, z12] at hb8
   refine g_step rfl rfl rfl rfl (e_move (v := .lit _ _ _) rfl) trivial ?_
   refine g_step rfl rfl rfl rfl (e_len rfl (by kernel_rfl)) trivial ?_
   refine g_step rfl rfl rfl rfl (e_le rfl rfl) trivial ?_
   refine g_step rfl rfl rfl rfl (e_pickT (v := .sc _) rfl rfl) trivial ?_
   refine g_step rfl rfl rfl rfl (e_pickF (v := .sc _) rfl rfl) trivial ?_
   refine g_end (ds := [16, 17, 18, 19, 20, 21, 22, 23]) rfl rfl (hK4 _ ?_); clear hK4 K4
   refine pwp_seq_cond rfl fun K9 hK9 => ⟨fun hb10 => ?_, fun hb10 => ?_⟩
   ·have hb10R := hb10; try simp only [z1, z2, z3, z4, z5, z6, ne_eq, z7, z8, z9, z10, z11, z12] at hb10
    refine pwp_seq_plain rfl fun K11 hK11 => ?_
    refine p_step rfl (e_assign (v := .sc _) rfl) trivial ?_
    refine p_end (hK11 _ ?_); clear hK11 K11
    refine pwp_ret ?_
    refine ret_seq ?_
    refine end1 (v := .sc _) rfl ?_
    first
      | exact out_b rfl
      | exact out_b (by first | (simp_all; done) | fail)
   ·have hb10R := hb10; try simp only [z1, z2, z3, z4, z5, z6, ne_eq, z7, z8, z9, z10, z11, z12] at hb10
    refine pwp_skip ?_
    refine seq_norm (hK9 _ ?_); clear hK9 K9
    have hfw := few_fair (by assumption)
    refine pwp_seq_plain rfl fun K12 hK12 => ?_
    refine p_step rfl (e_move (v := .lit _ _ _) rfl) trivial ?_
    refine p_call rfl (.cons inn_lit .nil) (FewestC _ (by omega) hfw.2 (by simp only [List.length_map] at *; omega)) ?_
    refine p_step rfl (e_move (v := .tup _) rfl) trivial ?_
    refine p_step rfl (e_ext (v := .lit _ _ _) rfl (by simp) rfl) trivial ?_
    refine p_step rfl (e_ext (v := .sc _) rfl (by simp) rfl) trivial ?_
    refine p_step rfl (e_ext (v := .sc _) rfl (by simp) rfl) trivial ?_
    refine p_step rfl (e_assign (v := .lit _ _ _) rfl) trivial ?_
    refine p_step rfl (e_assign (v := .sc _) rfl) trivial ?_
    refine p_step rfl (e_assign (v := .sc _) rfl) trivial ?_
    refine p_end (hK12 _ ?_); clear hK12 K12
    refine pwp_seq_plain rfl fun K13 hK13 => ?_
    refine p_step rfl (e_move (v := .lit _ _ _) rfl) trivial ?_
    refine p_call rfl (.cons inn_lit .nil) (OrdersC _ (by omega) hfw.2 (by simp only [List.length_map] at *; omega)) ?_
    refine p_step rfl (e_move (v := .tup _) rfl) trivial ?_
    refine p_step rfl (e_ext (v := .sc _) rfl (by simp) rfl) trivial ?_
    refine p_step rfl (e_ext (v := .sc _) rfl (by simp) rfl) trivial ?_
    refine p_step rfl (e_assign (v := .sc _) rfl) trivial ?_
    refine p_step rfl (e_assign (v := .sc _) rfl) trivial ?_
    refine p_end (hK13 _ ?_); clear hK13 K13
    refine pwp_seq_plain rfl fun K14 hK14 => ?_
    refine p_step rfl (e_move (v := .lit _ _ _) rfl) trivial ?_
    refine p_call rfl (.cons inn_lit .nil) (refCheckC _ (by omega) hfw.2) ?_
    refine p_step rfl (e_assign (v := .sc _) rfl) trivial ?_
    refine p_end (hK14 _ ?_); clear hK14 K14
    refine pwp_seq_seq ?_
    refine pwp_seq_gops rfl fun K15 hK15 => ?_
    refine g_begin ?_
    refine g_step rfl rfl rfl rfl (e_move (v := .sc _) rfl) trivial ?_
    refine g_step rfl rfl rfl rfl (e_eq rfl rfl) trivial ?_
    refine g_step rfl rfl rfl rfl (e_move (v := .sc _) rfl) trivial ?_
    refine g_cases (fun hb16 => ?_) (fun hb16 => ?_)
    ·have hb16R := hb16; try simp only [z1, z2, z3, z4, z5, z6, ne_eq, z7, z8, z9, z10, z11, z12] at hb16
     refine g_step rfl rfl rfl rfl (e_move (v := .lit _ _ _) rfl) trivial ?_
     refine g_step rfl rfl rfl rfl (e_len rfl (by kernel_rfl)) trivial ?_
     refine g_step rfl rfl rfl rfl (e_gt rfl rfl) trivial ?_
     refine g_step rfl rfl rfl rfl (e_pickT (v := .sc _) rfl rfl) trivial ?_
     refine g_end (ds := [41, 42, 43]) rfl rfl (hK15 _ ?_); clear hK15 K15
     refine pwp_seq_cond rfl fun K17 hK17 => ⟨fun hb18 => ?_, fun hb18 => ?_⟩
     ·have hb18R := hb18; try simp only [z1, z2, z3, z4, z5, z6, ne_eq, z7, z8, z9, z10, z11, z12] at hb18
      refine pwp_plain rfl fun K19 hK19 => ?_
      refine p_step rfl (e_assign (v := .sc _) rfl) trivial ?_
      refine p_end (hK19 _ ?_); clear hK19 K19
      refine seq_norm (hK17 _ ?_); clear hK17 K17
      refine pwp_seq_seq ?_
      refine pwp_seq_plain rfl fun K20 hK20 => ?_
      refine p_step rfl (e_move (v := .sc _) rfl) trivial ?_
      refine p_step rfl (e_ne rfl rfl) trivial ?_
      refine p_end (hK20 _ ?_); clear hK20 K20
      refine pwp_seq_cond rfl fun K21 hK21 => ⟨fun hb22 => ?_, fun hb22 => ?_⟩
      ·have hb22R := hb22; try simp only [z1, z2, z3, z4, z5, z6, ne_eq, z7, z8, z9, z10, z11, z12] at hb22
       have hsm : smallE xs = (8) := by
         first
         | exact small_pE (by assumption)
         | exact small_8E (by first | assumption | omega) (by simp only [List.length_map] at *; omega)
       have hne : ((8) : Int) ≠ 0 := by first | assumption | decide
       have f1 := few_eqE hsm hne
       have f2 := ord_eqE hsm hne
       have f11 := congrArg Prod.fst f1
       have f12 := congrArg (fun p => p.2.1) f1
       have f13 := congrArg (fun p => p.2.2) f1
       have f21 := congrArg Prod.fst f2
       have f22 := congrArg Prod.snd f2
       dsimp only at f11 f12 f13 f21 f22
       refine pwp_seq_gops rfl fun K23 hK23 => ?_
       refine g_begin ?_
       refine g_step rfl rfl rfl rfl (e_move (v := .sc _) rfl) trivial ?_
       refine g_step rfl rfl rfl rfl (e_move (v := .sc _) rfl) trivial ?_
       refine g_step rfl rfl rfl rfl (e_eq rfl rfl) trivial ?_
       refine g_step rfl rfl rfl rfl (e_move (v := .sc _) rfl) trivial ?_
       refine g_cases (fun hb24 => ?_) (fun hb24 => ?_)
       ·have hb24R := hb24; try simp only [z1, z2, z3, z4, z5, z6, ne_eq, z7, z8, z9, z10, z11, z12] at hb24
        refine g_step rfl rfl rfl rfl (e_move (v := .sc _) rfl) trivial ?_
        refine g_step rfl rfl rfl rfl (e_move (v := .sc _) rfl) trivial ?_
        refine g_step rfl rfl rfl rfl (e_eq rfl rfl) trivial ?_
        refine g_step rfl rfl rfl rfl (e_pickT (v := .sc _) rfl rfl) trivial ?_
        refine g_step rfl rfl rfl rfl (e_move (v := .sc _) rfl) trivial ?_
        refine g_cases (fun hb25 => ?_) (fun hb25 => ?_)
        ·have hb25R := hb25; try simp only [z1, z2, z3, z4, z5, z6, ne_eq, z7, z8, z9, z10, z11, z12] at hb25
         refine g_step rfl rfl rfl rfl (e_move (v := .lit _ _ _) rfl) trivial ?_
         refine g_step rfl rfl rfl rfl (e_len rfl (by kernel_rfl)) trivial ?_
         refine g_step rfl rfl rfl rfl (e_eq rfl rfl) trivial ?_
         refine g_step rfl rfl rfl rfl (e_pickT (v := .sc _) rfl rfl) trivial ?_
         refine g_step rfl rfl rfl rfl (e_move (v := .sc _) rfl) trivial ?_
         refine g_cases (fun hb26 => ?_) (fun hb26 => ?_)
         ·have hb26R := hb26; try simp only [z1, z2, z3, z4, z5, z6, ne_eq, z7, z8, z9, z10, z11, z12] at hb26
          refine g_step rfl rfl rfl rfl (e_move (v := .sc _) rfl) trivial ?_
          refine g_step rfl rfl rfl rfl (e_eq rfl rfl) trivial ?_
          refine g_step rfl rfl rfl rfl (e_pickT (v := .sc _) rfl rfl) trivial ?_
          refine g_step rfl rfl rfl rfl (e_move (v := .sc _) rfl) trivial ?_
          refine g_cases (fun hb27 => ?_) (fun hb27 => ?_)
          ·have hb27R := hb27; try simp only [z1, z2, z3, z4, z5, z6, ne_eq, z7, z8, z9, z10, z11, z12] at hb27
           refine g_step rfl rfl rfl rfl (e_move (v := .sc _) rfl) trivial ?_
           refine g_step rfl rfl rfl rfl (e_eq rfl rfl) trivial ?_
           refine g_step rfl rfl rfl rfl (e_pickT (v := .sc _) rfl rfl) trivial ?_
           refine g_step rfl rfl rfl rfl (e_assign (v := .sc _) rfl) trivial ?_
           refine g_end (ds := [51, 52, 53, 56, 57, 58, 61, 62, 65, 66]) rfl rfl (hK23 _ ?_); clear hK23 K23
           refine pwp_ret ?_
           refine ret_seq ?_
           refine end1 (v := .sc _) rfl ?_
           first
             | exact out_b rfl
             | exact out_b (by first | (simp_all; done) | fail)
          ·have hb27R := hb27; try simp only [z1, z2, z3, z4, z5, z6, ne_eq, z7, z8, z9, z10, z11, z12] at hb27
           refine g_skip rfl rfl rfl ?_
           refine g_skip rfl rfl rfl ?_
           refine g_step rfl rfl rfl rfl (e_pickF (v := .sc _) rfl rfl) trivial ?_
           refine g_step rfl rfl rfl rfl (e_assign (v := .sc _) rfl) trivial ?_
           refine g_end (ds := [51, 52, 53, 56, 57, 58, 61, 62, 65, 66]) rfl rfl (hK23 _ ?_); clear hK23 K23
           refine pwp_ret ?_
           refine ret_seq ?_
           refine end1 (v := .sc _) rfl ?_
           first
             | exact out_b rfl
             | exact out_b (by first | (simp_all; done) | fail)
         ·have hb26R := hb26; try simp only [z1, z2, z3, z4, z5, z6, ne_eq, z7, z8, z9, z10, z11, z12] at hb26
          refine g_skip rfl rfl rfl ?_
          refine g_skip rfl rfl rfl ?_
          refine g_step rfl rfl rfl rfl (e_pickF (v := .sc _) rfl rfl) trivial ?_
          refine g_step rfl rfl rfl rfl (e_move (v := .sc _) rfl) trivial ?_
          refine g_skip rfl rfl rfl ?_
          refine g_skip rfl rfl rfl ?_
          refine g_step rfl rfl rfl rfl (e_pickF (v := .sc _) rfl rfl) trivial ?_
          refine g_step rfl rfl rfl rfl (e_assign (v := .sc _) rfl) trivial ?_
          refine g_end (ds := [51, 52, 53, 56, 57, 58, 61, 62, 65, 66]) rfl rfl (hK23 _ ?_); clear hK23 K23
          refine pwp_ret ?_
          refine ret_seq ?_
          refine end1 (v := .sc _) rfl ?_
          first
            | exact out_b rfl
            | exact out_b (by first | (simp_all; done) | fail)
        ·have hb25R := hb25; try simp only [z1, z2, z3, z4, z5, z6, ne_eq, z7, z8, z9, z10, z11, z12] at hb25
         refine g_skip rfl rfl rfl ?_
         refine g_skip rfl rfl rfl ?_
         refine g_skip rfl rfl rfl ?_
         refine g_step rfl rfl rfl rfl (e_pickF (v := .sc _) rfl rfl) trivial ?_
         refine g_step rfl rfl rfl rfl (e_move (v := .sc _) rfl) trivial ?_
         refine g_skip rfl rfl rfl ?_
         refine g_skip rfl rfl rfl ?_
         refine g_step rfl rfl rfl rfl (e_pickF (v := .sc _) rfl rfl) trivial ?_
         refine g_step rfl rfl rfl rfl (e_move (v := .sc _) rfl) trivial ?_
         refine g_skip rfl rfl rfl ?_
         refine g_skip rfl rfl rfl ?_
         refine g_step rfl rfl rfl rfl (e_pickF (v := .sc _) rfl rfl) trivial ?_
         refine g_step rfl rfl rfl rfl (e_assign (v := .sc _) rfl) trivial ?_
         refine g_end (ds := [51, 52, 53, 56, 57, 58, 61, 62, 65, 66]) rfl rfl (hK23 _ ?_); clear hK23 K23
         refine pwp_ret ?_
         refine ret_seq ?_
         refine end1 (v := .sc _) rfl ?_
         first
           | exact out_b rfl
           | exact out_b (by first | (simp_all; done) | fail)
       ·have hb24R := hb24; try simp only [z1, z2, z3, z4, z5, z6, ne_eq, z7, z8, z9, z10, z11, z12] at hb24
        refine g_skip rfl rfl rfl ?_
        refine g_skip rfl rfl rfl ?_
        refine g_skip rfl rfl rfl ?_
        refine g_step rfl rfl rfl rfl (e_pickF (v := .sc _) rfl rfl) trivial ?_
        refine g_step rfl rfl rfl rfl (e_move (v := .sc _) rfl) trivial ?_
        refine g_skip rfl rfl rfl ?_
        refine g_skip rfl rfl rfl ?_
        refine g_skip rfl rfl rfl ?_
        refine g_step rfl rfl rfl rfl (e_pickF (v := .sc _) rfl rfl) trivial ?_
        refine g_step rfl rfl rfl rfl (e_move (v := .sc _) rfl) trivial ?_
        refine g_skip rfl rfl rfl ?_
        refine g_skip rfl rfl rfl ?_
        refine g_step rfl rfl rfl rfl (e_pickF (v := .sc _) rfl rfl) trivial ?_
        refine g_step rfl rfl rfl rfl (e_move (v := .sc _) rfl) trivial ?_
        refine g_skip rfl rfl rfl ?_
        refine g_skip rfl rfl rfl ?_
        refine g_step rfl rfl rfl rfl (e_pickF (v := .sc _) rfl rfl) trivial ?_
        refine g_step rfl rfl rfl rfl (e_assign (v := .sc _) rfl) trivial ?_
        refine g_end (ds := [51, 52, 53, 56, 57, 58, 61, 62, 65, 66]) rfl rfl (hK23 _ ?_); clear hK23 K23
        refine pwp_ret ?_
        refine ret_seq ?_
        refine end1 (v := .sc _) rfl ?_
        first
          | exact out_b rfl
          | exact out_b (by first | (simp_all; done) | fail)
      ·have hb22R := hb22; try simp only [z1, z2, z3, z4, z5, z6, ne_eq, z7, z8, z9, z10, z11, z12] at hb22
       refine pwp_skip ?_
       refine seq_norm (hK21 _ ?_); clear hK21 K21
       have hp : planE xs = 0 := by first | assumption | omega
       have hn14 : xs.length ≤ 14 := by simp only [List.length_map] at *; omega
       have hn6 : xs.length ≤ 6 := by simp only [List.length_map] at *; omega
       have hsm := small_0E hp hn14
       have f1 := few_eq0 hsm
       have f2 := ord_eq0 hsm
       have f11 := congrArg Prod.fst f1
       have f12 := congrArg (fun p => p.2.1) f1
       have f13 := congrArg (fun p => p.2.2) f1
       have f21 := congrArg Prod.fst f2
       have f22 := congrArg Prod.snd f2
       dsimp only at f11 f12 f13 f21 f22
       have hgl := grd_len hp hn14
       refine pwp_seq_plain rfl fun K28 hK28 => ?_
       refine p_step rfl (e_move (v := .lit _ _ _) rfl) trivial ?_
       refine p_step rfl (e_build (zs := [.nil, .int 0, .nil, .int 0]) (pl := [(0, 1, false), (1, 1, false), (2, 1, false), (3, 1, false)]) (by kernel_rfl) (by kernel_rfl) (by kernel_rfl) rfl rfl (by exact ⟨by decide, rfl, Nat.le_of_ble_eq_true rfl, rfl, trivial⟩) rfl) trivial ?_
       refine p_new rfl (e_box (n := 4) rfl rfl) ⟨rfl, by decide⟩ ?_
       refine p_step rfl (e_assign (v := .ptr _ _ _ _) rfl) trivial ?_
       refine p_end (hK28 _ ?_); clear hK28 K28
       refine pwp_seq_plain rfl fun K29 hK29 => ?_
       refine p_step rfl (e_move (v := .ptr _ _ _ _) rfl) trivial ?_
       refine p_hcall rfl (walkC hp hfw.2 hn6 xs.length [] ⟨0, [], 0⟩ .nil .nil _ _ (fun z hz => by cases hz) (Nat.zero_add _) (Int.le_refl _) (walk_pow hn6) (hset_self _ _ _) (.inl ⟨rfl, rfl⟩) .nil (fun g n e => by cases e)) fun v9 h9 c9 hR9 => ?_
       obtain ⟨⟨w, hb9, hbw⟩, hfr9⟩ := hR9
       rw [walk_few hp hn14] at hb9 hbw
       refine p_end (hK29 _ ?_); clear hK29 K29
       refine pwp_seq_gops rfl fun K30 hK30 => ?_
       refine g_begin ?_
       refine g_step rfl rfl rfl rfl (e_move (v := .sc _) rfl) trivial ?_
       refine g_step rfl rfl rfl rfl (e_eq rfl rfl) trivial ?_
       refine g_step rfl rfl rfl rfl (e_move (v := .sc _) rfl) trivial ?_
       refine g_cases (fun hb31 => ?_) (fun hb31 => ?_)
       ·have hb31R := hb31; try simp only [z1, z2, z3, z4, z5, z6, ne_eq, z7, z8, z9, z10, z11, z12] at hb31
        refine g_step rfl rfl rfl rfl (e_move (v := .sc _) rfl) trivial ?_
        refine g_step rfl rfl rfl rfl (e_eq rfl rfl) trivial ?_
        refine g_step rfl rfl rfl rfl (e_pickT (v := .sc _) rfl rfl) trivial ?_
        refine g_step rfl rfl rfl rfl (e_move (v := .sc _) rfl) trivial ?_
        refine g_cases (fun hb32 => ?_) (fun hb32 => ?_)
        ·have hb32R := hb32; try simp only [z1, z2, z3, z4, z5, z6, ne_eq, z7, z8, z9, z10, z11, z12] at hb32
         refine g_step rfl rfl rfl rfl (e_move (v := .lit _ _ _) rfl) trivial ?_
         refine g_step rfl rfl rfl rfl (e_move (v := .ptr _ _ _ _) rfl) trivial ?_
         refine g_step rfl rfl rfl rfl (e_nilc rfl) trivial ?_
         refine g_step rfl rfl rfl rfl (e_faP (pl := [(0, 1, false), (1, 1, false), (2, 1, false), (3, 1, false)]) rfl (by kernel_rfl) (by kernel_rfl) (by decide) rfl) trivial ?_
         refine g_step rfl rfl rfl rfl (e_loadH (v := w) rfl hb9 (by kernel_rfl) (by kernel_rfl) (by kernel_rfl) (by exact Nat.zero_lt_one) (by decide) rfl) trivial ?_
         refine g_call rfl rfl rfl rfl (.cons inn_lit (.cons (LitV.inn hbw) .nil)) (IntsC _ _ (by rw [f11, hgl]; omega)) ?_
         refine g_step rfl rfl rfl rfl (e_pickT (v := .sc _) rfl rfl) trivial ?_
         refine g_step rfl rfl rfl rfl (e_move (v := .sc _) rfl) trivial ?_
         refine g_cases (fun hb33 => ?_) (fun hb33 => ?_)
         ·have hb33R := hb33; try simp only [z1, z2, z3, z4, z5, z6, ne_eq, z7, z8, z9, z10, z11, z12] at hb33
          refine g_step rfl rfl rfl rfl (e_move (v := .sc _) rfl) trivial ?_
          refine g_step rfl rfl rfl rfl (e_move (v := .ptr _ _ _ _) rfl) trivial ?_
          refine g_step rfl rfl rfl rfl (e_nilc rfl) trivial ?_
          refine g_step rfl rfl rfl rfl (e_faP (pl := [(0, 1, false), (1, 1, false), (2, 1, false), (3, 1, false)]) rfl (by kernel_rfl) (by kernel_rfl) (by decide) rfl) trivial ?_
          refine g_step rfl rfl rfl rfl (e_loadH (v := .sc _) rfl hb9 (by kernel_rfl) (by kernel_rfl) (by kernel_rfl) (by exact Nat.zero_lt_one) (by decide) rfl) trivial ?_
          refine g_step rfl rfl rfl rfl (e_eq rfl rfl) trivial ?_
          refine g_step rfl rfl rfl rfl (e_pickT (v := .sc _) rfl rfl) trivial ?_
          refine g_step rfl rfl rfl rfl (e_move (v := .sc _) rfl) trivial ?_
          refine g_cases (fun hb34 => ?_) (fun hb34 => ?_)
          ·have hb34R := hb34; try simp only [z1, z2, z3, z4, z5, z6, ne_eq, z7, z8, z9, z10, z11, z12] at hb34
           refine g_step rfl rfl rfl rfl (e_move (v := .sc _) rfl) trivial ?_
           refine g_step rfl rfl rfl rfl (e_move (v := .ptr _ _ _ _) rfl) trivial ?_
           refine g_step rfl rfl rfl rfl (e_nilc rfl) trivial ?_
           refine g_step rfl rfl rfl rfl (e_faP (pl := [(0, 1, false), (1, 1, false), (2, 1, false), (3, 1, false)]) rfl (by kernel_rfl) (by kernel_rfl) (by decide) rfl) trivial ?_
           refine g_step rfl rfl rfl rfl (e_loadH (v := .sc _) rfl hb9 (by kernel_rfl) (by kernel_rfl) (by kernel_rfl) (by exact Nat.zero_lt_one) (by decide) rfl) trivial ?_
           refine g_step rfl rfl rfl rfl (e_eq rfl rfl) trivial ?_
           refine g_step rfl rfl rfl rfl (e_pickT (v := .sc _) rfl rfl) trivial ?_
           refine g_step rfl rfl rfl rfl (e_assign (v := .sc _) rfl) trivial ?_
           refine g_end (ds := [76, 77, 80, 81, 82, 83, 84, 85, 88, 89, 90, 91, 92, 93, 96, 97, 98, 99, 100, 101]) rfl rfl (hK30 _ ?_); clear hK30 K30
           refine pwp_ret ?_
           refine end1 (v := .sc _) rfl ?_
           first
             | exact out_b rfl
             | exact out_b (by first | (simp_all; done) | fail)
          ·have hb34R := hb34; try simp only [z1, z2, z3, z4, z5, z6, ne_eq, z7, z8, z9, z10, z11, z12] at hb34
           refine g_skip rfl rfl rfl ?_
           refine g_skip rfl rfl rfl ?_
           refine g_skip rfl rfl rfl ?_
           refine g_skip rfl rfl rfl ?_
           refine g_skip rfl rfl rfl ?_
           refine g_skip rfl rfl rfl ?_
           refine g_step rfl rfl rfl rfl (e_pickF (v := .sc _) rfl rfl) trivial ?_
           refine g_step rfl rfl rfl rfl (e_assign (v := .sc _) rfl) trivial ?_
           refine g_end (ds := [76, 77, 80, 81, 82, 83, 84, 85, 88, 89, 90, 91, 92, 93, 96, 97, 98, 99, 100, 101]) rfl rfl (hK30 _ ?_); clear hK30 K30
           refine pwp_ret ?_
           refine end1 (v := .sc _) rfl ?_
           first
             | exact out_b rfl
             | exact out_b (by first | (simp_all; done) | fail)
         ·have hb33R := hb33; try simp only [z1, z2, z3, z4, z5, z6, ne_eq, z7, z8, z9, z10, z11, z12] at hb33
          refine g_skip rfl rfl rfl ?_
          refine g_skip rfl rfl rfl ?_
          refine g_skip rfl rfl rfl ?_
          refine g_skip rfl rfl rfl ?_
          refine g_skip rfl rfl rfl ?_
          refine g_skip rfl rfl rfl ?_
          refine g_step rfl rfl rfl rfl (e_pickF (v := .sc _) rfl rfl) trivial ?_
          refine g_step rfl rfl rfl rfl (e_move (v := .sc _) rfl) trivial ?_
          refine g_skip rfl rfl rfl ?_
          refine g_skip rfl rfl rfl ?_
          refine g_skip rfl rfl rfl ?_
          refine g_skip rfl rfl rfl ?_
          refine g_skip rfl rfl rfl ?_
          refine g_skip rfl rfl rfl ?_
          refine g_step rfl rfl rfl rfl (e_pickF (v := .sc _) rfl rfl) trivial ?_
          refine g_step rfl rfl rfl rfl (e_assign (v := .sc _) rfl) trivial ?_
          refine g_end (ds := [76, 77, 80, 81, 82, 83, 84, 85, 88, 89, 90, 91, 92, 93, 96, 97, 98, 99, 100, 101]) rfl rfl (hK30 _ ?_); clear hK30 K30
          refine pwp_ret ?_
          refine end1 (v := .sc _) rfl ?_
          first
            | exact out_b rfl
            | exact out_b (by first | (simp_all; done) | fail)
        ·have hb32R := hb32; try simp only [z1, z2, z3, z4, z5, z6, ne_eq, z7, z8, z9, z10, z11, z12] at hb32
         refine g_skip rfl rfl rfl ?_
         refine g_skip rfl rfl rfl ?_
         refine g_skip rfl rfl rfl ?_
         refine g_skip rfl rfl rfl ?_
         refine g_skip rfl rfl rfl ?_
         refine g_nocall rfl rfl rfl ?_
         refine g_step rfl rfl rfl rfl (e_pickF (v := .sc _) rfl rfl) trivial ?_
         refine g_step rfl rfl rfl rfl (e_move (v := .sc _) rfl) trivial ?_
         refine g_skip rfl rfl rfl ?_
         refine g_skip rfl rfl rfl ?_
         refine g_skip rfl rfl rfl ?_
         refine g_skip rfl rfl rfl ?_
         refine g_skip rfl rfl rfl ?_
         refine g_skip rfl rfl rfl ?_
         refine g_step rfl rfl rfl rfl (e_pickF (v := .sc _) rfl rfl) trivial ?_
         refine g_step rfl rfl rfl rfl (e_move (v := .sc _) rfl) trivial ?_
         refine g_skip rfl rfl rfl ?_
         refine g_skip rfl rfl rfl ?_
         refine g_skip rfl rfl rfl ?_
         refine g_skip rfl rfl rfl ?_
         refine g_skip rfl rfl rfl ?_
         refine g_skip rfl rfl rfl ?_
         refine g_step rfl rfl rfl rfl (e_pickF (v := .sc _) rfl rfl) trivial ?_
         refine g_step rfl rfl rfl rfl (e_assign (v := .sc _) rfl) trivial ?_
         refine g_end (ds := [76, 77, 80, 81, 82, 83, 84, 85, 88, 89, 90, 91, 92, 93, 96, 97, 98, 99, 100, 101]) rfl rfl (hK30 _ ?_); clear hK30 K30
         refine pwp_ret ?_
         refine end1 (v := .sc _) rfl ?_
         first
           | exact out_b rfl
           | exact out_b (by first | (simp_all; done) | fail)
       ·have hb31R := hb31; try simp only [z1, z2, z3, z4, z5, z6, ne_eq, z7, z8, z9, z10, z11, z12] at hb31
        refine g_skip rfl rfl rfl ?_
        refine g_skip rfl rfl rfl ?_
        refine g_step rfl rfl rfl rfl (e_pickF (v := .sc _) rfl rfl) trivial ?_
        refine g_step rfl rfl rfl rfl (e_move (v := .sc _) rfl) trivial ?_
        refine g_skip rfl rfl rfl ?_
        refine g_skip rfl rfl rfl ?_
        refine g_skip rfl rfl rfl ?_
        refine g_skip rfl rfl rfl ?_
        refine g_skip rfl rfl rfl ?_
        refine g_nocall rfl rfl rfl ?_
        refine g_step rfl rfl rfl rfl (e_pickF (v := .sc _) rfl rfl) trivial ?_
        refine g_step rfl rfl rfl rfl (e_move (v := .sc _) rfl) trivial ?_
        refine g_skip rfl rfl rfl ?_
        refine g_skip rfl rfl rfl ?_
        refine g_skip rfl rfl rfl ?_
        refine g_skip rfl rfl rfl ?_
        refine g_skip rfl rfl rfl ?_
        refine g_skip rfl rfl rfl ?_
        refine g_step rfl rfl rfl rfl (e_pickF (v := .sc _) rfl rfl) trivial ?_
        refine g_step rfl rfl rfl rfl (e_move (v := .sc _) rfl) trivial ?_
        refine g_skip rfl rfl rfl ?_
        refine g_skip rfl rfl rfl ?_
        refine g_skip rfl rfl rfl ?_
        refine g_skip rfl rfl rfl ?_
        refine g_skip rfl rfl rfl ?_
        refine g_skip rfl rfl rfl ?_
        refine g_step rfl rfl rfl rfl (e_pickF (v := .sc _) rfl rfl) trivial ?_
        refine g_step rfl rfl rfl rfl (e_assign (v := .sc _) rfl) trivial ?_
        refine g_end (ds := [76, 77, 80, 81, 82, 83, 84, 85, 88, 89, 90, 91, 92, 93, 96, 97, 98, 99, 100, 101]) rfl rfl (hK30 _ ?_); clear hK30 K30
        refine pwp_ret ?_
        refine end1 (v := .sc _) rfl ?_
        first
          | exact out_b rfl
          | exact out_b (by first | (simp_all; done) | fail)
     ·have hb18R := hb18; try simp only [z1, z2, z3, z4, z5, z6, ne_eq, z7, z8, z9, z10, z11, z12] at hb18
      refine pwp_skip ?_
      refine seq_norm (hK17 _ ?_); clear hK17 K17
      refine pwp_seq_seq ?_
      refine pwp_seq_plain rfl fun K35 hK35 => ?_
      refine p_step rfl (e_move (v := .sc _) rfl) trivial ?_
      refine p_step rfl (e_ne rfl rfl) trivial ?_
      refine p_end (hK35 _ ?_); clear hK35 K35
      refine pwp_seq_cond rfl fun K36 hK36 => ⟨fun hb37 => ?_, fun hb37 => ?_⟩
      ·have hb37R := hb37; try simp only [z1, z2, z3, z4, z5, z6, ne_eq, z7, z8, z9, z10, z11, z12] at hb37
       have hsm : smallE xs = (planE xs) := by
         first
         | exact small_pE (by assumption)
         | exact small_8E (by first | assumption | omega) (by simp only [List.length_map] at *; omega)
       have hne : ((planE xs) : Int) ≠ 0 := by first | assumption | decide
       have f1 := few_eqE hsm hne
       have f2 := ord_eqE hsm hne
       have f11 := congrArg Prod.fst f1
       have f12 := congrArg (fun p => p.2.1) f1
       have f13 := congrArg (fun p => p.2.2) f1
       have f21 := congrArg Prod.fst f2
       have f22 := congrArg Prod.snd f2
       dsimp only at f11 f12 f13 f21 f22
       refine pwp_seq_gops rfl fun K38 hK38 => ?_
       refine g_begin ?_
       refine g_step rfl rfl rfl rfl (e_move (v := .sc _) rfl) trivial ?_
       refine g_step rfl rfl rfl rfl (e_move (v := .sc _) rfl) trivial ?_
       refine g_step rfl rfl rfl rfl (e_eq rfl rfl) trivial ?_
       refine g_step rfl rfl rfl rfl (e_move (v := .sc _) rfl) trivial ?_
       refine g_cases (fun hb39 => ?_) (fun hb39 => ?_)
       ·have hb39R := hb39; try simp only [z1, z2, z3, z4, z5, z6, ne_eq, z7, z8, z9, z10, z11, z12] at hb39
        refine g_step rfl rfl rfl rfl (e_move (v := .sc _) rfl) trivial ?_
        refine g_step rfl rfl rfl rfl (e_move (v := .sc _) rfl) trivial ?_
        refine g_step rfl rfl rfl rfl (e_eq rfl rfl) trivial ?_
        refine g_step rfl rfl rfl rfl (e_pickT (v := .sc _) rfl rfl) trivial ?_
        refine g_step rfl rfl rfl rfl (e_move (v := .sc _) rfl) trivial ?_
        refine g_cases (fun hb40 => ?_) (fun hb40 => ?_)
        ·have hb40R := hb40; try simp only [z1, z2, z3, z4, z5, z6, ne_eq, z7, z8, z9, z10, z11, z12] at hb40
         refine g_step rfl rfl rfl rfl (e_move (v := .lit _ _ _) rfl) trivial ?_
         refine g_step rfl rfl rfl rfl (e_len rfl (by kernel_rfl)) trivial ?_
         refine g_step rfl rfl rfl rfl (e_eq rfl rfl) trivial ?_
         refine g_step rfl rfl rfl rfl (e_pickT (v := .sc _) rfl rfl) trivial ?_
         refine g_step rfl rfl rfl rfl (e_move (v := .sc _) rfl) trivial ?_
         refine g_cases (fun hb41 => ?_) (fun hb41 => ?_)
         ·have hb41R := hb41; try simp only [z1, z2, z3, z4, z5, z6, ne_eq, z7, z8, z9, z10, z11, z12] at hb41
          refine g_step rfl rfl rfl rfl (e_move (v := .sc _) rfl) trivial ?_
          refine g_step rfl rfl rfl rfl (e_eq rfl rfl) trivial ?_
          refine g_step rfl rfl rfl rfl (e_pickT (v := .sc _) rfl rfl) trivial ?_
          refine g_step rfl rfl rfl rfl (e_move (v := .sc _) rfl) trivial ?_
          refine g_cases (fun hb42 => ?_) (fun hb42 => ?_)
          ·have hb42R := hb42; try simp only [z1, z2, z3, z4, z5, z6, ne_eq, z7, z8, z9, z10, z11, z12] at hb42
           refine g_step rfl rfl rfl rfl (e_move (v := .sc _) rfl) trivial ?_
           refine g_step rfl rfl rfl rfl (e_eq rfl rfl) trivial ?_
           refine g_step rfl rfl rfl rfl (e_pickT (v := .sc _) rfl rfl) trivial ?_
           refine g_step rfl rfl rfl rfl (e_assign (v := .sc _) rfl) trivial ?_
           refine g_end (ds := [51, 52, 53, 56, 57, 58, 61, 62, 65, 66]) rfl rfl (hK38 _ ?_); clear hK38 K38
           refine pwp_ret ?_
           refine ret_seq ?_
           refine end1 (v := .sc _) rfl ?_
           first
             | exact out_b rfl
             | exact out_b (by first | (simp_all; done) | fail)
          ·have hb42R := hb42; try simp only [z1, z2, z3, z4, z5, z6, ne_eq, z7, z8, z9, z10, z11, z12] at hb42
           refine g_skip rfl rfl rfl ?_
           refine g_skip rfl rfl rfl ?_
           refine g_step rfl rfl rfl rfl (e_pickF (v := .sc _) rfl rfl) trivial ?_
           refine g_step rfl rfl rfl rfl (e_assign (v := .sc _) rfl) trivial ?_
           refine g_end (ds := [51, 52, 53, 56, 57, 58, 61, 62, 65, 66]) rfl rfl (hK38 _ ?_); clear hK38 K38
           refine pwp_ret ?_
           refine ret_seq ?_
           refine end1 (v := .sc _) rfl ?_
           first
             | exact out_b rfl
             | exact out_b (by first | (simp_all; done) | fail)
         ·have hb41R := hb41; try simp only [z1, z2, z3, z4, z5, z6, ne_eq, z7, z8, z9, z10, z11, z12] at hb41
          refine g_skip rfl rfl rfl ?_
          refine g_skip rfl rfl rfl ?_
          refine g_step rfl rfl rfl rfl (e_pickF (v := .sc _) rfl rfl) trivial ?_
          refine g_step rfl rfl rfl rfl (e_move (v := .sc _) rfl) trivial ?_
          refine g_skip rfl rfl rfl ?_
          refine g_skip rfl rfl rfl ?_
          refine g_step rfl rfl rfl rfl (e_pickF (v := .sc _) rfl rfl) trivial ?_
          refine g_step rfl rfl rfl rfl (e_assign (v := .sc _) rfl) trivial ?_
          refine g_end (ds := [51, 52, 53, 56, 57, 58, 61, 62, 65, 66]) rfl rfl (hK38 _ ?_); clear hK38 K38
          refine pwp_ret ?_
          refine ret_seq ?_
          refine end1 (v := .sc _) rfl ?_
          first
            | exact out_b rfl
            | exact out_b (by first | (simp_all; done) | fail)
        ·have hb40R := hb40; try simp only [z1, z2, z3, z4, z5, z6, ne_eq, z7, z8, z9, z10, z11, z12] at hb40
         refine g_skip rfl rfl rfl ?_
         refine g_skip rfl rfl rfl ?_
         refine g_skip rfl rfl rfl ?_
         refine g_step rfl rfl rfl rfl (e_pickF (v := .sc _) rfl rfl) trivial ?_
         refine g_step rfl rfl rfl rfl (e_move (v := .sc _) rfl) trivial ?_
         refine g_skip rfl rfl rfl ?_
         refine g_skip rfl rfl rfl ?_
         refine g_step rfl rfl rfl rfl (e_pickF (v := .sc _) rfl rfl) trivial ?_
         refine g_step rfl rfl rfl rfl (e_move (v := .sc _) rfl) trivial ?_
         refine g_skip rfl rfl rfl ?_
         refine g_skip rfl rfl rfl ?_
         refine g_step rfl rfl rfl rfl (e_pickF (v := .sc _) rfl rfl) trivial ?_
         refine g_step rfl rfl rfl rfl (e_assign (v := .sc _) rfl) trivial ?_
         refine g_end (ds := [51, 52, 53, 56, 57, 58, 61, 62, 65, 66]) rfl rfl (hK38 _ ?_); clear hK38 K38
         refine pwp_ret ?_
         refine ret_seq ?_
         refine end1 (v := .sc _) rfl ?_
         first
           | exact out_b rfl
           | exact out_b (by first | (simp_all; done) | fail)
       ·have hb39R := hb39; try simp only [z1, z2, z3, z4, z5, z6, ne_eq, z7, z8, z9, z10, z11, z12] at hb39
        refine g_skip rfl rfl rfl ?_
        refine g_skip rfl rfl rfl ?_
        refine g_skip rfl rfl rfl ?_
        refine g_step rfl rfl rfl rfl (e_pickF (v := .sc _) rfl rfl) trivial ?_
        refine g_step rfl rfl rfl rfl (e_move (v := .sc _) rfl) trivial ?_
        refine g_skip rfl rfl rfl ?_
        refine g_skip rfl rfl rfl ?_
        refine g_skip rfl rfl rfl ?_
        refine g_step rfl rfl rfl rfl (e_pickF (v := .sc _) rfl rfl) trivial ?_
        refine g_step rfl rfl rfl rfl (e_move (v := .sc _) rfl) trivial ?_
        refine g_skip rfl rfl rfl ?_
        refine g_skip rfl rfl rfl ?_
        refine g_step rfl rfl rfl rfl (e_pickF (v := .sc _) rfl rfl) trivial ?_
        refine g_step rfl rfl rfl rfl (e_move (v := .sc _) rfl) trivial ?_
        refine g_skip rfl rfl rfl ?_
        refine g_skip rfl rfl rfl ?_
        refine g_step rfl rfl rfl rfl (e_pickF (v := .sc _) rfl rfl) trivial ?_
        refine g_step rfl rfl rfl rfl (e_assign (v := .sc _) rfl) trivial ?_
        refine g_end (ds := [51, 52, 53, 56, 57, 58, 61, 62, 65, 66]) rfl rfl (hK38 _ ?_); clear hK38 K38
        refine pwp_ret ?_
        refine ret_seq ?_
        refine end1 (v := .sc _) rfl ?_
        first
          | exact out_b rfl
          | exact out_b (by first | (simp_all; done) | fail)
      ·have hb37R := hb37; try simp only [z1, z2, z3, z4, z5, z6, ne_eq, z7, z8, z9, z10, z11, z12] at hb37
       refine pwp_skip ?_
       refine seq_norm (hK36 _ ?_); clear hK36 K36
       have hp : planE xs = 0 := by first | assumption | omega
       have hn14 : xs.length ≤ 14 := by simp only [List.length_map] at *; omega
       have hn6 : xs.length ≤ 6 := by simp only [List.length_map] at *; omega
       have hsm := small_0E hp hn14
       have f1 := few_eq0 hsm
       have f2 := ord_eq0 hsm
       have f11 := congrArg Prod.fst f1
       have f12 := congrArg (fun p => p.2.1) f1
       have f13 := congrArg (fun p => p.2.2) f1
       have f21 := congrArg Prod.fst f2
       have f22 := congrArg Prod.snd f2
       dsimp only at f11 f12 f13 f21 f22
       have hgl := grd_len hp hn14
       refine pwp_seq_plain rfl fun K43 hK43 => ?_
       refine p_step rfl (e_move (v := .lit _ _ _) rfl) trivial ?_
       refine p_step rfl (e_build (zs := [.nil, .int 0, .nil, .int 0]) (pl := [(0, 1, false), (1, 1, false), (2, 1, false), (3, 1, false)]) (by kernel_rfl) (by kernel_rfl) (by kernel_rfl) rfl rfl (by exact ⟨by decide, rfl, Nat.le_of_ble_eq_true rfl, rfl, trivial⟩) rfl) trivial ?_
       refine p_new rfl (e_box (n := 4) rfl rfl) ⟨rfl, by decide⟩ ?_
       refine p_step rfl (e_assign (v := .ptr _ _ _ _) rfl) trivial ?_
       refine p_end (hK43 _ ?_); clear hK43 K43
       refine pwp_seq_plain rfl fun K44 hK44 => ?_
       refine p_step rfl (e_move (v := .ptr _ _ _ _) rfl) trivial ?_
       refine p_hcall rfl (walkC hp hfw.2 hn6 xs.length [] ⟨0, [], 0⟩ .nil .nil _ _ (fun z hz => by cases hz) (Nat.zero_add _) (Int.le_refl _) (walk_pow hn6) (hset_self _ _ _) (.inl ⟨rfl, rfl⟩) .nil (fun g n e => by cases e)) fun v9 h9 c9 hR9 => ?_
       obtain ⟨⟨w, hb9, hbw⟩, hfr9⟩ := hR9
       rw [walk_few hp hn14] at hb9 hbw
       refine p_end (hK44 _ ?_); clear hK44 K44
       refine pwp_seq_gops rfl fun K45 hK45 => ?_
       refine g_begin ?_
       refine g_step rfl rfl rfl rfl (e_move (v := .sc _) rfl) trivial ?_
       refine g_step rfl rfl rfl rfl (e_eq rfl rfl) trivial ?_
       refine g_step rfl rfl rfl rfl (e_move (v := .sc _) rfl) trivial ?_
       refine g_cases (fun hb46 => ?_) (fun hb46 => ?_)
       ·have hb46R := hb46; try simp only [z1, z2, z3, z4, z5, z6, ne_eq, z7, z8, z9, z10, z11, z12] at hb46
        refine g_step rfl rfl rfl rfl (e_move (v := .sc _) rfl) trivial ?_
        refine g_step rfl rfl rfl rfl (e_eq rfl rfl) trivial ?_
        refine g_step rfl rfl rfl rfl (e_pickT (v := .sc _) rfl rfl) trivial ?_
        refine g_step rfl rfl rfl rfl (e_move (v := .sc _) rfl) trivial ?_
        refine g_cases (fun hb47 => ?_) (fun hb47 => ?_)
        ·have hb47R := hb47; try simp only [z1, z2, z3, z4, z5, z6, ne_eq, z7, z8, z9, z10, z11, z12] at hb47
         refine g_step rfl rfl rfl rfl (e_move (v := .lit _ _ _) rfl) trivial ?_
         refine g_step rfl rfl rfl rfl (e_move (v := .ptr _ _ _ _) rfl) trivial ?_
         refine g_step rfl rfl rfl rfl (e_nilc rfl) trivial ?_
         refine g_step rfl rfl rfl rfl (e_faP (pl := [(0, 1, false), (1, 1, false), (2, 1, false), (3, 1, false)]) rfl (by kernel_rfl) (by kernel_rfl) (by decide) rfl) trivial ?_
         refine g_step rfl rfl rfl rfl (e_loadH (v := w) rfl hb9 (by kernel_rfl) (by kernel_rfl) (by kernel_rfl) (by exact Nat.zero_lt_one) (by decide) rfl) trivial ?_
         refine g_call rfl rfl rfl rfl (.cons inn_lit (.cons (LitV.inn hbw) .nil)) (IntsC _ _ (by rw [f11, hgl]; omega)) ?_
         refine g_step rfl rfl rfl rfl (e_pickT (v := .sc _) rfl rfl) trivial ?_
         refine g_step rfl rfl rfl rfl (e_move (v := .sc _) rfl) trivial ?_
         refine g_cases (fun hb48 => ?_) (fun hb48 => ?_)
         ·have hb48R := hb48; try simp only [z1, z2, z3, z4, z5, z6, ne_eq, z7, z8, z9, z10, z11, z12] at hb48
          refine g_step rfl rfl rfl rfl (e_move (v := .sc _) rfl) trivial ?_
          refine g_step rfl rfl rfl rfl (e_move (v := .ptr _ _ _ _) rfl) trivial ?_
          refine g_step rfl rfl rfl rfl (e_nilc rfl) trivial ?_
          refine g_step rfl rfl rfl rfl (e_faP (pl := [(0, 1, false), (1, 1, false), (2, 1, false), (3, 1, false)]) rfl (by kernel_rfl) (by kernel_rfl) (by decide) rfl) trivial ?_
          refine g_step rfl rfl rfl rfl (e_loadH (v := .sc _) rfl hb9 (by kernel_rfl) (by kernel_rfl) (by kernel_rfl) (by exact Nat.zero_lt_one) (by decide) rfl) trivial ?_
          refine g_step rfl rfl rfl rfl (e_eq rfl rfl) trivial ?_
          refine g_step rfl rfl rfl rfl (e_pickT (v := .sc _) rfl rfl) trivial ?_
          refine g_step rfl rfl rfl rfl (e_move (v := .sc _) rfl) trivial ?_
          refine g_cases (fun hb49 => ?_) (fun hb49 => ?_)
          ·have hb49R := hb49; try simp only [z1, z2, z3, z4, z5, z6, ne_eq, z7, z8, z9, z10, z11, z12] at hb49
           refine g_step rfl rfl rfl rfl (e_move (v := .sc _) rfl) trivial ?_
           refine g_step rfl rfl rfl rfl (e_move (v := .ptr _ _ _ _) rfl) trivial ?_
           refine g_step rfl rfl rfl rfl (e_nilc rfl) trivial ?_
           refine g_step rfl rfl rfl rfl (e_faP (pl := [(0, 1, false), (1, 1, false), (2, 1, false), (3, 1, false)]) rfl (by kernel_rfl) (by kernel_rfl) (by decide) rfl) trivial ?_
           refine g_step rfl rfl rfl rfl (e_loadH (v := .sc _) rfl hb9 (by kernel_rfl) (by kernel_rfl) (by kernel_rfl) (by exact Nat.zero_lt_one) (by decide) rfl) trivial ?_
           refine g_step rfl rfl rfl rfl (e_eq rfl rfl) trivial ?_
           refine g_step rfl rfl rfl rfl (e_pickT (v := .sc _) rfl rfl) trivial ?_
           refine g_step rfl rfl rfl rfl (e_assign (v := .sc _) rfl) trivial ?_
           refine g_end (ds := [76, 77, 80, 81, 82, 83, 84, 85, 88, 89, 90, 91, 92, 93, 96, 97, 98, 99, 100, 101]) rfl rfl (hK45 _ ?_); clear hK45 K45
           refine pwp_ret ?_
           refine end1 (v := .sc _) rfl ?_
           first
             | exact out_b rfl
             | exact out_b (by first | (simp_all; done) | fail)
          ·have hb49R := hb49; try simp only [z1, z2, z3, z4, z5, z6, ne_eq, z7, z8, z9, z10, z11, z12] at hb49
           refine g_skip rfl rfl rfl ?_
           refine g_skip rfl rfl rfl ?_
           refine g_skip rfl rfl rfl ?_
           refine g_skip rfl rfl rfl ?_
           refine g_skip rfl rfl rfl ?_
           refine g_skip rfl rfl rfl ?_
           refine g_step rfl rfl rfl rfl (e_pickF (v := .sc _) rfl rfl) trivial ?_
           refine g_step rfl rfl rfl rfl (e_assign (v := .sc _) rfl) trivial ?_
           refine g_end (ds := [76, 77, 80, 81, 82, 83, 84, 85, 88, 89, 90, 91, 92, 93, 96, 97, 98, 99, 100, 101]) rfl rfl (hK45 _ ?_); clear hK45 K45
           refine pwp_ret ?_
           refine end1 (v := .sc _) rfl ?_
           first
             | exact out_b rfl
             | exact out_b (by first | (simp_all; done) | fail)
         ·have hb48R := hb48; try simp only [z1, z2, z3, z4, z5, z6, ne_eq, z7, z8, z9, z10, z11, z12] at hb48
          refine g_skip rfl rfl rfl ?_
          refine g_skip rfl rfl rfl ?_
          refine g_skip rfl rfl rfl ?_
          refine g_skip rfl rfl rfl ?_
          refine g_skip rfl rfl rfl ?_
          refine g_skip rfl rfl rfl ?_
          refine g_step rfl rfl rfl rfl (e_pickF (v := .sc _) rfl rfl) trivial ?_
          refine g_step rfl rfl rfl rfl (e_move (v := .sc _) rfl) trivial ?_
          refine g_skip rfl rfl rfl ?_
          refine g_skip rfl rfl rfl ?_
          refine g_skip rfl rfl rfl ?_
          refine g_skip rfl rfl rfl ?_
          refine g_skip rfl rfl rfl ?_
          refine g_skip rfl rfl rfl ?_
          refine g_step rfl rfl rfl rfl (e_pickF (v := .sc _) rfl rfl) trivial ?_
          refine g_step rfl rfl rfl rfl (e_assign (v := .sc _) rfl) trivial ?_
          refine g_end (ds := [76, 77, 80, 81, 82, 83, 84, 85, 88, 89, 90, 91, 92, 93, 96, 97, 98, 99, 100, 101]) rfl rfl (hK45 _ ?_); clear hK45 K45
          refine pwp_ret ?_
          refine end1 (v := .sc _) rfl ?_
          first
            | exact out_b rfl
            | exact out_b (by first | (simp_all; done) | fail)
        ·have hb47R := hb47; try simp only [z1, z2, z3, z4, z5, z6, ne_eq, z7, z8, z9, z10, z11, z12] at hb47
         refine g_skip rfl rfl rfl ?_
         refine g_skip rfl rfl rfl ?_
         refine g_skip rfl rfl rfl ?_
         refine g_skip rfl rfl rfl ?_
         refine g_skip rfl rfl rfl ?_
         refine g_nocall rfl rfl rfl ?_
         refine g_step rfl rfl rfl rfl (e_pickF (v := .sc _) rfl rfl) trivial ?_
         refine g_step rfl rfl rfl rfl (e_move (v := .sc _) rfl) trivial ?_
         refine g_skip rfl rfl rfl ?_
         refine g_skip rfl rfl rfl ?_
         refine g_skip rfl rfl rfl ?_
         refine g_skip rfl rfl rfl ?_
         refine g_skip rfl rfl rfl ?_
         refine g_skip rfl rfl rfl ?_
         refine g_step rfl rfl rfl rfl (e_pickF (v := .sc _) rfl rfl) trivial ?_
         refine g_step rfl rfl rfl rfl (e_move (v := .sc _) rfl) trivial ?_
         refine g_skip rfl rfl rfl ?_
         refine g_skip rfl rfl rfl ?_
         refine g_skip rfl rfl rfl ?_
         refine g_skip rfl rfl rfl ?_
         refine g_skip rfl rfl rfl ?_
         refine g_skip rfl rfl rfl ?_
         refine g_step rfl rfl rfl rfl (e_pickF (v := .sc _) rfl rfl) trivial ?_
         refine g_step rfl rfl rfl rfl (e_assign (v := .sc _) rfl) trivial ?_
         refine g_end (ds := [76, 77, 80, 81, 82, 83, 84, 85, 88, 89, 90, 91, 92, 93, 96, 97, 98, 99, 100, 101]) rfl rfl (hK45 _ ?_); clear hK45 K45
         refine pwp_ret ?_
         refine end1 (v := .sc _) rfl ?_
         first
           | exact out_b rfl
           | exact out_b (by first | (simp_all; done) | fail)
       ·have hb46R := hb46; try simp only [z1, z2, z3, z4, z5, z6, ne_eq, z7, z8, z9, z10, z11, z12] at hb46
        refine g_skip rfl rfl rfl ?_
        refine g_skip rfl rfl rfl ?_
        refine g_step rfl rfl rfl rfl (e_pickF (v := .sc _) rfl rfl) trivial ?_
        refine g_step rfl rfl rfl rfl (e_move (v := .sc _) rfl) trivial ?_
        refine g_skip rfl rfl rfl ?_
        refine g_skip rfl rfl rfl ?_
        refine g_skip rfl rfl rfl ?_
        refine g_skip rfl rfl rfl ?_
        refine g_skip rfl rfl rfl ?_
        refine g_nocall rfl rfl rfl ?_
        refine g_step rfl rfl rfl rfl (e_pickF (v := .sc _) rfl rfl) trivial ?_
        refine g_step rfl rfl rfl rfl (e_move (v := .sc _) rfl) trivial ?_
        refine g_skip rfl rfl rfl ?_
        refine g_skip rfl rfl rfl ?_
        refine g_skip rfl rfl rfl ?_
        refine g_skip rfl rfl rfl ?_
        refine g_skip rfl rfl rfl ?_
        refine g_skip rfl rfl rfl ?_
        refine g_step rfl rfl rfl rfl (e_pickF (v := .sc _) rfl rfl) trivial ?_
        refine g_step rfl rfl rfl rfl (e_move (v := .sc _) rfl) trivial ?_
        refine g_skip rfl rfl rfl ?_
        refine g_skip rfl rfl rfl ?_
        refine g_skip rfl rfl rfl ?_
        refine g_skip rfl rfl rfl ?_
        refine g_skip rfl rfl rfl ?_
        refine g_skip rfl rfl rfl ?_
        refine g_step rfl rfl rfl rfl (e_pickF (v := .sc _) rfl rfl) trivial ?_
        refine g_step rfl rfl rfl rfl (e_assign (v := .sc _) rfl) trivial ?_
        refine g_end (ds := [76, 77, 80, 81, 82, 83, 84, 85, 88, 89, 90, 91, 92, 93, 96, 97, 98, 99, 100, 101]) rfl rfl (hK45 _ ?_); clear hK45 K45
        refine pwp_ret ?_
        refine end1 (v := .sc _) rfl ?_
        first
          | exact out_b rfl
          | exact out_b (by first | (simp_all; done) | fail)
    ·have hb16R := hb16; try simp only [z1, z2, z3, z4, z5, z6, ne_eq, z7, z8, z9, z10, z11, z12] at hb16
     refine g_skip rfl rfl rfl ?_
     refine g_skip rfl rfl rfl ?_
     refine g_skip rfl rfl rfl ?_
     refine g_step rfl rfl rfl rfl (e_pickF (v := .sc _) rfl rfl) trivial ?_
     refine g_end (ds := [41, 42, 43]) rfl rfl (hK15 _ ?_); clear hK15 K15
     refine pwp_seq_cond (t := false) rfl fun K50 hK50 => ⟨nofun, fun _ => ?_⟩
     refine pwp_skip ?_
     refine seq_norm (hK50 _ ?_); clear hK50 K50
     refine pwp_seq_seq ?_
     refine pwp_seq_plain rfl fun K51 hK51 => ?_
     refine p_step rfl (e_move (v := .sc _) rfl) trivial ?_
     refine p_step rfl (e_ne rfl rfl) trivial ?_
     refine p_end (hK51 _ ?_); clear hK51 K51
     refine pwp_seq_cond rfl fun K52 hK52 => ⟨fun hb53 => ?_, fun hb53 => ?_⟩
     ·have hb53R := hb53; try simp only [z1, z2, z3, z4, z5, z6, ne_eq, z7, z8, z9, z10, z11, z12] at hb53
      have hsm : smallE xs = (planE xs) := by
        first
        | exact small_pE (by assumption)
        | exact small_8E (by first | assumption | omega) (by simp only [List.length_map] at *; omega)
      have hne : ((planE xs) : Int) ≠ 0 := by first | assumption | decide
      have f1 := few_eqE hsm hne
      have f2 := ord_eqE hsm hne
      have f11 := congrArg Prod.fst f1
      have f12 := congrArg (fun p => p.2.1) f1
      have f13 := congrArg (fun p => p.2.2) f1
      have f21 := congrArg Prod.fst f2
      have f22 := congrArg Prod.snd f2
      dsimp only at f11 f12 f13 f21 f22
      refine pwp_seq_gops rfl fun K54 hK54 => ?_
      refine g_begin ?_
      refine g_step rfl rfl rfl rfl (e_move (v := .sc _) rfl) trivial ?_
      refine g_step rfl rfl rfl rfl (e_move (v := .sc _) rfl) trivial ?_
      refine g_step rfl rfl rfl rfl (e_eq rfl rfl) trivial ?_
      refine g_step rfl rfl rfl rfl (e_move (v := .sc _) rfl) trivial ?_
      refine g_cases (fun hb55 => ?_) (fun hb55 => ?_)
      ·have hb55R := hb55; try simp only [z1, z2, z3, z4, z5, z6, ne_eq, z7, z8, z9, z10, z11, z12] at hb55
       refine g_step rfl rfl rfl rfl (e_move (v := .sc _) rfl) trivial ?_
       refine g_step rfl rfl rfl rfl (e_move (v := .sc _) rfl) trivial ?_
       refine g_step rfl rfl rfl rfl (e_eq rfl rfl) trivial ?_
       refine g_step rfl rfl rfl rfl (e_pickT (v := .sc _) rfl rfl) trivial ?_
       refine g_step rfl rfl rfl rfl (e_move (v := .sc _) rfl) trivial ?_
       refine g_cases (fun hb56 => ?_) (fun hb56 => ?_)
       ·have hb56R := hb56; try simp only [z1, z2, z3, z4, z5, z6, ne_eq, z7, z8, z9, z10, z11, z12] at hb56
        refine g_step rfl rfl rfl rfl (e_move (v := .lit _ _ _) rfl) trivial ?_
        refine g_step rfl rfl rfl rfl (e_len rfl (by kernel_rfl)) trivial ?_
        refine g_step rfl rfl rfl rfl (e_eq rfl rfl) trivial ?_
        refine g_step rfl rfl rfl rfl (e_pickT (v := .sc _) rfl rfl) trivial ?_
        refine g_step rfl rfl rfl rfl (e_move (v := .sc _) rfl) trivial ?_
        refine g_cases (fun hb57 => ?_) (fun hb57 => ?_)
        ·have hb57R := hb57; try simp only [z1, z2, z3, z4, z5, z6, ne_eq, z7, z8, z9, z10, z11, z12] at hb57
         refine g_step rfl rfl rfl rfl (e_move (v := .sc _) rfl) trivial ?_
         refine g_step rfl rfl rfl rfl (e_eq rfl rfl) trivial ?_
         refine g_step rfl rfl rfl rfl (e_pickT (v := .sc _) rfl rfl) trivial ?_
         refine g_step rfl rfl rfl rfl (e_move (v := .sc _) rfl) trivial ?_
         refine g_cases (fun hb58 => ?_) (fun hb58 => ?_)
         ·have hb58R := hb58; try simp only [z1, z2, z3, z4, z5, z6, ne_eq, z7, z8, z9, z10, z11, z12] at hb58
          refine g_step rfl rfl rfl rfl (e_move (v := .sc _) rfl) trivial ?_
          refine g_step rfl rfl rfl rfl (e_eq rfl rfl) trivial ?_
          refine g_step rfl rfl rfl rfl (e_pickT (v := .sc _) rfl rfl) trivial ?_
          refine g_step rfl rfl rfl rfl (e_assign (v := .sc _) rfl) trivial ?_
          refine g_end (ds := [51, 52, 53, 56, 57, 58, 61, 62, 65, 66]) rfl rfl (hK54 _ ?_); clear hK54 K54
          refine pwp_ret ?_
          refine ret_seq ?_
          refine end1 (v := .sc _) rfl ?_
          first
            | exact out_b rfl
            | exact out_b (by first | (simp_all; done) | fail)
         ·have hb58R := hb58; try simp only [z1, z2, z3, z4, z5, z6, ne_eq, z7, z8, z9, z10, z11, z12] at hb58
          refine g_skip rfl rfl rfl ?_
          refine g_skip rfl rfl rfl ?_
          refine g_step rfl rfl rfl rfl (e_pickF (v := .sc _) rfl rfl) trivial ?_
          refine g_step rfl rfl rfl rfl (e_assign (v := .sc _) rfl) trivial ?_
          refine g_end (ds := [51, 52, 53, 56, 57, 58, 61, 62, 65, 66]) rfl rfl (hK54 _ ?_); clear hK54 K54
          refine pwp_ret ?_
          refine ret_seq ?_
          refine end1 (v := .sc _) rfl ?_
          first
            | exact out_b rfl
            | exact out_b (by first | (simp_all; done) | fail)
        ·have hb57R := hb57; try simp only [z1, z2, z3, z4, z5, z6, ne_eq, z7, z8, z9, z10, z11, z12] at hb57
         refine g_skip rfl rfl rfl ?_
         refine g_skip rfl rfl rfl ?_
         refine g_step rfl rfl rfl rfl (e_pickF (v := .sc _) rfl rfl) trivial ?_
         refine g_step rfl rfl rfl rfl (e_move (v := .sc _) rfl) trivial ?_
         refine g_skip rfl rfl rfl ?_
         refine g_skip rfl rfl rfl ?_
         refine g_step rfl rfl rfl rfl (e_pickF (v := .sc _) rfl rfl) trivial ?_
         refine g_step rfl rfl rfl rfl (e_assign (v := .sc _) rfl) trivial ?_
         refine g_end (ds := [51, 52, 53, 56, 57, 58, 61, 62, 65, 66]) rfl rfl (hK54 _ ?_); clear hK54 K54
         refine pwp_ret ?_
         refine ret_seq ?_
         refine end1 (v := .sc _) rfl ?_
         first
           | exact out_b rfl
           | exact out_b (by first | (simp_all; done) | fail)
       ·have hb56R := hb56; try simp only [z1, z2, z3, z4, z5, z6, ne_eq, z7, z8, z9, z10, z11, z12] at hb56
        refine g_skip rfl rfl rfl ?_
        refine g_skip rfl rfl rfl ?_
        refine g_skip rfl rfl rfl ?_
        refine g_step rfl rfl rfl rfl (e_pickF (v := .sc _) rfl rfl) trivial ?_
        refine g_step rfl rfl rfl rfl (e_move (v := .sc _) rfl) trivial ?_
        refine g_skip rfl rfl rfl ?_
        refine g_skip rfl rfl rfl ?_
        refine g_step rfl rfl rfl rfl (e_pickF (v := .sc _) rfl rfl) trivial ?_
        refine g_step rfl rfl rfl rfl (e_move (v := .sc _) rfl) trivial ?_
        refine g_skip rfl rfl rfl ?_
        refine g_skip rfl rfl rfl ?_
        refine g_step rfl rfl rfl rfl (e_pickF (v := .sc _) rfl rfl) trivial ?_
        refine g_step rfl rfl rfl rfl (e_assign (v := .sc _) rfl) trivial ?_
        refine g_end (ds := [51, 52, 53, 56, 57, 58, 61, 62, 65, 66]) rfl rfl (hK54 _ ?_); clear hK54 K54
        refine pwp_ret ?_
        refine ret_seq ?_
        refine end1 (v := .sc _) rfl ?_
        first
          | exact out_b rfl
          | exact out_b (by first | (simp_all; done) | fail)
      ·have hb55R := hb55; try simp only [z1, z2, z3, z4, z5, z6, ne_eq, z7, z8, z9, z10, z11, z12] at hb55
       refine g_skip rfl rfl rfl ?_
       refine g_skip rfl rfl rfl ?_
       refine g_skip rfl rfl rfl ?_
       refine g_step rfl rfl rfl rfl (e_pickF (v := .sc _) rfl rfl) trivial ?_
       refine g_step rfl rfl rfl rfl (e_move (v := .sc _) rfl) trivial ?_
       refine g_skip rfl rfl rfl ?_
       refine g_skip rfl rfl rfl ?_
       refine g_skip rfl rfl rfl ?_
       refine g_step rfl rfl rfl rfl (e_pickF (v := .sc _) rfl rfl) trivial ?_
       refine g_step rfl rfl rfl rfl (e_move (v := .sc _) rfl) trivial ?_
       refine g_skip rfl rfl rfl ?_
       refine g_skip rfl rfl rfl ?_
       refine g_step rfl rfl rfl rfl (e_pickF (v := .sc _) rfl rfl) trivial ?_
       refine g_step rfl rfl rfl rfl (e_move (v := .sc _) rfl) trivial ?_
       refine g_skip rfl rfl rfl ?_
       refine g_skip rfl rfl rfl ?_
       refine g_step rfl rfl rfl rfl (e_pickF (v := .sc _) rfl rfl) trivial ?_
       refine g_step rfl rfl rfl rfl (e_assign (v := .sc _) rfl) trivial ?_
       refine g_end (ds := [51, 52, 53, 56, 57, 58, 61, 62, 65, 66]) rfl rfl (hK54 _ ?_); clear hK54 K54
       refine pwp_ret ?_
       refine ret_seq ?_
       refine end1 (v := .sc _) rfl ?_
       first
         | exact out_b rfl
         | exact out_b (by first | (simp_all; done) | fail)
     ·have hb53R := hb53; try simp only [z1, z2, z3, z4, z5, z6, ne_eq, z7, z8, z9, z10, z11, z12] at hb53
      refine pwp_skip ?_
      refine seq_norm (hK52 _ ?_); clear hK52 K52
      have hp : planE xs = 0 := by first | assumption | omega
      have hn14 : xs.length ≤ 14 := by simp only [List.length_map] at *; omega
      have hn6 : xs.length ≤ 6 := by simp only [List.length_map] at *; omega
      have hsm := small_0E hp hn14
      have f1 := few_eq0 hsm
      have f2 := ord_eq0 hsm
      have f11 := congrArg Prod.fst f1
      have f12 := congrArg (fun p => p.2.1) f1
      have f13 := congrArg (fun p => p.2.2) f1
      have f21 := congrArg Prod.fst f2
      have f22 := congrArg Prod.snd f2
      dsimp only at f11 f12 f13 f21 f22
      have hgl := grd_len hp hn14
      refine pwp_seq_plain rfl fun K59 hK59 => ?_
      refine p_step rfl (e_move (v := .lit _ _ _) rfl) trivial ?_
      refine p_step rfl (e_build (zs := [.nil, .int 0, .nil, .int 0]) (pl := [(0, 1, false), (1, 1, false), (2, 1, false), (3, 1, false)]) (by kernel_rfl) (by kernel_rfl) (by kernel_rfl) rfl rfl (by exact ⟨by decide, rfl, Nat.le_of_ble_eq_true rfl, rfl, trivial⟩) rfl) trivial ?_
      refine p_new rfl (e_box (n := 4) rfl rfl) ⟨rfl, by decide⟩ ?_
      refine p_step rfl (e_assign (v := .ptr _ _ _ _) rfl) trivial ?_
      refine p_end (hK59 _ ?_); clear hK59 K59
      refine pwp_seq_plain rfl fun K60 hK60 => ?_
      refine p_step rfl (e_move (v := .ptr _ _ _ _) rfl) trivial ?_
      refine p_hcall rfl (walkC hp hfw.2 hn6 xs.length [] ⟨0, [], 0⟩ .nil .nil _ _ (fun z hz => by cases hz) (Nat.zero_add _) (Int.le_refl _) (walk_pow hn6) (hset_self _ _ _) (.inl ⟨rfl, rfl⟩) .nil (fun g n e => by cases e)) fun v9 h9 c9 hR9 => ?_
      obtain ⟨⟨w, hb9, hbw⟩, hfr9⟩ := hR9
      rw [walk_few hp hn14] at hb9 hbw
      refine p_end (hK60 _ ?_); clear hK60 K60
      refine pwp_seq_gops rfl fun K61 hK61 => ?_
      refine g_begin ?_
      refine g_step rfl rfl rfl rfl (e_move (v := .sc _) rfl) trivial ?_
      refine g_step rfl rfl rfl rfl (e_eq rfl rfl) trivial ?_
      refine g_step rfl rfl rfl rfl (e_move (v := .sc _) rfl) trivial ?_
      refine g_cases (fun hb62 => ?_) (fun hb62 => ?_)
      ·have hb62R := hb62; try simp only [z1, z2, z3, z4, z5, z6, ne_eq, z7, z8, z9, z10, z11, z12] at hb62
       refine g_step rfl rfl rfl rfl (e_move (v := .sc _) rfl) trivial ?_
       refine g_step rfl rfl rfl rfl (e_eq rfl rfl) trivial ?_
       refine g_step rfl rfl rfl rfl (e_pickT (v := .sc _) rfl rfl) trivial ?_
       refine g_step rfl rfl rfl rfl (e_move (v := .sc _) rfl) trivial ?_
       refine g_cases (fun hb63 => ?_) (fun hb63 => ?_)
       ·have hb63R := hb63; try simp only [z1, z2, z3, z4, z5, z6, ne_eq, z7, z8, z9, z10, z11, z12] at hb63
        refine g_step rfl rfl rfl rfl (e_move (v := .lit _ _ _) rfl) trivial ?_
        refine g_step rfl rfl rfl rfl (e_move (v := .ptr _ _ _ _) rfl) trivial ?_
        refine g_step rfl rfl rfl rfl (e_nilc rfl) trivial ?_
        refine g_step rfl rfl rfl rfl (e_faP (pl := [(0, 1, false), (1, 1, false), (2, 1, false), (3, 1, false)]) rfl (by kernel_rfl) (by kernel_rfl) (by decide) rfl) trivial ?_
        refine g_step rfl rfl rfl rfl (e_loadH (v := w) rfl hb9 (by kernel_rfl) (by kernel_rfl) (by kernel_rfl) (by exact Nat.zero_lt_one) (by decide) rfl) trivial ?_
        refine g_call rfl rfl rfl rfl (.cons inn_lit (.cons (LitV.inn hbw) .nil)) (IntsC _ _ (by rw [f11, hgl]; omega)) ?_
        refine g_step rfl rfl rfl rfl (e_pickT (v := .sc _) rfl rfl) trivial ?_
        refine g_step rfl rfl rfl rfl (e_move (v := .sc _) rfl) trivial ?_
        refine g_cases (fun hb64 => ?_) (fun hb64 => ?_)
        ·have hb64R := hb64; try simp only [z1, z2, z3, z4, z5, z6, ne_eq, z7, z8, z9, z10, z11, z12] at hb64
         refine g_step rfl rfl rfl rfl (e_move (v := .sc _) rfl) trivial ?_
         refine g_step rfl rfl rfl rfl (e_move (v := .ptr _ _ _ _) rfl) trivial ?_
         refine g_step rfl rfl rfl rfl (e_nilc rfl) trivial ?_
         refine g_step rfl rfl rfl rfl (e_faP (pl := [(0, 1, false), (1, 1, false), (2, 1, false), (3, 1, false)]) rfl (by kernel_rfl) (by kernel_rfl) (by decide) rfl) trivial ?_
         refine g_step rfl rfl rfl rfl (e_loadH (v := .sc _) rfl hb9 (by kernel_rfl) (by kernel_rfl) (by kernel_rfl) (by exact Nat.zero_lt_one) (by decide) rfl) trivial ?_
         refine g_step rfl rfl rfl rfl (e_eq rfl rfl) trivial ?_
         refine g_step rfl rfl rfl rfl (e_pickT (v := .sc _) rfl rfl) trivial ?_
         refine g_step rfl rfl rfl rfl (e_move (v := .sc _) rfl) trivial ?_
         refine g_cases (fun hb65 => ?_) (fun hb65 => ?_)
         ·have hb65R := hb65; try simp only [z1, z2, z3, z4, z5, z6, ne_eq, z7, z8, z9, z10, z11, z12] at hb65
          refine g_step rfl rfl rfl rfl (e_move (v := .sc _) rfl) trivial ?_
          refine g_step rfl rfl rfl rfl (e_move (v := .ptr _ _ _ _) rfl) trivial ?_
          refine g_step rfl rfl rfl rfl (e_nilc rfl) trivial ?_
          refine g_step rfl rfl rfl rfl (e_faP (pl := [(0, 1, false), (1, 1, false), (2, 1, false), (3, 1, false)]) rfl (by kernel_rfl) (by kernel_rfl) (by decide) rfl) trivial ?_
          refine g_step rfl rfl rfl rfl (e_loadH (v := .sc _) rfl hb9 (by kernel_rfl) (by kernel_rfl) (by kernel_rfl) (by exact Nat.zero_lt_one) (by decide) rfl) trivial ?_
          refine g_step rfl rfl rfl rfl (e_eq rfl rfl) trivial ?_
          refine g_step rfl rfl rfl rfl (e_pickT (v := .sc _) rfl rfl) trivial ?_
          refine g_step rfl rfl rfl rfl (e_assign (v := .sc _) rfl) trivial ?_
          refine g_end (ds := [76, 77, 80, 81, 82, 83, 84, 85, 88, 89, 90, 91, 92, 93, 96, 97, 98, 99, 100, 101]) rfl rfl (hK61 _ ?_); clear hK61 K61
          refine pwp_ret ?_
          refine end1 (v := .sc _) rfl ?_
          first
            | exact out_b rfl
            | exact out_b (by first | (simp_all; done) | fail)
         ·have hb65R := hb65; try simp only [z1, z2, z3, z4, z5, z6, ne_eq, z7, z8, z9, z10, z11, z12] at hb65
          refine g_skip rfl rfl rfl ?_
          refine g_skip rfl rfl rfl ?_
          refine g_skip rfl rfl rfl ?_
          refine g_skip rfl rfl rfl ?_
          refine g_skip rfl rfl rfl ?_
          refine g_skip rfl rfl rfl ?_
          refine g_step rfl rfl rfl rfl (e_pickF (v := .sc _) rfl rfl) trivial ?_
          refine g_step rfl rfl rfl rfl (e_assign (v := .sc _) rfl) trivial ?_
          refine g_end (ds := [76, 77, 80, 81, 82, 83, 84, 85, 88, 89, 90, 91, 92, 93, 96, 97, 98, 99, 100, 101]) rfl rfl (hK61 _ ?_); clear hK61 K61
          refine pwp_ret ?_
          refine end1 (v := .sc _) rfl ?_
          first
            | exact out_b rfl
            | exact out_b (by first | (simp_all; done) | fail)
        ·have hb64R := hb64; try simp only [z1, z2, z3, z4, z5, z6, ne_eq, z7, z8, z9, z10, z11, z12] at hb64
         refine g_skip rfl rfl rfl ?_
         refine g_skip rfl rfl rfl ?_
         refine g_skip rfl rfl rfl ?_
         refine g_skip rfl rfl rfl ?_
         refine g_skip rfl rfl rfl ?_
         refine g_skip rfl rfl rfl ?_
         refine g_step rfl rfl rfl rfl (e_pickF (v := .sc _) rfl rfl) trivial ?_
         refine g_step rfl rfl rfl rfl (e_move (v := .sc _) rfl) trivial ?_
         refine g_skip rfl rfl rfl ?_
         refine g_skip rfl rfl rfl ?_
         refine g_skip rfl rfl rfl ?_
         refine g_skip rfl rfl rfl ?_
         refine g_skip rfl rfl rfl ?_
         refine g_skip rfl rfl rfl ?_
         refine g_step rfl rfl rfl rfl (e_pickF (v := .sc _) rfl rfl) trivial ?_
         refine g_step rfl rfl rfl rfl (e_assign (v := .sc _) rfl) trivial ?_
         refine g_end (ds := [76, 77, 80, 81, 82, 83, 84, 85, 88, 89, 90, 91, 92, 93, 96, 97, 98, 99, 100, 101]) rfl rfl (hK61 _ ?_); clear hK61 K61
         refine pwp_ret ?_
         refine end1 (v := .sc _) rfl ?_
         first
           | exact out_b rfl
           | exact out_b (by first | (simp_all; done) | fail)
       ·have hb63R := hb63; try simp only [z1, z2, z3, z4, z5, z6, ne_eq, z7, z8, z9, z10, z11, z12] at hb63
        refine g_skip rfl rfl rfl ?_
        refine g_skip rfl rfl rfl ?_
        refine g_skip rfl rfl rfl ?_
        refine g_skip rfl rfl rfl ?_
        refine g_skip rfl rfl rfl ?_
        refine g_nocall rfl rfl rfl ?_
        refine g_step rfl rfl rfl rfl (e_pickF (v := .sc _) rfl rfl) trivial ?_
        refine g_step rfl rfl rfl rfl (e_move (v := .sc _) rfl) trivial ?_
        refine g_skip rfl rfl rfl ?_
        refine g_skip rfl rfl rfl ?_
        refine g_skip rfl rfl rfl ?_
        refine g_skip rfl rfl rfl ?_
        refine g_skip rfl rfl rfl ?_
        refine g_skip rfl rfl rfl ?_
        refine g_step rfl rfl rfl rfl (e_pickF (v := .sc _) rfl rfl) trivial ?_
        refine g_step rfl rfl rfl rfl (e_move (v := .sc _) rfl) trivial ?_
        refine g_skip rfl rfl rfl ?_
        refine g_skip rfl rfl rfl ?_
        refine g_skip rfl rfl rfl ?_
        refine g_skip rfl rfl rfl ?_
        refine g_skip rfl rfl rfl ?_
        refine g_skip rfl rfl rfl ?_
        refine g_step rfl rfl rfl rfl (e_pickF (v := .sc _) rfl rfl) trivial ?_
        refine g_step rfl rfl rfl rfl (e_assign (v := .sc _) rfl) trivial ?_
        refine g_end (ds := [76, 77, 80, 81, 82, 83, 84, 85, 88, 89, 90, 91, 92, 93, 96, 97, 98, 99, 100, 101]) rfl rfl (hK61 _ ?_); clear hK61 K61
        refine pwp_ret ?_
        refine end1 (v := .sc _) rfl ?_
        first
          | exact out_b rfl
          | exact out_b (by first | (simp_all; done) | fail)
      ·have hb62R := hb62; try simp only [z1, z2, z3, z4, z5, z6, ne_eq, z7, z8, z9, z10, z11, z12] at hb62
       refine g_skip rfl rfl rfl ?_
       refine g_skip rfl rfl rfl ?_
       refine g_step rfl rfl rfl rfl (e_pickF (v := .sc _) rfl rfl) trivial ?_
       refine g_step rfl rfl rfl rfl (e_move (v := .sc _) rfl) trivial ?_
       refine g_skip rfl rfl rfl ?_
       refine g_skip rfl rfl rfl ?_
       refine g_skip rfl rfl rfl ?_
       refine g_skip rfl rfl rfl ?_
       refine g_skip rfl rfl rfl ?_
       refine g_nocall rfl rfl rfl ?_
       refine g_step rfl rfl rfl rfl (e_pickF (v := .sc _) rfl rfl) trivial ?_
       refine g_step rfl rfl rfl rfl (e_move (v := .sc _) rfl) trivial ?_
       refine g_skip rfl rfl rfl ?_
       refine g_skip rfl rfl rfl ?_
       refine g_skip rfl rfl rfl ?_
       refine g_skip rfl rfl rfl ?_
       refine g_skip rfl rfl rfl ?_
       refine g_skip rfl rfl rfl ?_
       refine g_step rfl rfl rfl rfl (e_pickF (v := .sc _) rfl rfl) trivial ?_
       refine g_step rfl rfl rfl rfl (e_move (v := .sc _) rfl) trivial ?_
       refine g_skip rfl rfl rfl ?_
       refine g_skip rfl rfl rfl ?_
       refine g_skip rfl rfl rfl ?_
       refine g_skip rfl rfl rfl ?_
       refine g_skip rfl rfl rfl ?_
       refine g_skip rfl rfl rfl ?_
       refine g_step rfl rfl rfl rfl (e_pickF (v := .sc _) rfl rfl) trivial ?_
       refine g_step rfl rfl rfl rfl (e_assign (v := .sc _) rfl) trivial ?_
       refine g_end (ds := [76, 77, 80, 81, 82, 83, 84, 85, 88, 89, 90, 91, 92, 93, 96, 97, 98, 99, 100, 101]) rfl rfl (hK61 _ ?_); clear hK61 K61
       refine pwp_ret ?_
       refine end1 (v := .sc _) rfl ?_
       first
         | exact out_b rfl
         | exact out_b (by first | (simp_all; done) | fail)
  ·have hb8R := hb8; try simp only [z1, z2, z3, z4, z5, z6, ne_eq, z7, z8, z9, z10, z11, z12] at hb8
   refine g_skip rfl rfl rfl ?_
   refine g_skip rfl rfl rfl ?_
   refine g_skip rfl rfl rfl ?_
   refine g_step rfl rfl rfl rfl (e_pickF (v := .sc _) rfl rfl) trivial ?_
   refine g_step rfl rfl rfl rfl (e_pickF (v := .sc _) rfl rfl) trivial ?_
   refine g_end (ds := [16, 17, 18, 19, 20, 21, 22, 23]) rfl rfl (hK4 _ ?_); clear hK4 K4
   refine pwp_seq_cond (t := false) rfl fun K66 hK66 => ⟨nofun, fun _ => ?_⟩
   refine pwp_skip ?_
   refine seq_norm (hK66 _ ?_); clear hK66 K66
   have hfw := few_fair (by assumption)
   refine pwp_seq_plain rfl fun K67 hK67 => ?_
   refine p_step rfl (e_move (v := .lit _ _ _) rfl) trivial ?_
   refine p_call rfl (.cons inn_lit .nil) (FewestC _ (by omega) hfw.2 (by simp only [List.length_map] at *; omega)) ?_
   refine p_step rfl (e_move (v := .tup _) rfl) trivial ?_
   refine p_step rfl (e_ext (v := .lit _ _ _) rfl (by simp) rfl) trivial ?_
   refine p_step rfl (e_ext (v := .sc _) rfl (by simp) rfl) trivial ?_
   refine p_step rfl (e_ext (v := .sc _) rfl (by simp) rfl) trivial ?_
   refine p_step rfl (e_assign (v := .lit _ _ _) rfl) trivial ?_
   refine p_step rfl (e_assign (v := .sc _) rfl) trivial ?_
   refine p_step rfl (e_assign (v := .sc _) rfl) trivial ?_
   refine p_end (hK67 _ ?_); clear hK67 K67
   refine pwp_seq_plain rfl fun K68 hK68 => ?_
   refine p_step rfl (e_move (v := .lit _ _ _) rfl) trivial ?_
   refine p_call rfl (.cons inn_lit .nil) (OrdersC _ (by omega) hfw.2 (by simp only [List.length_map] at *; omega)) ?_
   refine p_step rfl (e_move (v := .tup _) rfl) trivial ?_
   refine p_step rfl (e_ext (v := .sc _) rfl (by simp) rfl) trivial ?_
   refine p_step rfl (e_ext (v := .sc _) rfl (by simp) rfl) trivial ?_
   refine p_step rfl (e_assign (v := .sc _) rfl) trivial ?_
   refine p_step rfl (e_assign (v := .sc _) rfl) trivial ?_
   refine p_end (hK68 _ ?_); clear hK68 K68
   refine pwp_seq_plain rfl fun K69 hK69 => ?_
   refine p_step rfl (e_move (v := .lit _ _ _) rfl) trivial ?_
   refine p_call rfl (.cons inn_lit .nil) (refCheckC _ (by omega) hfw.2) ?_
   refine p_step rfl (e_assign (v := .sc _) rfl) trivial ?_
   refine p_end (hK69 _ ?_); clear hK69 K69
   refine pwp_seq_seq ?_
   refine pwp_seq_gops rfl fun K70 hK70 => ?_
   refine g_begin ?_
   refine g_step rfl rfl rfl rfl (e_move (v := .sc _) rfl) trivial ?_
   refine g_step rfl rfl rfl rfl (e_eq rfl rfl) trivial ?_
   refine g_step rfl rfl rfl rfl (e_move (v := .sc _) rfl) trivial ?_
   refine g_cases (fun hb71 => ?_) (fun hb71 => ?_)
   ·have hb71R := hb71; try simp only [z1, z2, z3, z4, z5, z6, ne_eq, z7, z8, z9, z10, z11, z12] at hb71
    refine g_step rfl rfl rfl rfl (e_move (v := .lit _ _ _) rfl) trivial ?_
    refine g_step rfl rfl rfl rfl (e_len rfl (by kernel_rfl)) trivial ?_
    refine g_step rfl rfl rfl rfl (e_gt rfl rfl) trivial ?_
    refine g_step rfl rfl rfl rfl (e_pickT (v := .sc _) rfl rfl) trivial ?_
    refine g_end (ds := [41, 42, 43]) rfl rfl (hK70 _ ?_); clear hK70 K70
    refine pwp_seq_cond rfl fun K72 hK72 => ⟨fun hb73 => ?_, fun hb73 => ?_⟩
    ·have hb73R := hb73; try simp only [z1, z2, z3, z4, z5, z6, ne_eq, z7, z8, z9, z10, z11, z12] at hb73
     refine pwp_plain rfl fun K74 hK74 => ?_
     refine p_step rfl (e_assign (v := .sc _) rfl) trivial ?_
     refine p_end (hK74 _ ?_); clear hK74 K74
     refine seq_norm (hK72 _ ?_); clear hK72 K72
     refine pwp_seq_seq ?_
     refine pwp_seq_plain rfl fun K75 hK75 => ?_
     refine p_step rfl (e_move (v := .sc _) rfl) trivial ?_
     refine p_step rfl (e_ne rfl rfl) trivial ?_
     refine p_end (hK75 _ ?_); clear hK75 K75
     refine pwp_seq_cond rfl fun K76 hK76 => ⟨fun hb77 => ?_, fun hb77 => ?_⟩
     ·have hb77R := hb77; try simp only [z1, z2, z3, z4, z5, z6, ne_eq, z7, z8, z9, z10, z11, z12] at hb77
      have hsm : smallE xs = (8) := by
        first
        | exact small_pE (by assumption)
        | exact small_8E (by first | assumption | omega) (by simp only [List.length_map] at *; omega)
      have hne : ((8) : Int) ≠ 0 := by first | assumption | decide
      have f1 := few_eqE hsm hne
      have f2 := ord_eqE hsm hne
      have f11 := congrArg Prod.fst f1
      have f12 := congrArg (fun p => p.2.1) f1
      have f13 := congrArg (fun p => p.2.2) f1
      have f21 := congrArg Prod.fst f2
      have f22 := congrArg Prod.snd f2
      dsimp only at f11 f12 f13 f21 f22
      refine pwp_seq_gops rfl fun K78 hK78 => ?_
      refine g_begin ?_
      refine g_step rfl rfl rfl rfl (e_move (v := .sc _) rfl) trivial ?_
      refine g_step rfl rfl rfl rfl (e_move (v := .sc _) rfl) trivial ?_
      refine g_step rfl rfl rfl rfl (e_eq rfl rfl) trivial ?_
      refine g_step rfl rfl rfl rfl (e_move (v := .sc _) rfl) trivial ?_
      refine g_cases (fun hb79 => ?_) (fun hb79 => ?_)
      ·have hb79R := hb79; try simp only [z1, z2, z3, z4, z5, z6, ne_eq, z7, z8, z9, z10, z11, z12] at hb79
       refine g_step rfl rfl rfl rfl (e_move (v := .sc _) rfl) trivial ?_
       refine g_step rfl rfl rfl rfl (e_move (v := .sc _) rfl) trivial ?_
       refine g_step rfl rfl rfl rfl (e_eq rfl rfl) trivial ?_
       refine g_step rfl rfl rfl rfl (e_pickT (v := .sc _) rfl rfl) trivial ?_
       refine g_step rfl rfl rfl rfl (e_move (v := .sc _) rfl) trivial ?_
       refine g_cases (fun hb80 => ?_) (fun hb80 => ?_)
       ·have hb80R := hb80; try simp only [z1, z2, z3, z4, z5, z6, ne_eq, z7, z8, z9, z10, z11, z12] at hb80
        refine g_step rfl rfl rfl rfl (e_move (v := .lit _ _ _) rfl) trivial ?_
        refine g_step rfl rfl rfl rfl (e_len rfl (by kernel_rfl)) trivial ?_
        refine g_step rfl rfl rfl rfl (e_eq rfl rfl) trivial ?_
        refine g_step rfl rfl rfl rfl (e_pickT (v := .sc _) rfl rfl) trivial ?_
        refine g_step rfl rfl rfl rfl (e_move (v := .sc _) rfl) trivial ?_
        refine g_cases (fun hb81 => ?_) (fun hb81 => ?_)
        ·have hb81R := hb81; try simp only [z1, z2, z3, z4, z5, z6, ne_eq, z7, z8, z9, z10, z11, z12] at hb81
         refine g_step rfl rfl rfl rfl (e_move (v := .sc _) rfl) trivial ?_
         refine g_step rfl rfl rfl rfl (e_eq rfl rfl) trivial ?_
         refine g_step rfl rfl rfl rfl (e_pickT (v := .sc _) rfl rfl) trivial ?_
         refine g_step rfl rfl rfl rfl (e_move (v := .sc _) rfl) trivial ?_
         refine g_cases (fun hb82 => ?_) (fun hb82 => ?_)
         ·have hb82R := hb82; try simp only [z1, z2, z3, z4, z5, z6, ne_eq, z7, z8, z9, z10, z11, z12] at hb82
          refine g_step rfl rfl rfl rfl (e_move (v := .sc _) rfl) trivial ?_
          refine g_step rfl rfl rfl rfl (e_eq rfl rfl) trivial ?_
          refine g_step rfl rfl rfl rfl (e_pickT (v := .sc _) rfl rfl) trivial ?_
          refine g_step rfl rfl rfl rfl (e_assign (v := .sc _) rfl) trivial ?_
          refine g_end (ds := [51, 52, 53, 56, 57, 58, 61, 62, 65, 66]) rfl rfl (hK78 _ ?_); clear hK78 K78
          refine pwp_ret ?_
          refine ret_seq ?_
          refine end1 (v := .sc _) rfl ?_
          first
            | exact out_b rfl
            | exact out_b (by first | (simp_all; done) | fail)
         ·have hb82R := hb82; try simp only [z1, z2, z3, z4, z5, z6, ne_eq, z7, z8, z9, z10, z11, z12] at hb82
          refine g_skip rfl rfl rfl ?_
          refine g_skip rfl rfl rfl ?_
          refine g_step rfl rfl rfl rfl (e_pickF (v := .sc _) rfl rfl) trivial ?_
          refine g_step rfl rfl rfl rfl (e_assign (v := .sc _) rfl) trivial ?_
          refine g_end (ds := [51, 52, 53, 56, 57, 58, 61, 62, 65, 66]) rfl rfl (hK78 _ ?_); clear hK78 K78
          refine pwp_ret ?_
          refine ret_seq ?_
          refine end1 (v := .sc _) rfl ?_
          first
            | exact out_b rfl
            | exact out_b (by first | (simp_all; done) | fail)
        ·have hb81R := hb81; try simp only [z1, z2, z3, z4, z5, z6, ne_eq, z7, z8, z9, z10, z11, z12] at hb81
         refine g_skip rfl rfl rfl ?_
         refine g_skip rfl rfl rfl ?_
         refine g_step rfl rfl rfl rfl (e_pickF (v := .sc _) rfl rfl) trivial ?_
         refine g_step rfl rfl rfl rfl (e_move (v := .sc _) rfl) trivial ?_
         refine g_skip rfl rfl rfl ?_
         refine g_skip rfl rfl rfl ?_
         refine g_step rfl rfl rfl rfl (e_pickF (v := .sc _) rfl rfl) trivial ?_
         refine g_step rfl rfl rfl rfl (e_assign (v := .sc _) rfl) trivial ?_
         refine g_end (ds := [51, 52, 53, 56, 57, 58, 61, 62, 65, 66]) rfl rfl (hK78 _ ?_); clear hK78 K78
         refine pwp_ret ?_
         refine ret_seq ?_
         refine end1 (v := .sc _) rfl ?_
         first
           | exact out_b rfl
           | exact out_b (by first | (simp_all; done) | fail)
       ·have hb80R := hb80; try simp only [z1, z2, z3, z4, z5, z6, ne_eq, z7, z8, z9, z10, z11, z12] at hb80
        refine g_skip rfl rfl rfl ?_
        refine g_skip rfl rfl rfl ?_
        refine g_skip rfl rfl rfl ?_
        refine g_step rfl rfl rfl rfl (e_pickF (v := .sc _) rfl rfl) trivial ?_
        refine g_step rfl rfl rfl rfl (e_move (v := .sc _) rfl) trivial ?_
        refine g_skip rfl rfl rfl ?_
        refine g_skip rfl rfl rfl ?_
        refine g_step rfl rfl rfl rfl (e_pickF (v := .sc _) rfl rfl) trivial ?_
        refine g_step rfl rfl rfl rfl (e_move (v := .sc _) rfl) trivial ?_
        refine g_skip rfl rfl rfl ?_
        refine g_skip rfl rfl rfl ?_
        refine g_step rfl rfl rfl rfl (e_pickF (v := .sc _) rfl rfl) trivial ?_
        refine g_step rfl rfl rfl rfl (e_assign (v := .sc _) rfl) trivial ?_
        refine g_end (ds := [51, 52, 53, 56, 57, 58, 61, 62, 65, 66]) rfl rfl (hK78 _ ?_); clear hK78 K78
        refine pwp_ret ?_
        refine ret_seq ?_
        refine end1 (v := .sc _) rfl ?_
        first
          | exact out_b rfl
          | exact out_b (by first | (simp_all; done) | fail)
      ·have hb79R := hb79; try simp only [z1, z2, z3, z4, z5, z6, ne_eq, z7, z8, z9, z10, z11, z12] at hb79
       refine g_skip rfl rfl rfl ?_
       refine g_skip rfl rfl rfl ?_
       refine g_skip rfl rfl rfl ?_
       refine g_step rfl rfl rfl rfl (e_pickF (v := .sc _) rfl rfl) trivial ?_
       refine g_step rfl rfl rfl rfl (e_move (v := .sc _) rfl) trivial ?_
       refine g_skip rfl rfl rfl ?_
       refine g_skip rfl rfl rfl ?_
       refine g_skip rfl rfl rfl ?_
       refine g_step rfl rfl rfl rfl (e_pickF (v := .sc _) rfl rfl) trivial ?_
       refine g_step rfl rfl rfl rfl (e_move (v := .sc _) rfl) trivial ?_
       refine g_skip rfl rfl rfl ?_
       refine g_skip rfl rfl rfl ?_
       refine g_step rfl rfl rfl rfl (e_pickF (v := .sc _) rfl rfl) trivial ?_
       refine g_step rfl rfl rfl rfl (e_move (v := .sc _) rfl) trivial ?_
       refine g_skip rfl rfl rfl ?_
       refine g_skip rfl rfl rfl ?_
       refine g_step rfl rfl rfl rfl (e_pickF (v := .sc _) rfl rfl) trivial ?_
       refine g_step rfl rfl rfl rfl (e_assign (v := .sc _) rfl) trivial ?_
       refine g_end (ds := [51, 52, 53, 56, 57, 58, 61, 62, 65, 66]) rfl rfl (hK78 _ ?_); clear hK78 K78
       refine pwp_ret ?_
       refine ret_seq ?_
       refine end1 (v := .sc _) rfl ?_
       first
         | exact out_b rfl
         | exact out_b (by first | (simp_all; done) | fail)
     ·have hb77R := hb77; try simp only [z1, z2, z3, z4, z5, z6, ne_eq, z7, z8, z9, z10, z11, z12] at hb77
      refine pwp_skip ?_
      refine seq_norm (hK76 _ ?_); clear hK76 K76
      have hp : planE xs = 0 := by first | assumption | omega
      have hn14 : xs.length ≤ 14 := by simp only [List.length_map] at *; omega
      have hn6 : xs.length ≤ 6 := by simp only [List.length_map] at *; omega
      have hsm := small_0E hp hn14
      have f1 := few_eq0 hsm
      have f2 := ord_eq0 hsm
      have f11 := congrArg Prod.fst f1
      have f12 := congrArg (fun p => p.2.1) f1
      have f13 := congrArg (fun p => p.2.2) f1
      have f21 := congrArg Prod.fst f2
      have f22 := congrArg Prod.snd f2
      dsimp only at f11 f12 f13 f21 f22
      have hgl := grd_len hp hn14
      refine pwp_seq_plain rfl fun K83 hK83 => ?_
      refine p_step rfl (e_move (v := .lit _ _ _) rfl) trivial ?_
      refine p_step rfl (e_build (zs := [.nil, .int 0, .nil, .int 0]) (pl := [(0, 1, false), (1, 1, false), (2, 1, false), (3, 1, false)]) (by kernel_rfl) (by kernel_rfl) (by kernel_rfl) rfl rfl (by exact ⟨by decide, rfl, Nat.le_of_ble_eq_true rfl, rfl, trivial⟩) rfl) trivial ?_
      refine p_new rfl (e_box (n := 4) rfl rfl) ⟨rfl, by decide⟩ ?_
      refine p_step rfl (e_assign (v := .ptr _ _ _ _) rfl) trivial ?_
      refine p_end (hK83 _ ?_); clear hK83 K83
      refine pwp_seq_plain rfl fun K84 hK84 => ?_
      refine p_step rfl (e_move (v := .ptr _ _ _ _) rfl) trivial ?_
      refine p_hcall rfl (walkC hp hfw.2 hn6 xs.length [] ⟨0, [], 0⟩ .nil .nil _ _ (fun z hz => by cases hz) (Nat.zero_add _) (Int.le_refl _) (walk_pow hn6) (hset_self _ _ _) (.inl ⟨rfl, rfl⟩) .nil (fun g n e => by cases e)) fun v9 h9 c9 hR9 => ?_
      obtain ⟨⟨w, hb9, hbw⟩, hfr9⟩ := hR9
      rw [walk_few hp hn14] at hb9 hbw
      refine p_end (hK84 _ ?_); clear hK84 K84
      refine pwp_seq_gops rfl fun K85 hK85 => ?_
      refine g_begin ?_
      refine g_step rfl rfl rfl rfl (e_move (v := .sc _) rfl) trivial ?_
      refine g_step rfl rfl rfl rfl (e_eq rfl rfl) trivial ?_
      refine g_step rfl rfl rfl rfl (e_move (v := .sc _) rfl) trivial ?_
      refine g_cases (fun hb86 => ?_) (fun hb86 => ?_)
      ·have hb86R := hb86; try simp only [z1, z2, z3, z4, z5, z6, ne_eq, z7, z8, z9, z10, z11, z12] at hb86
       refine g_step rfl rfl rfl rfl (e_move (v := .sc _) rfl) trivial ?_
       refine g_step rfl rfl rfl rfl (e_eq rfl rfl) trivial ?_
       refine g_step rfl rfl rfl rfl (e_pickT (v := .sc _) rfl rfl) trivial ?_
       refine g_step rfl rfl rfl rfl (e_move (v := .sc _) rfl) trivial ?_
       refine g_cases (fun hb87 => ?_) (fun hb87 => ?_)
       ·have hb87R := hb87; try simp only [z1, z2, z3, z4, z5, z6, ne_eq, z7, z8, z9, z10, z11, z12] at hb87
        refine g_step rfl rfl rfl rfl (e_move (v := .lit _ _ _) rfl) trivial ?_
        refine g_step rfl rfl rfl rfl (e_move (v := .ptr _ _ _ _) rfl) trivial ?_
        refine g_step rfl rfl rfl rfl (e_nilc rfl) trivial ?_
        refine g_step rfl rfl rfl rfl (e_faP (pl := [(0, 1, false), (1, 1, false), (2, 1, false), (3, 1, false)]) rfl (by kernel_rfl) (by kernel_rfl) (by decide) rfl) trivial ?_
        refine g_step rfl rfl rfl rfl (e_loadH (v := w) rfl hb9 (by kernel_rfl) (by kernel_rfl) (by kernel_rfl) (by exact Nat.zero_lt_one) (by decide) rfl) trivial ?_
        refine g_call rfl rfl rfl rfl (.cons inn_lit (.cons (LitV.inn hbw) .nil)) (IntsC _ _ (by rw [f11, hgl]; omega)) ?_
        refine g_step rfl rfl rfl rfl (e_pickT (v := .sc _) rfl rfl) trivial ?_
        refine g_step rfl rfl rfl rfl (e_move (v := .sc _) rfl) trivial ?_
        refine g_cases (fun hb88 => ?_) (fun hb88 => ?_)
        ·have hb88R := hb88; try simp only [z1, z2, z3, z4, z5, z6, ne_eq, z7, z8, z9, z10, z11, z12] at hb88
         refine g_step rfl rfl rfl rfl (e_move (v := .sc _) rfl) trivial ?_
         refine g_step rfl rfl rfl rfl (e_move (v := .ptr _ _ _ _) rfl) trivial ?_
         refine g_step rfl rfl rfl rfl (e_nilc rfl) trivial ?_
         refine g_step rfl rfl rfl rfl (e_faP (pl := [(0, 1, false), (1, 1, false), (2, 1, false), (3, 1, false)]) rfl (by kernel_rfl) (by kernel_rfl) (by decide) rfl) trivial ?_
         refine g_step rfl rfl rfl rfl (e_loadH (v := .sc _) rfl hb9 (by kernel_rfl) (by kernel_rfl) (by kernel_rfl) (by exact Nat.zero_lt_one) (by decide) rfl) trivial ?_
         refine g_step rfl rfl rfl rfl (e_eq rfl rfl) trivial ?_
         refine g_step rfl rfl rfl rfl (e_pickT (v := .sc _) rfl rfl) trivial ?_
         refine g_step rfl rfl rfl rfl (e_move (v := .sc _) rfl) trivial ?_
         refine g_cases (fun hb89 => ?_) (fun hb89 => ?_)
         ·have hb89R := hb89; try simp only [z1, z2, z3, z4, z5, z6, ne_eq, z7, z8, z9, z10, z11, z12] at hb89
          refine g_step rfl rfl rfl rfl (e_move (v := .sc _) rfl) trivial ?_
          refine g_step rfl rfl rfl rfl (e_move (v := .ptr _ _ _ _) rfl) trivial ?_
          refine g_step rfl rfl rfl rfl (e_nilc rfl) trivial ?_
          refine g_step rfl rfl rfl rfl (e_faP (pl := [(0, 1, false), (1, 1, false), (2, 1, false), (3, 1, false)]) rfl (by kernel_rfl) (by kernel_rfl) (by decide) rfl) trivial ?_
          refine g_step rfl rfl rfl rfl (e_loadH (v := .sc _) rfl hb9 (by kernel_rfl) (by kernel_rfl) (by kernel_rfl) (by exact Nat.zero_lt_one) (by decide) rfl) trivial ?_
          refine g_step rfl rfl rfl rfl (e_eq rfl rfl) trivial ?_
          refine g_step rfl rfl rfl rfl (e_pickT (v := .sc _) rfl rfl) trivial ?_
          refine g_step rfl rfl rfl rfl (e_assign (v := .sc _) rfl) trivial ?_
          refine g_end (ds := [76, 77, 80, 81, 82, 83, 84, 85, 88, 89, 90, 91, 92, 93, 96, 97, 98, 99, 100, 101]) rfl rfl (hK85 _ ?_); clear hK85 K85
          refine pwp_ret ?_
          refine end1 (v := .sc _) rfl ?_
          first
            | exact out_b rfl
            | exact out_b (by first | (simp_all; done) | fail)
         ·have hb89R := hb89; try simp only [z1, z2, z3, z4, z5, z6, ne_eq, z7, z8, z9, z10, z11, z12] at hb89
          refine g_skip rfl rfl rfl ?_
          refine g_skip rfl rfl rfl ?_
          refine g_skip rfl rfl rfl ?_
          refine g_skip rfl rfl rfl ?_
          refine g_skip rfl rfl rfl ?_
          refine g_skip rfl rfl rfl ?_
          refine g_step rfl rfl rfl rfl (e_pickF (v := .sc _) rfl rfl) trivial ?_
          refine g_step rfl rfl rfl rfl (e_assign (v := .sc _) rfl) trivial ?_
          refine g_end (ds := [76, 77, 80, 81, 82, 83, 84, 85, 88, 89, 90, 91, 92, 93, 96, 97, 98, 99, 100, 101]) rfl rfl (hK85 _ ?_); clear hK85 K85
          refine pwp_ret ?_
          refine end1 (v := .sc _) rfl ?_
          first
            | exact out_b rfl
            | exact out_b (by first | (simp_all; done) | fail)
        ·have hb88R := hb88; try simp only [z1, z2, z3, z4, z5, z6, ne_eq, z7, z8, z9, z10, z11, z12] at hb88
         refine g_skip rfl rfl rfl ?_
         refine g_skip rfl rfl rfl ?_
         refine g_skip rfl rfl rfl ?_
         refine g_skip rfl rfl rfl ?_
         refine g_skip rfl rfl rfl ?_
         refine g_skip rfl rfl rfl ?_
         refine g_step rfl rfl rfl rfl (e_pickF (v := .sc _) rfl rfl) trivial ?_
         refine g_step rfl rfl rfl rfl (e_move (v := .sc _) rfl) trivial ?_
         refine g_skip rfl rfl rfl ?_
         refine g_skip rfl rfl rfl ?_
         refine g_skip rfl rfl rfl ?_
         refine g_skip rfl rfl rfl ?_
         refine g_skip rfl rfl rfl ?_
         refine g_skip rfl rfl rfl ?_
         refine g_step rfl rfl rfl rfl (e_pickF (v := .sc _) rfl rfl) trivial ?_
         refine g_step rfl rfl rfl rfl (e_assign (v := .sc _) rfl) trivial ?_
         refine g_end (ds := [76, 77, 80, 81, 82, 83, 84, 85, 88, 89, 90, 91, 92, 93, 96, 97, 98, 99, 100, 101]) rfl rfl (hK85 _ ?_); clear hK85 K85
         refine pwp_ret ?_
         refine end1 (v := .sc _) rfl ?_
         first
           | exact out_b rfl
           | exact out_b (by first | (simp_all; done) | fail)
       ·have hb87R := hb87; try simp only [z1, z2, z3, z4, z5, z6, ne_eq, z7, z8, z9, z10, z11, z12] at hb87
        refine g_skip rfl rfl rfl ?_
        refine g_skip rfl rfl rfl ?_
        refine g_skip rfl rfl rfl ?_
        refine g_skip rfl rfl rfl ?_
        refine g_skip rfl rfl rfl ?_
        refine g_nocall rfl rfl rfl ?_
        refine g_step rfl rfl rfl rfl (e_pickF (v := .sc _) rfl rfl) trivial ?_
        refine g_step rfl rfl rfl rfl (e_move (v := .sc _) rfl) trivial ?_
        refine g_skip rfl rfl rfl ?_
        refine g_skip rfl rfl rfl ?_
        refine g_skip rfl rfl rfl ?_
        refine g_skip rfl rfl rfl ?_
        refine g_skip rfl rfl rfl ?_
        refine g_skip rfl rfl rfl ?_
        refine g_step rfl rfl rfl rfl (e_pickF (v := .sc _) rfl rfl) trivial ?_
        refine g_step rfl rfl rfl rfl (e_move (v := .sc _) rfl) trivial ?_
        refine g_skip rfl rfl rfl ?_
        refine g_skip rfl rfl rfl ?_
        refine g_skip rfl rfl rfl ?_
        refine g_skip rfl rfl rfl ?_
        refine g_skip rfl rfl rfl ?_
        refine g_skip rfl rfl rfl ?_
        refine g_step rfl rfl rfl rfl (e_pickF (v := .sc _) rfl rfl) trivial ?_
        refine g_step rfl rfl rfl rfl (e_assign (v := .sc _) rfl) trivial ?_
        refine g_end (ds := [76, 77, 80, 81, 82, 83, 84, 85, 88, 89, 90, 91, 92, 93, 96, 97, 98, 99, 100, 101]) rfl rfl (hK85 _ ?_); clear hK85 K85
        refine pwp_ret ?_
        refine end1 (v := .sc _) rfl ?_
        first
          | exact out_b rfl
          | exact out_b (by first | (simp_all; done) | fail)
      ·have hb86R := hb86; try simp only [z1, z2, z3, z4, z5, z6, ne_eq, z7, z8, z9, z10, z11, z12] at hb86
       refine g_skip rfl rfl rfl ?_
       refine g_skip rfl rfl rfl ?_
       refine g_step rfl rfl rfl rfl (e_pickF (v := .sc _) rfl rfl) trivial ?_
       refine g_step rfl rfl rfl rfl (e_move (v := .sc _) rfl) trivial ?_
       refine g_skip rfl rfl rfl ?_
       refine g_skip rfl rfl rfl ?_
       refine g_skip rfl rfl rfl ?_
       refine g_skip rfl rfl rfl ?_
       refine g_skip rfl rfl rfl ?_
       refine g_nocall rfl rfl rfl ?_
       refine g_step rfl rfl rfl rfl (e_pickF (v := .sc _) rfl rfl) trivial ?_
       refine g_step rfl rfl rfl rfl (e_move (v := .sc _) rfl) trivial ?_
       refine g_skip rfl rfl rfl ?_
       refine g_skip rfl rfl rfl ?_
       refine g_skip rfl rfl rfl ?_
       refine g_skip rfl rfl rfl ?_
       refine g_skip rfl rfl rfl ?_
       refine g_skip rfl rfl rfl ?_
       refine g_step rfl rfl rfl rfl (e_pickF (v := .sc _) rfl rfl) trivial ?_
       refine g_step rfl rfl rfl rfl (e_move (v := .sc _) rfl) trivial ?_
       refine g_skip rfl rfl rfl ?_
       refine g_skip rfl rfl rfl ?_
       refine g_skip rfl rfl rfl ?_
       refine g_skip rfl rfl rfl ?_
       refine g_skip rfl rfl rfl ?_
       refine g_skip rfl rfl rfl ?_
       refine g_step rfl rfl rfl rfl (e_pickF (v := .sc _) rfl rfl) trivial ?_
       refine g_step rfl rfl rfl rfl (e_assign (v := .sc _) rfl) trivial ?_
       refine g_end (ds := [76, 77, 80, 81, 82, 83, 84, 85, 88, 89, 90, 91, 92, 93, 96, 97, 98, 99, 100, 101]) rfl rfl (hK85 _ ?_); clear hK85 K85
       refine pwp_ret ?_
       refine end1 (v := .sc _) rfl ?_
       first
         | exact out_b rfl
         | exact out_b (by first | (simp_all; done) | fail)
    ·have hb73R := hb73; try simp only [z1, z2, z3, z4, z5, z6, ne_eq, z7, z8, z9, z10, z11, z12] at hb73
     refine pwp_skip ?_
     refine seq_norm (hK72 _ ?_); clear hK72 K72
     refine pwp_seq_seq ?_
     refine pwp_seq_plain rfl fun K90 hK90 => ?_
     refine p_step rfl (e_move (v := .sc _) rfl) trivial ?_
     refine p_step rfl (e_ne rfl rfl) trivial ?_
     refine p_end (hK90 _ ?_); clear hK90 K90
     refine pwp_seq_cond rfl fun K91 hK91 => ⟨fun hb92 => ?_, fun hb92 => ?_⟩
     ·have hb92R := hb92; try simp only [z1, z2, z3, z4, z5, z6, ne_eq, z7, z8, z9, z10, z11, z12] at hb92
      have hsm : smallE xs = (planE xs) := by
        first
        | exact small_pE (by assumption)
        | exact small_8E (by first | assumption | omega) (by simp only [List.length_map] at *; omega)
      have hne : ((planE xs) : Int) ≠ 0 := by first | assumption | decide
      have f1 := few_eqE hsm hne
      have f2 := ord_eqE hsm hne
      have f11 := congrArg Prod.fst f1
      have f12 := congrArg (fun p => p.2.1) f1
      have f13 := congrArg (fun p => p.2.2) f1
      have f21 := congrArg Prod.fst f2
      have f22 := congrArg Prod.snd f2
      dsimp only at f11 f12 f13 f21 f22
      refine pwp_seq_gops rfl fun K93 hK93 => ?_
      refine g_begin ?_
      refine g_step rfl rfl rfl rfl (e_move (v := .sc _) rfl) trivial ?_
      refine g_step rfl rfl rfl rfl (e_move (v := .sc _) rfl) trivial ?_
      refine g_step rfl rfl rfl rfl (e_eq rfl rfl) trivial ?_
      refine g_step rfl rfl rfl rfl (e_move (v := .sc _) rfl) trivial ?_
      refine g_cases (fun hb94 => ?_) (fun hb94 => ?_)
      ·have hb94R := hb94; try simp only [z1, z2, z3, z4, z5, z6, ne_eq, z7, z8, z9, z10, z11, z12] at hb94
       refine g_step rfl rfl rfl rfl (e_move (v := .sc _) rfl) trivial ?_
       refine g_step rfl rfl rfl rfl (e_move (v := .sc _) rfl) trivial ?_
       refine g_step rfl rfl rfl rfl (e_eq rfl rfl) trivial ?_
       refine g_step rfl rfl rfl rfl (e_pickT (v := .sc _) rfl rfl) trivial ?_
       refine g_step rfl rfl rfl rfl (e_move (v := .sc _) rfl) trivial ?_
       refine g_cases (fun hb95 => ?_) (fun hb95 => ?_)
       ·have hb95R := hb95; try simp only [z1, z2, z3, z4, z5, z6, ne_eq, z7, z8, z9, z10, z11, z12] at hb95
        refine g_step rfl rfl rfl rfl (e_move (v := .lit _ _ _) rfl) trivial ?_
        refine g_step rfl rfl rfl rfl (e_len rfl (by kernel_rfl)) trivial ?_
        refine g_step rfl rfl rfl rfl (e_eq rfl rfl) trivial ?_
        refine g_step rfl rfl rfl rfl (e_pickT (v := .sc _) rfl rfl) trivial ?_
        refine g_step rfl rfl rfl rfl (e_move (v := .sc _) rfl) trivial ?_
        refine g_cases (fun hb96 => ?_) (fun hb96 => ?_)
        ·have hb96R := hb96; try simp only [z1, z2, z3, z4, z5, z6, ne_eq, z7, z8, z9, z10, z11, z12] at hb96
         refine g_step rfl rfl rfl rfl (e_move (v := .sc _) rfl) trivial ?_
         refine g_step rfl rfl rfl rfl (e_eq rfl rfl) trivial ?_
         refine g_step rfl rfl rfl rfl (e_pickT (v := .sc _) rfl rfl) trivial ?_
         refine g_step rfl rfl rfl rfl (e_move (v := .sc _) rfl) trivial ?_
         refine g_cases (fun hb97 => ?_) (fun hb97 => ?_)
         ·have hb97R := hb97; try simp only [z1, z2, z3, z4, z5, z6, ne_eq, z7, z8, z9, z10, z11, z12] at hb97
          refine g_step rfl rfl rfl rfl (e_move (v := .sc _) rfl) trivial ?_
          refine g_step rfl rfl rfl rfl (e_eq rfl rfl) trivial ?_
          refine g_step rfl rfl rfl rfl (e_pickT (v := .sc _) rfl rfl) trivial ?_
          refine g_step rfl rfl rfl rfl (e_assign (v := .sc _) rfl) trivial ?_
          refine g_end (ds := [51, 52, 53, 56, 57, 58, 61, 62, 65, 66]) rfl rfl (hK93 _ ?_); clear hK93 K93
          refine pwp_ret ?_
          refine ret_seq ?_
          refine end1 (v := .sc _) rfl ?_
          first
            | exact out_b rfl
            | exact out_b (by first | (simp_all; done) | fail)
         ·have hb97R := hb97; try simp only [z1, z2, z3, z4, z5, z6, ne_eq, z7, z8, z9, z10, z11, z12] at hb97
          refine g_skip rfl rfl rfl ?_
          refine g_skip rfl rfl rfl ?_
          refine g_step rfl rfl rfl rfl (e_pickF (v := .sc _) rfl rfl) trivial ?_
          refine g_step rfl rfl rfl rfl (e_assign (v := .sc _) rfl) trivial ?_
          refine g_end (ds := [51, 52, 53, 56, 57, 58, 61, 62, 65, 66]) rfl rfl (hK93 _ ?_); clear hK93 K93
          refine pwp_ret ?_
          refine ret_seq ?_
          refine end1 (v := .sc _) rfl ?_
          first
            | exact out_b rfl
            | exact out_b (by first | (simp_all; done) | fail)
        ·have hb96R := hb96; try simp only [z1, z2, z3, z4, z5, z6, ne_eq, z7, z8, z9, z10, z11, z12] at hb96
         refine g_skip rfl rfl rfl ?_
         refine g_skip rfl rfl rfl ?_
         refine g_step rfl rfl rfl rfl (e_pickF (v := .sc _) rfl rfl) trivial ?_
         refine g_step rfl rfl rfl rfl (e_move (v := .sc _) rfl) trivial ?_
         refine g_skip rfl rfl rfl ?_
         refine g_skip rfl rfl rfl ?_
         refine g_step rfl rfl rfl rfl (e_pickF (v := .sc _) rfl rfl) trivial ?_
         refine g_step rfl rfl rfl rfl (e_assign (v := .sc _) rfl) trivial ?_
         refine g_end (ds := [51, 52, 53, 56, 57, 58, 61, 62, 65, 66]) rfl rfl (hK93 _ ?_); clear hK93 K93
         refine pwp_ret ?_
         refine ret_seq ?_
         refine end1 (v := .sc _) rfl ?_
         first
           | exact out_b rfl
           | exact out_b (by first | (simp_all; done) | fail)
       ·have hb95R := hb95; try simp only [z1, z2, z3, z4, z5, z6, ne_eq, z7, z8, z9, z10, z11, z12] at hb95
        refine g_skip rfl rfl rfl ?_
        refine g_skip rfl rfl rfl ?_
        refine g_skip rfl rfl rfl ?_
        refine g_step rfl rfl rfl rfl (e_pickF (v := .sc _) rfl rfl) trivial ?_
        refine g_step rfl rfl rfl rfl (e_move (v := .sc _) rfl) trivial ?_
        refine g_skip rfl rfl rfl ?_
        refine g_skip rfl rfl rfl ?_
        refine g_step rfl rfl rfl rfl (e_pickF (v := .sc _) rfl rfl) trivial ?_
        refine g_step rfl rfl rfl rfl (e_move (v := .sc _) rfl) trivial ?_
        refine g_skip rfl rfl rfl ?_
        refine g_skip rfl rfl rfl ?_
        refine g_step rfl rfl rfl rfl (e_pickF (v := .sc _) rfl rfl) trivial ?_
        refine g_step rfl rfl rfl rfl (e_assign (v := .sc _) rfl) trivial ?_
        refine g_end (ds := [51, 52, 53, 56, 57, 58, 61, 62, 65, 66]) rfl rfl (hK93 _ ?_); clear hK93 K93
        refine pwp_ret ?_
        refine ret_seq ?_
        refine end1 (v := .sc _) rfl ?_
        first
          | exact out_b rfl
          | exact out_b (by first | (simp_all; done) | fail)
      ·have hb94R := hb94; try simp only [z1, z2, z3, z4, z5, z6, ne_eq, z7, z8, z9, z10, z11, z12] at hb94
       refine g_skip rfl rfl rfl ?_
       refine g_skip rfl rfl rfl ?_
       refine g_skip rfl rfl rfl ?_
       refine g_step rfl rfl rfl rfl (e_pickF (v := .sc _) rfl rfl) trivial ?_
       refine g_step rfl rfl rfl rfl (e_move (v := .sc _) rfl) trivial ?_
       refine g_skip rfl rfl rfl ?_
       refine g_skip rfl rfl rfl ?_
       refine g_skip rfl rfl rfl ?_
       refine g_step rfl rfl rfl rfl (e_pickF (v := .sc _) rfl rfl) trivial ?_
       refine g_step rfl rfl rfl rfl (e_move (v := .sc _) rfl) trivial ?_
       refine g_skip rfl rfl rfl ?_
       refine g_skip rfl rfl rfl ?_
       refine g_step rfl rfl rfl rfl (e_pickF (v := .sc _) rfl rfl) trivial ?_
       refine g_step rfl rfl rfl rfl (e_move (v := .sc _) rfl) trivial ?_
       refine g_skip rfl rfl rfl ?_
       refine g_skip rfl rfl rfl ?_
       refine g_step rfl rfl rfl rfl (e_pickF (v := .sc _) rfl rfl) trivial ?_
       refine g_step rfl rfl rfl rfl (e_assign (v := .sc _) rfl) trivial ?_
       refine g_end (ds := [51, 52, 53, 56, 57, 58, 61, 62, 65, 66]) rfl rfl (hK93 _ ?_); clear hK93 K93
       refine pwp_ret ?_
       refine ret_seq ?_
       refine end1 (v := .sc _) rfl ?_
       first
         | exact out_b rfl
         | exact out_b (by first | (simp_all; done) | fail)
     ·have hb92R := hb92; try simp only [z1, z2, z3, z4, z5, z6, ne_eq, z7, z8, z9, z10, z11, z12] at hb92
      refine pwp_skip ?_
      refine seq_norm (hK91 _ ?_); clear hK91 K91
      have hp : planE xs = 0 := by first | assumption | omega
      have hn14 : xs.length ≤ 14 := by simp only [List.length_map] at *; omega
      have hn6 : xs.length ≤ 6 := by simp only [List.length_map] at *; omega
      have hsm := small_0E hp hn14
      have f1 := few_eq0 hsm
      have f2 := ord_eq0 hsm
      have f11 := congrArg Prod.fst f1
      have f12 := congrArg (fun p => p.2.1) f1
      have f13 := congrArg (fun p => p.2.2) f1
      have f21 := congrArg Prod.fst f2
      have f22 := congrArg Prod.snd f2
      dsimp only at f11 f12 f13 f21 f22
      have hgl := grd_len hp hn14
      refine pwp_seq_plain rfl fun K98 hK98 => ?_
      refine p_step rfl (e_move (v := .lit _ _ _) rfl) trivial ?_
      refine p_step rfl (e_build (zs := [.nil, .int 0, .nil, .int 0]) (pl := [(0, 1, false), (1, 1, false), (2, 1, false), (3, 1, false)]) (by kernel_rfl) (by kernel_rfl) (by kernel_rfl) rfl rfl (by exact ⟨by decide, rfl, Nat.le_of_ble_eq_true rfl, rfl, trivial⟩) rfl) trivial ?_
      refine p_new rfl (e_box (n := 4) rfl rfl) ⟨rfl, by decide⟩ ?_
      refine p_step rfl (e_assign (v := .ptr _ _ _ _) rfl) trivial ?_
      refine p_end (hK98 _ ?_); clear hK98 K98
      refine pwp_seq_plain rfl fun K99 hK99 => ?_
      refine p_step rfl (e_move (v := .ptr _ _ _ _) rfl) trivial ?_
      refine p_hcall rfl (walkC hp hfw.2 hn6 xs.length [] ⟨0, [], 0⟩ .nil .nil _ _ (fun z hz => by cases hz) (Nat.zero_add _) (Int.le_refl _) (walk_pow hn6) (hset_self _ _ _) (.inl ⟨rfl, rfl⟩) .nil (fun g n e => by cases e)) fun v9 h9 c9 hR9 => ?_
      obtain ⟨⟨w, hb9, hbw⟩, hfr9⟩ := hR9
      rw [walk_few hp hn14] at hb9 hbw
      refine p_end (hK99 _ ?_); clear hK99 K99
      refine pwp_seq_gops rfl fun K100 hK100 => ?_
      refine g_begin ?_
      refine g_step rfl rfl rfl rfl (e_move (v := .sc _) rfl) trivial ?_
      refine g_step rfl rfl rfl rfl (e_eq rfl rfl) trivial ?_
      refine g_step rfl rfl rfl rfl (e_move (v := .sc _) rfl) trivial ?_
      refine g_cases (fun hb101 => ?_) (fun hb101 => ?_)
      ·have hb101R := hb101; try simp only [z1, z2, z3, z4, z5, z6, ne_eq, z7, z8, z9, z10, z11, z12] at hb101
       refine g_step rfl rfl rfl rfl (e_move (v := .sc _) rfl) trivial ?_
       refine g_step rfl rfl rfl rfl (e_eq rfl rfl) trivial ?_
       refine g_step rfl rfl rfl rfl (e_pickT (v := .sc _) rfl rfl) trivial ?_
       refine g_step rfl rfl rfl rfl (e_move (v := .sc _) rfl) trivial ?_
       refine g_cases (fun hb102 => ?_) (fun hb102 => ?_)
       ·have hb102R := hb102; try simp only [z1, z2, z3, z4, z5, z6, ne_eq, z7, z8, z9, z10, z11, z12] at hb102
        refine g_step rfl rfl rfl rfl (e_move (v := .lit _ _ _) rfl) trivial ?_
        refine g_step rfl rfl rfl rfl (e_move (v := .ptr _ _ _ _) rfl) trivial ?_
        refine g_step rfl rfl rfl rfl (e_nilc rfl) trivial ?_
        refine g_step rfl rfl rfl rfl (e_faP (pl := [(0, 1, false), (1, 1, false), (2, 1, false), (3, 1, false)]) rfl (by kernel_rfl) (by kernel_rfl) (by decide) rfl) trivial ?_
        refine g_step rfl rfl rfl rfl (e_loadH (v := w) rfl hb9 (by kernel_rfl) (by kernel_rfl) (by kernel_rfl) (by exact Nat.zero_lt_one) (by decide) rfl) trivial ?_
        refine g_call rfl rfl rfl rfl (.cons inn_lit (.cons (LitV.inn hbw) .nil)) (IntsC _ _ (by rw [f11, hgl]; omega)) ?_
        refine g_step rfl rfl rfl rfl (e_pickT (v := .sc _) rfl rfl) trivial ?_
        refine g_step rfl rfl rfl rfl (e_move (v := .sc _) rfl) trivial ?_
        refine g_cases (fun hb103 => ?_) (fun hb103 => ?_)
        ·have hb103R := hb103; try simp only [z1, z2, z3, z4, z5, z6, ne_eq, z7, z8, z9, z10, z11, z12] at hb103
         refine g_step rfl rfl rfl rfl (e_move (v := .sc _) rfl) trivial ?_
         refine g_step rfl rfl rfl rfl (e_move (v := .ptr _ _ _ _) rfl) trivial ?_
         refine g_step rfl rfl rfl rfl (e_nilc rfl) trivial ?_
         refine g_step rfl rfl rfl rfl (e_faP (pl := [(0, 1, false), (1, 1, false), (2, 1, false), (3, 1, false)]) rfl (by kernel_rfl) (by kernel_rfl) (by decide) rfl) trivial ?_
         refine g_step rfl rfl rfl rfl (e_loadH (v := .sc _) rfl hb9 (by kernel_rfl) (by kernel_rfl) (by kernel_rfl) (by exact Nat.zero_lt_one) (by decide) rfl) trivial ?_
         refine g_step rfl rfl rfl rfl (e_eq rfl rfl) trivial ?_
         refine g_step rfl rfl rfl rfl (e_pickT (v := .sc _) rfl rfl) trivial ?_
         refine g_step rfl rfl rfl rfl (e_move (v := .sc _) rfl) trivial ?_
         refine g_cases (fun hb104 => ?_) (fun hb104 => ?_)
         ·have hb104R := hb104; try simp only [z1, z2, z3, z4, z5, z6, ne_eq, z7, z8, z9, z10, z11, z12] at hb104
          refine g_step rfl rfl rfl rfl (e_move (v := .sc _) rfl) trivial ?_
          refine g_step rfl rfl rfl rfl (e_move (v := .ptr _ _ _ _) rfl) trivial ?_
          refine g_step rfl rfl rfl rfl (e_nilc rfl) trivial ?_
          refine g_step rfl rfl rfl rfl (e_faP (pl := [(0, 1, false), (1, 1, false), (2, 1, false), (3, 1, false)]) rfl (by kernel_rfl) (by kernel_rfl) (by decide) rfl) trivial ?_
          refine g_step rfl rfl rfl rfl (e_loadH (v := .sc _) rfl hb9 (by kernel_rfl) (by kernel_rfl) (by kernel_rfl) (by exact Nat.zero_lt_one) (by decide) rfl) trivial ?_
          refine g_step rfl rfl rfl rfl (e_eq rfl rfl) trivial ?_
          refine g_step rfl rfl rfl rfl (e_pickT (v := .sc _) rfl rfl) trivial ?_
          refine g_step rfl rfl rfl rfl (e_assign (v := .sc _) rfl) trivial ?_
          refine g_end (ds := [76, 77, 80, 81, 82, 83, 84, 85, 88, 89, 90, 91, 92, 93, 96, 97, 98, 99, 100, 101]) rfl rfl (hK100 _ ?_); clear hK100 K100
          refine pwp_ret ?_
          refine end1 (v := .sc _) rfl ?_
          first
            | exact out_b rfl
            | exact out_b (by first | (simp_all; done) | fail)
         ·have hb104R := hb104; try simp only [z1, z2, z3, z4, z5, z6, ne_eq, z7, z8, z9, z10, z11, z12] at hb104
          refine g_skip rfl rfl rfl ?_
          refine g_skip rfl rfl rfl ?_
          refine g_skip rfl rfl rfl ?_
          refine g_skip rfl rfl rfl ?_
          refine g_skip rfl rfl rfl ?_
          refine g_skip rfl rfl rfl ?_
          refine g_step rfl rfl rfl rfl (e_pickF (v := .sc _) rfl rfl) trivial ?_
          refine g_step rfl rfl rfl rfl (e_assign (v := .sc _) rfl) trivial ?_
          refine g_end (ds := [76, 77, 80, 81, 82, 83, 84, 85, 88, 89, 90, 91, 92, 93, 96, 97, 98, 99, 100, 101]) rfl rfl (hK100 _ ?_); clear hK100 K100
          refine pwp_ret ?_
          refine end1 (v := .sc _) rfl ?_
          first
            | exact out_b rfl
            | exact out_b (by first | (simp_all; done) | fail)
        ·have hb103R := hb103; try simp only [z1, z2, z3, z4, z5, z6, ne_eq, z7, z8, z9, z10, z11, z12] at hb103
         refine g_skip rfl rfl rfl ?_
         refine g_skip rfl rfl rfl ?_
         refine g_skip rfl rfl rfl ?_
         refine g_skip rfl rfl rfl ?_
         refine g_skip rfl rfl rfl ?_
         refine g_skip rfl rfl rfl ?_
         refine g_step rfl rfl rfl rfl (e_pickF (v := .sc _) rfl rfl) trivial ?_
         refine g_step rfl rfl rfl rfl (e_move (v := .sc _) rfl) trivial ?_
         refine g_skip rfl rfl rfl ?_
         refine g_skip rfl rfl rfl ?_
         refine g_skip rfl rfl rfl ?_
         refine g_skip rfl rfl rfl ?_
         refine g_skip rfl rfl rfl ?_
         refine g_skip rfl rfl rfl ?_
         refine g_step rfl rfl rfl rfl (e_pickF (v := .sc _) rfl rfl) trivial ?_
         refine g_step rfl rfl rfl rfl (e_assign (v := .sc _) rfl) trivial ?_
         refine g_end (ds := [76, 77, 80, 81, 82, 83, 84, 85, 88, 89, 90, 91, 92, 93, 96, 97, 98, 99, 100, 101]) rfl rfl (hK100 _ ?_); clear hK100 K100
         refine pwp_ret ?_
         refine end1 (v := .sc _) rfl ?_
         first
           | exact out_b rfl
           | exact out_b (by first | (simp_all; done) | fail)
       ·have hb102R := hb102; try simp only [z1, z2, z3, z4, z5, z6, ne_eq, z7, z8, z9, z10, z11, z12] at hb102
        refine g_skip rfl rfl rfl ?_
        refine g_skip rfl rfl rfl ?_
        refine g_skip rfl rfl rfl ?_
        refine g_skip rfl rfl rfl ?_
        refine g_skip rfl rfl rfl ?_
        refine g_nocall rfl rfl rfl ?_
        refine g_step rfl rfl rfl rfl (e_pickF (v := .sc _) rfl rfl) trivial ?_
        refine g_step rfl rfl rfl rfl (e_move (v := .sc _) rfl) trivial ?_
        refine g_skip rfl rfl rfl ?_
        refine g_skip rfl rfl rfl ?_
        refine g_skip rfl rfl rfl ?_
        refine g_skip rfl rfl rfl ?_
        refine g_skip rfl rfl rfl ?_
        refine g_skip rfl rfl rfl ?_
        refine g_step rfl rfl rfl rfl (e_pickF (v := .sc _) rfl rfl) trivial ?_
        refine g_step rfl rfl rfl rfl (e_move (v := .sc _) rfl) trivial ?_
        refine g_skip rfl rfl rfl ?_
        refine g_skip rfl rfl rfl ?_
        refine g_skip rfl rfl rfl ?_
        refine g_skip rfl rfl rfl ?_
        refine g_skip rfl rfl rfl ?_
        refine g_skip rfl rfl rfl ?_
        refine g_step rfl rfl rfl rfl (e_pickF (v := .sc _) rfl rfl) trivial ?_
        refine g_step rfl rfl rfl rfl (e_assign (v := .sc _) rfl) trivial ?_
        refine g_end (ds := [76, 77, 80, 81, 82, 83, 84, 85, 88, 89, 90, 91, 92, 93, 96, 97, 98, 99, 100, 101]) rfl rfl (hK100 _ ?_); clear hK100 K100
        refine pwp_ret ?_
        refine end1 (v := .sc _) rfl ?_
        first
          | exact out_b rfl
          | exact out_b (by first | (simp_all; done) | fail)
      ·have hb101R := hb101; try simp only [z1, z2, z3, z4, z5, z6, ne_eq, z7, z8, z9, z10, z11, z12] at hb101
       refine g_skip rfl rfl rfl ?_
       refine g_skip rfl rfl rfl ?_
       refine g_step rfl rfl rfl rfl (e_pickF (v := .sc _) rfl rfl) trivial ?_
       refine g_step rfl rfl rfl rfl (e_move (v := .sc _) rfl) trivial ?_
       refine g_skip rfl rfl rfl ?_
       refine g_skip rfl rfl rfl ?_
       refine g_skip rfl rfl rfl ?_
       refine g_skip rfl rfl rfl ?_
       refine g_skip rfl rfl rfl ?_
       refine g_nocall rfl rfl rfl ?_
       refine g_step rfl rfl rfl rfl (e_pickF (v := .sc _) rfl rfl) trivial ?_
       refine g_step rfl rfl rfl rfl (e_move (v := .sc _) rfl) trivial ?_
       refine g_skip rfl rfl rfl ?_
       refine g_skip rfl rfl rfl ?_
       refine g_skip rfl rfl rfl ?_
       refine g_skip rfl rfl rfl ?_
       refine g_skip rfl rfl rfl ?_
       refine g_skip rfl rfl rfl ?_
       refine g_step rfl rfl rfl rfl (e_pickF (v := .sc _) rfl rfl) trivial ?_
       refine g_step rfl rfl rfl rfl (e_move (v := .sc _) rfl) trivial ?_
       refine g_skip rfl rfl rfl ?_
       refine g_skip rfl rfl rfl ?_
       refine g_skip rfl rfl rfl ?_
       refine g_skip rfl rfl rfl ?_
       refine g_skip rfl rfl rfl ?_
       refine g_skip rfl rfl rfl ?_
       refine g_step rfl rfl rfl rfl (e_pickF (v := .sc _) rfl rfl) trivial ?_
       refine g_step rfl rfl rfl rfl (e_assign (v := .sc _) rfl) trivial ?_
       refine g_end (ds := [76, 77, 80, 81, 82, 83, 84, 85, 88, 89, 90, 91, 92, 93, 96, 97, 98, 99, 100, 101]) rfl rfl (hK100 _ ?_); clear hK100 K100
       refine pwp_ret ?_
       refine end1 (v := .sc _) rfl ?_
       first
         | exact out_b rfl
         | exact out_b (by first | (simp_all; done) | fail)
   ·have hb71R := hb71; try simp only [z1, z2, z3, z4, z5, z6, ne_eq, z7, z8, z9, z10, z11, z12] at hb71
    refine g_skip rfl rfl rfl ?_
    refine g_skip rfl rfl rfl ?_
    refine g_skip rfl rfl rfl ?_
    refine g_step rfl rfl rfl rfl (e_pickF (v := .sc _) rfl rfl) trivial ?_
    refine g_end (ds := [41, 42, 43]) rfl rfl (hK70 _ ?_); clear hK70 K70
    refine pwp_seq_cond (t := false) rfl fun K105 hK105 => ⟨nofun, fun _ => ?_⟩
    refine pwp_skip ?_
    refine seq_norm (hK105 _ ?_); clear hK105 K105
    refine pwp_seq_seq ?_
    refine pwp_seq_plain rfl fun K106 hK106 => ?_
    refine p_step rfl (e_move (v := .sc _) rfl) trivial ?_
    refine p_step rfl (e_ne rfl rfl) trivial ?_
    refine p_end (hK106 _ ?_); clear hK106 K106
    refine pwp_seq_cond rfl fun K107 hK107 => ⟨fun hb108 => ?_, fun hb108 => ?_⟩
    ·have hb108R := hb108; try simp only [z1, z2, z3, z4, z5, z6, ne_eq, z7, z8, z9, z10, z11, z12] at hb108
     have hsm : smallE xs = (planE xs) := by
       first
       | exact small_pE (by assumption)
       | exact small_8E (by first | assumption | omega) (by simp only [List.length_map] at *; omega)
     have hne : ((planE xs) : Int) ≠ 0 := by first | assumption | decide
     have f1 := few_eqE hsm hne
     have f2 := ord_eqE hsm hne
     have f11 := congrArg Prod.fst f1
     have f12 := congrArg (fun p => p.2.1) f1
     have f13 := congrArg (fun p => p.2.2) f1
     have f21 := congrArg Prod.fst f2
     have f22 := congrArg Prod.snd f2
     dsimp only at f11 f12 f13 f21 f22
     refine pwp_seq_gops rfl fun K109 hK109 => ?_
     refine g_begin ?_
     refine g_step rfl rfl rfl rfl (e_move (v := .sc _) rfl) trivial ?_
     refine g_step rfl rfl rfl rfl (e_move (v := .sc _) rfl) trivial ?_
     refine g_step rfl rfl rfl rfl (e_eq rfl rfl) trivial ?_
     refine g_step rfl rfl rfl rfl (e_move (v := .sc _) rfl) trivial ?_
     refine g_cases (fun hb110 => ?_) (fun hb110 => ?_)
     ·have hb110R := hb110; try simp only [z1, z2, z3, z4, z5, z6, ne_eq, z7, z8, z9, z10, z11, z12] at hb110
      refine g_step rfl rfl rfl rfl (e_move (v := .sc _) rfl) trivial ?_
      refine g_step rfl rfl rfl rfl (e_move (v := .sc _) rfl) trivial ?_
      refine g_step rfl rfl rfl rfl (e_eq rfl rfl) trivial ?_
      refine g_step rfl rfl rfl rfl (e_pickT (v := .sc _) rfl rfl) trivial ?_
      refine g_step rfl rfl rfl rfl (e_move (v := .sc _) rfl) trivial ?_
      refine g_cases (fun hb111 => ?_) (fun hb111 => ?_)
      ·have hb111R := hb111; try simp only [z1, z2, z3, z4, z5, z6, ne_eq, z7, z8, z9, z10, z11, z12] at hb111
       refine g_step rfl rfl rfl rfl (e_move (v := .lit _ _ _) rfl) trivial ?_
       refine g_step rfl rfl rfl rfl (e_len rfl (by kernel_rfl)) trivial ?_
       refine g_step rfl rfl rfl rfl (e_eq rfl rfl) trivial ?_
       refine g_step rfl rfl rfl rfl (e_pickT (v := .sc _) rfl rfl) trivial ?_
       refine g_step rfl rfl rfl rfl (e_move (v := .sc _) rfl) trivial ?_
       refine g_cases (fun hb112 => ?_) (fun hb112 => ?_)
       ·have hb112R := hb112; try simp only [z1, z2, z3, z4, z5, z6, ne_eq, z7, z8, z9, z10, z11, z12] at hb112
        refine g_step rfl rfl rfl rfl (e_move (v := .sc _) rfl) trivial ?_
        refine g_step rfl rfl rfl rfl (e_eq rfl rfl) trivial ?_
        refine g_step rfl rfl rfl rfl (e_pickT (v := .sc _) rfl rfl) trivial ?_
        refine g_step rfl rfl rfl rfl (e_move (v := .sc _) rfl) trivial ?_
        refine g_cases (fun hb113 => ?_) (fun hb113 => ?_)
        ·have hb113R := hb113; try simp only [z1, z2, z3, z4, z5, z6, ne_eq, z7, z8, z9, z10, z11, z12] at hb113
         refine g_step rfl rfl rfl rfl (e_move (v := .sc _) rfl) trivial ?_
         refine g_step rfl rfl rfl rfl (e_eq rfl rfl) trivial ?_
         refine g_step rfl rfl rfl rfl (e_pickT (v := .sc _) rfl rfl) trivial ?_
         refine g_step rfl rfl rfl rfl (e_assign (v := .sc _) rfl) trivial ?_
         refine g_end (ds := [51, 52, 53, 56, 57, 58, 61, 62, 65, 66]) rfl rfl (hK109 _ ?_); clear hK109 K109
         refine pwp_ret ?_
         refine ret_seq ?_
         refine end1 (v := .sc _) rfl ?_
         first
           | exact out_b rfl
           | exact out_b (by first | (simp_all; done) | fail)
        ·have hb113R := hb113; try simp only [z1, z2, z3, z4, z5, z6, ne_eq, z7, z8, z9, z10, z11, z12] at hb113
         refine g_skip rfl rfl rfl ?_
         refine g_skip rfl rfl rfl ?_
         refine g_step rfl rfl rfl rfl (e_pickF (v := .sc _) rfl rfl) trivial ?_
         refine g_step rfl rfl rfl rfl (e_assign (v := .sc _) rfl) trivial ?_
         refine g_end (ds := [51, 52, 53, 56, 57, 58, 61, 62, 65, 66]) rfl rfl (hK109 _ ?_); clear hK109 K109
         refine pwp_ret ?_
         refine ret_seq ?_
         refine end1 (v := .sc _) rfl ?_
         first
           | exact out_b rfl
           | exact out_b (by first | (simp_all; done) | fail)
       ·have hb112R := hb112; try simp only [z1, z2, z3, z4, z5, z6, ne_eq, z7, z8, z9, z10, z11, z12] at hb112
        refine g_skip rfl rfl rfl ?_
        refine g_skip rfl rfl rfl ?_
        refine g_step rfl rfl rfl rfl (e_pickF (v := .sc _) rfl rfl) trivial ?_
        refine g_step rfl rfl rfl rfl (e_move (v := .sc _) rfl) trivial ?_
        refine g_skip rfl rfl rfl ?_
        refine g_skip rfl rfl rfl ?_
        refine g_step rfl rfl rfl rfl (e_pickF (v := .sc _) rfl rfl) trivial ?_
        refine g_step rfl rfl rfl rfl (e_assign (v := .sc _) rfl) trivial ?_
        refine g_end (ds := [51, 52, 53, 56, 57, 58, 61, 62, 65, 66]) rfl rfl (hK109 _ ?_); clear hK109 K109
        refine pwp_ret ?_
        refine ret_seq ?_
        refine end1 (v := .sc _) rfl ?_
        first
          | exact out_b rfl
          | exact out_b (by first | (simp_all; done) | fail)
      ·have hb111R := hb111; try simp only [z1, z2, z3, z4, z5, z6, ne_eq, z7, z8, z9, z10, z11, z12] at hb111
       refine g_skip rfl rfl rfl ?_
       refine g_skip rfl rfl rfl ?_
       refine g_skip rfl rfl rfl ?_
       refine g_step rfl rfl rfl rfl (e_pickF (v := .sc _) rfl rfl) trivial ?_
       refine g_step rfl rfl rfl rfl (e_move (v := .sc _) rfl) trivial ?_
       refine g_skip rfl rfl rfl ?_
       refine g_skip rfl rfl rfl ?_
       refine g_step rfl rfl rfl rfl (e_pickF (v := .sc _) rfl rfl) trivial ?_
       refine g_step rfl rfl rfl rfl (e_move (v := .sc _) rfl) trivial ?_
       refine g_skip rfl rfl rfl ?_
       refine g_skip rfl rfl rfl ?_
       refine g_step rfl rfl rfl rfl (e_pickF (v := .sc _) rfl rfl) trivial ?_
       refine g_step rfl rfl rfl rfl (e_assign (v := .sc _) rfl) trivial ?_
       refine g_end (ds := [51, 52, 53, 56, 57, 58, 61, 62, 65, 66]) rfl rfl (hK109 _ ?_); clear hK109 K109
       refine pwp_ret ?_
       refine ret_seq ?_
       refine end1 (v := .sc _) rfl ?_
       first
         | exact out_b rfl
         | exact out_b (by first | (simp_all; done) | fail)
     ·have hb110R := hb110; try simp only [z1, z2, z3, z4, z5, z6, ne_eq, z7, z8, z9, z10, z11, z12] at hb110
      refine g_skip rfl rfl rfl ?_
      refine g_skip rfl rfl rfl ?_
      refine g_skip rfl rfl rfl ?_
      refine g_step rfl rfl rfl rfl (e_pickF (v := .sc _) rfl rfl) trivial ?_
      refine g_step rfl rfl rfl rfl (e_move (v := .sc _) rfl) trivial ?_
      refine g_skip rfl rfl rfl ?_
      refine g_skip rfl rfl rfl ?_
      refine g_skip rfl rfl rfl ?_
      refine g_step rfl rfl rfl rfl (e_pickF (v := .sc _) rfl rfl) trivial ?_
      refine g_step rfl rfl rfl rfl (e_move (v := .sc _) rfl) trivial ?_
      refine g_skip rfl rfl rfl ?_
      refine g_skip rfl rfl rfl ?_
      refine g_step rfl rfl rfl rfl (e_pickF (v := .sc _) rfl rfl) trivial ?_
      refine g_step rfl rfl rfl rfl (e_move (v := .sc _) rfl) trivial ?_
      refine g_skip rfl rfl rfl ?_
      refine g_skip rfl rfl rfl ?_
      refine g_step rfl rfl rfl rfl (e_pickF (v := .sc _) rfl rfl) trivial ?_
      refine g_step rfl rfl rfl rfl (e_assign (v := .sc _) rfl) trivial ?_
      refine g_end (ds := [51, 52, 53, 56, 57, 58, 61, 62, 65, 66]) rfl rfl (hK109 _ ?_); clear hK109 K109
      refine pwp_ret ?_
      refine ret_seq ?_
      refine end1 (v := .sc _) rfl ?_
      first
        | exact out_b rfl
        | exact out_b (by first | (simp_all; done) | fail)
    ·have hb108R := hb108; try simp only [z1, z2, z3, z4, z5, z6, ne_eq, z7, z8, z9, z10, z11, z12] at hb108
     refine pwp_skip ?_
     refine seq_norm (hK107 _ ?_); clear hK107 K107
     have hp : planE xs = 0 := by first | assumption | omega
     have hn14 : xs.length ≤ 14 := by simp only [List.length_map] at *; omega
     have hn6 : xs.length ≤ 6 := by simp only [List.length_map] at *; omega
     have hsm := small_0E hp hn14
     have f1 := few_eq0 hsm
     have f2 := ord_eq0 hsm
     have f11 := congrArg Prod.fst f1
     have f12 := congrArg (fun p => p.2.1) f1
     have f13 := congrArg (fun p => p.2.2) f1
     have f21 := congrArg Prod.fst f2
     have f22 := congrArg Prod.snd f2
     dsimp only at f11 f12 f13 f21 f22
     have hgl := grd_len hp hn14
     refine pwp_seq_plain rfl fun K114 hK114 => ?_
     refine p_step rfl (e_move (v := .lit _ _ _) rfl) trivial ?_
     refine p_step rfl (e_build (zs := [.nil, .int 0, .nil, .int 0]) (pl := [(0, 1, false), (1, 1, false), (2, 1, false), (3, 1, false)]) (by kernel_rfl) (by kernel_rfl) (by kernel_rfl) rfl rfl (by exact ⟨by decide, rfl, Nat.le_of_ble_eq_true rfl, rfl, trivial⟩) rfl) trivial ?_
     refine p_new rfl (e_box (n := 4) rfl rfl) ⟨rfl, by decide⟩ ?_
     refine p_step rfl (e_assign (v := .ptr _ _ _ _) rfl) trivial ?_
     refine p_end (hK114 _ ?_); clear hK114 K114
     refine pwp_seq_plain rfl fun K115 hK115 => ?_
     refine p_step rfl (e_move (v := .ptr _ _ _ _) rfl) trivial ?_
     refine p_hcall rfl (walkC hp hfw.2 hn6 xs.length [] ⟨0, [], 0⟩ .nil .nil _ _ (fun z hz => by cases hz) (Nat.zero_add _) (Int.le_refl _) (walk_pow hn6) (hset_self _ _ _) (.inl ⟨rfl, rfl⟩) .nil (fun g n e => by cases e)) fun v9 h9 c9 hR9 => ?_
     obtain ⟨⟨w, hb9, hbw⟩, hfr9⟩ := hR9
     rw [walk_few hp hn14] at hb9 hbw
     refine p_end (hK115 _ ?_); clear hK115 K115
     refine pwp_seq_gops rfl fun K116 hK116 => ?_
     refine g_begin ?_
     refine g_step rfl rfl rfl rfl (e_move (v := .sc _) rfl) trivial ?_
     refine g_step rfl rfl rfl rfl (e_eq rfl rfl) trivial ?_
     refine g_step rfl rfl rfl rfl (e_move (v := .sc _) rfl) trivial ?_
     refine g_cases (fun hb117 => ?_) (fun hb117 => ?_)
     ·have hb117R := hb117; try simp only [z1, z2, z3, z4, z5, z6, ne_eq, z7, z8, z9, z10, z11, z12] at hb117
      refine g_step rfl rfl rfl rfl (e_move (v := .sc _) rfl) trivial ?_
      refine g_step rfl rfl rfl rfl (e_eq rfl rfl) trivial ?_
      refine g_step rfl rfl rfl rfl (e_pickT (v := .sc _) rfl rfl) trivial ?_
      refine g_step rfl rfl rfl rfl (e_move (v := .sc _) rfl) trivial ?_
      refine g_cases (fun hb118 => ?_) (fun hb118 => ?_)
      ·have hb118R := hb118; try simp only [z1, z2, z3, z4, z5, z6, ne_eq, z7, z8, z9, z10, z11, z12] at hb118
       refine g_step rfl rfl rfl rfl (e_move (v := .lit _ _ _) rfl) trivial ?_
       refine g_step rfl rfl rfl rfl (e_move (v := .ptr _ _ _ _) rfl) trivial ?_
       refine g_step rfl rfl rfl rfl (e_nilc rfl) trivial ?_
       refine g_step rfl rfl rfl rfl (e_faP (pl := [(0, 1, false), (1, 1, false), (2, 1, false), (3, 1, false)]) rfl (by kernel_rfl) (by kernel_rfl) (by decide) rfl) trivial ?_
       refine g_step rfl rfl rfl rfl (e_loadH (v := w) rfl hb9 (by kernel_rfl) (by kernel_rfl) (by kernel_rfl) (by exact Nat.zero_lt_one) (by decide) rfl) trivial ?_
       refine g_call rfl rfl rfl rfl (.cons inn_lit (.cons (LitV.inn hbw) .nil)) (IntsC _ _ (by rw [f11, hgl]; omega)) ?_
       refine g_step rfl rfl rfl rfl (e_pickT (v := .sc _) rfl rfl) trivial ?_
       refine g_step rfl rfl rfl rfl (e_move (v := .sc _) rfl) trivial ?_
       refine g_cases (fun hb119 => ?_) (fun hb119 => ?_)
       ·have hb119R := hb119; try simp only [z1, z2, z3, z4, z5, z6, ne_eq, z7, z8, z9, z10, z11, z12] at hb119
        refine g_step rfl rfl rfl rfl (e_move (v := .sc _) rfl) trivial ?_
        refine g_step rfl rfl rfl rfl (e_move (v := .ptr _ _ _ _) rfl) trivial ?_
        refine g_step rfl rfl rfl rfl (e_nilc rfl) trivial ?_
        refine g_step rfl rfl rfl rfl (e_faP (pl := [(0, 1, false), (1, 1, false), (2, 1, false), (3, 1, false)]) rfl (by kernel_rfl) (by kernel_rfl) (by decide) rfl) trivial ?_
        refine g_step rfl rfl rfl rfl (e_loadH (v := .sc _) rfl hb9 (by kernel_rfl) (by kernel_rfl) (by kernel_rfl) (by exact Nat.zero_lt_one) (by decide) rfl) trivial ?_
        refine g_step rfl rfl rfl rfl (e_eq rfl rfl) trivial ?_
        refine g_step rfl rfl rfl rfl (e_pickT (v := .sc _) rfl rfl) trivial ?_
        refine g_step rfl rfl rfl rfl (e_move (v := .sc _) rfl) trivial ?_
        refine g_cases (fun hb120 => ?_) (fun hb120 => ?_)
        ·have hb120R := hb120; try simp only [z1, z2, z3, z4, z5, z6, ne_eq, z7, z8, z9, z10, z11, z12] at hb120
         refine g_step rfl rfl rfl rfl (e_move (v := .sc _) rfl) trivial ?_
         refine g_step rfl rfl rfl rfl (e_move (v := .ptr _ _ _ _) rfl) trivial ?_
         refine g_step rfl rfl rfl rfl (e_nilc rfl) trivial ?_
         refine g_step rfl rfl rfl rfl (e_faP (pl := [(0, 1, false), (1, 1, false), (2, 1, false), (3, 1, false)]) rfl (by kernel_rfl) (by kernel_rfl) (by decide) rfl) trivial ?_
         refine g_step rfl rfl rfl rfl (e_loadH (v := .sc _) rfl hb9 (by kernel_rfl) (by kernel_rfl) (by kernel_rfl) (by exact Nat.zero_lt_one) (by decide) rfl) trivial ?_
         refine g_step rfl rfl rfl rfl (e_eq rfl rfl) trivial ?_
         refine g_step rfl rfl rfl rfl (e_pickT (v := .sc _) rfl rfl) trivial ?_
         refine g_step rfl rfl rfl rfl (e_assign (v := .sc _) rfl) trivial ?_
         refine g_end (ds := [76, 77, 80, 81, 82, 83, 84, 85, 88, 89, 90, 91, 92, 93, 96, 97, 98, 99, 100, 101]) rfl rfl (hK116 _ ?_); clear hK116 K116
         refine pwp_ret ?_
         refine end1 (v := .sc _) rfl ?_
         first
           | exact out_b rfl
           | exact out_b (by first | (simp_all; done) | fail)
        ·have hb120R := hb120; try simp only [z1, z2, z3, z4, z5, z6, ne_eq, z7, z8, z9, z10, z11, z12] at hb120
         refine g_skip rfl rfl rfl ?_
         refine g_skip rfl rfl rfl ?_
         refine g_skip rfl rfl rfl ?_
         refine g_skip rfl rfl rfl ?_
         refine g_skip rfl rfl rfl ?_
         refine g_skip rfl rfl rfl ?_
         refine g_step rfl rfl rfl rfl (e_pickF (v := .sc _) rfl rfl) trivial ?_
         refine g_step rfl rfl rfl rfl (e_assign (v := .sc _) rfl) trivial ?_
         refine g_end (ds := [76, 77, 80, 81, 82, 83, 84, 85, 88, 89, 90, 91, 92, 93, 96, 97, 98, 99, 100, 101]) rfl rfl (hK116 _ ?_); clear hK116 K116
         refine pwp_ret ?_
         refine end1 (v := .sc _) rfl ?_
         first
           | exact out_b rfl
           | exact out_b (by first | (simp_all; done) | fail)
       ·have hb119R := hb119; try simp only [z1, z2, z3, z4, z5, z6, ne_eq, z7, z8, z9, z10, z11, z12] at hb119
        refine g_skip rfl rfl rfl ?_
        refine g_skip rfl rfl rfl ?_
        refine g_skip rfl rfl rfl ?_
        refine g_skip rfl rfl rfl ?_
        refine g_skip rfl rfl rfl ?_
        refine g_skip rfl rfl rfl ?_
        refine g_step rfl rfl rfl rfl (e_pickF (v := .sc _) rfl rfl) trivial ?_
        refine g_step rfl rfl rfl rfl (e_move (v := .sc _) rfl) trivial ?_
        refine g_skip rfl rfl rfl ?_
        refine g_skip rfl rfl rfl ?_
        refine g_skip rfl rfl rfl ?_
        refine g_skip rfl rfl rfl ?_
        refine g_skip rfl rfl rfl ?_
        refine g_skip rfl rfl rfl ?_
        refine g_step rfl rfl rfl rfl (e_pickF (v := .sc _) rfl rfl) trivial ?_
        refine g_step rfl rfl rfl rfl (e_assign (v := .sc _) rfl) trivial ?_
        refine g_end (ds := [76, 77, 80, 81, 82, 83, 84, 85, 88, 89, 90, 91, 92, 93, 96, 97, 98, 99, 100, 101]) rfl rfl (hK116 _ ?_); clear hK116 K116
        refine pwp_ret ?_
        refine end1 (v := .sc _) rfl ?_
        first
          | exact out_b rfl
          | exact out_b (by first | (simp_all; done) | fail)
      ·have hb118R := hb118; try simp only [z1, z2, z3, z4, z5, z6, ne_eq, z7, z8, z9, z10, z11, z12] at hb118
       refine g_skip rfl rfl rfl ?_
       refine g_skip rfl rfl rfl ?_
       refine g_skip rfl rfl rfl ?_
       refine g_skip rfl rfl rfl ?_
       refine g_skip rfl rfl rfl ?_
       refine g_nocall rfl rfl rfl ?_
       refine g_step rfl rfl rfl rfl (e_pickF (v := .sc _) rfl rfl) trivial ?_
       refine g_step rfl rfl rfl rfl (e_move (v := .sc _) rfl) trivial ?_
       refine g_skip rfl rfl rfl ?_
       refine g_skip rfl rfl rfl ?_
       refine g_skip rfl rfl rfl ?_
       refine g_skip rfl rfl rfl ?_
       refine g_skip rfl rfl rfl ?_
       refine g_skip rfl rfl rfl ?_
       refine g_step rfl rfl rfl rfl (e_pickF (v := .sc _) rfl rfl) trivial ?_
       refine g_step rfl rfl rfl rfl (e_move (v := .sc _) rfl) trivial ?_
       refine g_skip rfl rfl rfl ?_
       refine g_skip rfl rfl rfl ?_
       refine g_skip rfl rfl rfl ?_
       refine g_skip rfl rfl rfl ?_
       refine g_skip rfl rfl rfl ?_
       refine g_skip rfl rfl rfl ?_
       refine g_step rfl rfl rfl rfl (e_pickF (v := .sc _) rfl rfl) trivial ?_
       refine g_step rfl rfl rfl rfl (e_assign (v := .sc _) rfl) trivial ?_
       refine g_end (ds := [76, 77, 80, 81, 82, 83, 84, 85, 88, 89, 90, 91, 92, 93, 96, 97, 98, 99, 100, 101]) rfl rfl (hK116 _ ?_); clear hK116 K116
       refine pwp_ret ?_
       refine end1 (v := .sc _) rfl ?_
       first
         | exact out_b rfl
         | exact out_b (by first | (simp_all; done) | fail)
     ·have hb117R := hb117; try simp only [z1, z2, z3, z4, z5, z6, ne_eq, z7, z8, z9, z10, z11, z12] at hb117
      refine g_skip rfl rfl rfl ?_
      refine g_skip rfl rfl rfl ?_
      refine g_step rfl rfl rfl rfl (e_pickF (v := .sc _) rfl rfl) trivial ?_
      refine g_step rfl rfl rfl rfl (e_move (v := .sc _) rfl) trivial ?_
      refine g_skip rfl rfl rfl ?_
      refine g_skip rfl rfl rfl ?_
      refine g_skip rfl rfl rfl ?_
      refine g_skip rfl rfl rfl ?_
      refine g_skip rfl rfl rfl ?_
      refine g_nocall rfl rfl rfl ?_
      refine g_step rfl rfl rfl rfl (e_pickF (v := .sc _) rfl rfl) trivial ?_
      refine g_step rfl rfl rfl rfl (e_move (v := .sc _) rfl) trivial ?_
      refine g_skip rfl rfl rfl ?_
      refine g_skip rfl rfl rfl ?_
      refine g_skip rfl rfl rfl ?_
      refine g_skip rfl rfl rfl ?_
      refine g_skip rfl rfl rfl ?_
      refine g_skip rfl rfl rfl ?_
      refine g_step rfl rfl rfl rfl (e_pickF (v := .sc _) rfl rfl) trivial ?_
      refine g_step rfl rfl rfl rfl (e_move (v := .sc _) rfl) trivial ?_
      refine g_skip rfl rfl rfl ?_
      refine g_skip rfl rfl rfl ?_
      refine g_skip rfl rfl rfl ?_
      refine g_skip rfl rfl rfl ?_
      refine g_skip rfl rfl rfl ?_
      refine g_skip rfl rfl rfl ?_
      refine g_step rfl rfl rfl rfl (e_pickF (v := .sc _) rfl rfl) trivial ?_
      refine g_step rfl rfl rfl rfl (e_assign (v := .sc _) rfl) trivial ?_
      refine g_end (ds := [76, 77, 80, 81, 82, 83, 84, 85, 88, 89, 90, 91, 92, 93, 96, 97, 98, 99, 100, 101]) rfl rfl (hK116 _ ?_); clear hK116 K116
      refine pwp_ret ?_
      refine end1 (v := .sc _) rfl ?_
      first
        | exact out_b rfl
        | exact out_b (by first | (simp_all; done) | fail)

end Go.Proofs.Ytjmjiegplnfiiaa
