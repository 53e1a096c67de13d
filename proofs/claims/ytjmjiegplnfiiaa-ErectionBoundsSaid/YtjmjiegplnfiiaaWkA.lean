import Derived.Test.YtjmjiegplnfiiaaAccA
/- The search through all orders of a small plan, and the number of orders: plain laws. No conditions. -/
set_option linter.unusedSimpArgs false
set_option linter.unusedVariables false
namespace Go.Proofs.Ytjmjiegplnfiiaa
open Go Go.Pv

/-! ### The search -/
structure Srch where
 cnt : Int
 best : List Int
 least : Int
section
variable {xs : List Task} {r k : Nat} {o : List Int} {s : Srch}
end
/-! ### Sets of lists -/
def setO (o : List Int) : Nat := o.foldl (fun b z => b ||| 2 ^ z.toNat) 0
theorem setO_app {o : List Int} {k : Nat} : setO (o ++ [(k : Int)]) = setO o ||| 2 ^ k := by
 simp [setO, List.foldl_append]
theorem setO_bit {o : List Int} (h : ∀ z ∈ o, 0 ≤ z) (i : Nat) : (setO o).testBit i = decide ((i : Int) ∈ o) := by
 have h0 : ∀ (m : List Int) (b : Nat), (∀ z ∈ m, 0 ≤ z) → (m.foldl (fun b z => b ||| 2 ^ z.toNat) b).testBit i = (b.testBit i || decide ((i : Int) ∈ m)) := by
   intro m
   induction m with
   | nil => intro b _; simp
   | cons z m ih =>
     intro b hz
     rw [List.foldl_cons, ih _ (fun y hy => hz y (List.mem_cons_of_mem _ hy)), Nat.testBit_or, Nat.testBit_two_pow, Bool.or_assoc]
     congr 1
     have h1 := hz z (List.mem_cons_self ..)
     rw [Bool.eq_iff_iff]
     simp only [Bool.or_eq_true, decide_eq_true_eq, List.mem_cons]
     constructor
     · rintro (h2 | h2)
       · left; omega
       · right; exact h2
     · rintro (h2 | h2)
       · left; omega
       · right; exact h2
 rw [setO, h0 o 0 h]; simp
theorem setO_lt {o : List Int} {n : Nat} (h : ∀ z ∈ o, 0 ≤ z ∧ z < (n : Int)) : setO o < 2 ^ n := foldl_or_lt (Nat.pow_pos (by decide)) h
theorem rdy_can {xs : List Task} {o : List Int} {k : Nat} (h : planE xs = 0) (hn : xs.length ≤ 14) (ho : ∀ z ∈ o, 0 ≤ z ∧ z < (xs.length : Int)) (hk : k < xs.length) : rdyB (ndX xs) o k = canB (nbD xs k) (setO o) k := by
 obtain ⟨t, ht⟩ : ∃ t, xs[k]? = some t := ⟨_, List.getElem?_eq_getElem hk⟩
 have ha : setO o < 4611686018427387904 := Nat.lt_trans (setO_lt ho) (two_lt (by omega))
 rw [Bool.eq_iff_iff, rdyB_iff, nbD_can h hn ha ht, ndX_at ht, setO_bit fun z hz => (ho z hz).1, decide_eq_false_iff_not]
 refine and_congr Iff.rfl (forall_congr' fun z => forall_congr' fun hz => ?_)
 have := (task_ok h ht).2.2.2.1 z hz
 rw [setO_bit fun z hz => (ho z hz).1, Int.toNat_of_nonneg this.1, decide_eq_true_eq]

/-! ### Sums -/
/-! ### The number of orders behind a set -/
/-! ### The fewest handlings -/
def lstO (o : List Int) : Int := if o = [] then -1 else at0 o (o.length - 1)
theorem lstO_app {o : List Int} {k : Int} : lstO (o ++ [k]) = k := by
 rw [lstO, if_neg (by simp)]
 simp [at0]
theorem hndK_congr {xs : List Task} {o p : List Int} : ∀ {m : Nat}, (∀ i, i < m → at0 o i = at0 p i) → hndK xs o m = hndK xs p m
 | 0, _ => rfl
 | m + 1, h => by
   rw [hndK, hndK, hndK_congr fun i hi => h i (by omega), h m (by omega), h (m - 1) (by omega)]
theorem hnd_app {xs : List Task} {o : List Int} {k : Nat} (ho : ∀ z ∈ o, 0 ≤ z) : hndK xs (o ++ [(k : Int)]) (o ++ [(k : Int)]).length = hndK xs o o.length + mvF xs (lstO o) k := by
 rw [List.length_append, List.length_singleton, hndK, hndK_congr (p := o) fun i hi => by simp [at0, List.getElem?_append_left hi]]
 congr 1
 have h1 : at0 (o ++ [(k : Int)]) o.length = k := by simp [at0]
 rw [h1, mvF, lstO]
 by_cases he : o = []
 · subst he; simp
 · have h2 : 0 < o.length := List.length_pos_iff.2 he
   have h3 : at0 (o ++ [(k : Int)]) (o.length - 1) = at0 o (o.length - 1) := by simp [at0, List.getElem?_append_left (show o.length - 1 < o.length by omega)]
   have h4 := ho _ (at0_mem (l := o) (i := o.length - 1) (by omega))
   rw [h3, if_neg he]
   by_cases hq : plc xs (at0 o (o.length - 1)) ≠ plc xs (k : Int)
   · rw [if_pos ⟨h2, hq⟩, if_pos ⟨h4, hq⟩]
   · rw [if_neg (fun q => hq q.2), if_neg (fun q => hq q.2)]
end Go.Proofs.Ytjmjiegplnfiiaa
