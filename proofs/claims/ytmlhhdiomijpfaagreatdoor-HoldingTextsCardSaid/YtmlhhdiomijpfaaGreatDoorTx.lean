/- Texts: cutting at a byte, joining, decimal numbers. Plain. -/
import Derived.Lib.SplitLaws
import Derived.Lib.IndexMore
import Derived.Lib.ItoaNum
import Derived.Lib.AtoiAll
import Derived.Lib.Join
set_option linter.unusedSimpArgs false
set_option linter.unusedVariables false
namespace Go.Tx
open Go Go.Lib
/-! ### Cutting -/
/-- The pieces of a text between the places of a byte. -/
def cutL (c : UInt8) : List UInt8 → List (List UInt8)
 | [] => [[]]
 | b :: l => if b = c then [] :: cutL c l else (b :: (cutL c l).headD []) :: (cutL c l).tail
section
variable {c b : UInt8} {l p : List UInt8}
theorem cutL_ne : ∀ l : List UInt8, cutL c l ≠ []
 | [] => by simp [cutL]
 | b :: l => by unfold cutL; split <;> simp
theorem cutL_hd (l : List UInt8) : cutL c l = (cutL c l).headD [] :: (cutL c l).tail := by
 cases h : cutL c l with
 | nil => exact absurd h (cutL_ne l)
 | cons a r => rfl
theorem cutL_eq : cutL c (c :: l) = [] :: cutL c l := by rw [cutL, if_pos rfl]
theorem cutL_other (h : b ≠ c) : cutL c (b :: l) = (b :: (cutL c l).headD []) :: (cutL c l).tail := by rw [cutL, if_neg h]
theorem cutL_none : ∀ {l : List UInt8}, ¬ c ∈ l → cutL c l = [l]
 | [], _ => rfl
 | b :: l, h => by
   have h1 : b ≠ c := fun e => h (by rw [e]; exact List.mem_cons_self ..)
   rw [cutL_other h1, cutL_none (l := l) fun q => h (List.mem_cons_of_mem _ q)]; rfl
theorem cutL_app : ∀ {p : List UInt8}, ¬ c ∈ p → cutL c (p ++ c :: l) = p :: cutL c l
 | [], _ => cutL_eq
 | b :: p, h => by
   have h1 : b ≠ c := fun e => h (by rw [e]; exact List.mem_cons_self ..)
   rw [List.cons_append, cutL_other h1, cutL_app (p := p) fun q => h (List.mem_cons_of_mem _ q)]; rfl
theorem cutL_mem : ∀ {l : List UInt8} {w : List UInt8}, w ∈ cutL c l → w.length ≤ l.length ∧ ¬ c ∈ w
 | [], w, h => by simp [cutL] at h; subst h; simp
 | b :: l, w, h => by
   have ih := fun {w} => cutL_mem (l := l) (w := w)
   by_cases e : b = c
   · subst e
     rw [cutL_eq] at h
     rcases List.mem_cons.1 h with rfl | h
     · simp
     · have := ih h; rw [List.length_cons]; exact ⟨by omega, this.2⟩
   · rw [cutL_other e] at h
     rcases List.mem_cons.1 h with rfl | h
     · have := ih (w := (cutL c l).headD []) (by rw [cutL_hd l]; exact List.mem_cons_self ..)
       rw [List.length_cons, List.length_cons, List.mem_cons]
       exact ⟨by omega, fun q => q.elim (fun q => e q.symm) this.2⟩
     · have := ih (List.mem_of_mem_tail h); rw [List.length_cons]; exact ⟨by omega, this.2⟩
theorem index_one : index (b :: l) [c] = if b = c then 0 else if index l [c] = -1 then -1 else index l [c] + 1 := by
 show (if ([c] : List UInt8).isPrefixOf (b :: l) then (0 : Int) else if index l [c] == -1 then -1 else index l [c] + 1) = _
 have e : ([c] : List UInt8).isPrefixOf (b :: l) = decide (b = c) := by
   simp only [List.isPrefixOf, Bool.and_true]
   by_cases h : b = c
   · subst h; simp
   · rw [decide_eq_false h]; simp; exact fun q => h q.symm
 rw [e]
 by_cases h : b = c
 · simp [h]
 · simp [h]
theorem index_no : ∀ {l : List UInt8}, ¬ c ∈ l → index l [c] = -1
 | [], _ => rfl
 | b :: l, h => by
   have h1 : b ≠ c := fun e => h (by rw [e]; exact List.mem_cons_self ..)
   rw [index_one, if_neg h1, index_no (l := l) fun q => h (List.mem_cons_of_mem _ q)]; rfl
theorem index_app : ∀ {p : List UInt8}, ¬ c ∈ p → index (p ++ c :: l) [c] = p.length
 | [], _ => by rw [List.nil_append, index_one, if_pos rfl]; rfl
 | b :: p, h => by
   have h1 : b ≠ c := fun e => h (by rw [e]; exact List.mem_cons_self ..)
   rw [List.cons_append, index_one, if_neg h1, index_app (p := p) fun q => h (List.mem_cons_of_mem _ q), if_neg (by omega), List.length_cons]; rfl
theorem mem_cut (h : c ∈ l) : ∃ p r, ¬ c ∈ p ∧ l = p ++ c :: r := by
 obtain ⟨p, r, h1, h2⟩ := List.eq_append_cons_of_mem h
 exact ⟨p, r, h2, h1⟩
theorem cut_hit (h : ¬ c ∈ p) : cut (p ++ c :: l) [c] = (p, l, true) := by
 unfold cut
 rw [index_app h, if_pos (by omega)]
 simp
theorem cut_miss (h : ¬ c ∈ p) : cut p [c] = (p, [], false) := by
 unfold cut
 rw [index_no h, if_neg (by omega)]
theorem split_cutL : ∀ (n : Nat) (l : List UInt8), l.length ≤ n → splitK [c] 0 (l.count c) l = cutL c l
 | n, l, hn => by
   by_cases h : c ∈ l
   · obtain ⟨p, r, hp, rfl⟩ := mem_cut h
     have hc : (p ++ c :: r).count c = r.count c + 1 := by
       rw [List.count_append, List.count_cons_self, List.count_eq_zero.2 hp]; omega
     rw [hc, splitK, if_neg (by rw [index_app hp]; simp), index_app hp, cutL_app hp]
     have e1 : (p ++ c :: r).take ((p.length : Int).toNat + 0) = p := by simp
     have e2 : (p ++ c :: r).drop ((p.length : Int).toNat + [c].length) = r := by simp
     rw [e1, e2]
     match n with
     | 0 => simp at hn
     | n + 1 => rw [split_cutL n r (by simp at hn; omega)]
   · rw [List.count_eq_zero.2 h, splitK, cutL_none h]
theorem split_one (l : List UInt8) : split l [c] = cutL c l := by
 unfold split
 rw [count_one]; exact split_cutL l.length l (Nat.le_refl _)
theorem cutL_join : ∀ (ws : List (List UInt8)), ws ≠ [] → (∀ w ∈ ws, ¬ c ∈ w) → cutL c (join ws [c]) = ws
 | [], h, _ => absurd rfl h
 | [w], _, h => by rw [join_one, cutL_none (h w (List.mem_cons_self ..))]
 | w :: v :: r, _, h => by
   have ih := cutL_join (v :: r) (by simp) fun x hx => h x (List.mem_cons_of_mem _ hx)
   have e : join (w :: v :: r) [c] = w ++ c :: join (v :: r) [c] := by
     rw [join_cons, join_cons]
     simp [joinTail]
   rw [e, cutL_app (h w (List.mem_cons_self ..)), ih]
theorem join_snoc : ∀ (ws : List (List UInt8)) (w : List UInt8), ws ≠ [] → join (ws ++ [w]) [c] = join ws [c] ++ c :: w
 | [], _, h => absurd rfl h
 | v :: r, w, _ => by
   rw [List.cons_append, join_cons, join_cons]
   simp [joinTail]
/-- The loop that cuts: what is done, what is begun. -/
theorem cutL_take {i : Nat} (hb : l[i]? = some b) : cutL c (l.take (i + 1)) = if b = c then cutL c (l.take i) ++ [[]] else (cutL c (l.take i)).dropLast ++ [(cutL c (l.take i)).getLastD [] ++ [b]] := by
 have e : l.take (i + 1) = l.take i ++ [b] := by rw [List.take_add_one, hb]; rfl
 rw [e]
 generalize l.take i = q
 induction q with
 | nil =>
   by_cases h : b = c
   · subst h; simp [cutL]
   · simp [cutL, h]
 | cons a q ih =>
   have hne := cutL_ne (c := c) q
   by_cases ha : a = c
   · subst ha
     rw [List.cons_append, cutL_eq, cutL_eq, ih]
     split
     · rfl
     · cases hq : cutL a q with
       | nil => exact absurd hq hne
       | cons x y => simp
   · rw [List.cons_append, cutL_other ha, cutL_other ha, ih]
     split
     · cases hq : cutL c q with
       | nil => exact absurd hq hne
       | cons x y => simp
     · cases hq : cutL c q with
       | nil => exact absurd hq hne
       | cons x y =>
         cases y with
         | nil => simp
         | cons y z => simp
end
/-! ### Numbers of at most two digits -/
def dec2 (v : Nat) : List UInt8 := if v < 10 then [UInt8.ofNat (48 + v)] else [UInt8.ofNat (48 + v / 10), UInt8.ofNat (48 + v % 10)]
theorem dec_small {v : Nat} (h : v < 100) : decDigits v = dec2 v := by
 unfold dec2
 by_cases h1 : v < 10
 · rw [if_pos h1, decDigits, dif_pos h1]
 · rw [if_neg h1, decDigits, dif_neg h1, decDigits, dif_pos (by omega)]; rfl
theorem dec2_atoi : ∀ v, v < 100 → atoiAll (dec2 v) = .ok (v : Int) := by decide +kernel
theorem dec2_inj : ∀ v, v < 100 → ∀ u, u < 100 → dec2 v = dec2 u → v = u := fun v hv u hu h => by
 have h1 := dec2_atoi v hv
 rw [h, dec2_atoi u hu] at h1
 injection h1 with h1; omega
theorem dec2_chars : ∀ v, v < 100 → ∀ b ∈ dec2 v, 48 ≤ b.toNat ∧ b.toNat ≤ 57 := by decide +kernel
theorem dec2_len : ∀ v, v < 100 → 1 ≤ (dec2 v).length ∧ (dec2 v).length ≤ 2 := by decide +kernel
/-- The number that a text of at most two digits is. -/
def n99 (w : List UInt8) : Option Nat := (List.range 100).find? fun v => decide (dec2 v = w)
theorem n99_some {w : List UInt8} {v : Nat} : n99 w = some v ↔ v < 100 ∧ w = dec2 v := by
 constructor
 · intro h
   have h1 := List.find?_some h
   have h2 := List.mem_of_find?_eq_some h
   simp only [decide_eq_true_eq] at h1
   exact ⟨List.mem_range.1 h2, h1.symm⟩
 · rintro ⟨h, rfl⟩
   cases hq : n99 (dec2 v) with
   | none =>
     have := List.find?_eq_none.1 hq v (List.mem_range.2 h)
     simp at this
   | some u =>
     have h1 := List.find?_some hq
     have h2 := List.mem_range.1 (List.mem_of_find?_eq_some hq)
     simp only [decide_eq_true_eq] at h1
     rw [dec2_inj u h2 v h h1]
theorem n99_none {w : List UInt8} : n99 w = none ↔ ∀ v, v < 100 → w ≠ dec2 v := by
 constructor
 · intro h v hv e
   rw [n99_some.2 ⟨hv, e⟩] at h; cases h
 · intro h
   cases hq : n99 w with
   | none => rfl
   | some u => have := n99_some.1 hq; exact absurd this.2 (h u this.1)
/-- Two numbers with a point between them. -/
def pairP (w : List UInt8) : Option (Nat × Nat) :=
 match cutL 46 w with
 | [a, b] => match n99 a, n99 b with
   | some i, some k => some (i, k)
   | _, _ => none
 | _ => none
theorem pair_word {i k : Nat} (hi : i < 100) (hk : k < 100) : pairP (dec2 i ++ 46 :: dec2 k) = some (i, k) := by
 have h1 : ¬ (46 : UInt8) ∈ dec2 i := fun h => by have := (dec2_chars i hi 46 h).1; exact absurd this (by decide)
 have h2 : ¬ (46 : UInt8) ∈ dec2 k := fun h => by have := (dec2_chars k hk 46 h).1; exact absurd this (by decide)
 unfold pairP
 rw [cutL_app h1, cutL_none h2]
 simp only [n99_some.2 ⟨hi, rfl⟩, n99_some.2 ⟨hk, rfl⟩]
theorem word_blank {i k : Nat} (hi : i < 100) (hk : k < 100) : ¬ (32 : UInt8) ∈ dec2 i ++ 46 :: dec2 k := fun h => by
 rcases List.mem_append.1 h with h | h
 · have := (dec2_chars i hi 32 h).1; exact absurd this (by decide)
 · rcases List.mem_cons.1 h with h | h
   · exact absurd h (by decide)
   · have := (dec2_chars k hk 32 h).1; exact absurd this (by decide)
/-! ### What strconv and the reference say of a number -/
def numB (w : List UInt8) : Bool := match atoiAll w with
 | .ok v => decide (0 ≤ v ∧ v ≤ 99) && decide (decDigits v.toNat = w)
 | _ => false
def numN (w : List UInt8) : Int := match atoiAll w with
 | .ok v => v
 | .range => atoiSat w
 | _ => 0
theorem num_yes {w : List UInt8} {v : Nat} (h : n99 w = some v) : numB w = true ∧ numN w = (v : Int) := by
 obtain ⟨h1, rfl⟩ := n99_some.1 h
 unfold numB numN
 rw [dec2_atoi v h1]
 simp only [Int.toNat_natCast, dec_small h1, decide_true, Bool.and_true, decide_eq_true_eq, and_true]
 omega
theorem num_no {w : List UInt8} (h : n99 w = none) : numB w = false := by
 rw [n99_none] at h
 unfold numB
 split
 · rename_i v hv
   cases hc : decide (0 ≤ v ∧ v ≤ 99) with
   | false => rfl
   | true =>
     have h1 : 0 ≤ v ∧ v ≤ 99 := by simpa using hc
     rw [Bool.true_and, decide_eq_false_iff_not]
     intro q
     rw [dec_small (by omega)] at q
     exact h v.toNat (by omega) q.symm
 · rfl
/-- The number that digits spell. -/
def digV (acc : Int) : List UInt8 → Option Int
 | [] => some acc
 | b :: l => if 48 ≤ b.toNat ∧ b.toNat ≤ 57 then digV (10 * acc + ((b.toNat : Int) - 48)) l else none
def isNeg (s : List UInt8) : Bool := decide (s.head? = some 45)
def magL (s : List UInt8) : List UInt8 := if isNeg s = true then s.tail else s
def refNum (d : Int) (s : List UInt8) : Int × Bool :=
 if ((magL s).length : Int) < 1 ∨ d < ((magL s).length : Int) then (0, false) else match digV 0 (magL s) with
   | none => (0, false)
   | some n => (if isNeg s = true then 0 - n else n, decide (itoa (if isNeg s = true then 0 - n else n) = s))
theorem digV_bnd : ∀ (l : List UInt8) (acc n : Int), 0 ≤ acc → digV acc l = some n → 0 ≤ n ∧ n < (acc + 1) * 10 ^ l.length
 | [], acc, n, h, e => by
   unfold digV at e
   injection e with e; subst e
   simp; omega
 | b :: l, acc, n, h, e => by
   unfold digV at e
   split at e
   · have := digV_bnd l _ n (by omega) e
     refine ⟨this.1, ?_⟩
     have h1 : (10 * acc + ((b.toNat : Int) - 48) + 1) * 10 ^ l.length ≤ (10 * (acc + 1)) * 10 ^ l.length := Int.mul_le_mul_of_nonneg_right (by omega) (Int.le_of_lt (Int.pow_pos (by decide)))
     have h2 : (acc + 1) * (10 : Int) ^ (b :: l).length = (10 * (acc + 1)) * 10 ^ l.length := by
       rw [List.length_cons, Int.pow_succ, Int.mul_comm (10 : Int) (acc + 1), Int.mul_assoc, Int.mul_comm (10 : Int) (10 ^ l.length)]
     omega
   · cases e
theorem digV_dec2 : ∀ v, v < 100 → digV 0 (dec2 v) = some (v : Int) ∧ isNeg (dec2 v) = false := by decide +kernel
theorem itoa_small {v : Nat} (h : v < 100) : itoa (v : Int) = dec2 v := by
 unfold itoa
 rw [if_neg (by omega), Int.toNat_natCast, dec_small h]
theorem ref_yes {w : List UInt8} {v : Nat} (h : n99 w = some v) : refNum 2 w = ((v : Int), true) := by
 obtain ⟨h1, rfl⟩ := n99_some.1 h
 obtain ⟨h2, h3⟩ := digV_dec2 v h1
 have h4 := dec2_len v h1
 have e : magL (dec2 v) = dec2 v := by unfold magL; rw [h3]; rfl
 unfold refNum
 rw [e, if_neg (by omega), h2, h3]
 simp only [Bool.false_eq_true, if_false]
 rw [itoa_small h1, decide_eq_true rfl]
theorem ref_no {w : List UInt8} (h : n99 w = none) : (refNum 2 w).2 = false ∨ (refNum 2 w).1 < 0 := by
 rw [n99_none] at h
 unfold refNum
 split
 · exact .inl rfl
 · rename_i hl
   split
   · exact .inl rfl
   · rename_i n hn
     have hb := digV_bnd _ _ _ (Int.le_refl _) hn
     dsimp only
     cases hg : isNeg w with
     | true =>
       simp only [if_true]
       by_cases h0 : n = 0
       · left
         subst h0
         rw [decide_eq_false_iff_not]
         intro q
         have : itoa (0 - 0) = dec2 0 := itoa_small (v := 0) (by decide)
         rw [this] at q
         rw [← q] at hg
         exact absurd hg (by decide)
       · right; omega
     | false =>
       simp only [Bool.false_eq_true, if_false]
       left
       rw [decide_eq_false_iff_not]
       intro q
       have em : magL w = w := by unfold magL; rw [hg]; rfl
       rw [em] at hl hb
       have h9 : n < 100 := by
         have h3 : w.length = 1 ∨ w.length = 2 := by omega
         rcases h3 with e | e <;> rw [e] at hb <;> simp at hb <;> omega
       have e1 : n = (n.toNat : Int) := by omega
       rw [e1, itoa_small (by omega)] at q
       exact h n.toNat (by omega) q.symm
theorem n99_dot {w : List UInt8} (h : (46 : UInt8) ∈ w) : n99 w = none := n99_none.2 fun v hv e => by
 rw [e] at h
 have := (dec2_chars v hv 46 h).1
 exact absurd this (by decide)
theorem n99_nil : n99 [] = none := by decide +kernel
/-- The two pieces of a word, as the code cuts it. -/
theorem code_yes {w : List UInt8} {i k : Nat} (h : pairP w = some (i, k)) : (numB (cut w [46]).1 = true ∧ numN (cut w [46]).1 = (i : Int)) ∧ numB (cut w [46]).2.1 = true ∧ numN (cut w [46]).2.1 = (k : Int) := by
 unfold pairP at h
 split at h
 · rename_i a b hc
   split at h
   · rename_i i' k' h1 h2
     injection h with h; injection h with e1 e2; subst e1; subst e2
     by_cases hm : (46 : UInt8) ∈ w
     · obtain ⟨p, r, hp, rfl⟩ := mem_cut hm
       rw [cutL_app hp] at hc
       injection hc with e3 e4
       have hr : ¬ (46 : UInt8) ∈ r := fun q => by
         obtain ⟨p2, r2, hp2, rfl⟩ := mem_cut q
         rw [cutL_app hp2] at e4
         injection e4 with _ e5
         exact cutL_ne _ e5
       rw [cutL_none hr] at e4
       injection e4 with e5 _
       subst e3; subst e5
       rw [cut_hit hp]
       exact ⟨num_yes h1, num_yes h2⟩
     · rw [cutL_none hm] at hc; cases hc
   · cases h
 · cases h
theorem code_no {w : List UInt8} (h : pairP w = none) : numB (cut w [46]).1 = false ∨ numB (cut w [46]).2.1 = false := by
 by_cases hm : (46 : UInt8) ∈ w
 · obtain ⟨p, r, hp, rfl⟩ := mem_cut hm
   rw [cut_hit hp]
   unfold pairP at h
   rw [cutL_app hp] at h
   by_cases hr : (46 : UInt8) ∈ r
   · exact .inr (num_no (n99_dot hr))
   · rw [cutL_none hr] at h
     simp only at h
     cases h1 : n99 p with
     | none => exact .inl (num_no h1)
     | some i =>
       cases h2 : n99 r with
       | none => exact .inr (num_no h2)
       | some k => rw [h1, h2] at h; cases h
 · rw [cut_miss hm]
   exact .inr (num_no n99_nil)
theorem pair_len {w : List UInt8} {p : Nat × Nat} (h : pairP w = some p) : ∃ a b, cutL 46 w = [a, b] ∧ n99 a = some p.1 ∧ n99 b = some p.2 := by
 unfold pairP at h
 split at h
 · rename_i a b hc
   split at h
   · rename_i i' k' h1 h2
     injection h with h; subst h
     exact ⟨a, b, hc, h1, h2⟩
   · cases h
 · cases h
theorem pair_no {w a b : List UInt8} (h : pairP w = none) (hc : cutL 46 w = [a, b]) : n99 a = none ∨ n99 b = none := by
 unfold pairP at h
 rw [hc] at h
 simp only at h
 cases h1 : n99 a with
 | none => exact .inl rfl
 | some i =>
   cases h2 : n99 b with
   | none => exact .inr rfl
   | some k => rw [h1, h2] at h; cases h
/-- The pairs of words, if all are pairs. -/
def pairsP : List (List UInt8) → Option (List (Nat × Nat))
 | [] => some []
 | w :: ws => match pairP w, pairsP ws with
   | some p, some ps => some (p :: ps)
   | _, _ => none
theorem pairs_app : ∀ (a : List (List UInt8)) (w : List UInt8) (ps : List (Nat × Nat)) (p : Nat × Nat), pairsP a = some ps → pairP w = some p → pairsP (a ++ [w]) = some (ps ++ [p])
 | [], w, ps, p, h, h2 => by
   unfold pairsP at h
   injection h with h; subst h
   show (match pairP w, pairsP [] with | some p, some ps => some (p :: ps) | _, _ => none) = _
   rw [h2]; rfl
 | v :: a, w, ps, p, h, h2 => by
   unfold pairsP at h
   split at h
   · rename_i q qs h3 h4
     injection h with h; subst h
     rw [List.cons_append]
     unfold pairsP
     rw [h3, pairs_app a w qs p h4 h2]; rfl
   · cases h
theorem pairs_bad : ∀ {ws : List (List UInt8)} {w : List UInt8}, w ∈ ws → pairP w = none → pairsP ws = none
 | [], _, h, _ => absurd h List.not_mem_nil
 | v :: ws, w, h, h2 => by
   unfold pairsP
   rcases List.mem_cons.1 h with rfl | h
   · rw [h2]
   · rw [pairs_bad h h2]; split <;> simp_all
theorem pairs_words : ∀ {ps : List (Nat × Nat)}, (∀ p ∈ ps, p.1 < 100 ∧ p.2 < 100) → pairsP (ps.map fun p => dec2 p.1 ++ 46 :: dec2 p.2) = some ps
 | [], _ => rfl
 | p :: ps, h => by
   have h1 := h p (List.mem_cons_self ..)
   rw [List.map_cons]
   unfold pairsP
   rw [pair_word h1.1 h1.2, pairs_words fun q hq => h q (List.mem_cons_of_mem _ hq)]
end Go.Tx
