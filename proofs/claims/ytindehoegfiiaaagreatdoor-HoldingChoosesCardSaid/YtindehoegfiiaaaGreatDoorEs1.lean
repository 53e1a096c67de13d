/- Essential demands: what is checked; words of bits. No conditions. -/
import Derived.Test.YtindehoegfiiaaaGreatDoorHdl
import Derived.Laws.BitsAllLaws
set_option linter.unusedSimpArgs false
set_option linter.unusedVariables false
set_option maxRecDepth 100000
namespace Go.Proofs.YtindehoegfiiaaaGreatDoor
open Go Go.Pv
section
variable {P : Program} {ρ : Operand → PV} {h : Heap} {key : Key} {x y : Operand} {t t' : TypeId}
theorem e_shl64 {k : Nat} (hx : ρ x = .sc (.int .u64 1)) (hy : ρ y = .int (k : Int)) (hk : k < 64) : eff P ρ h key (.binOp .shl t x y t') = ⟨True, .sc (.int .u64 ((2 ^ k : Nat) : Int)), [], [], false⟩ := by
 simp only [eff, hx, hy, binEffN, binEff, intBin]
 have h1 : min ((k : Int)).toNat IntKind.u64.bits = k := by show min ((k : Int)).toNat 64 = k; omega
 have h2 : 2 ^ k < 2 ^ 64 := Nat.pow_lt_pow_right (by decide) hk
 have h3 : ((2 : Int) ^ k) = ((2 ^ k : Nat) : Int) := by simp
 rw [h1, Int.one_mul, h3]
 have h4 : IntKind.u64.wrap ((2 ^ k : Nat) : Int) = ((2 ^ k : Nat) : Int) := by
   generalize 2 ^ k = m at h2 ⊢
   simp only [IntKind.wrap, IntKind.bits, IntKind.signed]
   simp
   omega
 rw [h4]; simp
theorem e_or64 {a b : Nat} (hx : ρ x = .sc (.int .u64 (a : Int))) (hy : ρ y = .sc (.int .u64 (b : Int))) (ha : a < 18446744073709551616) (hb : b < 18446744073709551616) : eff P ρ h key (.binOp .or t x y t') = ⟨True, .sc (.int .u64 ((a ||| b : Nat) : Int)), [], [], false⟩ := by
 simp only [eff, hx, hy, binEffN, binEff, intBin, u64_or_nat a b ha hb]; simp
theorem e_an64 {a b : Nat} (hx : ρ x = .sc (.int .u64 (a : Int))) (hy : ρ y = .sc (.int .u64 (b : Int))) (ha : a < 18446744073709551616) (hb : b < 18446744073709551616) : eff P ρ h key (.binOp .andNot t x y t') = ⟨True, .sc (.int .u64 ((a &&& (18446744073709551615 - b) : Nat) : Int)), [], [], false⟩ := by
 simp only [eff, hx, hy, binEffN, binEff, intBin, u64_andNot_nat a b ha hb]; simp
theorem e_ne64 {a : Nat} (hx : ρ x = .sc (.int .u64 (a : Int))) (hy : ρ y = .sc (.int .u64 0)) : eff P ρ h key (.binOp .neq t x y t') = ⟨True, .bool (decide (a ≠ 0)), [], [], false⟩ := by
 have e : decide ((a : Int) ≠ 0) = decide (a ≠ 0) := by rw [Bool.eq_iff_iff, decide_eq_true_eq, decide_eq_true_eq]; omega
 rw [← e]; exact e_ne hx hy
end
/-! ### Words of bits -/
def cw (n : Nat) : PV := .sc (.int .u64 (n : Int))
def encS (w : List Nat) : List PV := w.map cw
def wdN (L : List Int) (i : Nat) : Nat := L.foldl (fun a n => if n.toNat / 64 = i then a ||| 2 ^ (n.toNat % 64) else a) 0
def wds (L : List Int) : List Nat := (List.range 29).map (wdN L)
section
variable {L A B : List Int} {n : Int} {i b k : Nat}
theorem wdN_app : wdN (L ++ [n]) i = if n.toNat / 64 = i then wdN L i ||| 2 ^ (n.toNat % 64) else wdN L i := by rw [wdN, List.foldl_append]; rfl
theorem fold_lt : ∀ (L : List Int) (a : Nat), a < 2 ^ 64 → L.foldl (fun a n => if n.toNat / 64 = i then a ||| 2 ^ (n.toNat % 64) else a) a < 2 ^ 64
 | [], a, h => h
 | n :: L, a, h => by
   rw [List.foldl_cons]
   refine fold_lt L _ ?_
   split
   · exact Nat.or_lt_two_pow h (Nat.pow_lt_pow_right (by decide) (Nat.mod_lt _ (by decide)))
   · exact h
theorem wdN_lt : wdN L i < 18446744073709551616 := fold_lt L 0 (by decide)
theorem fold_bit : ∀ (L : List Int) (a : Nat), (L.foldl (fun a n => if n.toNat / 64 = i then a ||| 2 ^ (n.toNat % 64) else a) a).testBit b = true ↔ (a.testBit b = true ∨ ∃ n ∈ L, n.toNat / 64 = i ∧ n.toNat % 64 = b)
 | [], a => by simp
 | n :: L, a => by
   rw [List.foldl_cons, fold_bit L]
   split
   · rename_i h
     rw [Nat.testBit_or, Bool.or_eq_true, Nat.testBit_two_pow, decide_eq_true_eq]
     constructor
     · rintro ((q | q) | ⟨m, hm, q⟩)
       · exact .inl q
       · exact .inr ⟨n, List.mem_cons_self .., h, q⟩
       · exact .inr ⟨m, List.mem_cons_of_mem _ hm, q⟩
     · rintro (q | ⟨m, hm, q1, q2⟩)
       · exact .inl (.inl q)
       · rcases List.mem_cons.1 hm with rfl | hm
         · exact .inl (.inr q2)
         · exact .inr ⟨m, hm, q1, q2⟩
   · rename_i h
     constructor
     · rintro (q | ⟨m, hm, q⟩)
       · exact .inl q
       · exact .inr ⟨m, List.mem_cons_of_mem _ hm, q⟩
     · rintro (q | ⟨m, hm, q1, q2⟩)
       · exact .inl q
       · rcases List.mem_cons.1 hm with rfl | hm
         · exact absurd q1 h
         · exact .inr ⟨m, hm, q1, q2⟩
theorem wdN_bit : (wdN L i).testBit b = true ↔ ∃ n ∈ L, n.toNat / 64 = i ∧ n.toNat % 64 = b := by
 rw [wdN, fold_bit]; simp
theorem wds_len : (wds L).length = 29 := by simp [wds]
theorem wds_get (hi : i < 29) : (wds L).getD i 0 = wdN L i := by
 rw [wds, List.getD_eq_getElem?_getD, List.getElem?_map, List.getElem?_range hi]; rfl
theorem wds_at (hi : i < 29) : (wds L)[i]? = some (wdN L i) := by
 rw [wds, List.getElem?_map, List.getElem?_range hi]; rfl
theorem wds_app (hn : n.toNat / 64 < 29) : wds (L ++ [n]) = (wds L).set (n.toNat / 64) (wdN L (n.toNat / 64) ||| 2 ^ (n.toNat % 64)) := by
 apply List.ext_getElem?
 intro j
 by_cases hj : j < 29
 · rw [wds_at hj, wdN_app]
   by_cases e : n.toNat / 64 = j
   · subst e; rw [if_pos rfl, List.getElem?_set_self (by rw [wds_len]; exact hn)]
   · rw [if_neg e, List.getElem?_set_ne e, wds_at hj]
 · rw [List.getElem?_eq_none (by rw [wds_len]; omega), List.getElem?_eq_none (by rw [List.length_set, wds_len]; omega)]
theorem andn_zero {a b : Nat} (hb : b < 18446744073709551616) (ha : a < 18446744073709551616) : (a &&& (18446744073709551615 - b)) = 0 ↔ ∀ i, a.testBit i = true → b.testBit i = true := by
 have e : 18446744073709551615 - b = 2 ^ 64 - (b + 1) := by omega
 rw [e]
 constructor
 · intro h i hi
   have h1 := congrArg (fun z => z.testBit i) h
   simp only [Nat.testBit_and, hi, Bool.true_and, Nat.zero_testBit, Nat.testBit_two_pow_sub_succ (show b < 2 ^ 64 from hb)] at h1
   by_cases q : i < 64
   · rw [decide_eq_true q, Bool.true_and, Bool.not_eq_false'] at h1; exact h1
   · have : a < 2 ^ i := Nat.lt_of_lt_of_le (show a < 2 ^ 64 from ha) (Nat.pow_le_pow_right (by decide) (by omega))
     rw [Nat.testBit_lt_two_pow this] at hi; cases hi
 · intro h
   apply Nat.eq_of_testBit_eq
   intro i
   rw [Nat.testBit_and, Nat.zero_testBit, Nat.testBit_two_pow_sub_succ (show b < 2 ^ 64 from hb)]
   cases q : a.testBit i with
   | false => rfl
   | true => rw [h i q]; simp
def subW (A B : List Nat) : Bool := (List.range 29).all fun i => decide (A.getD i 0 &&& (18446744073709551615 - B.getD i 0) = 0)
def subL (A B : List Int) : Bool := A.all fun n => B.any fun y => decide (y = n)
abbrev Small (L : List Int) : Prop := ∀ n ∈ L, 0 ≤ n ∧ n ≤ 1799
theorem subL_iff : subL A B = true ↔ ∀ n ∈ A, n ∈ B := by
 rw [subL, List.all_eq_true]
 constructor
 · intro h n hn
   obtain ⟨y, hy, e⟩ := List.any_eq_true.1 (h n hn)
   rw [decide_eq_true_eq] at e; subst e; exact hy
 · intro h n hn
   exact List.any_eq_true.2 ⟨n, h n hn, decide_eq_true rfl⟩
theorem subW_eq (hA : Small A) (hB : Small B) : subW (wds A) (wds B) = subL A B := by
 rw [Bool.eq_iff_iff, subL_iff, subW, List.all_eq_true]
 constructor
 · intro h n hn
   have hb := hA n hn
   have h1 := h (n.toNat / 64) (List.mem_range.2 (by omega))
   rw [decide_eq_true_eq, wds_get (by omega), wds_get (by omega), andn_zero wdN_lt wdN_lt] at h1
   obtain ⟨m, hm, q1, q2⟩ := wdN_bit.1 (h1 (n.toNat % 64) (wdN_bit.2 ⟨n, hn, rfl, rfl⟩))
   have hmb := hB m hm
   have : m = n := by
     have e1 := Nat.div_add_mod m.toNat 64
     have e2 := Nat.div_add_mod n.toNat 64
     omega
   rw [← this]; exact hm
 · intro h i hi
   rw [List.mem_range] at hi
   rw [decide_eq_true_eq, wds_get hi, wds_get hi, andn_zero wdN_lt wdN_lt]
   intro b hb
   obtain ⟨n, hn, q1, q2⟩ := wdN_bit.1 hb
   exact wdN_bit.2 ⟨n, h n hn, q1, q2⟩
abbrev SubI (A B : List Nat) (k : Nat) : Prop := ∀ i, i < k → (A.getD i 0 &&& (18446744073709551615 - B.getD i 0)) = 0
end
theorem subW_t {A B : List Nat} {k : Nat} (h : SubI A B k) (hk : 29 ≤ k) : true = subW A B := by
 rw [eq_comm, subW, List.all_eq_true]
 intro i hi
 rw [List.mem_range] at hi
 exact decide_eq_true (h i (by omega))
theorem subW_f {A B : List Nat} {k : Nat} (hk : k < 29) (h : (A.getD k 0 &&& (18446744073709551615 - B.getD k 0)) ≠ 0) : false = subW A B := by
 cases q : subW A B with
 | false => rfl
 | true =>
   rw [subW, List.all_eq_true] at q
   have := q k (List.mem_range.2 hk)
   rw [decide_eq_true_eq] at this
   exact absurd this h
theorem subI_s {A B : List Nat} {k : Nat} (h : SubI A B k) (h2 : (A.getD k 0 &&& (18446744073709551615 - B.getD k 0)) = 0) : SubI A B (k + 1) := fun i hi => by
 by_cases e : i = k
 · subst e; exact h2
 · exact h i (by omega)
section
variable {P : Program} {ρ : Operand → PV} {h : Heap} {key : Key} {x y : Operand} {t t' : TypeId}
theorem e_shl64' {z : Int} (hx : ρ x = .sc (.int .u64 1)) (hy : ρ y = .int z) (hz : 0 ≤ z ∧ z < 64) : eff P ρ h key (.binOp .shl t x y t') = ⟨True, .sc (.int .u64 ((2 ^ z.toNat : Nat) : Int)), [], [], false⟩ := by
 have e : z = ((z.toNat : Nat) : Int) := by omega
 rw [e] at hy
 exact e_shl64 hx hy (by omega)
theorem e_nilL {tt : Bool} {sz : Nat} {rs : Go.Pv.Rows} {i j : Nat} (hx : ρ x = .lptr tt sz rs i j) : eff P ρ h key (.nilCheck x) = ⟨True, .lptr tt sz rs i j, [], [], false⟩ := by simp only [eff, hx]
theorem e_ixaL {tt : Bool} {sz a b n : Nat} {rs : Go.Pv.Rows} {e : TypeId} {kd : IntKind} {i : Int} (hx : ρ x = .lptr tt sz rs a b) (hy : ρ y = .sc (.int kd i)) (ht : arrOk P t = some (n, e)) (hs : tySize P e = 1) (hi : 0 ≤ i ∧ i < n) :
   eff P ρ h key (.indexAddr t x y) = ⟨True, .lptr tt sz rs a (b + i.toNat), [], [], false⟩ := by
 simp only [eff, hx, hy, indexAddrEff, ht, hs]; simp [hi]
end
section
variable {L : List Int} {n x : Int} {i j k : Nat} {w : List Nat}
theorem encS_len : (encS (wds L)).length = 29 := by rw [encS, List.length_map, wds_len]
theorem encS_cell (w : List Nat) : (encS w).all PV.cell = true := by
 rw [List.all_eq_true]; intro p hp
 obtain ⟨a, _, rfl⟩ := List.mem_map.1 hp; rfl
theorem encS_pure (w : List Nat) : ∀ p ∈ encS w, Pure p := fun p hp => by obtain ⟨a, _, rfl⟩ := List.mem_map.1 hp; exact .sc _
theorem encS_clean (w : List Nat) : ∀ p ∈ encS w, Go.Pv.Clean p := fun p hp => by obtain ⟨a, _, rfl⟩ := List.mem_map.1 hp; exact .sc _
theorem cell_w (hi : i < 29) : cellAt [encS (wds L)] 0 (0 + i) = cw (wdN L i) := by
 rw [Nat.zero_add, cellAt, encS]
 show ((wds L).map cw).getD i .dead = _
 rw [List.getD_eq_getElem?_getD, List.getElem?_map, wds_at hi]; rfl
theorem set_w (hx : 0 ≤ x ∧ x ≤ 1799) : (encS (wds L)).set (0 + (x / 64).toNat) (.sc (.int .u64 ((wdN L (x / 64).toNat ||| 2 ^ (x % 64).toNat : Nat) : Int))) = encS (wds (L ++ [x])) := by
 have e1 : x.toNat / 64 = (x / 64).toNat := by omega
 have e2 : x.toNat % 64 = (x % 64).toNat := by omega
 rw [wds_app (by omega), e1, e2, Nat.zero_add, encS, encS, List.map_set]; rfl
theorem agg_w : aggAt [encS (wds L)] 0 0 29 = encS (wds L) := by
 rw [aggAt]
 show ((encS (wds L)).drop 0).take 29 = _
 rw [List.drop_zero, List.take_of_length_le (by rw [encS_len]; exact Nat.le_refl _)]
theorem cell_S {S : List (List Nat)} {a : List Nat} (ha : S[i]? = some a) (hl : a.length = 29) (hj : j < 29) : cellAt (S.map encS) i (0 + j) = cw (a.getD j 0) := by
 have e : (S.map encS).getD i [] = a.map cw := by rw [List.getD_eq_getElem?_getD, List.getElem?_map, ha]; rfl
 rw [Nat.zero_add, cellAt, e, List.getD_eq_getElem?_getD, List.getElem?_map, List.getD_eq_getElem?_getD, List.getElem?_eq_getElem (by omega)]; rfl
theorem wds_b (L : List Int) (j : Nat) : (wds L).getD j 0 < 18446744073709551616 := by
 by_cases h : j < 29
 · rw [wds_get h]; exact wdN_lt
 · rw [List.getD_eq_getElem?_getD, List.getElem?_eq_none (by rw [wds_len]; omega)]; decide
end
/-! ### What is checked of demands -/
def encT (t : Bool) (x : Demand) : List PV := [.int x.standard, .int x.fro, .lit t 1 (x.places.map ci)]
def dmK (n : Int) (_ : Nat) (x : Demand) : Int := if x.places.any (outB 0 (n - 1)) = true then 2 else if risB x.places = false then 10 else 0
def demE (n : Int) (d : List Demand) : Int := if 1800 < (d.length : Int) then 8 else frsF (dmK n) 0 d
section
variable {n : Int} {k : Nat} {x : Demand} {d : List Demand}
theorem dmK_2 (h : x.places.any (outB 0 (n - 1)) = true) : dmK n k x = 2 := by rw [dmK, if_pos h]
theorem dmK_10 (h : x.places.any (outB 0 (n - 1)) = false) (h2 : risB x.places = false) : dmK n k x = 10 := by rw [dmK, if_neg (by rw [h]; decide), if_pos h2]
theorem dmK_0 (h : x.places.any (outB 0 (n - 1)) = false) (h2 : risB x.places = true) : dmK n k x = 0 := by rw [dmK, if_neg (by rw [h]; decide), if_neg (by rw [h2]; decide)]
theorem demE_8 (h : 1800 < (d.length : Int)) : 8 = demE n d := (if_pos h).symm
theorem demE_f {e : Int} (h : (d.length : Int) ≤ 1800) (h2 : e = frsF (dmK n) 0 d) : e = demE n d := by rw [demE, if_neg (by omega), h2]
theorem demE_inv (h : demE n d = 0) : d.length ≤ 1800 ∧ ∀ x ∈ d, (∀ z ∈ x.places, 0 ≤ z ∧ z ≤ n - 1) ∧ risB x.places = true := by
 by_cases h1 : 1800 < (d.length : Int)
 · rw [← demE_8 h1] at h; cases h
 · refine ⟨by omega, fun x hx => ?_⟩
   rw [← demE_f (by omega) rfl] at h
   obtain ⟨i, hi, e⟩ := List.getElem_of_mem hx
   have h2 := frs_all (E := dmK n) d 0 h i x (by rw [List.getElem?_eq_getElem hi, e])
   cases h3 : x.places.any (outB 0 (n - 1)) with
   | true => rw [dmK_2 h3] at h2; cases h2
   | false =>
     cases h4 : risB x.places with
     | false => rw [dmK_10 h3 h4] at h2; cases h2
     | true => exact ⟨fun z hz => any_out h3 hz, rfl⟩
end
/-! ### Essential demands -/
def plA (D : List Demand) (i : Nat) : List Int := (D.getD i default).places
def strO (D : List Demand) (i k : Nat) : Bool := decide (k ≠ i) && (subL (plA D k) (plA D i) && (decide (k < i) || !subL (plA D i) (plA D k)))
def keptB (D : List Demand) (i : Nat) : Bool := !((List.range D.length).any (strO D i))
def essL (D : List Demand) : Nat → List Int
 | 0 => []
 | i + 1 => if keptB D i = true then essL D i ++ [(i : Int)] else essL D i
theorem ris_head : ∀ {l : List Int} {a : Int}, risB (a :: l) = true → (∀ y ∈ l, a < y) ∧ risB l = true
 | [], a, _ => ⟨fun y hy => (by cases hy), rfl⟩
 | b :: l, a, h => by
   rw [risB, Bool.and_eq_true, decide_eq_true_eq] at h
   refine ⟨fun y hy => ?_, h.2⟩
   rcases List.mem_cons.1 hy with rfl | hy
   · exact h.1
   · have := (ris_head h.2).1 y hy
     omega
theorem ris_nodup : ∀ {l : List Int}, risB l = true → l.Nodup
 | [], _ => List.nodup_nil
 | a :: l, h => by
   have h1 := ris_head h
   exact List.nodup_cons.2 ⟨fun q => absurd (h1.1 a q) (Int.lt_irrefl _), ris_nodup h1.2⟩
theorem sub_len {A B : List Int} (hA : A.Nodup) (h : ∀ n ∈ A, n ∈ B) : A.length ≤ B.length := by
 induction A generalizing B with
 | nil => exact Nat.zero_le _
 | cons a A ih =>
   obtain ⟨h1, h2⟩ := List.nodup_cons.1 hA
   have h3 := ih (B := B.erase a) h2 fun n hn => by
     have q := h n (List.mem_cons_of_mem _ hn)
     exact (List.mem_erase_of_ne (fun e => h1 (by rw [← e]; exact hn))).2 q
   have h4 := h a (List.mem_cons_self ..)
   have h5 := List.length_erase_of_mem h4
   have h6 := List.length_pos_of_mem h4
   rw [List.length_cons]; omega
theorem sub_back {A B : List Int} (hA : A.Nodup) (hB : B.Nodup) (h : ∀ n ∈ A, n ∈ B) (hl : B.length ≤ A.length) : ∀ n ∈ B, n ∈ A := fun n hn => by
 by_cases q : n ∈ A
 · exact q
 · have h1 := sub_len (A := n :: A) (B := B) (List.nodup_cons.2 ⟨q, hA⟩) fun m hm => by
     rcases List.mem_cons.1 hm with rfl | hm
     · exact hn
     · exact h m hm
   rw [List.length_cons] at h1; omega
theorem range_any {p : Nat → Bool} {k : Nat} : (List.range (k + 1)).any p = ((List.range k).any p || p k) := by rw [List.range_succ, List.any_append]; simp
theorem any_le {p : Nat → Bool} {k n : Nat} (hk : k ≤ n) (h : (List.range k).any p = true) : (List.range n).any p = true := by
 rw [List.any_eq_true] at *
 obtain ⟨x, hx, hp⟩ := h
 exact ⟨x, List.mem_range.2 (Nat.lt_of_lt_of_le (List.mem_range.1 hx) hk), hp⟩
section
variable {D : List Demand} {i k : Nat} {b : Bool} {x : Demand}
theorem kept_end (hb : b = !((List.range k).any (strO D i))) (hk : k ≤ D.length) (h : D.length ≤ k ∨ b = false) : b = keptB D i := by
 rcases h with h | h
 · rw [hb, keptB, show k = D.length by omega]
 · subst h
   have h1 : (List.range k).any (strO D i) = true := by rw [eq_comm, Bool.not_eq_false'] at hb; exact hb
   rw [keptB, any_le hk h1]; rfl
theorem ess_t (h : keptB D i = true) : essL D (i + 1) = essL D i ++ [(i : Int)] := by rw [essL, if_pos h]
theorem ess_f (h : keptB D i = false) : essL D (i + 1) = essL D i := by rw [essL, if_neg (by rw [h]; decide)]
theorem ess_len : ∀ {i : Nat}, (essL D i).length ≤ i
 | 0 => Nat.le_refl _
 | i + 1 => by
   have := ess_len (i := i)
   rw [essL]; split
   · rw [List.length_append, List.length_singleton]; omega
   · omega
theorem plA_at (hx : D[i]? = some x) : plA D i = x.places := by rw [plA, List.getD_eq_getElem?_getD, hx]; rfl
end
/-! ### Few demands -/
section
variable {d : List Demand} {k : Nat} {x : Demand}
end

theorem fr112 : (inFrame Tryz.f112.ntmps (Tryz.f112.body.getD .skip) && Tryz.f112.results.toList.all (resScope Tryz.f112.ntmps)) = true := by kernel_rfl
theorem setOfC (t : Bool) (L : List Int) (hl : L.length ≤ 1000000) (hL : Small L) : PCalls Tryz.prog 112 [.lit t 1 (L.map ci)] (.agg (encS (wds L))) := by
 refine PCalls.of_code Tryz.func112 rfl rfl (by kernel_rfl) mixed fr112 (by show _ ≤ 23; simp) (.agg _ (encS_pure _)) ?_
 refine pwp_seq_plain rfl fun K1 hK1 => ?_
 refine p_new rfl (e_alloc (cs := [.sc (.int .u64 0), .sc (.int .u64 0), .sc (.int .u64 0), .sc (.int .u64 0), .sc (.int .u64 0), .sc (.int .u64 0), .sc (.int .u64 0), .sc (.int .u64 0), .sc (.int .u64 0), .sc (.int .u64 0), .sc (.int .u64 0), .sc (.int .u64 0), .sc (.int .u64 0), .sc (.int .u64 0), .sc (.int .u64 0), .sc (.int .u64 0), .sc (.int .u64 0), .sc (.int .u64 0), .sc (.int .u64 0), .sc (.int .u64 0), .sc (.int .u64 0), .sc (.int .u64 0), .sc (.int .u64 0), .sc (.int .u64 0), .sc (.int .u64 0), .sc (.int .u64 0), .sc (.int .u64 0), .sc (.int .u64 0), .sc (.int .u64 0)]) (n := 29) (by kernel_rfl) rfl (by decide)) (ob_alloc (by decide)) ?_
 refine p_end (hK1 _ ?_); clear hK1 K1
 refine pwp_seq_plain rfl fun K2 hK2 => ?_
 refine p_new rfl (e_alloc (cs := [.sc (.int .u64 0), .sc (.int .u64 0), .sc (.int .u64 0), .sc (.int .u64 0), .sc (.int .u64 0), .sc (.int .u64 0), .sc (.int .u64 0), .sc (.int .u64 0), .sc (.int .u64 0), .sc (.int .u64 0), .sc (.int .u64 0), .sc (.int .u64 0), .sc (.int .u64 0), .sc (.int .u64 0), .sc (.int .u64 0), .sc (.int .u64 0), .sc (.int .u64 0), .sc (.int .u64 0), .sc (.int .u64 0), .sc (.int .u64 0), .sc (.int .u64 0), .sc (.int .u64 0), .sc (.int .u64 0), .sc (.int .u64 0), .sc (.int .u64 0), .sc (.int .u64 0), .sc (.int .u64 0), .sc (.int .u64 0), .sc (.int .u64 0)]) (n := 29) (by kernel_rfl) rfl (by decide)) (ob_alloc (by decide)) ?_
 refine p_end (hK2 _ ?_); clear hK2 K2
 refine pwp_seq_seq ?_
 refine pwp_seq_plain rfl fun K3 hK3 => ?_
 refine p_e rfl (e_move (v := .lit _ _ _) rfl) ?_
 refine p_e rfl (e_len rfl (by kernel_rfl)) ?_
 refine p_mS rfl ?_
 refine p_end (hK3 _ ?_); clear hK3 K3
 refine pwp_seq_block fun K4 hK4 => ?_
 refine pwp_loopR (α := Nat) [2, 3, 6, 7] (fun (k : Nat) => [(8, .int (k))]) (fun (k : Nat) (h : Heap) (_ : Nat → Nat) => ((k) ≤ L.length) ∧ (h (2, 0) = some (.rows 29 [(List.replicate 29 (cw 0))])) ∧ (h (3, 0) = some (.rows 29 [encS (wds (L.take (k)))]))) (fun (k : Nat) => L.length - (k)) (0) (by exact ⟨rfl, trivial⟩) (by exact ⟨by exact Nat.zero_le _, ((hset_ne (key_ne rfl)).trans (hset_self _ _ _)), (hset_self _ _ _)⟩) fun k r5 h6 c7 hj8 => ?_
 obtain ⟨hk, hihj8_0, hihj8_1⟩ := hj8
 try dsimp only at hk
 try dsimp only at hihj8_0
 try dsimp only at hihj8_1
 show pwp _ _ (loopQ _ _ _) ⟨sets (mix _ _ _) [(8, .int k)], _, _⟩
 refine pwp_seq_plain rfl fun K9 hK9 => ?_
 refine p_e rfl (e_lt rfl rfl) ?_
 refine p_end (hK9 _ ?_); clear hK9 K9
 refine pwp_seq_cond rfl fun K10 hK10 => ⟨fun hb11 => ?_, fun hb11 => ?_⟩
 ·have hb11R := hb11; try simp only [zz] at hb11
  obtain ⟨x, hx, hd, ht⟩ := get_lt (xs := L) (i := k) (by omega)
  have hxb := hL x (List.mem_of_getElem? hx)
  refine pwp_skip ?_
  refine seq_norm (hK10 _ ?_); clear hK10 K10
  refine pwp_seq_block fun K12 hK12 => ?_
  refine pwp_seq_plain rfl fun K13 hK13 => ?_
  refine p_e rfl (e_ixL rfl rfl) ?_
  refine p_e rfl (e_load (v := .sc _) rfl (by kernel_rfl) (by kernel_rfl) (by kernel_rfl) (by first | omega | (simp only [List.length_map]; omega)) (by decide) ((cell_map hx _).trans rfl)) ?_
  refine p_aS rfl ?_
  refine p_end (hK13 _ ?_); clear hK13 K13
  refine pwp_gops rfl fun K14 hK14 => ?_
  refine s_begin ?_
  refine s_e rfl (e_move (v := .sc _) rfl) ?_
  refine s_e rfl (e_quo rfl rfl (by omega) (by omega) (by omega)) ?_
  refine s_e rfl (e_ixaP (n := 29) (e := 134) rfl rfl (by kernel_rfl) (by kernel_rfl) (by omega)) ?_
  refine s_step [3] (by simp) rfl rfl rfl rfl (e_loadH (v := cw (wdN (L.take k) (x / 64).toNat)) rfl hihj8_1 (by kernel_rfl) (by kernel_rfl) (by kernel_rfl) (by exact Nat.zero_lt_one) (by omega) (cell_w (by omega))) trivial ?_
  refine s_e rfl (e_move (v := .sc _) rfl) ?_
  refine s_e rfl (e_rem rfl rfl (by omega) (by omega)) ?_
  refine s_e rfl (e_shl64' rfl rfl ⟨by omega, by omega⟩) ?_
  refine s_e rfl (e_or64 (a := wdN (L.take k) (x / 64).toNat) (b := 2 ^ (x % 64).toNat) rfl rfl wdN_lt (Nat.pow_lt_pow_right (by decide) (by omega : (x % 64).toNat < 64))) ?_
  refine s_e rfl (e_ixaP (n := 29) (e := 134) rfl rfl (by kernel_rfl) (by kernel_rfl) (by omega)) ?_
  refine s_store [3] (by simp) rfl rfl (e_storeC rfl hihj8_1 rfl rfl encS_len (by omega) (by kernel_rfl) rfl (by kernel_rfl)) trivial ?_
  refine s_end (ds := []) (by kernel_rfl) (by kernel_rfl) (hK14 _ ?_); clear hK14 K14
  refine block_norm ?_
  refine seq_norm (hK12 _ ?_); clear hK12 K12
  refine pwp_plain rfl fun K15 hK15 => ?_
  refine p_e rfl (e_adL rfl rfl) ?_
  refine p_mS rfl ?_
  refine p_end (hK15 _ ?_); clear hK15 K15
  exact loop_again (k + 1) (by show _ < _; omega) ⟨rfl, rfl, rfl, rfl, trivial⟩ ⟨rfl, trivial⟩ (by exact ⟨by show _ + 1 ≤ _; simp only [List.length_map] at *; omega, ((hset_ne (key_ne rfl)).trans hihj8_0), ((hset_self _ _ _).trans (by rw [ht, ← set_w hxb]; rfl))⟩)
 ·have hb11R := hb11; try simp only [zz] at hb11
  have hkl : k = L.length := by simp only [List.length_map] at *; omega
  refine pwp_exit ?_
  refine exit_seq ?_
  clear hK10 K10
  refine exit_loop ?_
  refine exit_here ?_
  refine seq_norm (hK4 _ ?_); clear hK4 K4
  refine pwp_seq_plain rfl fun K16 hK16 => ?_
  refine p_e rfl (e_loadHA (n := 29) rfl hihj8_1 (by kernel_rfl) (by kernel_rfl) (by kernel_rfl) (by exact Nat.zero_lt_one) (by decide) agg_w) ?_
  refine p_store rfl (e_storeA rfl hihj8_0 rfl rfl encS_len (by kernel_rfl) (encS_cell _) (by kernel_rfl)) trivial ?_
  refine p_end (hK16 _ ?_); clear hK16 K16
  refine pwp_ret ?_
  refine endC rfl (hset_self _ _ _) (by kernel_rfl) (by kernel_rfl) (by kernel_rfl) encS_len ?_
  exact out_agg (by rw [hkl, List.take_length]) (encS_clean _)

end Go.Proofs.YtindehoegfiiaaaGreatDoor
