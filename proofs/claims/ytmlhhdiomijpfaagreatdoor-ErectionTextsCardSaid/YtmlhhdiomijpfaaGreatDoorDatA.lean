import Derived.Lib.SplitLaws
import Derived.Lib.IndexMore
import Derived.Lib.ItoaNum
import Derived.Lib.AtoiAll
import Derived.Lib.Join
import Derived.Test.YtmlhhdiomijpfaaGreatDoorProg
import Derived.Test.YtmlhhdiomijpfaaGreatDoorPvGh
set_option linter.unusedSimpArgs false
set_option linter.unusedVariables false
namespace Go.Tx
open Go Go.Lib
def cutL (c : UInt8) : List UInt8 → List (List UInt8)
 | [] => [[]]
 | b :: l => if b = c then [] :: cutL c l else (b :: (cutL c l).headD []) :: (cutL c l).tail
section
variable {c b : UInt8} {l p : List UInt8}
theorem cutL_ne : ∀ l : List UInt8, cutL c l ≠ []
 | [] => by simp [cutL]
 | b :: l => by unfold cutL; split <;> simp
theorem cutL_hd (l : List UInt8) : cutL c l = (cutL c l).headD [] :: (cutL c l).tail := by
 cases h : cutL c l with
 | nil => exact absurd h (cutL_ne l)
 | cons a r => rfl
theorem cutL_eq : cutL c (c :: l) = [] :: cutL c l := by rw [cutL, if_pos rfl]
theorem cutL_other (h : b ≠ c) : cutL c (b :: l) = (b :: (cutL c l).headD []) :: (cutL c l).tail := by rw [cutL, if_neg h]
theorem cutL_none : ∀ {l : List UInt8}, ¬ c ∈ l → cutL c l = [l]
 | [], _ => rfl
 | b :: l, h => by
   have h1 : b ≠ c := fun e => h (by rw [e]; exact List.mem_cons_self ..);rw [cutL_other h1, cutL_none (l := l) fun q => h (List.mem_cons_of_mem _ q)]; rfl
theorem cutL_app : ∀ {p : List UInt8}, ¬ c ∈ p → cutL c (p ++ c :: l) = p :: cutL c l
 | [], _ => cutL_eq
 | b :: p, h => by
   have h1 : b ≠ c := fun e => h (by rw [e]; exact List.mem_cons_self ..);rw [List.cons_append, cutL_other h1, cutL_app (p := p) fun q => h (List.mem_cons_of_mem _ q)]; rfl
theorem cutL_len : ∀ l : List UInt8, (cutL c l).length ≤ l.length + 1
 | [] => by simp [cutL]
 | b :: l => by
   have := cutL_len l;unfold cutL;split
   · simp only [List.length_cons]; omega
   · rw [List.length_cons, List.length_cons, List.length_tail]; have := cutL_ne (c := c) l; have : 0 < (cutL c l).length := List.length_pos_iff.2 this; omega
theorem cutL_mem : ∀ {l : List UInt8} {w : List UInt8}, w ∈ cutL c l → w.length ≤ l.length ∧ ¬ c ∈ w
 | [], w, h => by simp [cutL] at h; subst h; simp
 | b :: l, w, h => by
   have ih := fun {w} => cutL_mem (l := l) (w := w);by_cases e : b = c
   · subst e;rw [cutL_eq] at h;rcases List.mem_cons.1 h with rfl | h
     · simp
     · have := ih h; rw [List.length_cons]; exact ⟨by omega, this.2⟩
   · rw [cutL_other e] at h;rcases List.mem_cons.1 h with rfl | h
     · have := ih (w := (cutL c l).headD []) (by rw [cutL_hd l]; exact List.mem_cons_self ..);rw [List.length_cons, List.length_cons, List.mem_cons];exact ⟨by omega, fun q => q.elim (fun q => e q.symm) this.2⟩
     · have := ih (List.mem_of_mem_tail h); rw [List.length_cons]; exact ⟨by omega, this.2⟩
theorem index_one : index (b :: l) [c] = if b = c then 0 else if index l [c] = -1 then -1 else index l [c] + 1 := by
 show (if ([c] : List UInt8).isPrefixOf (b :: l) then (0 : Int) else if index l [c] == -1 then -1 else index l [c] + 1) = _
 have e : ([c] : List UInt8).isPrefixOf (b :: l) = decide (b = c) := by
   simp only [List.isPrefixOf, Bool.and_true];by_cases h : b = c
   · subst h; simp
   · rw [decide_eq_false h]; simp; exact fun q => h q.symm
 rw [e];by_cases h : b = c
 · simp [h]
 · simp [h]
theorem index_no : ∀ {l : List UInt8}, ¬ c ∈ l → index l [c] = -1
 | [], _ => rfl
 | b :: l, h => by
   have h1 : b ≠ c := fun e => h (by rw [e]; exact List.mem_cons_self ..);rw [index_one, if_neg h1, index_no (l := l) fun q => h (List.mem_cons_of_mem _ q)]; rfl
theorem index_app : ∀ {p : List UInt8}, ¬ c ∈ p → index (p ++ c :: l) [c] = p.length
 | [], _ => by rw [List.nil_append, index_one, if_pos rfl]; rfl
 | b :: p, h => by
   have h1 : b ≠ c := fun e => h (by rw [e]; exact List.mem_cons_self ..);rw [List.cons_append, index_one, if_neg h1, index_app (p := p) fun q => h (List.mem_cons_of_mem _ q), if_neg (by omega), List.length_cons]; rfl
theorem mem_cut (h : c ∈ l) : ∃ p r, ¬ c ∈ p ∧ l = p ++ c :: r := by
 obtain ⟨p, r, h1, h2⟩ := List.eq_append_cons_of_mem h;exact ⟨p, r, h2, h1⟩
theorem cut_hit (h : ¬ c ∈ p) : cut (p ++ c :: l) [c] = (p, l, true) := by
 unfold cut;rw [index_app h, if_pos (by omega)];simp
theorem cut_miss (h : ¬ c ∈ p) : cut p [c] = (p, [], false) := by
 unfold cut;rw [index_no h, if_neg (by omega)]
theorem split_cutL : ∀ (n : Nat) (l : List UInt8), l.length ≤ n → splitK [c] 0 (l.count c) l = cutL c l
 | n, l, hn => by
   by_cases h : c ∈ l
   · obtain ⟨p, r, hp, rfl⟩ := mem_cut h
     have hc : (p ++ c :: r).count c = r.count c + 1 := by
       rw [List.count_append, List.count_cons_self, List.count_eq_zero.2 hp]; omega
     rw [hc, splitK, if_neg (by rw [index_app hp]; simp), index_app hp, cutL_app hp];have e1 : (p ++ c :: r).take ((p.length : Int).toNat + 0) = p := by simp
     have e2 : (p ++ c :: r).drop ((p.length : Int).toNat + [c].length) = r := by simp
     rw [e1, e2]
     match n with
     | 0 => simp at hn
     | n + 1 => rw [split_cutL n r (by simp at hn; omega)]
   · rw [List.count_eq_zero.2 h, splitK, cutL_none h]
theorem split_one (l : List UInt8) : split l [c] = cutL c l := by
 unfold split;rw [count_one]; exact split_cutL l.length l (Nat.le_refl _)
theorem cutL_take {i : Nat} (hb : l[i]? = some b) : cutL c (l.take (i + 1)) = if b = c then cutL c (l.take i) ++ [[]] else (cutL c (l.take i)).dropLast ++ [(cutL c (l.take i)).getLastD [] ++ [b]] := by
 have e : l.take (i + 1) = l.take i ++ [b] := by rw [List.take_add_one, hb]; rfl
 rw [e];generalize l.take i = q;induction q with
 | nil =>
   by_cases h : b = c
   · subst h; simp [cutL]
   · simp [cutL, h]
 | cons a q ih =>
   have hne := cutL_ne (c := c) q;by_cases ha : a = c
   · subst ha;rw [List.cons_append, cutL_eq, cutL_eq, ih];split
     · rfl
     · cases hq : cutL a q with
       | nil => exact absurd hq hne
       | cons x y => simp
   · rw [List.cons_append, cutL_other ha, cutL_other ha, ih];split
     · cases hq : cutL c q with
       | nil => exact absurd hq hne
       | cons x y => simp
     · cases hq : cutL c q with
       | nil => exact absurd hq hne
       | cons x y =>
         cases y with
         | nil => simp
         | cons y z => simp
end
def numN (w : List UInt8) : Int := match atoiAll w with
 | .ok v => v
 | .range => atoiSat w
 | _ => 0
def digV (acc : Int) : List UInt8 → Option Int
 | [] => some acc
 | b :: l => if 48 ≤ b.toNat ∧ b.toNat ≤ 57 then digV (10 * acc + ((b.toNat : Int) - 48)) l else none
def isNeg (s : List UInt8) : Bool := decide (s.head? = some 45)
def magL (s : List UInt8) : List UInt8 := if isNeg s = true then s.tail else s
def refNum (d : Int) (s : List UInt8) : Int × Bool :=
 if ((magL s).length : Int) < 1 ∨ d < ((magL s).length : Int) then (0, false) else match digV 0 (magL s) with
   | none => (0, false)
   | some n => (if isNeg s = true then 0 - n else n, decide (itoa (if isNeg s = true then 0 - n else n) = s))
theorem digV_bnd : ∀ (l : List UInt8) (acc n : Int), 0 ≤ acc → digV acc l = some n → 0 ≤ n ∧ n < (acc + 1) * 10 ^ l.length
 | [], acc, n, h, e => by
   unfold digV at e;injection e with e; subst e;simp; omega
 | b :: l, acc, n, h, e => by
   unfold digV at e;split at e
   · have := digV_bnd l _ n (by omega) e;refine ⟨this.1, ?_⟩;have h1 : (10 * acc + ((b.toNat : Int) - 48) + 1) * 10 ^ l.length ≤ (10 * (acc + 1)) * 10 ^ l.length := Int.mul_le_mul_of_nonneg_right (by omega) (Int.le_of_lt (Int.pow_pos (by decide)))
     have h2 : (acc + 1) * (10 : Int) ^ (b :: l).length = (10 * (acc + 1)) * 10 ^ l.length := by
       rw [List.length_cons, Int.pow_succ, Int.mul_comm (10 : Int) (acc + 1), Int.mul_assoc, Int.mul_comm (10 : Int) (10 ^ l.length)]
     omega
   · cases e
end Go.Tx

set_option linter.unusedSimpArgs false
set_option linter.unusedVariables false
namespace Go.Proofs.YtmlhhdiomijpfaaGreatDoor
open Go Go.Pv
set_option maxRecDepth 100000
theorem mixed : Tryz.prog.follows .mixedOrders = true := by kernel_rfl
def cl (l : List Int) : List PV := [.lit true 1 (l.map ci)]
theorem cl_pure (l : List Int) : ∀ p ∈ cl l, Pure p := fun p hp => by
 simp [cl] at hp; subst hp; exact .lit _ _ _ fun row hr => pure_map ci_pure row hr
abbrev In64 (z : Int) : Prop := -9223372036854775808 ≤ z ∧ z ≤ 9223372036854775807
theorem int_of {row : List PV} (h : CellsP Tryz.prog [3] row) : ∃ z : Int, row = ci z ∧ In64 z := by
 obtain ⟨q0, l0, rfl, h0, h⟩ := h.cons_inv;obtain rfl := h.nil_inv;obtain ⟨z0, rfl, w0⟩ := h0.int_inv (k := .i64) Tryz.underlying3;exact ⟨z0, rfl, wf64 w0⟩
theorem ints_of {q : PV} (h : CellP Tryz.prog 47 q) : ∃ l : List Int, q = .lit true 1 (l.map ci) ∧ l.length ≤ maxLen ∧ ∀ z ∈ l, In64 z := by
 obtain ⟨rows, rfl, h1, h2⟩ := h.slice_at (tys := [3]) (n := 1) Tryz.underlying47 (by kernel_rfl) (by kernel_rfl);obtain ⟨xs, rfl, h3⟩ := rows_of fun row hr => int_of (h2 row hr);exact ⟨xs, rfl, by simpa using h1, h3⟩
structure Tie where
 standard : Int
 level : Int
 deriving Inhabited, DecidableEq
def Tie.enc (x : Tie) : List PV := [.int x.standard, .int x.level]
structure Tie.ok (x : Tie) : Prop where
 standard : In64 x.standard
 level : In64 x.level
theorem Tie.pure (x : Tie) : ∀ p ∈ x.enc, Pure p := fun p hp => by
 simp only [Tie.enc, List.mem_cons, List.not_mem_nil, or_false] at hp;rcases hp with rfl | rfl
 · exact .sc _
 · exact .sc _
structure Task where
 name : ByteArray
 trade : ByteArray
 member : Int
 place : Int
 minutes : Int
 needs : List Int
 deriving Inhabited, DecidableEq
def Task.enc (x : Task) : List PV := [.str x.name, .str x.trade, .int x.member, .int x.place, .int x.minutes, .lit true 1 (x.needs.map ci)]
structure Task.ok (x : Task) : Prop where
 name : x.name.size ≤ maxLen
 trade : x.trade.size ≤ maxLen
 member : In64 x.member
 place : In64 x.place
 minutes : In64 x.minutes
 needs : x.needs.length ≤ maxLen ∧ ∀ z ∈ x.needs, In64 z
theorem Task.pure (x : Task) : ∀ p ∈ x.enc, Pure p := fun p hp => by
 simp only [Task.enc, List.mem_cons, List.not_mem_nil, or_false] at hp;rcases hp with rfl | rfl | rfl | rfl | rfl | rfl
 · exact .sc _
 · exact .sc _
 · exact .sc _
 · exact .sc _
 · exact .sc _
 · exact .lit _ _ _ fun row hr => pure_map ci_pure row hr
theorem Task.of {row : List PV} (h : CellsP Tryz.prog [9, 9, 3, 3, 3, 47] row) : ∃ x : Task, row = x.enc ∧ x.ok := by
 obtain ⟨q0, l0, rfl, h0, h⟩ := h.cons_inv;obtain ⟨q1, l1, rfl, h1, h⟩ := h.cons_inv;obtain ⟨q2, l2, rfl, h2, h⟩ := h.cons_inv;obtain ⟨q3, l3, rfl, h3, h⟩ := h.cons_inv;obtain ⟨q4, l4, rfl, h4, h⟩ := h.cons_inv;obtain ⟨q5, l5, rfl, h5, h⟩ := h.cons_inv;obtain rfl := h.nil_inv;obtain ⟨z0, rfl, w0⟩ := h0.str_inv Tryz.underlying9;obtain ⟨z1, rfl, w1⟩ := h1.str_inv Tryz.underlying9;obtain ⟨z2, rfl, w2⟩ := h2.int_inv (k := .i64) Tryz.underlying3;obtain ⟨z3, rfl, w3⟩ := h3.int_inv (k := .i64) Tryz.underlying3;obtain ⟨z4, rfl, w4⟩ := h4.int_inv (k := .i64) Tryz.underlying3;obtain ⟨z5, rfl, w5⟩ := ints_of h5;exact ⟨⟨z0, z1, z2, z3, z4, z5⟩, rfl, ⟨w0, w1, wf64 w2, wf64 w3, wf64 w4, w5⟩⟩
theorem Task.ofs {q : PV} (h : CellP Tryz.prog 35 q) : ∃ xs : List Task, q = .lit true 6 (xs.map Task.enc) ∧ xs.length ≤ maxLen ∧ ∀ x ∈ xs, x.ok := by
 obtain ⟨rows, rfl, h1, h2⟩ := h.slice_at (tys := [9, 9, 3, 3, 3, 47]) (n := 6) Tryz.underlying35 (by kernel_rfl) (by kernel_rfl);obtain ⟨xs, rfl, h3⟩ := rows_of fun row hr => Task.of (h2 row hr);exact ⟨xs, rfl, by simpa using h1, h3⟩
theorem Task.arg {q : PV} (h : ArgP Tryz.prog 35 q) : ∃ xs : List Task, q = .lit true 6 (xs.map Task.enc) ∧ xs.length ≤ maxLen ∧ ∀ x ∈ xs, x.ok := Task.ofs (h.cell (by kernel_rfl))
end Go.Proofs.YtmlhhdiomijpfaaGreatDoor

set_option linter.unusedSimpArgs false
set_option linter.unusedVariables false
set_option maxRecDepth 100000
namespace Go.Proofs.YtmlhhdiomijpfaaGreatDoor
open Go Go.Pv Go.Tx
theorem szs (a b : ByteArray) : (a ++ b).size = a.size + b.size := ByteArray.size_append
def bs (l : List UInt8) : ByteArray := ⟨l.toArray⟩
theorem bs_size (l : List UInt8) : (bs l).size = l.length := rfl
def ls (s : ByteArray) : List UInt8 := s.data.toList
theorem ls_bs (l : List UInt8) : ls (bs l) = l := rfl
theorem bs_ls (s : ByteArray) : bs (ls s) = s := rfl
theorem ls_len (s : ByteArray) : (ls s).length = s.size := Array.length_toList
theorem ls_app (a b : ByteArray) : ls (a ++ b) = ls a ++ ls b := by simp [ls]
theorem ls_ext {a b : ByteArray} (h : ls a = ls b) : a = b := by rw [← bs_ls a, h, bs_ls]
theorem ls_extract (s : ByteArray) (i j : Nat) : ls (s.extract i j) = ((ls s).take j).drop i := by
 unfold ls;rw [ByteArray.data_extract, Array.toList_extract, List.extract_eq_take_drop, List.drop_take]
def cutB (c : UInt8) (s : ByteArray) : List ByteArray := (cutL c (ls s)).map bs
theorem cutB_len (c : UInt8) (s : ByteArray) : (cutB c s).length ≤ s.size + 1 := by
 unfold cutB; rw [lM, ← ls_len]; exact cutL_len _
def CutTo (c : UInt8) (s : ByteArray) (i fr : Nat) (xs : List ByteArray) : Prop := cutL c ((ls s).take i) = xs.map ls ++ [((ls s).take i).drop fr]
theorem CutTo.start {c : UInt8} {s : ByteArray} : CutTo c s 0 0 [] := by
 unfold CutTo; simp [cutL]
theorem ls_get {s : ByteArray} {i : Nat} (h : i < s.size) : (ls s)[i]? = some ((ls s).getD i 0) := by
 have h1 : i < (ls s).length := by rw [ls_len]; exact h
 rw [List.getD_eq_getElem?_getD, List.getElem?_eq_getElem h1]; rfl
theorem u8_eq {a b : UInt8} (h : (a.toNat : Int) = (b.toNat : Int)) : a = b := UInt8.toNat_inj.1 (by omega)
theorem CutTo.hit {c : UInt8} {s : ByteArray} {i fr : Nat} {xs : List ByteArray} (h : CutTo c s i fr xs) (hi : i < s.size) (hc : (((ls s).getD i 0).toNat : Int) = (c.toNat : Int)) : CutTo c s (i + 1) (i + 1) (xs ++ [s.extract fr i]) := by
 unfold CutTo at h ⊢;rw [cutL_take (ls_get hi), if_pos (u8_eq hc), h, List.map_append, List.map_cons, List.map_nil, ls_extract];congr 1;rw [List.drop_eq_nil_of_le (by rw [List.length_take]; omega)]
theorem CutTo.miss {c : UInt8} {s : ByteArray} {i fr : Nat} {xs : List ByteArray} (h : CutTo c s i fr xs) (hi : i < s.size) (hf : fr ≤ i) (hc : ¬ (((ls s).getD i 0).toNat : Int) = (c.toNat : Int)) : CutTo c s (i + 1) fr xs := by
 unfold CutTo at h ⊢;have hne : ¬ (ls s).getD i 0 = c := fun e => hc (by rw [e]);rw [cutL_take (ls_get hi), if_neg hne, h, List.dropLast_concat, List.getLastD_concat];congr 2;have hl : i < (ls s).length := by rw [ls_len]; exact hi
 rw [List.take_add_one, ls_get hi, Option.toList_some, List.drop_append_of_le_length (by rw [List.length_take]; omega)]
theorem CutTo.done {c : UInt8} {s : ByteArray} {i fr : Nat} {xs : List ByteArray} (h : CutTo c s i fr xs) (hi : s.size ≤ i) : xs ++ [s.extract fr s.size] = cutB c s := by
 unfold CutTo at h;have e : (ls s).take i = ls s := List.take_of_length_le (by rw [ls_len]; exact hi);have e2 : (ls s).take s.size = ls s := List.take_of_length_le (by rw [ls_len]; exact Nat.le_refl _);rw [e] at h;unfold cutB;rw [h, List.map_append, List.map_map];have e3 : (bs ∘ ls) = id := rfl;rw [e3, List.map_id, List.map_cons, List.map_nil];congr 2;apply ls_ext;rw [ls_extract, e2, ls_bs]
theorem fr33 : (inFrame Tryz.f33.ntmps (Tryz.f33.body.getD .skip) && Tryz.f33.results.toList.all (resScope Tryz.f33.ntmps)) = true := by kernel_rfl
theorem CutC (s : ByteArray) (c : UInt8) (hs : s.size ≤ 1000000) : PCalls Tryz.prog 33 [.str s, .sc (.int .u8 (c.toNat : Int))] (.lit false 1 ((cutB c s).map cb)) := by
 refine PCalls.of_code Tryz.func33 rfl rfl (by kernel_rfl) mixed fr33 (by show _ ≤ 34; simp) (.lit _ _ _ fun row hr => pure_map cb_pure row hr) (pwp_seq_plain rfl fun K1 hK1 => p_e rfl (e_assign (v := .nil) rfl) (p_end (hK1 _ ?_))); clear hK1 K1;refine pwp_seq_plain rfl fun K2 hK2 => p_e rfl (e_assign (v := .nil) rfl) (p_end (hK2 _ ?_)); clear hK2 K2;refine pwp_seq_plain rfl fun K3 hK3 => p_aS rfl (p_end (hK3 _ ?_)); clear hK3 K3;refine pwp_seq_seq (pwp_seq_plain rfl fun K4 hK4 => p_aS rfl (p_end (hK4 _ ?_))); clear hK4 K4;refine pwp_seq_block fun K5 hK5 => pwp_loopR (α := Nat × Nat × (List ByteArray) × PV) [0, 1] (fun (a6 : Nat × Nat × (List ByteArray) × PV) => [(5, (a6.2.2.2)), (6, .int (a6.2.1)), (7, .int (a6.1))]) (fun (a6 : Nat × Nat × (List ByteArray) × PV) (h : Heap) (_ : Nat → Nat) => ((a6.1) ≤ s.size) ∧ ((a6.2.1) ≤ (a6.1)) ∧ ((a6.2.2.1).length ≤ (a6.1)) ∧ (CutTo c s (a6.1) (a6.2.1) (a6.2.2.1)) ∧ (SliceAt h 25 (a6.2.2.2) 1 ((a6.2.2.1).map cb))) (fun (a6 : Nat × Nat × (List ByteArray) × PV) => s.size - (a6.1)) (0, 0, [], .nil) (by exact ⟨rfl, rfl, rfl, trivial⟩) (by exact ⟨by exact Nat.zero_le _, by exact Nat.le_refl _, by exact Nat.le_refl _, by exact CutTo.start, .nil⟩) fun a6 r7 h8 c9 hj10 => ?_;obtain ⟨i, fr, xs, v⟩ := a6;obtain ⟨hi, hf, hxl, hct, hihj10_0⟩ := hj10;try dsimp only at hi
 try dsimp only at hf
 try dsimp only at hxl
 try dsimp only at hct
 try dsimp only at hihj10_0
 show pwp _ _ (loopQ _ _ _) ⟨sets (mix _ _ _) [(5, v), (6, .int fr), (7, .int i)], _, _⟩;refine pwp_seq_seq (pwp_seq_plain rfl fun K11 hK11 => p_mS rfl (p_mS rfl (p_e rfl (e_lenS rfl (by kernel_rfl)) (p_e rfl (e_lt rfl rfl) (p_end (hK11 _ ?_)))))); clear hK11 K11;refine pwp_seq_cond rfl fun K12 hK12 => ⟨fun hb13 => ?_, fun hb13 => ?_⟩
 ·have hb13R := hb13; try simp only [zz] at hb13
  have hil : i < s.size := by omega
  refine pwp_skip (seq_norm (hK12 _ ?_)); clear hK12 K12;refine pwp_seq_block fun K14 hK14 => pwp_seq_plain rfl fun K15 hK15 => p_mS rfl (p_mS rfl (p_e rfl (e_indexN (n := i) rfl rfl rfl (by kernel_rfl) (by omega)) (p_mS rfl (p_e rfl (e_eq rfl rfl) (p_end (hK15 _ ?_)))))); clear hK15 K15;refine pwp_cond rfl (fun hb16 => ?_) (fun hb16 => ?_)
  ·have hb16R := hb16; try simp only [zz] at hb16
   refine pwp_seq_plain rfl fun K17 hK17 => p_e rfl (e_move (v := _) rfl) (p_mS rfl (p_mS rfl (p_mS rfl (p_e rfl (e_ssub (lo := fr) (hi := i) rfl rfl rfl rfl rfl (by kernel_rfl) (by omega) (by omega)) (p_new rfl (e_bslice (rows := [cb (s.extract fr i)]) (zs := [.str ByteArray.empty]) (sz := 1) (by kernel_rfl) (by kernel_rfl) rfl (by kernel_rfl) (by decide) rfl rfl (by exact ⟨by decide, rfl, rfl, trivial⟩) rfl) trivial (p_app rfl rfl rfl (hihj10_0.keep fun _ => hzM rfl (rfl)) (src_ref (hset_self _ _ _) rfl) (by kernel_rfl) (by simp only [List.length_append, lM, List.length_nil, List.length_cons]; omega) fun v18 h19 c20 hs21 hf22 => ?_))))));have ho23 := (hf22 (24, _) (key_ne rfl) (fun _ _ => key_ne rfl)).trans (hset_self _ _ _);refine p_e rfl (e_assign (v := _) rfl) (p_end (hK17 _ ?_)); clear hK17 K17;refine pwp_plain rfl fun K24 hK24 => p_mS rfl (p_e rfl (e_adL rfl rfl) (p_aS rfl (p_end (hK24 _ ?_)))); clear hK24 K24;refine block_norm (seq_norm (hK14 _ ?_)); clear hK14 K14;refine pwp_plain rfl fun K25 hK25 => p_mS rfl (p_e rfl (e_adL rfl rfl) (p_aS rfl (p_end (hK25 _ ?_)))); clear hK25 K25;exact loop_again ((i + 1, i + 1, xs ++ [s.extract fr i], v18)) (by show _ < _; simp only; omega) ⟨rfl, rfl, trivial⟩ ⟨rfl, rfl, rfl, trivial⟩ (by exact ⟨by show _ + 1 ≤ _; omega, by first | exact Nat.le_refl _ | exact Nat.le_succ_of_le hf, by (first | (simp only [List.length_append, List.length_cons, List.length_nil]; omega) | omega), by first | exact hct.hit hil (by first | assumption | simp_all) | exact hct.miss hil hf (by first | assumption | simp_all), (SliceAt.to hs21 (by first | rfl | (simp only [List.map_append, List.map_cons, List.map_nil] <;> rfl)))⟩)
  ·have hb16R := hb16; try simp only [zz] at hb16
   refine pwp_skip (block_norm (seq_norm (hK14 _ ?_))); clear hK14 K14;refine pwp_plain rfl fun K26 hK26 => p_mS rfl (p_e rfl (e_adL rfl rfl) (p_aS rfl (p_end (hK26 _ ?_)))); clear hK26 K26;exact loop_again ((i + 1, fr, xs, v)) (by show _ < _; simp only; omega) ⟨rfl, rfl, trivial⟩ ⟨rfl, rfl, rfl, trivial⟩ (by exact ⟨by show _ + 1 ≤ _; omega, by first | exact Nat.le_refl _ | exact Nat.le_succ_of_le hf, by (first | (simp only [List.length_append, List.length_cons, List.length_nil]; omega) | omega), by first | exact hct.hit hil (by first | assumption | simp_all) | exact hct.miss hil hf (by first | assumption | simp_all), (SliceAt.to hihj10_0 (by first | rfl | (simp only [List.map_append, List.map_cons, List.map_nil] <;> rfl)))⟩)
 ·have hb13R := hb13; try simp only [zz] at hb13
  have hie : s.size ≤ i := by omega
  refine pwp_exit (exit_seq ?_);clear hK12 K12;refine exit_loop (exit_here (seq_norm (hK5 _ ?_))); clear hK5 K5;refine pwp_seq_plain rfl fun K27 hK27 => p_e rfl (e_move (v := _) rfl) (p_mS rfl (p_mS rfl (p_e rfl (e_sfrom (lo := fr) rfl rfl rfl (by kernel_rfl) (by omega)) (p_new rfl (e_bslice (rows := [cb (s.extract fr s.size)]) (zs := [.str ByteArray.empty]) (sz := 1) (by kernel_rfl) (by kernel_rfl) rfl (by kernel_rfl) (by decide) rfl rfl (by exact ⟨by decide, rfl, rfl, trivial⟩) rfl) trivial (p_app rfl rfl rfl (hihj10_0.keep fun _ => hzM rfl (rfl)) (src_ref (hset_self _ _ _) rfl) (by kernel_rfl) (by simp only [List.length_append, lM, List.length_nil, List.length_cons]; omega) fun v28 h29 c30 hs31 hf32 => ?_)))));have ho33 := (hf32 (32, _) (key_ne rfl) (fun _ _ => key_ne rfl)).trans (hset_self _ _ _);refine p_e rfl (e_assign (v := _) rfl) (p_end (hK27 _ ?_)); clear hK27 K27;refine pwp_ret (end1 (v := _) rfl ?_)
  first
    | exact out_slice (SliceAt.to hs31 (by rw [← hct.done hie, List.map_append]; rfl)) rfl (fun _ => rfl) cb_clean
end Go.Proofs.YtmlhhdiomijpfaaGreatDoor

set_option linter.unusedSimpArgs false
set_option linter.unusedVariables false
set_option maxRecDepth 100000
namespace Go.Proofs.YtmlhhdiomijpfaaGreatDoor
open Go Go.Pv Go.Tx
theorem fr25 : (inFrame Tryz.f25.ntmps (Tryz.f25.body.getD .skip) && Tryz.f25.results.toList.all (resScope Tryz.f25.ntmps)) = true := by kernel_rfl
theorem within (n lo hi : Int) : PCalls Tryz.prog 25 [.int n, .int lo, .int hi] (.bool (decide (lo ≤ n ∧ n ≤ hi))) := by
 refine PCalls.of_code Tryz.func25 rfl rfl (by kernel_rfl) mixed fr25 (by show _ ≤ 15; simp) (.sc _) (pwp_seq_plain rfl fun K1 hK1 => p_aS rfl (p_end (hK1 _ ?_))); clear hK1 K1;refine pwp_seq_gops rfl fun K2 hK2 => g_begin (g_mS rfl rfl (g_mS rfl rfl (g_e rfl (e_ge rfl rfl) (g_mS rfl rfl ?_))));refine g_cases (fun hb3 => ?_) (fun hb3 => ?_)
 ·have hb3R := hb3; try simp only [zz] at hb3
  refine g_mS rfl rfl (g_mS rfl rfl (g_e rfl (e_le rfl rfl) (g_pT rfl rfl rfl (g_aS rfl rfl (g_end (ds := [11, 12, 13]) rfl rfl (hK2 _ ?_)))))); clear hK2 K2;refine pwp_ret (end1 (v := .sc _) rfl ?_)
  first
    | exact out_b rfl
    | exact out_b (by rw [Bool.eq_iff_iff]; simp only [decide_eq_true_eq, Bool.false_eq_true, false_iff] <;> omega)
 ·have hb3R := hb3; try simp only [zz] at hb3
  iterate 3 refine g_skip rfl rfl rfl ?_
  refine g_pF rfl rfl rfl (g_aS rfl rfl (g_end (ds := [11, 12, 13]) rfl rfl (hK2 _ ?_))); clear hK2 K2;refine pwp_ret (end1 (v := .sc _) rfl ?_)
  first
    | exact out_b rfl
    | exact out_b (by rw [Bool.eq_iff_iff]; simp only [decide_eq_true_eq, Bool.false_eq_true, false_iff] <;> omega)
theorem fr28 : (inFrame Tryz.f28.ntmps (Tryz.f28.body.getD .skip) && Tryz.f28.results.toList.all (resScope Tryz.f28.ntmps)) = true := by kernel_rfl
theorem Within (n lo hi : Int) : PCalls Tryz.prog 28 [.int n, .int lo, .int hi] (.bool (decide (lo ≤ n ∧ n ≤ hi))) := by
 refine PCalls.of_code Tryz.func28 rfl rfl (by kernel_rfl) mixed fr28 (by show _ ≤ 15; simp) (.sc _) (pwp_seq_plain rfl fun K1 hK1 => p_aS rfl (p_end (hK1 _ ?_))); clear hK1 K1;refine pwp_seq_gops rfl fun K2 hK2 => g_begin (g_mS rfl rfl (g_mS rfl rfl (g_e rfl (e_ge rfl rfl) (g_mS rfl rfl ?_))));refine g_cases (fun hb3 => ?_) (fun hb3 => ?_)
 ·have hb3R := hb3; try simp only [zz] at hb3
  refine g_mS rfl rfl (g_mS rfl rfl (g_e rfl (e_le rfl rfl) (g_pT rfl rfl rfl (g_aS rfl rfl (g_end (ds := [11, 12, 13]) rfl rfl (hK2 _ ?_)))))); clear hK2 K2;refine pwp_ret (end1 (v := .sc _) rfl ?_)
  first
    | exact out_b rfl
    | exact out_b (by rw [Bool.eq_iff_iff]; simp only [decide_eq_true_eq, Bool.false_eq_true, false_iff] <;> omega)
 ·have hb3R := hb3; try simp only [zz] at hb3
  iterate 3 refine g_skip rfl rfl rfl ?_
  refine g_pF rfl rfl rfl (g_aS rfl rfl (g_end (ds := [11, 12, 13]) rfl rfl (hK2 _ ?_))); clear hK2 K2;refine pwp_ret (end1 (v := .sc _) rfl ?_)
  first
    | exact out_b rfl
    | exact out_b (by rw [Bool.eq_iff_iff]; simp only [decide_eq_true_eq, Bool.false_eq_true, false_iff] <;> omega)
end Go.Proofs.YtmlhhdiomijpfaaGreatDoor

set_option linter.unusedSimpArgs false
set_option linter.unusedVariables false
set_option maxRecDepth 100000
namespace Go.Proofs.YtmlhhdiomijpfaaGreatDoor
open Go Go.Pv Go.Tx
theorem wrapU8 {a : Int} (h : 0 ≤ a ∧ a ≤ 255) : IntKind.u8.wrap a = a := by unfold IntKind.wrap; simp [IntKind.bits, IntKind.signed]; omega
def DecTo (n m : Int) (s : List UInt8) : Prop := 0 < n.natAbs ∧ (m ≠ 0 → Lib.decDigits n.natAbs = Lib.decDigits m.natAbs ++ s) ∧ (m = 0 → Lib.decDigits n.natAbs = s) ∧ (0 ≤ n → 0 ≤ m) ∧ (n ≤ 0 → m ≤ 0) ∧ m.natAbs ≤ n.natAbs
theorem DecTo.start {n : Int} (h : n ≠ 0) : DecTo n n [] := ⟨by omega, fun _ => by simp, fun e => absurd e h, fun h => h, fun h => h, Nat.le_refl _⟩
theorem tmod_abs (m : Int) : (m.tmod 10).natAbs = m.natAbs % 10 := Int.natAbs_tmod _ _
theorem tdiv_abs (m : Int) : (m.tdiv 10).natAbs = m.natAbs / 10 := Int.natAbs_tdiv _ _
theorem dec_digit (d : Nat) (h : d < 10) : Lib.decDigits d = [UInt8.ofNat (48 + d)] := by
 rw [Lib.decDigits, dif_pos h]
theorem dec_step (n : Nat) (h : 10 ≤ n) : Lib.decDigits n = Lib.decDigits (n / 10) ++ [UInt8.ofNat (48 + n % 10)] := by
 rw [Lib.decDigits, dif_neg (by omega)]
theorem byte_str (d : Nat) (h : d < 10) : strOfNums [(48 + (d : Int))] = bs [UInt8.ofNat (48 + d)] := by
 unfold strOfNums bs;simp only [List.map_cons, List.map_nil];have : (48 + (d : Int)).toNat = 48 + d := by omega
 rw [this]
theorem DecTo.next {n m : Int} {s : List UInt8} (h : DecTo n m s) (hm : m ≠ 0) : DecTo n (m.tdiv 10) (UInt8.ofNat (48 + m.natAbs % 10) :: s) := by
 obtain ⟨h0, h1, h2, h3, h4, h5⟩ := h;have hd := tdiv_abs m;have h1 := h1 hm;refine ⟨h0, fun hq => ?_, fun hq => ?_, fun hq => Int.tdiv_nonneg (h3 hq) (by decide), fun hq => ?_, by rw [hd]; omega⟩
 · rw [h1, hd, dec_step m.natAbs (by omega)]; simp
 · have : m.natAbs < 10 := by omega
   rw [h1, dec_digit _ this, Nat.mod_eq_of_lt this]; rfl
 · have := Int.tdiv_nonneg (a := 0 - m) (b := 10) (by have := h4 hq; omega) (by decide);rw [Int.zero_sub, Int.neg_tdiv] at this; omega
theorem DecTo.nextB {n m : Int} {s : ByteArray} (h : DecTo n m (ls s)) (hm : m ≠ 0) : DecTo n (m.tdiv 10) (ls (strOfNums [(48 + ((m.tmod 10).natAbs : Int))] ++ s)) := by
 rw [ls_app, tmod_abs, byte_str _ (Nat.mod_lt _ (by decide)), ls_bs];exact h.next hm
theorem DecTo.done {n : Int} {s : ByteArray} (h : DecTo n 0 (ls s)) (g : ByteArray) (hg : g = if n < 0 then ⟨#[45]⟩ else ⟨#[]⟩) : g ++ s = bs (Lib.itoa n) := by
 obtain ⟨h0, h1, h2, h3, h4, h5⟩ := h;have h2 := h2 rfl;apply ls_ext;rw [ls_app, ls_bs, ← h2, hg];unfold Lib.itoa;by_cases hn : n < 0
 · rw [if_pos hn, if_pos hn]; rfl
 · rw [if_neg hn, if_neg hn, show n.toNat = n.natAbs by omega]; rfl
def SzTo (m : Int) (z : Nat) : Prop := z ≤ 19 ∧ m.natAbs < 10 ^ (19 - z)
theorem SzTo.start {n : Int} (h : -9223372036854775807 ≤ n ∧ n ≤ 9223372036854775807) : SzTo n 0 := ⟨by omega, by omega⟩
theorem SzTo.next {m : Int} {s : ByteArray} (h : SzTo m s.size) (hm : m ≠ 0) (v : Int) : SzTo (m.tdiv 10) (strOfNums [v] ++ s).size := by
 obtain ⟨h1, h2⟩ := h;have h3 : s.size ≠ 19 := fun e => by rw [e] at h2; simp at h2; exact hm h2
 have h4 : (strOfNums [v] ++ s).size = s.size + 1 := by rw [szs]; show 1 + _ = _; omega
 rw [h4];refine ⟨by omega, ?_⟩;rw [tdiv_abs];have h5 : (10 : Nat) ^ (19 - s.size) = 10 ^ (19 - (s.size + 1)) * 10 := by rw [← Nat.pow_succ]; congr 1; omega
 rw [h5] at h2; omega
theorem itoa_zero : (⟨#[48]⟩ : ByteArray) = bs (Lib.itoa 0) := by
 unfold Lib.itoa;rw [if_neg (by decide), dec_digit _ (by decide)]; rfl
theorem dec_len : ∀ (k n : Nat), n < 10 ^ (k + 1) → (Lib.decDigits n).length ≤ k + 1
 | 0, n, h => by rw [dec_digit n (by omega)]; exact Nat.le_refl _
 | k + 1, n, h => by
   by_cases h1 : n < 10
   · rw [dec_digit n h1]; simp
   · rw [dec_step n (by omega), List.length_append];have := dec_len k (n / 10) (by rw [Nat.pow_succ] at h; omega);simp only [List.length_cons, List.length_nil]; omega
theorem itoa_len {n : Int} (h : -9223372036854775807 ≤ n ∧ n ≤ 9223372036854775807) : (bs (Lib.itoa n)).size ≤ 20 := by
 rw [bs_size];unfold Lib.itoa;split
 · have := dec_len 18 n.natAbs (by omega); rw [List.length_cons]; omega
 · have := dec_len 18 n.toNat (by omega); omega
theorem fr61 : (inFrame Tryz.f61.ntmps (Tryz.f61.body.getD .skip) && Tryz.f61.results.toList.all (resScope Tryz.f61.ntmps)) = true := by kernel_rfl
theorem AbsC (n : Int) (hn : -9223372036854775807 ≤ n ∧ n ≤ 9223372036854775807) : PCalls Tryz.prog 61 [.int n] (.int (n.natAbs : Int)) := by
 refine PCalls.of_code Tryz.func61 rfl rfl (by kernel_rfl) mixed fr61 (by show _ ≤ 8; simp) (.sc _) (pwp_seq_plain rfl fun K1 hK1 => p_aS rfl (p_end (hK1 _ ?_))); clear hK1 K1;refine pwp_seq_seq (pwp_seq_plain rfl fun K2 hK2 => p_mS rfl (p_e rfl (e_lt rfl rfl) (p_end (hK2 _ ?_)))); clear hK2 K2;refine pwp_seq_cond rfl fun K3 hK3 => ⟨fun hb4 => ?_, fun hb4 => ?_⟩
 ·have hb4R := hb4; try simp only [zz] at hb4
  refine pwp_seq_plain rfl fun K5 hK5 => p_mS rfl (p_e rfl (e_neg rfl (by omega)) (p_aS rfl (p_end (hK5 _ ?_)))); clear hK5 K5;refine pwp_ret (ret_seq (end1 (v := .sc _) rfl ?_));exact out_i (by omega)
 ·have hb4R := hb4; try simp only [zz] at hb4
  refine pwp_skip (seq_norm (hK3 _ ?_)); clear hK3 K3;refine pwp_seq_plain rfl fun K6 hK6 => p_mS rfl (p_aS rfl (p_end (hK6 _ ?_))); clear hK6 K6;refine pwp_ret (end1 (v := .sc _) rfl ?_);exact out_i (by omega)
theorem fr29 : (inFrame Tryz.f29.ntmps (Tryz.f29.body.getD .skip) && Tryz.f29.results.toList.all (resScope Tryz.f29.ntmps)) = true := by kernel_rfl
theorem DecimalC (n : Int) (hn : -9223372036854775807 ≤ n ∧ n ≤ 9223372036854775807) : PCalls Tryz.prog 29 [.int n] (.str (bs (Lib.itoa n))) := by
 refine PCalls.of_code Tryz.func29 rfl rfl (by kernel_rfl) mixed fr29 (by show _ ≤ 25; simp) (.sc _) (pwp_seq_plain rfl fun K1 hK1 => p_aS rfl (p_end (hK1 _ ?_))); clear hK1 K1;refine pwp_seq_seq (pwp_seq_plain rfl fun K2 hK2 => p_mS rfl (p_e rfl (e_eq rfl rfl) (p_end (hK2 _ ?_)))); clear hK2 K2;refine pwp_seq_cond rfl fun K3 hK3 => ⟨fun hb4 => ?_, fun hb4 => ?_⟩
 ·have hb4R := hb4; try simp only [zz] at hb4
  refine pwp_seq_plain rfl fun K5 hK5 => p_aS rfl (p_end (hK5 _ ?_)); clear hK5 K5;refine pwp_ret (ret_seq (end1 (v := .sc _) rfl ?_));exact out_s (by (have e0 : n = 0 := by omega); subst e0; exact itoa_zero)
 ·have hb4R := hb4; try simp only [zz] at hb4
  refine pwp_skip (seq_norm (hK3 _ ?_)); clear hK3 K3;refine pwp_seq_plain rfl fun K6 hK6 => p_aS rfl (p_aS rfl (p_end (hK6 _ ?_))); clear hK6 K6;refine pwp_seq_seq (pwp_seq_plain rfl fun K7 hK7 => p_mS rfl (p_e rfl (e_lt rfl rfl) (p_end (hK7 _ ?_)))); clear hK7 K7;refine pwp_seq_cond rfl fun K8 hK8 => ⟨fun hb9 => ?_, fun hb9 => ?_⟩
  ·have hb9R := hb9; try simp only [zz] at hb9
   refine pwp_plain rfl fun K10 hK10 => p_aS rfl (p_end (hK10 _ ?_)); clear hK10 K10;refine seq_norm (hK8 _ ?_); clear hK8 K8;refine pwp_seq_block fun K11 hK11 => pwp_loopR (α := Int × ByteArray) [4] (fun (a12 : Int × ByteArray) => [(0, .int (a12.1)), (3, .str (a12.2))]) (fun (a12 : Int × ByteArray) (h : Heap) (_ : Nat → Nat) => (DecTo n (a12.1) (ls (a12.2))) ∧ (SzTo (a12.1) (a12.2).size) ∧ ((a12.1).natAbs ≤ n.natAbs)) (fun (a12 : Int × ByteArray) => (a12.1).natAbs) (n, ⟨#[]⟩) (by exact ⟨rfl, rfl, trivial⟩) (by exact ⟨by exact DecTo.start (by first | assumption | simp_all), by exact SzTo.start hn, by exact Nat.le_refl _⟩) fun a12 r13 h14 c15 hj16 => ?_;obtain ⟨m, s⟩ := a12;obtain ⟨hd, hz, hmn⟩ := hj16;try dsimp only at hd
   try dsimp only at hz
   try dsimp only at hmn
   show pwp _ _ (loopQ _ _ _) ⟨sets (mix _ _ _) [(0, .int m), (3, .str s)], _, _⟩;refine pwp_seq_seq (pwp_seq_plain rfl fun K17 hK17 => p_mS rfl (p_e rfl (e_ne rfl rfl) (p_end (hK17 _ ?_)))); clear hK17 K17;refine pwp_seq_cond rfl fun K18 hK18 => ⟨fun hb19 => ?_, fun hb19 => ?_⟩
   ·have hb19R := hb19; try simp only [zz] at hb19
    have hm : m ≠ 0 := by first | assumption | simp_all
    have htm := tmod_abs m;have htd := tdiv_abs m;have hzz := hz.1;refine pwp_skip (seq_norm (hK18 _ ?_)); clear hK18 K18;refine pwp_block (pwp_seq_plain rfl fun K20 hK20 => p_mS rfl (p_e rfl (e_remT rfl rfl (by decide)) (p_call rfl (.cons inn_sc .nil) (AbsC _ (by first | omega | (have := tmod_abs m; omega))) (p_e rfl (e_adL rfl rfl) (p_e rfl (e_conv rfl (by kernel_rfl) (by kernel_rfl) (by exact wrapU8 (by omega))) (p_new rfl (e_bslice (rows := [[.sc (.int .u8 (48 + ((m.tmod 10).natAbs : Int)))]]) (zs := [.sc (.int .u8 0)]) (sz := 1) (by kernel_rfl) (by kernel_rfl) rfl (by kernel_rfl) (by decide) rfl rfl (by exact ⟨by decide, rfl, rfl, trivial⟩) rfl) trivial ?_))))));refine p_e rfl (e_byte rfl (hset_self _ _ _) (by kernel_rfl)) (p_mS rfl (p_e rfl (e_sadd rfl rfl (by first | (show 1 + s.size < _; omega) | (show 0 + s.size < _; omega))) (p_aS rfl (p_end (hK20 _ ?_))))); clear hK20 K20;refine pwp_plain rfl fun K21 hK21 => p_mS rfl (p_e rfl (e_quoT rfl rfl (by decide) (by (have := tdiv_abs m); omega)) (p_aS rfl (p_end (hK21 _ ?_)))); clear hK21 K21;refine block_norm ?_;exact loop_again (((m.tdiv 10), (strOfNums [(48 + ((m.tmod 10).natAbs : Int))] ++ s))) (by show _ < _; show (m.tdiv 10).natAbs < m.natAbs; omega) ⟨rfl, trivial⟩ ⟨rfl, rfl, trivial⟩ (by exact ⟨by exact hd.nextB hm, by exact hz.next hm _, by show (m.tdiv 10).natAbs ≤ _; omega⟩)
   ·have hb19R := hb19; try simp only [zz] at hb19
    have hm : m = 0 := by first | assumption | simp_all
    have hzz := hz.1;refine pwp_exit (exit_seq ?_);clear hK18 K18;refine exit_loop (exit_here (seq_norm (hK11 _ ?_))); clear hK11 K11;refine pwp_seq_plain rfl fun K22 hK22 => p_mS rfl (p_mS rfl (p_e rfl (e_sadd rfl rfl (by first | (show 1 + s.size < _; omega) | (show 0 + s.size < _; omega))) (p_aS rfl (p_end (hK22 _ ?_))))); clear hK22 K22;refine pwp_ret (end1 (v := .sc _) rfl ?_);exact out_s (by subst hm; exact hd.done _ (by first | (rw [if_pos (show n < 0 by omega)]; done) | (rw [if_neg (show ¬ n < 0 by omega)]; done)))
  ·have hb9R := hb9; try simp only [zz] at hb9
   refine pwp_skip (seq_norm (hK8 _ ?_)); clear hK8 K8;refine pwp_seq_block fun K23 hK23 => pwp_loopR (α := Int × ByteArray) [4] (fun (a24 : Int × ByteArray) => [(0, .int (a24.1)), (3, .str (a24.2))]) (fun (a24 : Int × ByteArray) (h : Heap) (_ : Nat → Nat) => (DecTo n (a24.1) (ls (a24.2))) ∧ (SzTo (a24.1) (a24.2).size) ∧ ((a24.1).natAbs ≤ n.natAbs)) (fun (a24 : Int × ByteArray) => (a24.1).natAbs) (n, ⟨#[]⟩) (by exact ⟨rfl, rfl, trivial⟩) (by exact ⟨by exact DecTo.start (by first | assumption | simp_all), by exact SzTo.start hn, by exact Nat.le_refl _⟩) fun a24 r25 h26 c27 hj28 => ?_;obtain ⟨m, s⟩ := a24;obtain ⟨hd, hz, hmn⟩ := hj28;try dsimp only at hd
   try dsimp only at hz
   try dsimp only at hmn
   show pwp _ _ (loopQ _ _ _) ⟨sets (mix _ _ _) [(0, .int m), (3, .str s)], _, _⟩;refine pwp_seq_seq (pwp_seq_plain rfl fun K29 hK29 => p_mS rfl (p_e rfl (e_ne rfl rfl) (p_end (hK29 _ ?_)))); clear hK29 K29;refine pwp_seq_cond rfl fun K30 hK30 => ⟨fun hb31 => ?_, fun hb31 => ?_⟩
   ·have hb31R := hb31; try simp only [zz] at hb31
    have hm : m ≠ 0 := by first | assumption | simp_all
    have htm := tmod_abs m;have htd := tdiv_abs m;have hzz := hz.1;refine pwp_skip (seq_norm (hK30 _ ?_)); clear hK30 K30;refine pwp_block (pwp_seq_plain rfl fun K32 hK32 => p_mS rfl (p_e rfl (e_remT rfl rfl (by decide)) (p_call rfl (.cons inn_sc .nil) (AbsC _ (by first | omega | (have := tmod_abs m; omega))) (p_e rfl (e_adL rfl rfl) (p_e rfl (e_conv rfl (by kernel_rfl) (by kernel_rfl) (by exact wrapU8 (by omega))) (p_new rfl (e_bslice (rows := [[.sc (.int .u8 (48 + ((m.tmod 10).natAbs : Int)))]]) (zs := [.sc (.int .u8 0)]) (sz := 1) (by kernel_rfl) (by kernel_rfl) rfl (by kernel_rfl) (by decide) rfl rfl (by exact ⟨by decide, rfl, rfl, trivial⟩) rfl) trivial ?_))))));refine p_e rfl (e_byte rfl (hset_self _ _ _) (by kernel_rfl)) (p_mS rfl (p_e rfl (e_sadd rfl rfl (by first | (show 1 + s.size < _; omega) | (show 0 + s.size < _; omega))) (p_aS rfl (p_end (hK32 _ ?_))))); clear hK32 K32;refine pwp_plain rfl fun K33 hK33 => p_mS rfl (p_e rfl (e_quoT rfl rfl (by decide) (by (have := tdiv_abs m); omega)) (p_aS rfl (p_end (hK33 _ ?_)))); clear hK33 K33;refine block_norm ?_;exact loop_again (((m.tdiv 10), (strOfNums [(48 + ((m.tmod 10).natAbs : Int))] ++ s))) (by show _ < _; show (m.tdiv 10).natAbs < m.natAbs; omega) ⟨rfl, trivial⟩ ⟨rfl, rfl, trivial⟩ (by exact ⟨by exact hd.nextB hm, by exact hz.next hm _, by show (m.tdiv 10).natAbs ≤ _; omega⟩)
   ·have hb31R := hb31; try simp only [zz] at hb31
    have hm : m = 0 := by first | assumption | simp_all
    have hzz := hz.1;refine pwp_exit (exit_seq ?_);clear hK30 K30;refine exit_loop (exit_here (seq_norm (hK23 _ ?_))); clear hK23 K23;refine pwp_seq_plain rfl fun K34 hK34 => p_mS rfl (p_mS rfl (p_e rfl (e_sadd rfl rfl (by first | (show 1 + s.size < _; omega) | (show 0 + s.size < _; omega))) (p_aS rfl (p_end (hK34 _ ?_))))); clear hK34 K34;refine pwp_ret (end1 (v := .sc _) rfl ?_);exact out_s (by subst hm; exact hd.done _ (by first | (rw [if_pos (show n < 0 by omega)]; done) | (rw [if_neg (show ¬ n < 0 by omega)]; done)))
end Go.Proofs.YtmlhhdiomijpfaaGreatDoor
