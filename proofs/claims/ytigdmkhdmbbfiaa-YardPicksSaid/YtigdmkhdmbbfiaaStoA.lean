import Derived.Test.YtigdmkhdmbbfiaaNam
import Derived.Test.YtigdmkhdmbbfiaaPvU4
import Derived.Test.YtigdmkhdmbbfiaaPvZ10
/- Stocks: what is checked and counted. No conditions. -/
set_option linter.unusedSimpArgs false
set_option linter.unusedVariables false
set_option maxRecDepth 100000
namespace Go.Proofs.Ytigdmkhdmbbfiaa
open Go Go.Pv

/-! ### Texts in order -/
def ltB (a b : ByteArray) : Bool := Op.bytesLess a.toList b.toList
theorem e_sltB {P : Program} {ρ : Operand → PV} {h : Heap} {key : Key} {x y : Operand} {t t' : TypeId} {a b : ByteArray} (hx : ρ x = .str a) (hy : ρ y = .str b) : eff P ρ h key (.binOp .lss t x y t') = ⟨True, .bool (ltB a b), [], [], false⟩ := e_slt hx hy
/-! ### Stocks: what the program and the reference make of entries -/
def badS (x : Stock) : Prop := ¬ (0 ≤ x.place ∧ x.place ≤ 99) ∨ ¬ (0 ≤ x.state ∧ x.state ≤ 3) ∨ ¬ (0 ≤ x.count ∧ x.count ≤ 1000000)
instance (x : Stock) : Decidable (badS x) := inferInstanceAs (Decidable (_ ∨ _))
/-- The first error of entries, or 0. -/
def goS : List Stock → Int
  | [] => 0
  | x :: l => if isNm x.part = false then 4 else if badS x then 2 else goS l
def stockE (l : List Stock) : Int := if 200 < l.length then 8 else goS l
theorem stockE_big {l : List Stock} (h : 200 < l.length) : stockE l = 8 := if_pos h
theorem stockE_le {l : List Stock} (h : l.length ≤ 200) : stockE l = goS l := if_neg (by omega)
theorem goS_ok : ∀ {l : List Stock}, goS l = 0 → ∀ x ∈ l, ¬ badS x
  | [], _, x, hx => by simp at hx
  | y :: l, h, x, hx => by
    unfold goS at h
    split at h
    · cases h
    · split at h
      · cases h
      · rename_i h2
        rcases List.mem_cons.1 hx with rfl | hx
        · exact h2
        · exact goS_ok h x hx
theorem stockE_ok {l : List Stock} (h : stockE l = 0) : l.length ≤ 200 ∧ ∀ x ∈ l, (0 ≤ x.place ∧ x.place ≤ 99) ∧ (0 ≤ x.state ∧ x.state ≤ 3) ∧ (0 ≤ x.count ∧ x.count ≤ 1000000) := by
  unfold stockE at h
  split at h
  · cases h
  · refine ⟨by omega, fun x hx => ?_⟩
    have := goS_ok h x hx
    unfold badS at this
    omega
/-- A shelf: a part, a place, a state. -/
abbrev Kx := Shelf
def keyS (x : Stock) : Kx := ⟨x.part, x.place, x.state⟩
abbrev Sto := List (Kx × Int)
def getS (k : Kx) (m : Sto) : Int := (aGet k m).getD 0
/-- The sums of the counts, by shelves. -/
def sumS (m : Sto) : List Stock → Sto
  | [] => m
  | x :: l => sumS (aSet (keyS x) (getS (keyS x) m + x.count) m) l
theorem getS_aSet (k k' : Kx) (v : Int) (m : Sto) : getS k' (aSet k v m) = if k' = k then v else getS k' m := by
  unfold getS; rw [aGet_aSet]; split <;> rfl
/-- The sum of the counts of a shelf. -/
def cntS (k : Kx) : List Stock → Int
  | [] => 0
  | x :: l => (if keyS x = k then x.count else 0) + cntS k l
theorem getS_sum (k : Kx) : ∀ (l : List Stock) (m : Sto), getS k (sumS m l) = getS k m + cntS k l
  | [], m => by simp [sumS, cntS]
  | x :: l, m => by
    unfold sumS cntS
    rw [getS_sum k l, getS_aSet]
    by_cases h : keyS x = k
    · rw [if_pos h, if_pos h.symm, h]; omega
    · rw [if_neg h, if_neg (fun h2 => h h2.symm)]; omega
theorem cntS_0 {k : Kx} : ∀ {l : List Stock}, (∀ x ∈ l, 0 ≤ x.count) → 0 ≤ cntS k l
  | [], _ => Int.le_refl _
  | x :: l, h => by
    unfold cntS
    have h1 := h x List.mem_cons_self
    have h2 := cntS_0 (k := k) (l := l) fun y hy => h y (List.mem_cons_of_mem _ hy)
    split <;> omega
theorem cntS_le {k : Kx} : ∀ {l : List Stock}, (∀ x ∈ l, 0 ≤ x.count ∧ x.count ≤ 1000000) → cntS k l ≤ 1000000 * (l.length : Int)
  | [], _ => by simp [cntS]
  | x :: l, h => by
    unfold cntS
    have h1 := h x List.mem_cons_self
    have h2 := cntS_le (k := k) (l := l) fun y hy => h y (List.mem_cons_of_mem _ hy)
    simp only [List.length_cons, Int.natCast_add, Int.natCast_one]
    split <;> omega
/-- Whether an entry stands before another one, as the reference says. -/
def befS (a b : Stock) : Bool := bif decide (a.part = b.part) then (bif decide (a.place = b.place) then decide (a.state < b.state) else decide (a.place < b.place)) else ltB a.part b.part
/-- The reference's end: no entries of 0, none too large. -/
def setG (acc : List Stock) : List Stock → Int × List Stock
  | [] => (0, acc)
  | y :: l => if 1000000 < y.count then (8, []) else setG (if y.count ≠ 0 then acc ++ [y] else acc) l
/-! ### What the functions tell -/
structure At where
  a0 : Int
  a1 : Int
  deriving Inhabited, DecidableEq
def At.enc (x : At) : List PV := [.int x.a0, .int x.a1]
theorem At.pure (x : At) : ∀ p ∈ x.enc, Pure p := fun p hp => by
  simp only [At.enc, List.mem_cons, List.not_mem_nil, or_false] at hp
  rcases hp with rfl | rfl <;> exact .sc _
theorem At.of {row : List PV} (h : CellsP Try.prog [3, 3] row) : ∃ x : At, row = x.enc := by
  obtain ⟨q0, l0, rfl, h0, h⟩ := h.cons_inv
  obtain ⟨q1, l1, rfl, h1, h⟩ := h.cons_inv
  obtain rfl := h.nil_inv
  obtain ⟨z0, rfl, _⟩ := h0.int_inv (k := .i64) Try.underlying3
  obtain ⟨z1, rfl, _⟩ := h1.int_inv (k := .i64) Try.underlying3
  exact ⟨⟨z0, z1⟩, rfl⟩
theorem ssz {xs : List Stock} (hs : ∀ x ∈ xs, x.part.size ≤ 30) {i : Nat} {x : Stock} (hx : xs[i]? = some x) : x.part.size ≤ 30 := hs x (List.mem_of_getElem? hx)
/-- Few entries with short texts, or too many. -/
def shortB (xs : List Stock) : Bool := decide ((xs.length ≤ 12 ∨ 200 < xs.length) ∧ xs.length ≤ 220 ∧ ∀ x ∈ xs, x.part.size ≤ 30)
theorem short_len {xs : List Stock} (h : (12 < xs.length ∧ xs.length ≤ 200) ∨ 220 < xs.length) : false = shortB xs := by
  symm; simp only [shortB, decide_eq_false_iff_not]; rintro ⟨h1, h2, _⟩; omega
theorem short_x {xs : List Stock} {k : Nat} {x : Stock} (hx : xs[k]? = some x) (h : 30 < x.part.size) : false = shortB xs := by
  symm; simp only [shortB, decide_eq_false_iff_not]; rintro ⟨_, _, h3⟩; have := h3 x (List.mem_of_getElem? hx); omega
theorem short_ok {xs : List Stock} (h1 : (xs.length ≤ 12 ∨ 200 < xs.length) ∧ xs.length ≤ 220) (h3 : ∀ x ∈ xs.take xs.length, x.part.size ≤ 30) : true = shortB xs := by
  rw [List.take_length] at h3
  symm; simp only [shortB, decide_eq_true_eq]; exact ⟨h1.1, h1.2, h3⟩
theorem shortB_iff {xs : List Stock} (h : shortB xs = true) : (xs.length ≤ 12 ∨ 200 < xs.length) ∧ xs.length ≤ 220 ∧ ∀ x ∈ xs, x.part.size ≤ 30 := by simpa only [shortB, decide_eq_true_eq] using h
theorem befS_1 {a b : Stock} (h : ¬ a.part = b.part) : ltB a.part b.part = befS a b := by rw [befS, decide_eq_false h]; rfl
theorem befS_2 {a b : Stock} (h : a.part = b.part) (h2 : ¬ a.place = b.place) : decide (a.place < b.place) = befS a b := by rw [befS, decide_eq_true h, decide_eq_false h2]; rfl
theorem befS_3 {a b : Stock} (h : a.part = b.part) (h2 : a.place = b.place) : decide (a.state < b.state) = befS a b := by rw [befS, decide_eq_true h, decide_eq_true h2]; rfl
/-- The reference's count of a shelf, told on from s. -/
def cntA (k : Kx) : Int → List Stock → Int
  | s, [] => s
  | s, x :: l => cntA k (if keyS x = k then s + x.count else s) l
theorem cntA_eq (k : Kx) : ∀ (l : List Stock) (s : Int), cntA k s l = s + cntS k l
  | [], s => by simp [cntA, cntS]
  | x :: l, s => by unfold cntA cntS; rw [cntA_eq k l]; split <;> omega
theorem keyS_iff {x : Stock} {p : ByteArray} {z : At} : keyS x = ⟨p, z.a0, z.a1⟩ ↔ x.part = p ∧ x.place = z.a0 ∧ x.state = z.a1 := by
  unfold keyS; rw [Shelf.mk.injEq]
theorem cnt_t {R s : Int} {p : ByteArray} {z : At} {x : Stock} {l : List Stock} (h : R = cntA ⟨p, z.a0, z.a1⟩ s (x :: l)) (hx : x.part = p ∧ x.place = z.a0 ∧ x.state = z.a1) : R = cntA ⟨p, z.a0, z.a1⟩ (s + x.count) l := by rw [h, cntA, if_pos (keyS_iff.2 hx)]
theorem cnt_f {R s : Int} {p : ByteArray} {z : At} {x : Stock} {l : List Stock} (h : R = cntA ⟨p, z.a0, z.a1⟩ s (x :: l)) (hx : ¬ (x.part = p ∧ x.place = z.a0 ∧ x.state = z.a1)) : R = cntA ⟨p, z.a0, z.a1⟩ s l := by rw [h, cntA, if_neg (fun h2 => hx (keyS_iff.1 h2))]
theorem same_endL {α : Type} {xs ys : List α} (hl : xs.length = ys.length) (h : xs.take xs.length = ys.take xs.length) : xs = ys := by
  rw [List.take_length] at h
  rw [h, hl, List.take_length]
theorem same_badL {α : Type} {xs ys : List α} {k : Nat} {x y : α} (hx : xs[k]? = some x) (hy : ys[k]? = some y) (hn : ¬ x = y) : ¬ xs = ys := fun h => by subst h; rw [hx] at hy; cases hy; exact hn rfl
theorem take_snoc2 {α : Type} {xs ys : List α} {k : Nat} {x y : α} (hx : xs.take (k + 1) = xs.take k ++ [x]) (hy : ys.take (k + 1) = ys.take k ++ [y]) (he : xs.take k = ys.take k) (h : x = y) : xs.take (k + 1) = ys.take (k + 1) := by rw [hx, hy, he, h]
theorem all_snocS {α : Type} {Q : α → Prop} {l r : List α} {x : α} (he : r = l ++ [x]) (h : ∀ y ∈ l, Q y) (hx : Q x) : ∀ y ∈ r, Q y := by
  subst he
  intro y hy
  rcases List.mem_append.1 hy with hy | hy
  · exact h y hy
  · simp only [List.mem_singleton] at hy; subst hy; exact hx
/-- A list that is nil, or lies in memory that does not change. -/
def LitV (v : PV) (sz : Nat) (rows : List (List PV)) : Prop := (v = .nil ∧ rows = []) ∨ ∃ t, v = .lit t sz rows
theorem LitV.nil {sz : Nat} : LitV .nil sz [] := .inl ⟨rfl, rfl⟩
theorem LitV.lit {t : Bool} {sz : Nat} {rows : List (List PV)} : LitV (.lit t sz rows) sz rows := .inr ⟨t, rfl⟩
theorem LitV.inn {h : Heap} {v : PV} {sz : Nat} {rows : List (List PV)} (hl : LitV v sz rows) : Inn h v (.lit true sz rows) := by
  rcases hl with ⟨rfl, rfl⟩ | ⟨t, rfl⟩
  · exact inn_nil
  · exact inn_lit
theorem fr23 : (inFrame Try.f23.ntmps (Try.f23.body.getD .skip) && Try.f23.results.toList.all (resScope Try.f23.ntmps)) = true := by kernel_rfl
theorem CheckS (xs : List Stock) (hl : xs.length ≤ 220) (hs : ∀ x ∈ xs, x.part.size ≤ 30) : PCalls Try.prog 23 [.lit true 4 (xs.map Stock.enc)] (.int (stockE xs)) := by
  refine PCalls.of_code Try.func23 rfl rfl (by kernel_rfl) mixed fr23 (by show _ ≤ 37; simp) (.sc _) ?_
  refine pwp_seq_plain rfl fun K1 hK1 => ?_
  refine p_step rfl (e_assign (v := .sc _) rfl) trivial ?_
  refine p_end (hK1 _ ?_); clear hK1 K1
  refine pwp_seq_seq ?_
  refine pwp_seq_plain rfl fun K2 hK2 => ?_
  refine p_step rfl (e_move (v := .lit _ _ _) rfl) trivial ?_
  refine p_step rfl (e_len rfl (by kernel_rfl)) trivial ?_
  refine p_step rfl (e_gt rfl rfl) trivial ?_
  refine p_end (hK2 _ ?_); clear hK2 K2
  refine pwp_seq_cond rfl fun K3 hK3 => ⟨fun hb4 => ?_, fun hb4 => ?_⟩
  ·have hb4R := hb4; try simp only [z1, z2, z3, z4, z5, z6, ne_eq, z7, z8, z9, z10, z11, z12] at hb4
   refine pwp_seq_plain rfl fun K5 hK5 => ?_
   refine p_step rfl (e_assign (v := .sc _) rfl) trivial ?_
   refine p_end (hK5 _ ?_); clear hK5 K5
   refine pwp_ret ?_
   refine ret_seq ?_
   refine end1 (v := .sc _) rfl ?_
   exact out_i (stockE_big (by omega)).symm
  have hb4R := hb4; try simp only [z1, z2, z3, z4, z5, z6, ne_eq, z7, z8, z9, z10, z11, z12] at hb4
  refine pwp_skip ?_
  refine seq_norm (hK3 _ ?_); clear hK3 K3
  refine pwp_seq_seq ?_
  refine pwp_seq_plain rfl fun K6 hK6 => ?_
  refine p_step rfl (e_move (v := .lit _ _ _) rfl) trivial ?_
  refine p_step rfl (e_len rfl (by kernel_rfl)) trivial ?_
  refine p_step rfl (e_move (v := .sc _) rfl) trivial ?_
  refine p_end (hK6 _ ?_); clear hK6 K6
  refine pwp_seq_block fun K7 hK7 => ?_
  refine pwp_loopR (α := Nat) [8, 9] (fun (k : Nat) => [(10, .int (k))]) (fun (k : Nat) (h : Heap) (_ : Nat → Nat) => ((k) ≤ xs.length) ∧ (goS xs = goS (xs.drop (k)))) (fun (k : Nat) => xs.length - (k)) (0) (by exact ⟨rfl, trivial⟩) (by exact ⟨by exact Nat.zero_le _, by exact rfl⟩) fun k r8 h9 c10 hj11 => ?_
  obtain ⟨hk, hinv⟩ := hj11
  try dsimp only at hk
  try dsimp only at hinv
  show pwp _ _ (loopQ _ _ _) ⟨sets (mix _ _ _) [(10, .int k)], _, _⟩
  refine pwp_seq_plain rfl fun K12 hK12 => ?_
  refine p_step rfl (e_lt rfl rfl) trivial ?_
  refine p_end (hK12 _ ?_); clear hK12 K12
  refine pwp_seq_cond rfl fun K13 hK13 => ⟨fun hb14 => ?_, fun hb14 => ?_⟩
  ·have hb14R := hb14; try simp only [z1, z2, z3, z4, z5, z6, ne_eq, z7, z8, z9, z10, z11, z12] at hb14
   obtain ⟨x, hx, hd, ht⟩ := get_lt (xs := xs) (i := k) (by omega)
   rw [hd] at hinv; simp only [goS] at hinv
   have hsz := ssz hs hx
   refine pwp_skip ?_
   refine seq_norm (hK13 _ ?_); clear hK13 K13
   refine pwp_seq_block fun K15 hK15 => ?_
   refine pwp_seq_plain rfl fun K16 hK16 => ?_
   refine p_step rfl (e_ixa rfl rfl (by kernel_rfl) (by kernel_rfl) (by simp only [List.length_map]; omega)) trivial ?_
   refine p_step rfl (e_loadA (n := 4) rfl (by kernel_rfl) (by kernel_rfl) (by kernel_rfl) (by simp only [List.length_map]; omega) (by decide) (by first | exact agg_map hx rfl)) trivial ?_
   refine p_new rfl (e_alloc (cs := [.str ByteArray.empty, .int 0, .int 0, .int 0]) (n := 4) (by kernel_rfl) rfl (by decide)) (ob_alloc (by decide)) ?_
   refine p_store rfl (e_storeA rfl (hset_self _ _ _) rfl rfl rfl (by kernel_rfl) rfl (by kernel_rfl)) trivial ?_
   refine p_end (hK16 _ ?_); clear hK16 K16
   refine pwp_block ?_
   refine pwp_seq_plain rfl fun K17 hK17 => ?_
   refine p_step rfl (e_faP (pl := [(0, 1, false), (1, 1, false), (2, 1, false), (3, 1, false)]) rfl (by kernel_rfl) (by kernel_rfl) (by decide) rfl) trivial ?_
   refine p_step rfl (e_loadH (v := .sc _) rfl (hset_self _ _ _) (by kernel_rfl) (by kernel_rfl) (by kernel_rfl) (by exact Nat.zero_lt_one) (by decide) rfl) trivial ?_
   refine p_call rfl (.cons inn_sc .nil) (isName _ (by omega)) ?_
   refine p_step rfl (e_not rfl) trivial ?_
   refine p_step rfl (e_assign (v := .sc _) rfl) trivial ?_
   refine p_end (hK17 _ ?_); clear hK17 K17
   refine pwp_cond rfl (fun hb18 => ?_) (fun hb18 => ?_)
   ·have hb18R := hb18; try simp only [z1, z2, z3, z4, z5, z6, ne_eq, z7, z8, z9, z10, z11, z12] at hb18
    refine pwp_seq_plain rfl fun K19 hK19 => ?_
    refine p_step rfl (e_assign (v := .sc _) rfl) trivial ?_
    refine p_end (hK19 _ ?_); clear hK19 K19
    refine pwp_ret ?_
    refine ret_block ?_
    refine ret_block ?_
    refine ret_seq ?_
    refine ret_loop ?_
    refine ret_block ?_
    refine ret_seq ?_
    refine end1 (v := .sc _) rfl ?_
    exact out_i (by rw [stockE_le (by omega), hinv, if_pos (by assumption)])
   have hb18R := hb18; try simp only [z1, z2, z3, z4, z5, z6, ne_eq, z7, z8, z9, z10, z11, z12] at hb18
   refine pwp_seq_cutG [8, 9, 10] [(19, .bool (((!(decide ((0) ≤ x.place ∧ x.place ≤ (99)))) || (!(decide ((0) ≤ x.state ∧ x.state ≤ (3))))) || (!(decide ((0) ≤ x.count ∧ x.count ≤ (1000000))))))] (fun K20 hK20 => ?_) (fun r21 => ?_)
   ·skip
    refine pwp_gops rfl fun K22 hK22 => ?_
    refine g_begin ?_
    refine g_step rfl rfl rfl rfl (e_faP (pl := [(0, 1, false), (1, 1, false), (2, 1, false), (3, 1, false)]) rfl (by kernel_rfl) (by kernel_rfl) (by decide) rfl) trivial ?_
    refine g_step rfl rfl rfl rfl (e_loadH (v := .sc _) rfl (hset_self _ _ _) (by kernel_rfl) (by kernel_rfl) (by kernel_rfl) (by exact Nat.zero_lt_one) (by decide) rfl) trivial ?_
    refine g_call rfl rfl rfl rfl (.cons inn_sc (.cons inn_sc (.cons inn_sc .nil))) (within _ _ _) ?_
    refine g_step rfl rfl rfl rfl (e_not rfl) trivial ?_
    refine g_step rfl rfl rfl rfl (e_move (v := .sc _) rfl) trivial ?_
    refine g_cases (fun hb23 => ?_) (fun hb23 => ?_)
    ·have hb23R := hb23; try simp only [z1, z2, z3, z4, z5, z6, ne_eq, z7, z8, z9, z10, z11, z12] at hb23
     refine g_skip rfl rfl rfl ?_
     refine g_skip rfl rfl rfl ?_
     refine g_nocall rfl rfl rfl ?_
     refine g_skip rfl rfl rfl ?_
     refine g_step rfl rfl rfl rfl (e_pickT (v := .sc _) rfl rfl) trivial ?_
     refine g_step rfl rfl rfl rfl (e_move (v := .sc _) rfl) trivial ?_
     refine g_skip rfl rfl rfl ?_
     refine g_skip rfl rfl rfl ?_
     refine g_nocall rfl rfl rfl ?_
     refine g_skip rfl rfl rfl ?_
     refine g_step rfl rfl rfl rfl (e_pickT (v := .sc _) rfl rfl) trivial ?_
     refine g_step rfl rfl rfl rfl (e_assign (v := .sc _) rfl) trivial ?_
     refine g_end (ds := [25, 26, 27, 28, 31, 32, 33, 34]) rfl rfl (hK22 _ ?_); clear hK22 K22
     exact seq_norm (hK20 _ ⟨rfl, rfl, rfl, trivial⟩ ⟨(congrArg PV.bool (show (true : Bool) = (((!(decide ((0) ≤ x.place ∧ x.place ≤ (99)))) || (!(decide ((0) ≤ x.state ∧ x.state ≤ (3))))) || (!(decide ((0) ≤ x.count ∧ x.count ≤ (1000000))))) by first | rfl | ((try rw [hb23R]) <;> (first | rfl | (simp only [Bool.and_true, Bool.and_false, Bool.true_and, Bool.false_and, Bool.or_true, Bool.or_false, Bool.true_or, Bool.false_or, Bool.not_true, Bool.not_false, if_true, if_false, Bool.false_eq_true, reduceIte] <;> rfl))) | (simp only [hb23R, Bool.and_true, Bool.and_false, Bool.true_and, Bool.false_and, Bool.or_true, Bool.or_false, Bool.true_or, Bool.false_or, Bool.not_true, Bool.not_false, if_true, if_false, Bool.false_eq_true, reduceIte] <;> rfl))), trivial⟩)
    have hb23R := hb23; try simp only [z1, z2, z3, z4, z5, z6, ne_eq, z7, z8, z9, z10, z11, z12] at hb23
    refine g_step rfl rfl rfl rfl (e_faP (pl := [(0, 1, false), (1, 1, false), (2, 1, false), (3, 1, false)]) rfl (by kernel_rfl) (by kernel_rfl) (by decide) rfl) trivial ?_
    refine g_step rfl rfl rfl rfl (e_loadH (v := .sc _) rfl (hset_self _ _ _) (by kernel_rfl) (by kernel_rfl) (by kernel_rfl) (by exact Nat.zero_lt_one) (by decide) rfl) trivial ?_
    refine g_call rfl rfl rfl rfl (.cons inn_sc (.cons inn_sc (.cons inn_sc .nil))) (within _ _ _) ?_
    refine g_step rfl rfl rfl rfl (e_not rfl) trivial ?_
    refine g_step rfl rfl rfl rfl (e_pickF (v := .sc _) rfl rfl) trivial ?_
    refine g_step rfl rfl rfl rfl (e_move (v := .sc _) rfl) trivial ?_
    refine g_cases (fun hb24 => ?_) (fun hb24 => ?_)
    ·have hb24R := hb24; try simp only [z1, z2, z3, z4, z5, z6, ne_eq, z7, z8, z9, z10, z11, z12] at hb24
     refine g_skip rfl rfl rfl ?_
     refine g_skip rfl rfl rfl ?_
     refine g_nocall rfl rfl rfl ?_
     refine g_skip rfl rfl rfl ?_
     refine g_step rfl rfl rfl rfl (e_pickT (v := .sc _) rfl rfl) trivial ?_
     refine g_step rfl rfl rfl rfl (e_assign (v := .sc _) rfl) trivial ?_
     refine g_end (ds := [25, 26, 27, 28, 31, 32, 33, 34]) rfl rfl (hK22 _ ?_); clear hK22 K22
     exact seq_norm (hK20 _ ⟨rfl, rfl, rfl, trivial⟩ ⟨(congrArg PV.bool (show (true : Bool) = (((!(decide ((0) ≤ x.place ∧ x.place ≤ (99)))) || (!(decide ((0) ≤ x.state ∧ x.state ≤ (3))))) || (!(decide ((0) ≤ x.count ∧ x.count ≤ (1000000))))) by first | rfl | ((try rw [hb24R]) <;> (try rw [hb23R]) <;> (first | rfl | (simp only [Bool.and_true, Bool.and_false, Bool.true_and, Bool.false_and, Bool.or_true, Bool.or_false, Bool.true_or, Bool.false_or, Bool.not_true, Bool.not_false, if_true, if_false, Bool.false_eq_true, reduceIte] <;> rfl))) | (simp only [hb23R, hb24R, Bool.and_true, Bool.and_false, Bool.true_and, Bool.false_and, Bool.or_true, Bool.or_false, Bool.true_or, Bool.false_or, Bool.not_true, Bool.not_false, if_true, if_false, Bool.false_eq_true, reduceIte] <;> rfl))), trivial⟩)
    have hb24R := hb24; try simp only [z1, z2, z3, z4, z5, z6, ne_eq, z7, z8, z9, z10, z11, z12] at hb24
    refine g_step rfl rfl rfl rfl (e_faP (pl := [(0, 1, false), (1, 1, false), (2, 1, false), (3, 1, false)]) rfl (by kernel_rfl) (by kernel_rfl) (by decide) rfl) trivial ?_
    refine g_step rfl rfl rfl rfl (e_loadH (v := .sc _) rfl (hset_self _ _ _) (by kernel_rfl) (by kernel_rfl) (by kernel_rfl) (by exact Nat.zero_lt_one) (by decide) rfl) trivial ?_
    refine g_call rfl rfl rfl rfl (.cons inn_sc (.cons inn_sc (.cons inn_sc .nil))) (within _ _ _) ?_
    refine g_step rfl rfl rfl rfl (e_not rfl) trivial ?_
    refine g_step rfl rfl rfl rfl (e_pickF (v := .sc _) rfl rfl) trivial ?_
    refine g_step rfl rfl rfl rfl (e_assign (v := .sc _) rfl) trivial ?_
    refine g_end (ds := [25, 26, 27, 28, 31, 32, 33, 34]) rfl rfl (hK22 _ ?_); clear hK22 K22
    exact seq_norm (hK20 _ ⟨rfl, rfl, rfl, trivial⟩ ⟨(congrArg PV.bool (show ((!(decide ((0) ≤ x.count ∧ x.count ≤ (1000000)))) : Bool) = (((!(decide ((0) ≤ x.place ∧ x.place ≤ (99)))) || (!(decide ((0) ≤ x.state ∧ x.state ≤ (3))))) || (!(decide ((0) ≤ x.count ∧ x.count ≤ (1000000))))) by first | rfl | ((try rw [hb24R]) <;> (try rw [hb23R]) <;> (first | rfl | (simp only [Bool.and_true, Bool.and_false, Bool.true_and, Bool.false_and, Bool.or_true, Bool.or_false, Bool.true_or, Bool.false_or, Bool.not_true, Bool.not_false, if_true, if_false, Bool.false_eq_true, reduceIte] <;> rfl))) | (simp only [hb23R, hb24R, Bool.and_true, Bool.and_false, Bool.true_and, Bool.false_and, Bool.or_true, Bool.or_false, Bool.true_or, Bool.false_or, Bool.not_true, Bool.not_false, if_true, if_false, Bool.false_eq_true, reduceIte] <;> rfl))), trivial⟩)
   refine pwp_cond rfl (fun hb25 => ?_) (fun hb25 => ?_)
   ·have hb25R := hb25; try simp only [z1, z2, z3, z4, z5, z6, ne_eq, z7, z8, z9, z10, z11, z12] at hb25
    refine pwp_seq_plain rfl fun K26 hK26 => ?_
    refine p_step rfl (e_assign (v := .sc _) rfl) trivial ?_
    refine p_end (hK26 _ ?_); clear hK26 K26
    refine pwp_ret ?_
    refine ret_block ?_
    refine ret_block ?_
    refine ret_seq ?_
    refine ret_loop ?_
    refine ret_block ?_
    refine ret_seq ?_
    refine end1 (v := .sc _) rfl ?_
    exact out_i (by rw [stockE_le (by omega), hinv, if_neg (by rw [Bool.not_eq_false]; assumption), if_pos (by unfold badS; omega)])
   have hb25R := hb25; try simp only [z1, z2, z3, z4, z5, z6, ne_eq, z7, z8, z9, z10, z11, z12] at hb25
   refine pwp_skip ?_
   refine block_norm ?_
   refine block_norm ?_
   refine seq_norm (hK15 _ ?_); clear hK15 K15
   refine pwp_plain rfl fun K27 hK27 => ?_
   refine p_step rfl (e_add rfl rfl (by omega)) trivial ?_
   refine p_step rfl (e_move (v := .sc _) rfl) trivial ?_
   refine p_end (hK27 _ ?_); clear hK27 K27
   rw [if_neg (by rw [Bool.not_eq_false]; assumption), if_neg (by unfold badS; omega)] at hinv
   exact loop_again (k + 1) (by show _ < _; omega) ⟨rfl, rfl, trivial⟩ ⟨rfl, trivial⟩ (by exact ⟨by show _ + 1 ≤ _; omega, by exact hinv⟩)
  have hb14R := hb14; try simp only [z1, z2, z3, z4, z5, z6, ne_eq, z7, z8, z9, z10, z11, z12] at hb14
  obtain rfl : k = xs.length := by omega
  rw [List.drop_length] at hinv; simp only [goS] at hinv
  refine pwp_exit ?_
  refine exit_seq ?_
  clear hK13 K13
  refine exit_loop ?_
  refine exit_here ?_
  refine seq_norm (hK7 _ ?_); clear hK7 K7
  refine pwp_seq_plain rfl fun K28 hK28 => ?_
  refine p_step rfl (e_assign (v := .sc _) rfl) trivial ?_
  refine p_end (hK28 _ ?_); clear hK28 K28
  refine pwp_ret ?_
  refine end1 (v := .sc _) rfl ?_
  exact out_i (by rw [stockE_le (by omega), hinv])

theorem fr22 : (inFrame Try.f22.ntmps (Try.f22.body.getD .skip) && Try.f22.results.toList.all (resScope Try.f22.ntmps)) = true := by kernel_rfl
theorem refCheckS (xs : List Stock) (hl : xs.length ≤ 220) (hs : ∀ x ∈ xs, x.part.size ≤ 30) : PCalls Try.prog 22 [.lit true 4 (xs.map Stock.enc)] (.int (stockE xs)) := by
  refine PCalls.of_code Try.func22 rfl rfl (by kernel_rfl) mixed fr22 (by show _ ≤ 45; simp) (.sc _) ?_
  refine pwp_seq_plain rfl fun K1 hK1 => ?_
  refine p_step rfl (e_assign (v := .sc _) rfl) trivial ?_
  refine p_end (hK1 _ ?_); clear hK1 K1
  refine pwp_seq_seq ?_
  refine pwp_seq_plain rfl fun K2 hK2 => ?_
  refine p_step rfl (e_move (v := .lit _ _ _) rfl) trivial ?_
  refine p_step rfl (e_len rfl (by kernel_rfl)) trivial ?_
  refine p_step rfl (e_gt rfl rfl) trivial ?_
  refine p_end (hK2 _ ?_); clear hK2 K2
  refine pwp_seq_cond rfl fun K3 hK3 => ⟨fun hb4 => ?_, fun hb4 => ?_⟩
  ·have hb4R := hb4; try simp only [z1, z2, z3, z4, z5, z6, ne_eq, z7, z8, z9, z10, z11, z12] at hb4
   refine pwp_seq_plain rfl fun K5 hK5 => ?_
   refine p_step rfl (e_assign (v := .sc _) rfl) trivial ?_
   refine p_end (hK5 _ ?_); clear hK5 K5
   refine pwp_ret ?_
   refine ret_seq ?_
   refine end1 (v := .sc _) rfl ?_
   exact out_i (stockE_big (by omega)).symm
  have hb4R := hb4; try simp only [z1, z2, z3, z4, z5, z6, ne_eq, z7, z8, z9, z10, z11, z12] at hb4
  refine pwp_skip ?_
  refine seq_norm (hK3 _ ?_); clear hK3 K3
  refine pwp_seq_seq ?_
  refine pwp_seq_plain rfl fun K6 hK6 => ?_
  refine p_step rfl (e_assign (v := .sc _) rfl) trivial ?_
  refine p_end (hK6 _ ?_); clear hK6 K6
  refine pwp_seq_block fun K7 hK7 => ?_
  refine pwp_loopR (α := Nat) [0] (fun (k : Nat) => [(3, .int (k))]) (fun (k : Nat) (h : Heap) (_ : Nat → Nat) => ((k) ≤ xs.length) ∧ (goS xs = goS (xs.drop (k)))) (fun (k : Nat) => xs.length - (k)) (0) (by exact ⟨rfl, trivial⟩) (by exact ⟨by exact Nat.zero_le _, by exact rfl⟩) fun k r8 h9 c10 hj11 => ?_
  obtain ⟨hk, hinv⟩ := hj11
  try dsimp only at hk
  try dsimp only at hinv
  show pwp _ _ (loopQ _ _ _) ⟨sets (mix _ _ _) [(3, .int k)], _, _⟩
  refine pwp_seq_seq ?_
  refine pwp_seq_plain rfl fun K12 hK12 => ?_
  refine p_step rfl (e_move (v := .sc _) rfl) trivial ?_
  refine p_step rfl (e_move (v := .lit _ _ _) rfl) trivial ?_
  refine p_step rfl (e_len rfl (by kernel_rfl)) trivial ?_
  refine p_step rfl (e_lt rfl rfl) trivial ?_
  refine p_end (hK12 _ ?_); clear hK12 K12
  refine pwp_seq_cond rfl fun K13 hK13 => ⟨fun hb14 => ?_, fun hb14 => ?_⟩
  ·have hb14R := hb14; try simp only [z1, z2, z3, z4, z5, z6, ne_eq, z7, z8, z9, z10, z11, z12] at hb14
   obtain ⟨x, hx, hd, ht⟩ := get_lt (xs := xs) (i := k) (by omega)
   rw [hd] at hinv; simp only [goS] at hinv
   have hsz := ssz hs hx
   refine pwp_skip ?_
   refine seq_norm (hK13 _ ?_); clear hK13 K13
   refine pwp_seq_block fun K15 hK15 => ?_
   refine pwp_seq_seq ?_
   refine pwp_seq_plain rfl fun K16 hK16 => ?_
   refine p_step rfl (e_move (v := .lit _ _ _) rfl) trivial ?_
   refine p_step rfl (e_move (v := .sc _) rfl) trivial ?_
   refine p_step rfl (e_ixa rfl rfl (by kernel_rfl) (by kernel_rfl) (by simp only [List.length_map]; omega)) trivial ?_
   refine p_step rfl (e_fa (pl := [(0, 1, false), (1, 1, false), (2, 1, false), (3, 1, false)]) rfl (by kernel_rfl) (by kernel_rfl) (by decide) rfl) trivial ?_
   refine p_step rfl (e_load (v := .sc _) rfl (by kernel_rfl) (by kernel_rfl) (by kernel_rfl) (by simp only [List.length_map]; omega) (by decide) ((cell_map hx _).trans rfl)) trivial ?_
   refine p_call rfl (.cons inn_sc .nil) (IsName _) ?_
   refine p_step rfl (e_not rfl) trivial ?_
   refine p_end (hK16 _ ?_); clear hK16 K16
   refine pwp_seq_cond rfl fun K17 hK17 => ⟨fun hb18 => ?_, fun hb18 => ?_⟩
   ·have hb18R := hb18; try simp only [z1, z2, z3, z4, z5, z6, ne_eq, z7, z8, z9, z10, z11, z12] at hb18
    refine pwp_seq_plain rfl fun K19 hK19 => ?_
    refine p_step rfl (e_assign (v := .sc _) rfl) trivial ?_
    refine p_end (hK19 _ ?_); clear hK19 K19
    refine pwp_ret ?_
    refine ret_seq ?_
    refine ret_block ?_
    refine ret_seq ?_
    refine ret_loop ?_
    refine ret_block ?_
    refine ret_seq ?_
    refine end1 (v := .sc _) rfl ?_
    exact out_i (by rw [stockE_le (by omega), hinv, if_pos (by assumption)])
   have hb18R := hb18; try simp only [z1, z2, z3, z4, z5, z6, ne_eq, z7, z8, z9, z10, z11, z12] at hb18
   refine pwp_skip ?_
   refine seq_norm (hK17 _ ?_); clear hK17 K17
   refine pwp_seq_cutG [0, 3] [(44, .bool (((!(decide ((0) ≤ x.place ∧ x.place ≤ (99)))) || (!(decide ((0) ≤ x.state ∧ x.state ≤ (3))))) || (!(decide ((0) ≤ x.count ∧ x.count ≤ (1000000))))))] (fun K20 hK20 => ?_) (fun r21 => ?_)
   ·skip
    refine pwp_gops rfl fun K22 hK22 => ?_
    refine g_begin ?_
    refine g_step rfl rfl rfl rfl (e_move (v := .lit _ _ _) rfl) trivial ?_
    refine g_step rfl rfl rfl rfl (e_move (v := .sc _) rfl) trivial ?_
    refine g_step rfl rfl rfl rfl (e_ixa rfl rfl (by kernel_rfl) (by kernel_rfl) (by simp only [List.length_map]; omega)) trivial ?_
    refine g_step rfl rfl rfl rfl (e_fa (pl := [(0, 1, false), (1, 1, false), (2, 1, false), (3, 1, false)]) rfl (by kernel_rfl) (by kernel_rfl) (by decide) rfl) trivial ?_
    refine g_step rfl rfl rfl rfl (e_load (v := .sc _) rfl (by kernel_rfl) (by kernel_rfl) (by kernel_rfl) (by simp only [List.length_map]; omega) (by decide) ((cell_map hx _).trans rfl)) trivial ?_
    refine g_call rfl rfl rfl rfl (.cons inn_sc (.cons inn_sc (.cons inn_sc .nil))) (Within _ _ _) ?_
    refine g_step rfl rfl rfl rfl (e_not rfl) trivial ?_
    refine g_step rfl rfl rfl rfl (e_move (v := .sc _) rfl) trivial ?_
    refine g_cases (fun hb23 => ?_) (fun hb23 => ?_)
    ·have hb23R := hb23; try simp only [z1, z2, z3, z4, z5, z6, ne_eq, z7, z8, z9, z10, z11, z12] at hb23
     refine g_skip rfl rfl rfl ?_
     refine g_skip rfl rfl rfl ?_
     refine g_skip rfl rfl rfl ?_
     refine g_skip rfl rfl rfl ?_
     refine g_skip rfl rfl rfl ?_
     refine g_nocall rfl rfl rfl ?_
     refine g_skip rfl rfl rfl ?_
     refine g_step rfl rfl rfl rfl (e_pickT (v := .sc _) rfl rfl) trivial ?_
     refine g_step rfl rfl rfl rfl (e_move (v := .sc _) rfl) trivial ?_
     refine g_skip rfl rfl rfl ?_
     refine g_skip rfl rfl rfl ?_
     refine g_skip rfl rfl rfl ?_
     refine g_skip rfl rfl rfl ?_
     refine g_skip rfl rfl rfl ?_
     refine g_nocall rfl rfl rfl ?_
     refine g_skip rfl rfl rfl ?_
     refine g_step rfl rfl rfl rfl (e_pickT (v := .sc _) rfl rfl) trivial ?_
     refine g_end (ds := [28, 29, 30, 31, 32, 33, 34, 37, 38, 39, 40, 41, 42, 43]) rfl rfl (hK22 _ ?_); clear hK22 K22
     exact seq_norm (hK20 _ ⟨rfl, rfl, trivial⟩ ⟨(congrArg PV.bool (show (true : Bool) = (((!(decide ((0) ≤ x.place ∧ x.place ≤ (99)))) || (!(decide ((0) ≤ x.state ∧ x.state ≤ (3))))) || (!(decide ((0) ≤ x.count ∧ x.count ≤ (1000000))))) by first | rfl | ((try rw [hb23R]) <;> (first | rfl | (simp only [Bool.and_true, Bool.and_false, Bool.true_and, Bool.false_and, Bool.or_true, Bool.or_false, Bool.true_or, Bool.false_or, Bool.not_true, Bool.not_false, if_true, if_false, Bool.false_eq_true, reduceIte] <;> rfl))) | (simp only [hb23R, Bool.and_true, Bool.and_false, Bool.true_and, Bool.false_and, Bool.or_true, Bool.or_false, Bool.true_or, Bool.false_or, Bool.not_true, Bool.not_false, if_true, if_false, Bool.false_eq_true, reduceIte] <;> rfl))), trivial⟩)
    have hb23R := hb23; try simp only [z1, z2, z3, z4, z5, z6, ne_eq, z7, z8, z9, z10, z11, z12] at hb23
    refine g_step rfl rfl rfl rfl (e_move (v := .lit _ _ _) rfl) trivial ?_
    refine g_step rfl rfl rfl rfl (e_move (v := .sc _) rfl) trivial ?_
    refine g_step rfl rfl rfl rfl (e_ixa rfl rfl (by kernel_rfl) (by kernel_rfl) (by simp only [List.length_map]; omega)) trivial ?_
    refine g_step rfl rfl rfl rfl (e_fa (pl := [(0, 1, false), (1, 1, false), (2, 1, false), (3, 1, false)]) rfl (by kernel_rfl) (by kernel_rfl) (by decide) rfl) trivial ?_
    refine g_step rfl rfl rfl rfl (e_load (v := .sc _) rfl (by kernel_rfl) (by kernel_rfl) (by kernel_rfl) (by simp only [List.length_map]; omega) (by decide) ((cell_map hx _).trans rfl)) trivial ?_
    refine g_call rfl rfl rfl rfl (.cons inn_sc (.cons inn_sc (.cons inn_sc .nil))) (Within _ _ _) ?_
    refine g_step rfl rfl rfl rfl (e_not rfl) trivial ?_
    refine g_step rfl rfl rfl rfl (e_pickF (v := .sc _) rfl rfl) trivial ?_
    refine g_step rfl rfl rfl rfl (e_move (v := .sc _) rfl) trivial ?_
    refine g_cases (fun hb24 => ?_) (fun hb24 => ?_)
    ·have hb24R := hb24; try simp only [z1, z2, z3, z4, z5, z6, ne_eq, z7, z8, z9, z10, z11, z12] at hb24
     refine g_skip rfl rfl rfl ?_
     refine g_skip rfl rfl rfl ?_
     refine g_skip rfl rfl rfl ?_
     refine g_skip rfl rfl rfl ?_
     refine g_skip rfl rfl rfl ?_
     refine g_nocall rfl rfl rfl ?_
     refine g_skip rfl rfl rfl ?_
     refine g_step rfl rfl rfl rfl (e_pickT (v := .sc _) rfl rfl) trivial ?_
     refine g_end (ds := [28, 29, 30, 31, 32, 33, 34, 37, 38, 39, 40, 41, 42, 43]) rfl rfl (hK22 _ ?_); clear hK22 K22
     exact seq_norm (hK20 _ ⟨rfl, rfl, trivial⟩ ⟨(congrArg PV.bool (show (true : Bool) = (((!(decide ((0) ≤ x.place ∧ x.place ≤ (99)))) || (!(decide ((0) ≤ x.state ∧ x.state ≤ (3))))) || (!(decide ((0) ≤ x.count ∧ x.count ≤ (1000000))))) by first | rfl | ((try rw [hb24R]) <;> (try rw [hb23R]) <;> (first | rfl | (simp only [Bool.and_true, Bool.and_false, Bool.true_and, Bool.false_and, Bool.or_true, Bool.or_false, Bool.true_or, Bool.false_or, Bool.not_true, Bool.not_false, if_true, if_false, Bool.false_eq_true, reduceIte] <;> rfl))) | (simp only [hb23R, hb24R, Bool.and_true, Bool.and_false, Bool.true_and, Bool.false_and, Bool.or_true, Bool.or_false, Bool.true_or, Bool.false_or, Bool.not_true, Bool.not_false, if_true, if_false, Bool.false_eq_true, reduceIte] <;> rfl))), trivial⟩)
    have hb24R := hb24; try simp only [z1, z2, z3, z4, z5, z6, ne_eq, z7, z8, z9, z10, z11, z12] at hb24
    refine g_step rfl rfl rfl rfl (e_move (v := .lit _ _ _) rfl) trivial ?_
    refine g_step rfl rfl rfl rfl (e_move (v := .sc _) rfl) trivial ?_
    refine g_step rfl rfl rfl rfl (e_ixa rfl rfl (by kernel_rfl) (by kernel_rfl) (by simp only [List.length_map]; omega)) trivial ?_
    refine g_step rfl rfl rfl rfl (e_fa (pl := [(0, 1, false), (1, 1, false), (2, 1, false), (3, 1, false)]) rfl (by kernel_rfl) (by kernel_rfl) (by decide) rfl) trivial ?_
    refine g_step rfl rfl rfl rfl (e_load (v := .sc _) rfl (by kernel_rfl) (by kernel_rfl) (by kernel_rfl) (by simp only [List.length_map]; omega) (by decide) ((cell_map hx _).trans rfl)) trivial ?_
    refine g_call rfl rfl rfl rfl (.cons inn_sc (.cons inn_sc (.cons inn_sc .nil))) (Within _ _ _) ?_
    refine g_step rfl rfl rfl rfl (e_not rfl) trivial ?_
    refine g_step rfl rfl rfl rfl (e_pickF (v := .sc _) rfl rfl) trivial ?_
    refine g_end (ds := [28, 29, 30, 31, 32, 33, 34, 37, 38, 39, 40, 41, 42, 43]) rfl rfl (hK22 _ ?_); clear hK22 K22
    exact seq_norm (hK20 _ ⟨rfl, rfl, trivial⟩ ⟨(congrArg PV.bool (show ((!(decide ((0) ≤ x.count ∧ x.count ≤ (1000000)))) : Bool) = (((!(decide ((0) ≤ x.place ∧ x.place ≤ (99)))) || (!(decide ((0) ≤ x.state ∧ x.state ≤ (3))))) || (!(decide ((0) ≤ x.count ∧ x.count ≤ (1000000))))) by first | rfl | ((try rw [hb24R]) <;> (try rw [hb23R]) <;> (first | rfl | (simp only [Bool.and_true, Bool.and_false, Bool.true_and, Bool.false_and, Bool.or_true, Bool.or_false, Bool.true_or, Bool.false_or, Bool.not_true, Bool.not_false, if_true, if_false, Bool.false_eq_true, reduceIte] <;> rfl))) | (simp only [hb23R, hb24R, Bool.and_true, Bool.and_false, Bool.true_and, Bool.false_and, Bool.or_true, Bool.or_false, Bool.true_or, Bool.false_or, Bool.not_true, Bool.not_false, if_true, if_false, Bool.false_eq_true, reduceIte] <;> rfl))), trivial⟩)
   refine pwp_cond rfl (fun hb25 => ?_) (fun hb25 => ?_)
   ·have hb25R := hb25; try simp only [z1, z2, z3, z4, z5, z6, ne_eq, z7, z8, z9, z10, z11, z12] at hb25
    refine pwp_seq_plain rfl fun K26 hK26 => ?_
    refine p_step rfl (e_assign (v := .sc _) rfl) trivial ?_
    refine p_end (hK26 _ ?_); clear hK26 K26
    refine pwp_ret ?_
    refine ret_block ?_
    refine ret_seq ?_
    refine ret_loop ?_
    refine ret_block ?_
    refine ret_seq ?_
    refine end1 (v := .sc _) rfl ?_
    exact out_i (by rw [stockE_le (by omega), hinv, if_neg (by rw [Bool.not_eq_false]; assumption), if_pos (by unfold badS; omega)])
   have hb25R := hb25; try simp only [z1, z2, z3, z4, z5, z6, ne_eq, z7, z8, z9, z10, z11, z12] at hb25
   refine pwp_skip ?_
   refine block_norm ?_
   refine seq_norm (hK15 _ ?_); clear hK15 K15
   refine pwp_plain rfl fun K27 hK27 => ?_
   refine p_step rfl (e_move (v := .sc _) rfl) trivial ?_
   refine p_step rfl (e_add rfl rfl (by omega)) trivial ?_
   refine p_step rfl (e_assign (v := .sc _) rfl) trivial ?_
   refine p_end (hK27 _ ?_); clear hK27 K27
   rw [if_neg (by rw [Bool.not_eq_false]; assumption), if_neg (by unfold badS; omega)] at hinv
   exact loop_again (k + 1) (by show _ < _; omega) ⟨rfl, trivial⟩ ⟨rfl, trivial⟩ (by exact ⟨by show _ + 1 ≤ _; omega, by exact hinv⟩)
  have hb14R := hb14; try simp only [z1, z2, z3, z4, z5, z6, ne_eq, z7, z8, z9, z10, z11, z12] at hb14
  obtain rfl : k = xs.length := by omega
  rw [List.drop_length] at hinv; simp only [goS] at hinv
  refine pwp_exit ?_
  refine exit_seq ?_
  clear hK13 K13
  refine exit_loop ?_
  refine exit_here ?_
  refine seq_norm (hK7 _ ?_); clear hK7 K7
  refine pwp_seq_plain rfl fun K28 hK28 => ?_
  refine p_step rfl (e_assign (v := .sc _) rfl) trivial ?_
  refine p_end (hK28 _ ?_); clear hK28 K28
  refine pwp_ret ?_
  refine end1 (v := .sc _) rfl ?_
  exact out_i (by rw [stockE_le (by omega), hinv])

theorem fr18 : (inFrame Try.f18.ntmps (Try.f18.body.getD .skip) && Try.f18.results.toList.all (resScope Try.f18.ntmps)) = true := by kernel_rfl
theorem ShortS (xs : List Stock) (hl : xs.length ≤ 9223372036854775807) : PCalls Try.prog 18 [.lit true 4 (xs.map Stock.enc)] (.bool (shortB xs)) := by
  refine PCalls.of_code Try.func18 rfl rfl (by kernel_rfl) mixed fr18 (by show _ ≤ 30; simp) (.sc _) ?_
  refine pwp_seq_plain rfl fun K1 hK1 => ?_
  refine p_step rfl (e_assign (v := .sc _) rfl) trivial ?_
  refine p_end (hK1 _ ?_); clear hK1 K1
  refine pwp_seq_seq ?_
  refine pwp_seq_gops rfl fun K2 hK2 => ?_
  refine g_begin ?_
  refine g_step rfl rfl rfl rfl (e_move (v := .lit _ _ _) rfl) trivial ?_
  refine g_step rfl rfl rfl rfl (e_len rfl (by kernel_rfl)) trivial ?_
  refine g_step rfl rfl rfl rfl (e_gt rfl rfl) trivial ?_
  refine g_step rfl rfl rfl rfl (e_move (v := .sc _) rfl) trivial ?_
  refine g_cases (fun hb3 => ?_) (fun hb3 => ?_)
  ·have hb3R := hb3; try simp only [z1, z2, z3, z4, z5, z6, ne_eq, z7, z8, z9, z10, z11, z12] at hb3
   refine g_step rfl rfl rfl rfl (e_move (v := .lit _ _ _) rfl) trivial ?_
   refine g_step rfl rfl rfl rfl (e_len rfl (by kernel_rfl)) trivial ?_
   refine g_step rfl rfl rfl rfl (e_le rfl rfl) trivial ?_
   refine g_step rfl rfl rfl rfl (e_pickT (v := .sc _) rfl rfl) trivial ?_
   refine g_step rfl rfl rfl rfl (e_move (v := .sc _) rfl) trivial ?_
   refine g_cases (fun hb4 => ?_) (fun hb4 => ?_)
   ·have hb4R := hb4; try simp only [z1, z2, z3, z4, z5, z6, ne_eq, z7, z8, z9, z10, z11, z12] at hb4
    refine g_skip rfl rfl rfl ?_
    refine g_skip rfl rfl rfl ?_
    refine g_skip rfl rfl rfl ?_
    refine g_step rfl rfl rfl rfl (e_pickT (v := .sc _) rfl rfl) trivial ?_
    refine g_end (ds := [8, 9, 10, 13, 14, 15]) rfl rfl (hK2 _ ?_); clear hK2 K2
    refine pwp_seq_cond (t := true) rfl fun K5 hK5 => ⟨fun _ => ?_, nofun⟩
    refine pwp_seq_plain rfl fun K6 hK6 => ?_
    refine p_step rfl (e_assign (v := .sc _) rfl) trivial ?_
    refine p_end (hK6 _ ?_); clear hK6 K6
    refine pwp_ret ?_
    refine ret_seq ?_
    refine end1 (v := .sc _) rfl ?_
    exact out_b (short_len (by omega))
   have hb4R := hb4; try simp only [z1, z2, z3, z4, z5, z6, ne_eq, z7, z8, z9, z10, z11, z12] at hb4
   refine g_step rfl rfl rfl rfl (e_move (v := .lit _ _ _) rfl) trivial ?_
   refine g_step rfl rfl rfl rfl (e_len rfl (by kernel_rfl)) trivial ?_
   refine g_step rfl rfl rfl rfl (e_gt rfl rfl) trivial ?_
   refine g_step rfl rfl rfl rfl (e_pickF (v := .sc _) rfl rfl) trivial ?_
   refine g_end (ds := [8, 9, 10, 13, 14, 15]) rfl rfl (hK2 _ ?_); clear hK2 K2
   refine pwp_seq_cond rfl fun K7 hK7 => ⟨fun hb8 => ?_, fun hb8 => ?_⟩
   ·have hb8R := hb8; try simp only [z1, z2, z3, z4, z5, z6, ne_eq, z7, z8, z9, z10, z11, z12] at hb8
    refine pwp_seq_plain rfl fun K9 hK9 => ?_
    refine p_step rfl (e_assign (v := .sc _) rfl) trivial ?_
    refine p_end (hK9 _ ?_); clear hK9 K9
    refine pwp_ret ?_
    refine ret_seq ?_
    refine end1 (v := .sc _) rfl ?_
    exact out_b (short_len (by omega))
   have hb8R := hb8; try simp only [z1, z2, z3, z4, z5, z6, ne_eq, z7, z8, z9, z10, z11, z12] at hb8
   refine pwp_skip ?_
   refine seq_norm (hK7 _ ?_); clear hK7 K7
   refine pwp_seq_seq ?_
   refine pwp_seq_plain rfl fun K10 hK10 => ?_
   refine p_step rfl (e_assign (v := .sc _) rfl) trivial ?_
   refine p_end (hK10 _ ?_); clear hK10 K10
   refine pwp_seq_block fun K11 hK11 => ?_
   refine pwp_loopR (α := Nat) [0] (fun (k : Nat) => [(3, .int (k))]) (fun (k : Nat) (h : Heap) (_ : Nat → Nat) => ((k) ≤ xs.length) ∧ (∀ x ∈ xs.take (k), x.part.size ≤ 30)) (fun (k : Nat) => xs.length - (k)) (0) (by exact ⟨rfl, trivial⟩) (by exact ⟨by exact Nat.zero_le _, by simp⟩) fun k r12 h13 c14 hj15 => ?_
   obtain ⟨hk, hq⟩ := hj15
   try dsimp only at hk
   try dsimp only at hq
   show pwp _ _ (loopQ _ _ _) ⟨sets (mix _ _ _) [(3, .int k)], _, _⟩
   refine pwp_seq_seq ?_
   refine pwp_seq_plain rfl fun K16 hK16 => ?_
   refine p_step rfl (e_move (v := .sc _) rfl) trivial ?_
   refine p_step rfl (e_move (v := .lit _ _ _) rfl) trivial ?_
   refine p_step rfl (e_len rfl (by kernel_rfl)) trivial ?_
   refine p_step rfl (e_lt rfl rfl) trivial ?_
   refine p_end (hK16 _ ?_); clear hK16 K16
   refine pwp_seq_cond rfl fun K17 hK17 => ⟨fun hb18 => ?_, fun hb18 => ?_⟩
   ·have hb18R := hb18; try simp only [z1, z2, z3, z4, z5, z6, ne_eq, z7, z8, z9, z10, z11, z12] at hb18
    obtain ⟨x, hx, hd, ht⟩ := get_lt (xs := xs) (i := k) (by omega)
    refine pwp_skip ?_
    refine seq_norm (hK17 _ ?_); clear hK17 K17
    refine pwp_seq_block fun K19 hK19 => ?_
    refine pwp_seq_plain rfl fun K20 hK20 => ?_
    refine p_step rfl (e_move (v := .lit _ _ _) rfl) trivial ?_
    refine p_step rfl (e_move (v := .sc _) rfl) trivial ?_
    refine p_step rfl (e_ixa rfl rfl (by kernel_rfl) (by kernel_rfl) (by simp only [List.length_map]; omega)) trivial ?_
    refine p_step rfl (e_fa (pl := [(0, 1, false), (1, 1, false), (2, 1, false), (3, 1, false)]) rfl (by kernel_rfl) (by kernel_rfl) (by decide) rfl) trivial ?_
    refine p_step rfl (e_load (v := .sc _) rfl (by kernel_rfl) (by kernel_rfl) (by kernel_rfl) (by simp only [List.length_map]; omega) (by decide) ((cell_map hx _).trans rfl)) trivial ?_
    refine p_step rfl (e_lenS rfl (by kernel_rfl)) trivial ?_
    refine p_step rfl (e_gt rfl rfl) trivial ?_
    refine p_end (hK20 _ ?_); clear hK20 K20
    refine pwp_cond rfl (fun hb21 => ?_) (fun hb21 => ?_)
    ·have hb21R := hb21; try simp only [z1, z2, z3, z4, z5, z6, ne_eq, z7, z8, z9, z10, z11, z12] at hb21
     refine pwp_seq_plain rfl fun K22 hK22 => ?_
     refine p_step rfl (e_assign (v := .sc _) rfl) trivial ?_
     refine p_end (hK22 _ ?_); clear hK22 K22
     refine pwp_ret ?_
     refine ret_block ?_
     refine ret_seq ?_
     refine ret_loop ?_
     refine ret_block ?_
     refine ret_seq ?_
     refine end1 (v := .sc _) rfl ?_
     exact out_b (short_x hx (by omega))
    have hb21R := hb21; try simp only [z1, z2, z3, z4, z5, z6, ne_eq, z7, z8, z9, z10, z11, z12] at hb21
    refine pwp_skip ?_
    refine block_norm ?_
    refine seq_norm (hK19 _ ?_); clear hK19 K19
    refine pwp_plain rfl fun K23 hK23 => ?_
    refine p_step rfl (e_move (v := .sc _) rfl) trivial ?_
    refine p_step rfl (e_add rfl rfl (by omega)) trivial ?_
    refine p_step rfl (e_assign (v := .sc _) rfl) trivial ?_
    refine p_end (hK23 _ ?_); clear hK23 K23
    exact loop_again (k + 1) (by show _ < _; omega) ⟨rfl, trivial⟩ ⟨rfl, trivial⟩ (by exact ⟨by show _ + 1 ≤ _; omega, by exact all_snocS ht hq (by omega)⟩)
   have hb18R := hb18; try simp only [z1, z2, z3, z4, z5, z6, ne_eq, z7, z8, z9, z10, z11, z12] at hb18
   obtain rfl : k = xs.length := by omega
   refine pwp_exit ?_
   refine exit_seq ?_
   clear hK17 K17
   refine exit_loop ?_
   refine exit_here ?_
   refine seq_norm (hK11 _ ?_); clear hK11 K11
   refine pwp_seq_plain rfl fun K24 hK24 => ?_
   refine p_step rfl (e_assign (v := .sc _) rfl) trivial ?_
   refine p_end (hK24 _ ?_); clear hK24 K24
   refine pwp_ret ?_
   refine end1 (v := .sc _) rfl ?_
   exact out_b (short_ok (by omega) hq)
  have hb3R := hb3; try simp only [z1, z2, z3, z4, z5, z6, ne_eq, z7, z8, z9, z10, z11, z12] at hb3
  refine g_skip rfl rfl rfl ?_
  refine g_skip rfl rfl rfl ?_
  refine g_skip rfl rfl rfl ?_
  refine g_step rfl rfl rfl rfl (e_pickF (v := .sc _) rfl rfl) trivial ?_
  refine g_step rfl rfl rfl rfl (e_move (v := .sc _) rfl) trivial ?_
  refine g_step rfl rfl rfl rfl (e_move (v := .lit _ _ _) rfl) trivial ?_
  refine g_step rfl rfl rfl rfl (e_len rfl (by kernel_rfl)) trivial ?_
  refine g_step rfl rfl rfl rfl (e_gt rfl rfl) trivial ?_
  refine g_step rfl rfl rfl rfl (e_pickF (v := .sc _) rfl rfl) trivial ?_
  refine g_end (ds := [8, 9, 10, 13, 14, 15]) rfl rfl (hK2 _ ?_); clear hK2 K2
  refine pwp_seq_cond rfl fun K25 hK25 => ⟨fun hb26 => ?_, fun hb26 => ?_⟩
  ·have hb26R := hb26; try simp only [z1, z2, z3, z4, z5, z6, ne_eq, z7, z8, z9, z10, z11, z12] at hb26
   refine pwp_seq_plain rfl fun K27 hK27 => ?_
   refine p_step rfl (e_assign (v := .sc _) rfl) trivial ?_
   refine p_end (hK27 _ ?_); clear hK27 K27
   refine pwp_ret ?_
   refine ret_seq ?_
   refine end1 (v := .sc _) rfl ?_
   exact out_b (short_len (by omega))
  have hb26R := hb26; try simp only [z1, z2, z3, z4, z5, z6, ne_eq, z7, z8, z9, z10, z11, z12] at hb26
  refine pwp_skip ?_
  refine seq_norm (hK25 _ ?_); clear hK25 K25
  refine pwp_seq_seq ?_
  refine pwp_seq_plain rfl fun K28 hK28 => ?_
  refine p_step rfl (e_assign (v := .sc _) rfl) trivial ?_
  refine p_end (hK28 _ ?_); clear hK28 K28
  refine pwp_seq_block fun K29 hK29 => ?_
  refine pwp_loopR (α := Nat) [0] (fun (k : Nat) => [(3, .int (k))]) (fun (k : Nat) (h : Heap) (_ : Nat → Nat) => ((k) ≤ xs.length) ∧ (∀ x ∈ xs.take (k), x.part.size ≤ 30)) (fun (k : Nat) => xs.length - (k)) (0) (by exact ⟨rfl, trivial⟩) (by exact ⟨by exact Nat.zero_le _, by simp⟩) fun k r30 h31 c32 hj33 => ?_
  obtain ⟨hk, hq⟩ := hj33
  try dsimp only at hk
  try dsimp only at hq
  show pwp _ _ (loopQ _ _ _) ⟨sets (mix _ _ _) [(3, .int k)], _, _⟩
  refine pwp_seq_seq ?_
  refine pwp_seq_plain rfl fun K34 hK34 => ?_
  refine p_step rfl (e_move (v := .sc _) rfl) trivial ?_
  refine p_step rfl (e_move (v := .lit _ _ _) rfl) trivial ?_
  refine p_step rfl (e_len rfl (by kernel_rfl)) trivial ?_
  refine p_step rfl (e_lt rfl rfl) trivial ?_
  refine p_end (hK34 _ ?_); clear hK34 K34
  refine pwp_seq_cond rfl fun K35 hK35 => ⟨fun hb36 => ?_, fun hb36 => ?_⟩
  ·have hb36R := hb36; try simp only [z1, z2, z3, z4, z5, z6, ne_eq, z7, z8, z9, z10, z11, z12] at hb36
   obtain ⟨x, hx, hd, ht⟩ := get_lt (xs := xs) (i := k) (by omega)
   refine pwp_skip ?_
   refine seq_norm (hK35 _ ?_); clear hK35 K35
   refine pwp_seq_block fun K37 hK37 => ?_
   refine pwp_seq_plain rfl fun K38 hK38 => ?_
   refine p_step rfl (e_move (v := .lit _ _ _) rfl) trivial ?_
   refine p_step rfl (e_move (v := .sc _) rfl) trivial ?_
   refine p_step rfl (e_ixa rfl rfl (by kernel_rfl) (by kernel_rfl) (by simp only [List.length_map]; omega)) trivial ?_
   refine p_step rfl (e_fa (pl := [(0, 1, false), (1, 1, false), (2, 1, false), (3, 1, false)]) rfl (by kernel_rfl) (by kernel_rfl) (by decide) rfl) trivial ?_
   refine p_step rfl (e_load (v := .sc _) rfl (by kernel_rfl) (by kernel_rfl) (by kernel_rfl) (by simp only [List.length_map]; omega) (by decide) ((cell_map hx _).trans rfl)) trivial ?_
   refine p_step rfl (e_lenS rfl (by kernel_rfl)) trivial ?_
   refine p_step rfl (e_gt rfl rfl) trivial ?_
   refine p_end (hK38 _ ?_); clear hK38 K38
   refine pwp_cond rfl (fun hb39 => ?_) (fun hb39 => ?_)
   ·have hb39R := hb39; try simp only [z1, z2, z3, z4, z5, z6, ne_eq, z7, z8, z9, z10, z11, z12] at hb39
    refine pwp_seq_plain rfl fun K40 hK40 => ?_
    refine p_step rfl (e_assign (v := .sc _) rfl) trivial ?_
    refine p_end (hK40 _ ?_); clear hK40 K40
    refine pwp_ret ?_
    refine ret_block ?_
    refine ret_seq ?_
    refine ret_loop ?_
    refine ret_block ?_
    refine ret_seq ?_
    refine end1 (v := .sc _) rfl ?_
    exact out_b (short_x hx (by omega))
   have hb39R := hb39; try simp only [z1, z2, z3, z4, z5, z6, ne_eq, z7, z8, z9, z10, z11, z12] at hb39
   refine pwp_skip ?_
   refine block_norm ?_
   refine seq_norm (hK37 _ ?_); clear hK37 K37
   refine pwp_plain rfl fun K41 hK41 => ?_
   refine p_step rfl (e_move (v := .sc _) rfl) trivial ?_
   refine p_step rfl (e_add rfl rfl (by omega)) trivial ?_
   refine p_step rfl (e_assign (v := .sc _) rfl) trivial ?_
   refine p_end (hK41 _ ?_); clear hK41 K41
   exact loop_again (k + 1) (by show _ < _; omega) ⟨rfl, trivial⟩ ⟨rfl, trivial⟩ (by exact ⟨by show _ + 1 ≤ _; omega, by exact all_snocS ht hq (by omega)⟩)
  have hb36R := hb36; try simp only [z1, z2, z3, z4, z5, z6, ne_eq, z7, z8, z9, z10, z11, z12] at hb36
  obtain rfl : k = xs.length := by omega
  refine pwp_exit ?_
  refine exit_seq ?_
  clear hK35 K35
  refine exit_loop ?_
  refine exit_here ?_
  refine seq_norm (hK29 _ ?_); clear hK29 K29
  refine pwp_seq_plain rfl fun K42 hK42 => ?_
  refine p_step rfl (e_assign (v := .sc _) rfl) trivial ?_
  refine p_end (hK42 _ ?_); clear hK42 K42
  refine pwp_ret ?_
  refine end1 (v := .sc _) rfl ?_
  exact out_b (short_ok (by omega) hq)

theorem fr26 : (inFrame Try.f26.ntmps (Try.f26.body.getD .skip) && Try.f26.results.toList.all (resScope Try.f26.ntmps)) = true := by kernel_rfl
theorem refCount (xs : List Stock) (p : ByteArray) (z : At) (hl : xs.length ≤ 1000000) (hc : ∀ x ∈ xs, -1000000000 ≤ x.count ∧ x.count ≤ 1000000000) : PCalls Try.prog 26 [.lit true 4 (xs.map Stock.enc), .str p, .agg z.enc] (.int (cntA ⟨p, z.a0, z.a1⟩ 0 xs)) := by
  refine PCalls.of_code Try.func26 rfl rfl (by kernel_rfl) mixed fr26 (by show _ ≤ 50; simp) (.sc _) ?_
  refine pwp_seq_plain rfl fun K1 hK1 => ?_
  refine p_new rfl (e_box (n := 2) rfl rfl) ⟨rfl, by decide⟩ ?_
  refine p_step rfl (e_assign (v := .sc _) rfl) trivial ?_
  refine p_end (hK1 _ ?_); clear hK1 K1
  refine pwp_seq_plain rfl fun K2 hK2 => ?_
  refine p_step rfl (e_assign (v := .sc _) rfl) trivial ?_
  refine p_end (hK2 _ ?_); clear hK2 K2
  refine pwp_seq_seq ?_
  refine pwp_seq_plain rfl fun K3 hK3 => ?_
  refine p_step rfl (e_assign (v := .sc _) rfl) trivial ?_
  refine p_end (hK3 _ ?_); clear hK3 K3
  refine pwp_seq_block fun K4 hK4 => ?_
  refine pwp_loopR (α := Nat × Int) [0, 1, 5] (fun (a5 : Nat × Int) => [(7, .int (a5.2)), (8, .int (a5.1))]) (fun (a5 : Nat × Int) (h : Heap) (_ : Nat → Nat) => ((a5.1) ≤ xs.length) ∧ (cntA ⟨p, z.a0, z.a1⟩ 0 xs = cntA ⟨p, z.a0, z.a1⟩ (a5.2) (xs.drop (a5.1))) ∧ (-1000000000 * ((a5.1) : Int) ≤ (a5.2) ∧ (a5.2) ≤ 1000000000 * ((a5.1) : Int)) ∧ (h (5, 0) = some (.rows 2 [At.enc z]))) (fun (a5 : Nat × Int) => xs.length - (a5.1)) (0, 0) (by exact ⟨rfl, rfl, trivial⟩) (by exact ⟨by exact Nat.zero_le _, by exact rfl, by exact ⟨by simp, by simp⟩, (hset_self _ _ _)⟩) fun a5 r6 h7 c8 hj9 => ?_
  obtain ⟨k, s⟩ := a5
  obtain ⟨hk, hinv, hb, hihj9_0⟩ := hj9
  try dsimp only at hk
  try dsimp only at hinv
  try dsimp only at hb
  try dsimp only at hihj9_0
  show pwp _ _ (loopQ _ _ _) ⟨sets (mix _ _ _) [(7, .int s), (8, .int k)], _, _⟩
  refine pwp_seq_seq ?_
  refine pwp_seq_plain rfl fun K10 hK10 => ?_
  refine p_step rfl (e_move (v := .sc _) rfl) trivial ?_
  refine p_step rfl (e_move (v := .lit _ _ _) rfl) trivial ?_
  refine p_step rfl (e_len rfl (by kernel_rfl)) trivial ?_
  refine p_step rfl (e_lt rfl rfl) trivial ?_
  refine p_end (hK10 _ ?_); clear hK10 K10
  refine pwp_seq_cond rfl fun K11 hK11 => ⟨fun hb12 => ?_, fun hb12 => ?_⟩
  ·have hb12R := hb12; try simp only [z1, z2, z3, z4, z5, z6, ne_eq, z7, z8, z9, z10, z11, z12] at hb12
   obtain ⟨x, hx, hd, ht⟩ := get_lt (xs := xs) (i := k) (by omega)
   rw [hd] at hinv
   have hxm := hc x (List.mem_of_getElem? hx)
   refine pwp_skip ?_
   refine seq_norm (hK11 _ ?_); clear hK11 K11
   refine pwp_seq_block fun K13 hK13 => ?_
   refine pwp_seq_gops rfl fun K14 hK14 => ?_
   refine g_begin ?_
   refine g_step rfl rfl rfl rfl (e_move (v := .lit _ _ _) rfl) trivial ?_
   refine g_step rfl rfl rfl rfl (e_move (v := .sc _) rfl) trivial ?_
   refine g_step rfl rfl rfl rfl (e_ixa rfl rfl (by kernel_rfl) (by kernel_rfl) (by simp only [List.length_map]; omega)) trivial ?_
   refine g_step rfl rfl rfl rfl (e_fa (pl := [(0, 1, false), (1, 1, false), (2, 1, false), (3, 1, false)]) rfl (by kernel_rfl) (by kernel_rfl) (by decide) rfl) trivial ?_
   refine g_step rfl rfl rfl rfl (e_load (v := .sc _) rfl (by kernel_rfl) (by kernel_rfl) (by kernel_rfl) (by simp only [List.length_map]; omega) (by decide) ((cell_map hx _).trans rfl)) trivial ?_
   refine g_step rfl rfl rfl rfl (e_move (v := .sc _) rfl) trivial ?_
   refine g_step rfl rfl rfl rfl (e_seq rfl rfl) trivial ?_
   refine g_step rfl rfl rfl rfl (e_move (v := .sc _) rfl) trivial ?_
   refine g_cases (fun hb15 => ?_) (fun hb15 => ?_)
   ·have hb15R := hb15; try simp only [z1, z2, z3, z4, z5, z6, ne_eq, z7, z8, z9, z10, z11, z12] at hb15
    refine g_step rfl rfl rfl rfl (e_move (v := .lit _ _ _) rfl) trivial ?_
    refine g_step rfl rfl rfl rfl (e_move (v := .sc _) rfl) trivial ?_
    refine g_step rfl rfl rfl rfl (e_ixa rfl rfl (by kernel_rfl) (by kernel_rfl) (by simp only [List.length_map]; omega)) trivial ?_
    refine g_step rfl rfl rfl rfl (e_fa (pl := [(0, 1, false), (1, 1, false), (2, 1, false), (3, 1, false)]) rfl (by kernel_rfl) (by kernel_rfl) (by decide) rfl) trivial ?_
    refine g_step rfl rfl rfl rfl (e_load (v := .sc _) rfl (by kernel_rfl) (by kernel_rfl) (by kernel_rfl) (by simp only [List.length_map]; omega) (by decide) ((cell_map hx _).trans rfl)) trivial ?_
    refine g_step rfl rfl rfl rfl (e_ixaP (n := 2) (e := 3) rfl rfl (by kernel_rfl) (by kernel_rfl) (by omega)) trivial ?_
    refine g_step rfl rfl rfl rfl (e_loadH (v := .sc _) rfl hihj9_0 (by kernel_rfl) (by kernel_rfl) (by kernel_rfl) (by exact Nat.zero_lt_one) (by decide) rfl) trivial ?_
    refine g_step rfl rfl rfl rfl (e_eq rfl rfl) trivial ?_
    refine g_step rfl rfl rfl rfl (e_pickT (v := .sc _) rfl rfl) trivial ?_
    refine g_step rfl rfl rfl rfl (e_move (v := .sc _) rfl) trivial ?_
    refine g_cases (fun hb16 => ?_) (fun hb16 => ?_)
    ·have hb16R := hb16; try simp only [z1, z2, z3, z4, z5, z6, ne_eq, z7, z8, z9, z10, z11, z12] at hb16
     refine g_step rfl rfl rfl rfl (e_move (v := .lit _ _ _) rfl) trivial ?_
     refine g_step rfl rfl rfl rfl (e_move (v := .sc _) rfl) trivial ?_
     refine g_step rfl rfl rfl rfl (e_ixa rfl rfl (by kernel_rfl) (by kernel_rfl) (by simp only [List.length_map]; omega)) trivial ?_
     refine g_step rfl rfl rfl rfl (e_fa (pl := [(0, 1, false), (1, 1, false), (2, 1, false), (3, 1, false)]) rfl (by kernel_rfl) (by kernel_rfl) (by decide) rfl) trivial ?_
     refine g_step rfl rfl rfl rfl (e_load (v := .sc _) rfl (by kernel_rfl) (by kernel_rfl) (by kernel_rfl) (by simp only [List.length_map]; omega) (by decide) ((cell_map hx _).trans rfl)) trivial ?_
     refine g_step rfl rfl rfl rfl (e_ixaP (n := 2) (e := 3) rfl rfl (by kernel_rfl) (by kernel_rfl) (by omega)) trivial ?_
     refine g_step rfl rfl rfl rfl (e_loadH (v := .sc _) rfl hihj9_0 (by kernel_rfl) (by kernel_rfl) (by kernel_rfl) (by exact Nat.zero_lt_one) (by decide) rfl) trivial ?_
     refine g_step rfl rfl rfl rfl (e_eq rfl rfl) trivial ?_
     refine g_step rfl rfl rfl rfl (e_pickT (v := .sc _) rfl rfl) trivial ?_
     refine g_endR (ds := [23, 24, 25, 26, 27, 28, 29, 30, 33, 34, 35, 36, 37, 38, 39, 40]) [0, 0, 3, 7, 15, 0, 63, 127, 255, 255, 1023, 2047, 4095, 255, 8447, 32767, 65535, 131071, 262143, 262143, 1048575, 2097151, 4194303, 262143, 8650751, 33554431, 67108863] (by kernel_rfl) rfl (hK14 _ ?_); clear hK14 K14
     refine pwp_cond rfl (fun hb17 => ?_) (fun hb17 => ?_)
     ·have hb17R := hb17; try simp only [z1, z2, z3, z4, z5, z6, ne_eq, z7, z8, z9, z10, z11, z12] at hb17
      refine pwp_plain rfl fun K18 hK18 => ?_
      refine p_step rfl (e_move (v := .sc _) rfl) trivial ?_
      refine p_step rfl (e_move (v := .lit _ _ _) rfl) trivial ?_
      refine p_step rfl (e_move (v := .sc _) rfl) trivial ?_
      refine p_step rfl (e_ixa rfl rfl (by kernel_rfl) (by kernel_rfl) (by simp only [List.length_map]; omega)) trivial ?_
      refine p_step rfl (e_fa (pl := [(0, 1, false), (1, 1, false), (2, 1, false), (3, 1, false)]) rfl (by kernel_rfl) (by kernel_rfl) (by decide) rfl) trivial ?_
      refine p_step rfl (e_load (v := .sc _) rfl (by kernel_rfl) (by kernel_rfl) (by kernel_rfl) (by simp only [List.length_map]; omega) (by decide) ((cell_map hx _).trans rfl)) trivial ?_
      refine p_step rfl (e_add rfl rfl (by omega)) trivial ?_
      refine p_step rfl (e_assign (v := .sc _) rfl) trivial ?_
      refine p_end (hK18 _ ?_); clear hK18 K18
      refine block_norm ?_
      refine seq_norm (hK13 _ ?_); clear hK13 K13
      refine pwp_plain rfl fun K19 hK19 => ?_
      refine p_step rfl (e_move (v := .sc _) rfl) trivial ?_
      refine p_step rfl (e_add rfl rfl (by omega)) trivial ?_
      refine p_step rfl (e_assign (v := .sc _) rfl) trivial ?_
      refine p_end (hK19 _ ?_); clear hK19 K19
      exact loop_again ((k + 1, (s + x.count))) (by show _ < _; simp only; omega) ⟨rfl, rfl, rfl, trivial⟩ ⟨rfl, rfl, trivial⟩ (by exact ⟨by show _ + 1 ≤ _; omega, by first | exact cnt_t hinv ⟨by assumption, by omega, by omega⟩ | exact cnt_f hinv (by rintro ⟨q1, q2, q3⟩; first | omega | exact absurd q1 (by assumption)), by first | (show -1000000000 * ((k + 1 : Nat) : Int) ≤ s + x.count ∧ s + x.count ≤ 1000000000 * ((k + 1 : Nat) : Int); omega) | (show -1000000000 * ((k + 1 : Nat) : Int) ≤ s ∧ s ≤ 1000000000 * ((k + 1 : Nat) : Int); omega), hihj9_0⟩)
     have hb17R := hb17; try simp only [z1, z2, z3, z4, z5, z6, ne_eq, z7, z8, z9, z10, z11, z12] at hb17
     refine pwp_skip ?_
     refine block_norm ?_
     refine seq_norm (hK13 _ ?_); clear hK13 K13
     refine pwp_plain rfl fun K20 hK20 => ?_
     refine p_step rfl (e_move (v := .sc _) rfl) trivial ?_
     refine p_step rfl (e_add rfl rfl (by omega)) trivial ?_
     refine p_step rfl (e_assign (v := .sc _) rfl) trivial ?_
     refine p_end (hK20 _ ?_); clear hK20 K20
     exact loop_again ((k + 1, s)) (by show _ < _; simp only; omega) ⟨rfl, rfl, rfl, trivial⟩ ⟨rfl, rfl, trivial⟩ (by exact ⟨by show _ + 1 ≤ _; omega, by first | exact cnt_t hinv ⟨by assumption, by omega, by omega⟩ | exact cnt_f hinv (by rintro ⟨q1, q2, q3⟩; first | omega | exact absurd q1 (by assumption)), by first | (show -1000000000 * ((k + 1 : Nat) : Int) ≤ s + x.count ∧ s + x.count ≤ 1000000000 * ((k + 1 : Nat) : Int); omega) | (show -1000000000 * ((k + 1 : Nat) : Int) ≤ s ∧ s ≤ 1000000000 * ((k + 1 : Nat) : Int); omega), hihj9_0⟩)
    have hb16R := hb16; try simp only [z1, z2, z3, z4, z5, z6, ne_eq, z7, z8, z9, z10, z11, z12] at hb16
    refine g_skip rfl rfl rfl ?_
    refine g_skip rfl rfl rfl ?_
    refine g_skip rfl rfl rfl ?_
    refine g_skip rfl rfl rfl ?_
    refine g_skip rfl rfl rfl ?_
    refine g_skip rfl rfl rfl ?_
    refine g_skip rfl rfl rfl ?_
    refine g_skip rfl rfl rfl ?_
    refine g_step rfl rfl rfl rfl (e_pickF (v := .sc _) rfl rfl) trivial ?_
    refine g_endR (ds := [23, 24, 25, 26, 27, 28, 29, 30, 33, 34, 35, 36, 37, 38, 39, 40]) [0, 0, 3, 7, 15, 0, 63, 127, 255, 255, 1023, 2047, 4095, 255, 8447, 32767, 65535, 131071, 262143, 262143, 1048575, 2097151, 4194303, 262143, 8650751, 33554431, 67108863] (by kernel_rfl) rfl (hK14 _ ?_); clear hK14 K14
    refine pwp_cond (t := false) rfl nofun (fun _ => ?_)
    refine pwp_skip ?_
    refine block_norm ?_
    refine seq_norm (hK13 _ ?_); clear hK13 K13
    refine pwp_plain rfl fun K21 hK21 => ?_
    refine p_step rfl (e_move (v := .sc _) rfl) trivial ?_
    refine p_step rfl (e_add rfl rfl (by omega)) trivial ?_
    refine p_step rfl (e_assign (v := .sc _) rfl) trivial ?_
    refine p_end (hK21 _ ?_); clear hK21 K21
    exact loop_again ((k + 1, s)) (by show _ < _; simp only; omega) ⟨rfl, rfl, rfl, trivial⟩ ⟨rfl, rfl, trivial⟩ (by exact ⟨by show _ + 1 ≤ _; omega, by first | exact cnt_t hinv ⟨by assumption, by omega, by omega⟩ | exact cnt_f hinv (by rintro ⟨q1, q2, q3⟩; first | omega | exact absurd q1 (by assumption)), by first | (show -1000000000 * ((k + 1 : Nat) : Int) ≤ s + x.count ∧ s + x.count ≤ 1000000000 * ((k + 1 : Nat) : Int); omega) | (show -1000000000 * ((k + 1 : Nat) : Int) ≤ s ∧ s ≤ 1000000000 * ((k + 1 : Nat) : Int); omega), hihj9_0⟩)
   have hb15R := hb15; try simp only [z1, z2, z3, z4, z5, z6, ne_eq, z7, z8, z9, z10, z11, z12] at hb15
   refine g_skip rfl rfl rfl ?_
   refine g_skip rfl rfl rfl ?_
   refine g_skip rfl rfl rfl ?_
   refine g_skip rfl rfl rfl ?_
   refine g_skip rfl rfl rfl ?_
   refine g_skip rfl rfl rfl ?_
   refine g_skip rfl rfl rfl ?_
   refine g_skip rfl rfl rfl ?_
   refine g_step rfl rfl rfl rfl (e_pickF (v := .sc _) rfl rfl) trivial ?_
   refine g_step rfl rfl rfl rfl (e_move (v := .sc _) rfl) trivial ?_
   refine g_skip rfl rfl rfl ?_
   refine g_skip rfl rfl rfl ?_
   refine g_skip rfl rfl rfl ?_
   refine g_skip rfl rfl rfl ?_
   refine g_skip rfl rfl rfl ?_
   refine g_skip rfl rfl rfl ?_
   refine g_skip rfl rfl rfl ?_
   refine g_skip rfl rfl rfl ?_
   refine g_step rfl rfl rfl rfl (e_pickF (v := .sc _) rfl rfl) trivial ?_
   refine g_endR (ds := [23, 24, 25, 26, 27, 28, 29, 30, 33, 34, 35, 36, 37, 38, 39, 40]) [0, 0, 3, 7, 15, 0, 63, 127, 255, 255, 1023, 2047, 4095, 255, 8447, 32767, 65535, 131071, 262143, 262143, 1048575, 2097151, 4194303, 262143, 8650751, 33554431, 67108863] (by kernel_rfl) rfl (hK14 _ ?_); clear hK14 K14
   refine pwp_cond (t := false) rfl nofun (fun _ => ?_)
   refine pwp_skip ?_
   refine block_norm ?_
   refine seq_norm (hK13 _ ?_); clear hK13 K13
   refine pwp_plain rfl fun K22 hK22 => ?_
   refine p_step rfl (e_move (v := .sc _) rfl) trivial ?_
   refine p_step rfl (e_add rfl rfl (by omega)) trivial ?_
   refine p_step rfl (e_assign (v := .sc _) rfl) trivial ?_
   refine p_end (hK22 _ ?_); clear hK22 K22
   exact loop_again ((k + 1, s)) (by show _ < _; simp only; omega) ⟨rfl, rfl, rfl, trivial⟩ ⟨rfl, rfl, trivial⟩ (by exact ⟨by show _ + 1 ≤ _; omega, by first | exact cnt_t hinv ⟨by assumption, by omega, by omega⟩ | exact cnt_f hinv (by rintro ⟨q1, q2, q3⟩; first | omega | exact absurd q1 (by assumption)), by first | (show -1000000000 * ((k + 1 : Nat) : Int) ≤ s + x.count ∧ s + x.count ≤ 1000000000 * ((k + 1 : Nat) : Int); omega) | (show -1000000000 * ((k + 1 : Nat) : Int) ≤ s ∧ s ≤ 1000000000 * ((k + 1 : Nat) : Int); omega), hihj9_0⟩)
  have hb12R := hb12; try simp only [z1, z2, z3, z4, z5, z6, ne_eq, z7, z8, z9, z10, z11, z12] at hb12
  obtain rfl : k = xs.length := by omega
  rw [List.drop_length] at hinv; simp only [cntA] at hinv
  refine pwp_exit ?_
  refine exit_seq ?_
  clear hK11 K11
  refine exit_loop ?_
  refine exit_here ?_
  refine seq_norm (hK4 _ ?_); clear hK4 K4
  refine pwp_seq_plain rfl fun K23 hK23 => ?_
  refine p_step rfl (e_move (v := .sc _) rfl) trivial ?_
  refine p_step rfl (e_assign (v := .sc _) rfl) trivial ?_
  refine p_end (hK23 _ ?_); clear hK23 K23
  refine pwp_ret ?_
  refine end1 (v := .sc _) rfl ?_
  exact out_i hinv.symm

theorem fr100 : (inFrame Try.f100.ntmps (Try.f100.body.getD .skip) && Try.f100.results.toList.all (resScope Try.f100.ntmps)) = true := by kernel_rfl
theorem before (a b : Stock) : PCalls Try.prog 100 [.agg a.enc, .agg b.enc] (.bool (befS a b)) := by
  refine PCalls.of_code Try.func100 rfl rfl (by kernel_rfl) mixed fr100 (by show _ ≤ 30; simp) (.sc _) ?_
  refine pwp_seq_plain rfl fun K1 hK1 => ?_
  refine p_new rfl (e_box (n := 4) rfl rfl) ⟨rfl, by decide⟩ ?_
  refine p_new rfl (e_box (n := 4) rfl rfl) ⟨rfl, by decide⟩ ?_
  refine p_step rfl (e_assign (v := .sc _) rfl) trivial ?_
  refine p_end (hK1 _ ?_); clear hK1 K1
  refine pwp_seq_seq ?_
  refine pwp_seq_plain rfl fun K2 hK2 => ?_
  refine p_step rfl (e_faP (pl := [(0, 1, false), (1, 1, false), (2, 1, false), (3, 1, false)]) rfl (by kernel_rfl) (by kernel_rfl) (by decide) rfl) trivial ?_
  refine p_step rfl (e_loadH (v := .sc _) rfl ((hset_ne (key_ne rfl)).trans (hset_self _ _ _)) (by kernel_rfl) (by kernel_rfl) (by kernel_rfl) (by exact Nat.zero_lt_one) (by decide) rfl) trivial ?_
  refine p_step rfl (e_faP (pl := [(0, 1, false), (1, 1, false), (2, 1, false), (3, 1, false)]) rfl (by kernel_rfl) (by kernel_rfl) (by decide) rfl) trivial ?_
  refine p_step rfl (e_loadH (v := .sc _) rfl (hset_self _ _ _) (by kernel_rfl) (by kernel_rfl) (by kernel_rfl) (by exact Nat.zero_lt_one) (by decide) rfl) trivial ?_
  refine p_step rfl (e_sne rfl rfl) trivial ?_
  refine p_end (hK2 _ ?_); clear hK2 K2
  refine pwp_seq_cond rfl fun K3 hK3 => ⟨fun hb4 => ?_, fun hb4 => ?_⟩
  ·have hb4R := hb4; try simp only [z1, z2, z3, z4, z5, z6, ne_eq, z7, z8, z9, z10, z11, z12] at hb4
   refine pwp_seq_plain rfl fun K5 hK5 => ?_
   refine p_step rfl (e_faP (pl := [(0, 1, false), (1, 1, false), (2, 1, false), (3, 1, false)]) rfl (by kernel_rfl) (by kernel_rfl) (by decide) rfl) trivial ?_
   refine p_step rfl (e_loadH (v := .sc _) rfl ((hset_ne (key_ne rfl)).trans (hset_self _ _ _)) (by kernel_rfl) (by kernel_rfl) (by kernel_rfl) (by exact Nat.zero_lt_one) (by decide) rfl) trivial ?_
   refine p_step rfl (e_faP (pl := [(0, 1, false), (1, 1, false), (2, 1, false), (3, 1, false)]) rfl (by kernel_rfl) (by kernel_rfl) (by decide) rfl) trivial ?_
   refine p_step rfl (e_loadH (v := .sc _) rfl (hset_self _ _ _) (by kernel_rfl) (by kernel_rfl) (by kernel_rfl) (by exact Nat.zero_lt_one) (by decide) rfl) trivial ?_
   refine p_step rfl (e_sltB rfl rfl) trivial ?_
   refine p_step rfl (e_assign (v := .sc _) rfl) trivial ?_
   refine p_end (hK5 _ ?_); clear hK5 K5
   refine pwp_ret ?_
   refine ret_seq ?_
   refine end1 (v := .sc _) rfl ?_
   exact out_b (befS_1 (by assumption))
  have hb4R := hb4; try simp only [z1, z2, z3, z4, z5, z6, ne_eq, z7, z8, z9, z10, z11, z12] at hb4
  refine pwp_skip ?_
  refine seq_norm (hK3 _ ?_); clear hK3 K3
  refine pwp_seq_seq ?_
  refine pwp_seq_plain rfl fun K6 hK6 => ?_
  refine p_step rfl (e_faP (pl := [(0, 1, false), (1, 1, false), (2, 1, false), (3, 1, false)]) rfl (by kernel_rfl) (by kernel_rfl) (by decide) rfl) trivial ?_
  refine p_step rfl (e_loadH (v := .sc _) rfl ((hset_ne (key_ne rfl)).trans (hset_self _ _ _)) (by kernel_rfl) (by kernel_rfl) (by kernel_rfl) (by exact Nat.zero_lt_one) (by decide) rfl) trivial ?_
  refine p_step rfl (e_faP (pl := [(0, 1, false), (1, 1, false), (2, 1, false), (3, 1, false)]) rfl (by kernel_rfl) (by kernel_rfl) (by decide) rfl) trivial ?_
  refine p_step rfl (e_loadH (v := .sc _) rfl (hset_self _ _ _) (by kernel_rfl) (by kernel_rfl) (by kernel_rfl) (by exact Nat.zero_lt_one) (by decide) rfl) trivial ?_
  refine p_step rfl (e_ne rfl rfl) trivial ?_
  refine p_end (hK6 _ ?_); clear hK6 K6
  refine pwp_seq_cond rfl fun K7 hK7 => ⟨fun hb8 => ?_, fun hb8 => ?_⟩
  ·have hb8R := hb8; try simp only [z1, z2, z3, z4, z5, z6, ne_eq, z7, z8, z9, z10, z11, z12] at hb8
   refine pwp_seq_plain rfl fun K9 hK9 => ?_
   refine p_step rfl (e_faP (pl := [(0, 1, false), (1, 1, false), (2, 1, false), (3, 1, false)]) rfl (by kernel_rfl) (by kernel_rfl) (by decide) rfl) trivial ?_
   refine p_step rfl (e_loadH (v := .sc _) rfl ((hset_ne (key_ne rfl)).trans (hset_self _ _ _)) (by kernel_rfl) (by kernel_rfl) (by kernel_rfl) (by exact Nat.zero_lt_one) (by decide) rfl) trivial ?_
   refine p_step rfl (e_faP (pl := [(0, 1, false), (1, 1, false), (2, 1, false), (3, 1, false)]) rfl (by kernel_rfl) (by kernel_rfl) (by decide) rfl) trivial ?_
   refine p_step rfl (e_loadH (v := .sc _) rfl (hset_self _ _ _) (by kernel_rfl) (by kernel_rfl) (by kernel_rfl) (by exact Nat.zero_lt_one) (by decide) rfl) trivial ?_
   refine p_step rfl (e_lt rfl rfl) trivial ?_
   refine p_step rfl (e_assign (v := .sc _) rfl) trivial ?_
   refine p_end (hK9 _ ?_); clear hK9 K9
   refine pwp_ret ?_
   refine ret_seq ?_
   refine end1 (v := .sc _) rfl ?_
   exact out_b (befS_2 (by assumption) (by assumption))
  have hb8R := hb8; try simp only [z1, z2, z3, z4, z5, z6, ne_eq, z7, z8, z9, z10, z11, z12] at hb8
  refine pwp_skip ?_
  refine seq_norm (hK7 _ ?_); clear hK7 K7
  refine pwp_seq_plain rfl fun K10 hK10 => ?_
  refine p_step rfl (e_faP (pl := [(0, 1, false), (1, 1, false), (2, 1, false), (3, 1, false)]) rfl (by kernel_rfl) (by kernel_rfl) (by decide) rfl) trivial ?_
  refine p_step rfl (e_loadH (v := .sc _) rfl ((hset_ne (key_ne rfl)).trans (hset_self _ _ _)) (by kernel_rfl) (by kernel_rfl) (by kernel_rfl) (by exact Nat.zero_lt_one) (by decide) rfl) trivial ?_
  refine p_step rfl (e_faP (pl := [(0, 1, false), (1, 1, false), (2, 1, false), (3, 1, false)]) rfl (by kernel_rfl) (by kernel_rfl) (by decide) rfl) trivial ?_
  refine p_step rfl (e_loadH (v := .sc _) rfl (hset_self _ _ _) (by kernel_rfl) (by kernel_rfl) (by kernel_rfl) (by exact Nat.zero_lt_one) (by decide) rfl) trivial ?_
  refine p_step rfl (e_lt rfl rfl) trivial ?_
  refine p_step rfl (e_assign (v := .sc _) rfl) trivial ?_
  refine p_end (hK10 _ ?_); clear hK10 K10
  refine pwp_ret ?_
  refine end1 (v := .sc _) rfl ?_
  exact out_b (befS_3 (by assumption) (by assumption))

end Go.Proofs.Ytigdmkhdmbbfiaa

/- Stocks: the reference. No conditions. -/
set_option linter.unusedSimpArgs false
set_option linter.unusedVariables false
set_option maxRecDepth 100000
namespace Go.Proofs.Ytigdmkhdmbbfiaa
open Go Go.Pv
end Go.Proofs.Ytigdmkhdmbbfiaa
