import Derived.Test.YtigdmkhdmbbfiaaDoorNam
import Derived.Test.YtigdmkhdmbbfiaaDoorPvU4
import Derived.Test.YtigdmkhdmbbfiaaDoorPvZ10
/- Stocks: what is checked and counted. No conditions. -/
set_option linter.unusedSimpArgs false
set_option linter.unusedVariables false
set_option maxRecDepth 100000
namespace Go.Proofs.YtigdmkhdmbbfiaaDoor
open Go Go.Pv

/-! ### Texts in order -/
def ltB (a b : ByteArray) : Bool := Op.bytesLess a.toList b.toList
theorem ltB_leS (a b : ByteArray) : ltB a b = !leS b.data.toList a.data.toList := by
  have h : ∀ x y : List UInt8, Op.bytesLess x y = decide (x < y) := by
    intro x
    induction x with
    | nil => intro y; cases y <;> simp [Op.bytesLess]
    | cons a x ih =>
      intro y
      cases y with
      | nil => simp [Op.bytesLess]
      | cons b y =>
        rw [Op.bytesLess, ih y]
        simp only [List.cons_lt_cons_iff]
        by_cases h1 : a < b <;> by_cases h2 : a = b <;> by_cases h3 : x < y <;> simp [h1, h2, h3]
  unfold ltB
  rw [h, ByteArray.toList_eq, ByteArray.toList_eq, leS_eq, Bool.eq_iff_iff, decide_eq_true_eq, Bool.not_eq_true', decide_eq_false_iff_not, List.not_le]
theorem e_sltB {P : Program} {ρ : Operand → PV} {h : Heap} {key : Key} {x y : Operand} {t t' : TypeId} {a b : ByteArray} (hx : ρ x = .str a) (hy : ρ y = .str b) : eff P ρ h key (.binOp .lss t x y t') = ⟨True, .bool (ltB a b), [], [], false⟩ := e_slt hx hy
theorem mem_aSet_iff {α β : Type} [DecidableEq α] {k : α} {v : β} {x : α} : ∀ {l : List (α × β)}, x ∈ (aSet k v l).map (·.1) ↔ x = k ∨ x ∈ l.map (·.1)
  | [] => by simp [aSet]
  | e :: l => by
    unfold aSet
    split
    · rename_i h
      simp only [List.map_cons, List.mem_cons]
      constructor
      · rintro (h2 | h2)
        · exact .inl h2
        · exact .inr (.inr h2)
      · rintro (h2 | h2 | h2)
        · exact .inl h2
        · exact .inl (h2.trans h.symm)
        · exact .inr h2
    · simp only [List.map_cons, List.mem_cons]
      rw [mem_aSet_iff]
      constructor
      · rintro (h2 | h2 | h2)
        · exact .inr (.inl h2)
        · exact .inl h2
        · exact .inr (.inr h2)
      · rintro (h2 | h2 | h2)
        · exact .inr (.inl h2)
        · exact .inl h2
        · exact .inr (.inr h2)

/-! ### Stocks: what the program and the reference make of entries -/
def badS (x : Stock) : Prop := ¬ (0 ≤ x.place ∧ x.place ≤ 99) ∨ ¬ (0 ≤ x.state ∧ x.state ≤ 3) ∨ ¬ (0 ≤ x.count ∧ x.count ≤ 1000000)
instance (x : Stock) : Decidable (badS x) := inferInstanceAs (Decidable (_ ∨ _))
/-- The first error of entries, or 0. -/
def goS : List Stock → Int
  | [] => 0
  | x :: l => if isNm x.part = false then 4 else if badS x then 2 else goS l
def stockE (l : List Stock) : Int := if 200 < l.length then 8 else goS l
theorem stockE_big {l : List Stock} (h : 200 < l.length) : stockE l = 8 := if_pos h
theorem stockE_le {l : List Stock} (h : l.length ≤ 200) : stockE l = goS l := if_neg (by omega)
theorem goS_ok : ∀ {l : List Stock}, goS l = 0 → ∀ x ∈ l, ¬ badS x
  | [], _, x, hx => by simp at hx
  | y :: l, h, x, hx => by
    unfold goS at h
    split at h
    · cases h
    · split at h
      · cases h
      · rename_i h2
        rcases List.mem_cons.1 hx with rfl | hx
        · exact h2
        · exact goS_ok h x hx
theorem stockE_ok {l : List Stock} (h : stockE l = 0) : l.length ≤ 200 ∧ ∀ x ∈ l, (0 ≤ x.place ∧ x.place ≤ 99) ∧ (0 ≤ x.state ∧ x.state ≤ 3) ∧ (0 ≤ x.count ∧ x.count ≤ 1000000) := by
  unfold stockE at h
  split at h
  · cases h
  · refine ⟨by omega, fun x hx => ?_⟩
    have := goS_ok h x hx
    unfold badS at this
    omega
/-- A shelf: a part, a place, a state. -/
abbrev Kx := Shelf
def keyS (x : Stock) : Kx := ⟨x.part, x.place, x.state⟩
abbrev Sto := List (Kx × Int)
def getS (k : Kx) (m : Sto) : Int := (aGet k m).getD 0
/-- The sums of the counts, by shelves. -/
def sumS (m : Sto) : List Stock → Sto
  | [] => m
  | x :: l => sumS (aSet (keyS x) (getS (keyS x) m + x.count) m) l
theorem getS_aSet (k k' : Kx) (v : Int) (m : Sto) : getS k' (aSet k v m) = if k' = k then v else getS k' m := by
  unfold getS; rw [aGet_aSet]; split <;> rfl
/-- The sum of the counts of a shelf. -/
def cntS (k : Kx) : List Stock → Int
  | [] => 0
  | x :: l => (if keyS x = k then x.count else 0) + cntS k l
theorem getS_sum (k : Kx) : ∀ (l : List Stock) (m : Sto), getS k (sumS m l) = getS k m + cntS k l
  | [], m => by simp [sumS, cntS]
  | x :: l, m => by
    unfold sumS cntS
    rw [getS_sum k l, getS_aSet]
    by_cases h : keyS x = k
    · rw [if_pos h, if_pos h.symm, h]; omega
    · rw [if_neg h, if_neg (fun h2 => h h2.symm)]; omega
theorem cntS_0 {k : Kx} : ∀ {l : List Stock}, (∀ x ∈ l, 0 ≤ x.count) → 0 ≤ cntS k l
  | [], _ => Int.le_refl _
  | x :: l, h => by
    unfold cntS
    have h1 := h x List.mem_cons_self
    have h2 := cntS_0 (k := k) (l := l) fun y hy => h y (List.mem_cons_of_mem _ hy)
    split <;> omega
theorem cntS_le {k : Kx} : ∀ {l : List Stock}, (∀ x ∈ l, 0 ≤ x.count ∧ x.count ≤ 1000000) → cntS k l ≤ 1000000 * (l.length : Int)
  | [], _ => by simp [cntS]
  | x :: l, h => by
    unfold cntS
    have h1 := h x List.mem_cons_self
    have h2 := cntS_le (k := k) (l := l) fun y hy => h y (List.mem_cons_of_mem _ hy)
    simp only [List.length_cons, Int.natCast_add, Int.natCast_one]
    split <;> omega
theorem sumS_nodup : ∀ (l : List Stock) {m : Sto}, ANodup m → ANodup (sumS m l)
  | [], _, h => h
  | _ :: l, _, h => sumS_nodup l h.aSet
/-- Shelves in their order. -/
def kSh (k : Kx) : Sh := (k.part.data.toList, k.place, k.state)
def ofSh (y : Sh) : Kx := ⟨⟨y.1.toArray⟩, y.2.1, y.2.2⟩
theorem ofSh_kSh (k : Kx) : ofSh (kSh k) = k := rfl
theorem kSh_inj {a b : Kx} (h : kSh a = kSh b) : a = b := by rw [← ofSh_kSh a, h, ofSh_kSh]
def keysS (m : Sto) : List Kx := (sortSh (m.map fun e => kSh e.1)).map ofSh
/-- The normal form along keys, or the error. -/
def lstG (m : Sto) (acc : List Stock) : List Kx → Int × List Stock
  | [] => (0, acc)
  | k :: ks => if 1000000 < getS k m then (8, []) else lstG m (if 0 < getS k m then acc ++ [⟨k.part, k.place, k.state, getS k m⟩] else acc) ks
def listS (m : Sto) : Int × List Stock :=
  let r := lstG m [] (keysS m)
  if r.1 = 0 then (if 200 < r.2.length then (8, []) else r) else (r.1, [])
/-- Whether an entry stands before another one, as the reference says. -/
def befS (a b : Stock) : Bool := bif decide (a.part = b.part) then (bif decide (a.place = b.place) then decide (a.state < b.state) else decide (a.place < b.place)) else ltB a.part b.part
/-- The reference's adding of an entry. -/
def putS (x : Stock) : List Stock → List Stock
  | [] => [x]
  | y :: l => bif befS y x then y :: putS x l else (bif befS x y then x :: y :: l else { x with count := x.count + y.count } :: l)
def putG (d : Bool) (x : Stock) (out : List Stock) : List Stock → List Stock
  | [] => bif d then out else out ++ [x]
  | y :: l => bif d then putG d x (out ++ [y]) l else (bif befS y x then putG false x (out ++ [y]) l else (bif befS x y then putG true x (out ++ [x] ++ [y]) l else putG true x (out ++ [{ x with count := x.count + y.count }]) l))
theorem putG_true (x : Stock) : ∀ (l out : List Stock), putG true x out l = out ++ l
  | [], out => by simp [putG]
  | y :: l, out => by unfold putG; rw [cond_true, putG_true x l]; simp
theorem putG_putS (x : Stock) : ∀ (l out : List Stock), putG false x out l = out ++ putS x l
  | [], out => by simp [putG, putS]
  | y :: l, out => by
    unfold putG putS
    rw [cond_false]
    cases befS y x with
    | true => simp only [cond_true]; rw [putG_putS x l]; simp
    | false =>
      simp only [cond_false]
      cases befS x y with
      | true => simp only [cond_true]; rw [putG_true]; simp
      | false => simp only [cond_false]; rw [putG_true]; simp
theorem befS_le (a b : Stock) : befS a b = !leSh (kSh (keyS b)) (kSh (keyS a)) := by
  have hl : ltB a.part b.part = !leS b.part.data.toList a.part.data.toList := ltB_leS _ _
  have e : (a.part = b.part) ↔ (b.part.data.toList = a.part.data.toList) := ⟨fun h => by rw [h], fun h => by
    have := congrArg (fun l : List UInt8 => (⟨l.toArray⟩ : ByteArray)) h
    exact this.symm⟩
  rw [Bool.eq_iff_iff, Bool.not_eq_true', ← Bool.not_eq_true, leSh_iff]
  unfold befS kSh keyS
  simp only
  by_cases h : a.part = b.part
  · rw [decide_eq_true h, cond_true]
    have h' := e.1 h
    by_cases h2 : a.place = b.place
    · rw [decide_eq_true h2, cond_true, decide_eq_true_eq, h', h2]
      simp only [leS_refl, Bool.true_eq_false, and_false, false_or, true_and, Int.lt_irrefl, Int.not_le]
    · rw [decide_eq_false h2, cond_false, decide_eq_true_eq, h']
      simp only [leS_refl, Bool.true_eq_false, and_false, false_or, true_and]
      omega
  · rw [decide_eq_false h, cond_false, hl]
    have h' : ¬ b.part.data.toList = a.part.data.toList := fun h2 => h (e.2 h2)
    simp only [h', false_and, or_false, Bool.not_eq_true', Bool.not_eq_true]
    constructor
    · intro h3 h4; rw [h3] at h4; exact absurd h4.1 (by simp)
    · intro h3
      cases h5 : leS b.part.data.toList a.part.data.toList with
      | false => rfl
      | true =>
        exfalso
        cases h6 : leS a.part.data.toList b.part.data.toList with
        | false => exact h3 ⟨h5, h6⟩
        | true => exact h' (leS_anti h5 h6)
theorem befS_key {a b : Stock} (h1 : befS a b = false) (h2 : befS b a = false) : keyS a = keyS b := by
  rw [befS_le, Bool.not_eq_false'] at h1 h2
  exact (kSh_inj (leSh_anti h1 h2)).symm
theorem befS_trans {a b c : Stock} (h1 : befS a b = true) (h2 : befS b c = true) : befS a c = true := by
  rw [befS_le, Bool.not_eq_true'] at h1 h2 ⊢
  cases h : leSh (kSh (keyS c)) (kSh (keyS a)) with
  | false => rfl
  | true =>
    have hb : leSh (kSh (keyS a)) (kSh (keyS b)) = true := by
      have := leSh_total (kSh (keyS a)) (kSh (keyS b)); rw [h1, Bool.or_false] at this; exact this
    rw [leSh_trans _ _ _ h hb] at h2; cases h2
theorem befS_ne {a b : Stock} (h : befS a b = true) : keyS a ≠ keyS b := fun e => by
  rw [befS_le, e, Bool.not_eq_true'] at h
  have := leSh_total (kSh (keyS b)) (kSh (keyS b)); rw [h] at this; cases this
theorem befS_congr {a b c : Stock} (h : keyS a = keyS b) : befS a c = befS b c := by rw [befS_le, befS_le, h]
theorem befS_congr' {a b c : Stock} (h : keyS a = keyS b) : befS c a = befS c b := by rw [befS_le, befS_le, h]
def Srt (l : List Stock) : Prop := l.Pairwise (fun a b => befS a b = true)
theorem mem_putS {x z : Stock} : ∀ {l : List Stock}, z ∈ putS x l → keyS z = keyS x ∨ z ∈ l
  | [], h => by simp only [putS, List.mem_singleton] at h; exact .inl (by rw [h])
  | y :: l, h => by
    unfold putS at h
    cases h1 : befS y x with
    | true =>
      rw [h1, cond_true] at h
      rcases List.mem_cons.1 h with rfl | h
      · exact .inr List.mem_cons_self
      · exact (mem_putS h).imp_right (List.mem_cons_of_mem _)
    | false =>
      rw [h1, cond_false] at h
      cases h2 : befS x y with
      | true =>
        rw [h2, cond_true] at h
        rcases List.mem_cons.1 h with rfl | h
        · exact .inl rfl
        · exact .inr h
      | false =>
        rw [h2, cond_false] at h
        rcases List.mem_cons.1 h with rfl | h
        · exact .inl rfl
        · exact .inr (List.mem_cons_of_mem _ h)
theorem putS_srt {x : Stock} : ∀ {l : List Stock}, Srt l → Srt (putS x l)
  | [], _ => by simp [putS, Srt]
  | y :: l, h => by
    have hy := (List.pairwise_cons.1 h).1
    have hl := (List.pairwise_cons.1 h).2
    unfold putS
    cases h1 : befS y x with
    | true =>
      rw [cond_true]
      refine List.pairwise_cons.2 ⟨fun z hz => ?_, putS_srt hl⟩
      rcases mem_putS hz with e | hz
      · rw [befS_congr' e]; exact h1
      · exact hy z hz
    | false =>
      rw [cond_false]
      cases h2 : befS x y with
      | true =>
        rw [cond_true]
        refine List.pairwise_cons.2 ⟨fun z hz => ?_, h⟩
        rcases List.mem_cons.1 hz with rfl | hz
        · exact h2
        · exact befS_trans h2 (hy z hz)
      | false =>
        rw [cond_false]
        have e : keyS x = keyS y := befS_key h2 h1
        refine List.pairwise_cons.2 ⟨fun z hz => ?_, hl⟩
        have : keyS { x with count := x.count + y.count } = keyS y := e
        rw [befS_congr this]; exact hy z hz
theorem putS_cnt (k : Kx) {x : Stock} : ∀ (l : List Stock), cntS k (putS x l) = (if keyS x = k then x.count else 0) + cntS k l
  | [] => by simp [putS, cntS]
  | y :: l => by
    unfold putS
    cases h1 : befS y x with
    | true => rw [cond_true]; simp only [cntS]; rw [putS_cnt k l]; omega
    | false =>
      rw [cond_false]
      cases h2 : befS x y with
      | true => rw [cond_true]; simp only [cntS]
      | false =>
        rw [cond_false]
        have e : keyS x = keyS y := befS_key h2 h1
        have e2 : keyS { x with count := x.count + y.count } = keyS x := rfl
        simp only [cntS]
        rw [e2, ← e]
        split <;> omega
theorem putS_keys (k : Kx) {x : Stock} : ∀ (l : List Stock), k ∈ (putS x l).map keyS ↔ k = keyS x ∨ k ∈ l.map keyS
  | [] => by simp [putS]
  | y :: l => by
    unfold putS
    cases h1 : befS y x with
    | true =>
      rw [cond_true, List.map_cons, List.mem_cons, putS_keys k l, List.map_cons, List.mem_cons]
      constructor
      · rintro (h | h | h)
        · exact .inr (.inl h)
        · exact .inl h
        · exact .inr (.inr h)
      · rintro (h | h | h)
        · exact .inr (.inl h)
        · exact .inl h
        · exact .inr (.inr h)
    | false =>
      rw [cond_false]
      cases h2 : befS x y with
      | true => rw [cond_true, List.map_cons, List.mem_cons]
      | false =>
        rw [cond_false]
        have e : keyS x = keyS y := befS_key h2 h1
        have e2 : keyS { x with count := x.count + y.count } = keyS x := rfl
        rw [List.map_cons, List.mem_cons, List.map_cons, List.mem_cons, e2, e]
        constructor
        · rintro (h | h)
          · exact .inl h
          · exact .inr (.inr h)
        · rintro (h | h | h)
          · exact .inl h
          · exact .inl h
          · exact .inr h
/-- The reference's sums. -/
def putF (out : List Stock) : List Stock → List Stock
  | [] => out
  | x :: l => putF (putS x out) l
theorem putF_srt : ∀ (l : List Stock) {out : List Stock}, Srt out → Srt (putF out l)
  | [], _, h => h
  | _ :: l, _, h => putF_srt l (putS_srt h)
theorem putF_cnt (k : Kx) : ∀ (l out : List Stock), cntS k (putF out l) = cntS k out + cntS k l
  | [], out => by simp [putF, cntS]
  | x :: l, out => by simp only [putF, cntS]; rw [putF_cnt k l, putS_cnt]; omega
theorem putF_keys (k : Kx) : ∀ (l out : List Stock), k ∈ (putF out l).map keyS ↔ k ∈ out.map keyS ∨ k ∈ l.map keyS
  | [], out => by simp [putF]
  | x :: l, out => by
    simp only [putF]
    rw [putF_keys k l, putS_keys, List.map_cons, List.mem_cons, or_assoc]
    constructor
    · rintro (h | h | h)
      · exact .inr (.inl h)
      · exact .inl h
      · exact .inr (.inr h)
    · rintro (h | h | h)
      · exact .inr (.inl h)
      · exact .inl h
      · exact .inr (.inr h)
theorem sumS_keys (k : Kx) : ∀ (l : List Stock) (m : Sto), k ∈ (sumS m l).map (·.1) ↔ k ∈ m.map (·.1) ∨ k ∈ l.map keyS
  | [], m => by simp [sumS]
  | x :: l, m => by
    simp only [sumS]
    rw [sumS_keys k l, mem_aSet_iff, List.map_cons, List.mem_cons, or_assoc]
    constructor
    · rintro (h | h | h)
      · exact .inr (.inl h)
      · exact .inl h
      · exact .inr (.inr h)
    · rintro (h | h | h)
      · exact .inr (.inl h)
      · exact .inl h
      · exact .inr (.inr h)
theorem srt_nodup : ∀ {l : List Stock}, Srt l → (l.map keyS).Nodup
  | [], _ => List.nodup_nil
  | y :: l, h => by
    rw [List.map_cons, List.nodup_cons]
    refine ⟨fun hm => ?_, srt_nodup (List.pairwise_cons.1 h).2⟩
    obtain ⟨z, hz, e⟩ := List.mem_map.1 hm
    exact befS_ne ((List.pairwise_cons.1 h).1 z hz) e.symm
theorem srt_cnt : ∀ {l : List Stock}, Srt l → ∀ e ∈ l, cntS (keyS e) l = e.count
  | [], _, e, h => by simp at h
  | y :: l, h, e, he => by
    have hn := srt_nodup h
    rw [List.map_cons, List.nodup_cons] at hn
    have h0 : ∀ {k : Kx} {l : List Stock}, k ∉ l.map keyS → cntS k l = 0 := fun {k l} => by
      induction l with
      | nil => intro _; rfl
      | cons z l ih => intro hk; rw [List.map_cons, List.mem_cons, not_or] at hk; simp only [cntS]; rw [if_neg (fun h => hk.1 h.symm), ih hk.2]; rfl
    rcases List.mem_cons.1 he with rfl | he'
    · simp only [cntS]; rw [if_pos trivial, h0 hn.1]; omega
    · simp only [cntS]
      rw [if_neg (befS_ne ((List.pairwise_cons.1 h).1 e he')), srt_cnt (List.pairwise_cons.1 h).2 e he']; omega
/-- The sums by the map, along its sorted keys, are the reference's sums. -/
theorem keysS_putF (l : List Stock) : (putF [] l).map keyS = keysS (sumS [] l) := by
  have hs : Srt (putF [] l) := putF_srt l .nil
  have h1 : ((putF [] l).map keyS).Perm ((sumS [] l).map (·.1)) := by
    rw [List.perm_ext_iff_of_nodup (srt_nodup hs) (sumS_nodup l (by simp [ANodup]))]
    intro k
    rw [putF_keys, sumS_keys]; simp
  have h2 : ((putF [] l).map keyS).map kSh = sortSh ((sumS [] l).map fun e => kSh e.1) := by
    refine sortSh_unique ?_ ?_
    · have := h1.map kSh
      rw [List.map_map, List.map_map] at this
      rw [List.map_map]; exact this
    · rw [List.map_map]
      rw [List.pairwise_map]
      refine List.Pairwise.imp ?_ hs
      intro a b h
      rw [befS_le, Bool.not_eq_true'] at h
      have := leSh_total (kSh (keyS a)) (kSh (keyS b)); rw [h, Bool.or_false] at this; exact this
  unfold keysS
  rw [← h2, List.map_map]
  have : (ofSh ∘ kSh) = id := funext ofSh_kSh
  rw [this, List.map_id]
theorem putF_eq (l : List Stock) : putF [] l = (keysS (sumS [] l)).map fun k => ⟨k.part, k.place, k.state, getS k (sumS [] l)⟩ := by
  have hs : Srt (putF [] l) := putF_srt l .nil
  rw [← keysS_putF, List.map_map]
  refine (List.map_id (putF [] l)).symm.trans (List.map_congr_left fun e he => ?_)
  simp only [Function.comp, id]
  have : getS (keyS e) (sumS [] l) = e.count := by
    rw [getS_sum, ← srt_cnt hs e he, putF_cnt]; simp [getS, aGet, cntS]
  rw [this]; rfl
/-- The reference's end: no entries of 0, none too large. -/
def setG (acc : List Stock) : List Stock → Int × List Stock
  | [] => (0, acc)
  | y :: l => if 1000000 < y.count then (8, []) else setG (if y.count ≠ 0 then acc ++ [y] else acc) l
def settS (l : List Stock) : Int × List Stock :=
  let r := setG [] l
  if r.1 = 0 then (if 200 < r.2.length then (8, []) else r) else (r.1, [])
theorem setG_lstG {m : Sto} (h : ∀ k, 0 ≤ getS k m) : ∀ (ks : List Kx) (acc : List Stock), setG acc (ks.map fun k => ⟨k.part, k.place, k.state, getS k m⟩) = lstG m acc ks
  | [], acc => rfl
  | k :: ks, acc => by
    simp only [List.map_cons, setG, lstG]
    rw [setG_lstG h ks]
    have e : (getS k m ≠ 0) ↔ 0 < getS k m := by have := h k; omega
    simp only [e]
theorem settS_listS {l : List Stock} (h : ∀ x ∈ l, 0 ≤ x.count) : settS (putF [] l) = listS (sumS [] l) := by
  unfold settS listS
  rw [putF_eq, setG_lstG]
  intro k
  rw [getS_sum]
  have := cntS_0 (k := k) h
  simp [getS, aGet]; exact this
/-! ### What the functions tell -/
structure At where
  a0 : Int
  a1 : Int
  deriving Inhabited, DecidableEq
def At.enc (x : At) : List PV := [.int x.a0, .int x.a1]
theorem At.pure (x : At) : ∀ p ∈ x.enc, Pure p := fun p hp => by
  simp only [At.enc, List.mem_cons, List.not_mem_nil, or_false] at hp
  rcases hp with rfl | rfl <;> exact .sc _
theorem At.of {row : List PV} (h : CellsP Tryd.prog [3, 3] row) : ∃ x : At, row = x.enc := by
  obtain ⟨q0, l0, rfl, h0, h⟩ := h.cons_inv
  obtain ⟨q1, l1, rfl, h1, h⟩ := h.cons_inv
  obtain rfl := h.nil_inv
  obtain ⟨z0, rfl, _⟩ := h0.int_inv (k := .i64) Tryd.underlying3
  obtain ⟨z1, rfl, _⟩ := h1.int_inv (k := .i64) Tryd.underlying3
  exact ⟨⟨z0, z1⟩, rfl⟩
theorem ssz {xs : List Stock} (hs : ∀ x ∈ xs, x.part.size ≤ 30) {i : Nat} {x : Stock} (hx : xs[i]? = some x) : x.part.size ≤ 30 := hs x (List.mem_of_getElem? hx)
/-- Few entries with short texts, or too many. -/
def shortB (xs : List Stock) : Bool := decide ((xs.length ≤ 12 ∨ 200 < xs.length) ∧ xs.length ≤ 220 ∧ ∀ x ∈ xs, x.part.size ≤ 30)
theorem short_len {xs : List Stock} (h : (12 < xs.length ∧ xs.length ≤ 200) ∨ 220 < xs.length) : false = shortB xs := by
  symm; simp only [shortB, decide_eq_false_iff_not]; rintro ⟨h1, h2, _⟩; omega
theorem short_x {xs : List Stock} {k : Nat} {x : Stock} (hx : xs[k]? = some x) (h : 30 < x.part.size) : false = shortB xs := by
  symm; simp only [shortB, decide_eq_false_iff_not]; rintro ⟨_, _, h3⟩; have := h3 x (List.mem_of_getElem? hx); omega
theorem short_ok {xs : List Stock} (h1 : (xs.length ≤ 12 ∨ 200 < xs.length) ∧ xs.length ≤ 220) (h3 : ∀ x ∈ xs.take xs.length, x.part.size ≤ 30) : true = shortB xs := by
  rw [List.take_length] at h3
  symm; simp only [shortB, decide_eq_true_eq]; exact ⟨h1.1, h1.2, h3⟩
theorem shortB_iff {xs : List Stock} (h : shortB xs = true) : (xs.length ≤ 12 ∨ 200 < xs.length) ∧ xs.length ≤ 220 ∧ ∀ x ∈ xs, x.part.size ≤ 30 := by simpa only [shortB, decide_eq_true_eq] using h
theorem befS_1 {a b : Stock} (h : ¬ a.part = b.part) : ltB a.part b.part = befS a b := by rw [befS, decide_eq_false h]; rfl
theorem befS_2 {a b : Stock} (h : a.part = b.part) (h2 : ¬ a.place = b.place) : decide (a.place < b.place) = befS a b := by rw [befS, decide_eq_true h, decide_eq_false h2]; rfl
theorem befS_3 {a b : Stock} (h : a.part = b.part) (h2 : a.place = b.place) : decide (a.state < b.state) = befS a b := by rw [befS, decide_eq_true h, decide_eq_true h2]; rfl
/-- The reference's count of a shelf, told on from s. -/
def cntA (k : Kx) : Int → List Stock → Int
  | s, [] => s
  | s, x :: l => cntA k (if keyS x = k then s + x.count else s) l
theorem cntA_eq (k : Kx) : ∀ (l : List Stock) (s : Int), cntA k s l = s + cntS k l
  | [], s => by simp [cntA, cntS]
  | x :: l, s => by unfold cntA cntS; rw [cntA_eq k l]; split <;> omega
theorem keyS_iff {x : Stock} {p : ByteArray} {z : At} : keyS x = ⟨p, z.a0, z.a1⟩ ↔ x.part = p ∧ x.place = z.a0 ∧ x.state = z.a1 := by
  unfold keyS; rw [Shelf.mk.injEq]
theorem cnt_t {R s : Int} {p : ByteArray} {z : At} {x : Stock} {l : List Stock} (h : R = cntA ⟨p, z.a0, z.a1⟩ s (x :: l)) (hx : x.part = p ∧ x.place = z.a0 ∧ x.state = z.a1) : R = cntA ⟨p, z.a0, z.a1⟩ (s + x.count) l := by rw [h, cntA, if_pos (keyS_iff.2 hx)]
theorem cnt_f {R s : Int} {p : ByteArray} {z : At} {x : Stock} {l : List Stock} (h : R = cntA ⟨p, z.a0, z.a1⟩ s (x :: l)) (hx : ¬ (x.part = p ∧ x.place = z.a0 ∧ x.state = z.a1)) : R = cntA ⟨p, z.a0, z.a1⟩ s l := by rw [h, cntA, if_neg (fun h2 => hx (keyS_iff.1 h2))]
theorem eqOk_Stock (a b : Stock) : eqOk Tryd.prog 6 65 (.agg a.enc) (.agg b.enc) = true := by kernel_rfl
theorem eqV_Stock (a b : Stock) : eqV Tryd.prog 6 65 (.agg a.enc) (.agg b.enc) = decide (a = b) := by
  have h : eqV Tryd.prog 6 65 (.agg a.enc) (.agg b.enc) = (decide (a.part = b.part) && ((a.place == b.place) && ((a.state == b.state) && ((a.count == b.count) && true)))) := by kernel_rfl
  rw [h]
  cases a; cases b
  simp only [Stock.mk.injEq]
  rw [Bool.eq_iff_iff]
  simp
theorem stock_clean (a : Stock) : ∀ p ∈ a.enc, Go.Pv.Clean p ∧ p.cell = true := fun p hp => by
  simp only [Stock.enc, List.mem_cons, List.not_mem_nil, or_false] at hp
  rcases hp with rfl | rfl | rfl | rfl <;> exact ⟨.sc _, rfl⟩
theorem same_endL {α : Type} {xs ys : List α} (hl : xs.length = ys.length) (h : xs.take xs.length = ys.take xs.length) : xs = ys := by
  rw [List.take_length] at h
  rw [h, hl, List.take_length]
theorem same_badL {α : Type} {xs ys : List α} {k : Nat} {x y : α} (hx : xs[k]? = some x) (hy : ys[k]? = some y) (hn : ¬ x = y) : ¬ xs = ys := fun h => by subst h; rw [hx] at hy; cases hy; exact hn rfl
theorem take_snoc2 {α : Type} {xs ys : List α} {k : Nat} {x y : α} (hx : xs.take (k + 1) = xs.take k ++ [x]) (hy : ys.take (k + 1) = ys.take k ++ [y]) (he : xs.take k = ys.take k) (h : x = y) : xs.take (k + 1) = ys.take (k + 1) := by rw [hx, hy, he, h]
theorem all_snocS {α : Type} {Q : α → Prop} {l r : List α} {x : α} (he : r = l ++ [x]) (h : ∀ y ∈ l, Q y) (hx : Q x) : ∀ y ∈ r, Q y := by
  subst he
  intro y hy
  rcases List.mem_append.1 hy with hy | hy
  · exact h y hy
  · simp only [List.mem_singleton] at hy; subst hy; exact hx
theorem putA {d : Bool} {x e : Stock} {acc l R : List Stock} (h : R = putG d x acc (e :: l)) (hd : d = true) : R = putG d x (acc ++ [e]) l := by subst hd; rw [h, putG, cond_true]
theorem putB {d : Bool} {x y e : Stock} {acc l R : List Stock} (h : R = putG d x acc (e :: l)) (hd : d = false) (hy : y = x) (hb : befS e y = true) : R = putG d x (acc ++ [e]) l := by
  subst hd; subst hy; rw [h, putG, cond_false, hb, cond_true]
theorem putC {d : Bool} {x y e : Stock} {acc l R : List Stock} (h : R = putG d x acc (e :: l)) (hd : d = false) (hy : y = x) (hb : befS e y = false) (hb2 : befS y e = true) : R = putG true x (acc ++ [y] ++ [e]) l := by
  subst hd; subst hy; rw [h, putG, cond_false, hb, cond_false, hb2, cond_true]
theorem putD {d : Bool} {x y e : Stock} {acc l R : List Stock} (h : R = putG d x acc (e :: l)) (hd : d = false) (hy : y = x) (hb : befS e y = false) (hb2 : befS y e = false) : R = putG true x (acc ++ [{ y with count := y.count + e.count }]) l := by
  subst hd; subst hy; rw [h, putG, cond_false, hb, cond_false, hb2, cond_false]
theorem put_o1 {d : Bool} {x : Stock} {acc xs : List Stock} (h : putG false x [] xs = putG d x acc []) (hd : d = true) : acc = putS x xs := by
  rw [putG_putS, List.nil_append] at h; subst hd; rw [h]; rfl
theorem put_o2 {d : Bool} {x y : Stock} {acc xs : List Stock} (h : putG false x [] xs = putG d x acc []) (hd : d = false) (hy : y = x) : acc ++ [y] = putS x xs := by
  rw [putG_putS, List.nil_append] at h; subst hd; subst hy; rw [h]; rfl
theorem putS_len {x : Stock} : ∀ {l : List Stock}, (putS x l).length ≤ l.length + 1
  | [] => by simp [putS]
  | y :: l => by
    have := putS_len (x := x) (l := l)
    unfold putS
    cases befS y x with
    | true => simp only [cond_true, List.length_cons]; omega
    | false => cases befS x y <;> simp
theorem setg_8 {acc : List Stock} {y : Stock} {l : List Stock} {R : Int × List Stock} (h : R = setG acc (y :: l)) (h2 : 1000000 < y.count) : R = (8, []) := by rw [h, setG, if_pos h2]
theorem setg_t {acc : List Stock} {y : Stock} {l : List Stock} {R : Int × List Stock} (h : R = setG acc (y :: l)) (h2 : ¬ 1000000 < y.count) (h3 : ¬ y.count = 0) : R = setG (acc ++ [y]) l := by rw [h, setG, if_neg h2, if_pos h3]
theorem setg_f {acc : List Stock} {y : Stock} {l : List Stock} {R : Int × List Stock} (h : R = setG acc (y :: l)) (h2 : ¬ 1000000 < y.count) (h3 : y.count = 0) : R = setG acc l := by rw [h, setG, if_neg h2, if_neg (by simpa using h3)]
theorem sett_8 {xs : List Stock} (h : setG [] xs = (8, [])) : settS xs = (8, []) := by unfold settS; rw [h]; rfl
theorem sett_big {xs acc : List Stock} (h : setG [] xs = (0, acc)) (h2 : 200 < acc.length) : settS xs = (8, []) := by unfold settS; rw [h]; simp [h2]
theorem sett_ok {xs acc : List Stock} (h : setG [] xs = (0, acc)) (h2 : ¬ 200 < acc.length) : settS xs = (0, acc) := by unfold settS; rw [h]; simp [h2]
theorem pr_out {h : Heap} {r : Int × List Stock} {z : Int} {acc : List Stock} {d : Nat} {u : PV} (hr : r = (z, acc)) (hs : SliceAt h d u 4 (acc.map Stock.enc)) : Out h (.tup [u, .int z]) (.tup [.lit false 4 (r.2.map Stock.enc), .int r.1]) := by
  rw [hr]; exact out_2 (out_slice hs rfl (fun _ => rfl) stock_clean) (out_i rfl)
theorem pr_out0 {h : Heap} {r : Int × List Stock} {z : Int} (hr : r = (z, [])) : Out h (.tup [.nil, .int z]) (.tup [.lit false 4 (r.2.map Stock.enc), .int r.1]) := by
  rw [hr]; exact out_2 (.nil 4) (out_i rfl)
/-- A list that is nil, or lies in memory that does not change. -/
def LitV (v : PV) (sz : Nat) (rows : List (List PV)) : Prop := (v = .nil ∧ rows = []) ∨ ∃ t, v = .lit t sz rows
theorem LitV.nil {sz : Nat} : LitV .nil sz [] := .inl ⟨rfl, rfl⟩
theorem LitV.lit {t : Bool} {sz : Nat} {rows : List (List PV)} : LitV (.lit t sz rows) sz rows := .inr ⟨t, rfl⟩
theorem LitV.inn {h : Heap} {v : PV} {sz : Nat} {rows : List (List PV)} (hl : LitV v sz rows) : Inn h v (.lit true sz rows) := by
  rcases hl with ⟨rfl, rfl⟩ | ⟨t, rfl⟩
  · exact inn_nil
  · exact inn_lit
theorem fr33 : (inFrame Tryd.f33.ntmps (Tryd.f33.body.getD .skip) && Tryd.f33.results.toList.all (resScope Tryd.f33.ntmps)) = true := by kernel_rfl
theorem CheckS (xs : List Stock) (hl : xs.length ≤ 220) (hs : ∀ x ∈ xs, x.part.size ≤ 30) : PCalls Tryd.prog 33 [.lit true 4 (xs.map Stock.enc)] (.int (stockE xs)) := by
  refine PCalls.of_code Tryd.func33 rfl rfl (by kernel_rfl) mixed fr33 (by show _ ≤ 37; simp) (.sc _) ?_
  refine pwp_seq_plain rfl fun K1 hK1 => ?_
  refine p_step rfl (e_assign (v := .sc _) rfl) trivial ?_
  refine p_end (hK1 _ ?_); clear hK1 K1
  refine pwp_seq_seq ?_
  refine pwp_seq_plain rfl fun K2 hK2 => ?_
  refine p_step rfl (e_move (v := .lit _ _ _) rfl) trivial ?_
  refine p_step rfl (e_len rfl (by kernel_rfl)) trivial ?_
  refine p_step rfl (e_gt rfl rfl) trivial ?_
  refine p_end (hK2 _ ?_); clear hK2 K2
  refine pwp_seq_cond rfl fun K3 hK3 => ⟨fun hb4 => ?_, fun hb4 => ?_⟩
  ·have hb4R := hb4; try simp only [z1, z2, z3, z4, z5, z6, ne_eq, z7, z8, z9, z10, z11, z12] at hb4
   refine pwp_seq_plain rfl fun K5 hK5 => ?_
   refine p_step rfl (e_assign (v := .sc _) rfl) trivial ?_
   refine p_end (hK5 _ ?_); clear hK5 K5
   refine pwp_ret ?_
   refine ret_seq ?_
   refine end1 (v := .sc _) rfl ?_
   exact out_i (stockE_big (by omega)).symm
  have hb4R := hb4; try simp only [z1, z2, z3, z4, z5, z6, ne_eq, z7, z8, z9, z10, z11, z12] at hb4
  refine pwp_skip ?_
  refine seq_norm (hK3 _ ?_); clear hK3 K3
  refine pwp_seq_seq ?_
  refine pwp_seq_plain rfl fun K6 hK6 => ?_
  refine p_step rfl (e_move (v := .lit _ _ _) rfl) trivial ?_
  refine p_step rfl (e_len rfl (by kernel_rfl)) trivial ?_
  refine p_step rfl (e_move (v := .sc _) rfl) trivial ?_
  refine p_end (hK6 _ ?_); clear hK6 K6
  refine pwp_seq_block fun K7 hK7 => ?_
  refine pwp_loopR (α := Nat) [8, 9] (fun (k : Nat) => [(10, .int (k))]) (fun (k : Nat) (h : Heap) (_ : Nat → Nat) => ((k) ≤ xs.length) ∧ (goS xs = goS (xs.drop (k)))) (fun (k : Nat) => xs.length - (k)) (0) (by exact ⟨rfl, trivial⟩) (by exact ⟨by exact Nat.zero_le _, by exact rfl⟩) fun k r8 h9 c10 hj11 => ?_
  obtain ⟨hk, hinv⟩ := hj11
  try dsimp only at hk
  try dsimp only at hinv
  show pwp _ _ (loopQ _ _ _) ⟨sets (mix _ _ _) [(10, .int k)], _, _⟩
  refine pwp_seq_plain rfl fun K12 hK12 => ?_
  refine p_step rfl (e_lt rfl rfl) trivial ?_
  refine p_end (hK12 _ ?_); clear hK12 K12
  refine pwp_seq_cond rfl fun K13 hK13 => ⟨fun hb14 => ?_, fun hb14 => ?_⟩
  ·have hb14R := hb14; try simp only [z1, z2, z3, z4, z5, z6, ne_eq, z7, z8, z9, z10, z11, z12] at hb14
   obtain ⟨x, hx, hd, ht⟩ := get_lt (xs := xs) (i := k) (by omega)
   rw [hd] at hinv; simp only [goS] at hinv
   have hsz := ssz hs hx
   refine pwp_skip ?_
   refine seq_norm (hK13 _ ?_); clear hK13 K13
   refine pwp_seq_block fun K15 hK15 => ?_
   refine pwp_seq_plain rfl fun K16 hK16 => ?_
   refine p_step rfl (e_ixa rfl rfl (by kernel_rfl) (by kernel_rfl) (by simp only [List.length_map]; omega)) trivial ?_
   refine p_step rfl (e_loadA (n := 4) rfl (by kernel_rfl) (by kernel_rfl) (by kernel_rfl) (by simp only [List.length_map]; omega) (by decide) (by first | exact agg_map hx rfl)) trivial ?_
   refine p_new rfl (e_alloc (cs := [.str ByteArray.empty, .int 0, .int 0, .int 0]) (n := 4) (by kernel_rfl) rfl (by decide)) (ob_alloc (by decide)) ?_
   refine p_store rfl (e_storeA rfl (hset_self _ _ _) rfl rfl rfl (by kernel_rfl) rfl (by kernel_rfl)) trivial ?_
   refine p_end (hK16 _ ?_); clear hK16 K16
   refine pwp_block ?_
   refine pwp_seq_plain rfl fun K17 hK17 => ?_
   refine p_step rfl (e_faP (pl := [(0, 1, false), (1, 1, false), (2, 1, false), (3, 1, false)]) rfl (by kernel_rfl) (by kernel_rfl) (by decide) rfl) trivial ?_
   refine p_step rfl (e_loadH (v := .sc _) rfl (hset_self _ _ _) (by kernel_rfl) (by kernel_rfl) (by kernel_rfl) (by exact Nat.zero_lt_one) (by decide) rfl) trivial ?_
   refine p_call rfl (.cons inn_sc .nil) (isName _ (by omega)) ?_
   refine p_step rfl (e_not rfl) trivial ?_
   refine p_step rfl (e_assign (v := .sc _) rfl) trivial ?_
   refine p_end (hK17 _ ?_); clear hK17 K17
   refine pwp_cond rfl (fun hb18 => ?_) (fun hb18 => ?_)
   ·have hb18R := hb18; try simp only [z1, z2, z3, z4, z5, z6, ne_eq, z7, z8, z9, z10, z11, z12] at hb18
    refine pwp_seq_plain rfl fun K19 hK19 => ?_
    refine p_step rfl (e_assign (v := .sc _) rfl) trivial ?_
    refine p_end (hK19 _ ?_); clear hK19 K19
    refine pwp_ret ?_
    refine ret_block ?_
    refine ret_block ?_
    refine ret_seq ?_
    refine ret_loop ?_
    refine ret_block ?_
    refine ret_seq ?_
    refine end1 (v := .sc _) rfl ?_
    exact out_i (by rw [stockE_le (by omega), hinv, if_pos (by assumption)])
   have hb18R := hb18; try simp only [z1, z2, z3, z4, z5, z6, ne_eq, z7, z8, z9, z10, z11, z12] at hb18
   refine pwp_seq_cutG [8, 9, 10] [(19, .bool (((!(decide ((0) ≤ x.place ∧ x.place ≤ (99)))) || (!(decide ((0) ≤ x.state ∧ x.state ≤ (3))))) || (!(decide ((0) ≤ x.count ∧ x.count ≤ (1000000))))))] (fun K20 hK20 => ?_) (fun r21 => ?_)
   ·skip
    refine pwp_gops rfl fun K22 hK22 => ?_
    refine g_begin ?_
    refine g_step rfl rfl rfl rfl (e_faP (pl := [(0, 1, false), (1, 1, false), (2, 1, false), (3, 1, false)]) rfl (by kernel_rfl) (by kernel_rfl) (by decide) rfl) trivial ?_
    refine g_step rfl rfl rfl rfl (e_loadH (v := .sc _) rfl (hset_self _ _ _) (by kernel_rfl) (by kernel_rfl) (by kernel_rfl) (by exact Nat.zero_lt_one) (by decide) rfl) trivial ?_
    refine g_call rfl rfl rfl rfl (.cons inn_sc (.cons inn_sc (.cons inn_sc .nil))) (within _ _ _) ?_
    refine g_step rfl rfl rfl rfl (e_not rfl) trivial ?_
    refine g_step rfl rfl rfl rfl (e_move (v := .sc _) rfl) trivial ?_
    refine g_cases (fun hb23 => ?_) (fun hb23 => ?_)
    ·have hb23R := hb23; try simp only [z1, z2, z3, z4, z5, z6, ne_eq, z7, z8, z9, z10, z11, z12] at hb23
     refine g_skip rfl rfl rfl ?_
     refine g_skip rfl rfl rfl ?_
     refine g_nocall rfl rfl rfl ?_
     refine g_skip rfl rfl rfl ?_
     refine g_step rfl rfl rfl rfl (e_pickT (v := .sc _) rfl rfl) trivial ?_
     refine g_step rfl rfl rfl rfl (e_move (v := .sc _) rfl) trivial ?_
     refine g_skip rfl rfl rfl ?_
     refine g_skip rfl rfl rfl ?_
     refine g_nocall rfl rfl rfl ?_
     refine g_skip rfl rfl rfl ?_
     refine g_step rfl rfl rfl rfl (e_pickT (v := .sc _) rfl rfl) trivial ?_
     refine g_step rfl rfl rfl rfl (e_assign (v := .sc _) rfl) trivial ?_
     refine g_end (ds := [25, 26, 27, 28, 31, 32, 33, 34]) rfl rfl (hK22 _ ?_); clear hK22 K22
     exact seq_norm (hK20 _ ⟨rfl, rfl, rfl, trivial⟩ ⟨(congrArg PV.bool (show (true : Bool) = (((!(decide ((0) ≤ x.place ∧ x.place ≤ (99)))) || (!(decide ((0) ≤ x.state ∧ x.state ≤ (3))))) || (!(decide ((0) ≤ x.count ∧ x.count ≤ (1000000))))) by first | rfl | ((try rw [hb23R]) <;> (first | rfl | (simp only [Bool.and_true, Bool.and_false, Bool.true_and, Bool.false_and, Bool.or_true, Bool.or_false, Bool.true_or, Bool.false_or, Bool.not_true, Bool.not_false, if_true, if_false, Bool.false_eq_true, reduceIte] <;> rfl))) | (simp only [hb23R, Bool.and_true, Bool.and_false, Bool.true_and, Bool.false_and, Bool.or_true, Bool.or_false, Bool.true_or, Bool.false_or, Bool.not_true, Bool.not_false, if_true, if_false, Bool.false_eq_true, reduceIte] <;> rfl))), trivial⟩)
    have hb23R := hb23; try simp only [z1, z2, z3, z4, z5, z6, ne_eq, z7, z8, z9, z10, z11, z12] at hb23
    refine g_step rfl rfl rfl rfl (e_faP (pl := [(0, 1, false), (1, 1, false), (2, 1, false), (3, 1, false)]) rfl (by kernel_rfl) (by kernel_rfl) (by decide) rfl) trivial ?_
    refine g_step rfl rfl rfl rfl (e_loadH (v := .sc _) rfl (hset_self _ _ _) (by kernel_rfl) (by kernel_rfl) (by kernel_rfl) (by exact Nat.zero_lt_one) (by decide) rfl) trivial ?_
    refine g_call rfl rfl rfl rfl (.cons inn_sc (.cons inn_sc (.cons inn_sc .nil))) (within _ _ _) ?_
    refine g_step rfl rfl rfl rfl (e_not rfl) trivial ?_
    refine g_step rfl rfl rfl rfl (e_pickF (v := .sc _) rfl rfl) trivial ?_
    refine g_step rfl rfl rfl rfl (e_move (v := .sc _) rfl) trivial ?_
    refine g_cases (fun hb24 => ?_) (fun hb24 => ?_)
    ·have hb24R := hb24; try simp only [z1, z2, z3, z4, z5, z6, ne_eq, z7, z8, z9, z10, z11, z12] at hb24
     refine g_skip rfl rfl rfl ?_
     refine g_skip rfl rfl rfl ?_
     refine g_nocall rfl rfl rfl ?_
     refine g_skip rfl rfl rfl ?_
     refine g_step rfl rfl rfl rfl (e_pickT (v := .sc _) rfl rfl) trivial ?_
     refine g_step rfl rfl rfl rfl (e_assign (v := .sc _) rfl) trivial ?_
     refine g_end (ds := [25, 26, 27, 28, 31, 32, 33, 34]) rfl rfl (hK22 _ ?_); clear hK22 K22
     exact seq_norm (hK20 _ ⟨rfl, rfl, rfl, trivial⟩ ⟨(congrArg PV.bool (show (true : Bool) = (((!(decide ((0) ≤ x.place ∧ x.place ≤ (99)))) || (!(decide ((0) ≤ x.state ∧ x.state ≤ (3))))) || (!(decide ((0) ≤ x.count ∧ x.count ≤ (1000000))))) by first | rfl | ((try rw [hb24R]) <;> (try rw [hb23R]) <;> (first | rfl | (simp only [Bool.and_true, Bool.and_false, Bool.true_and, Bool.false_and, Bool.or_true, Bool.or_false, Bool.true_or, Bool.false_or, Bool.not_true, Bool.not_false, if_true, if_false, Bool.false_eq_true, reduceIte] <;> rfl))) | (simp only [hb23R, hb24R, Bool.and_true, Bool.and_false, Bool.true_and, Bool.false_and, Bool.or_true, Bool.or_false, Bool.true_or, Bool.false_or, Bool.not_true, Bool.not_false, if_true, if_false, Bool.false_eq_true, reduceIte] <;> rfl))), trivial⟩)
    have hb24R := hb24; try simp only [z1, z2, z3, z4, z5, z6, ne_eq, z7, z8, z9, z10, z11, z12] at hb24
    refine g_step rfl rfl rfl rfl (e_faP (pl := [(0, 1, false), (1, 1, false), (2, 1, false), (3, 1, false)]) rfl (by kernel_rfl) (by kernel_rfl) (by decide) rfl) trivial ?_
    refine g_step rfl rfl rfl rfl (e_loadH (v := .sc _) rfl (hset_self _ _ _) (by kernel_rfl) (by kernel_rfl) (by kernel_rfl) (by exact Nat.zero_lt_one) (by decide) rfl) trivial ?_
    refine g_call rfl rfl rfl rfl (.cons inn_sc (.cons inn_sc (.cons inn_sc .nil))) (within _ _ _) ?_
    refine g_step rfl rfl rfl rfl (e_not rfl) trivial ?_
    refine g_step rfl rfl rfl rfl (e_pickF (v := .sc _) rfl rfl) trivial ?_
    refine g_step rfl rfl rfl rfl (e_assign (v := .sc _) rfl) trivial ?_
    refine g_end (ds := [25, 26, 27, 28, 31, 32, 33, 34]) rfl rfl (hK22 _ ?_); clear hK22 K22
    exact seq_norm (hK20 _ ⟨rfl, rfl, rfl, trivial⟩ ⟨(congrArg PV.bool (show ((!(decide ((0) ≤ x.count ∧ x.count ≤ (1000000)))) : Bool) = (((!(decide ((0) ≤ x.place ∧ x.place ≤ (99)))) || (!(decide ((0) ≤ x.state ∧ x.state ≤ (3))))) || (!(decide ((0) ≤ x.count ∧ x.count ≤ (1000000))))) by first | rfl | ((try rw [hb24R]) <;> (try rw [hb23R]) <;> (first | rfl | (simp only [Bool.and_true, Bool.and_false, Bool.true_and, Bool.false_and, Bool.or_true, Bool.or_false, Bool.true_or, Bool.false_or, Bool.not_true, Bool.not_false, if_true, if_false, Bool.false_eq_true, reduceIte] <;> rfl))) | (simp only [hb23R, hb24R, Bool.and_true, Bool.and_false, Bool.true_and, Bool.false_and, Bool.or_true, Bool.or_false, Bool.true_or, Bool.false_or, Bool.not_true, Bool.not_false, if_true, if_false, Bool.false_eq_true, reduceIte] <;> rfl))), trivial⟩)
   refine pwp_cond rfl (fun hb25 => ?_) (fun hb25 => ?_)
   ·have hb25R := hb25; try simp only [z1, z2, z3, z4, z5, z6, ne_eq, z7, z8, z9, z10, z11, z12] at hb25
    refine pwp_seq_plain rfl fun K26 hK26 => ?_
    refine p_step rfl (e_assign (v := .sc _) rfl) trivial ?_
    refine p_end (hK26 _ ?_); clear hK26 K26
    refine pwp_ret ?_
    refine ret_block ?_
    refine ret_block ?_
    refine ret_seq ?_
    refine ret_loop ?_
    refine ret_block ?_
    refine ret_seq ?_
    refine end1 (v := .sc _) rfl ?_
    exact out_i (by rw [stockE_le (by omega), hinv, if_neg (by rw [Bool.not_eq_false]; assumption), if_pos (by unfold badS; omega)])
   have hb25R := hb25; try simp only [z1, z2, z3, z4, z5, z6, ne_eq, z7, z8, z9, z10, z11, z12] at hb25
   refine pwp_skip ?_
   refine block_norm ?_
   refine block_norm ?_
   refine seq_norm (hK15 _ ?_); clear hK15 K15
   refine pwp_plain rfl fun K27 hK27 => ?_
   refine p_step rfl (e_add rfl rfl (by omega)) trivial ?_
   refine p_step rfl (e_move (v := .sc _) rfl) trivial ?_
   refine p_end (hK27 _ ?_); clear hK27 K27
   rw [if_neg (by rw [Bool.not_eq_false]; assumption), if_neg (by unfold badS; omega)] at hinv
   exact loop_again (k + 1) (by show _ < _; omega) ⟨rfl, rfl, trivial⟩ ⟨rfl, trivial⟩ (by exact ⟨by show _ + 1 ≤ _; omega, by exact hinv⟩)
  have hb14R := hb14; try simp only [z1, z2, z3, z4, z5, z6, ne_eq, z7, z8, z9, z10, z11, z12] at hb14
  obtain rfl : k = xs.length := by omega
  rw [List.drop_length] at hinv; simp only [goS] at hinv
  refine pwp_exit ?_
  refine exit_seq ?_
  clear hK13 K13
  refine exit_loop ?_
  refine exit_here ?_
  refine seq_norm (hK7 _ ?_); clear hK7 K7
  refine pwp_seq_plain rfl fun K28 hK28 => ?_
  refine p_step rfl (e_assign (v := .sc _) rfl) trivial ?_
  refine p_end (hK28 _ ?_); clear hK28 K28
  refine pwp_ret ?_
  refine end1 (v := .sc _) rfl ?_
  exact out_i (by rw [stockE_le (by omega), hinv])

theorem fr15 : (inFrame Tryd.f15.ntmps (Tryd.f15.body.getD .skip) && Tryd.f15.results.toList.all (resScope Tryd.f15.ntmps)) = true := by kernel_rfl
theorem refCheckS (xs : List Stock) (hl : xs.length ≤ 220) (hs : ∀ x ∈ xs, x.part.size ≤ 30) : PCalls Tryd.prog 15 [.lit true 4 (xs.map Stock.enc)] (.int (stockE xs)) := by
  refine PCalls.of_code Tryd.func15 rfl rfl (by kernel_rfl) mixed fr15 (by show _ ≤ 45; simp) (.sc _) ?_
  refine pwp_seq_plain rfl fun K1 hK1 => ?_
  refine p_step rfl (e_assign (v := .sc _) rfl) trivial ?_
  refine p_end (hK1 _ ?_); clear hK1 K1
  refine pwp_seq_seq ?_
  refine pwp_seq_plain rfl fun K2 hK2 => ?_
  refine p_step rfl (e_move (v := .lit _ _ _) rfl) trivial ?_
  refine p_step rfl (e_len rfl (by kernel_rfl)) trivial ?_
  refine p_step rfl (e_gt rfl rfl) trivial ?_
  refine p_end (hK2 _ ?_); clear hK2 K2
  refine pwp_seq_cond rfl fun K3 hK3 => ⟨fun hb4 => ?_, fun hb4 => ?_⟩
  ·have hb4R := hb4; try simp only [z1, z2, z3, z4, z5, z6, ne_eq, z7, z8, z9, z10, z11, z12] at hb4
   refine pwp_seq_plain rfl fun K5 hK5 => ?_
   refine p_step rfl (e_assign (v := .sc _) rfl) trivial ?_
   refine p_end (hK5 _ ?_); clear hK5 K5
   refine pwp_ret ?_
   refine ret_seq ?_
   refine end1 (v := .sc _) rfl ?_
   exact out_i (stockE_big (by omega)).symm
  have hb4R := hb4; try simp only [z1, z2, z3, z4, z5, z6, ne_eq, z7, z8, z9, z10, z11, z12] at hb4
  refine pwp_skip ?_
  refine seq_norm (hK3 _ ?_); clear hK3 K3
  refine pwp_seq_seq ?_
  refine pwp_seq_plain rfl fun K6 hK6 => ?_
  refine p_step rfl (e_assign (v := .sc _) rfl) trivial ?_
  refine p_end (hK6 _ ?_); clear hK6 K6
  refine pwp_seq_block fun K7 hK7 => ?_
  refine pwp_loopR (α := Nat) [0] (fun (k : Nat) => [(3, .int (k))]) (fun (k : Nat) (h : Heap) (_ : Nat → Nat) => ((k) ≤ xs.length) ∧ (goS xs = goS (xs.drop (k)))) (fun (k : Nat) => xs.length - (k)) (0) (by exact ⟨rfl, trivial⟩) (by exact ⟨by exact Nat.zero_le _, by exact rfl⟩) fun k r8 h9 c10 hj11 => ?_
  obtain ⟨hk, hinv⟩ := hj11
  try dsimp only at hk
  try dsimp only at hinv
  show pwp _ _ (loopQ _ _ _) ⟨sets (mix _ _ _) [(3, .int k)], _, _⟩
  refine pwp_seq_seq ?_
  refine pwp_seq_plain rfl fun K12 hK12 => ?_
  refine p_step rfl (e_move (v := .sc _) rfl) trivial ?_
  refine p_step rfl (e_move (v := .lit _ _ _) rfl) trivial ?_
  refine p_step rfl (e_len rfl (by kernel_rfl)) trivial ?_
  refine p_step rfl (e_lt rfl rfl) trivial ?_
  refine p_end (hK12 _ ?_); clear hK12 K12
  refine pwp_seq_cond rfl fun K13 hK13 => ⟨fun hb14 => ?_, fun hb14 => ?_⟩
  ·have hb14R := hb14; try simp only [z1, z2, z3, z4, z5, z6, ne_eq, z7, z8, z9, z10, z11, z12] at hb14
   obtain ⟨x, hx, hd, ht⟩ := get_lt (xs := xs) (i := k) (by omega)
   rw [hd] at hinv; simp only [goS] at hinv
   have hsz := ssz hs hx
   refine pwp_skip ?_
   refine seq_norm (hK13 _ ?_); clear hK13 K13
   refine pwp_seq_block fun K15 hK15 => ?_
   refine pwp_seq_seq ?_
   refine pwp_seq_plain rfl fun K16 hK16 => ?_
   refine p_step rfl (e_move (v := .lit _ _ _) rfl) trivial ?_
   refine p_step rfl (e_move (v := .sc _) rfl) trivial ?_
   refine p_step rfl (e_ixa rfl rfl (by kernel_rfl) (by kernel_rfl) (by simp only [List.length_map]; omega)) trivial ?_
   refine p_step rfl (e_fa (pl := [(0, 1, false), (1, 1, false), (2, 1, false), (3, 1, false)]) rfl (by kernel_rfl) (by kernel_rfl) (by decide) rfl) trivial ?_
   refine p_step rfl (e_load (v := .sc _) rfl (by kernel_rfl) (by kernel_rfl) (by kernel_rfl) (by simp only [List.length_map]; omega) (by decide) ((cell_map hx _).trans rfl)) trivial ?_
   refine p_call rfl (.cons inn_sc .nil) (IsName _) ?_
   refine p_step rfl (e_not rfl) trivial ?_
   refine p_end (hK16 _ ?_); clear hK16 K16
   refine pwp_seq_cond rfl fun K17 hK17 => ⟨fun hb18 => ?_, fun hb18 => ?_⟩
   ·have hb18R := hb18; try simp only [z1, z2, z3, z4, z5, z6, ne_eq, z7, z8, z9, z10, z11, z12] at hb18
    refine pwp_seq_plain rfl fun K19 hK19 => ?_
    refine p_step rfl (e_assign (v := .sc _) rfl) trivial ?_
    refine p_end (hK19 _ ?_); clear hK19 K19
    refine pwp_ret ?_
    refine ret_seq ?_
    refine ret_block ?_
    refine ret_seq ?_
    refine ret_loop ?_
    refine ret_block ?_
    refine ret_seq ?_
    refine end1 (v := .sc _) rfl ?_
    exact out_i (by rw [stockE_le (by omega), hinv, if_pos (by assumption)])
   have hb18R := hb18; try simp only [z1, z2, z3, z4, z5, z6, ne_eq, z7, z8, z9, z10, z11, z12] at hb18
   refine pwp_skip ?_
   refine seq_norm (hK17 _ ?_); clear hK17 K17
   refine pwp_seq_cutG [0, 3] [(44, .bool (((!(decide ((0) ≤ x.place ∧ x.place ≤ (99)))) || (!(decide ((0) ≤ x.state ∧ x.state ≤ (3))))) || (!(decide ((0) ≤ x.count ∧ x.count ≤ (1000000))))))] (fun K20 hK20 => ?_) (fun r21 => ?_)
   ·skip
    refine pwp_gops rfl fun K22 hK22 => ?_
    refine g_begin ?_
    refine g_step rfl rfl rfl rfl (e_move (v := .lit _ _ _) rfl) trivial ?_
    refine g_step rfl rfl rfl rfl (e_move (v := .sc _) rfl) trivial ?_
    refine g_step rfl rfl rfl rfl (e_ixa rfl rfl (by kernel_rfl) (by kernel_rfl) (by simp only [List.length_map]; omega)) trivial ?_
    refine g_step rfl rfl rfl rfl (e_fa (pl := [(0, 1, false), (1, 1, false), (2, 1, false), (3, 1, false)]) rfl (by kernel_rfl) (by kernel_rfl) (by decide) rfl) trivial ?_
    refine g_step rfl rfl rfl rfl (e_load (v := .sc _) rfl (by kernel_rfl) (by kernel_rfl) (by kernel_rfl) (by simp only [List.length_map]; omega) (by decide) ((cell_map hx _).trans rfl)) trivial ?_
    refine g_call rfl rfl rfl rfl (.cons inn_sc (.cons inn_sc (.cons inn_sc .nil))) (Within _ _ _) ?_
    refine g_step rfl rfl rfl rfl (e_not rfl) trivial ?_
    refine g_step rfl rfl rfl rfl (e_move (v := .sc _) rfl) trivial ?_
    refine g_cases (fun hb23 => ?_) (fun hb23 => ?_)
    ·have hb23R := hb23; try simp only [z1, z2, z3, z4, z5, z6, ne_eq, z7, z8, z9, z10, z11, z12] at hb23
     refine g_skip rfl rfl rfl ?_
     refine g_skip rfl rfl rfl ?_
     refine g_skip rfl rfl rfl ?_
     refine g_skip rfl rfl rfl ?_
     refine g_skip rfl rfl rfl ?_
     refine g_nocall rfl rfl rfl ?_
     refine g_skip rfl rfl rfl ?_
     refine g_step rfl rfl rfl rfl (e_pickT (v := .sc _) rfl rfl) trivial ?_
     refine g_step rfl rfl rfl rfl (e_move (v := .sc _) rfl) trivial ?_
     refine g_skip rfl rfl rfl ?_
     refine g_skip rfl rfl rfl ?_
     refine g_skip rfl rfl rfl ?_
     refine g_skip rfl rfl rfl ?_
     refine g_skip rfl rfl rfl ?_
     refine g_nocall rfl rfl rfl ?_
     refine g_skip rfl rfl rfl ?_
     refine g_step rfl rfl rfl rfl (e_pickT (v := .sc _) rfl rfl) trivial ?_
     refine g_end (ds := [28, 29, 30, 31, 32, 33, 34, 37, 38, 39, 40, 41, 42, 43]) rfl rfl (hK22 _ ?_); clear hK22 K22
     exact seq_norm (hK20 _ ⟨rfl, rfl, trivial⟩ ⟨(congrArg PV.bool (show (true : Bool) = (((!(decide ((0) ≤ x.place ∧ x.place ≤ (99)))) || (!(decide ((0) ≤ x.state ∧ x.state ≤ (3))))) || (!(decide ((0) ≤ x.count ∧ x.count ≤ (1000000))))) by first | rfl | ((try rw [hb23R]) <;> (first | rfl | (simp only [Bool.and_true, Bool.and_false, Bool.true_and, Bool.false_and, Bool.or_true, Bool.or_false, Bool.true_or, Bool.false_or, Bool.not_true, Bool.not_false, if_true, if_false, Bool.false_eq_true, reduceIte] <;> rfl))) | (simp only [hb23R, Bool.and_true, Bool.and_false, Bool.true_and, Bool.false_and, Bool.or_true, Bool.or_false, Bool.true_or, Bool.false_or, Bool.not_true, Bool.not_false, if_true, if_false, Bool.false_eq_true, reduceIte] <;> rfl))), trivial⟩)
    have hb23R := hb23; try simp only [z1, z2, z3, z4, z5, z6, ne_eq, z7, z8, z9, z10, z11, z12] at hb23
    refine g_step rfl rfl rfl rfl (e_move (v := .lit _ _ _) rfl) trivial ?_
    refine g_step rfl rfl rfl rfl (e_move (v := .sc _) rfl) trivial ?_
    refine g_step rfl rfl rfl rfl (e_ixa rfl rfl (by kernel_rfl) (by kernel_rfl) (by simp only [List.length_map]; omega)) trivial ?_
    refine g_step rfl rfl rfl rfl (e_fa (pl := [(0, 1, false), (1, 1, false), (2, 1, false), (3, 1, false)]) rfl (by kernel_rfl) (by kernel_rfl) (by decide) rfl) trivial ?_
    refine g_step rfl rfl rfl rfl (e_load (v := .sc _) rfl (by kernel_rfl) (by kernel_rfl) (by kernel_rfl) (by simp only [List.length_map]; omega) (by decide) ((cell_map hx _).trans rfl)) trivial ?_
    refine g_call rfl rfl rfl rfl (.cons inn_sc (.cons inn_sc (.cons inn_sc .nil))) (Within _ _ _) ?_
    refine g_step rfl rfl rfl rfl (e_not rfl) trivial ?_
    refine g_step rfl rfl rfl rfl (e_pickF (v := .sc _) rfl rfl) trivial ?_
    refine g_step rfl rfl rfl rfl (e_move (v := .sc _) rfl) trivial ?_
    refine g_cases (fun hb24 => ?_) (fun hb24 => ?_)
    ·have hb24R := hb24; try simp only [z1, z2, z3, z4, z5, z6, ne_eq, z7, z8, z9, z10, z11, z12] at hb24
     refine g_skip rfl rfl rfl ?_
     refine g_skip rfl rfl rfl ?_
     refine g_skip rfl rfl rfl ?_
     refine g_skip rfl rfl rfl ?_
     refine g_skip rfl rfl rfl ?_
     refine g_nocall rfl rfl rfl ?_
     refine g_skip rfl rfl rfl ?_
     refine g_step rfl rfl rfl rfl (e_pickT (v := .sc _) rfl rfl) trivial ?_
     refine g_end (ds := [28, 29, 30, 31, 32, 33, 34, 37, 38, 39, 40, 41, 42, 43]) rfl rfl (hK22 _ ?_); clear hK22 K22
     exact seq_norm (hK20 _ ⟨rfl, rfl, trivial⟩ ⟨(congrArg PV.bool (show (true : Bool) = (((!(decide ((0) ≤ x.place ∧ x.place ≤ (99)))) || (!(decide ((0) ≤ x.state ∧ x.state ≤ (3))))) || (!(decide ((0) ≤ x.count ∧ x.count ≤ (1000000))))) by first | rfl | ((try rw [hb24R]) <;> (try rw [hb23R]) <;> (first | rfl | (simp only [Bool.and_true, Bool.and_false, Bool.true_and, Bool.false_and, Bool.or_true, Bool.or_false, Bool.true_or, Bool.false_or, Bool.not_true, Bool.not_false, if_true, if_false, Bool.false_eq_true, reduceIte] <;> rfl))) | (simp only [hb23R, hb24R, Bool.and_true, Bool.and_false, Bool.true_and, Bool.false_and, Bool.or_true, Bool.or_false, Bool.true_or, Bool.false_or, Bool.not_true, Bool.not_false, if_true, if_false, Bool.false_eq_true, reduceIte] <;> rfl))), trivial⟩)
    have hb24R := hb24; try simp only [z1, z2, z3, z4, z5, z6, ne_eq, z7, z8, z9, z10, z11, z12] at hb24
    refine g_step rfl rfl rfl rfl (e_move (v := .lit _ _ _) rfl) trivial ?_
    refine g_step rfl rfl rfl rfl (e_move (v := .sc _) rfl) trivial ?_
    refine g_step rfl rfl rfl rfl (e_ixa rfl rfl (by kernel_rfl) (by kernel_rfl) (by simp only [List.length_map]; omega)) trivial ?_
    refine g_step rfl rfl rfl rfl (e_fa (pl := [(0, 1, false), (1, 1, false), (2, 1, false), (3, 1, false)]) rfl (by kernel_rfl) (by kernel_rfl) (by decide) rfl) trivial ?_
    refine g_step rfl rfl rfl rfl (e_load (v := .sc _) rfl (by kernel_rfl) (by kernel_rfl) (by kernel_rfl) (by simp only [List.length_map]; omega) (by decide) ((cell_map hx _).trans rfl)) trivial ?_
    refine g_call rfl rfl rfl rfl (.cons inn_sc (.cons inn_sc (.cons inn_sc .nil))) (Within _ _ _) ?_
    refine g_step rfl rfl rfl rfl (e_not rfl) trivial ?_
    refine g_step rfl rfl rfl rfl (e_pickF (v := .sc _) rfl rfl) trivial ?_
    refine g_end (ds := [28, 29, 30, 31, 32, 33, 34, 37, 38, 39, 40, 41, 42, 43]) rfl rfl (hK22 _ ?_); clear hK22 K22
    exact seq_norm (hK20 _ ⟨rfl, rfl, trivial⟩ ⟨(congrArg PV.bool (show ((!(decide ((0) ≤ x.count ∧ x.count ≤ (1000000)))) : Bool) = (((!(decide ((0) ≤ x.place ∧ x.place ≤ (99)))) || (!(decide ((0) ≤ x.state ∧ x.state ≤ (3))))) || (!(decide ((0) ≤ x.count ∧ x.count ≤ (1000000))))) by first | rfl | ((try rw [hb24R]) <;> (try rw [hb23R]) <;> (first | rfl | (simp only [Bool.and_true, Bool.and_false, Bool.true_and, Bool.false_and, Bool.or_true, Bool.or_false, Bool.true_or, Bool.false_or, Bool.not_true, Bool.not_false, if_true, if_false, Bool.false_eq_true, reduceIte] <;> rfl))) | (simp only [hb23R, hb24R, Bool.and_true, Bool.and_false, Bool.true_and, Bool.false_and, Bool.or_true, Bool.or_false, Bool.true_or, Bool.false_or, Bool.not_true, Bool.not_false, if_true, if_false, Bool.false_eq_true, reduceIte] <;> rfl))), trivial⟩)
   refine pwp_cond rfl (fun hb25 => ?_) (fun hb25 => ?_)
   ·have hb25R := hb25; try simp only [z1, z2, z3, z4, z5, z6, ne_eq, z7, z8, z9, z10, z11, z12] at hb25
    refine pwp_seq_plain rfl fun K26 hK26 => ?_
    refine p_step rfl (e_assign (v := .sc _) rfl) trivial ?_
    refine p_end (hK26 _ ?_); clear hK26 K26
    refine pwp_ret ?_
    refine ret_block ?_
    refine ret_seq ?_
    refine ret_loop ?_
    refine ret_block ?_
    refine ret_seq ?_
    refine end1 (v := .sc _) rfl ?_
    exact out_i (by rw [stockE_le (by omega), hinv, if_neg (by rw [Bool.not_eq_false]; assumption), if_pos (by unfold badS; omega)])
   have hb25R := hb25; try simp only [z1, z2, z3, z4, z5, z6, ne_eq, z7, z8, z9, z10, z11, z12] at hb25
   refine pwp_skip ?_
   refine block_norm ?_
   refine seq_norm (hK15 _ ?_); clear hK15 K15
   refine pwp_plain rfl fun K27 hK27 => ?_
   refine p_step rfl (e_move (v := .sc _) rfl) trivial ?_
   refine p_step rfl (e_add rfl rfl (by omega)) trivial ?_
   refine p_step rfl (e_assign (v := .sc _) rfl) trivial ?_
   refine p_end (hK27 _ ?_); clear hK27 K27
   rw [if_neg (by rw [Bool.not_eq_false]; assumption), if_neg (by unfold badS; omega)] at hinv
   exact loop_again (k + 1) (by show _ < _; omega) ⟨rfl, trivial⟩ ⟨rfl, trivial⟩ (by exact ⟨by show _ + 1 ≤ _; omega, by exact hinv⟩)
  have hb14R := hb14; try simp only [z1, z2, z3, z4, z5, z6, ne_eq, z7, z8, z9, z10, z11, z12] at hb14
  obtain rfl : k = xs.length := by omega
  rw [List.drop_length] at hinv; simp only [goS] at hinv
  refine pwp_exit ?_
  refine exit_seq ?_
  clear hK13 K13
  refine exit_loop ?_
  refine exit_here ?_
  refine seq_norm (hK7 _ ?_); clear hK7 K7
  refine pwp_seq_plain rfl fun K28 hK28 => ?_
  refine p_step rfl (e_assign (v := .sc _) rfl) trivial ?_
  refine p_end (hK28 _ ?_); clear hK28 K28
  refine pwp_ret ?_
  refine end1 (v := .sc _) rfl ?_
  exact out_i (by rw [stockE_le (by omega), hinv])

theorem fr8 : (inFrame Tryd.f8.ntmps (Tryd.f8.body.getD .skip) && Tryd.f8.results.toList.all (resScope Tryd.f8.ntmps)) = true := by kernel_rfl
theorem ShortS (xs : List Stock) (hl : xs.length ≤ 9223372036854775807) : PCalls Tryd.prog 8 [.lit true 4 (xs.map Stock.enc)] (.bool (shortB xs)) := by
  refine PCalls.of_code Tryd.func8 rfl rfl (by kernel_rfl) mixed fr8 (by show _ ≤ 30; simp) (.sc _) ?_
  refine pwp_seq_plain rfl fun K1 hK1 => ?_
  refine p_step rfl (e_assign (v := .sc _) rfl) trivial ?_
  refine p_end (hK1 _ ?_); clear hK1 K1
  refine pwp_seq_seq ?_
  refine pwp_seq_gops rfl fun K2 hK2 => ?_
  refine g_begin ?_
  refine g_step rfl rfl rfl rfl (e_move (v := .lit _ _ _) rfl) trivial ?_
  refine g_step rfl rfl rfl rfl (e_len rfl (by kernel_rfl)) trivial ?_
  refine g_step rfl rfl rfl rfl (e_gt rfl rfl) trivial ?_
  refine g_step rfl rfl rfl rfl (e_move (v := .sc _) rfl) trivial ?_
  refine g_cases (fun hb3 => ?_) (fun hb3 => ?_)
  ·have hb3R := hb3; try simp only [z1, z2, z3, z4, z5, z6, ne_eq, z7, z8, z9, z10, z11, z12] at hb3
   refine g_step rfl rfl rfl rfl (e_move (v := .lit _ _ _) rfl) trivial ?_
   refine g_step rfl rfl rfl rfl (e_len rfl (by kernel_rfl)) trivial ?_
   refine g_step rfl rfl rfl rfl (e_le rfl rfl) trivial ?_
   refine g_step rfl rfl rfl rfl (e_pickT (v := .sc _) rfl rfl) trivial ?_
   refine g_step rfl rfl rfl rfl (e_move (v := .sc _) rfl) trivial ?_
   refine g_cases (fun hb4 => ?_) (fun hb4 => ?_)
   ·have hb4R := hb4; try simp only [z1, z2, z3, z4, z5, z6, ne_eq, z7, z8, z9, z10, z11, z12] at hb4
    refine g_skip rfl rfl rfl ?_
    refine g_skip rfl rfl rfl ?_
    refine g_skip rfl rfl rfl ?_
    refine g_step rfl rfl rfl rfl (e_pickT (v := .sc _) rfl rfl) trivial ?_
    refine g_end (ds := [8, 9, 10, 13, 14, 15]) rfl rfl (hK2 _ ?_); clear hK2 K2
    refine pwp_seq_cond (t := true) rfl fun K5 hK5 => ⟨fun _ => ?_, nofun⟩
    refine pwp_seq_plain rfl fun K6 hK6 => ?_
    refine p_step rfl (e_assign (v := .sc _) rfl) trivial ?_
    refine p_end (hK6 _ ?_); clear hK6 K6
    refine pwp_ret ?_
    refine ret_seq ?_
    refine end1 (v := .sc _) rfl ?_
    exact out_b (short_len (by omega))
   have hb4R := hb4; try simp only [z1, z2, z3, z4, z5, z6, ne_eq, z7, z8, z9, z10, z11, z12] at hb4
   refine g_step rfl rfl rfl rfl (e_move (v := .lit _ _ _) rfl) trivial ?_
   refine g_step rfl rfl rfl rfl (e_len rfl (by kernel_rfl)) trivial ?_
   refine g_step rfl rfl rfl rfl (e_gt rfl rfl) trivial ?_
   refine g_step rfl rfl rfl rfl (e_pickF (v := .sc _) rfl rfl) trivial ?_
   refine g_end (ds := [8, 9, 10, 13, 14, 15]) rfl rfl (hK2 _ ?_); clear hK2 K2
   refine pwp_seq_cond rfl fun K7 hK7 => ⟨fun hb8 => ?_, fun hb8 => ?_⟩
   ·have hb8R := hb8; try simp only [z1, z2, z3, z4, z5, z6, ne_eq, z7, z8, z9, z10, z11, z12] at hb8
    refine pwp_seq_plain rfl fun K9 hK9 => ?_
    refine p_step rfl (e_assign (v := .sc _) rfl) trivial ?_
    refine p_end (hK9 _ ?_); clear hK9 K9
    refine pwp_ret ?_
    refine ret_seq ?_
    refine end1 (v := .sc _) rfl ?_
    exact out_b (short_len (by omega))
   have hb8R := hb8; try simp only [z1, z2, z3, z4, z5, z6, ne_eq, z7, z8, z9, z10, z11, z12] at hb8
   refine pwp_skip ?_
   refine seq_norm (hK7 _ ?_); clear hK7 K7
   refine pwp_seq_seq ?_
   refine pwp_seq_plain rfl fun K10 hK10 => ?_
   refine p_step rfl (e_assign (v := .sc _) rfl) trivial ?_
   refine p_end (hK10 _ ?_); clear hK10 K10
   refine pwp_seq_block fun K11 hK11 => ?_
   refine pwp_loopR (α := Nat) [0] (fun (k : Nat) => [(3, .int (k))]) (fun (k : Nat) (h : Heap) (_ : Nat → Nat) => ((k) ≤ xs.length) ∧ (∀ x ∈ xs.take (k), x.part.size ≤ 30)) (fun (k : Nat) => xs.length - (k)) (0) (by exact ⟨rfl, trivial⟩) (by exact ⟨by exact Nat.zero_le _, by simp⟩) fun k r12 h13 c14 hj15 => ?_
   obtain ⟨hk, hq⟩ := hj15
   try dsimp only at hk
   try dsimp only at hq
   show pwp _ _ (loopQ _ _ _) ⟨sets (mix _ _ _) [(3, .int k)], _, _⟩
   refine pwp_seq_seq ?_
   refine pwp_seq_plain rfl fun K16 hK16 => ?_
   refine p_step rfl (e_move (v := .sc _) rfl) trivial ?_
   refine p_step rfl (e_move (v := .lit _ _ _) rfl) trivial ?_
   refine p_step rfl (e_len rfl (by kernel_rfl)) trivial ?_
   refine p_step rfl (e_lt rfl rfl) trivial ?_
   refine p_end (hK16 _ ?_); clear hK16 K16
   refine pwp_seq_cond rfl fun K17 hK17 => ⟨fun hb18 => ?_, fun hb18 => ?_⟩
   ·have hb18R := hb18; try simp only [z1, z2, z3, z4, z5, z6, ne_eq, z7, z8, z9, z10, z11, z12] at hb18
    obtain ⟨x, hx, hd, ht⟩ := get_lt (xs := xs) (i := k) (by omega)
    refine pwp_skip ?_
    refine seq_norm (hK17 _ ?_); clear hK17 K17
    refine pwp_seq_block fun K19 hK19 => ?_
    refine pwp_seq_plain rfl fun K20 hK20 => ?_
    refine p_step rfl (e_move (v := .lit _ _ _) rfl) trivial ?_
    refine p_step rfl (e_move (v := .sc _) rfl) trivial ?_
    refine p_step rfl (e_ixa rfl rfl (by kernel_rfl) (by kernel_rfl) (by simp only [List.length_map]; omega)) trivial ?_
    refine p_step rfl (e_fa (pl := [(0, 1, false), (1, 1, false), (2, 1, false), (3, 1, false)]) rfl (by kernel_rfl) (by kernel_rfl) (by decide) rfl) trivial ?_
    refine p_step rfl (e_load (v := .sc _) rfl (by kernel_rfl) (by kernel_rfl) (by kernel_rfl) (by simp only [List.length_map]; omega) (by decide) ((cell_map hx _).trans rfl)) trivial ?_
    refine p_step rfl (e_lenS rfl (by kernel_rfl)) trivial ?_
    refine p_step rfl (e_gt rfl rfl) trivial ?_
    refine p_end (hK20 _ ?_); clear hK20 K20
    refine pwp_cond rfl (fun hb21 => ?_) (fun hb21 => ?_)
    ·have hb21R := hb21; try simp only [z1, z2, z3, z4, z5, z6, ne_eq, z7, z8, z9, z10, z11, z12] at hb21
     refine pwp_seq_plain rfl fun K22 hK22 => ?_
     refine p_step rfl (e_assign (v := .sc _) rfl) trivial ?_
     refine p_end (hK22 _ ?_); clear hK22 K22
     refine pwp_ret ?_
     refine ret_block ?_
     refine ret_seq ?_
     refine ret_loop ?_
     refine ret_block ?_
     refine ret_seq ?_
     refine end1 (v := .sc _) rfl ?_
     exact out_b (short_x hx (by omega))
    have hb21R := hb21; try simp only [z1, z2, z3, z4, z5, z6, ne_eq, z7, z8, z9, z10, z11, z12] at hb21
    refine pwp_skip ?_
    refine block_norm ?_
    refine seq_norm (hK19 _ ?_); clear hK19 K19
    refine pwp_plain rfl fun K23 hK23 => ?_
    refine p_step rfl (e_move (v := .sc _) rfl) trivial ?_
    refine p_step rfl (e_add rfl rfl (by omega)) trivial ?_
    refine p_step rfl (e_assign (v := .sc _) rfl) trivial ?_
    refine p_end (hK23 _ ?_); clear hK23 K23
    exact loop_again (k + 1) (by show _ < _; omega) ⟨rfl, trivial⟩ ⟨rfl, trivial⟩ (by exact ⟨by show _ + 1 ≤ _; omega, by exact all_snocS ht hq (by omega)⟩)
   have hb18R := hb18; try simp only [z1, z2, z3, z4, z5, z6, ne_eq, z7, z8, z9, z10, z11, z12] at hb18
   obtain rfl : k = xs.length := by omega
   refine pwp_exit ?_
   refine exit_seq ?_
   clear hK17 K17
   refine exit_loop ?_
   refine exit_here ?_
   refine seq_norm (hK11 _ ?_); clear hK11 K11
   refine pwp_seq_plain rfl fun K24 hK24 => ?_
   refine p_step rfl (e_assign (v := .sc _) rfl) trivial ?_
   refine p_end (hK24 _ ?_); clear hK24 K24
   refine pwp_ret ?_
   refine end1 (v := .sc _) rfl ?_
   exact out_b (short_ok (by omega) hq)
  have hb3R := hb3; try simp only [z1, z2, z3, z4, z5, z6, ne_eq, z7, z8, z9, z10, z11, z12] at hb3
  refine g_skip rfl rfl rfl ?_
  refine g_skip rfl rfl rfl ?_
  refine g_skip rfl rfl rfl ?_
  refine g_step rfl rfl rfl rfl (e_pickF (v := .sc _) rfl rfl) trivial ?_
  refine g_step rfl rfl rfl rfl (e_move (v := .sc _) rfl) trivial ?_
  refine g_step rfl rfl rfl rfl (e_move (v := .lit _ _ _) rfl) trivial ?_
  refine g_step rfl rfl rfl rfl (e_len rfl (by kernel_rfl)) trivial ?_
  refine g_step rfl rfl rfl rfl (e_gt rfl rfl) trivial ?_
  refine g_step rfl rfl rfl rfl (e_pickF (v := .sc _) rfl rfl) trivial ?_
  refine g_end (ds := [8, 9, 10, 13, 14, 15]) rfl rfl (hK2 _ ?_); clear hK2 K2
  refine pwp_seq_cond rfl fun K25 hK25 => ⟨fun hb26 => ?_, fun hb26 => ?_⟩
  ·have hb26R := hb26; try simp only [z1, z2, z3, z4, z5, z6, ne_eq, z7, z8, z9, z10, z11, z12] at hb26
   refine pwp_seq_plain rfl fun K27 hK27 => ?_
   refine p_step rfl (e_assign (v := .sc _) rfl) trivial ?_
   refine p_end (hK27 _ ?_); clear hK27 K27
   refine pwp_ret ?_
   refine ret_seq ?_
   refine end1 (v := .sc _) rfl ?_
   exact out_b (short_len (by omega))
  have hb26R := hb26; try simp only [z1, z2, z3, z4, z5, z6, ne_eq, z7, z8, z9, z10, z11, z12] at hb26
  refine pwp_skip ?_
  refine seq_norm (hK25 _ ?_); clear hK25 K25
  refine pwp_seq_seq ?_
  refine pwp_seq_plain rfl fun K28 hK28 => ?_
  refine p_step rfl (e_assign (v := .sc _) rfl) trivial ?_
  refine p_end (hK28 _ ?_); clear hK28 K28
  refine pwp_seq_block fun K29 hK29 => ?_
  refine pwp_loopR (α := Nat) [0] (fun (k : Nat) => [(3, .int (k))]) (fun (k : Nat) (h : Heap) (_ : Nat → Nat) => ((k) ≤ xs.length) ∧ (∀ x ∈ xs.take (k), x.part.size ≤ 30)) (fun (k : Nat) => xs.length - (k)) (0) (by exact ⟨rfl, trivial⟩) (by exact ⟨by exact Nat.zero_le _, by simp⟩) fun k r30 h31 c32 hj33 => ?_
  obtain ⟨hk, hq⟩ := hj33
  try dsimp only at hk
  try dsimp only at hq
  show pwp _ _ (loopQ _ _ _) ⟨sets (mix _ _ _) [(3, .int k)], _, _⟩
  refine pwp_seq_seq ?_
  refine pwp_seq_plain rfl fun K34 hK34 => ?_
  refine p_step rfl (e_move (v := .sc _) rfl) trivial ?_
  refine p_step rfl (e_move (v := .lit _ _ _) rfl) trivial ?_
  refine p_step rfl (e_len rfl (by kernel_rfl)) trivial ?_
  refine p_step rfl (e_lt rfl rfl) trivial ?_
  refine p_end (hK34 _ ?_); clear hK34 K34
  refine pwp_seq_cond rfl fun K35 hK35 => ⟨fun hb36 => ?_, fun hb36 => ?_⟩
  ·have hb36R := hb36; try simp only [z1, z2, z3, z4, z5, z6, ne_eq, z7, z8, z9, z10, z11, z12] at hb36
   obtain ⟨x, hx, hd, ht⟩ := get_lt (xs := xs) (i := k) (by omega)
   refine pwp_skip ?_
   refine seq_norm (hK35 _ ?_); clear hK35 K35
   refine pwp_seq_block fun K37 hK37 => ?_
   refine pwp_seq_plain rfl fun K38 hK38 => ?_
   refine p_step rfl (e_move (v := .lit _ _ _) rfl) trivial ?_
   refine p_step rfl (e_move (v := .sc _) rfl) trivial ?_
   refine p_step rfl (e_ixa rfl rfl (by kernel_rfl) (by kernel_rfl) (by simp only [List.length_map]; omega)) trivial ?_
   refine p_step rfl (e_fa (pl := [(0, 1, false), (1, 1, false), (2, 1, false), (3, 1, false)]) rfl (by kernel_rfl) (by kernel_rfl) (by decide) rfl) trivial ?_
   refine p_step rfl (e_load (v := .sc _) rfl (by kernel_rfl) (by kernel_rfl) (by kernel_rfl) (by simp only [List.length_map]; omega) (by decide) ((cell_map hx _).trans rfl)) trivial ?_
   refine p_step rfl (e_lenS rfl (by kernel_rfl)) trivial ?_
   refine p_step rfl (e_gt rfl rfl) trivial ?_
   refine p_end (hK38 _ ?_); clear hK38 K38
   refine pwp_cond rfl (fun hb39 => ?_) (fun hb39 => ?_)
   ·have hb39R := hb39; try simp only [z1, z2, z3, z4, z5, z6, ne_eq, z7, z8, z9, z10, z11, z12] at hb39
    refine pwp_seq_plain rfl fun K40 hK40 => ?_
    refine p_step rfl (e_assign (v := .sc _) rfl) trivial ?_
    refine p_end (hK40 _ ?_); clear hK40 K40
    refine pwp_ret ?_
    refine ret_block ?_
    refine ret_seq ?_
    refine ret_loop ?_
    refine ret_block ?_
    refine ret_seq ?_
    refine end1 (v := .sc _) rfl ?_
    exact out_b (short_x hx (by omega))
   have hb39R := hb39; try simp only [z1, z2, z3, z4, z5, z6, ne_eq, z7, z8, z9, z10, z11, z12] at hb39
   refine pwp_skip ?_
   refine block_norm ?_
   refine seq_norm (hK37 _ ?_); clear hK37 K37
   refine pwp_plain rfl fun K41 hK41 => ?_
   refine p_step rfl (e_move (v := .sc _) rfl) trivial ?_
   refine p_step rfl (e_add rfl rfl (by omega)) trivial ?_
   refine p_step rfl (e_assign (v := .sc _) rfl) trivial ?_
   refine p_end (hK41 _ ?_); clear hK41 K41
   exact loop_again (k + 1) (by show _ < _; omega) ⟨rfl, trivial⟩ ⟨rfl, trivial⟩ (by exact ⟨by show _ + 1 ≤ _; omega, by exact all_snocS ht hq (by omega)⟩)
  have hb36R := hb36; try simp only [z1, z2, z3, z4, z5, z6, ne_eq, z7, z8, z9, z10, z11, z12] at hb36
  obtain rfl : k = xs.length := by omega
  refine pwp_exit ?_
  refine exit_seq ?_
  clear hK35 K35
  refine exit_loop ?_
  refine exit_here ?_
  refine seq_norm (hK29 _ ?_); clear hK29 K29
  refine pwp_seq_plain rfl fun K42 hK42 => ?_
  refine p_step rfl (e_assign (v := .sc _) rfl) trivial ?_
  refine p_end (hK42 _ ?_); clear hK42 K42
  refine pwp_ret ?_
  refine end1 (v := .sc _) rfl ?_
  exact out_b (short_ok (by omega) hq)

theorem fr17 : (inFrame Tryd.f17.ntmps (Tryd.f17.body.getD .skip) && Tryd.f17.results.toList.all (resScope Tryd.f17.ntmps)) = true := by kernel_rfl
theorem SameStock (xs ys : List Stock) (hl : xs.length ≤ 10000000) : PCalls Tryd.prog 17 [.lit true 4 (xs.map Stock.enc), .lit true 4 (ys.map Stock.enc)] (.bool (decide (xs = ys))) := by
  refine PCalls.of_code Tryd.func17 rfl rfl (by kernel_rfl) mixed fr17 (by show _ ≤ 26; simp) (.sc _) ?_
  refine pwp_seq_plain rfl fun K1 hK1 => ?_
  refine p_step rfl (e_assign (v := .sc _) rfl) trivial ?_
  refine p_end (hK1 _ ?_); clear hK1 K1
  refine pwp_seq_seq ?_
  refine pwp_seq_plain rfl fun K2 hK2 => ?_
  refine p_step rfl (e_move (v := .lit _ _ _) rfl) trivial ?_
  refine p_step rfl (e_len rfl (by kernel_rfl)) trivial ?_
  refine p_step rfl (e_move (v := .lit _ _ _) rfl) trivial ?_
  refine p_step rfl (e_len rfl (by kernel_rfl)) trivial ?_
  refine p_step rfl (e_ne rfl rfl) trivial ?_
  refine p_end (hK2 _ ?_); clear hK2 K2
  refine pwp_seq_cond rfl fun K3 hK3 => ⟨fun hb4 => ?_, fun hb4 => ?_⟩
  ·have hb4R := hb4; try simp only [z1, z2, z3, z4, z5, z6, ne_eq, z7, z8, z9, z10, z11, z12] at hb4
   refine pwp_seq_plain rfl fun K5 hK5 => ?_
   refine p_step rfl (e_assign (v := .sc _) rfl) trivial ?_
   refine p_end (hK5 _ ?_); clear hK5 K5
   refine pwp_ret ?_
   refine ret_seq ?_
   refine end1 (v := .sc _) rfl ?_
   exact out_b (decide_eq_false (by first | (intro hc; subst hc; omega) | exact same_badL hx hy (by assumption))).symm
  have hb4R := hb4; try simp only [z1, z2, z3, z4, z5, z6, ne_eq, z7, z8, z9, z10, z11, z12] at hb4
  refine pwp_skip ?_
  refine seq_norm (hK3 _ ?_); clear hK3 K3
  refine pwp_seq_seq ?_
  refine pwp_seq_plain rfl fun K6 hK6 => ?_
  refine p_step rfl (e_assign (v := .sc _) rfl) trivial ?_
  refine p_end (hK6 _ ?_); clear hK6 K6
  refine pwp_seq_block fun K7 hK7 => ?_
  refine pwp_loopR (α := Nat) [0, 1] (fun (k : Nat) => [(5, .int (k))]) (fun (k : Nat) (h : Heap) (_ : Nat → Nat) => ((k) ≤ xs.length) ∧ (xs.take (k) = ys.take (k))) (fun (k : Nat) => xs.length - (k)) (0) (by exact ⟨rfl, trivial⟩) (by exact ⟨by exact Nat.zero_le _, by exact rfl⟩) fun k r8 h9 c10 hj11 => ?_
  obtain ⟨hk, he⟩ := hj11
  try dsimp only at hk
  try dsimp only at he
  show pwp _ _ (loopQ _ _ _) ⟨sets (mix _ _ _) [(5, .int k)], _, _⟩
  refine pwp_seq_seq ?_
  refine pwp_seq_plain rfl fun K12 hK12 => ?_
  refine p_step rfl (e_move (v := .sc _) rfl) trivial ?_
  refine p_step rfl (e_move (v := .lit _ _ _) rfl) trivial ?_
  refine p_step rfl (e_len rfl (by kernel_rfl)) trivial ?_
  refine p_step rfl (e_lt rfl rfl) trivial ?_
  refine p_end (hK12 _ ?_); clear hK12 K12
  refine pwp_seq_cond rfl fun K13 hK13 => ⟨fun hb14 => ?_, fun hb14 => ?_⟩
  ·have hb14R := hb14; try simp only [z1, z2, z3, z4, z5, z6, ne_eq, z7, z8, z9, z10, z11, z12] at hb14
   obtain ⟨x, hx, hd, ht⟩ := get_lt (xs := xs) (i := k) (by omega)
   obtain ⟨y, hy, hdy, hty⟩ := get_lt (xs := ys) (i := k) (by omega)
   refine pwp_skip ?_
   refine seq_norm (hK13 _ ?_); clear hK13 K13
   refine pwp_seq_block fun K15 hK15 => ?_
   refine pwp_seq_gops rfl fun K16 hK16 => ?_
   refine g_begin ?_
   refine g_step rfl rfl rfl rfl (e_move (v := .lit _ _ _) rfl) trivial ?_
   refine g_step rfl rfl rfl rfl (e_move (v := .sc _) rfl) trivial ?_
   refine g_step rfl rfl rfl rfl (e_ixa rfl rfl (by kernel_rfl) (by kernel_rfl) (by simp only [List.length_map]; omega)) trivial ?_
   refine g_step rfl rfl rfl rfl (e_loadA (n := 4) rfl (by kernel_rfl) (by kernel_rfl) (by kernel_rfl) (by simp only [List.length_map]; omega) (by decide) (by first | exact agg_map hx rfl)) trivial ?_
   refine g_step rfl rfl rfl rfl (e_move (v := .lit _ _ _) rfl) trivial ?_
   refine g_step rfl rfl rfl rfl (e_move (v := .sc _) rfl) trivial ?_
   refine g_step rfl rfl rfl rfl (e_ixa rfl rfl (by kernel_rfl) (by kernel_rfl) (by simp only [List.length_map]; omega)) trivial ?_
   refine g_step rfl rfl rfl rfl (e_loadA (n := 4) rfl (by kernel_rfl) (by kernel_rfl) (by kernel_rfl) (by simp only [List.length_map]; omega) (by decide) (by first | exact agg_map hy rfl)) trivial ?_
   refine g_step rfl rfl rfl rfl (e_ane rfl rfl (by kernel_rfl) (eqOk_Stock (x) (y)) (eqV_Stock (x) (y))) trivial ?_
   refine g_end (ds := []) (by kernel_rfl) rfl (hK16 _ ?_); clear hK16 K16
   refine pwp_cond rfl (fun hb17 => ?_) (fun hb17 => ?_)
   ·have hb17R := hb17; try simp only [z1, z2, z3, z4, z5, z6, ne_eq, z7, z8, z9, z10, z11, z12] at hb17
    refine pwp_seq_plain rfl fun K18 hK18 => ?_
    refine p_step rfl (e_assign (v := .sc _) rfl) trivial ?_
    refine p_end (hK18 _ ?_); clear hK18 K18
    refine pwp_ret ?_
    refine ret_block ?_
    refine ret_seq ?_
    refine ret_loop ?_
    refine ret_block ?_
    refine ret_seq ?_
    refine end1 (v := .sc _) rfl ?_
    exact out_b (decide_eq_false (by first | (intro hc; subst hc; omega) | exact same_badL hx hy (by assumption))).symm
   have hb17R := hb17; try simp only [z1, z2, z3, z4, z5, z6, ne_eq, z7, z8, z9, z10, z11, z12] at hb17
   refine pwp_skip ?_
   refine block_norm ?_
   refine seq_norm (hK15 _ ?_); clear hK15 K15
   refine pwp_plain rfl fun K19 hK19 => ?_
   refine p_step rfl (e_move (v := .sc _) rfl) trivial ?_
   refine p_step rfl (e_add rfl rfl (by omega)) trivial ?_
   refine p_step rfl (e_assign (v := .sc _) rfl) trivial ?_
   refine p_end (hK19 _ ?_); clear hK19 K19
   exact loop_again (k + 1) (by show _ < _; omega) ⟨rfl, rfl, trivial⟩ ⟨rfl, trivial⟩ (by exact ⟨by show _ + 1 ≤ _; omega, by exact take_snoc2 ht hty he (by assumption)⟩)
  have hb14R := hb14; try simp only [z1, z2, z3, z4, z5, z6, ne_eq, z7, z8, z9, z10, z11, z12] at hb14
  obtain rfl : k = xs.length := by omega
  refine pwp_exit ?_
  refine exit_seq ?_
  clear hK13 K13
  refine exit_loop ?_
  refine exit_here ?_
  refine seq_norm (hK7 _ ?_); clear hK7 K7
  refine pwp_seq_plain rfl fun K20 hK20 => ?_
  refine p_step rfl (e_assign (v := .sc _) rfl) trivial ?_
  refine p_end (hK20 _ ?_); clear hK20 K20
  refine pwp_ret ?_
  refine end1 (v := .sc _) rfl ?_
  exact out_b (decide_eq_true (same_endL (by omega) he)).symm

theorem fr38 : (inFrame Tryd.f38.ntmps (Tryd.f38.body.getD .skip) && Tryd.f38.results.toList.all (resScope Tryd.f38.ntmps)) = true := by kernel_rfl
theorem refCount (xs : List Stock) (p : ByteArray) (z : At) (hl : xs.length ≤ 1000000) (hc : ∀ x ∈ xs, -1000000000 ≤ x.count ∧ x.count ≤ 1000000000) : PCalls Tryd.prog 38 [.lit true 4 (xs.map Stock.enc), .str p, .agg z.enc] (.int (cntA ⟨p, z.a0, z.a1⟩ 0 xs)) := by
  refine PCalls.of_code Tryd.func38 rfl rfl (by kernel_rfl) mixed fr38 (by show _ ≤ 50; simp) (.sc _) ?_
  refine pwp_seq_plain rfl fun K1 hK1 => ?_
  refine p_new rfl (e_box (n := 2) rfl rfl) ⟨rfl, by decide⟩ ?_
  refine p_step rfl (e_assign (v := .sc _) rfl) trivial ?_
  refine p_end (hK1 _ ?_); clear hK1 K1
  refine pwp_seq_plain rfl fun K2 hK2 => ?_
  refine p_step rfl (e_assign (v := .sc _) rfl) trivial ?_
  refine p_end (hK2 _ ?_); clear hK2 K2
  refine pwp_seq_seq ?_
  refine pwp_seq_plain rfl fun K3 hK3 => ?_
  refine p_step rfl (e_assign (v := .sc _) rfl) trivial ?_
  refine p_end (hK3 _ ?_); clear hK3 K3
  refine pwp_seq_block fun K4 hK4 => ?_
  refine pwp_loopR (α := Nat × Int) [0, 1, 5] (fun (a5 : Nat × Int) => [(7, .int (a5.2)), (8, .int (a5.1))]) (fun (a5 : Nat × Int) (h : Heap) (_ : Nat → Nat) => ((a5.1) ≤ xs.length) ∧ (cntA ⟨p, z.a0, z.a1⟩ 0 xs = cntA ⟨p, z.a0, z.a1⟩ (a5.2) (xs.drop (a5.1))) ∧ (-1000000000 * ((a5.1) : Int) ≤ (a5.2) ∧ (a5.2) ≤ 1000000000 * ((a5.1) : Int)) ∧ (h (5, 0) = some (.rows 2 [At.enc z]))) (fun (a5 : Nat × Int) => xs.length - (a5.1)) (0, 0) (by exact ⟨rfl, rfl, trivial⟩) (by exact ⟨by exact Nat.zero_le _, by exact rfl, by exact ⟨by simp, by simp⟩, (hset_self _ _ _)⟩) fun a5 r6 h7 c8 hj9 => ?_
  obtain ⟨k, s⟩ := a5
  obtain ⟨hk, hinv, hb, hihj9_0⟩ := hj9
  try dsimp only at hk
  try dsimp only at hinv
  try dsimp only at hb
  try dsimp only at hihj9_0
  show pwp _ _ (loopQ _ _ _) ⟨sets (mix _ _ _) [(7, .int s), (8, .int k)], _, _⟩
  refine pwp_seq_seq ?_
  refine pwp_seq_plain rfl fun K10 hK10 => ?_
  refine p_step rfl (e_move (v := .sc _) rfl) trivial ?_
  refine p_step rfl (e_move (v := .lit _ _ _) rfl) trivial ?_
  refine p_step rfl (e_len rfl (by kernel_rfl)) trivial ?_
  refine p_step rfl (e_lt rfl rfl) trivial ?_
  refine p_end (hK10 _ ?_); clear hK10 K10
  refine pwp_seq_cond rfl fun K11 hK11 => ⟨fun hb12 => ?_, fun hb12 => ?_⟩
  ·have hb12R := hb12; try simp only [z1, z2, z3, z4, z5, z6, ne_eq, z7, z8, z9, z10, z11, z12] at hb12
   obtain ⟨x, hx, hd, ht⟩ := get_lt (xs := xs) (i := k) (by omega)
   rw [hd] at hinv
   have hxm := hc x (List.mem_of_getElem? hx)
   refine pwp_skip ?_
   refine seq_norm (hK11 _ ?_); clear hK11 K11
   refine pwp_seq_block fun K13 hK13 => ?_
   refine pwp_seq_gops rfl fun K14 hK14 => ?_
   refine g_begin ?_
   refine g_step rfl rfl rfl rfl (e_move (v := .lit _ _ _) rfl) trivial ?_
   refine g_step rfl rfl rfl rfl (e_move (v := .sc _) rfl) trivial ?_
   refine g_step rfl rfl rfl rfl (e_ixa rfl rfl (by kernel_rfl) (by kernel_rfl) (by simp only [List.length_map]; omega)) trivial ?_
   refine g_step rfl rfl rfl rfl (e_fa (pl := [(0, 1, false), (1, 1, false), (2, 1, false), (3, 1, false)]) rfl (by kernel_rfl) (by kernel_rfl) (by decide) rfl) trivial ?_
   refine g_step rfl rfl rfl rfl (e_load (v := .sc _) rfl (by kernel_rfl) (by kernel_rfl) (by kernel_rfl) (by simp only [List.length_map]; omega) (by decide) ((cell_map hx _).trans rfl)) trivial ?_
   refine g_step rfl rfl rfl rfl (e_move (v := .sc _) rfl) trivial ?_
   refine g_step rfl rfl rfl rfl (e_seq rfl rfl) trivial ?_
   refine g_step rfl rfl rfl rfl (e_move (v := .sc _) rfl) trivial ?_
   refine g_cases (fun hb15 => ?_) (fun hb15 => ?_)
   ·have hb15R := hb15; try simp only [z1, z2, z3, z4, z5, z6, ne_eq, z7, z8, z9, z10, z11, z12] at hb15
    refine g_step rfl rfl rfl rfl (e_move (v := .lit _ _ _) rfl) trivial ?_
    refine g_step rfl rfl rfl rfl (e_move (v := .sc _) rfl) trivial ?_
    refine g_step rfl rfl rfl rfl (e_ixa rfl rfl (by kernel_rfl) (by kernel_rfl) (by simp only [List.length_map]; omega)) trivial ?_
    refine g_step rfl rfl rfl rfl (e_fa (pl := [(0, 1, false), (1, 1, false), (2, 1, false), (3, 1, false)]) rfl (by kernel_rfl) (by kernel_rfl) (by decide) rfl) trivial ?_
    refine g_step rfl rfl rfl rfl (e_load (v := .sc _) rfl (by kernel_rfl) (by kernel_rfl) (by kernel_rfl) (by simp only [List.length_map]; omega) (by decide) ((cell_map hx _).trans rfl)) trivial ?_
    refine g_step rfl rfl rfl rfl (e_ixaP (n := 2) (e := 3) rfl rfl (by kernel_rfl) (by kernel_rfl) (by omega)) trivial ?_
    refine g_step rfl rfl rfl rfl (e_loadH (v := .sc _) rfl hihj9_0 (by kernel_rfl) (by kernel_rfl) (by kernel_rfl) (by exact Nat.zero_lt_one) (by decide) rfl) trivial ?_
    refine g_step rfl rfl rfl rfl (e_eq rfl rfl) trivial ?_
    refine g_step rfl rfl rfl rfl (e_pickT (v := .sc _) rfl rfl) trivial ?_
    refine g_step rfl rfl rfl rfl (e_move (v := .sc _) rfl) trivial ?_
    refine g_cases (fun hb16 => ?_) (fun hb16 => ?_)
    ·have hb16R := hb16; try simp only [z1, z2, z3, z4, z5, z6, ne_eq, z7, z8, z9, z10, z11, z12] at hb16
     refine g_step rfl rfl rfl rfl (e_move (v := .lit _ _ _) rfl) trivial ?_
     refine g_step rfl rfl rfl rfl (e_move (v := .sc _) rfl) trivial ?_
     refine g_step rfl rfl rfl rfl (e_ixa rfl rfl (by kernel_rfl) (by kernel_rfl) (by simp only [List.length_map]; omega)) trivial ?_
     refine g_step rfl rfl rfl rfl (e_fa (pl := [(0, 1, false), (1, 1, false), (2, 1, false), (3, 1, false)]) rfl (by kernel_rfl) (by kernel_rfl) (by decide) rfl) trivial ?_
     refine g_step rfl rfl rfl rfl (e_load (v := .sc _) rfl (by kernel_rfl) (by kernel_rfl) (by kernel_rfl) (by simp only [List.length_map]; omega) (by decide) ((cell_map hx _).trans rfl)) trivial ?_
     refine g_step rfl rfl rfl rfl (e_ixaP (n := 2) (e := 3) rfl rfl (by kernel_rfl) (by kernel_rfl) (by omega)) trivial ?_
     refine g_step rfl rfl rfl rfl (e_loadH (v := .sc _) rfl hihj9_0 (by kernel_rfl) (by kernel_rfl) (by kernel_rfl) (by exact Nat.zero_lt_one) (by decide) rfl) trivial ?_
     refine g_step rfl rfl rfl rfl (e_eq rfl rfl) trivial ?_
     refine g_step rfl rfl rfl rfl (e_pickT (v := .sc _) rfl rfl) trivial ?_
     refine g_endR (ds := [23, 24, 25, 26, 27, 28, 29, 30, 33, 34, 35, 36, 37, 38, 39, 40]) [0, 0, 3, 7, 15, 0, 63, 127, 255, 255, 1023, 2047, 4095, 255, 8447, 32767, 65535, 131071, 262143, 262143, 1048575, 2097151, 4194303, 262143, 8650751, 33554431, 67108863] (by kernel_rfl) rfl (hK14 _ ?_); clear hK14 K14
     refine pwp_cond rfl (fun hb17 => ?_) (fun hb17 => ?_)
     ·have hb17R := hb17; try simp only [z1, z2, z3, z4, z5, z6, ne_eq, z7, z8, z9, z10, z11, z12] at hb17
      refine pwp_plain rfl fun K18 hK18 => ?_
      refine p_step rfl (e_move (v := .sc _) rfl) trivial ?_
      refine p_step rfl (e_move (v := .lit _ _ _) rfl) trivial ?_
      refine p_step rfl (e_move (v := .sc _) rfl) trivial ?_
      refine p_step rfl (e_ixa rfl rfl (by kernel_rfl) (by kernel_rfl) (by simp only [List.length_map]; omega)) trivial ?_
      refine p_step rfl (e_fa (pl := [(0, 1, false), (1, 1, false), (2, 1, false), (3, 1, false)]) rfl (by kernel_rfl) (by kernel_rfl) (by decide) rfl) trivial ?_
      refine p_step rfl (e_load (v := .sc _) rfl (by kernel_rfl) (by kernel_rfl) (by kernel_rfl) (by simp only [List.length_map]; omega) (by decide) ((cell_map hx _).trans rfl)) trivial ?_
      refine p_step rfl (e_add rfl rfl (by omega)) trivial ?_
      refine p_step rfl (e_assign (v := .sc _) rfl) trivial ?_
      refine p_end (hK18 _ ?_); clear hK18 K18
      refine block_norm ?_
      refine seq_norm (hK13 _ ?_); clear hK13 K13
      refine pwp_plain rfl fun K19 hK19 => ?_
      refine p_step rfl (e_move (v := .sc _) rfl) trivial ?_
      refine p_step rfl (e_add rfl rfl (by omega)) trivial ?_
      refine p_step rfl (e_assign (v := .sc _) rfl) trivial ?_
      refine p_end (hK19 _ ?_); clear hK19 K19
      exact loop_again ((k + 1, (s + x.count))) (by show _ < _; simp only; omega) ⟨rfl, rfl, rfl, trivial⟩ ⟨rfl, rfl, trivial⟩ (by exact ⟨by show _ + 1 ≤ _; omega, by first | exact cnt_t hinv ⟨by assumption, by omega, by omega⟩ | exact cnt_f hinv (by rintro ⟨q1, q2, q3⟩; first | omega | exact absurd q1 (by assumption)), by first | (show -1000000000 * ((k + 1 : Nat) : Int) ≤ s + x.count ∧ s + x.count ≤ 1000000000 * ((k + 1 : Nat) : Int); omega) | (show -1000000000 * ((k + 1 : Nat) : Int) ≤ s ∧ s ≤ 1000000000 * ((k + 1 : Nat) : Int); omega), hihj9_0⟩)
     have hb17R := hb17; try simp only [z1, z2, z3, z4, z5, z6, ne_eq, z7, z8, z9, z10, z11, z12] at hb17
     refine pwp_skip ?_
     refine block_norm ?_
     refine seq_norm (hK13 _ ?_); clear hK13 K13
     refine pwp_plain rfl fun K20 hK20 => ?_
     refine p_step rfl (e_move (v := .sc _) rfl) trivial ?_
     refine p_step rfl (e_add rfl rfl (by omega)) trivial ?_
     refine p_step rfl (e_assign (v := .sc _) rfl) trivial ?_
     refine p_end (hK20 _ ?_); clear hK20 K20
     exact loop_again ((k + 1, s)) (by show _ < _; simp only; omega) ⟨rfl, rfl, rfl, trivial⟩ ⟨rfl, rfl, trivial⟩ (by exact ⟨by show _ + 1 ≤ _; omega, by first | exact cnt_t hinv ⟨by assumption, by omega, by omega⟩ | exact cnt_f hinv (by rintro ⟨q1, q2, q3⟩; first | omega | exact absurd q1 (by assumption)), by first | (show -1000000000 * ((k + 1 : Nat) : Int) ≤ s + x.count ∧ s + x.count ≤ 1000000000 * ((k + 1 : Nat) : Int); omega) | (show -1000000000 * ((k + 1 : Nat) : Int) ≤ s ∧ s ≤ 1000000000 * ((k + 1 : Nat) : Int); omega), hihj9_0⟩)
    have hb16R := hb16; try simp only [z1, z2, z3, z4, z5, z6, ne_eq, z7, z8, z9, z10, z11, z12] at hb16
    refine g_skip rfl rfl rfl ?_
    refine g_skip rfl rfl rfl ?_
    refine g_skip rfl rfl rfl ?_
    refine g_skip rfl rfl rfl ?_
    refine g_skip rfl rfl rfl ?_
    refine g_skip rfl rfl rfl ?_
    refine g_skip rfl rfl rfl ?_
    refine g_skip rfl rfl rfl ?_
    refine g_step rfl rfl rfl rfl (e_pickF (v := .sc _) rfl rfl) trivial ?_
    refine g_endR (ds := [23, 24, 25, 26, 27, 28, 29, 30, 33, 34, 35, 36, 37, 38, 39, 40]) [0, 0, 3, 7, 15, 0, 63, 127, 255, 255, 1023, 2047, 4095, 255, 8447, 32767, 65535, 131071, 262143, 262143, 1048575, 2097151, 4194303, 262143, 8650751, 33554431, 67108863] (by kernel_rfl) rfl (hK14 _ ?_); clear hK14 K14
    refine pwp_cond (t := false) rfl nofun (fun _ => ?_)
    refine pwp_skip ?_
    refine block_norm ?_
    refine seq_norm (hK13 _ ?_); clear hK13 K13
    refine pwp_plain rfl fun K21 hK21 => ?_
    refine p_step rfl (e_move (v := .sc _) rfl) trivial ?_
    refine p_step rfl (e_add rfl rfl (by omega)) trivial ?_
    refine p_step rfl (e_assign (v := .sc _) rfl) trivial ?_
    refine p_end (hK21 _ ?_); clear hK21 K21
    exact loop_again ((k + 1, s)) (by show _ < _; simp only; omega) ⟨rfl, rfl, rfl, trivial⟩ ⟨rfl, rfl, trivial⟩ (by exact ⟨by show _ + 1 ≤ _; omega, by first | exact cnt_t hinv ⟨by assumption, by omega, by omega⟩ | exact cnt_f hinv (by rintro ⟨q1, q2, q3⟩; first | omega | exact absurd q1 (by assumption)), by first | (show -1000000000 * ((k + 1 : Nat) : Int) ≤ s + x.count ∧ s + x.count ≤ 1000000000 * ((k + 1 : Nat) : Int); omega) | (show -1000000000 * ((k + 1 : Nat) : Int) ≤ s ∧ s ≤ 1000000000 * ((k + 1 : Nat) : Int); omega), hihj9_0⟩)
   have hb15R := hb15; try simp only [z1, z2, z3, z4, z5, z6, ne_eq, z7, z8, z9, z10, z11, z12] at hb15
   refine g_skip rfl rfl rfl ?_
   refine g_skip rfl rfl rfl ?_
   refine g_skip rfl rfl rfl ?_
   refine g_skip rfl rfl rfl ?_
   refine g_skip rfl rfl rfl ?_
   refine g_skip rfl rfl rfl ?_
   refine g_skip rfl rfl rfl ?_
   refine g_skip rfl rfl rfl ?_
   refine g_step rfl rfl rfl rfl (e_pickF (v := .sc _) rfl rfl) trivial ?_
   refine g_step rfl rfl rfl rfl (e_move (v := .sc _) rfl) trivial ?_
   refine g_skip rfl rfl rfl ?_
   refine g_skip rfl rfl rfl ?_
   refine g_skip rfl rfl rfl ?_
   refine g_skip rfl rfl rfl ?_
   refine g_skip rfl rfl rfl ?_
   refine g_skip rfl rfl rfl ?_
   refine g_skip rfl rfl rfl ?_
   refine g_skip rfl rfl rfl ?_
   refine g_step rfl rfl rfl rfl (e_pickF (v := .sc _) rfl rfl) trivial ?_
   refine g_endR (ds := [23, 24, 25, 26, 27, 28, 29, 30, 33, 34, 35, 36, 37, 38, 39, 40]) [0, 0, 3, 7, 15, 0, 63, 127, 255, 255, 1023, 2047, 4095, 255, 8447, 32767, 65535, 131071, 262143, 262143, 1048575, 2097151, 4194303, 262143, 8650751, 33554431, 67108863] (by kernel_rfl) rfl (hK14 _ ?_); clear hK14 K14
   refine pwp_cond (t := false) rfl nofun (fun _ => ?_)
   refine pwp_skip ?_
   refine block_norm ?_
   refine seq_norm (hK13 _ ?_); clear hK13 K13
   refine pwp_plain rfl fun K22 hK22 => ?_
   refine p_step rfl (e_move (v := .sc _) rfl) trivial ?_
   refine p_step rfl (e_add rfl rfl (by omega)) trivial ?_
   refine p_step rfl (e_assign (v := .sc _) rfl) trivial ?_
   refine p_end (hK22 _ ?_); clear hK22 K22
   exact loop_again ((k + 1, s)) (by show _ < _; simp only; omega) ⟨rfl, rfl, rfl, trivial⟩ ⟨rfl, rfl, trivial⟩ (by exact ⟨by show _ + 1 ≤ _; omega, by first | exact cnt_t hinv ⟨by assumption, by omega, by omega⟩ | exact cnt_f hinv (by rintro ⟨q1, q2, q3⟩; first | omega | exact absurd q1 (by assumption)), by first | (show -1000000000 * ((k + 1 : Nat) : Int) ≤ s + x.count ∧ s + x.count ≤ 1000000000 * ((k + 1 : Nat) : Int); omega) | (show -1000000000 * ((k + 1 : Nat) : Int) ≤ s ∧ s ≤ 1000000000 * ((k + 1 : Nat) : Int); omega), hihj9_0⟩)
  have hb12R := hb12; try simp only [z1, z2, z3, z4, z5, z6, ne_eq, z7, z8, z9, z10, z11, z12] at hb12
  obtain rfl : k = xs.length := by omega
  rw [List.drop_length] at hinv; simp only [cntA] at hinv
  refine pwp_exit ?_
  refine exit_seq ?_
  clear hK11 K11
  refine exit_loop ?_
  refine exit_here ?_
  refine seq_norm (hK4 _ ?_); clear hK4 K4
  refine pwp_seq_plain rfl fun K23 hK23 => ?_
  refine p_step rfl (e_move (v := .sc _) rfl) trivial ?_
  refine p_step rfl (e_assign (v := .sc _) rfl) trivial ?_
  refine p_end (hK23 _ ?_); clear hK23 K23
  refine pwp_ret ?_
  refine end1 (v := .sc _) rfl ?_
  exact out_i hinv.symm

theorem fr54 : (inFrame Tryd.f54.ntmps (Tryd.f54.body.getD .skip) && Tryd.f54.results.toList.all (resScope Tryd.f54.ntmps)) = true := by kernel_rfl
theorem before (a b : Stock) : PCalls Tryd.prog 54 [.agg a.enc, .agg b.enc] (.bool (befS a b)) := by
  refine PCalls.of_code Tryd.func54 rfl rfl (by kernel_rfl) mixed fr54 (by show _ ≤ 30; simp) (.sc _) ?_
  refine pwp_seq_plain rfl fun K1 hK1 => ?_
  refine p_new rfl (e_box (n := 4) rfl rfl) ⟨rfl, by decide⟩ ?_
  refine p_new rfl (e_box (n := 4) rfl rfl) ⟨rfl, by decide⟩ ?_
  refine p_step rfl (e_assign (v := .sc _) rfl) trivial ?_
  refine p_end (hK1 _ ?_); clear hK1 K1
  refine pwp_seq_seq ?_
  refine pwp_seq_plain rfl fun K2 hK2 => ?_
  refine p_step rfl (e_faP (pl := [(0, 1, false), (1, 1, false), (2, 1, false), (3, 1, false)]) rfl (by kernel_rfl) (by kernel_rfl) (by decide) rfl) trivial ?_
  refine p_step rfl (e_loadH (v := .sc _) rfl ((hset_ne (key_ne rfl)).trans (hset_self _ _ _)) (by kernel_rfl) (by kernel_rfl) (by kernel_rfl) (by exact Nat.zero_lt_one) (by decide) rfl) trivial ?_
  refine p_step rfl (e_faP (pl := [(0, 1, false), (1, 1, false), (2, 1, false), (3, 1, false)]) rfl (by kernel_rfl) (by kernel_rfl) (by decide) rfl) trivial ?_
  refine p_step rfl (e_loadH (v := .sc _) rfl (hset_self _ _ _) (by kernel_rfl) (by kernel_rfl) (by kernel_rfl) (by exact Nat.zero_lt_one) (by decide) rfl) trivial ?_
  refine p_step rfl (e_sne rfl rfl) trivial ?_
  refine p_end (hK2 _ ?_); clear hK2 K2
  refine pwp_seq_cond rfl fun K3 hK3 => ⟨fun hb4 => ?_, fun hb4 => ?_⟩
  ·have hb4R := hb4; try simp only [z1, z2, z3, z4, z5, z6, ne_eq, z7, z8, z9, z10, z11, z12] at hb4
   refine pwp_seq_plain rfl fun K5 hK5 => ?_
   refine p_step rfl (e_faP (pl := [(0, 1, false), (1, 1, false), (2, 1, false), (3, 1, false)]) rfl (by kernel_rfl) (by kernel_rfl) (by decide) rfl) trivial ?_
   refine p_step rfl (e_loadH (v := .sc _) rfl ((hset_ne (key_ne rfl)).trans (hset_self _ _ _)) (by kernel_rfl) (by kernel_rfl) (by kernel_rfl) (by exact Nat.zero_lt_one) (by decide) rfl) trivial ?_
   refine p_step rfl (e_faP (pl := [(0, 1, false), (1, 1, false), (2, 1, false), (3, 1, false)]) rfl (by kernel_rfl) (by kernel_rfl) (by decide) rfl) trivial ?_
   refine p_step rfl (e_loadH (v := .sc _) rfl (hset_self _ _ _) (by kernel_rfl) (by kernel_rfl) (by kernel_rfl) (by exact Nat.zero_lt_one) (by decide) rfl) trivial ?_
   refine p_step rfl (e_sltB rfl rfl) trivial ?_
   refine p_step rfl (e_assign (v := .sc _) rfl) trivial ?_
   refine p_end (hK5 _ ?_); clear hK5 K5
   refine pwp_ret ?_
   refine ret_seq ?_
   refine end1 (v := .sc _) rfl ?_
   exact out_b (befS_1 (by assumption))
  have hb4R := hb4; try simp only [z1, z2, z3, z4, z5, z6, ne_eq, z7, z8, z9, z10, z11, z12] at hb4
  refine pwp_skip ?_
  refine seq_norm (hK3 _ ?_); clear hK3 K3
  refine pwp_seq_seq ?_
  refine pwp_seq_plain rfl fun K6 hK6 => ?_
  refine p_step rfl (e_faP (pl := [(0, 1, false), (1, 1, false), (2, 1, false), (3, 1, false)]) rfl (by kernel_rfl) (by kernel_rfl) (by decide) rfl) trivial ?_
  refine p_step rfl (e_loadH (v := .sc _) rfl ((hset_ne (key_ne rfl)).trans (hset_self _ _ _)) (by kernel_rfl) (by kernel_rfl) (by kernel_rfl) (by exact Nat.zero_lt_one) (by decide) rfl) trivial ?_
  refine p_step rfl (e_faP (pl := [(0, 1, false), (1, 1, false), (2, 1, false), (3, 1, false)]) rfl (by kernel_rfl) (by kernel_rfl) (by decide) rfl) trivial ?_
  refine p_step rfl (e_loadH (v := .sc _) rfl (hset_self _ _ _) (by kernel_rfl) (by kernel_rfl) (by kernel_rfl) (by exact Nat.zero_lt_one) (by decide) rfl) trivial ?_
  refine p_step rfl (e_ne rfl rfl) trivial ?_
  refine p_end (hK6 _ ?_); clear hK6 K6
  refine pwp_seq_cond rfl fun K7 hK7 => ⟨fun hb8 => ?_, fun hb8 => ?_⟩
  ·have hb8R := hb8; try simp only [z1, z2, z3, z4, z5, z6, ne_eq, z7, z8, z9, z10, z11, z12] at hb8
   refine pwp_seq_plain rfl fun K9 hK9 => ?_
   refine p_step rfl (e_faP (pl := [(0, 1, false), (1, 1, false), (2, 1, false), (3, 1, false)]) rfl (by kernel_rfl) (by kernel_rfl) (by decide) rfl) trivial ?_
   refine p_step rfl (e_loadH (v := .sc _) rfl ((hset_ne (key_ne rfl)).trans (hset_self _ _ _)) (by kernel_rfl) (by kernel_rfl) (by kernel_rfl) (by exact Nat.zero_lt_one) (by decide) rfl) trivial ?_
   refine p_step rfl (e_faP (pl := [(0, 1, false), (1, 1, false), (2, 1, false), (3, 1, false)]) rfl (by kernel_rfl) (by kernel_rfl) (by decide) rfl) trivial ?_
   refine p_step rfl (e_loadH (v := .sc _) rfl (hset_self _ _ _) (by kernel_rfl) (by kernel_rfl) (by kernel_rfl) (by exact Nat.zero_lt_one) (by decide) rfl) trivial ?_
   refine p_step rfl (e_lt rfl rfl) trivial ?_
   refine p_step rfl (e_assign (v := .sc _) rfl) trivial ?_
   refine p_end (hK9 _ ?_); clear hK9 K9
   refine pwp_ret ?_
   refine ret_seq ?_
   refine end1 (v := .sc _) rfl ?_
   exact out_b (befS_2 (by assumption) (by assumption))
  have hb8R := hb8; try simp only [z1, z2, z3, z4, z5, z6, ne_eq, z7, z8, z9, z10, z11, z12] at hb8
  refine pwp_skip ?_
  refine seq_norm (hK7 _ ?_); clear hK7 K7
  refine pwp_seq_plain rfl fun K10 hK10 => ?_
  refine p_step rfl (e_faP (pl := [(0, 1, false), (1, 1, false), (2, 1, false), (3, 1, false)]) rfl (by kernel_rfl) (by kernel_rfl) (by decide) rfl) trivial ?_
  refine p_step rfl (e_loadH (v := .sc _) rfl ((hset_ne (key_ne rfl)).trans (hset_self _ _ _)) (by kernel_rfl) (by kernel_rfl) (by kernel_rfl) (by exact Nat.zero_lt_one) (by decide) rfl) trivial ?_
  refine p_step rfl (e_faP (pl := [(0, 1, false), (1, 1, false), (2, 1, false), (3, 1, false)]) rfl (by kernel_rfl) (by kernel_rfl) (by decide) rfl) trivial ?_
  refine p_step rfl (e_loadH (v := .sc _) rfl (hset_self _ _ _) (by kernel_rfl) (by kernel_rfl) (by kernel_rfl) (by exact Nat.zero_lt_one) (by decide) rfl) trivial ?_
  refine p_step rfl (e_lt rfl rfl) trivial ?_
  refine p_step rfl (e_assign (v := .sc _) rfl) trivial ?_
  refine p_end (hK10 _ ?_); clear hK10 K10
  refine pwp_ret ?_
  refine end1 (v := .sc _) rfl ?_
  exact out_b (befS_3 (by assumption) (by assumption))

end Go.Proofs.YtigdmkhdmbbfiaaDoor

/- Stocks: the reference. No conditions. -/
set_option linter.unusedSimpArgs false
set_option linter.unusedVariables false
set_option maxRecDepth 100000
namespace Go.Proofs.YtigdmkhdmbbfiaaDoor
open Go Go.Pv
theorem fr37 : (inFrame Tryd.f37.ntmps (Tryd.f37.body.getD .skip) && Tryd.f37.results.toList.all (resScope Tryd.f37.ntmps)) = true := by kernel_rfl
theorem Put (xs : List Stock) (x : Stock) (hl : xs.length ≤ 1000) (hx : -1000000000 ≤ x.count ∧ x.count ≤ 1000000000) (hxs : ∀ e ∈ xs, -1000000000 ≤ e.count ∧ e.count ≤ 1000000000) : PCalls Tryd.prog 37 [.lit true 4 (xs.map Stock.enc), .agg x.enc] (.lit false 4 ((putS x xs).map Stock.enc)) := by
  refine PCalls.of_code Tryd.func37 rfl rfl (by kernel_rfl) mixed fr37 (by show _ ≤ 63; simp) (.lit _ _ _ fun row hr => pure_map Stock.pure row hr) ?_
  refine pwp_seq_plain rfl fun K1 hK1 => ?_
  refine p_new rfl (e_box (n := 4) rfl rfl) ⟨rfl, by decide⟩ ?_
  refine p_step rfl (e_assign (v := .nil) rfl) trivial ?_
  refine p_end (hK1 _ ?_); clear hK1 K1
  refine pwp_seq_plain rfl fun K2 hK2 => ?_
  refine p_step rfl (e_assign (v := .nil) rfl) trivial ?_
  refine p_end (hK2 _ ?_); clear hK2 K2
  refine pwp_seq_plain rfl fun K3 hK3 => ?_
  refine p_step rfl (e_assign (v := .sc _) rfl) trivial ?_
  refine p_end (hK3 _ ?_); clear hK3 K3
  refine pwp_seq_seq ?_
  refine pwp_seq_plain rfl fun K4 hK4 => ?_
  refine p_step rfl (e_assign (v := .sc _) rfl) trivial ?_
  refine p_end (hK4 _ ?_); clear hK4 K4
  refine pwp_seq_block fun K5 hK5 => ?_
  refine pwp_loopR (α := Nat × Bool × (List Stock) × PV × Stock) [0, 3] (fun (a6 : Nat × Bool × (List Stock) × PV × Stock) => [(5, (a6.2.2.2.1)), (6, .bool (a6.2.1)), (7, .int (a6.1))]) (fun (a6 : Nat × Bool × (List Stock) × PV × Stock) (h : Heap) (_ : Nat → Nat) => ((a6.1) ≤ xs.length) ∧ (putG false x [] xs = putG (a6.2.1) x (a6.2.2.1) (xs.drop (a6.1))) ∧ ((a6.2.1) = false → (a6.2.2.2.2) = x) ∧ ((a6.2.2.1).length ≤ 2 * (a6.1)) ∧ (SliceAt h 55 (a6.2.2.2.1) 4 ((a6.2.2.1).map Stock.enc)) ∧ (h (3, 0) = some (.rows 4 [Stock.enc (a6.2.2.2.2)]))) (fun (a6 : Nat × Bool × (List Stock) × PV × Stock) => xs.length - (a6.1)) (0, false, [], _, x) (by exact ⟨rfl, rfl, rfl, trivial⟩) (by exact ⟨by exact Nat.zero_le _, by exact rfl, by exact fun _ => rfl, by exact Nat.zero_le _, .nil, (hset_self _ _ _)⟩) fun a6 r7 h8 c9 hj10 => ?_
  obtain ⟨k, fl, acc, v, y⟩ := a6
  obtain ⟨hk, hinv, hyx, hal, hihj10_0, hihj10_1⟩ := hj10
  try dsimp only at hk
  try dsimp only at hinv
  try dsimp only at hyx
  try dsimp only at hal
  try dsimp only at hihj10_0
  try dsimp only at hihj10_1
  show pwp _ _ (loopQ _ _ _) ⟨sets (mix _ _ _) [(5, v), (6, .bool fl), (7, .int k)], _, _⟩
  refine pwp_seq_seq ?_
  refine pwp_seq_plain rfl fun K11 hK11 => ?_
  refine p_step rfl (e_move (v := .sc _) rfl) trivial ?_
  refine p_step rfl (e_move (v := .lit _ _ _) rfl) trivial ?_
  refine p_step rfl (e_len rfl (by kernel_rfl)) trivial ?_
  refine p_step rfl (e_lt rfl rfl) trivial ?_
  refine p_end (hK11 _ ?_); clear hK11 K11
  refine pwp_seq_cond rfl fun K12 hK12 => ⟨fun hb13 => ?_, fun hb13 => ?_⟩
  ·have hb13R := hb13; simp only [z1, z2, z3, z4, z5, z6, ne_eq, z7, z8, z9, z10, z11, z12] at hb13
   obtain ⟨e, he, hd, ht⟩ := get_lt (xs := xs) (i := k) (by omega)
   rw [hd] at hinv
   have hec := hxs e (List.mem_of_getElem? he)
   refine pwp_skip ?_
   refine seq_norm (hK12 _ ?_); clear hK12 K12
   refine pwp_seq_block fun K14 hK14 => ?_
   refine pwp_seq_seq ?_
   refine pwp_seq_gops rfl fun K15 hK15 => ?_
   refine g_begin ?_
   refine g_step rfl rfl rfl rfl (e_move (v := .sc _) rfl) trivial ?_
   refine g_step rfl rfl rfl rfl (e_not rfl) trivial ?_
   refine g_step rfl rfl rfl rfl (e_move (v := .sc _) rfl) trivial ?_
   refine g_cases (fun hb16 => ?_) (fun hb16 => ?_)
   ·have hb16R := hb16; simp only [z1, z2, z3, z4, z5, z6, ne_eq, z7, z8, z9, z10, z11, z12] at hb16; have hyc : y.count = x.count := by rw [hyx hb16]
    refine g_step rfl rfl rfl rfl (e_move (v := .lit _ _ _) rfl) trivial ?_
    refine g_step rfl rfl rfl rfl (e_move (v := .sc _) rfl) trivial ?_
    refine g_step rfl rfl rfl rfl (e_ixa rfl rfl (by kernel_rfl) (by kernel_rfl) (by simp only [List.length_map]; omega)) trivial ?_
    refine g_step rfl rfl rfl rfl (e_loadA (n := 4) rfl (by kernel_rfl) (by kernel_rfl) (by kernel_rfl) (by simp only [List.length_map]; omega) (by decide) (by first | exact agg_map he rfl)) trivial ?_
    refine g_step rfl rfl rfl rfl (e_loadHA (n := 4) rfl hihj10_1 (by kernel_rfl) (by kernel_rfl) (by kernel_rfl) (by exact Nat.zero_lt_one) (by decide) rfl) trivial ?_
    refine g_call rfl rfl rfl rfl (.cons (inn_agg (Stock.pure _)) (.cons (inn_agg (Stock.pure _)) .nil)) (before _ _) ?_
    refine g_step rfl rfl rfl rfl (e_not rfl) trivial ?_
    refine g_step rfl rfl rfl rfl (e_pickT (v := .sc _) rfl rfl) trivial ?_
    refine g_end (ds := [17, 18, 19, 20, 21, 22, 23]) (by kernel_rfl) rfl (hK15 _ ?_); clear hK15 K15
    refine pwp_seq_cond rfl fun K17 hK17 => ⟨fun hb18 => ?_, fun hb18 => ?_⟩
    ·have hb18R := hb18; simp only [z1, z2, z3, z4, z5, z6, ne_eq, z7, z8, z9, z10, z11, z12] at hb18
     refine pwp_seq_seq ?_
     refine pwp_seq_gops rfl fun K19 hK19 => ?_
     refine g_begin ?_
     refine g_step rfl rfl rfl rfl (e_loadHA (n := 4) rfl hihj10_1 (by kernel_rfl) (by kernel_rfl) (by kernel_rfl) (by exact Nat.zero_lt_one) (by decide) rfl) trivial ?_
     refine g_step rfl rfl rfl rfl (e_move (v := .lit _ _ _) rfl) trivial ?_
     refine g_step rfl rfl rfl rfl (e_move (v := .sc _) rfl) trivial ?_
     refine g_step rfl rfl rfl rfl (e_ixa rfl rfl (by kernel_rfl) (by kernel_rfl) (by simp only [List.length_map]; omega)) trivial ?_
     refine g_step rfl rfl rfl rfl (e_loadA (n := 4) rfl (by kernel_rfl) (by kernel_rfl) (by kernel_rfl) (by simp only [List.length_map]; omega) (by decide) (by first | exact agg_map he rfl)) trivial ?_
     refine g_call rfl rfl rfl rfl (.cons (inn_agg (Stock.pure _)) (.cons (inn_agg (Stock.pure _)) .nil)) (before _ _) ?_
     refine g_step rfl rfl rfl rfl (e_not rfl) trivial ?_
     refine g_end (ds := []) (by kernel_rfl) rfl (hK19 _ ?_); clear hK19 K19
     refine pwp_seq_cond rfl fun K20 hK20 => ⟨fun hb21 => ?_, fun hb21 => ?_⟩
     ·have hb21R := hb21; simp only [z1, z2, z3, z4, z5, z6, ne_eq, z7, z8, z9, z10, z11, z12] at hb21
      refine pwp_seq_gops rfl fun K22 hK22 => ?_
      refine s_begin ?_
      refine s_step [] (by simp) rfl rfl rfl rfl (e_faP (pl := [(0, 1, false), (1, 1, false), (2, 1, false), (3, 1, false)]) rfl (by kernel_rfl) (by kernel_rfl) (by decide) rfl) trivial ?_
      refine s_step [3] (by simp) rfl rfl rfl rfl (e_loadH (v := .sc _) rfl hihj10_1 (by kernel_rfl) (by kernel_rfl) (by kernel_rfl) (by exact Nat.zero_lt_one) (by decide) rfl) trivial ?_
      refine s_step [] (by simp) rfl rfl rfl rfl (e_move (v := .lit _ _ _) rfl) trivial ?_
      refine s_step [] (by simp) rfl rfl rfl rfl (e_move (v := .sc _) rfl) trivial ?_
      refine s_step [] (by simp) rfl rfl rfl rfl (e_ixa rfl rfl (by kernel_rfl) (by kernel_rfl) (by simp only [List.length_map]; omega)) trivial ?_
      refine s_step [] (by simp) rfl rfl rfl rfl (e_fa (pl := [(0, 1, false), (1, 1, false), (2, 1, false), (3, 1, false)]) rfl (by kernel_rfl) (by kernel_rfl) (by decide) rfl) trivial ?_
      refine s_step [] (by simp) rfl rfl rfl rfl (e_load (v := .sc _) rfl (by kernel_rfl) (by kernel_rfl) (by kernel_rfl) (by simp only [List.length_map]; omega) (by decide) ((cell_map he _).trans rfl)) trivial ?_
      refine s_step [] (by simp) rfl rfl rfl rfl (e_add rfl rfl (by omega)) trivial ?_
      refine s_step [] (by simp) rfl rfl rfl rfl (e_faP (pl := [(0, 1, false), (1, 1, false), (2, 1, false), (3, 1, false)]) rfl (by kernel_rfl) (by kernel_rfl) (by decide) rfl) trivial ?_
      refine s_store [3] (by simp) rfl rfl (e_store1 rfl hihj10_1 rfl rfl rfl (by decide) (by kernel_rfl) rfl (by kernel_rfl)) trivial ?_
      refine s_end (ds := []) (by kernel_rfl) (by kernel_rfl) (hK22 _ ?_); clear hK22 K22
      refine pwp_seq_plain rfl fun K23 hK23 => ?_
      refine p_step rfl (e_move (v := _) rfl) trivial ?_
      refine p_step rfl (e_loadHA (n := 4) rfl (hset_self _ _ _) (by kernel_rfl) (by kernel_rfl) (by kernel_rfl) (by exact Nat.zero_lt_one) (by decide) rfl) trivial ?_
      refine p_new rfl (e_bslice (rows := [Stock.enc { y with count := y.count + e.count }]) (zs := [.str ByteArray.empty, .int 0, .int 0, .int 0]) (sz := 4) (by kernel_rfl) (by kernel_rfl) rfl (by kernel_rfl) (by decide) rfl rfl (by exact ⟨by decide, rfl, rfl, trivial⟩) rfl) trivial ?_
      refine p_app rfl rfl rfl (hihj10_0.keep fun _ => (hset_ne (key_ne rfl)).trans ((hset_ne (key_ne rfl)).trans (rfl))) (src_ref (hset_self _ _ _) rfl) (by kernel_rfl) (by simp only [List.length_append, List.length_map, List.length_nil, List.length_cons]; omega) fun v24 h25 c26 hs27 hf28 => ?_
      have ho29 := (hf28 (3, _) (key_ne rfl) (fun _ _ => key_ne rfl)).trans ((hset_ne (key_ne rfl)).trans (hset_self _ _ _))
      have ho30 := (hf28 (43, _) (key_ne rfl) (fun _ _ => key_ne rfl)).trans (hset_self _ _ _)
      refine p_renS 55 rfl hs27 fun v31 h32 c33 hs34 hf35 => ?_
      have ho36 := (hf35 (3, _) (key_ne rfl) (fun _ _ => key_ne rfl)).trans ho29
      have ho37 := (hf35 (43, _) (key_ne rfl) (fun _ _ => key_ne rfl)).trans ho30
      refine p_step rfl (e_assign (v := .sc _) rfl) trivial ?_
      refine p_end (hK23 _ ?_); clear hK23 K23
      refine pwp_exit ?_
      refine exit_seq ?_
      clear hK20 K20
      refine exit_seq ?_
      clear hK17 K17
      refine exit_here ?_
      refine seq_norm (hK14 _ ?_); clear hK14 K14
      refine pwp_plain rfl fun K38 hK38 => ?_
      refine p_step rfl (e_move (v := .sc _) rfl) trivial ?_
      refine p_step rfl (e_add rfl rfl (by omega)) trivial ?_
      refine p_step rfl (e_assign (v := .sc _) rfl) trivial ?_
      refine p_end (hK38 _ ?_); clear hK38 K38
      exact loop_again ((k + 1, true, (acc ++ [{ y with count := y.count + e.count }]), v31, { y with count := (y.count + e.count) })) (by show _ < _; simp only; omega) ⟨rfl, rfl, trivial⟩ ⟨rfl, rfl, rfl, trivial⟩ (by exact ⟨by show _ + 1 ≤ _; omega, by first | exact putA hinv (by assumption) | exact putB hinv (by assumption) (hyx (by assumption)) (by assumption) | exact putC hinv (by assumption) (hyx (by assumption)) (by assumption) (by assumption) | exact putD hinv (by assumption) (hyx (by assumption)) (by assumption) (by assumption), by first | exact hyx | (intro hq; cases hq), by (show List.length _ ≤ 2 * (k + 1); simp only [List.length_append, List.length_cons, List.length_nil]; omega), (SliceAt.to hs34 (by (first | rfl | (simp only [List.map_append, List.map_cons, List.map_nil, List.append_assoc] <;> rfl)))), ho36⟩)
     have hb21R := hb21; simp only [z1, z2, z3, z4, z5, z6, ne_eq, z7, z8, z9, z10, z11, z12] at hb21
     refine pwp_skip ?_
     refine seq_norm (hK20 _ ?_); clear hK20 K20
     refine pwp_plain rfl fun K39 hK39 => ?_
     refine p_step rfl (e_move (v := _) rfl) trivial ?_
     refine p_step rfl (e_loadHA (n := 4) rfl hihj10_1 (by kernel_rfl) (by kernel_rfl) (by kernel_rfl) (by exact Nat.zero_lt_one) (by decide) rfl) trivial ?_
     refine p_new rfl (e_bslice (rows := [Stock.enc y]) (zs := [.str ByteArray.empty, .int 0, .int 0, .int 0]) (sz := 4) (by kernel_rfl) (by kernel_rfl) rfl (by kernel_rfl) (by decide) rfl rfl (by exact ⟨by decide, rfl, rfl, trivial⟩) rfl) trivial ?_
     refine p_app rfl rfl rfl (hihj10_0.keep fun _ => (hset_ne (key_ne rfl)).trans (rfl)) (src_ref (hset_self _ _ _) rfl) (by kernel_rfl) (by simp only [List.length_append, List.length_map, List.length_nil, List.length_cons]; omega) fun v40 h41 c42 hs43 hf44 => ?_
     have ho45 := (hf44 (3, _) (key_ne rfl) (fun _ _ => key_ne rfl)).trans ((hset_ne (key_ne rfl)).trans hihj10_1)
     have ho46 := (hf44 (47, _) (key_ne rfl) (fun _ _ => key_ne rfl)).trans (hset_self _ _ _)
     refine p_renS 55 rfl hs43 fun v47 h48 c49 hs50 hf51 => ?_
     have ho52 := (hf51 (3, _) (key_ne rfl) (fun _ _ => key_ne rfl)).trans ho45
     have ho53 := (hf51 (47, _) (key_ne rfl) (fun _ _ => key_ne rfl)).trans ho46
     refine p_step rfl (e_assign (v := .sc _) rfl) trivial ?_
     refine p_end (hK39 _ ?_); clear hK39 K39
     refine seq_norm (hK17 _ ?_); clear hK17 K17
     refine pwp_plain rfl fun K54 hK54 => ?_
     refine p_step rfl (e_move (v := _) rfl) trivial ?_
     refine p_step rfl (e_move (v := .lit _ _ _) rfl) trivial ?_
     refine p_step rfl (e_move (v := .sc _) rfl) trivial ?_
     refine p_step rfl (e_ixa rfl rfl (by kernel_rfl) (by kernel_rfl) (by simp only [List.length_map]; omega)) trivial ?_
     refine p_step rfl (e_loadA (n := 4) rfl (by kernel_rfl) (by kernel_rfl) (by kernel_rfl) (by simp only [List.length_map]; omega) (by decide) (by first | exact agg_map he rfl)) trivial ?_
     refine p_new rfl (e_bslice (rows := [Stock.enc e]) (zs := [.str ByteArray.empty, .int 0, .int 0, .int 0]) (sz := 4) (by kernel_rfl) (by kernel_rfl) rfl (by kernel_rfl) (by decide) rfl rfl (by exact ⟨by decide, rfl, rfl, trivial⟩) rfl) trivial ?_
     refine p_app rfl rfl rfl (hs50.keep fun _ => (hset_ne (key_ne rfl)).trans (rfl)) (src_ref (hset_self _ _ _) rfl) (by kernel_rfl) (by simp only [List.length_append, List.length_map, List.length_nil, List.length_cons]; omega) fun v55 h56 c57 hs58 hf59 => ?_
     have ho60 := (hf59 (3, _) (key_ne rfl) (fun _ _ => key_ne rfl)).trans ((hset_ne (key_ne rfl)).trans ho52)
     have ho61 := (hf59 (47, _) (key_ne rfl) (fun _ _ => key_ne rfl)).trans ((hset_ne (key_ne rfl)).trans ho53)
     have ho62 := (hf59 (54, _) (key_ne rfl) (fun _ _ => key_ne rfl)).trans (hset_self _ _ _)
     refine p_step rfl (e_assign (v := _) rfl) trivial ?_
     refine p_end (hK54 _ ?_); clear hK54 K54
     refine block_norm ?_
     refine seq_norm (hK14 _ ?_); clear hK14 K14
     refine pwp_plain rfl fun K68 hK68 => ?_
     refine p_step rfl (e_move (v := .sc _) rfl) trivial ?_
     refine p_step rfl (e_add rfl rfl (by omega)) trivial ?_
     refine p_step rfl (e_assign (v := .sc _) rfl) trivial ?_
     refine p_end (hK68 _ ?_); clear hK68 K68
     exact loop_again ((k + 1, true, ((acc ++ [y]) ++ [e]), v55, y)) (by show _ < _; simp only; omega) ⟨rfl, rfl, trivial⟩ ⟨rfl, rfl, rfl, trivial⟩ (by exact ⟨by show _ + 1 ≤ _; omega, by first | exact putA hinv (by assumption) | exact putB hinv (by assumption) (hyx (by assumption)) (by assumption) | exact putC hinv (by assumption) (hyx (by assumption)) (by assumption) (by assumption) | exact putD hinv (by assumption) (hyx (by assumption)) (by assumption) (by assumption), by first | exact hyx | (intro hq; cases hq), by (show List.length _ ≤ 2 * (k + 1); simp only [List.length_append, List.length_cons, List.length_nil]; omega), (SliceAt.to hs58 (by (first | rfl | (simp only [List.map_append, List.map_cons, List.map_nil, List.append_assoc] <;> rfl)))), ho60⟩)
    have hb18R := hb18; simp only [z1, z2, z3, z4, z5, z6, ne_eq, z7, z8, z9, z10, z11, z12] at hb18
    refine pwp_skip ?_
    refine seq_norm (hK17 _ ?_); clear hK17 K17
    refine pwp_plain rfl fun K69 hK69 => ?_
    refine p_step rfl (e_move (v := _) rfl) trivial ?_
    refine p_step rfl (e_move (v := .lit _ _ _) rfl) trivial ?_
    refine p_step rfl (e_move (v := .sc _) rfl) trivial ?_
    refine p_step rfl (e_ixa rfl rfl (by kernel_rfl) (by kernel_rfl) (by simp only [List.length_map]; omega)) trivial ?_
    refine p_step rfl (e_loadA (n := 4) rfl (by kernel_rfl) (by kernel_rfl) (by kernel_rfl) (by simp only [List.length_map]; omega) (by decide) (by first | exact agg_map he rfl)) trivial ?_
    refine p_new rfl (e_bslice (rows := [Stock.enc e]) (zs := [.str ByteArray.empty, .int 0, .int 0, .int 0]) (sz := 4) (by kernel_rfl) (by kernel_rfl) rfl (by kernel_rfl) (by decide) rfl rfl (by exact ⟨by decide, rfl, rfl, trivial⟩) rfl) trivial ?_
    refine p_app rfl rfl rfl (hihj10_0.keep fun _ => (hset_ne (key_ne rfl)).trans (rfl)) (src_ref (hset_self _ _ _) rfl) (by kernel_rfl) (by simp only [List.length_append, List.length_map, List.length_nil, List.length_cons]; omega) fun v70 h71 c72 hs73 hf74 => ?_
    have ho75 := (hf74 (3, _) (key_ne rfl) (fun _ _ => key_ne rfl)).trans ((hset_ne (key_ne rfl)).trans hihj10_1)
    have ho76 := (hf74 (54, _) (key_ne rfl) (fun _ _ => key_ne rfl)).trans (hset_self _ _ _)
    refine p_step rfl (e_assign (v := _) rfl) trivial ?_
    refine p_end (hK69 _ ?_); clear hK69 K69
    refine block_norm ?_
    refine seq_norm (hK14 _ ?_); clear hK14 K14
    refine pwp_plain rfl fun K82 hK82 => ?_
    refine p_step rfl (e_move (v := .sc _) rfl) trivial ?_
    refine p_step rfl (e_add rfl rfl (by omega)) trivial ?_
    refine p_step rfl (e_assign (v := .sc _) rfl) trivial ?_
    refine p_end (hK82 _ ?_); clear hK82 K82
    exact loop_again ((k + 1, fl, (acc ++ [e]), v70, y)) (by show _ < _; simp only; omega) ⟨rfl, rfl, trivial⟩ ⟨rfl, rfl, rfl, trivial⟩ (by exact ⟨by show _ + 1 ≤ _; omega, by first | exact putA hinv (by assumption) | exact putB hinv (by assumption) (hyx (by assumption)) (by assumption) | exact putC hinv (by assumption) (hyx (by assumption)) (by assumption) (by assumption) | exact putD hinv (by assumption) (hyx (by assumption)) (by assumption) (by assumption), by first | exact hyx | (intro hq; cases hq), by (show List.length _ ≤ 2 * (k + 1); simp only [List.length_append, List.length_cons, List.length_nil]; omega), (SliceAt.to hs73 (by (first | rfl | (simp only [List.map_append, List.map_cons, List.map_nil, List.append_assoc] <;> rfl)))), ho75⟩)
   have hb16R := hb16; simp only [z1, z2, z3, z4, z5, z6, ne_eq, z7, z8, z9, z10, z11, z12] at hb16
   refine g_skip rfl rfl rfl ?_
   refine g_skip rfl rfl rfl ?_
   refine g_skip rfl rfl rfl ?_
   refine g_skip rfl rfl rfl ?_
   refine g_skip rfl rfl rfl ?_
   refine g_nocall rfl rfl rfl ?_
   refine g_skip rfl rfl rfl ?_
   refine g_step rfl rfl rfl rfl (e_pickF (v := .sc _) rfl rfl) trivial ?_
   refine g_end (ds := [17, 18, 19, 20, 21, 22, 23]) (by kernel_rfl) rfl (hK15 _ ?_); clear hK15 K15
   refine pwp_seq_cond (t := false) rfl fun K83 hK83 => ⟨nofun, fun _ => ?_⟩
   refine pwp_skip ?_
   refine seq_norm (hK83 _ ?_); clear hK83 K83
   refine pwp_plain rfl fun K84 hK84 => ?_
   refine p_step rfl (e_move (v := _) rfl) trivial ?_
   refine p_step rfl (e_move (v := .lit _ _ _) rfl) trivial ?_
   refine p_step rfl (e_move (v := .sc _) rfl) trivial ?_
   refine p_step rfl (e_ixa rfl rfl (by kernel_rfl) (by kernel_rfl) (by simp only [List.length_map]; omega)) trivial ?_
   refine p_step rfl (e_loadA (n := 4) rfl (by kernel_rfl) (by kernel_rfl) (by kernel_rfl) (by simp only [List.length_map]; omega) (by decide) (by first | exact agg_map he rfl)) trivial ?_
   refine p_new rfl (e_bslice (rows := [Stock.enc e]) (zs := [.str ByteArray.empty, .int 0, .int 0, .int 0]) (sz := 4) (by kernel_rfl) (by kernel_rfl) rfl (by kernel_rfl) (by decide) rfl rfl (by exact ⟨by decide, rfl, rfl, trivial⟩) rfl) trivial ?_
   refine p_app rfl rfl rfl (hihj10_0.keep fun _ => (hset_ne (key_ne rfl)).trans (rfl)) (src_ref (hset_self _ _ _) rfl) (by kernel_rfl) (by simp only [List.length_append, List.length_map, List.length_nil, List.length_cons]; omega) fun v85 h86 c87 hs88 hf89 => ?_
   have ho90 := (hf89 (3, _) (key_ne rfl) (fun _ _ => key_ne rfl)).trans ((hset_ne (key_ne rfl)).trans hihj10_1)
   have ho91 := (hf89 (54, _) (key_ne rfl) (fun _ _ => key_ne rfl)).trans (hset_self _ _ _)
   refine p_step rfl (e_assign (v := _) rfl) trivial ?_
   refine p_end (hK84 _ ?_); clear hK84 K84
   refine block_norm ?_
   refine seq_norm (hK14 _ ?_); clear hK14 K14
   refine pwp_plain rfl fun K97 hK97 => ?_
   refine p_step rfl (e_move (v := .sc _) rfl) trivial ?_
   refine p_step rfl (e_add rfl rfl (by omega)) trivial ?_
   refine p_step rfl (e_assign (v := .sc _) rfl) trivial ?_
   refine p_end (hK97 _ ?_); clear hK97 K97
   exact loop_again ((k + 1, fl, (acc ++ [e]), v85, y)) (by show _ < _; simp only; omega) ⟨rfl, rfl, trivial⟩ ⟨rfl, rfl, rfl, trivial⟩ (by exact ⟨by show _ + 1 ≤ _; omega, by first | exact putA hinv (by assumption) | exact putB hinv (by assumption) (hyx (by assumption)) (by assumption) | exact putC hinv (by assumption) (hyx (by assumption)) (by assumption) (by assumption) | exact putD hinv (by assumption) (hyx (by assumption)) (by assumption) (by assumption), by first | exact hyx | (intro hq; cases hq), by (show List.length _ ≤ 2 * (k + 1); simp only [List.length_append, List.length_cons, List.length_nil]; omega), (SliceAt.to hs88 (by (first | rfl | (simp only [List.map_append, List.map_cons, List.map_nil, List.append_assoc] <;> rfl)))), ho90⟩)
  have hb13R := hb13; simp only [z1, z2, z3, z4, z5, z6, ne_eq, z7, z8, z9, z10, z11, z12] at hb13
  obtain rfl : k = xs.length := by omega
  rw [List.drop_length] at hinv
  refine pwp_exit ?_
  refine exit_seq ?_
  clear hK12 K12
  refine exit_loop ?_
  refine exit_here ?_
  refine seq_norm (hK5 _ ?_); clear hK5 K5
  refine pwp_seq_seq ?_
  refine pwp_seq_plain rfl fun K98 hK98 => ?_
  refine p_step rfl (e_move (v := .sc _) rfl) trivial ?_
  refine p_step rfl (e_not rfl) trivial ?_
  refine p_end (hK98 _ ?_); clear hK98 K98
  refine pwp_seq_cond rfl fun K99 hK99 => ⟨fun hb100 => ?_, fun hb100 => ?_⟩
  ·have hb100R := hb100; simp only [z1, z2, z3, z4, z5, z6, ne_eq, z7, z8, z9, z10, z11, z12] at hb100; have hyc : y.count = x.count := by rw [hyx hb100]
   refine pwp_plain rfl fun K101 hK101 => ?_
   refine p_step rfl (e_move (v := _) rfl) trivial ?_
   refine p_step rfl (e_loadHA (n := 4) rfl hihj10_1 (by kernel_rfl) (by kernel_rfl) (by kernel_rfl) (by exact Nat.zero_lt_one) (by decide) rfl) trivial ?_
   refine p_new rfl (e_bslice (rows := [Stock.enc y]) (zs := [.str ByteArray.empty, .int 0, .int 0, .int 0]) (sz := 4) (by kernel_rfl) (by kernel_rfl) rfl (by kernel_rfl) (by decide) rfl rfl (by exact ⟨by decide, rfl, rfl, trivial⟩) rfl) trivial ?_
   refine p_app rfl rfl rfl (hihj10_0.keep fun _ => (hset_ne (key_ne rfl)).trans (rfl)) (src_ref (hset_self _ _ _) rfl) (by kernel_rfl) (by simp only [List.length_append, List.length_map, List.length_nil, List.length_cons]; omega) fun v102 h103 c104 hs105 hf106 => ?_
   have ho107 := (hf106 (3, _) (key_ne rfl) (fun _ _ => key_ne rfl)).trans ((hset_ne (key_ne rfl)).trans hihj10_1)
   have ho108 := (hf106 (60, _) (key_ne rfl) (fun _ _ => key_ne rfl)).trans (hset_self _ _ _)
   refine p_renS 55 rfl hs105 fun v109 h110 c111 hs112 hf113 => ?_
   have ho114 := (hf113 (3, _) (key_ne rfl) (fun _ _ => key_ne rfl)).trans ho107
   have ho115 := (hf113 (60, _) (key_ne rfl) (fun _ _ => key_ne rfl)).trans ho108
   refine p_end (hK101 _ ?_); clear hK101 K101
   refine seq_norm (hK99 _ ?_); clear hK99 K99
   refine pwp_seq_plain rfl fun K116 hK116 => ?_
   refine p_step rfl (e_move (v := _) rfl) trivial ?_
   refine p_step rfl (e_assign (v := _) rfl) trivial ?_
   refine p_end (hK116 _ ?_); clear hK116 K116
   refine pwp_ret ?_
   refine end1 (v := _) rfl ?_
   exact out_slice hs112 (by rw [← put_o2 hinv (by assumption) (hyx (by assumption))]; simp) (fun _ => rfl) stock_clean
  have hb100R := hb100; simp only [z1, z2, z3, z4, z5, z6, ne_eq, z7, z8, z9, z10, z11, z12] at hb100
  refine pwp_skip ?_
  refine seq_norm (hK99 _ ?_); clear hK99 K99
  refine pwp_seq_plain rfl fun K117 hK117 => ?_
  refine p_step rfl (e_move (v := _) rfl) trivial ?_
  refine p_step rfl (e_assign (v := _) rfl) trivial ?_
  refine p_end (hK117 _ ?_); clear hK117 K117
  refine pwp_ret ?_
  refine end1 (v := _) rfl ?_
  exact out_slice hihj10_0 (by rw [← put_o1 hinv (by assumption)]) (fun _ => rfl) stock_clean

theorem fr39 : (inFrame Tryd.f39.ntmps (Tryd.f39.body.getD .skip) && Tryd.f39.results.toList.all (resScope Tryd.f39.ntmps)) = true := by kernel_rfl
theorem settled (xs : List Stock) (hl : xs.length ≤ 1000) : PCalls Tryd.prog 39 [.lit true 4 (xs.map Stock.enc)] (.tup [.lit false 4 ((settS xs).2.map Stock.enc), .int (settS xs).1]) := by
  refine PCalls.of_code Tryd.func39 rfl rfl (by kernel_rfl) mixed fr39 (by show _ ≤ 35; simp) (pure_2 (.lit _ _ _ fun row hr => pure_map Stock.pure row hr) (.sc _)) ?_
  refine pwp_seq_plain rfl fun K1 hK1 => ?_
  refine p_step rfl (e_assign (v := .nil) rfl) trivial ?_
  refine p_step rfl (e_assign (v := .sc _) rfl) trivial ?_
  refine p_end (hK1 _ ?_); clear hK1 K1
  refine pwp_seq_plain rfl fun K2 hK2 => ?_
  refine p_step rfl (e_assign (v := .nil) rfl) trivial ?_
  refine p_end (hK2 _ ?_); clear hK2 K2
  refine pwp_seq_seq ?_
  refine pwp_seq_plain rfl fun K3 hK3 => ?_
  refine p_step rfl (e_assign (v := .sc _) rfl) trivial ?_
  refine p_end (hK3 _ ?_); clear hK3 K3
  refine pwp_seq_block fun K4 hK4 => ?_
  refine pwp_loopR (α := Nat × (List Stock) × PV) [0] (fun (a5 : Nat × (List Stock) × PV) => [(4, (a5.2.2)), (5, .int (a5.1))]) (fun (a5 : Nat × (List Stock) × PV) (h : Heap) (_ : Nat → Nat) => ((a5.1) ≤ xs.length) ∧ (setG [] xs = setG (a5.2.1) (xs.drop (a5.1))) ∧ ((a5.2.1).length ≤ (a5.1)) ∧ (SliceAt h 30 (a5.2.2) 4 ((a5.2.1).map Stock.enc))) (fun (a5 : Nat × (List Stock) × PV) => xs.length - (a5.1)) (0, [], _) (by exact ⟨rfl, rfl, trivial⟩) (by exact ⟨by exact Nat.zero_le _, by exact rfl, by exact Nat.le_refl _, .nil⟩) fun a5 r6 h7 c8 hj9 => ?_
  obtain ⟨k, acc, v⟩ := a5
  obtain ⟨hk, hinv, hal, hihj9_0⟩ := hj9
  try dsimp only at hk
  try dsimp only at hinv
  try dsimp only at hal
  try dsimp only at hihj9_0
  show pwp _ _ (loopQ _ _ _) ⟨sets (mix _ _ _) [(4, v), (5, .int k)], _, _⟩
  refine pwp_seq_seq ?_
  refine pwp_seq_plain rfl fun K10 hK10 => ?_
  refine p_step rfl (e_move (v := .sc _) rfl) trivial ?_
  refine p_step rfl (e_move (v := .lit _ _ _) rfl) trivial ?_
  refine p_step rfl (e_len rfl (by kernel_rfl)) trivial ?_
  refine p_step rfl (e_lt rfl rfl) trivial ?_
  refine p_end (hK10 _ ?_); clear hK10 K10
  refine pwp_seq_cond rfl fun K11 hK11 => ⟨fun hb12 => ?_, fun hb12 => ?_⟩
  ·have hb12R := hb12; try simp only [z1, z2, z3, z4, z5, z6, ne_eq, z7, z8, z9, z10, z11, z12] at hb12
   obtain ⟨x, hx, hd, ht⟩ := get_lt (xs := xs) (i := k) (by omega)
   rw [hd] at hinv
   refine pwp_skip ?_
   refine seq_norm (hK11 _ ?_); clear hK11 K11
   refine pwp_seq_block fun K13 hK13 => ?_
   refine pwp_seq_seq ?_
   refine pwp_seq_plain rfl fun K14 hK14 => ?_
   refine p_step rfl (e_move (v := .lit _ _ _) rfl) trivial ?_
   refine p_step rfl (e_move (v := .sc _) rfl) trivial ?_
   refine p_step rfl (e_ixa rfl rfl (by kernel_rfl) (by kernel_rfl) (by simp only [List.length_map]; omega)) trivial ?_
   refine p_step rfl (e_fa (pl := [(0, 1, false), (1, 1, false), (2, 1, false), (3, 1, false)]) rfl (by kernel_rfl) (by kernel_rfl) (by decide) rfl) trivial ?_
   refine p_step rfl (e_load (v := .sc _) rfl (by kernel_rfl) (by kernel_rfl) (by kernel_rfl) (by simp only [List.length_map]; omega) (by decide) ((cell_map hx _).trans rfl)) trivial ?_
   refine p_step rfl (e_gt rfl rfl) trivial ?_
   refine p_end (hK14 _ ?_); clear hK14 K14
   refine pwp_seq_cond rfl fun K15 hK15 => ⟨fun hb16 => ?_, fun hb16 => ?_⟩
   ·have hb16R := hb16; try simp only [z1, z2, z3, z4, z5, z6, ne_eq, z7, z8, z9, z10, z11, z12] at hb16
    refine pwp_seq_plain rfl fun K17 hK17 => ?_
    refine p_step rfl (e_assign (v := .nil) rfl) trivial ?_
    refine p_step rfl (e_assign (v := .sc _) rfl) trivial ?_
    refine p_end (hK17 _ ?_); clear hK17 K17
    refine pwp_ret ?_
    refine ret_seq ?_
    refine ret_block ?_
    refine ret_seq ?_
    refine ret_loop ?_
    refine ret_block ?_
    refine ret_seq ?_
    refine end2 (v := .nil) (w := .sc _) rfl rfl ?_
    exact pr_out0 (sett_8 (setg_8 hinv (by omega)))
   have hb16R := hb16; try simp only [z1, z2, z3, z4, z5, z6, ne_eq, z7, z8, z9, z10, z11, z12] at hb16
   refine pwp_skip ?_
   refine seq_norm (hK15 _ ?_); clear hK15 K15
   refine pwp_seq_plain rfl fun K18 hK18 => ?_
   refine p_step rfl (e_move (v := .lit _ _ _) rfl) trivial ?_
   refine p_step rfl (e_move (v := .sc _) rfl) trivial ?_
   refine p_step rfl (e_ixa rfl rfl (by kernel_rfl) (by kernel_rfl) (by simp only [List.length_map]; omega)) trivial ?_
   refine p_step rfl (e_fa (pl := [(0, 1, false), (1, 1, false), (2, 1, false), (3, 1, false)]) rfl (by kernel_rfl) (by kernel_rfl) (by decide) rfl) trivial ?_
   refine p_step rfl (e_load (v := .sc _) rfl (by kernel_rfl) (by kernel_rfl) (by kernel_rfl) (by simp only [List.length_map]; omega) (by decide) ((cell_map hx _).trans rfl)) trivial ?_
   refine p_step rfl (e_ne rfl rfl) trivial ?_
   refine p_end (hK18 _ ?_); clear hK18 K18
   refine pwp_cond rfl (fun hb19 => ?_) (fun hb19 => ?_)
   ·have hb19R := hb19; try simp only [z1, z2, z3, z4, z5, z6, ne_eq, z7, z8, z9, z10, z11, z12] at hb19
    refine pwp_plain rfl fun K20 hK20 => ?_
    refine p_step rfl (e_move (v := _) rfl) trivial ?_
    refine p_step rfl (e_move (v := .lit _ _ _) rfl) trivial ?_
    refine p_step rfl (e_move (v := .sc _) rfl) trivial ?_
    refine p_step rfl (e_ixa rfl rfl (by kernel_rfl) (by kernel_rfl) (by simp only [List.length_map]; omega)) trivial ?_
    refine p_step rfl (e_loadA (n := 4) rfl (by kernel_rfl) (by kernel_rfl) (by kernel_rfl) (by simp only [List.length_map]; omega) (by decide) (by first | exact agg_map hx rfl)) trivial ?_
    refine p_new rfl (e_bslice (rows := [Stock.enc x]) (zs := [.str ByteArray.empty, .int 0, .int 0, .int 0]) (sz := 4) (by kernel_rfl) (by kernel_rfl) rfl (by kernel_rfl) (by decide) rfl rfl (by exact ⟨by decide, rfl, rfl, trivial⟩) rfl) trivial ?_
    refine p_app rfl rfl rfl (hihj9_0.keep fun _ => (hset_ne (key_ne rfl)).trans (rfl)) (src_ref (hset_self _ _ _) rfl) (by kernel_rfl) (by simp only [List.length_append, List.length_map, List.length_nil, List.length_cons]; omega) fun v21 h22 c23 hs24 hf25 => ?_
    have ho26 := (hf25 (29, _) (key_ne rfl) (fun _ _ => key_ne rfl)).trans (hset_self _ _ _)
    refine p_step rfl (e_assign (v := _) rfl) trivial ?_
    refine p_end (hK20 _ ?_); clear hK20 K20
    refine block_norm ?_
    refine seq_norm (hK13 _ ?_); clear hK13 K13
    refine pwp_plain rfl fun K27 hK27 => ?_
    refine p_step rfl (e_move (v := .sc _) rfl) trivial ?_
    refine p_step rfl (e_add rfl rfl (by omega)) trivial ?_
    refine p_step rfl (e_assign (v := .sc _) rfl) trivial ?_
    refine p_end (hK27 _ ?_); clear hK27 K27
    exact loop_again ((k + 1, (acc ++ [x]), v21)) (by show _ < _; simp only; omega) ⟨rfl, trivial⟩ ⟨rfl, rfl, trivial⟩ (by exact ⟨by show _ + 1 ≤ _; omega, by first | exact setg_t hinv (by omega) (by assumption) | exact setg_f hinv (by omega) (by assumption), by first | (show (acc ++ [_]).length ≤ k + 1; simp only [List.length_append, List.length_cons, List.length_nil]; omega) | (show acc.length ≤ k + 1; omega), (SliceAt.to hs24 (by (first | rfl | (simp only [List.map_append, List.map_cons, List.map_nil] <;> rfl))))⟩)
   have hb19R := hb19; try simp only [z1, z2, z3, z4, z5, z6, ne_eq, z7, z8, z9, z10, z11, z12] at hb19
   refine pwp_skip ?_
   refine block_norm ?_
   refine seq_norm (hK13 _ ?_); clear hK13 K13
   refine pwp_plain rfl fun K28 hK28 => ?_
   refine p_step rfl (e_move (v := .sc _) rfl) trivial ?_
   refine p_step rfl (e_add rfl rfl (by omega)) trivial ?_
   refine p_step rfl (e_assign (v := .sc _) rfl) trivial ?_
   refine p_end (hK28 _ ?_); clear hK28 K28
   exact loop_again ((k + 1, acc, v)) (by show _ < _; simp only; omega) ⟨rfl, trivial⟩ ⟨rfl, rfl, trivial⟩ (by exact ⟨by show _ + 1 ≤ _; omega, by first | exact setg_t hinv (by omega) (by assumption) | exact setg_f hinv (by omega) (by assumption), by first | (show (acc ++ [_]).length ≤ k + 1; simp only [List.length_append, List.length_cons, List.length_nil]; omega) | (show acc.length ≤ k + 1; omega), (SliceAt.to hihj9_0 (by (first | rfl | (simp only [List.map_append, List.map_cons, List.map_nil] <;> rfl))))⟩)
  have hb12R := hb12; try simp only [z1, z2, z3, z4, z5, z6, ne_eq, z7, z8, z9, z10, z11, z12] at hb12
  obtain rfl : k = xs.length := by omega
  rw [List.drop_length] at hinv; simp only [setG] at hinv
  refine pwp_exit ?_
  refine exit_seq ?_
  clear hK11 K11
  refine exit_loop ?_
  refine exit_here ?_
  refine seq_norm (hK4 _ ?_); clear hK4 K4
  refine pwp_seq_seq ?_
  refine pwp_seq_plain rfl fun K29 hK29 => ?_
  refine p_step rfl (e_move (v := _) rfl) trivial ?_
  refine p_step rfl (SliceAt.len hihj9_0 rfl (by kernel_rfl)) trivial ?_
  refine p_step rfl (e_gt rfl rfl) trivial ?_
  refine p_end (hK29 _ ?_); clear hK29 K29
  refine pwp_seq_cond rfl fun K30 hK30 => ⟨fun hb31 => ?_, fun hb31 => ?_⟩
  ·have hb31R := hb31; try simp only [z1, z2, z3, z4, z5, z6, ne_eq, z7, z8, z9, z10, z11, z12] at hb31
   refine pwp_seq_plain rfl fun K32 hK32 => ?_
   refine p_step rfl (e_assign (v := .nil) rfl) trivial ?_
   refine p_step rfl (e_assign (v := .sc _) rfl) trivial ?_
   refine p_end (hK32 _ ?_); clear hK32 K32
   refine pwp_ret ?_
   refine ret_seq ?_
   refine end2 (v := .nil) (w := .sc _) rfl rfl ?_
   exact pr_out0 (sett_big hinv (by first | omega | (simp only [List.length_map] at *; omega)))
  have hb31R := hb31; try simp only [z1, z2, z3, z4, z5, z6, ne_eq, z7, z8, z9, z10, z11, z12] at hb31
  refine pwp_skip ?_
  refine seq_norm (hK30 _ ?_); clear hK30 K30
  refine pwp_seq_plain rfl fun K33 hK33 => ?_
  refine p_step rfl (e_move (v := _) rfl) trivial ?_
  refine p_step rfl (e_assign (v := _) rfl) trivial ?_
  refine p_step rfl (e_assign (v := .sc _) rfl) trivial ?_
  refine p_end (hK33 _ ?_); clear hK33 K33
  refine pwp_ret ?_
  refine end2 (v := _) (w := .sc _) rfl rfl ?_
  exact pr_out (sett_ok hinv (by first | omega | (simp only [List.length_map] at *; omega))) hihj9_0


theorem putF_snoc : ∀ (l out : List Stock) (x : Stock), putF out (l ++ [x]) = putS x (putF out l)
  | [], _, _ => rfl
  | y :: l, out, x => by simp only [List.cons_append, putF]; exact putF_snoc l _ x
theorem putF_len : ∀ (l out : List Stock), (putF out l).length ≤ out.length + l.length
  | [], out => by simp [putF]
  | x :: l, out => by
    have h1 := putF_len l (putS x out)
    have h2 := putS_len (x := x) (l := out)
    simp only [putF, List.length_cons]; omega
theorem putF_cts {l : List Stock} (h : ∀ x ∈ l, 0 ≤ x.count ∧ x.count ≤ 1000000) (hl : l.length ≤ 200) : ∀ e ∈ putF [] l, -1000000000 ≤ e.count ∧ e.count ≤ 1000000000 := fun e he => by
  have h1 : cntS (keyS e) l = e.count := by rw [← srt_cnt (putF_srt l .nil) e he, putF_cnt]; simp [cntS]
  have h2 := cntS_0 (k := keyS e) fun x hx => (h x hx).1
  have h3 := cntS_le (k := keyS e) h
  omega

theorem fr40 : (inFrame Tryd.f40.ntmps (Tryd.f40.body.getD .skip) && Tryd.f40.results.toList.all (resScope Tryd.f40.ntmps)) = true := by kernel_rfl
theorem refNormal (xs : List Stock) (h0 : stockE xs = 0) : PCalls Tryd.prog 40 [.lit true 4 (xs.map Stock.enc)] (.tup [.lit false 4 ((settS (putF [] xs)).2.map Stock.enc), .int (settS (putF [] xs)).1]) := by
  refine PCalls.of_code Tryd.func40 rfl rfl (by kernel_rfl) mixed fr40 (by show _ ≤ 22; simp) (pure_2 (.lit _ _ _ fun row hr => pure_map Stock.pure row hr) (.sc _)) ?_
  have hok := stockE_ok h0
  refine pwp_seq_plain rfl fun K1 hK1 => ?_
  refine p_step rfl (e_assign (v := .nil) rfl) trivial ?_
  refine p_step rfl (e_assign (v := .sc _) rfl) trivial ?_
  refine p_end (hK1 _ ?_); clear hK1 K1
  refine pwp_seq_plain rfl fun K2 hK2 => ?_
  refine p_step rfl (e_assign (v := .nil) rfl) trivial ?_
  refine p_end (hK2 _ ?_); clear hK2 K2
  refine pwp_seq_seq ?_
  refine pwp_seq_plain rfl fun K3 hK3 => ?_
  refine p_step rfl (e_assign (v := .sc _) rfl) trivial ?_
  refine p_end (hK3 _ ?_); clear hK3 K3
  refine pwp_seq_block fun K4 hK4 => ?_
  refine pwp_loopR (α := Nat × PV) [0] (fun (a5 : Nat × PV) => [(4, (a5.2)), (5, .int (a5.1))]) (fun (a5 : Nat × PV) (h : Heap) (_ : Nat → Nat) => ((a5.1) ≤ xs.length) ∧ (LitV (a5.2) 4 ((putF [] (xs.take (a5.1))).map Stock.enc))) (fun (a5 : Nat × PV) => xs.length - (a5.1)) (0, _) (by exact ⟨rfl, rfl, trivial⟩) (by exact ⟨by exact Nat.zero_le _, by exact LitV.nil⟩) fun a5 r6 h7 c8 hj9 => ?_
  obtain ⟨k, v⟩ := a5
  obtain ⟨hk, hlv⟩ := hj9
  try dsimp only at hk
  try dsimp only at hlv
  show pwp _ _ (loopQ _ _ _) ⟨sets (mix _ _ _) [(4, v), (5, .int k)], _, _⟩
  refine pwp_seq_seq ?_
  refine pwp_seq_plain rfl fun K10 hK10 => ?_
  refine p_step rfl (e_move (v := .sc _) rfl) trivial ?_
  refine p_step rfl (e_move (v := .lit _ _ _) rfl) trivial ?_
  refine p_step rfl (e_len rfl (by kernel_rfl)) trivial ?_
  refine p_step rfl (e_lt rfl rfl) trivial ?_
  refine p_end (hK10 _ ?_); clear hK10 K10
  refine pwp_seq_cond rfl fun K11 hK11 => ⟨fun hb12 => ?_, fun hb12 => ?_⟩
  ·have hb12R := hb12; try simp only [z1, z2, z3, z4, z5, z6, ne_eq, z7, z8, z9, z10, z11, z12] at hb12
   obtain ⟨x, hx, hd, ht⟩ := get_lt (xs := xs) (i := k) (by omega)
   have hln := putF_len (xs.take k) []; simp only [List.length_nil, List.length_take] at hln
   have hct := putF_cts (l := xs.take k) (fun y hy => (hok.2 y (List.mem_of_mem_take hy)).2.2) (by simp only [List.length_take]; omega)
   have hxc : -1000000000 ≤ x.count ∧ x.count ≤ 1000000000 := by have := hok.2 x (List.mem_of_getElem? hx); omega
   refine pwp_skip ?_
   refine seq_norm (hK11 _ ?_); clear hK11 K11
   refine pwp_seq_block fun K13 hK13 => ?_
   refine pwp_plain rfl fun K14 hK14 => ?_
   refine p_step rfl (e_move (v := _) rfl) trivial ?_
   refine p_step rfl (e_move (v := .lit _ _ _) rfl) trivial ?_
   refine p_step rfl (e_move (v := .sc _) rfl) trivial ?_
   refine p_step rfl (e_ixa rfl rfl (by kernel_rfl) (by kernel_rfl) (by simp only [List.length_map]; omega)) trivial ?_
   refine p_step rfl (e_loadA (n := 4) rfl (by kernel_rfl) (by kernel_rfl) (by kernel_rfl) (by simp only [List.length_map]; omega) (by decide) (by first | exact agg_map hx rfl)) trivial ?_
   refine p_call rfl (.cons (LitV.inn hlv) (.cons (inn_agg (Stock.pure _)) .nil)) (Put _ _ (by omega) (by assumption) (by assumption)) ?_
   refine p_step rfl (e_assign (v := .lit _ _ _) rfl) trivial ?_
   refine p_end (hK14 _ ?_); clear hK14 K14
   refine block_norm ?_
   refine seq_norm (hK13 _ ?_); clear hK13 K13
   refine pwp_plain rfl fun K15 hK15 => ?_
   refine p_step rfl (e_move (v := .sc _) rfl) trivial ?_
   refine p_step rfl (e_add rfl rfl (by omega)) trivial ?_
   refine p_step rfl (e_assign (v := .sc _) rfl) trivial ?_
   refine p_end (hK15 _ ?_); clear hK15 K15
   exact loop_again ((k + 1, _)) (by show _ < _; simp only; omega) ⟨rfl, trivial⟩ ⟨rfl, rfl, trivial⟩ (by exact ⟨by show _ + 1 ≤ _; omega, by (rw [ht, putF_snoc]; exact LitV.lit)⟩)
  have hb12R := hb12; try simp only [z1, z2, z3, z4, z5, z6, ne_eq, z7, z8, z9, z10, z11, z12] at hb12
  obtain rfl : k = xs.length := by omega
  rw [List.take_length] at hlv
  have hln := putF_len xs []; simp only [List.length_nil] at hln
  refine pwp_exit ?_
  refine exit_seq ?_
  clear hK11 K11
  refine exit_loop ?_
  refine exit_here ?_
  refine seq_norm (hK4 _ ?_); clear hK4 K4
  refine pwp_seq_plain rfl fun K16 hK16 => ?_
  refine p_step rfl (e_move (v := _) rfl) trivial ?_
  refine p_call rfl (.cons (LitV.inn hlv) .nil) (settled (putF [] xs) (by omega)) ?_
  refine p_step rfl (e_ext (v := .lit _ _ _) rfl (by simp) rfl) trivial ?_
  refine p_step rfl (e_ext (v := .sc _) rfl (by simp) rfl) trivial ?_
  refine p_step rfl (e_assign (v := .lit _ _ _) rfl) trivial ?_
  refine p_step rfl (e_assign (v := .sc _) rfl) trivial ?_
  refine p_end (hK16 _ ?_); clear hK16 K16
  refine pwp_ret ?_
  refine end2 (v := .lit _ _ _) (w := .sc _) rfl rfl ?_
  exact out_2 (.clean (.lit _ _ (fun row hr p hp => by obtain ⟨a, _, rfl⟩ := List.mem_map.1 hr; exact (stock_clean a p hp).1))) (out_i rfl)

end Go.Proofs.YtigdmkhdmbbfiaaDoor

/- The store of a stock. No conditions. -/
set_option linter.unusedSimpArgs false
set_option linter.unusedVariables false
set_option maxRecDepth 100000
namespace Go.Proofs.YtigdmkhdmbbfiaaDoor
open Go Go.Pv

/-! ### The store: a map by shelves -/
def kx (k : Shelf) : PV := .agg k.enc
theorem kx_eq (a b : Shelf) : keyEq (kx a) (kx b) = decide (a = b) := by
  show scsEq a.enc b.enc = _
  rw [Bool.eq_iff_iff]
  cases a; cases b
  simp [Shelf.enc, scsEq, scEq, and_assoc]
theorem kx_ok (a : Shelf) : keyOk Tryd.prog 93 (kx a) := by
  show keyAgg Tryd.prog 93 a.enc = true
  kernel_rfl
theorem shOf_kx : ∀ (m : Sto), (∀ e ∈ m, e.1.part.size ≤ 1000000) → shOf (entsOf kx PV.int m) = some (m.map fun e => kSh e.1)
  | [], _ => rfl
  | e :: m, h => by
    have ih := shOf_kx m fun x hx => h x (List.mem_cons_of_mem _ hx)
    have h1 : e.1.part.data.size ≤ 1000000 := h e List.mem_cons_self
    show shOf ((kx e.1, PV.int e.2) :: entsOf kx PV.int m) = _
    simp only [shOf, kx, Shelf.enc, ih]
    rw [show Nat.ble e.1.part.data.size 1000000 = true by rw [Nat.ble_eq]; exact h1]
    rfl
theorem shRows_kx (m : Sto) : shRows (sortSh (m.map fun e => kSh e.1)) = (keysS m).map Shelf.enc := by
  simp only [shRows, keysS, List.map_map]; rfl
theorem sumS_size {xs : List Stock} (hs : ∀ x ∈ xs, x.part.size ≤ 30) : ∀ e ∈ sumS [] xs, e.1.part.size ≤ 1000000 := fun e he => by
  have : e.1 ∈ (sumS [] xs).map (·.1) := List.mem_map.2 ⟨e, he, rfl⟩
  rw [sumS_keys] at this
  rcases this with h | h
  · simp at h
  · obtain ⟨x, hx, hk⟩ := List.mem_map.1 h
    rw [← hk]; exact Nat.le_trans (hs x hx) (by decide)
theorem aSet_le {α β : Type} [DecidableEq α] (a : α) (b : β) : ∀ l : List (α × β), (aSet a b l).length ≤ l.length + 1
  | [] => by simp [aSet]
  | e :: l => by
    by_cases he : a = e.1
    · rw [aSet_eq he]; simp
    · rw [aSet_ne he]; simpa using aSet_le a b l
theorem sumS_len : ∀ (xs : List Stock) (m : Sto), (sumS m xs).length ≤ m.length + xs.length
  | [], m => Nat.le_refl _
  | x :: xs, m => by
    have := sumS_len xs (aSet (keyS x) (getS (keyS x) m + x.count) m)
    have := aSet_le (keyS x) (getS (keyS x) m + x.count) m
    simp only [sumS, List.length_cons]; omega
theorem keysS_len (m : Sto) : (keysS m).length = m.length := by
  unfold keysS; rw [List.length_map, (sortSh_perm _).length_eq, List.length_map]
theorem old_ne {a b g : Nat} {n : Nat} (hc : n ≤ g) (h5 : a = 5 → b < n) : ((a, b) : Key) ≠ (5, g) := fun e => by
  cases e
  have := h5 rfl; omega
theorem old6 {a b q : Nat} (h : a = 6 → b < q) : ((a, b) : Key) ≠ (6, q) := fun e => by
  cases e
  have := h rfl; omega
def StoR (xs : List Stock) (h0 : Heap) (c0 : Nat → Nat) (v : PV) (h : Heap) : Prop := v = .map (6, c0 6) ∧ MapAt h (6, c0 6) (entsOf kx PV.int (sumS [] xs)) ∧ ∀ a b, (a = 5 → b < c0 5) → (a = 6 → b < c0 6) → h (a, b) = h0 (a, b)

theorem frH34 : (inFrame Tryd.f34.ntmps (Tryd.f34.body.getD .skip) && Tryd.f34.results.toList.all (resScope Tryd.f34.ntmps)) = true := by kernel_rfl
theorem storeOf (xs : List Stock) (h0 : Heap) (c0 : Nat → Nat) (hl : xs.length ≤ 200) (hc : ∀ x ∈ xs, 0 ≤ x.count ∧ x.count ≤ 1000000) : HCallsR Tryd.prog 34 [.lit true 4 (xs.map Stock.enc)] h0 c0 (fun v h _ => StoR xs h0 c0 v h) := by
  refine HCallsR.of_code Tryd.func34 rfl rfl (by kernel_rfl) mixed frH34 (by show _ ≤ 29; simp) ?_
  refine pwp_seq_plain rfl fun K1 hK1 => ?_
  refine p_step rfl (e_assign (v := .sc _) rfl) trivial ?_
  refine p_end (hK1 _ ?_); clear hK1 K1
  refine pwp_seq_plain rfl fun K2 hK2 => ?_
  refine p_new rfl (e_mkmap) trivial ?_
  refine p_step rfl (e_assign (v := .map _) rfl) trivial ?_
  refine p_end (hK2 _ ?_); clear hK2 K2
  refine pwp_seq_seq ?_
  refine pwp_seq_plain rfl fun K3 hK3 => ?_
  refine p_step rfl (e_move (v := .lit _ _ _) rfl) trivial ?_
  refine p_step rfl (e_len rfl (by kernel_rfl)) trivial ?_
  refine p_step rfl (e_move (v := .sc _) rfl) trivial ?_
  refine p_end (hK3 _ ?_); clear hK3 K3
  refine pwp_seq_block fun K4 hK4 => ?_
  refine pwp_loopR (α := Nat × Sto) [3, 7, 8] (fun (a5 : Nat × Sto) => [(9, .int (a5.1))]) (fun (a5 : Nat × Sto) (h : Heap) (c : Nat → Nat) => ((a5.1) ≤ xs.length) ∧ (sumS [] xs = sumS (a5.2) (xs.drop (a5.1))) ∧ (c0 5 ≤ c 5) ∧ (∀ a b, (a = 5 → b < c0 5) → (a = 6 → b < c0 6) → h (a, b) = h0 (a, b)) ∧ (∀ q, 0 ≤ getS q (a5.2) ∧ getS q (a5.2) ≤ 1000000 * ((a5.1) : Int)) ∧ (MapAt h (6, c0 6) (entsOf kx PV.int (a5.2)))) (fun (a5 : Nat × Sto) => xs.length - (a5.1)) (0, []) (by exact ⟨rfl, trivial⟩) (by exact ⟨by exact Nat.zero_le _, by exact rfl, by (simp [cset]), by exact fun a b _ h6 => hset_ne (old6 h6), by (intro q; simp [getS, aGet]), MapAt.new⟩) fun a5 r6 h7 c8 hj9 => ?_
  obtain ⟨k, m⟩ := a5
  obtain ⟨hk, hinv, hcc, hfr, hbd, hihj9_0⟩ := hj9
  try dsimp only at hk
  try dsimp only at hinv
  try dsimp only at hcc
  try dsimp only at hfr
  try dsimp only at hbd
  try dsimp only at hihj9_0
  show pwp _ _ (loopQ _ _ _) ⟨sets (mix _ _ _) [(9, .int k)], _, _⟩
  refine pwp_seq_plain rfl fun K10 hK10 => ?_
  refine p_step rfl (e_lt rfl rfl) trivial ?_
  refine p_end (hK10 _ ?_); clear hK10 K10
  refine pwp_seq_cond rfl fun K11 hK11 => ⟨fun hb12 => ?_, fun hb12 => ?_⟩
  ·have hb12R := hb12; try simp only [z1, z2, z3, z4, z5, z6, ne_eq, z7, z8, z9, z10, z11, z12] at hb12
   obtain ⟨x, hx, hd, ht⟩ := get_lt (xs := xs) (i := k) (by omega)
   rw [hd] at hinv; simp only [sumS] at hinv
   have hxc := hc x (List.mem_of_getElem? hx)
   have hgb : 0 ≤ ((aGet (⟨x.part, x.place, x.state⟩ : Shelf) m).getD 0) ∧ ((aGet (⟨x.part, x.place, x.state⟩ : Shelf) m).getD 0) ≤ 1000000 * (k : Int) := hbd (⟨x.part, x.place, x.state⟩ : Shelf)
   refine pwp_skip ?_
   refine seq_norm (hK11 _ ?_); clear hK11 K11
   refine pwp_seq_block fun K13 hK13 => ?_
   refine pwp_seq_plain rfl fun K14 hK14 => ?_
   refine p_step rfl (e_ixa rfl rfl (by kernel_rfl) (by kernel_rfl) (by simp only [List.length_map]; omega)) trivial ?_
   refine p_step rfl (e_loadA (n := 4) rfl (by kernel_rfl) (by kernel_rfl) (by kernel_rfl) (by simp only [List.length_map]; omega) (by decide) (by first | exact agg_map hx rfl)) trivial ?_
   refine p_new rfl (e_alloc (cs := [.str ByteArray.empty, .int 0, .int 0, .int 0]) (n := 4) (by kernel_rfl) rfl (by decide)) (ob_alloc (by decide)) ?_
   refine p_store rfl (e_storeA rfl (hset_self _ _ _) rfl rfl rfl (by kernel_rfl) rfl (by kernel_rfl)) trivial ?_
   refine p_end (hK14 _ ?_); clear hK14 K14
   refine pwp_gops rfl fun K15 hK15 => ?_
   refine s_begin ?_
   refine s_step [] (by simp) rfl rfl rfl rfl (e_move (v := .map _) rfl) trivial ?_
   refine s_step [] (by simp) rfl rfl rfl rfl (e_faP (pl := [(0, 1, false), (1, 1, false), (2, 1, false), (3, 1, false)]) rfl (by kernel_rfl) (by kernel_rfl) (by decide) rfl) trivial ?_
   refine s_step [5] (by simp) rfl rfl rfl rfl (e_loadH (v := .sc _) rfl (hset_self _ _ _) (by kernel_rfl) (by kernel_rfl) (by kernel_rfl) (by exact Nat.zero_lt_one) (by decide) rfl) trivial ?_
   refine s_step [] (by simp) rfl rfl rfl rfl (e_faP (pl := [(0, 1, false), (1, 1, false), (2, 1, false), (3, 1, false)]) rfl (by kernel_rfl) (by kernel_rfl) (by decide) rfl) trivial ?_
   refine s_step [5] (by simp) rfl rfl rfl rfl (e_loadH (v := .sc _) rfl (hset_self _ _ _) (by kernel_rfl) (by kernel_rfl) (by kernel_rfl) (by exact Nat.zero_lt_one) (by decide) rfl) trivial ?_
   refine s_step [] (by simp) rfl rfl rfl rfl (e_faP (pl := [(0, 1, false), (1, 1, false), (2, 1, false), (3, 1, false)]) rfl (by kernel_rfl) (by kernel_rfl) (by decide) rfl) trivial ?_
   refine s_step [5] (by simp) rfl rfl rfl rfl (e_loadH (v := .sc _) rfl (hset_self _ _ _) (by kernel_rfl) (by kernel_rfl) (by kernel_rfl) (by exact Nat.zero_lt_one) (by decide) rfl) trivial ?_
   refine s_step [] (by simp) rfl rfl rfl rfl (e_build (zs := [.str ByteArray.empty, .int 0, .int 0]) (pl := [(0, 1, false), (1, 1, false), (2, 1, false)]) (by kernel_rfl) (by kernel_rfl) (by kernel_rfl) rfl rfl (by exact ⟨by decide, rfl, Nat.le_of_ble_eq_true rfl, rfl, ⟨by decide, rfl, Nat.le_of_ble_eq_true rfl, rfl, ⟨by decide, rfl, Nat.le_of_ble_eq_true rfl, rfl, trivial⟩⟩⟩) rfl) trivial ?_
   refine s_step [6] (by simp) rfl rfl rfl rfl (e_look (kt := 93) (et := 3) (f := kx) (g := PV.int) (a := (⟨x.part, x.place, x.state⟩ : Shelf)) (l := m) (z := 0) kx_eq kx_ok rfl rfl (MapAt.keep hihj9_0 ((hset_ne (key_ne rfl)).trans ((hset_ne (key_ne rfl)).trans (rfl)))) (by kernel_rfl) (by kernel_rfl) (by first | rfl | kernel_rfl)) trivial ?_
   refine s_step [] (by simp) rfl rfl rfl rfl (e_faP (pl := [(0, 1, false), (1, 1, false), (2, 1, false), (3, 1, false)]) rfl (by kernel_rfl) (by kernel_rfl) (by decide) rfl) trivial ?_
   refine s_step [5] (by simp) rfl rfl rfl rfl (e_loadH (v := .sc _) rfl (hset_self _ _ _) (by kernel_rfl) (by kernel_rfl) (by kernel_rfl) (by exact Nat.zero_lt_one) (by decide) rfl) trivial ?_
   refine s_step [] (by simp) rfl rfl rfl rfl (e_add rfl rfl (by omega)) trivial ?_
   refine s_mentry (kt := 93) (et := 3) (m := 6) (f := kx) (g := PV.int) (a := (⟨x.part, x.place, x.state⟩ : Shelf)) (l := m) (z := 0) kx_eq kx_ok rfl rfl rfl rfl rfl (MapAt.keep hihj9_0 ((hset_ne (key_ne rfl)).trans ((hset_ne (key_ne rfl)).trans (rfl)))) (by kernel_rfl) (by kernel_rfl) (by first | rfl | kernel_rfl) (fun _ => rfl) fun h16 sp17 hst18 hfr19 => ?_
   have ho20 := (hfr19 (5, _) (key_ne rfl)).trans (hset_self _ _ _)
   refine s_step [] (by simp) rfl rfl rfl rfl (e_ext (v := .sc _) rfl (by simp) rfl) trivial ?_
   refine s_estore (f := kx) (g := PV.int) (a := (⟨x.part, x.place, x.state⟩ : Shelf)) (b := (((aGet (⟨x.part, x.place, x.state⟩ : Shelf) m).getD 0) + x.count)) (u := ((aGet (⟨x.part, x.place, x.state⟩ : Shelf) m).getD 0)) (l := m) rfl rfl rfl rfl hst18 rfl fun h21 hm22 hfr23 => ?_
   have ho24 := (hfr23 (5, _) (key_ne rfl)).trans ho20
   refine s_end (ds := []) (by kernel_rfl) (by kernel_rfl) (hK15 _ ?_); clear hK15 K15
   refine block_norm ?_
   refine seq_norm (hK13 _ ?_); clear hK13 K13
   refine pwp_plain rfl fun K25 hK25 => ?_
   refine p_step rfl (e_add rfl rfl (by omega)) trivial ?_
   refine p_step rfl (e_move (v := .sc _) rfl) trivial ?_
   refine p_end (hK25 _ ?_); clear hK25 K25
   exact loop_again ((k + 1, aSet (⟨x.part, x.place, x.state⟩ : Shelf) (((aGet (⟨x.part, x.place, x.state⟩ : Shelf) m).getD 0) + x.count) m)) (by show _ < _; simp only; omega) ⟨rfl, rfl, rfl, trivial⟩ ⟨rfl, trivial⟩ (by exact ⟨by show _ + 1 ≤ _; omega, by exact hinv, by (first | (simp [cset]; done) | (simp [cset]; omega)), by exact fun a b h5 h6 => (hfr23 _ (old6 h6)).trans ((hfr19 _ (old6 h6)).trans ((hset_ne (old_ne hcc h5)).trans ((hset_ne (old_ne hcc h5)).trans (hfr a b h5 h6)))), by (show ∀ q, 0 ≤ getS q (aSet (⟨x.part, x.place, x.state⟩ : Shelf) (((aGet (⟨x.part, x.place, x.state⟩ : Shelf) m).getD 0) + x.count) m) ∧ getS q (aSet (⟨x.part, x.place, x.state⟩ : Shelf) (((aGet (⟨x.part, x.place, x.state⟩ : Shelf) m).getD 0) + x.count) m) ≤ 1000000 * ((k + 1 : Nat) : Int); intro q; have hq := hbd q; rw [getS_aSet]; split <;> omega), hm22⟩)
  have hb12R := hb12; try simp only [z1, z2, z3, z4, z5, z6, ne_eq, z7, z8, z9, z10, z11, z12] at hb12
  obtain rfl : k = xs.length := by omega
  rw [List.drop_length] at hinv; simp only [sumS] at hinv
  refine pwp_exit ?_
  refine exit_seq ?_
  clear hK11 K11
  refine exit_loop ?_
  refine exit_here ?_
  refine seq_norm (hK4 _ ?_); clear hK4 K4
  refine pwp_seq_plain rfl fun K26 hK26 => ?_
  refine p_step rfl (e_move (v := .map _) rfl) trivial ?_
  refine p_step rfl (e_assign (v := .map _) rfl) trivial ?_
  refine p_end (hK26 _ ?_); clear hK26 K26
  refine pwp_ret ?_
  refine end1 (v := .map _) rfl ?_
  exact ⟨rfl, by rw [hinv]; exact hihj9_0, hfr⟩

end Go.Proofs.YtigdmkhdmbbfiaaDoor
