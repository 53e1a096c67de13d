import Derived.Test.YtjihcgcbnbaclaaGreatDoorENam
import Derived.Test.YtjihcgcbnbaclaaGreatDoorPvGx
import Derived.Test.YtjihcgcbnbaclaaGreatDoorPvGh
set_option linter.unusedSimpArgs false
set_option linter.unusedVariables false
set_option maxRecDepth 100000
namespace Go.Proofs.YtjihcgcbnbaclaaGreatDoor.Y8
open Go Go.Pv Go.Proofs.YtjihcgcbnbaclaaGreatDoor
def ltB (a b : ByteArray) : Bool := Op.bytesLess a.toList b.toList
theorem ltB_leS (a b : ByteArray) : ltB a b = !leS b.data.toList a.data.toList := by
 have h : ∀ x y : List UInt8, Op.bytesLess x y = decide (x < y) := by
   intro x;induction x with
   | nil => intro y; cases y <;> simp [Op.bytesLess]
   | cons a x ih =>
     intro y;cases y with
     | nil => simp [Op.bytesLess]
     | cons b y =>
       rw [Op.bytesLess, ih y];simp only [List.cons_lt_cons_iff];by_cases h1 : a < b <;> by_cases h2 : a = b <;> by_cases h3 : x < y <;> simp [h1, h2, h3]
 unfold ltB;rw [h, ByteArray.toList_eq, ByteArray.toList_eq, leS_eq, Bool.eq_iff_iff, decide_eq_true_eq, Bool.not_eq_true', decide_eq_false_iff_not, List.not_le]
theorem mem_aSet_iff {α β : Type} [DecidableEq α] {k : α} {v : β} {x : α} : ∀ {l : List (α × β)}, x ∈ (aSet k v l).map (·.1) ↔ x = k ∨ x ∈ l.map (·.1)
 | [] => by simp [aSet]
 | e :: l => by
   unfold aSet;split
   · rename_i h;simp only [List.map_cons, List.mem_cons];constructor
     · rintro (h2 | h2)
       · exact .inl h2
       · exact .inr (.inr h2)
     · rintro (h2 | h2 | h2)
       · exact .inl h2
       · exact .inl (h2.trans h.symm)
       · exact .inr h2
   · simp only [List.map_cons, List.mem_cons];rw [mem_aSet_iff];constructor
     · rintro (h2 | h2 | h2)
       · exact .inr (.inl h2)
       · exact .inl h2
       · exact .inr (.inr h2)
     · rintro (h2 | h2 | h2)
       · exact .inr (.inl h2)
       · exact .inl h2
       · exact .inr (.inr h2)
def badS (x : Stock) : Prop := ¬ (0 ≤ x.place ∧ x.place ≤ 99) ∨ ¬ (0 ≤ x.state ∧ x.state ≤ 3) ∨ ¬ (0 ≤ x.count ∧ x.count ≤ 1000000)
instance (x : Stock) : Decidable (badS x) := inferInstanceAs (Decidable (_ ∨ _))
def goS : List Stock → Int
 | [] => 0
 | x :: l => if isNm x.part = false then 4 else if badS x then 2 else goS l
def stockE (l : List Stock) : Int := if 200 < l.length then 8 else goS l
theorem stockE_big {l : List Stock} (h : 200 < l.length) : stockE l = 8 := if_pos h
theorem stockE_le {l : List Stock} (h : l.length ≤ 200) : stockE l = goS l := if_neg (by omega)
theorem goS_ok : ∀ {l : List Stock}, goS l = 0 → ∀ x ∈ l, ¬ badS x
 | [], _, x, hx => by simp at hx
 | y :: l, h, x, hx => by
   unfold goS at h;split at h
   · cases h
   · split at h
     · cases h
     · rename_i h2;rcases List.mem_cons.1 hx with rfl | hx
       · exact h2
       · exact goS_ok h x hx
theorem stockE_ok {l : List Stock} (h : stockE l = 0) : l.length ≤ 200 ∧ ∀ x ∈ l, (0 ≤ x.place ∧ x.place ≤ 99) ∧ (0 ≤ x.state ∧ x.state ≤ 3) ∧ (0 ≤ x.count ∧ x.count ≤ 1000000) := by
 unfold stockE at h;split at h
 · cases h
 · refine ⟨by omega, fun x hx => ?_⟩;have := goS_ok h x hx;unfold badS at this;omega
abbrev Kx := Shelf
def keyS (x : Stock) : Kx := ⟨x.part, x.place, x.state⟩
abbrev Sto := List (Kx × Int)
def getS (k : Kx) (m : Sto) : Int := (aGet k m).getD 0
def sumS (m : Sto) : List Stock → Sto
 | [] => m
 | x :: l => sumS (aSet (keyS x) (getS (keyS x) m + x.count) m) l
theorem getS_aSet (k k' : Kx) (v : Int) (m : Sto) : getS k' (aSet k v m) = if k' = k then v else getS k' m := by
 unfold getS; rw [aGet_aSet]; split <;> rfl
def cntS (k : Kx) : List Stock → Int
 | [] => 0
 | x :: l => (if keyS x = k then x.count else 0) + cntS k l
theorem getS_sum (k : Kx) : ∀ (l : List Stock) (m : Sto), getS k (sumS m l) = getS k m + cntS k l
 | [], m => by simp [sumS, cntS]
 | x :: l, m => by
   unfold sumS cntS;rw [getS_sum k l, getS_aSet];by_cases h : keyS x = k
   · rw [if_pos h, if_pos h.symm, h]; omega
   · rw [if_neg h, if_neg (fun h2 => h h2.symm)]; omega
theorem cntS_0 {k : Kx} : ∀ {l : List Stock}, (∀ x ∈ l, 0 ≤ x.count) → 0 ≤ cntS k l
 | [], _ => Int.le_refl _
 | x :: l, h => by
   unfold cntS;have h1 := h x List.mem_cons_self;have h2 := cntS_0 (k := k) (l := l) fun y hy => h y (List.mem_cons_of_mem _ hy);split <;> omega
theorem cntS_le {k : Kx} : ∀ {l : List Stock}, (∀ x ∈ l, 0 ≤ x.count ∧ x.count ≤ 1000000) → cntS k l ≤ 1000000 * (l.length : Int)
 | [], _ => by simp [cntS]
 | x :: l, h => by
   unfold cntS;have h1 := h x List.mem_cons_self;have h2 := cntS_le (k := k) (l := l) fun y hy => h y (List.mem_cons_of_mem _ hy);simp only [List.length_cons, Int.natCast_add, Int.natCast_one];split <;> omega
theorem sumS_nodup : ∀ (l : List Stock) {m : Sto}, ANodup m → ANodup (sumS m l)
 | [], _, h => h
 | _ :: l, _, h => sumS_nodup l h.aSet
def kSh (k : Kx) : Sh := (k.part.data.toList, k.place, k.state)
def ofSh (y : Sh) : Kx := ⟨⟨y.1.toArray⟩, y.2.1, y.2.2⟩
theorem ofSh_kSh (k : Kx) : ofSh (kSh k) = k := rfl
theorem kSh_inj {a b : Kx} (h : kSh a = kSh b) : a = b := by rw [← ofSh_kSh a, h, ofSh_kSh]
def keysS (m : Sto) : List Kx := (sortSh (m.map fun e => kSh e.1)).map ofSh
def lstG (m : Sto) (acc : List Stock) : List Kx → Int × List Stock
 | [] => (0, acc)
 | k :: ks => if 1000000 < getS k m then (8, []) else lstG m (if 0 < getS k m then acc ++ [⟨k.part, k.place, k.state, getS k m⟩] else acc) ks
def listS (m : Sto) : Int × List Stock :=
 let r := lstG m [] (keysS m)
 if r.1 = 0 then (if 200 < r.2.length then (8, []) else r) else (r.1, [])
def befS (a b : Stock) : Bool := bif decide (a.part = b.part) then (bif decide (a.place = b.place) then decide (a.state < b.state) else decide (a.place < b.place)) else ltB a.part b.part
def putS (x : Stock) : List Stock → List Stock
 | [] => [x]
 | y :: l => bif befS y x then y :: putS x l else (bif befS x y then x :: y :: l else { x with count := x.count + y.count } :: l)
theorem befS_le (a b : Stock) : befS a b = !leSh (kSh (keyS b)) (kSh (keyS a)) := by
 have hl : ltB a.part b.part = !leS b.part.data.toList a.part.data.toList := ltB_leS _ _
 have e : (a.part = b.part) ↔ (b.part.data.toList = a.part.data.toList) := ⟨fun h => by rw [h], fun h => by
   have := congrArg (fun l : List UInt8 => (⟨l.toArray⟩ : ByteArray)) h;exact this.symm⟩
 rw [Bool.eq_iff_iff, Bool.not_eq_true', ← Bool.not_eq_true, leSh_iff];unfold befS kSh keyS;simp only;by_cases h : a.part = b.part
 · rw [decide_eq_true h, cond_true];have h' := e.1 h;by_cases h2 : a.place = b.place
   · rw [decide_eq_true h2, cond_true, decide_eq_true_eq, h', h2];simp only [leS_refl, Bool.true_eq_false, and_false, false_or, true_and, Int.lt_irrefl, Int.not_le]
   · rw [decide_eq_false h2, cond_false, decide_eq_true_eq, h'];simp only [leS_refl, Bool.true_eq_false, and_false, false_or, true_and];omega
 · rw [decide_eq_false h, cond_false, hl];have h' : ¬ b.part.data.toList = a.part.data.toList := fun h2 => h (e.2 h2);simp only [h', false_and, or_false, Bool.not_eq_true', Bool.not_eq_true];constructor
   · intro h3 h4; rw [h3] at h4; exact absurd h4.1 (by simp)
   · intro h3;cases h5 : leS b.part.data.toList a.part.data.toList with
     | false => rfl
     | true =>
       exfalso;cases h6 : leS a.part.data.toList b.part.data.toList with
       | false => exact h3 ⟨h5, h6⟩
       | true => exact h' (leS_anti h5 h6)
theorem befS_key {a b : Stock} (h1 : befS a b = false) (h2 : befS b a = false) : keyS a = keyS b := by
 rw [befS_le, Bool.not_eq_false'] at h1 h2;exact (kSh_inj (leSh_anti h1 h2)).symm
theorem befS_trans {a b c : Stock} (h1 : befS a b = true) (h2 : befS b c = true) : befS a c = true := by
 rw [befS_le, Bool.not_eq_true'] at h1 h2 ⊢;cases h : leSh (kSh (keyS c)) (kSh (keyS a)) with
 | false => rfl
 | true =>
   have hb : leSh (kSh (keyS a)) (kSh (keyS b)) = true := by
     have := leSh_total (kSh (keyS a)) (kSh (keyS b)); rw [h1, Bool.or_false] at this; exact this
   rw [leSh_trans _ _ _ h hb] at h2; cases h2
theorem befS_ne {a b : Stock} (h : befS a b = true) : keyS a ≠ keyS b := fun e => by
 rw [befS_le, e, Bool.not_eq_true'] at h;have := leSh_total (kSh (keyS b)) (kSh (keyS b)); rw [h] at this; cases this
theorem befS_congr {a b c : Stock} (h : keyS a = keyS b) : befS a c = befS b c := by rw [befS_le, befS_le, h]
theorem befS_congr' {a b c : Stock} (h : keyS a = keyS b) : befS c a = befS c b := by rw [befS_le, befS_le, h]
def Srt (l : List Stock) : Prop := l.Pairwise (fun a b => befS a b = true)
theorem mem_putS {x z : Stock} : ∀ {l : List Stock}, z ∈ putS x l → keyS z = keyS x ∨ z ∈ l
 | [], h => by simp only [putS, List.mem_singleton] at h; exact .inl (by rw [h])
 | y :: l, h => by
   unfold putS at h;cases h1 : befS y x with
   | true =>
     rw [h1, cond_true] at h;rcases List.mem_cons.1 h with rfl | h
     · exact .inr List.mem_cons_self
     · exact (mem_putS h).imp_right (List.mem_cons_of_mem _)
   | false =>
     rw [h1, cond_false] at h;cases h2 : befS x y with
     | true =>
       rw [h2, cond_true] at h;rcases List.mem_cons.1 h with rfl | h
       · exact .inl rfl
       · exact .inr h
     | false =>
       rw [h2, cond_false] at h;rcases List.mem_cons.1 h with rfl | h
       · exact .inl rfl
       · exact .inr (List.mem_cons_of_mem _ h)
theorem putS_srt {x : Stock} : ∀ {l : List Stock}, Srt l → Srt (putS x l)
 | [], _ => by simp [putS, Srt]
 | y :: l, h => by
   have hy := (List.pairwise_cons.1 h).1;have hl := (List.pairwise_cons.1 h).2;unfold putS;cases h1 : befS y x with
   | true =>
     rw [cond_true];refine List.pairwise_cons.2 ⟨fun z hz => ?_, putS_srt hl⟩;rcases mem_putS hz with e | hz
     · rw [befS_congr' e]; exact h1
     · exact hy z hz
   | false =>
     rw [cond_false];cases h2 : befS x y with
     | true =>
       rw [cond_true];refine List.pairwise_cons.2 ⟨fun z hz => ?_, h⟩;rcases List.mem_cons.1 hz with rfl | hz
       · exact h2
       · exact befS_trans h2 (hy z hz)
     | false =>
       rw [cond_false];have e : keyS x = keyS y := befS_key h2 h1;refine List.pairwise_cons.2 ⟨fun z hz => ?_, hl⟩;have : keyS { x with count := x.count + y.count } = keyS y := e;rw [befS_congr this]; exact hy z hz
theorem putS_cnt (k : Kx) {x : Stock} : ∀ (l : List Stock), cntS k (putS x l) = (if keyS x = k then x.count else 0) + cntS k l
 | [] => by simp [putS, cntS]
 | y :: l => by
   unfold putS;cases h1 : befS y x with
   | true => rw [cond_true]; simp only [cntS]; rw [putS_cnt k l]; omega
   | false =>
     rw [cond_false];cases h2 : befS x y with
     | true => rw [cond_true]; simp only [cntS]
     | false =>
       rw [cond_false];have e : keyS x = keyS y := befS_key h2 h1;have e2 : keyS { x with count := x.count + y.count } = keyS x := rfl;simp only [cntS];rw [e2, ← e];split <;> omega
theorem putS_keys (k : Kx) {x : Stock} : ∀ (l : List Stock), k ∈ (putS x l).map keyS ↔ k = keyS x ∨ k ∈ l.map keyS
 | [] => by simp [putS]
 | y :: l => by
   unfold putS;cases h1 : befS y x with
   | true =>
     rw [cond_true, List.map_cons, List.mem_cons, putS_keys k l, List.map_cons, List.mem_cons];constructor
     · rintro (h | h | h)
       · exact .inr (.inl h)
       · exact .inl h
       · exact .inr (.inr h)
     · rintro (h | h | h)
       · exact .inr (.inl h)
       · exact .inl h
       · exact .inr (.inr h)
   | false =>
     rw [cond_false];cases h2 : befS x y with
     | true => rw [cond_true, List.map_cons, List.mem_cons]
     | false =>
       rw [cond_false];have e : keyS x = keyS y := befS_key h2 h1;have e2 : keyS { x with count := x.count + y.count } = keyS x := rfl;rw [List.map_cons, List.mem_cons, List.map_cons, List.mem_cons, e2, e];constructor
       · rintro (h | h)
         · exact .inl h
         · exact .inr (.inr h)
       · rintro (h | h | h)
         · exact .inl h
         · exact .inl h
         · exact .inr h
def putF (out : List Stock) : List Stock → List Stock
 | [] => out
 | x :: l => putF (putS x out) l
theorem putF_srt : ∀ (l : List Stock) {out : List Stock}, Srt out → Srt (putF out l)
 | [], _, h => h
 | _ :: l, _, h => putF_srt l (putS_srt h)
theorem putF_cnt (k : Kx) : ∀ (l out : List Stock), cntS k (putF out l) = cntS k out + cntS k l
 | [], out => by simp [putF, cntS]
 | x :: l, out => by simp only [putF, cntS]; rw [putF_cnt k l, putS_cnt]; omega
theorem putF_keys (k : Kx) : ∀ (l out : List Stock), k ∈ (putF out l).map keyS ↔ k ∈ out.map keyS ∨ k ∈ l.map keyS
 | [], out => by simp [putF]
 | x :: l, out => by
   simp only [putF];rw [putF_keys k l, putS_keys, List.map_cons, List.mem_cons, or_assoc];constructor
   · rintro (h | h | h)
     · exact .inr (.inl h)
     · exact .inl h
     · exact .inr (.inr h)
   · rintro (h | h | h)
     · exact .inr (.inl h)
     · exact .inl h
     · exact .inr (.inr h)
theorem sumS_keys (k : Kx) : ∀ (l : List Stock) (m : Sto), k ∈ (sumS m l).map (·.1) ↔ k ∈ m.map (·.1) ∨ k ∈ l.map keyS
 | [], m => by simp [sumS]
 | x :: l, m => by
   simp only [sumS];rw [sumS_keys k l, mem_aSet_iff, List.map_cons, List.mem_cons, or_assoc];constructor
   · rintro (h | h | h)
     · exact .inr (.inl h)
     · exact .inl h
     · exact .inr (.inr h)
   · rintro (h | h | h)
     · exact .inr (.inl h)
     · exact .inl h
     · exact .inr (.inr h)
theorem srt_nodup : ∀ {l : List Stock}, Srt l → (l.map keyS).Nodup
 | [], _ => List.nodup_nil
 | y :: l, h => by
   rw [List.map_cons, List.nodup_cons];refine ⟨fun hm => ?_, srt_nodup (List.pairwise_cons.1 h).2⟩;obtain ⟨z, hz, e⟩ := List.mem_map.1 hm;exact befS_ne ((List.pairwise_cons.1 h).1 z hz) e.symm
theorem srt_cnt : ∀ {l : List Stock}, Srt l → ∀ e ∈ l, cntS (keyS e) l = e.count
 | [], _, e, h => by simp at h
 | y :: l, h, e, he => by
   have hn := srt_nodup h;rw [List.map_cons, List.nodup_cons] at hn
   have h0 : ∀ {k : Kx} {l : List Stock}, k ∉ l.map keyS → cntS k l = 0 := fun {k l} => by
     induction l with
     | nil => intro _; rfl
     | cons z l ih => intro hk; rw [List.map_cons, List.mem_cons, not_or] at hk; simp only [cntS]; rw [if_neg (fun h => hk.1 h.symm), ih hk.2]; rfl
   rcases List.mem_cons.1 he with rfl | he'
   · simp only [cntS]; rw [if_pos trivial, h0 hn.1]; omega
   · simp only [cntS];rw [if_neg (befS_ne ((List.pairwise_cons.1 h).1 e he')), srt_cnt (List.pairwise_cons.1 h).2 e he']; omega
theorem keysS_putF (l : List Stock) : (putF [] l).map keyS = keysS (sumS [] l) := by
 have hs : Srt (putF [] l) := putF_srt l .nil
 have h1 : ((putF [] l).map keyS).Perm ((sumS [] l).map (·.1)) := by
   rw [List.perm_ext_iff_of_nodup (srt_nodup hs) (sumS_nodup l (by simp [ANodup]))];intro k;rw [putF_keys, sumS_keys]; simp
 have h2 : ((putF [] l).map keyS).map kSh = sortSh ((sumS [] l).map fun e => kSh e.1) := by
   refine sortSh_unique ?_ ?_
   · have := h1.map kSh;rw [List.map_map, List.map_map] at this;rw [List.map_map]; exact this
   · rw [List.map_map];rw [List.pairwise_map];refine List.Pairwise.imp ?_ hs;intro a b h;rw [befS_le, Bool.not_eq_true'] at h;have := leSh_total (kSh (keyS a)) (kSh (keyS b)); rw [h, Bool.or_false] at this; exact this
 unfold keysS;rw [← h2, List.map_map];have : (ofSh ∘ kSh) = id := funext ofSh_kSh;rw [this, List.map_id]
theorem putF_eq (l : List Stock) : putF [] l = (keysS (sumS [] l)).map fun k => ⟨k.part, k.place, k.state, getS k (sumS [] l)⟩ := by
 have hs : Srt (putF [] l) := putF_srt l .nil;rw [← keysS_putF, List.map_map];refine (List.map_id (putF [] l)).symm.trans (List.map_congr_left fun e he => ?_);simp only [Function.comp, id]
 have : getS (keyS e) (sumS [] l) = e.count := by
   rw [getS_sum, ← srt_cnt hs e he, putF_cnt]; simp [getS, aGet, cntS]
 rw [this]; rfl
def setG (acc : List Stock) : List Stock → Int × List Stock
 | [] => (0, acc)
 | y :: l => if 1000000 < y.count then (8, []) else setG (if y.count ≠ 0 then acc ++ [y] else acc) l
def settS (l : List Stock) : Int × List Stock :=
 let r := setG [] l
 if r.1 = 0 then (if 200 < r.2.length then (8, []) else r) else (r.1, [])
theorem setG_lstG {m : Sto} (h : ∀ k, 0 ≤ getS k m) : ∀ (ks : List Kx) (acc : List Stock), setG acc (ks.map fun k => ⟨k.part, k.place, k.state, getS k m⟩) = lstG m acc ks
 | [], acc => rfl
 | k :: ks, acc => by
   simp only [List.map_cons, setG, lstG];rw [setG_lstG h ks];have e : (getS k m ≠ 0) ↔ 0 < getS k m := by have := h k; omega
   simp only [e]
structure At where
 a0 : Int
 a1 : Int
 deriving Inhabited, DecidableEq
def At.enc (x : At) : List PV := [.int x.a0, .int x.a1]
theorem At.pure (x : At) : ∀ p ∈ x.enc, Pure p := fun p hp => by
 simp only [At.enc, List.mem_cons, List.not_mem_nil, or_false] at hp;rcases hp with rfl | rfl <;> exact .sc _
theorem ssz {xs : List Stock} (hs : ∀ x ∈ xs, x.part.size ≤ 30) {i : Nat} {x : Stock} (hx : xs[i]? = some x) : x.part.size ≤ 30 := hs x (List.mem_of_getElem? hx)
theorem befS_1 {a b : Stock} (h : ¬ a.part = b.part) : ltB a.part b.part = befS a b := by rw [befS, decide_eq_false h]; rfl
def totS (p : ByteArray) : Int → List Stock → Int
 | s, [] => s
 | s, x :: l => totS p (if x.part = p then s + x.count else s) l
def totW (xs : List Stock) (p : ByteArray) : Int := if stockE xs = 0 then totS p 0 xs else 0
theorem totW_1 {xs : List Stock} {p : ByteArray} (h : ¬ stockE xs = 0) : (0 : Int) = totW xs p := (if_neg h).symm
theorem totW_2 {xs : List Stock} {p : ByteArray} {z : Int} (h : stockE xs = 0) (hz : z = totS p 0 xs) : z = totW xs p := by rw [totW, if_pos h, hz]
theorem tot_t {R s : Int} {p : ByteArray} {x : Stock} {l : List Stock} (h : R = totS p s (x :: l)) (hx : x.part = p) : R = totS p (s + x.count) l := by rw [h, totS, if_pos hx]
theorem tot_f {R s : Int} {p : ByteArray} {x : Stock} {l : List Stock} (h : R = totS p s (x :: l)) (hx : ¬ x.part = p) : R = totS p s l := by rw [h, totS, if_neg hx]
theorem stock_clean (a : Stock) : ∀ p ∈ a.enc, Go.Pv.Clean p ∧ p.cell = true := fun p hp => by
 simp only [Stock.enc, List.mem_cons, List.not_mem_nil, or_false] at hp;rcases hp with rfl | rfl | rfl | rfl <;> exact ⟨.sc _, rfl⟩
theorem pr_out {h : Heap} {r : Int × List Stock} {z : Int} {acc : List Stock} {d : Nat} {u : PV} (hr : r = (z, acc)) (hs : SliceAt h d u 4 (acc.map Stock.enc)) : Out h (.tup [u, .int z]) (.tup [.lit false 4 (r.2.map Stock.enc), .int r.1]) := by
 rw [hr]; exact out_2 (out_slice hs rfl (fun _ => rfl) stock_clean) (out_i rfl)
theorem pr_out0 {h : Heap} {r : Int × List Stock} {z : Int} (hr : r = (z, [])) : Out h (.tup [.nil, .int z]) (.tup [.lit false 4 (r.2.map Stock.enc), .int r.1]) := by
 rw [hr]; exact out_2 (.nil 4) (out_i rfl)
theorem fr27 : (inFrame Tryz.f27.ntmps (Tryz.f27.body.getD .skip) && Tryz.f27.results.toList.all (resScope Tryz.f27.ntmps)) = true := by kernel_rfl
theorem CheckS (xs : List Stock) (hl : xs.length ≤ 220) (hs : ∀ x ∈ xs, x.part.size ≤ 30) : PCalls Tryz.prog 27 [.lit true 4 (xs.map Stock.enc)] (.int (stockE xs)) := by
 refine PCalls.of_code Tryz.func27 rfl rfl (by kernel_rfl) mixed fr27 (by show _ ≤ 37; simp) (.sc _) (pwp_seq_plain rfl fun K1 hK1 => p_step rfl (e_assign (v := .sc _) rfl) trivial (p_end (hK1 _ ?_))); clear hK1 K1;refine pwp_seq_seq (pwp_seq_plain rfl fun K2 hK2 => p_step rfl (e_move (v := .lit _ _ _) rfl) trivial (p_step rfl (e_len rfl (by kernel_rfl)) trivial (p_step rfl (e_gt rfl rfl) trivial (p_end (hK2 _ ?_))))); clear hK2 K2;refine pwp_seq_cond rfl fun K3 hK3 => ⟨fun hb4 => ?_, fun hb4 => ?_⟩
 ·have hb4R := hb4; try simp only [z1, z2, z3, z4, z5, z6, ne_eq, z7, z8, z9, z10, z11, z12] at hb4
  refine pwp_seq_plain rfl fun K5 hK5 => p_step rfl (e_assign (v := .sc _) rfl) trivial (p_end (hK5 _ ?_)); clear hK5 K5;refine pwp_ret (ret_seq (end1 (v := .sc _) rfl ?_));exact out_i (stockE_big (by omega)).symm
 have hb4R := hb4; try simp only [z1, z2, z3, z4, z5, z6, ne_eq, z7, z8, z9, z10, z11, z12] at hb4
 refine pwp_skip (seq_norm (hK3 _ ?_)); clear hK3 K3;refine pwp_seq_seq (pwp_seq_plain rfl fun K6 hK6 => p_step rfl (e_move (v := .lit _ _ _) rfl) trivial (p_step rfl (e_len rfl (by kernel_rfl)) trivial (p_step rfl (e_move (v := .sc _) rfl) trivial (p_end (hK6 _ ?_))))); clear hK6 K6;refine pwp_seq_block fun K7 hK7 => pwp_loopR (α := Nat) [8, 9] (fun (k : Nat) => [(10, .int (k))]) (fun (k : Nat) (h : Heap) (_ : Nat → Nat) => ((k) ≤ xs.length) ∧ (goS xs = goS (xs.drop (k)))) (fun (k : Nat) => xs.length - (k)) (0) (by exact ⟨rfl, trivial⟩) (by exact ⟨by exact Nat.zero_le _, by exact rfl⟩) fun k r8 h9 c10 hj11 => ?_;obtain ⟨hk, hinv⟩ := hj11;try dsimp only at hk
 try dsimp only at hinv
 show pwp _ _ (loopQ _ _ _) ⟨sets (mix _ _ _) [(10, .int k)], _, _⟩;refine pwp_seq_plain rfl fun K12 hK12 => p_step rfl (e_lt rfl rfl) trivial (p_end (hK12 _ ?_)); clear hK12 K12;refine pwp_seq_cond rfl fun K13 hK13 => ⟨fun hb14 => ?_, fun hb14 => ?_⟩
 ·have hb14R := hb14; try simp only [z1, z2, z3, z4, z5, z6, ne_eq, z7, z8, z9, z10, z11, z12] at hb14
  obtain ⟨x, hx, hd, ht⟩ := get_lt (xs := xs) (i := k) (by omega);rw [hd] at hinv; simp only [goS] at hinv;have hsz := ssz hs hx;refine pwp_skip (seq_norm (hK13 _ ?_)); clear hK13 K13;refine pwp_seq_block fun K15 hK15 => pwp_seq_plain rfl fun K16 hK16 => p_step rfl (e_ixa rfl rfl (by kernel_rfl) (by kernel_rfl) (by simp only [lM]; omega)) trivial (p_step rfl (e_loadA (n := 4) rfl (by kernel_rfl) (by kernel_rfl) (by kernel_rfl) (by simp only [lM]; omega) (by decide) (by first | exact agg_map hx rfl)) trivial (p_new rfl (e_alloc (cs := [.str ByteArray.empty, .int 0, .int 0, .int 0]) (n := 4) (by kernel_rfl) rfl (by decide)) (ob_alloc (by decide)) (p_store rfl (e_storeA rfl (hset_self _ _ _) rfl rfl rfl (by kernel_rfl) rfl (by kernel_rfl)) trivial (p_end (hK16 _ ?_))))); clear hK16 K16;refine pwp_block (pwp_seq_plain rfl fun K17 hK17 => p_step rfl (e_faP (pl := [(0, 1, false), (1, 1, false), (2, 1, false), (3, 1, false)]) rfl (by kernel_rfl) (by kernel_rfl) (by decide) rfl) trivial (p_step rfl (e_loadH (v := .sc _) rfl (hset_self _ _ _) (by kernel_rfl) (by kernel_rfl) (by kernel_rfl) (by exact Nat.zero_lt_one) (by decide) rfl) trivial (p_call rfl (.cons inn_sc .nil) (isName _ (by omega)) (p_step rfl (e_not rfl) trivial (p_step rfl (e_assign (v := .sc _) rfl) trivial (p_end (hK17 _ ?_))))))); clear hK17 K17;refine pwp_cond rfl (fun hb18 => ?_) (fun hb18 => ?_)
  ·have hb18R := hb18; try simp only [z1, z2, z3, z4, z5, z6, ne_eq, z7, z8, z9, z10, z11, z12] at hb18
   refine pwp_seq_plain rfl fun K19 hK19 => p_step rfl (e_assign (v := .sc _) rfl) trivial (p_end (hK19 _ ?_)); clear hK19 K19;refine pwp_ret (ret_block (ret_block (ret_seq (ret_loop (ret_block (ret_seq (end1 (v := .sc _) rfl ?_)))))));exact out_i (by rw [stockE_le (by omega), hinv, if_pos (by assumption)])
  have hb18R := hb18; try simp only [z1, z2, z3, z4, z5, z6, ne_eq, z7, z8, z9, z10, z11, z12] at hb18
  refine pwp_seq_cutG [8, 9, 10] [(19, .bool (((!(decide ((0) ≤ x.place ∧ x.place ≤ (99)))) || (!(decide ((0) ≤ x.state ∧ x.state ≤ (3))))) || (!(decide ((0) ≤ x.count ∧ x.count ≤ (1000000))))))] (fun K20 hK20 => ?_) (fun r21 => ?_)
  ·skip
   refine pwp_gops rfl fun K22 hK22 => g_begin (g_step rfl rfl rfl rfl (e_faP (pl := [(0, 1, false), (1, 1, false), (2, 1, false), (3, 1, false)]) rfl (by kernel_rfl) (by kernel_rfl) (by decide) rfl) trivial (g_step rfl rfl rfl rfl (e_loadH (v := .sc _) rfl (hset_self _ _ _) (by kernel_rfl) (by kernel_rfl) (by kernel_rfl) (by exact Nat.zero_lt_one) (by decide) rfl) trivial (g_call rfl rfl rfl rfl (.cons inn_sc (.cons inn_sc (.cons inn_sc .nil))) (within _ _ _) (g_step rfl rfl rfl rfl (e_not rfl) trivial (g_step rfl rfl rfl rfl (e_move (v := .sc _) rfl) trivial ?_)))));refine g_cases (fun hb23 => ?_) (fun hb23 => ?_)
   ·have hb23R := hb23; try simp only [z1, z2, z3, z4, z5, z6, ne_eq, z7, z8, z9, z10, z11, z12] at hb23
    refine g_skip rfl rfl rfl (g_skip rfl rfl rfl (g_nocall rfl rfl rfl (g_skip rfl rfl rfl (g_step rfl rfl rfl rfl (e_pickT (v := .sc _) rfl rfl) trivial (g_step rfl rfl rfl rfl (e_move (v := .sc _) rfl) trivial (g_skip rfl rfl rfl (g_skip rfl rfl rfl ?_)))))));refine g_nocall rfl rfl rfl (g_skip rfl rfl rfl (g_step rfl rfl rfl rfl (e_pickT (v := .sc _) rfl rfl) trivial (g_step rfl rfl rfl rfl (e_assign (v := .sc _) rfl) trivial (g_end (ds := [25, 26, 27, 28, 31, 32, 33, 34]) rfl rfl (hK22 _ ?_))))); clear hK22 K22;exact seq_norm (hK20 _ ⟨rfl, rfl, rfl, trivial⟩ ⟨(congrArg PV.bool (show (true : Bool) = (((!(decide ((0) ≤ x.place ∧ x.place ≤ (99)))) || (!(decide ((0) ≤ x.state ∧ x.state ≤ (3))))) || (!(decide ((0) ≤ x.count ∧ x.count ≤ (1000000))))) by rw [hb23R]; rfl)), trivial⟩)
   have hb23R := hb23; try simp only [z1, z2, z3, z4, z5, z6, ne_eq, z7, z8, z9, z10, z11, z12] at hb23
   refine g_step rfl rfl rfl rfl (e_faP (pl := [(0, 1, false), (1, 1, false), (2, 1, false), (3, 1, false)]) rfl (by kernel_rfl) (by kernel_rfl) (by decide) rfl) trivial (g_step rfl rfl rfl rfl (e_loadH (v := .sc _) rfl (hset_self _ _ _) (by kernel_rfl) (by kernel_rfl) (by kernel_rfl) (by exact Nat.zero_lt_one) (by decide) rfl) trivial (g_call rfl rfl rfl rfl (.cons inn_sc (.cons inn_sc (.cons inn_sc .nil))) (within _ _ _) (g_step rfl rfl rfl rfl (e_not rfl) trivial (g_step rfl rfl rfl rfl (e_pickF (v := .sc _) rfl rfl) trivial (g_step rfl rfl rfl rfl (e_move (v := .sc _) rfl) trivial ?_)))));refine g_cases (fun hb24 => ?_) (fun hb24 => ?_)
   ·have hb24R := hb24; try simp only [z1, z2, z3, z4, z5, z6, ne_eq, z7, z8, z9, z10, z11, z12] at hb24
    refine g_skip rfl rfl rfl (g_skip rfl rfl rfl (g_nocall rfl rfl rfl (g_skip rfl rfl rfl (g_step rfl rfl rfl rfl (e_pickT (v := .sc _) rfl rfl) trivial (g_step rfl rfl rfl rfl (e_assign (v := .sc _) rfl) trivial (g_end (ds := [25, 26, 27, 28, 31, 32, 33, 34]) rfl rfl (hK22 _ ?_))))))); clear hK22 K22;exact seq_norm (hK20 _ ⟨rfl, rfl, rfl, trivial⟩ ⟨(congrArg PV.bool (show (true : Bool) = (((!(decide ((0) ≤ x.place ∧ x.place ≤ (99)))) || (!(decide ((0) ≤ x.state ∧ x.state ≤ (3))))) || (!(decide ((0) ≤ x.count ∧ x.count ≤ (1000000))))) by first | rfl | ((try rw [hb24R]) <;> (try rw [hb23R]) <;> (first | rfl | (simp only [Bool.and_true, Bool.and_false, Bool.true_and, Bool.false_and, Bool.or_true, Bool.or_false, Bool.true_or, Bool.false_or, Bool.not_true, Bool.not_false, if_true, if_false, Bool.false_eq_true, reduceIte] <;> rfl))) | (simp only [hb23R, hb24R, Bool.and_true, Bool.and_false, Bool.true_and, Bool.false_and, Bool.or_true, Bool.or_false, Bool.true_or, Bool.false_or, Bool.not_true, Bool.not_false, if_true, if_false, Bool.false_eq_true, reduceIte] <;> rfl))), trivial⟩)
   have hb24R := hb24; try simp only [z1, z2, z3, z4, z5, z6, ne_eq, z7, z8, z9, z10, z11, z12] at hb24
   refine g_step rfl rfl rfl rfl (e_faP (pl := [(0, 1, false), (1, 1, false), (2, 1, false), (3, 1, false)]) rfl (by kernel_rfl) (by kernel_rfl) (by decide) rfl) trivial (g_step rfl rfl rfl rfl (e_loadH (v := .sc _) rfl (hset_self _ _ _) (by kernel_rfl) (by kernel_rfl) (by kernel_rfl) (by exact Nat.zero_lt_one) (by decide) rfl) trivial (g_call rfl rfl rfl rfl (.cons inn_sc (.cons inn_sc (.cons inn_sc .nil))) (within _ _ _) (g_step rfl rfl rfl rfl (e_not rfl) trivial (g_step rfl rfl rfl rfl (e_pickF (v := .sc _) rfl rfl) trivial (g_step rfl rfl rfl rfl (e_assign (v := .sc _) rfl) trivial (g_end (ds := [25, 26, 27, 28, 31, 32, 33, 34]) rfl rfl (hK22 _ ?_))))))); clear hK22 K22;exact seq_norm (hK20 _ ⟨rfl, rfl, rfl, trivial⟩ ⟨(congrArg PV.bool (show ((!(decide ((0) ≤ x.count ∧ x.count ≤ (1000000)))) : Bool) = (((!(decide ((0) ≤ x.place ∧ x.place ≤ (99)))) || (!(decide ((0) ≤ x.state ∧ x.state ≤ (3))))) || (!(decide ((0) ≤ x.count ∧ x.count ≤ (1000000))))) by first | rfl | ((try rw [hb24R]) <;> (try rw [hb23R]) <;> (first | rfl | (simp only [Bool.and_true, Bool.and_false, Bool.true_and, Bool.false_and, Bool.or_true, Bool.or_false, Bool.true_or, Bool.false_or, Bool.not_true, Bool.not_false, if_true, if_false, Bool.false_eq_true, reduceIte] <;> rfl))) | (simp only [hb23R, hb24R, Bool.and_true, Bool.and_false, Bool.true_and, Bool.false_and, Bool.or_true, Bool.or_false, Bool.true_or, Bool.false_or, Bool.not_true, Bool.not_false, if_true, if_false, Bool.false_eq_true, reduceIte] <;> rfl))), trivial⟩)
  refine pwp_cond rfl (fun hb25 => ?_) (fun hb25 => ?_)
  ·have hb25R := hb25; try simp only [z1, z2, z3, z4, z5, z6, ne_eq, z7, z8, z9, z10, z11, z12] at hb25
   refine pwp_seq_plain rfl fun K26 hK26 => p_step rfl (e_assign (v := .sc _) rfl) trivial (p_end (hK26 _ ?_)); clear hK26 K26;refine pwp_ret (ret_block (ret_block (ret_seq (ret_loop (ret_block (ret_seq (end1 (v := .sc _) rfl ?_)))))));exact out_i (by rw [stockE_le (by omega), hinv, if_neg (by rw [Bool.not_eq_false]; assumption), if_pos (by unfold badS; omega)])
  have hb25R := hb25; try simp only [z1, z2, z3, z4, z5, z6, ne_eq, z7, z8, z9, z10, z11, z12] at hb25
  refine pwp_skip (block_norm (block_norm (seq_norm (hK15 _ ?_)))); clear hK15 K15;refine pwp_plain rfl fun K27 hK27 => p_step rfl (e_add rfl rfl (by omega)) trivial (p_step rfl (e_move (v := .sc _) rfl) trivial (p_end (hK27 _ ?_))); clear hK27 K27;rw [if_neg (by rw [Bool.not_eq_false]; assumption), if_neg (by unfold badS; omega)] at hinv;exact loop_again (k + 1) (by show _ < _; omega) ⟨rfl, rfl, trivial⟩ ⟨rfl, trivial⟩ (by exact ⟨by show _ + 1 ≤ _; omega, by exact hinv⟩)
 have hb14R := hb14; try simp only [z1, z2, z3, z4, z5, z6, ne_eq, z7, z8, z9, z10, z11, z12] at hb14
 obtain rfl : k = xs.length := by omega
 rw [List.drop_length] at hinv; simp only [goS] at hinv;refine pwp_exit (exit_seq ?_);clear hK13 K13;refine exit_loop (exit_here (seq_norm (hK7 _ ?_))); clear hK7 K7;refine pwp_seq_plain rfl fun K28 hK28 => p_step rfl (e_assign (v := .sc _) rfl) trivial (p_end (hK28 _ ?_)); clear hK28 K28;refine pwp_ret (end1 (v := .sc _) rfl ?_);exact out_i (by rw [stockE_le (by omega), hinv])
theorem fr18 : (inFrame Tryz.f18.ntmps (Tryz.f18.body.getD .skip) && Tryz.f18.results.toList.all (resScope Tryz.f18.ntmps)) = true := by kernel_rfl
theorem TotalS (xs : List Stock) (p : ByteArray) (hl : xs.length ≤ 220) (hs : ∀ x ∈ xs, x.part.size ≤ 30) : PCalls Tryz.prog 18 [.lit true 4 (xs.map Stock.enc), .str p] (.tup [.int (totW xs p), .int (stockE xs)]) := by
 refine PCalls.of_code Tryz.func18 rfl rfl (by kernel_rfl) mixed fr18 (by show _ ≤ 31; simp) (pure_2 (.sc _) (.sc _)) (pwp_seq_plain rfl fun K1 hK1 => p_step rfl (e_assign (v := .sc _) rfl) trivial (p_step rfl (e_assign (v := .sc _) rfl) trivial (p_end (hK1 _ ?_)))); clear hK1 K1;refine pwp_seq_seq (pwp_seq_plain rfl fun K2 hK2 => p_step rfl (e_move (v := .lit _ _ _) rfl) trivial (p_call rfl (.cons inn_lit .nil) (CheckS _ (by omega) (by assumption)) (p_step rfl (e_assign (v := .sc _) rfl) trivial (p_end (hK2 _ ?_))))); clear hK2 K2;refine pwp_seq_seq (pwp_seq_plain rfl fun K3 hK3 => p_step rfl (e_move (v := .sc _) rfl) trivial (p_step rfl (e_ne rfl rfl) trivial (p_end (hK3 _ ?_)))); clear hK3 K3;refine pwp_seq_cond rfl fun K4 hK4 => ⟨fun hb5 => ?_, fun hb5 => ?_⟩
 ·have hb5R := hb5; simp only [z1, z2, z3, z4, z5, z6, ne_eq, z7, z8, z9, z10, z11, z12] at hb5;refine pwp_seq_plain rfl fun K6 hK6 => p_step rfl (e_move (v := .sc _) rfl) trivial (p_step rfl (e_assign (v := .sc _) rfl) trivial (p_step rfl (e_assign (v := .sc _) rfl) trivial (p_end (hK6 _ ?_)))); clear hK6 K6;refine pwp_ret (ret_seq (end2 (v := .sc _) (w := .sc _) rfl rfl ?_));exact out_2 (out_i (totW_1 (by assumption))) (out_i rfl)
 have hb5R := hb5; simp only [z1, z2, z3, z4, z5, z6, ne_eq, z7, z8, z9, z10, z11, z12] at hb5; have hok := stockE_ok hb5;refine pwp_skip (seq_norm (hK4 _ ?_)); clear hK4 K4;refine pwp_seq_plain rfl fun K7 hK7 => p_step rfl (e_assign (v := .sc _) rfl) trivial (p_end (hK7 _ ?_)); clear hK7 K7;refine pwp_seq_seq (pwp_seq_plain rfl fun K8 hK8 => p_step rfl (e_move (v := .lit _ _ _) rfl) trivial (p_step rfl (e_len rfl (by kernel_rfl)) trivial (p_step rfl (e_move (v := .sc _) rfl) trivial (p_end (hK8 _ ?_))))); clear hK8 K8;refine pwp_seq_block fun K9 hK9 => pwp_loopR (α := Nat × Int) [1, 15, 16] (fun (a10 : Nat × Int) => [(7, .int (a10.2)), (17, .int (a10.1))]) (fun (a10 : Nat × Int) (h : Heap) (_ : Nat → Nat) => ((a10.1) ≤ xs.length) ∧ (totS p 0 xs = totS p (a10.2) (xs.drop (a10.1))) ∧ (0 ≤ (a10.2) ∧ (a10.2) ≤ 1000000 * ((a10.1) : Int))) (fun (a10 : Nat × Int) => xs.length - (a10.1)) (0, 0) (by exact ⟨rfl, rfl, trivial⟩) (by exact ⟨by exact Nat.zero_le _, by exact rfl, by exact ⟨Int.le_refl _, by simp⟩⟩) fun a10 r11 h12 c13 hj14 => ?_;obtain ⟨k, s⟩ := a10;obtain ⟨hk, hinv, hb⟩ := hj14;try dsimp only at hk
 try dsimp only at hinv
 try dsimp only at hb
 show pwp _ _ (loopQ _ _ _) ⟨sets (mix _ _ _) [(7, .int s), (17, .int k)], _, _⟩;refine pwp_seq_plain rfl fun K15 hK15 => p_step rfl (e_lt rfl rfl) trivial (p_end (hK15 _ ?_)); clear hK15 K15;refine pwp_seq_cond rfl fun K16 hK16 => ⟨fun hb17 => ?_, fun hb17 => ?_⟩
 ·have hb17R := hb17; simp only [z1, z2, z3, z4, z5, z6, ne_eq, z7, z8, z9, z10, z11, z12] at hb17;obtain ⟨x, hx, hd, ht⟩ := get_lt (xs := xs) (i := k) (by omega);rw [hd] at hinv;have hxm := (hok.2 x (List.mem_of_getElem? hx)).2.2;refine pwp_skip (seq_norm (hK16 _ ?_)); clear hK16 K16;refine pwp_seq_block fun K18 hK18 => pwp_seq_plain rfl fun K19 hK19 => p_step rfl (e_ixa rfl rfl (by kernel_rfl) (by kernel_rfl) (by simp only [lM]; omega)) trivial (p_step rfl (e_loadA (n := 4) rfl (by kernel_rfl) (by kernel_rfl) (by kernel_rfl) (by simp only [lM]; omega) (by decide) (by first | exact agg_map hx rfl)) trivial (p_new rfl (e_alloc (cs := [.str ByteArray.empty, .int 0, .int 0, .int 0]) (n := 4) (by kernel_rfl) rfl (by decide)) (ob_alloc (by decide)) (p_store rfl (e_storeA rfl (hset_self _ _ _) rfl rfl rfl (by kernel_rfl) rfl (by kernel_rfl)) trivial (p_end (hK19 _ ?_))))); clear hK19 K19;refine pwp_seq_plain rfl fun K20 hK20 => p_step rfl (e_faP (pl := [(0, 1, false), (1, 1, false), (2, 1, false), (3, 1, false)]) rfl (by kernel_rfl) (by kernel_rfl) (by decide) rfl) trivial (p_step rfl (e_loadH (v := .sc _) rfl (hset_self _ _ _) (by kernel_rfl) (by kernel_rfl) (by kernel_rfl) (by exact Nat.zero_lt_one) (by decide) rfl) trivial (p_step rfl (e_move (v := .sc _) rfl) trivial (p_step rfl (e_seq rfl rfl) trivial (p_end (hK20 _ ?_))))); clear hK20 K20;refine pwp_cond rfl (fun hb21 => ?_) (fun hb21 => ?_)
  ·have hb21R := hb21; simp only [z1, z2, z3, z4, z5, z6, ne_eq, z7, z8, z9, z10, z11, z12] at hb21;refine pwp_plain rfl fun K22 hK22 => p_step rfl (e_move (v := .sc _) rfl) trivial (p_step rfl (e_faP (pl := [(0, 1, false), (1, 1, false), (2, 1, false), (3, 1, false)]) rfl (by kernel_rfl) (by kernel_rfl) (by decide) rfl) trivial (p_step rfl (e_loadH (v := .sc _) rfl (hset_self _ _ _) (by kernel_rfl) (by kernel_rfl) (by kernel_rfl) (by exact Nat.zero_lt_one) (by decide) rfl) trivial (p_step rfl (e_add rfl rfl (by omega)) trivial (p_step rfl (e_assign (v := .sc _) rfl) trivial (p_end (hK22 _ ?_)))))); clear hK22 K22;refine block_norm (seq_norm (hK18 _ ?_)); clear hK18 K18;refine pwp_plain rfl fun K23 hK23 => p_step rfl (e_add rfl rfl (by omega)) trivial (p_step rfl (e_move (v := .sc _) rfl) trivial (p_end (hK23 _ ?_))); clear hK23 K23;exact loop_again ((k + 1, (s + x.count))) (by show _ < _; simp only; omega) ⟨rfl, rfl, rfl, trivial⟩ ⟨rfl, rfl, trivial⟩ (by exact ⟨by show _ + 1 ≤ _; omega, by first | exact tot_t hinv (by assumption) | exact tot_f hinv (by assumption), by first | (show 0 ≤ s + x.count ∧ s + x.count ≤ 1000000 * ((k + 1 : Nat) : Int); omega) | (show 0 ≤ s ∧ s ≤ 1000000 * ((k + 1 : Nat) : Int); omega)⟩)
  have hb21R := hb21; simp only [z1, z2, z3, z4, z5, z6, ne_eq, z7, z8, z9, z10, z11, z12] at hb21;refine pwp_skip (block_norm (seq_norm (hK18 _ ?_))); clear hK18 K18;refine pwp_plain rfl fun K24 hK24 => p_step rfl (e_add rfl rfl (by omega)) trivial (p_step rfl (e_move (v := .sc _) rfl) trivial (p_end (hK24 _ ?_))); clear hK24 K24;exact loop_again ((k + 1, s)) (by show _ < _; simp only; omega) ⟨rfl, rfl, rfl, trivial⟩ ⟨rfl, rfl, trivial⟩ (by exact ⟨by show _ + 1 ≤ _; omega, by first | exact tot_t hinv (by assumption) | exact tot_f hinv (by assumption), by first | (show 0 ≤ s + x.count ∧ s + x.count ≤ 1000000 * ((k + 1 : Nat) : Int); omega) | (show 0 ≤ s ∧ s ≤ 1000000 * ((k + 1 : Nat) : Int); omega)⟩)
 have hb17R := hb17; simp only [z1, z2, z3, z4, z5, z6, ne_eq, z7, z8, z9, z10, z11, z12] at hb17;obtain rfl : k = xs.length := by omega
 rw [List.drop_length] at hinv; simp only [totS] at hinv;refine pwp_exit (exit_seq ?_);clear hK16 K16;refine exit_loop (exit_here (seq_norm (hK9 _ ?_))); clear hK9 K9;refine pwp_seq_plain rfl fun K25 hK25 => p_step rfl (e_move (v := .sc _) rfl) trivial (p_step rfl (e_assign (v := .sc _) rfl) trivial (p_step rfl (e_assign (v := .sc _) rfl) trivial (p_end (hK25 _ ?_)))); clear hK25 K25;refine pwp_ret (end2 (v := .sc _) (w := .sc _) rfl rfl ?_);exact out_2 (out_i (totW_2 (by assumption) hinv.symm)) (out_i (by omega))
end Go.Proofs.YtjihcgcbnbaclaaGreatDoor.Y8
