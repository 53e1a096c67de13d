import Derived.Test.YtmlhhdiomijpfaaGreatDoorEBkw
import Derived.KernelRfl
set_option linter.unusedSimpArgs false
set_option linter.unusedVariables false
namespace Go.Proofs.YtmlhhdiomijpfaaGreatDoor.E7
open Go Go.Pv Go.Proofs.YtmlhhdiomijpfaaGreatDoor
set_option maxRecDepth 100000
def intsOf : Pv.Rows → Option (List Int)
 | [] => some []
 | [.sc (.int .i64 a)] :: l => match intsOf l with | some xs => some (a :: xs) | none => none
 | _ => none
theorem intsOf_ok : ∀ {rows : Pv.Rows} {xs : List Int}, intsOf rows = some xs → rows = xs.map fun x => [.int x]
 | [], xs, h => by cases h; rfl
 | row :: l, xs, h => by
   unfold intsOf at h;split at h
   · rename_i heq; cases heq
   · rename_i a l' heq;split at h
     · rename_i ys hy;cases h;cases heq;rw [intsOf_ok hy]; rfl
     · cases h
   · cases h
def eqInts : List Int → List Int → Bool
 | [], [] => true
 | a :: l, b :: m => decide (a = b) && eqInts l m
 | _, _ => false
theorem eqInts_ok : ∀ {l m : List Int}, eqInts l m = true → l = m
 | [], [], _ => rfl
 | [], _ :: _, h => by cases h
 | _ :: _, [], h => by cases h
 | a :: l, b :: m, h => by
   simp only [eqInts, Bool.and_eq_true, decide_eq_true_eq] at h;rw [h.1, eqInts_ok h.2]
inductive Hd where
 | lit (t : Bool)
 | ref (k2 : Key) (off : Nat)
def Hd.pv (xs : List Int) : Hd → PV
 | .lit t => .lit t 1 (xs.map fun x => [.int x])
 | .ref k2 off => .ref k2 1 off xs.length
def Hd.eqB : Hd → Hd → Bool
 | .lit t, .lit t' => t == t'
 | .ref k2 off, .ref k2' off' => keyB k2 k2' && Nat.beq off off'
 | _, _ => false
theorem Hd.eqB_ok : ∀ {a b : Hd}, Hd.eqB a b = true → a = b
 | .lit t, .lit t', h => by simp [Hd.eqB] at h; rw [h]
 | .ref k2 off, .ref k2' off', h => by
   simp only [Hd.eqB, Bool.and_eq_true, keyB_iff, Nat.beq_eq] at h;rw [h.1, h.2]
 | .lit _, .ref _ _, h => by cases h
 | .ref _ _, .lit _, h => by cases h
theorem intsOf_get {rows : Pv.Rows} {xs : List Int} (h : intsOf rows = some xs) {i : Nat} (hi : i < xs.length) : rows[i]? = some [.int (xs.getD i 0)] := by
 rw [intsOf_ok h]; simp [List.getElem?_eq_getElem hi]
def heldI (k : Key) (h : HL) : Option (Hd × List Int) := match hGet h k with
 | some (.rows 1 [[.lit t 1 rows]]) => match intsOf rows with | some xs => some (.lit t, xs) | none => none
 | some (.rows 1 [[.ref k2 1 off len]]) => match hGet h k2 with
   | some (.rows 1 rs) => match intsOf ((rs.drop off).take len) with
     | some xs => bif Nat.ble (off + len) rs.length && Nat.beq xs.length len then some (.ref k2 off, xs) else none
     | none => none
   | _ => none
 | _ => none
theorem heldI_ok {k : Key} {h : HL} {a : Hd} {xs : List Int} (hh : heldI k h = some (a, xs)) : Held k (a.pv xs) xs (hGet h) := by
 unfold heldI at hh;split at hh
 · rename_i t' rows hk;split at hh
   · rename_i ys hy;cases hh;rw [intsOf_ok hy] at hk;exact ⟨hk, .inl ⟨_, rfl⟩⟩
   · cases hh
 · rename_i k2 off len hk;split at hh
   · rename_i rs hk2;split at hh
     · rename_i ys hy;cases hb : (Nat.ble (off + len) rs.length && Nat.beq ys.length len) with
       | false => rw [hb] at hh; cases hh
       | true =>
         rw [hb] at hh;cases hh;simp only [Bool.and_eq_true, Nat.beq_eq] at hb;obtain ⟨h1, h2⟩ := hb;have h1 := Nat.le_of_ble_eq_true h1;subst h2;refine ⟨hk, .inr ⟨k2, off, rs, rfl, hk2, h1, fun i hi => ?_⟩⟩;have := intsOf_get hy hi;rw [List.getElem?_take_of_lt hi, List.getElem?_drop] at this;exact this
     · cases hh
   · cases hh
 · cases hh
def chkI (k : Key) (a : Hd) (xs : List Int) (h : HL) : Bool := match heldI k h with
 | some (b, ys) => Hd.eqB a b && eqInts xs ys
 | none => false
theorem chkI_ok {k : Key} {a : Hd} {xs : List Int} {h : HL} (hh : chkI k a xs h = true) : Held k (a.pv xs) xs (hGet h) := by
 unfold chkI at hh;split at hh
 · rename_i b ys hk;simp only [Bool.and_eq_true] at hh;rw [Hd.eqB_ok hh.1, eqInts_ok hh.2];exact heldI_ok hk
 · cases hh
def iterI (fb : FuncId) (f : FuncId) (caps : List PV) (h : HL) : Option (List (List PV) × (HL → Bool)) := bif Nat.beq f fb then match caps with
 | [.ptr k 1 0 0] => match heldI k h with
   | some (a, xs) => bif Nat.ble xs.length 1000000 then some (bItems xs, chkI k a xs) else none
   | none => none
 | _ => none else none
theorem IterOK.weak {P : Program} {g : FuncId} {caps : List PV} {items : List (List PV)} {H1 H2 : Heap → Prop} (h : IterOK P g caps items H1) (hi : ∀ x, H2 x → H1 x) : IterOK P g caps items H2 :=
 ⟨h.1, fun E ws l J k1 k2 k3 k4 k5 k6 k7 k8 => h.2 E ws l J k1 k2 (hi _ k3) k4 k5 k6 k7 fun j row E1 us m1 m2 m3 m4 m5 m6 => by
   obtain ⟨fn, tmps, x, y, q1, q2⟩ := k8 j row E1 us m1 m2 m3 m4 m5 m6;exact ⟨fn, tmps, x, y, q1, q2.mono fun e w' ⟨p1, E2, p2, p3, p4, p5, p6, p7⟩ => ⟨p1, E2, p2, p3, p4, p5, hi _ p6, p7⟩⟩⟩
theorem iterI_ok (f : FuncId) (caps : List PV) (h : HL) (items : List (List PV)) (chk : HL → Bool) (hi : iterI 109 f caps h = some (items, chk)) : IterOK Tryz.prog f caps items (fun H => ∃ hl, H = hGet hl ∧ chk hl = true) := by
 unfold iterI at hi;cases hf : Nat.beq f 109 with
 | false => rw [hf] at hi; cases hi
 | true =>
   rw [hf] at hi;obtain rfl : f = 109 := Nat.eq_of_beq_eq_true hf;simp only [cond_true] at hi;split at hi
   · rename_i k;split at hi
     · rename_i a xs hk;cases hb : Nat.ble xs.length 1000000 with
       | false => rw [hb] at hi; cases hi
       | true =>
         rw [hb] at hi;cases hi;exact IterOK.weak (back_ok k (a.pv xs) xs (Nat.le_of_ble_eq_true hb)) fun x ⟨hl, h1, h2⟩ => h1 ▸ chkI_ok h2
     · cases hi
   · cases hi
def gl7 : List FuncId := [11, 35, 36, 37, 38, 39, 40, 65, 66, 67, 68, 69, 70, 71, 72, 73, 74, 75, 76, 107, 108, 109, 110, 111, 112, 151]
theorem frames7 : gl7.all (frameOK Tryz.prog) = true := by kernel_rfl
def goods7 : Goods := { ok := fun f => gl7.contains f, iter := iterI 109, light := fun f => inRange 67 3 f }
theorem goods7_ok : GoodsOK Tryz.prog goods7 := ⟨fun f hf => List.all_eq_true.1 frames7 f (List.contains_iff_mem.1 hf), (fun _ _ _ _ _ _ _ h => by cases h), iterI_ok⟩
def rig : PV := .str ⟨#[114, 105, 103, 103, 101, 114]⟩
def planRows : Pv.Rows := [[.str ⟨#[98, 97, 115, 101]⟩, rig, .int (-1), .int 0, .int 3, .nil],
 [.str ⟨#[112, 111, 115, 116]⟩, rig, .int (-1), .int 0, .int 10, .lit false 1 [[.int 0]]],
 [.str ⟨#[114, 97, 105, 108]⟩, rig, .int (-1), .int 1, .int 5, .lit false 1 [[.int 0]]],
 [.str ⟨#[100, 101, 99, 107]⟩, rig, .int (-1), .int 0, .int 6, .lit false 1 [[.int 1], [.int 2]]]]
theorem run36 : closedI Tryz.prog goods7 300 36 [] = some (.lit false 6 planRows) := by kernel_rfl
theorem run38 : closedI Tryz.prog goods7 300 38 [.lit true 6 planRows] = some (.tup [.int 19, .lit false 1 [[.int 0], [.int 1], [.int 3]], .int 0]) := by kernel_rfl
theorem run35 : closedI Tryz.prog goods7 300 35 [.lit true 6 planRows] = some (.tup [.lit false 1 [[.int 0], [.int 1], [.int 2], [.int 3]], .int 0]) := by kernel_rfl
theorem plan_c : PCalls Tryz.prog 36 [] (.lit false 6 planRows) := closed_calls mixed goods7_ok run36
theorem critical_c : PCalls Tryz.prog 38 [.lit true 6 planRows] (.tup [.int 19, .lit false 1 (([0, 1, 3] : List Int).map ci), .int 0]) := closed_calls mixed goods7_ok run38
theorem order_c : PCalls Tryz.prog 35 [.lit true 6 planRows] (.tup [.lit false 1 (([0, 1, 2, 3] : List Int).map ci), .int 0]) := closed_calls mixed goods7_ok run35
end Go.Proofs.YtmlhhdiomijpfaaGreatDoor.E7
