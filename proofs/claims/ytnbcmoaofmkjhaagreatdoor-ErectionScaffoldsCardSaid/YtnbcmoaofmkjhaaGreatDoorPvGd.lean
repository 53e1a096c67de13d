import Derived.Test.YtnbcmoaofmkjhaaGreatDoorPvGc
set_option linter.unusedSimpArgs false
set_option linter.unusedVariables false
namespace Go.Pv
open Go Go.RowKit
section
variable (P : Program)
def nilB {α : Type} : List α → Bool
 | [] => true
 | _ => false
theorem nilB_ok {α : Type} {l : List α} (h : nilB l = true) : l = [] := by cases l <;> first | rfl | cases h
def zKw (op : BinOp) (b : Int) : Bool :=
 match op with
 | .quo | .rem => b != 0
 | .shl | .shr => decide (0 ≤ b)
 | _ => true
def zLx (op : BinOp) (a b : ByteArray) : Bool :=
 match op with
 | .add => Nat.blt (a.size + b.size) (2 ^ 62)
 | .eql | .neq | .lss | .leq | .gtr | .geq => true
 | _ => false
def eqOkB (t : TypeId) (x y : PV) : Bool :=
 match x, y with
 | .sc (.bool _), .sc (.bool _) => zEO P t
 | .agg a, .agg b => !P.eqGuardType P.depth t && eqOk P 6 t (.agg a) (.agg b)
 | _, _ => false
def zLY (op : BinOp) (t : TypeId) (x y : PV) : Bool :=
 match x, y with
 | .sc (.int k _a), .sc (.int k' b) => match op with
   | .shl | .shr => zKw op b
   | op => decide (k = k') && zKw op b
 | .sc (.string a), .sc (.string b) => zLx op a b
 | x, y => match op with
   | .eql | .neq => eqOkB P t x y
   | _ => false
theorem zIE {op : BinOp} {k : IntKind} {a b : Int} (h : zKw op b = true) : (zCg op k a b).ob := by
 cases op <;> simp_all [zKw, zCg, Eff.val]
theorem strOkB_ok {op : BinOp} {a b : ByteArray} (h : zLx op a b = true) : (zG8 op a b).ob := by
 cases op <;> simp_all [zLx, zG8, Eff.val, Nat.blt_eq]
theorem eqOkB_ok {t : TypeId} {x y : PV} {n : Bool} (h : eqOkB P t x y = true) : (eqBin P n t x y).ob := by
 unfold eqOkB at h; split at h
 · exact h
 · simp only [Bool.and_eq_true, Bool.not_eq_true'] at h; exact h
 · cases h
theorem binOkB_ok {op : BinOp} {t : TypeId} {x y : PV} (h : zLY P op t x y = true) : (zBQ P op t x y).ob := by
 unfold zLY at h;split at h
 · unfold zBQ;cases op <;> simp only [Bool.and_eq_true, decide_eq_true_eq] at h <;> first | exact ⟨h.1, zIE h.2⟩ | exact zIE h
 · exact strOkB_ok h
 · rename_i h1 h2;unfold zBQ;split
   · exact (h1 _ _ _ _ rfl rfl).elim
   · exact (h2 _ _ rfl rfl).elim
   · cases op <;> first | cases h; done | exact eqOkB_ok P h
def zKv (op : BinOp) (t : TypeId) (n : Bool) : Bool :=
 match op with
 | .eql | .neq => n && zCv P t
 | _ => false
theorem zIv {op : BinOp} {t : TypeId} {n : Bool} (h : zKv P op t n = true) : (zHU P op t n).ob := by
 unfold zKv at h;split at h
 · simp only [Bool.and_eq_true] at h; exact h
 · simp only [Bool.and_eq_true] at h; exact h
 · cases h
def zKg (op : BinOp) (t : TypeId) (n : Bool) (x y : PV) : Bool :=
 match x with
 | .lit _ _ (_ :: _) => zKv P op t n
 | .ref _ _ _ (_ + 1) => zKv P op t n
 | x => zLY P op t x y
theorem binNOkB_ok {op : BinOp} {t : TypeId} {n : Bool} {x y : PV} (h : zKg P op t n x y = true) : (zBl P op t n x y).ob := by
 unfold zKg at h;split at h
 · exact zIv P h
 · exact zIv P h
 · rename_i h1 h2;unfold zBl;split
   · exact (h1 _ _ _ _ rfl).elim
   · exact (h2 _ _ _ _ rfl).elim
   · exact binOkB_ok P h
def unOkB (op : UnOp) (x : PV) : Bool :=
 match op, x with
 | .neg, .sc (.int _ _) => true
 | .not, .sc (.bool _) => true
 | _, _ => false
theorem unOkB_ok {op : UnOp} {x : PV} (h : unOkB op x = true) : (unEff op x).ob := by
 unfold unOkB at h; split at h <;> first | trivial | cases h
def zKb (hp : Heap) (src dst : TypeId) (x : PV) : Bool :=
 match x with
 | .sc (.int _ _) => (zBm P dst).isSome && (P.underlying src).isSome
 | .sc (.string _) => if zAW P dst then (P.underlying src).isSome else zAN P dst && (zBm P (zAu P dst) == some .u8) && zAW P src
 | .ref k _ off n => match hp k with
   | some (.rows 1 rs) => match zGk rs off n with
     | some _ => zAN P src && (zBm P (zAu P src) == some .u8) && zAW P dst && Nat.ble 1 n
     | none => false
   | _ => false
 | _ => false
theorem convOkB_ok {hp : Heap} {s d : TypeId} {x : PV} (h : zKb P hp s d x = true) : (zDE P hp s d x).ob := by
 unfold zKb at h; unfold zDE zEw;split at h
 · simp only [Bool.and_eq_true] at h;cases hk : zBm P d with
   | none => rw [hk] at h; cases h.1
   | some k => exact h.2
 · simp only;split at h
   · rename_i hd; rw [if_pos hd]; exact h
   · rename_i hd; rw [if_neg hd];simp only [Bool.and_eq_true] at h;rw [if_pos (by simp only [Bool.and_eq_true]; exact h.1)];exact h.2
 · simp only;split at h
   · rename_i hq; simp only [hq];split at h
     · rename_i hq2; simp only [hq2]; exact h
     · cases h
   · cases h
 · cases h
def ltB (a b : Nat) : Bool := Nat.blt a b
def leB (a b : Nat) : Bool := Nat.ble a b
theorem zEM {a b : Nat} : ltB a b = true ↔ a < b := by simp [ltB, Nat.blt_eq]
theorem zFx {a b : Nat} : leB a b = true ↔ a ≤ b := by simp [leB]
def zHs (h : Heap) (t : TypeId) (a : PV) : Bool :=
 match a with
 | .ptr k _ i j => match h k with
   | some (.rows sz rs) => ltB i rs.length && (leB (j + zAr P t) sz && tyOk P t)
   | _ => false
 | .lptr _ sz rs i j => ltB i rs.length && (leB (j + zAr P t) sz && tyOk P t)
 | _ => false
theorem zHr {h : Heap} {t : TypeId} {a : PV} (hb : zHs P h t a = true) : (zBK P h t a).ob := by
 unfold zHs at hb; unfold zBK;split at hb
 · simp only;split at hb
   · rename_i hq; simp only [hq]; simp only [Bool.and_eq_true, zEM, zFx] at hb; exact hb
   · cases hb
 · simp only [Bool.and_eq_true, zEM, zFx] at hb; exact hb
 · cases hb
def zHJ (h : Heap) (t : TypeId) (a v : PV) : Bool :=
 match a with
 | .ptr k _ i j => match h k with
   | some (.rows sz rs) => ltB i rs.length && (leB (j + zAr P t) sz && (Nat.beq (zBf v).length (zAr P t) && ((zBf v).all PV.cell && tyOk P t)))
   | _ => false
 | _ => false
theorem storeOkB_ok {h : Heap} {t : TypeId} {a v : PV} (hb : zHJ P h t a v = true) : (zCw P h t a v).ob := by
 unfold zHJ at hb; unfold zCw;split at hb
 · simp only;split at hb
   · rename_i hq; simp only [hq]; simp only [Bool.and_eq_true, zEM, zFx, Nat.beq_eq] at hb; exact hb
   · cases hb
 · cases hb
def zG4 (cs : List PV) : Bool := cs.all PV.cell && !nilB cs
theorem zGn {key : Key} {cs : List PV} (h : zG4 cs = true) : (zDI key cs).ob := by
 simp only [zG4, Bool.and_eq_true, Bool.not_eq_true'] at h;refine ⟨h.1, ?_⟩;cases cs with
 | nil => cases h.2
 | cons => simp
def zIR (pl : List (Nat × Nat × Bool)) (n : Nat) : List (Nat × PV) → Bool
 | [] => true
 | (i, v) :: rest => ltB i pl.length && (Nat.beq (zBf v).length (pl.getD i (0, 0, false)).2.1 && (leB ((pl.getD i (0, 0, false)).1 + (zBf v).length) n && ((zBf v).all PV.cell && zIR pl n rest)))
theorem zHz {pl : List (Nat × Nat × Bool)} {n : Nat} : ∀ {l : List (Nat × PV)}, zIR pl n l = true → zI8 pl n l
 | [], _ => trivial
 | (i, v) :: rest, h => by
   simp only [zIR, Bool.and_eq_true, zEM, zFx, Nat.beq_eq] at h;exact ⟨h.1, h.2.1, h.2.2.1, h.2.2.2.1, zHz h.2.2.2.2⟩
def zH7 (t : TypeId) (parts : List (Nat × PV)) : Bool :=
 match zAT P t with
 | some z => (zBG P t || (arrOk P t).isSome) && (z.all PV.cell && zIR (zBp P t) z.length parts)
 | none => false
theorem buildOkB_ok {t : TypeId} {parts : List (Nat × PV)} (h : zH7 P t parts = true) : (zDf P t parts).ob := by
 unfold zH7 at h; unfold zDf;split at h
 · rename_i hq; simp only [hq]; simp only [Bool.and_eq_true, Bool.or_eq_true] at h;exact ⟨h.1, h.2.1, zHz h.2.2⟩
 · cases h
def zDQ (n sz : Nat) : List (Nat × PV) → Bool
 | [] => true
 | (i, v) :: rest => ltB i n && (Nat.beq (zBf v).length sz && ((zBf v).all PV.cell && zDQ n sz rest))
theorem zEt {n sz : Nat} : ∀ {l : List (Nat × PV)}, zDQ n sz l = true → zCW n sz l
 | [], _ => trivial
 | (i, v) :: rest, h => by
   simp only [zDQ, Bool.and_eq_true, zEM, Nat.beq_eq] at h;exact ⟨h.1, h.2.1, h.2.2.1, zEt h.2.2.2⟩
def zDG (t : TypeId) (n : Nat) (parts : List (Nat × PV)) : Bool :=
 match zAT P (zAu P t) with
 | some z => zAN P t && (Nat.beq z.length (zAr P (zAu P t)) && (leB (n * zAr P (zAu P t)) (2 ^ 24) && (z.all PV.cell && zDQ n z.length parts)))
 | none => false
theorem buildSliceOkB_ok {key : Key} {t : TypeId} {n : Nat} {parts : List (Nat × PV)} (h : zDG P t n parts = true) : (zBP P key t n parts).ob := by
 unfold zDG at h; unfold zBP;split at h
 · rename_i hq; simp only [hq]; simp only [Bool.and_eq_true, zFx, Nat.beq_eq] at h;exact ⟨h.1, h.2.1, h.2.2.1, h.2.2.2.1, zEt h.2.2.2.2⟩
 · cases h
def zD6 (t : TypeId) (l c : PV) : Bool :=
 match l, c with
 | .sc (.int _ L), .sc (.int _ C) => match zAT P (zAu P t) with
   | some z => zAN P t && (Nat.beq z.length (zAr P (zAu P t)) && (z.all PV.cell && (decide (0 ≤ L) && (decide (L ≤ C) && (decide (C < 2 ^ 32) && ltB (P.bytesOf (zAu P t)) (2 ^ 15))))))
   | none => false
 | _, _ => false
theorem makeSliceOkB_ok {key : Key} {t : TypeId} {l c : PV} (h : zD6 P t l c = true) : (zBJ P key t l c).ob := by
 unfold zD6 at h; unfold zBJ;split at h
 · simp only;split at h
   · rename_i hq; simp only [hq]; simp only [Bool.and_eq_true, zEM, Nat.beq_eq, decide_eq_true_eq] at h; exact h
   · cases h
 · cases h
def zHL (t : TypeId) (x : PV) (lo hi mx : Option PV) : Bool :=
 match x, mx with
 | .sc (.string s), none => match bound lo (some 0), bound hi (some s.size) with
   | some l, some h => zAW P t && (decide (0 ≤ l) && (decide (l ≤ h) && decide (h ≤ s.size)))
   | _, _ => false
 | .lit _ sz rs, none => match bound lo (some 0), bound hi (some rs.length) with
   | some l, some h => zAN P t && (Nat.beq (zAr P (zAu P t)) sz && (decide (0 ≤ l) && (decide (l ≤ h) && decide (h ≤ rs.length))))
   | _, _ => false
 | .ref _ sz _ len, none => match bound lo (some 0), bound hi (some len) with
   | some l, some h => zAN P t && (Nat.beq (zAr P (zAu P t)) sz && (decide (0 ≤ l) && (decide (l ≤ h) && decide (h ≤ len))))
   | _, _ => false
 | .nil, none => match bound lo (some 0), bound hi (some 0) with
   | some l, some h => zAN P t && (decide (l = 0) && decide (h = 0))
   | _, _ => false
 | _, _ => false
theorem sliceOkB_ok {t : TypeId} {x : PV} {lo hi mx : Option PV} (hb : zHL P t x lo hi mx = true) : (zDr P t x lo hi mx).ob := by
 unfold zHL at hb;split at hb
 all_goals first
   | cases hb; done
   | (unfold zDr
      simp only;split at hb
      · rename_i hq1 hq2; simp only [hq1, hq2]; simp only [Bool.and_eq_true, Nat.beq_eq, decide_eq_true_eq] at hb; exact hb
      · cases hb)
def zEe (t : TypeId) (x : PV) (f : Nat) : Bool :=
 match x with
 | .ptr .. | .lptr .. => zBG P t && ltB f (zBp P t).length
 | _ => false
theorem fieldAddrOkB_ok {t : TypeId} {x : PV} {f : Nat} (h : zEe P t x f = true) : (zBO P t x f).ob := by
 unfold zEe at h; unfold zBO;split at h
 · simp only [Bool.and_eq_true, zEM] at h; exact h
 · simp only [Bool.and_eq_true, zEM] at h; exact h
 · cases h
def zH0 (t : TypeId) (x : PV) (f : Nat) : Bool :=
 match x with
 | .agg cs => zBG P t && (ltB f (zBp P t).length && leB (((zBp P t).getD f (0, 0, false)).1 + ((zBp P t).getD f (0, 0, false)).2.1) cs.length)
 | _ => false
theorem fieldOkB_ok {t : TypeId} {x : PV} {f : Nat} (h : zH0 P t x f = true) : (zEd P t x f).ob := by
 unfold zH0 at h; unfold zEd;split at h
 · simp only [Bool.and_eq_true, zEM, zFx] at h; exact h
 · cases h
def zD9 (t : TypeId) (x ix : PV) : Bool :=
 match ix with
 | .sc (.int _ i) =>
   match x with
   | .lit _ sz rs => zAN P t && (Nat.beq (zAr P (zAu P t)) sz && (decide (0 ≤ i) && decide (i < rs.length)))
   | .ref _ sz _ len => zAN P t && (Nat.beq (zAr P (zAu P t)) sz && (decide (0 ≤ i) && decide (i < len)))
   | .ptr .. => match arrOk P t with
     | some (n, _) => decide (0 ≤ i) && decide (i < n)
     | none => false
   | .lptr .. => match arrOk P t with
     | some (n, _) => decide (0 ≤ i) && decide (i < n)
     | none => false
   | _ => false
 | _ => false
theorem indexAddrOkB_ok {t : TypeId} {x ix : PV} (h : zD9 P t x ix = true) : (zBu P t x ix).ob := by
 unfold zD9 at h; unfold zBu;split at h
 · simp only;split at h
   · simp only [Bool.and_eq_true, Nat.beq_eq, decide_eq_true_eq] at h; exact h
   · simp only [Bool.and_eq_true, Nat.beq_eq, decide_eq_true_eq] at h; exact h
   · simp only;split at h
     · rename_i hq; simp only [hq]; simp only [Bool.and_eq_true, decide_eq_true_eq] at h; exact h
     · cases h
   · simp only;split at h
     · rename_i hq; simp only [hq]; simp only [Bool.and_eq_true, decide_eq_true_eq] at h; exact h
     · cases h
   · cases h
 · cases h
def zHX (t : TypeId) (x ix : PV) : Bool :=
 match ix with
 | .sc (.int _ i) =>
   match x with
   | .sc (.string s) => zAW P t && (decide (0 ≤ i) && decide (i < s.size))
   | .agg cs => match arrOk P t with
     | some (n, e) => decide (0 ≤ i) && (decide (i < n) && Nat.beq cs.length (n * zAr P e))
     | none => false
   | _ => false
 | _ => false
theorem indexOkB_ok {t : TypeId} {x ix : PV} (h : zHX P t x ix = true) : (zDz P t x ix).ob := by
 unfold zHX at h; unfold zDz;split at h
 · simp only;split at h
   · simp only [Bool.and_eq_true, decide_eq_true_eq] at h; exact h
   · simp only;split at h
     · rename_i hq; simp only [hq]; simp only [Bool.and_eq_true, Nat.beq_eq, decide_eq_true_eq] at h; exact h
     · cases h
   · cases h
 · cases h
def zI2 (kt : TypeId) : PV → Bool
 | .sc (.int k _) => zBm P kt == some k
 | .sc (.string _) => zAW P kt
 | .agg cs => zI3 P kt cs
 | _ => false
theorem zFg {kt : TypeId} {p : PV} (h : zI2 P kt p = true) : keyOk P kt p := by
 unfold zI2 at h; split at h
 · exact eq_of_beq h
 · exact h
 · exact h
 · cases h
def zHP (h : Heap) (t : TypeId) (x : PV) : Bool := false && hasBody P 0
theorem rangeOkB_ok {h : Heap} {key : Key} {t : TypeId} {x : PV} (hb : zHP P h t x = true) : (zGu P h key t x).ob := by simp [zHP] at hb
def zLa (h : Heap) (x : PV) (s : Bool) : Bool := false
theorem nextOkB_ok {h : Heap} {x : PV} {s : Bool} (hb : zLa h x s = true) : (zIw h x s).ob := by cases hb
def zJ7 (h : Heap) (x : PV) : Bool := false
theorem entryOkB_ok {h : Heap} {x : PV} (hb : zJ7 h x = true) : (zGU h x).ob := by cases hb
def zGG (h : Heap) (t : TypeId) (m k : PV) : Bool :=
 match mapTy P t with
 | some (kt, et) => match m with
   | .map key => match h key with
     | some (.map es _ _) => zI2 P kt k && (es.all (fun e => zI2 P kt e.1) && zF1 P et)
     | _ => false
   | _ => false
 | none => false
theorem lookupOkB_ok {h : Heap} {t : TypeId} {m k : PV} {ok : Bool} (hb : zGG P h t m k = true) : (zBv P h t m k ok).ob := by
 unfold zGG at hb; unfold zBv;split at hb
 · rename_i hq; simp only [hq];split at hb
   · simp only;split at hb
     · rename_i hq; simp only [hq]; simp only [Bool.and_eq_true, List.all_eq_true] at hb;exact ⟨zFg P hb.1, fun e he => zFg P (hb.2.1 e he), hb.2.2⟩
     · cases hb
   · cases hb
 · cases hb
def zD4 (h : Heap) (t : TypeId) (m k v : PV) : Bool :=
 match mapTy P t with
 | some (kt, _) => match m with
   | .map key => match h key with
     | some (.map es _ _) => zI2 P kt k && (es.all (fun e => zI2 P kt e.1) && mval v)
     | _ => false
   | _ => false
 | none => false
theorem mapUpdateOkB_ok {h : Heap} {t : TypeId} {m k v : PV} (hb : zD4 P h t m k v = true) : (zBI P h t m k v).ob := by
 unfold zD4 at hb; unfold zBI;split at hb
 · rename_i hq; simp only [hq];split at hb
   · simp only;split at hb
     · rename_i hq; simp only [hq]; simp only [Bool.and_eq_true, List.all_eq_true] at hb;exact ⟨zFg P hb.1, fun e he => zFg P (hb.2.1 e he), hb.2.2⟩
     · cases hb
   · cases hb
 · cases hb
def zEK (h : Heap) (t : TypeId) (m k : PV) : Bool := false && hasBody P 0
theorem mapEntryOkB_ok {h : Heap} {t : TypeId} {m k : PV} (hb : zEK P h t m k = true) : (zBE P h t m k).ob := by simp [zEK] at hb
def zE6 (h : Heap) (m s v : PV) : Bool := false
theorem entryStoreOkB_ok {h : Heap} {m s v : PV} (hb : zE6 h m s v = true) : (zCK h m s v).ob := by cases hb
def zFL (x : PV) (i : Nat) : Bool :=
 match x with
 | .tup vs => ltB i vs.length
 | _ => false
theorem extractOkB_ok {x : PV} {i : Nat} (h : zFL x i = true) : (zCB x i).ob := by
 unfold zFL at h; unfold zCB;split at h
 · exact zEM.1 h
 · cases h
def zLJ (h : Heap) (t : TypeId) (x : PV) : Bool :=
 match x with
 | .sc (.string _) => zAW P t
 | .nil | .lit .. | .ref .. => zAN P t
 | .map key => match h key with
   | some (.map _ _ _) => (mapTy P t).isSome
   | _ => false
 | _ => false
theorem lenOkB_ok {h : Heap} {t : TypeId} {x : PV} (hb : zLJ P h t x = true) : (zEN P h t x).ob := by
 unfold zLJ at hb; unfold zEN;split at hb
 · exact hb
 · exact hb
 · exact hb
 · exact hb
 · simp only;split at hb
   · rename_i hq; simp only [hq]; exact hb
   · cases hb
 · cases hb
def zLz (h : Heap) (sz : Nat) : PV → Bool
 | .nil => true
 | .lit _ sz' _ => Nat.beq sz' sz
 | .ref k sz' off len => match h k with
   | some (.rows _ rs) => Nat.beq sz' sz && leB (off + len) rs.length
   | _ => false
 | .sc (.string _) => Nat.beq sz 1
 | _ => false
theorem zGq {h : Heap} {sz : Nat} {x : PV} (hb : zLz h sz x = true) : (zAU h sz x).1 := by
 unfold zLz at hb; unfold zAU;split at hb
 · trivial
 · exact Nat.eq_of_beq_eq_true hb
 · simp only;split at hb
   · rename_i hq; simp only [hq]; simp only [Bool.and_eq_true, Nat.beq_eq, zFx] at hb; exact hb
   · cases hb
 · exact Nat.eq_of_beq_eq_true hb
 · cases hb
def zG2 (h : Heap) (t t2 : TypeId) (s x : PV) : Bool :=
 let e := zAu P t
 (zAN P t && (ltB (P.bytesOf e) (2 ^ 15) && ((zBm P t2).isNone && (zEg P e && (P.underlying t2).isSome)))) && (zLz h (zAr P e) x &&
 match s with
 | .nil => (zAU h (zAr P e) x).2.1.isEmpty || ltB (zAU h (zAr P e) x).2.1.length (2 ^ 32)
 | .ref k sz off len => match h k with
   | some (.rows _ rs) => Nat.beq sz (zAr P e) && (leB (off + len) rs.length && ltB (len + (zAU h (zAr P e) x).2.1.length) (2 ^ 32))
   | _ => false
 | _ => false)
theorem appendOkB_ok {h : Heap} {key : Key} {t t2 : TypeId} {s x : PV} (hb : zG2 P h t t2 s x = true) : (zA3 P h key t t2 s x).ob := by
 unfold zG2 at hb;simp only [Bool.and_eq_true, zEM, Option.isNone_iff_eq_none] at hb;obtain ⟨h1, h2, h3⟩ := hb;unfold zA3;split at h3
 · simp only [Bool.or_eq_true, zEM] at h3;simp only;cases hE : (zAU h (zAr P (zAu P t)) x).2.1.isEmpty with
   | true => exact ⟨h1, zGq h2⟩
   | false =>
     rw [hE] at h3;exact ⟨h1, zGq h2, (fun hn => by rw [hn] at hE; cases hE), h3.resolve_left (by simp)⟩
 · simp only;split at h3
   · rename_i hq; simp only [hq]; simp only [Bool.and_eq_true, zEM, zFx, Nat.beq_eq] at h3;exact ⟨h1, zGq h2, h3.1, h3.2.1, h3.2.2⟩
   · cases h3
 · cases h3
def zIA : PV → List PV → Bool
 | _, [] => true
 | .sc (.int k a), .sc (.int k' b) :: rest => decide (k = k') && zIA (.sc (.int k (max a b))) rest
 | _, _ => false
theorem zHn : ∀ {l : List PV} {v : PV}, zIA v l = true → (maxs v l).ob
 | [], _, _ => by unfold maxs; trivial
 | q :: rest, p, h => by
   unfold zIA at h;split at h
   · cases ‹_ :: _ = []›
   · rename_i hc; cases hc;simp only [Bool.and_eq_true, decide_eq_true_eq] at h;unfold maxs;exact ⟨h.1, zHn h.2⟩
   · cases h
def zIy : PV → List PV → Bool
 | _, [] => true
 | .sc (.int k a), .sc (.int k' b) :: rest => decide (k = k') && zIy (.sc (.int k (min a b))) rest
 | _, _ => false
theorem zHm : ∀ {l : List PV} {v : PV}, zIy v l = true → (mins v l).ob
 | [], _, _ => by unfold mins; trivial
 | q :: rest, p, h => by
   unfold zIy at h;split at h
   · cases ‹_ :: _ = []›
   · rename_i hc; cases hc;simp only [Bool.and_eq_true, decide_eq_true_eq] at h;unfold mins;exact ⟨h.1, zHm h.2⟩
   · cases h
def zD5 (h : Heap) (t : TypeId) (m k : PV) : Bool := false && hasBody P 0
theorem mapDeleteOkB_ok {h : Heap} {t : TypeId} {m k : PV} (hb : zD5 P h t m k = true) : (zC7 P h t m k).ob := by simp [zD5] at hb
def zKa (h : Heap) (t : TypeId) (s x : PV) : Bool := false && hasBody P 0
theorem copyOkB_ok {h : Heap} {t : TypeId} {s x : PV} (hb : zKa P h t s x = true) : (zIV P h t s x).ob := by simp [zKa] at hb
def zFR (h : Heap) (b : Builtin) (ts : List TypeId) (args : List PV) : Bool :=
 match b, ts, args with
 | .len, t :: _, x :: _ => zLJ P h t x
 | .append, t :: t2 :: _, s :: x :: _ => zG2 P h t t2 s x
 | .delete, t :: _, m :: k :: _ => zD5 P h t m k
 | .copy, t :: _, s :: x :: _ => zKa P h t s x
 | .max, _, x :: rest => zIA x rest
 | .min, _, x :: rest => zIy x rest
 | _, _, _ => false
theorem builtinOkB_ok {h : Heap} {key : Key} {b : Builtin} {ts : List TypeId} {args : List PV} (hb : zFR P h b ts args = true) : (zA9 P h key b ts args).ob := by
 unfold zFR at hb;split at hb
 · exact lenOkB_ok P hb
 · exact appendOkB_ok P hb
 · unfold zA9; exact mapDeleteOkB_ok P hb
 · unfold zA9; exact copyOkB_ok P hb
 · unfold zA9; exact zHn hb
 · unfold zA9; exact zHm hb
 · cases hb
def boolB : PV → Bool
 | .sc (.bool _) => true
 | _ => false
def ptrB : PV → Bool
 | .ptr .. | .lptr .. => true
 | _ => false
def okB (ρ : Operand → PV) (h : Heap) (o : Op) : Bool :=
 match o with
 | .move _ | .assign _ => true
 | .pick c _ _ => boolB (ρ c)
 | .alloc t => match zAT P t with | some z => zG4 z | none => false
 | .box _ v => zG4 (zBf (ρ v))
 | .build t parts => zH7 P t (parts.toList.map fun p => (p.1, ρ p.2))
 | .buildSlice t n parts => zDG P t n (parts.toList.map fun p => (p.1, ρ p.2))
 | .load t a => zHs P h t (ρ a)
 | .store t a v => zHJ P h t (ρ a) (ρ v)
 | .nilCheck x => ptrB (ρ x)
 | .binOp op t x y _ => zKg P op t (zHW y) (ρ x) (ρ y)
 | .unOp op _ x => unOkB op (ρ x)
 | .convert s d x => zKb P h s d (ρ x)
 | .makeFunc _ _ _ => true
 | .makeMap _ r => r.isNone
 | .range t x => zHP P h t (ρ x)
 | .next x s => zLa h (ρ x) s
 | .entry x => zJ7 h (ρ x)
 | .makeSlice t l c => zD6 P t (ρ l) (ρ c)
 | .slice t x lo hi mx => zHL P t (ρ x) (lo.map ρ) (hi.map ρ) (mx.map ρ)
 | .fieldAddr t x f => zEe P t (ρ x) f
 | .field t x f => zH0 P t (ρ x) f
 | .indexAddr t x i => zD9 P t (ρ x) (ρ i)
 | .index t x i => zHX P t (ρ x) (ρ i)
 | .lookup t m k _ => zGG P h t (ρ m) (ρ k)
 | .mapUpdate t m k v => zD4 P h t (ρ m) (ρ k) (ρ v)
 | .mapEntry t m k => zEK P h t (ρ m) (ρ k)
 | .entryStore _ m s v => zE6 h (ρ m) (ρ s) (ρ v)
 | .extract x i => zFL (ρ x) i
 | .call { callee := .builtin b, args, argTypes } => zFR P h b argTypes.toList (args.toList.map ρ)
 | _ => false
theorem zL7 {ρ : Operand → PV} {h : Heap} {key : Key} {o : Op} (hb : okB P ρ h o = true) : (eff P ρ h key o).ob := by
 unfold okB at hb;split at hb
 case h_3 =>
   unfold eff zE2 boolB at *;split at hb
   · rename_i hq; simp only [hq]
   · cases hb
 case h_4 =>
   unfold eff;split at hb
   · rename_i hq; simp only [hq]; exact zGn hb
   · cases hb
 all_goals unfold eff
 all_goals first
   | trivial
   | exact zGn hb
   | exact buildOkB_ok P hb
   | exact buildSliceOkB_ok P hb
   | exact zHr P hb
   | exact storeOkB_ok P hb
   | exact binNOkB_ok P hb
   | exact unOkB_ok hb
   | exact convOkB_ok P hb
   | exact makeSliceOkB_ok P hb
   | exact sliceOkB_ok P hb
   | exact fieldAddrOkB_ok P hb
   | exact fieldOkB_ok P hb
   | exact indexAddrOkB_ok P hb
   | exact indexOkB_ok P hb
   | exact rangeOkB_ok P hb
   | exact nextOkB_ok hb
   | exact entryOkB_ok hb
   | exact lookupOkB_ok P hb
   | exact mapUpdateOkB_ok P hb
   | exact mapEntryOkB_ok P hb
   | exact entryStoreOkB_ok hb
   | exact extractOkB_ok hb
   | exact builtinOkB_ok P hb
   | (cases hb; done)
   | skip
 · unfold ptrB at hb;split at hb
   · rename_i hq; simp only [hq]
   · rename_i hq; simp only [hq]
   · cases hb
end
end Go.Pv
namespace Go.Pv
open Go Go.RowKit
abbrev RL1 := List (Nat × PV)
abbrev RL := List (Nat × RL1)
abbrev HL := List (Key × PObj)
abbrev CL := List (Nat × Nat)
def rGet1 : RL1 → Nat → PV
 | [], _ => .dead
 | (i, v) :: l, t => bif Nat.beq i t then v else rGet1 l t
def rSet1 : RL1 → Nat → PV → RL1
 | [], t, v => [(t, v)]
 | (i, u) :: l, t, v => bif Nat.beq i t then (t, v) :: l else (i, u) :: rSet1 l t v
def bGet : RL → Nat → RL1
 | [], _ => []
 | (i, v) :: l, t => bif Nat.beq i t then v else bGet l t
def bSet : RL → Nat → RL1 → RL
 | [], t, v => [(t, v)]
 | (i, u) :: l, t, v => bif Nat.beq i t then (t, v) :: l else (i, u) :: bSet l t v
def rGet (l : RL) (t : Nat) : PV := rGet1 (bGet l (Nat.shiftRight t 4)) t
def rSet (l : RL) (t : Nat) (v : PV) : RL := bSet l (Nat.shiftRight t 4) (rSet1 (bGet l (Nat.shiftRight t 4)) t v)
def rPut (l : RL) (d : Option Nat) (v : PV) : RL := match d with | some t => rSet l t v | none => l
def keyB (a b : Key) : Bool := Nat.beq a.1 b.1 && Nat.beq a.2 b.2
def hGet : HL → Key → Option PObj
 | [], _ => none
 | (i, v) :: l, t => bif keyB i t then some v else hGet l t
def hDel : HL → Key → HL
 | [], _ => []
 | (i, u) :: l, t => bif keyB i t then hDel l t else (i, u) :: hDel l t
def hSet (l : HL) (k : Key) (o : Option PObj) : HL := match o with | some o => (k, o) :: hDel l k | none => hDel l k
def hWr (l : HL) (wr : List (Key × Option PObj)) : HL := wr.foldl (fun l p => hSet l p.1 p.2) l
def cGet : CL → Nat → Nat
 | [], _ => 0
 | (i, v) :: l, t => bif Nat.beq i t then v else cGet l t
def cBump (l : CL) (t : Nat) (b : Bool) : CL := bif b then (t, cGet l t + 1) :: l.filter (fun p => !Nat.beq p.1 t) else l
theorem zDx {a b : Key} : keyB a b = true ↔ a = b := by
 obtain ⟨a1, a2⟩ := a; obtain ⟨b1, b2⟩ := b;simp [keyB, Prod.ext_iff]
theorem zFB {a b : Key} : keyB a b = false ↔ a ≠ b := by
 rw [← Bool.not_eq_true, zDx]
theorem zBU {a b : Nat} : Nat.beq a b = false ↔ a ≠ b := by
 rw [← Bool.not_eq_true, Nat.beq_eq]
theorem rGet_rSet1 (l : RL1) (t : Nat) (v : PV) : rGet1 (rSet1 l t v) = fun i => if i = t then v else rGet1 l i := by
 funext i;induction l with
 | nil =>
   simp only [rSet1, rGet1];by_cases h : i = t
   · subst h; simp
   · have : Nat.beq t i = false := zBU.2 (fun e => h e.symm);simp [this, h]
 | cons p l ih =>
   obtain ⟨j, u⟩ := p;simp only [rSet1];cases hj : Nat.beq j t with
   | true =>
     have hj' : j = t := Nat.eq_of_beq_eq_true hj;subst hj';simp only [cond_true, rGet1];by_cases h : i = j
     · subst h; simp
     · have : Nat.beq j i = false := zBU.2 (fun e => h e.symm);simp [this, h]
   | false =>
     simp only [cond_false, rGet1];cases hi : Nat.beq j i with
     | true =>
       have hi' : j = i := Nat.eq_of_beq_eq_true hi;subst hi';have : j ≠ t := zBU.1 hj;simp [this]
     | false => simpa using ih
theorem bGet_bSet (l : RL) (t : Nat) (v : RL1) (i : Nat) : bGet (bSet l t v) i = if i = t then v else bGet l i := by
 induction l with
 | nil =>
   simp only [bSet, bGet];by_cases h : i = t
   · subst h; simp
   · have : Nat.beq t i = false := zBU.2 (fun e => h e.symm);simp [this, h]
 | cons p l ih =>
   obtain ⟨j, u⟩ := p;simp only [bSet];cases hj : Nat.beq j t with
   | true =>
     have hj' : j = t := Nat.eq_of_beq_eq_true hj;subst hj';simp only [cond_true, bGet];by_cases h : i = j
     · subst h; simp
     · have : Nat.beq j i = false := zBU.2 (fun e => h e.symm);simp [this, h]
   | false =>
     simp only [cond_false, bGet];cases hi : Nat.beq j i with
     | true =>
       have hi' : j = i := Nat.eq_of_beq_eq_true hi;subst hi';have : j ≠ t := zBU.1 hj;simp [this]
     | false => simpa using ih
theorem zIm (l : RL) (t : Nat) (v : PV) : rGet (rSet l t v) = fun i => if i = t then v else rGet l i := by
 funext i;unfold rGet rSet;rw [bGet_bSet];by_cases h : Nat.shiftRight i 4 = Nat.shiftRight t 4
 · rw [if_pos h, congrFun (rGet_rSet1 _ t v) i, h]
 · rw [if_neg h, if_neg (fun e => h (by rw [e]))]
theorem zFe (l : RL) (d : Option Nat) (v : PV) : rGet (rPut l d v) = putR (rGet l) d v := by
 cases d with
 | none => rfl
 | some t => exact zIm l t v
theorem zIH (l : HL) (k : Key) (i : Key) : hGet (hDel l k) i = if i = k then none else hGet l i := by
 induction l with
 | nil => simp [hDel, hGet]
 | cons p l ih =>
   obtain ⟨j, u⟩ := p;simp only [hDel];cases hj : keyB j k with
   | true =>
     have hj' : j = k := zDx.1 hj;subst hj';simp only [cond_true, ih, hGet];by_cases h : i = j
     · simp [h]
     · have : keyB j i = false := zFB.2 (fun e => h e.symm);simp [this, h]
   | false =>
     simp only [cond_false, hGet];cases hi : keyB j i with
     | true =>
       have hi' : j = i := zDx.1 hi;subst hi';have : j ≠ k := zFB.1 hj;simp [this]
     | false => simpa using ih
theorem hGet_hSet (l : HL) (k : Key) (o : Option PObj) : hGet (hSet l k o) = fun i => if i = k then o else hGet l i := by
 funext i;cases o with
 | none => exact zIH l k i
 | some o =>
   show hGet ((k, o) :: hDel l k) i = _;simp only [hGet, zIH];by_cases h : i = k
   · subst h;simp [zDx.2 rfl]
   · have : keyB k i = false := zFB.2 (fun e => h e.symm);simp [this, h]
theorem hGet_hWr (l : HL) (wr : List (Key × Option PObj)) : hGet (hWr l wr) = zAZ (hGet l) wr := by
 unfold hWr zAZ;induction wr generalizing l with
 | nil => rfl
 | cons p wr ih => simp only [List.foldl_cons]; rw [ih, hGet_hSet]
theorem cGet_filter (l : CL) (t i : Nat) (h : i ≠ t) : cGet (l.filter fun p => !Nat.beq p.1 t) i = cGet l i := by
 induction l with
 | nil => rfl
 | cons p l ih =>
   obtain ⟨j, u⟩ := p;cases hj : Nat.beq j t with
   | true =>
     have hj' : j = t := Nat.eq_of_beq_eq_true hj;subst hj';have : Nat.beq j i = false := zBU.2 (fun e => h e.symm);simp [cGet, this, ih]
   | false =>
     simp only [List.filter_cons, hj, Bool.not_false, if_true, cGet, ih]
theorem cGet_cBump (l : CL) (t : Nat) (b : Bool) : cGet (cBump l t b) = bumpC (cGet l) t b := by
 cases b with
 | false => rfl
 | true =>
   funext i;simp only [cBump, cond_true, cGet, bumpC, if_true];by_cases h : i = t
   · subst h; simp
   · have : Nat.beq t i = false := zBU.2 (fun e => h e.symm);simp [this, h, cGet_filter]
structure IS where
 r : RL
 h : HL
 c : CL
def IS.abs (s : IS) : PS := ⟨rGet s.r, hGet s.h, cGet s.c⟩
def stepI (s : IS) (o : Oper) (e : Eff) : IS := ⟨rPut s.r o.dst e.v, hWr s.h e.wr, cBump s.c (zAH o) e.bump⟩
theorem zId (s : IS) (o : Oper) (e : Eff) : (stepI s o e).abs = stepS s.abs o e := by
 simp only [stepI, IS.abs, stepS, zFe, hGet_hWr, cGet_cBump]
abbrev Run := Code → IS → Option (Exit × IS)
structure Goods where
 ok : FuncId → Bool
 orc : FuncId → List PV → HL → CL → Option (PV × HL × CL) := fun _ _ _ _ => none
 iter : FuncId → List PV → HL → Option (List (List PV) × (HL → Bool)) := fun _ _ _ => none
 light : FuncId → Bool := fun _ => false
section
variable (P : Program)
def zFH (f : FuncId) : Bool :=
 hasBody P f && (match P.funcs[f]? with
   | some fn => match fn.body with
     | some c => zBn fn.ntmps c && fn.results.toList.all (zCd fn.ntmps)
     | none => false
   | none => false)
def zKr (s : IS) : ResultVar → Option PV
 | .tmp t => some (rGet s.r t)
 | .cell a t => bif zHs P (hGet s.h) t (rGet s.r a) then some (zBK P (hGet s.h) t (rGet s.r a)).v else none
def zIk (s : IS) : List ResultVar → Option (List PV)
 | [] => some []
 | x :: l => match zKr P s x, zIk s l with
   | some v, some vs => some (v :: vs)
   | _, _ => none
def resI (rs : List ResultVar) (s : IS) : Option PV :=
 match rs with
 | [x] => zKr P s x
 | rs => match zIk P s rs with | some vs => some (.tup vs) | none => none
def argsI : Nat → List PV → RL
 | _, [] => []
 | n, v :: l => rSet (argsI (n + 1) l) n v
def callI (good : Goods) (run : Run) (f : FuncId) (args : List PV) (h : HL) (c : CL) : Option (PV × HL × CL) :=
 match P.funcs[f]? with
 | some fn => match fn.body with
   | some code => bif good.ok f && leB args.length fn.ntmps then
       match run code ⟨argsI 0 args, h, c⟩ with
       | some (.normal, s) => match resI P fn.results.toList s with | some v => some (v, s.h, s.c) | none => none
       | some (.ret, s) => match resI P fn.results.toList s with | some v => some (v, s.h, s.c) | none => none
       | _ => none
     else none
   | none => none
 | none => none
def zJY (good : Goods) (run : Run) (f : FuncId) (args : List PV) (h : HL) (c : CL) : Option (PV × HL × CL) :=
 match good.orc f args h c with
 | some x => some x
 | none => callI P good run f args h c
def pureB : Nat → PV → Bool
 | 0, _ => false
 | n + 1, p => match p with
   | .sc _ | .nil => true
   | .lit _ _ rows | .lptr _ _ rows _ _ => rows.all fun row => row.all (pureB n)
   | .agg cs | .tup cs => cs.all (pureB n)
   | .func _ a c => a.all (pureB n) && c.all (pureB n)
   | _ => false
def zI9 : Nat → PV → Bool
 | 0, _ => false
 | n + 1, p => match p with
   | .sc _ | .nil => true
   | .lit t _ rows => !t && rows.all fun row => row.all (zI9 n)
   | .agg cs | .tup cs => cs.all (zI9 n)
   | _ => false
def mapO {α β : Type} (f : α → Option β) : List α → Option (List β)
 | [] => some []
 | x :: l => match f x, mapO f l with
   | some y, some ys => some (y :: ys)
   | _, _ => none
def inn0I (h : Heap) (p : PV) : Option PV :=
 match p with
 | .ref k sz off len => match h k with
   | some (.rows sz' rs) => bif Nat.beq sz' sz && (leB (off + len) rs.length && ((rs.drop off).take len).all fun row => row.all (pureB 9)) then some (.lit true sz ((rs.drop off).take len)) else none
   | _ => none
 | .ptr k sz i j => match h k with
   | some (.rows sz' rs) => bif Nat.beq sz' sz && rs.all (fun row => row.all (pureB 9)) then some (.lptr true sz rs i j) else none
   | _ => none
 | p => bif pureB 9 p then some p else none
def innI (h : Heap) (p : PV) : Option PV :=
 match p with
 | .func f a c => match mapO (inn0I h) a, mapO (inn0I h) c with | some a, some c => some (.func f a c) | _, _ => none
 | .agg a => match mapO (inn0I h) a with | some a => some (.agg a) | none => none
 | p => inn0I h p
def outI (h : Heap) : Nat → PV → Option PV
 | 0, _ => none
 | n + 1, p => match p with
   | .ref k sz off len => match h k with
     | some (.rows sz' rs) => bif Nat.beq sz' sz && (leB (off + len) rs.length) then
         match mapO (mapO (outI h n)) ((rs.drop off).take len) with
         | some rows => bif rows.all (fun row => Nat.beq row.length sz && row.all PV.cell) && ((rs.drop off).take len).all (fun row => Nat.beq row.length sz) then some (.lit false sz rows) else none
         | none => none
       else none
     | _ => none
   | .agg a => match mapO (outI h n) a with | some a => some (.agg a) | none => none
   | .tup a => match mapO (outI h n) a with | some a => some (.tup a) | none => none
   | p => bif zI9 9 p then some p else none
def zGw (good : Goods) (run : Run) (f : FuncId) (args : List PV) (h : Heap) : Option PV :=
 match mapO (innI h) args with
 | some as' => match callI P good run f as' [] [] with
   | some (v, h', _) => match outI (hGet h') 9 v with
     | some r => bif pureB 9 r then some r else none
     | none => none
   | none => none
 | none => none
def hasK (h : HL) (k : Key) : Bool := h.any fun q => keyB q.1 k
def pOpsI (good : Goods) (run : Run) : List Oper → IS → Option IS
 | [], s => some s
 | o :: rest, s =>
   match zAX (rGet s.r) o.op with
   | none => bif okB P (ev (rGet s.r)) (hGet s.h) o.op then pOpsI good run rest (stepI s o (eff P (ev (rGet s.r)) (hGet s.h) (zAH o, cGet s.c (zAH o)) o.op)) else none
   | some (f, args) => bif good.light f then match zJY P good run f args s.h s.c with
       | some (v, h, c) => pOpsI good run rest ⟨rPut s.r o.dst v, h.filter (fun p => hasK s.h p.1), c⟩
       | none => none
     else match zJY P good run f args s.h s.c with
     | some (v, h, c) => pOpsI good run rest ⟨rPut s.r o.dst v, h, c⟩
     | none => none
structure GI where
 s : IS
 g : List (Nat × Bool)
def gGet : List (Nat × Bool) → Nat → Bool
 | [], _ => true
 | (i, v) :: l, t => bif Nat.beq i t then v else gGet l t
def gPut (l : List (Nat × Bool)) (d : Option Nat) (c : Bool) : List (Nat × Bool) := match d with | some t => (t, c) :: l | none => l
theorem zIM (l : List (Nat × Bool)) (d : Option Nat) (c : Bool) : gGet (gPut l d c) = setG (gGet l) d c := by
 cases d with
 | none => rfl
 | some t =>
   funext i;simp only [gPut, gGet, setG];by_cases h : i = t
   · subst h; simp
   · have : Nat.beq t i = false := zBU.2 (fun e => h e.symm);simp [this, h]
def GI.abs (σ : GI) : GS := ⟨σ.s.abs, gGet σ.g⟩
def zHj (G : Nat → Bool) : Operand → Bool
 | .tmp t => G t
 | _ => true
theorem zEm {G : Nat → Bool} {x : Operand} (h : zHj G x = true) : zEG G x := by
 cases x <;> first | exact h | trivial
def zCL (r : Nat → PV) (G : Nat → Bool) (o : Op) : Bool :=
 match o with
 | .pick c a b => zHj G c && (bif isT (ev r c) then zHj G a else zHj G b)
 | o => o.operands.toList.all (zHj G)
theorem zB1 {σ : GS} {o : Op} (h : zCL σ.s.r σ.G o = true) : valid σ o := by
 unfold zCL at h; unfold valid;split at h
 · simp only [Bool.and_eq_true] at h;refine ⟨zEm h.1, fun h1 => ?_, fun h1 => ?_⟩
   · rw [h1] at h; exact zEm h.2
   · rw [h1] at h; exact zEm h.2
 · rename_i hn;split
   · exact (hn _ _ _ rfl).elim
   · intro x hx; exact zEm (List.all_eq_true.1 h x hx)
def gobB (ops : Array Oper) (r : Nat → PV) (G : Nat → Bool) (g : Option (Nat × Bool)) : Bool :=
 match g with
 | none => true
 | some (j, _) => match (ops[j]?).bind (·.dst) with
   | some d => bif G d then isB (r d) else true
   | none => true
theorem zDl {ops : Array Oper} {σ : GS} {g : Option (Nat × Bool)} (h : gobB ops σ.s.r σ.G g = true) : gob ops σ g := by
 unfold gobB at h; unfold gob;split at h
 · trivial
 · simp only;split at h
   · rename_i hq; simp only [hq]; intro hG; rw [hG] at h; exact h
   · rename_i hq; simp only [hq]
def zFh (a b : List Key) : Bool := a.all fun k => b.all fun k' => !keyB k k'
theorem zEf {a b : List Key} (h : zFh a b = true) : zB3 a b := by
 intro k hk hk';have := List.all_eq_true.1 (List.all_eq_true.1 h k hk) k hk';rw [zDx.2 rfl] at this; cases this
structure MX where
 i : Nat
 o : Oper
 c : Bool
 e : Eff
 ft : Foot
 hc : Option (HL × HL × CL)
 r : RL
def MX.abs (x : MX) : XIt := ⟨x.i, x.o, x.c, x.e, x.ft, x.hc.map fun q => (hGet q.1, hGet q.2.1, cGet q.2.2), fun h => eff P (ev (rGet x.r)) h (0, 0) x.o.op⟩
def zLI (R : List Nat) (j : Nat) (o : Oper) : Nat := o.after.toList.foldl (fun m e => bif Region.binds .any e then (m ||| 1 <<< e.on) ||| (bif Nat.blt e.on j then R.getD e.on 0 else 0) else m) 0
def okR (ops : Array Oper) (R : List Nat) : Bool := (List.range ops.size).all fun j => match ops[j]? with | some o => Nat.beq (R.getD j 0) (zLI R j o) | none => false
omit P in
theorem zJN {R : List Nat} {j p : Nat} : ∀ (l : List Edge) (m : Nat), (l.foldl (fun m e => bif Region.binds .any e then (m ||| 1 <<< e.on) ||| (bif Nat.blt e.on j then R.getD e.on 0 else 0) else m) m).testBit p = true →
   m.testBit p = true ∨ ∃ e ∈ l, Region.binds .any e = true ∧ (e.on = p ∨ (e.on < j ∧ (R.getD e.on 0).testBit p = true))
 | [], m, h => .inl h
 | e :: l, m, h => by
   rw [List.foldl_cons] at h;rcases zJN l _ h with h1 | ⟨e', he', h1⟩
   · cases hb : Region.binds .any e with
     | false => rw [hb] at h1; exact .inl h1
     | true =>
       rw [hb] at h1;simp only [cond_true, Nat.testBit_or, Bool.or_eq_true] at h1;rcases h1 with (h1 | h1) | h1
       · exact .inl h1
       · refine .inr ⟨e, by simp, hb, .inl ?_⟩;rw [Nat.testBit_shiftLeft] at h1;simp only [Bool.and_eq_true, decide_eq_true_eq] at h1;have h2 := Nat.testBit_one_eq_true_iff_self_eq_zero.1 h1.2;omega
       · cases hl : Nat.blt e.on j with
         | true =>
           rw [hl] at h1;refine .inr ⟨e, by simp, hb, .inr ⟨?_, h1⟩⟩;unfold Nat.blt at hl;exact Nat.le_of_ble_eq_true hl
         | false => rw [hl] at h1; simp at h1
   · exact .inr ⟨e', by simp [he'], h1⟩
omit P in
theorem zGC {ops : Array Oper} {R : List Nat} (hR : okR ops R = true) : ∀ (n j p : Nat), j < n → j < ops.size → (R.getD j 0).testBit p = true → waitsFor ops n j p = true
 | 0, _, _, h, _, _ => absurd h (Nat.not_lt_zero _)
 | n + 1, j, p, hn, hj, hb => by
   have h1 := List.all_eq_true.1 hR j (List.mem_range.2 hj);have ho : ops[j]? = some ops[j] := Array.getElem?_eq_getElem hj;rw [ho] at h1;rw [Nat.eq_of_beq_eq_true h1] at hb;unfold zLI at hb;rcases zJN _ _ hb with h2 | ⟨e, he, hbd, h2⟩
   · simp at h2
   · unfold waitsFor;rw [ho, Option.map_some, Option.getD_some, Array.any_eq_true'];refine ⟨e, by simpa using he, ?_⟩;rw [hbd, Bool.true_and, Bool.or_eq_true];rcases h2 with h2 | ⟨h2, h3⟩
     · left; simpa using h2
     · right; exact zGC hR n e.on p (by omega) (by omega) h3
def zLd (ops : Array Oper) : List Nat := ops.toList.foldl (fun R o => R ++ [zLI R R.length o]) []
def waitB (ops : Array Oper) (R : List Nat) (j i : Nat) : Bool := Nat.blt j ops.size && (R.getD j 0).testBit i
omit P in
theorem zJc {ops : Array Oper} {R : List Nat} (hR : okR ops R = true) {j i : Nat} (h : waitB ops R j i = true) : waitsFor ops ops.size j i = true := by
 simp only [waitB, Bool.and_eq_true, Nat.blt_eq] at h;exact zGC hR ops.size j i h.1 h.1 h.2
def zLO (ops : Array Oper) (R : List Nat) (x y : Foot) : Bool :=
 waitB ops R y.i x.i || ((((do let a ← ops[x.i]?; let b ← ops[y.i]?; pure (a.apart ops b && (zAH a != zAH b || (a.dst.isNone && b.dst.isNone)))) : Option Bool).getD false) && (zFh x.wr y.rd && ((zKo ops x.i y.i || zFh y.wr x.rd) && zFh x.wr y.wr)))
theorem indepB_ok {ops : Array Oper} {R : List Nat} (hR : okR ops R = true) {x y : Foot} (h : zLO ops R x y = true) : Indep ops x y := by
 simp only [zLO, Bool.or_eq_true, Bool.and_eq_true] at h;rcases h with h | ⟨h1, h2, h3, h4⟩
 · exact .inl (zJc hR h)
 · exact .inr ⟨h1, zEf h2, h3.imp id zEf, zEf h4⟩
def zEr (ops : Array Oper) (R : List Nat) : List Foot → Bool
 | [] => true
 | x :: l => l.all (zLO ops R x) && zEr ops R l
theorem zEa {ops : Array Oper} {R : List Nat} (hR : okR ops R = true) : ∀ {l : List Foot}, zEr ops R l = true → zDh ops l
 | [], _ => trivial
 | x :: l, h => by
   simp only [zEr, Bool.and_eq_true] at h;exact ⟨fun y hy => indepB_ok hR (List.all_eq_true.1 h.1 y hy), zEa hR h.2⟩
def pairB (ops : Array Oper) (i j : Nat) : Bool :=
 waitsFor ops ops.size j i || (((do let a ← ops[i]?; let b ← ops[j]?; pure (a.apart ops b && (zAH a != zAH b || (a.dst.isNone && b.dst.isNone)))) : Option Bool).getD false)
def zIe (ops : Array Oper) : Bool := (List.range ops.size).all fun j => (List.range j).all fun i => pairB ops i j
theorem zDY {ops : Array Oper} (hs : zIe ops = true) : ∀ {tr : List Foot}, tr.Pairwise (fun x y => x.i < y.i) → (∀ y ∈ tr, y.i < ops.size) → (∀ y ∈ tr, y.wr = []) → zDh ops tr
 | [], _, _, _ => trivial
 | x :: l, hp, hl, hw => by
   rw [List.pairwise_cons] at hp;refine ⟨fun y hy => ?_, zDY hs hp.2 (fun y hy => hl y (by simp [hy])) (fun y hy => hw y (by simp [hy]))⟩;have h1 := List.all_eq_true.1 (List.all_eq_true.1 hs y.i (List.mem_range.2 (hl y (by simp [hy])))) x.i (List.mem_range.2 (hp.1 y hy));simp only [pairB, Bool.or_eq_true] at h1;have hx := hw x (by simp);have hy' := hw y (by simp [hy]);rcases h1 with h1 | h1
   · exact .inl h1
   · exact .inr ⟨h1, by rw [hx]; intro k hk; simp at hk, .inr (by rw [hy']; intro k hk; simp at hk), by rw [hx]; intro k hk; simp at hk⟩
def zJl (ops : Array Oper) (R : List Nat) : Bool := (List.range ops.size).all fun j => (List.range j).all fun i => waitB ops R j i || (((do let a ← ops[i]?; let b ← ops[j]?; pure (a.apart ops b && (zAH a != zAH b || (a.dst.isNone && b.dst.isNone)))) : Option Bool).getD false)
theorem staticM_ok {ops : Array Oper} {R : List Nat} (hR : okR ops R = true) (h : zJl ops R = true) : zIe ops = true := by
 refine List.all_eq_true.2 fun j hj => List.all_eq_true.2 fun i hi => ?_;have h1 := List.all_eq_true.1 (List.all_eq_true.1 h j hj) i hi;unfold pairB;rw [Bool.or_eq_true] at h1 ⊢;exact h1.imp (zJc hR) id
def trOKR (ops : Array Oper) (R : List Nat) (tr : List Foot) : Bool := okR ops R && bif zJl ops R then (tr.all fun f => nilB f.wr) || zEr ops R tr else zEr ops R tr
def trOKB (ops : Array Oper) (tr : List Foot) : Bool := trOKR ops (zLd ops) tr
def TrI (tr : List Foot) (n : Nat) : Prop := tr.Pairwise (fun x y => x.i < y.i) ∧ ∀ y ∈ tr, y.i < n
theorem TrI.nil (n : Nat) : TrI [] n := ⟨.nil, by simp⟩
theorem TrI.step {tr : List Foot} {n : Nat} (h : TrI tr n) (rd wr : List Key) : TrI (tr ++ [⟨n, rd, wr⟩]) (n + 1) := by
 refine ⟨List.pairwise_append.2 ⟨h.1, by simp, fun x hx y hy => ?_⟩, fun y hy => ?_⟩
 · simp at hy; subst hy; exact h.2 x hx
 · rcases List.mem_append.1 hy with hy | hy
   · have := h.2 y hy; omega
   · simp at hy; subst hy; exact Nat.lt_succ_self n
theorem zJe {ops : Array Oper} {tr : List Foot} {n : Nat} (hm : TrI tr n) (hn : n ≤ ops.size) (h : trOKB ops tr = true) : zDh ops tr := by
 unfold trOKB trOKR at h;rw [Bool.and_eq_true] at h;obtain ⟨hR, h⟩ := h;cases hs : zJl ops (zLd ops) with
 | false => rw [hs] at h; exact zEa hR h
 | true =>
   rw [hs] at h;simp only [cond_true, Bool.or_eq_true] at h;rcases h with h | h
   · exact zDY (staticM_ok hR hs) hm.1 (fun y hy => Nat.lt_of_lt_of_le (hm.2 y hy) hn) (fun y hy => nilB_ok (List.all_eq_true.1 h y hy))
   · exact zEa hR h
def finI (ops : List Oper) (s : IS) : IS := { s with r := ops.foldl (fun r o => bif o.guard.isSome then rPut r o.dst .dead else r) s.r }
theorem finI_abs (ops : List Oper) (s : IS) : (finI ops s).abs = fin ops s.abs := by
 simp only [finI, fin, IS.abs];congr 1;generalize s.r = r;induction ops generalizing r with
 | nil => rfl
 | cons o ops ih =>
   simp only [List.foldl_cons];rw [ih];cases o.guard.isSome <;> simp [zFe]
def gOpsI (good : Goods) (run : Run) (ops : Array Oper) (d : Bool) : List Oper → Nat → GI → List Foot → Option IS
 | [], _, σ, tr => bif !d || trOKB ops tr then some (finI ops.toList σ.s) else none
 | o :: rest, i, σ, tr =>
   bif gobB ops (rGet σ.s.r) (gGet σ.g) o.guard then
     match zAX (rGet σ.s.r) o.op with
     | none =>
       bif gval ops σ.abs o.guard then
         let e := eff P (ev (rGet σ.s.r)) (hGet σ.s.h) (zAH o, cGet σ.s.c (zAH o)) o.op
         bif (zCL (rGet σ.s.r) (gGet σ.g) o.op && okB P (ev (rGet σ.s.r)) (hGet σ.s.h) o.op) && (!e.bump || o.dst.isSome) then
           gOpsI good run ops d rest (i + 1) ⟨stepI σ.s o e, gPut σ.g o.dst true⟩ (tr ++ [⟨i, e.rd, e.wr.map (·.1)⟩])
         else none
       else gOpsI good run ops d rest (i + 1) ⟨stepI σ.s o (.val True .dead), gPut σ.g o.dst false⟩ (tr ++ [⟨i, [], []⟩])
     | some (f, args) =>
       bif gval ops σ.abs o.guard then
         bif zCL (rGet σ.s.r) (gGet σ.g) o.op then
           bif !d || (zEU ops i && trOKB ops tr) then
             match zJY P good run f args σ.s.h σ.s.c with
             | some (v, h, c) => gOpsI good run ops d rest (i + 1) ⟨⟨rPut σ.s.r o.dst v, h, c⟩, gPut σ.g o.dst true⟩ []
             | none => none
           else match zGw P good run f args (hGet σ.s.h) with
             | some v => gOpsI good run ops d rest (i + 1) ⟨stepI σ.s o (.val True v), gPut σ.g o.dst true⟩ (tr ++ [⟨i, args.flatMap zBF, []⟩])
             | none => none
         else none
       else gOpsI good run ops d rest (i + 1) ⟨stepI σ.s o (.val True .dead), gPut σ.g o.dst false⟩ (tr ++ [⟨i, args.flatMap zBF, []⟩])
   else none
def xRegI (good : Goods) (run : Run) (ops : Array Oper) (d : Bool) (s : IS) : Option IS := bif false && hasBody P 0 then some s else none
def putsI (r : RL) : List Nat → List PV → RL
 | d :: ds, v :: vs => putsI (rPut r (some d) v) ds vs
 | _, _ => r
def zFa (run : Run) (r : RL) (ps : List Nat) (x y : Code) (chk : HL → Bool) : List (List PV) → HL → CL → Option (HL × CL)
 | [], h, c => bif chk h then some (h, c) else none
 | row :: rest, h, c => bif chk h && Nat.beq row.length ps.length then match run x ⟨putsI r ps row, h, c⟩ with
   | some (.normal, s1) => match run y s1 with
     | some (.normal, s2) => zFa run r ps x y chk rest s2.h s2.c
     | _ => none
   | _ => none else none
def zJs (good : Goods) (run : Run) : Run := fun c s =>
 match c with
 | .skip => some (.normal, s)
 | .region _ ops d =>
   match (bif zCn ops && !d then pOpsI P good run ops.toList s else match gOpsI P good run ops d ops.toList 0 ⟨s, []⟩ [] with | some s' => some s' | none => xRegI P good run ops d s) with
   | some s => some (.normal, s)
   | none => none
 | .seq a b => match run a s with
   | some (.normal, s) => run b s
   | o => o
 | .cond c x y => match ev (rGet s.r) c with
   | .sc (.bool b) => bif b then run x s else run y s
   | _ => none
 | .block id c => match run c s with
   | some (.exit i, s) => if i = id then some (.normal, s) else some (.exit i, s)
   | o => o
 | .loop c => match run c s with
   | some (.normal, s) => run (.loop c) s
   | o => o
 | .exit id => some (.exit id, s)
 | .ret => some (.ret, s)
 | .rangeFunc g ps x y => match ev (rGet s.r) g with
   | .func (.func f) [] caps => match good.iter f caps s.h with
     | some (items, chk) => bif zCc x && zCc y then match zFa run s.r ps.toList x y chk items s.h s.c with
       | some (h, c) => some (.normal, ⟨s.r, h, c⟩)
       | none => none else none
     | none => none
   | _ => none
 | _ => none
def prun (good : Goods) (n : Nat) : Run := Nat.rec (motive := fun _ => Run) (fun _ _ => none) (fun _ r => zJs P good r) n
end
end Go.Pv
