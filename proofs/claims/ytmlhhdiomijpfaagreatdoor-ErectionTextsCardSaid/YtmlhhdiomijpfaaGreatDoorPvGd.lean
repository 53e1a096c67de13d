import Derived.Test.YtmlhhdiomijpfaaGreatDoorPvGc
set_option linter.unusedSimpArgs false
set_option linter.unusedVariables false
namespace Go.Pv
open Go Go.RowKit
section
variable (P : Program)
def nilB {α : Type} : List α → Bool
 | [] => true
 | _ => false
theorem nilB_ok {α : Type} {l : List α} (h : nilB l = true) : l = [] := by cases l <;> first | rfl | cases h
def intOkB (op : BinOp) (b : Int) : Bool :=
 match op with
 | .quo | .rem => b != 0
 | .shl | .shr => decide (0 ≤ b)
 | _ => true
def strOkB (op : BinOp) (a b : ByteArray) : Bool :=
 match op with
 | .add => Nat.blt (a.size + b.size) (2 ^ 62)
 | .eql | .neq | .lss | .leq | .gtr | .geq => true
 | _ => false
def eqOkB (t : TypeId) (x y : PV) : Bool :=
 match x, y with
 | .sc (.bool _), .sc (.bool _) => isBoolTy P t
 | .agg a, .agg b => !P.eqGuardType P.depth t && eqOk P 6 t (.agg a) (.agg b)
 | _, _ => false
def binOkB (op : BinOp) (t : TypeId) (x y : PV) : Bool :=
 match x, y with
 | .sc (.int k _a), .sc (.int k' b) => match op with
   | .shl | .shr => intOkB op b
   | op => decide (k = k') && intOkB op b
 | .sc (.string a), .sc (.string b) => strOkB op a b
 | x, y => match op with
   | .eql | .neq => eqOkB P t x y
   | _ => false
theorem intOkB_ok {op : BinOp} {k : IntKind} {a b : Int} (h : intOkB op b = true) : (intBin op k a b).ob := by
 cases op <;> simp_all [intOkB, intBin, Eff.val]
theorem strOkB_ok {op : BinOp} {a b : ByteArray} (h : strOkB op a b = true) : (strBin op a b).ob := by
 cases op <;> simp_all [strOkB, strBin, Eff.val, Nat.blt_eq]
theorem eqOkB_ok {t : TypeId} {x y : PV} {n : Bool} (h : eqOkB P t x y = true) : (eqBin P n t x y).ob := by
 unfold eqOkB at h; split at h
 · exact h
 · simp only [Bool.and_eq_true, Bool.not_eq_true'] at h; exact h
 · cases h
theorem binOkB_ok {op : BinOp} {t : TypeId} {x y : PV} (h : binOkB P op t x y = true) : (binEff P op t x y).ob := by
 unfold binOkB at h;split at h
 · unfold binEff;cases op <;> simp only [Bool.and_eq_true, decide_eq_true_eq] at h <;> first | exact ⟨h.1, intOkB_ok h.2⟩ | exact intOkB_ok h
 · exact strOkB_ok h
 · rename_i h1 h2;unfold binEff;split
   · exact (h1 _ _ _ _ rfl rfl).elim
   · exact (h2 _ _ rfl rfl).elim
   · cases op <;> first | cases h; done | exact eqOkB_ok P h
def nilOkB (op : BinOp) (t : TypeId) (n : Bool) : Bool :=
 match op with
 | .eql | .neq => n && isSliceTy P t
 | _ => false
theorem nilOkB_ok {op : BinOp} {t : TypeId} {n : Bool} (h : nilOkB P op t n = true) : (nilEff P op t n).ob := by
 unfold nilOkB at h;split at h
 · simp only [Bool.and_eq_true] at h; exact h
 · simp only [Bool.and_eq_true] at h; exact h
 · cases h
def binNOkB (op : BinOp) (t : TypeId) (n : Bool) (x y : PV) : Bool :=
 match x with
 | .lit _ _ (_ :: _) => nilOkB P op t n
 | .ref _ _ _ (_ + 1) => nilOkB P op t n
 | x => binOkB P op t x y
theorem binNOkB_ok {op : BinOp} {t : TypeId} {n : Bool} {x y : PV} (h : binNOkB P op t n x y = true) : (binEffN P op t n x y).ob := by
 unfold binNOkB at h;split at h
 · exact nilOkB_ok P h
 · exact nilOkB_ok P h
 · rename_i h1 h2;unfold binEffN;split
   · exact (h1 _ _ _ _ rfl).elim
   · exact (h2 _ _ _ _ rfl).elim
   · exact binOkB_ok P h
def unOkB (op : UnOp) (x : PV) : Bool :=
 match op, x with
 | .neg, .sc (.int _ _) => true
 | .not, .sc (.bool _) => true
 | _, _ => false
theorem unOkB_ok {op : UnOp} {x : PV} (h : unOkB op x = true) : (unEff op x).ob := by
 unfold unOkB at h; split at h <;> first | trivial | cases h
def convOkB (src dst : TypeId) (x : PV) : Bool :=
 match x with
 | .sc (.int _ _) => (intKind P dst).isSome && (P.underlying src).isSome
 | .sc (.string _) => if isStringTy P dst then (P.underlying src).isSome else sliceOk P dst && (intKind P (elemTy P dst) == some .u8) && isStringTy P src
 | _ => false
theorem convOkB_ok {hp : Heap} {s d : TypeId} {x : PV} (h : convOkB P s d x = true) : (convHEff P hp s d x).ob := by
 unfold convOkB at h; unfold convHEff convEff;split at h
 · simp only [Bool.and_eq_true] at h;cases hk : intKind P d with
   | none => rw [hk] at h; cases h.1
   | some k => exact h.2
 · simp only;split at h
   · rename_i hd; rw [if_pos hd]; exact h
   · rename_i hd; rw [if_neg hd];simp only [Bool.and_eq_true] at h;rw [if_pos (by simp only [Bool.and_eq_true]; exact h.1)];exact h.2
 · cases h
def ltB (a b : Nat) : Bool := Nat.blt a b
def leB (a b : Nat) : Bool := Nat.ble a b
theorem ltB_ok {a b : Nat} : ltB a b = true ↔ a < b := by simp [ltB, Nat.blt_eq]
theorem leB_ok {a b : Nat} : leB a b = true ↔ a ≤ b := by simp [leB]
def loadOkB (h : Heap) (t : TypeId) (a : PV) : Bool :=
 match a with
 | .ptr k _ i j => match h k with
   | some (.rows sz rs) => ltB i rs.length && (leB (j + tySize P t) sz && tyOk P t)
   | _ => false
 | .lptr _ sz rs i j => ltB i rs.length && (leB (j + tySize P t) sz && tyOk P t)
 | _ => false
theorem loadOkB_ok {h : Heap} {t : TypeId} {a : PV} (hb : loadOkB P h t a = true) : (loadEff P h t a).ob := by
 unfold loadOkB at hb; unfold loadEff;split at hb
 · simp only;split at hb
   · rename_i hq; simp only [hq]; simp only [Bool.and_eq_true, ltB_ok, leB_ok] at hb; exact hb
   · cases hb
 · simp only [Bool.and_eq_true, ltB_ok, leB_ok] at hb; exact hb
 · cases hb
def storeOkB (h : Heap) (t : TypeId) (a v : PV) : Bool :=
 match a with
 | .ptr k _ i j => match h k with
   | some (.rows sz rs) => ltB i rs.length && (leB (j + tySize P t) sz && (Nat.beq (pcells v).length (tySize P t) && ((pcells v).all PV.cell && tyOk P t)))
   | _ => false
 | _ => false
theorem storeOkB_ok {h : Heap} {t : TypeId} {a v : PV} (hb : storeOkB P h t a v = true) : (storeEff P h t a v).ob := by
 unfold storeOkB at hb; unfold storeEff;split at hb
 · simp only;split at hb
   · rename_i hq; simp only [hq]; simp only [Bool.and_eq_true, ltB_ok, leB_ok, Nat.beq_eq] at hb; exact hb
   · cases hb
 · cases hb
def allocOkB (cs : List PV) : Bool := cs.all PV.cell && !nilB cs
theorem allocOkB_ok {key : Key} {cs : List PV} (h : allocOkB cs = true) : (allocEff key cs).ob := by
 simp only [allocOkB, Bool.and_eq_true, Bool.not_eq_true'] at h;refine ⟨h.1, ?_⟩;cases cs with
 | nil => cases h.2
 | cons => simp
def fillOkB (pl : List (Nat × Nat × Bool)) (n : Nat) : List (Nat × PV) → Bool
 | [] => true
 | (i, v) :: rest => ltB i pl.length && (Nat.beq (pcells v).length (pl.getD i (0, 0, false)).2.1 && (leB ((pl.getD i (0, 0, false)).1 + (pcells v).length) n && ((pcells v).all PV.cell && fillOkB pl n rest)))
theorem fillOkB_ok {pl : List (Nat × Nat × Bool)} {n : Nat} : ∀ {l : List (Nat × PV)}, fillOkB pl n l = true → fillOk pl n l
 | [], _ => trivial
 | (i, v) :: rest, h => by
   simp only [fillOkB, Bool.and_eq_true, ltB_ok, leB_ok, Nat.beq_eq] at h;exact ⟨h.1, h.2.1, h.2.2.1, h.2.2.2.1, fillOkB_ok h.2.2.2.2⟩
def buildOkB (t : TypeId) (parts : List (Nat × PV)) : Bool :=
 match zeroCellsOf P t with
 | some z => (structOk P t || (arrOk P t).isSome) && (z.all PV.cell && fillOkB (places P t) z.length parts)
 | none => false
theorem buildOkB_ok {t : TypeId} {parts : List (Nat × PV)} (h : buildOkB P t parts = true) : (buildEff P t parts).ob := by
 unfold buildOkB at h; unfold buildEff;split at h
 · rename_i hq; simp only [hq]; simp only [Bool.and_eq_true, Bool.or_eq_true] at h;exact ⟨h.1, h.2.1, fillOkB_ok h.2.2⟩
 · cases h
def fillRowsOkB (n sz : Nat) : List (Nat × PV) → Bool
 | [] => true
 | (i, v) :: rest => ltB i n && (Nat.beq (pcells v).length sz && ((pcells v).all PV.cell && fillRowsOkB n sz rest))
theorem fillRowsOkB_ok {n sz : Nat} : ∀ {l : List (Nat × PV)}, fillRowsOkB n sz l = true → fillRowsOk n sz l
 | [], _ => trivial
 | (i, v) :: rest, h => by
   simp only [fillRowsOkB, Bool.and_eq_true, ltB_ok, Nat.beq_eq] at h;exact ⟨h.1, h.2.1, h.2.2.1, fillRowsOkB_ok h.2.2.2⟩
def buildSliceOkB (t : TypeId) (n : Nat) (parts : List (Nat × PV)) : Bool :=
 match zeroCellsOf P (elemTy P t) with
 | some z => sliceOk P t && (Nat.beq z.length (tySize P (elemTy P t)) && (leB (n * tySize P (elemTy P t)) (2 ^ 24) && (z.all PV.cell && fillRowsOkB n z.length parts)))
 | none => false
theorem buildSliceOkB_ok {key : Key} {t : TypeId} {n : Nat} {parts : List (Nat × PV)} (h : buildSliceOkB P t n parts = true) : (buildSliceEff P key t n parts).ob := by
 unfold buildSliceOkB at h; unfold buildSliceEff;split at h
 · rename_i hq; simp only [hq]; simp only [Bool.and_eq_true, leB_ok, Nat.beq_eq] at h;exact ⟨h.1, h.2.1, h.2.2.1, h.2.2.2.1, fillRowsOkB_ok h.2.2.2.2⟩
 · cases h
def makeSliceOkB (t : TypeId) (l c : PV) : Bool :=
 match l, c with
 | .sc (.int _ L), .sc (.int _ C) => match zeroCellsOf P (elemTy P t) with
   | some z => sliceOk P t && (Nat.beq z.length (tySize P (elemTy P t)) && (z.all PV.cell && (decide (0 ≤ L) && (decide (L ≤ C) && (decide (C < 2 ^ 32) && ltB (P.bytesOf (elemTy P t)) (2 ^ 15))))))
   | none => false
 | _, _ => false
theorem makeSliceOkB_ok {key : Key} {t : TypeId} {l c : PV} (h : makeSliceOkB P t l c = true) : (makeSliceEff P key t l c).ob := by
 unfold makeSliceOkB at h; unfold makeSliceEff;split at h
 · simp only;split at h
   · rename_i hq; simp only [hq]; simp only [Bool.and_eq_true, ltB_ok, Nat.beq_eq, decide_eq_true_eq] at h; exact h
   · cases h
 · cases h
def sliceOkB (t : TypeId) (x : PV) (lo hi mx : Option PV) : Bool :=
 match x, mx with
 | .sc (.string s), none => match bound lo (some 0), bound hi (some s.size) with
   | some l, some h => isStringTy P t && (decide (0 ≤ l) && (decide (l ≤ h) && decide (h ≤ s.size)))
   | _, _ => false
 | .lit _ sz rs, none => match bound lo (some 0), bound hi (some rs.length) with
   | some l, some h => sliceOk P t && (Nat.beq (tySize P (elemTy P t)) sz && (decide (0 ≤ l) && (decide (l ≤ h) && decide (h ≤ rs.length))))
   | _, _ => false
 | .ref _ sz _ len, none => match bound lo (some 0), bound hi (some len) with
   | some l, some h => sliceOk P t && (Nat.beq (tySize P (elemTy P t)) sz && (decide (0 ≤ l) && (decide (l ≤ h) && decide (h ≤ len))))
   | _, _ => false
 | .nil, none => match bound lo (some 0), bound hi (some 0) with
   | some l, some h => sliceOk P t && (decide (l = 0) && decide (h = 0))
   | _, _ => false
 | _, _ => false
theorem sliceOkB_ok {t : TypeId} {x : PV} {lo hi mx : Option PV} (hb : sliceOkB P t x lo hi mx = true) : (sliceEff P t x lo hi mx).ob := by
 unfold sliceOkB at hb;split at hb
 all_goals first
   | cases hb; done
   | (unfold sliceEff
      simp only;split at hb
      · rename_i hq1 hq2; simp only [hq1, hq2]; simp only [Bool.and_eq_true, Nat.beq_eq, decide_eq_true_eq] at hb; exact hb
      · cases hb)
def fieldAddrOkB (t : TypeId) (x : PV) (f : Nat) : Bool :=
 match x with
 | .ptr .. | .lptr .. => structOk P t && ltB f (places P t).length
 | _ => false
theorem fieldAddrOkB_ok {t : TypeId} {x : PV} {f : Nat} (h : fieldAddrOkB P t x f = true) : (fieldAddrEff P t x f).ob := by
 unfold fieldAddrOkB at h; unfold fieldAddrEff;split at h
 · simp only [Bool.and_eq_true, ltB_ok] at h; exact h
 · simp only [Bool.and_eq_true, ltB_ok] at h; exact h
 · cases h
def fieldOkB (t : TypeId) (x : PV) (f : Nat) : Bool :=
 match x with
 | .agg cs => structOk P t && (ltB f (places P t).length && leB (((places P t).getD f (0, 0, false)).1 + ((places P t).getD f (0, 0, false)).2.1) cs.length)
 | _ => false
theorem fieldOkB_ok {t : TypeId} {x : PV} {f : Nat} (h : fieldOkB P t x f = true) : (fieldEff P t x f).ob := by
 unfold fieldOkB at h; unfold fieldEff;split at h
 · simp only [Bool.and_eq_true, ltB_ok, leB_ok] at h; exact h
 · cases h
def indexAddrOkB (t : TypeId) (x ix : PV) : Bool :=
 match ix with
 | .sc (.int _ i) =>
   match x with
   | .lit _ sz rs => sliceOk P t && (Nat.beq (tySize P (elemTy P t)) sz && (decide (0 ≤ i) && decide (i < rs.length)))
   | .ref _ sz _ len => sliceOk P t && (Nat.beq (tySize P (elemTy P t)) sz && (decide (0 ≤ i) && decide (i < len)))
   | .ptr .. => match arrOk P t with
     | some (n, _) => decide (0 ≤ i) && decide (i < n)
     | none => false
   | .lptr .. => match arrOk P t with
     | some (n, _) => decide (0 ≤ i) && decide (i < n)
     | none => false
   | _ => false
 | _ => false
theorem indexAddrOkB_ok {t : TypeId} {x ix : PV} (h : indexAddrOkB P t x ix = true) : (indexAddrEff P t x ix).ob := by
 unfold indexAddrOkB at h; unfold indexAddrEff;split at h
 · simp only;split at h
   · simp only [Bool.and_eq_true, Nat.beq_eq, decide_eq_true_eq] at h; exact h
   · simp only [Bool.and_eq_true, Nat.beq_eq, decide_eq_true_eq] at h; exact h
   · simp only;split at h
     · rename_i hq; simp only [hq]; simp only [Bool.and_eq_true, decide_eq_true_eq] at h; exact h
     · cases h
   · simp only;split at h
     · rename_i hq; simp only [hq]; simp only [Bool.and_eq_true, decide_eq_true_eq] at h; exact h
     · cases h
   · cases h
 · cases h
def indexOkB (t : TypeId) (x ix : PV) : Bool :=
 match ix with
 | .sc (.int _ i) =>
   match x with
   | .sc (.string s) => isStringTy P t && (decide (0 ≤ i) && decide (i < s.size))
   | .agg cs => match arrOk P t with
     | some (n, e) => decide (0 ≤ i) && (decide (i < n) && Nat.beq cs.length (n * tySize P e))
     | none => false
   | _ => false
 | _ => false
theorem indexOkB_ok {t : TypeId} {x ix : PV} (h : indexOkB P t x ix = true) : (indexEff P t x ix).ob := by
 unfold indexOkB at h; unfold indexEff;split at h
 · simp only;split at h
   · simp only [Bool.and_eq_true, decide_eq_true_eq] at h; exact h
   · simp only;split at h
     · rename_i hq; simp only [hq]; simp only [Bool.and_eq_true, Nat.beq_eq, decide_eq_true_eq] at h; exact h
     · cases h
   · cases h
 · cases h
def keyOkB (kt : TypeId) : PV → Bool
 | .sc (.int k _) => intKind P kt == some k
 | .sc (.string _) => isStringTy P kt
 | .agg cs => keyAgg P kt cs
 | _ => false
theorem keyOkB_ok {kt : TypeId} {p : PV} (h : keyOkB P kt p = true) : keyOk P kt p := by
 unfold keyOkB at h; split at h
 · exact eq_of_beq h
 · exact h
 · exact h
 · cases h
def rangeOkB (h : Heap) (t : TypeId) (x : PV) : Bool :=
 match x with
 | .map key => match h key with
   | some (.map _ _ _) => (mapTy P t).isSome
   | _ => false
 | _ => false
theorem rangeOkB_ok {h : Heap} {key : Key} {t : TypeId} {x : PV} (hb : rangeOkB P h t x = true) : (rangeEff P h key t x).ob := by
 unfold rangeOkB at hb; unfold rangeEff;split at hb
 · split at hb
   · rename_i hq; simp only [hq]; exact hb
   · cases hb
 · cases hb
def nextOkB (h : Heap) (x : PV) (s : Bool) : Bool :=
 match x with
 | .iter kit => match h kit with
   | some (.iter km since seen) => match h km with
     | some (.map es bs clk) => !s && ((leftOf es bs seen).isEmpty && (Nat.beq clk since && bs.all fun b => Nat.blt b since))
     | _ => false
   | _ => false
 | _ => false
omit P in
theorem nextOkB_ok {h : Heap} {x : PV} {s : Bool} (hb : nextOkB h x s = true) : (nextEff h x s).ob := by
 unfold nextOkB at hb; unfold nextEff;split at hb
 · split at hb
   · rename_i hq; simp only [hq];split at hb
     · rename_i hq2; simp only [hq2];simp only [Bool.and_eq_true, Bool.not_eq_true', List.all_eq_true] at hb;obtain ⟨h1, h2, h3, h4⟩ := hb;exact ⟨h1, by simpa using h2, Nat.eq_of_beq_eq_true h3, fun b hb => by have := h4 b hb; rwa [Nat.blt_eq] at this⟩
     · cases hb
   · cases hb
 · cases hb
def entryOkB (h : Heap) (x : PV) : Bool :=
 match x with
 | .iter kit => match h kit with
   | some (.iter km since seen) => match h km with
     | some (.map es bs clk) => Nat.beq clk since && (entryOf es bs seen).isSome
     | _ => false
   | _ => false
 | _ => false
omit P in
theorem entryOkB_ok {h : Heap} {x : PV} (hb : entryOkB h x = true) : (entryEff h x).ob := by
 unfold entryOkB at hb; unfold entryEff;split at hb
 · split at hb
   · rename_i hq; simp only [hq];split at hb
     · rename_i hq2; simp only [hq2];simp only [Bool.and_eq_true] at hb;exact ⟨Nat.eq_of_beq_eq_true hb.1, hb.2⟩
     · cases hb
   · cases hb
 · cases hb
def lookupOkB (h : Heap) (t : TypeId) (m k : PV) : Bool :=
 match mapTy P t with
 | some (kt, et) => match m with
   | .map key => match h key with
     | some (.map es _ _) => keyOkB P kt k && (es.all (fun e => keyOkB P kt e.1) && zeroFit P et)
     | _ => false
   | _ => false
 | none => false
theorem lookupOkB_ok {h : Heap} {t : TypeId} {m k : PV} {ok : Bool} (hb : lookupOkB P h t m k = true) : (lookupEff P h t m k ok).ob := by
 unfold lookupOkB at hb; unfold lookupEff;split at hb
 · rename_i hq; simp only [hq];split at hb
   · simp only;split at hb
     · rename_i hq; simp only [hq]; simp only [Bool.and_eq_true, List.all_eq_true] at hb;exact ⟨keyOkB_ok P hb.1, fun e he => keyOkB_ok P (hb.2.1 e he), hb.2.2⟩
     · cases hb
   · cases hb
 · cases hb
def mapUpdateOkB (h : Heap) (t : TypeId) (m k v : PV) : Bool :=
 match mapTy P t with
 | some (kt, _) => match m with
   | .map key => match h key with
     | some (.map es _ _) => keyOkB P kt k && (es.all (fun e => keyOkB P kt e.1) && mval v)
     | _ => false
   | _ => false
 | none => false
theorem mapUpdateOkB_ok {h : Heap} {t : TypeId} {m k v : PV} (hb : mapUpdateOkB P h t m k v = true) : (mapUpdateEff P h t m k v).ob := by
 unfold mapUpdateOkB at hb; unfold mapUpdateEff;split at hb
 · rename_i hq; simp only [hq];split at hb
   · simp only;split at hb
     · rename_i hq; simp only [hq]; simp only [Bool.and_eq_true, List.all_eq_true] at hb;exact ⟨keyOkB_ok P hb.1, fun e he => keyOkB_ok P (hb.2.1 e he), hb.2.2⟩
     · cases hb
   · cases hb
 · cases hb
def zeroCellB (o : Option PV) (z : PV) : Bool := mval (o.getD z)
def mapEntryOkB (h : Heap) (t : TypeId) (m k : PV) : Bool :=
 match mapTy P t with
 | some (kt, et) => match m with
   | .map key => match h key with
     | some (.map es _ _) => keyOkB P kt k && (es.all (fun e => keyOkB P kt e.1) && (zeroFit P et && zeroCellB (mapFind k es) (zeroVal P et)))
     | _ => false
   | _ => false
 | none => false
theorem mapEntryOkB_ok {h : Heap} {t : TypeId} {m k : PV} (hb : mapEntryOkB P h t m k = true) : (mapEntryEff P h t m k).ob := by
 unfold mapEntryOkB at hb; unfold mapEntryEff;split at hb
 · rename_i hq; simp only [hq];split at hb
   · simp only;split at hb
     · rename_i hq; simp only [hq]; simp only [Bool.and_eq_true, List.all_eq_true] at hb;exact ⟨keyOkB_ok P hb.1, fun e he => keyOkB_ok P (hb.2.1 e he), hb.2.2.1, hb.2.2.2⟩
     · cases hb
   · cases hb
 · cases hb
def entryStoreOkB (h : Heap) (m s v : PV) : Bool :=
 match m with
 | .map key => match h key with
   | some (.map es bs _) => match s with
     | .sc (.int _ n) => mval v && (setStamp n v es bs).isSome
     | _ => false
   | _ => false
 | _ => false
omit P in
theorem entryStoreOkB_ok {h : Heap} {m s v : PV} (hb : entryStoreOkB h m s v = true) : (entryStoreEff h m s v).ob := by
 unfold entryStoreOkB at hb; unfold entryStoreEff;split at hb
 · simp only;split at hb
   · rename_i hq; simp only [hq];split at hb
     · simp only [Bool.and_eq_true] at hb; exact hb
     · cases hb
   · cases hb
 · cases hb
def extractOkB (x : PV) (i : Nat) : Bool :=
 match x with
 | .tup vs => ltB i vs.length
 | _ => false
theorem extractOkB_ok {x : PV} {i : Nat} (h : extractOkB x i = true) : (extractEff x i).ob := by
 unfold extractOkB at h; unfold extractEff;split at h
 · exact ltB_ok.1 h
 · cases h
def lenOkB (h : Heap) (t : TypeId) (x : PV) : Bool :=
 match x with
 | .sc (.string _) => isStringTy P t
 | .nil | .lit .. | .ref .. => sliceOk P t
 | .map key => match h key with
   | some (.map _ _ _) => (mapTy P t).isSome
   | _ => false
 | _ => false
theorem lenOkB_ok {h : Heap} {t : TypeId} {x : PV} (hb : lenOkB P h t x = true) : (lenEff P h t x).ob := by
 unfold lenOkB at hb; unfold lenEff;split at hb
 · exact hb
 · exact hb
 · exact hb
 · exact hb
 · simp only;split at hb
   · rename_i hq; simp only [hq]; exact hb
   · cases hb
 · cases hb
def srcOkB (h : Heap) (sz : Nat) : PV → Bool
 | .nil => true
 | .lit _ sz' _ => Nat.beq sz' sz
 | .ref k sz' off len => match h k with
   | some (.rows _ rs) => Nat.beq sz' sz && leB (off + len) rs.length
   | _ => false
 | .sc (.string _) => Nat.beq sz 1
 | _ => false
theorem srcOkB_ok {h : Heap} {sz : Nat} {x : PV} (hb : srcOkB h sz x = true) : (srcRows h sz x).1 := by
 unfold srcOkB at hb; unfold srcRows;split at hb
 · trivial
 · exact Nat.eq_of_beq_eq_true hb
 · simp only;split at hb
   · rename_i hq; simp only [hq]; simp only [Bool.and_eq_true, Nat.beq_eq, leB_ok] at hb; exact hb
   · cases hb
 · exact Nat.eq_of_beq_eq_true hb
 · cases hb
def appendOkB (h : Heap) (t t2 : TypeId) (s x : PV) : Bool :=
 let e := elemTy P t
 (sliceOk P t && (ltB (P.bytesOf e) (2 ^ 15) && ((intKind P t2).isNone && (zeroOk P e && (P.underlying t2).isSome)))) && (srcOkB h (tySize P e) x &&
 match s with
 | .nil => (srcRows h (tySize P e) x).2.1.isEmpty || ltB (srcRows h (tySize P e) x).2.1.length (2 ^ 32)
 | .ref k sz off len => match h k with
   | some (.rows _ rs) => Nat.beq sz (tySize P e) && (leB (off + len) rs.length && ltB (len + (srcRows h (tySize P e) x).2.1.length) (2 ^ 32))
   | _ => false
 | _ => false)
theorem appendOkB_ok {h : Heap} {key : Key} {t t2 : TypeId} {s x : PV} (hb : appendOkB P h t t2 s x = true) : (appendEff P h key t t2 s x).ob := by
 unfold appendOkB at hb;simp only [Bool.and_eq_true, ltB_ok, Option.isNone_iff_eq_none] at hb;obtain ⟨h1, h2, h3⟩ := hb;unfold appendEff;split at h3
 · simp only [Bool.or_eq_true, ltB_ok] at h3;simp only;cases hE : (srcRows h (tySize P (elemTy P t)) x).2.1.isEmpty with
   | true => exact ⟨h1, srcOkB_ok h2⟩
   | false =>
     rw [hE] at h3;exact ⟨h1, srcOkB_ok h2, (fun hn => by rw [hn] at hE; cases hE), h3.resolve_left (by simp)⟩
 · simp only;split at h3
   · rename_i hq; simp only [hq]; simp only [Bool.and_eq_true, ltB_ok, leB_ok, Nat.beq_eq] at h3;exact ⟨h1, srcOkB_ok h2, h3.1, h3.2.1, h3.2.2⟩
   · cases h3
 · cases h3
def maxsOkB : PV → List PV → Bool
 | _, [] => true
 | .sc (.int k a), .sc (.int k' b) :: rest => decide (k = k') && maxsOkB (.sc (.int k (max a b))) rest
 | _, _ => false
theorem maxsOkB_ok : ∀ {l : List PV} {v : PV}, maxsOkB v l = true → (maxs v l).ob
 | [], _, _ => by unfold maxs; trivial
 | q :: rest, p, h => by
   unfold maxsOkB at h;split at h
   · cases ‹_ :: _ = []›
   · rename_i hc; cases hc;simp only [Bool.and_eq_true, decide_eq_true_eq] at h;unfold maxs;exact ⟨h.1, maxsOkB_ok h.2⟩
   · cases h
def minsOkB : PV → List PV → Bool
 | _, [] => true
 | .sc (.int k a), .sc (.int k' b) :: rest => decide (k = k') && minsOkB (.sc (.int k (min a b))) rest
 | _, _ => false
theorem minsOkB_ok : ∀ {l : List PV} {v : PV}, minsOkB v l = true → (mins v l).ob
 | [], _, _ => by unfold mins; trivial
 | q :: rest, p, h => by
   unfold minsOkB at h;split at h
   · cases ‹_ :: _ = []›
   · rename_i hc; cases hc;simp only [Bool.and_eq_true, decide_eq_true_eq] at h;unfold mins;exact ⟨h.1, minsOkB_ok h.2⟩
   · cases h
def mapDeleteOkB (h : Heap) (t : TypeId) (m k : PV) : Bool :=
 match mapTy P t with
 | some (kt, _) =>
   match m with
   | .map key => match h key with
     | some (.map es _ _) => keyOkB P kt k && es.all (fun e => keyOkB P kt e.1)
     | _ => false
   | _ => false
 | none => false
theorem mapDeleteOkB_ok {h : Heap} {t : TypeId} {m k : PV} (hb : mapDeleteOkB P h t m k = true) : (mapDeleteEff P h t m k).ob := by
 unfold mapDeleteOkB at hb; unfold mapDeleteEff;split at hb
 · rename_i hq; simp only [hq];split at hb
   · split at hb
     · rename_i hq2; simp only [hq2];simp only [Bool.and_eq_true, List.all_eq_true] at hb;exact ⟨keyOkB_ok P hb.1, fun e he => keyOkB_ok P (hb.2 e he)⟩
     · cases hb
   · cases hb
 · cases hb
def copyOkB (h : Heap) (t : TypeId) (s x : PV) : Bool :=
 match s with
 | .ref k sz off len => match h k with
   | some (.rows sz' rs) => sliceOk P t && (srcOkB h (tySize P (elemTy P t)) x && (isSl x && (Nat.beq sz sz' && (Nat.beq sz (tySize P (elemTy P t)) && leB (off + len) rs.length))))
   | _ => false
 | _ => false
theorem copyOkB_ok {h : Heap} {t : TypeId} {s x : PV} (hb : copyOkB P h t s x = true) : (copyEff P h t s x).ob := by
 unfold copyOkB at hb; unfold copyEff;split at hb
 · simp only;split at hb
   · rename_i hq; simp only [hq]; simp only [Bool.and_eq_true, leB_ok, Nat.beq_eq] at hb;exact ⟨hb.1, srcOkB_ok hb.2.1, hb.2.2.1, hb.2.2.2.1, hb.2.2.2.2.1, hb.2.2.2.2.2⟩
   · cases hb
 · cases hb
def builtinOkB (h : Heap) (b : Builtin) (ts : List TypeId) (args : List PV) : Bool :=
 match b, ts, args with
 | .len, t :: _, x :: _ => lenOkB P h t x
 | .append, t :: t2 :: _, s :: x :: _ => appendOkB P h t t2 s x
 | .delete, t :: _, m :: k :: _ => mapDeleteOkB P h t m k
 | .copy, t :: _, s :: x :: _ => copyOkB P h t s x
 | .max, _, x :: rest => maxsOkB x rest
 | .min, _, x :: rest => minsOkB x rest
 | _, _, _ => false
theorem builtinOkB_ok {h : Heap} {key : Key} {b : Builtin} {ts : List TypeId} {args : List PV} (hb : builtinOkB P h b ts args = true) : (builtinEff P h key b ts args).ob := by
 unfold builtinOkB at hb;split at hb
 · exact lenOkB_ok P hb
 · exact appendOkB_ok P hb
 · unfold builtinEff; exact mapDeleteOkB_ok P hb
 · unfold builtinEff; exact copyOkB_ok P hb
 · unfold builtinEff; exact maxsOkB_ok hb
 · unfold builtinEff; exact minsOkB_ok hb
 · cases hb
def boolB : PV → Bool
 | .sc (.bool _) => true
 | _ => false
def ptrB : PV → Bool
 | .ptr .. | .lptr .. => true
 | _ => false
def okB (ρ : Operand → PV) (h : Heap) (o : Op) : Bool :=
 match o with
 | .move _ | .assign _ => true
 | .pick c _ _ => boolB (ρ c)
 | .alloc t => match zeroCellsOf P t with | some z => allocOkB z | none => false
 | .box _ v => allocOkB (pcells (ρ v))
 | .build t parts => buildOkB P t (parts.toList.map fun p => (p.1, ρ p.2))
 | .buildSlice t n parts => buildSliceOkB P t n (parts.toList.map fun p => (p.1, ρ p.2))
 | .load t a => loadOkB P h t (ρ a)
 | .store t a v => storeOkB P h t (ρ a) (ρ v)
 | .nilCheck x => ptrB (ρ x)
 | .binOp op t x y _ => binNOkB P op t (isNilC y) (ρ x) (ρ y)
 | .unOp op _ x => unOkB op (ρ x)
 | .convert s d x => convOkB P s d (ρ x)
 | .makeFunc _ _ _ => true
 | .makeMap _ r => r.isNone
 | .range t x => rangeOkB P h t (ρ x)
 | .next x s => nextOkB h (ρ x) s
 | .entry x => entryOkB h (ρ x)
 | .makeSlice t l c => makeSliceOkB P t (ρ l) (ρ c)
 | .slice t x lo hi mx => sliceOkB P t (ρ x) (lo.map ρ) (hi.map ρ) (mx.map ρ)
 | .fieldAddr t x f => fieldAddrOkB P t (ρ x) f
 | .field t x f => fieldOkB P t (ρ x) f
 | .indexAddr t x i => indexAddrOkB P t (ρ x) (ρ i)
 | .index t x i => indexOkB P t (ρ x) (ρ i)
 | .lookup t m k _ => lookupOkB P h t (ρ m) (ρ k)
 | .mapUpdate t m k v => mapUpdateOkB P h t (ρ m) (ρ k) (ρ v)
 | .mapEntry t m k => mapEntryOkB P h t (ρ m) (ρ k)
 | .entryStore _ m s v => entryStoreOkB h (ρ m) (ρ s) (ρ v)
 | .extract x i => extractOkB (ρ x) i
 | .call { callee := .builtin b, args, argTypes } => builtinOkB P h b argTypes.toList (args.toList.map ρ)
 | _ => false
theorem okB_ok {ρ : Operand → PV} {h : Heap} {key : Key} {o : Op} (hb : okB P ρ h o = true) : (eff P ρ h key o).ob := by
 unfold okB at hb;split at hb
 case h_3 =>
   unfold eff pickEff boolB at *;split at hb
   · rename_i hq; simp only [hq]
   · cases hb
 case h_4 =>
   unfold eff;split at hb
   · rename_i hq; simp only [hq]; exact allocOkB_ok hb
   · cases hb
 all_goals unfold eff
 all_goals first
   | trivial
   | exact allocOkB_ok hb
   | exact buildOkB_ok P hb
   | exact buildSliceOkB_ok P hb
   | exact loadOkB_ok P hb
   | exact storeOkB_ok P hb
   | exact binNOkB_ok P hb
   | exact unOkB_ok hb
   | exact convOkB_ok P hb
   | exact makeSliceOkB_ok P hb
   | exact sliceOkB_ok P hb
   | exact fieldAddrOkB_ok P hb
   | exact fieldOkB_ok P hb
   | exact indexAddrOkB_ok P hb
   | exact indexOkB_ok P hb
   | exact rangeOkB_ok P hb
   | exact nextOkB_ok hb
   | exact entryOkB_ok hb
   | exact lookupOkB_ok P hb
   | exact mapUpdateOkB_ok P hb
   | exact mapEntryOkB_ok P hb
   | exact entryStoreOkB_ok hb
   | exact extractOkB_ok hb
   | exact builtinOkB_ok P hb
   | (cases hb; done)
   | skip
 · unfold ptrB at hb;split at hb
   · rename_i hq; simp only [hq]
   · rename_i hq; simp only [hq]
   · cases hb
end
end Go.Pv
namespace Go.Pv
open Go Go.RowKit
abbrev RL1 := List (Nat × PV)
abbrev RL := List (Nat × RL1)
abbrev HL := List (Key × PObj)
abbrev CL := List (Nat × Nat)
def rGet1 : RL1 → Nat → PV
 | [], _ => .dead
 | (i, v) :: l, t => bif Nat.beq i t then v else rGet1 l t
def rSet1 : RL1 → Nat → PV → RL1
 | [], t, v => [(t, v)]
 | (i, u) :: l, t, v => bif Nat.beq i t then (t, v) :: l else (i, u) :: rSet1 l t v
def bGet : RL → Nat → RL1
 | [], _ => []
 | (i, v) :: l, t => bif Nat.beq i t then v else bGet l t
def bSet : RL → Nat → RL1 → RL
 | [], t, v => [(t, v)]
 | (i, u) :: l, t, v => bif Nat.beq i t then (t, v) :: l else (i, u) :: bSet l t v
def rGet (l : RL) (t : Nat) : PV := rGet1 (bGet l (Nat.shiftRight t 4)) t
def rSet (l : RL) (t : Nat) (v : PV) : RL := bSet l (Nat.shiftRight t 4) (rSet1 (bGet l (Nat.shiftRight t 4)) t v)
def rPut (l : RL) (d : Option Nat) (v : PV) : RL := match d with | some t => rSet l t v | none => l
def keyB (a b : Key) : Bool := Nat.beq a.1 b.1 && Nat.beq a.2 b.2
def hGet : HL → Key → Option PObj
 | [], _ => none
 | (i, v) :: l, t => bif keyB i t then some v else hGet l t
def hDel : HL → Key → HL
 | [], _ => []
 | (i, u) :: l, t => bif keyB i t then hDel l t else (i, u) :: hDel l t
def hSet (l : HL) (k : Key) (o : Option PObj) : HL := match o with | some o => (k, o) :: hDel l k | none => hDel l k
def hWr (l : HL) (wr : List (Key × Option PObj)) : HL := wr.foldl (fun l p => hSet l p.1 p.2) l
def cGet : CL → Nat → Nat
 | [], _ => 0
 | (i, v) :: l, t => bif Nat.beq i t then v else cGet l t
def cBump (l : CL) (t : Nat) (b : Bool) : CL := bif b then (t, cGet l t + 1) :: l.filter (fun p => !Nat.beq p.1 t) else l
theorem keyB_iff {a b : Key} : keyB a b = true ↔ a = b := by
 obtain ⟨a1, a2⟩ := a; obtain ⟨b1, b2⟩ := b;simp [keyB, Prod.ext_iff]
theorem keyB_false {a b : Key} : keyB a b = false ↔ a ≠ b := by
 rw [← Bool.not_eq_true, keyB_iff]
theorem beq_false {a b : Nat} : Nat.beq a b = false ↔ a ≠ b := by
 rw [← Bool.not_eq_true, Nat.beq_eq]
theorem rGet_rSet1 (l : RL1) (t : Nat) (v : PV) : rGet1 (rSet1 l t v) = fun i => if i = t then v else rGet1 l i := by
 funext i;induction l with
 | nil =>
   simp only [rSet1, rGet1];by_cases h : i = t
   · subst h; simp
   · have : Nat.beq t i = false := beq_false.2 (fun e => h e.symm);simp [this, h]
 | cons p l ih =>
   obtain ⟨j, u⟩ := p;simp only [rSet1];cases hj : Nat.beq j t with
   | true =>
     have hj' : j = t := Nat.eq_of_beq_eq_true hj;subst hj';simp only [cond_true, rGet1];by_cases h : i = j
     · subst h; simp
     · have : Nat.beq j i = false := beq_false.2 (fun e => h e.symm);simp [this, h]
   | false =>
     simp only [cond_false, rGet1];cases hi : Nat.beq j i with
     | true =>
       have hi' : j = i := Nat.eq_of_beq_eq_true hi;subst hi';have : j ≠ t := beq_false.1 hj;simp [this]
     | false => simpa using ih
theorem bGet_bSet (l : RL) (t : Nat) (v : RL1) (i : Nat) : bGet (bSet l t v) i = if i = t then v else bGet l i := by
 induction l with
 | nil =>
   simp only [bSet, bGet];by_cases h : i = t
   · subst h; simp
   · have : Nat.beq t i = false := beq_false.2 (fun e => h e.symm);simp [this, h]
 | cons p l ih =>
   obtain ⟨j, u⟩ := p;simp only [bSet];cases hj : Nat.beq j t with
   | true =>
     have hj' : j = t := Nat.eq_of_beq_eq_true hj;subst hj';simp only [cond_true, bGet];by_cases h : i = j
     · subst h; simp
     · have : Nat.beq j i = false := beq_false.2 (fun e => h e.symm);simp [this, h]
   | false =>
     simp only [cond_false, bGet];cases hi : Nat.beq j i with
     | true =>
       have hi' : j = i := Nat.eq_of_beq_eq_true hi;subst hi';have : j ≠ t := beq_false.1 hj;simp [this]
     | false => simpa using ih
theorem rGet_rSet (l : RL) (t : Nat) (v : PV) : rGet (rSet l t v) = fun i => if i = t then v else rGet l i := by
 funext i;unfold rGet rSet;rw [bGet_bSet];by_cases h : Nat.shiftRight i 4 = Nat.shiftRight t 4
 · rw [if_pos h, congrFun (rGet_rSet1 _ t v) i, h]
 · rw [if_neg h, if_neg (fun e => h (by rw [e]))]
theorem rGet_rPut (l : RL) (d : Option Nat) (v : PV) : rGet (rPut l d v) = putR (rGet l) d v := by
 cases d with
 | none => rfl
 | some t => exact rGet_rSet l t v
theorem hGet_hDel (l : HL) (k : Key) (i : Key) : hGet (hDel l k) i = if i = k then none else hGet l i := by
 induction l with
 | nil => simp [hDel, hGet]
 | cons p l ih =>
   obtain ⟨j, u⟩ := p;simp only [hDel];cases hj : keyB j k with
   | true =>
     have hj' : j = k := keyB_iff.1 hj;subst hj';simp only [cond_true, ih, hGet];by_cases h : i = j
     · simp [h]
     · have : keyB j i = false := keyB_false.2 (fun e => h e.symm);simp [this, h]
   | false =>
     simp only [cond_false, hGet];cases hi : keyB j i with
     | true =>
       have hi' : j = i := keyB_iff.1 hi;subst hi';have : j ≠ k := keyB_false.1 hj;simp [this]
     | false => simpa using ih
theorem hGet_hSet (l : HL) (k : Key) (o : Option PObj) : hGet (hSet l k o) = fun i => if i = k then o else hGet l i := by
 funext i;cases o with
 | none => exact hGet_hDel l k i
 | some o =>
   show hGet ((k, o) :: hDel l k) i = _;simp only [hGet, hGet_hDel];by_cases h : i = k
   · subst h;simp [keyB_iff.2 rfl]
   · have : keyB k i = false := keyB_false.2 (fun e => h e.symm);simp [this, h]
theorem hGet_hWr (l : HL) (wr : List (Key × Option PObj)) : hGet (hWr l wr) = applyWr (hGet l) wr := by
 unfold hWr applyWr;induction wr generalizing l with
 | nil => rfl
 | cons p wr ih => simp only [List.foldl_cons]; rw [ih, hGet_hSet]
theorem cGet_filter (l : CL) (t i : Nat) (h : i ≠ t) : cGet (l.filter fun p => !Nat.beq p.1 t) i = cGet l i := by
 induction l with
 | nil => rfl
 | cons p l ih =>
   obtain ⟨j, u⟩ := p;cases hj : Nat.beq j t with
   | true =>
     have hj' : j = t := Nat.eq_of_beq_eq_true hj;subst hj';have : Nat.beq j i = false := beq_false.2 (fun e => h e.symm);simp [cGet, this, ih]
   | false =>
     simp only [List.filter_cons, hj, Bool.not_false, if_true, cGet, ih]
theorem cGet_cBump (l : CL) (t : Nat) (b : Bool) : cGet (cBump l t b) = bumpC (cGet l) t b := by
 cases b with
 | false => rfl
 | true =>
   funext i;simp only [cBump, cond_true, cGet, bumpC, if_true];by_cases h : i = t
   · subst h; simp
   · have : Nat.beq t i = false := beq_false.2 (fun e => h e.symm);simp [this, h, cGet_filter]
structure IS where
 r : RL
 h : HL
 c : CL
def IS.abs (s : IS) : PS := ⟨rGet s.r, hGet s.h, cGet s.c⟩
def stepI (s : IS) (o : Oper) (e : Eff) : IS := ⟨rPut s.r o.dst e.v, hWr s.h e.wr, cBump s.c (siteOf o) e.bump⟩
theorem stepI_abs (s : IS) (o : Oper) (e : Eff) : (stepI s o e).abs = stepS s.abs o e := by
 simp only [stepI, IS.abs, stepS, rGet_rPut, hGet_hWr, cGet_cBump]
abbrev Run := Code → IS → Option (Exit × IS)
structure Goods where
 ok : FuncId → Bool
 orc : FuncId → List PV → HL → CL → Option (PV × HL × CL) := fun _ _ _ _ => none
 iter : FuncId → List PV → HL → Option (List (List PV) × (HL → Bool)) := fun _ _ _ => none
 light : FuncId → Bool := fun _ => false
section
variable (P : Program)
def frameOK (f : FuncId) : Bool :=
 hasBody P f && (match P.funcs[f]? with
   | some fn => match fn.body with
     | some c => inFrame fn.ntmps c && fn.results.toList.all (resScope fn.ntmps)
     | none => false
   | none => false)
def resOfI (s : IS) : ResultVar → Option PV
 | .tmp t => some (rGet s.r t)
 | .cell a t => bif loadOkB P (hGet s.h) t (rGet s.r a) then some (loadEff P (hGet s.h) t (rGet s.r a)).v else none
def resOfsI (s : IS) : List ResultVar → Option (List PV)
 | [] => some []
 | x :: l => match resOfI P s x, resOfsI s l with
   | some v, some vs => some (v :: vs)
   | _, _ => none
def resI (rs : List ResultVar) (s : IS) : Option PV :=
 match rs with
 | [x] => resOfI P s x
 | rs => match resOfsI P s rs with | some vs => some (.tup vs) | none => none
def argsI : Nat → List PV → RL
 | _, [] => []
 | n, v :: l => rSet (argsI (n + 1) l) n v
def callI (good : Goods) (run : Run) (f : FuncId) (args : List PV) (h : HL) (c : CL) : Option (PV × HL × CL) :=
 match P.funcs[f]? with
 | some fn => match fn.body with
   | some code => bif good.ok f && leB args.length fn.ntmps then
       match run code ⟨argsI 0 args, h, c⟩ with
       | some (.normal, s) => match resI P fn.results.toList s with | some v => some (v, s.h, s.c) | none => none
       | some (.ret, s) => match resI P fn.results.toList s with | some v => some (v, s.h, s.c) | none => none
       | _ => none
     else none
   | none => none
 | none => none
def hcallI (good : Goods) (run : Run) (f : FuncId) (args : List PV) (h : HL) (c : CL) : Option (PV × HL × CL) :=
 match good.orc f args h c with
 | some x => some x
 | none => callI P good run f args h c
def pureB : Nat → PV → Bool
 | 0, _ => false
 | n + 1, p => match p with
   | .sc _ | .nil => true
   | .lit _ _ rows | .lptr _ _ rows _ _ => rows.all fun row => row.all (pureB n)
   | .agg cs | .tup cs => cs.all (pureB n)
   | .func _ a c => a.all (pureB n) && c.all (pureB n)
   | _ => false
def cleanB : Nat → PV → Bool
 | 0, _ => false
 | n + 1, p => match p with
   | .sc _ | .nil => true
   | .lit t _ rows => !t && rows.all fun row => row.all (cleanB n)
   | .agg cs | .tup cs => cs.all (cleanB n)
   | _ => false
def mapO {α β : Type} (f : α → Option β) : List α → Option (List β)
 | [] => some []
 | x :: l => match f x, mapO f l with
   | some y, some ys => some (y :: ys)
   | _, _ => none
def inn0I (h : Heap) (p : PV) : Option PV :=
 match p with
 | .ref k sz off len => match h k with
   | some (.rows sz' rs) => bif Nat.beq sz' sz && (leB (off + len) rs.length && ((rs.drop off).take len).all fun row => row.all (pureB 9)) then some (.lit true sz ((rs.drop off).take len)) else none
   | _ => none
 | .ptr k sz i j => match h k with
   | some (.rows sz' rs) => bif Nat.beq sz' sz && rs.all (fun row => row.all (pureB 9)) then some (.lptr true sz rs i j) else none
   | _ => none
 | p => bif pureB 9 p then some p else none
def innI (h : Heap) (p : PV) : Option PV :=
 match p with
 | .func f a c => match mapO (inn0I h) a, mapO (inn0I h) c with | some a, some c => some (.func f a c) | _, _ => none
 | .agg a => match mapO (inn0I h) a with | some a => some (.agg a) | none => none
 | p => inn0I h p
def outI (h : Heap) : Nat → PV → Option PV
 | 0, _ => none
 | n + 1, p => match p with
   | .ref k sz off len => match h k with
     | some (.rows sz' rs) => bif Nat.beq sz' sz && (leB (off + len) rs.length) then
         match mapO (mapO (outI h n)) ((rs.drop off).take len) with
         | some rows => bif rows.all (fun row => Nat.beq row.length sz && row.all PV.cell) && ((rs.drop off).take len).all (fun row => Nat.beq row.length sz) then some (.lit false sz rows) else none
         | none => none
       else none
     | _ => none
   | .agg a => match mapO (outI h n) a with | some a => some (.agg a) | none => none
   | .tup a => match mapO (outI h n) a with | some a => some (.tup a) | none => none
   | p => bif cleanB 9 p then some p else none
def pureCallI (good : Goods) (run : Run) (f : FuncId) (args : List PV) (h : Heap) : Option PV :=
 match mapO (innI h) args with
 | some as' => match callI P good run f as' [] [] with
   | some (v, h', _) => match outI (hGet h') 9 v with
     | some r => bif pureB 9 r then some r else none
     | none => none
   | none => none
 | none => none
def hasK (h : HL) (k : Key) : Bool := h.any fun q => keyB q.1 k
def pOpsI (good : Goods) (run : Run) : List Oper → IS → Option IS
 | [], s => some s
 | o :: rest, s =>
   match callOf (rGet s.r) o.op with
   | none => bif okB P (ev (rGet s.r)) (hGet s.h) o.op then pOpsI good run rest (stepI s o (eff P (ev (rGet s.r)) (hGet s.h) (siteOf o, cGet s.c (siteOf o)) o.op)) else none
   | some (f, args) => bif good.light f then match hcallI P good run f args s.h s.c with
       | some (v, h, c) => pOpsI good run rest ⟨rPut s.r o.dst v, h.filter (fun p => hasK s.h p.1), c⟩
       | none => none
     else match hcallI P good run f args s.h s.c with
     | some (v, h, c) => pOpsI good run rest ⟨rPut s.r o.dst v, h, c⟩
     | none => none
structure GI where
 s : IS
 g : List (Nat × Bool)
def gGet : List (Nat × Bool) → Nat → Bool
 | [], _ => true
 | (i, v) :: l, t => bif Nat.beq i t then v else gGet l t
def gPut (l : List (Nat × Bool)) (d : Option Nat) (c : Bool) : List (Nat × Bool) := match d with | some t => (t, c) :: l | none => l
theorem gGet_gPut (l : List (Nat × Bool)) (d : Option Nat) (c : Bool) : gGet (gPut l d c) = setG (gGet l) d c := by
 cases d with
 | none => rfl
 | some t =>
   funext i;simp only [gPut, gGet, setG];by_cases h : i = t
   · subst h; simp
   · have : Nat.beq t i = false := beq_false.2 (fun e => h e.symm);simp [this, h]
def GI.abs (σ : GI) : GS := ⟨σ.s.abs, gGet σ.g⟩
def okOpndB (G : Nat → Bool) : Operand → Bool
 | .tmp t => G t
 | _ => true
theorem okOpndB_ok {G : Nat → Bool} {x : Operand} (h : okOpndB G x = true) : okOpnd G x := by
 cases x <;> first | exact h | trivial
def validB (r : Nat → PV) (G : Nat → Bool) (o : Op) : Bool :=
 match o with
 | .pick c a b => okOpndB G c && (bif isT (ev r c) then okOpndB G a else okOpndB G b)
 | o => o.operands.toList.all (okOpndB G)
theorem validB_ok {σ : GS} {o : Op} (h : validB σ.s.r σ.G o = true) : valid σ o := by
 unfold validB at h; unfold valid;split at h
 · simp only [Bool.and_eq_true] at h;refine ⟨okOpndB_ok h.1, fun h1 => ?_, fun h1 => ?_⟩
   · rw [h1] at h; exact okOpndB_ok h.2
   · rw [h1] at h; exact okOpndB_ok h.2
 · rename_i hn;split
   · exact (hn _ _ _ rfl).elim
   · intro x hx; exact okOpndB_ok (List.all_eq_true.1 h x hx)
def gobB (ops : Array Oper) (r : Nat → PV) (G : Nat → Bool) (g : Option (Nat × Bool)) : Bool :=
 match g with
 | none => true
 | some (j, _) => match (ops[j]?).bind (·.dst) with
   | some d => bif G d then isB (r d) else true
   | none => true
theorem gobB_ok {ops : Array Oper} {σ : GS} {g : Option (Nat × Bool)} (h : gobB ops σ.s.r σ.G g = true) : gob ops σ g := by
 unfold gobB at h; unfold gob;split at h
 · trivial
 · simp only;split at h
   · rename_i hq; simp only [hq]; intro hG; rw [hG] at h; exact h
   · rename_i hq; simp only [hq]
def disjointB (a b : List Key) : Bool := a.all fun k => b.all fun k' => !keyB k k'
theorem disjointB_ok {a b : List Key} (h : disjointB a b = true) : disjointK a b := by
 intro k hk hk';have := List.all_eq_true.1 (List.all_eq_true.1 h k hk) k hk';rw [keyB_iff.2 rfl] at this; cases this
def scvEq : Value → Value → Bool
 | .int k a, .int k' b => decide (k = k') && decide (a = b)
 | .bool a, .bool b => a == b
 | .string a, .string b => decide (a = b)
 | .pointer none, .pointer none => true
 | .map none, .map none => true
 | _, _ => false
omit P in
theorem scvEq_ok {a b : Value} (h : scvEq a b = true) : a = b := by
 unfold scvEq at h;split at h <;> first | (cases h; done) | rfl | simp_all
def leafEq : PV → PV → Bool
 | .sc a, .sc b => scvEq a b
 | .nil, .nil => true
 | .map k, .map k' => keyB k k'
 | .ref k a b c, .ref k' a' b' c' => keyB k k' && (Nat.beq a a' && (Nat.beq b b' && Nat.beq c c'))
 | .ptr k a b c, .ptr k' a' b' c' => keyB k k' && (Nat.beq a a' && (Nat.beq b b' && Nat.beq c c'))
 | _, _ => false
omit P in
theorem leafEq_ok {a b : PV} (h : leafEq a b = true) : a = b := by
 unfold leafEq at h;split at h <;> first | (cases h; done) | rfl | skip
 · rw [scvEq_ok h]
 · rw [keyB_iff.1 h]
 · simp only [Bool.and_eq_true, keyB_iff, Nat.beq_eq] at h; obtain ⟨rfl, rfl, rfl, rfl⟩ := h; rfl
 · simp only [Bool.and_eq_true, keyB_iff, Nat.beq_eq] at h; obtain ⟨rfl, rfl, rfl, rfl⟩ := h; rfl
def leavesEq : List PV → List PV → Bool
 | [], [] => true
 | a :: as', b :: bs => leafEq a b && leavesEq as' bs
 | _, _ => false
omit P in
theorem leavesEq_ok : ∀ {a b : List PV}, leavesEq a b = true → a = b
 | [], [], _ => rfl
 | [], _ :: _, h => by simp [leavesEq] at h
 | _ :: _, [], h => by simp [leavesEq] at h
 | a :: as', b :: bs, h => by
   simp only [leavesEq, Bool.and_eq_true] at h;rw [leafEq_ok h.1, leavesEq_ok h.2]
def valEq : PV → PV → Bool
 | .agg a, .agg b => leavesEq a b
 | a, b => leafEq a b
omit P in
theorem valEq_ok {a b : PV} (h : valEq a b = true) : a = b := by
 unfold valEq at h;split at h
 · rw [leavesEq_ok h]
 · exact leafEq_ok h
def sameLoadB (hb ha : Heap) (t : TypeId) (p : PV) : Bool := match p with
 | .ptr _ _ _ _ => loadOkB P hb t p && (loadOkB P ha t p && valEq (loadEff P hb t p).v (loadEff P ha t p).v)
 | _ => true
theorem sameLoadB_ok {hb ha : Heap} {t : TypeId} {p : PV} (h : sameLoadB P hb ha t p = true) : loadEff P hb t p = loadEff P ha t p := by
 cases p with
 | ptr k sz i j =>
   simp only [sameLoadB, Bool.and_eq_true] at h;obtain ⟨h1, h2, h3⟩ := h;have o1 := loadOkB_ok P h1;have o2 := loadOkB_ok P h2;have hv := valEq_ok h3;unfold loadEff at o1 o2 hv ⊢;simp only at o1 o2 hv ⊢;split at o1
   · rename_i sz1 rs1 q1;split at o2
     · rename_i sz2 rs2 q2;simp only [q1, q2] at hv o1 o2 ⊢;simp only [Eff.mk.injEq, and_true];exact ⟨propext ⟨fun _ => o2, fun _ => o1⟩, hv⟩
     · exact o2.elim
   · exact o1.elim
 | _ => rfl
structure MX where
 i : Nat
 o : Oper
 c : Bool
 e : Eff
 ft : Foot
 hc : Option (HL × HL × CL)
 r : RL
def MX.abs (x : MX) : XIt := ⟨x.i, x.o, x.c, x.e, x.ft, x.hc.map fun q => (hGet q.1, hGet q.2.1, cGet q.2.2), fun h => eff P (ev (rGet x.r)) h (0, 0) x.o.op⟩
def calmB (x : MX) (hb ha : HL) : Bool :=
 keyless x.o.op && (nilB x.e.wr && (!x.e.bump && (!x.c || (match x.o.op with | .load t a => sameLoadB P (hGet hb) (hGet ha) t (ev (rGet x.r) a) | _ => true))))
theorem calmB_ok {x : MX} {hb ha : HL} (h : calmB P x hb ha = true) : Calm (x.abs P) (hGet hb) (hGet ha) := by
 simp only [calmB, Bool.and_eq_true, Bool.not_eq_true', Bool.or_eq_true] at h;obtain ⟨h1, h2, h3, h4⟩ := h;refine ⟨h1, nilB_ok h2, h3, fun hc => ?_⟩;have hc' : x.c = true := hc;have h5 := h4.resolve_left (by rw [hc']; simp);show eff P (ev (rGet x.r)) (hGet hb) (0, 0) x.o.op = eff P (ev (rGet x.r)) (hGet ha) (0, 0) x.o.op;generalize x.o.op = op at h1 h5 ⊢;cases op <;> first | (simp [keyless] at h1; done) | rfl | exact sameLoadB_ok P h5
def xfreeB (ops : Array Oper) (x y : MX) : Bool := x.o.apart ops y.o && (match x.hc, y.hc with
 | none, none => (siteOf x.o != siteOf y.o || (x.o.dst.isNone && y.o.dst.isNone)) && (disjointB x.ft.wr y.ft.rd && ((softOp x.o.op y.o.op || disjointB y.ft.wr x.ft.rd) && disjointB x.ft.wr y.ft.wr))
 | some (hb, ha, _), none => calmB P y hb ha
 | none, some (hb, ha, _) => calmB P x hb ha
 | some _, some _ => false)
def maskOf (R : List Nat) (j : Nat) (o : Oper) : Nat := o.after.toList.foldl (fun m e => bif Region.binds .any e then (m ||| 1 <<< e.on) ||| (bif Nat.blt e.on j then R.getD e.on 0 else 0) else m) 0
def okR (ops : Array Oper) (R : List Nat) : Bool := (List.range ops.size).all fun j => match ops[j]? with | some o => Nat.beq (R.getD j 0) (maskOf R j o) | none => false
omit P in
theorem mask_bit {R : List Nat} {j p : Nat} : ∀ (l : List Edge) (m : Nat), (l.foldl (fun m e => bif Region.binds .any e then (m ||| 1 <<< e.on) ||| (bif Nat.blt e.on j then R.getD e.on 0 else 0) else m) m).testBit p = true →
   m.testBit p = true ∨ ∃ e ∈ l, Region.binds .any e = true ∧ (e.on = p ∨ (e.on < j ∧ (R.getD e.on 0).testBit p = true))
 | [], m, h => .inl h
 | e :: l, m, h => by
   rw [List.foldl_cons] at h;rcases mask_bit l _ h with h1 | ⟨e', he', h1⟩
   · cases hb : Region.binds .any e with
     | false => rw [hb] at h1; exact .inl h1
     | true =>
       rw [hb] at h1;simp only [cond_true, Nat.testBit_or, Bool.or_eq_true] at h1;rcases h1 with (h1 | h1) | h1
       · exact .inl h1
       · refine .inr ⟨e, by simp, hb, .inl ?_⟩;rw [Nat.testBit_shiftLeft] at h1;simp only [Bool.and_eq_true, decide_eq_true_eq] at h1;have h2 := Nat.testBit_one_eq_true_iff_self_eq_zero.1 h1.2;omega
       · cases hl : Nat.blt e.on j with
         | true =>
           rw [hl] at h1;refine .inr ⟨e, by simp, hb, .inr ⟨?_, h1⟩⟩;unfold Nat.blt at hl;exact Nat.le_of_ble_eq_true hl
         | false => rw [hl] at h1; simp at h1
   · exact .inr ⟨e', by simp [he'], h1⟩
omit P in
theorem okR_waits {ops : Array Oper} {R : List Nat} (hR : okR ops R = true) : ∀ (n j p : Nat), j < n → j < ops.size → (R.getD j 0).testBit p = true → waitsFor ops n j p = true
 | 0, _, _, h, _, _ => absurd h (Nat.not_lt_zero _)
 | n + 1, j, p, hn, hj, hb => by
   have h1 := List.all_eq_true.1 hR j (List.mem_range.2 hj);have ho : ops[j]? = some ops[j] := Array.getElem?_eq_getElem hj;rw [ho] at h1;rw [Nat.eq_of_beq_eq_true h1] at hb;unfold maskOf at hb;rcases mask_bit _ _ hb with h2 | ⟨e, he, hbd, h2⟩
   · simp at h2
   · unfold waitsFor;rw [ho, Option.map_some, Option.getD_some, Array.any_eq_true'];refine ⟨e, by simpa using he, ?_⟩;rw [hbd, Bool.true_and, Bool.or_eq_true];rcases h2 with h2 | ⟨h2, h3⟩
     · left; simpa using h2
     · right; exact okR_waits hR n e.on p (by omega) (by omega) h3
def masksOf (ops : Array Oper) : List Nat := ops.toList.foldl (fun R o => R ++ [maskOf R R.length o]) []
def waitB (ops : Array Oper) (R : List Nat) (j i : Nat) : Bool := Nat.blt j ops.size && (R.getD j 0).testBit i
omit P in
theorem waitB_ok {ops : Array Oper} {R : List Nat} (hR : okR ops R = true) {j i : Nat} (h : waitB ops R j i = true) : waitsFor ops ops.size j i = true := by
 simp only [waitB, Bool.and_eq_true, Nat.blt_eq] at h;exact okR_waits hR ops.size j i h.1 h.1 h.2
def indepB (ops : Array Oper) (R : List Nat) (x y : Foot) : Bool :=
 waitB ops R y.i x.i || ((((do let a ← ops[x.i]?; let b ← ops[y.i]?; pure (a.apart ops b && (siteOf a != siteOf b || (a.dst.isNone && b.dst.isNone)))) : Option Bool).getD false) && (disjointB x.wr y.rd && ((softAt ops x.i y.i || disjointB y.wr x.rd) && disjointB x.wr y.wr)))
theorem indepB_ok {ops : Array Oper} {R : List Nat} (hR : okR ops R = true) {x y : Foot} (h : indepB ops R x y = true) : Indep ops x y := by
 simp only [indepB, Bool.or_eq_true, Bool.and_eq_true] at h;rcases h with h | ⟨h1, h2, h3, h4⟩
 · exact .inl (waitB_ok hR h)
 · exact .inr ⟨h1, disjointB_ok h2, h3.imp id disjointB_ok, disjointB_ok h4⟩
def indepAllB (ops : Array Oper) (R : List Nat) : List Foot → Bool
 | [] => true
 | x :: l => l.all (indepB ops R x) && indepAllB ops R l
theorem indepAllB_ok {ops : Array Oper} {R : List Nat} (hR : okR ops R = true) : ∀ {l : List Foot}, indepAllB ops R l = true → IndepAll ops l
 | [], _ => trivial
 | x :: l, h => by
   simp only [indepAllB, Bool.and_eq_true] at h;exact ⟨fun y hy => indepB_ok hR (List.all_eq_true.1 h.1 y hy), indepAllB_ok hR h.2⟩
def pairB (ops : Array Oper) (i j : Nat) : Bool :=
 waitsFor ops ops.size j i || (((do let a ← ops[i]?; let b ← ops[j]?; pure (a.apart ops b && (siteOf a != siteOf b || (a.dst.isNone && b.dst.isNone)))) : Option Bool).getD false)
def staticB (ops : Array Oper) : Bool := (List.range ops.size).all fun j => (List.range j).all fun i => pairB ops i j
theorem static_indep {ops : Array Oper} (hs : staticB ops = true) : ∀ {tr : List Foot}, tr.Pairwise (fun x y => x.i < y.i) → (∀ y ∈ tr, y.i < ops.size) → (∀ y ∈ tr, y.wr = []) → IndepAll ops tr
 | [], _, _, _ => trivial
 | x :: l, hp, hl, hw => by
   rw [List.pairwise_cons] at hp;refine ⟨fun y hy => ?_, static_indep hs hp.2 (fun y hy => hl y (by simp [hy])) (fun y hy => hw y (by simp [hy]))⟩;have h1 := List.all_eq_true.1 (List.all_eq_true.1 hs y.i (List.mem_range.2 (hl y (by simp [hy])))) x.i (List.mem_range.2 (hp.1 y hy));simp only [pairB, Bool.or_eq_true] at h1;have hx := hw x (by simp);have hy' := hw y (by simp [hy]);rcases h1 with h1 | h1
   · exact .inl h1
   · exact .inr ⟨h1, by rw [hx]; intro k hk; simp at hk, .inr (by rw [hy']; intro k hk; simp at hk), by rw [hx]; intro k hk; simp at hk⟩
def staticM (ops : Array Oper) (R : List Nat) : Bool := (List.range ops.size).all fun j => (List.range j).all fun i => waitB ops R j i || (((do let a ← ops[i]?; let b ← ops[j]?; pure (a.apart ops b && (siteOf a != siteOf b || (a.dst.isNone && b.dst.isNone)))) : Option Bool).getD false)
theorem staticM_ok {ops : Array Oper} {R : List Nat} (hR : okR ops R = true) (h : staticM ops R = true) : staticB ops = true := by
 refine List.all_eq_true.2 fun j hj => List.all_eq_true.2 fun i hi => ?_;have h1 := List.all_eq_true.1 (List.all_eq_true.1 h j hj) i hi;unfold pairB;rw [Bool.or_eq_true] at h1 ⊢;exact h1.imp (waitB_ok hR) id
def trOKR (ops : Array Oper) (R : List Nat) (tr : List Foot) : Bool := okR ops R && bif staticM ops R then (tr.all fun f => nilB f.wr) || indepAllB ops R tr else indepAllB ops R tr
def trOKB (ops : Array Oper) (tr : List Foot) : Bool := trOKR ops (masksOf ops) tr
def TrI (tr : List Foot) (n : Nat) : Prop := tr.Pairwise (fun x y => x.i < y.i) ∧ ∀ y ∈ tr, y.i < n
theorem TrI.nil (n : Nat) : TrI [] n := ⟨.nil, by simp⟩
theorem TrI.step {tr : List Foot} {n : Nat} (h : TrI tr n) (rd wr : List Key) : TrI (tr ++ [⟨n, rd, wr⟩]) (n + 1) := by
 refine ⟨List.pairwise_append.2 ⟨h.1, by simp, fun x hx y hy => ?_⟩, fun y hy => ?_⟩
 · simp at hy; subst hy; exact h.2 x hx
 · rcases List.mem_append.1 hy with hy | hy
   · have := h.2 y hy; omega
   · simp at hy; subst hy; exact Nat.lt_succ_self n
theorem trOKB_ok {ops : Array Oper} {tr : List Foot} {n : Nat} (hm : TrI tr n) (hn : n ≤ ops.size) (h : trOKB ops tr = true) : IndepAll ops tr := by
 unfold trOKB trOKR at h;rw [Bool.and_eq_true] at h;obtain ⟨hR, h⟩ := h;cases hs : staticM ops (masksOf ops) with
 | false => rw [hs] at h; exact indepAllB_ok hR h
 | true =>
   rw [hs] at h;simp only [cond_true, Bool.or_eq_true] at h;rcases h with h | h
   · exact static_indep (staticM_ok hR hs) hm.1 (fun y hy => Nat.lt_of_lt_of_le (hm.2 y hy) hn) (fun y hy => nilB_ok (List.all_eq_true.1 h y hy))
   · exact indepAllB_ok hR h
def finI (ops : List Oper) (s : IS) : IS := { s with r := ops.foldl (fun r o => bif o.guard.isSome then rPut r o.dst .dead else r) s.r }
theorem finI_abs (ops : List Oper) (s : IS) : (finI ops s).abs = fin ops s.abs := by
 simp only [finI, fin, IS.abs];congr 1;generalize s.r = r;induction ops generalizing r with
 | nil => rfl
 | cons o ops ih =>
   simp only [List.foldl_cons];rw [ih];cases o.guard.isSome <;> simp [rGet_rPut]
def gOpsI (good : Goods) (run : Run) (ops : Array Oper) (d : Bool) : List Oper → Nat → GI → List Foot → Option IS
 | [], _, σ, tr => bif !d || trOKB ops tr then some (finI ops.toList σ.s) else none
 | o :: rest, i, σ, tr =>
   bif gobB ops (rGet σ.s.r) (gGet σ.g) o.guard then
     match callOf (rGet σ.s.r) o.op with
     | none =>
       bif gval ops σ.abs o.guard then
         let e := eff P (ev (rGet σ.s.r)) (hGet σ.s.h) (siteOf o, cGet σ.s.c (siteOf o)) o.op
         bif (validB (rGet σ.s.r) (gGet σ.g) o.op && okB P (ev (rGet σ.s.r)) (hGet σ.s.h) o.op) && (!e.bump || o.dst.isSome) then
           gOpsI good run ops d rest (i + 1) ⟨stepI σ.s o e, gPut σ.g o.dst true⟩ (tr ++ [⟨i, e.rd, e.wr.map (·.1)⟩])
         else none
       else gOpsI good run ops d rest (i + 1) ⟨stepI σ.s o (.val True .dead), gPut σ.g o.dst false⟩ (tr ++ [⟨i, [], []⟩])
     | some (f, args) =>
       bif gval ops σ.abs o.guard then
         bif validB (rGet σ.s.r) (gGet σ.g) o.op then
           bif !d || (barrierB ops i && trOKB ops tr) then
             match hcallI P good run f args σ.s.h σ.s.c with
             | some (v, h, c) => gOpsI good run ops d rest (i + 1) ⟨⟨rPut σ.s.r o.dst v, h, c⟩, gPut σ.g o.dst true⟩ []
             | none => none
           else match pureCallI P good run f args (hGet σ.s.h) with
             | some v => gOpsI good run ops d rest (i + 1) ⟨stepI σ.s o (.val True v), gPut σ.g o.dst true⟩ (tr ++ [⟨i, args.flatMap keysOf, []⟩])
             | none => none
         else none
       else gOpsI good run ops d rest (i + 1) ⟨stepI σ.s o (.val True .dead), gPut σ.g o.dst false⟩ (tr ++ [⟨i, args.flatMap keysOf, []⟩])
   else none
theorem xfreeB_ok {ops : Array Oper} {x y : MX} (h : xfreeB P ops x y = true) : XFree ops (x.abs P) (y.abs P) := by
 obtain ⟨xi, xo, xc, xe, xft, xhc, xr⟩ := x;obtain ⟨yi, yo, yc, ye, yft, yhc, yr⟩ := y;simp only [xfreeB, Bool.and_eq_true] at h;obtain ⟨h1, h2⟩ := h;refine ⟨h1, ?_⟩;cases xhc with
 | none =>
   cases yhc with
   | none =>
     simp only [Bool.and_eq_true, Bool.or_eq_true, bne_iff_ne, Option.isNone_iff_eq_none] at h2;exact ⟨h2.1, disjointB_ok h2.2.1, h2.2.2.1.imp id disjointB_ok, disjointB_ok h2.2.2.2⟩
   | some q => obtain ⟨hb, ha, c0⟩ := q; exact calmB_ok P h2
 | some q =>
   obtain ⟨hb, ha, c0⟩ := q;cases yhc with
   | none => exact calmB_ok P h2
   | some _ => cases h2
def xpairB (ops : Array Oper) (R : List Nat) (x y : MX) : Bool := waitB ops R y.i x.i || xfreeB P ops x y
def xpairsB (ops : Array Oper) (R : List Nat) : List MX → Bool
 | [] => true
 | x :: l => l.all (xpairB P ops R x) && xpairsB ops R l
theorem xpairsB_ok {ops : Array Oper} {R : List Nat} (hR : okR ops R = true) : ∀ {l : List MX}, xpairsB P ops R l = true → (l.map (MX.abs P)).Pairwise (XIndep ops)
 | [], _ => .nil
 | x :: l, h => by
   simp only [xpairsB, Bool.and_eq_true] at h;refine List.pairwise_cons.2 ⟨fun y hy => ?_, xpairsB_ok hR h.2⟩;obtain ⟨z, hz, rfl⟩ := List.mem_map.1 hy;have := List.all_eq_true.1 h.1 z hz;simp only [xpairB, Bool.or_eq_true] at this;rcases this with h | h
   · exact .inl (waitB_ok hR h)
   · exact .inr (xfreeB_ok P h)
def xOpsI (good : Goods) (run : Run) (ops : Array Oper) : List Oper → Nat → GI → List MX → Option (IS × List MX)
 | [], _, σ, tr => some (finI ops.toList σ.s, tr)
 | o :: rest, i, σ, tr =>
   bif gobB ops (rGet σ.s.r) (gGet σ.g) o.guard then
     match callOf (rGet σ.s.r) o.op with
     | none =>
       bif gval ops σ.abs o.guard then
         let e := eff P (ev (rGet σ.s.r)) (hGet σ.s.h) (siteOf o, cGet σ.s.c (siteOf o)) o.op
         bif (validB (rGet σ.s.r) (gGet σ.g) o.op && okB P (ev (rGet σ.s.r)) (hGet σ.s.h) o.op) && (!e.bump || o.dst.isSome) then
           xOpsI good run ops rest (i + 1) ⟨stepI σ.s o e, gPut σ.g o.dst true⟩ (tr ++ [⟨i, o, true, e, ⟨i, e.rd, e.wr.map (·.1)⟩, none, σ.s.r⟩])
         else none
       else xOpsI good run ops rest (i + 1) ⟨stepI σ.s o (.val True .dead), gPut σ.g o.dst false⟩ (tr ++ [⟨i, o, false, .val True .dead, ⟨i, [], []⟩, none, σ.s.r⟩])
     | some (f, args) =>
       bif gval ops σ.abs o.guard then
         bif validB (rGet σ.s.r) (gGet σ.g) o.op then
           match hcallI P good run f args σ.s.h σ.s.c with
           | some (v, h, c) => xOpsI good run ops rest (i + 1) ⟨⟨rPut σ.s.r o.dst v, h, c⟩, gPut σ.g o.dst true⟩ (tr ++ [⟨i, o, true, .val True v, ⟨i, [], []⟩, some (σ.s.h, h, c), σ.s.r⟩])
           | none => none
         else none
       else xOpsI good run ops rest (i + 1) ⟨stepI σ.s o (.val True .dead), gPut σ.g o.dst false⟩ (tr ++ [⟨i, o, false, .val True .dead, ⟨i, args.flatMap keysOf, []⟩, none, σ.s.r⟩])
   else none
def xRegI (good : Goods) (run : Run) (ops : Array Oper) (d : Bool) (s : IS) : Option IS :=
 bif d then match xOpsI P good run ops ops.toList 0 ⟨s, []⟩ [] with
   | some (s', tr) => bif okR ops (masksOf ops) && xpairsB P ops (masksOf ops) tr then some s' else none
   | none => none
 else none
def putsI (r : RL) : List Nat → List PV → RL
 | d :: ds, v :: vs => putsI (rPut r (some d) v) ds vs
 | _, _ => r
def rangeI (run : Run) (r : RL) (ps : List Nat) (x y : Code) (chk : HL → Bool) : List (List PV) → HL → CL → Option (HL × CL)
 | [], h, c => bif chk h then some (h, c) else none
 | row :: rest, h, c => bif chk h && Nat.beq row.length ps.length then match run x ⟨putsI r ps row, h, c⟩ with
   | some (.normal, s1) => match run y s1 with
     | some (.normal, s2) => rangeI run r ps x y chk rest s2.h s2.c
     | _ => none
   | _ => none else none
def runStep (good : Goods) (run : Run) : Run := fun c s =>
 match c with
 | .skip => some (.normal, s)
 | .region _ ops d =>
   match (bif noGuards ops && !d then pOpsI P good run ops.toList s else match gOpsI P good run ops d ops.toList 0 ⟨s, []⟩ [] with | some s' => some s' | none => xRegI P good run ops d s) with
   | some s => some (.normal, s)
   | none => none
 | .seq a b => match run a s with
   | some (.normal, s) => run b s
   | o => o
 | .cond c x y => match ev (rGet s.r) c with
   | .sc (.bool b) => bif b then run x s else run y s
   | _ => none
 | .block id c => match run c s with
   | some (.exit i, s) => if i = id then some (.normal, s) else some (.exit i, s)
   | o => o
 | .loop c => match run c s with
   | some (.normal, s) => run (.loop c) s
   | o => o
 | .exit id => some (.exit id, s)
 | .ret => some (.ret, s)
 | .rangeFunc g ps x y => match ev (rGet s.r) g with
   | .func (.func f) [] caps => match good.iter f caps s.h with
     | some (items, chk) => bif roundOK x && roundOK y then match rangeI run s.r ps.toList x y chk items s.h s.c with
       | some (h, c) => some (.normal, ⟨s.r, h, c⟩)
       | none => none else none
     | none => none
   | _ => none
 | _ => none
def prun (good : Goods) (n : Nat) : Run := Nat.rec (motive := fun _ => Run) (fun _ _ => none) (fun _ r => runStep P good r) n
end
end Go.Pv
