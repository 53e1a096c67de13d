/- A machine for closed runs at P level, 1: the obligations of operations as Booleans. -/
import Derived.Test.YtjmjiegplnfiiaaPvR
namespace Go.Pv
open Go Go.RowKit
section
variable (P : Program)

def nilB {α : Type} : List α → Bool
 | [] => true
 | _ => false
theorem nilB_ok {α : Type} {l : List α} (h : nilB l = true) : l = [] := by cases l <;> first | rfl | cases h

def intOkB (op : BinOp) (b : Int) : Bool :=
 match op with
 | .quo | .rem => b != 0
 | .shl | .shr => decide (0 ≤ b)
 | _ => true

def strOkB (op : BinOp) (a b : ByteArray) : Bool :=
 match op with
 | .add => Nat.blt (a.size + b.size) (2 ^ 62)
 | .eql | .neq | .lss | .leq | .gtr | .geq => true
 | _ => false

def eqOkB (t : TypeId) (x y : PV) : Bool :=
 match x, y with
 | .sc (.bool _), .sc (.bool _) => isBoolTy P t
 | .agg a, .agg b => !P.eqGuardType P.depth t && eqOk P 6 t (.agg a) (.agg b)
 | _, _ => false

def binOkB (op : BinOp) (t : TypeId) (x y : PV) : Bool :=
 match x, y with
 | .sc (.int k _a), .sc (.int k' b) => match op with
   | .shl | .shr => intOkB op b
   | op => decide (k = k') && intOkB op b
 | .sc (.string a), .sc (.string b) => strOkB op a b
 | x, y => match op with
   | .eql | .neq => eqOkB P t x y
   | _ => false

theorem intOkB_ok {op : BinOp} {k : IntKind} {a b : Int} (h : intOkB op b = true) : (intBin op k a b).ob := by
 cases op <;> simp_all [intOkB, intBin, Eff.val]

theorem strOkB_ok {op : BinOp} {a b : ByteArray} (h : strOkB op a b = true) : (strBin op a b).ob := by
 cases op <;> simp_all [strOkB, strBin, Eff.val, Nat.blt_eq]

theorem eqOkB_ok {t : TypeId} {x y : PV} {n : Bool} (h : eqOkB P t x y = true) : (eqBin P n t x y).ob := by
 unfold eqOkB at h; split at h
 · exact h
 · simp only [Bool.and_eq_true, Bool.not_eq_true'] at h; exact h
 · cases h

theorem binOkB_ok {op : BinOp} {t : TypeId} {x y : PV} (h : binOkB P op t x y = true) : (binEff P op t x y).ob := by
 unfold binOkB at h
 split at h
 · unfold binEff
   cases op <;> simp only [Bool.and_eq_true, decide_eq_true_eq] at h <;> first | exact ⟨h.1, intOkB_ok h.2⟩ | exact intOkB_ok h
 · exact strOkB_ok h
 · rename_i h1 h2
   unfold binEff
   split
   · exact (h1 _ _ _ _ rfl rfl).elim
   · exact (h2 _ _ rfl rfl).elim
   · cases op <;> first | cases h; done | exact eqOkB_ok P h

def nilOkB (op : BinOp) (t : TypeId) (n : Bool) : Bool :=
 match op with
 | .eql | .neq => n && isSliceTy P t
 | _ => false
theorem nilOkB_ok {op : BinOp} {t : TypeId} {n : Bool} (h : nilOkB P op t n = true) : (nilEff P op t n).ob := by
 unfold nilOkB at h
 split at h
 · simp only [Bool.and_eq_true] at h; exact h
 · simp only [Bool.and_eq_true] at h; exact h
 · cases h
def binNOkB (op : BinOp) (t : TypeId) (n : Bool) (x y : PV) : Bool :=
 match x with
 | .lit _ _ (_ :: _) => nilOkB P op t n
 | .ref _ _ _ (_ + 1) => nilOkB P op t n
 | x => binOkB P op t x y
theorem binNOkB_ok {op : BinOp} {t : TypeId} {n : Bool} {x y : PV} (h : binNOkB P op t n x y = true) : (binEffN P op t n x y).ob := by
 unfold binNOkB at h
 split at h
 · exact nilOkB_ok P h
 · exact nilOkB_ok P h
 · rename_i h1 h2
   unfold binEffN
   split
   · exact (h1 _ _ _ _ rfl).elim
   · exact (h2 _ _ _ _ rfl).elim
   · exact binOkB_ok P h

def unOkB (op : UnOp) (x : PV) : Bool :=
 match op, x with
 | .neg, .sc (.int _ _) => true
 | .not, .sc (.bool _) => true
 | _, _ => false
theorem unOkB_ok {op : UnOp} {x : PV} (h : unOkB op x = true) : (unEff op x).ob := by
 unfold unOkB at h; split at h <;> first | trivial | cases h

def convOkB (src dst : TypeId) (x : PV) : Bool :=
 match x with
 | .sc (.int _ _) => (intKind P dst).isSome && (P.underlying src).isSome
 | .sc (.string _) => if isStringTy P dst then (P.underlying src).isSome else sliceOk P dst && (intKind P (elemTy P dst) == some .u8) && isStringTy P src
 | _ => false
theorem convOkB_ok {s d : TypeId} {x : PV} (h : convOkB P s d x = true) : (convEff P s d x).ob := by
 unfold convOkB at h; unfold convEff
 split at h
 · simp only [Bool.and_eq_true] at h
   cases hk : intKind P d with
   | none => rw [hk] at h; cases h.1
   | some k => exact h.2
 · simp only
   split at h
   · rename_i hd; rw [if_pos hd]; exact h
   · rename_i hd; rw [if_neg hd]
     simp only [Bool.and_eq_true] at h
     rw [if_pos (by simp only [Bool.and_eq_true]; exact h.1)]
     exact h.2
 · cases h

def ltB (a b : Nat) : Bool := Nat.blt a b
def leB (a b : Nat) : Bool := Nat.ble a b
theorem ltB_ok {a b : Nat} : ltB a b = true ↔ a < b := by simp [ltB, Nat.blt_eq]
theorem leB_ok {a b : Nat} : leB a b = true ↔ a ≤ b := by simp [leB]

def loadOkB (h : Heap) (t : TypeId) (a : PV) : Bool :=
 match a with
 | .ptr k _ i j => match h k with
   | some (.rows sz rs) => ltB i rs.length && (leB (j + tySize P t) sz && tyOk P t)
   | _ => false
 | .lptr _ sz rs i j => ltB i rs.length && (leB (j + tySize P t) sz && tyOk P t)
 | _ => false
theorem loadOkB_ok {h : Heap} {t : TypeId} {a : PV} (hb : loadOkB P h t a = true) : (loadEff P h t a).ob := by
 unfold loadOkB at hb; unfold loadEff
 split at hb
 · simp only
   split at hb
   · rename_i hq; simp only [hq]; simp only [Bool.and_eq_true, ltB_ok, leB_ok] at hb; exact hb
   · cases hb
 · simp only [Bool.and_eq_true, ltB_ok, leB_ok] at hb; exact hb
 · cases hb

def storeOkB (h : Heap) (t : TypeId) (a v : PV) : Bool :=
 match a with
 | .ptr k _ i j => match h k with
   | some (.rows sz rs) => ltB i rs.length && (leB (j + tySize P t) sz && (Nat.beq (pcells v).length (tySize P t) && ((pcells v).all PV.cell && tyOk P t)))
   | _ => false
 | _ => false
theorem storeOkB_ok {h : Heap} {t : TypeId} {a v : PV} (hb : storeOkB P h t a v = true) : (storeEff P h t a v).ob := by
 unfold storeOkB at hb; unfold storeEff
 split at hb
 · simp only
   split at hb
   · rename_i hq; simp only [hq]; simp only [Bool.and_eq_true, ltB_ok, leB_ok, Nat.beq_eq] at hb; exact hb
   · cases hb
 · cases hb

def allocOkB (cs : List PV) : Bool := cs.all PV.cell && !nilB cs
theorem allocOkB_ok {key : Key} {cs : List PV} (h : allocOkB cs = true) : (allocEff key cs).ob := by
 simp only [allocOkB, Bool.and_eq_true, Bool.not_eq_true'] at h
 refine ⟨h.1, ?_⟩
 cases cs with
 | nil => cases h.2
 | cons => simp

def fillOkB (pl : List (Nat × Nat × Bool)) (n : Nat) : List (Nat × PV) → Bool
 | [] => true
 | (i, v) :: rest => ltB i pl.length && (Nat.beq (pcells v).length (pl.getD i (0, 0, false)).2.1 && (leB ((pl.getD i (0, 0, false)).1 + (pcells v).length) n && ((pcells v).all PV.cell && fillOkB pl n rest)))
theorem fillOkB_ok {pl : List (Nat × Nat × Bool)} {n : Nat} : ∀ {l : List (Nat × PV)}, fillOkB pl n l = true → fillOk pl n l
 | [], _ => trivial
 | (i, v) :: rest, h => by
   simp only [fillOkB, Bool.and_eq_true, ltB_ok, leB_ok, Nat.beq_eq] at h
   exact ⟨h.1, h.2.1, h.2.2.1, h.2.2.2.1, fillOkB_ok h.2.2.2.2⟩

def buildOkB (t : TypeId) (parts : List (Nat × PV)) : Bool :=
 match zeroCellsOf P t with
 | some z => (structOk P t || (arrOk P t).isSome) && (z.all PV.cell && fillOkB (places P t) z.length parts)
 | none => false
theorem buildOkB_ok {t : TypeId} {parts : List (Nat × PV)} (h : buildOkB P t parts = true) : (buildEff P t parts).ob := by
 unfold buildOkB at h; unfold buildEff
 split at h
 · rename_i hq; simp only [hq]; simp only [Bool.and_eq_true, Bool.or_eq_true] at h
   exact ⟨h.1, h.2.1, fillOkB_ok h.2.2⟩
 · cases h

def fillRowsOkB (n sz : Nat) : List (Nat × PV) → Bool
 | [] => true
 | (i, v) :: rest => ltB i n && (Nat.beq (pcells v).length sz && ((pcells v).all PV.cell && fillRowsOkB n sz rest))
theorem fillRowsOkB_ok {n sz : Nat} : ∀ {l : List (Nat × PV)}, fillRowsOkB n sz l = true → fillRowsOk n sz l
 | [], _ => trivial
 | (i, v) :: rest, h => by
   simp only [fillRowsOkB, Bool.and_eq_true, ltB_ok, Nat.beq_eq] at h
   exact ⟨h.1, h.2.1, h.2.2.1, fillRowsOkB_ok h.2.2.2⟩

def buildSliceOkB (t : TypeId) (n : Nat) (parts : List (Nat × PV)) : Bool :=
 match zeroCellsOf P (elemTy P t) with
 | some z => sliceOk P t && (Nat.beq z.length (tySize P (elemTy P t)) && (leB (n * tySize P (elemTy P t)) (2 ^ 24) && (z.all PV.cell && fillRowsOkB n z.length parts)))
 | none => false
theorem buildSliceOkB_ok {key : Key} {t : TypeId} {n : Nat} {parts : List (Nat × PV)} (h : buildSliceOkB P t n parts = true) : (buildSliceEff P key t n parts).ob := by
 unfold buildSliceOkB at h; unfold buildSliceEff
 split at h
 · rename_i hq; simp only [hq]; simp only [Bool.and_eq_true, leB_ok, Nat.beq_eq] at h
   exact ⟨h.1, h.2.1, h.2.2.1, h.2.2.2.1, fillRowsOkB_ok h.2.2.2.2⟩
 · cases h

def makeSliceOkB (t : TypeId) (l c : PV) : Bool :=
 match l, c with
 | .sc (.int _ L), .sc (.int _ C) => match zeroCellsOf P (elemTy P t) with
   | some z => sliceOk P t && (Nat.beq z.length (tySize P (elemTy P t)) && (z.all PV.cell && (decide (0 ≤ L) && (decide (L ≤ C) && (decide (C < 2 ^ 32) && ltB (P.bytesOf (elemTy P t)) (2 ^ 15))))))
   | none => false
 | _, _ => false
theorem makeSliceOkB_ok {key : Key} {t : TypeId} {l c : PV} (h : makeSliceOkB P t l c = true) : (makeSliceEff P key t l c).ob := by
 unfold makeSliceOkB at h; unfold makeSliceEff
 split at h
 · simp only
   split at h
   · rename_i hq; simp only [hq]; simp only [Bool.and_eq_true, ltB_ok, Nat.beq_eq, decide_eq_true_eq] at h; exact h
   · cases h
 · cases h

def sliceOkB (t : TypeId) (x : PV) (lo hi mx : Option PV) : Bool :=
 match x, mx with
 | .sc (.string s), none => match bound lo (some 0), bound hi (some s.size) with
   | some l, some h => isStringTy P t && (decide (0 ≤ l) && (decide (l ≤ h) && decide (h ≤ s.size)))
   | _, _ => false
 | .lit _ sz rs, none => match bound lo (some 0), bound hi (some rs.length) with
   | some l, some h => sliceOk P t && (Nat.beq (tySize P (elemTy P t)) sz && (decide (0 ≤ l) && (decide (l ≤ h) && decide (h ≤ rs.length))))
   | _, _ => false
 | .ref _ sz _ len, none => match bound lo (some 0), bound hi (some len) with
   | some l, some h => sliceOk P t && (Nat.beq (tySize P (elemTy P t)) sz && (decide (0 ≤ l) && (decide (l ≤ h) && decide (h ≤ len))))
   | _, _ => false
 | .nil, none => match bound lo (some 0), bound hi (some 0) with
   | some l, some h => sliceOk P t && (decide (l = 0) && decide (h = 0))
   | _, _ => false
 | _, _ => false
theorem sliceOkB_ok {t : TypeId} {x : PV} {lo hi mx : Option PV} (hb : sliceOkB P t x lo hi mx = true) : (sliceEff P t x lo hi mx).ob := by
 unfold sliceOkB at hb
 split at hb
 all_goals first
   | cases hb; done
   | (unfold sliceEff
      simp only
      split at hb
      · rename_i hq1 hq2; simp only [hq1, hq2]; simp only [Bool.and_eq_true, Nat.beq_eq, decide_eq_true_eq] at hb; exact hb
      · cases hb)

def fieldAddrOkB (t : TypeId) (x : PV) (f : Nat) : Bool :=
 match x with
 | .ptr .. | .lptr .. => structOk P t && ltB f (places P t).length
 | _ => false
theorem fieldAddrOkB_ok {t : TypeId} {x : PV} {f : Nat} (h : fieldAddrOkB P t x f = true) : (fieldAddrEff P t x f).ob := by
 unfold fieldAddrOkB at h; unfold fieldAddrEff
 split at h
 · simp only [Bool.and_eq_true, ltB_ok] at h; exact h
 · simp only [Bool.and_eq_true, ltB_ok] at h; exact h
 · cases h

def fieldOkB (t : TypeId) (x : PV) (f : Nat) : Bool :=
 match x with
 | .agg cs => structOk P t && (ltB f (places P t).length && leB (((places P t).getD f (0, 0, false)).1 + ((places P t).getD f (0, 0, false)).2.1) cs.length)
 | _ => false
theorem fieldOkB_ok {t : TypeId} {x : PV} {f : Nat} (h : fieldOkB P t x f = true) : (fieldEff P t x f).ob := by
 unfold fieldOkB at h; unfold fieldEff
 split at h
 · simp only [Bool.and_eq_true, ltB_ok, leB_ok] at h; exact h
 · cases h

def indexAddrOkB (t : TypeId) (x ix : PV) : Bool :=
 match ix with
 | .sc (.int _ i) =>
   match x with
   | .lit _ sz rs => sliceOk P t && (Nat.beq (tySize P (elemTy P t)) sz && (decide (0 ≤ i) && decide (i < rs.length)))
   | .ref _ sz _ len => sliceOk P t && (Nat.beq (tySize P (elemTy P t)) sz && (decide (0 ≤ i) && decide (i < len)))
   | .ptr .. => match arrOk P t with
     | some (n, _) => decide (0 ≤ i) && decide (i < n)
     | none => false
   | .lptr .. => match arrOk P t with
     | some (n, _) => decide (0 ≤ i) && decide (i < n)
     | none => false
   | _ => false
 | _ => false
theorem indexAddrOkB_ok {t : TypeId} {x ix : PV} (h : indexAddrOkB P t x ix = true) : (indexAddrEff P t x ix).ob := by
 unfold indexAddrOkB at h; unfold indexAddrEff
 split at h
 · simp only
   split at h
   · simp only [Bool.and_eq_true, Nat.beq_eq, decide_eq_true_eq] at h; exact h
   · simp only [Bool.and_eq_true, Nat.beq_eq, decide_eq_true_eq] at h; exact h
   · simp only
     split at h
     · rename_i hq; simp only [hq]; simp only [Bool.and_eq_true, decide_eq_true_eq] at h; exact h
     · cases h
   · simp only
     split at h
     · rename_i hq; simp only [hq]; simp only [Bool.and_eq_true, decide_eq_true_eq] at h; exact h
     · cases h
   · cases h
 · cases h

def indexOkB (t : TypeId) (x ix : PV) : Bool :=
 match ix with
 | .sc (.int _ i) =>
   match x with
   | .sc (.string s) => isStringTy P t && (decide (0 ≤ i) && decide (i < s.size))
   | .agg cs => match arrOk P t with
     | some (n, e) => decide (0 ≤ i) && (decide (i < n) && Nat.beq cs.length (n * tySize P e))
     | none => false
   | _ => false
 | _ => false
theorem indexOkB_ok {t : TypeId} {x ix : PV} (h : indexOkB P t x ix = true) : (indexEff P t x ix).ob := by
 unfold indexOkB at h; unfold indexEff
 split at h
 · simp only
   split at h
   · simp only [Bool.and_eq_true, decide_eq_true_eq] at h; exact h
   · simp only
     split at h
     · rename_i hq; simp only [hq]; simp only [Bool.and_eq_true, Nat.beq_eq, decide_eq_true_eq] at h; exact h
     · cases h
   · cases h
 · cases h

def keyOkB (kt : TypeId) : PV → Bool
 | .sc (.int k _) => intKind P kt == some k
 | .sc (.string _) => isStringTy P kt
 | .agg cs => keyAgg P kt cs
 | _ => false
theorem keyOkB_ok {kt : TypeId} {p : PV} (h : keyOkB P kt p = true) : keyOk P kt p := by
 unfold keyOkB at h; split at h
 · exact eq_of_beq h
 · exact h
 · exact h
 · cases h

def rangeOkB (h : Heap) (t : TypeId) (x : PV) : Bool :=
 match x with
 | .map key => match h key with
   | some (.map _ _ _) => (mapTy P t).isSome
   | _ => false
 | _ => false

theorem rangeOkB_ok {h : Heap} {key : Key} {t : TypeId} {x : PV} (hb : rangeOkB P h t x = true) : (rangeEff P h key t x).ob := by
 unfold rangeOkB at hb; unfold rangeEff
 split at hb
 · split at hb
   · rename_i hq; simp only [hq]; exact hb
   · cases hb
 · cases hb

def nextOkB (h : Heap) (x : PV) (s : Bool) : Bool :=
 match x with
 | .iter kit => match h kit with
   | some (.iter km since seen) => match h km with
     | some (.map es bs clk) => !s && ((leftOf es bs seen).isEmpty && (Nat.beq clk since && bs.all fun b => Nat.blt b since))
     | _ => false
   | _ => false
 | _ => false

omit P in
theorem nextOkB_ok {h : Heap} {x : PV} {s : Bool} (hb : nextOkB h x s = true) : (nextEff h x s).ob := by
 unfold nextOkB at hb; unfold nextEff
 split at hb
 · split at hb
   · rename_i hq; simp only [hq]
     split at hb
     · rename_i hq2; simp only [hq2]
       simp only [Bool.and_eq_true, Bool.not_eq_true', List.all_eq_true] at hb
       obtain ⟨h1, h2, h3, h4⟩ := hb
       exact ⟨h1, by simpa using h2, Nat.eq_of_beq_eq_true h3, fun b hb => by have := h4 b hb; rwa [Nat.blt_eq] at this⟩
     · cases hb
   · cases hb
 · cases hb

def entryOkB (h : Heap) (x : PV) : Bool :=
 match x with
 | .iter kit => match h kit with
   | some (.iter km since seen) => match h km with
     | some (.map es bs clk) => Nat.beq clk since && (entryOf es bs seen).isSome
     | _ => false
   | _ => false
 | _ => false

omit P in
theorem entryOkB_ok {h : Heap} {x : PV} (hb : entryOkB h x = true) : (entryEff h x).ob := by
 unfold entryOkB at hb; unfold entryEff
 split at hb
 · split at hb
   · rename_i hq; simp only [hq]
     split at hb
     · rename_i hq2; simp only [hq2]
       simp only [Bool.and_eq_true] at hb
       exact ⟨Nat.eq_of_beq_eq_true hb.1, hb.2⟩
     · cases hb
   · cases hb
 · cases hb

def lookupOkB (h : Heap) (t : TypeId) (m k : PV) : Bool :=
 match mapTy P t with
 | some (kt, et) => match m with
   | .map key => match h key with
     | some (.map es _ _) => keyOkB P kt k && (es.all (fun e => keyOkB P kt e.1) && zeroFit P et)
     | _ => false
   | _ => false
 | none => false
theorem lookupOkB_ok {h : Heap} {t : TypeId} {m k : PV} {ok : Bool} (hb : lookupOkB P h t m k = true) : (lookupEff P h t m k ok).ob := by
 unfold lookupOkB at hb; unfold lookupEff
 split at hb
 · rename_i hq; simp only [hq]
   split at hb
   · simp only
     split at hb
     · rename_i hq; simp only [hq]; simp only [Bool.and_eq_true, List.all_eq_true] at hb
       exact ⟨keyOkB_ok P hb.1, fun e he => keyOkB_ok P (hb.2.1 e he), hb.2.2⟩
     · cases hb
   · cases hb
 · cases hb

def mapUpdateOkB (h : Heap) (t : TypeId) (m k v : PV) : Bool :=
 match mapTy P t with
 | some (kt, _) => match m with
   | .map key => match h key with
     | some (.map es _ _) => keyOkB P kt k && (es.all (fun e => keyOkB P kt e.1) && mval v)
     | _ => false
   | _ => false
 | none => false
theorem mapUpdateOkB_ok {h : Heap} {t : TypeId} {m k v : PV} (hb : mapUpdateOkB P h t m k v = true) : (mapUpdateEff P h t m k v).ob := by
 unfold mapUpdateOkB at hb; unfold mapUpdateEff
 split at hb
 · rename_i hq; simp only [hq]
   split at hb
   · simp only
     split at hb
     · rename_i hq; simp only [hq]; simp only [Bool.and_eq_true, List.all_eq_true] at hb
       exact ⟨keyOkB_ok P hb.1, fun e he => keyOkB_ok P (hb.2.1 e he), hb.2.2⟩
     · cases hb
   · cases hb
 · cases hb

def zeroCellB (o : Option PV) (z : PV) : Bool := mval (o.getD z)
def mapEntryOkB (h : Heap) (t : TypeId) (m k : PV) : Bool :=
 match mapTy P t with
 | some (kt, et) => match m with
   | .map key => match h key with
     | some (.map es _ _) => keyOkB P kt k && (es.all (fun e => keyOkB P kt e.1) && (zeroFit P et && zeroCellB (mapFind k es) (zeroVal P et)))
     | _ => false
   | _ => false
 | none => false
theorem mapEntryOkB_ok {h : Heap} {t : TypeId} {m k : PV} (hb : mapEntryOkB P h t m k = true) : (mapEntryEff P h t m k).ob := by
 unfold mapEntryOkB at hb; unfold mapEntryEff
 split at hb
 · rename_i hq; simp only [hq]
   split at hb
   · simp only
     split at hb
     · rename_i hq; simp only [hq]; simp only [Bool.and_eq_true, List.all_eq_true] at hb
       exact ⟨keyOkB_ok P hb.1, fun e he => keyOkB_ok P (hb.2.1 e he), hb.2.2.1, hb.2.2.2⟩
     · cases hb
   · cases hb
 · cases hb

def entryStoreOkB (h : Heap) (m s v : PV) : Bool :=
 match m with
 | .map key => match h key with
   | some (.map es bs _) => match s with
     | .sc (.int _ n) => mval v && (setStamp n v es bs).isSome
     | _ => false
   | _ => false
 | _ => false
omit P in
theorem entryStoreOkB_ok {h : Heap} {m s v : PV} (hb : entryStoreOkB h m s v = true) : (entryStoreEff h m s v).ob := by
 unfold entryStoreOkB at hb; unfold entryStoreEff
 split at hb
 · simp only
   split at hb
   · rename_i hq; simp only [hq]
     split at hb
     · simp only [Bool.and_eq_true] at hb; exact hb
     · cases hb
   · cases hb
 · cases hb

def extractOkB (x : PV) (i : Nat) : Bool :=
 match x with
 | .tup vs => ltB i vs.length
 | _ => false
theorem extractOkB_ok {x : PV} {i : Nat} (h : extractOkB x i = true) : (extractEff x i).ob := by
 unfold extractOkB at h; unfold extractEff
 split at h
 · exact ltB_ok.1 h
 · cases h

def lenOkB (h : Heap) (t : TypeId) (x : PV) : Bool :=
 match x with
 | .sc (.string _) => isStringTy P t
 | .nil | .lit .. | .ref .. => sliceOk P t
 | .map key => match h key with
   | some (.map _ _ _) => (mapTy P t).isSome
   | _ => false
 | _ => false
theorem lenOkB_ok {h : Heap} {t : TypeId} {x : PV} (hb : lenOkB P h t x = true) : (lenEff P h t x).ob := by
 unfold lenOkB at hb; unfold lenEff
 split at hb
 · exact hb
 · exact hb
 · exact hb
 · exact hb
 · simp only
   split at hb
   · rename_i hq; simp only [hq]; exact hb
   · cases hb
 · cases hb

def srcOkB (h : Heap) (sz : Nat) : PV → Bool
 | .nil => true
 | .lit _ sz' _ => Nat.beq sz' sz
 | .ref k sz' off len => match h k with
   | some (.rows _ rs) => Nat.beq sz' sz && leB (off + len) rs.length
   | _ => false
 | .sc (.string _) => Nat.beq sz 1
 | _ => false
theorem srcOkB_ok {h : Heap} {sz : Nat} {x : PV} (hb : srcOkB h sz x = true) : (srcRows h sz x).1 := by
 unfold srcOkB at hb; unfold srcRows
 split at hb
 · trivial
 · exact Nat.eq_of_beq_eq_true hb
 · simp only
   split at hb
   · rename_i hq; simp only [hq]; simp only [Bool.and_eq_true, Nat.beq_eq, leB_ok] at hb; exact hb
   · cases hb
 · exact Nat.eq_of_beq_eq_true hb
 · cases hb

def appendOkB (h : Heap) (t t2 : TypeId) (s x : PV) : Bool :=
 let e := elemTy P t
 (sliceOk P t && (ltB (P.bytesOf e) (2 ^ 15) && ((intKind P t2).isNone && (zeroOk P e && (P.underlying t2).isSome)))) && (srcOkB h (tySize P e) x &&
 match s with
 | .nil => (srcRows h (tySize P e) x).2.1.isEmpty || ltB (srcRows h (tySize P e) x).2.1.length (2 ^ 32)
 | .ref k sz off len => match h k with
   | some (.rows _ rs) => Nat.beq sz (tySize P e) && (leB (off + len) rs.length && ltB (len + (srcRows h (tySize P e) x).2.1.length) (2 ^ 32))
   | _ => false
 | _ => false)
theorem appendOkB_ok {h : Heap} {key : Key} {t t2 : TypeId} {s x : PV} (hb : appendOkB P h t t2 s x = true) : (appendEff P h key t t2 s x).ob := by
 unfold appendOkB at hb
 simp only [Bool.and_eq_true, ltB_ok, Option.isNone_iff_eq_none] at hb
 obtain ⟨h1, h2, h3⟩ := hb
 unfold appendEff
 split at h3
 · simp only [Bool.or_eq_true, ltB_ok] at h3
   simp only
   cases hE : (srcRows h (tySize P (elemTy P t)) x).2.1.isEmpty with
   | true => exact ⟨h1, srcOkB_ok h2⟩
   | false =>
     rw [hE] at h3
     exact ⟨h1, srcOkB_ok h2, (fun hn => by rw [hn] at hE; cases hE), h3.resolve_left (by simp)⟩
 · simp only
   split at h3
   · rename_i hq; simp only [hq]; simp only [Bool.and_eq_true, ltB_ok, leB_ok, Nat.beq_eq] at h3
     exact ⟨h1, srcOkB_ok h2, h3.1, h3.2.1, h3.2.2⟩
   · cases h3
 · cases h3

def maxsOkB : PV → List PV → Bool
 | _, [] => true
 | .sc (.int k a), .sc (.int k' b) :: rest => decide (k = k') && maxsOkB (.sc (.int k (max a b))) rest
 | _, _ => false
theorem maxsOkB_ok : ∀ {l : List PV} {v : PV}, maxsOkB v l = true → (maxs v l).ob
 | [], _, _ => by unfold maxs; trivial
 | q :: rest, p, h => by
   unfold maxsOkB at h
   split at h
   · cases ‹_ :: _ = []›
   · rename_i hc; cases hc
     simp only [Bool.and_eq_true, decide_eq_true_eq] at h
     unfold maxs
     exact ⟨h.1, maxsOkB_ok h.2⟩
   · cases h
def minsOkB : PV → List PV → Bool
 | _, [] => true
 | .sc (.int k a), .sc (.int k' b) :: rest => decide (k = k') && minsOkB (.sc (.int k (min a b))) rest
 | _, _ => false
theorem minsOkB_ok : ∀ {l : List PV} {v : PV}, minsOkB v l = true → (mins v l).ob
 | [], _, _ => by unfold mins; trivial
 | q :: rest, p, h => by
   unfold minsOkB at h
   split at h
   · cases ‹_ :: _ = []›
   · rename_i hc; cases hc
     simp only [Bool.and_eq_true, decide_eq_true_eq] at h
     unfold mins
     exact ⟨h.1, minsOkB_ok h.2⟩
   · cases h

def mapDeleteOkB (h : Heap) (t : TypeId) (m k : PV) : Bool :=
 match mapTy P t with
 | some (kt, _) =>
   match m with
   | .map key => match h key with
     | some (.map es _ _) => keyOkB P kt k && es.all (fun e => keyOkB P kt e.1)
     | _ => false
   | _ => false
 | none => false
theorem mapDeleteOkB_ok {h : Heap} {t : TypeId} {m k : PV} (hb : mapDeleteOkB P h t m k = true) : (mapDeleteEff P h t m k).ob := by
 unfold mapDeleteOkB at hb; unfold mapDeleteEff
 split at hb
 · rename_i hq; simp only [hq]
   split at hb
   · split at hb
     · rename_i hq2; simp only [hq2]
       simp only [Bool.and_eq_true, List.all_eq_true] at hb
       exact ⟨keyOkB_ok P hb.1, fun e he => keyOkB_ok P (hb.2 e he)⟩
     · cases hb
   · cases hb
 · cases hb

def copyOkB (h : Heap) (t : TypeId) (s x : PV) : Bool :=
 match s with
 | .ref k sz off len => match h k with
   | some (.rows sz' rs) => sliceOk P t && (srcOkB h (tySize P (elemTy P t)) x && (isSl x && (Nat.beq sz sz' && (Nat.beq sz (tySize P (elemTy P t)) && leB (off + len) rs.length))))
   | _ => false
 | _ => false
theorem copyOkB_ok {h : Heap} {t : TypeId} {s x : PV} (hb : copyOkB P h t s x = true) : (copyEff P h t s x).ob := by
 unfold copyOkB at hb; unfold copyEff
 split at hb
 · simp only
   split at hb
   · rename_i hq; simp only [hq]; simp only [Bool.and_eq_true, leB_ok, Nat.beq_eq] at hb
     exact ⟨hb.1, srcOkB_ok hb.2.1, hb.2.2.1, hb.2.2.2.1, hb.2.2.2.2.1, hb.2.2.2.2.2⟩
   · cases hb
 · cases hb

def builtinOkB (h : Heap) (b : Builtin) (ts : List TypeId) (args : List PV) : Bool :=
 match b, ts, args with
 | .len, t :: _, x :: _ => lenOkB P h t x
 | .append, t :: t2 :: _, s :: x :: _ => appendOkB P h t t2 s x
 | .delete, t :: _, m :: k :: _ => mapDeleteOkB P h t m k
 | .copy, t :: _, s :: x :: _ => copyOkB P h t s x
 | .max, _, x :: rest => maxsOkB x rest
 | .min, _, x :: rest => minsOkB x rest
 | _, _, _ => false
theorem builtinOkB_ok {h : Heap} {key : Key} {b : Builtin} {ts : List TypeId} {args : List PV} (hb : builtinOkB P h b ts args = true) : (builtinEff P h key b ts args).ob := by
 unfold builtinOkB at hb
 split at hb
 · exact lenOkB_ok P hb
 · exact appendOkB_ok P hb
 · unfold builtinEff; exact mapDeleteOkB_ok P hb
 · unfold builtinEff; exact copyOkB_ok P hb
 · unfold builtinEff; exact maxsOkB_ok hb
 · unfold builtinEff; exact minsOkB_ok hb
 · cases hb

def boolB : PV → Bool
 | .sc (.bool _) => true
 | _ => false

def ptrB : PV → Bool
 | .ptr .. | .lptr .. => true
 | _ => false

def okB (ρ : Operand → PV) (h : Heap) (o : Op) : Bool :=
 match o with
 | .move _ | .assign _ => true
 | .pick c _ _ => boolB (ρ c)
 | .alloc t => match zeroCellsOf P t with | some z => allocOkB z | none => false
 | .box _ v => allocOkB (pcells (ρ v))
 | .build t parts => buildOkB P t (parts.toList.map fun p => (p.1, ρ p.2))
 | .buildSlice t n parts => buildSliceOkB P t n (parts.toList.map fun p => (p.1, ρ p.2))
 | .load t a => loadOkB P h t (ρ a)
 | .store t a v => storeOkB P h t (ρ a) (ρ v)
 | .nilCheck x => ptrB (ρ x)
 | .binOp op t x y _ => binNOkB P op t (isNilC y) (ρ x) (ρ y)
 | .unOp op _ x => unOkB op (ρ x)
 | .convert s d x => convOkB P s d (ρ x)
 | .makeFunc _ _ _ => true
 | .makeMap _ r => r.isNone
 | .range t x => rangeOkB P h t (ρ x)
 | .next x s => nextOkB h (ρ x) s
 | .entry x => entryOkB h (ρ x)
 | .makeSlice t l c => makeSliceOkB P t (ρ l) (ρ c)
 | .slice t x lo hi mx => sliceOkB P t (ρ x) (lo.map ρ) (hi.map ρ) (mx.map ρ)
 | .fieldAddr t x f => fieldAddrOkB P t (ρ x) f
 | .field t x f => fieldOkB P t (ρ x) f
 | .indexAddr t x i => indexAddrOkB P t (ρ x) (ρ i)
 | .index t x i => indexOkB P t (ρ x) (ρ i)
 | .lookup t m k _ => lookupOkB P h t (ρ m) (ρ k)
 | .mapUpdate t m k v => mapUpdateOkB P h t (ρ m) (ρ k) (ρ v)
 | .mapEntry t m k => mapEntryOkB P h t (ρ m) (ρ k)
 | .entryStore _ m s v => entryStoreOkB h (ρ m) (ρ s) (ρ v)
 | .extract x i => extractOkB (ρ x) i
 | .call { callee := .builtin b, args, argTypes } => builtinOkB P h b argTypes.toList (args.toList.map ρ)
 | _ => false

theorem okB_ok {ρ : Operand → PV} {h : Heap} {key : Key} {o : Op} (hb : okB P ρ h o = true) : (eff P ρ h key o).ob := by
 unfold okB at hb
 split at hb
 case h_3 =>
   unfold eff pickEff boolB at *
   split at hb
   · rename_i hq; simp only [hq]
   · cases hb
 case h_4 =>
   unfold eff
   split at hb
   · rename_i hq; simp only [hq]; exact allocOkB_ok hb
   · cases hb
 all_goals unfold eff
 all_goals first
   | trivial
   | exact allocOkB_ok hb
   | exact buildOkB_ok P hb
   | exact buildSliceOkB_ok P hb
   | exact loadOkB_ok P hb
   | exact storeOkB_ok P hb
   | exact binNOkB_ok P hb
   | exact unOkB_ok hb
   | exact convOkB_ok P hb
   | exact makeSliceOkB_ok P hb
   | exact sliceOkB_ok P hb
   | exact fieldAddrOkB_ok P hb
   | exact fieldOkB_ok P hb
   | exact indexAddrOkB_ok P hb
   | exact indexOkB_ok P hb
   | exact rangeOkB_ok P hb
   | exact nextOkB_ok hb
   | exact entryOkB_ok hb
   | exact lookupOkB_ok P hb
   | exact mapUpdateOkB_ok P hb
   | exact mapEntryOkB_ok P hb
   | exact entryStoreOkB_ok hb
   | exact extractOkB_ok hb
   | exact builtinOkB_ok P hb
   | (cases hb; done)
   | skip
 · unfold ptrB at hb
   split at hb
   · rename_i hq; simp only [hq]
   · rename_i hq; simp only [hq]
   · cases hb

end
end Go.Pv
