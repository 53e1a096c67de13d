/- A value-level semantics of the model's code ('P level'): pure values, an own heap by keys, the effect of one operation, regions, code. Definitions alone. -/
import Derived.WalkKit
import Derived.Deep.LoopGhost
namespace Go.Pv
open Go

abbrev Key := Nat × Nat

/-- Values at P level. lit: a slice in memory that does not change while the frame runs (t: it may lie in memory that a caller changes later); ref, ptr: own memory by key; lptr: a pointer into memory that does not change. -/
inductive PV where
 | sc (x : Value)
 | nil
 | lit (t : Bool) (sz : Nat) (rows : List (List PV))
 | ref (k : Key) (sz off len : Nat)
 | ptr (k : Key) (sz row col : Nat)
 | lptr (t : Bool) (sz : Nat) (rows : List (List PV)) (row col : Nat)
 | agg (cs : List PV)
 | tup (vs : List PV)
 | func (f : Fn) (first captured : List PV)
 | map (k : Key)
 | iter (k : Key)
 | dead
 deriving Inhabited

abbrev Rows := List (List PV)

inductive PObj where
 | rows (sz : Nat) (rs : Rows)
 | map (es : List (PV × PV)) (bs : List Nat) (clk : Nat)
 | iter (km : Key) (since : Nat) (seen : List Nat)
 deriving Inhabited

def PObj.kd : PObj → Nat
 | .rows _ _ => 0
 | .map _ _ _ => 1
 | .iter _ _ _ => 2

abbrev Heap := Key → Option PObj

abbrev PV.int (n : Int) : PV := .sc (.int .i64 n)
abbrev PV.bool (b : Bool) : PV := .sc (.bool b)
abbrev PV.str (s : ByteArray) : PV := .sc (.string s)

/-- A value with no address in it, of one cell. -/
def isScalar : Value → Bool
 | .bool _ | .int _ _ | .float _ _ | .complex _ _ _ | .string _ | .pointer none | .map none | .chan none | .nilFunc | .nilIface => true
 | _ => false

def ofCell (v : Value) : PV :=
 match v with
 | .slice none 0 0 => .nil
 | v => if isScalar v then .sc v else .dead

def ofVal (v : Value) : PV :=
 match v with
 | .agg cs => .agg (cs.toList.map ofCell)
 | v => ofCell v

/-! GLOBALS -/
/-- What package-level variables hold, as pointers to pure values (of a seat whose rows list them: its own text stands here). -/
def gpv : Nat → PV := fun _ => .dead
/-! GLOBALS END -/
def ev (r : Nat → PV) : Operand → PV
 | .tmp t => r t
 | .const v => ofVal v
 | .func f => .func (.func f) [] []
 | .global g => gpv g

/-- One cell, which may be stored. -/
def PV.cell : PV → Bool
 | .agg _ | .tup _ | .dead => false
 | _ => true

/-- What may lie in a map: one cell, or a struct or an array of cells. -/
def mval : PV → Bool
 | .agg cs => cs.all PV.cell
 | v => v.cell
theorem mval_cell {v : PV} (h : v.cell = true) : mval v = true := by
 cases v <;> first | exact h | (simp [PV.cell] at h)

def pcells : PV → List PV
 | .agg cs => cs
 | v => [v]

def cellAt (rs : Rows) (i j : Nat) : PV := (rs.getD i []).getD j .dead
def aggAt (rs : Rows) (i j n : Nat) : List PV := ((rs.getD i []).drop j).take n
def setAt (row : List PV) (j : Nat) (cs : List PV) : List PV := row.take j ++ cs ++ row.drop (j + cs.length)
def setRow (rs : Rows) (i j : Nat) (cs : List PV) : Rows := rs.set i (setAt (rs.getD i []) j cs)

section types
variable (P : Program)
def tyAgg (t : TypeId) : Bool := match P.underlying t with | some (.struct _) | some (.array _ _) => true | _ => false
def tySize (t : TypeId) : Nat := P.cellsOf t
/-- The places of the parts of a struct or an array: first cell, number of cells, whether it is an aggregate. -/
def places (t : TypeId) : List (Nat × Nat × Bool) :=
 match P.underlying t with
 | some (.struct fs) => fs.toList.map fun f => (f.offset, P.cellsOf f.type, tyAgg P f.type)
 | some (.array n e) => (List.range n).map fun i => (i * P.cellsOf e, P.cellsOf e, tyAgg P e)
 | _ => []
def zeroCellsOf (t : TypeId) : Option (List PV) :=
 match P.info? t with
 | some i => i.zero.map fun v => v.cells.toList.map ofCell
 | none => none
/-- The element's type of a slice (0: it is none). -/
def elemTy (t : TypeId) : TypeId := match P.underlying t with | some (.slice e) => e | _ => 0
def isSliceTy (t : TypeId) : Bool := match P.underlying t with | some (.slice _) => true | _ => false
def intKind (t : TypeId) : Option IntKind := match P.underlying t with | some (.int k) => some k | _ => none
def isStringTy (t : TypeId) : Bool := match P.underlying t with | some .string => true | _ => false
def isBoolTy (t : TypeId) : Bool := match P.underlying t with | some .bool => true | _ => false
def mapTy (t : TypeId) : Option (TypeId × TypeId) := match P.underlying t with | some (.map k e) => some (k, e) | _ => none
def tyOk (t : TypeId) : Bool := (P.underlying t).isSome && decide (1 ≤ tySize P t)
def sliceOk (t : TypeId) : Bool := isSliceTy P t && tyOk P (elemTy P t)
def zeroOk (t : TypeId) : Bool := match zeroCellsOf P t with | some z => decide (z.length = tySize P t) | none => false
def structOk (t : TypeId) : Bool := match P.underlying t with | some (.struct fs) => fs.all fun f => tyOk P f.type | _ => false
def arrOk (t : TypeId) : Option (Nat × TypeId) := match P.underlying t with | some (.array n e) => if tyOk P e then some (n, e) else none | _ => none
end types

/-- What one operation asks, yields, writes, reads (of the own heap). -/
structure Eff where
 ob : Prop
 v : PV := .dead
 wr : List (Key × Option PObj) := []
 rd : List Key := []
 bump : Bool := false

def Eff.bad : Eff := { ob := False }
abbrev Eff.badAt (k : Key) : Eff := { ob := False, rd := [k] }
abbrev Eff.val (ob : Prop) (v : PV) : Eff := { ob := ob, v := v }

def intBin (op : BinOp) (k : IntKind) (a b : Int) : Eff :=
 match op with
 | .add => .val True (.sc (.int k (k.wrap (a + b))))
 | .sub => .val True (.sc (.int k (k.wrap (a - b))))
 | .mul => .val True (.sc (.int k (k.wrap (a * b))))
 | .quo => .val (b ≠ 0) (.sc (.int k (k.wrap (a.tdiv b))))
 | .rem => .val (b ≠ 0) (.sc (.int k (a.tmod b)))
 | .and => .val True (.sc (.int k (bits .and k a b)))
 | .or => .val True (.sc (.int k (bits .or k a b)))
 | .xor => .val True (.sc (.int k (bits .xor k a b)))
 | .andNot => .val True (.sc (.int k (bits .andNot k a b)))
 | .eql => .val True (.bool (a == b))
 | .neq => .val True (.bool (a != b))
 | .lss => .val True (.bool (decide (a < b)))
 | .leq => .val True (.bool (decide (a ≤ b)))
 | .gtr => .val True (.bool (decide (a > b)))
 | .geq => .val True (.bool (decide (a ≥ b)))
 | .shl => .val (0 ≤ b) (.sc (.int k (k.wrap (a * 2 ^ (min b.toNat k.bits)))))
 | .shr => .val (0 ≤ b) (.sc (.int k (a.fdiv (2 ^ (min b.toNat k.bits)))))

def strBin (op : BinOp) (a b : ByteArray) : Eff :=
 match op with
 | .add => .val (a.size + b.size < 2 ^ 62) (.str (a ++ b))
 | .eql => .val True (.bool (decide (a = b)))
 | .neq => .val True (.bool (!decide (a = b)))
 | .lss => .val True (.bool (Op.bytesLess a.toList b.toList))
 | .leq => .val True (.bool (Op.bytesLess a.toList b.toList || decide (a = b)))
 | .gtr => .val True (.bool (!(Op.bytesLess a.toList b.toList || decide (a = b))))
 | .geq => .val True (.bool (!Op.bytesLess a.toList b.toList))
 | _ => .bad

def partOf (cs : List PV) (pl : Nat × Nat × Bool) : PV := if pl.2.2 then .agg ((cs.drop pl.1).take pl.2.1) else cs.getD pl.1 .dead

def itemPart (P : Program) (cs : List PV) (e : TypeId) (i : Nat) : PV := partOf cs (i * tySize P e, tySize P e, tyAgg P e)

def fieldPart (P : Program) (cs : List PV) (f : Field) : PV := partOf cs (f.offset, tySize P f.type, tyAgg P f.type)

/-- Two values of a type of basic types, structs and arrays of them: they can be compared. -/
def eqOk (P : Program) : Nat → TypeId → PV → PV → Bool
 | 0, _, _, _ => false
 | d + 1, t, x, y =>
   match P.underlying t with
   | some (.int _) => match x, y with | .sc (.int k _), .sc (.int k' _) => decide (k = k') | _, _ => false
   | some .string => match x, y with | .sc (.string _), .sc (.string _) => true | _, _ => false
   | some .bool => match x, y with | .sc (.bool _), .sc (.bool _) => true | _, _ => false
   | some (.struct fs) => match x, y with
     | .agg a, .agg b => Nat.beq a.length b.length && (!P.stoodInHeld t && fs.toList.all fun f => f.name != "_" && (tyOk P f.type && (Nat.ble (f.offset + tySize P f.type) a.length && eqOk P d f.type (fieldPart P a f) (fieldPart P b f))))
     | _, _ => false
   | some (.array n e) => match x, y with
     | .agg a, .agg b => Nat.beq a.length b.length && (tyOk P e && (List.range n).all fun i => Nat.ble (i * tySize P e + tySize P e) a.length && eqOk P d e (itemPart P a e i) (itemPart P b e i))
     | _, _ => false
   | _ => false

def eqV (P : Program) : Nat → TypeId → PV → PV → Bool
 | 0, _, _, _ => false
 | d + 1, t, x, y =>
   match x, y with
   | .sc (.int _ a), .sc (.int _ b) => a == b
   | .sc (.string a), .sc (.string b) => decide (a = b)
   | .sc (.bool a), .sc (.bool b) => a == b
   | .agg a, .agg b => match P.underlying t with
     | some (.struct fs) => fs.toList.all fun f => eqV P d f.type (fieldPart P a f) (fieldPart P b f)
     | some (.array n e) => (List.range n).all fun i => eqV P d e (itemPart P a e i) (itemPart P b e i)
     | _ => false
   | _, _ => false

def eqBin (P : Program) (neg : Bool) (t : TypeId) (x y : PV) : Eff :=
 match x, y with
 | .sc (.bool a), .sc (.bool b) => .val (isBoolTy P t = true) (.bool (xor neg (a == b)))
 | .agg a, .agg b => .val (P.eqGuardType P.depth t = false ∧ eqOk P 6 t (.agg a) (.agg b) = true) (.bool (xor neg (eqV P 6 t (.agg a) (.agg b))))
 | _, _ => .bad

def binEff (P : Program) (op : BinOp) (t : TypeId) (x y : PV) : Eff :=
 match x, y with
 | .sc (.int k a), .sc (.int k' b) =>
   match op with
   | .shl | .shr => intBin op k a b
   | op => { intBin op k a b with ob := k = k' ∧ (intBin op k a b).ob }
 | .sc (.string a), .sc (.string b) => strBin op a b
 | x, y => match op with
   | .eql => eqBin P false t x y
   | .neq => eqBin P true t x y
   | _ => .bad

/-- A slice that holds something, compared with nil. -/
def nilEff (P : Program) (op : BinOp) (t : TypeId) (n : Bool) : Eff :=
 match op with
 | .eql => .val (n = true ∧ isSliceTy P t = true) (.bool false)
 | .neq => .val (n = true ∧ isSliceTy P t = true) (.bool true)
 | _ => .bad

def isNilC : Operand → Bool
 | .const (.slice none 0 0) => true
 | _ => false

def binEffN (P : Program) (op : BinOp) (t : TypeId) (n : Bool) (x y : PV) : Eff :=
 match x with
 | .lit _ _ (_ :: _) => nilEff P op t n
 | .ref _ _ _ (_ + 1) => nilEff P op t n
 | x => binEff P op t x y

def unEff (op : UnOp) (x : PV) : Eff :=
 match op, x with
 | .neg, .sc (.int k n) => .val True (.sc (.int k (k.wrap (0 - n))))
 | .not, .sc (.bool b) => .val True (.bool (!b))
 | _, _ => .bad

def byteRows (l : List UInt8) : Rows := l.map fun b => [.sc (.int .u8 b.toNat)]

def convEff (P : Program) (src dst : TypeId) (x : PV) : Eff :=
 match x with
 | .sc (.int _ n) => match intKind P dst with
   | some k => .val ((P.underlying src).isSome = true) (.sc (.int k (k.wrap n)))
   | none => .bad
 | .sc (.string s) =>
   if isStringTy P dst then .val ((P.underlying src).isSome = true) (.str s)
   else if sliceOk P dst && (intKind P (elemTy P dst) == some .u8) then .val (isStringTy P src = true) (.lit false 1 (byteRows s.data.toList))
   else .bad
 | _ => .bad

def loadEff (P : Program) (h : Heap) (t : TypeId) (a : PV) : Eff :=
 match a with
 | .ptr k _ i j => match h k with
   | some (.rows sz rs) => { ob := i < rs.length ∧ j + tySize P t ≤ sz ∧ tyOk P t = true, v := if tyAgg P t then .agg (aggAt rs i j (tySize P t)) else cellAt rs i j, rd := [k] }
   | _ => .badAt k
 | .lptr _ sz rs i j => .val (i < rs.length ∧ j + tySize P t ≤ sz ∧ tyOk P t = true) (if tyAgg P t then .agg (aggAt rs i j (tySize P t)) else cellAt rs i j)
 | _ => .bad

def storeEff (P : Program) (h : Heap) (t : TypeId) (a v : PV) : Eff :=
 match a with
 | .ptr k _ i j => match h k with
   | some (.rows sz rs) =>
     { ob := i < rs.length ∧ j + tySize P t ≤ sz ∧ (pcells v).length = tySize P t ∧ (pcells v).all PV.cell = true ∧ tyOk P t = true
       wr := [(k, some (.rows sz (setRow rs i j (pcells v))))], rd := [k] }
   | _ => .badAt k
 | _ => .bad

def allocEff (key : Key) (cs : List PV) : Eff :=
 { ob := cs.all PV.cell = true ∧ 1 ≤ cs.length, v := .ptr key cs.length 0 0, wr := [(key, some (.rows cs.length [cs]))], bump := true }

def fillCells (pl : List (Nat × Nat × Bool)) : List PV → List (Nat × PV) → List PV
 | cs, [] => cs
 | cs, (i, v) :: rest => fillCells pl (setAt cs (pl.getD i (0, 0, false)).1 (pcells v)) rest

def fillOk (pl : List (Nat × Nat × Bool)) (n : Nat) : List (Nat × PV) → Prop
 | [] => True
 | (i, v) :: rest => i < pl.length ∧ (pcells v).length = (pl.getD i (0, 0, false)).2.1 ∧ (pl.getD i (0, 0, false)).1 + (pcells v).length ≤ n ∧ (pcells v).all PV.cell = true ∧ fillOk pl n rest

def buildEff (P : Program) (t : TypeId) (parts : List (Nat × PV)) : Eff :=
 match zeroCellsOf P t with
 | some z => .val ((structOk P t = true ∨ (arrOk P t).isSome = true) ∧ z.all PV.cell = true ∧ fillOk (places P t) z.length parts) (.agg (fillCells (places P t) z parts))
 | none => .bad

def fillRows : Rows → List (Nat × PV) → Rows
 | rs, [] => rs
 | rs, (i, v) :: rest => fillRows (rs.set i (pcells v)) rest

def fillRowsOk (n sz : Nat) : List (Nat × PV) → Prop
 | [] => True
 | (i, v) :: rest => i < n ∧ (pcells v).length = sz ∧ (pcells v).all PV.cell = true ∧ fillRowsOk n sz rest

def buildSliceEff (P : Program) (key : Key) (t : TypeId) (n : Nat) (parts : List (Nat × PV)) : Eff :=
 match zeroCellsOf P (elemTy P t) with
 | some z =>
   { ob := sliceOk P t = true ∧ z.length = tySize P (elemTy P t) ∧ n * tySize P (elemTy P t) ≤ 2 ^ 24 ∧ z.all PV.cell = true ∧ fillRowsOk n z.length parts
     v := .ref key z.length 0 n, wr := [(key, some (.rows z.length (fillRows (List.replicate n z) parts)))], bump := true }
 | none => .bad

def makeSliceEff (P : Program) (key : Key) (t : TypeId) (l c : PV) : Eff :=
 match l, c with
 | .sc (.int _ L), .sc (.int _ C) => match zeroCellsOf P (elemTy P t) with
   | some z =>
     { ob := sliceOk P t = true ∧ z.length = tySize P (elemTy P t) ∧ z.all PV.cell = true ∧ 0 ≤ L ∧ L ≤ C ∧ C < 2 ^ 32 ∧ P.bytesOf (elemTy P t) < 2 ^ 15
       v := .ref key z.length 0 L.toNat, wr := [(key, some (.rows z.length (List.replicate L.toNat z)))], bump := true }
   | none => .bad
 | _, _ => .bad

/-- A bound of a slice expression. -/
def bound : Option PV → Option Int → Option Int
 | none, d => d
 | some (.sc (.int _ n)), _ => some n
 | _, _ => none

def sliceRows (rs : Rows) (lo hi : Nat) : Rows := (rs.drop lo).take (hi - lo)

def sliceEff (P : Program) (t : TypeId) (x : PV) (lo hi mx : Option PV) : Eff :=
 match x, mx with
 | .sc (.string s), none => match bound lo (some 0), bound hi (some s.size) with
   | some l, some h => .val (isStringTy P t = true ∧ 0 ≤ l ∧ l ≤ h ∧ h ≤ s.size) (.str (s.extract l.toNat h.toNat))
   | _, _ => .bad
 | .lit tt sz rs, none => match bound lo (some 0), bound hi (some rs.length) with
   | some l, some h => .val (sliceOk P t = true ∧ tySize P (elemTy P t) = sz ∧ 0 ≤ l ∧ l ≤ h ∧ h ≤ rs.length) (.lit tt sz (sliceRows rs l.toNat h.toNat))
   | _, _ => .bad
 | .ref k sz off len, none => match bound lo (some 0), bound hi (some len) with
   | some l, some h => .val (sliceOk P t = true ∧ tySize P (elemTy P t) = sz ∧ 0 ≤ l ∧ l ≤ h ∧ h ≤ len) (.ref k sz (off + l.toNat) (h.toNat - l.toNat))
   | _, _ => .bad
 | .nil, none => match bound lo (some 0), bound hi (some 0) with
   | some l, some h => .val (sliceOk P t = true ∧ l = 0 ∧ h = 0) .nil
   | _, _ => .bad
 | .lit _ _ _, some m => match bound lo (some 0), bound hi none, bound (some m) none with
   | some l, some h, some m => .val (sliceOk P t = true ∧ l = 0 ∧ h = 0 ∧ m = 0) .nil
   | _, _, _ => .bad
 | .ref _ _ _ _, some m => match bound lo (some 0), bound hi none, bound (some m) none with
   | some l, some h, some m => .val (sliceOk P t = true ∧ l = 0 ∧ h = 0 ∧ m = 0) .nil
   | _, _, _ => .bad
 | .nil, some m => match bound lo (some 0), bound hi none, bound (some m) none with
   | some l, some h, some m => .val (sliceOk P t = true ∧ l = 0 ∧ h = 0 ∧ m = 0) .nil
   | _, _, _ => .bad
 | _, _ => .bad

def fieldAddrEff (P : Program) (t : TypeId) (x : PV) (f : Nat) : Eff :=
 match x with
 | .ptr k sz i j => .val (structOk P t = true ∧ f < (places P t).length) (.ptr k sz i (j + ((places P t).getD f (0, 0, false)).1))
 | .lptr tt sz rs i j => .val (structOk P t = true ∧ f < (places P t).length) (.lptr tt sz rs i (j + ((places P t).getD f (0, 0, false)).1))
 | _ => .bad

def fieldEff (P : Program) (t : TypeId) (x : PV) (f : Nat) : Eff :=
 match x with
 | .agg cs => .val (structOk P t = true ∧ f < (places P t).length ∧ ((places P t).getD f (0, 0, false)).1 + ((places P t).getD f (0, 0, false)).2.1 ≤ cs.length) (partOf cs ((places P t).getD f (0, 0, false)))
 | _ => .bad

def indexAddrEff (P : Program) (t : TypeId) (x ix : PV) : Eff :=
 match ix with
 | .sc (.int _ i) =>
   match x with
   | .lit tt sz rs => .val (sliceOk P t = true ∧ tySize P (elemTy P t) = sz ∧ 0 ≤ i ∧ i < rs.length) (.lptr tt sz rs i.toNat 0)
   | .ref k sz off len => .val (sliceOk P t = true ∧ tySize P (elemTy P t) = sz ∧ 0 ≤ i ∧ i < len) (.ptr k sz (off + i.toNat) 0)
   | .ptr k sz a b => match arrOk P t with
     | some (n, e) => .val (0 ≤ i ∧ i < n) (.ptr k sz a (b + i.toNat * tySize P e))
     | none => .bad
   | .lptr tt sz rs a b => match arrOk P t with
     | some (n, e) => .val (0 ≤ i ∧ i < n) (.lptr tt sz rs a (b + i.toNat * tySize P e))
     | none => .bad
   | _ => .bad
 | _ => .bad

def indexEff (P : Program) (t : TypeId) (x ix : PV) : Eff :=
 match ix with
 | .sc (.int _ i) =>
   match x with
   | .sc (.string s) => .val (isStringTy P t = true ∧ 0 ≤ i ∧ i < s.size) (.sc (.int .u8 ((s.data.toList.getD i.toNat 0).toNat)))
   | .agg cs => match arrOk P t with
     | some (n, e) => .val (0 ≤ i ∧ i < n ∧ cs.length = n * tySize P e) (partOf cs (i.toNat * tySize P e, tySize P e, tyAgg P e))
     | none => .bad
   | _ => .bad
 | _ => .bad

/-- Cells of equal scalars. -/
def scEq : PV → PV → Bool
 | .sc (.int _ a), .sc (.int _ b) => a == b
 | .sc (.string a), .sc (.string b) => decide (a = b)
 | .sc (.bool a), .sc (.bool b) => a == b
 | _, _ => false

def scsEq : List PV → List PV → Bool
 | [], [] => true
 | a :: as', b :: bs => scEq a b && scsEq as' bs
 | _, _ => false

/-- Keys of maps: integers, strings, structs of basic types. -/
def keyEq : PV → PV → Bool
 | .sc (.int _ a), .sc (.int _ b) => a == b
 | .sc (.string a), .sc (.string b) => decide (a = b)
 | .agg a, .agg b => scsEq a b
 | _, _ => false

def basicOk (P : Program) (t : TypeId) : PV → Bool
 | .sc (.int k _) => decide (intKind P t = some k)
 | .sc (.string _) => isStringTy P t
 | .sc (.bool _) => isBoolTy P t
 | _ => false

def keyParts (P : Program) : List Field → Nat → List PV → Bool
 | [], _, [] => true
 | f :: fs, i, c :: cs => f.name != "_" && (Nat.beq f.offset i && (Nat.beq (tySize P f.type) 1 && (basicOk P f.type c && keyParts P fs (i + 1) cs)))
 | _, _, _ => false

def keyAgg (P : Program) (kt : TypeId) (cs : List PV) : Bool :=
 match P.underlying kt with
 | some (.struct fs) => !P.stoodInHeld kt && keyParts P fs.toList 0 cs
 | _ => false

def keyOk (P : Program) (kt : TypeId) : PV → Prop
 | .sc (.int k _) => intKind P kt = some k
 | .sc (.string _) => isStringTy P kt = true
 | .agg cs => keyAgg P kt cs = true
 | _ => False

def mapFind (k : PV) : List (PV × PV) → Option PV
 | [] => none
 | e :: es => if keyEq k e.1 then some e.2 else mapFind k es

def mapSet (k v : PV) : List (PV × PV) → List (PV × PV)
 | [] => [(k, v)]
 | e :: es => if keyEq k e.1 then (k, v) :: es else e :: mapSet k v es

def mapDel (k : PV) : List (PV × PV) → List (PV × PV)
 | [] => []
 | e :: es => if keyEq k e.1 then es else e :: mapDel k es

/-- The stamps of a map's entries behind an update, a deletion. -/
def stB (k : PV) (es : List (PV × PV)) (bs : List Nat) (clk : Nat) : List Nat := if (mapFind k es).isSome then bs else bs ++ [clk]
def stC (k : PV) (es : List (PV × PV)) (clk : Nat) : Nat := if (mapFind k es).isSome then clk else clk + 1
def delB (k : PV) : List (PV × PV) → List Nat → List Nat
 | e :: es, b :: bs => if keyEq k e.1 then bs else b :: delB k es bs
 | _, bs => bs

def zeroVal (P : Program) (t : TypeId) : PV :=
 match zeroCellsOf P t with
 | some z => if tyAgg P t then .agg z else z.getD 0 .dead
 | none => .dead

def lookRes (P : Program) (et : TypeId) (ok : Bool) (o : Option PV) : PV :=
 match ok with
 | true => .tup [o.getD (zeroVal P et), .bool o.isSome]
 | false => o.getD (zeroVal P et)

/-- The zero value of a type is as its cells say. -/
def zeroFit (P : Program) (t : TypeId) : Bool :=
 match (P.info? t).bind (·.zero) with
 | some (.agg _) => tyAgg P t
 | some (.tuple _) => false
 | some _ => !tyAgg P t
 | none => false

def lookupEff (P : Program) (h : Heap) (t : TypeId) (m k : PV) (ok : Bool) : Eff :=
 match mapTy P t with
 | some (kt, et) =>
   match m with
   | .map key => match h key with
     | some (.map es _ _) => { ob := keyOk P kt k ∧ (∀ e ∈ es, keyOk P kt e.1) ∧ zeroFit P et = true, v := lookRes P et ok (mapFind k es), rd := [key] }
     | _ => .badAt key
   | _ => .bad
 | none => .bad

def mapUpdateEff (P : Program) (h : Heap) (t : TypeId) (m k v : PV) : Eff :=
 match mapTy P t with
 | some (kt, _) =>
   match m with
   | .map key => match h key with
     | some (.map es bs clk) => { ob := keyOk P kt k ∧ (∀ e ∈ es, keyOk P kt e.1) ∧ mval v = true, wr := [(key, some (.map (mapSet k v es) (stB k es bs clk) (stC k es clk)))], rd := [key] }
     | _ => .badAt key
   | _ => .bad
 | none => .bad

/-- The stamp of the entry of a key. -/
def stampOf (k : PV) : List (PV × PV) → List Nat → Nat → Nat
 | e :: es, b :: bs, clk => if keyEq k e.1 then b else stampOf k es bs clk
 | _, _, clk => clk

/-- The entry of a key, made where there is none: its value and its stamp. -/
def mapEntryEff (P : Program) (h : Heap) (t : TypeId) (m k : PV) : Eff :=
 match mapTy P t with
 | some (kt, et) =>
   match m with
   | .map key => match h key with
     | some (.map es bs clk) => { ob := keyOk P kt k ∧ (∀ e ∈ es, keyOk P kt e.1) ∧ zeroFit P et = true ∧ mval ((mapFind k es).getD (zeroVal P et)) = true, v := .tup [(mapFind k es).getD (zeroVal P et), .int (stampOf k es bs clk)], wr := [(key, some (.map (mapSet k ((mapFind k es).getD (zeroVal P et)) es) (stB k es bs clk) (stC k es clk)))], rd := [key] }
     | _ => .badAt key
   | _ => .bad
 | none => .bad

/-- The value of the entry with a stamp. -/
def setStamp (s : Int) (v : PV) : List (PV × PV) → List Nat → Option (List (PV × PV))
 | e :: es, b :: bs => if (b : Int) == s then some ((e.1, v) :: es) else (setStamp s v es bs).map (e :: ·)
 | _, _ => none

def entryStoreEff (h : Heap) (m s v : PV) : Eff :=
 match m with
 | .map key => match h key with
   | some (.map es bs clk) => match s with
     | .sc (.int _ n) => { ob := mval v = true ∧ (setStamp n v es bs).isSome = true, wr := [(key, some (.map ((setStamp n v es bs).getD []) bs clk))], rd := [key] }
     | _ => .badAt key
   | _ => .badAt key
 | _ => .bad

def mapDeleteEff (P : Program) (h : Heap) (t : TypeId) (m k : PV) : Eff :=
 match mapTy P t with
 | some (kt, _) =>
   match m with
   | .map key => match h key with
     | some (.map es bs clk) => { ob := keyOk P kt k ∧ (∀ e ∈ es, keyOk P kt e.1), v := .tup [], wr := [(key, some (.map (mapDel k es) (delB k es bs) clk))], rd := [key] }
     | _ => .badAt key
   | _ => .bad
 | none => .bad

def extractEff (x : PV) (i : Nat) : Eff :=
 match x with
 | .tup vs => .val (i < vs.length) (vs.getD i .dead)
 | _ => .bad

def lenEff (P : Program) (h : Heap) (t : TypeId) (x : PV) : Eff :=
 match x with
 | .sc (.string s) => .val (isStringTy P t = true) (.int s.size)
 | .nil => .val (sliceOk P t = true) (.int 0)
 | .lit _ _ rs => .val (sliceOk P t = true) (.int rs.length)
 | .ref _ _ _ len => .val (sliceOk P t = true) (.int len)
 | .map key => match h key with
   | some (.map es _ _) => { ob := (mapTy P t).isSome = true, v := .int es.length, rd := [key] }
   | _ => .badAt key
 | _ => .bad

/-- The rows of what is appended or copied, with what must hold and what is read. -/
def srcRows (h : Heap) (sz : Nat) : PV → Prop × Rows × List Key
 | .nil => (True, [], [])
 | .lit _ sz' rs => (sz' = sz, rs, [])
 | .ref k sz' off len => match h k with
   | some (.rows _ rs) => (sz' = sz ∧ off + len ≤ rs.length, (rs.drop off).take len, [k])
   | _ => (False, [], [k])
 | .sc (.string s) => (sz = 1, byteRows s.data.toList, [])
 | _ => (False, [], [])

def appendEff (P : Program) (h : Heap) (key : Key) (t t2 : TypeId) (s x : PV) : Eff :=
 let e := elemTy P t
 let src := srcRows h (tySize P e) x
 let okTy := sliceOk P t = true ∧ P.bytesOf e < 2 ^ 15 ∧ intKind P t2 = none ∧ zeroOk P e = true ∧ (P.underlying t2).isSome = true
 match s with
 | .nil => bif src.2.1.isEmpty then { ob := okTy ∧ src.1, v := .nil, rd := src.2.2 }
   else { ob := okTy ∧ src.1 ∧ src.2.1 ≠ [] ∧ src.2.1.length < 2 ^ 32, v := .ref key (tySize P e) 0 src.2.1.length, wr := [(key, some (.rows (tySize P e) src.2.1))], rd := src.2.2, bump := true }
 | .ref k sz off len => match h k with
   | some (.rows _ rs) =>
     { ob := okTy ∧ src.1 ∧ sz = tySize P e ∧ off + len ≤ rs.length ∧ len + src.2.1.length < 2 ^ 32
       v := .ref key sz 0 (len + src.2.1.length), wr := [(k, none), (key, some (.rows sz ((rs.drop off).take len ++ src.2.1)))], rd := k :: src.2.2, bump := true }
   | _ => { ob := False, rd := k :: src.2.2 }
 | _ => { ob := False, rd := src.2.2 }

def maxs : PV → List PV → Eff
 | v, [] => .val True v
 | .sc (.int k a), .sc (.int k' b) :: rest => let e := maxs (.sc (.int k (max a b))) rest; { e with ob := k = k' ∧ e.ob }
 | _, _ => .bad

def mins : PV → List PV → Eff
 | v, [] => .val True v
 | .sc (.int k a), .sc (.int k' b) :: rest => let e := mins (.sc (.int k (min a b))) rest; { e with ob := k = k' ∧ e.ob }
 | _, _ => .bad

/-- 'clear' of a part of own rows: the rows from there on are forgotten. -/
def clearEff (P : Program) (h : Heap) (t : TypeId) (x : PV) : Eff :=
 match x with
 | .nil => .val (sliceOk P t = true) (.tup [])
 | .ref k sz off len => match h k with
   | some (.rows sz' rs) =>
     { ob := sliceOk P t = true ∧ sz = sz' ∧ tySize P (elemTy P t) = sz ∧ (∃ z, zeroCellsOf P (elemTy P t) = some z ∧ z.all PV.cell = true ∧ z.length = sz) ∧ off + len ≤ rs.length
       v := .tup [], wr := [(k, some (.rows sz' (rs.take off)))], rd := [k] }
   | _ => .badAt k
 | _ => .bad

def isSl : PV → Bool
 | .nil | .lit _ _ _ | .ref _ _ _ _ => true
 | _ => false

/-- 'copy' of rows into own rows. -/
def copyEff (P : Program) (h : Heap) (t : TypeId) (s x : PV) : Eff :=
 let src := srcRows h (tySize P (elemTy P t)) x
 match s with
 | .ref k sz off len => match h k with
   | some (.rows sz' rs) =>
     { ob := sliceOk P t = true ∧ src.1 ∧ isSl x = true ∧ sz = sz' ∧ sz = tySize P (elemTy P t) ∧ off + len ≤ rs.length
       v := .int (Nat.min src.2.1.length len), wr := [(k, some (.rows sz' (rs.take off ++ src.2.1.take len ++ rs.drop (off + Nat.min src.2.1.length len))))], rd := k :: src.2.2 }
   | _ => { ob := False, rd := k :: src.2.2 }
 | _ => { ob := False, rd := src.2.2 }

def builtinEff (P : Program) (h : Heap) (key : Key) (b : Builtin) (ts : List TypeId) (args : List PV) : Eff :=
 match b, ts, args with
 | .len, t :: _, x :: _ => lenEff P h t x
 | .append, t :: t2 :: _, s :: x :: _ => appendEff P h key t t2 s x
 | .delete, t :: _, m :: k :: _ => mapDeleteEff P h t m k
 | .clear, t :: _, x :: _ => clearEff P h t x
 | .copy, t :: _, s :: x :: _ => copyEff P h t s x
 | .max, _, x :: rest => maxs x rest
 | .min, _, x :: rest => mins x rest
 | _, _, _ => .bad

def pickEff (c a b : PV) : Eff :=
 match c with
 | .sc (.bool t) => .val True (if t then a else b)
 | _ => .bad

def boxEff (key : Key) (v : PV) : Eff := allocEff key (pcells v)

/-- The range over a map: an iterator. -/
def rangeEff (P : Program) (h : Heap) (key : Key) (t : TypeId) (x : PV) : Eff :=
 match x with
 | .map km => match h km with
   | some (.map _ _ clk) => { ob := (mapTy P t).isSome = true, v := .iter key, wr := [(key, some (.iter km clk []))], rd := [km], bump := true }
   | _ => .badAt km
 | _ => .bad

/-- The entries that are still to come. -/
def leftOf (es : List (PV × PV)) (bs seen : List Nat) : List ((PV × PV) × Nat) := (es.zip bs).filter fun p => !seen.contains p.2

/-- The next entry, where none is left. -/
def nextEff (h : Heap) (x : PV) (s : Bool) : Eff :=
 match x with
 | .iter kit => match h kit with
   | some (.iter km since seen) => match h km with
     | some (.map es bs clk) => { ob := s = false ∧ leftOf es bs seen = [] ∧ clk = since ∧ ∀ b ∈ bs, b < since, v := .tup [.bool false], rd := [kit, km] }
     | _ => { ob := False, rd := [kit, km] }
   | _ => .badAt kit
 | _ => .bad

/-- The entry that came last. -/
def entryOf (es : List (PV × PV)) (bs seen : List Nat) : Option (PV × PV) :=
 match seen.getLast? with
 | some b => ((es.zip bs).find? fun p => p.2 == b).map (·.1)
 | none => none

def entryEff (h : Heap) (x : PV) : Eff :=
 match x with
 | .iter kit => match h kit with
   | some (.iter km since seen) => match h km with
     | some (.map es bs clk) => { ob := clk = since ∧ (entryOf es bs seen).isSome = true, v := match entryOf es bs seen with | some e => .tup [e.1, e.2] | none => .dead, rd := [kit, km] }
     | _ => { ob := False, rd := [kit, km] }
   | _ => .badAt kit
 | _ => .bad

/-- The effect of an operation that is no call of a function. -/
def eff (P : Program) (ρ : Operand → PV) (h : Heap) (key : Key) (o : Op) : Eff :=
 match o with
 | .move x | .assign x => .val True (ρ x)
 | .pick c a b => pickEff (ρ c) (ρ a) (ρ b)
 | .alloc t => match zeroCellsOf P t with | some z => allocEff key z | none => .bad
 | .box _ v => boxEff key (ρ v)
 | .build t parts => buildEff P t (parts.toList.map fun p => (p.1, ρ p.2))
 | .buildSlice t n parts => buildSliceEff P key t n (parts.toList.map fun p => (p.1, ρ p.2))
 | .load t a => loadEff P h t (ρ a)
 | .store t a v => storeEff P h t (ρ a) (ρ v)
 | .nilCheck x => match ρ x with
   | .ptr k sz i j => .val True (.ptr k sz i j)
   | .lptr t sz rs i j => .val True (.lptr t sz rs i j)
   | _ => .bad
 | .binOp op t x y _ => binEffN P op t (isNilC y) (ρ x) (ρ y)
 | .unOp op _ x => unEff op (ρ x)
 | .convert s d x => convEff P s d (ρ x)
 | .makeFunc fn first cap => .val True (.func fn (first.toList.map ρ) (cap.toList.map ρ))
 | .range t x => rangeEff P h key t (ρ x)
 | .next x s => nextEff h (ρ x) s
 | .entry x => entryEff h (ρ x)
 | .makeMap _ r => { ob := r.isNone = true, v := .map key, wr := [(key, some (.map [] [] 0))], bump := true }
 | .makeSlice t l c => makeSliceEff P key t (ρ l) (ρ c)
 | .slice t x lo hi mx => sliceEff P t (ρ x) (lo.map ρ) (hi.map ρ) (mx.map ρ)
 | .fieldAddr t x f => fieldAddrEff P t (ρ x) f
 | .field t x f => fieldEff P t (ρ x) f
 | .indexAddr t x i => indexAddrEff P t (ρ x) (ρ i)
 | .index t x i => indexEff P t (ρ x) (ρ i)
 | .lookup t m k ok => lookupEff P h t (ρ m) (ρ k) ok
 | .mapUpdate t m k v => mapUpdateEff P h t (ρ m) (ρ k) (ρ v)
 | .mapEntry t m k => mapEntryEff P h t (ρ m) (ρ k)
 | .entryStore _ m s v => entryStoreEff h (ρ m) (ρ s) (ρ v)
 | .extract x i => extractEff (ρ x) i
 | .call { callee := .builtin b, args, argTypes } => builtinEff P h key b argTypes.toList (args.toList.map ρ)
 | _ => .bad

end Go.Pv
