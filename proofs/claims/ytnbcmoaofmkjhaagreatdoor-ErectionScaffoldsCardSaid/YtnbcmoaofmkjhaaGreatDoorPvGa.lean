import Derived.WalkKit
import Derived.Deep.LoopGhost
import Derived.Laws.BytesArg
import Derived.Laws.Cover3
set_option linter.unusedSimpArgs false
set_option linter.unusedVariables false
namespace Go.Pv
open Go
abbrev Key := Nat × Nat
inductive PV where
 | sc (x : Value)
 | nil
 | lit (t : Bool) (sz : Nat) (rows : List (List PV))
 | ref (k : Key) (sz off len : Nat)
 | ptr (k : Key) (sz row col : Nat)
 | lptr (t : Bool) (sz : Nat) (rows : List (List PV)) (row col : Nat)
 | agg (cs : List PV)
 | tup (vs : List PV)
 | func (f : Fn) (first captured : List PV)
 | map (k : Key)
 | iter (k : Key)
 | dead
 deriving Inhabited
abbrev Rows := List (List PV)
inductive PObj where
 | rows (sz : Nat) (rs : Rows)
 | map (es : List (PV × PV)) (bs : List Nat) (clk : Nat)
 | iter (km : Key) (since : Nat) (seen : List Nat)
 deriving Inhabited
def PObj.kd : PObj → Nat
 | .rows _ _ => 0
 | .map _ _ _ => 1
 | .iter _ _ _ => 2
abbrev Heap := Key → Option PObj
abbrev PV.int (n : Int) : PV := .sc (.int .i64 n)
abbrev PV.bool (b : Bool) : PV := .sc (.bool b)
abbrev PV.str (s : ByteArray) : PV := .sc (.string s)
def zBM : Value → Bool
 | .bool _ | .int _ _ | .float _ _ | .complex _ _ _ | .string _ | .pointer none | .map none | .chan none | .nilFunc | .nilIface => true
 | _ => false
def zI1 (v : Value) : PV :=
 match v with
 | .slice none 0 0 => .nil
 | v => if zBM v then .sc v else .dead
def ofVal (v : Value) : PV :=
 match v with
 | .agg cs => .agg (cs.toList.map zI1)
 | v => zI1 v
def g32 : List PV := [0, 1, 28, 2, 29, 14, 24, 3, 30, 22, 20, 15, 25, 17, 4, 8, 31, 27, 13, 23, 21, 19, 16, 7, 26, 12, 18, 6, 11, 5, 10, 9].map fun n : Int => .sc (.int .u8 n)
def g64 : List PV := [0, 1, 56, 2, 57, 49, 28, 3, 61, 58, 42, 50, 38, 29, 17, 4, 62, 47, 59, 36, 45, 43, 51, 22, 53, 39, 33, 30, 24, 18, 12, 5, 63, 55, 48, 27, 60, 41, 37, 16, 46, 35, 44, 21, 52, 32, 23, 11, 54, 26, 40, 15, 34, 20, 31, 10, 25, 14, 19, 9, 13, 8, 7, 6].map fun n : Int => .sc (.int .u8 n)
def g20 : List PV := [1, 10, 100, 1000, 10000, 100000, 1000000, 10000000, 100000000, 1000000000, 10000000000, 100000000000, 1000000000000, 10000000000000, 100000000000000, 1000000000000000, 10000000000000000, 100000000000000000, 1000000000000000000, 10000000000000000000].map fun n : Int => .sc (.int .u64 n)
def gpv : Nat → PV
 | 0 => .lptr true 20 [g20] 0 0
 | 1 => .lptr true 32 [g32] 0 0
 | 2 => .lptr true 64 [g64] 0 0
 | _ => .dead
def gex : List Nat := []
def gprop : Nat → Option Obj → Prop := fun _ _ => True
def ev (r : Nat → PV) : Operand → PV
 | .tmp t => r t
 | .const v => ofVal v
 | .func f => .func (.func f) [] []
 | .global g => gpv g
def PV.cell : PV → Bool
 | .agg _ | .tup _ | .dead => false
 | _ => true
def mval : PV → Bool
 | .agg cs => cs.all PV.cell
 | v => v.cell
theorem mval_cell {v : PV} (h : v.cell = true) : mval v = true := by
 cases v <;> first | exact h | (simp [PV.cell] at h)
def zBf : PV → List PV
 | .agg cs => cs
 | v => [v]
def zCZ (rs : Rows) (i j : Nat) : PV := (rs.getD i []).getD j .dead
def aggAt (rs : Rows) (i j n : Nat) : List PV := ((rs.getD i []).drop j).take n
def zDH (rs : Rows) (i j n d : Nat) : Rows := (List.range n).map fun a => aggAt rs i (j + a * d) d
def setAt (row : List PV) (j : Nat) (cs : List PV) : List PV := row.take j ++ cs ++ row.drop (j + cs.length)
def setRow (rs : Rows) (i j : Nat) (cs : List PV) : Rows := rs.set i (setAt (rs.getD i []) j cs)
section types
variable (P : Program)
def tyAgg (t : TypeId) : Bool := match P.underlying t with | some (.struct _) | some (.array _ _) => true | _ => false
def zAr (t : TypeId) : Nat := P.cellsOf t
def zBp (t : TypeId) : List (Nat × Nat × Bool) :=
 match P.underlying t with
 | some (.struct fs) => fs.toList.map fun f => (f.offset, P.cellsOf f.type, tyAgg P f.type)
 | some (.array n e) => (List.range n).map fun i => (i * P.cellsOf e, P.cellsOf e, tyAgg P e)
 | _ => []
def zAT (t : TypeId) : Option (List PV) :=
 match P.info? t with
 | some i => i.zero.map fun v => v.cells.toList.map zI1
 | none => none
def zAu (t : TypeId) : TypeId := match P.underlying t with | some (.slice e) => e | _ => 0
def zCv (t : TypeId) : Bool := match P.underlying t with | some (.slice _) => true | _ => false
def zBm (t : TypeId) : Option IntKind := match P.underlying t with | some (.int k) => some k | _ => none
def zAW (t : TypeId) : Bool := match P.underlying t with | some .string => true | _ => false
def zEO (t : TypeId) : Bool := match P.underlying t with | some .bool => true | _ => false
def mapTy (t : TypeId) : Option (TypeId × TypeId) := match P.underlying t with | some (.map k e) => some (k, e) | _ => none
def tyOk (t : TypeId) : Bool := (P.underlying t).isSome && decide (1 ≤ zAr P t)
def zAN (t : TypeId) : Bool := zCv P t && tyOk P (zAu P t)
def zEg (t : TypeId) : Bool := match zAT P t with | some z => decide (z.length = zAr P t) | none => false
def zBG (t : TypeId) : Bool := match P.underlying t with | some (.struct fs) => fs.all fun f => tyOk P f.type | _ => false
def arrOk (t : TypeId) : Option (Nat × TypeId) := match P.underlying t with | some (.array n e) => if tyOk P e then some (n, e) else none | _ => none
end types
structure Eff where
 ob : Prop
 v : PV := .dead
 wr : List (Key × Option PObj) := []
 rd : List Key := []
 bump : Bool := false
def Eff.bad : Eff := { ob := False }
abbrev Eff.badAt (k : Key) : Eff := { ob := False, rd := [k] }
abbrev Eff.val (ob : Prop) (v : PV) : Eff := { ob := ob, v := v }
def zCg (op : BinOp) (k : IntKind) (a b : Int) : Eff :=
 match op with
 | .add => .val True (.sc (.int k (k.wrap (a + b))))
 | .sub => .val True (.sc (.int k (k.wrap (a - b))))
 | .mul => .val True (.sc (.int k (k.wrap (a * b))))
 | .quo => .val (b ≠ 0) (.sc (.int k (k.wrap (a.tdiv b))))
 | .rem => .val (b ≠ 0) (.sc (.int k (a.tmod b)))
 | .and => .val True (.sc (.int k (bits .and k a b)))
 | .or => .val True (.sc (.int k (bits .or k a b)))
 | .xor => .val True (.sc (.int k (bits .xor k a b)))
 | .andNot => .val True (.sc (.int k (bits .andNot k a b)))
 | .eql => .val True (.bool (a == b))
 | .neq => .val True (.bool (a != b))
 | .lss => .val True (.bool (decide (a < b)))
 | .leq => .val True (.bool (decide (a ≤ b)))
 | .gtr => .val True (.bool (decide (a > b)))
 | .geq => .val True (.bool (decide (a ≥ b)))
 | .shl => .val (0 ≤ b) (.sc (.int k (k.wrap (a * 2 ^ (min b.toNat k.bits)))))
 | .shr => .val (0 ≤ b) (.sc (.int k (a.fdiv (2 ^ (min b.toNat k.bits)))))
def zG8 (op : BinOp) (a b : ByteArray) : Eff :=
 match op with
 | .add => .val (a.size + b.size < 2 ^ 62) (.str (a ++ b))
 | .eql => .val True (.bool (decide (a = b)))
 | .neq => .val True (.bool (!decide (a = b)))
 | .lss => .val True (.bool (Op.bytesLess a.toList b.toList))
 | .leq => .val True (.bool (Op.bytesLess a.toList b.toList || decide (a = b)))
 | .gtr => .val True (.bool (!(Op.bytesLess a.toList b.toList || decide (a = b))))
 | .geq => .val True (.bool (!Op.bytesLess a.toList b.toList))
 | _ => .bad
def zFt (cs : List PV) (pl : Nat × Nat × Bool) : PV := if pl.2.2 then .agg ((cs.drop pl.1).take pl.2.1) else cs.getD pl.1 .dead
def zC9 (P : Program) (cs : List PV) (e : TypeId) (i : Nat) : PV := zFt cs (i * zAr P e, zAr P e, tyAgg P e)
def zCk (P : Program) (cs : List PV) (f : Field) : PV := zFt cs (f.offset, zAr P f.type, tyAgg P f.type)
def eqOk (P : Program) : Nat → TypeId → PV → PV → Bool
 | 0, _, _, _ => false
 | d + 1, t, x, y =>
   match P.underlying t with
   | some (.int _) => match x, y with | .sc (.int k _), .sc (.int k' _) => decide (k = k') | _, _ => false
   | some .string => match x, y with | .sc (.string _), .sc (.string _) => true | _, _ => false
   | some .bool => match x, y with | .sc (.bool _), .sc (.bool _) => true | _, _ => false
   | some (.struct fs) => match x, y with
     | .agg a, .agg b => Nat.beq a.length b.length && (!P.stoodInHeld t && fs.toList.all fun f => f.name != "_" && (tyOk P f.type && (Nat.ble (f.offset + zAr P f.type) a.length && eqOk P d f.type (zCk P a f) (zCk P b f))))
     | _, _ => false
   | some (.array n e) => match x, y with
     | .agg a, .agg b => Nat.beq a.length b.length && (tyOk P e && (List.range n).all fun i => Nat.ble (i * zAr P e + zAr P e) a.length && eqOk P d e (zC9 P a e i) (zC9 P b e i))
     | _, _ => false
   | _ => false
def eqV (P : Program) : Nat → TypeId → PV → PV → Bool
 | 0, _, _, _ => false
 | d + 1, t, x, y =>
   match x, y with
   | .sc (.int _ a), .sc (.int _ b) => a == b
   | .sc (.string a), .sc (.string b) => decide (a = b)
   | .sc (.bool a), .sc (.bool b) => a == b
   | .agg a, .agg b => match P.underlying t with
     | some (.struct fs) => fs.toList.all fun f => eqV P d f.type (zCk P a f) (zCk P b f)
     | some (.array n e) => (List.range n).all fun i => eqV P d e (zC9 P a e i) (zC9 P b e i)
     | _ => false
   | _, _ => false
def eqBin (P : Program) (neg : Bool) (t : TypeId) (x y : PV) : Eff :=
 match x, y with
 | .sc (.bool a), .sc (.bool b) => .val (zEO P t = true) (.bool (xor neg (a == b)))
 | .agg a, .agg b => .val (P.eqGuardType P.depth t = false ∧ eqOk P 6 t (.agg a) (.agg b) = true) (.bool (xor neg (eqV P 6 t (.agg a) (.agg b))))
 | _, _ => .bad
def zBQ (P : Program) (op : BinOp) (t : TypeId) (x y : PV) : Eff :=
 match x, y with
 | .sc (.int k a), .sc (.int k' b) =>
   match op with
   | .shl | .shr => zCg op k a b
   | op => { zCg op k a b with ob := k = k' ∧ (zCg op k a b).ob }
 | .sc (.string a), .sc (.string b) => zG8 op a b
 | x, y => match op with
   | .eql => eqBin P false t x y
   | .neq => eqBin P true t x y
   | _ => .bad
def zHU (P : Program) (op : BinOp) (t : TypeId) (n : Bool) : Eff :=
 match op with
 | .eql => .val (n = true ∧ zCv P t = true) (.bool false)
 | .neq => .val (n = true ∧ zCv P t = true) (.bool true)
 | _ => .bad
def zHW : Operand → Bool
 | .const (.slice none 0 0) => true
 | _ => false
def zBl (P : Program) (op : BinOp) (t : TypeId) (n : Bool) (x y : PV) : Eff :=
 match x with
 | .lit _ _ (_ :: _) => zHU P op t n
 | .ref _ _ _ (_ + 1) => zHU P op t n
 | x => zBQ P op t x y
def unEff (op : UnOp) (x : PV) : Eff :=
 match op, x with
 | .neg, .sc (.int k n) => .val True (.sc (.int k (k.wrap (0 - n))))
 | .not, .sc (.bool b) => .val True (.bool (!b))
 | _, _ => .bad
def zBX (l : List UInt8) : Rows := l.map fun b => [.sc (.int .u8 b.toNat)]
def zEw (P : Program) (src dst : TypeId) (x : PV) : Eff :=
 match x with
 | .sc (.int _ n) => match zBm P dst with
   | some k => .val ((P.underlying src).isSome = true) (.sc (.int k (k.wrap n)))
   | none => .bad
 | .sc (.string s) =>
   if zAW P dst then .val ((P.underlying src).isSome = true) (.str s)
   else if zAN P dst && (zBm P (zAu P dst) == some .u8) then .val (zAW P src = true) (.lit false 1 (zBX s.data.toList))
   else .bad
 | _ => .bad
def zGk (rs : Rows) (off : Nat) : Nat → Option (List Int)
 | 0 => some []
 | n + 1 => match zCZ rs off 0 with
   | .sc (.int .u8 v) => (zGk rs (off + 1) n).map (v :: ·)
   | _ => none
def zDE (P : Program) (h : Heap) (src dst : TypeId) (x : PV) : Eff :=
 match x with
 | .ref k _ off n => match h k with
   | some (.rows 1 rs) => match zGk rs off n with
     | some l => { ob := (zAN P src && (zBm P (zAu P src) == some .u8) && zAW P dst && Nat.ble 1 n) = true, v := .str (strOfNums l), rd := [k] }
     | none => .badAt k
   | _ => .badAt k
 | x => zEw P src dst x
def zBK (P : Program) (h : Heap) (t : TypeId) (a : PV) : Eff :=
 match a with
 | .ptr k _ i j => match h k with
   | some (.rows sz rs) => { ob := i < rs.length ∧ j + zAr P t ≤ sz ∧ tyOk P t = true, v := if tyAgg P t then .agg (aggAt rs i j (zAr P t)) else zCZ rs i j, rd := [k] }
   | _ => .badAt k
 | .lptr _ sz rs i j => .val (i < rs.length ∧ j + zAr P t ≤ sz ∧ tyOk P t = true) (if tyAgg P t then .agg (aggAt rs i j (zAr P t)) else zCZ rs i j)
 | _ => .bad
def zCw (P : Program) (h : Heap) (t : TypeId) (a v : PV) : Eff :=
 match a with
 | .ptr k _ i j => match h k with
   | some (.rows sz rs) =>
     { ob := i < rs.length ∧ j + zAr P t ≤ sz ∧ (zBf v).length = zAr P t ∧ (zBf v).all PV.cell = true ∧ tyOk P t = true
       wr := [(k, some (.rows sz (setRow rs i j (zBf v))))], rd := [k] }
   | _ => .badAt k
 | _ => .bad
def zDI (key : Key) (cs : List PV) : Eff :=
 { ob := cs.all PV.cell = true ∧ 1 ≤ cs.length, v := .ptr key cs.length 0 0, wr := [(key, some (.rows cs.length [cs]))], bump := true }
def zDc (pl : List (Nat × Nat × Bool)) : List PV → List (Nat × PV) → List PV
 | cs, [] => cs
 | cs, (i, v) :: rest => zDc pl (setAt cs (pl.getD i (0, 0, false)).1 (zBf v)) rest
def zI8 (pl : List (Nat × Nat × Bool)) (n : Nat) : List (Nat × PV) → Prop
 | [] => True
 | (i, v) :: rest => i < pl.length ∧ (zBf v).length = (pl.getD i (0, 0, false)).2.1 ∧ (pl.getD i (0, 0, false)).1 + (zBf v).length ≤ n ∧ (zBf v).all PV.cell = true ∧ zI8 pl n rest
def zDf (P : Program) (t : TypeId) (parts : List (Nat × PV)) : Eff :=
 match zAT P t with
 | some z => .val ((zBG P t = true ∨ (arrOk P t).isSome = true) ∧ z.all PV.cell = true ∧ zI8 (zBp P t) z.length parts) (.agg (zDc (zBp P t) z parts))
 | none => .bad
def zCP : Rows → List (Nat × PV) → Rows
 | rs, [] => rs
 | rs, (i, v) :: rest => zCP (rs.set i (zBf v)) rest
def zCW (n sz : Nat) : List (Nat × PV) → Prop
 | [] => True
 | (i, v) :: rest => i < n ∧ (zBf v).length = sz ∧ (zBf v).all PV.cell = true ∧ zCW n sz rest
def zBP (P : Program) (key : Key) (t : TypeId) (n : Nat) (parts : List (Nat × PV)) : Eff :=
 match zAT P (zAu P t) with
 | some z =>
   { ob := zAN P t = true ∧ z.length = zAr P (zAu P t) ∧ n * zAr P (zAu P t) ≤ 2 ^ 24 ∧ z.all PV.cell = true ∧ zCW n z.length parts
     v := .ref key z.length 0 n, wr := [(key, some (.rows z.length (zCP (List.replicate n z) parts)))], bump := true }
 | none => .bad
def zBJ (P : Program) (key : Key) (t : TypeId) (l c : PV) : Eff :=
 match l, c with
 | .sc (.int _ L), .sc (.int _ C) => match zAT P (zAu P t) with
   | some z =>
     { ob := zAN P t = true ∧ z.length = zAr P (zAu P t) ∧ z.all PV.cell = true ∧ 0 ≤ L ∧ L ≤ C ∧ C < 2 ^ 32 ∧ P.bytesOf (zAu P t) < 2 ^ 15
       v := .ref key z.length 0 L.toNat, wr := [(key, some (.rows z.length (List.replicate L.toNat z)))], bump := true }
   | none => .bad
 | _, _ => .bad
def bound : Option PV → Option Int → Option Int
 | none, d => d
 | some (.sc (.int _ n)), _ => some n
 | _, _ => none
def zC0 (rs : Rows) (lo hi : Nat) : Rows := (rs.drop lo).take (hi - lo)
def zDr (P : Program) (t : TypeId) (x : PV) (lo hi mx : Option PV) : Eff :=
 match x, mx with
 | .sc (.string s), none => match bound lo (some 0), bound hi (some s.size) with
   | some l, some h => .val (zAW P t = true ∧ 0 ≤ l ∧ l ≤ h ∧ h ≤ s.size) (.str (s.extract l.toNat h.toNat))
   | _, _ => .bad
 | .lit tt sz rs, none => match bound lo (some 0), bound hi (some rs.length) with
   | some l, some h => .val (zAN P t = true ∧ zAr P (zAu P t) = sz ∧ 0 ≤ l ∧ l ≤ h ∧ h ≤ rs.length) (.lit tt sz (zC0 rs l.toNat h.toNat))
   | _, _ => .bad
 | .ref k sz off len, none => match bound lo (some 0), bound hi (some len) with
   | some l, some h => .val (zAN P t = true ∧ zAr P (zAu P t) = sz ∧ 0 ≤ l ∧ l ≤ h ∧ h ≤ len) (.ref k sz (off + l.toNat) (h.toNat - l.toNat))
   | _, _ => .bad
 | .nil, none => match bound lo (some 0), bound hi (some 0) with
   | some l, some h => .val (zAN P t = true ∧ l = 0 ∧ h = 0) .nil
   | _, _ => .bad
 | .lit _ _ _, some m => match bound lo (some 0), bound hi none, bound (some m) none with
   | some l, some h, some m => .val (zAN P t = true ∧ l = 0 ∧ h = 0 ∧ m = 0) .nil
   | _, _, _ => .bad
 | .ref _ _ _ _, some m => match bound lo (some 0), bound hi none, bound (some m) none with
   | some l, some h, some m => .val (zAN P t = true ∧ l = 0 ∧ h = 0 ∧ m = 0) .nil
   | _, _, _ => .bad
 | .nil, some m => match bound lo (some 0), bound hi none, bound (some m) none with
   | some l, some h, some m => .val (zAN P t = true ∧ l = 0 ∧ h = 0 ∧ m = 0) .nil
   | _, _, _ => .bad
 | .lptr tt sz rs i j, none => match lo, hi, arrOk P t with
   | none, none, some (n, e) => .val (1 ≤ zAr P e ∧ 1 ≤ n ∧ i < rs.length ∧ j + n * zAr P e ≤ sz) (.lit tt (zAr P e) (zDH rs i j n (zAr P e)))
   | _, _, _ => .bad
 | _, _ => .bad
def zBO (P : Program) (t : TypeId) (x : PV) (f : Nat) : Eff :=
 match x with
 | .ptr k sz i j => .val (zBG P t = true ∧ f < (zBp P t).length) (.ptr k sz i (j + ((zBp P t).getD f (0, 0, false)).1))
 | .lptr tt sz rs i j => .val (zBG P t = true ∧ f < (zBp P t).length) (.lptr tt sz rs i (j + ((zBp P t).getD f (0, 0, false)).1))
 | _ => .bad
def zEd (P : Program) (t : TypeId) (x : PV) (f : Nat) : Eff :=
 match x with
 | .agg cs => .val (zBG P t = true ∧ f < (zBp P t).length ∧ ((zBp P t).getD f (0, 0, false)).1 + ((zBp P t).getD f (0, 0, false)).2.1 ≤ cs.length) (zFt cs ((zBp P t).getD f (0, 0, false)))
 | _ => .bad
def zBu (P : Program) (t : TypeId) (x ix : PV) : Eff :=
 match ix with
 | .sc (.int _ i) =>
   match x with
   | .lit tt sz rs => .val (zAN P t = true ∧ zAr P (zAu P t) = sz ∧ 0 ≤ i ∧ i < rs.length) (.lptr tt sz rs i.toNat 0)
   | .ref k sz off len => .val (zAN P t = true ∧ zAr P (zAu P t) = sz ∧ 0 ≤ i ∧ i < len) (.ptr k sz (off + i.toNat) 0)
   | .ptr k sz a b => match arrOk P t with
     | some (n, e) => .val (0 ≤ i ∧ i < n) (.ptr k sz a (b + i.toNat * zAr P e))
     | none => .bad
   | .lptr tt sz rs a b => match arrOk P t with
     | some (n, e) => .val (0 ≤ i ∧ i < n) (.lptr tt sz rs a (b + i.toNat * zAr P e))
     | none => .bad
   | _ => .bad
 | _ => .bad
def zDz (P : Program) (t : TypeId) (x ix : PV) : Eff :=
 match ix with
 | .sc (.int _ i) =>
   match x with
   | .sc (.string s) => .val (zAW P t = true ∧ 0 ≤ i ∧ i < s.size) (.sc (.int .u8 ((s.data.toList.getD i.toNat 0).toNat)))
   | .agg cs => match arrOk P t with
     | some (n, e) => .val (0 ≤ i ∧ i < n ∧ cs.length = n * zAr P e) (zFt cs (i.toNat * zAr P e, zAr P e, tyAgg P e))
     | none => .bad
   | _ => .bad
 | _ => .bad
def scEq : PV → PV → Bool
 | .sc (.int _ a), .sc (.int _ b) => a == b
 | .sc (.string a), .sc (.string b) => decide (a = b)
 | .sc (.bool a), .sc (.bool b) => a == b
 | _, _ => false
def scsEq : List PV → List PV → Bool
 | [], [] => true
 | a :: as', b :: bs => scEq a b && scsEq as' bs
 | _, _ => false
def keyEq : PV → PV → Bool
 | .sc (.int _ a), .sc (.int _ b) => a == b
 | .sc (.string a), .sc (.string b) => decide (a = b)
 | .agg a, .agg b => scsEq a b
 | _, _ => false
def zDo (P : Program) (t : TypeId) : PV → Bool
 | .sc (.int k _) => decide (zBm P t = some k)
 | .sc (.string _) => zAW P t
 | .sc (.bool _) => zEO P t
 | _ => false
def zDw (P : Program) : List Field → Nat → List PV → Bool
 | [], _, [] => true
 | f :: fs, i, c :: cs => f.name != "_" && (Nat.beq f.offset i && (Nat.beq (zAr P f.type) 1 && (zDo P f.type c && zDw P fs (i + 1) cs)))
 | _, _, _ => false
def zI3 (P : Program) (kt : TypeId) (cs : List PV) : Bool :=
 match P.underlying kt with
 | some (.struct fs) => !P.stoodInHeld kt && zDw P fs.toList 0 cs
 | some (.array n e) => Nat.beq (zAr P e) 1 && (Nat.beq cs.length n && cs.all (zDo P e))
 | _ => false
def keyOk (P : Program) (kt : TypeId) : PV → Prop
 | .sc (.int k _) => zBm P kt = some k
 | .sc (.string _) => zAW P kt = true
 | .agg cs => zI3 P kt cs = true
 | _ => False
def zBB (k : PV) : List (PV × PV) → Option PV
 | [] => none
 | e :: es => if keyEq k e.1 then some e.2 else zBB k es
def zCo (k v : PV) : List (PV × PV) → List (PV × PV)
 | [] => [(k, v)]
 | e :: es => if keyEq k e.1 then (k, v) :: es else e :: zCo k v es
def zEL (k : PV) : List (PV × PV) → List (PV × PV)
 | [] => []
 | e :: es => if keyEq k e.1 then es else e :: zEL k es
def stB (k : PV) (es : List (PV × PV)) (bs : List Nat) (clk : Nat) : List Nat := if (zBB k es).isSome then bs else bs ++ [clk]
def stC (k : PV) (es : List (PV × PV)) (clk : Nat) : Nat := if (zBB k es).isSome then clk else clk + 1
def delB (k : PV) : List (PV × PV) → List Nat → List Nat
 | e :: es, b :: bs => if keyEq k e.1 then bs else b :: delB k es bs
 | _, bs => bs
def zFZ (P : Program) (t : TypeId) : PV :=
 match zAT P t with
 | some z => if tyAgg P t then .agg z else z.getD 0 .dead
 | none => .dead
def zEq (P : Program) (et : TypeId) (ok : Bool) (o : Option PV) : PV :=
 match ok with
 | true => .tup [o.getD (zFZ P et), .bool o.isSome]
 | false => o.getD (zFZ P et)
def zF1 (P : Program) (t : TypeId) : Bool :=
 match (P.info? t).bind (·.zero) with
 | some (.agg _) => tyAgg P t
 | some (.tuple _) => false
 | some _ => !tyAgg P t
 | none => false
def zBv (P : Program) (h : Heap) (t : TypeId) (m k : PV) (ok : Bool) : Eff :=
 match mapTy P t with
 | some (kt, et) =>
   match m with
   | .map key => match h key with
     | some (.map es _ _) => { ob := keyOk P kt k ∧ (∀ e ∈ es, keyOk P kt e.1) ∧ zF1 P et = true, v := zEq P et ok (zBB k es), rd := [key] }
     | _ => .badAt key
   | _ => .bad
 | none => .bad
def zBI (P : Program) (h : Heap) (t : TypeId) (m k v : PV) : Eff :=
 match mapTy P t with
 | some (kt, _) =>
   match m with
   | .map key => match h key with
     | some (.map es bs clk) => { ob := keyOk P kt k ∧ (∀ e ∈ es, keyOk P kt e.1) ∧ mval v = true, wr := [(key, some (.map (zCo k v es) (stB k es bs clk) (stC k es clk)))], rd := [key] }
     | _ => .badAt key
   | _ => .bad
 | none => .bad
def zE0 (k : PV) : List (PV × PV) → List Nat → Nat → Nat
 | e :: es, b :: bs, clk => if keyEq k e.1 then b else zE0 k es bs clk
 | _, _, clk => clk
def zBE (P : Program) (h : Heap) (t : TypeId) (m k : PV) : Eff := .bad
def zCK (h : Heap) (m s v : PV) : Eff := .bad
def zC7 (P : Program) (h : Heap) (t : TypeId) (m k : PV) : Eff := .bad
def zCB (x : PV) (i : Nat) : Eff :=
 match x with
 | .tup vs => .val (i < vs.length) (vs.getD i .dead)
 | _ => .bad
def zEN (P : Program) (h : Heap) (t : TypeId) (x : PV) : Eff :=
 match x with
 | .sc (.string s) => .val (zAW P t = true) (.int s.size)
 | .nil => .val (zAN P t = true) (.int 0)
 | .lit _ _ rs => .val (zAN P t = true) (.int rs.length)
 | .ref _ _ _ len => .val (zAN P t = true) (.int len)
 | .map key => match h key with
   | some (.map es _ _) => { ob := (mapTy P t).isSome = true, v := .int es.length, rd := [key] }
   | _ => .badAt key
 | _ => .bad
def zAU (h : Heap) (sz : Nat) : PV → Prop × Rows × List Key
 | .nil => (True, [], [])
 | .lit _ sz' rs => (sz' = sz, rs, [])
 | .ref k sz' off len => match h k with
   | some (.rows _ rs) => (sz' = sz ∧ off + len ≤ rs.length, (rs.drop off).take len, [k])
   | _ => (False, [], [k])
 | .sc (.string s) => (sz = 1, zBX s.data.toList, [])
 | _ => (False, [], [])
def zA3 (P : Program) (h : Heap) (key : Key) (t t2 : TypeId) (s x : PV) : Eff :=
 let e := zAu P t;let src := zAU h (zAr P e) x;let okTy := zAN P t = true ∧ P.bytesOf e < 2 ^ 15 ∧ zBm P t2 = none ∧ zEg P e = true ∧ (P.underlying t2).isSome = true
 match s with
 | .nil => bif src.2.1.isEmpty then { ob := okTy ∧ src.1, v := .nil, rd := src.2.2 }
   else { ob := okTy ∧ src.1 ∧ src.2.1 ≠ [] ∧ src.2.1.length < 2 ^ 32, v := .ref key (zAr P e) 0 src.2.1.length, wr := [(key, some (.rows (zAr P e) src.2.1))], rd := src.2.2, bump := true }
 | .ref k sz off len => match h k with
   | some (.rows _ rs) =>
     { ob := okTy ∧ src.1 ∧ sz = zAr P e ∧ off + len ≤ rs.length ∧ len + src.2.1.length < 2 ^ 32
       v := .ref key sz 0 (len + src.2.1.length), wr := [(k, none), (key, some (.rows sz ((rs.drop off).take len ++ src.2.1)))], rd := k :: src.2.2, bump := true }
   | _ => { ob := False, rd := k :: src.2.2 }
 | _ => { ob := False, rd := src.2.2 }
def maxs : PV → List PV → Eff
 | v, [] => .val True v
 | .sc (.int k a), .sc (.int k' b) :: rest => let e := maxs (.sc (.int k (max a b))) rest; { e with ob := k = k' ∧ e.ob }
 | _, _ => .bad
def mins : PV → List PV → Eff
 | v, [] => .val True v
 | .sc (.int k a), .sc (.int k' b) :: rest => let e := mins (.sc (.int k (min a b))) rest; { e with ob := k = k' ∧ e.ob }
 | _, _ => .bad
def zH6 (P : Program) (h : Heap) (t : TypeId) (x : PV) : Eff := .bad
def zIV (P : Program) (h : Heap) (t : TypeId) (s x : PV) : Eff := .bad
def zA9 (P : Program) (h : Heap) (key : Key) (b : Builtin) (ts : List TypeId) (args : List PV) : Eff :=
 match b, ts, args with
 | .len, t :: _, x :: _ => zEN P h t x
 | .append, t :: t2 :: _, s :: x :: _ => zA3 P h key t t2 s x
 | .delete, t :: _, m :: k :: _ => zC7 P h t m k
 | .clear, t :: _, x :: _ => zH6 P h t x
 | .copy, t :: _, s :: x :: _ => zIV P h t s x
 | .max, _, x :: rest => maxs x rest
 | .min, _, x :: rest => mins x rest
 | _, _, _ => .bad
def zE2 (c a b : PV) : Eff :=
 match c with
 | .sc (.bool t) => .val True (if t then a else b)
 | _ => .bad
def zLX (key : Key) (v : PV) : Eff := zDI key (zBf v)
def zGu (P : Program) (h : Heap) (key : Key) (t : TypeId) (x : PV) : Eff := .bad
def zIw (h : Heap) (x : PV) (s : Bool) : Eff := .bad
def zGU (h : Heap) (x : PV) : Eff := .bad
def eff (P : Program) (ρ : Operand → PV) (h : Heap) (key : Key) (o : Op) : Eff :=
 match o with
 | .move x | .assign x => .val True (ρ x)
 | .pick c a b => zE2 (ρ c) (ρ a) (ρ b)
 | .alloc t => match zAT P t with | some z => zDI key z | none => .bad
 | .box _ v => zLX key (ρ v)
 | .build t parts => zDf P t (parts.toList.map fun p => (p.1, ρ p.2))
 | .buildSlice t n parts => zBP P key t n (parts.toList.map fun p => (p.1, ρ p.2))
 | .load t a => zBK P h t (ρ a)
 | .store t a v => zCw P h t (ρ a) (ρ v)
 | .nilCheck x => match ρ x with
   | .ptr k sz i j => .val True (.ptr k sz i j)
   | .lptr t sz rs i j => .val True (.lptr t sz rs i j)
   | _ => .bad
 | .binOp op t x y _ => zBl P op t (zHW y) (ρ x) (ρ y)
 | .unOp op _ x => unEff op (ρ x)
 | .convert s d x => zDE P h s d (ρ x)
 | .makeFunc fn first cap => .val True (.func fn (first.toList.map ρ) (cap.toList.map ρ))
 | .range t x => zGu P h key t (ρ x)
 | .next x s => zIw h (ρ x) s
 | .entry x => zGU h (ρ x)
 | .makeMap _ r => { ob := r.isNone = true, v := .map key, wr := [(key, some (.map [] [] 0))], bump := true }
 | .makeSlice t l c => zBJ P key t (ρ l) (ρ c)
 | .slice t x lo hi mx => zDr P t (ρ x) (lo.map ρ) (hi.map ρ) (mx.map ρ)
 | .fieldAddr t x f => zBO P t (ρ x) f
 | .field t x f => zEd P t (ρ x) f
 | .indexAddr t x i => zBu P t (ρ x) (ρ i)
 | .index t x i => zDz P t (ρ x) (ρ i)
 | .lookup t m k ok => zBv P h t (ρ m) (ρ k) ok
 | .mapUpdate t m k v => zBI P h t (ρ m) (ρ k) (ρ v)
 | .mapEntry t m k => zBE P h t (ρ m) (ρ k)
 | .entryStore _ m s v => zCK h (ρ m) (ρ s) (ρ v)
 | .extract x i => zCB (ρ x) i
 | .call { callee := .builtin b, args, argTypes } => zA9 P h key b argTypes.toList (args.toList.map ρ)
 | _ => .bad
end Go.Pv
namespace Go.Pv
open Go Go.RowKit
inductive Pure : PV → Prop where
 | sc (x : Value) : Pure (.sc x)
 | nil : Pure .nil
 | lit (t : Bool) (sz : Nat) (rows : Rows) (h : ∀ row ∈ rows, ∀ p ∈ row, Pure p) : Pure (.lit t sz rows)
 | lptr (t : Bool) (sz : Nat) (rows : Rows) (i j : Nat) (h : ∀ row ∈ rows, ∀ p ∈ row, Pure p) : Pure (.lptr t sz rows i j)
 | agg (cs : List PV) (h : ∀ p ∈ cs, Pure p) : Pure (.agg cs)
 | tup (cs : List PV) (h : ∀ p ∈ cs, Pure p) : Pure (.tup cs)
 | func (f : Fn) (a c : List PV) (h : ∀ p ∈ a, Pure p) (h' : ∀ p ∈ c, Pure p) : Pure (.func f a c)
theorem g20_pure : ∀ p ∈ g20, Pure p := fun p hp => by obtain ⟨n, _, rfl⟩ := List.mem_map.1 hp; exact .sc _
theorem g32_pure : ∀ p ∈ g32, Pure p := fun p hp => by obtain ⟨n, _, rfl⟩ := List.mem_map.1 hp; exact .sc _
theorem g64_pure : ∀ p ∈ g64, Pure p := fun p hp => by obtain ⟨n, _, rfl⟩ := List.mem_map.1 hp; exact .sc _
theorem gpv_pure (g : Nat) : gpv g = .dead ∨ Pure (gpv g) := by
 unfold gpv; split
 · exact .inr (.lptr _ _ _ _ _ fun row hr p hp => by simp only [List.mem_singleton] at hr; subst hr; exact g20_pure p hp)
 · exact .inr (.lptr _ _ _ _ _ fun row hr p hp => by simp only [List.mem_singleton] at hr; subst hr; exact g32_pure p hp)
 · exact .inr (.lptr _ _ _ _ _ fun row hr p hp => by simp only [List.mem_singleton] at hr; subst hr; exact g64_pure p hp)
 · exact .inl rfl
structure Env where
 w : World
 h : Heap
 cnt : Nat → Nat
 blk : Key → Nat
 cap : Key → Nat × Nat
 M : Nat → Prop
 tt : Bool
 B0 : Nat
def Env.own (E : Env) (b : Nat) : Prop := ∃ k o, E.h k = some o ∧ E.blk k = b
def Env.known (E : Env) (k : Key) : Prop := k.2 < E.cnt k.1
structure MemAt (E : Env) (t : Bool) (sz : Nat) (rows : Rows) (b off : Nat) (f : Nat → Nat → Value) : Prop where
 own : ¬ E.own b
 out : t = false → ¬ E.M b
 tt : t = true → E.tt = true
 lt : b < E.w.heap.size
 width : ∀ row ∈ rows, row.length = sz
 cell : ∀ (i j : Nat) (row : List PV) (p : PV), rows[i]? = some row → row[j]? = some p → E.w.cell? ⟨b, off + i * sz + j, none⟩ = some (f i j)
 pure : ∀ row ∈ rows, ∀ p ∈ row, Pure p
 one : ∀ row ∈ rows, ∀ p ∈ row, p.cell = true
inductive Rep (E : Env) : Value → PV → Prop where
 | sc {x : Value} (hx : zBM x = true) : Rep E x (.sc x)
 | nil {a : Option Addr} : Rep E (.slice a 0 0) .nil
 | litE {a : Option Addr} {c : Nat} {t : Bool} {sz : Nat} : Rep E (.slice a 0 c) (.lit t sz [])
 | lit {b off c : Nat} {t : Bool} {sz : Nat} {rows : Rows} {f : Nat → Nat → Value} (hm : MemAt E t sz rows b off f) (hc : rows.length ≤ c)
     (hr : ∀ (i j : Nat) (row : List PV) (p : PV), rows[i]? = some row → row[j]? = some p → Rep E (f i j) p) :
     Rep E (.slice (some ⟨b, off, none⟩) rows.length c) (.lit t sz rows)
 | lptr {b off : Nat} {t : Bool} {sz : Nat} {rows : Rows} {f : Nat → Nat → Value} (i j : Nat) (hm : MemAt E t sz rows b off f)
     (hr : ∀ (i j : Nat) (row : List PV) (p : PV), rows[i]? = some row → row[j]? = some p → Rep E (f i j) p) :
     Rep E (.pointer (some ⟨b, off + i * sz + j, none⟩)) (.lptr t sz rows i j)
 | ref {b a : Nat} {k : Key} {sz off len c : Nat} (hk : E.known k) (hlen : len ≤ c) (hl : ∀ o, E.h k = some o → (b = E.blk k ∧ a = (E.cap k).2 + off * sz) ∧ off + c ≤ (E.cap k).1 ∧ ∃ rs, o = .rows sz rs) :
     Rep E (.slice (some ⟨b, a, none⟩) len c) (.ref k sz off len)
 | refE {a : Option Addr} {k : Key} {sz off : Nat} (hk : E.known k) (hl : ∀ o, E.h k = some o → ∃ rs, o = .rows sz rs) : Rep E (.slice a 0 0) (.ref k sz off 0)
 | ptr {b a : Nat} {k : Key} {sz i j : Nat} (hk : E.known k) (hl : ∀ o, E.h k = some o → (b = E.blk k ∧ a = (E.cap k).2 + i * sz + j) ∧ ∃ rs, o = .rows sz rs) :
     Rep E (.pointer (some ⟨b, a, none⟩)) (.ptr k sz i j)
 | agg {vs : Array Value} {cs : List PV} (hl : vs.size = cs.length) (h : ∀ (i : Nat) (v : Value) (p : PV), vs[i]? = some v → cs[i]? = some p → Rep E v p) : Rep E (.agg vs) (.agg cs)
 | tup {vs : Array Value} {cs : List PV} (hl : vs.size = cs.length) (h : ∀ (i : Nat) (v : Value) (p : PV), vs[i]? = some v → cs[i]? = some p → Rep E v p) : Rep E (.tuple vs) (.tup cs)
 | func {f : Fn} {as cs : Array Value} {pa pc : List PV} (hl : as.size = pa.length) (hl' : cs.size = pc.length)
     (h : ∀ (i : Nat) (v : Value) (p : PV), as[i]? = some v → pa[i]? = some p → Rep E v p)
     (h' : ∀ (i : Nat) (v : Value) (p : PV), cs[i]? = some v → pc[i]? = some p → Rep E v p) : Rep E (.func f as cs) (.func f pa pc)
 | map {b : Nat} {k : Key} (hk : E.known k) (hl : ∀ o, E.h k = some o → b = E.blk k ∧ o.kd = 1) : Rep E (.map (some b)) (.map k)
 | iter {b : Nat} {k : Key} (hk : E.known k) (hl : ∀ o, E.h k = some o → b = E.blk k ∧ o.kd = 2) : Rep E (.pointer (some ⟨b, 0, none⟩)) (.iter k)
 | dead {v : Value} : Rep E v .dead
def zIa (ents : Array MapEntry) (clk : Nat) : Prop := (∀ x ∈ ents.toList, x.born < clk) ∧ (ents.toList.map (·.born)).Nodup ∧ (ents.toList.map (·.key)).Nodup
def ObjOK (E : Env) (k : Key) : PObj → Prop
 | .rows sz rs => ∃ (c : Array Value) (T : TypeId), E.w.heap[E.blk k]? = some (.cells c T (0, 0)) ∧ c.size = (E.cap k).2 + (E.cap k).1 * sz ∧ rs.length ≤ (E.cap k).1 ∧ 1 ≤ sz ∧
     (∀ row ∈ rs, row.length = sz) ∧ (∀ row ∈ rs, ∀ p ∈ row, p.cell = true) ∧
     ∀ (i j : Nat) (row : List PV) (p : PV), rs[i]? = some row → row[j]? = some p → ∃ v, c[(E.cap k).2 + i * sz + j]? = some v ∧ Rep E v p
 | .map es bs clk => ∃ (ents : Array MapEntry), E.w.heap[E.blk k]? = some (.map ents clk) ∧ ents.size = es.length ∧
     (∀ p ∈ es, mval p.2 = true) ∧
     (∀ (i : Nat) (e : MapEntry) (p : PV × PV), ents[i]? = some e → es[i]? = some p → Rep E e.key p.1 ∧ Rep E e.val p.2) ∧ zIa ents clk ∧ bs = ents.toList.map (·.born)
 | .iter km since seen => ∃ b : Nat, E.w.heap[E.blk k]? = some (.mapIter (some b) since seen.toArray since) ∧ E.known km ∧ ∀ o, E.h km = some o → b = E.blk km ∧ o.kd = 1
def gEnv (w : World) (n : Nat) : Env := { w := { w with heap := w.heap.extract 0 n }, h := fun _ => none, cnt := fun _ => 0, blk := fun _ => 0, cap := fun _ => (0, 0), M := fun _ => True, tt := true, B0 := 0 }
def gw (w : World) (n : Nat) : Prop := (∀ g : Nat, Rep (gEnv w n) (.pointer (some ⟨g, 0, none⟩)) (gpv g)) ∧ ∀ g ∈ gex, g < n ∧ gprop g w.heap[g]?
structure Good (E : Env) : Prop where
 inj : ∀ (k k' : Key) (o o' : PObj), E.h k = some o → E.h k' = some o' → E.blk k = E.blk k' → k = k'
 known : ∀ (k : Key) (o : PObj), E.h k = some o → E.known k
 base : ∀ (k : Key) (o : PObj), E.h k = some o → E.B0 ≤ E.blk k
 obj : ∀ (k : Key) (o : PObj), E.h k = some o → ObjOK E k o
 out : ∀ b, E.M b → b < E.B0
 size : E.B0 ≤ E.w.heap.size
 glob : gw E.w E.B0
structure EnvLe (E E' : Env) : Prop where
 blk : ∀ b, b < E.w.heap.size → ¬ E.own b → E'.w.heap[b]? = E.w.heap[b]?
 size : E.w.heap.size ≤ E'.w.heap.size
 own : ∀ b, E'.own b → E.own b ∨ E.w.heap.size ≤ b
 M : E'.M = E.M
 tt : E'.tt = E.tt
 B0 : E'.B0 = E.B0
 cnt : ∀ s, E.cnt s ≤ E'.cnt s
 nokey : ∀ k, E.known k → E.h k = none → E'.h k = none
 rows : ∀ k sz rs, E.h k = some (.rows sz rs) → E'.h k = none ∨ ∃ rs', E'.h k = some (.rows sz rs') ∧ E'.blk k = E.blk k ∧ E'.cap k = E.cap k
 map : ∀ k o, E.h k = some o → o.kd ≠ 0 → E'.h k = none ∨ ∃ o', E'.h k = some o' ∧ o'.kd = o.kd ∧ E'.blk k = E.blk k
theorem EnvLe.refl (E : Env) : EnvLe E E where
 blk := fun _ _ _ => rfl
 size := Nat.le_refl _
 own := fun _ h => .inl h
 M := rfl
 tt := rfl
 B0 := rfl
 cnt := fun _ => Nat.le_refl _
 nokey := fun _ _ h => h
 rows := fun _ _ rs h => .inr ⟨rs, h, rfl, rfl⟩
 map := fun _ o h _ => .inr ⟨o, h, rfl, rfl⟩
theorem EnvLe.known {E E' : Env} (h : EnvLe E E') {k : Key} (hk : E.known k) : E'.known k := Nat.lt_of_lt_of_le hk (h.cnt k.1)
theorem EnvLe.trans {E E' E'' : Env} (h : EnvLe E E') (h' : EnvLe E' E'') (g : ∀ k o, E.h k = some o → E.known k) : EnvLe E E'' where
 blk := fun b hb ho => by
   have hb' : b < E'.w.heap.size := Nat.lt_of_lt_of_le hb h.size
   have ho' : ¬ E'.own b := fun hn => by
     rcases h.own b hn with h1 | h1
     · exact ho h1
     · omega
   rw [h'.blk b hb' ho', h.blk b hb ho]
 size := Nat.le_trans h.size h'.size
 own := fun b hb => by
   rcases h'.own b hb with h1 | h1
   · exact h.own b h1
   · exact .inr (Nat.le_trans h.size h1)
 M := h'.M.trans h.M
 tt := h'.tt.trans h.tt
 B0 := h'.B0.trans h.B0
 cnt := fun s => Nat.le_trans (h.cnt s) (h'.cnt s)
 nokey := fun k hk hn => h'.nokey k (h.known hk) (h.nokey k hk hn)
 rows := fun k sz rs hk => by
   rcases h.rows k sz rs hk with h1 | ⟨rs', h1, h2, h3⟩
   · exact .inl (h'.nokey k (h.known (g k _ hk)) h1)
   · rcases h'.rows k sz rs' h1 with h4 | ⟨rs'', h4, h5, h6⟩
     · exact .inl h4
     · exact .inr ⟨rs'', h4, h5.trans h2, h6.trans h3⟩
 map := fun k o hk hd => by
   rcases h.map k o hk hd with h1 | ⟨o', h1, h2, h3⟩
   · exact .inl (h'.nokey k (h.known (g k _ hk)) h1)
   · rcases h'.map k o' h1 (by rw [h2]; exact hd) with h4 | ⟨o'', h4, h5, h6⟩
     · exact .inl h4
     · exact .inr ⟨o'', h4, h5.trans h2, h6.trans h3⟩
theorem cell?_of_block {w w' : World} {b : Nat} (h : w'.heap[b]? = w.heap[b]?) (o : Nat) : w'.cell? ⟨b, o, none⟩ = w.cell? ⟨b, o, none⟩ := by
 simp only [World.cell?, h]
theorem MemAt.le {E E' : Env} (h : EnvLe E E') {t : Bool} {sz : Nat} {rows : Rows} {b off : Nat} {f : Nat → Nat → Value} (m : MemAt E t sz rows b off f) : MemAt E' t sz rows b off f where
 own := fun hn => by
   rcases h.own b hn with h1 | h1
   · exact m.own h1
   · have := m.lt; omega
 out := fun ht => by rw [h.M]; exact m.out ht
 tt := fun ht => by rw [h.tt]; exact m.tt ht
 lt := Nat.lt_of_lt_of_le m.lt h.size
 width := m.width
 cell := fun i j row p h1 h2 => by rw [cell?_of_block (h.blk b m.lt m.own)]; exact m.cell i j row p h1 h2
 pure := m.pure
 one := m.one
theorem Rep.le {E E' : Env} (h : EnvLe E E') {v : Value} {p : PV} (r : Rep E v p) : Rep E' v p := by
 induction r with
 | sc hx => exact .sc hx
 | nil => exact .nil
 | litE => exact .litE
 | lit hm hc hr ih => exact .lit (hm.le h) hc ih
 | lptr i j hm hr ih => exact .lptr i j (hm.le h) ih
 | ref hk hlen hl =>
   refine .ref (h.known hk) hlen fun o' ho' => ?_;cases hq : E.h _ with
   | none => rw [h.nokey _ hk hq] at ho'; cases ho'
   | some o =>
     obtain ⟨h1, h2, rs, rfl⟩ := hl o hq;rcases h.rows _ _ _ hq with h3 | ⟨rs', h3, h4, h5⟩
     · rw [h3] at ho'; cases ho'
     · rw [h3] at ho'; cases ho'; exact ⟨⟨h1.1.trans h4.symm, by rw [h5]; exact h1.2⟩, by rw [h5]; exact h2, rs', rfl⟩
 | refE hk hl =>
   refine .refE (h.known hk) fun o' ho' => ?_;cases hq : E.h _ with
   | none => rw [h.nokey _ hk hq] at ho'; cases ho'
   | some o =>
     obtain ⟨rs, rfl⟩ := hl o hq;rcases h.rows _ _ _ hq with h3 | ⟨rs', h3, h4, h5⟩
     · rw [h3] at ho'; cases ho'
     · rw [h3] at ho'; cases ho'; exact ⟨rs', rfl⟩
 | ptr hk hl =>
   refine .ptr (h.known hk) fun o' ho' => ?_;cases hq : E.h _ with
   | none => rw [h.nokey _ hk hq] at ho'; cases ho'
   | some o =>
     obtain ⟨h1, rs, rfl⟩ := hl o hq;rcases h.rows _ _ _ hq with h3 | ⟨rs', h3, h4, h5⟩
     · rw [h3] at ho'; cases ho'
     · rw [h3] at ho'; cases ho'; exact ⟨⟨h1.1.trans h4.symm, by rw [h5]; exact h1.2⟩, rs', rfl⟩
 | agg hl _ ih => exact .agg hl ih
 | tup hl _ ih => exact .tup hl ih
 | func hl hl' _ _ ih ih' => exact .func hl hl' ih ih'
 | map hk hl =>
   refine .map (h.known hk) fun o' ho' => ?_;cases hq : E.h _ with
   | none => rw [h.nokey _ hk hq] at ho'; cases ho'
   | some o =>
     obtain ⟨h1, h2⟩ := hl o hq;rcases h.map _ _ hq (by rw [h2]; decide) with h3 | ⟨o1, h3, h4, h5⟩
     · rw [h3] at ho'; cases ho'
     · rw [h3] at ho'; cases ho'; exact ⟨h1.trans h5.symm, h4.trans h2⟩
 | iter hk hl =>
   refine .iter (h.known hk) fun o' ho' => ?_;cases hq : E.h _ with
   | none => rw [h.nokey _ hk hq] at ho'; cases ho'
   | some o =>
     obtain ⟨h1, h2⟩ := hl o hq;rcases h.map _ _ hq (by rw [h2]; decide) with h3 | ⟨o1, h3, h4, h5⟩
     · rw [h3] at ho'; cases ho'
     · rw [h3] at ho'; cases ho'; exact ⟨h1.trans h5.symm, h4.trans h2⟩
 | dead => exact .dead
theorem Rep.one {E : Env} {v : Value} {p : PV} (r : Rep E v p) (h : p.cell = true) : v.oneCell' = true := by
 cases r <;> first | rfl | assumption | (simp [PV.cell] at h; done) | skip
 case sc hx => cases v <;> first | rfl | (simp [zBM] at hx)
theorem Rep.pure_env {E E' : Env} {v : Value} {p : PV} (r : Rep E v p) (hp : Pure p)
   (hown : ∀ b, b < E.w.heap.size → ¬ E.own b → (E.tt = false → ¬ E.M b) → ¬ E'.own b) (hM : ∀ b, b < E.w.heap.size → ¬ E.own b → ¬ E.M b → ¬ E'.M b) (htt : E.tt = true → E'.tt = true)
   (hsz : E.w.heap.size ≤ E'.w.heap.size) (hb : ∀ b, b < E.w.heap.size → ¬ E.own b → E'.w.heap[b]? = E.w.heap[b]?) : Rep E' v p := by
 have hm' : ∀ {t : Bool} {sz : Nat} {rows : Rows} {b off : Nat} {f : Nat → Nat → Value}, MemAt E t sz rows b off f → MemAt E' t sz rows b off f := fun m => {
   own := hown _ m.lt m.own fun htf => m.out (Bool.eq_false_iff.2 fun ht => by rw [m.tt ht] at htf; cases htf)
   out := fun ht => hM _ m.lt m.own (m.out ht)
   tt := fun ht => htt (m.tt ht)
   lt := Nat.lt_of_lt_of_le m.lt hsz
   width := m.width
   cell := fun i j row p h1 h2 => by rw [cell?_of_block (hb _ m.lt m.own)]; exact m.cell i j row p h1 h2
   pure := m.pure
   one := m.one }
 induction r with
 | sc hx => exact .sc hx
 | nil => exact .nil
 | litE => exact .litE
 | lit hm hc hr ih => exact .lit (hm' hm) hc fun i j row p h1 h2 => ih i j row p h1 h2 (hm.pure row (List.mem_of_getElem? h1) p (List.mem_of_getElem? h2))
 | lptr i j hm hr ih => exact .lptr i j (hm' hm) fun i j row p h1 h2 => ih i j row p h1 h2 (hm.pure row (List.mem_of_getElem? h1) p (List.mem_of_getElem? h2))
 | agg hl _ ih => cases hp with | agg _ h => exact .agg hl fun i v p h1 h2 => ih i v p h1 h2 (h p (List.mem_of_getElem? h2))
 | tup hl _ ih => cases hp with | tup _ h => exact .tup hl fun i v p h1 h2 => ih i v p h1 h2 (h p (List.mem_of_getElem? h2))
 | func hl hl' _ _ ih ih' => cases hp with | func _ _ _ h h' => exact .func hl hl' (fun i v p h1 h2 => ih i v p h1 h2 (h p (List.mem_of_getElem? h2))) (fun i v p h1 h2 => ih' i v p h1 h2 (h' p (List.mem_of_getElem? h2)))
 | ref => cases hp
 | refE => cases hp
 | ptr => cases hp
 | map => cases hp
 | iter => cases hp
 | dead => cases hp
theorem zGg {w : World} {n b : Nat} (h : b < (w.heap.extract 0 n).size) : b < n ∧ b < w.heap.size ∧ (w.heap.extract 0 n)[b]? = w.heap[b]? := by
 have h1 : (w.heap.extract 0 n).size = min n w.heap.size := by simp
 refine ⟨by omega, by omega, ?_⟩;rw [Array.getElem?_extract, if_pos (by omega), Nat.zero_add]
theorem zCr {w w' : World} {n m : Nat} (h : gw w n) (hnm : n ≤ m) (hb : ∀ b, b < n → w'.heap[b]? = w.heap[b]?) : gw w' m := ⟨fun g => (h.1 g).le (E' := gEnv w' m) (by
 have hlt : ∀ b, b < (w.heap.extract 0 n).size → b < (w'.heap.extract 0 m).size := fun b h1 => by
   obtain ⟨h2, h3, _⟩ := zGg h1;have h4 := hb b h2
   have h5 : b < w'.heap.size := by
     rw [Array.getElem?_eq_getElem h3] at h4;exact (Array.getElem?_eq_some_iff.1 h4).1
   have : (w'.heap.extract 0 m).size = min m w'.heap.size := by simp
   omega
 refine ⟨fun b h1 _ => ?_, ?_, fun b h1 => .inl h1, rfl, rfl, rfl, fun _ => Nat.le_refl _, fun _ _ h => h, fun _ _ rs h => by simp [gEnv] at h, fun _ o h _ => by simp [gEnv] at h⟩
 · show (w'.heap.extract 0 m)[b]? = (w.heap.extract 0 n)[b]?;rw [(zGg h1).2.2, (zGg (hlt b h1)).2.2, hb b (zGg h1).1]
 · show (w.heap.extract 0 n).size ≤ (w'.heap.extract 0 m).size;cases hq : (w.heap.extract 0 n).size with
   | zero => exact Nat.zero_le _
   | succ q => exact hlt q (by omega)), fun g hg => by
 obtain ⟨h1, h2⟩ := h.2 g hg;exact ⟨Nat.lt_of_lt_of_le h1 hnm, by rw [hb g h1]; exact h2⟩⟩
theorem zMo {E : Env} (h : gw E.w E.B0) (hbase : ∀ (k : Key) (o : PObj), E.h k = some o → E.B0 ≤ E.blk k) (ht : E.tt = true) (g : Nat) : Rep E (.pointer (some ⟨g, 0, none⟩)) (gpv g) := by
 rcases gpv_pure g with h1 | h1
 · rw [h1]; exact .dead
 · refine (h.1 g).pure_env h1 (fun b h2 _ _ ⟨k, o, h3, h4⟩ => ?_) (fun _ _ _ h2 => absurd trivial h2) (fun _ => ht) ?_ fun b h2 _ => ?_
   · have := hbase k o h3; have := (zGg h2).1; omega
   · show (E.w.heap.extract 0 E.B0).size ≤ _;have : (E.w.heap.extract 0 E.B0).size = min E.B0 E.w.heap.size := by simp
     omega
   · exact (zGg h2).2.2.symm
end Go.Pv
namespace Go.Pv
open Go Go.RowKit
def zAZ (h : Heap) (wr : List (Key × Option PObj)) : Heap := wr.foldl (fun h p => fun k => if k = p.1 then p.2 else h k) h
def bumpC (cnt : Nat → Nat) (site : Nat) (b : Bool) : Nat → Nat := if b then fun s => if s = site then cnt s + 1 else cnt s else cnt
def OpOK (_P : Program) (E : Env) (site : Nat) (run : Result Next) (e : Eff) : Prop :=
 ∃ (v : Value) (w' : World) (blk : Key → Nat) (cap : Key → Nat × Nat),
   (run = .ok (.value v) w' ∨ (run = .ok .skip w' ∧ v = undef)) ∧
   Good { E with w := w', h := zAZ E.h e.wr, cnt := bumpC E.cnt site e.bump, blk := blk, cap := cap } ∧
   EnvLe E { E with w := w', h := zAZ E.h e.wr, cnt := bumpC E.cnt site e.bump, blk := blk, cap := cap } ∧
   Below E.B0 E.w w' ∧
   Rep { E with w := w', h := zAZ E.h e.wr, cnt := bumpC E.cnt site e.bump, blk := blk, cap := cap } v e.v
theorem OpOK.pure {P : Program} {E : Env} {site : Nat} {run : Result Next} {e : Eff} (g : Good E) {v : Value} (hr : run = .ok (.value v) E.w) (hv : Rep E v e.v) (h1 : e.wr = []) (h2 : e.bump = false) : OpOK P E site run e := by
 refine ⟨v, E.w, E.blk, E.cap, .inl hr, ?_, ?_, Below.refl _ _, ?_⟩;all_goals (rw [h1, h2]; first | exact g | exact EnvLe.refl E | exact hv)
theorem Rep.int_inv {E : Env} {v : Value} {k : IntKind} {n : Int} (h : Rep E v (.sc (.int k n))) : v = .int k n := by cases h; rfl
theorem Rep.sc_inv {E : Env} {v x : Value} (h : Rep E v (.sc x)) : v = x := by cases h; rfl
section
variable {P : Program} {E : Env} {site : Nat}
theorem zGB {op : BinOp} {t : TypeId} {k : IntKind} {a b : Int} (w : World) (hob : (zCg op k a b).ob) :
   ∃ x, (binOp op t (.int k a) (.int k b)).run P w = .ok x w ∧ zBM x = true ∧ (zCg op k a b).v = .sc x := by
 cases op
 case shl => exact ⟨_, by simp only [binOp, Op.shift, if_neg (Int.not_lt.2 hob)]; rfl, rfl, rfl⟩
 case shr => exact ⟨_, by simp only [binOp, Op.shift, if_neg (Int.not_lt.2 hob)]; rfl, rfl, rfl⟩
 all_goals
   simp [zCg, Op.intArith, Op.intDiv, go_sem] at hob ⊢ <;> first | rfl | (simp [hob, zBM]; done) | (simp [zBM]; done)
theorem zGZ (a b : ByteArray) : (a.toList == b.toList) = decide (a = b) := by
 rw [Bool.eq_iff_iff];simp only [beq_iff_eq, decide_eq_true_eq];constructor
 · intro h;rw [ByteArray.toList_eq, ByteArray.toList_eq] at h;cases a; cases b; simp at h; subst h; rfl
 · intro h; rw [h]
theorem ok_strBin {op : BinOp} {t : TypeId} {a b : ByteArray} (w : World) (hob : (zG8 op a b).ob) :
   ∃ x, (binOp op t (.string a) (.string b)).run P w = .ok x w ∧ zBM x = true ∧ (zG8 op a b).v = .sc x := by
 have hb := zGZ a b;cases op <;> simp [zG8, Eff.bad] at hob ⊢ <;> simp [binOp, Op.stringOp, hb, zBM];have : ¬ ((9223372036854775807 : Int) < (a.size : Int) + b.size) := by omega
 omega
theorem zAD {t : TypeId} {d : TypeDesc} (h : P.underlying t = some d) (w : World) : (underlying t).run P w = .ok d w := run_underlying h w
theorem zGl {op : BinOp} (h : op = .shl ∨ op = .shr) (t : TypeId) (k k' : IntKind) (a b : Int) : binOp op t (.int k a) (.int k' b) = binOp op t (.int k a) (.int k b) := by
 rcases h with rfl | rfl <;> rfl
theorem zCI {t : TypeId} (h : zEO P t = true) : P.underlying t = some .bool := by
 unfold zEO at h; split at h <;> first | assumption | (cases h)
theorem zA6 {t : TypeId} (h : zAW P t = true) : P.underlying t = some .string := by
 unfold zAW at h; split at h <;> first | assumption | (cases h)
theorem zCu {t : TypeId} (h : zCv P t = true) : P.underlying t = some (.slice (zAu P t)) := by
 unfold zCv at h; unfold zAu; split at h <;> first | (rename_i e he; rw [he]) | (cases h)
theorem zEZ {t : TypeId} (h : zBG P t = true) : ∃ fs, P.underlying t = some (.struct fs) ∧ ∀ fd ∈ fs, tyOk P fd.type = true := by
 unfold zBG at h; split at h
 · exact ⟨_, by assumption, Array.all_eq_true_iff_forall_mem.1 h⟩
 · cases h
theorem zA7 {t : TypeId} (h : tyOk P t = true) : (P.underlying t).isSome = true ∧ 1 ≤ zAr P t := by simpa [tyOk] using h
theorem zBa {t : TypeId} (h : zAN P t = true) : P.underlying t = some (.slice (zAu P t)) ∧ tyOk P (zAu P t) = true := by
 simp only [zAN, Bool.and_eq_true] at h; exact ⟨zCu h.1, h.2⟩
theorem zEC {t : TypeId} {n : Nat} {e : TypeId} (h : arrOk P t = some (n, e)) : P.underlying t = some (.array n e) ∧ tyOk P e = true := by
 unfold arrOk at h; split at h
 · split at h
   · cases h; exact ⟨by assumption, by assumption⟩
   · cases h
 · cases h
theorem zBN {t : TypeId} {k : IntKind} (h : zBm P t = some k) : P.underlying t = some (.int k) := by
 unfold zBm at h; split at h <;> first | (cases h; assumption) | (cases h)
theorem zDv {t : TypeId} {k e : TypeId} (h : mapTy P t = some (k, e)) : P.underlying t = some (.map k e) := by
 unfold mapTy at h; split at h <;> first | (cases h; assumption) | (cases h)
theorem run_equalIn_bool (d : Nat) {t : TypeId} (a b : Bool) (w : World) (h : P.underlying t = some .bool) : (Op.equalIn (d + 1) t (.bool a) (.bool b)).run P w = .ok (a == b) w := by
 simp [Op.equalIn, zAD h]
theorem run_equal_bool {t : TypeId} (a b : Bool) (w : World) (h : P.underlying t = some .bool) : (Op.equal t (.bool a) (.bool b)).run P w = .ok (a == b) w := run_equalIn_bool 9999 a b w h
theorem zIu {t : TypeId} {a b neg : Bool} (w : World) (h : zEO P t = true) :
   (binOp (if neg then .neq else .eql) t (.bool a) (.bool b)).run P w = .ok (.bool (xor neg (a == b))) w := by
 have hu := run_equal_bool (P := P) a b w (zCI h);cases neg
 · show (binOp .eql t (.bool a) (.bool b)).run P w = _;simp only [binOp]; simp [hu]
 · show (binOp .neq t (.bool a) (.bool b)).run P w = _;simp only [binOp]; simp [hu]
theorem zBh {t : TypeId} {n : Nat} (h : zAr P t = n) (hn : n ≠ 0) (w : World) : (sizeOf t).run P w = .ok n w := by
 unfold zAr Program.cellsOf at h;cases hq : P.info? t with
 | none => rw [hq] at h; simp at h; exact absurd h.symm hn
 | some i => rw [hq] at h; simp at h; simp [sizeOf, typeInfo, hq, h]
theorem zIi {t : TypeId} (h : (P.underlying t).isSome = true) (w : World) : (isAgg t).run P w = .ok (tyAgg P t) w := by
 obtain ⟨d, hd⟩ := Option.isSome_iff_exists.1 h;unfold isAgg tyAgg;rw [Sem.run_bind, zAD hd, hd];cases d <;> rfl
theorem agg_get {vs : Array Value} {cs : List PV} (h : Rep E (.agg vs) (.agg cs)) {i : Nat} (hi : i < cs.length) : ∃ v, vs[i]? = some v ∧ Rep E v (cs.getD i .dead) := by
 cases h with
 | agg hl hp =>
   have h1 : i < vs.size := by omega
   exact ⟨vs[i], by simp [h1], hp i _ _ (by simp [h1]) (by rw [List.getD_eq_getElem?_getD, List.getElem?_eq_getElem hi]; rfl)⟩
theorem zEF {t : TypeId} {vs : Array Value} {cs : List PV} (hu : (P.underlying t).isSome = true) (h : Rep E (.agg vs) (.agg cs)) {o n : Nat} (hn : zAr P t = n) (h1 : 1 ≤ n) (ho : o + n ≤ cs.length) :
   ∃ v, (part t vs o).run P E.w = .ok v E.w ∧ Rep E v (zFt cs (o, n, tyAgg P t)) := by
 subst hn;unfold part zFt;rw [Sem.run_bind, zIi hu, Result.andThen_ok];cases hq : tyAgg P t with
 | false =>
   obtain ⟨v, h2, h3⟩ := agg_get h (show o < cs.length by omega);exact ⟨v, by simp [h2], h3⟩
 | true =>
   have hs := zBh (P := P) (t := t) rfl (by omega) E.w;refine ⟨.agg (vs.extract o (o + zAr P t)), by simp [hs], ?_⟩;cases h with
   | agg hl hp =>
     refine .agg (by simp only [Array.size_extract, List.length_take, List.length_drop]; omega) fun i v p h2 h3 => ?_;simp only [Array.getElem?_extract] at h2;split at h2
     · simp only [List.getElem?_take] at h3;split at h3
       · rw [List.getElem?_drop] at h3;exact hp _ _ _ h2 h3
       · cases h3
     · cases h2
theorem zFN {d m : Nat} {vs us : Array Value} {a b : List PV} (hx : Rep E (.agg vs) (.agg a)) (hy : Rep E (.agg us) (.agg b)) (hl : a.length = b.length)
   (ih : ∀ (t : TypeId) (x y : Value) (p q : PV), eqOk P d t p q = true → Rep E x p → Rep E y q → ∀ m, (Op.equalIn (d + m) t x y).run P E.w = .ok (eqV P d t p q) E.w) :
   ∀ fs : List Field, (fs.all fun f => f.name != "_" && (tyOk P f.type && (Nat.ble (f.offset + zAr P f.type) a.length && eqOk P d f.type (zCk P a f) (zCk P b f)))) = true →
     (Op.eqFields (d + m) vs us fs).run P E.w = .ok (fs.all fun f => eqV P d f.type (zCk P a f) (zCk P b f)) E.w
 | [], _ => rfl
 | f :: fs, h => by
   simp only [List.all_cons, Bool.and_eq_true, bne_iff_ne] at h;obtain ⟨⟨h1, h2, h3, h4⟩, h5⟩ := h;obtain ⟨hu, hn⟩ := zA7 h2;have hle := Nat.le_of_ble_eq_true h3;obtain ⟨v, hv, hvr⟩ := zEF (P := P) (t := f.type) (o := f.offset) hu hx rfl hn hle;obtain ⟨u, hu', hur⟩ := zEF (P := P) (t := f.type) (o := f.offset) hu hy rfl hn (by omega);have he := ih f.type v u _ _ h4 hvr hur m;have hr := zFN hx hy hl ih (m := m) fs h5;simp only [Op.eqFields, if_pos h1, Sem.run_bind, hv, Result.andThen_ok, hu', he, List.all_cons];cases hq : eqV P d f.type (zCk P a f) (zCk P b f) with
   | true => simpa [hq] using hr
   | false => simp
theorem zGh {d m : Nat} {e : TypeId} {vs us : Array Value} {a b : List PV} (hx : Rep E (.agg vs) (.agg a)) (hy : Rep E (.agg us) (.agg b)) (hl : a.length = b.length) (hte : tyOk P e = true)
   (ih : ∀ (t : TypeId) (x y : Value) (p q : PV), eqOk P d t p q = true → Rep E x p → Rep E y q → ∀ m, (Op.equalIn (d + m) t x y).run P E.w = .ok (eqV P d t p q) E.w) :
   ∀ is : List Nat, (is.all fun i => Nat.ble (i * zAr P e + zAr P e) a.length && eqOk P d e (zC9 P a e i) (zC9 P b e i)) = true →
     (Op.eqItems (d + m) e (P.cellsOf e) vs us is).run P E.w = .ok (is.all fun i => eqV P d e (zC9 P a e i) (zC9 P b e i)) E.w
 | [], _ => rfl
 | i :: is, h => by
   simp only [List.all_cons, Bool.and_eq_true] at h;obtain ⟨⟨h3, h4⟩, h5⟩ := h;obtain ⟨hu, hn⟩ := zA7 hte;have hle := Nat.le_of_ble_eq_true h3;obtain ⟨v, hv, hvr⟩ := zEF (P := P) (t := e) (o := i * zAr P e) hu hx rfl hn hle;obtain ⟨u, hu', hur⟩ := zEF (P := P) (t := e) (o := i * zAr P e) hu hy rfl hn (by omega);have he := ih e v u _ _ h4 hvr hur m;have hr := zGh hx hy hl hte ih (m := m) is h5;have hv : (part e vs (i * P.cellsOf e)).run P E.w = .ok v E.w := hv;have hu' : (part e us (i * P.cellsOf e)).run P E.w = .ok u E.w := hu';simp only [Op.eqItems, Sem.run_bind, hv, Result.andThen_ok, hu', he, List.all_cons];unfold zC9 at hr ⊢;cases hq : eqV P d e (zFt a (i * zAr P e, zAr P e, tyAgg P e)) (zFt b (i * zAr P e, zAr P e, tyAgg P e)) with
   | true => simpa [hq] using hr
   | false => simp
theorem zD1 : ∀ (d : Nat) (t : TypeId) (x y : Value) (p q : PV), eqOk P d t p q = true → Rep E x p → Rep E y q → ∀ m, (Op.equalIn (d + m) t x y).run P E.w = .ok (eqV P d t p q) E.w
 | 0, t, x, y, p, q, h, _, _, _ => by cases h
 | d + 1, t, x, y, p, q, h, hx, hy, m => by
   rw [Nat.add_right_comm];unfold eqOk at h;split at h
   · rename_i hu;split at h
     · obtain rfl := hx.int_inv;obtain rfl := hy.int_inv;have := of_decide_eq_true h;subst this;exact run_equalIn_int E.w _ _ _ _ _ _ hu
     · cases h
   · rename_i hu;split at h
     · rename_i a b;obtain rfl := hx.sc_inv;obtain rfl := hy.sc_inv;rw [run_equalIn_string E.w _ _ _ _ hu, zGZ];rfl
     · cases h
   · rename_i hu;split at h
     · obtain rfl := hx.sc_inv;obtain rfl := hy.sc_inv;exact run_equalIn_bool' E.w _ _ _ _ hu
     · cases h
   · rename_i fs hu;split at h
     · rename_i a b;simp only [Bool.and_eq_true, Bool.not_eq_true', Nat.beq_eq] at h;obtain ⟨h1, h2, h3⟩ := h;have hf : P.fieldsOf t = fs := by simp [Program.fieldsOf, hu]
       generalize hv : x = vx at hx;generalize hw : y = vy at hy;cases hx with
       | @agg vs _ hl hp =>
       cases hy with
       | @agg us _ hl' hp' =>
       rw [run_equalIn_struct E.w _ t vs us (by rw [hf]; exact hu) h2, hf];rw [zFN (.agg hl hp) (.agg hl' hp') h1 (fun t x y p q => zD1 d t x y p q) fs.toList h3];simp only [eqV, hu]
     · cases h
   · rename_i n e hu;split at h
     · rename_i a b;simp only [Bool.and_eq_true, Nat.beq_eq] at h;obtain ⟨h1, h2, h3⟩ := h;obtain ⟨i, hi⟩ := info_of_underlying (P := P) (t := e) (d := _) (Option.eq_some_of_isSome (by have := h2; unfold tyOk at this; simp only [Bool.and_eq_true] at this; exact this.1));generalize hv : x = vx at hx;generalize hw : y = vy at hy;cases hx with
       | @agg vs _ hl hp =>
       cases hy with
       | @agg us _ hl' hp' =>
       rw [run_equalIn_array E.w _ vs us hu hi];rw [zGh (.agg hl hp) (.agg hl' hp') h1 h2 (fun t x y p q => zD1 d t x y p q) (List.range n) h3];simp only [eqV, hu]
     · cases h
   · cases h
theorem zJE {t : TypeId} {x y : Value} {a b : List PV} {neg : Bool} (hx : Rep E x (.agg a)) (hy : Rep E y (.agg b)) (h : eqOk P 6 t (.agg a) (.agg b) = true) :
   (binOp (if neg then .neq else .eql) t x y).run P E.w = .ok (.bool (xor neg (eqV P 6 t (.agg a) (.agg b)))) E.w := by
 have hr := zD1 6 t x y _ _ h hx hy 9994;generalize hv : x = vx at hx hr ⊢;generalize hw : y = vy at hy hr ⊢;cases hx with
 | @agg vs _ hl hp =>
 cases hy with
 | @agg us _ hl' hp' =>
 cases neg
 · show (binOp .eql t (.agg vs) (.agg us)).run P E.w = _;rw [run_eql_struct, show (10000 : Nat) = 6 + 9994 from rfl, hr];simp
 · show (binOp .neq t (.agg vs) (.agg us)).run P E.w = _;rw [run_neq_struct, show (10000 : Nat) = 6 + 9994 from rfl, hr];simp
theorem ok_binEff {op : BinOp} {t : TypeId} {x y : Value} {p q : PV} (hx : Rep E x p) (hy : Rep E y q) (hob : (zBQ P op t p q).ob) :
   ∃ v, (binOp op t x y).run P E.w = .ok v E.w ∧ zBM v = true ∧ (zBQ P op t p q).v = .sc v := by
 unfold zBQ at hob ⊢;split at hob
 · rename_i k a k' b;obtain rfl := hx.int_inv;obtain rfl := hy.int_inv;split at hob
   · rw [zGl (.inl rfl)]; exact zGB E.w hob
   · rw [zGl (.inr rfl)]; exact zGB E.w hob
   · rename_i h1 h2;obtain ⟨rfl, h3⟩ := hob;obtain ⟨v, h4, h5, h6⟩ := zGB (P := P) (t := t) E.w h3;refine ⟨v, h4, h5, ?_⟩;cases op <;> first | exact h6 | (exact absurd rfl h1) | (exact absurd rfl h2)
 · obtain rfl := hx.sc_inv;obtain rfl := hy.sc_inv;exact ok_strBin E.w hob
 · rename_i h1 h2;split at hob
   · unfold eqBin at hob ⊢;split at hob
     · obtain rfl := hx.sc_inv;obtain rfl := hy.sc_inv;exact ⟨_, zIu (neg := false) E.w hob, rfl, rfl⟩
     · exact ⟨_, zJE (neg := false) hx hy hob.2, rfl, rfl⟩
     · exact hob.elim
   · unfold eqBin at hob ⊢;split at hob
     · obtain rfl := hx.sc_inv;obtain rfl := hy.sc_inv;exact ⟨_, zIu (neg := true) E.w hob, rfl, rfl⟩
     · exact ⟨_, zJE (neg := true) hx hy hob.2, rfl, rfl⟩
     · exact hob.elim
   · exact hob.elim
theorem ok_unEff {op : UnOp} {x : Value} {p : PV} (w : World) (hx : Rep E x p) (hob : (unEff op p).ob) :
   ∃ v, (Op.unary op x).run P w = .ok v w ∧ zBM v = true ∧ (unEff op p).v = .sc v := by
 unfold unEff at hob ⊢;split at hob
 · obtain rfl := hx.sc_inv; exact ⟨_, rfl, rfl, rfl⟩
 · obtain rfl := hx.sc_inv; exact ⟨_, rfl, rfl, rfl⟩
 · exact hob.elim
structure View (E : Env) (b off sz : Nat) (rs : Rows) : Prop where
 width : ∀ row ∈ rs, row.length = sz
 cell : ∀ (i j : Nat) (row : List PV) (p : PV), rs[i]? = some row → row[j]? = some p → ∃ v, E.w.cell? ⟨b, off + i * sz + j, none⟩ = some v ∧ Rep E v p
 one : ∀ row ∈ rs, ∀ p ∈ row, p.cell = true
theorem View.of_mem {t : Bool} {sz : Nat} {rows : Rows} {b off : Nat} {f : Nat → Nat → Value} (m : MemAt E t sz rows b off f)
   (hr : ∀ (i j : Nat) (row : List PV) (p : PV), rows[i]? = some row → row[j]? = some p → Rep E (f i j) p) : View E b off sz rows :=
 ⟨m.width, fun i j row p h1 h2 => ⟨_, m.cell i j row p h1 h2, hr i j row p h1 h2⟩, m.one⟩
theorem zCC {w : World} {b : Nat} {c : Array Value} {T : TypeId} {fr : Nat × Nat} (h : w.heap[b]? = some (.cells c T fr)) (o : Nat) : w.cell? ⟨b, o, none⟩ = c[o]? := by
 simp [World.cell?, h]
theorem View.of_obj {k : Key} {sz : Nat} {rs : Rows} (ho : ObjOK E k (.rows sz rs)) : View E (E.blk k) (E.cap k).2 sz rs := by
 obtain ⟨c, T, h1, h2, h3, h4, h5, h6, h7⟩ := ho;refine ⟨h5, fun i j row p h8 h9 => ?_, h6⟩;obtain ⟨v, h10, h11⟩ := h7 i j row p h8 h9;exact ⟨v, by rw [zCC h1]; exact h10, h11⟩
theorem getElem?_row {rs : Rows} {i : Nat} (h : i < rs.length) : rs[i]? = some (rs.getD i []) := by
 rw [List.getD_eq_getElem?_getD, List.getElem?_eq_getElem h]; rfl
theorem View.at {b off sz : Nat} {rs : Rows} (V : View E b off sz rs) {i j : Nat} (hi : i < rs.length) (hj : j < sz) :
   ∃ v, E.w.cell? ⟨b, off + i * sz + j, none⟩ = some v ∧ Rep E v (zCZ rs i j) ∧ (zCZ rs i j).cell = true := by
 have h1 := getElem?_row hi;have hl : (rs.getD i []).length = sz := V.width _ (List.mem_of_getElem? h1)
 have h2 : (rs.getD i [])[j]? = some (zCZ rs i j) := by
   unfold zCZ; rw [List.getD_eq_getElem?_getD (l := rs.getD i []), List.getElem?_eq_getElem (by omega)]; rfl
 obtain ⟨v, h3, h4⟩ := V.cell i j _ _ h1 h2;exact ⟨v, h3, h4, V.one _ (List.mem_of_getElem? h1) _ (List.mem_of_getElem? h2)⟩
theorem Addr.add_at (b o n : Nat) : Addr.add ⟨b, o, none⟩ n = ⟨b, o + n, none⟩ := by
 unfold Addr.add; split <;> simp_all
theorem aggAt_get {rs : Rows} {i j n x : Nat} (hx : x < n) (h : j + n ≤ (rs.getD i []).length) : (aggAt rs i j n)[x]? = some (zCZ rs i (j + x)) := by
 unfold aggAt zCZ;rw [List.getElem?_take, if_pos hx, List.getElem?_drop, List.getD_eq_getElem?_getD (l := rs.getD i []), List.getElem?_eq_getElem (by omega)];rfl
theorem zFU {rs : Rows} {i j n : Nat} (h : j + n ≤ (rs.getD i []).length) : (aggAt rs i j n).length = n := by
 unfold aggAt; rw [List.length_take, List.length_drop]; omega
theorem View.load {b off sz : Nat} {rs : Rows} (V : View E b off sz rs) {t : TypeId} {i j : Nat} (ht : (P.underlying t).isSome = true) (hti : (P.info? t).isSome = true) (hi : i < rs.length) (hj : j + zAr P t ≤ sz) (h1 : 1 ≤ zAr P t) :
   ∃ v, (loadVar t ⟨b, off + i * sz + j, none⟩).run P E.w = .ok v E.w ∧ Rep E v (if tyAgg P t then .agg (aggAt rs i j (zAr P t)) else zCZ rs i j) := by
 obtain ⟨d, hd⟩ := Option.isSome_iff_exists.1 ht;obtain ⟨ti, hti⟩ := Option.isSome_iff_exists.1 hti;have hsz : zAr P t = ti.size := by simp [zAr, Program.cellsOf, hti]
 have hagg : (isAgg t).run P E.w = .ok (tyAgg P t) E.w := by
   unfold isAgg tyAgg;rw [Sem.run_bind, zAD hd, hd];cases d <;> rfl
 have hl : (rs.getD i []).length = sz := V.width _ (List.mem_of_getElem? (getElem?_row hi));unfold loadVar;rw [Sem.run_bind, hagg, Result.andThen_ok];cases hq : tyAgg P t with
 | false =>
   obtain ⟨v, h2, h3, _⟩ := V.at hi (show j < sz by omega);exact ⟨v, by simp [h2], h3⟩
 | true =>
   have hcell : ∀ x, x < zAr P t → ∃ v, E.w.cell? ⟨b, off + i * sz + j + x, none⟩ = some v ∧ Rep E v (zCZ rs i (j + x)) := fun x hx => by
     obtain ⟨v, h2, h3, _⟩ := V.at hi (show j + x < sz by omega);exact ⟨v, by rw [← h2]; congr 2; omega, h3⟩
   let f : Nat → Value := fun x => (E.w.cell? ⟨b, off + i * sz + j + x, none⟩).getD undef
   have hf : ∀ x, x < zAr P t → E.w.cell? ((⟨b, off + i * sz + j, none⟩ : Addr).add x) = some (f x) := fun x hx => by
     obtain ⟨v, h2, _⟩ := hcell x hx;rw [Addr.add_at]; simp [f, h2]
   refine ⟨.agg ((List.range (zAr P t)).map f).toArray, ?_, ?_⟩
   · simp only [if_true, sizeOf, typeInfo, Sem.run_bind, run_program, Result.andThen_ok, hti, Sem.run_pure, ← hsz];rw [run_loadCells E.w ⟨b, off + i * sz + j, none⟩ (zAr P t) f hf];rfl
   · simp only [if_true];refine .agg (by simp [zFU (show j + zAr P t ≤ (rs.getD i []).length by omega)]) fun x v p h2 h3 => ?_
     have hx : x < zAr P t := by
       have := (List.getElem?_eq_some_iff.1 h3).1;rw [zFU (by omega)] at this; exact this
     rw [aggAt_get hx (by omega)] at h3;simp [hx] at h2;obtain ⟨v', h4, h5⟩ := hcell x hx;cases h3;rw [← h2];simp only [f, h4]; exact h5
theorem zFE {t : TypeId} (h : 1 ≤ zAr P t) : (P.info? t).isSome = true := by
 unfold zAr Program.cellsOf at h;cases hq : P.info? t with
 | none => rw [hq] at h; simp at h
 | some i => rfl
def RO (P : Program) (E : Env) (s : Sem Value) (e : Eff) : Prop := ∃ v, s.run P E.w = .ok v E.w ∧ Rep E v e.v ∧ e.wr = [] ∧ e.bump = false
theorem zKU (g : Good E) {t : TypeId} {va : Value} {p : PV} (hr : Rep E va p) (hob : (zBK P E.h t p).ob) : RO P E (Instr.loadAt t va) (zBK P E.h t p) := by
 unfold zBK at hob ⊢;split at hob
 · rename_i k sz i j;split at hob
   · rename_i sz' rs hk;obtain ⟨h1, h2, h34⟩ := hob;obtain ⟨h4, h3⟩ := zA7 h34;cases hr with
     | ptr hkn hl =>
       obtain ⟨⟨hb, ha⟩, rs', hq⟩ := hl _ hk;cases hq;subst hb; subst ha;obtain ⟨v, hv, hrep⟩ := (View.of_obj (g.obj k _ hk)).load (P := P) (t := t) h4 (zFE h3) h1 h2 h3;refine ⟨v, ?_, ?_, ?_, ?_⟩
       · simp only [Instr.loadAt, Instr.sureAddr, Sem.run_bind, Sem.run_pure, Result.andThen_ok];simpa using hv
       · exact hrep
       · rfl
       · rfl
   · exact hob.elim
 · rename_i tt sz rs i j;obtain ⟨h1, h2, h34⟩ := hob;obtain ⟨h4, h3⟩ := zA7 h34;cases hr with
   | lptr _ _ hm hrr =>
     obtain ⟨v, hv, hrep⟩ := (View.of_mem hm hrr).load (P := P) (t := t) h4 (zFE h3) h1 h2 h3;refine ⟨v, ?_, hrep, rfl, rfl⟩;simp only [Instr.loadAt, Instr.sureAddr, Sem.run_bind, Sem.run_pure, Result.andThen_ok];exact hv
 · exact hob.elim
theorem ro_bin {op : BinOp} {t : TypeId} {x y : Value} {p q : PV} (hx : Rep E x p) (hy : Rep E y q) (hob : (zBQ P op t p q).ob) : RO P E (binOp op t x y) (zBQ P op t p q) := by
 obtain ⟨v, h1, h2, h3⟩ := ok_binEff (P := P) hx hy hob;refine ⟨v, h1, by rw [h3]; exact .sc h2, ?_, ?_⟩
 all_goals
   unfold zBQ at hob ⊢;split at hob
   · split at hob
     · rfl
     · rfl
     · cases op <;> rfl
   · cases op <;> rfl
   · split at hob
     · unfold eqBin; split <;> rfl
     · unfold eqBin; split <;> rfl
     · exact hob.elim
theorem run_eql_nil {t e : TypeId} {a : Addr} {l c : Nat} (h : P.underlying t = some (.slice e)) (w : World) : (binOp .eql t (.slice (some a) l c) (.slice none 0 0)).run P w = .ok (.bool false) w := by
 have := run_equal_slice_nil (P := P) w t e (some a) l c h;simp only [binOp];simp [this]
theorem run_neq_nil {t e : TypeId} {a : Addr} {l c : Nat} (h : P.underlying t = some (.slice e)) (w : World) : (binOp .neq t (.slice (some a) l c) (.slice none 0 0)).run P w = .ok (.bool true) w := by
 have := run_equal_slice_nil (P := P) w t e (some a) l c h;simp only [binOp];simp [this]
theorem zL4 {op : BinOp} {t : TypeId} {n : Bool} {a : Addr} {l c : Nat} {y : Value} (hn : n = true → y = .slice none 0 0) (hob : (zHU P op t n).ob) : RO P E (binOp op t (.slice (some a) l c) y) (zHU P op t n) := by
 unfold zHU at hob ⊢;cases op <;> first | exact hob.elim | skip
 · obtain ⟨h1, h2⟩ := hob;rw [hn h1];exact ⟨_, run_eql_nil (zCu h2) _, .sc rfl, rfl, rfl⟩
 · obtain ⟨h1, h2⟩ := hob;rw [hn h1];exact ⟨_, run_neq_nil (zCu h2) _, .sc rfl, rfl, rfl⟩
theorem ro_binN {op : BinOp} {t : TypeId} {n : Bool} {x y : Value} {p q : PV} (hn : n = true → y = .slice none 0 0) (hx : Rep E x p) (hy : Rep E y q) (hob : (zBl P op t n p q).ob) : RO P E (binOp op t x y) (zBl P op t n p q) := by
 unfold zBl at hob ⊢;split at hob
 · generalize hv : x = v at hx ⊢;cases hx with
   | lit hm hc hr => exact zL4 hn hob
 · generalize hv : x = v at hx ⊢;cases hx with
   | ref hk hlen hl => exact zL4 hn hob
 · exact ro_bin hx hy hob
theorem ro_un {op : UnOp} {x : Value} {p : PV} (hx : Rep E x p) (hob : (unEff op p).ob) : RO P E (Op.unary op x) (unEff op p) := by
 obtain ⟨v, h1, h2, h3⟩ := ok_unEff (P := P) E.w hx hob;refine ⟨v, h1, by rw [h3]; exact .sc h2, ?_, ?_⟩
 all_goals
   unfold unEff at hob ⊢;split at hob <;> first | rfl | exact hob.elim
theorem zEY {t : TypeId} (h : zBG P t = true) {f : Nat} (hf : f < (zBp P t).length) :
   ∃ fs fd, P.underlying t = some (.struct fs) ∧ fs[f]? = some fd ∧ tyOk P fd.type = true ∧ (zBp P t).getD f (0, 0, false) = (fd.offset, P.cellsOf fd.type, tyAgg P fd.type) := by
 obtain ⟨fs, hu, hall⟩ := zEZ h;unfold zBp at hf ⊢;rw [hu] at hf ⊢;simp only [List.length_map, Array.length_toList] at hf;refine ⟨fs, fs[f], rfl, by simp [hf], hall _ (by simp), ?_⟩;simp [hf]
theorem ro_fieldAddr {t : TypeId} {f : Nat} {x : Value} {p : PV} (hx : Rep E x p) (hob : (zBO P t p f).ob) : RO P E (Instr.fieldAt t x f) (zBO P t p f) := by
 have key : ∀ (b o : Nat), zBG P t = true → f < (zBp P t).length →
     (Instr.fieldAt t (.pointer (some ⟨b, o, none⟩)) f).run P E.w = .ok (.pointer (some ⟨b, o + ((zBp P t).getD f (0, 0, false)).1, none⟩)) E.w := fun b o h1 h2 => by
   obtain ⟨fs, fd, hu, hfd, hok, hpl⟩ := zEY h1 h2;rw [hpl];have h3 : zAr P fd.type ≠ 0 := by have := (zA7 hok).2; omega
   have hs := zBh (P := P) (t := fd.type) rfl h3 E.w;simp only [Instr.fieldAt, Sem.run_bind, zAD hu, Result.andThen_ok, hfd, Instr.sureAddr, Sem.run_pure, fieldPlace, hs];simp [h3, Addr.add_at]
 unfold zBO at hob ⊢;split at hob
 · obtain ⟨h1, h2⟩ := hob;cases hx with
   | ptr hk hl => exact ⟨_, key _ _ h1 h2, .ptr hk fun o ho => ⟨⟨(hl o ho).1.1, by rw [(hl o ho).1.2]; omega⟩, (hl o ho).2⟩, rfl, rfl⟩
 · obtain ⟨h1, h2⟩ := hob;cases hx with
   | lptr _ _ hm hrr => exact ⟨_, key _ _ h1 h2, by rw [Nat.add_assoc]; exact .lptr _ _ hm hrr, rfl, rfl⟩
 · exact hob.elim
end
end Go.Pv
namespace Go.Pv
open Go Go.RowKit
section
variable {P : Program} {E : Env}
theorem ro_field {t : TypeId} {f : Nat} {x : Value} {p : PV} (hx : Rep E x p) (hob : (zEd P t p f).ob) : RO P E (Instr.field t x f) (zEd P t p f) := by
 unfold zEd at hob ⊢;split at hob
 · rename_i cs;obtain ⟨h1, h2, h4⟩ := hob;cases hx with
   | agg hl hp =>
     rename_i vs;obtain ⟨fs, fd, hu, hfd, hok, hpl⟩ := zEY h1 h2;rw [hpl] at h4 ⊢;obtain ⟨h5, h3⟩ := zA7 hok;obtain ⟨v, h6, h7⟩ := zEF (P := P) (t := fd.type) (o := fd.offset) h5 (.agg hl hp) rfl h3 h4;exact ⟨v, by simp [Instr.field, zAD hu, hfd, asAgg, h6], h7, rfl, rfl⟩
 · exact hob.elim
theorem zEi {t : TypeId} (h : zAN P t = true) {b o len c : Nat} {k : IntKind} {i : Int} (h1 : 0 ≤ i) (h2 : i < len) (w : World) :
   (Instr.indexAt t (.slice (some ⟨b, o, none⟩) len c) (.int k i)).run P w = .ok (.pointer (some ⟨b, o + i.toNat * zAr P (zAu P t), none⟩)) w := by
 obtain ⟨hu, hok⟩ := zBa h;have hs := zBh (P := P) (t := zAu P t) rfl (by have := (zA7 hok).2; omega) w;simp only [Instr.indexAt, asIntOf, Sem.run_bind, Sem.run_pure, Result.andThen_ok, zAD hu];simp [h1, h2, hs, Addr.add_at]
theorem zFp {t : TypeId} {n : Nat} {e : TypeId} (h : arrOk P t = some (n, e)) {b o : Nat} {k : IntKind} {i : Int} (h1 : 0 ≤ i) (h2 : i < n) (w : World) :
   (Instr.indexAt t (.pointer (some ⟨b, o, none⟩)) (.int k i)).run P w = .ok (.pointer (some ⟨b, o + i.toNat * zAr P e, none⟩)) w := by
 obtain ⟨hu, hok⟩ := zEC h;have hs := zBh (P := P) (t := e) rfl (by have := (zA7 hok).2; omega) w;simp only [Instr.indexAt, asIntOf, Sem.run_bind, Sem.run_pure, Result.andThen_ok, zAD hu, Instr.sureAddr];simp [h1, h2, hs, Addr.add_at]
theorem ro_indexAddr {t : TypeId} {x ix : Value} {p q : PV} (hx : Rep E x p) (hi : Rep E ix q) (hob : (zBu P t p q).ob) : RO P E (Instr.indexAt t x ix) (zBu P t p q) := by
 unfold zBu at hob ⊢;split at hob
 · rename_i k i;obtain rfl := hi.int_inv;split at hob
   · rename_i tt sz rs;obtain ⟨h1, h2, h3, h4⟩ := hob;cases hx with
     | litE => simp at h4; omega
     | lit hm hc hr => exact ⟨_, zEi h1 h3 h4 E.w, by rw [h2]; exact .lptr i.toNat 0 hm hr, rfl, rfl⟩
   · rename_i key sz off len;obtain ⟨h1, h2, h3, h4⟩ := hob;cases hx with
     | refE hk hl => simp at h4; omega
     | ref hk hlen hl =>
       refine ⟨_, zEi h1 h3 h4 E.w, ?_, rfl, rfl⟩;rw [h2];exact .ptr (j := 0) hk fun o ho => ⟨⟨(hl o ho).1.1, by rw [(hl o ho).1.2, Nat.add_mul]; omega⟩, (hl o ho).2.2⟩
   · rename_i key sz a b;split at hob
     · rename_i n e ha;obtain ⟨h3, h4⟩ := hob;cases hx with
       | ptr hk hl => exact ⟨_, zFp ha h3 h4 E.w, .ptr hk fun o ho => ⟨⟨(hl o ho).1.1, by rw [(hl o ho).1.2]; omega⟩, (hl o ho).2⟩, rfl, rfl⟩
     · exact hob.elim
   · rename_i tt sz rs a b;split at hob
     · rename_i n e ha;obtain ⟨h3, h4⟩ := hob;cases hx with
       | lptr _ _ hm hr => exact ⟨_, zFp ha h3 h4 E.w, by rw [Nat.add_assoc]; exact .lptr _ _ hm hr, rfl, rfl⟩
     · exact hob.elim
   · exact hob.elim
 · exact hob.elim
theorem ro_index {t : TypeId} {x ix : Value} {p q : PV} (hx : Rep E x p) (hi : Rep E ix q) (hob : (zDz P t p q).ob) : RO P E (Instr.index t x ix) (zDz P t p q) := by
 unfold zDz at hob ⊢;split at hob
 · rename_i k i;obtain rfl := hi.int_inv;split at hob
   · rename_i s;obtain ⟨h1, h2, h3⟩ := hob;obtain rfl := hx.sc_inv;have hlt : i.toNat < s.size := by omega
     refine ⟨.int .u8 ((s.data.toList.getD i.toNat 0).toNat), ?_, .sc rfl, rfl, rfl⟩;simp only [Instr.index, asIntOf, Sem.run_bind, Sem.run_pure, Result.andThen_ok, zAD (zA6 h1), h2, if_true]
     have hg : s[i.toNat]? = some (s.data.toList.getD i.toNat 0) := by
       rw [getElem?_pos s i.toNat hlt, List.getD_eq_getElem?_getD, List.getElem?_eq_getElem (by simpa using hlt)];rfl
     rw [hg];rfl
   · rename_i cs;split at hob
     · rename_i n e ha;obtain ⟨h3, h4, h5⟩ := hob;cases hx with
       | agg hl hp =>
         obtain ⟨hu, hok⟩ := zEC ha;obtain ⟨h6, h7⟩ := zA7 hok;have hs := zBh (P := P) (t := e) rfl (by omega) E.w
         have hle : i.toNat * zAr P e + zAr P e ≤ cs.length := by
           rw [h5, ← Nat.succ_mul]; exact Nat.mul_le_mul_right _ (by omega)
         obtain ⟨v, h8, h9⟩ := zEF (P := P) (t := e) (o := i.toNat * zAr P e) h6 (.agg hl hp) rfl h7 hle;refine ⟨v, ?_, h9, rfl, rfl⟩;simp only [Instr.index, asIntOf, Sem.run_bind, Sem.run_pure, Result.andThen_ok, zAD hu, h3, h4, and_self, if_true, hs, h8]
     · exact hob.elim
   · exact hob.elim
 · exact hob.elim
theorem ro_extract {x : Value} {p : PV} {i : Nat} (hx : Rep E x p) (hob : (zCB p i).ob) : RO P E (Instr.extract x i) (zCB p i) := by
 unfold zCB at hob ⊢;split at hob
 · rename_i cs;cases hx with
   | tup hl hp =>
     rename_i vs;have h1 : i < cs.length := hob;have h2 : i < vs.size := by omega
     exact ⟨vs[i], by simp [Instr.extract, h2], hp i _ _ (by simp [h2]) (by rw [List.getD_eq_getElem?_getD, List.getElem?_eq_getElem h1]; rfl), rfl, rfl⟩
 · exact hob.elim
def zGa (t : TypeId) (x : Value) : Sem Value := do match ← underlying t, x with
   | .string, .string s => pure (goInt s.size)
   | .array n _, _ => pure (goInt n)
   | .pointer arr, _ =>
     let .array n _ ← underlying arr | stuck "len: pointer to array expected"
     pure (goInt n)
   | .slice _, .slice _ n _ => pure (goInt n)
   | .map _ _, .map none | .chan _ _, .chan none => pure (goInt 0)
   | .map _ _, .map (some r) =>
     let .map entries _ ← getObj r | stuck "len: map expected"
     pure (goInt entries.size)
   | .chan _ _, .chan (some r) =>
     let .chan _ buf _ _ _ timer ← getObj r | stuck "len: channel expected"
     pure (goInt (if timer then 0 else buf.size))
   | _, _ => stuck "len: string, array, pointer to array, slice, map or channel expected"
theorem zCx {t : TypeId} (h : zAN P t = true) (a : Option Addr) (n c : Nat) (w : World) : (zGa t (.slice a n c)).run P w = .ok (.int .i64 n) w := by
 simp only [zGa, Sem.run_bind, zAD (zBa h).1, Result.andThen_ok];rfl
theorem ro_len (g : Good E) {t ty : TypeId} {x : Value} {p : PV} {ts : Array TypeId} {as : Array Value} (ht : ts[0]? = some t) (ha : as[0]? = some x) (hx : Rep E x p) (hob : (zEN P E.h t p).ob) :
   RO P E (Builtin.len_ ts ty as) (zEN P E.h t p) := by
 have key : Builtin.len_ ts ty as = zGa t x := by
   unfold Builtin.len_ zGa; rw [ht, ha]; rfl
 unfold zEN at hob ⊢;rw [key];split at hob
 · obtain rfl := hx.sc_inv;exact ⟨_, by simp only [zGa, Sem.run_bind, zAD (zA6 hob), Result.andThen_ok]; rfl, .sc rfl, rfl, rfl⟩
 · cases hx with
   | nil => exact ⟨_, zCx hob _ _ _ E.w, .sc rfl, rfl, rfl⟩
 · cases hx with
   | litE => exact ⟨_, zCx hob _ _ _ E.w, .sc rfl, rfl, rfl⟩
   | lit hm hc hr => exact ⟨_, zCx hob _ _ _ E.w, .sc rfl, rfl, rfl⟩
 · cases hx with
   | refE hk hl => exact ⟨_, zCx hob _ _ _ E.w, .sc rfl, rfl, rfl⟩
   | ref hk hlen hl => exact ⟨_, zCx hob _ _ _ E.w, .sc rfl, rfl, rfl⟩
 · split at hob
   · rename_i key' es bs clk0 hk;obtain ⟨⟨kt, et⟩, hm⟩ := Option.isSome_iff_exists.1 hob;cases hx with
     | map hkn hl =>
       obtain ⟨hb, _⟩ := hl _ hk;obtain ⟨ents, h1, h2, _⟩ := g.obj _ _ hk;refine ⟨.int .i64 ents.size, ?_, by rw [h2]; exact .sc rfl, rfl, rfl⟩;simp only [zGa, Sem.run_bind, zAD (zDv hm), Result.andThen_ok, getObj, Sem.run, hb, h1];rfl
   · exact hob.elim
 · exact hob.elim
end
end Go.Pv
namespace Go.Pv
open Go Go.RowKit
section
variable {P : Program} {E : Env}
theorem ro_pick {c a b : Value} {p q r : PV} (hc : Rep E c p) (ha : Rep E a q) (hb : Rep E b r) (hob : (zE2 p q r).ob) :
   RO P E (do pure (if ← asBool c then a else b)) (zE2 p q r) := by
 unfold zE2 at hob ⊢;split at hob
 · rename_i t;obtain rfl := hc.sc_inv;cases t
   · exact ⟨b, rfl, hb, rfl, rfl⟩
   · exact ⟨a, rfl, ha, rfl, rfl⟩
 · exact hob.elim
theorem max_eq (a b : Int) : (if b > a then b else a) = max a b := by omega
theorem min_eq (a b : Int) : (if b < a then b else a) = min a b := by omega
theorem zKT : ∀ (l : List Value) (lp : List PV) (x : Value) (p : PV), l.length = lp.length → (∀ (i : Nat) (v : Value) (q : PV), l[i]? = some v → lp[i]? = some q → Rep E v q) → Rep E x p → (maxs p lp).ob →
   RO P E (l.foldlM Builtin.max2 x) (maxs p lp)
 | [], [], x, p, _, _, hx, _ => ⟨x, rfl, hx, rfl, rfl⟩
 | [], _ :: _, _, _, h, _, _, _ => by simp at h
 | _ :: _, [], _, _, h, _, _, _ => by simp at h
 | y :: l, q :: lp, x, p, hl, hr, hx, hob => by
   unfold maxs at hob ⊢;split at hob
   · rename_i h; cases h
   · rename_i k a k' b rest h;cases h;obtain ⟨rfl, hob⟩ := hob;obtain rfl := hx.int_inv;obtain rfl := (hr 0 y _ rfl rfl).int_inv;obtain ⟨v, h1, h2, h3, h4⟩ := zKT l _ (.int k (max a b)) _ (by simpa using hl) (fun i v q h1 h2 => hr (i + 1) v q h1 h2) (.sc rfl) hob;refine ⟨v, ?_, h2, h3, h4⟩;rw [List.foldlM_cons, Sem.run_bind];simp only [Builtin.max2, Sem.run_pure, Result.andThen_ok, max_eq];exact h1
   · exact hob.elim
theorem zKS : ∀ (l : List Value) (lp : List PV) (x : Value) (p : PV), l.length = lp.length → (∀ (i : Nat) (v : Value) (q : PV), l[i]? = some v → lp[i]? = some q → Rep E v q) → Rep E x p → (mins p lp).ob →
   RO P E (l.foldlM Builtin.min2 x) (mins p lp)
 | [], [], x, p, _, _, hx, _ => ⟨x, rfl, hx, rfl, rfl⟩
 | [], _ :: _, _, _, h, _, _, _ => by simp at h
 | _ :: _, [], _, _, h, _, _, _ => by simp at h
 | y :: l, q :: lp, x, p, hl, hr, hx, hob => by
   unfold mins at hob ⊢;split at hob
   · rename_i h; cases h
   · rename_i k a k' b rest h;cases h;obtain ⟨rfl, hob⟩ := hob;obtain rfl := hx.int_inv;obtain rfl := (hr 0 y _ rfl rfl).int_inv;obtain ⟨v, h1, h2, h3, h4⟩ := zKS l _ (.int k (min a b)) _ (by simpa using hl) (fun i v q h1 h2 => hr (i + 1) v q h1 h2) (.sc rfl) hob;refine ⟨v, ?_, h2, h3, h4⟩;rw [List.foldlM_cons, Sem.run_bind];simp only [Builtin.min2, Sem.run_pure, Result.andThen_ok, min_eq];exact h1
   · exact hob.elim
theorem zBR {x : Value} {n : Int} {k : IntKind} {y : Nat} {code : BoundsCode} (hx : x = .int k n) (h0 : 0 ≤ n) (h1 : n ≤ y) (w : World) : (Instr.sliceBound x y code).run P w = .ok n.toNat w := by
 subst hx;simp [Instr.sliceBound, asIntOf, h0, h1]
def zFX (E : Env) (x : Option Value) (p : Option PV) : Prop := (x = none ∧ p = none) ∨ ∃ v q, x = some v ∧ p = some q ∧ Rep E v q
theorem zEA {x : Option Value} {p : Option PV} (h : zFX E x p) {d : Option Int} {n : Int} (hb : bound p d = some n) : (x = none ∧ d = some n) ∨ ∃ k, x = some (.int k n) := by
 rcases h with ⟨rfl, rfl⟩ | ⟨v, q, rfl, rfl, hr⟩
 · exact .inl ⟨rfl, hb⟩
 · unfold bound at hb;split at hb
   · rename_i hq; cases hq
   · rename_i hq; cases hq; cases hb; exact .inr ⟨_, by rw [hr.sc_inv]⟩
   · cases hb
theorem zEk {lo hi : Option Value} {plo phi : Option PV} (hlo : zFX E lo plo) (hhi : zFX E hi phi)
   {l h : Int} {isSlice : Bool} {len cap : Nat} (hl : bound plo (some 0) = some l) (hh : bound phi (some len) = some h) (h0 : 0 ≤ l) (h1 : l ≤ h) (h2 : h ≤ len) (h3 : len ≤ cap) (w : World) :
   (Instr.sliceBounds isSlice len cap lo hi none).run P w = .ok (l.toNat, h.toNat, cap) w := by
 have e1 : ∀ code, (Instr.sliceBound (.int .i64 0) 0 code).run P w = .ok 0 w := fun code => zBR rfl (by omega) (by omega) w;rcases zEA hlo hl with ⟨rfl, hl'⟩ | ⟨k, rfl⟩ <;> rcases zEA hhi hh with ⟨rfl, hh'⟩ | ⟨k', rfl⟩
 · cases hl'; cases hh'; simp [Instr.sliceBounds]
 · cases hl';have e2 : ∀ code, (Instr.sliceBound (.int k' h) cap code).run P w = .ok h.toNat w := fun code => zBR rfl (by omega) (by omega) w;simp [Instr.sliceBounds, e2]
 · cases hh';have e2 : ∀ code, (Instr.sliceBound (.int k l) len code).run P w = .ok l.toNat w := fun code => zBR rfl (by omega) (by omega) w;simp [Instr.sliceBounds, e2]
 · have e2 : ∀ code, (Instr.sliceBound (.int k' h) cap code).run P w = .ok h.toNat w := fun code => zBR rfl (by omega) (by omega) w;have e3 : ∀ code, (Instr.sliceBound (.int k l) h.toNat code).run P w = .ok l.toNat w := fun code => zBR rfl (by omega) (by omega) w;simp [Instr.sliceBounds, e2, e3]
theorem run_bounds0 {lo hi mx : Option Value} {plo phi pmx : Option PV} (hlo : zFX E lo plo) (hhi : zFX E hi phi) (hmx : zFX E mx pmx)
   {isSlice : Bool} {len cap : Nat} (hl : bound plo (some 0) = some 0) (hh : bound phi none = some 0) (hm : bound pmx none = some 0) (w : World) :
   (Instr.sliceBounds isSlice len cap lo hi mx).run P w = .ok (0, 0, 0) w := by
 have e : ∀ k y code, (Instr.sliceBound (.int k 0) y code).run P w = .ok 0 w := fun k y code => zBR rfl (by omega) (by omega) w;rcases zEA hhi hh with ⟨_, h⟩ | ⟨k', rfl⟩
 · cases h
 rcases zEA hmx hm with ⟨_, h⟩ | ⟨k'', rfl⟩
 · cases h
 rcases zEA hlo hl with ⟨rfl, _⟩ | ⟨k, rfl⟩ <;> simp [Instr.sliceBounds, e]
theorem run_arr_slice {t : TypeId} {n : Nat} {e : TypeId} (ha : arrOk P t = some (n, e)) (h1 : 1 ≤ zAr P e) (h2 : 1 ≤ n) (b a : Nat) (w : World) :
   (Instr.sliceAt t (.pointer (some ⟨b, a, none⟩)) none none none).run P w = .ok (.slice (some ⟨b, a, none⟩) n n) w := by
 obtain ⟨hu, hok⟩ := zEC ha;have hs := zBh (P := P) (t := e) rfl (by have := (zA7 hok).2; omega) w;have hn : ¬ n = 0 := by omega
 simp only [Instr.sliceAt, Sem.run_bind, zAD hu, Result.andThen_ok, Instr.sureAddr, Sem.run_pure, Instr.sliceBounds, hs, Addr.add_at, Nat.sub_zero, Nat.zero_mul, Nat.add_zero, ite_self]
theorem arr_rep {E : Env} {n d b off i j sz : Nat} {tt : Bool} {rs : Rows} {f : Nat → Nat → Value} (h1 : 1 ≤ d) (h3 : i < rs.length) (h4 : j + n * d ≤ sz) (hm : MemAt E tt sz rs b off f)
   (hr : ∀ (i j : Nat) (row : List PV) (p : PV), rs[i]? = some row → row[j]? = some p → Rep E (f i j) p) :
   Rep E (.slice (some ⟨b, off + i * sz + j, none⟩) n n) (.lit tt d (zDH rs i j n d)) := by
 have hrow : rs[i]? = some (rs.getD i []) := by rw [List.getD_eq_getElem?_getD, List.getElem?_eq_getElem h3]; rfl
 have hmem : rs.getD i [] ∈ rs := List.mem_of_getElem? hrow;have hw := hm.width _ hmem;have hl : (zDH rs i j n d).length = n := by rw [zDH, List.length_map, List.length_range]
 have hget : ∀ (x y : Nat) (row : List PV) (p : PV), (zDH rs i j n d)[x]? = some row → row[y]? = some p → (rs.getD i [])[j + x * d + y]? = some p := fun x y row p g1 g2 => by
   rw [zDH, List.getElem?_map, Option.map_eq_some_iff] at g1;obtain ⟨q, g3, rfl⟩ := g1;obtain ⟨hx, hq⟩ := List.getElem?_eq_some_iff.1 g3;rw [List.getElem_range] at hq; subst hq;rw [aggAt, List.getElem?_take] at g2;split at g2
   · rwa [List.getElem?_drop] at g2
   · cases g2
 have hin : ∀ row ∈ zDH rs i j n d, row.length = d ∧ ∀ p ∈ row, p ∈ rs.getD i [] := fun row g1 => by
   obtain ⟨a, g2, rfl⟩ := List.mem_map.1 g1;have ha := List.mem_range.1 g2;have : (a + 1) * d ≤ n * d := Nat.mul_le_mul_right d ha;rw [Nat.add_mul] at this;refine ⟨by rw [aggAt, List.length_take, List.length_drop, hw]; omega, fun p hp => List.mem_of_mem_drop (List.mem_of_mem_take hp)⟩
 have := Rep.lit (E := E) (t := tt) (sz := d) (rows := zDH rs i j n d) (b := b) (off := off + i * sz + j) (c := n) (f := fun x y => f i (j + x * d + y))
   ⟨hm.own, hm.out, hm.tt, hm.lt, fun row g1 => (hin row g1).1, fun x y row p g1 g2 => by
     rw [← hm.cell i (j + x * d + y) _ p hrow (hget x y row p g1 g2)];congr 2; omega, fun row g1 p g2 => hm.pure _ hmem _ ((hin row g1).2 p g2), fun row g1 p g2 => hm.one _ hmem _ ((hin row g1).2 p g2)⟩ (by rw [hl]; exact Nat.le_refl _) (fun x y row p g1 g2 =>
     hr i (j + x * d + y) _ p hrow (hget x y row p g1 g2))
 rw [hl] at this;exact this
theorem arr_slice {E : Env} {t : TypeId} {n : Nat} {e : TypeId} (ha : arrOk P t = some (n, e)) (h1 : 1 ≤ zAr P e) (h2 : 1 ≤ n) {b off i j sz : Nat} {tt : Bool} {rs : Rows} {f : Nat → Nat → Value} (h3 : i < rs.length) (h4 : j + n * zAr P e ≤ sz) (hm : MemAt E tt sz rs b off f)
   (hr : ∀ (i j : Nat) (row : List PV) (p : PV), rs[i]? = some row → row[j]? = some p → Rep E (f i j) p) :
   (Instr.sliceAt t (.pointer (some ⟨b, off + i * sz + j, none⟩)) none none none).run P E.w = .ok (.slice (some ⟨b, off + i * sz + j, none⟩) n n) E.w ∧
     Rep E (.slice (some ⟨b, off + i * sz + j, none⟩) n n) (.lit tt (zAr P e) (zDH rs i j n (zAr P e))) :=
 ⟨run_arr_slice ha h1 h2 _ _ _, arr_rep h1 h3 h4 hm hr⟩
theorem ro_slice {t : TypeId} {x : Value} {p : PV} {lo hi mx : Option Value} {plo phi pmx : Option PV} (hx : Rep E x p)
   (hlo : zFX E lo plo) (hhi : zFX E hi phi) (hmx : zFX E mx pmx)
   (hob : (zDr P t p plo phi pmx).ob) : RO P E (Instr.sliceAt t x lo hi mx) (zDr P t p plo phi pmx) := by
 have hmx0 : pmx = none → mx = none := fun h => by
   rcases hmx with ⟨h1, _⟩ | ⟨v, q, _, h1, _⟩
   · exact h1
   · rw [h] at h1; cases h1
 have zero3 : ∀ (a : Option Addr) (len cap : Nat), zAN P t = true → bound plo (some 0) = some 0 → bound phi none = some 0 → bound pmx none = some 0 →
     (Instr.sliceAt t (.slice a len cap) lo hi mx).run P E.w = .ok (.slice a 0 0) E.w := fun a len cap h1 h2 h3 h5 => by
   obtain ⟨hu, hok⟩ := zBa h1;have hs := zBh (P := P) (t := zAu P t) rfl (by have := (zA7 hok).2; omega) E.w;have hb := run_bounds0 (P := P) (isSlice := true) (len := len) (cap := cap) hlo hhi hmx h2 h3 h5 E.w;simp only [Instr.sliceAt, Instr.slice, Sem.run_bind, zAD hu, Result.andThen_ok, Sem.run_pure, hb, hs, if_true, Nat.sub_self]
 unfold zDr at hob ⊢;split at hob
 · rename_i s;split at hob
   · rename_i l h hl hh;obtain ⟨h1, h2, h3, h4⟩ := hob;obtain rfl := hx.sc_inv;obtain rfl := hmx0 rfl;have hb := zEk (P := P) (isSlice := false) (cap := s.size) hlo hhi hl hh h2 h3 h4 (Nat.le_refl _) E.w;refine ⟨.string (s.extract l.toNat h.toNat), ?_, .sc rfl, rfl, rfl⟩;simp only [Instr.sliceAt, Instr.slice, Sem.run_bind, zAD (zA6 h1), Result.andThen_ok, Option.isSome_none, Bool.false_eq_true, if_false, Sem.run_pure, hb]
   · exact hob.elim
 · rename_i tt sz rs;split at hob
   · rename_i l h hl hh;obtain ⟨h1, h2, h3, h4, h5⟩ := hob;obtain ⟨hu, hok⟩ := zBa h1;obtain rfl := hmx0 rfl;have hs := zBh (P := P) (t := zAu P t) rfl (by have := (zA7 hok).2; omega) E.w
     have key : ∀ (a : Option Addr) (c : Nat), rs.length ≤ c → (Instr.sliceAt t (.slice a rs.length c) lo hi none).run P E.w = .ok (.slice (if c = l.toNat then a else a.map (·.add (l.toNat * zAr P (zAu P t)))) (h.toNat - l.toNat) (c - l.toNat)) E.w := fun a c hc => by
       have hb := zEk (P := P) (isSlice := true) (cap := c) hlo hhi hl hh h3 h4 h5 hc E.w;simp only [Instr.sliceAt, Instr.slice, Sem.run_bind, zAD hu, Result.andThen_ok, Sem.run_pure, hb, hs]
     have hrows : (zC0 rs l.toNat h.toNat).length = h.toNat - l.toNat := by unfold zC0; rw [List.length_take, List.length_drop]; omega
     by_cases he : h.toNat - l.toNat = 0
     · have hnil : zC0 rs l.toNat h.toNat = [] := List.eq_nil_of_length_eq_zero (by omega);cases hx with
       | litE => exact ⟨_, key _ _ (by simp), by rw [he]; simp only [hnil]; exact .litE, rfl, rfl⟩
       | lit hm hc hr => exact ⟨_, key _ _ hc, by rw [he]; simp only [hnil]; exact .litE, rfl, rfl⟩
     · cases hx with
       | litE => simp at h5; omega
       | lit hm hc hr =>
         rename_i b off c f;have hne : ¬ c = l.toNat := by omega
         refine ⟨_, key _ _ hc, ?_, rfl, rfl⟩;rw [if_neg hne];simp only [Option.map_some, Addr.add_at, h2];rw [← hrows]
         have hget : ∀ (i : Nat) (row : List PV), (zC0 rs l.toNat h.toNat)[i]? = some row → rs[l.toNat + i]? = some row := fun i row h6 => by
           unfold zC0 at h6;rw [List.getElem?_take] at h6;split at h6
           · rwa [List.getElem?_drop] at h6
           · cases h6
         have hmem : ∀ row ∈ zC0 rs l.toNat h.toNat, row ∈ rs := fun row h6 => by
           obtain ⟨i, h7⟩ := List.mem_iff_getElem?.1 h6;exact List.mem_of_getElem? (hget i row h7)
         refine .lit (f := fun i j => f (l.toNat + i) j) ⟨hm.own, hm.out, hm.tt, hm.lt, fun row h6 => hm.width row (hmem row h6), fun i j row p h6 h7 => ?_, fun row h6 => hm.pure row (hmem row h6), fun row h6 => hm.one row (hmem row h6)⟩ (by omega) (fun i j row p h6 h7 => hr _ j row p (hget i row h6) h7);have := hm.cell (l.toNat + i) j row p (hget i row h6) h7;rw [Nat.add_mul] at this;rw [← this]; congr 2; omega
   · exact hob.elim
 · rename_i k sz off len;split at hob
   · rename_i l h hl hh;obtain ⟨h1, h2, h3, h4, h5⟩ := hob;obtain ⟨hu, hok⟩ := zBa h1;obtain rfl := hmx0 rfl;have hs := zBh (P := P) (t := zAu P t) rfl (by have := (zA7 hok).2; omega) E.w
     have key : ∀ (a : Option Addr) (c : Nat), len ≤ c → (Instr.sliceAt t (.slice a len c) lo hi none).run P E.w = .ok (.slice (if c = l.toNat then a else a.map (·.add (l.toNat * zAr P (zAu P t)))) (h.toNat - l.toNat) (c - l.toNat)) E.w := fun a c hc => by
       have hb := zEk (P := P) (isSlice := true) (cap := c) hlo hhi hl hh h3 h4 h5 hc E.w;simp only [Instr.sliceAt, Instr.slice, Sem.run_bind, zAD hu, Result.andThen_ok, Sem.run_pure, hb, hs]
     cases hx with
     | refE hk hq =>
       have e1 : l.toNat = 0 := by omega
       have e2 : h.toNat = 0 := by omega
       rename_i a;have := key a 0 (Nat.le_refl _);rw [e1, e2] at this;exact ⟨_, this, by simp only [e1, e2]; exact .refE hk hq, rfl, rfl⟩
     | ref hk hlen hq =>
       rename_i b a c;have := key (some ⟨b, a, none⟩) c hlen;refine ⟨_, this, ?_, rfl, rfl⟩;by_cases hne : c = l.toNat
       · have e3 : h.toNat - l.toNat = 0 := by omega
         have e4 : c - l.toNat = 0 := by omega
         simp only [e3, e4];exact .refE hk fun o ho => (hq o ho).2.2
       · rw [if_neg hne];simp only [Option.map_some, Addr.add_at, h2];refine .ref hk (by omega) fun o ho => ⟨⟨(hq o ho).1.1, by rw [(hq o ho).1.2, Nat.add_mul]; omega⟩, ?_, (hq o ho).2.2⟩
         have := (hq o ho).2.1;omega
   · exact hob.elim
 · split at hob
   · rename_i l h hl hh;obtain ⟨h1, rfl, rfl⟩ := hob;obtain ⟨hu, hok⟩ := zBa h1;obtain rfl := hmx0 rfl;have hs := zBh (P := P) (t := zAu P t) rfl (by have := (zA7 hok).2; omega) E.w;cases hx with
     | nil =>
       rename_i a;have hb := zEk (P := P) (isSlice := true) (len := 0) (cap := 0) hlo hhi hl hh (by omega) (by omega) (by omega) (by omega) E.w;refine ⟨.slice a 0 0, ?_, .nil, rfl, rfl⟩;simp only [Instr.sliceAt, Instr.slice, Sem.run_bind, zAD hu, Result.andThen_ok, Sem.run_pure, hb, hs];simp
   · exact hob.elim
 · split at hob
   · rename_i m _ l h m' hl hh hm;obtain ⟨h1, rfl, rfl, rfl⟩ := hob;cases hx with
     | litE => exact ⟨_, zero3 _ _ _ h1 hl hh hm, .nil, rfl, rfl⟩
     | lit _ _ _ => exact ⟨_, zero3 _ _ _ h1 hl hh hm, .nil, rfl, rfl⟩
   · exact hob.elim
 · split at hob
   · rename_i m _ l h m' hl hh hm;obtain ⟨h1, rfl, rfl, rfl⟩ := hob;cases hx with
     | refE _ _ => exact ⟨_, zero3 _ _ _ h1 hl hh hm, .nil, rfl, rfl⟩
     | ref _ _ _ => exact ⟨_, zero3 _ _ _ h1 hl hh hm, .nil, rfl, rfl⟩
   · exact hob.elim
 · split at hob
   · rename_i m _ l h m' hl hh hm;obtain ⟨h1, rfl, rfl, rfl⟩ := hob;cases hx with
     | nil => exact ⟨_, zero3 _ _ _ h1 hl hh hm, .nil, rfl, rfl⟩
   · exact hob.elim
 · rename_i tt sz rs i j;split at hob
   · rename_i n e ha;obtain ⟨h1, h2, h3, h4⟩ := hob;obtain rfl := hmx0 rfl
     have hlo0 : lo = none := by
       rcases hlo with ⟨q, _⟩ | ⟨v, q, _, q1, _⟩
       · exact q
       · cases q1
     have hhi0 : hi = none := by
       rcases hhi with ⟨q, _⟩ | ⟨v, q, _, q1, _⟩
       · exact q
       · cases q1
     subst hlo0; subst hhi0;cases hx with
     | lptr _ _ hm hr =>
       rename_i b off f;obtain ⟨hrun, hrep⟩ := arr_slice (P := P) ha h1 h2 h3 h4 hm hr;exact ⟨_, hrun, hrep, rfl, rfl⟩
   · exact hob.elim
 · exact hob.elim
theorem zEy {v : Value} {p : PV} (h : Rep E v p) (hc : (zBf p).all PV.cell = true) :
   v.cells.size = (zBf p).length ∧ ∀ (i : Nat) (u : Value) (q : PV), v.cells[i]? = some u → (zBf p)[i]? = some q → Rep E u q := by
 have hone : p.cell = true → zBf p = [p] → (v.cells.size = (zBf p).length ∧ ∀ (i : Nat) (u : Value) (q : PV), v.cells[i]? = some u → (zBf p)[i]? = some q → Rep E u q) := fun h1 h2 => by
   have h3 : v.cells = #[v] := by have := Rep.one h h1; cases v <;> first | rfl | (simp [Value.oneCell'] at this; done)
   rw [h2, h3]
   exact (⟨rfl, fun i u q h4 h5 => by
     cases i with
     | zero => simp at h4 h5; subst h4; subst h5; exact h
     | succ i => simp at h4⟩ : (#[v] : Array Value).size = [p].length ∧ ∀ (i : Nat) (u : Value) (q : PV), (#[v] : Array Value)[i]? = some u → [p][i]? = some q → Rep E u q)
 cases p with
 | agg cs => cases h with | agg hl hp => exact ⟨hl, hp⟩
 | _ => exact hone (by simpa [zBf] using hc) rfl
theorem zDb : ∀ (l : List (Value × Nat)) (off : Nat) (cells : Array Value), (l.foldl (fun cs (x : Value × Nat) => cs.setIfInBounds (off + x.2) x.1) cells).size = cells.size
 | [], _, _ => rfl
 | x :: l, off, cells => by rw [List.foldl_cons, zDb l off]; simp
theorem zDC : ∀ (l : List Value) (k off : Nat) (cells : Array Value) (x : Nat),
   ((l.zipIdx k).foldl (fun cs (x : Value × Nat) => cs.setIfInBounds (off + x.2) x.1) cells)[x]? = if off + k ≤ x ∧ x < off + k + l.length ∧ x < cells.size then l[x - (off + k)]? else cells[x]?
 | [], k, off, cells, x => by
   rw [if_neg (by simp; omega)]; rfl
 | v :: l, k, off, cells, x => by
   rw [List.zipIdx_cons, List.foldl_cons, zDC l (k + 1) off];simp only [Array.size_setIfInBounds, List.length_cons, Array.getElem?_setIfInBounds];by_cases h1 : off + (k + 1) ≤ x ∧ x < off + (k + 1) + l.length ∧ x < cells.size
   · rw [if_pos h1, if_pos (by omega), show x - (off + k) = (x - (off + (k + 1))) + 1 by omega, List.getElem?_cons_succ]
   · rw [if_neg h1];by_cases h2 : off + k = x
     · subst h2;by_cases h3 : off + k < cells.size
       · simp [h3]
       · simp [h3]
     · rw [if_neg h2, if_neg (by omega)]
theorem zC1 {row cs : List PV} {j : Nat} (h : j + cs.length ≤ row.length) : (setAt row j cs).length = row.length := by
 unfold setAt; simp only [List.length_append, List.length_take, List.length_drop]; omega
theorem zIg {row cs : List PV} {j : Nat} (h : j + cs.length ≤ row.length) (x : Nat) : (setAt row j cs)[x]? = if j ≤ x ∧ x < j + cs.length then cs[x - j]? else row[x]? := by
 unfold setAt;by_cases h1 : x < j
 · rw [if_neg (by omega), List.append_assoc, List.getElem?_append_left (by rw [List.length_take]; omega), List.getElem?_take, if_pos h1]
 · rw [List.append_assoc, List.getElem?_append_right (by rw [List.length_take]; omega), List.length_take, show min j row.length = j by omega];by_cases h2 : x < j + cs.length
   · rw [if_pos ⟨by omega, h2⟩, List.getElem?_append_left (by omega)]
   · rw [if_neg (by omega), List.getElem?_append_right (by omega), List.getElem?_drop]; congr 1; omega
theorem zHZ {place : Nat → Option (Nat × Nat)} {pl : List (Nat × Nat × Bool)} (hpl : ∀ i, i < pl.length → place i = some ((pl.getD i (0, 0, false)).1, (pl.getD i (0, 0, false)).2.1)) :
   ∀ (parts : List (Nat × Value)) (pp : List (Nat × PV)) (cells : Array Value) (cs : List PV), parts.length = pp.length →
     (∀ (i : Nat) (x : Nat × Value) (y : Nat × PV), parts[i]? = some x → pp[i]? = some y → x.1 = y.1 ∧ Rep E x.2 y.2) →
     Rep E (.agg cells) (.agg cs) → cs.all PV.cell = true → zI8 pl cs.length pp →
     ∃ cells', Instr.fill place cells parts = some cells' ∧ Rep E (.agg cells') (.agg (zDc pl cs pp)) ∧ (zDc pl cs pp).all PV.cell = true ∧ (zDc pl cs pp).length = cs.length
 | [], [], cells, cs, _, _, hr, hc, _ => ⟨cells, rfl, hr, hc, rfl⟩
 | [], _ :: _, _, _, h, _, _, _, _ => by simp at h
 | _ :: _, [], _, _, h, _, _, _, _ => by simp at h
 | (i, v) :: parts, (i', p) :: pp, cells, cs, hl, hrel, hr, hc, hok => by
   obtain ⟨h1, h2, h3, h4, h5⟩ := hok;obtain ⟨rfl, hvp⟩ := hrel 0 _ _ rfl rfl;simp only at h1 h2 h3 h4 hvp;obtain ⟨h6, h7⟩ := zEy hvp h4;have hsz : cells.size = cs.length := by cases hr; assumption
   have hget := zDC v.cells.toList 0 (pl.getD i (0, 0, false)).1 cells
   have hnew : Rep E (.agg (v.cells.toList.zipIdx.foldl (fun cs (x : Value × Nat) => cs.setIfInBounds ((pl.getD i (0, 0, false)).1 + x.2) x.1) cells)) (.agg (setAt cs (pl.getD i (0, 0, false)).1 (zBf p))) := by
     refine .agg (by rw [zDb, zC1 h3, hsz]) fun x u q h8 h9 => ?_;rw [hget] at h8;rw [zIg h3] at h9;simp only [Nat.add_zero, Array.length_toList] at h8;by_cases hx : (pl.getD i (0, 0, false)).1 ≤ x ∧ x < (pl.getD i (0, 0, false)).1 + (zBf p).length
     · rw [if_pos hx] at h9;rw [if_pos (by omega)] at h8;exact h7 _ u q (by simpa using h8) h9
     · rw [if_neg hx] at h9;rw [if_neg (by omega)] at h8;cases hr with
       | agg _ hp => exact hp x u q h8 h9
   have hc' : (setAt cs (pl.getD i (0, 0, false)).1 (zBf p)).all PV.cell = true := by
     unfold setAt;simp only [List.all_append, Bool.and_eq_true];refine ⟨⟨?_, h4⟩, ?_⟩
     · rw [List.all_eq_true] at hc ⊢; exact fun x hx => hc x (List.mem_of_mem_take hx)
     · rw [List.all_eq_true] at hc ⊢; exact fun x hx => hc x (List.mem_of_mem_drop hx)
   obtain ⟨cells', h10, h11, h12, h13⟩ := zHZ hpl parts pp _ _ (by simpa using hl) (fun j x y hx hy => hrel (j + 1) x y hx hy) hnew hc' (by rw [zC1 h3]; exact h5);refine ⟨cells', ?_, h11, h12, (h13.trans (zC1 h3))⟩;rw [← h10];simp only [Instr.fill, hpl i h1];rw [if_neg (by simp only [Bool.or_eq_true, decide_eq_true_eq, not_or]; omega)];congr 1;rw [← Array.foldl_toList];simp
theorem zEn (v : Value) : Rep E v (zI1 v) := by
 unfold zI1;split
 · exact .nil
 · split
   · exact .sc (by assumption)
   · exact .dead
theorem zGD (v : Value) : Rep E v (ofVal v) := by
 unfold ofVal;split
 · rename_i cs;refine .agg (by simp) fun i v p h1 h2 => ?_;simp at h2;obtain ⟨u, h3, rfl⟩ := h2;rw [h1] at h3; cases h3;exact zEn _
 · exact zEn _
theorem zDq {t : TypeId} {z : List PV} (h : zAT P t = some z) : ∃ v i, P.info? t = some i ∧ i.zero = some v ∧ Rep E (.agg v.cells) (.agg z) ∧ z.length = v.cells.size := by
 unfold zAT at h;split at h
 · rename_i i hi;obtain ⟨v, h1, rfl⟩ := Option.map_eq_some_iff.1 h;refine ⟨v, i, hi, h1, .agg (by simp) fun j u p h2 h3 => ?_, by simp⟩;simp at h3;obtain ⟨x, h4, rfl⟩ := h3;rw [h2] at h4; cases h4;exact zEn _
 · cases h
theorem zBy {t : TypeId} {v : Value} {i : TypeInfo} (h : P.info? t = some i) (hz : i.zero = some v) (w : World) : (zeroValue t).run P w = .ok v w := by
 simp [zeroValue, typeInfo, h, hz]
theorem run_mapPlaces (fs : List Field) (w : World) (h : ∀ f ∈ fs, tyOk P f.type = true) : (fs.mapM fun f => do pure (f.offset, ← sizeOf f.type) : Sem (List (Nat × Nat))).run P w = .ok (fs.map fun f => (f.offset, P.cellsOf f.type)) w := by
 induction fs with
 | nil => rfl
 | cons f fs ih =>
   have hs := zBh (P := P) (t := f.type) rfl (by have := (zA7 (h f (by simp))).2; omega) w;rw [List.mapM_cons];simp only [Sem.run_bind, hs, Sem.run_pure, Result.andThen_ok, ih (fun x hx => h x (by simp [hx]))];rfl
theorem ro_build {t : TypeId} {parts : List (Nat × Value)} {pp : List (Nat × PV)} (hl : parts.length = pp.length)
   (hrel : ∀ (i : Nat) (x : Nat × Value) (y : Nat × PV), parts[i]? = some x → pp[i]? = some y → x.1 = y.1 ∧ Rep E x.2 y.2)
   (hob : (zDf P t pp).ob) : RO P E (Instr.build t parts.toArray) (zDf P t pp) := by
 unfold zDf at hob ⊢;split at hob
 · rename_i z hz;obtain ⟨h1, h2, h3⟩ := hob;obtain ⟨v, i, h4, h5, h6, h7⟩ := zDq (E := E) hz;rcases h1 with h1 | h1
   · obtain ⟨fs, hu, hall⟩ := zEZ h1;have hpl : zBp P t = fs.toList.map fun f => (f.offset, P.cellsOf f.type, tyAgg P f.type) := by unfold zBp; rw [hu]
     have hm := run_mapPlaces (P := P) fs.toList E.w (fun f hf => hall f (by simpa using hf))
     obtain ⟨cells', h8, h9, h10, _⟩ := zHZ (place := fun i => (fs.map fun f => (f.offset, P.cellsOf f.type))[i]?) (pl := zBp P t) (fun i hi => by
       rw [hpl] at hi ⊢;simp at hi;simp [hi]) parts pp v.cells z hl hrel h6 h2 h3
     refine ⟨.agg cells', ?_, h9, rfl, rfl⟩
     have hm' : (fs.mapM fun f => do pure (f.offset, ← sizeOf f.type) : Sem (Array (Nat × Nat))).run P E.w = .ok (fs.map fun f => (f.offset, P.cellsOf f.type)) E.w := by
       rw [← Array.toArray_toList (xs := fs), List.mapM_toArray, Sem.run_map, hm];simp only [Result.andThen_ok, Array.toArray_toList];congr 1;apply Array.ext';simp
     simp only [Instr.build, Sem.run_bind, zBy h4 h5, Result.andThen_ok, zAD hu, hm', h8];rfl
   · obtain ⟨⟨n, e⟩, ha⟩ := Option.isSome_iff_exists.1 h1;obtain ⟨hu, hok⟩ := zEC ha;have hs := zBh (P := P) (t := e) rfl (by have := (zA7 hok).2; omega) E.w;have hpl : zBp P t = (List.range n).map fun i => (i * P.cellsOf e, P.cellsOf e, tyAgg P e) := by unfold zBp; rw [hu]
     obtain ⟨cells', h8, h9, h10, _⟩ := zHZ (place := fun i => some (i * zAr P e, zAr P e)) (pl := zBp P t) (fun i hi => by
       rw [hpl] at hi ⊢;simp at hi;simp [hi, zAr]) parts pp v.cells z hl hrel h6 h2 h3
     refine ⟨.agg cells', ?_, h9, rfl, rfl⟩;simp only [Instr.build, Sem.run_bind, zBy h4 h5, Result.andThen_ok, zAD hu, hs, h8];rfl
 · exact hob.elim
theorem ro_conv {s d : TypeId} {x : Value} {p : PV} (hx : Rep E x p) (hn : ∀ b, p = .sc (.string b) → zAW P d = true) (hob : (zEw P s d p).ob) : RO P E (convert s d x) (zEw P s d p) := by
 unfold zEw at hob ⊢;split at hob
 · rename_i k n;obtain rfl := hx.sc_inv;split at hob
   · rename_i k' hk;obtain ⟨u, hu⟩ := Option.isSome_iff_exists.1 hob;refine ⟨.int k' (k'.wrap n), ?_, .sc rfl, rfl, rfl⟩;simp only [convert, Sem.run_bind, zAD hu, zAD (zBN hk), Result.andThen_ok];cases u <;> rfl
   · exact hob.elim
 · rename_i b;obtain rfl := hx.sc_inv;have hd := hn b rfl;rw [if_pos hd] at hob ⊢;obtain ⟨u, hu⟩ := Option.isSome_iff_exists.1 hob;refine ⟨.string b, ?_, .sc rfl, rfl, rfl⟩;simp only [convert, Sem.run_bind, zAD hu, zAD (zA6 hd), Result.andThen_ok];cases u <;> rfl
 · exact hob.elim
end
end Go.Pv
namespace Go.Pv
open Go Go.RowKit
section
variable {P : Program} {E : Env}
theorem ObjOK.le {E E' : Env} (h : EnvLe E E') {k : Key} {o : PObj} (hb : E'.blk k = E.blk k) (hc : E'.cap k = E.cap k) (hw : E'.w.heap[E.blk k]? = E.w.heap[E.blk k]?) (ho : ObjOK E k o) : ObjOK E' k o := by
 cases o with
 | rows sz rs =>
   obtain ⟨c, T, h1, h2, h3, h4, h5, h6, h7⟩ := ho
   exact ⟨c, T, by rw [hb, hw]; exact h1, by rw [hc]; exact h2, by rw [hc]; exact h3, h4, h5, h6, fun i j row p h8 h9 => by
     obtain ⟨v, h10, h11⟩ := h7 i j row p h8 h9;exact ⟨v, by rw [hc]; exact h10, h11.le h⟩⟩
 | map es bs clk =>
   obtain ⟨ents, h1, h2, h3, h4, hst, hbs⟩ := ho;exact ⟨ents, by rw [hb, hw]; exact h1, h2, h3, fun i e p h5 h6 => ⟨(h4 i e p h5 h6).1.le h, (h4 i e p h5 h6).2.le h⟩, hst, hbs⟩
 | iter km since seen =>
   obtain ⟨b, h1, h2, h3⟩ := ho;refine ⟨b, by rw [hb, hw]; exact h1, h.known h2, fun o' ho' => ?_⟩;cases hq : E.h km with
   | none => rw [h.nokey _ h2 hq] at ho'; cases ho'
   | some o =>
     obtain ⟨h4, h5⟩ := h3 o hq;rcases h.map _ _ hq (by rw [h5]; decide) with h6 | ⟨o1, h6, h7, h8⟩
     · rw [h6] at ho'; cases ho'
     · rw [h6] at ho'; cases ho'; exact ⟨h4.trans h8.symm, h7.trans h5⟩
def zA2 (E : Env) (site : Nat) (o : PObj) (w' : World) (c : Nat) : Env :=
 { E with
   w := w'
   h := fun k => if k = (site, E.cnt site) then some o else E.h k
   cnt := fun s => if s = site then E.cnt s + 1 else E.cnt s
   blk := fun k => if k = (site, E.cnt site) then E.w.heap.size else E.blk k
   cap := fun k => if k = (site, E.cnt site) then (c, 0) else E.cap k }
theorem zC8 {site : Nat} {k : Key} (hk : E.known k) : k ≠ (site, E.cnt site) := fun h => by
 subst h; simp [Env.known] at hk
theorem zBL (g : Good E) {k : Key} {o : PObj} (h : E.h k = some o) : E.blk k < E.w.heap.size := by
 have := g.obj k o h;cases o with
 | rows sz rs => obtain ⟨c, T, h1, _⟩ := this; exact (Array.getElem?_eq_some_iff.1 h1).1
 | map es bs clk => obtain ⟨ents, h1, _⟩ := this; exact (Array.getElem?_eq_some_iff.1 h1).1
 | iter km since seen => obtain ⟨b, h1, _⟩ := this; exact (Array.getElem?_eq_some_iff.1 h1).1
theorem zC6 (g : Good E) {site : Nat} {o : PObj} {w' : World} {c : Nat} {obj : Obj} (hh : w'.heap = E.w.heap.push obj) : EnvLe E (zA2 E site o w' c) where
 blk := fun b hb _ => by simp only [zA2, hh]; rw [Array.getElem?_push, if_neg (by omega)]
 size := by simp [zA2, hh]
 own := fun b ⟨k, o', h1, h2⟩ => by
   simp only [zA2] at h1 h2;by_cases hk : k = (site, E.cnt site)
   · rw [if_pos hk] at h2; exact .inr (by omega)
   · rw [if_neg hk] at h1 h2; exact .inl ⟨k, o', h1, h2⟩
 M := rfl
 tt := rfl
 B0 := rfl
 cnt := fun s => by simp only [zA2]; split <;> omega
 nokey := fun k hk hn => by simp only [zA2]; rw [if_neg (zC8 hk)]; exact hn
 rows := fun k sz rs hk => .inr ⟨rs, by
   have := zC8 (site := site) (g.known _ _ hk);simp [zA2, this, hk]⟩
 map := fun k o1 hk _ => .inr ⟨o1, by
   have := zC8 (site := site) (g.known _ _ hk);simp [zA2, this, hk]⟩
theorem zEH (g : Good E) {site : Nat} {o : PObj} {w' : World} {c : Nat} {obj : Obj} (hh : w'.heap = E.w.heap.push obj) (ho : ObjOK (zA2 E site o w' c) (site, E.cnt site) o) : Good (zA2 E site o w' c) where
 inj := fun k k' o1 o2 h1 h2 h3 => by
   simp only [zA2] at h1 h2 h3;by_cases hk : k = (site, E.cnt site) <;> by_cases hk' : k' = (site, E.cnt site)
   · rw [hk, hk']
   · rw [if_pos hk, if_neg hk'] at h3;rw [if_neg hk'] at h2;have := zBL g h2;omega
   · rw [if_neg hk, if_pos hk'] at h3;rw [if_neg hk] at h1;have := zBL g h1;omega
   · rw [if_neg hk, if_neg hk'] at h3;rw [if_neg hk] at h1;rw [if_neg hk'] at h2;exact g.inj k k' _ _ h1 h2 h3
 known := fun k o' h1 => by
   simp only [zA2, Env.known] at h1 ⊢;by_cases hk : k = (site, E.cnt site)
   · subst hk; simp
   · rw [if_neg hk] at h1;have := g.known k o' h1;simp only [Env.known] at this;split
     · rename_i hs; omega
     · exact this
 base := fun k o' h1 => by
   simp only [zA2] at h1 ⊢;by_cases hk : k = (site, E.cnt site)
   · rw [if_pos hk]; exact g.size
   · rw [if_neg hk] at h1 ⊢; exact g.base k o' h1
 obj := fun k o' h1 => by
   by_cases hk : k = (site, E.cnt site)
   · subst hk;simp only [zA2, if_true] at h1;cases h1; exact ho
   · have h1' : E.h k = some o' := by simp only [zA2] at h1; rw [if_neg hk] at h1; exact h1
     refine ObjOK.le (zC6 g hh) (by simp [zA2, hk]) (by simp [zA2, hk]) ?_ (g.obj k o' h1');have := zBL g h1';simp only [zA2, hh];rw [Array.getElem?_push, if_neg (by omega)]
 out := g.out
 size := by simp only [zA2, hh, Array.size_push]; exact Nat.le_trans g.size (by omega)
 glob := zCr g.glob (Nat.le_refl _) fun b hb => by
   simp only [zA2, hh];have := g.size;rw [Array.getElem?_push, if_neg (by omega)]
theorem zFT (g : Good E) {w' : World} {obj : Obj} (hh : w'.heap = E.w.heap.push obj) (h1 : w'.os = E.w.os) (h2 : w'.tape = E.w.tape) (h3 : w'.output = E.w.output) : Below E.B0 E.w w' :=
 ⟨h1, h2, h3, by simp [hh], fun k hk => by have := g.size; rw [hh, Array.getElem?_push, if_neg (by omega)]⟩
theorem OpOK.new (g : Good E) {site : Nat} {run : Result Next} {e : Eff} {o : PObj} {w' : World} {c : Nat} {obj : Obj} {v : Value}
   (hrun : run = .ok (.value v) w') (hh : w'.heap = E.w.heap.push obj) (h1 : w'.os = E.w.os) (h2 : w'.tape = E.w.tape) (h3 : w'.output = E.w.output)
   (hwr : e.wr = [((site, E.cnt site), some o)]) (hbump : e.bump = true) (ho : ObjOK (zA2 E site o w' c) (site, E.cnt site) o) (hv : Rep (zA2 E site o w' c) v e.v) : OpOK P E site run e := by
 refine ⟨v, w', (zA2 E site o w' c).blk, (zA2 E site o w' c).cap, .inl hrun, ?_⟩
 have he : ({ E with w := w', h := zAZ E.h e.wr, cnt := bumpC E.cnt site e.bump, blk := (zA2 E site o w' c).blk, cap := (zA2 E site o w' c).cap } : Env) = zA2 E site o w' c := by
   rw [hwr, hbump]; rfl
 rw [he];exact ⟨zEH g hh ho, zC6 g hh, zFT g hh h1 h2 h3, hv⟩
theorem zHy {i j n sz : Nat} (hi : i < n) (hj : j < sz) : i * sz + j < n * sz := by
 have : (i + 1) * sz ≤ n * sz := Nat.mul_le_mul_right _ hi;rw [Nat.succ_mul] at this; omega
theorem zGE {site : Nat} {sz c : Nat} {rs : Rows} {w' : World} {cells : Array Value} {T : TypeId} (hh : w'.heap = E.w.heap.push (.cells cells T))
   (hsz : cells.size = c * sz) (hlen : rs.length ≤ c) (h1 : 1 ≤ sz) (hw : ∀ row ∈ rs, row.length = sz) (hone : ∀ row ∈ rs, ∀ p ∈ row, p.cell = true)
   (hcell : ∀ (i j : Nat) (row : List PV) (p : PV), rs[i]? = some row → row[j]? = some p → ∃ v, cells[i * sz + j]? = some v ∧ Rep (zA2 E site (.rows sz rs) w' c) v p) :
   ObjOK (zA2 E site (.rows sz rs) w' c) (site, E.cnt site) (.rows sz rs) := by
 refine ⟨cells, T, ?_, ?_, ?_, h1, hw, hone, fun i j row p h2 h3 => ?_⟩
 · simp [zA2, hh]
 · simp [zA2, hsz]
 · simp [zA2, hlen]
 · obtain ⟨v, h4, h5⟩ := hcell i j row p h2 h3;exact ⟨v, by simpa [zA2] using h4, h5⟩
theorem rep_new_ptr {site : Nat} {sz c : Nat} {rs : Rows} {w' : World} : Rep (zA2 E site (.rows sz rs) w' c) (.pointer (some ⟨E.w.heap.size, 0, none⟩)) (.ptr (site, E.cnt site) sz 0 0) := by
 have := Rep.ptr (E := zA2 E site (.rows sz rs) w' c) (b := E.w.heap.size) (a := 0) (k := (site, E.cnt site)) (sz := sz) (i := 0) (j := 0) (by simp [zA2, Env.known]) (fun o ho => by
   simp [zA2] at ho ⊢;exact ⟨_, ho.symm⟩)
 simpa using this
theorem zF6 {site : Nat} {sz c len : Nat} {rs : Rows} {w' : World} (hl : len ≤ c) : Rep (zA2 E site (.rows sz rs) w' c) (.slice (some ⟨E.w.heap.size, 0, none⟩) len c) (.ref (site, E.cnt site) sz 0 len) := by
 have := Rep.ref (E := zA2 E site (.rows sz rs) w' c) (b := E.w.heap.size) (a := 0) (k := (site, E.cnt site)) (sz := sz) (off := 0) (len := len) (c := c) (by simp [zA2, Env.known]) hl (fun o ho => by
   simp [zA2] at ho ⊢;exact ⟨_, ho.symm⟩)
 simpa using this
theorem zJF (g : Good E) {site : Nat} {run : Result Next} {T : TypeId} {cells : Array Value} {cs : List PV}
   (hrun : run = .ok (.value (.pointer (some ⟨E.w.heap.size, 0, none⟩))) { E.w with heap := E.w.heap.push (.cells cells T) })
   (hrep : Rep E (.agg cells) (.agg cs)) (hob : (zDI (site, E.cnt site) cs).ob) : OpOK P E site run (zDI (site, E.cnt site) cs) := by
 obtain ⟨h1, h2⟩ := hob;have hsz : cells.size = cs.length := by cases hrep; assumption
 refine OpOK.new g (o := .rows cs.length [cs]) (w' := { E.w with heap := E.w.heap.push (.cells cells T) }) (c := 1) hrun rfl rfl rfl rfl rfl rfl ?_ rep_new_ptr;refine zGE rfl (by omega) (by simp) h2 (by simp) (by simpa using h1) fun i j row p h3 h4 => ?_;cases i with
 | zero =>
   simp at h3; subst h3;have hj := (List.getElem?_eq_some_iff.1 h4).1;refine ⟨cells[j], by simp [hsz, hj], ?_⟩;have hle : EnvLe E (zA2 E site (.rows cs.length [cs]) { E.w with heap := E.w.heap.push (.cells cells T) } 1) := zC6 g rfl;cases hrep with
   | agg _ hp => exact (hp j _ p (by simp [hsz, hj]) h4).le hle
 | succ i => simp at h3
theorem zGA (g : Good E) {site : Nat} {run : Result Next} {T : TypeId} {cells : Array Value} {sz c len : Nat} {rs : Rows} {e : Eff} {w' : World}
   (hrun : run = .ok (.value (.slice (some ⟨E.w.heap.size, 0, none⟩) len c)) w') (hh : w'.heap = E.w.heap.push (.cells cells T)) (h1 : w'.os = E.w.os) (h2 : w'.tape = E.w.tape) (h3 : w'.output = E.w.output)
   (he : e.v = .ref (site, E.cnt site) sz 0 len) (hwr : e.wr = [((site, E.cnt site), some (.rows sz rs))]) (hbump : e.bump = true)
   (hlen : rs.length = len) (hc : len ≤ c) (hsz : cells.size = c * sz) (h1sz : 1 ≤ sz) (hw : ∀ row ∈ rs, row.length = sz) (hone : ∀ row ∈ rs, ∀ p ∈ row, p.cell = true)
   (hcell : ∀ (i j : Nat) (row : List PV) (p : PV), rs[i]? = some row → row[j]? = some p → ∃ v, cells[i * sz + j]? = some v ∧ Rep E v p) : OpOK P E site run e := by
 refine OpOK.new g (o := .rows sz rs) (w' := w') (c := c) hrun hh h1 h2 h3 hwr hbump ?_ (by rw [he]; exact zF6 hc)
 exact zGE hh hsz (by omega) h1sz hw hone fun i j row p h4 h5 => by
   obtain ⟨v, h6, h7⟩ := hcell i j row p h4 h5;exact ⟨v, h6, h7.le (zC6 g hh)⟩
theorem zE4 {sz : Nat} : ∀ {pp : List (Nat × PV)} {rs : Rows}, (∀ row ∈ rs, row.length = sz) → (∀ row ∈ rs, ∀ p ∈ row, p.cell = true) → zCW rs.length sz pp →
   (zCP rs pp).length = rs.length ∧ (∀ row ∈ zCP rs pp, row.length = sz) ∧ ∀ row ∈ zCP rs pp, ∀ p ∈ row, p.cell = true
 | [], rs, h1, h2, _ => ⟨rfl, h1, h2⟩
 | (i, v) :: pp, rs, h1, h2, hok => by
   obtain ⟨h3, h4, h5, h6⟩ := hok
   have hmem : ∀ row ∈ rs.set i (zBf v), row = zBf v ∨ row ∈ rs := fun row hr => by
     rcases List.mem_or_eq_of_mem_set hr with h | h
     · exact .inr h
     · exact .inl h
   have := zE4 (pp := pp) (rs := rs.set i (zBf v)) (sz := sz) (fun row hr => by
     rcases hmem row hr with rfl | h
     · exact h4
     · exact h1 row h) (fun row hr p hp => by
     rcases hmem row hr with rfl | h
     · exact (List.all_eq_true.1 h5) p hp
     · exact h2 row h p hp) (by simpa using h6)
   simpa [zCP] using this
theorem zFJ {sz : Nat} : ∀ (parts : List (Nat × Value)) (pp : List (Nat × PV)) (cells : Array Value) (rs : Rows), parts.length = pp.length →
     (∀ (i : Nat) (x : Nat × Value) (y : Nat × PV), parts[i]? = some x → pp[i]? = some y → x.1 = y.1 ∧ Rep E x.2 y.2) →
     (∀ row ∈ rs, row.length = sz) → cells.size = rs.length * sz →
     (∀ (i j : Nat) (row : List PV) (p : PV), rs[i]? = some row → row[j]? = some p → ∃ v, cells[i * sz + j]? = some v ∧ Rep E v p) → zCW rs.length sz pp →
     ∃ cells', Instr.fill (fun i => some (i * sz, sz)) cells parts = some cells' ∧ cells'.size = rs.length * sz ∧
       (∀ (i j : Nat) (row : List PV) (p : PV), (zCP rs pp)[i]? = some row → row[j]? = some p → ∃ v, cells'[i * sz + j]? = some v ∧ Rep E v p)
 | [], [], cells, rs, _, _, hw, hsz, hc, _ => ⟨cells, rfl, hsz, hc⟩
 | [], _ :: _, _, _, h, _, _, _, _, _ => by simp at h
 | _ :: _, [], _, _, h, _, _, _, _, _ => by simp at h
 | (i, v) :: parts, (i', p) :: pp, cells, rs, hl, hrel, hw, hsz, hc, hok => by
   obtain ⟨h1, h2, h3, h4⟩ := hok;obtain ⟨rfl, hvp⟩ := hrel 0 _ _ rfl rfl;simp only at h1 h2 h3 hvp;obtain ⟨h6, h7⟩ := zEy hvp h3;have hlt : i * sz + sz ≤ rs.length * sz := by rw [← Nat.succ_mul]; exact Nat.mul_le_mul_right _ h1
   have hget := zDC v.cells.toList 0 (i * sz) cells
   have hw' : ∀ row ∈ rs.set i (zBf p), row.length = sz := fun row hr => by
     rcases List.mem_or_eq_of_mem_set hr with h | h
     · exact hw row h
     · rw [h]; exact h2
   obtain ⟨cells', h10, h11, h12⟩ := zFJ (sz := sz) parts pp (v.cells.toList.zipIdx.foldl (fun cs (x : Value × Nat) => cs.setIfInBounds (i * sz + x.2) x.1) cells) (rs.set i (zBf p)) (by simpa using hl) (fun j x y hx hy => hrel (j + 1) x y hx hy) hw'
     (by rw [zDb, List.length_set, hsz]) (fun i2 j row q h13 h14 => by
       rw [hget];simp only [Nat.add_zero, Array.length_toList];have hj : j < sz := by rw [← hw' row (List.mem_of_getElem? h13)]; exact (List.getElem?_eq_some_iff.1 h14).1
       rw [List.getElem?_set] at h13;by_cases hi : i = i2
       · subst hi;rw [if_pos rfl, if_pos h1] at h13;cases h13;rw [if_pos (by omega), show i * sz + j - i * sz = j by omega];have hjv : j < v.cells.size := by omega
         exact ⟨v.cells[j], by simp [hjv], h7 j _ q (by simp [hjv]) h14⟩
       · rw [if_neg hi] at h13;have hi2 : i2 < rs.length := (List.getElem?_eq_some_iff.1 h13).1
         rw [if_neg (by
           intro hx;rcases Nat.lt_or_gt_of_ne hi with h | h
           · have : (i + 1) * sz ≤ i2 * sz := Nat.mul_le_mul_right _ h;rw [Nat.succ_mul] at this; omega
           · have : (i2 + 1) * sz ≤ i * sz := Nat.mul_le_mul_right _ h;rw [Nat.succ_mul] at this; omega)]
         exact hc i2 j row q h13 h14) (by simpa using h4)
   refine ⟨cells', ?_, by simpa using h11, h12⟩;rw [← h10];simp only [Instr.fill];rw [if_neg (by simp only [Bool.or_eq_true, decide_eq_true_eq, not_or]; omega)];congr 1;rw [← Array.foldl_toList];simp
theorem zF0 {z : Array Value} {n i j : Nat} (hj : j < z.size) (hi : i < n) : ((Array.range (n * z.size)).map (z[· % z.size]!))[i * z.size + j]? = some z[j] := by
 have hlt := zHy hi hj;have hm : (i * z.size + j) % z.size = j := by rw [Nat.add_comm, Nat.add_mul_mod_self_right]; exact Nat.mod_eq_of_lt hj
 simp [hlt, hm, hj]
theorem ok_buildSlice (g : Good E) {site : Nat} {t : TypeId} {n : Nat} {parts : List (Nat × Value)} {pp : List (Nat × PV)} {run : Result Next} (hl : parts.length = pp.length)
   (hrel : ∀ (i : Nat) (x : Nat × Value) (y : Nat × PV), parts[i]? = some x → pp[i]? = some y → x.1 = y.1 ∧ Rep E x.2 y.2)
   (hrun : run = ((Instr.buildSlice t n parts.toArray).run P E.w).andThen fun v w' => .ok (.value v) w')
   (hob : (zBP P (site, E.cnt site) t n pp).ob) : OpOK P E site run (zBP P (site, E.cnt site) t n pp) := by
 unfold zBP at hob ⊢;split at hob
 · rename_i z hz;obtain ⟨h1, h2, h3, h4, h5⟩ := hob;obtain ⟨v, i, h6, h7, h8, h9⟩ := zDq (E := E) hz;obtain ⟨hu, hok⟩ := zBa h1;have hpos := (zA7 hok).2;have hs := zBh (P := P) (t := zAu P t) rfl (by omega) E.w;have hzs : v.cells.size = zAr P (zAu P t) := by omega
   have hzl : z.length = v.cells.size := h9;have hrepl : ∀ row ∈ List.replicate n z, row.length = z.length := fun row hr => by rw [(List.mem_replicate.1 hr).2]
   have hrepl1 : ∀ row ∈ List.replicate n z, ∀ p ∈ row, p.cell = true := fun row hr p hp => by
     rw [(List.mem_replicate.1 hr).2] at hp; exact (List.all_eq_true.1 h4) p hp
   have hcells0 : (if n * zAr P (zAu P t) = 0 then pure #[] else do pure (← zeroValue (zAu P t)).cells : Sem (Array Value)).run P E.w = .ok (if n * zAr P (zAu P t) = 0 then #[] else v.cells) E.w := by
     split
     · rfl
     · simp [zBy h6 h7]
   have hget : ∀ (i j : Nat) (row : List PV) (p : PV), (List.replicate n z)[i]? = some row → row[j]? = some p →
       ∃ u, ((Array.range (n * zAr P (zAu P t))).map ((if n * zAr P (zAu P t) = 0 then #[] else v.cells)[· % (if n * zAr P (zAu P t) = 0 then #[] else v.cells).size]!))[i * z.length + j]? = some u ∧ Rep E u p := fun i j row p h10 h11 => by
     have hi := (List.getElem?_eq_some_iff.1 h10).1;simp at hi;have hrow : row = z := (List.mem_replicate.1 (List.mem_of_getElem? h10)).2;subst hrow;have hj := (List.getElem?_eq_some_iff.1 h11).1
     have hne : ¬ n * zAr P (zAu P t) = 0 := by
       intro h0;rcases Nat.mul_eq_zero.1 h0 with h0 | h0 <;> omega
     rw [if_neg hne, ← hzs, hzl];refine ⟨v.cells[j]'(by omega), zF0 (by omega) hi, ?_⟩;cases h8 with
     | agg _ hp => exact hp j _ p (by simp [show j < v.cells.size by omega]) h11
   obtain ⟨cells', h12, h13, h14⟩ := zFJ (sz := z.length) parts pp _ (List.replicate n z) hl hrel hrepl (by simp [hzl, hzs]) hget (by simpa using h5);obtain ⟨h15, h16, h17⟩ := zE4 (sz := z.length) hrepl hrepl1 (by simpa using h5);refine zGA g (T := zAu P t) (cells := cells') (c := n) (len := n) (w' := { E.w with heap := E.w.heap.push (.cells cells' (zAu P t)) }) ?_ rfl rfl rfl rfl rfl rfl rfl (by simpa using h15) (Nat.le_refl _) (by simpa using h13) (by omega) h16 h17 h14;rw [hrun];have hle : ¬ n * zAr P (zAu P t) > 2 ^ 24 := by omega
   have h12' : Instr.fill (fun i => some (i * zAr P (zAu P t), zAr P (zAu P t))) ((Array.range (n * zAr P (zAu P t))).map ((if n * zAr P (zAu P t) = 0 then #[] else v.cells)[· % (if n * zAr P (zAu P t) = 0 then #[] else v.cells).size]!)) parts = some cells' := by
     rw [← h12, h2]
   by_cases h0 : n * zAr P (zAu P t) = 0
   · rw [if_pos h0] at h12';simp only [Instr.buildSlice, Sem.run_bind, zAD hu, Result.andThen_ok, hs, if_neg hle, if_pos h0, Sem.run_pure, h12'];rfl
   · rw [if_neg h0] at h12';simp only [Instr.buildSlice, Sem.run_bind, zAD hu, Result.andThen_ok, hs, if_neg hle, if_neg h0, zBy h6 h7, Sem.run_pure, h12'];rfl
 · exact hob.elim
theorem ok_makeSlice (g : Good E) {site : Nat} {t : TypeId} {l c : Value} {pl pc : PV} {run : Result Next} (hl : Rep E l pl) (hc : Rep E c pc)
   (hrun : run = ((Instr.makeSlice t l c).run P E.w).andThen fun v w' => .ok (.value v) w')
   (hob : (zBJ P (site, E.cnt site) t pl pc).ob) : OpOK P E site run (zBJ P (site, E.cnt site) t pl pc) := by
 unfold zBJ at hob ⊢;split at hob
 · rename_i k L k' C;split at hob
   · rename_i z hz;obtain ⟨h1, h2, h4, h5, h6, h7, h8⟩ := hob;obtain rfl := hl.sc_inv;obtain rfl := hc.sc_inv;obtain ⟨v, i, h9, h10, h11, h12⟩ := zDq (E := E) hz;obtain ⟨hu, hok⟩ := zBa h1;have hpos := (zA7 hok).2;have hs := zBh (P := P) (t := zAu P t) rfl (by omega) E.w;have hzs : v.cells.size = zAr P (zAu P t) := by omega
     have hby : P.bytesOf (zAu P t) = i.bytes := by simp [Program.bytesOf, h9]
     have hwl : IntKind.i64.wrap L = L := by simp [IntKind.wrap, IntKind.bits, IntKind.signed]; omega
     have hwc : IntKind.i64.wrap C = C := by simp [IntKind.wrap, IntKind.bits, IntKind.signed]; omega
     have hprod : (i.bytes : Int) * C ≤ 2 ^ 15 * 2 ^ 32 := by
       have h13 : (i.bytes : Int) ≤ 2 ^ 15 := by omega
       exact Int.le_trans (Int.mul_le_mul_of_nonneg_right h13 (by omega)) (Int.mul_le_mul_of_nonneg_left (by omega) (by omega))
     have hbig : ¬ ((decide (C < 0) || decide ((i.bytes : Int) * C > 2 ^ 48) || decide (L < 0) || decide (L > C)) = true) := by
       simp only [Bool.or_eq_true, decide_eq_true_eq, not_or];refine ⟨⟨⟨by omega, ?_⟩, by omega⟩, by omega⟩;have : (2 : Int) ^ 15 * 2 ^ 32 ≤ 2 ^ 48 := by decide
       omega
     refine zGA g (T := zAu P t) (cells := (Array.range (C.toNat * v.cells.size)).map (v.cells[· % v.cells.size]!)) (c := C.toNat) (len := L.toNat)
       (w' := { E.w with heap := E.w.heap.push (.cells ((Array.range (C.toNat * v.cells.size)).map (v.cells[· % v.cells.size]!)) (zAu P t)) }) ?_ rfl rfl rfl rfl rfl rfl rfl (by simp) (by omega) (by simp [h12]) (by omega)
       (fun row hr => by rw [(List.mem_replicate.1 hr).2]) (fun row hr p hp => by rw [(List.mem_replicate.1 hr).2] at hp; exact (List.all_eq_true.1 h4) p hp) (fun a b row p h13 h14 => ?_)
     · rw [hrun]
       have hif : ∀ (n : Nat), (if n = 0 then pure #[] else do pure (← zeroValue (zAu P t)).cells : Sem (Array Value)).run P E.w = .ok (if n = 0 then #[] else v.cells) E.w := fun n => by
         split
         · rfl
         · simp [zBy h9 h10]
       have htl : ∀ (n : Int), ¬ ((decide (n < 0) || decide ((i.bytes : Int) * n > 2 ^ 48)) = true) → True := fun _ _ => trivial;simp only [Instr.makeSlice, Sem.run_bind, zAD hu, Result.andThen_ok, asInt, asIntOf, Sem.run_pure, typeInfo, run_program, h9, hwl, hwc];rw [if_neg hbig];simp only [Sem.run_bind, run_askRoom, Result.andThen_ok, hs, ← hzs];by_cases h0 : C.toNat * v.cells.size = 0
       · rw [if_pos h0];have : C.toNat = 0 := by rcases Nat.mul_eq_zero.1 h0 with h | h <;> omega
         simp [this, newRow, Array.range_zero']
       · rw [if_neg h0];simp only [Sem.run_bind, zBy h9 h10, Result.andThen_ok, Sem.run_pure];rfl
     · have hi := (List.getElem?_eq_some_iff.1 h13).1;simp at hi;have hrow : row = z := (List.mem_replicate.1 (List.mem_of_getElem? h13)).2;subst hrow;have hj := (List.getElem?_eq_some_iff.1 h14).1;rw [h12];refine ⟨v.cells[b]'(by omega), zF0 (by omega) (by omega), ?_⟩;cases h11 with
       | agg _ hp => exact hp b _ p (by simp [show b < v.cells.size by omega]) h14
   · exact hob.elim
 · exact hob.elim
end
end Go.Pv
namespace Go.Pv
open Go Go.RowKit
section
variable {P : Program} {E : Env}
def zCR (E : Env) (k : Key) (o : PObj) (w' : World) : Env := { E with w := w', h := fun k' => if k' = k then some o else E.h k' }
def PObj.alike : PObj → PObj → Prop
 | .rows sz _, .rows sz' _ => sz = sz'
 | .map _ _ _, .map _ _ _ => True
 | .iter _ _ _, .iter _ _ _ => True
 | _, _ => False
theorem zFc (_g : Good E) {k : Key} {o o' : PObj} {w' : World} (hk : E.h k = some o) (ha : o.alike o') (hsz : E.w.heap.size ≤ w'.heap.size) (hb : ∀ b, b ≠ E.blk k → w'.heap[b]? = E.w.heap[b]?) : EnvLe E (zCR E k o' w') where
 blk := fun b _ ho => hb b fun he => ho ⟨k, o, hk, he.symm⟩
 size := hsz
 own := fun b ⟨k', o1, h1, h2⟩ => by
   simp only [zCR] at h1 h2;by_cases hkk : k' = k
   · subst hkk; exact .inl ⟨k', o, hk, h2⟩
   · rw [if_neg hkk] at h1; exact .inl ⟨k', o1, h1, h2⟩
 M := rfl
 tt := rfl
 B0 := rfl
 cnt := fun _ => Nat.le_refl _
 nokey := fun k' _ hn => by
   simp only [zCR];rw [if_neg (fun he => by subst he; rw [hk] at hn; cases hn)]; exact hn
 rows := fun k' sz rs hr => by
   by_cases hkk : k' = k
   · subst hkk;rw [hk] at hr; cases hr;cases o' with
     | rows sz' rs' => simp only [PObj.alike] at ha; subst ha; exact .inr ⟨rs', by simp [zCR], rfl, rfl⟩
     | map _ _ _ => exact ha.elim
     | iter _ _ _ => exact ha.elim
   · exact .inr ⟨rs, by simp [zCR, hkk, hr], rfl, rfl⟩
 map := fun k' o1 hr hd => by
   by_cases hkk : k' = k
   · subst hkk;rw [hk] at hr; cases hr;refine .inr ⟨o', by simp [zCR], ?_, rfl⟩;cases o <;> cases o' <;> first | rfl | exact ha.elim
   · exact .inr ⟨o1, by simp [zCR, hkk, hr], rfl, rfl⟩
theorem zED (g : Good E) {k : Key} {o o' : PObj} {w' : World} (hk : E.h k = some o) (ha : o.alike o') (hsz : E.w.heap.size ≤ w'.heap.size) (hb : ∀ b, b ≠ E.blk k → w'.heap[b]? = E.w.heap[b]?)
   (ho : ObjOK (zCR E k o' w') k o') : Good (zCR E k o' w') where
 inj := fun k1 k2 o1 o2 h1 h2 h3 => by
   simp only [zCR] at h1 h2 h3;by_cases e1 : k1 = k <;> by_cases e2 : k2 = k
   · rw [e1, e2]
   · rw [if_neg e2] at h2; subst e1; exact g.inj _ _ _ _ hk h2 h3
   · rw [if_neg e1] at h1; subst e2; exact g.inj _ _ _ _ h1 hk h3
   · rw [if_neg e1] at h1; rw [if_neg e2] at h2; exact g.inj _ _ _ _ h1 h2 h3
 known := fun k1 o1 h1 => by
   simp only [zCR] at h1;by_cases e1 : k1 = k
   · subst e1; exact g.known _ _ hk
   · rw [if_neg e1] at h1; exact g.known _ _ h1
 base := fun k1 o1 h1 => by
   simp only [zCR] at h1;by_cases e1 : k1 = k
   · subst e1; exact g.base _ _ hk
   · rw [if_neg e1] at h1; exact g.base _ _ h1
 obj := fun k1 o1 h1 => by
   by_cases e1 : k1 = k
   · subst e1;simp only [zCR, if_true] at h1; cases h1; exact ho
   · have h1' : E.h k1 = some o1 := by simp only [zCR] at h1; rw [if_neg e1] at h1; exact h1
     exact ObjOK.le (zFc g hk ha hsz hb) rfl rfl (hb _ fun he => e1 (g.inj _ _ _ _ h1' hk he)) (g.obj _ _ h1')
 out := g.out
 size := Nat.le_trans g.size hsz
 glob := zCr g.glob (Nat.le_refl _) fun b hb' => hb b fun e => by have := g.base k o hk; omega
theorem zFj (g : Good E) {k : Key} {o : PObj} {w' : World} (hk : E.h k = some o) (hsz : E.w.heap.size ≤ w'.heap.size) (hb : ∀ b, b ≠ E.blk k → w'.heap[b]? = E.w.heap[b]?)
   (h1 : w'.os = E.w.os) (h2 : w'.tape = E.w.tape) (h3 : w'.output = E.w.output) : Below E.B0 E.w w' :=
 ⟨h1, h2, h3, hsz, fun b hlt => hb b fun he => by have := g.base k o hk; omega⟩
theorem setRow_len {rs : Rows} {i j : Nat} {cs : List PV} : (setRow rs i j cs).length = rs.length := by simp [setRow]
theorem setRow_get {rs : Rows} {i j : Nat} {cs : List PV} (hi : i < rs.length) (i2 : Nat) : (setRow rs i j cs)[i2]? = if i2 = i then some (setAt (rs.getD i []) j cs) else rs[i2]? := by
 unfold setRow;rw [List.getElem?_set];by_cases h : i = i2
 · subst h; simp [hi]
 · rw [if_neg h, if_neg (fun e => h e.symm)]
theorem stored_get {cur : List Value} {o : Nat} {vs : List Value} (h : o + vs.length ≤ cur.length) (x : Nat) :
   (cur.take o ++ vs ++ cur.drop (o + vs.length))[x]? = if o ≤ x ∧ x < o + vs.length then vs[x - o]? else cur[x]? := by
 by_cases h1 : x < o
 · rw [if_neg (by omega), List.append_assoc, List.getElem?_append_left (by rw [List.length_take]; omega), List.getElem?_take, if_pos h1]
 · rw [List.append_assoc, List.getElem?_append_right (by rw [List.length_take]; omega), List.length_take, show min o cur.length = o by omega];by_cases h2 : x < o + vs.length
   · rw [if_pos ⟨by omega, h2⟩, List.getElem?_append_left (by omega)]
   · rw [if_neg (by omega), List.getElem?_append_right (by omega), List.getElem?_drop]; congr 1; omega
theorem run_storeVar {t : TypeId} (hok : tyOk P t = true) {v : Value} (hv : v.cells.size = zAr P t) {b o : Nat} {cur : Array Value} {T : TypeId} {w : World} (hg : w.heap[b]? = some (.cells cur T (0, 0)))
   (hfit : o + v.cells.size ≤ cur.size) (h1 : ∀ u ∈ v.cells.toList, u.oneCell' = true) :
   (storeVar t ⟨b, o, none⟩ v).run P w = .ok () (w.setRow b (cur.toList.take o ++ v.cells.toList ++ cur.toList.drop (o + v.cells.toList.length)).toArray) := by
 have hs := zBh (P := P) (t := t) rfl (by have := (zA7 hok).2; omega) w;have hst := run_storeCells_at P b o T v.cells.toList 0 cur w hg (by simpa using hfit) h1;simp only [Nat.add_zero] at hst;simp only [storeVar, Sem.run_bind, hs, Result.andThen_ok, hv, ne_eq, not_true_eq_false, if_false];exact hst
theorem cells_one {v : Value} {p : PV} (h : Rep E v p) (hc : (zBf p).all PV.cell = true) : ∀ u ∈ v.cells.toList, u.oneCell' = true := fun u hu => by
 obtain ⟨h1, h2⟩ := zEy h hc;obtain ⟨i, hi, rfl⟩ := List.mem_iff_getElem.1 hu;simp at hi;have hq : (zBf p)[i]? = some (zBf p)[i] := List.getElem?_eq_getElem (by omega);exact Rep.one (h2 i _ _ (by simp [hi]) hq) ((List.all_eq_true.1 hc) _ (List.mem_of_getElem? hq))
theorem ok_store (g : Good E) {site : Nat} {t : TypeId} {a v : Value} {p q : PV} {run : Result Next} (ha : Rep E a p) (hv : Rep E v q)
   (hrun : run = ((Instr.storeAt t a v).run P E.w).andThen fun _ w' => .ok .skip w')
   (hob : (zCw P E.h t p q).ob) : OpOK P E site run (zCw P E.h t p q) := by
 unfold zCw at hob ⊢;split at hob
 · rename_i k sz0 i j;split at hob
   · rename_i sz rs hk;obtain ⟨h1, h2, h3, h4, hok⟩ := hob;cases ha with
     | ptr hkn hl =>
       obtain ⟨⟨hb, ha⟩, rs', hq⟩ := hl _ hk;cases hq;subst hb; subst ha;obtain ⟨c, T, h5, h6, h7, h8, h9, h10, h11⟩ := g.obj _ _ hk;obtain ⟨h12, h13⟩ := zEy hv h4;have hlt : i * sz0 + sz0 ≤ (E.cap k).1 * sz0 := by rw [← Nat.succ_mul]; exact Nat.mul_le_mul_right _ (by omega)
       have hfit : (E.cap k).2 + i * sz0 + j + v.cells.size ≤ c.size := by omega
       have hst := run_storeVar (P := P) hok (v := v) (by omega) h5 hfit (cells_one hv h4);let cells' := (c.toList.take ((E.cap k).2 + i * sz0 + j) ++ v.cells.toList ++ c.toList.drop ((E.cap k).2 + i * sz0 + j + v.cells.toList.length)).toArray;let w' := E.w.setRow (E.blk k) cells';have hheap : w'.heap[E.blk k]? = some (.cells cells' T (0, 0)) := setRow_heap E.w _ c cells' T (0, 0) h5;have hb : ∀ b, b ≠ E.blk k → w'.heap[b]? = E.w.heap[b]? := fun b hb => setRow_other E.w _ b _ hb;have hsz : E.w.heap.size ≤ w'.heap.size := by simp [w']
       have halike : (PObj.rows sz0 rs).alike (.rows sz0 (setRow rs i j (zBf q))) := rfl;have hle := zFc (w' := w') g hk halike hsz hb;have hrow : (rs.getD i []).length = sz0 := h9 _ (List.mem_of_getElem? (getElem?_row h1))
       have hmem : ∀ row ∈ setRow rs i j (zBf q), row = setAt (rs.getD i []) j (zBf q) ∨ row ∈ rs := fun row hr => by
         rcases List.mem_or_eq_of_mem_set hr with h | h
         · exact .inr h
         · exact .inl h
       have hobj : ObjOK (zCR E k (.rows sz0 (setRow rs i j (zBf q))) w') k (.rows sz0 (setRow rs i j (zBf q))) := by
         refine ⟨cells', T, hheap, ?_, by rw [setRow_len]; exact h7, h8, ?_, ?_, ?_⟩
         · simp only [cells', List.size_toArray, List.length_append, List.length_take, List.length_drop, Array.length_toList];show _ = (E.cap k).2 + (E.cap k).1 * sz0;omega
         · intro row hr;rcases hmem row hr with rfl | h
           · rw [zC1 (by omega), hrow]
           · exact h9 row h
         · intro row hr p hp;rcases hmem row hr with rfl | h
           · unfold setAt at hp;simp only [List.mem_append] at hp;rcases hp with (hp | hp) | hp
             · exact h10 _ (List.mem_of_getElem? (getElem?_row h1)) p (List.mem_of_mem_take hp)
             · exact (List.all_eq_true.1 h4) p hp
             · exact h10 _ (List.mem_of_getElem? (getElem?_row h1)) p (List.mem_of_mem_drop hp)
           · exact h10 row h p hp
         · intro i2 j2 row p h14 h15;have hget := stored_get (cur := c.toList) (o := (E.cap k).2 + i * sz0 + j) (vs := v.cells.toList) (by simpa using hfit) ((E.cap k).2 + i2 * sz0 + j2)
           have hcell : cells'[(E.cap k).2 + i2 * sz0 + j2]? = if (E.cap k).2 + i * sz0 + j ≤ (E.cap k).2 + i2 * sz0 + j2 ∧ (E.cap k).2 + i2 * sz0 + j2 < (E.cap k).2 + i * sz0 + j + v.cells.size then v.cells[(E.cap k).2 + i2 * sz0 + j2 - ((E.cap k).2 + i * sz0 + j)]? else c[(E.cap k).2 + i2 * sz0 + j2]? := by
             simp only [cells'];rw [List.getElem?_toArray, hget];simp
           rw [setRow_get h1] at h14;by_cases hi : i2 = i
           · subst hi;rw [if_pos rfl] at h14;cases h14;rw [zIg (by omega)] at h15;by_cases hj : j ≤ j2 ∧ j2 < j + (zBf q).length
             · rw [if_pos hj] at h15;rw [if_pos (by omega), show (E.cap k).2 + i2 * sz0 + j2 - ((E.cap k).2 + i2 * sz0 + j) = j2 - j by omega] at hcell;have hjv : j2 - j < v.cells.size := by omega
               exact ⟨v.cells[j2 - j], hcell.trans (by simp [hjv]), (h13 _ _ p (by simp [hjv]) h15).le hle⟩
             · rw [if_neg hj] at h15;rw [if_neg (by omega)] at hcell;obtain ⟨u, h16, h17⟩ := h11 i2 j2 _ p (getElem?_row h1) h15;exact ⟨u, hcell.trans h16, h17.le hle⟩
           · rw [if_neg hi] at h14;have hj2 : j2 < sz0 := by rw [← h9 row (List.mem_of_getElem? h14)]; exact (List.getElem?_eq_some_iff.1 h15).1
             rw [if_neg (by
               intro hx;rcases Nat.lt_or_gt_of_ne hi with h | h
               · have : (i2 + 1) * sz0 ≤ i * sz0 := Nat.mul_le_mul_right _ h;rw [Nat.succ_mul] at this; omega
               · have : (i + 1) * sz0 ≤ i2 * sz0 := Nat.mul_le_mul_right _ h;rw [Nat.succ_mul] at this; omega)] at hcell
             obtain ⟨u, h16, h17⟩ := h11 i2 j2 _ p h14 h15;exact ⟨u, hcell.trans h16, h17.le hle⟩
       refine ⟨undef, w', E.blk, E.cap, .inr ⟨?_, rfl⟩, ?_⟩
       · rw [hrun];simp only [Instr.storeAt, Instr.sureAddr, Sem.run_bind, Sem.run_pure, Result.andThen_ok, hst];rfl
       · exact ⟨zED g hk halike hsz hb hobj, hle, zFj g hk hsz hb rfl rfl rfl, .dead⟩
   · exact hob.elim
 · exact hob.elim
end
end Go.Pv
namespace Go.Pv
open Go Go.RowKit
section
variable {P : Program} {E : Env}
section runs
variable {ts : Array TypeId} {as : Array Value} {t t2 ty e : TypeId} {s x : Value} {d2 : TypeDesc} {i : TypeInfo} {z : Value} {size n sLen sCap : Nat} {base : Option Addr} {w : World}
theorem zK7 {t2 : TypeId} {d2 : TypeDesc} (h : P.underlying t2 = some d2) (hk : zBm P t2 = none) : Builtin.append_.match_1 (fun _ => Bool) d2 (fun _ => true) (fun _ => false) = false := by
 unfold zBm at hk;rw [h] at hk;cases d2 <;> first | rfl | (simp at hk)
theorem zLs (h1 : ts[0]? = some t) (h2 : ts[1]? = some t2) (h3 : as[0]? = some (.slice base sLen sCap)) (h4 : as[1]? = some x) (hu : P.underlying t = some (.slice e)) (hu2 : P.underlying t2 = some d2) (hk : zBm P t2 = none)
   (hi : P.info? e = some i) (hz : i.zero = some z) (hsize : i.size = size) {old new : Array Value} (hold : ∀ w', w'.heap = w.heap → (Builtin.firstCells size sLen (.slice base sLen sCap)).run P w' = .ok old w')
   (hlen : ∀ w', (Builtin.lenOf x).run P w' = .ok n w') (hnew : ∀ w', w'.heap = w.heap → (Builtin.firstCells size n x).run P w' = .ok new w') (hg : sCap < sLen + n) (h63 : ((sLen + n : Nat) : Int) ≤ 9223372036854775807) (hfit : Builtin.nextslicecap (sLen + n) sCap * i.bytes ≤ 281474976710656) :
   (Builtin.append_ ts ty as).run P w = .ok (.slice (some ⟨w.heap.size, 0, none⟩) (sLen + n) (grownCap w (sLen + n) sCap e))
     (w.drew.alloc (.cells (old ++ new ++ Builtin.zeroCells z.cells (grownCap w (sLen + n) sCap e - (sLen + n))) e)) := by
 have hd := zK7 hu2 hk;have hn : ¬ (sLen + n ≤ sCap) := by omega
 have h63' : ¬ (9223372036854775807 < ((sLen : Int) + (n : Int))) := by omega
 have h48' : ¬ (281474976710656 < Builtin.nextslicecap (sLen + n) sCap * i.bytes) := by omega
 have ho := hold w.drew rfl;have hne := hnew w.drew rfl;simp [Builtin.append_, h1, h2, h3, h4, run_underlying hu, run_underlying hu2, hd, sizeOf, typeInfo, zeroValue, hi, hz, hsize, hlen, hn, h63', h48', Question.forced, ho, hne, newRow, grownCap]
theorem zKi (h1 : ts[0]? = some t) (h2 : ts[1]? = some t2) (h3 : as[0]? = some (.slice base sLen sCap)) (h4 : as[1]? = some x) (hu : P.underlying t = some (.slice e)) (hu2 : P.underlying t2 = some d2) (hk : zBm P t2 = none)
   (hi : P.info? e = some i) (hsize : i.size = size) {new : Array Value} {w' : World}
   (hlen : ∀ w', (Builtin.lenOf x).run P w' = .ok n w') (hnew : ∀ w', w'.heap = w.heap → (Builtin.firstCells size n x).run P w' = .ok new w') (hg : sLen + n ≤ sCap)
   (hst : (match base with | some a => storeCells (a.add (sLen * size)) new.toList | none => pure () : Sem Unit).run P w = .ok () w') :
   (Builtin.append_ ts ty as).run P w = .ok (.slice base (sLen + n) sCap) w' := by
 have hd := zK7 hu2 hk;have hne := hnew w rfl;cases base with
 | none =>
   have hst' : w = w' := by simpa using hst
   subst hst';simp [Builtin.append_, h1, h2, h3, h4, run_underlying hu, run_underlying hu2, hd, sizeOf, typeInfo, hi, hsize, hlen, hg, hne]
 | some a =>
   simp only at hst;simp [Builtin.append_, h1, h2, h3, h4, run_underlying hu, run_underlying hu2, hd, sizeOf, typeInfo, hi, hsize, hlen, hg, hne, hst]
end runs
structure Src (P : Program) (E : Env) (sz : Nat) (x : Value) (rs : Rows) where
 news : List Value
 len : ∀ w, (Builtin.lenOf x).run P w = .ok rs.length w
 size : news.length = rs.length * sz
 cells : ∀ w, w.heap = E.w.heap → (Builtin.firstCells sz rs.length x).run P w = .ok news.toArray w
 part : ∀ n, n ≤ rs.length → (∃ a l c, x = .slice a l c) → ∀ w, w.heap = E.w.heap → (Builtin.firstCells sz n x).run P w = .ok (news.take (n * sz)).toArray w
 width : ∀ row ∈ rs, row.length = sz
 one : ∀ row ∈ rs, ∀ p ∈ row, p.cell = true
 get : ∀ (i j : Nat) (row : List PV) (p : PV), rs[i]? = some row → row[j]? = some p → ∃ v, news[i * sz + j]? = some v ∧ Rep E v p
theorem cell?_heap {w w' : World} (h : w'.heap = w.heap) (a : Addr) : w'.cell? a = w.cell? a := by simp [World.cell?, h]
def Src.of_view {sz : Nat} {rs : Rows} {b o c : Nat} (V : View E b o sz rs) (h1 : 1 ≤ sz) : Src P E sz (.slice (some ⟨b, o, none⟩) rs.length c) rs :=
 let f : Nat → Value := fun x => (E.w.cell? ⟨b, o + x, none⟩).getD undef
 have hf : ∀ x, x < rs.length * sz → E.w.cell? ⟨b, o + x, none⟩ = some (f x) := fun x hx => by
   have hi : x / sz < rs.length := Nat.div_lt_of_lt_mul (by rw [Nat.mul_comm]; exact hx);have hj : x % sz < sz := Nat.mod_lt _ (by omega);obtain ⟨v, h2, _⟩ := V.at hi hj;have : o + x / sz * sz + x % sz = o + x := by have := Nat.div_add_mod x sz; rw [Nat.mul_comm] at this; omega
   rw [this] at h2;simp [f, h2]
 { news := (List.range (rs.length * sz)).map f
   len := fun w => rfl
   size := by simp
   cells := fun w hw => by
     have := run_loadCells (P := P) w ⟨b, o, none⟩ (rs.length * sz) f (fun j hj => by rw [Addr.add_at, cell?_heap hw]; exact hf j hj);simpa [Builtin.firstCells] using this
   part := fun n hn _ w hw => by
     have := run_loadCells (P := P) w ⟨b, o, none⟩ (n * sz) f (fun j hj => by rw [Addr.add_at, cell?_heap hw]; exact hf j (Nat.lt_of_lt_of_le hj (Nat.mul_le_mul_right _ hn)));have e : ((List.range (rs.length * sz)).map f).take (n * sz) = (List.range (n * sz)).map f := by rw [← List.map_take, List.take_range, Nat.min_eq_left (Nat.mul_le_mul_right _ hn)]
     rw [e]; simpa [Builtin.firstCells] using this
   width := V.width
   one := V.one
   get := fun i j row p h2 h3 => by
     obtain ⟨v, h4, h5⟩ := V.cell i j row p h2 h3;have hi := (List.getElem?_eq_some_iff.1 h2).1;have hj : j < sz := by rw [← V.width row (List.mem_of_getElem? h2)]; exact (List.getElem?_eq_some_iff.1 h3).1
     have hlt := zHy hi hj;refine ⟨f (i * sz + j), by simp [hlt], ?_⟩;have : f (i * sz + j) = v := by simp only [f]; rw [← Nat.add_assoc, h4]; rfl
     rw [this]; exact h5 }
def Src.none {sz c : Nat} {a : Option Addr} : Src P E sz (.slice a 0 c) [] where
 news := []
 len := fun w => rfl
 size := by simp
 cells := fun w _ => by cases a <;> simp [Builtin.firstCells, loadCells, loadCellsFrom]
 part := fun n hn _ w _ => by
   have : n = 0 := by simpa using hn
   subst this;cases a <;> simp [Builtin.firstCells, loadCells, loadCellsFrom]
 width := by simp
 one := by simp
 get := by simp
theorem View.sub {b o sz : Nat} {rs : Rows} (V : View E b o sz rs) (d n : Nat) : View E b (o + d * sz) sz ((rs.drop d).take n) where
 width := fun row h => V.width row (List.mem_of_mem_drop (List.mem_of_mem_take h))
 cell := fun i j row p h1 h2 => by
   rw [List.getElem?_take] at h1;split at h1
   · rw [List.getElem?_drop] at h1;obtain ⟨v, h3, h4⟩ := V.cell (d + i) j row p h1 h2;refine ⟨v, ?_, h4⟩;rw [← h3]; congr 2;rw [Nat.add_mul]; omega
   · cases h1
 one := fun row h => V.one row (List.mem_of_mem_drop (List.mem_of_mem_take h))
theorem zLy (g : Good E) {sz : Nat} {x : Value} {p : PV} (h1 : 1 ≤ sz) (hx : Rep E x p) (hob : (zAU E.h sz p).1) : Nonempty (Src P E sz x (zAU E.h sz p).2.1) := by
 unfold zAU at hob ⊢;split at hob
 · cases hx; exact ⟨Src.none⟩
 · rename_i tt sz' rs;have hob' : sz' = sz := hob;subst hob';cases hx with
   | litE => exact ⟨Src.none⟩
   | lit hm hc hr => exact ⟨Src.of_view (View.of_mem hm hr) h1⟩
 · rename_i k sz' off len;split at hob
   · rename_i sz2 rs hk;obtain ⟨rfl, h2⟩ := hob;have hlen : ((rs.drop off).take len).length = len := by rw [List.length_take, List.length_drop]; omega
     cases hx with
     | refE _ _ =>
       simp only [List.take_zero];exact ⟨Src.none⟩
     | ref hkn hlc hl =>
       obtain ⟨⟨hb, ha⟩, _, rs', hq⟩ := hl _ hk;cases hq;subst hb; subst ha;have V := (View.of_obj (g.obj _ _ hk)).sub off len;have := Src.of_view (P := P) (c := ‹Nat›) V h1;rw [hlen] at this;exact ⟨this⟩
   · exact hob.elim
 · rename_i s;obtain rfl := hx.sc_inv;have hob' : sz = 1 := hob;subst hob';refine ⟨⟨s.data.toList.map fun b => .int .u8 b.toNat, fun w => ?_, by simp [zBX], fun w _ => ?_, (fun _ _ hx => by obtain ⟨_, _, _, hx⟩ := hx; cases hx), ?_, ?_, ?_⟩⟩
   · simp [Builtin.lenOf, zBX]
   · have hx : (Array.map (fun b : UInt8 => Value.int IntKind.u8 (b.toNat : Int)) (s.extract 0 s.size).data) = (s.data.toList.map fun b => Value.int .u8 b.toNat).toArray := by
       apply Array.ext';simp
     simp only [Builtin.firstCells, zBX, List.length_map];have hl : s.data.toList.length = s.size := by simp
     rw [hl, hx];rfl
   · simp [zBX]
   · simp [zBX, PV.cell]
   · intro i j row p h2 h3;simp [zBX] at h2;obtain ⟨b, h4, rfl⟩ := h2;cases j with
     | zero => simp at h3; subst h3; exact ⟨.int .u8 b.toNat, by simp [h4], .sc rfl⟩
     | succ j => simp at h3
 · exact hob.elim
end
end Go.Pv
namespace Go.Pv
open Go Go.RowKit
section
variable {P : Program} {E : Env}
def zCf (E : Env) (k : Key) : Env := { E with h := fun k' => if k' = k then none else E.h k' }
theorem zFy (k : Key) : EnvLe E (zCf E k) where
 blk := fun _ _ _ => rfl
 size := Nat.le_refl _
 own := fun b ⟨k', o, h1, h2⟩ => by
   simp only [zCf] at h1;split at h1
   · cases h1
   · exact .inl ⟨k', o, h1, h2⟩
 M := rfl
 tt := rfl
 B0 := rfl
 cnt := fun _ => Nat.le_refl _
 nokey := fun k' _ hn => by simp only [zCf]; split <;> first | rfl | exact hn
 rows := fun k' sz rs hr => by
   by_cases hk : k' = k
   · exact .inl (by simp [zCf, hk])
   · exact .inr ⟨rs, by simp [zCf, hk, hr], rfl, rfl⟩
 map := fun k' o1 hr _ => by
   by_cases hk : k' = k
   · exact .inl (by simp [zCf, hk])
   · exact .inr ⟨o1, by simp [zCf, hk, hr], rfl, rfl⟩
theorem zCz {k k' : Key} {o : PObj} (h : (zCf E k).h k' = some o) : k' ≠ k ∧ E.h k' = some o := by
 simp only [zCf] at h;split at h
 · cases h
 · exact ⟨by assumption, h⟩
theorem zD7 (g : Good E) (k : Key) : Good (zCf E k) where
 inj := fun _k1 _k2 _o1 _o2 h1 h2 h3 => g.inj _ _ _ _ (zCz h1).2 (zCz h2).2 h3
 known := fun _k1 _o1 h1 => g.known _ _ (zCz h1).2
 base := fun _k1 _o1 h1 => g.base _ _ (zCz h1).2
 obj := fun _k1 _o1 h1 => ObjOK.le (zFy k) rfl rfl rfl (g.obj _ _ (zCz h1).2)
 out := g.out
 size := g.size
 glob := g.glob
def zAL (E : Env) (site : Nat) (k : Key) (cp : Nat × Nat) (o : PObj) (w' : World) : Env :=
 { E with
   w := w'
   h := fun k' => if k' = (site, E.cnt site) then some o else if k' = k then none else E.h k'
   cnt := fun s => if s = site then E.cnt s + 1 else E.cnt s
   blk := fun k' => if k' = (site, E.cnt site) then E.blk k else E.blk k'
   cap := fun k' => if k' = (site, E.cnt site) then cp else E.cap k' }
theorem zCS (g : Good E) {site : Nat} {k : Key} {cp : Nat × Nat} {o o' : PObj} {w' : World} (hk : E.h k = some o') (hsz : E.w.heap.size ≤ w'.heap.size) (hb : ∀ b, b ≠ E.blk k → w'.heap[b]? = E.w.heap[b]?) : EnvLe E (zAL E site k cp o w') where
 blk := fun b _ ho => hb b fun he => ho ⟨k, o', hk, he.symm⟩
 size := hsz
 own := fun b ⟨k', o1, h1, h2⟩ => by
   simp only [zAL] at h1 h2;by_cases e1 : k' = (site, E.cnt site)
   · rw [if_pos e1] at h2; exact .inl ⟨k, o', hk, h2⟩
   · rw [if_neg e1] at h1 h2;split at h1
     · cases h1
     · exact .inl ⟨k', o1, h1, h2⟩
 M := rfl
 tt := rfl
 B0 := rfl
 cnt := fun s => by simp only [zAL]; split <;> omega
 nokey := fun k' hkn hn => by
   simp only [zAL]; rw [if_neg (zC8 hkn)]; split <;> first | rfl | exact hn
 rows := fun k' sz rs hr => by
   have hne := zC8 (site := site) (g.known _ _ hr);by_cases e : k' = k
   · subst e; exact .inl (by simp [zAL, hne])
   · exact .inr ⟨rs, by simp [zAL, hne, e, hr]⟩
 map := fun k' o1 hr _ => by
   have hne := zC8 (site := site) (g.known _ _ hr);by_cases e : k' = k
   · subst e; exact .inl (by simp [zAL, hne])
   · exact .inr ⟨o1, by simp [zAL, hne, e, hr]⟩
theorem zE1 (g : Good E) {site : Nat} {k : Key} {cp : Nat × Nat} {o o' : PObj} {w' : World} (hk : E.h k = some o') (hsz : E.w.heap.size ≤ w'.heap.size) (hb : ∀ b, b ≠ E.blk k → w'.heap[b]? = E.w.heap[b]?)
   (ho : ObjOK (zAL E site k cp o w') (site, E.cnt site) o) : Good (zAL E site k cp o w') := by
 have live : ∀ k1 o1, (zAL E site k cp o w').h k1 = some o1 → k1 ≠ (site, E.cnt site) → k1 ≠ k ∧ E.h k1 = some o1 := fun k1 o1 h1 h2 => by
   simp only [zAL] at h1;rw [if_neg h2] at h1;split at h1
   · cases h1
   · exact ⟨by assumption, h1⟩
 refine ⟨fun k1 k2 o1 o2 h1 h2 h3 => ?_, fun k1 o1 h1 => ?_, fun k1 o1 h1 => ?_, fun k1 o1 h1 => ?_, g.out, Nat.le_trans g.size hsz, zCr g.glob (Nat.le_refl _) fun b hb' => hb b fun e => by have := g.base k o' hk; omega⟩
 · by_cases e1 : k1 = (site, E.cnt site) <;> by_cases e2 : k2 = (site, E.cnt site)
   · rw [e1, e2]
   · obtain ⟨h4, h5⟩ := live k2 o2 h2 e2;simp only [zAL] at h3;rw [if_pos e1, if_neg e2] at h3;exact absurd (g.inj _ _ _ _ hk h5 h3).symm h4
   · obtain ⟨h4, h5⟩ := live k1 o1 h1 e1;simp only [zAL] at h3;rw [if_neg e1, if_pos e2] at h3;exact absurd (g.inj _ _ _ _ h5 hk h3) h4
   · simp only [zAL] at h3;rw [if_neg e1, if_neg e2] at h3;exact g.inj _ _ _ _ (live k1 o1 h1 e1).2 (live k2 o2 h2 e2).2 h3
 · by_cases e1 : k1 = (site, E.cnt site)
   · subst e1; simp [zAL, Env.known]
   · exact (zCS g hk hsz hb).known (g.known _ _ (live k1 o1 h1 e1).2)
 · by_cases e1 : k1 = (site, E.cnt site)
   · simp only [zAL]; rw [if_pos e1]; exact g.base _ _ hk
   · simp only [zAL]; rw [if_neg e1]; exact g.base _ _ (live k1 o1 h1 e1).2
 · by_cases e1 : k1 = (site, E.cnt site)
   · subst e1;simp only [zAL, if_true] at h1; cases h1; exact ho
   · obtain ⟨h4, h5⟩ := live k1 o1 h1 e1;refine ObjOK.le (zCS g hk hsz hb) (by simp [zAL, e1]) (by simp [zAL, e1]) (hb _ fun he => h4 (g.inj _ _ _ _ h5 hk he)) (g.obj _ _ h5)
theorem OpOK.reuse (g : Good E) {site : Nat} {run : Result Next} {e : Eff} {k : Key} {cp : Nat × Nat} {o o' : PObj} {w' : World} {v : Value} (hk : E.h k = some o')
   (hrun : run = .ok (.value v) w') (hsz : E.w.heap.size ≤ w'.heap.size) (hb : ∀ b, b ≠ E.blk k → w'.heap[b]? = E.w.heap[b]?) (h1 : w'.os = E.w.os) (h2 : w'.tape = E.w.tape) (h3 : w'.output = E.w.output)
   (hwr : e.wr = [(k, none), ((site, E.cnt site), some o)]) (hbump : e.bump = true) (ho : ObjOK (zAL E site k cp o w') (site, E.cnt site) o) (hv : Rep (zAL E site k cp o w') v e.v) : OpOK P E site run e := by
 refine ⟨v, w', (zAL E site k cp o w').blk, (zAL E site k cp o w').cap, .inl hrun, ?_⟩
 have he : ({ E with w := w', h := zAZ E.h e.wr, cnt := bumpC E.cnt site e.bump, blk := (zAL E site k cp o w').blk, cap := (zAL E site k cp o w').cap } : Env) = zAL E site k cp o w' := by
   rw [hwr, hbump]; rfl
 rw [he];exact ⟨zE1 g hk hsz hb ho, zCS g hk hsz hb, zFj g hk hsz hb h1 h2 h3, hv⟩
theorem OpOK.newKill (g : Good E) {site : Nat} {run : Result Next} {e : Eff} {k : Key} {o : PObj} {w' : World} {c : Nat} {obj : Obj} {v : Value}
   (hrun : run = .ok (.value v) w') (hh : w'.heap = E.w.heap.push obj) (h1 : w'.os = E.w.os) (h2 : w'.tape = E.w.tape) (h3 : w'.output = E.w.output)
   (hwr : e.wr = [(k, none), ((site, E.cnt site), some o)]) (hbump : e.bump = true) (ho : ObjOK (zA2 (zCf E k) site o w' c) (site, E.cnt site) o) (hv : Rep (zA2 (zCf E k) site o w' c) v e.v) : OpOK P E site run e := by
 refine ⟨v, w', (zA2 (zCf E k) site o w' c).blk, (zA2 (zCf E k) site o w' c).cap, .inl hrun, ?_⟩
 have he : ({ E with w := w', h := zAZ E.h e.wr, cnt := bumpC E.cnt site e.bump, blk := (zA2 (zCf E k) site o w' c).blk, cap := (zA2 (zCf E k) site o w' c).cap } : Env) = zA2 (zCf E k) site o w' c := by
   rw [hwr, hbump]; rfl
 rw [he];exact ⟨zEH (zD7 g k) hh ho, (zFy k).trans (zC6 (zD7 g k) hh) g.known, zFT g hh h1 h2 h3, hv⟩
theorem zIx {n by_ : Nat} (h1 : n < 2 ^ 32) (h2 : by_ < 2 ^ 15) : n * by_ ≤ 140737488355328 := by
 have := Nat.mul_le_mul (Nat.le_of_lt h1) (Nat.le_of_lt h2);have e : (2 : Nat) ^ 32 * 2 ^ 15 = 140737488355328 := by decide
 omega
theorem zII {old news rest : List Value} {rs rx : Rows} {sz : Nat} (h1 : old.length = rs.length * sz)
   (ho : ∀ (i j : Nat) (row : List PV) (p : PV), rs[i]? = some row → row[j]? = some p → ∃ v, old[i * sz + j]? = some v ∧ Rep E v p) (hwo : ∀ row ∈ rs, row.length = sz)
   (hn : ∀ (i j : Nat) (row : List PV) (p : PV), rx[i]? = some row → row[j]? = some p → ∃ v, news[i * sz + j]? = some v ∧ Rep E v p) (hwn : ∀ row ∈ rx, row.length = sz) (hnl : news.length = rx.length * sz)
   (i j : Nat) (row : List PV) (p : PV) (h2 : (rs ++ rx)[i]? = some row) (h3 : row[j]? = some p) : ∃ v, (old ++ news ++ rest)[i * sz + j]? = some v ∧ Rep E v p := by
 by_cases hi : i < rs.length
 · rw [List.getElem?_append_left hi] at h2;have hj : j < sz := by rw [← hwo row (List.mem_of_getElem? h2)]; exact (List.getElem?_eq_some_iff.1 h3).1
   have hlt := zHy hi hj;obtain ⟨v, h4, h5⟩ := ho i j row p h2 h3;exact ⟨v, by rw [List.append_assoc, List.getElem?_append_left (by omega)]; exact h4, h5⟩
 · rw [List.getElem?_append_right (by omega)] at h2;have hi2 := (List.getElem?_eq_some_iff.1 h2).1;have hj : j < sz := by rw [← hwn row (List.mem_of_getElem? h2)]; exact (List.getElem?_eq_some_iff.1 h3).1
   have hlt := zHy hi2 hj;obtain ⟨v, h4, h5⟩ := hn _ j row p h2 h3;refine ⟨v, ?_, h5⟩;have hle : rs.length * sz ≤ i * sz := Nat.mul_le_mul_right _ (by omega);rw [Nat.sub_mul] at h4 hlt;rw [List.append_assoc, List.getElem?_append_right (by omega), List.getElem?_append_left (by omega), ← h4];congr 1; omega
theorem zEh {z : Array Value} {n : Nat} : (Builtin.zeroCells z n).size = n * z.size := by simp [Builtin.zeroCells]
theorem zDK {t : TypeId} (h : zEg P t = true) : ∃ z, zAT P t = some z ∧ z.length = zAr P t := by
 unfold zEg at h;split at h
 · exact ⟨_, by assumption, by simpa using h⟩
 · cases h
theorem ok_append (g : Good E) {site : Nat} {t t2 ty : TypeId} {ts : Array TypeId} {as : Array Value} {s x : Value} {p q : PV} {run : Result Next}
   (h1 : ts[0]? = some t) (h2 : ts[1]? = some t2) (h3 : as[0]? = some s) (h4 : as[1]? = some x) (hs : Rep E s p) (hx : Rep E x q)
   (hrun : run = ((Builtin.append_ ts ty as).run P E.w).andThen fun v w' => .ok (.value v) w')
   (hob : (zA3 P E.h (site, E.cnt site) t t2 p q).ob) : OpOK P E site run (zA3 P E.h (site, E.cnt site) t t2 p q) := by
 unfold zA3 at hob ⊢;simp only at hob ⊢;split at hob
 · cases hE : (zAU E.h (zAr P (zAu P t)) q).2.1.isEmpty with
   | true =>
     rw [hE] at hob;simp only [cond_true] at hob ⊢;obtain ⟨⟨ht1, ht2, ht3, ht4, ht5⟩, hsrc⟩ := hob;obtain ⟨hu, hok⟩ := zBa ht1;have hpos := (zA7 hok).2;obtain ⟨d2, hu2⟩ := Option.isSome_iff_exists.1 ht5;obtain ⟨z, hz, hzs⟩ := zDK ht4;obtain ⟨zv, i, hi, hzv, hzr, hzl⟩ := zDq (E := E) hz;obtain ⟨S⟩ := zLy (P := P) g hpos hx hsrc;have hisz : i.size = zAr P (zAu P t) := by simp [zAr, Program.cellsOf, hi]
     have hlen0 : (zAU E.h (zAr P (zAu P t)) q).2.1.length = 0 := by rw [List.isEmpty_iff.1 hE]; rfl
     cases hs with
     | nil =>
       rename_i a
       have hr := zKi (P := P) (ty := ty) (w := E.w) (w' := E.w) (new := S.news.toArray) h1 h2 h3 h4 hu hu2 ht3 hi hisz S.len S.cells (by omega) (by
         have : S.news = [] := List.eq_nil_of_length_eq_zero (by rw [S.size, hlen0]; simp);rw [this]; cases a <;> rfl)
       rw [hlen0] at hr;exact OpOK.pure g (v := .slice a 0 0) (by rw [hrun, hr]; rfl) .nil rfl rfl
   | false =>
   rw [hE] at hob;simp only [cond_false] at hob ⊢;obtain ⟨⟨ht1, ht2, ht3, ht4, ht5⟩, hsrc, hne, hbd⟩ := hob;obtain ⟨hu, hok⟩ := zBa ht1;have hpos := (zA7 hok).2;obtain ⟨d2, hu2⟩ := Option.isSome_iff_exists.1 ht5;obtain ⟨z, hz, hzs⟩ := zDK ht4;obtain ⟨zv, i, hi, hzv, hzr, hzl⟩ := zDq (E := E) hz;obtain ⟨S⟩ := zLy (P := P) g hpos hx hsrc;have hisz : i.size = zAr P (zAu P t) := by simp [zAr, Program.cellsOf, hi]
   have hiby : i.bytes = P.bytesOf (zAu P t) := by simp [Program.bytesOf, hi]
   have hn0 : 0 < (zAU E.h (zAr P (zAu P t)) q).2.1.length := by
     rcases Nat.eq_zero_or_pos (zAU E.h (zAr P (zAu P t)) q).2.1.length with h | h
     · exact absurd (List.eq_nil_of_length_eq_zero h) hne
     · exact h
   cases hs with
   | nil =>
     rename_i a;have hb := zIx hbd ht2;have hr := zLs (P := P) (ty := ty) (w := E.w) h1 h2 h3 h4 hu hu2 ht3 hi hzv hisz (old := #[]) (fun w' _ => by cases a <;> simp [Builtin.firstCells, loadCells, loadCellsFrom]) S.len S.cells (by omega) (by omega) (growslice_fits (by omega) (by rw [hiby]; simpa using hb));have hge := grownCap_ge E.w (0 + (zAU E.h (zAr P (zAu P t)) q).2.1.length) 0 (zAu P t);refine zGA g (w' := E.w.drew.alloc _) (by rw [hrun, hr]; rfl) rfl rfl rfl rfl (by simp) rfl rfl (by simp) hge ?_ hpos S.width S.one ?_
     · simp only [Array.size_append, List.size_toArray, S.size, zEh, ← hzl, hzs, List.length_nil, Nat.zero_add, ← Nat.add_mul] at hge ⊢;congr 1; omega
     · intro i j row p h5 h6;obtain ⟨v, h7, h8⟩ := S.get i j row p h5 h6;have hlt := (List.getElem?_eq_some_iff.1 h7).1;refine ⟨v, ?_, h8⟩;rw [Array.getElem?_append_left (by simpa using hlt)];simpa using h7
 · rename_i k sz off len;split at hob
   · rename_i sz2 rs hk;obtain ⟨⟨ht1, ht2, ht3, ht4, ht5⟩, hsrc, hsz, hlen, hbd⟩ := hob;obtain ⟨hu, hok⟩ := zBa ht1;have hpos := (zA7 hok).2;obtain ⟨d2, hu2⟩ := Option.isSome_iff_exists.1 ht5;obtain ⟨z, hz, hzs⟩ := zDK ht4;obtain ⟨zv, i, hi, hzv, hzr, hzl⟩ := zDq (E := E) hz;obtain ⟨S⟩ := zLy (P := P) g hpos hx hsrc;have hisz : i.size = zAr P (zAu P t) := by simp [zAr, Program.cellsOf, hi]
     have hiby : i.bytes = P.bytesOf (zAu P t) := by simp [Program.bytesOf, hi]
     generalize (zAU E.h (zAr P (zAu P t)) q).2.1 = rx at *;have hb := zIx hbd ht2;have hkn := g.known _ _ hk;have htk : ((rs.drop off).take len).length = len := by rw [List.length_take, List.length_drop]; omega
     -- what the object holds
     have hsz2 : sz2 = sz := by
       cases hs with
       | ref _ _ hl => obtain ⟨_, _, rs', hq⟩ := hl _ hk; cases hq; rfl
       | refE _ hl => obtain ⟨rs', hq⟩ := hl _ hk; cases hq; rfl
     subst hsz2;have V := (View.of_obj (g.obj _ _ hk)).sub off len;subst hsz
     have hwid : ∀ row ∈ ((rs.drop off).take len) ++ rx, row.length = zAr P (zAu P t) := fun row hr => by
       rcases List.mem_append.1 hr with h | h
       · exact V.width row h
       · exact S.width row h
     have hone : ∀ row ∈ ((rs.drop off).take len) ++ rx, ∀ p ∈ row, p.cell = true := fun row hr => by
       rcases List.mem_append.1 hr with h | h
       · exact V.one row h
       · exact S.one row h
     have hlen2 : (((rs.drop off).take len) ++ rx).length = len + rx.length := by rw [List.length_append, htk]
     -- growing
     have grow : ∀ (base : Option Addr) (cap : Nat) (old : List Value), s = .slice base len cap → cap < len + rx.length → old.length = ((rs.drop off).take len).length * zAr P (zAu P t) →
         (∀ w', w'.heap = E.w.heap → (Builtin.firstCells (zAr P (zAu P t)) len (.slice base len cap)).run P w' = .ok old.toArray w') →
         (∀ (i j : Nat) (row : List PV) (p : PV), ((rs.drop off).take len)[i]? = some row → row[j]? = some p → ∃ v, old[i * zAr P (zAu P t) + j]? = some v ∧ Rep E v p) →
         OpOK P E site run { ob := (zAN P t = true ∧ P.bytesOf (zAu P t) < 2 ^ 15 ∧ zBm P t2 = none ∧ zEg P (zAu P t) = true ∧ (P.underlying t2).isSome = true) ∧ (zAU E.h (zAr P (zAu P t)) q).1 ∧ zAr P (zAu P t) = zAr P (zAu P t) ∧ off + len ≤ rs.length ∧ len + rx.length < 2 ^ 32, v := .ref (site, E.cnt site) (zAr P (zAu P t)) 0 (len + rx.length), wr := [(k, none), ((site, E.cnt site), some (.rows (zAr P (zAu P t)) (((rs.drop off).take len) ++ rx)))], rd := k :: (zAU E.h (zAr P (zAu P t)) q).2.2, bump := true } := fun base cap old hse hcap hol hold hog => by
       subst hse;have hr := zLs (P := P) (ty := ty) (w := E.w) h1 h2 h3 h4 hu hu2 ht3 hi hzv hisz hold S.len S.cells hcap (by omega) (growslice_fits hcap (by rw [hiby]; exact hb));have hge := grownCap_ge E.w (len + rx.length) cap (zAu P t);refine OpOK.newKill g (k := k) (o := .rows (zAr P (zAu P t)) (((rs.drop off).take len) ++ rx)) (w' := E.w.drew.alloc _) (c := grownCap E.w (len + rx.length) cap (zAu P t)) (by rw [hrun, hr]; rfl) rfl rfl rfl rfl rfl rfl ?_ (zF6 (E := zCf E k) hge);refine zGE (E := zCf E k) (cells := old.toArray ++ S.news.toArray ++ Builtin.zeroCells zv.cells (grownCap E.w (len + rx.length) cap (zAu P t) - (len + rx.length))) (T := zAu P t) rfl ?_ (by rw [hlen2]; exact hge) hpos hwid hone ?_
       · simp only [Array.size_append, List.size_toArray, S.size, hol, htk, zEh, ← hzl, hzs, ← Nat.add_mul];congr 1; omega
       · intro i j row p h5 h6;obtain ⟨v, h7, h8⟩ := zII (rest := (Builtin.zeroCells zv.cells (grownCap E.w (len + rx.length) cap (zAu P t) - (len + rx.length))).toList) hol hog V.width S.get S.width S.size i j row p h5 h6;refine ⟨v, ?_, (h8.le (zFy k)).le (zC6 (zD7 g k) rfl)⟩;rw [← h7, ← Array.getElem?_toList];simp
     cases hs with
     | refE hk1 hl =>
       rename_i a;by_cases hn : rx.length = 0
       · have hrx : rx = [] := List.eq_nil_of_length_eq_zero hn;subst hrx
         have hr := zKi (P := P) (ty := ty) (w := E.w) (w' := E.w) (new := S.news.toArray) h1 h2 h3 h4 hu hu2 ht3 hi hisz S.len S.cells (by simp) (by
           have : S.news = [] := List.eq_nil_of_length_eq_zero (by rw [S.size]; simp);rw [this]; cases a <;> rfl)
         obtain ⟨c, T, h5, h6, h7, h8, h9, h10, h11⟩ := g.obj _ _ hk;refine OpOK.reuse g (k := k) (cp := E.cap k) (o := .rows (zAr P (zAu P t)) ((rs.drop off).take 0 ++ [])) (w' := E.w) hk (by rw [hrun, hr]; rfl) (Nat.le_refl _) (fun _ _ => rfl) rfl rfl rfl rfl rfl ?_ ?_
         · exact ⟨c, T, by simpa [zAL] using h5, by simpa [zAL] using h6, by simp, h8, by simp, by simp, by simp⟩
         · refine .refE (by simp [zAL, Env.known]) fun o ho => ?_;simp [zAL] at ho;exact ⟨_, ho.symm⟩
       · exact grow a 0 [] rfl (by omega) (by simp) (fun w' _ => by cases a <;> simp [Builtin.firstCells, loadCells, loadCellsFrom]) (by simp)
     | ref hk1 hlc hl =>
       rename_i b ad c;obtain ⟨⟨hbk, hak⟩, hcap, rs', hq⟩ := hl _ hk;cases hq;subst hbk; subst hak;obtain ⟨B0, hB0⟩ : ∃ B0, (E.cap k).2 + off * zAr P (zAu P t) = B0 := ⟨_, rfl⟩
       rw [hB0] at V;obtain ⟨cur, T, h5, h6, h7, h8, h9, h10, h11⟩ := g.obj _ _ hk;by_cases hroom : len + rx.length ≤ c
       · have hmul : off * zAr P (zAu P t) + (len * zAr P (zAu P t) + rx.length * zAr P (zAu P t)) ≤ (E.cap k).1 * zAr P (zAu P t) := by
           rw [← Nat.add_mul, ← Nat.add_mul]; exact Nat.mul_le_mul_right _ (by omega)
         have hsub : off * zAr P (zAu P t) + ((E.cap k).1 - off) * zAr P (zAu P t) = (E.cap k).1 * zAr P (zAu P t) := by
           rw [← Nat.add_mul]; congr 1; omega
         have hfit : B0 + len * zAr P (zAu P t) + S.news.length ≤ cur.size := by
           rw [S.size, h6]; omega
         have hnone : ∀ u ∈ S.news, u.oneCell' = true := fun u hu => by
           obtain ⟨x, hx, rfl⟩ := List.mem_iff_getElem.1 hu;rw [S.size] at hx;have hxi : x / zAr P (zAu P t) < rx.length := Nat.div_lt_of_lt_mul (by rw [Nat.mul_comm]; exact hx);have hxj : x % zAr P (zAu P t) < zAr P (zAu P t) := Nat.mod_lt _ (by omega);have hrow := getElem?_row hxi;have hrl := S.width _ (List.mem_of_getElem? hrow);obtain ⟨v, h12, h13⟩ := S.get _ _ _ _ hrow (List.getElem?_eq_getElem (show x % zAr P (zAu P t) < (rx.getD (x / zAr P (zAu P t)) []).length by omega));have : x / zAr P (zAu P t) * zAr P (zAu P t) + x % zAr P (zAu P t) = x := by have := Nat.div_add_mod x (zAr P (zAu P t)); rw [Nat.mul_comm] at this; omega
           rw [this] at h12
           have hx' : S.news[x] = v := by
             have := (List.getElem?_eq_some_iff.1 h12).2; exact this
           rw [hx'];exact Rep.one h13 (S.one _ (List.mem_of_getElem? hrow) _ (List.getElem_mem _))
         have hst := run_storeCells_at P (E.blk k) (B0 + len * zAr P (zAu P t)) T S.news 0 cur E.w h5 (by simpa using hfit) hnone;simp only [Nat.add_zero] at hst;let cells' := (cur.toList.take (B0 + len * zAr P (zAu P t)) ++ S.news ++ cur.toList.drop (B0 + len * zAr P (zAu P t) + S.news.length)).toArray
         have hr := zKi (P := P) (ty := ty) (w := E.w) (w' := E.w.setRow (E.blk k) cells') (new := S.news.toArray) h1 h2 h3 h4 hu hu2 ht3 hi hisz S.len S.cells hroom (by
           rw [hB0];simp only [Addr.add_at];exact hst)
         have hbo : ∀ b, b ≠ E.blk k → (E.w.setRow (E.blk k) cells').heap[b]? = E.w.heap[b]? := fun b hb => setRow_other E.w _ b _ hb;have hszw : E.w.heap.size ≤ (E.w.setRow (E.blk k) cells').heap.size := by simp
         have hle := zCS (site := site) (cp := ((E.cap k).1 - off, B0)) (o := .rows (zAr P (zAu P t)) (((rs.drop off).take len) ++ rx)) g hk hszw hbo;refine OpOK.reuse g (k := k) (cp := ((E.cap k).1 - off, B0)) (o := .rows (zAr P (zAu P t)) (((rs.drop off).take len) ++ rx)) (w' := E.w.setRow (E.blk k) cells') hk (by rw [hrun, hr]; rfl) hszw hbo rfl rfl rfl rfl rfl ?_ ?_
         · refine ⟨cells', T, by simpa [zAL] using setRow_heap E.w _ cur cells' T (0, 0) h5, ?_, ?_, h8, hwid, hone, ?_⟩
           · simp only [zAL, if_true, cells', List.size_toArray, List.length_append, List.length_take, List.length_drop, Array.length_toList];omega
           · rw [hlen2]; simp only [zAL, if_true]; omega
           · intro i j row p h12 h13
             obtain ⟨v, h14, h15⟩ := zII (E := E) (old := (cur.toList.drop B0).take (len * zAr P (zAu P t))) (news := S.news) (rest := cur.toList.drop (B0 + len * zAr P (zAu P t) + S.news.length)) (rs := ((rs.drop off).take len)) (rx := rx) (by rw [List.length_take, List.length_drop, htk, Array.length_toList]; omega)
               (fun i j row p h16 h17 => by
                 rw [List.getElem?_take] at h16;split at h16
                 · rename_i hi;rw [List.getElem?_drop] at h16;obtain ⟨v, h18, h19⟩ := h11 (off + i) j row p h16 h17;have hj : j < zAr P (zAu P t) := by rw [← h9 row (List.mem_of_getElem? h16)]; exact (List.getElem?_eq_some_iff.1 h17).1
                   have hlt := zHy hi hj;refine ⟨v, ?_, h19⟩;rw [List.getElem?_take, if_pos hlt, List.getElem?_drop];rw [Nat.add_mul] at h18;rw [Array.getElem?_toList, ← h18];congr 1;omega
                 · cases h16) V.width S.get S.width S.size i j row p h12 h13
             refine ⟨v, ?_, h15.le hle⟩;have hB : B0 ≤ cur.size := by omega
             simp only [zAL, if_true, cells'];generalize cur.toList.drop (B0 + len * zAr P (zAu P t) + S.news.length) = rst at h14 ⊢;rw [List.getElem?_toArray, List.take_add, List.append_assoc, List.append_assoc, List.getElem?_append_right (by rw [List.length_take, Array.length_toList]; omega), List.length_take, Array.length_toList, Nat.min_eq_left hB, show B0 + i * zAr P (zAu P t) + j - B0 = i * zAr P (zAu P t) + j by omega, ← List.append_assoc];exact h14
         · have := Rep.ref (E := zAL E site k ((E.cap k).1 - off, B0) (.rows (zAr P (zAu P t)) (((rs.drop off).take len) ++ rx)) (E.w.setRow (E.blk k) cells')) (b := E.blk k) (a := B0) (k := (site, E.cnt site)) (sz := zAr P (zAu P t)) (off := 0) (len := len + rx.length) (c := c) (by simp [zAL, Env.known]) hroom (fun o ho => by
             simp [zAL] at ho ⊢;exact ⟨by omega, _, ho.symm⟩)
           rw [hB0];exact this
       · subst hB0
         obtain ⟨S0⟩ : Nonempty (Src P E (zAr P (zAu P t)) (.slice (some ⟨E.blk k, (E.cap k).2 + off * zAr P (zAu P t), none⟩) len c) ((rs.drop off).take len)) := by
           have := Src.of_view (P := P) (c := c) V hpos;rw [htk] at this;exact ⟨by simpa using this⟩
         have hcells := S0.cells;rw [htk] at hcells;exact grow _ c S0.news rfl (by omega) S0.size hcells S0.get
   · exact hob.elim
 · exact hob.elim
end
end Go.Pv
