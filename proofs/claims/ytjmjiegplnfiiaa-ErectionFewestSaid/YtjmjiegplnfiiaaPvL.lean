/- States at P level; regions; code; what a call of a function is at P level. Definitions. -/
import Derived.Test.YtjmjiegplnfiiaaPvK
namespace Go.Pv
open Go Go.RowKit

structure PS where
 r : Nat → PV
 h : Heap
 cnt : Nat → Nat

def putR (r : Nat → PV) (dst : Option Nat) (v : PV) : Nat → PV :=
 match dst with
 | some d => fun i => if i = d then v else r i
 | none => r

def siteOf (o : Oper) : Nat := o.dst.getD 999983

/-- The function and the arguments of a call. -/
def callOf (r : Nat → PV) (o : Op) : Option (FuncId × List PV) :=
 match o with
 | .call { callee := .value f, args, .. } => match ev r f with
   | .func (.func fid) first cap => some (fid, first ++ args.toList.map (ev r) ++ cap)
   | _ => none
 | _ => none

/-- The function has a body, and is walked into. -/
def hasBody (P : Program) (f : FuncId) : Bool := match P.funcs[f]? with
 | some fn => fn.body.isSome && !(fn.name == "runtime.NumGoroutine")
 | none => false

/-- A call of a function in an environment: what it may leave. -/
def HCallsR (P : Program) (f : FuncId) (args : List PV) (h : Heap) (cnt : Nat → Nat) (R : PV → Heap → (Nat → Nat) → Prop) : Prop :=
 hasBody P f = true ∧ ∀ (E : Env) (vs : Array Value), Good E → E.h = h → E.cnt = cnt → E.tt = true → vs.size = args.length →
   (∀ (i : Nat) (u : Value) (p : PV), vs[i]? = some u → args[i]? = some p → Rep E u p) →
   Calls P f vs E.w fun e w' => ∃ (u : Value) (v : PV) (E' : Env), e = .returned u ∧ R v E'.h E'.cnt ∧ E'.w = w' ∧ Good E' ∧ EnvLe E E' ∧ Below E.B0 E.w w' ∧ Rep E' u v

theorem HCallsR.mono {P : Program} {f : FuncId} {args : List PV} {h : Heap} {cnt : Nat → Nat} {R R' : PV → Heap → (Nat → Nat) → Prop} (hc : HCallsR P f args h cnt R) (hr : ∀ v h cnt, R v h cnt → R' v h cnt) : HCallsR P f args h cnt R' :=
 ⟨hc.1, fun E vs g h1 h2 h3 h4 h5 => (hc.2 E vs g h1 h2 h3 h4 h5).mono fun _ _ ⟨u, v, E', q1, q2, q3⟩ => ⟨u, v, E', q1, hr _ _ _ q2, q3⟩⟩

/-- The environment in which a function on pure values runs. -/
def pureEnv (w : World) (M : Nat → Prop) (tt : Bool) : Env := { w := w, h := fun _ => none, cnt := fun _ => 0, blk := fun _ => 0, cap := fun _ => (0, 0), M := M, tt := tt, B0 := w.heap.size }

/-- A function on pure values: it returns what reads as 'r', in new memory, and turns nothing that was there. -/
def PCalls (P : Program) (f : FuncId) (args : List PV) (r : PV) : Prop :=
 Pure r ∧ hasBody P f = true ∧ ∀ (w : World) (M : Nat → Prop) (vs : Array Value), (∀ b, M b → b < w.heap.size) → gw w w.heap.size → vs.size = args.length →
   (∀ (i : Nat) (u : Value) (p : PV), vs[i]? = some u → args[i]? = some p → Rep (pureEnv w M true) u p) →
   Calls P f vs w fun e w' => ∃ u, e = .returned u ∧ Rep (pureEnv w' M false) u r ∧ Below w.heap.size w w'

/-- A function on pure values that hands back a new slice: its rows of plain values. -/
def PNew (P : Program) (f : FuncId) (args : List PV) (sz : Nat) (rows : Rows) : Prop :=
 hasBody P f = true ∧ 1 ≤ sz ∧ (∀ row ∈ rows, row.length = sz) ∧ ∀ (w : World) (M : Nat → Prop) (vs : Array Value), (∀ b, M b → b < w.heap.size) → gw w w.heap.size → vs.size = args.length →
   (∀ (i : Nat) (u : Value) (p : PV), vs[i]? = some u → args[i]? = some p → Rep (pureEnv w M true) u p) →
   Calls P f vs w fun e w' => ∃ (u : Value) (gb cp ba : Nat) (cells : Array Value) (T : TypeId), e = .returned u ∧ Below w.heap.size w w' ∧ w.heap.size ≤ gb ∧ w'.heap[gb]? = some (.cells cells T (0, 0)) ∧ cells.size = ba + cp * sz ∧ rows.length ≤ cp ∧
     (∀ (i j : Nat) (row : List PV) (p : PV), rows[i]? = some row → row[j]? = some p → ∃ x, p = .sc x ∧ isScalar x = true ∧ cells[ba + i * sz + j]? = some x) ∧
     ((∃ c, u = .slice (some ⟨gb, ba, none⟩) rows.length c ∧ rows.length ≤ c ∧ c ≤ cp) ∨ ∃ a, u = .slice a 0 0 ∧ rows.length = 0)

/-- An argument as a function on pure values takes it. -/
inductive Inn0 (h : Heap) : PV → PV → Prop where
 | pure {p : PV} (hp : Pure p) : Inn0 h p p
 | lit {t t' : Bool} {sz : Nat} {rows : Rows} (ht : t = true → t' = true) : Inn0 h (.lit t sz rows) (.lit t' sz rows)
 | nil (t : Bool) (sz : Nat) : Inn0 h .nil (.lit t sz [])
 | ref {k : Key} {sz off len : Nat} {rs rows : Rows} (hk : h k = some (.rows sz rs)) (hl : off + len ≤ rs.length) (hr : rows = (rs.drop off).take len) (hp : ∀ row ∈ rows, ∀ p ∈ row, Pure p) : Inn0 h (.ref k sz off len) (.lit true sz rows)
 | ptr {k : Key} {sz i j : Nat} {rs : Rows} (hk : h k = some (.rows sz rs)) (hp : ∀ row ∈ rs, ∀ p ∈ row, Pure p) : Inn0 h (.ptr k sz i j) (.lptr true sz rs i j)
 | lptr {t t' : Bool} {sz i j : Nat} {rows : Rows} (ht : t = true → t' = true) : Inn0 h (.lptr t sz rows i j) (.lptr t' sz rows i j)

inductive Inn (h : Heap) : PV → PV → Prop where
 | base {p q : PV} (hi : Inn0 h p q) : Inn h p q
 | func {f : Fn} {a a' c c' : List PV} (hl : a.length = a'.length) (hl' : c.length = c'.length) (ha : ∀ (i : Nat) (p q : PV), a[i]? = some p → a'[i]? = some q → Inn0 h p q) (hc : ∀ (i : Nat) (p q : PV), c[i]? = some p → c'[i]? = some q → Inn0 h p q) :
     Inn h (.func f a c) (.func f a' c')
 | agg {a a' : List PV} (hl : a.length = a'.length) (ha : ∀ (i : Nat) (p q : PV), a[i]? = some p → a'[i]? = some q → Inn0 h p q) : Inn h (.agg a) (.agg a')

inductive Inns (h : Heap) : List PV → List PV → Prop where
 | nil : Inns h [] []
 | cons {p q : PV} {ps qs : List PV} (h1 : Inn h p q) (h2 : Inns h ps qs) : Inns h (p :: ps) (q :: qs)

def stepS (s : PS) (o : Oper) (e : Eff) : PS := { r := putR s.r o.dst e.v, h := applyWr s.h e.wr, cnt := bumpC s.cnt (siteOf o) e.bump }

/-- A step of an iteration over a map that does not change: whichever entry comes. -/
def NextP (K : PS → Prop) (o : Oper) (s : PS) : Prop :=
 ∃ (x : Operand) (kit km : Key) (since : Nat) (seen : List Nat) (es : List (PV × PV)) (bs : List Nat),
   o.op = .next x false ∧ ev s.r x = .iter kit ∧ s.h kit = some (.iter km since seen) ∧ s.h km = some (.map es bs since) ∧ (∀ b ∈ bs, b < since) ∧ leftOf es bs seen ≠ [] ∧
   ∀ p ∈ leftOf es bs seen, K { r := putR s.r o.dst (.tup [.bool true, p.1.1, p.1.2]), h := fun k => if k = kit then some (.iter km since (seen ++ [p.2])) else s.h k, cnt := s.cnt }

theorem NextP.mono {K K' : PS → Prop} (h : ∀ s, K s → K' s) {o : Oper} {s : PS} : NextP K o s → NextP K' o s := fun ⟨x, kit, km, since, seen, es, bs, h1, h2, h3, h4, h5, h6, h7⟩ =>
 ⟨x, kit, km, since, seen, es, bs, h1, h2, h3, h4, h5, h6, fun p hp => h _ (h7 p hp)⟩

/-- An own row is told by another key from now on: what named it before names nothing. -/
def RenP (K : PS → Prop) (o : Oper) (s : PS) : Prop :=
 ∃ (x : Operand) (d e : Nat) (k : Key) (sz len : Nat) (rs : Rows),
   o.op = .assign x ∧ o.dst = some d ∧ ev s.r x = .ref k sz 0 len ∧ s.h k = some (.rows sz rs) ∧
   K { r := putR s.r (some d) (.ref (e, s.cnt e) sz 0 len), h := fun k' => if k' = (e, s.cnt e) then some (.rows sz rs) else if k' = k then none else s.h k', cnt := fun t => if t = e then s.cnt t + 1 else s.cnt t }

theorem RenP.mono {K K' : PS → Prop} (h : ∀ s, K s → K' s) {o : Oper} {s : PS} : RenP K o s → RenP K' o s := fun ⟨x, d, e, k, sz, len, rs, h1, h2, h3, h4, h5⟩ =>
 ⟨x, d, e, k, sz, len, rs, h1, h2, h3, h4, h _ h5⟩

/-- An empty slice is compared with nil: it may be nil or not. -/
def NilP (P : Program) (K : PS → Prop) (o : Oper) (s : PS) : Prop :=
 ∃ (x y : Operand) (t t' : TypeId) (d : Nat) (tt : Bool) (sz : Nat),
   o.op = .binOp .eql t x y t' ∧ o.dst = some d ∧ isNilC y = true ∧ isSliceTy P t = true ∧ ev s.r x = .lit tt sz [] ∧ ∀ b : Bool, K { r := putR s.r (some d) (.bool b), h := s.h, cnt := s.cnt }
theorem NilP.mono {P : Program} {K K' : PS → Prop} (h : ∀ s, K s → K' s) {o : Oper} {s : PS} : NilP P K o s → NilP P K' o s := fun ⟨x, y, t, t', d, tt, sz, h1, h2, h3, h4, h5, h6⟩ =>
 ⟨x, y, t, t', d, tt, sz, h1, h2, h3, h4, h5, fun b => h _ (h6 b)⟩

/-- Operations without guards, in the order of the text. -/
def pOps (P : Program) (K : PS → Prop) : List Oper → PS → Prop
 | [], s => K s
 | o :: rest, s =>
   match callOf s.r o.op with
   | none => ((eff P (ev s.r) s.h (siteOf o, s.cnt (siteOf o)) o.op).ob ∧ pOps P K rest (stepS s o (eff P (ev s.r) s.h (siteOf o, s.cnt (siteOf o)) o.op))) ∨ (NextP (pOps P K rest) o s ∨ (RenP (pOps P K rest) o s ∨ NilP P (pOps P K rest) o s))
   | some (f, args) => HCallsR P f args s.h s.cnt fun v h' cnt' => pOps P K rest { r := putR s.r o.dst v, h := h', cnt := cnt' }

/-- A state within a region: which slots hold what they are said to hold. -/
structure GS where
 s : PS
 G : Nat → Bool

def isB : PV → Bool
 | .sc (.bool _) => true
 | _ => false

def isT : PV → Bool
 | .sc (.bool b) => b
 | _ => false

def gval (ops : Array Oper) (σ : GS) (g : Option (Nat × Bool)) : Bool :=
 match g with
 | none => true
 | some (j, want) => match (ops[j]?).bind (·.dst) with
   | some d => σ.G d && (isT (σ.s.r d) == want)
   | none => false

def gob (ops : Array Oper) (σ : GS) (g : Option (Nat × Bool)) : Prop :=
 match g with
 | none => True
 | some (j, _) => match (ops[j]?).bind (·.dst) with
   | some d => σ.G d = true → isB (σ.s.r d) = true
   | none => True

def okOpnd (G : Nat → Bool) : Operand → Prop
 | .tmp t => G t = true
 | _ => True

def valid (σ : GS) (o : Op) : Prop :=
 match o with
 | .pick c a b => okOpnd σ.G c ∧ (isT (ev σ.s.r c) = true → okOpnd σ.G a) ∧ (isT (ev σ.s.r c) = false → okOpnd σ.G b)
 | o => ∀ x ∈ o.operands.toList, okOpnd σ.G x

/-- A call of a function on pure values, at arguments of a state. -/
def CallD (P : Program) (f : FuncId) (args : List PV) (h : Heap) (v : PV) : Prop := ∃ as', Inns h args as' ∧ PCalls P f as' v

def keyOf : PV → List Key
 | .ref k _ _ _ => [k]
 | .ptr k _ _ _ => [k]
 | .map k => [k]
 | .iter k => [k]
 | _ => []

def keysOf : PV → List Key
 | .func _ a c => a.flatMap keyOf ++ c.flatMap keyOf
 | .agg cs => cs.flatMap keyOf
 | p => keyOf p

def setG (G : Nat → Bool) (dst : Option Nat) (c : Bool) : Nat → Bool :=
 match dst with
 | some d => fun i => if i = d then c else G i
 | none => G

structure Foot where
 i : Nat
 rd : List Key
 wr : List Key

def stepG (σ : GS) (o : Oper) (c : Bool) (e : Eff) : GS := { s := stepS σ.s o e, G := setG σ.G o.dst c }

/-- Is operation i, directly or by others, to wait for operation p? -/
def waitsFor (ops : Array Oper) : Nat → Nat → Nat → Bool
 | 0, _, _ => false
 | n + 1, i, p => ((ops[i]?).map fun o => o.after.any fun e => Region.binds .any e && (e.on == p || waitsFor ops n e.on p)).getD false

def disjointK (a b : List Key) : Prop := ∀ k ∈ a, k ∉ b

/-- A look into a map, and an entry that is made (with the zero value) where there is none: the look finds the same ahead and behind. -/
def softOp (a b : Op) : Bool := match a, b with
 | .lookup t _ _ false, .mapEntry t' _ _ => Nat.beq t t'
 | _, _ => false
def softAt (ops : Array Oper) (i j : Nat) : Bool := match ops[i]?, ops[j]? with
 | some a, some b => softOp a.op b.op
 | _, _ => false

/-- Two operations of a run that need not wait for one another leave each other alone. -/
def Indep (ops : Array Oper) (x y : Foot) : Prop :=
 waitsFor ops ops.size y.i x.i = true ∨ (((do let a ← ops[x.i]?; let b ← ops[y.i]?; pure (a.apart ops b && (siteOf a != siteOf b || (a.dst.isNone && b.dst.isNone)))) : Option Bool).getD false = true ∧ disjointK x.wr y.rd ∧ (softAt ops x.i y.i = true ∨ disjointK y.wr x.rd) ∧ disjointK x.wr y.wr)

def IndepAll (ops : Array Oper) : List Foot → Prop
 | [] => True
 | x :: l => (∀ y ∈ l, Indep ops x y) ∧ IndepAll ops l

/-- Operation i waits for all earlier ones, and all later ones wait for it. -/
def barrierB (ops : Array Oper) (i : Nat) : Bool :=
 ((List.range i).all fun p => waitsFor ops ops.size i p) && ((List.range ops.size).all fun k => Nat.ble k i || waitsFor ops ops.size k i)

/-- What an operation that may not be wanted does. -/
def effG (c : Bool) (e : Eff) : Eff := if c then e else .val True .dead

/-- The slots of guarded operations are forgotten behind the region. -/
def fin (ops : List Oper) (s : PS) : PS := { s with r := ops.foldl (fun r o => if o.guard.isSome then putR r o.dst .dead else r) s.r }

/-- The effect of a call that hands back a new slice. -/
def NewE (P : Program) (f : FuncId) (args : List PV) (h : Heap) (key : Key) (e : Eff) : Prop :=
 ∃ (sz : Nat) (rows : Rows) (as' : List PV), Inns h args as' ∧ PNew P f as' sz rows ∧ e = { ob := True, v := .ref key sz 0 rows.length, wr := [(key, some (.rows sz rows))], rd := args.flatMap keysOf, bump := true }

/-- Operations with guards, or whose order is drawn: in the order of the text. -/
def gOps (P : Program) (ops : Array Oper) (d : Bool) (K : PS → Prop) : List Oper → Nat → GS → List Foot → Prop
 | [], _, σ, tr => (d = true → IndepAll ops tr) ∧ K (fin ops.toList σ.s)
 | o :: rest, i, σ, tr =>
   gob ops σ o.guard ∧
   match callOf σ.s.r o.op with
   | none =>
     (gval ops σ o.guard = true → valid σ o.op ∧ (eff P (ev σ.s.r) σ.s.h (siteOf o, σ.s.cnt (siteOf o)) o.op).ob) ∧
     ((effG (gval ops σ o.guard) (eff P (ev σ.s.r) σ.s.h (siteOf o, σ.s.cnt (siteOf o)) o.op)).bump = true → o.dst.isSome = true) ∧
     gOps P ops d K rest (i + 1) (stepG σ o (gval ops σ o.guard) (effG (gval ops σ o.guard) (eff P (ev σ.s.r) σ.s.h (siteOf o, σ.s.cnt (siteOf o)) o.op)))
       (tr ++ [⟨i, (effG (gval ops σ o.guard) (eff P (ev σ.s.r) σ.s.h (siteOf o, σ.s.cnt (siteOf o)) o.op)).rd, (effG (gval ops σ o.guard) (eff P (ev σ.s.r) σ.s.h (siteOf o, σ.s.cnt (siteOf o)) o.op)).wr.map (·.1)⟩])
   | some (f, args) => (∃ v, (gval ops σ o.guard = true → valid σ o.op ∧ CallD P f args σ.s.h v) ∧
     gOps P ops d K rest (i + 1) (stepG σ o (gval ops σ o.guard) (.val True v)) (tr ++ [⟨i, args.flatMap keysOf, []⟩])) ∨
     (gval ops σ o.guard = true ∧ valid σ o.op ∧ (d = true → barrierB ops i = true ∧ IndepAll ops tr) ∧
       HCallsR P f args σ.s.h σ.s.cnt fun v h' cnt' => gOps P ops d K rest (i + 1) ⟨⟨putR σ.s.r o.dst v, h', cnt'⟩, setG σ.G o.dst true⟩ []) ∨
     (gval ops σ o.guard = true ∧ valid σ o.op ∧ o.dst.isSome = true ∧ ∃ e, NewE P f args σ.s.h (siteOf o, σ.s.cnt (siteOf o)) e ∧
       gOps P ops d K rest (i + 1) (stepG σ o (gval ops σ o.guard) e) (tr ++ [⟨i, e.rd, e.wr.map (·.1)⟩]))

/-- One operation of a region at P level: its condition, its effect, its footprint. -/
def GAt (P : Program) (ops : Array Oper) (i : Nat) (o : Oper) (c : Bool) (e : Eff) (σ : GS) (ft : Foot) : Prop :=
 ops[i]? = some o ∧ ft.i = i ∧ gob ops σ o.guard ∧ c = gval ops σ o.guard ∧
 ((callOf σ.s.r o.op = none ∧ (c = true → valid σ o.op ∧ e.ob) ∧ (e.bump = true → o.dst.isSome = true) ∧
     e = effG c (eff P (ev σ.s.r) σ.s.h (siteOf o, σ.s.cnt (siteOf o)) o.op) ∧ ft.rd = e.rd ∧ ft.wr = e.wr.map (·.1)) ∨
   (∃ f args v, callOf σ.s.r o.op = some (f, args) ∧ (c = true → valid σ o.op ∧ CallD P f args σ.s.h v) ∧ e = .val True v ∧ ft.rd = args.flatMap keysOf ∧ ft.wr = []) ∨
   ∃ f args, callOf σ.s.r o.op = some (f, args) ∧ c = true ∧ valid σ o.op ∧ o.dst.isSome = true ∧ NewE P f args σ.s.h (siteOf o, σ.s.cnt (siteOf o)) e ∧ ft.rd = e.rd ∧ ft.wr = e.wr.map (·.1))

/-- Operations that make nothing: what they give hangs on their operands and on the own memory. -/
def keyless : Op → Bool
 | .move _ | .assign _ | .pick _ _ _ | .load _ _ | .nilCheck _ | .binOp _ _ _ _ _ | .unOp _ _ _ | .makeFunc _ _ _ | .fieldAddr _ _ _ | .field _ _ _ | .indexAddr _ _ _ | .index _ _ _ | .build _ _ | .extract _ _ => true
 | _ => false

/-- One operation of a drawn region, where calls may change own memory: of such a call (hc) the own memory ahead and behind. -/
structure XIt where
 i : Nat
 o : Oper
 c : Bool
 e : Eff
 ft : Foot
 hc : Option (Heap × Heap × (Nat → Nat))
 ef : Heap → Eff

def XAt (P : Program) (ops : Array Oper) (x : XIt) (σ : GS) : Prop :=
 match x.hc with
 | none => GAt P ops x.i x.o x.c x.e σ x.ft ∧ (keyless x.o.op = true → x.c = true → ∀ h key, eff P (ev σ.s.r) h key x.o.op = x.ef h)
 | some (hb, ha, c0) => ops[x.i]? = some x.o ∧ gob ops σ x.o.guard ∧ gval ops σ x.o.guard = true ∧ valid σ x.o.op ∧ σ.s.h = hb ∧
     ∃ f args, callOf σ.s.r x.o.op = some (f, args) ∧ HCallsR P f args σ.s.h σ.s.cnt fun v h' c' => v = x.e.v ∧ h' = ha ∧ c' = c0

def stepX (σ : GS) (x : XIt) : GS :=
 match x.hc with
 | none => stepG σ x.o x.c x.e
 | some (_, ha, c0) => ⟨⟨putR σ.s.r x.o.dst x.e.v, ha, c0⟩, setG σ.G x.o.dst true⟩

/-- An operation that makes nothing and finds the same ahead and behind a call. -/
def Calm (x : XIt) (hb ha : Heap) : Prop := keyless x.o.op = true ∧ x.e.wr = [] ∧ x.e.bump = false ∧ (x.c = true → x.ef hb = x.ef ha)

def XFree (ops : Array Oper) (x y : XIt) : Prop := x.o.apart ops y.o = true ∧
 match x.hc, y.hc with
 | none, none => (siteOf x.o ≠ siteOf y.o ∨ (x.o.dst = none ∧ y.o.dst = none)) ∧ disjointK x.ft.wr y.ft.rd ∧ (softOp x.o.op y.o.op = true ∨ disjointK y.ft.wr x.ft.rd) ∧ disjointK x.ft.wr y.ft.wr
 | some (hb, ha, _), none => Calm y hb ha
 | none, some (hb, ha, _) => Calm x hb ha
 | some _, some _ => False

def XIndep (ops : Array Oper) (x y : XIt) : Prop := waitsFor ops ops.size y.i x.i = true ∨ XFree ops x y

inductive XRun (P : Program) (ops : Array Oper) : List XIt → GS → GS → Prop where
 | nil (σ : GS) : XRun P ops [] σ σ
 | cons {x : XIt} {l : List XIt} {σ σ' : GS} (h : XAt P ops x σ) (hr : XRun P ops l (stepX σ x) σ') : XRun P ops (x :: l) σ σ'

/-- A region whose order is drawn, with calls that change own memory. -/
def xRegion (P : Program) (ops : Array Oper) (K : PS → Prop) (s : PS) : Prop :=
 ∃ (L : List XIt) (σ' : GS), XRun P ops L ⟨s, fun _ => true⟩ σ' ∧ L.map (·.i) = List.range ops.size ∧ L.Pairwise (XIndep ops) ∧ K (fin ops.toList σ'.s)

def noGuards (ops : Array Oper) : Bool := ops.toList.all fun o => o.guard.isNone

/-- Own memory has been made: its generations are below the counters. -/
def Known (s : PS) : Prop := ∀ k o, s.h k = some o → k.2 < s.cnt k.1
def pRegion (P : Program) (ops : Array Oper) (draw : Bool) (K : PS → Prop) (s : PS) : Prop :=
 Known s → if noGuards ops && !draw then pOps P K ops.toList s else (gOps P ops draw K ops.toList 0 ⟨s, fun _ => true⟩ [] ∨ (draw = true ∧ xRegion P ops K s))

def inScope (n : Nat) : Operand → Bool
 | .tmp t => decide (t < n)
 | _ => true

def inFrameOp (n : Nat) (o : Oper) : Bool := o.op.operands.all (inScope n) && (match o.dst with | some d => decide (d < n) | none => true)

/-- Every operation waits for earlier ones alone. -/
def depsBelow (ops : Array Oper) : Bool := ops.toList.zipIdx.all fun p => p.1.after.all fun e => !Region.binds .any e || decide (e.on < p.2)

def inFrame (n : Nat) : Code → Bool
 | .region _ ops draw => ops.all (inFrameOp n) && (!draw || depsBelow ops)
 | .seq a b => inFrame n a && inFrame n b
 | .cond c x y => inScope n c && inFrame n x && inFrame n y
 | .block _ c => inFrame n c
 | .loop c => inFrame n c
 | .rangeFunc g ps x y => inScope n g && ps.all (fun t => decide (t < n)) && inFrame n x && inFrame n y
 | _ => true

/-- What ranges over functions leave on a frame: empty blocks of deferred calls, made since block r0. -/
def Marks (r0 : Nat) (E : Env) : List Deferred → Prop
 | [] => True
 | d :: ds => (∃ r, d.target = .collected r ∧ r0 ≤ r ∧ E.w.heap[r]? = some (.deferred (some [])) ∧ ¬ E.own r ∧ ∀ d' ∈ ds, d'.target ≠ .collected r) ∧ Marks r0 E ds
theorem Marks.nil {r0 : Nat} {E : Env} : Marks r0 E [] := trivial
theorem Marks.le {r0 : Nat} {E E' : Env} (h : EnvLe E E') : ∀ {ds : List Deferred}, Marks r0 E ds → Marks r0 E' ds
 | [], _ => trivial
 | d :: ds, ⟨⟨r, h1, h2, h3, h4, h5⟩, h6⟩ => by
   have hlt : r < E.w.heap.size := (Array.getElem?_eq_some_iff.1 h3).1
   refine ⟨⟨r, h1, h2, (h.blk r hlt h4).trans h3, fun ho => ?_, h5⟩, h6.le h⟩
   rcases h.own r ho with h7 | h7
   · exact h4 h7
   · omega
/-- The state and the frame go together. -/
structure Sim (r0 : Nat) (E : Env) (n : Nat) (s : PS) (a : Act) : Prop where
 good : Good E
 h : E.h = s.h
 cnt : E.cnt = s.cnt
 tt : E.tt = true
 size : a.tmps.size = n
 regs : ∀ (i : Nat) (v : Value), a.tmps[i]? = some v → Rep E v (s.r i)
 defers : Marks r0 E a.defers

/-- Where a frame stands, seen from its beginning. -/
def St (E0 : Env) (n : Nat) (s : PS) (a : Act) (w : World) : Prop := ∃ E, E.w = w ∧ Sim E0.w.heap.size E n s a ∧ EnvLe E0 E ∧ Below E0.B0 E0.w w ∧ (∀ k o, E0.h k = some o → E0.known k)

/-- A range over a function: whatever it leaves. -/
def RangeP (P : Program) (g : Operand) (ps : Array Tmp) (assign body : Code) (Q : Exit → PS → Prop) (s : PS) : Prop :=
 ∀ (E0 : Env) (n : Nat) (a : Act) (w : World), inFrame n (.rangeFunc g ps assign body) = true → St E0 n s a w → (Code.rangeFunc g ps assign body).wp P (fun e a' w' => ∃ s', Q e s' ∧ St E0 n s' a' w') a w
theorem RangeP.mono {P : Program} {g : Operand} {ps : Array Tmp} {assign body : Code} {Q Q' : Exit → PS → Prop} {s : PS} (h : ∀ e s, Q e s → Q' e s) (hp : RangeP P g ps assign body Q s) : RangeP P g ps assign body Q' s :=
 fun E0 n a w h1 h2 => wp_mono (hp E0 n a w h1 h2) fun _ _ _ ⟨s', h3, h4⟩ => ⟨s', h _ _ h3, h4⟩

/-- Code at P level: what must hold ahead, so that Q holds behind. -/
def pwp (P : Program) : Code → (Exit → PS → Prop) → PS → Prop
 | .skip, Q, s => Q .normal s
 | .region _ ops draw, Q, s => pRegion P ops draw (Q .normal) s
 | .seq a b, Q, s => pwp P a (fun e s' => match e with | .normal => pwp P b Q s' | e => Q e s') s
 | .cond c x y, Q, s => ∃ b, ev s.r c = .sc (.bool b) ∧ (b = true → pwp P x Q s) ∧ (b = false → pwp P y Q s)
 | .block id c, Q, s => pwp P c (fun e s' => match e with | .exit i => if i = id then Q .normal s' else Q (.exit i) s' | e => Q e s') s
 | .loop c, Q, s => ∃ (I : Nat → PS → Prop) (n : Nat), I n s ∧ ∀ n s, I n s → pwp P c (fun e s' => match e with | .normal => ∃ n', n' < n ∧ I n' s' | e => Q e s') s
 | .exit id, Q, s => Q (.exit id) s
 | .ret, Q, s => Q .ret s
 | .rangeFunc g ps x y, Q, s => RangeP P g ps x y Q s
 | _, _, _ => False

end Go.Pv
