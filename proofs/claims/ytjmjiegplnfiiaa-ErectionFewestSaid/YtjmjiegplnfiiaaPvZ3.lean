/- More operations at states that are written out: bytes, parts of slices, arrays, rows of numbers, closures; results in memory; drawn regions with stores. -/
import Derived.Test.YtjmjiegplnfiiaaPvZ2
namespace Go.Pv
open Go
section
variable {P : Program} {ρ : Operand → PV} {h : Heap} {key : Key} {x y z : Operand} {t t' : TypeId} {v : PV}

theorem e_mkf {fn : Fn} {first cap : Array Operand} {cs : List PV} (hc : cap.toList.map ρ = cs) : eff P ρ h key (.makeFunc fn first cap) = ⟨True, .func fn (first.toList.map ρ) cs, [], [], false⟩ := by
 subst hc; rfl
theorem e_index {s : ByteArray} {k : IntKind} {i : Int} (hx : ρ x = .str s) (hy : ρ y = .sc (.int k i)) (ht : isStringTy P t = true) (hi : 0 ≤ i ∧ i < s.size) :
   eff P ρ h key (.index t x y) = ⟨True, .sc (.int .u8 ((s.data.toList.getD i.toNat 0).toNat)), [], [], false⟩ := by
 simp only [eff, hx, hy, indexEff, ht]; simp [hi]

def byteAt (s : ByteArray) (n : Nat) : Int := ((s.data.toList.getD n 0).toNat : Int)
theorem e_indexN {s : ByteArray} {k : IntKind} {i : Int} {n : Nat} (hx : ρ x = .str s) (hy : ρ y = .sc (.int k i)) (hn : i = (n : Int)) (ht : isStringTy P t = true) (hi : n < s.size) :
   eff P ρ h key (.index t x y) = ⟨True, .sc (.int .u8 (byteAt s n)), [], [], false⟩ := by
 subst hn
 exact e_index hx hy ht (by omega)

/-! Rows of one number each -/
def ci (n : Int) : List PV := [.int n]
theorem ci_pure (n : Int) : ∀ p ∈ ci n, Pure p := fun p hp => by simp [ci] at hp; subst hp; exact .sc _

theorem e_mkI {l c : Operand} {L : Int} {n : Nat} (hx : ρ l = .int L) (hy : ρ c = .int L) (hn : L = (n : Int)) (hz : zeroCellsOf P (elemTy P t) = some [.int 0]) (ho : sliceOk P t = true) (hs : tySize P (elemTy P t) = 1) (hb : P.bytesOf (elemTy P t) < 2 ^ 15) (hl : n < 2 ^ 32) :
   eff P ρ h key (.makeSlice t l c) = ⟨True, .ref key 1 0 n, [(key, some (.rows 1 ((List.replicate n (0 : Int)).map ci)))], [], true⟩ := by
 subst hn
 have h1 : (List.replicate n (0 : Int)).map ci = List.replicate n [PV.int 0] := by simp [ci]
 simp only [eff, hx, hy, makeSliceEff, hz, ho, hs, hb, h1]
 simp [PV.cell]; omega

theorem e_loadI {k : Key} {zs : List Int} {i : Nat} {a : Int} (hx : ρ x = .ptr k 1 i 0) (hk : h k = some (.rows 1 (zs.map ci))) (hg : tyAgg P t = false) (hs : tySize P t = 1) (ht : tyOk P t = true) (ha : zs[i]? = some a) :
   eff P ρ h key (.load t x) = ⟨True, .int a, [], [k], false⟩ := by
 have hi : i < zs.length := (List.getElem?_eq_some_iff.1 ha).1
 exact e_loadH hx hk hg hs ht (by simpa using hi) (by omega) ((cell_map ha _).trans rfl)
theorem e_storeI {k : Key} {zs : List Int} {i : Nat} {a : Int} (hx : ρ x = .ptr k 1 i 0) (hk : h k = some (.rows 1 (zs.map ci))) (hy : ρ y = .int a) (hi : i < zs.length) (hs : tySize P t = 1) (ht : tyOk P t = true) :
   eff P ρ h key (.store t x y) = ⟨True, .dead, [(k, some (.rows 1 ((zs.set i a).map ci)))], [k], false⟩ := by
 have h1 : setRow (zs.map ci) i 0 [.int a] = (zs.set i a).map ci := by
   unfold setRow setAt
   rw [List.map_set]
   congr 1
   simp [List.getD_eq_getElem?_getD, hi, ci]
 simp only [eff, storeEff, hx, hk, hy, pcells, hs, ht, h1]
 simp [hi, PV.cell]
end

section
variable {h : Heap}
theorem inn_ptr {k : Key} {sz i j : Nat} {rs : Rows} (hk : h k = some (.rows sz rs)) (hp : ∀ row ∈ rs, ∀ p ∈ row, Pure p) : Inn0 h (.ptr k sz i j) (.lptr true sz rs i j) := .ptr hk hp
theorem inn_clos1 {f : Fn} {c c' : PV} (hc : Inn0 h c c') : Inn h (.func f [] [c]) (.func f [] [c']) :=
 .func rfl rfl (fun i p q hp _ => by simp at hp) fun i p q hp hq => by
   rcases i with _ | i
   · simp at hp hq; subst hp; subst hq; exact hc
   · simp at hp
theorem inn_ref {k : Key} {sz n : Nat} {rs rows : Rows} (hk : h k = some (.rows sz rs)) (hl : rs.length = n) (he : rs = rows) (hp : ∀ row ∈ rs, ∀ p ∈ row, Pure p) : Inn h (.ref k sz 0 n) (.lit true sz rows) := by
 subst he; subst hl
 exact .base (.ref hk (by omega) (by simp) hp)
theorem pure_one {v : PV} (hv : Pure v) : ∀ row ∈ [[v]], ∀ p ∈ row, Pure p := fun row hr p hp => by
 simp at hr; subst hr; simp at hp; subst hp; exact hv
theorem inn_lptr {tt : Bool} {sz i j : Nat} {rows : Rows} : Inn h (.lptr tt sz rows i j) (.lptr true sz rows i j) := .base (.lptr fun _ => rfl)

theorem out_slice {α : Type} {f : α → List PV} {xs : List α} {d sz : Nat} {v : PV} {rows : Rows} (hs : SliceAt h d v sz rows) (he : rows = xs.map f) (hl : ∀ a, (f a).length = sz) (hp : ∀ a, ∀ p ∈ f a, Clean p ∧ p.cell = true) : Out h v (.lit false sz (xs.map f)) := by
 subst he
 rcases hs with ⟨h1, rfl⟩ | ⟨g, rfl, hg⟩
 · rw [h1]; exact .nil sz
 · refine .ref hg (by omega) rfl (fun row hr => ?_) (fun i j row row' p p' h1 h2 h3 h4 => ?_) (fun row hr p hp' => ?_)
   · obtain ⟨a, _, rfl⟩ := List.mem_map.1 hr; exact hl a
   · rw [Nat.zero_add] at h1
     rw [h1] at h2; cases h2
     rw [h3] at h4; cases h4
     obtain ⟨a, _, rfl⟩ := List.mem_map.1 (List.mem_of_getElem? h1)
     exact .clean (hp a p (List.mem_of_getElem? h3)).1
   · obtain ⟨a, _, rfl⟩ := List.mem_map.1 hr; exact (hp a p hp').2
end

section
variable {P : Program} {R : PV → Heap → (Nat → Nat) → Prop} {r : Nat → PV} {h : Heap} {cnt : Nat → Nat}
end

/-! ### Drawn regions with stores: the places of the text that are read and written -/
section
variable {P : Program} {K : PS → Prop} {d : Nat} {op : Op} {ty : TypeId} {pos : String} {aft : Array Edge} {gd : Option (Nat × Bool)} {rest : List Oper} {r : Nat → PV} {h : Heap} {cnt : Nat → Nat} {ops : Array Oper} {i : Nat} {G : Nat → Bool} {dd : Bool}

structure Ft where
 i : Nat
 rd : List Nat
 wr : List Nat
def Fits (tr : List Foot) (ts : List Ft) : Prop := tr.length = ts.length ∧ ∀ (j : Nat) (x : Foot) (t : Ft), tr[j]? = some x → ts[j]? = some t → x.i = t.i ∧ (∀ k ∈ x.rd, k.1 ∈ t.rd) ∧ (∀ k ∈ x.wr, k.1 ∈ t.wr)
theorem Fits.snoc {tr : List Foot} {ts : List Ft} {x : Foot} {t : Ft} (hf : Fits tr ts) (h1 : x.i = t.i) (h2 : ∀ k ∈ x.rd, k.1 ∈ t.rd) (h3 : ∀ k ∈ x.wr, k.1 ∈ t.wr) : Fits (tr ++ [x]) (ts ++ [t]) := by
 refine ⟨by simp [hf.1], fun j y u hy hu => ?_⟩
 rw [List.getElem?_append] at hy hu
 by_cases hj : j < tr.length
 · rw [if_pos hj] at hy
   rw [if_pos (by rw [← hf.1]; exact hj)] at hu
   exact hf.2 j y u hy hu
 · rw [if_neg hj] at hy
   rw [if_neg (by rw [← hf.1]; exact hj)] at hu
   rw [hf.1] at hy
   cases hq : j - ts.length with
   | zero => rw [hq] at hy hu; simp at hy hu; subst hy; subst hu; exact ⟨h1, h2, h3⟩
   | succ m => rw [hq] at hy; simp at hy

def djB (a b : List Nat) : Bool := a.all fun x => b.all fun y => !Nat.beq x y
theorem djB_ok {a b : List Nat} {u w : List Key} (hd : djB a b = true) (hu : ∀ k ∈ u, k.1 ∈ a) (hw : ∀ k ∈ w, k.1 ∈ b) : disjointK u w := fun k h1 h2 => by
 have := List.all_eq_true.1 (List.all_eq_true.1 hd _ (hu k h1)) _ (hw k h2)
 simp at this
def indB (ops : Array Oper) (x y : Ft) : Bool := waitsFor ops ops.size y.i x.i || ((((do let a ← ops[x.i]?; let b ← ops[y.i]?; pure (a.apart ops b && (siteOf a != siteOf b || (a.dst.isNone && b.dst.isNone)))) : Option Bool).getD false) && (djB x.wr y.rd && ((softAt ops x.i y.i || djB y.wr x.rd) && djB x.wr y.wr)))
def indAll (ops : Array Oper) : List Ft → Bool
 | [] => true
 | x :: l => l.all (indB ops x) && indAll ops l
theorem indAll_ok : ∀ {ts : List Ft} {tr : List Foot}, indAll ops ts = true → Fits tr ts → IndepAll ops tr
 | [], [], _, _ => trivial
 | [], _ :: _, _, hf => by have := hf.1; simp at this
 | _ :: _, [], _, hf => by have := hf.1; simp at this
 | t :: ts, x :: tr, hi, hf => by
   simp only [indAll, Bool.and_eq_true] at hi
   obtain ⟨e1, e2, e3⟩ := hf.2 0 x t rfl rfl
   have hf' : Fits tr ts := ⟨by have := hf.1; simpa using this, fun j y u h1 h2 => hf.2 (j + 1) y u h1 h2⟩
   refine ⟨fun y hy => ?_, indAll_ok hi.2 hf'⟩
   obtain ⟨j, hj⟩ := List.mem_iff_getElem?.1 hy
   have hlt : j < ts.length := by rw [← hf'.1]; exact (List.getElem?_eq_some_iff.1 hj).1
   obtain ⟨u, hu⟩ : ∃ u, ts[j]? = some u := ⟨_, List.getElem?_eq_getElem hlt⟩
   obtain ⟨f1, f2, f3⟩ := hf'.2 j y u hj hu
   have hb := List.all_eq_true.1 hi.1 u (List.mem_of_getElem? hu)
   simp only [indB, Bool.or_eq_true, Bool.and_eq_true] at hb
   rcases hb with hb | ⟨hb, b1, b2, b3⟩
   · left; rw [e1, f1]; exact hb
   · right; refine ⟨by rw [e1, f1]; exact hb, djB_ok b1 e3 f2, (b2.imp (by rw [e1, f1]; exact id) fun b2 => djB_ok b2 f3 e2), djB_ok b3 e3 f3⟩

def sRun (P : Program) (ops : Array Oper) (dd : Bool) (K : PS → Prop) (l : List Oper) (i : Nat) (s : PS) (G : Nat → Bool) (ts : List Ft) : Prop := ∀ tr, Fits tr ts → gOps P ops dd K l i ⟨s, G⟩ tr

theorem s_begin (hr : sRun P ops dd K ops.toList 0 ⟨r, h, cnt⟩ (fun _ => true) []) : gOps P ops dd K ops.toList 0 ⟨⟨r, h, cnt⟩, fun _ => true⟩ [] := hr [] ⟨rfl, fun j x t hx => by simp at hx⟩
theorem s_end {ds : List Nat} {ts : List Ft} (hs : (!dd || indAll ops ts) = true) (hd : guardedOf ops.toList = ds) (hk : K ⟨deadT r ds, h, cnt⟩) : sRun P ops dd K [] i ⟨r, h, cnt⟩ G ts := by
 intro tr ht
 refine ⟨fun hd => indAll_ok (by rw [hd] at hs; exact hs) ht, ?_⟩
 show K (fin ops.toList ⟨r, h, cnt⟩)
 unfold fin
 rw [fin_deadT, hd]
 exact hk
theorem s_step {ob : Prop} {v : PV} {rd : List Key} {ts : List Ft} (rs : List Nat) (hrd : ∀ k ∈ rd, k.1 ∈ rs) (hg : gobB ops r G gd = true) (hgv : gval ops ⟨⟨r, h, cnt⟩, G⟩ gd = true) (hc : callOf r op = none) (hv : validB r G op = true) (he : eff P (ev r) h (d, cnt d) op = ⟨ob, v, [], rd, false⟩) (hob : ob)
   (hk : sRun P ops dd K rest (i + 1) ⟨setT r d v, h, cnt⟩ (setB G d true) (ts ++ [⟨i, rs, []⟩])) : sRun P ops dd K (⟨some d, op, ty, pos, aft, gd⟩ :: rest) i ⟨r, h, cnt⟩ G ts := by
 intro tr ht
 unfold gOps
 refine ⟨gobB_ok hg, ?_⟩
 show match callOf r op with | none => _ | some (f, args) => _
 rw [hc]
 simp only [siteOf, Option.getD_some]
 rw [he, hgv]
 refine ⟨fun _ => ⟨validB_ok hv, hob⟩, (fun h => by cases h), ?_⟩
 have := hk (tr ++ [⟨i, rd, []⟩]) (ht.snoc rfl hrd (by simp))
 simp only [stepG, stepS, putR_setT, setG_setB, effG, if_true]
 exact this
theorem s_new {ob : Prop} {v : PV} {rd : List Key} {g : Nat} {o : Option PObj} {ts : List Ft} (rs : List Nat) (hrd : ∀ k ∈ rd, k.1 ∈ rs) (hg : gobB ops r G gd = true) (hgv : gval ops ⟨⟨r, h, cnt⟩, G⟩ gd = true) (hc : callOf r op = none) (hv : validB r G op = true) (he : eff P (ev r) h (d, cnt d) op = ⟨ob, v, [((d, g), o)], rd, true⟩) (hob : ob)
   (hk : sRun P ops dd K rest (i + 1) ⟨setT r d v, hset h (d, g) o, cset cnt d⟩ (setB G d true) (ts ++ [⟨i, rs, [d]⟩])) : sRun P ops dd K (⟨some d, op, ty, pos, aft, gd⟩ :: rest) i ⟨r, h, cnt⟩ G ts := by
 intro tr ht
 unfold gOps
 refine ⟨gobB_ok hg, ?_⟩
 show match callOf r op with | none => _ | some (f, args) => _
 rw [hc]
 simp only [siteOf, Option.getD_some]
 rw [he, hgv]
 refine ⟨fun _ => ⟨validB_ok hv, hob⟩, (fun _ => rfl), ?_⟩
 have := hk (tr ++ [⟨i, rd, [(d, g)]⟩]) (ht.snoc rfl hrd (by simp))
 simp only [stepG, stepS, putR_setT, setG_setB, effG, if_true]
 exact this
theorem s_store {ob : Prop} {v : PV} {rd : List Key} {e g : Nat} {o : Option PObj} {ts : List Ft} (rs : List Nat) (hrd : ∀ k ∈ rd, k.1 ∈ rs) (hc : callOf r op = none) (hv : validB r G op = true) (he : eff P (ev r) h (999983, cnt 999983) op = ⟨ob, v, [((e, g), o)], rd, false⟩) (hob : ob)
   (hk : sRun P ops dd K rest (i + 1) ⟨r, hset h (e, g) o, cnt⟩ G (ts ++ [⟨i, rs, [e]⟩])) : sRun P ops dd K (⟨none, op, ty, pos, aft, none⟩ :: rest) i ⟨r, h, cnt⟩ G ts := by
 intro tr ht
 unfold gOps
 refine ⟨trivial, ?_⟩
 show match callOf r op with | none => _ | some (f, args) => _
 rw [hc]
 simp only [siteOf, Option.getD_none]
 rw [he]
 refine ⟨fun _ => ⟨validB_ok hv, hob⟩, (fun h => by cases h), ?_⟩
 exact hk (tr ++ [⟨i, rd, [(e, g)]⟩]) (ht.snoc rfl hrd (by simp))
theorem s_call {f : FuncId} {args as' : List PV} {v : PV} {ts : List Ft} (rs : List Nat) (hrd : ∀ k ∈ args.flatMap keysOf, k.1 ∈ rs) (hg : gobB ops r G gd = true) (hgv : gval ops ⟨⟨r, h, cnt⟩, G⟩ gd = true) (hc : callOf r op = some (f, args)) (hv : validB r G op = true) (hi : Inns h args as') (hp : PCalls P f as' v)
   (hk : sRun P ops dd K rest (i + 1) ⟨setT r d v, h, cnt⟩ (setB G d true) (ts ++ [⟨i, rs, []⟩])) : sRun P ops dd K (⟨some d, op, ty, pos, aft, gd⟩ :: rest) i ⟨r, h, cnt⟩ G ts := by
 intro tr ht
 unfold gOps
 refine ⟨gobB_ok hg, ?_⟩
 show match callOf r op with | none => _ | some (f, args) => _
 rw [hc]
 refine .inl ⟨v, fun _ => ⟨validB_ok hv, as', hi, hp⟩, ?_⟩
 rw [hgv]
 have := hk (tr ++ [⟨i, args.flatMap keysOf, []⟩]) (ht.snoc rfl hrd (by simp))
 simp only [stepG, stepS, putR_setT, setG_setB]
 exact this
end
end Go.Pv
