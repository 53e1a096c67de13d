import Derived.Test.YtigdmkhdmbbfiaaPvGg
import Derived.Test.YtigdmkhdmbbfiaaPvGu
set_option linter.unusedSimpArgs false
set_option linter.unusedVariables false
/- Blocks that a called function has laid, as own memory: slices.Grow of nothing, sorted keys; closures over three places; texts in own rows; the end of own rows cleared. -/
namespace Go.Pv
open Go Go.RowKit
section
variable {P : Program} {K : PS → Prop} {d : Nat} {op : Op} {ty : TypeId} {pos : String} {aft : Array Edge} {gd : Option (Nat × Bool)} {rest : List Oper} {r : Nat → PV} {h : Heap} {cnt : Nat → Nat} {ops : Array Oper} {i : Nat} {G : Nat → Bool} {dd : Bool}
theorem s_nocall {f : FuncId} {args : List PV} {ts : List Ft} (rs : List Nat) (hrd : ∀ k ∈ args.flatMap keysOf, k.1 ∈ rs) (hg : gobB ops r G gd = true) (hgv : gval ops ⟨⟨r, h, cnt⟩, G⟩ gd = false) (hc : callOf r op = some (f, args))
   (hk : sRun P ops dd K rest (i + 1) ⟨setT r d .dead, h, cnt⟩ (setB G d false) (ts ++ [⟨i, rs, []⟩])) : sRun P ops dd K (⟨some d, op, ty, pos, aft, gd⟩ :: rest) i ⟨r, h, cnt⟩ G ts := by
 intro tr ht
 unfold gOps
 refine ⟨gobB_ok hg, ?_⟩
 show match callOf r op with | none => _ | some (f, args) => _
 rw [hc]
 refine .inl ⟨.dead, (fun h => by rw [hgv] at h; cases h), ?_⟩
 rw [hgv]
 have := hk (tr ++ [⟨i, args.flatMap keysOf, []⟩]) (ht.snoc rfl hrd (by simp))
 simp only [stepG, stepS, putR_setT, setG_setB]
 exact this
end
end Go.Pv
namespace Go.Pv
open Go Go.Proofs Go.RowKit Go.Maps Go.Sort

section
variable {P : Program}
end
end Go.Pv
namespace Go.Pv
open Go
section
variable {P : Program} {ρ : Operand → PV} {h : Heap} {key : Key} {x y : Operand} {t : TypeId}
end
end Go.Pv
namespace Go.Pv
open Go Go.RowKit
section
variable {P : Program} {K : PS → Prop} {d : Nat} {op : Op} {ty : TypeId} {pos : String} {aft : Array Edge} {gd : Option (Nat × Bool)} {rest : List Oper} {r : Nat → PV} {h : Heap} {cnt : Nat → Nat} {ops : Array Oper} {i : Nat} {G : Nat → Bool} {dd : Bool}
/-- A call that hands back a new slice, in a region whose order may be drawn. -/
theorem s_callN {f : FuncId} {args as' : List PV} {sz : Nat} {rows : Rows} {ts : List Ft} (rs : List Nat) (hrd : ∀ k ∈ args.flatMap keysOf, k.1 ∈ rs) (hg : gobB ops r G gd = true) (hgv : gval ops ⟨⟨r, h, cnt⟩, G⟩ gd = true) (hc : callOf r op = some (f, args)) (hv : validB r G op = true) (hi : Inns h args as') (hp : PNew P f as' sz rows)
   (hk : sRun P ops dd K rest (i + 1) ⟨setT r d (.ref (d, cnt d) sz 0 rows.length), hset h (d, cnt d) (some (.rows sz rows)), cset cnt d⟩ (setB G d true) (ts ++ [⟨i, rs, [d]⟩])) : sRun P ops dd K (⟨some d, op, ty, pos, aft, gd⟩ :: rest) i ⟨r, h, cnt⟩ G ts := by
 intro tr ht
 unfold gOps
 refine ⟨gobB_ok hg, ?_⟩
 show match callOf r op with | none => _ | some (f, args) => _
 rw [hc]
 refine .inr (.inr ⟨hgv, validB_ok hv, rfl, _, .inl ⟨sz, rows, as', hi, hp, rfl⟩, ?_⟩)
 have := hk (tr ++ [⟨i, args.flatMap keysOf, [(d, cnt d)]⟩]) (ht.snoc rfl hrd (by simp))
 simp only [stepG, stepS, putR_setT, setG_setB]
 rw [hgv]
 exact this
end

/-- What a function hands back that goes through its code, as new memory. -/
theorem PNew.of_calls {P : Program} {f : FuncId} {args : List PV} {sz d : Nat} {rows : Rows} (hsz : 1 ≤ sz) (hw : ∀ row ∈ rows, row.length = sz) (hpl : ∀ row ∈ rows, ∀ p ∈ row, ∃ x, p = .sc x ∧ isScalar x = true)
   (hc : HCallsR P f args (fun _ => none) (fun _ => 0) fun v h _ => ∃ g, v = .ref (d, g) sz 0 rows.length ∧ h (d, g) = some (.rows sz rows)) : PNew P f args sz rows := by
 refine ⟨hc.1, hsz, hw, fun w M vs hM hgw hvs hrep => ?_⟩
 refine (hc.2 (pureEnv w M true) vs (pureEnv_good hM hgw true) rfl rfl rfl hvs hrep).mono ?_
 rintro e w' ⟨u, v, E', rfl, ⟨g, rfl, hg⟩, rfl, gE, hle, hbl, hu⟩
 obtain ⟨c, T, h5, h6, h7, h8, h9, h10, h11⟩ := gE.obj _ _ hg
 have hown : w.heap.size ≤ E'.blk (d, g) := by
   rcases hle.own (E'.blk (d, g)) ⟨_, _, hg, rfl⟩ with ⟨k, o, h1, _⟩ | h1
   · exact absurd h1 (by simp [pureEnv])
   · exact h1
 refine ⟨u, E'.blk (d, g), (E'.cap (d, g)).1, (E'.cap (d, g)).2, c, T, rfl, hbl, hown, h5, h6, h7, fun i j row p h1 h2 => ?_, ?_⟩
 · obtain ⟨x, rfl, hx⟩ := hpl row (List.mem_of_getElem? h1) p (List.mem_of_getElem? h2)
   obtain ⟨v, h3, h4⟩ := h11 i j row _ h1 h2
   exact ⟨x, rfl, hx, by rw [h3, h4.sc_inv]⟩
 · generalize hn : rows.length = n at hu h7
   cases hu with
   | ref hk hlen hl =>
     obtain ⟨⟨hb, ha⟩, hcap, _⟩ := hl _ hg
     subst hb; subst ha
     refine .inl ⟨_, ?_, hlen, by simpa using hcap⟩
     rw [Nat.zero_mul, Nat.add_zero]
   | refE hk hl => exact .inr ⟨_, rfl, rfl⟩
end Go.Pv

/- Drawn regions whose places are told apart by more than the place in the text; calls that change memory in them; appends whose new key is known. -/
namespace Go.Pv
open Go Go.RowKit
section
variable {P : Program} {K : PS → Prop} {d : Nat} {op : Op} {ty : TypeId} {pos : String} {aft : Array Edge} {gd : Option (Nat × Bool)} {rest : List Oper} {r : Nat → PV} {h : Heap} {cnt : Nat → Nat} {ops : Array Oper} {i : Nat} {G : Nat → Bool} {dd : Bool} {vs : Key → Nat}

variable {x y : Operand} {t : TypeId}
end
end Go.Pv

/-! ### Who waits for whom, told by sets of numbers -/
namespace Go.Pv
open Go Go.RowKit
end Go.Pv

/- Appends that tell how the generations go on. No conditions. -/
namespace Go.Pv
open Go
section
variable {P : Program} {h : Heap} {key : Key} {x y z : Operand} {t t' : TypeId} {v : PV} {K : PS → Prop} {d : Nat} {ty : TypeId} {pos : String} {aft : Array Edge} {gd : Option (Nat × Bool)} {rest : List Oper} {r : Nat → PV} {cnt : Nat → Nat}
end
section
variable {P : Program} {K : PS → Prop} {d : Nat} {op : Op} {ty : TypeId} {pos : String} {aft : Array Edge} {rest : List Oper} {r : Nat → PV} {h : Heap} {cnt : Nat → Nat} {ops : Array Oper} {i : Nat} {G : Nat → Bool} {dd : Bool} {x y : Operand} {t : TypeId}
end
end Go.Pv

/- Own rows of truth values; entries of own maps that are made and stored in two steps. -/
namespace Go.Pv
open Go Go.RowKit
def cbo (b : Bool) : List PV := [.bool b]
theorem cbo_pure (b : Bool) : ∀ p ∈ cbo b, Pure p := fun p hp => by simp [cbo] at hp; subst hp; exact .sc _
section
variable {P : Program} {ρ : Operand → PV} {h : Heap} {key : Key} {x y : Operand} {t : TypeId}
theorem e_mkB {l c : Operand} {L : Int} {n : Nat} (hx : ρ l = .int L) (hy : ρ c = .int L) (hn : L = (n : Int)) (hz : zeroCellsOf P (elemTy P t) = some [.bool false]) (ho : sliceOk P t = true) (hs : tySize P (elemTy P t) = 1) (hb : P.bytesOf (elemTy P t) < 2 ^ 15) (hl : n < 2 ^ 32) :
   eff P ρ h key (.makeSlice t l c) = ⟨True, .ref key 1 0 n, [(key, some (.rows 1 ((List.replicate n false).map cbo)))], [], true⟩ := by
 subst hn
 have h1 : (List.replicate n false).map cbo = List.replicate n [PV.bool false] := by simp [cbo]
 simp only [eff, hx, hy, makeSliceEff, hz, ho, hs, hb, h1]
 simp [PV.cell]; omega
theorem e_storeB {k : Key} {zs : List Bool} {i : Nat} {a : Bool} (hx : ρ x = .ptr k 1 i 0) (hk : h k = some (.rows 1 (zs.map cbo))) (hy : ρ y = .bool a) (hi : i < zs.length) (hs : tySize P t = 1) (ht : tyOk P t = true) :
   eff P ρ h key (.store t x y) = ⟨True, .dead, [(k, some (.rows 1 ((zs.set i a).map cbo)))], [k], false⟩ := by
 have h1 : setRow (zs.map cbo) i 0 [.bool a] = (zs.set i a).map cbo := by
   unfold setRow setAt
   rw [List.map_set]
   congr 1
   simp [List.getD_eq_getElem?_getD, hi, cbo]
 simp only [eff, storeEff, hx, hk, hy, hs, ht, pcells]
 rw [h1]
 simp [hi, PV.cell]
end
/-! ### Entries that are made, and stored -/
section
variable {α β : Type} [DecidableEq α] {f : α → PV} {g : β → PV}
end
section
variable {α β : Type} [DecidableEq α] {f : α → PV} {g : β → PV}
variable {P : Program} {K : PS → Prop} {d : Nat} {ty : TypeId} {pos : String} {aft : Array Edge} {gd : Option (Nat × Bool)} {rest : List Oper} {r : Nat → PV} {h : Heap} {cnt : Nat → Nat} {ops : Array Oper} {i : Nat} {G : Nat → Bool} {dd : Bool} {x y w : Operand} {t : TypeId}
end
end Go.Pv

/- Drawn regions with one call that changes own memory, told in full: the others leave it alone or wait. -/
namespace Go.Pv
open Go Go.RowKit
section
variable {P : Program} {K : PS → Prop} {d : Nat} {op : Op} {ty : TypeId} {pos : String} {aft : Array Edge} {rest : List Oper} {r : Nat → PV} {h : Heap} {cnt : Nat → Nat} {ops : Array Oper} {i : Nat} {G : Nat → Bool}
end
end Go.Pv

/- Working at P level: own slices that hold own slices; appends whose result is told in full; slices that end ahead of their block's end. -/
namespace Go.Pv
open Go
section
variable {P : Program} {K : PS → Prop} {d : Nat} {ty t : TypeId} {pos : String} {aft : Array Edge} {gd : Option (Nat × Bool)} {rest : List Oper} {r : Nat → PV} {h : Heap} {cnt : Nat → Nat} {op : Op} {x y : Operand}

/-- One value a row. -/
def cv (v : PV) : List PV := [v]

/-- Own slices, each of its own block, made at one place of the text. -/
structure NP {α : Type} (h : Heap) (d : Nat) (sz : Nat) (f : α → List PV) (vs : List PV) (ls : List (List α)) : Prop where
 len : vs.length = ls.length
 at_ : ∀ (i : Nat) (v : PV) (l : List α), vs[i]? = some v → ls[i]? = some l → SliceAt h d v sz (l.map f)
 one : ∀ (i j : Nat) (v : PV), vs[i]? = some v → vs[j]? = some v → v ≠ .nil → i = j

variable {α : Type} {f : α → List PV} {sz : Nat} {vs : List PV} {ls : List (List α)}

/-- The key of a slice of own memory is below the counter. -/
def Fresh (h : Heap) (c : Nat → Nat) (d : Nat) : Prop := ∀ g o, h (d, g) = some o → g < c d
theorem Known.fresh {s : PS} (hk : Known s) (d : Nat) : Fresh s.h s.cnt d := fun g o h1 => hk (d, g) o h1

end
theorem InnX.heap {h h' : Heap} {ks : List Key} {p q : PV} (hi : InnX h ks p q) (hh : ∀ k ∈ ks, h' k = h k) : InnX h' ks p q := by
 cases hi with
 | base hi hk => exact .base (inn_heap hi fun k hk' => hh k (hk k hk')) hk
 | rows hk hm hlen hl hr =>
   refine .rows ((hh _ hm).trans hk) hm hlen hl fun i row row' h1 h2 => ⟨(hr i row row' h1 h2).1, fun j p q h3 h4 => ?_⟩
   obtain ⟨h5, h6, h7, h8⟩ := (hr i row row' h1 h2).2 j p q h3 h4
   exact ⟨inn0_heap h5 fun k hk' => hh k (h8 k hk'), h6, h7, h8⟩
theorem InnsX.heap {h h' : Heap} {ks : List Key} {a b : List PV} (hi : InnsX h ks a b) (hh : ∀ k ∈ ks, h' k = h k) : InnsX h' ks a b := by
 induction hi with
 | nil => exact .nil
 | cons h1 _ ih => exact .cons (h1.heap hh) ih
section
variable {P : Program} {K : PS → Prop} {d : Nat} {op : Op} {ty : TypeId} {pos : String} {aft : Array Edge} {gd : Option (Nat × Bool)} {rest : List Oper} {r : Nat → PV} {h : Heap} {cnt : Nat → Nat} {ops : Array Oper} {i : Nat} {G : Nat → Bool} {dd : Bool}
/-- A call that reads own slices in an own slice, in a region whose order may be drawn. -/
theorem s_callX {f : FuncId} {args as' : List PV} {v : PV} {ks : List Key} {ts : List Ft} (rs : List Nat) (hrd : ∀ k ∈ ks, k.1 ∈ rs) (hg : gobB ops r G gd = true) (hgv : gval ops ⟨⟨r, h, cnt⟩, G⟩ gd = true) (hc : callOf r op = some (f, args)) (hv : validB r G op = true) (hi : InnsX h ks args as') (hp : PCalls P f as' v)
   (hk : sRun P ops dd K rest (i + 1) ⟨setT r d v, h, cnt⟩ (setB G d true) (ts ++ [⟨i, rs, []⟩])) : sRun P ops dd K (⟨some d, op, ty, pos, aft, gd⟩ :: rest) i ⟨r, h, cnt⟩ G ts := by
 intro tr ht
 unfold gOps
 refine ⟨gobB_ok hg, ?_⟩
 show match callOf r op with | none => _ | some (f, args) => _
 rw [hc]
 refine .inr (.inr ⟨hgv, validB_ok hv, rfl, _, .inr ⟨v, ks, rfl, fun h' hh c' => HCallsR.of_pureX hp (hi.heap hh) ⟨rfl, rfl, rfl⟩⟩, ?_⟩)
 have := hk (tr ++ [⟨i, ks, []⟩]) (ht.snoc rfl hrd (by simp))
 simp only [stepG, stepS, putR_setT, setG_setB]
 rw [hgv]
 exact this
end
end Go.Pv

/- Working at P level: short names of frequent steps. -/
namespace Go.Pv
open Go
section
variable {P : Program} {K : PS → Prop} {d : Nat} {op : Op} {ty : TypeId} {pos : String} {aft : Array Edge} {gd : Option (Nat × Bool)} {rest : List Oper} {r : Nat → PV} {h : Heap} {cnt : Nat → Nat} {x y z : Operand} {v : PV} {a : Value}
theorem p_e {rd : List Key} (hc : callOf r op = none) (he : eff P (ev r) h (d, cnt d) op = ⟨True, v, [], rd, false⟩) (hk : pOps P K rest ⟨setT r d v, h, cnt⟩) : pOps P K (⟨some d, op, ty, pos, aft, gd⟩ :: rest) ⟨r, h, cnt⟩ := p_step hc he trivial hk
theorem p_mv (hx : ev r x = v) (hk : pOps P K rest ⟨setT r d v, h, cnt⟩) : pOps P K (⟨some d, .move x, ty, pos, aft, gd⟩ :: rest) ⟨r, h, cnt⟩ := p_step rfl (e_move hx) trivial hk
theorem p_as (hx : ev r x = v) (hk : pOps P K rest ⟨setT r d v, h, cnt⟩) : pOps P K (⟨some d, .assign x, ty, pos, aft, gd⟩ :: rest) ⟨r, h, cnt⟩ := p_step rfl (e_assign hx) trivial hk
theorem p_mS (hx : ev r x = .sc a) (hk : pOps P K rest ⟨setT r d (.sc a), h, cnt⟩) : pOps P K (⟨some d, .move x, ty, pos, aft, gd⟩ :: rest) ⟨r, h, cnt⟩ := p_mv hx hk
theorem p_aS (hx : ev r x = .sc a) (hk : pOps P K rest ⟨setT r d (.sc a), h, cnt⟩) : pOps P K (⟨some d, .assign x, ty, pos, aft, gd⟩ :: rest) ⟨r, h, cnt⟩ := p_as hx hk
variable {ops : Array Oper} {dr : Bool} {G : Nat → Bool} {i : Nat} {ts : List Ft}
/-- An operation that calls nothing, may be told, is wanted, and names what stands. -/
def wantB (ops : Array Oper) (r : Nat → PV) (h : Heap) (cnt : Nat → Nat) (G : Nat → Bool) (gd : Option (Nat × Bool)) (op : Op) : Bool := (callOf r op).isNone && (gobB ops r G gd && (gval ops ⟨⟨r, h, cnt⟩, G⟩ gd && validB r G op))
theorem wantB_1 (hb : wantB ops r h cnt G gd op = true) : callOf r op = none ∧ gobB ops r G gd = true ∧ gval ops ⟨⟨r, h, cnt⟩, G⟩ gd = true ∧ validB r G op = true := by
 simp only [wantB, Bool.and_eq_true, Option.isNone_iff_eq_none] at hb; exact hb
theorem g_e {rd : List Key} (hb : wantB ops r h cnt G gd op = true) (he : eff P (ev r) h (d, cnt d) op = ⟨True, v, [], rd, false⟩) (hk : gRun P ops dr K rest (i + 1) ⟨setT r d v, h, cnt⟩ (setB G d true)) : gRun P ops dr K (⟨some d, op, ty, pos, aft, gd⟩ :: rest) i ⟨r, h, cnt⟩ G :=
 g_step (wantB_1 hb).2.1 (wantB_1 hb).2.2.1 (wantB_1 hb).1 (wantB_1 hb).2.2.2 he trivial hk
theorem g_mS (hb : wantB ops r h cnt G gd (.move x) = true) (hx : ev r x = .sc a) (hk : gRun P ops dr K rest (i + 1) ⟨setT r d (.sc a), h, cnt⟩ (setB G d true)) : gRun P ops dr K (⟨some d, .move x, ty, pos, aft, gd⟩ :: rest) i ⟨r, h, cnt⟩ G := g_e hb (e_move hx) hk
theorem g_aS (hb : wantB ops r h cnt G gd (.assign x) = true) (hx : ev r x = .sc a) (hk : gRun P ops dr K rest (i + 1) ⟨setT r d (.sc a), h, cnt⟩ (setB G d true)) : gRun P ops dr K (⟨some d, .assign x, ty, pos, aft, gd⟩ :: rest) i ⟨r, h, cnt⟩ G := g_e hb (e_assign hx) hk
theorem g_pT (hb : wantB ops r h cnt G gd (.pick x y z) = true) (hx : ev r x = .bool true) (hy : ev r y = .sc a) (hk : gRun P ops dr K rest (i + 1) ⟨setT r d (.sc a), h, cnt⟩ (setB G d true)) : gRun P ops dr K (⟨some d, .pick x y z, ty, pos, aft, gd⟩ :: rest) i ⟨r, h, cnt⟩ G := g_e hb (e_pickT hx hy) hk
theorem g_pF (hb : wantB ops r h cnt G gd (.pick x y z) = true) (hx : ev r x = .bool false) (hy : ev r z = .sc a) (hk : gRun P ops dr K rest (i + 1) ⟨setT r d (.sc a), h, cnt⟩ (setB G d true)) : gRun P ops dr K (⟨some d, .pick x y z, ty, pos, aft, gd⟩ :: rest) i ⟨r, h, cnt⟩ G := g_e hb (e_pickF hx hy) hk
theorem s_e (hb : wantB ops r h cnt G gd op = true) (he : eff P (ev r) h (d, cnt d) op = ⟨True, v, [], [], false⟩) (hk : sRun P ops dr K rest (i + 1) ⟨setT r d v, h, cnt⟩ (setB G d true) (ts ++ [⟨i, [], []⟩])) : sRun P ops dr K (⟨some d, op, ty, pos, aft, gd⟩ :: rest) i ⟨r, h, cnt⟩ G ts :=
 s_step [] (by simp) (wantB_1 hb).2.1 (wantB_1 hb).2.2.1 (wantB_1 hb).1 (wantB_1 hb).2.2.2 he trivial hk
end
section
variable {P : Program} {ρ : Operand → PV} {h : Heap} {key : Key} {x y z : Operand} {t t' : TypeId} {v : PV}
abbrev pl2 : List (Nat × Nat × Bool) := [(0, 1, false), (1, 1, false)]
abbrev pl3 : List (Nat × Nat × Bool) := [(0, 1, false), (1, 1, false), (2, 1, false)]
theorem e_faQ {k : Key} {sz i j f : Nat} (pl : List (Nat × Nat × Bool)) (hx : ρ x = .ptr k sz i j) (ht : structOk P t = true := by kernel_rfl) (hp : places P t = pl := by kernel_rfl) (hf : f < pl.length := by decide) :
   eff P ρ h key (.fieldAddr t x f) = ⟨True, .ptr k sz i (j + (pl.getD f (0, 0, false)).1), [], [], false⟩ := e_faP hx ht hp hf rfl
theorem e_fb {tt : Bool} {sz : Nat} {rows : Rows} {i j f : Nat} (pl : List (Nat × Nat × Bool)) (hx : ρ x = .lptr tt sz rows i j) (ht : structOk P t = true := by kernel_rfl) (hp : places P t = pl := by kernel_rfl) (hf : f < pl.length := by decide) :
   eff P ρ h key (.fieldAddr t x f) = ⟨True, .lptr tt sz rows i (j + (pl.getD f (0, 0, false)).1), [], [], false⟩ := e_fa hx ht hp hf rfl
theorem e_ixL {tt : Bool} {sz : Nat} {rows : Rows} {k : IntKind} {i : Int} (hx : ρ x = .lit tt sz rows) (hy : ρ y = .sc (.int k i)) (hi : 0 ≤ i ∧ i < rows.length := by first | omega | (simp only [List.length_map]; omega)) (ht : sliceOk P t = true := by kernel_rfl) (hs : tySize P (elemTy P t) = sz := by kernel_rfl) :
   eff P ρ h key (.indexAddr t x y) = ⟨True, .lptr tt sz rows i.toNat 0, [], [], false⟩ := e_ixa hx hy ht hs hi
theorem e_lH {k : Key} {sz i j : Nat} {rs : Rows} (hx : ρ x = .ptr k sz i j) (hk : h k = some (.rows sz rs)) (hv : cellAt rs i j = v) (hg : tyAgg P t = false := by kernel_rfl) (hs : tySize P t = 1 := by kernel_rfl) (ht : tyOk P t = true := by kernel_rfl) (hi : i < rs.length := by exact Nat.zero_lt_one) (hj : j < sz := by decide) :
   eff P ρ h key (.load t x) = ⟨True, v, [], [k], false⟩ := e_loadH hx hk hg hs ht hi hj hv
theorem e_adL {a b : Int} (hx : ρ x = .int a) (hy : ρ y = .int b) (h1 : -9223372036854775808 ≤ a + b ∧ a + b ≤ 9223372036854775807 := by first | omega | (simp only [List.length_map] at *; omega)) : eff P ρ h key (.binOp .add t x y t') = ⟨True, .int (a + b), [], [], false⟩ := e_add hx hy h1
end
/-- How conditions are read. -/
theorem zz : (∀ (p : Prop) [Decidable p], (decide p = true) = p) ∧ (∀ (p : Prop) [Decidable p], decide p = false ↔ ¬ p) ∧ (∀ b : Bool, ((!b) = true) = (b = false)) ∧ (∀ b : Bool, ((!b) = false) = (b = true)) ∧ (∀ a b : Int, ¬ a < b ↔ b ≤ a) ∧ (∀ a b : Int, ¬ a ≤ b ↔ b < a) ∧
   (∀ (α : Type) (a b : α), (a ≠ b) = ¬ (a = b)) ∧ (∀ (p : Prop) [Decidable p], ¬ ¬ p ↔ p) ∧ (∀ (α β : Type) (l : List α) (f : α → β), (l.map f).length = l.length) ∧ (∀ a b : Bool, ((a || b) = true) = (a = true ∨ b = true)) ∧ (∀ a b : Bool, ((a && b) = true) = (a = true ∧ b = true)) ∧
   (∀ a b : Bool, (a || b) = false ↔ a = false ∧ b = false) ∧ (∀ a b : Bool, (a && b) = false ↔ a = false ∨ b = false) :=
 ⟨fun _ _ => decide_eq_true_eq, fun _ _ => decide_eq_false_iff_not, Bool.not_eq_true', Bool.not_eq_false', fun _ _ => Int.not_lt, fun _ _ => Int.not_le, fun _ _ _ => rfl, fun _ _ => Decidable.not_not, fun _ _ l f => List.length_map f, Bool.or_eq_true, Bool.and_eq_true, fun _ _ => Bool.or_eq_false_iff, fun _ _ => Bool.and_eq_false_iff⟩
end Go.Pv

/- A call that only reads own memory leaves no trace: its own objects are forgotten. -/
namespace Go.Pv
open Go
variable {P : Program}
section
variable {K : PS → Prop} {d : Nat} {op : Op} {ty : TypeId} {pos : String} {aft : Array Edge} {gd : Option (Nat × Bool)} {rest : List Oper} {r : Nat → PV} {h : Heap} {cnt : Nat → Nat} {ops : Array Oper} {i : Nat} {G : Nat → Bool} {dd dr : Bool}
end
end Go.Pv

/- Code without calls of functions and without draws of values comes to one end: what is told of all ends is told of one. -/
namespace Go.Pv
open Go Go.RowKit
section
variable {P : Program} {K : PS → Prop}
end
end Go.Pv
