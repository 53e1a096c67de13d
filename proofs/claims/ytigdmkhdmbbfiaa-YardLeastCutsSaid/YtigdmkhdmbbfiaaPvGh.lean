import Derived.Test.YtigdmkhdmbbfiaaPvGg
import Derived.Test.YtigdmkhdmbbfiaaPvGu
set_option linter.unusedSimpArgs false
set_option linter.unusedVariables false
/- Blocks that a called function has laid, as own memory: slices.Grow of nothing, sorted keys; closures over three places; texts in own rows; the end of own rows cleared. -/
namespace Go.Pv
open Go Go.RowKit
section
variable {P : Program} {K : PS → Prop} {d : Nat} {op : Op} {ty : TypeId} {pos : String} {aft : Array Edge} {gd : Option (Nat × Bool)} {rest : List Oper} {r : Nat → PV} {h : Heap} {cnt : Nat → Nat} {ops : Array Oper} {i : Nat} {G : Nat → Bool} {dd : Bool}
end
end Go.Pv
namespace Go.Pv
open Go Go.Proofs Go.RowKit Go.Maps Go.Sort

section
variable {P : Program}
end
end Go.Pv
namespace Go.Pv
open Go
section
variable {P : Program} {ρ : Operand → PV} {h : Heap} {key : Key} {x y : Operand} {t : TypeId}
/-- A part of an own slice from its beginning, and from a place on. -/
theorem e_cutR {k : Key} {sz len n : Nat} (hx : ρ x = .ref k sz 0 len) (hy : ρ y = .int (n : Int)) (hn : n ≤ len) (ht : sliceOk P t = true) (hz : tySize P (elemTy P t) = sz) :
   eff P ρ h key (.slice t x none (some y) none) = ⟨True, .ref k sz 0 n, [], [], false⟩ := by
 simp only [eff, Option.map_none, Option.map_some, hx, hy, sliceEff, bound, ht, hz]; simp; omega
theorem e_cutL {k : Key} {sz len n : Nat} (hx : ρ x = .ref k sz 0 len) (hy : ρ y = .int (n : Int)) (hn : n ≤ len) (ht : sliceOk P t = true) (hz : tySize P (elemTy P t) = sz) :
   eff P ρ h key (.slice t x (some y) none none) = ⟨True, .ref k sz n (len - n), [], [], false⟩ := by
 simp only [eff, Option.map_none, Option.map_some, hx, hy, sliceEff, bound, ht, hz]; simp; omega
end
end Go.Pv
namespace Go.Pv
open Go Go.RowKit
section
variable {P : Program} {K : PS → Prop} {d : Nat} {op : Op} {ty : TypeId} {pos : String} {aft : Array Edge} {gd : Option (Nat × Bool)} {rest : List Oper} {r : Nat → PV} {h : Heap} {cnt : Nat → Nat} {ops : Array Oper} {i : Nat} {G : Nat → Bool} {dd : Bool}
/-- A call that hands back a new slice, in a region whose order may be drawn. -/
theorem s_callN {f : FuncId} {args as' : List PV} {sz : Nat} {rows : Rows} {ts : List Ft} (rs : List Nat) (hrd : ∀ k ∈ args.flatMap keysOf, k.1 ∈ rs) (hg : gobB ops r G gd = true) (hgv : gval ops ⟨⟨r, h, cnt⟩, G⟩ gd = true) (hc : callOf r op = some (f, args)) (hv : validB r G op = true) (hi : Inns h args as') (hp : PNew P f as' sz rows)
   (hk : sRun P ops dd K rest (i + 1) ⟨setT r d (.ref (d, cnt d) sz 0 rows.length), hset h (d, cnt d) (some (.rows sz rows)), cset cnt d⟩ (setB G d true) (ts ++ [⟨i, rs, [d]⟩])) : sRun P ops dd K (⟨some d, op, ty, pos, aft, gd⟩ :: rest) i ⟨r, h, cnt⟩ G ts := by
 intro tr ht
 unfold gOps
 refine ⟨gobB_ok hg, ?_⟩
 show match callOf r op with | none => _ | some (f, args) => _
 rw [hc]
 refine .inr (.inr ⟨hgv, validB_ok hv, rfl, _, .inl ⟨sz, rows, as', hi, hp, rfl⟩, ?_⟩)
 have := hk (tr ++ [⟨i, args.flatMap keysOf, [(d, cnt d)]⟩]) (ht.snoc rfl hrd (by simp))
 simp only [stepG, stepS, putR_setT, setG_setB]
 rw [hgv]
 exact this
end

/-- What a function hands back that goes through its code, as new memory. -/
theorem PNew.of_calls {P : Program} {f : FuncId} {args : List PV} {sz d : Nat} {rows : Rows} (hsz : 1 ≤ sz) (hw : ∀ row ∈ rows, row.length = sz) (hpl : ∀ row ∈ rows, ∀ p ∈ row, ∃ x, p = .sc x ∧ isScalar x = true)
   (hc : HCallsR P f args (fun _ => none) (fun _ => 0) fun v h _ => ∃ g, v = .ref (d, g) sz 0 rows.length ∧ h (d, g) = some (.rows sz rows)) : PNew P f args sz rows := by
 refine ⟨hc.1, hsz, hw, fun w M vs hM hgw hvs hrep => ?_⟩
 refine (hc.2 (pureEnv w M true) vs (pureEnv_good hM hgw true) rfl rfl rfl hvs hrep).mono ?_
 rintro e w' ⟨u, v, E', rfl, ⟨g, rfl, hg⟩, rfl, gE, hle, hbl, hu⟩
 obtain ⟨c, T, h5, h6, h7, h8, h9, h10, h11⟩ := gE.obj _ _ hg
 have hown : w.heap.size ≤ E'.blk (d, g) := by
   rcases hle.own (E'.blk (d, g)) ⟨_, _, hg, rfl⟩ with ⟨k, o, h1, _⟩ | h1
   · exact absurd h1 (by simp [pureEnv])
   · exact h1
 refine ⟨u, E'.blk (d, g), (E'.cap (d, g)).1, (E'.cap (d, g)).2, c, T, rfl, hbl, hown, h5, h6, h7, fun i j row p h1 h2 => ?_, ?_⟩
 · obtain ⟨x, rfl, hx⟩ := hpl row (List.mem_of_getElem? h1) p (List.mem_of_getElem? h2)
   obtain ⟨v, h3, h4⟩ := h11 i j row _ h1 h2
   exact ⟨x, rfl, hx, by rw [h3, h4.sc_inv]⟩
 · generalize hn : rows.length = n at hu h7
   cases hu with
   | ref hk hlen hl =>
     obtain ⟨⟨hb, ha⟩, hcap, _⟩ := hl _ hg
     subst hb; subst ha
     refine .inl ⟨_, ?_, hlen, by simpa using hcap⟩
     rw [Nat.zero_mul, Nat.add_zero]
   | refE hk hl => exact .inr ⟨_, rfl, rfl⟩
end Go.Pv

/- Drawn regions whose places are told apart by more than the place in the text; calls that change memory in them; appends whose new key is known. -/
namespace Go.Pv
open Go Go.RowKit
section
variable {P : Program} {K : PS → Prop} {d : Nat} {op : Op} {ty : TypeId} {pos : String} {aft : Array Edge} {gd : Option (Nat × Bool)} {rest : List Oper} {r : Nat → PV} {h : Heap} {cnt : Nat → Nat} {ops : Array Oper} {i : Nat} {G : Nat → Bool} {dd : Bool} {vs : Key → Nat}

variable {x y : Operand} {t : TypeId}
end
end Go.Pv

/-! ### Who waits for whom, told by sets of numbers -/
namespace Go.Pv
open Go Go.RowKit
def staticR (ops : Array Oper) (R : List Nat) : Bool := okR ops R && (List.range ops.size).all fun j => (List.range j).all fun i =>
 (R.getD j 0).testBit i || (((do let a ← ops[i]?; let b ← ops[j]?; pure (a.apart ops b && (siteOf a != siteOf b || (a.dst.isNone && b.dst.isNone)))) : Option Bool).getD false)
theorem staticR_ok {ops : Array Oper} {R : List Nat} (h : staticR ops R = true) : staticB ops = true := by
 unfold staticR at h
 rw [Bool.and_eq_true] at h
 refine List.all_eq_true.2 fun j hj => List.all_eq_true.2 fun i hi => ?_
 have h1 := List.all_eq_true.1 (List.all_eq_true.1 h.2 j hj) i hi
 unfold pairB
 rw [Bool.or_eq_true] at h1 ⊢
 rcases h1 with h1 | h1
 · left; exact okR_waits h.1 ops.size j i (List.mem_range.1 hj) (List.mem_range.1 hj) h1
 · right; exact h1
theorem g_endR {P : Program} {K : PS → Prop} {r : Nat → PV} {h : Heap} {cnt : Nat → Nat} {ops : Array Oper} {i : Nat} {G : Nat → Bool} {dr : Bool} {ds : List Nat} (R : List Nat) (hs : staticR ops R = true) (hd : guardedOf ops.toList = ds) (hk : K ⟨deadT r ds, h, cnt⟩) : gRun P ops dr K [] i ⟨r, h, cnt⟩ G :=
 g_end (by rw [staticR_ok hs]; simp) hd hk
end Go.Pv

/- Appends that tell how the generations go on. No conditions. -/
namespace Go.Pv
open Go
section
variable {P : Program} {h : Heap} {key : Key} {x y z : Operand} {t t' : TypeId} {v : PV} {K : PS → Prop} {d : Nat} {ty : TypeId} {pos : String} {aft : Array Edge} {gd : Option (Nat × Bool)} {rest : List Oper} {r : Nat → PV} {cnt : Nat → Nat}
end
section
variable {P : Program} {K : PS → Prop} {d : Nat} {op : Op} {ty : TypeId} {pos : String} {aft : Array Edge} {rest : List Oper} {r : Nat → PV} {h : Heap} {cnt : Nat → Nat} {ops : Array Oper} {i : Nat} {G : Nat → Bool} {dd : Bool} {x y : Operand} {t : TypeId}
end
end Go.Pv

/- Own rows of truth values; entries of own maps that are made and stored in two steps. -/
namespace Go.Pv
open Go Go.RowKit
def cbo (b : Bool) : List PV := [.bool b]
section
variable {P : Program} {ρ : Operand → PV} {h : Heap} {key : Key} {x y : Operand} {t : TypeId}
theorem e_mkB {l c : Operand} {L : Int} {n : Nat} (hx : ρ l = .int L) (hy : ρ c = .int L) (hn : L = (n : Int)) (hz : zeroCellsOf P (elemTy P t) = some [.bool false]) (ho : sliceOk P t = true) (hs : tySize P (elemTy P t) = 1) (hb : P.bytesOf (elemTy P t) < 2 ^ 15) (hl : n < 2 ^ 32) :
   eff P ρ h key (.makeSlice t l c) = ⟨True, .ref key 1 0 n, [(key, some (.rows 1 ((List.replicate n false).map cbo)))], [], true⟩ := by
 subst hn
 have h1 : (List.replicate n false).map cbo = List.replicate n [PV.bool false] := by simp [cbo]
 simp only [eff, hx, hy, makeSliceEff, hz, ho, hs, hb, h1]
 simp [PV.cell]; omega
theorem e_storeB {k : Key} {zs : List Bool} {i : Nat} {a : Bool} (hx : ρ x = .ptr k 1 i 0) (hk : h k = some (.rows 1 (zs.map cbo))) (hy : ρ y = .bool a) (hi : i < zs.length) (hs : tySize P t = 1) (ht : tyOk P t = true) :
   eff P ρ h key (.store t x y) = ⟨True, .dead, [(k, some (.rows 1 ((zs.set i a).map cbo)))], [k], false⟩ := by
 have h1 : setRow (zs.map cbo) i 0 [.bool a] = (zs.set i a).map cbo := by
   unfold setRow setAt
   rw [List.map_set]
   congr 1
   simp [List.getD_eq_getElem?_getD, hi, cbo]
 simp only [eff, storeEff, hx, hk, hy, hs, ht, pcells]
 rw [h1]
 simp [hi, PV.cell]
end
/-! ### Entries that are made, and stored -/
section
variable {α β : Type} [DecidableEq α] {f : α → PV} {g : β → PV}
end
section
variable {α β : Type} [DecidableEq α] {f : α → PV} {g : β → PV}
variable {P : Program} {K : PS → Prop} {d : Nat} {ty : TypeId} {pos : String} {aft : Array Edge} {gd : Option (Nat × Bool)} {rest : List Oper} {r : Nat → PV} {h : Heap} {cnt : Nat → Nat} {ops : Array Oper} {i : Nat} {G : Nat → Bool} {dd : Bool} {x y w : Operand} {t : TypeId}
end
end Go.Pv

/- Drawn regions with one call that changes own memory, told in full: the others leave it alone or wait. -/
namespace Go.Pv
open Go Go.RowKit
section
variable {P : Program} {K : PS → Prop} {d : Nat} {op : Op} {ty : TypeId} {pos : String} {aft : Array Edge} {rest : List Oper} {r : Nat → PV} {h : Heap} {cnt : Nat → Nat} {ops : Array Oper} {i : Nat} {G : Nat → Bool}
/-- What is left of a region, behind the items tr. -/
def xS (P : Program) (ops : Array Oper) (K : PS → Prop) (rest : List Oper) (i : Nat) (σ : GS) (tr : List XIt) : Prop :=
 ∃ (L : List XIt) (σ' : GS), XRun P ops L σ σ' ∧ L.map (·.i) = List.range' i rest.length ∧ (tr ++ L).Pairwise (XIndep ops) ∧ K (fin ops.toList σ'.s)
theorem keyless_key {ρ : Operand → PV} {h : Heap} {k k' : Key} {op : Op} (hk : keyless op = true) : eff P ρ h k op = eff P ρ h k' op := by
 cases op <;> first | rfl | (simp [keyless] at hk)
theorem x_end {tr : List XIt} (hp : tr.Pairwise (XIndep ops)) (hd : guardedOf ops.toList = []) (hk : K ⟨r, h, cnt⟩) : xS P ops K [] i ⟨⟨r, h, cnt⟩, G⟩ tr := by
 refine ⟨[], _, .nil _, rfl, by simpa using hp, ?_⟩
 unfold fin
 rw [fin_deadT, hd]
 have : deadT r [] = r := by funext j; simp [deadT]
 rw [this]; exact hk
theorem XAt.next {x : XIt} {σ : GS} {tr : List XIt} (hx : XAt P ops x σ) (hi : x.i = i) {o : Oper} (hk : xS P ops K rest (i + 1) (stepX σ x) (tr ++ [x])) : xS P ops K (o :: rest) i σ tr := by
 obtain ⟨L, σ', h1, h2, h3, h4⟩ := hk
 refine ⟨x :: L, σ', .cons hx h1, ?_, by simpa using h3, h4⟩
 rw [List.map_cons, h2, hi, List.length_cons, List.range'_succ]
theorem x_step {ob : Prop} {v : PV} {rd : List Key} {tr : List XIt} (ho : ops[i]? = some ⟨some d, op, ty, pos, aft, none⟩) (hc : callOf r op = none) (hv : validB r G op = true) (he : eff P (ev r) h (d, cnt d) op = ⟨ob, v, [], rd, false⟩) (hob : ob)
   (hk : xS P ops K rest (i + 1) ⟨⟨setT r d v, h, cnt⟩, setB G d true⟩ (tr ++ [⟨i, ⟨some d, op, ty, pos, aft, none⟩, true, ⟨ob, v, [], rd, false⟩, ⟨i, rd, []⟩, none, fun h' => eff P (ev r) h' (0, 0) op⟩])) :
   xS P ops K (⟨some d, op, ty, pos, aft, none⟩ :: rest) i ⟨⟨r, h, cnt⟩, G⟩ tr := by
 refine XAt.next (x := ⟨i, ⟨some d, op, ty, pos, aft, none⟩, true, ⟨ob, v, [], rd, false⟩, ⟨i, rd, []⟩, none, fun h' => eff P (ev r) h' (0, 0) op⟩) ⟨⟨ho, rfl, trivial, rfl, .inl ⟨hc, fun _ => ⟨validB_ok hv, hob⟩, (fun h => by cases h), ?_, rfl, rfl⟩⟩, fun hkl _ h' key => keyless_key hkl⟩ rfl ?_
 · show _ = effG true _
   simp only [siteOf, Option.getD_some, effG, if_true]
   exact he.symm
 · show xS P ops K rest (i + 1) ⟨⟨putR r (some d) v, _, _⟩, setG G (some d) true⟩ _
   rw [putR_setT, setG_setB]; exact hk
theorem x_hcall {f : FuncId} {args : List PV} {v : PV} {ha : Heap} {ca : Nat → Nat} {tr : List XIt} (ho : ops[i]? = some ⟨some d, op, ty, pos, aft, none⟩) (hc : callOf r op = some (f, args)) (hv : validB r G op = true) (hp : HCallsR P f args h cnt fun v' h' c' => v' = v ∧ h' = ha ∧ c' = ca)
   (hk : xS P ops K rest (i + 1) ⟨⟨setT r d v, ha, ca⟩, setB G d true⟩ (tr ++ [⟨i, ⟨some d, op, ty, pos, aft, none⟩, true, .val True v, ⟨i, [], []⟩, some (h, ha, ca), fun _ => .val True v⟩])) :
   xS P ops K (⟨some d, op, ty, pos, aft, none⟩ :: rest) i ⟨⟨r, h, cnt⟩, G⟩ tr := by
 refine XAt.next (x := ⟨i, ⟨some d, op, ty, pos, aft, none⟩, true, .val True v, ⟨i, [], []⟩, some (h, ha, ca), fun _ => .val True v⟩) ⟨ho, trivial, rfl, validB_ok hv, rfl, f, args, hc, hp⟩ rfl ?_
 show xS P ops K rest (i + 1) ⟨⟨putR r (some d) v, ha, ca⟩, setG G (some d) true⟩ _
 rw [putR_setT, setG_setB]; exact hk
/-- Two items that write nothing. -/
theorem xfree_nn {x y : XIt} (hx : x.hc = none) (hy : y.hc = none) (ha : x.o.apart ops y.o = true) (hs0 : Nat.beq (siteOf x.o) (siteOf y.o) = false) (h1 : x.ft.wr = []) (h2 : y.ft.wr = []) : XFree ops x y := by
 refine ⟨ha, ?_⟩
 rw [hx, hy]
 exact ⟨.inl (Nat.ne_of_beq_eq_false hs0), by rw [h1]; exact fun k hk => by simp at hk, .inr (by rw [h2]; exact fun k hk => by simp at hk), by rw [h1]; exact fun k hk => by simp at hk⟩
theorem xfree_cn {x y : XIt} {hb ha : Heap} {c : Nat → Nat} (hx : x.hc = some (hb, ha, c)) (hy : y.hc = none) (hap : x.o.apart ops y.o = true) (hc : Calm y hb ha) : XFree ops x y := by
 refine ⟨hap, ?_⟩
 rw [hx, hy]
 exact hc
end
end Go.Pv

/- Working at P level: own slices that hold own slices; appends whose result is told in full; slices that end ahead of their block's end. -/
namespace Go.Pv
open Go
section
variable {P : Program} {K : PS → Prop} {d : Nat} {ty t : TypeId} {pos : String} {aft : Array Edge} {gd : Option (Nat × Bool)} {rest : List Oper} {r : Nat → PV} {h : Heap} {cnt : Nat → Nat} {op : Op} {x y : Operand}

/-- One value a row. -/
def cv (v : PV) : List PV := [v]

/-- Own slices, each of its own block, made at one place of the text. -/
structure NP {α : Type} (h : Heap) (d : Nat) (sz : Nat) (f : α → List PV) (vs : List PV) (ls : List (List α)) : Prop where
 len : vs.length = ls.length
 at_ : ∀ (i : Nat) (v : PV) (l : List α), vs[i]? = some v → ls[i]? = some l → SliceAt h d v sz (l.map f)
 one : ∀ (i j : Nat) (v : PV), vs[i]? = some v → vs[j]? = some v → v ≠ .nil → i = j

variable {α : Type} {f : α → List PV} {sz : Nat} {vs : List PV} {ls : List (List α)}

/-- The key of a slice of own memory is below the counter. -/
def Fresh (h : Heap) (c : Nat → Nat) (d : Nat) : Prop := ∀ g o, h (d, g) = some o → g < c d
theorem Known.fresh {s : PS} (hk : Known s) (d : Nat) : Fresh s.h s.cnt d := fun g o h1 => hk (d, g) o h1

/-- An append whose result is told in full. -/
theorem p_appK {ts : Array TypeId} {t2 : TypeId} {u u2 : PV} {sz d1 : Nat} {rows rows2 : Rows} (hts : ts.toList = [t, t2]) (hx : ev r x = u) (hy : ev r y = u2) (hs : SliceAt h d1 u sz rows) (hsr : (srcRows h sz u2).1 ∧ (srcRows h sz u2).2.1 = rows2)
   (hok : (sliceOk P t && (decide (P.bytesOf (elemTy P t) < 2 ^ 15) && (decide (intKind P t2 = none) && (zeroOk P (elemTy P t) && ((P.underlying t2).isSome && decide (tySize P (elemTy P t) = sz)))))) = true) (hlen : rows.length + rows2.length < 2 ^ 32) (hne : rows2 ≠ [])
   (hk : ∀ h', h' (d, cnt d) = some (.rows sz (rows ++ rows2)) → (∀ k' : Key, k' ≠ (d, cnt d) → (∀ g, u = .ref (d1, g) sz 0 rows.length → k' ≠ (d1, g)) → h' k' = h k') → pOps P K rest ⟨setT r d (.ref (d, cnt d) sz 0 (rows.length + rows2.length)), h', cset cnt d⟩) :
   pOps P K (⟨some d, .call { callee := .builtin .append, args := #[x, y], argTypes := ts }, ty, pos, aft, gd⟩ :: rest) ⟨r, h, cnt⟩ := by
 simp only [Bool.and_eq_true, decide_eq_true_eq] at hok
 obtain ⟨o1, o2, o3, o4, o5, o6⟩ := hok
 subst o6
 have he : ∀ u, ev r x = u → eff P (ev r) h (d, cnt d) (.call { callee := .builtin .append, args := #[x, y], argTypes := ts }) = appendEff P h (d, cnt d) t t2 u u2 := fun u hu => by
   show builtinEff P h (d, cnt d) .append ts.toList [ev r x, ev r y] = _
   rw [hts, hu, hy]; rfl
 have hie : rows2.isEmpty = false := by cases rows2 <;> first | exact absurd rfl hne | rfl
 rcases hs with ⟨rfl, rfl⟩ | ⟨g, rfl, hg⟩
 · have hq := he _ hx
   unfold appendEff at hq
   simp only [hsr.2] at hq
   rw [hie] at hq
   simp only [cond_false] at hq
   refine p_new rfl hq ⟨⟨o1, o2, o3, o4, o5⟩, hsr.1, hne, by simp at hlen; omega⟩ ?_
   have := hk (hset h (d, cnt d) (some (.rows (tySize P (elemTy P t)) rows2))) (by rw [List.nil_append]; exact hset_self _ _ _) (fun k' h1 _ => hset_ne h1)
   simpa using this
 · have hq := he _ hx
   unfold appendEff at hq
   simp only [hg, hsr.2] at hq
   refine p_renew rfl hq (by refine ⟨⟨o1, o2, o3, o4, o5⟩, hsr.1, ?_⟩; simp; omega) ?_
   refine hk _ ?_ fun k' h1 h2 => ?_
   · rw [hset_self, List.drop_zero, List.take_length]
   · rw [hset_ne h1, hset_ne (h2 g rfl)]
end
section
variable {P : Program} {K : PS → Prop} {d : Nat} {op : Op} {ty : TypeId} {pos : String} {aft : Array Edge} {gd : Option (Nat × Bool)} {rest : List Oper} {r : Nat → PV} {h : Heap} {cnt : Nat → Nat} {ops : Array Oper} {i : Nat} {G : Nat → Bool} {dd : Bool}
end
end Go.Pv

/- Working at P level: short names of frequent steps. -/
namespace Go.Pv
open Go
section
variable {P : Program} {K : PS → Prop} {d : Nat} {op : Op} {ty : TypeId} {pos : String} {aft : Array Edge} {gd : Option (Nat × Bool)} {rest : List Oper} {r : Nat → PV} {h : Heap} {cnt : Nat → Nat} {x y z : Operand} {v : PV} {a : Value}
theorem p_e {rd : List Key} (hc : callOf r op = none) (he : eff P (ev r) h (d, cnt d) op = ⟨True, v, [], rd, false⟩) (hk : pOps P K rest ⟨setT r d v, h, cnt⟩) : pOps P K (⟨some d, op, ty, pos, aft, gd⟩ :: rest) ⟨r, h, cnt⟩ := p_step hc he trivial hk
theorem p_mv (hx : ev r x = v) (hk : pOps P K rest ⟨setT r d v, h, cnt⟩) : pOps P K (⟨some d, .move x, ty, pos, aft, gd⟩ :: rest) ⟨r, h, cnt⟩ := p_step rfl (e_move hx) trivial hk
theorem p_as (hx : ev r x = v) (hk : pOps P K rest ⟨setT r d v, h, cnt⟩) : pOps P K (⟨some d, .assign x, ty, pos, aft, gd⟩ :: rest) ⟨r, h, cnt⟩ := p_step rfl (e_assign hx) trivial hk
theorem p_mS (hx : ev r x = .sc a) (hk : pOps P K rest ⟨setT r d (.sc a), h, cnt⟩) : pOps P K (⟨some d, .move x, ty, pos, aft, gd⟩ :: rest) ⟨r, h, cnt⟩ := p_mv hx hk
theorem p_aS (hx : ev r x = .sc a) (hk : pOps P K rest ⟨setT r d (.sc a), h, cnt⟩) : pOps P K (⟨some d, .assign x, ty, pos, aft, gd⟩ :: rest) ⟨r, h, cnt⟩ := p_as hx hk
variable {ops : Array Oper} {dr : Bool} {G : Nat → Bool} {i : Nat} {ts : List Ft}
/-- An operation that calls nothing, may be told, is wanted, and names what stands. -/
def wantB (ops : Array Oper) (r : Nat → PV) (h : Heap) (cnt : Nat → Nat) (G : Nat → Bool) (gd : Option (Nat × Bool)) (op : Op) : Bool := (callOf r op).isNone && (gobB ops r G gd && (gval ops ⟨⟨r, h, cnt⟩, G⟩ gd && validB r G op))
theorem wantB_1 (hb : wantB ops r h cnt G gd op = true) : callOf r op = none ∧ gobB ops r G gd = true ∧ gval ops ⟨⟨r, h, cnt⟩, G⟩ gd = true ∧ validB r G op = true := by
 simp only [wantB, Bool.and_eq_true, Option.isNone_iff_eq_none] at hb; exact hb
theorem g_e {rd : List Key} (hb : wantB ops r h cnt G gd op = true) (he : eff P (ev r) h (d, cnt d) op = ⟨True, v, [], rd, false⟩) (hk : gRun P ops dr K rest (i + 1) ⟨setT r d v, h, cnt⟩ (setB G d true)) : gRun P ops dr K (⟨some d, op, ty, pos, aft, gd⟩ :: rest) i ⟨r, h, cnt⟩ G :=
 g_step (wantB_1 hb).2.1 (wantB_1 hb).2.2.1 (wantB_1 hb).1 (wantB_1 hb).2.2.2 he trivial hk
theorem g_mS (hb : wantB ops r h cnt G gd (.move x) = true) (hx : ev r x = .sc a) (hk : gRun P ops dr K rest (i + 1) ⟨setT r d (.sc a), h, cnt⟩ (setB G d true)) : gRun P ops dr K (⟨some d, .move x, ty, pos, aft, gd⟩ :: rest) i ⟨r, h, cnt⟩ G := g_e hb (e_move hx) hk
theorem g_aS (hb : wantB ops r h cnt G gd (.assign x) = true) (hx : ev r x = .sc a) (hk : gRun P ops dr K rest (i + 1) ⟨setT r d (.sc a), h, cnt⟩ (setB G d true)) : gRun P ops dr K (⟨some d, .assign x, ty, pos, aft, gd⟩ :: rest) i ⟨r, h, cnt⟩ G := g_e hb (e_assign hx) hk
theorem g_pT (hb : wantB ops r h cnt G gd (.pick x y z) = true) (hx : ev r x = .bool true) (hy : ev r y = .sc a) (hk : gRun P ops dr K rest (i + 1) ⟨setT r d (.sc a), h, cnt⟩ (setB G d true)) : gRun P ops dr K (⟨some d, .pick x y z, ty, pos, aft, gd⟩ :: rest) i ⟨r, h, cnt⟩ G := g_e hb (e_pickT hx hy) hk
theorem g_pF (hb : wantB ops r h cnt G gd (.pick x y z) = true) (hx : ev r x = .bool false) (hy : ev r z = .sc a) (hk : gRun P ops dr K rest (i + 1) ⟨setT r d (.sc a), h, cnt⟩ (setB G d true)) : gRun P ops dr K (⟨some d, .pick x y z, ty, pos, aft, gd⟩ :: rest) i ⟨r, h, cnt⟩ G := g_e hb (e_pickF hx hy) hk
theorem s_e (hb : wantB ops r h cnt G gd op = true) (he : eff P (ev r) h (d, cnt d) op = ⟨True, v, [], [], false⟩) (hk : sRun P ops dr K rest (i + 1) ⟨setT r d v, h, cnt⟩ (setB G d true) (ts ++ [⟨i, [], []⟩])) : sRun P ops dr K (⟨some d, op, ty, pos, aft, gd⟩ :: rest) i ⟨r, h, cnt⟩ G ts :=
 s_step [] (by simp) (wantB_1 hb).2.1 (wantB_1 hb).2.2.1 (wantB_1 hb).1 (wantB_1 hb).2.2.2 he trivial hk
end
section
variable {P : Program} {ρ : Operand → PV} {h : Heap} {key : Key} {x y z : Operand} {t t' : TypeId} {v : PV}
abbrev pl2 : List (Nat × Nat × Bool) := [(0, 1, false), (1, 1, false)]
abbrev pl3 : List (Nat × Nat × Bool) := [(0, 1, false), (1, 1, false), (2, 1, false)]
abbrev pl4 : List (Nat × Nat × Bool) := [(0, 1, false), (1, 1, false), (2, 1, false), (3, 1, false)]
abbrev pl5 : List (Nat × Nat × Bool) := [(0, 1, false), (1, 1, false), (2, 1, false), (3, 1, false), (4, 1, false)]
theorem e_faQ {k : Key} {sz i j f : Nat} (pl : List (Nat × Nat × Bool)) (hx : ρ x = .ptr k sz i j) (ht : structOk P t = true := by kernel_rfl) (hp : places P t = pl := by kernel_rfl) (hf : f < pl.length := by decide) :
   eff P ρ h key (.fieldAddr t x f) = ⟨True, .ptr k sz i (j + (pl.getD f (0, 0, false)).1), [], [], false⟩ := e_faP hx ht hp hf rfl
theorem e_fb {tt : Bool} {sz : Nat} {rows : Rows} {i j f : Nat} (pl : List (Nat × Nat × Bool)) (hx : ρ x = .lptr tt sz rows i j) (ht : structOk P t = true := by kernel_rfl) (hp : places P t = pl := by kernel_rfl) (hf : f < pl.length := by decide) :
   eff P ρ h key (.fieldAddr t x f) = ⟨True, .lptr tt sz rows i (j + (pl.getD f (0, 0, false)).1), [], [], false⟩ := e_fa hx ht hp hf rfl
theorem e_ixL {tt : Bool} {sz : Nat} {rows : Rows} {k : IntKind} {i : Int} (hx : ρ x = .lit tt sz rows) (hy : ρ y = .sc (.int k i)) (hi : 0 ≤ i ∧ i < rows.length := by first | omega | (simp only [List.length_map]; omega)) (ht : sliceOk P t = true := by kernel_rfl) (hs : tySize P (elemTy P t) = sz := by kernel_rfl) :
   eff P ρ h key (.indexAddr t x y) = ⟨True, .lptr tt sz rows i.toNat 0, [], [], false⟩ := e_ixa hx hy ht hs hi
theorem e_lH {k : Key} {sz i j : Nat} {rs : Rows} (hx : ρ x = .ptr k sz i j) (hk : h k = some (.rows sz rs)) (hv : cellAt rs i j = v) (hg : tyAgg P t = false := by kernel_rfl) (hs : tySize P t = 1 := by kernel_rfl) (ht : tyOk P t = true := by kernel_rfl) (hi : i < rs.length := by exact Nat.zero_lt_one) (hj : j < sz := by decide) :
   eff P ρ h key (.load t x) = ⟨True, v, [], [k], false⟩ := e_loadH hx hk hg hs ht hi hj hv
theorem e_adL {a b : Int} (hx : ρ x = .int a) (hy : ρ y = .int b) (h1 : -9223372036854775808 ≤ a + b ∧ a + b ≤ 9223372036854775807 := by first | omega | (simp only [List.length_map] at *; omega)) : eff P ρ h key (.binOp .add t x y t') = ⟨True, .int (a + b), [], [], false⟩ := e_add hx hy h1
end
/-- How conditions are read. -/
theorem zz : (∀ (p : Prop) [Decidable p], (decide p = true) = p) ∧ (∀ (p : Prop) [Decidable p], decide p = false ↔ ¬ p) ∧ (∀ b : Bool, ((!b) = true) = (b = false)) ∧ (∀ b : Bool, ((!b) = false) = (b = true)) ∧ (∀ a b : Int, ¬ a < b ↔ b ≤ a) ∧ (∀ a b : Int, ¬ a ≤ b ↔ b < a) ∧
   (∀ (α : Type) (a b : α), (a ≠ b) = ¬ (a = b)) ∧ (∀ (p : Prop) [Decidable p], ¬ ¬ p ↔ p) ∧ (∀ (α β : Type) (l : List α) (f : α → β), (l.map f).length = l.length) ∧ (∀ a b : Bool, ((a || b) = true) = (a = true ∨ b = true)) ∧ (∀ a b : Bool, ((a && b) = true) = (a = true ∧ b = true)) ∧
   (∀ a b : Bool, (a || b) = false ↔ a = false ∧ b = false) ∧ (∀ a b : Bool, (a && b) = false ↔ a = false ∨ b = false) :=
 ⟨fun _ _ => decide_eq_true_eq, fun _ _ => decide_eq_false_iff_not, Bool.not_eq_true', Bool.not_eq_false', fun _ _ => Int.not_lt, fun _ _ => Int.not_le, fun _ _ _ => rfl, fun _ _ => Decidable.not_not, fun _ _ l f => List.length_map f, Bool.or_eq_true, Bool.and_eq_true, fun _ _ => Bool.or_eq_false_iff, fun _ _ => Bool.and_eq_false_iff⟩
end Go.Pv

/- A call that only reads own memory leaves no trace: its own objects are forgotten. -/
namespace Go.Pv
open Go
variable {P : Program}
section
variable {K : PS → Prop} {d : Nat} {op : Op} {ty : TypeId} {pos : String} {aft : Array Edge} {gd : Option (Nat × Bool)} {rest : List Oper} {r : Nat → PV} {h : Heap} {cnt : Nat → Nat} {ops : Array Oper} {i : Nat} {G : Nat → Bool} {dd dr : Bool}
/-- A call that reads own memory, in a region whose order may be drawn. -/
theorem s_callM {f : FuncId} {args : List PV} {v : PV} {ts : List Ft} (ks : List Key) (rs : List Nat) (hrd : ∀ k ∈ ks, k.1 ∈ rs) (hg : gobB ops r G gd = true) (hgv : gval ops ⟨⟨r, h, cnt⟩, G⟩ gd = true) (hc : callOf r op = some (f, args)) (hv : validB r G op = true)
   (hp : ∀ h' : Heap, (∀ k ∈ ks, h' k = h k) → ∀ c', HCallsR P f args h' c' fun v' h2 c2 => v' = v ∧ h2 = h' ∧ c2 = c')
   (hk : sRun P ops dd K rest (i + 1) ⟨setT r d v, h, cnt⟩ (setB G d true) (ts ++ [⟨i, rs, []⟩])) : sRun P ops dd K (⟨some d, op, ty, pos, aft, gd⟩ :: rest) i ⟨r, h, cnt⟩ G ts := by
 intro tr ht
 unfold gOps
 refine ⟨gobB_ok hg, ?_⟩
 show match callOf r op with | none => _ | some (f, args) => _
 rw [hc]
 refine .inr (.inr ⟨hgv, validB_ok hv, rfl, _, .inr ⟨v, ks, rfl, hp⟩, ?_⟩)
 have := hk (tr ++ [⟨i, ks, []⟩]) (ht.snoc rfl hrd (by simp))
 simp only [stepG, stepS, putR_setT, setG_setB]
 rw [hgv]
 exact this
end
end Go.Pv

/- Code without calls of functions and without draws of values comes to one end: what is told of all ends is told of one. -/
namespace Go.Pv
open Go Go.RowKit
def detOp : Op → Bool
 | .call c => (match c.callee with | .value _ => false | _ => true)
 | .next _ _ => false
 | .binOp .eql _ _ y _ => !isNilC y
 | _ => true
def detC : Code → Bool
 | .region _ ops _ => ops.toList.all fun o => detOp o.op
 | .seq a b => detC a && detC b
 | .cond _ a b => detC a && detC b
 | .block _ c => detC c
 | .loop c => detC c
 | .rangeFunc _ _ _ _ => false
 | _ => true
section
variable {P : Program} {K : PS → Prop}
theorem det_call {r : Nat → PV} {o : Op} (h : detOp o = true) : callOf r o = none := by
 cases hc : callOf r o with
 | none => rfl
 | some q =>
   obtain ⟨x, as1, ts, first, cap1, rfl, _⟩ := callOf_spec (f := q.1) (args := q.2) hc
   simp [detOp] at h
theorem pOps_det : ∀ (l : List Oper) (s : PS), (∀ o ∈ l, detOp o.op = true) → pOps P K l s → ∃ s', K s' ∧ ∀ K' : PS → Prop, K' s' → pOps P K' l s
 | [], s, _, h => ⟨s, h, fun _ h => h⟩
 | o :: l, s, hd, h => by
   have hdo := hd o (by simp)
   have hdl : ∀ o ∈ l, detOp o.op = true := fun o ho => hd o (by simp [ho])
   have hc : callOf s.r o.op = none := det_call hdo
   unfold pOps at h
   rw [hc] at h
   have fold : ∀ K' : PS → Prop, (((eff P (ev s.r) s.h (siteOf o, s.cnt (siteOf o)) o.op).ob ∧ pOps P K' l (stepS s o (eff P (ev s.r) s.h (siteOf o, s.cnt (siteOf o)) o.op))) ∨ (NextP (pOps P K' l) o s ∨ (RenP (pOps P K' l) o s ∨ NilP P (pOps P K' l) o s))) → pOps P K' (o :: l) s := fun K' h' => by
     unfold pOps; rw [hc]; exact h'
   rcases h with ⟨h1, h2⟩ | h1 | h1 | h1 | h1
   · obtain ⟨s', h3, h4⟩ := pOps_det l _ hdl h2
     exact ⟨s', h3, fun K' h5 => fold K' (.inl ⟨h1, h4 K' h5⟩)⟩
   · obtain ⟨x, _, _, _, _, _, _, ho, _⟩ := h1
     rw [ho] at hdo; simp [detOp] at hdo
   · obtain ⟨x, d, e, k, sz, len, rs, g1, g2, g3, g4, g5⟩ := h1
     obtain ⟨s', h3, h4⟩ := pOps_det l _ hdl g5
     exact ⟨s', h3, fun K' h5 => fold K' (.inr (.inr (.inl ⟨x, d, e, k, sz, len, rs, g1, g2, g3, g4, h4 K' h5⟩)))⟩
   · obtain ⟨x, y, t, t', d, tt, sz, ho, _, hny, _⟩ := h1
     rw [ho] at hdo; simp [detOp, hny] at hdo
   · obtain ⟨u, k, sz, rs, i, j, g1, g2, g3, g4, g5, g6⟩ := h1
     obtain ⟨s', h3, h4⟩ := pOps_det l _ hdl g6
     exact ⟨s', h3, fun K' h5 => fold K' (.inr (.inr (.inr (.inr ⟨u, k, sz, rs, i, j, g1, g2, g3, g4, g5, h4 K' h5⟩))))⟩
theorem gOps_det {ops : Array Oper} {d : Bool} : ∀ (l : List Oper) (i : Nat) (σ : GS) (tr : List Foot), (∀ o ∈ l, detOp o.op = true) → gOps P ops d K l i σ tr → ∃ s', K s' ∧ ∀ K' : PS → Prop, K' s' → gOps P ops d K' l i σ tr
 | [], _, σ, tr, _, h => ⟨_, h.2, fun _ h' => ⟨h.1, h'⟩⟩
 | o :: l, i, σ, tr, hd, h => by
   have hc : callOf σ.s.r o.op = none := det_call (hd o (by simp))
   unfold gOps at h
   rw [hc] at h
   obtain ⟨h1, h2, h3, h4⟩ := h
   obtain ⟨s', h5, h6⟩ := gOps_det l _ _ _ (fun o ho => hd o (by simp [ho])) h4
   refine ⟨s', h5, fun K' h7 => ?_⟩
   unfold gOps
   rw [hc]
   exact ⟨h1, h2, h3, h6 K' h7⟩
theorem pRegion_det {ops : Array Oper} {draw : Bool} {s : PS} (hd : ∀ o ∈ ops.toList, detOp o.op = true) (h : pRegion P ops draw K s) : (∃ s', K s' ∧ ∀ K' : PS → Prop, K' s' → pRegion P ops draw K' s) ∨ ∀ K' : PS → Prop, pRegion P ops draw K' s := by
 by_cases hk : Known s
 · left
   unfold pRegion at h
   have h := h hk
   split at h
   · rename_i hg
     obtain ⟨s', h1, h2⟩ := pOps_det _ _ hd h
     refine ⟨s', h1, fun K' h3 => ?_⟩
     unfold pRegion
     intro _
     rw [if_pos hg]; exact h2 K' h3
   · rename_i hg
     rcases h with h | ⟨hdr, L, σ', h1, h2, h3, h4⟩
     · obtain ⟨s', h1, h2⟩ := gOps_det _ _ _ _ hd h
       refine ⟨s', h1, fun K' h3 => ?_⟩
       unfold pRegion
       intro _
       rw [if_neg hg]; exact .inl (h2 K' h3)
     · refine ⟨_, h4, fun K' h5 => ?_⟩
       unfold pRegion
       intro _
       rw [if_neg hg]; exact .inr ⟨hdr, L, σ', h1, h2, h3, h5⟩
 · right
   intro K'
   unfold pRegion
   exact fun h => absurd h hk
theorem loop_unroll {c : Code} {Q : Exit → PS → Prop} {s s' : PS} (hall : ∀ Q' : Exit → PS → Prop, Q' .normal s' → pwp P c Q' s) (h : pwp P (.loop c) Q s') : pwp P (.loop c) Q s := by
 obtain ⟨I, n, hI, hb⟩ := h
 refine ⟨fun m t => (m = n + 1 ∧ t = s) ∨ I m t, n + 1, .inl ⟨rfl, rfl⟩, fun m t ht => ?_⟩
 rcases ht with ⟨rfl, rfl⟩ | ht
 · exact hall _ ⟨n, Nat.lt_succ_self _, .inr hI⟩
 · refine pwp_mono c (fun e s2 he => ?_) (hb m t ht)
   cases e <;> first | exact he | (obtain ⟨n', h1, h2⟩ := he; exact ⟨n', h1, .inr h2⟩)
theorem loop_once {c : Code} {Q : Exit → PS → Prop} {s : PS} (h : pwp P c (fun e s' => match e with | .normal => False | e => Q e s') s) : pwp P (.loop c) Q s :=
 ⟨fun _ t => t = s, 0, rfl, fun _ t ht => by subst ht; exact pwp_mono c (fun e s2 he => by cases e <;> first | exact he | exact he.elim) h⟩
theorem pwp_det : ∀ (c : Code) (Q : Exit → PS → Prop) (s : PS), detC c = true → pwp P c Q s → (∃ e s', Q e s' ∧ ∀ Q' : Exit → PS → Prop, Q' e s' → pwp P c Q' s) ∨ ∀ Q' : Exit → PS → Prop, pwp P c Q' s
 | .skip, Q, s, _, h => .inl ⟨.normal, s, h, fun _ h => h⟩
 | .exit id, Q, s, _, h => .inl ⟨.exit id, s, h, fun _ h => h⟩
 | .ret, Q, s, _, h => .inl ⟨.ret, s, h, fun _ h => h⟩
 | .region _ ops draw, Q, s, hd, h => by
   simp only [detC, List.all_eq_true] at hd
   rcases pRegion_det (K := Q .normal) hd h with ⟨s', h1, h2⟩ | h1
   · exact .inl ⟨.normal, s', h1, fun Q' h3 => h2 _ h3⟩
   · exact .inr fun Q' => h1 _
 | .seq a b, Q, s, hd, h => by
   simp only [detC, Bool.and_eq_true] at hd
   rcases pwp_det a _ s hd.1 h with ⟨e, s', h1, h2⟩ | h1
   · cases e with
     | normal =>
       rcases pwp_det b _ s' hd.2 h1 with ⟨e2, s2, h3, h4⟩ | h3
       · exact .inl ⟨e2, s2, h3, fun Q' h5 => h2 _ (h4 Q' h5)⟩
       · exact .inr fun Q' => h2 _ (h3 Q')
     | _ => exact .inl ⟨_, s', h1, fun Q' h5 => h2 _ h5⟩
   · exact .inr fun Q' => h1 _
 | .cond c x y, Q, s, hd, h => by
   simp only [detC, Bool.and_eq_true] at hd
   obtain ⟨b, h1, h2, h3⟩ := h
   cases b with
   | true =>
     rcases pwp_det x _ s hd.1 (h2 rfl) with ⟨e, s', h4, h5⟩ | h4
     · exact .inl ⟨e, s', h4, fun Q' h6 => ⟨true, h1, fun _ => h5 Q' h6, fun h => by cases h⟩⟩
     · exact .inr fun Q' => ⟨true, h1, fun _ => h4 Q', fun h => by cases h⟩
   | false =>
     rcases pwp_det y _ s hd.2 (h3 rfl) with ⟨e, s', h4, h5⟩ | h4
     · exact .inl ⟨e, s', h4, fun Q' h6 => ⟨false, h1, fun h => (by cases h), fun _ => h5 Q' h6⟩⟩
     · exact .inr fun Q' => ⟨false, h1, fun h => (by cases h), fun _ => h4 Q'⟩
 | .block id c, Q, s, hd, h => by
   rcases pwp_det c _ s hd h with ⟨e, s', h1, h2⟩ | h1
   · by_cases hi : e = .exit id
     · subst hi
       refine .inl ⟨.normal, s', by simpa using h1, fun Q' h3 => h2 _ (by simpa using h3)⟩
     · refine .inl ⟨e, s', ?_, fun Q' h3 => h2 _ ?_⟩
       · cases e <;> first | exact h1 | (rename_i i; simp only at h1; rwa [if_neg (fun q => hi (by rw [q]))] at h1)
       · cases e <;> first | exact h3 | (rename_i i; simp only; rwa [if_neg (fun q => hi (by rw [q]))])
   · exact .inr fun Q' => h1 _
 | .loop c, Q, s, hd, h => by
   obtain ⟨I, n, hI, hb⟩ := h
   have main : ∀ (n : Nat) (s : PS), I n s → (∃ e s', Q e s' ∧ ∀ Q' : Exit → PS → Prop, Q' e s' → pwp P (.loop c) Q' s) ∨ ∀ Q' : Exit → PS → Prop, pwp P (.loop c) Q' s := fun n => by
     induction n using Nat.strongRecOn with
     | ind n ih =>
       intro s hI
       rcases pwp_det c _ s hd (hb n s hI) with ⟨e, s', h1, h2⟩ | h1
       · cases e with
         | normal =>
           obtain ⟨n', h3, h4⟩ := h1
           rcases ih n' h3 s' h4 with ⟨e2, s2, h5, h6⟩ | h5
           · exact .inl ⟨e2, s2, h5, fun Q' h7 => loop_unroll h2 (h6 Q' h7)⟩
           · exact .inr fun Q' => loop_unroll h2 (h5 Q')
         | _ => exact .inl ⟨_, s', h1, fun Q' h3 => loop_once (h2 _ h3)⟩
       · exact .inr fun Q' => loop_once (h1 _)
   exact main n s hI
 | .rangeFunc _ _ _ _, _, _, hd, _ => by simp [detC] at hd
 | .scope _, _, _, _, h => h.elim
 | .label _, _, _, _, h => h.elim
 | .goto _, _, _, _, h => h.elim
 | .refuse _, _, _, _, h => h.elim
/-- A call of such code: one end, told in full. -/
theorem HCallsR.of_codeX {f : FuncId} {fn : Func} {c : Code} {rs : List ResultVar} {args : List PV} {h : Heap} {cnt : Nat → Nat} {R : PV → Heap → (Nat → Nat) → Prop} (hf : P.funcs[f]? = some fn) (hb : fn.body = some c) (hrs : fn.results = rs.toArray)
   (hB : hasBody P f = true) (hm : P.follows .mixedOrders = true) (hfr : (inFrame fn.ntmps c && rs.all (resScope fn.ntmps)) = true) (hfr3 : args.length ≤ fn.ntmps) (hd : detC c = true)
   (hp : pwp P c (endQ P rs R) ⟨fun i => args.getD i .dead, h, cnt⟩) : (∃ v ha ca, R v ha ca ∧ HCallsR P f args h cnt fun v' h' c' => v' = v ∧ h' = ha ∧ c' = ca) ∨ HCallsR P f args h cnt fun _ _ _ => False := by
 rcases pwp_det c _ _ hd hp with ⟨e, s', h1, h2⟩ | h1
 · left
   cases e with
   | normal => exact ⟨_, _, _, h1.2, HCallsR.of_code hf hb hrs hB hm hfr hfr3 (h2 _ ⟨h1.1, rfl, rfl, rfl⟩)⟩
   | ret => exact ⟨_, _, _, h1.2, HCallsR.of_code hf hb hrs hB hm hfr hfr3 (h2 _ ⟨h1.1, rfl, rfl, rfl⟩)⟩
   | _ => exact h1.elim
 · exact .inr (HCallsR.of_code hf hb hrs hB hm hfr hfr3 (h1 _))
end
end Go.Pv
