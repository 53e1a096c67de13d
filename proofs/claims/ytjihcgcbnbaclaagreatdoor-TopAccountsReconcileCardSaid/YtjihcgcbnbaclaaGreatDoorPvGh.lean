import Derived.Test.YtjihcgcbnbaclaaGreatDoorPvGg
import Derived.Test.YtjihcgcbnbaclaaGreatDoorPvGu
set_option linter.unusedSimpArgs false
set_option linter.unusedVariables false
namespace Go.Pv
open Go Go.RowKit
section
variable {P : Program} {K : PS → Prop} {d : Nat} {op : Op} {ty : TypeId} {pos : String} {aft : Array Edge} {gd : Option (Nat × Bool)} {rest : List Oper} {r : Nat → PV} {h : Heap} {cnt : Nat → Nat} {ops : Array Oper} {i : Nat} {G : Nat → Bool} {dd : Bool}
end
end Go.Pv
namespace Go.Pv
open Go Go.Proofs Go.RowKit Go.Maps Go.Sort
section
variable {P : Program}
end
end Go.Pv
namespace Go.Pv
open Go
section
variable {P : Program} {ρ : Operand → PV} {h : Heap} {key : Key} {x y : Operand} {t : TypeId}
end
end Go.Pv
namespace Go.Pv
open Go Go.RowKit
section
variable {P : Program} {K : PS → Prop} {d : Nat} {op : Op} {ty : TypeId} {pos : String} {aft : Array Edge} {gd : Option (Nat × Bool)} {rest : List Oper} {r : Nat → PV} {h : Heap} {cnt : Nat → Nat} {ops : Array Oper} {i : Nat} {G : Nat → Bool} {dd : Bool}
end
end Go.Pv
namespace Go.Pv
open Go Go.RowKit
section
variable {P : Program} {K : PS → Prop} {d : Nat} {op : Op} {ty : TypeId} {pos : String} {aft : Array Edge} {gd : Option (Nat × Bool)} {rest : List Oper} {r : Nat → PV} {h : Heap} {cnt : Nat → Nat} {ops : Array Oper} {i : Nat} {G : Nat → Bool} {dd : Bool} {vs : Key → Nat}
def FitsV (vs : Key → Nat) (tr : List Foot) (ts : List Ft) : Prop := tr.length = ts.length ∧ ∀ (j : Nat) (x : Foot) (t : Ft), tr[j]? = some x → ts[j]? = some t → x.i = t.i ∧ (∀ k ∈ x.rd, vs k ∈ t.rd) ∧ (∀ k ∈ x.wr, vs k ∈ t.wr)
theorem FitsV.snoc {tr : List Foot} {ts : List Ft} {x : Foot} {t : Ft} (hf : FitsV vs tr ts) (h1 : x.i = t.i) (h2 : ∀ k ∈ x.rd, vs k ∈ t.rd) (h3 : ∀ k ∈ x.wr, vs k ∈ t.wr) : FitsV vs (tr ++ [x]) (ts ++ [t]) := by
 refine ⟨by simp [hf.1], fun j y u hy hu => ?_⟩;rw [List.getElem?_append] at hy hu;by_cases hj : j < tr.length
 · rw [if_pos hj] at hy;rw [if_pos (by rw [← hf.1]; exact hj)] at hu;exact hf.2 j y u hy hu
 · rw [if_neg hj] at hy;rw [if_neg (by rw [← hf.1]; exact hj)] at hu;rw [hf.1] at hy;cases hq : j - ts.length with
   | zero => rw [hq] at hy hu; simp at hy hu; subst hy; subst hu; exact ⟨h1, h2, h3⟩
   | succ m => rw [hq] at hy; simp at hy
theorem djV_ok {a b : List Nat} {u w : List Key} (hd : djB a b = true) (hu : ∀ k ∈ u, vs k ∈ a) (hw : ∀ k ∈ w, vs k ∈ b) : disjointK u w := fun k h1 h2 => by
 have := List.all_eq_true.1 (List.all_eq_true.1 hd _ (hu k h1)) _ (hw k h2);simp at this
theorem indAllV_ok : ∀ {ts : List Ft} {tr : List Foot}, indAll ops ts = true → FitsV vs tr ts → IndepAll ops tr
 | [], [], _, _ => trivial
 | [], _ :: _, _, hf => by have := hf.1; simp at this
 | _ :: _, [], _, hf => by have := hf.1; simp at this
 | t :: ts, x :: tr, hi, hf => by
   simp only [indAll, Bool.and_eq_true] at hi;obtain ⟨e1, e2, e3⟩ := hf.2 0 x t rfl rfl;have hf' : FitsV vs tr ts := ⟨by have := hf.1; simpa using this, fun j y u h1 h2 => hf.2 (j + 1) y u h1 h2⟩
   refine ⟨fun y hy => ?_, indAllV_ok hi.2 hf'⟩;obtain ⟨j, hj⟩ := List.mem_iff_getElem?.1 hy;have hlt : j < ts.length := by rw [← hf'.1]; exact (List.getElem?_eq_some_iff.1 hj).1
   obtain ⟨u, hu⟩ : ∃ u, ts[j]? = some u := ⟨_, List.getElem?_eq_getElem hlt⟩
   obtain ⟨f1, f2, f3⟩ := hf'.2 j y u hj hu;have hb := List.all_eq_true.1 hi.1 u (List.mem_of_getElem? hu);simp only [indB, Bool.or_eq_true, Bool.and_eq_true] at hb;rcases hb with hb | ⟨hb, b1, b2, b3⟩
   · left; rw [e1, f1]; exact hb
   · right; refine ⟨by rw [e1, f1]; exact hb, djV_ok b1 e3 f2, (b2.imp (by rw [e1, f1]; exact id) fun b2 => djV_ok b2 f3 e2), djV_ok b3 e3 f3⟩
def vRun (vs : Key → Nat) (P : Program) (ops : Array Oper) (dd : Bool) (K : PS → Prop) (l : List Oper) (i : Nat) (s : PS) (G : Nat → Bool) (ts : List Ft) : Prop := ∀ tr, FitsV vs tr ts → gOps P ops dd K l i ⟨s, G⟩ tr
theorem v_begin (vs : Key → Nat) (hr : vRun vs P ops dd K ops.toList 0 ⟨r, h, cnt⟩ (fun _ => true) []) : gOps P ops dd K ops.toList 0 ⟨⟨r, h, cnt⟩, fun _ => true⟩ [] := hr [] ⟨rfl, fun j x t hx => by simp at hx⟩
theorem v_end {ds : List Nat} {ts : List Ft} (hs : (!dd || indAll ops ts) = true) (hd : guardedOf ops.toList = ds) (hk : K ⟨deadT r ds, h, cnt⟩) : vRun vs P ops dd K [] i ⟨r, h, cnt⟩ G ts := by
 intro tr ht;refine ⟨fun hd => indAllV_ok (by rw [hd] at hs; exact hs) ht, ?_⟩;show K (fin ops.toList ⟨r, h, cnt⟩);unfold fin;rw [fin_deadT, hd];exact hk
theorem v_any {e : Eff} {ts : List Ft} (rs ws : List Nat) (hg : gobB ops r G gd = true) (hgv : gval ops ⟨⟨r, h, cnt⟩, G⟩ gd = true) (hrd : ∀ k ∈ e.rd, vs k ∈ rs) (hwr : ∀ k ∈ e.wr.map (·.1), vs k ∈ ws) (hc : callOf r op = none) (hv : validB r G op = true) (he : eff P (ev r) h (d, cnt d) op = e) (hob : e.ob)
   (hk : vRun vs P ops dd K rest (i + 1) ⟨setT r d e.v, applyWr h e.wr, bumpC cnt d e.bump⟩ (setB G d true) (ts ++ [⟨i, rs, ws⟩])) : vRun vs P ops dd K (⟨some d, op, ty, pos, aft, gd⟩ :: rest) i ⟨r, h, cnt⟩ G ts := by
 intro tr ht;unfold gOps;refine ⟨gobB_ok hg, ?_⟩;show match callOf r op with | none => _ | some (f, args) => _
 rw [hc];simp only [siteOf, Option.getD_some];rw [he, hgv];refine ⟨fun _ => ⟨validB_ok hv, hob⟩, (fun _ => rfl), ?_⟩;have := hk (tr ++ [⟨i, e.rd, e.wr.map (·.1)⟩]) (ht.snoc rfl hrd hwr);simp only [stepG, stepS, putR_setT, setG_setB, effG, if_true];exact this
theorem v_step {ob : Prop} {v : PV} {rd : List Key} {ts : List Ft} (rs : List Nat) (hrd : ∀ k ∈ rd, vs k ∈ rs) (hg : gobB ops r G gd = true) (hgv : gval ops ⟨⟨r, h, cnt⟩, G⟩ gd = true) (hc : callOf r op = none) (hv : validB r G op = true) (he : eff P (ev r) h (d, cnt d) op = ⟨ob, v, [], rd, false⟩) (hob : ob)
   (hk : vRun vs P ops dd K rest (i + 1) ⟨setT r d v, h, cnt⟩ (setB G d true) (ts ++ [⟨i, rs, []⟩])) : vRun vs P ops dd K (⟨some d, op, ty, pos, aft, gd⟩ :: rest) i ⟨r, h, cnt⟩ G ts :=
 v_any (e := ⟨ob, v, [], rd, false⟩) rs [] hg hgv hrd (by simp) hc hv he hob hk
theorem v_new {ob : Prop} {v : PV} {rd : List Key} {g : Nat} {o : Option PObj} {ts : List Ft} (rs ws : List Nat) (hrd : ∀ k ∈ rd, vs k ∈ rs) (hwr : vs (d, g) ∈ ws) (hg : gobB ops r G gd = true) (hgv : gval ops ⟨⟨r, h, cnt⟩, G⟩ gd = true) (hc : callOf r op = none) (hv : validB r G op = true) (he : eff P (ev r) h (d, cnt d) op = ⟨ob, v, [((d, g), o)], rd, true⟩) (hob : ob)
   (hk : vRun vs P ops dd K rest (i + 1) ⟨setT r d v, hset h (d, g) o, cset cnt d⟩ (setB G d true) (ts ++ [⟨i, rs, ws⟩])) : vRun vs P ops dd K (⟨some d, op, ty, pos, aft, gd⟩ :: rest) i ⟨r, h, cnt⟩ G ts :=
 v_any (e := ⟨ob, v, [((d, g), o)], rd, true⟩) rs ws hg hgv hrd (by simpa using hwr) hc hv he hob hk
theorem v_store {ob : Prop} {v : PV} {rd : List Key} {k : Key} {o : Option PObj} {ts : List Ft} (rs ws : List Nat) (hrd : ∀ k ∈ rd, vs k ∈ rs) (hwr : vs k ∈ ws) (hc : callOf r op = none) (hv : validB r G op = true) (he : eff P (ev r) h (999983, cnt 999983) op = ⟨ob, v, [(k, o)], rd, false⟩) (hob : ob)
   (hk : vRun vs P ops dd K rest (i + 1) ⟨r, hset h k o, cnt⟩ G (ts ++ [⟨i, rs, ws⟩])) : vRun vs P ops dd K (⟨none, op, ty, pos, aft, none⟩ :: rest) i ⟨r, h, cnt⟩ G ts := by
 intro tr ht;unfold gOps;refine ⟨trivial, ?_⟩;show match callOf r op with | none => _ | some (f, args) => _
 rw [hc];simp only [siteOf, Option.getD_none];rw [he];refine ⟨fun _ => ⟨validB_ok hv, hob⟩, (fun h => by cases h), ?_⟩;exact hk (tr ++ [⟨i, rd, [k]⟩]) (ht.snoc rfl hrd (by simpa using hwr))
theorem v_hcall {f : FuncId} {args : List PV} {R : PV → Heap → (Nat → Nat) → Prop} {ts : List Ft} (hb : (!dd || (barrierB ops i && indAll ops ts)) = true) (hg : gobB ops r G gd = true) (hgv : gval ops ⟨⟨r, h, cnt⟩, G⟩ gd = true) (hc : callOf r op = some (f, args)) (hv : validB r G op = true) (hp : HCallsR P f args h cnt R)
   (hk : ∀ v h' cnt', R v h' cnt' → vRun vs P ops dd K rest (i + 1) ⟨setT r d v, h', cnt'⟩ (setB G d true) []) : vRun vs P ops dd K (⟨some d, op, ty, pos, aft, gd⟩ :: rest) i ⟨r, h, cnt⟩ G ts := by
 intro tr ht;unfold gOps;refine ⟨gobB_ok hg, ?_⟩;show match callOf r op with | none => _ | some (f, args) => _
 rw [hc];refine .inr (.inl ⟨hgv, validB_ok hv, fun hd => ?_, HCallsR.mono hp fun v h' cnt' hR => ?_⟩)
 · rw [hd] at hb;simp only [Bool.not_true, Bool.false_or, Bool.and_eq_true] at hb;exact ⟨hb.1, indAllV_ok hb.2 ht⟩
 · have := hk v h' cnt' hR [] ⟨rfl, fun j x t hx => by simp at hx⟩;simp only [putR_setT, setG_setB];exact this
variable {x y : Operand} {t : TypeId}
theorem v_app {ts : Array TypeId} {t2 : TypeId} {u : PV} {k2 : Key} {n2 : Nat} {sz d1 : Nat} {rows rows2 : Rows} {tl : List Ft} (rs ws : List Nat) (hgd : gobB ops r G gd = true) (hgv : gval ops ⟨⟨r, h, cnt⟩, G⟩ gd = true) (hr1 : ∀ k ∈ keyOf u, vs k ∈ rs ∧ vs k ∈ ws) (hr2 : vs k2 ∈ rs) (hw1 : vs (d, cnt d) ∈ ws) (hts : ts.toList = [t, t2]) (hx : ev r x = u) (hy : ev r y = .ref k2 sz 0 n2) (hs : SliceAt h d1 u sz rows) (hk2 : h k2 = some (.rows sz rows2)) (hn2 : rows2.length = n2) (hne : 0 < n2)
   (hv : validB r G (.call { callee := .builtin .append, args := #[x, y], argTypes := ts }) = true)
   (hok : (sliceOk P t && (decide (P.bytesOf (elemTy P t) < 2 ^ 15) && (decide (intKind P t2 = none) && (zeroOk P (elemTy P t) && ((P.underlying t2).isSome && decide (tySize P (elemTy P t) = sz)))))) = true) (hlen : rows.length + rows2.length < 2 ^ 32)
   (hk : ∀ h', h' (d, cnt d) = some (.rows sz (rows ++ rows2)) → (∀ k' : Key, k' ≠ (d, cnt d) → k' ∉ keyOf u → h' k' = h k') → vRun vs P ops dd K rest (i + 1) ⟨setT r d (.ref (d, cnt d) sz 0 (rows.length + rows2.length)), h', cset cnt d⟩ (setB G d true) (tl ++ [⟨i, rs, ws⟩])) :
   vRun vs P ops dd K (⟨some d, .call { callee := .builtin .append, args := #[x, y], argTypes := ts }, ty, pos, aft, gd⟩ :: rest) i ⟨r, h, cnt⟩ G tl := by
 simp only [Bool.and_eq_true, decide_eq_true_eq] at hok;obtain ⟨o1, o2, o3, o4, o5, o6⟩ := hok;subst o6
 have he : ∀ u, ev r x = u → eff P (ev r) h (d, cnt d) (.call { callee := .builtin .append, args := #[x, y], argTypes := ts }) = appendEff P h (d, cnt d) t t2 u (.ref k2 (tySize P (elemTy P t)) 0 n2) := fun u hu => by
   show builtinEff P h (d, cnt d) .append ts.toList [ev r x, ev r y] = _;rw [hts, hu, hy]; rfl
 have hsr := src_ref (n2 := n2) hk2 hn2;have hrd2 : (srcRows h (tySize P (elemTy P t)) (.ref k2 (tySize P (elemTy P t)) 0 n2)).2.2 = [k2] := by unfold srcRows; simp only [hk2]
 rcases hs with ⟨rfl, rfl⟩ | ⟨g, rfl, hg⟩
 · have hq := he _ hx;unfold appendEff at hq;simp only [hsr.2, hrd2] at hq
   have hne' : rows2.isEmpty = false := by
     cases hr : rows2 with
     | nil => rw [hr] at hn2; simp at hn2; omega
     | cons a b => rfl
   rw [hne'] at hq;simp only [cond_false] at hq;have := hk (hset h (d, cnt d) (some (.rows (tySize P (elemTy P t)) rows2))) (by rw [List.nil_append]; exact hset_self _ _ _) (fun k' h1 _ => hset_ne h1);simp only [List.length_nil, Nat.zero_add] at this;refine v_any rs ws hgd hgv (by simp; exact hr2) (by simp; exact hw1) rfl hv hq ⟨⟨o1, o2, o3, o4, o5⟩, hsr.1, (by intro e; rw [e] at hne'; cases hne'), by simp at hlen; omega⟩ this
 · have hq := he _ hx;unfold appendEff at hq;simp only [hg, hsr.2, hrd2] at hq;refine v_any rs ws hgd hgv (by intro k hk'; rcases List.mem_cons.1 hk' with rfl | hk'; exact (hr1 _ (by simp [keyOf])).1; simp at hk'; subst hk'; exact hr2) (by simp; exact ⟨(hr1 _ (by simp [keyOf])).2, hw1⟩) rfl hv hq (by refine ⟨⟨o1, o2, o3, o4, o5⟩, hsr.1, ?_⟩; simp; omega) ?_
   exact hk (hset (hset h (d1, g) none) (d, cnt d) (some (.rows (tySize P (elemTy P t)) ((rows.drop 0).take rows.length ++ rows2)))) (by rw [hset_self, List.drop_zero, List.take_length]) fun k' h1 h2 => by
     rw [hset_ne h1, hset_ne (by intro e; exact h2 (by rw [e]; simp [keyOf]))]
end
end Go.Pv
namespace Go.Pv
open Go Go.RowKit
def staticR (ops : Array Oper) (R : List Nat) : Bool := okR ops R && (List.range ops.size).all fun j => (List.range j).all fun i =>
 (R.getD j 0).testBit i || (((do let a ← ops[i]?; let b ← ops[j]?; pure (a.apart ops b && (siteOf a != siteOf b || (a.dst.isNone && b.dst.isNone)))) : Option Bool).getD false)
theorem staticR_ok {ops : Array Oper} {R : List Nat} (h : staticR ops R = true) : staticB ops = true := by
 unfold staticR at h;rw [Bool.and_eq_true] at h;refine List.all_eq_true.2 fun j hj => List.all_eq_true.2 fun i hi => ?_;have h1 := List.all_eq_true.1 (List.all_eq_true.1 h.2 j hj) i hi;unfold pairB;rw [Bool.or_eq_true] at h1 ⊢;rcases h1 with h1 | h1
 · left; exact okR_waits h.1 ops.size j i (List.mem_range.1 hj) (List.mem_range.1 hj) h1
 · right; exact h1
theorem g_endR {P : Program} {K : PS → Prop} {r : Nat → PV} {h : Heap} {cnt : Nat → Nat} {ops : Array Oper} {i : Nat} {G : Nat → Bool} {dr : Bool} {ds : List Nat} (R : List Nat) (hs : staticR ops R = true) (hd : guardedOf ops.toList = ds) (hk : K ⟨deadT r ds, h, cnt⟩) : gRun P ops dr K [] i ⟨r, h, cnt⟩ G :=
 g_end (by rw [staticR_ok hs]; simp) hd hk
end Go.Pv
namespace Go.Pv
open Go
section
variable {P : Program} {h : Heap} {key : Key} {x y z : Operand} {t t' : TypeId} {v : PV} {K : PS → Prop} {d : Nat} {ty : TypeId} {pos : String} {aft : Array Edge} {gd : Option (Nat × Bool)} {rest : List Oper} {r : Nat → PV} {cnt : Nat → Nat}
end
section
variable {P : Program} {K : PS → Prop} {d : Nat} {op : Op} {ty : TypeId} {pos : String} {aft : Array Edge} {rest : List Oper} {r : Nat → PV} {h : Heap} {cnt : Nat → Nat} {ops : Array Oper} {i : Nat} {G : Nat → Bool} {dd : Bool} {x y : Operand} {t : TypeId}
end
end Go.Pv
namespace Go.Pv
open Go Go.RowKit
section
variable {P : Program} {ρ : Operand → PV} {h : Heap} {key : Key} {x y : Operand} {t : TypeId}
end
section
variable {α β : Type} [DecidableEq α] {f : α → PV} {g : β → PV}
def StampAt (h : Heap) (k : Key) (f : α → PV) (g : β → PV) (l : List (α × β)) (a : α) (s : Nat) : Prop :=
 ∃ bs clk, h k = some (.map (entsOf f g l) bs clk) ∧ bs.length = (entsOf f g l).length ∧ bs.Nodup ∧ (∀ b ∈ bs, b < clk) ∧ ∀ v, setStamp (s : Int) (g v) (entsOf f g l) bs = some (entsOf f g (aSet a v l))
theorem aSet_eq {a : α} {u : β} {e : α × β} {l : List (α × β)} (h : a = e.1) : aSet a u (e :: l) = (a, u) :: l := by simp [aSet, h]
theorem aSet_ne {a : α} {u : β} {e : α × β} {l : List (α × β)} (h : ¬ a = e.1) : aSet a u (e :: l) = e :: aSet a u l := by simp [aSet, h]
theorem aSet_aSet {a : α} {u v : β} : ∀ l : List (α × β), aSet a v (aSet a u l) = aSet a v l
 | [] => by simp [aSet]
 | e :: l => by
   by_cases he : a = e.1
   · rw [aSet_eq he, aSet_eq he, aSet_eq (e := (a, u)) rfl]
   · rw [aSet_ne he, aSet_ne he, aSet_ne he, aSet_aSet l]
theorem aSet_len {a : α} {u v : β} : ∀ l : List (α × β), (aSet a u l).length = (aSet a v l).length
 | [] => by simp [aSet]
 | e :: l => by
   by_cases he : a = e.1
   · rw [aSet_eq he, aSet_eq he]; rfl
   · rw [aSet_ne he, aSet_ne he, List.length_cons, List.length_cons, aSet_len l]
theorem stampOf_mem {k : PV} : ∀ (es : List (PV × PV)) (bs : List Nat) (clk : Nat), stampOf k es bs clk ∈ bs ∨ stampOf k es bs clk = clk
 | [], _, _ => .inr (by simp [stampOf])
 | _ :: _, [], _ => .inr (by simp [stampOf])
 | e :: es, b :: bs, clk => by
   unfold stampOf;split
   · exact .inl List.mem_cons_self
   · exact (stampOf_mem es bs clk).imp_left (List.mem_cons_of_mem _)
theorem stampOf_set (hf : ∀ a b, keyEq (f a) (f b) = decide (a = b)) (a : α) (u : β) : ∀ (l : List (α × β)) (bs : List Nat) (clk : Nat), bs.length = l.length → bs.Nodup → (∀ b ∈ bs, b < clk) →
   ∀ v, setStamp (stampOf (f a) (entsOf f g l) bs clk : Int) (g v) (entsOf f g (aSet a u l)) (stB (f a) (entsOf f g l) bs clk) = some (entsOf f g (aSet a v l))
 | [], bs, clk, hl, _, _, v => by
   have : bs = [] := List.length_eq_zero_iff.1 hl;subst this;simp [entsOf, aSet, stampOf, stB, setStamp, mapFind]
 | e :: l, [], clk, hl, _, _, v => by simp at hl
 | e :: l, b :: bs, clk, hl, hn, hb, v => by
   have hn' := List.nodup_cons.1 hn;have hfe := hf a e.1;show setStamp (stampOf (f a) ((f e.1, g e.2) :: entsOf f g l) (b :: bs) clk : Int) (g v) (entsOf f g (aSet a u (e :: l))) (stB (f a) ((f e.1, g e.2) :: entsOf f g l) (b :: bs) clk) = some (entsOf f g (aSet a v (e :: l)));by_cases he : a = e.1
   · subst he;simp only [decide_true] at hfe;simp [stampOf, hfe, stB, mapFind, aSet, entsOf, setStamp]
   · rw [decide_eq_false he] at hfe;have ih := stampOf_set hf a u l bs clk (by simpa using hl) hn'.2 (fun x hx => hb x (List.mem_cons_of_mem _ hx)) v;have hs : stampOf (f a) ((f e.1, g e.2) :: entsOf f g l) (b :: bs) clk = stampOf (f a) (entsOf f g l) bs clk := by simp [stampOf, hfe]
     have hB : stB (f a) ((f e.1, g e.2) :: entsOf f g l) (b :: bs) clk = b :: stB (f a) (entsOf f g l) bs clk := by
       unfold stB;have : mapFind (f a) ((f e.1, g e.2) :: entsOf f g l) = mapFind (f a) (entsOf f g l) := by simp [mapFind, hfe]
       rw [this]; split <;> rfl
     have hne : ¬ (b : Int) = (stampOf (f a) (entsOf f g l) bs clk : Int) := fun h => by
       have h' : b = stampOf (f a) (entsOf f g l) bs clk := by omega
       rcases stampOf_mem (k := f a) (entsOf f g l) bs clk with h2 | h2
       · rw [← h'] at h2; exact hn'.1 h2
       · have := hb b List.mem_cons_self; omega
     rw [hs, hB];have e1 : entsOf f g (aSet a u (e :: l)) = (f e.1, g e.2) :: entsOf f g (aSet a u l) := by simp [aSet, he, entsOf]
     have e2 : entsOf f g (aSet a v (e :: l)) = (f e.1, g e.2) :: entsOf f g (aSet a v l) := by simp [aSet, he, entsOf]
     rw [e1, e2];unfold setStamp;rw [if_neg (by simpa using hne), ih]; rfl
theorem e_mentry {P : Program} {ρ : Operand → PV} {h : Heap} {key : Key} {x y : Operand} {t : TypeId} {kt et : TypeId} {k : Key} {l : List (α × β)} {a : α} {z : β} (hf : ∀ a b, keyEq (f a) (f b) = decide (a = b)) (hko : ∀ a, keyOk P kt (f a)) (hx : ρ x = .map k) (hy : ρ y = f a) (hm : MapAt h k (entsOf f g l)) (ht : mapTy P t = some (kt, et)) (hz : zeroFit P et = true) (hzv : zeroVal P et = g z) (hmv : ∀ b, mval (g b) = true) :
   ∃ (s : Nat) (o : PObj), eff P ρ h key (.mapEntry t x y) = ⟨True, .tup [g ((aGet a l).getD z), .int s], [(k, some o)], [k], false⟩ ∧ ∀ h' : Heap, h' k = some o → StampAt h' k f g (aSet a ((aGet a l).getD z) l) a s := by
 obtain ⟨bs, clk, h1, h2, h3, h4⟩ := hm;have hl : bs.length = l.length := by rw [h2]; simp [entsOf]
 have hv : (mapFind (f a) (entsOf f g l)).getD (zeroVal P et) = g ((aGet a l).getD z) := by
   rw [mapFind_of hf, hzv]; cases aGet a l <;> rfl
 refine ⟨stampOf (f a) (entsOf f g l) bs clk, .map (entsOf f g (aSet a ((aGet a l).getD z) l)) (stB (f a) (entsOf f g l) bs clk) (stC (f a) (entsOf f g l) clk), ?_, fun h' hh => ?_⟩
 · simp only [eff, mapEntryEff, hx, hy, ht, h1, hv, mapSet_of hf];simp [hko a, hz, hmv];exact fun u w hu => ents_ok (g := g) (l := l) hko (u, w) hu
 · have hq := MapAt.set (f := f) (g := g) (h := h) (k := k) (l := l) hf ⟨bs, clk, h1, h2, h3, h4⟩ a ((aGet a l).getD z);obtain ⟨bs', clk', q1, q2, q3, q4⟩ := hq;simp only [hset, if_true, h1, mSet, mapSet_of hf, Option.some.injEq, PObj.map.injEq] at q1;obtain ⟨_, rfl, rfl⟩ := q1;refine ⟨_, _, hh, q2, q3, q4, fun v => ?_⟩;rw [stampOf_set hf a _ l bs clk hl h3 h4 v, aSet_aSet]
theorem e_estore {P : Program} {ρ : Operand → PV} {h : Heap} {key : Key} {x y w : Operand} {t : TypeId} {k : Key} {l : List (α × β)} {a : α} {b : β} {s : Nat} (hx : ρ x = .map k) (hy : ρ y = .int s) (hw : ρ w = g b) (hm : StampAt h k f g l a s) (hmv : mval (g b) = true) :
   ∃ o : PObj, eff P ρ h key (.entryStore t x y w) = ⟨True, .dead, [(k, some o)], [k], false⟩ ∧ ∀ h' : Heap, h' k = some o → (l.map (·.1)).length = ((aSet a b l).map (·.1)).length → MapAt h' k (entsOf f g (aSet a b l)) := by
 obtain ⟨bs, clk, h1, h2, h3, h4, h5⟩ := hm;refine ⟨.map (entsOf f g (aSet a b l)) bs clk, ?_, fun h' hh hl => ⟨bs, clk, hh, ?_, h3, h4⟩⟩
 · simp only [eff, entryStoreEff, hx, hy, hw, h1, h5 b];simp [hmv]
 · rw [h2]; simpa [entsOf] using hl
end
section
variable {α β : Type} [DecidableEq α] {f : α → PV} {g : β → PV}
variable {P : Program} {K : PS → Prop} {d : Nat} {ty : TypeId} {pos : String} {aft : Array Edge} {gd : Option (Nat × Bool)} {rest : List Oper} {r : Nat → PV} {h : Heap} {cnt : Nat → Nat} {ops : Array Oper} {i : Nat} {G : Nat → Bool} {dd : Bool} {x y w : Operand} {t : TypeId}
theorem s_mentry {kt et : TypeId} {m q : Nat} {l : List (α × β)} {a : α} {z : β} {ts : List Ft} (hf : ∀ a b, keyEq (f a) (f b) = decide (a = b)) (hko : ∀ a, keyOk P kt (f a)) (hg : gobB ops r G gd = true) (hgv : gval ops ⟨⟨r, h, cnt⟩, G⟩ gd = true) (hv : validB r G (.mapEntry t x y) = true) (hx : ev r x = .map (m, q)) (hy : ev r y = f a) (hm : MapAt h (m, q) (entsOf f g l)) (ht : mapTy P t = some (kt, et)) (hz : zeroFit P et = true) (hzv : zeroVal P et = g z) (hmv : ∀ b, mval (g b) = true)
   (hk : ∀ (h' : Heap) (s : Nat), StampAt h' (m, q) f g (aSet a ((aGet a l).getD z) l) a s → (∀ k' : Key, k' ≠ (m, q) → h' k' = h k') → sRun P ops dd K rest (i + 1) ⟨setT r d (.tup [g ((aGet a l).getD z), .int s]), h', cnt⟩ (setB G d true) (ts ++ [⟨i, [m], [m]⟩])) :
   sRun P ops dd K (⟨some d, .mapEntry t x y, ty, pos, aft, gd⟩ :: rest) i ⟨r, h, cnt⟩ G ts := by
 obtain ⟨s, o, he, hS⟩ := e_mentry (key := (d, cnt d)) hf hko hx hy hm ht hz hzv hmv
 exact s_any [m] [m] hg hgv (by rw [he]; simp) (by rw [he]; simp) rfl hv rfl (by rw [he]; trivial) (by
   rw [he];exact hk (hset h (m, q) (some o)) s (hS _ (hset_self _ _ _)) fun k' hk' => hset_ne hk')
theorem s_estore {m q : Nat} {l : List (α × β)} {a : α} {b u : β} {s : Nat} {ts : List Ft} (hv : validB r G (.entryStore t x y w) = true) (hx : ev r x = .map (m, q)) (hy : ev r y = .int s) (hw : ev r w = g b) (hm : StampAt h (m, q) f g (aSet a u l) a s) (hmv : mval (g b) = true)
   (hk : ∀ h' : Heap, MapAt h' (m, q) (entsOf f g (aSet a b l)) → (∀ k' : Key, k' ≠ (m, q) → h' k' = h k') → sRun P ops dd K rest (i + 1) ⟨r, h', cnt⟩ G (ts ++ [⟨i, [m], [m]⟩])) :
   sRun P ops dd K (⟨none, .entryStore t x y w, ty, pos, aft, none⟩ :: rest) i ⟨r, h, cnt⟩ G ts := by
 obtain ⟨o, he, hM⟩ := e_estore (P := P) (key := (999983, cnt 999983)) (t := t) hx hy hw hm hmv;refine s_store [m] (by simp) rfl hv he trivial ?_
 refine hk _ (by
   have := hM (hset h (m, q) (some o)) (hset_self _ _ _) (by rw [aSet_aSet, List.length_map, List.length_map]; exact aSet_len l);rw [aSet_aSet] at this; exact this) fun k' hk' => hset_ne hk'
end
end Go.Pv
namespace Go.Pv
open Go Go.RowKit
section
variable {P : Program} {K : PS → Prop} {d : Nat} {op : Op} {ty : TypeId} {pos : String} {aft : Array Edge} {rest : List Oper} {r : Nat → PV} {h : Heap} {cnt : Nat → Nat} {ops : Array Oper} {i : Nat} {G : Nat → Bool}
def xS (P : Program) (ops : Array Oper) (K : PS → Prop) (rest : List Oper) (i : Nat) (σ : GS) (tr : List XIt) : Prop :=
 ∃ (L : List XIt) (σ' : GS), XRun P ops L σ σ' ∧ L.map (·.i) = List.range' i rest.length ∧ (tr ++ L).Pairwise (XIndep ops) ∧ K (fin ops.toList σ'.s)
theorem keyless_key {ρ : Operand → PV} {h : Heap} {k k' : Key} {op : Op} (hk : keyless op = true) : eff P ρ h k op = eff P ρ h k' op := by
 cases op <;> first | rfl | (simp [keyless] at hk)
theorem x_end {tr : List XIt} (hp : tr.Pairwise (XIndep ops)) (hd : guardedOf ops.toList = []) (hk : K ⟨r, h, cnt⟩) : xS P ops K [] i ⟨⟨r, h, cnt⟩, G⟩ tr := by
 refine ⟨[], _, .nil _, rfl, by simpa using hp, ?_⟩;unfold fin;rw [fin_deadT, hd];have : deadT r [] = r := by funext j; simp [deadT]
 rw [this]; exact hk
theorem XAt.next {x : XIt} {σ : GS} {tr : List XIt} (hx : XAt P ops x σ) (hi : x.i = i) {o : Oper} (hk : xS P ops K rest (i + 1) (stepX σ x) (tr ++ [x])) : xS P ops K (o :: rest) i σ tr := by
 obtain ⟨L, σ', h1, h2, h3, h4⟩ := hk;refine ⟨x :: L, σ', .cons hx h1, ?_, by simpa using h3, h4⟩;rw [List.map_cons, h2, hi, List.length_cons, List.range'_succ]
theorem x_step {ob : Prop} {v : PV} {rd : List Key} {tr : List XIt} (ho : ops[i]? = some ⟨some d, op, ty, pos, aft, none⟩) (hc : callOf r op = none) (hv : validB r G op = true) (he : eff P (ev r) h (d, cnt d) op = ⟨ob, v, [], rd, false⟩) (hob : ob)
   (hk : xS P ops K rest (i + 1) ⟨⟨setT r d v, h, cnt⟩, setB G d true⟩ (tr ++ [⟨i, ⟨some d, op, ty, pos, aft, none⟩, true, ⟨ob, v, [], rd, false⟩, ⟨i, rd, []⟩, none, fun h' => eff P (ev r) h' (0, 0) op⟩])) :
   xS P ops K (⟨some d, op, ty, pos, aft, none⟩ :: rest) i ⟨⟨r, h, cnt⟩, G⟩ tr := by
 refine XAt.next (x := ⟨i, ⟨some d, op, ty, pos, aft, none⟩, true, ⟨ob, v, [], rd, false⟩, ⟨i, rd, []⟩, none, fun h' => eff P (ev r) h' (0, 0) op⟩) ⟨⟨ho, rfl, trivial, rfl, .inl ⟨hc, fun _ => ⟨validB_ok hv, hob⟩, (fun h => by cases h), ?_, rfl, rfl⟩⟩, fun hkl _ h' key => keyless_key hkl⟩ rfl ?_
 · show _ = effG true _;simp only [siteOf, Option.getD_some, effG, if_true];exact he.symm
 · show xS P ops K rest (i + 1) ⟨⟨putR r (some d) v, _, _⟩, setG G (some d) true⟩ _;rw [putR_setT, setG_setB]; exact hk
theorem x_hcall {f : FuncId} {args : List PV} {v : PV} {ha : Heap} {ca : Nat → Nat} {tr : List XIt} (ho : ops[i]? = some ⟨some d, op, ty, pos, aft, none⟩) (hc : callOf r op = some (f, args)) (hv : validB r G op = true) (hp : HCallsR P f args h cnt fun v' h' c' => v' = v ∧ h' = ha ∧ c' = ca)
   (hk : xS P ops K rest (i + 1) ⟨⟨setT r d v, ha, ca⟩, setB G d true⟩ (tr ++ [⟨i, ⟨some d, op, ty, pos, aft, none⟩, true, .val True v, ⟨i, [], []⟩, some (h, ha, ca), fun _ => .val True v⟩])) :
   xS P ops K (⟨some d, op, ty, pos, aft, none⟩ :: rest) i ⟨⟨r, h, cnt⟩, G⟩ tr := by
 refine XAt.next (x := ⟨i, ⟨some d, op, ty, pos, aft, none⟩, true, .val True v, ⟨i, [], []⟩, some (h, ha, ca), fun _ => .val True v⟩) ⟨ho, trivial, rfl, validB_ok hv, rfl, f, args, hc, hp⟩ rfl ?_;show xS P ops K rest (i + 1) ⟨⟨putR r (some d) v, ha, ca⟩, setG G (some d) true⟩ _;rw [putR_setT, setG_setB]; exact hk
theorem xfree_nn {x y : XIt} (hx : x.hc = none) (hy : y.hc = none) (ha : x.o.apart ops y.o = true) (hs0 : Nat.beq (siteOf x.o) (siteOf y.o) = false) (h1 : x.ft.wr = []) (h2 : y.ft.wr = []) : XFree ops x y := by
 refine ⟨ha, ?_⟩;rw [hx, hy];exact ⟨.inl (Nat.ne_of_beq_eq_false hs0), by rw [h1]; exact fun k hk => by simp at hk, .inr (by rw [h2]; exact fun k hk => by simp at hk), by rw [h1]; exact fun k hk => by simp at hk⟩
theorem xfree_cn {x y : XIt} {hb ha : Heap} {c : Nat → Nat} (hx : x.hc = some (hb, ha, c)) (hy : y.hc = none) (hap : x.o.apart ops y.o = true) (hc : Calm y hb ha) : XFree ops x y := by
 refine ⟨hap, ?_⟩;rw [hx, hy];exact hc
theorem load_same {ρ : Operand → PV} {x : Operand} {t : TypeId} {k k' : Key} {sz i j : Nat} {hb ha : Heap} (hx : ρ x = .ptr k sz i j) (hk : ha k = hb k) : eff P ρ hb k' (.load t x) = eff P ρ ha k' (.load t x) := by
 simp only [eff, hx, loadEff, hk]
theorem pwp_seq_x {Q : Exit → PS → Prop} {b : Code} {id : Nat} {ops : Array Oper} (hx : ∀ K : PS → Prop, (∀ s', pwp P b Q s' → K s') → xS P ops K ops.toList 0 ⟨⟨r, h, cnt⟩, fun _ => true⟩ []) : pwp P (.seq (.region id ops true) b) Q ⟨r, h, cnt⟩ :=
 pwp_seq_k fun K hK => by
   show pRegion P ops true K _;unfold pRegion;intro _;rw [show (noGuards ops && !true) = false by simp];obtain ⟨L, σ', h1, h2, h3, h4⟩ := hx K hK;exact .inr ⟨rfl, L, σ', h1, by rw [h2, List.range_eq_range']; simp, by simpa using h3, h4⟩
end
end Go.Pv
namespace Go.Pv
open Go
section
variable {P : Program} {K : PS → Prop} {d : Nat} {ty t : TypeId} {pos : String} {aft : Array Edge} {gd : Option (Nat × Bool)} {rest : List Oper} {r : Nat → PV} {h : Heap} {cnt : Nat → Nat} {op : Op} {x y : Operand}
def gen : PV → Nat
 | .ref k _ _ _ => k.2
 | _ => 0
structure NP {α : Type} (h : Heap) (d : Nat) (sz : Nat) (f : α → List PV) (vs : List PV) (ls : List (List α)) : Prop where
 len : vs.length = ls.length
 at_ : ∀ (i : Nat) (v : PV) (l : List α), vs[i]? = some v → ls[i]? = some l → SliceAt h d v sz (l.map f)
 one : ∀ (i j : Nat) (v : PV), vs[i]? = some v → vs[j]? = some v → v ≠ .nil → i = j
variable {α : Type} {f : α → List PV} {sz : Nat} {vs : List PV} {ls : List (List α)}
theorem NP.upd {h' : Heap} (hn : NP h d sz f vs ls) {i : Nat} {v v' : PV} {l' : List α} (hv : vs[i]? = some v) (hs : SliceAt h' d v' sz (l'.map f))
   (hfar : ∀ (j : Nat) (w : PV) (g n : Nat), j ≠ i → vs[j]? = some w → w = .ref (d, g) sz 0 n → h' (d, g) = h (d, g) ∧ v' ≠ w) : NP h' d sz f (vs.set i v') (ls.set i l') := by
 have hi : i < vs.length := (List.getElem?_eq_some_iff.1 hv).1;refine ⟨by simp [hn.len], fun j w l h1 h2 => ?_, fun j k w h1 h2 h3 => ?_⟩
 · rw [List.getElem?_set] at h1 h2;by_cases hj : i = j
   · subst hj;rw [if_pos rfl, if_pos hi] at h1;rw [if_pos rfl, if_pos (by rw [← hn.len]; exact hi)] at h2;cases h1; cases h2; exact hs
   · rw [if_neg hj] at h1 h2;rcases hn.at_ j w l h1 h2 with h4 | ⟨g, h4, h5⟩
     · exact .inl h4
     · exact .inr ⟨g, h4, (hfar j w g _ (fun e => hj e.symm) h1 h4).1.trans h5⟩
 · rw [List.getElem?_set] at h1 h2
   have ref : ∀ (j : Nat) (w : PV), vs[j]? = some w → w ≠ .nil → ∃ g n, w = .ref (d, g) sz 0 n := fun j w hw hne => by
     have hj : j < ls.length := by rw [← hn.len]; exact (List.getElem?_eq_some_iff.1 hw).1
     rcases hn.at_ j w _ hw (List.getElem?_eq_getElem hj) with ⟨_, h4⟩ | ⟨g, h4, _⟩
     · exact absurd h4 hne
     · exact ⟨g, _, h4⟩
   by_cases hj : i = j
   · subst hj;rw [if_pos rfl, if_pos hi] at h1;cases h1;by_cases hk : i = k
     · exact hk
     · rw [if_neg hk] at h2;obtain ⟨g, n, hg⟩ := ref k _ h2 h3;exact absurd rfl (hfar k _ g n (fun e => hk e.symm) h2 hg).2
   · rw [if_neg hj] at h1;by_cases hk : i = k
     · subst hk;rw [if_pos rfl, if_pos hi] at h2;cases h2;obtain ⟨g, n, hg⟩ := ref j _ h1 h3;exact absurd rfl (hfar j _ g n (fun e => hj e.symm) h1 hg).2
     · rw [if_neg hk] at h2;exact hn.one j k w h1 h2 h3
end
section
variable {P : Program} {K : PS → Prop} {d : Nat} {op : Op} {ty : TypeId} {pos : String} {aft : Array Edge} {gd : Option (Nat × Bool)} {rest : List Oper} {r : Nat → PV} {h : Heap} {cnt : Nat → Nat} {ops : Array Oper} {i : Nat} {G : Nat → Bool} {dd : Bool}
end
end Go.Pv
namespace Go.Pv
open Go
section
variable {P : Program} {K : PS → Prop} {d : Nat} {op : Op} {ty : TypeId} {pos : String} {aft : Array Edge} {gd : Option (Nat × Bool)} {rest : List Oper} {r : Nat → PV} {h : Heap} {cnt : Nat → Nat} {x y z : Operand} {v : PV} {a : Value}
theorem p_e {rd : List Key} (hc : callOf r op = none) (he : eff P (ev r) h (d, cnt d) op = ⟨True, v, [], rd, false⟩) (hk : pOps P K rest ⟨setT r d v, h, cnt⟩) : pOps P K (⟨some d, op, ty, pos, aft, gd⟩ :: rest) ⟨r, h, cnt⟩ := p_step hc he trivial hk
theorem p_mv (hx : ev r x = v) (hk : pOps P K rest ⟨setT r d v, h, cnt⟩) : pOps P K (⟨some d, .move x, ty, pos, aft, gd⟩ :: rest) ⟨r, h, cnt⟩ := p_step rfl (e_move hx) trivial hk
theorem p_as (hx : ev r x = v) (hk : pOps P K rest ⟨setT r d v, h, cnt⟩) : pOps P K (⟨some d, .assign x, ty, pos, aft, gd⟩ :: rest) ⟨r, h, cnt⟩ := p_step rfl (e_assign hx) trivial hk
theorem p_mS (hx : ev r x = .sc a) (hk : pOps P K rest ⟨setT r d (.sc a), h, cnt⟩) : pOps P K (⟨some d, .move x, ty, pos, aft, gd⟩ :: rest) ⟨r, h, cnt⟩ := p_mv hx hk
theorem p_aS (hx : ev r x = .sc a) (hk : pOps P K rest ⟨setT r d (.sc a), h, cnt⟩) : pOps P K (⟨some d, .assign x, ty, pos, aft, gd⟩ :: rest) ⟨r, h, cnt⟩ := p_as hx hk
variable {ops : Array Oper} {dr : Bool} {G : Nat → Bool} {i : Nat} {ts : List Ft}
def wantB (ops : Array Oper) (r : Nat → PV) (h : Heap) (cnt : Nat → Nat) (G : Nat → Bool) (gd : Option (Nat × Bool)) (op : Op) : Bool := (callOf r op).isNone && (gobB ops r G gd && (gval ops ⟨⟨r, h, cnt⟩, G⟩ gd && validB r G op))
theorem wantB_1 (hb : wantB ops r h cnt G gd op = true) : callOf r op = none ∧ gobB ops r G gd = true ∧ gval ops ⟨⟨r, h, cnt⟩, G⟩ gd = true ∧ validB r G op = true := by
 simp only [wantB, Bool.and_eq_true, Option.isNone_iff_eq_none] at hb; exact hb
theorem g_e {rd : List Key} (hb : wantB ops r h cnt G gd op = true) (he : eff P (ev r) h (d, cnt d) op = ⟨True, v, [], rd, false⟩) (hk : gRun P ops dr K rest (i + 1) ⟨setT r d v, h, cnt⟩ (setB G d true)) : gRun P ops dr K (⟨some d, op, ty, pos, aft, gd⟩ :: rest) i ⟨r, h, cnt⟩ G :=
 g_step (wantB_1 hb).2.1 (wantB_1 hb).2.2.1 (wantB_1 hb).1 (wantB_1 hb).2.2.2 he trivial hk
theorem g_mS (hb : wantB ops r h cnt G gd (.move x) = true) (hx : ev r x = .sc a) (hk : gRun P ops dr K rest (i + 1) ⟨setT r d (.sc a), h, cnt⟩ (setB G d true)) : gRun P ops dr K (⟨some d, .move x, ty, pos, aft, gd⟩ :: rest) i ⟨r, h, cnt⟩ G := g_e hb (e_move hx) hk
theorem g_aS (hb : wantB ops r h cnt G gd (.assign x) = true) (hx : ev r x = .sc a) (hk : gRun P ops dr K rest (i + 1) ⟨setT r d (.sc a), h, cnt⟩ (setB G d true)) : gRun P ops dr K (⟨some d, .assign x, ty, pos, aft, gd⟩ :: rest) i ⟨r, h, cnt⟩ G := g_e hb (e_assign hx) hk
theorem g_pT (hb : wantB ops r h cnt G gd (.pick x y z) = true) (hx : ev r x = .bool true) (hy : ev r y = .sc a) (hk : gRun P ops dr K rest (i + 1) ⟨setT r d (.sc a), h, cnt⟩ (setB G d true)) : gRun P ops dr K (⟨some d, .pick x y z, ty, pos, aft, gd⟩ :: rest) i ⟨r, h, cnt⟩ G := g_e hb (e_pickT hx hy) hk
theorem g_pF (hb : wantB ops r h cnt G gd (.pick x y z) = true) (hx : ev r x = .bool false) (hy : ev r z = .sc a) (hk : gRun P ops dr K rest (i + 1) ⟨setT r d (.sc a), h, cnt⟩ (setB G d true)) : gRun P ops dr K (⟨some d, .pick x y z, ty, pos, aft, gd⟩ :: rest) i ⟨r, h, cnt⟩ G := g_e hb (e_pickF hx hy) hk
end
section
variable {P : Program} {ρ : Operand → PV} {h : Heap} {key : Key} {x y z : Operand} {t t' : TypeId} {v : PV}
abbrev pl2 : List (Nat × Nat × Bool) := [(0, 1, false), (1, 1, false)]
abbrev pl4 : List (Nat × Nat × Bool) := [(0, 1, false), (1, 1, false), (2, 1, false), (3, 1, false)]
abbrev pl6 : List (Nat × Nat × Bool) := [(0, 1, false), (1, 1, false), (2, 1, false), (3, 1, false), (4, 1, false), (5, 1, false)]
theorem e_faQ {k : Key} {sz i j f : Nat} (pl : List (Nat × Nat × Bool)) (hx : ρ x = .ptr k sz i j) (ht : structOk P t = true := by kernel_rfl) (hp : places P t = pl := by kernel_rfl) (hf : f < pl.length := by decide) :
   eff P ρ h key (.fieldAddr t x f) = ⟨True, .ptr k sz i (j + (pl.getD f (0, 0, false)).1), [], [], false⟩ := e_faP hx ht hp hf rfl
theorem e_fb {tt : Bool} {sz : Nat} {rows : Rows} {i j f : Nat} (pl : List (Nat × Nat × Bool)) (hx : ρ x = .lptr tt sz rows i j) (ht : structOk P t = true := by kernel_rfl) (hp : places P t = pl := by kernel_rfl) (hf : f < pl.length := by decide) :
   eff P ρ h key (.fieldAddr t x f) = ⟨True, .lptr tt sz rows i (j + (pl.getD f (0, 0, false)).1), [], [], false⟩ := e_fa hx ht hp hf rfl
theorem e_ixL {tt : Bool} {sz : Nat} {rows : Rows} {k : IntKind} {i : Int} (hx : ρ x = .lit tt sz rows) (hy : ρ y = .sc (.int k i)) (hi : 0 ≤ i ∧ i < rows.length := by first | omega | (simp only [List.length_map]; omega)) (ht : sliceOk P t = true := by kernel_rfl) (hs : tySize P (elemTy P t) = sz := by kernel_rfl) :
   eff P ρ h key (.indexAddr t x y) = ⟨True, .lptr tt sz rows i.toNat 0, [], [], false⟩ := e_ixa hx hy ht hs hi
theorem e_lH {k : Key} {sz i j : Nat} {rs : Rows} (hx : ρ x = .ptr k sz i j) (hk : h k = some (.rows sz rs)) (hv : cellAt rs i j = v) (hg : tyAgg P t = false := by kernel_rfl) (hs : tySize P t = 1 := by kernel_rfl) (ht : tyOk P t = true := by kernel_rfl) (hi : i < rs.length := by exact Nat.zero_lt_one) (hj : j < sz := by decide) :
   eff P ρ h key (.load t x) = ⟨True, v, [], [k], false⟩ := e_loadH hx hk hg hs ht hi hj hv
theorem e_adL {a b : Int} (hx : ρ x = .int a) (hy : ρ y = .int b) (h1 : -9223372036854775808 ≤ a + b ∧ a + b ≤ 9223372036854775807 := by first | omega | (simp only [List.length_map] at *; omega)) : eff P ρ h key (.binOp .add t x y t') = ⟨True, .int (a + b), [], [], false⟩ := e_add hx hy h1
end
theorem zz : (∀ (p : Prop) [Decidable p], (decide p = true) = p) ∧ (∀ (p : Prop) [Decidable p], decide p = false ↔ ¬ p) ∧ (∀ b : Bool, ((!b) = true) = (b = false)) ∧ (∀ b : Bool, ((!b) = false) = (b = true)) ∧ (∀ a b : Int, ¬ a < b ↔ b ≤ a) ∧ (∀ a b : Int, ¬ a ≤ b ↔ b < a) ∧
   (∀ (α : Type) (a b : α), (a ≠ b) = ¬ (a = b)) ∧ (∀ (p : Prop) [Decidable p], ¬ ¬ p ↔ p) ∧ (∀ (α β : Type) (l : List α) (f : α → β), (l.map f).length = l.length) ∧ (∀ a b : Bool, ((a || b) = true) = (a = true ∨ b = true)) ∧ (∀ a b : Bool, ((a && b) = true) = (a = true ∧ b = true)) ∧
   (∀ a b : Bool, (a || b) = false ↔ a = false ∧ b = false) ∧ (∀ a b : Bool, (a && b) = false ↔ a = false ∨ b = false) :=
 ⟨fun _ _ => decide_eq_true_eq, fun _ _ => decide_eq_false_iff_not, Bool.not_eq_true', Bool.not_eq_false', fun _ _ => Int.not_lt, fun _ _ => Int.not_le, fun _ _ _ => rfl, fun _ _ => Decidable.not_not, fun _ _ l f => List.length_map f, Bool.or_eq_true, Bool.and_eq_true, fun _ _ => Bool.or_eq_false_iff, fun _ _ => Bool.and_eq_false_iff⟩
end Go.Pv
namespace Go.Pv
open Go
variable {P : Program}
section
variable {K : PS → Prop} {d : Nat} {op : Op} {ty : TypeId} {pos : String} {aft : Array Edge} {gd : Option (Nat × Bool)} {rest : List Oper} {r : Nat → PV} {h : Heap} {cnt : Nat → Nat} {ops : Array Oper} {i : Nat} {G : Nat → Bool} {dd dr : Bool}
end
end Go.Pv
namespace Go.Pv
open Go Go.RowKit
section
variable {P : Program} {K : PS → Prop}
end
end Go.Pv
namespace Go.Pv
section
variable {P : Program} {ρ : Operand → PV} {h : Heap} {key : Key} {x y z : Operand} {t t' : TypeId} {v : PV}
theorem xI {ops : Array Oper} {x y : XIt} (hx : x.hc = none := by exact rfl) (hy : y.hc = none := by exact rfl) (ha : x.o.apart ops y.o = true := by kernel_rfl) (hs0 : Nat.beq (siteOf x.o) (siteOf y.o) = false := by exact rfl) (h1 : x.ft.wr = [] := by exact rfl) (h2 : y.ft.wr = [] := by exact rfl) : XIndep ops x y := .inr (xfree_nn hx hy ha hs0 h1 h2)
theorem hzM {a b x y : Nat} {o o' : Option PObj} (hn : Nat.beq a b = false) (e : h (a, x) = o') : hset h (b, y) o (a, x) = o' := (hset_ne (key_ne hn)).trans e
theorem e_ixR {k : Key} {sz len : Nat} {kd : IntKind} {i : Int} (hx : ρ x = .ref k sz 0 len) (hy : ρ y = .sc (.int kd i)) (ht : sliceOk P t = true := by kernel_rfl) (hs : tySize P (elemTy P t) = sz := by kernel_rfl) (hi : 0 ≤ i ∧ i < len := by omega) : eff P ρ h key (.indexAddr t x y) = ⟨True, .ptr k sz i.toNat 0, [], [], false⟩ := e_ixaR0 hx hy ht hs hi
theorem e_lL {tt : Bool} {sz : Nat} {rows : Rows} {i j : Nat} (hx : ρ x = .lptr tt sz rows i j) (hv : cellAt rows i j = v) (hg : tyAgg P t = false := by kernel_rfl) (hs : tySize P t = 1 := by kernel_rfl) (ht : tyOk P t = true := by kernel_rfl) (hi : i < rows.length := by first | omega | (simp only [List.length_map]; omega)) (hj : j < sz := by decide) : eff P ρ h key (.load t x) = ⟨True, v, [], [], false⟩ := e_load hx hg hs ht hi hj hv
theorem e_lA {k : Key} {sz i j n : Nat} {rs : Rows} {cs : List PV} (hx : ρ x = .ptr k sz i j) (hk : h k = some (.rows sz rs)) (hg : tyAgg P t = true := by kernel_rfl) (hs : tySize P t = n := by kernel_rfl) (ht : tyOk P t = true := by kernel_rfl) (hi : i < rs.length := by exact Nat.zero_lt_one) (hj : j + n ≤ sz := by decide) (hv : aggAt rs i j n = cs := by exact rfl) : eff P ρ h key (.load t x) = ⟨True, .agg cs, [], [k], false⟩ := e_loadHA hx hk hg hs ht hi hj hv
theorem s_eR {K : PS → Prop} {d : Nat} {op : Op} {ty : TypeId} {pos : String} {aft : Array Edge} {gd : Option (Nat × Bool)} {rest : List Oper} {r : Nat → PV} {cnt : Nat → Nat} {ops : Array Oper} {i : Nat} {G : Nat → Bool} {dd : Bool} {rd : List Key} {ts : List Ft} (rs : List Nat) (hb : wantB ops r h cnt G gd op = true) (he : eff P (ev r) h (d, cnt d) op = ⟨True, v, [], rd, false⟩) (hk : sRun P ops dd K rest (i + 1) ⟨setT r d v, h, cnt⟩ (setB G d true) (ts ++ [⟨i, rs, []⟩])) (hrd : ∀ k ∈ rd, k.1 ∈ rs := by simp) : sRun P ops dd K (⟨some d, op, ty, pos, aft, gd⟩ :: rest) i ⟨r, h, cnt⟩ G ts :=
  s_step rs hrd (wantB_1 hb).2.1 (wantB_1 hb).2.2.1 (wantB_1 hb).1 (wantB_1 hb).2.2.2 he trivial hk
theorem lM {α β : Type _} {l : List α} (f : α → β) : (l.map f).length = l.length := List.length_map f
end
end Go.Pv
