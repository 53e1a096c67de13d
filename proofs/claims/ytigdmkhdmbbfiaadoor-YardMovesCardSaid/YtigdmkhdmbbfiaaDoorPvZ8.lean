/- Drawn regions whose places are told apart by more than the place in the text; calls that change memory in them; appends whose new key is known. -/
import Derived.Test.YtigdmkhdmbbfiaaDoorPvZ7
namespace Go.Pv
open Go Go.RowKit
section
variable {P : Program} {K : PS → Prop} {d : Nat} {op : Op} {ty : TypeId} {pos : String} {aft : Array Edge} {gd : Option (Nat × Bool)} {rest : List Oper} {r : Nat → PV} {h : Heap} {cnt : Nat → Nat} {ops : Array Oper} {i : Nat} {G : Nat → Bool} {dd : Bool} {vs : Key → Nat}

def FitsV (vs : Key → Nat) (tr : List Foot) (ts : List Ft) : Prop := tr.length = ts.length ∧ ∀ (j : Nat) (x : Foot) (t : Ft), tr[j]? = some x → ts[j]? = some t → x.i = t.i ∧ (∀ k ∈ x.rd, vs k ∈ t.rd) ∧ (∀ k ∈ x.wr, vs k ∈ t.wr)
theorem FitsV.snoc {tr : List Foot} {ts : List Ft} {x : Foot} {t : Ft} (hf : FitsV vs tr ts) (h1 : x.i = t.i) (h2 : ∀ k ∈ x.rd, vs k ∈ t.rd) (h3 : ∀ k ∈ x.wr, vs k ∈ t.wr) : FitsV vs (tr ++ [x]) (ts ++ [t]) := by
  refine ⟨by simp [hf.1], fun j y u hy hu => ?_⟩
  rw [List.getElem?_append] at hy hu
  by_cases hj : j < tr.length
  · rw [if_pos hj] at hy
    rw [if_pos (by rw [← hf.1]; exact hj)] at hu
    exact hf.2 j y u hy hu
  · rw [if_neg hj] at hy
    rw [if_neg (by rw [← hf.1]; exact hj)] at hu
    rw [hf.1] at hy
    cases hq : j - ts.length with
    | zero => rw [hq] at hy hu; simp at hy hu; subst hy; subst hu; exact ⟨h1, h2, h3⟩
    | succ m => rw [hq] at hy; simp at hy
theorem djV_ok {a b : List Nat} {u w : List Key} (hd : djB a b = true) (hu : ∀ k ∈ u, vs k ∈ a) (hw : ∀ k ∈ w, vs k ∈ b) : disjointK u w := fun k h1 h2 => by
  have := List.all_eq_true.1 (List.all_eq_true.1 hd _ (hu k h1)) _ (hw k h2)
  simp at this
theorem indAllV_ok : ∀ {ts : List Ft} {tr : List Foot}, indAll ops ts = true → FitsV vs tr ts → IndepAll ops tr
  | [], [], _, _ => trivial
  | [], _ :: _, _, hf => by have := hf.1; simp at this
  | _ :: _, [], _, hf => by have := hf.1; simp at this
  | t :: ts, x :: tr, hi, hf => by
    simp only [indAll, Bool.and_eq_true] at hi
    obtain ⟨e1, e2, e3⟩ := hf.2 0 x t rfl rfl
    have hf' : FitsV vs tr ts := ⟨by have := hf.1; simpa using this, fun j y u h1 h2 => hf.2 (j + 1) y u h1 h2⟩
    refine ⟨fun y hy => ?_, indAllV_ok hi.2 hf'⟩
    obtain ⟨j, hj⟩ := List.mem_iff_getElem?.1 hy
    have hlt : j < ts.length := by rw [← hf'.1]; exact (List.getElem?_eq_some_iff.1 hj).1
    obtain ⟨u, hu⟩ : ∃ u, ts[j]? = some u := ⟨_, List.getElem?_eq_getElem hlt⟩
    obtain ⟨f1, f2, f3⟩ := hf'.2 j y u hj hu
    have hb := List.all_eq_true.1 hi.1 u (List.mem_of_getElem? hu)
    simp only [indB, Bool.or_eq_true, Bool.and_eq_true] at hb
    rcases hb with hb | ⟨hb, b1, b2, b3⟩
    · left; rw [e1, f1]; exact hb
    · right; refine ⟨by rw [e1, f1]; exact hb, djV_ok b1 e3 f2, (b2.imp (by rw [e1, f1]; exact id) fun b2 => djV_ok b2 f3 e2), djV_ok b3 e3 f3⟩

def vRun (vs : Key → Nat) (P : Program) (ops : Array Oper) (dd : Bool) (K : PS → Prop) (l : List Oper) (i : Nat) (s : PS) (G : Nat → Bool) (ts : List Ft) : Prop := ∀ tr, FitsV vs tr ts → gOps P ops dd K l i ⟨s, G⟩ tr

theorem v_any {e : Eff} {ts : List Ft} (rs ws : List Nat) (hg : gobB ops r G gd = true) (hgv : gval ops ⟨⟨r, h, cnt⟩, G⟩ gd = true) (hrd : ∀ k ∈ e.rd, vs k ∈ rs) (hwr : ∀ k ∈ e.wr.map (·.1), vs k ∈ ws) (hc : callOf r op = none) (hv : validB r G op = true) (he : eff P (ev r) h (d, cnt d) op = e) (hob : e.ob)
    (hk : vRun vs P ops dd K rest (i + 1) ⟨setT r d e.v, applyWr h e.wr, bumpC cnt d e.bump⟩ (setB G d true) (ts ++ [⟨i, rs, ws⟩])) : vRun vs P ops dd K (⟨some d, op, ty, pos, aft, gd⟩ :: rest) i ⟨r, h, cnt⟩ G ts := by
  intro tr ht
  unfold gOps
  refine ⟨gobB_ok hg, ?_⟩
  show match callOf r op with | none => _ | some (f, args) => _
  rw [hc]
  simp only [siteOf, Option.getD_some]
  rw [he, hgv]
  refine ⟨fun _ => ⟨validB_ok hv, hob⟩, (fun _ => rfl), ?_⟩
  have := hk (tr ++ [⟨i, e.rd, e.wr.map (·.1)⟩]) (ht.snoc rfl hrd hwr)
  simp only [stepG, stepS, putR_setT, setG_setB, effG, if_true]
  exact this
/-- A call that changes memory: all that is ahead of it is done, nothing behind it has begun. -/
theorem v_hcall {f : FuncId} {args : List PV} {R : PV → Heap → (Nat → Nat) → Prop} {ts : List Ft} (hb : (!dd || (barrierB ops i && indAll ops ts)) = true) (hg : gobB ops r G gd = true) (hgv : gval ops ⟨⟨r, h, cnt⟩, G⟩ gd = true) (hc : callOf r op = some (f, args)) (hv : validB r G op = true) (hp : HCallsR P f args h cnt R)
    (hk : ∀ v h' cnt', R v h' cnt' → vRun vs P ops dd K rest (i + 1) ⟨setT r d v, h', cnt'⟩ (setB G d true) []) : vRun vs P ops dd K (⟨some d, op, ty, pos, aft, gd⟩ :: rest) i ⟨r, h, cnt⟩ G ts := by
  intro tr ht
  unfold gOps
  refine ⟨gobB_ok hg, ?_⟩
  show match callOf r op with | none => _ | some (f, args) => _
  rw [hc]
  refine .inr (.inl ⟨hgv, validB_ok hv, fun hd => ?_, HCallsR.mono hp fun v h' cnt' hR => ?_⟩)
  · rw [hd] at hb
    simp only [Bool.not_true, Bool.false_or, Bool.and_eq_true] at hb
    exact ⟨hb.1, indAllV_ok hb.2 ht⟩
  · have := hk v h' cnt' hR [] ⟨rfl, fun j x t hx => by simp at hx⟩
    simp only [putR_setT, setG_setB]
    exact this

variable {x y : Operand} {t : TypeId}
/-- Something is appended: the new slice's key is known. -/
theorem v_app {ts : Array TypeId} {t2 : TypeId} {u : PV} {k2 : Key} {n2 : Nat} {sz d1 : Nat} {rows rows2 : Rows} {tl : List Ft} (rs ws : List Nat) (hgd : gobB ops r G gd = true) (hgv : gval ops ⟨⟨r, h, cnt⟩, G⟩ gd = true) (hr1 : ∀ k ∈ keyOf u, vs k ∈ rs ∧ vs k ∈ ws) (hr2 : vs k2 ∈ rs) (hw1 : vs (d, cnt d) ∈ ws) (hts : ts.toList = [t, t2]) (hx : ev r x = u) (hy : ev r y = .ref k2 sz 0 n2) (hs : SliceAt h d1 u sz rows) (hk2 : h k2 = some (.rows sz rows2)) (hn2 : rows2.length = n2) (hne : 0 < n2)
    (hv : validB r G (.call { callee := .builtin .append, args := #[x, y], argTypes := ts }) = true)
    (hok : (sliceOk P t && (decide (P.bytesOf (elemTy P t) < 2 ^ 15) && (decide (intKind P t2 = none) && (zeroOk P (elemTy P t) && ((P.underlying t2).isSome && decide (tySize P (elemTy P t) = sz)))))) = true) (hlen : rows.length + rows2.length < 2 ^ 32)
    (hk : ∀ h', h' (d, cnt d) = some (.rows sz (rows ++ rows2)) → (∀ k' : Key, k' ≠ (d, cnt d) → k' ∉ keyOf u → h' k' = h k') → vRun vs P ops dd K rest (i + 1) ⟨setT r d (.ref (d, cnt d) sz 0 (rows.length + rows2.length)), h', cset cnt d⟩ (setB G d true) (tl ++ [⟨i, rs, ws⟩])) :
    vRun vs P ops dd K (⟨some d, .call { callee := .builtin .append, args := #[x, y], argTypes := ts }, ty, pos, aft, gd⟩ :: rest) i ⟨r, h, cnt⟩ G tl := by
  simp only [Bool.and_eq_true, decide_eq_true_eq] at hok
  obtain ⟨o1, o2, o3, o4, o5, o6⟩ := hok
  subst o6
  have he : ∀ u, ev r x = u → eff P (ev r) h (d, cnt d) (.call { callee := .builtin .append, args := #[x, y], argTypes := ts }) = appendEff P h (d, cnt d) t t2 u (.ref k2 (tySize P (elemTy P t)) 0 n2) := fun u hu => by
    show builtinEff P h (d, cnt d) .append ts.toList [ev r x, ev r y] = _
    rw [hts, hu, hy]; rfl
  have hsr := src_ref (n2 := n2) hk2 hn2
  have hrd2 : (srcRows h (tySize P (elemTy P t)) (.ref k2 (tySize P (elemTy P t)) 0 n2)).2.2 = [k2] := by unfold srcRows; simp only [hk2]
  rcases hs with ⟨rfl, rfl⟩ | ⟨g, rfl, hg⟩
  · have hq := he _ hx
    unfold appendEff at hq
    simp only [hsr.2, hrd2] at hq
    have hne' : rows2.isEmpty = false := by
      cases hr : rows2 with
      | nil => rw [hr] at hn2; simp at hn2; omega
      | cons a b => rfl
    rw [hne'] at hq
    simp only [cond_false] at hq
    have := hk (hset h (d, cnt d) (some (.rows (tySize P (elemTy P t)) rows2))) (by rw [List.nil_append]; exact hset_self _ _ _) (fun k' h1 _ => hset_ne h1)
    simp only [List.length_nil, Nat.zero_add] at this
    refine v_any rs ws hgd hgv (by simp; exact hr2) (by simp; exact hw1) rfl hv hq ⟨⟨o1, o2, o3, o4, o5⟩, hsr.1, (by intro e; rw [e] at hne'; cases hne'), by simp at hlen; omega⟩ this
  · have hq := he _ hx
    unfold appendEff at hq
    simp only [hg, hsr.2, hrd2] at hq
    refine v_any rs ws hgd hgv (by intro k hk'; rcases List.mem_cons.1 hk' with rfl | hk'; exact (hr1 _ (by simp [keyOf])).1; simp at hk'; subst hk'; exact hr2) (by simp; exact ⟨(hr1 _ (by simp [keyOf])).2, hw1⟩) rfl hv hq (by refine ⟨⟨o1, o2, o3, o4, o5⟩, hsr.1, ?_⟩; simp; omega) ?_
    exact hk (hset (hset h (d1, g) none) (d, cnt d) (some (.rows (tySize P (elemTy P t)) ((rows.drop 0).take rows.length ++ rows2)))) (by rw [hset_self, List.drop_zero, List.take_length]) fun k' h1 h2 => by
      rw [hset_ne h1, hset_ne (by intro e; exact h2 (by rw [e]; simp [keyOf]))]
end
end Go.Pv

/-! ### Who waits for whom, told by sets of numbers -/
namespace Go.Pv
open Go Go.RowKit
def staticR (ops : Array Oper) (R : List Nat) : Bool := okR ops R && (List.range ops.size).all fun j => (List.range j).all fun i =>
  (R.getD j 0).testBit i || (((do let a ← ops[i]?; let b ← ops[j]?; pure (a.apart ops b && (siteOf a != siteOf b || (a.dst.isNone && b.dst.isNone)))) : Option Bool).getD false)
theorem staticR_ok {ops : Array Oper} {R : List Nat} (h : staticR ops R = true) : staticB ops = true := by
  unfold staticR at h
  rw [Bool.and_eq_true] at h
  refine List.all_eq_true.2 fun j hj => List.all_eq_true.2 fun i hi => ?_
  have h1 := List.all_eq_true.1 (List.all_eq_true.1 h.2 j hj) i hi
  unfold pairB
  rw [Bool.or_eq_true] at h1 ⊢
  rcases h1 with h1 | h1
  · left; exact okR_waits h.1 ops.size j i (List.mem_range.1 hj) (List.mem_range.1 hj) h1
  · right; exact h1
theorem g_endR {P : Program} {K : PS → Prop} {r : Nat → PV} {h : Heap} {cnt : Nat → Nat} {ops : Array Oper} {i : Nat} {G : Nat → Bool} {dr : Bool} {ds : List Nat} (R : List Nat) (hs : staticR ops R = true) (hd : guardedOf ops.toList = ds) (hk : K ⟨deadT r ds, h, cnt⟩) : gRun P ops dr K [] i ⟨r, h, cnt⟩ G :=
  g_end (by rw [staticR_ok hs]; simp) hd hk
end Go.Pv
