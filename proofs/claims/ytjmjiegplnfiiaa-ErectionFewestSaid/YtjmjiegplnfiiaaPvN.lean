/- The P level is sound: regions with guards, in the order of the text. -/
import Derived.Test.YtjmjiegplnfiiaaPvM
namespace Go.Pv
open Go Go.RowKit
section
variable {P : Program}

theorem eff_congr {ρ ρ' : Operand → PV} {h : Heap} {key : Key} {o : Op} (hr : ∀ x ∈ o.operands, ρ x = ρ' x) : eff P ρ h key o = eff P ρ' h key o := by
 have pairs : ∀ ps : Array (Nat × Operand), (∀ x ∈ (ps.toList.map (·.2)).toArray, ρ x = ρ' x) →
     (ps.toList.map fun p => (p.1, ρ p.2)) = (ps.toList.map fun p => (p.1, ρ' p.2)) := fun ps hp =>
   List.map_congr_left fun p hm => by rw [hp p.2 (by simp; exact ⟨p.1, by simpa using hm⟩)]
 cases o <;> simp only [Op.operands] at hr <;> simp only [eff]
 case build t ps => rw [pairs ps hr]
 case buildSlice t n ps => rw [pairs ps hr]
 case makeFunc fn a c =>
   rw [List.map_congr_left (l := a.toList) fun x hx => hr x (by simp; exact .inl (by simpa using hx)), List.map_congr_left (l := c.toList) fun x hx => hr x (by simp; exact .inr (by simpa using hx))]
 case call c =>
   obtain ⟨callee, args, ts⟩ := c
   cases callee with
   | value f => rfl
   | invoke r m => rfl
   | builtin b =>
     simp only
     rw [List.map_congr_left (l := args.toList) fun x hx => hr x (by simp only [Call.operands]; simpa using hx)]
 case slice t x lo hi mx =>
   have h1 : ∀ y, lo = some y → ρ y = ρ' y := fun y hy => hr y (by simp [hy])
   have h2 : ∀ y, hi = some y → ρ y = ρ' y := fun y hy => hr y (by simp [hy])
   have h3 : ∀ y, mx = some y → ρ y = ρ' y := fun y hy => hr y (by simp [hy])
   rw [hr x (by simp)]
   cases lo <;> cases hi <;> cases mx <;> simp_all
 all_goals (first | rfl | (simp_all; done))

theorem callOf_congr {r r' : Nat → PV} {o : Op} (hr : ∀ x ∈ o.operands, ev r x = ev r' x) : callOf r o = callOf r' o := by
 cases o <;> try rfl
 rename_i c
 obtain ⟨callee, args, ts⟩ := c
 cases callee with
 | value f =>
   simp only [callOf]
   rw [hr f (by simp [Op.operands, Call.operands]), List.map_congr_left (l := args.toList) fun x hx => hr x (by simp only [Op.operands, Call.operands]; simp; exact .inr (by simpa using hx))]
 | invoke _ _ => rfl
 | builtin _ => rfl

/-- The frame within a region. -/
structure GSim (r0 : Nat) (E : Env) (n : Nat) (σ : GS) (a : Act) : Prop where
 good : Good E
 h : E.h = σ.s.h
 cnt : E.cnt = σ.s.cnt
 tt : E.tt = true
 size : a.tmps.size = n
 regs : ∀ (i : Nat) (v : Value), a.tmps[i]? = some v → if σ.G i then Rep E v (σ.s.r i) else v = undef
 defers : Marks r0 E a.defers

def GSt (E0 : Env) (n : Nat) (σ : GS) (a : Act) (w : World) : Prop := ∃ E, E.w = w ∧ GSim E0.w.heap.size E n σ a ∧ EnvLe E0 E ∧ Below E0.B0 E0.w w ∧ (∀ k o, E0.h k = some o → E0.known k)

theorem GSt.of_st {E0 : Env} {n : Nat} {s : PS} {a : Act} {w : World} (h : St E0 n s a w) : GSt E0 n ⟨s, fun _ => true⟩ a w := by
 obtain ⟨E, h1, S, h2⟩ := h
 exact ⟨E, h1, ⟨S.good, S.h, S.cnt, S.tt, S.size, fun i v hv => by simpa using S.regs i v hv, S.defers⟩, h2⟩

theorem isB_spec {p : PV} (h : isB p = true) : ∃ b, p = .sc (.bool b) ∧ isT p = b := by
 unfold isB at h
 split at h
 · exact ⟨_, rfl, rfl⟩
 · cases h

theorem gval_wanted {E : Env} {n : Nat} {σ : GS} {a : Act} {ops : Array Oper} {r0 : Nat} (S : GSim r0 E n σ a) (hsc : ∀ o ∈ ops, inFrameOp n o = true) {o : Oper} (hob : gob ops σ o.guard) : Region.wanted o (yielded ops a.tmps) = gval ops σ o.guard := by
 unfold Region.wanted gval
 unfold gob at hob
 cases hg : o.guard with
 | none => rfl
 | some gw =>
   obtain ⟨j, want⟩ := gw
   rw [hg] at hob
   simp only at hob ⊢
   unfold yielded
   cases hd : (ops[j]?).bind (·.dst) with
   | none => rfl
   | some d =>
     rw [hd] at hob
     simp only at hob ⊢
     obtain ⟨oj, hoj, hdj⟩ := Option.bind_eq_some_iff.1 hd
     have hdn : d < n := (inFrame_ops (hsc oj (Array.mem_of_getElem? hoj))).2 d hdj
     have hlt : d < a.tmps.size := by rw [S.size]; exact hdn
     have hr := S.regs d a.tmps[d] (by simp [hlt])
     simp only [Option.bind_some, Array.getElem?_eq_getElem hlt]
     cases hG : σ.G d with
     | true =>
       obtain ⟨b, hb, hbt⟩ := isB_spec (hob hG)
       rw [hG, hb] at hr
       simp only [if_true] at hr
       rw [hr.sc_inv, hbt]
       simp only [Bool.true_and]
       cases b <;> cases want <;> rfl
     | false =>
       rw [hG] at hr
       simp only [Bool.false_eq_true, if_false] at hr
       rw [hr]
       rfl

open Classical in
/-- Operands that may not be looked at are forgotten. -/
noncomputable def maskOp (σ : GS) (x : Operand) : PV := if okOpnd σ.G x then ev σ.s.r x else .dead

theorem mask_ok {σ : GS} {x : Operand} (h : okOpnd σ.G x) : maskOp σ x = ev σ.s.r x := by unfold maskOp; rw [if_pos h]

theorem GSim.eval {E : Env} {n : Nat} {σ : GS} {a : Act} {r0 : Nat} (S : GSim r0 E n σ a) {x : Operand} (hx : inScope n x = true) : Rep E (a.eval x) (maskOp σ x) := by
 unfold maskOp
 split
 · rename_i hok
   cases x with
   | tmp t =>
     have ht : t < a.tmps.size := by rw [S.size]; simpa [inScope] using hx
     have := S.regs t a.tmps[t] (by simp [ht])
     have hG : σ.G t = true := hok
     rw [hG] at this
     simpa [Act.eval, ht, ev] using this
   | const v => exact ofVal_rep v
   | global g => exact gw_rep S.good.glob S.good.base S.tt g
   | func f => exact .func (by simp) (by simp) (fun i v p h _ => by simp at h) (fun i v p h _ => by simp at h)
 · exact .dead

theorem mask_eff {σ : GS} {h : Heap} {key : Key} {o : Op} (hv : valid σ o) (hob : (eff P (ev σ.s.r) h key o).ob) : eff P (maskOp σ) h key o = eff P (ev σ.s.r) h key o := by
 cases o
 case pick c x y =>
   obtain ⟨h1, h2, h3⟩ := hv
   simp only [eff, mask_ok h1] at hob ⊢
   unfold pickEff at hob ⊢
   split at hob
   · rename_i t ht
     rw [ht] at h2 h3
     cases t
     · rw [mask_ok (h3 rfl)]; rfl
     · rw [mask_ok (h2 rfl)]; rfl
   · exact hob.elim
 all_goals exact eff_congr fun x hx => mask_ok (hv x (by simpa using hx))

theorem mask_call {σ : GS} {o : Op} {f : FuncId} {args : List PV} (hv : valid σ o) (hc : callOf σ.s.r o = some (f, args)) : ∀ x ∈ o.operands, maskOp σ x = ev σ.s.r x := by
 obtain ⟨x, as, ts, first, cap, rfl, _, _⟩ := callOf_spec hc
 exact fun y hy => mask_ok (hv y (by simpa using hy))

theorem GSim.put {E E' : Env} {n : Nat} {σ σ' : GS} {a : Act} {r0 : Nat} (S : GSim r0 E n σ a) (hle : EnvLe E E') (g' : Good E') (htt : E'.tt = true) {dst : Option Nat} {v : Value} {p : PV} {c : Bool} (hv : if c then Rep E' v p else v = undef)
   (hr : σ'.s.r = putR σ.s.r dst p) (hG : σ'.G = setG σ.G dst c) (hh : E'.h = σ'.s.h) (hc : E'.cnt = σ'.s.cnt) : GSim r0 E' n σ' (a.put dst v) where
 good := g'
 h := hh
 cnt := hc
 tt := htt
 size := by cases dst <;> simp [Act.put, S.size]
 regs := fun i u hu => by
   rw [hr, hG]
   have old : ∀ u, a.tmps[i]? = some u → if σ.G i then Rep E' u (σ.s.r i) else u = undef := fun u hu => by
     have := S.regs i u hu
     split
     · rename_i hG; rw [if_pos hG] at this; exact this.le hle
     · rename_i hG; rw [if_neg hG] at this; exact this
   cases dst with
   | none => exact old u (by simpa [Act.put] using hu)
   | some d =>
     simp only [Act.put, Array.getElem?_setIfInBounds] at hu
     simp only [putR, setG]
     by_cases hd : d = i
     · subst hd
       rw [if_pos rfl] at hu
       simp only [if_true]
       split at hu
       · cases hu; exact hv
       · cases hu
     · rw [if_neg hd] at hu
       have hd' : ¬ i = d := fun e => hd e.symm
       simp only [hd', if_false]
       exact old u hu
 defers := by cases dst <;> exact S.defers.le hle

/-- One operation of a region, wherever it comes up. -/
theorem gop_sound {E0 : Env} {n : Nat} {ops : Array Oper} {σ : GS} {a : Act} {w : World} {o : Oper} {i : Nat} {K : Act → World → Prop} {Q : Exit → Act → World → Prop} (st : GSt E0 n σ a w) (ho : ops[i]? = some o)
   (hsc : ∀ o ∈ ops, inFrameOp n o = true) (hgob : gob ops σ o.guard) (_hno : callOf σ.s.r o.op = none)
   (hob : gval ops σ o.guard = true → valid σ o.op ∧ (eff P (ev σ.s.r) σ.s.h (siteOf o, σ.s.cnt (siteOf o)) o.op).ob)
   (hK : ∀ a' w', GSt E0 n (stepG σ o (gval ops σ o.guard) (effG (gval ops σ o.guard) (eff P (ev σ.s.r) σ.s.h (siteOf o, σ.s.cnt (siteOf o)) o.op))) a' w' → K a' w') : wpOp P ops Q i K a w := by
 obtain ⟨E, rfl, S, hle, hb, hk⟩ := st
 have hw := gval_wanted S hsc hgob
 have hsco := hsc o (Array.mem_of_getElem? ho)
 unfold wpOp
 rw [ho]
 simp only
 rw [hw]
 cases hc : gval ops σ o.guard with
 | false =>
   simp only [Bool.false_eq_true, if_false]
   rw [hc] at hK
   exact hK _ _ ⟨E, rfl, S.put (c := false) (p := .dead) (EnvLe.refl E) S.good S.tt (by simp) rfl rfl S.h S.cnt, hle, hb, hk⟩
 | true =>
   simp only [if_true]
   obtain ⟨hv, hob'⟩ := hob hc
   rw [hc] at hK
   have hm := mask_eff (P := P) hv hob'
   have hρ : ∀ x ∈ o.op.operands, Rep E (a.eval x) (maskOp σ x) := fun x hx => S.eval ((inFrame_ops hsco).1 x hx)
   have hob2 : (eff P (maskOp σ) E.h (siteOf o, E.cnt (siteOf o)) o.op).ob := by rw [S.h, S.cnt, hm]; exact hob'
   obtain ⟨v, w', blk, cap, hrun, hg, hle', hbl, hrep⟩ := eff_sound (P := P) (a := a) (o := o) (site := siteOf o) S.good hρ hob2
   rw [S.h, S.cnt, hm] at hg hle' hrep
   have hst : GSt E0 n (stepG σ o true (eff P (ev σ.s.r) σ.s.h (siteOf o, σ.s.cnt (siteOf o)) o.op)) (a.put o.dst v) w' := by
     refine ⟨_, rfl, S.put (c := true) hle' hg S.tt (by simpa using hrep) rfl rfl rfl rfl, hle.trans hle' hk, ?_, hk⟩
     rw [hle.B0] at hbl
     exact hb.trans hbl
   refine .inl ?_
   unfold Oper.wp
   rcases hrun with hrun | ⟨hrun, rfl⟩
   · rw [hrun]; exact hK _ _ hst
   · rw [hrun]; exact hK _ _ hst

/-- One call of a region, wherever it comes up. -/
theorem gcall_sound {E0 : Env} {n : Nat} {ops : Array Oper} {σ : GS} {a : Act} {w : World} {o : Oper} {i : Nat} {K : Act → World → Prop} {Q : Exit → Act → World → Prop} {f : FuncId} {args : List PV} {v : PV} (st : GSt E0 n σ a w) (ho : ops[i]? = some o)
   (hsc : ∀ o ∈ ops, inFrameOp n o = true) (hgob : gob ops σ o.guard) (hca : callOf σ.s.r o.op = some (f, args))
   (hob : gval ops σ o.guard = true → valid σ o.op ∧ CallD P f args σ.s.h v)
   (hK : ∀ a' w', GSt E0 n (stepG σ o (gval ops σ o.guard) (.val True v)) a' w' → K a' w') : wpOp P ops Q i K a w := by
 obtain ⟨E, rfl, S, hle, hb, hk⟩ := st
 have hw := gval_wanted S hsc hgob
 have hsco := hsc o (Array.mem_of_getElem? ho)
 unfold wpOp
 rw [ho]
 simp only
 rw [hw]
 cases hc : gval ops σ o.guard with
 | false =>
   simp only [Bool.false_eq_true, if_false]
   rw [hc] at hK
   exact hK _ _ ⟨E, rfl, S.put (c := false) (p := v) (EnvLe.refl E) S.good S.tt (by simp) rfl rfl S.h S.cnt, hle, hb, hk⟩
 | true =>
   simp only [if_true]
   obtain ⟨hv, as', hin, hpc⟩ := hob hc
   rw [hc] at hK
   have hmask := mask_call hv hca
   have hρ : ∀ x ∈ o.op.operands, Rep E (a.eval x) (ev σ.s.r x) := fun x hx => by rw [← hmask x hx]; exact S.eval ((inFrame_ops hsco).1 x hx)
   have hcall : HCallsR P f args σ.s.h σ.s.cnt fun v' h' cnt' => v' = v ∧ h' = σ.s.h ∧ cnt' = σ.s.cnt := HCallsR.of_pure hpc hin ⟨rfl, rfl, rfl⟩
   obtain ⟨vs, hrun, hsize, hrep⟩ := run_call (P := P) hca hρ E.w hcall.1
   refine .inl ?_
   unfold Oper.wp
   rw [hrun]
   refine (hcall.2 E vs S.good S.h S.cnt S.tt hsize hrep).mono ?_
   rintro e w' ⟨u, v', E', rfl, ⟨rfl, hh, hcn⟩, rfl, hg, hle', hbl, hv'⟩
   refine hK _ _ ⟨E', rfl, S.put (c := true) hle' hg (hle'.tt.trans S.tt) (by simpa using hv') rfl rfl hh hcn, hle.trans hle' hk, ?_, hk⟩
   rw [hle.B0] at hbl
   exact hb.trans hbl

/-- One call of a region that may turn the heap. -/
theorem ghcall_sound {E0 : Env} {n : Nat} {ops : Array Oper} {σ : GS} {a : Act} {w : World} {o : Oper} {i : Nat} {K : Act → World → Prop} {Q : Exit → Act → World → Prop} {f : FuncId} {args : List PV} {R : PV → Heap → (Nat → Nat) → Prop} (st : GSt E0 n σ a w) (ho : ops[i]? = some o)
   (hsc : ∀ o ∈ ops, inFrameOp n o = true) (hgob : gob ops σ o.guard) (hca : callOf σ.s.r o.op = some (f, args)) (hgv : gval ops σ o.guard = true) (hv : valid σ o.op) (hcall : HCallsR P f args σ.s.h σ.s.cnt R)
   (hK : ∀ v h' cnt' a' w', R v h' cnt' → GSt E0 n ⟨⟨putR σ.s.r o.dst v, h', cnt'⟩, setG σ.G o.dst true⟩ a' w' → K a' w') : wpOp P ops Q i K a w := by
 obtain ⟨E, rfl, S, hle, hb, hk⟩ := st
 have hw := gval_wanted S hsc hgob
 have hsco := hsc o (Array.mem_of_getElem? ho)
 unfold wpOp
 rw [ho]
 simp only
 rw [hw, hgv]
 simp only [if_true]
 have hmask := mask_call hv hca
 have hρ : ∀ x ∈ o.op.operands, Rep E (a.eval x) (ev σ.s.r x) := fun x hx => by rw [← hmask x hx]; exact S.eval ((inFrame_ops hsco).1 x hx)
 obtain ⟨vs, hrun, hsize, hrep⟩ := run_call (P := P) hca hρ E.w hcall.1
 refine .inl ?_
 unfold Oper.wp
 rw [hrun]
 refine (hcall.2 E vs S.good S.h S.cnt S.tt hsize hrep).mono ?_
 rintro e w' ⟨u, v', E', rfl, hR, rfl, hg, hle', hbl, hv'⟩
 refine hK _ _ _ _ _ hR ⟨E', rfl, S.put (c := true) hle' hg (hle'.tt.trans S.tt) (by simpa using hv') rfl rfl rfl rfl, hle.trans hle' hk, ?_, hk⟩
 rw [hle.B0] at hbl
 exact hb.trans hbl

/-- Behind a region with guards. -/
theorem fin_sound {E0 : Env} {n : Nat} {σ : GS} {a : Act} {w : World} {ops : Array Oper} (st : GSt E0 n σ a w) (hG : ∀ i, σ.G i = false → ∃ o ∈ ops, o.guard.isSome = true ∧ o.dst = some i) : St E0 n (fin ops.toList σ.s) a w := by
 obtain ⟨E, rfl, S, hle, hb, hk⟩ := st
 have key : ∀ (l : List Oper) (r : Nat → PV) (i : Nat), (l.foldl (fun r o => if o.guard.isSome then putR r o.dst .dead else r) r) i = r i ∨ (l.foldl (fun r o => if o.guard.isSome then putR r o.dst .dead else r) r) i = .dead := by
   intro l
   induction l with
   | nil => exact fun r i => .inl rfl
   | cons o l ih =>
     intro r i
     rw [List.foldl_cons]
     rcases ih (if o.guard.isSome then putR r o.dst .dead else r) i with h | h
     · rw [h]
       split
       · cases hd : o.dst with
         | none => exact .inl rfl
         | some d =>
           simp only [putR]
           split
           · exact .inr rfl
           · exact .inl rfl
       · exact .inl rfl
     · exact .inr h
 have dead : ∀ (l : List Oper) (r : Nat → PV) (i : Nat), (∃ o ∈ l, o.guard.isSome = true ∧ o.dst = some i) → (l.foldl (fun r o => if o.guard.isSome then putR r o.dst .dead else r) r) i = .dead := by
   intro l
   induction l with
   | nil => exact fun r i ⟨o, h, _⟩ => by simp at h
   | cons o l ih =>
     intro r i ⟨o', ho', h1, h2⟩
     rw [List.foldl_cons]
     rcases List.mem_cons.1 ho' with rfl | ho'
     · rcases key l (if o'.guard.isSome then putR r o'.dst .dead else r) i with h | h
       · rw [h, if_pos h1, h2]; simp [putR]
       · exact h
     · exact ih _ i ⟨o', ho', h1, h2⟩
 refine ⟨E, rfl, ⟨S.good, S.h, S.cnt, S.tt, S.size, fun i v hv => ?_, S.defers⟩, hle, hb, hk⟩
 simp only [fin]
 have := S.regs i v hv
 cases hq : σ.G i with
 | true =>
   rw [hq] at this
   rcases key ops.toList σ.s.r i with h | h
   · rw [h]; simpa using this
   · rw [h]; exact .dead
 | false =>
   obtain ⟨o, h1, h2⟩ := hG i hq
   rw [dead ops.toList σ.s.r i ⟨o, by simpa using h1, h2⟩]
   exact .dead

/-- Which slots may be marked as forgotten. -/
def Gok (ops : Array Oper) (σ : GS) : Prop := ∀ i, σ.G i = false → ∃ o ∈ ops, o.guard.isSome = true ∧ o.dst = some i

theorem Gok.step {ops : Array Oper} {σ : GS} {o : Oper} {e : Eff} (h : Gok ops σ) (ho : o ∈ ops) : Gok ops (stepG σ o (gval ops σ o.guard) e) := fun i hi => by
 simp only [stepG] at hi
 cases hd : o.dst with
 | none => rw [hd] at hi; exact h i hi
 | some d =>
   rw [hd] at hi
   simp only [setG] at hi
   by_cases he : i = d
   · rw [if_pos he] at hi
     subst he
     refine ⟨o, ho, ?_, hd⟩
     cases hg : o.guard with
     | none => rw [hg] at hi; simp [gval] at hi
     | some x => rfl
   · rw [if_neg he] at hi; exact h i hi

theorem gOps_sound {E0 : Env} {n : Nat} {ops : Array Oper} {Q : Exit → Act → World → Prop} {K : PS → Prop} (hsc : ∀ o ∈ ops, inFrameOp n o = true) : ∀ (l : List Oper) (i : Nat) (σ : GS) (tr : List Foot) (a : Act) (w : World), (∀ j, l[j]? = ops[i + j]?) →
   gOps P ops false K l i σ tr → Gok ops σ → GSt E0 n σ a w → (∀ s' a' w', K s' → St E0 n s' a' w' → Q .normal a' w') → wpOps P ops Q (List.range' i l.length) a w
 | [], i, σ, tr, a, w, _, h, hG, st, hQ => hQ _ a w h.2 (fin_sound st hG)
 | o :: l, i, σ, tr, a, w, hl, h, hG, st, hQ => by
   have ho : ops[i]? = some o := by simpa using (hl 0).symm
   have hmem : o ∈ ops := Array.mem_of_getElem? ho
   have hl' : ∀ j, l[j]? = ops[i + 1 + j]? := fun j => by have := hl (j + 1); simpa [Nat.add_assoc, Nat.add_comm 1 j] using this
   have ih := gOps_sound (E0 := E0) (Q := Q) (K := K) hsc l (i + 1)
   rw [List.length_cons, List.range'_succ, wpOps_cons]
   unfold gOps at h
   obtain ⟨hgob, h⟩ := h
   split at h
   · rename_i hno
     obtain ⟨h1, h3, h4⟩ := h
     exact gop_sound st ho hsc hgob hno h1 fun a' w' st' => ih _ _ a' w' hl' h4 (hG.step hmem) st' hQ
   · rename_i f args hc
     rcases h with ⟨v, h1, h2⟩ | ⟨hgv, hv, _, hcall⟩ | ⟨hgv, hv, _, e, ⟨sz, rows, as', hin, hnew, he⟩, h2⟩
     · exact gcall_sound st ho hsc hgob hc h1 fun a' w' st' => ih _ _ a' w' hl' h2 (hG.step hmem) st' hQ
     · exact ghcall_sound st ho hsc hgob hc hgv hv hcall fun v h' cnt' a' w' hR st' => ih _ _ a' w' hl' hR (by
         have := hG.step (e := .val True v) hmem
         rw [hgv] at this
         exact this) st' hQ
     · subst he
       rw [hgv] at h2
       refine ghcall_sound st ho hsc hgob hc hgv hv (HCallsR.of_new (siteOf o) hnew hin) fun v h' cnt' a' w' hR st' => ?_
       obtain ⟨rfl, rfl, rfl⟩ := hR
       exact ih _ _ a' w' hl' h2 (by
         have := hG.step (e := { ob := True, v := .ref (siteOf o, σ.s.cnt (siteOf o)) sz 0 rows.length, wr := [((siteOf o, σ.s.cnt (siteOf o)), some (.rows sz rows))], rd := args.flatMap keysOf, bump := true }) hmem
         rw [hgv] at this
         exact this) st' hQ

end
end Go.Pv
