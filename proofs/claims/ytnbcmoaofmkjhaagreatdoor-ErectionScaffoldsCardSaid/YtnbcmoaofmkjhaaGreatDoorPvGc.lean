import Derived.Test.YtnbcmoaofmkjhaaGreatDoorPvGb
import Derived.RangeFuncRecord
import Derived.RangeFuncIn
import Derived.RangeFuncSeq
import Derived.OrdersIn
import Derived.TacticsIn
import Derived.LoopNIn
set_option linter.unusedSimpArgs false
set_option linter.unusedVariables false
namespace Go.Pv
open Go Go.RowKit
section
variable {P : Program}
theorem zDd {ρ ρ' : Operand → PV} {h : Heap} {key : Key} {o : Op} (hr : ∀ x ∈ o.operands, ρ x = ρ' x) : eff P ρ h key o = eff P ρ' h key o := by
 have pairs : ∀ ps : Array (Nat × Operand), (∀ x ∈ (ps.toList.map (·.2)).toArray, ρ x = ρ' x) →
     (ps.toList.map fun p => (p.1, ρ p.2)) = (ps.toList.map fun p => (p.1, ρ' p.2)) := fun ps hp =>
   List.map_congr_left fun p hm => by rw [hp p.2 (by simp; exact ⟨p.1, by simpa using hm⟩)]
 cases o <;> simp only [Op.operands] at hr <;> simp only [eff]
 case build t ps => rw [pairs ps hr]
 case buildSlice t n ps => rw [pairs ps hr]
 case makeFunc fn a c =>
   rw [List.map_congr_left (l := a.toList) fun x hx => hr x (by simp; exact .inl (by simpa using hx)), List.map_congr_left (l := c.toList) fun x hx => hr x (by simp; exact .inr (by simpa using hx))]
 case call c =>
   obtain ⟨callee, args, ts⟩ := c;cases callee with
   | value f => rfl
   | invoke r m => rfl
   | builtin b =>
     simp only;rw [List.map_congr_left (l := args.toList) fun x hx => hr x (by simp only [Call.operands]; simpa using hx)]
 case slice t x lo hi mx =>
   have h1 : ∀ y, lo = some y → ρ y = ρ' y := fun y hy => hr y (by simp [hy]);have h2 : ∀ y, hi = some y → ρ y = ρ' y := fun y hy => hr y (by simp [hy]);have h3 : ∀ y, mx = some y → ρ y = ρ' y := fun y hy => hr y (by simp [hy]);rw [hr x (by simp)];cases lo <;> cases hi <;> cases mx <;> simp_all
 all_goals (first | rfl | (simp_all; done))
theorem zFO {r r' : Nat → PV} {o : Op} (hr : ∀ x ∈ o.operands, ev r x = ev r' x) : zAX r o = zAX r' o := by
 cases o <;> try rfl
 rename_i c;obtain ⟨callee, args, ts⟩ := c;cases callee with
 | value f =>
   simp only [zAX];rw [hr f (by simp [Op.operands, Call.operands]), List.map_congr_left (l := args.toList) fun x hx => hr x (by simp only [Op.operands, Call.operands]; simp; exact .inr (by simpa using hx))]
 | invoke _ _ => rfl
 | builtin _ => rfl
structure GSim (r0 : Nat) (E : Env) (n : Nat) (σ : GS) (a : Act) : Prop where
 good : Good E
 h : E.h = σ.s.h
 cnt : E.cnt = σ.s.cnt
 tt : E.tt = true
 size : a.tmps.size = n
 regs : ∀ (i : Nat) (v : Value), a.tmps[i]? = some v → if σ.G i then Rep E v (σ.s.r i) else v = undef
 defers : Marks r0 E a.defers
def GSt (E0 : Env) (n : Nat) (σ : GS) (a : Act) (w : World) : Prop := ∃ E, E.w = w ∧ GSim E0.w.heap.size E n σ a ∧ EnvLe E0 E ∧ Below E0.B0 E0.w w ∧ (∀ k o, E0.h k = some o → E0.known k)
theorem GSt.of_st {E0 : Env} {n : Nat} {s : PS} {a : Act} {w : World} (h : St E0 n s a w) : GSt E0 n ⟨s, fun _ => true⟩ a w := by
 obtain ⟨E, h1, S, h2⟩ := h;exact ⟨E, h1, ⟨S.good, S.h, S.cnt, S.tt, S.size, fun i v hv => by simpa using S.regs i v hv, S.defers⟩, h2⟩
theorem isB_spec {p : PV} (h : isB p = true) : ∃ b, p = .sc (.bool b) ∧ isT p = b := by
 unfold isB at h;split at h
 · exact ⟨_, rfl, rfl⟩
 · cases h
theorem zEP {E : Env} {n : Nat} {σ : GS} {a : Act} {ops : Array Oper} {r0 : Nat} (S : GSim r0 E n σ a) (hsc : ∀ o ∈ ops, zA8 n o = true) {o : Oper} (hob : gob ops σ o.guard) : Region.wanted o (yielded ops a.tmps) = gval ops σ o.guard := by
 unfold Region.wanted gval;unfold gob at hob;cases hg : o.guard with
 | none => rfl
 | some gw =>
   obtain ⟨j, want⟩ := gw;rw [hg] at hob;simp only at hob ⊢;unfold yielded;cases hd : (ops[j]?).bind (·.dst) with
   | none => rfl
   | some d =>
     rw [hd] at hob;simp only at hob ⊢;obtain ⟨oj, hoj, hdj⟩ := Option.bind_eq_some_iff.1 hd;have hdn : d < n := (zBT (hsc oj (Array.mem_of_getElem? hoj))).2 d hdj;have hlt : d < a.tmps.size := by rw [S.size]; exact hdn
     have hr := S.regs d a.tmps[d] (by simp [hlt]);simp only [Option.bind_some, Array.getElem?_eq_getElem hlt];cases hG : σ.G d with
     | true =>
       obtain ⟨b, hb, hbt⟩ := isB_spec (hob hG);rw [hG, hb] at hr;simp only [if_true] at hr;rw [hr.sc_inv, hbt];simp only [Bool.true_and];cases b <;> cases want <;> rfl
     | false =>
       rw [hG] at hr;simp only [Bool.false_eq_true, if_false] at hr;rw [hr];rfl
open Classical in
noncomputable def zHp (σ : GS) (x : Operand) : PV := if zEG σ.G x then ev σ.s.r x else .dead
theorem zHo {σ : GS} {x : Operand} (h : zEG σ.G x) : zHp σ x = ev σ.s.r x := by unfold zHp; rw [if_pos h]
theorem GSim.eval {E : Env} {n : Nat} {σ : GS} {a : Act} {r0 : Nat} (S : GSim r0 E n σ a) {x : Operand} (hx : zDT n x = true) : Rep E (a.eval x) (zHp σ x) := by
 unfold zHp;split
 · rename_i hok;cases x with
   | tmp t =>
     have ht : t < a.tmps.size := by rw [S.size]; simpa [zDT] using hx
     have := S.regs t a.tmps[t] (by simp [ht]);have hG : σ.G t = true := hok;rw [hG] at this;simpa [Act.eval, ht, ev] using this
   | const v => exact zGD v
   | global g => exact zMo S.good.glob S.good.base S.tt g
   | func f => exact .func (by simp) (by simp) (fun i v p h _ => by simp at h) (fun i v p h _ => by simp at h)
 · exact .dead
theorem mask_eff {σ : GS} {h : Heap} {key : Key} {o : Op} (hv : valid σ o) (hob : (eff P (ev σ.s.r) h key o).ob) : eff P (zHp σ) h key o = eff P (ev σ.s.r) h key o := by
 cases o
 case pick c x y =>
   obtain ⟨h1, h2, h3⟩ := hv;simp only [eff, zHo h1] at hob ⊢;unfold zE2 at hob ⊢;split at hob
   · rename_i t ht;rw [ht] at h2 h3;cases t
     · rw [zHo (h3 rfl)]; rfl
     · rw [zHo (h2 rfl)]; rfl
   · exact hob.elim
 all_goals exact zDd fun x hx => zHo (hv x (by simpa using hx))
theorem zIB {σ : GS} {o : Op} {f : FuncId} {args : List PV} (hv : valid σ o) (hc : zAX σ.s.r o = some (f, args)) : ∀ x ∈ o.operands, zHp σ x = ev σ.s.r x := by
 obtain ⟨x, as, ts, first, cap, rfl, _, _⟩ := zGj hc;exact fun y hy => zHo (hv y (by simpa using hy))
theorem GSim.put {E E' : Env} {n : Nat} {σ σ' : GS} {a : Act} {r0 : Nat} (S : GSim r0 E n σ a) (hle : EnvLe E E') (g' : Good E') (htt : E'.tt = true) {dst : Option Nat} {v : Value} {p : PV} {c : Bool} (hv : if c then Rep E' v p else v = undef)
   (hr : σ'.s.r = putR σ.s.r dst p) (hG : σ'.G = setG σ.G dst c) (hh : E'.h = σ'.s.h) (hc : E'.cnt = σ'.s.cnt) : GSim r0 E' n σ' (a.put dst v) where
 good := g'
 h := hh
 cnt := hc
 tt := htt
 size := by cases dst <;> simp [Act.put, S.size]
 regs := fun i u hu => by
   rw [hr, hG]
   have old : ∀ u, a.tmps[i]? = some u → if σ.G i then Rep E' u (σ.s.r i) else u = undef := fun u hu => by
     have := S.regs i u hu;split
     · rename_i hG; rw [if_pos hG] at this; exact this.le hle
     · rename_i hG; rw [if_neg hG] at this; exact this
   cases dst with
   | none => exact old u (by simpa [Act.put] using hu)
   | some d =>
     simp only [Act.put, Array.getElem?_setIfInBounds] at hu;simp only [putR, setG];by_cases hd : d = i
     · subst hd;rw [if_pos rfl] at hu;simp only [if_true];split at hu
       · cases hu; exact hv
       · cases hu
     · rw [if_neg hd] at hu;have hd' : ¬ i = d := fun e => hd e.symm;simp only [hd', if_false];exact old u hu
 defers := by cases dst <;> exact S.defers.le hle
theorem zIJ {E0 : Env} {n : Nat} {ops : Array Oper} {σ : GS} {a : Act} {w : World} {o : Oper} {i : Nat} {K : Act → World → Prop} {Q : Exit → Act → World → Prop} (st : GSt E0 n σ a w) (ho : ops[i]? = some o)
   (hsc : ∀ o ∈ ops, zA8 n o = true) (hgob : gob ops σ o.guard) (_hno : zAX σ.s.r o.op = none)
   (hob : gval ops σ o.guard = true → valid σ o.op ∧ (eff P (ev σ.s.r) σ.s.h (zAH o, σ.s.cnt (zAH o)) o.op).ob)
   (hK : ∀ a' w', GSt E0 n (stepG σ o (gval ops σ o.guard) (effG (gval ops σ o.guard) (eff P (ev σ.s.r) σ.s.h (zAH o, σ.s.cnt (zAH o)) o.op))) a' w' → K a' w') : wpOp P ops Q i K a w := by
 obtain ⟨E, rfl, S, hle, hb, hk⟩ := st;have hw := zEP S hsc hgob;have hsco := hsc o (Array.mem_of_getElem? ho);unfold wpOp;rw [ho];simp only;rw [hw];cases hc : gval ops σ o.guard with
 | false =>
   simp only [Bool.false_eq_true, if_false];rw [hc] at hK;exact hK _ _ ⟨E, rfl, S.put (c := false) (p := .dead) (EnvLe.refl E) S.good S.tt (by simp) rfl rfl S.h S.cnt, hle, hb, hk⟩
 | true =>
   simp only [if_true];obtain ⟨hv, hob'⟩ := hob hc;rw [hc] at hK;have hm := mask_eff (P := P) hv hob';have hρ : ∀ x ∈ o.op.operands, Rep E (a.eval x) (zHp σ x) := fun x hx => S.eval ((zBT hsco).1 x hx);have hob2 : (eff P (zHp σ) E.h (zAH o, E.cnt (zAH o)) o.op).ob := by rw [S.h, S.cnt, hm]; exact hob'
   obtain ⟨v, w', blk, cap, hrun, hg, hle', hbl, hrep⟩ := zIU (P := P) (a := a) (o := o) (site := zAH o) S.good hρ hob2;rw [S.h, S.cnt, hm] at hg hle' hrep
   have hst : GSt E0 n (stepG σ o true (eff P (ev σ.s.r) σ.s.h (zAH o, σ.s.cnt (zAH o)) o.op)) (a.put o.dst v) w' := by
     refine ⟨_, rfl, S.put (c := true) hle' hg S.tt (by simpa using hrep) rfl rfl rfl rfl, hle.trans hle' hk, ?_, hk⟩;rw [hle.B0] at hbl;exact hb.trans hbl
   refine .inl ?_;unfold Oper.wp;rcases hrun with hrun | ⟨hrun, rfl⟩
   · rw [hrun]; exact hK _ _ hst
   · rw [hrun]; exact hK _ _ hst
theorem zGe {E0 : Env} {n : Nat} {ops : Array Oper} {σ : GS} {a : Act} {w : World} {o : Oper} {i : Nat} {K : Act → World → Prop} {Q : Exit → Act → World → Prop} {f : FuncId} {args : List PV} {v : PV} (st : GSt E0 n σ a w) (ho : ops[i]? = some o)
   (hsc : ∀ o ∈ ops, zA8 n o = true) (hgob : gob ops σ o.guard) (hca : zAX σ.s.r o.op = some (f, args))
   (hob : gval ops σ o.guard = true → valid σ o.op ∧ CallD P f args σ.s.h v)
   (hK : ∀ a' w', GSt E0 n (stepG σ o (gval ops σ o.guard) (.val True v)) a' w' → K a' w') : wpOp P ops Q i K a w := by
 obtain ⟨E, rfl, S, hle, hb, hk⟩ := st;have hw := zEP S hsc hgob;have hsco := hsc o (Array.mem_of_getElem? ho);unfold wpOp;rw [ho];simp only;rw [hw];cases hc : gval ops σ o.guard with
 | false =>
   simp only [Bool.false_eq_true, if_false];rw [hc] at hK;exact hK _ _ ⟨E, rfl, S.put (c := false) (p := v) (EnvLe.refl E) S.good S.tt (by simp) rfl rfl S.h S.cnt, hle, hb, hk⟩
 | true =>
   simp only [if_true];obtain ⟨hv, as', hin, hpc⟩ := hob hc;rw [hc] at hK;have hmask := zIB hv hca;have hρ : ∀ x ∈ o.op.operands, Rep E (a.eval x) (ev σ.s.r x) := fun x hx => by rw [← hmask x hx]; exact S.eval ((zBT hsco).1 x hx)
   have hcall : zAy P f args σ.s.h σ.s.cnt fun v' h' cnt' => v' = v ∧ h' = σ.s.h ∧ cnt' = σ.s.cnt := zAy.of_pure hpc hin ⟨rfl, rfl, rfl⟩;obtain ⟨vs, hrun, hsize, hrep⟩ := zHO (P := P) hca hρ E.w hcall.1;refine .inl ?_;unfold Oper.wp;rw [hrun];refine (hcall.2 E vs S.good S.h S.cnt S.tt hsize hrep).mono ?_
   rintro e w' ⟨u, v', E', rfl, ⟨rfl, hh, hcn⟩, rfl, hg, hle', hbl, hv'⟩
   refine hK _ _ ⟨E', rfl, S.put (c := true) hle' hg (hle'.tt.trans S.tt) (by simpa using hv') rfl rfl hh hcn, hle.trans hle' hk, ?_, hk⟩;rw [hle.B0] at hbl;exact hb.trans hbl
theorem zCi {E0 : Env} {n : Nat} {ops : Array Oper} {σ : GS} {a : Act} {w : World} {o : Oper} {i : Nat} {K : Act → World → Prop} {Q : Exit → Act → World → Prop} {f : FuncId} {args : List PV} {R : PV → Heap → (Nat → Nat) → Prop} (st : GSt E0 n σ a w) (ho : ops[i]? = some o)
   (hsc : ∀ o ∈ ops, zA8 n o = true) (hgob : gob ops σ o.guard) (hca : zAX σ.s.r o.op = some (f, args)) (hgv : gval ops σ o.guard = true) (hv : valid σ o.op) (hcall : zAy P f args σ.s.h σ.s.cnt R)
   (hK : ∀ v h' cnt' a' w', R v h' cnt' → GSt E0 n ⟨⟨putR σ.s.r o.dst v, h', cnt'⟩, setG σ.G o.dst true⟩ a' w' → K a' w') : wpOp P ops Q i K a w := by
 obtain ⟨E, rfl, S, hle, hb, hk⟩ := st;have hw := zEP S hsc hgob;have hsco := hsc o (Array.mem_of_getElem? ho);unfold wpOp;rw [ho];simp only;rw [hw, hgv];simp only [if_true];have hmask := zIB hv hca;have hρ : ∀ x ∈ o.op.operands, Rep E (a.eval x) (ev σ.s.r x) := fun x hx => by rw [← hmask x hx]; exact S.eval ((zBT hsco).1 x hx)
 obtain ⟨vs, hrun, hsize, hrep⟩ := zHO (P := P) hca hρ E.w hcall.1;refine .inl ?_;unfold Oper.wp;rw [hrun];refine (hcall.2 E vs S.good S.h S.cnt S.tt hsize hrep).mono ?_
 rintro e w' ⟨u, v', E', rfl, hR, rfl, hg, hle', hbl, hv'⟩
 refine hK _ _ _ _ _ hR ⟨E', rfl, S.put (c := true) hle' hg (hle'.tt.trans S.tt) (by simpa using hv') rfl rfl rfl rfl, hle.trans hle' hk, ?_, hk⟩;rw [hle.B0] at hbl;exact hb.trans hbl
theorem zIQ {E0 : Env} {n : Nat} {σ : GS} {a : Act} {w : World} {ops : Array Oper} (st : GSt E0 n σ a w) (hG : ∀ i, σ.G i = false → ∃ o ∈ ops, o.guard.isSome = true ∧ o.dst = some i) : St E0 n (fin ops.toList σ.s) a w := by
 obtain ⟨E, rfl, S, hle, hb, hk⟩ := st
 have key : ∀ (l : List Oper) (r : Nat → PV) (i : Nat), (l.foldl (fun r o => if o.guard.isSome then putR r o.dst .dead else r) r) i = r i ∨ (l.foldl (fun r o => if o.guard.isSome then putR r o.dst .dead else r) r) i = .dead := by
   intro l;induction l with
   | nil => exact fun r i => .inl rfl
   | cons o l ih =>
     intro r i;rw [List.foldl_cons];rcases ih (if o.guard.isSome then putR r o.dst .dead else r) i with h | h
     · rw [h];split
       · cases hd : o.dst with
         | none => exact .inl rfl
         | some d =>
           simp only [putR];split
           · exact .inr rfl
           · exact .inl rfl
       · exact .inl rfl
     · exact .inr h
 have dead : ∀ (l : List Oper) (r : Nat → PV) (i : Nat), (∃ o ∈ l, o.guard.isSome = true ∧ o.dst = some i) → (l.foldl (fun r o => if o.guard.isSome then putR r o.dst .dead else r) r) i = .dead := by
   intro l;induction l with
   | nil => exact fun r i ⟨o, h, _⟩ => by simp at h
   | cons o l ih =>
     intro r i ⟨o', ho', h1, h2⟩;rw [List.foldl_cons];rcases List.mem_cons.1 ho' with rfl | ho'
     · rcases key l (if o'.guard.isSome then putR r o'.dst .dead else r) i with h | h
       · rw [h, if_pos h1, h2]; simp [putR]
       · exact h
     · exact ih _ i ⟨o', ho', h1, h2⟩
 refine ⟨E, rfl, ⟨S.good, S.h, S.cnt, S.tt, S.size, fun i v hv => ?_, S.defers⟩, hle, hb, hk⟩;simp only [fin];have := S.regs i v hv;cases hq : σ.G i with
 | true =>
   rw [hq] at this;rcases key ops.toList σ.s.r i with h | h
   · rw [h]; simpa using this
   · rw [h]; exact .dead
 | false =>
   obtain ⟨o, h1, h2⟩ := hG i hq;rw [dead ops.toList σ.s.r i ⟨o, by simpa using h1, h2⟩];exact .dead
def Gok (ops : Array Oper) (σ : GS) : Prop := ∀ i, σ.G i = false → ∃ o ∈ ops, o.guard.isSome = true ∧ o.dst = some i
theorem Gok.step {ops : Array Oper} {σ : GS} {o : Oper} {e : Eff} (h : Gok ops σ) (ho : o ∈ ops) : Gok ops (stepG σ o (gval ops σ o.guard) e) := fun i hi => by
 simp only [stepG] at hi;cases hd : o.dst with
 | none => rw [hd] at hi; exact h i hi
 | some d =>
   rw [hd] at hi;simp only [setG] at hi;by_cases he : i = d
   · rw [if_pos he] at hi;subst he;refine ⟨o, ho, ?_, hd⟩;cases hg : o.guard with
     | none => rw [hg] at hi; simp [gval] at hi
     | some x => rfl
   · rw [if_neg he] at hi; exact h i hi
theorem zHx {E0 : Env} {n : Nat} {ops : Array Oper} {Q : Exit → Act → World → Prop} {K : PS → Prop} (hsc : ∀ o ∈ ops, zA8 n o = true) : ∀ (l : List Oper) (i : Nat) (σ : GS) (tr : List Foot) (a : Act) (w : World), (∀ j, l[j]? = ops[i + j]?) →
   gOps P ops false K l i σ tr → Gok ops σ → GSt E0 n σ a w → (∀ s' a' w', K s' → St E0 n s' a' w' → Q .normal a' w') → wpOps P ops Q (List.range' i l.length) a w
 | [], i, σ, tr, a, w, _, h, hG, st, hQ => hQ _ a w h.2 (zIQ st hG)
 | o :: l, i, σ, tr, a, w, hl, h, hG, st, hQ => by
   have ho : ops[i]? = some o := by simpa using (hl 0).symm
   have hmem : o ∈ ops := Array.mem_of_getElem? ho;have hl' : ∀ j, l[j]? = ops[i + 1 + j]? := fun j => by have := hl (j + 1); simpa [Nat.add_assoc, Nat.add_comm 1 j] using this
   have ih := zHx (E0 := E0) (Q := Q) (K := K) hsc l (i + 1);rw [List.length_cons, List.range'_succ, wpOps_cons];unfold gOps at h;obtain ⟨hgob, h⟩ := h;split at h
   · rename_i hno;obtain ⟨h1, h3, h4⟩ := h;exact zIJ st ho hsc hgob hno h1 fun a' w' st' => ih _ _ a' w' hl' h4 (hG.step hmem) st' hQ
   · rename_i f args hc;rcases h with ⟨v, h1, h2⟩ | ⟨hgv, hv, _, hcall⟩ | ⟨hgv, hv, _, e, ⟨sz, rows, as', hin, hnew, he⟩ | ⟨v, rd, he, hcl⟩, h2⟩
     · exact zGe st ho hsc hgob hc h1 fun a' w' st' => ih _ _ a' w' hl' h2 (hG.step hmem) st' hQ
     · exact zCi st ho hsc hgob hc hgv hv hcall fun v h' cnt' a' w' hR st' => ih _ _ a' w' hl' hR (by
         have := hG.step (e := .val True v) hmem;rw [hgv] at this;exact this) st' hQ
     · subst he;rw [hgv] at h2;refine zCi st ho hsc hgob hc hgv hv (zAy.of_new (zAH o) hnew hin) fun v h' cnt' a' w' hR st' => ?_;obtain ⟨rfl, rfl, rfl⟩ := hR
       exact ih _ _ a' w' hl' h2 (by
         have := hG.step (e := { ob := True, v := .ref (zAH o, σ.s.cnt (zAH o)) sz 0 rows.length, wr := [((zAH o, σ.s.cnt (zAH o)), some (.rows sz rows))], rd := args.flatMap zBF, bump := true }) hmem;rw [hgv] at this;exact this) st' hQ
     · subst he;rw [hgv] at h2;refine zCi st ho hsc hgob hc hgv hv (hcl _ (fun _ _ => rfl) _) fun v' h' cnt' a' w' hR st' => ?_;obtain ⟨rfl, rfl, rfl⟩ := hR
       exact ih _ _ a' w' hl' h2 (by
         have := hG.step (e := { ob := True, v := v', wr := [], rd := rd, bump := false }) hmem;rw [hgv] at this;exact this) st' hQ
end
end Go.Pv
namespace Go.Pv
open Go Go.RowKit
section
variable {P : Program}
theorem zDZ {h h' : Heap} {sz : Nat} {x : PV} (hr : ∀ k ∈ (zAU h sz x).2.2, h' k = h k) : zAU h' sz x = zAU h sz x := by
 cases x with
 | ref k sz' off len =>
   have : h' k = h k := hr k (by simp only [zAU]; split <;> simp);simp only [zAU, this]
 | sc v => cases v <;> rfl
 | _ => rfl
theorem eff_heap {ρ : Operand → PV} {h h' : Heap} {key : Key} {o : Op} (hr : ∀ k ∈ (eff P ρ h key o).rd, h' k = h k) : eff P ρ h' key o = eff P ρ h key o := by
 cases o <;> try rfl
 case load t x =>
   simp only [eff] at hr ⊢;unfold zBK at hr ⊢;generalize ρ x = p at hr ⊢;cases p <;> try rfl
   rename_i k sz i j;have : h' k = h k := hr k (by simp only; split <;> simp);simp only [this]
 case store t x y =>
   simp only [eff] at hr ⊢;unfold zCw at hr ⊢;generalize ρ x = p at hr ⊢;cases p <;> try rfl
   rename_i k sz i j;have : h' k = h k := hr k (by simp only; split <;> simp);simp only [this]
 case convert s d x =>
   simp only [eff] at hr ⊢;unfold zDE at hr ⊢;generalize ρ x = p at hr ⊢;cases p <;> try rfl
   rename_i k sz off n
   have : h' k = h k := hr k (by
     simp only;split
     · split <;> simp
     · simp)
   simp only [this]
 case lookup t m k ok =>
   simp only [eff] at hr ⊢;unfold zBv at hr ⊢;cases hm : mapTy P t with
   | none => rfl
   | some ke =>
     rw [hm] at hr;simp only at hr ⊢;generalize ρ m = p at hr ⊢;cases p <;> try rfl
     rename_i key';have : h' key' = h key' := hr key' (by simp only; split <;> simp);simp only [this]
 case mapUpdate t m k v =>
   simp only [eff] at hr ⊢;unfold zBI at hr ⊢;cases hm : mapTy P t with
   | none => rfl
   | some ke =>
     rw [hm] at hr;simp only at hr ⊢;generalize ρ m = p at hr ⊢;cases p <;> try rfl
     rename_i key';have : h' key' = h key' := hr key' (by simp only; split <;> simp);simp only [this]
 case call c =>
   obtain ⟨callee, args, ts⟩ := c;cases callee with
   | value f => rfl
   | invoke r m => rfl
   | builtin b =>
     simp only [eff] at hr ⊢;generalize args.toList.map ρ = as at hr ⊢;generalize ts.toList = tl at hr ⊢;unfold zA9 at hr ⊢;split at hr
     · rename_i t _ x _;unfold zEN at hr ⊢;cases x with
       | map key' =>
         have : h' key' = h key' := hr key' (by simp only; split <;> simp);simp only [this]
       | sc v => cases v <;> rfl
       | _ => rfl
     · rename_i t t2 _ s x _;unfold zA3 at hr ⊢;simp only at hr ⊢;cases s with
       | ref k sz off len =>
         simp only at hr;have h1 : h' k = h k := hr k (by split <;> simp);have h2 : zAU h' (zAr P (zAu P t)) x = zAU h (zAr P (zAu P t)) x := zDZ fun k2 hk2 => hr k2 (by split <;> simp [hk2]);simp only [h1, h2]
       | nil =>
         simp only at hr;have h2 : zAU h' (zAr P (zAu P t)) x = zAU h (zAr P (zAu P t)) x := zDZ fun k2 hk2 => hr k2 (by cases (zAU h (zAr P (zAu P t)) x).2.1.isEmpty <;> exact hk2);simp only [h2]
       | _ =>
         simp only at hr;have h2 : zAU h' (zAr P (zAu P t)) x = zAU h (zAr P (zAu P t)) x := zDZ fun k2 hk2 => hr k2 hk2;simp only [h2]
     · rfl
     · rfl
     · rfl
     · rfl
     · rfl
     · rfl
theorem zGL {h h' : Heap} {p q : PV} (hi : Inn0 h p q) (hr : ∀ k ∈ keyOf p, h' k = h k) : Inn0 h' p q := by
 cases hi with
 | pure hp => exact .pure hp
 | lit ht => exact .lit ht
 | nil t sz => exact .nil t sz
 | ref hk hl he hp => exact .ref (by rw [hr _ (by simp [keyOf])]; exact hk) hl he hp
 | ptr hk hp => exact .ptr (by rw [hr _ (by simp [keyOf])]; exact hk) hp
 | lptr ht => exact .lptr ht
theorem inn_heap {h h' : Heap} {p q : PV} (hi : Inn h p q) (hr : ∀ k ∈ zBF p, h' k = h k) : Inn h' p q := by
 cases hi with
 | base hi =>
   cases hi with
   | pure hp => exact .base (.pure hp)
   | lit ht => exact .base (.lit ht)
   | nil t sz => exact .base (.nil t sz)
   | ref hk hl he hp => exact .base (.ref (by rw [hr _ (by simp [zBF, keyOf])]; exact hk) hl he hp)
   | ptr hk hp => exact .base (.ptr (by rw [hr _ (by simp [zBF, keyOf])]; exact hk) hp)
   | lptr ht => exact .base (.lptr ht)
 | func hl hl' ha hc =>
   refine .func hl hl' (fun i p q h1 h2 => zGL (ha i p q h1 h2) fun k hk => hr k ?_) (fun i p q h1 h2 => zGL (hc i p q h1 h2) fun k hk => hr k ?_)
   · simp only [zBF, List.mem_append, List.mem_flatMap]; exact .inl ⟨p, List.mem_of_getElem? h1, hk⟩
   · simp only [zBF, List.mem_append, List.mem_flatMap]; exact .inr ⟨p, List.mem_of_getElem? h1, hk⟩
 | agg hl ha =>
   refine .agg hl fun i p q h1 h2 => zGL (ha i p q h1 h2) fun k hk => hr k ?_;simp only [zBF, List.mem_flatMap]; exact ⟨p, List.mem_of_getElem? h1, hk⟩
theorem zIF {h h' : Heap} {a b : List PV} (hi : Inns h a b) (hr : ∀ k ∈ a.flatMap zBF, h' k = h k) : Inns h' a b := by
 induction hi with
 | nil => exact .nil
 | cons h1 h2 ih => exact .cons (inn_heap h1 fun k hk => hr k (by simp [hk])) (ih fun k hk => hr k (by simp only [List.flatMap_cons, List.mem_append]; exact .inr hk))
theorem zJ5 {r r' : Nat → PV} {x : Operand} (h : ∀ t, x = .tmp t → r' t = r t) : ev r' x = ev r x := by
 cases x <;> try rfl
 exact h _ rfl
theorem zEp {ops : Array Oper} {o : Oper} {t : Nat} (h : Operand.tmp t ∈ o.op.operands) : t ∈ o.looksAt ops := by
 unfold Oper.looksAt;exact List.mem_append_left _ (List.mem_filterMap.2 ⟨.tmp t, by simpa using h, rfl⟩)
theorem zCa {ops : Array Oper} {o : Oper} {j d : Nat} {w : Bool} (hg : o.guard = some (j, w)) (hd : (ops[j]?).bind (·.dst) = some d) : d ∈ o.looksAt ops := by
 unfold Oper.looksAt;refine List.mem_append_right _ ?_;rw [hg];simp [hd]
theorem GAt.local {ops : Array Oper} {i : Nat} {o : Oper} {c : Bool} {e : Eff} {σ τ : GS} {ft : Foot} (h : GAt P ops i o c e σ ft)
   (hr : ∀ t ∈ o.looksAt ops, τ.s.r t = σ.s.r t) (hG : ∀ t ∈ o.looksAt ops, τ.G t = σ.G t) (hh : ∀ k ∈ ft.rd, τ.s.h k = σ.s.h k) (hc : τ.s.cnt (zAH o) = σ.s.cnt (zAH o)) : GAt P ops i o c e τ ft := by
 obtain ⟨ho, hi, hgob, hcv, hrest⟩ := h;have hev : ∀ x ∈ o.op.operands, ev τ.s.r x = ev σ.s.r x := fun x hx => zJ5 fun t ht => hr t (zEp (by rw [← ht]; exact hx))
 have hok : ∀ x ∈ o.op.operands, zEG τ.G x = zEG σ.G x := fun x hx => by
   cases x <;> try rfl
   simp only [zEG];rw [hG _ (zEp hx)]
 have hgv : gval ops τ o.guard = gval ops σ o.guard := by
   unfold gval;cases hg : o.guard with
   | none => rfl
   | some gw =>
     obtain ⟨j, w⟩ := gw;simp only;cases hd : (ops[j]?).bind (·.dst) with
     | none => rfl
     | some d => simp only; rw [hr d (zCa hg hd), hG d (zCa hg hd)]
 have hgb : gob ops τ o.guard = gob ops σ o.guard := by
   unfold gob;cases hg : o.guard with
   | none => rfl
   | some gw =>
     obtain ⟨j, w⟩ := gw;simp only;cases hd : (ops[j]?).bind (·.dst) with
     | none => rfl
     | some d => simp only; rw [hr d (zCa hg hd), hG d (zCa hg hd)]
 have hval : valid σ o.op → valid τ o.op := by
   intro hv;generalize o.op = op at hv hev hok;cases op
   case pick a b d =>
     obtain ⟨h1, h2, h3⟩ := hv;refine ⟨by rw [hok _ (by simp [Op.operands])]; exact h1, fun h4 => ?_, fun h4 => ?_⟩
     · rw [hok _ (by simp [Op.operands])]; rw [hev _ (by simp [Op.operands])] at h4; exact h2 h4
     · rw [hok _ (by simp [Op.operands])]; rw [hev _ (by simp [Op.operands])] at h4; exact h3 h4
   all_goals exact fun x hx => by rw [hok x (by simpa using hx)]; exact hv x hx
 have hco : zAX τ.s.r o.op = zAX σ.s.r o.op := zFO hev;refine ⟨ho, hi, by rw [hgb]; exact hgob, by rw [hgv]; exact hcv, ?_⟩;rcases hrest with ⟨h1, h2, h4, h5, h6, h7⟩ | ⟨f, args, v, h1, h2, h3, h4, h5⟩ | ⟨f, args, h1, h2, h3, h4, ⟨sz, rows, as', h5, h6, h7⟩ | ⟨v, rd, h5, h6⟩, h8, h9⟩
 · refine .inl ⟨by rw [hco]; exact h1, fun hc' => ⟨hval (h2 hc').1, (h2 hc').2⟩, h4, ?_, h6, h7⟩;cases c with
   | false => exact h5
   | true =>
     simp only [effG, if_true] at h5 ⊢;rw [hc, zDd hev, eff_heap (fun k hk => hh k (by rw [h6, h5]; exact hk))];exact h5
 · refine .inr (.inl ⟨f, args, v, by rw [hco]; exact h1, fun hc' => ⟨hval (h2 hc').1, ?_⟩, h3, h4, h5⟩);obtain ⟨as', h6, h7⟩ := (h2 hc').2;exact ⟨as', zIF h6 fun k hk => hh k (by rw [h4]; exact hk), h7⟩
 · refine .inr (.inr ⟨f, args, by rw [hco]; exact h1, h2, hval h3, h4, .inl ⟨sz, rows, as', zIF h5 fun k hk => hh k (by rw [h8, h7]; exact hk), h6, ?_⟩, h8, h9⟩);rw [hc]; exact h7
 · refine .inr (.inr ⟨f, args, by rw [hco]; exact h1, h2, hval h3, h4, .inr ⟨v, rd, h5, fun h' hk' c' => h6 h' (fun k hk => (hk' k hk).trans (hh k (by rw [h8, h5]; exact hk))) c'⟩, h8, h9⟩)
theorem zHf {r : Nat → PV} {dst : Option Nat} {v : PV} {t : Nat} (h : dst ≠ some t) : putR r dst v t = r t := by
 cases dst with
 | none => rfl
 | some d => simp only [putR]; rw [if_neg (fun e => h (by rw [e]))]
theorem zHb {G : Nat → Bool} {dst : Option Nat} {c : Bool} {t : Nat} (h : dst ≠ some t) : setG G dst c t = G t := by
 cases dst with
 | none => rfl
 | some d => simp only [setG]; rw [if_neg (fun e => h (by rw [e]))]
theorem zCF {wr : List (Key × Option PObj)} : ∀ {h : Heap} {k : Key}, k ∉ wr.map (·.1) → zAZ h wr k = h k := by
 induction wr with
 | nil => intro h k _; rfl
 | cons x wr ih =>
   intro h k hk;simp only [List.map_cons, List.mem_cons, not_or] at hk;unfold zAZ at ih ⊢;rw [List.foldl_cons, ih hk.2];simp [hk.1]
theorem applyWr_eq {wr : List (Key × Option PObj)} : ∀ {h h' : Heap} {k : Key}, h k = h' k → zAZ h wr k = zAZ h' wr k := by
 induction wr with
 | nil => intro h h' k he; exact he
 | cons x wr ih =>
   intro h h' k he;unfold zAZ at ih ⊢;rw [List.foldl_cons, List.foldl_cons];refine ih ?_;simp only [he]
theorem zGm {wr : List (Key × Option PObj)} : ∀ {h h' : Heap} {k : Key}, k ∈ wr.map (·.1) → zAZ h wr k = zAZ h' wr k := by
 induction wr with
 | nil => intro h h' k hk; simp at hk
 | cons x wr ih =>
   intro h h' k hk;unfold zAZ at ih ⊢;rw [List.foldl_cons, List.foldl_cons];by_cases hx : k ∈ wr.map (·.1)
   · exact ih hx
   · have hkx : k = x.1 := by
       simp only [List.map_cons, List.mem_cons] at hk;exact hk.resolve_right hx
     have := applyWr_eq (wr := wr) (h := fun k' => if k' = x.1 then x.2 else h k') (h' := fun k' => if k' = x.1 then x.2 else h' k') (k := k) (by simp [hkx]);exact this
theorem applyWr_comm {wr wr' : List (Key × Option PObj)} (hd : zB3 (wr.map (·.1)) (wr'.map (·.1))) (h : Heap) : zAZ (zAZ h wr) wr' = zAZ (zAZ h wr') wr := by
 funext k;by_cases h1 : k ∈ wr.map (·.1)
 · have h2 := hd k h1;rw [zCF h2];exact zGm h1
 · rw [zCF h1 (h := zAZ h wr')];by_cases h2 : k ∈ wr'.map (·.1)
   · exact zGm h2
   · rw [zCF h2, zCF h2, zCF h1]
structure Free (ops : Array Oper) (a b : Oper) (x y : Foot) : Prop where
 apart : a.apart ops b = true
 site : zAH a ≠ zAH b ∨ (a.dst = none ∧ b.dst = none)
 wr : zB3 x.wr y.rd
 rw' : zJn a.op b.op = true ∨ zB3 y.wr x.rd
 ww : zB3 x.wr y.wr
theorem GAt.bump {ops : Array Oper} {i : Nat} {o : Oper} {c : Bool} {e : Eff} {σ : GS} {ft : Foot} (h : GAt P ops i o c e σ ft) : e.bump = true → o.dst.isSome = true := by
 obtain ⟨_, _, _, _, hrest⟩ := h;rcases hrest with ⟨_, _, h4, _⟩ | ⟨_, _, _, _, _, h3, _⟩ | ⟨_, _, _, _, _, h4, _⟩
 · exact h4
 · subst h3; intro h; cases h
 · exact fun _ => h4
theorem GAt.wrs {ops : Array Oper} {i : Nat} {o : Oper} {c : Bool} {e : Eff} {σ : GS} {ft : Foot} (h : GAt P ops i o c e σ ft) : ft.wr = e.wr.map (·.1) := by
 obtain ⟨_, _, _, _, hrest⟩ := h;rcases hrest with ⟨_, _, _, _, _, h7⟩ | ⟨_, _, _, _, _, h3, _, h5⟩ | ⟨_, _, _, _, _, _, _, _, h9⟩
 · exact h7
 · subst h3; exact h5
 · exact h9
theorem zKe {cnt : Nat → Nat} {s t : Nat} {b : Bool} (h : b = true → s ≠ t) : bumpC cnt s b t = cnt t := by
 cases b with
 | false => rfl
 | true => simp only [bumpC, if_true]; rw [if_neg (fun e => h rfl e.symm)]
theorem bumpC_comm (cnt : Nat → Nat) (s t : Nat) (b b' : Bool) : bumpC (bumpC cnt s b) t b' = bumpC (bumpC cnt t b') s b := by
 funext x;cases b <;> cases b' <;> simp only [bumpC, if_true, Bool.false_eq_true, if_false];split <;> split <;> rfl
theorem soft_eff {t : TypeId} {h : Heap} {m k m' k' : PV} (hob' : (zBE P h t m' k').ob) (hob : (zBv P h t m k false).ob) : zBv P (zAZ h (zBE P h t m' k').wr) t m k false = zBv P h t m k false := (show False from hob').elim
theorem softOp_spec {a b : Op} (h : zJn a b = true) : ∃ t m k m' k', a = .lookup t m k false ∧ b = .mapEntry t m' k' := by
 unfold zJn at h;split at h
 · rename_i t m k t' m' k';obtain rfl : t = t' := Nat.eq_of_beq_eq_true h;exact ⟨_, _, _, _, _, rfl, rfl⟩
 · cases h
theorem GAt.swap {ops : Array Oper} {i j : Nat} {a b : Oper} {c c' : Bool} {e e' : Eff} {σ : GS} {x y : Foot} (h : GAt P ops i a c e σ x) (h' : GAt P ops j b c' e' (stepG σ a c e) y) (hf : Free ops a b x y) :
   GAt P ops j b c' e' σ y ∧ GAt P ops i a c e (stepG σ b c' e') x ∧ stepG (stepG σ a c e) b c' e' = stepG (stepG σ b c' e') a c e := by
 obtain ⟨hd1, hd2, hd3⟩ := Oper.apart_spec hf.apart
 have hcnt : ∀ (cnt : Nat → Nat), bumpC cnt (zAH a) e.bump (zAH b) = cnt (zAH b) := fun cnt => zKe fun hb => by
   rcases hf.site with h1 | ⟨h1, _⟩
   · exact h1
   · have := h.bump hb; rw [h1] at this; cases this
 have h1 : GAt P ops j b c' e' σ y := by
   refine h'.local (fun t ht => ?_) (fun t ht => ?_) (fun k hk => ?_) ?_
   · exact (zHf fun he => hd1 t he ht).symm
   · exact (zHb fun he => hd1 t he ht).symm
   · refine (zCF ?_).symm;rw [← h.wrs];exact fun hm => hf.wr k hm hk
   · exact (hcnt _).symm
 have hcnt' : ∀ (cnt : Nat → Nat), bumpC cnt (zAH b) e'.bump (zAH a) = cnt (zAH a) := fun cnt => zKe fun hb => by
   rcases hf.site with h1 | ⟨_, h1⟩
   · exact fun e => h1 e.symm
   · have := h'.bump hb; rw [h1] at this; cases this
 refine ⟨h1, ?_, ?_⟩
 · rcases hf.rw' with hs | hf'
   · obtain ⟨t, m, k, m', k', ha, hb⟩ := softOp_spec hs
     -- the state behind b, with the heap as ahead of it
     have h2 : GAt P ops i a c e { (stepG σ b c' e') with s := { (stepG σ b c' e').s with h := σ.s.h } } x :=
       h.local (fun t ht => zHf fun he => hd3 t he ht) (fun t ht => zHb fun he => hd3 t he ht) (fun k hk => rfl) (hcnt' _)
     have hev : ∀ y, ev (stepG σ b c' e').s.r y = ev { (stepG σ b c' e') with s := { (stepG σ b c' e').s with h := σ.s.h } }.s.r y := fun _ => rfl;obtain ⟨_, _, _, _, hrest'⟩ := h1
     have hob' : c' = true → e' = zBE P σ.s.h t (ev σ.s.r m') (ev σ.s.r k') ∧ (zBE P σ.s.h t (ev σ.s.r m') (ev σ.s.r k')).ob := by
       intro hc';rcases hrest' with ⟨_, q2, _, q4, _, _⟩ | ⟨f, as, v, q1, _⟩ | ⟨f, as, q1, _⟩
       · have q5 := (q2 hc').2;subst hc';rw [hb] at q4;have q6 : e' = zBE P σ.s.h t (ev σ.s.r m') (ev σ.s.r k') := q4;rw [q6] at q5;exact ⟨q6, q5⟩
       · rw [hb] at q1; cases q1
       · rw [hb] at q1; cases q1
     obtain ⟨g1, g2, g3, g4, hrest⟩ := h2;refine ⟨g1, g2, g3, g4, ?_⟩;rcases hrest with ⟨q1, q2, q3, q4, q5, q6⟩ | ⟨f, as, v, q1, _⟩ | ⟨f, as, q1, _⟩
     · refine .inl ⟨q1, q2, q3, ?_, q5, q6⟩;rw [ha] at q4 ⊢;have q7 : e = effG c (zBv P σ.s.h t (ev (stepG σ b c' e').s.r m) (ev (stepG σ b c' e').s.r k) false) := q4;show e = effG c (zBv P (zAZ σ.s.h e'.wr) t (ev (stepG σ b c' e').s.r m) (ev (stepG σ b c' e').s.r k) false);rw [q7];cases hc : c with
       | false => rfl
       | true =>
         have q8 := (q2 hc).2;rw [q7, hc] at q8;cases hc' : c' with
         | false =>
           have : e'.wr = [] := by
             rcases hrest' with ⟨_, _, _, q4', _, _⟩ | ⟨f, as, v, q1', _⟩ | ⟨f, as, q1', _⟩
             · rw [q4', hc']; rfl
             · rw [hb] at q1'; cases q1'
             · rw [hb] at q1'; cases q1'
           rw [this]; rfl
         | true =>
           obtain ⟨p1, p2⟩ := hob' hc';show zBv P σ.s.h t _ _ false = zBv P (zAZ σ.s.h e'.wr) t _ _ false;have p3 : zAZ σ.s.h e'.wr = zAZ σ.s.h (zBE P σ.s.h t (ev σ.s.r m') (ev σ.s.r k')).wr := by rw [← p1]
           rw [p3];exact (soft_eff p2 q8).symm
     · rw [ha] at q1; cases q1
     · rw [ha] at q1; cases q1
   · refine h.local (fun t ht => ?_) (fun t ht => ?_) (fun k hk => ?_) ?_
     · exact zHf fun he => hd3 t he ht
     · exact zHb fun he => hd3 t he ht
     · refine zCF ?_;rw [← h'.wrs];exact fun hm => hf' k hm hk
     · exact hcnt' _
 · have hr : putR (putR σ.s.r a.dst e.v) b.dst e'.v = putR (putR σ.s.r b.dst e'.v) a.dst e.v := by
     funext t;cases hda : a.dst with
     | none => rfl
     | some da =>
       cases hdb : b.dst with
       | none => rfl
       | some db =>
         have hne : da ≠ db := fun he => hd2 da hda (by rw [hdb, he]);simp only [putR];by_cases h1 : t = da
         · have h2 : ¬ t = db := fun h2 => hne (h1.symm.trans h2);simp only [if_pos h1, if_neg h2]
         · simp only [if_neg h1]
   have hG : setG (setG σ.G a.dst c) b.dst c' = setG (setG σ.G b.dst c') a.dst c := by
     funext t;cases hda : a.dst with
     | none => rfl
     | some da =>
       cases hdb : b.dst with
       | none => rfl
       | some db =>
         have hne : da ≠ db := fun he => hd2 da hda (by rw [hdb, he]);simp only [setG];by_cases h1 : t = da
         · have h2 : ¬ t = db := fun h2 => hne (h1.symm.trans h2);simp only [if_pos h1, if_neg h2]
         · simp only [if_neg h1]
   have hh : zAZ (zAZ σ.s.h e.wr) e'.wr = zAZ (zAZ σ.s.h e'.wr) e.wr := applyWr_comm (by rw [← h.wrs, ← h'.wrs]; exact hf.ww) _;simp only [stepG, stepS, hr, hG, hh, bumpC_comm]
end
end Go.Pv
namespace Go.Pv
open Go Go.RowKit
section
variable {P : Program}
theorem zDN {ops : Array Oper} {o : Oper} {σ τ : GS} (hr : ∀ t ∈ o.looksAt ops, τ.s.r t = σ.s.r t) (hG : ∀ t ∈ o.looksAt ops, τ.G t = σ.G t) :
   (∀ x ∈ o.op.operands, ev τ.s.r x = ev σ.s.r x) ∧ gval ops τ o.guard = gval ops σ o.guard ∧ gob ops τ o.guard = gob ops σ o.guard ∧ (valid σ o.op → valid τ o.op) ∧ zAX τ.s.r o.op = zAX σ.s.r o.op := by
 have hev : ∀ x ∈ o.op.operands, ev τ.s.r x = ev σ.s.r x := fun x hx => zJ5 fun t ht => hr t (zEp (by rw [← ht]; exact hx))
 have hok : ∀ x ∈ o.op.operands, zEG τ.G x = zEG σ.G x := fun x hx => by
   cases x <;> try rfl
   simp only [zEG];rw [hG _ (zEp hx)]
 refine ⟨hev, ?_, ?_, ?_, zFO hev⟩
 · unfold gval;cases hg : o.guard with
   | none => rfl
   | some gw =>
     obtain ⟨j, w⟩ := gw;simp only;cases hd : (ops[j]?).bind (·.dst) with
     | none => rfl
     | some d => simp only; rw [hr d (zCa hg hd), hG d (zCa hg hd)]
 · unfold gob;cases hg : o.guard with
   | none => rfl
   | some gw =>
     obtain ⟨j, w⟩ := gw;simp only;cases hd : (ops[j]?).bind (·.dst) with
     | none => rfl
     | some d => simp only; rw [hr d (zCa hg hd), hG d (zCa hg hd)]
 · intro hv;generalize o.op = op at hv hev hok;cases op
   case pick a b d =>
     obtain ⟨h1, h2, h3⟩ := hv;refine ⟨by rw [hok _ (by simp [Op.operands])]; exact h1, fun h4 => ?_, fun h4 => ?_⟩
     · rw [hok _ (by simp [Op.operands])]; rw [hev _ (by simp [Op.operands])] at h4; exact h2 h4
     · rw [hok _ (by simp [Op.operands])]; rw [hev _ (by simp [Op.operands])] at h4; exact h3 h4
   all_goals exact fun x hx => by rw [hok x (by simpa using hx)]; exact hv x hx
theorem keyless_call {r : Nat → PV} {o : Op} (h : zHt o = true) : zAX r o = none := by
 cases o <;> first | rfl | (simp [zHt] at h)
theorem GAt.calm {ops : Array Oper} {i : Nat} {o : Oper} {c : Bool} {e : Eff} {σ τ : GS} {ft : Foot} (h : GAt P ops i o c e σ ft) (hk : zHt o.op = true)
   (hr : ∀ t ∈ o.looksAt ops, τ.s.r t = σ.s.r t) (hG : ∀ t ∈ o.looksAt ops, τ.G t = σ.G t)
   (he : c = true → eff P (ev σ.s.r) τ.s.h (zAH o, τ.s.cnt (zAH o)) o.op = eff P (ev σ.s.r) σ.s.h (zAH o, σ.s.cnt (zAH o)) o.op) : GAt P ops i o c e τ ft := by
 obtain ⟨hev, hgv, hgb, hval, hco⟩ := zDN hr hG;obtain ⟨ho, hi, hgob, hcv, hrest⟩ := h;have hn := keyless_call (r := σ.s.r) hk;refine ⟨ho, hi, by rw [hgb]; exact hgob, by rw [hgv]; exact hcv, ?_⟩;rcases hrest with ⟨h1, h2, h4, h5, h6, h7⟩ | ⟨f, args, v, h1, _⟩ | ⟨f, args, h1, _⟩
 · refine .inl ⟨by rw [hco]; exact h1, fun hc' => ⟨hval (h2 hc').1, (h2 hc').2⟩, h4, ?_, h6, h7⟩;rw [h5];cases c with
   | false => rfl
   | true => simp only [effG, if_true]; rw [zDd hev, he rfl]
 · rw [hn] at h1; cases h1
 · rw [hn] at h1; cases h1
theorem zIn {r : Nat → PV} {a b : Option Nat} {u v : PV} (h : ∀ d, a = some d → b ≠ some d) : putR (putR r a u) b v = putR (putR r b v) a u := by
 funext t;cases a with
 | none => rfl
 | some da =>
   cases b with
   | none => rfl
   | some db =>
     have hne : da ≠ db := fun he => h da rfl (by rw [he]);simp only [putR];by_cases h1 : t = da
     · have h2 : ¬ t = db := fun h2 => hne (h1.symm.trans h2);simp only [if_pos h1, if_neg h2]
     · simp only [if_neg h1]
theorem zIf {G : Nat → Bool} {a b : Option Nat} {u v : Bool} (h : ∀ d, a = some d → b ≠ some d) : setG (setG G a u) b v = setG (setG G b v) a u := by
 funext t;cases a with
 | none => rfl
 | some da =>
   cases b with
   | none => rfl
   | some db =>
     have hne : da ≠ db := fun he => h da rfl (by rw [he]);simp only [setG];by_cases h1 : t = da
     · have h2 : ¬ t = db := fun h2 => hne (h1.symm.trans h2);simp only [if_pos h1, if_neg h2]
     · simp only [if_neg h1]
theorem zKN (σ : GS) (x : XIt) : (stepX σ x).s.r = putR σ.s.r x.o.dst x.e.v := by
 unfold stepX; split <;> rfl
theorem zKO (σ : GS) (x : XIt) {c : Bool} (h : x.hc = none → x.c = c) (h' : x.hc ≠ none → c = true) : (stepX σ x).G = setG σ.G x.o.dst c := by
 unfold stepX;split
 · rename_i hn; rw [← h hn]; rfl
 · rename_i hn; rw [h' (by rw [hn]; simp)]
theorem XAt.swap {ops : Array Oper} {x y : XIt} {σ : GS} (h : XAt P ops x σ) (h' : XAt P ops y (stepX σ x)) (hf : XFree ops x y) :
   XAt P ops y σ ∧ XAt P ops x (stepX σ y) ∧ stepX (stepX σ x) y = stepX (stepX σ y) x := by
 obtain ⟨hap, hf⟩ := hf;obtain ⟨hd1, hd2, hd3⟩ := Oper.apart_spec hap;have hry : ∀ t ∈ y.o.looksAt ops, (stepX σ x).s.r t = σ.s.r t := fun t ht => by rw [zKN]; exact zHf fun he => hd1 t he ht
 have hrx : ∀ t ∈ x.o.looksAt ops, (stepX σ y).s.r t = σ.s.r t := fun t ht => by rw [zKN]; exact zHf fun he => hd3 t he ht
 have hGs : ∀ z : XIt, ∃ c, (stepX σ z).G = setG σ.G z.o.dst c := fun z => by
   cases hz : z.hc with
   | none => exact ⟨_, zKO σ z (c := z.c) (fun _ => rfl) (fun hn => absurd hz hn)⟩
   | some _ => exact ⟨_, zKO σ z (c := true) (fun hn => by rw [hz] at hn; cases hn) (fun _ => rfl)⟩
 have hGy : ∀ t ∈ y.o.looksAt ops, (stepX σ x).G t = σ.G t := fun t ht => by obtain ⟨c, hc⟩ := hGs x; rw [hc]; exact zHb fun he => hd1 t he ht
 have hGx : ∀ t ∈ x.o.looksAt ops, (stepX σ y).G t = σ.G t := fun t ht => by obtain ⟨c, hc⟩ := hGs y; rw [hc]; exact zHb fun he => hd3 t he ht
 have hly := zDN (τ := stepX σ x) (σ := σ) hry hGy;have hlx := zDN (τ := stepX σ y) (σ := σ) hrx hGx;obtain ⟨xi, xo, xc, xe, xft, xhc, xef⟩ := x;obtain ⟨yi, yo, yc, ye, yft, yhc, yef⟩ := y;dsimp only at *;cases xhc with
 | none =>
   cases yhc with
   | none =>
     obtain ⟨hx1, hx2⟩ := h;obtain ⟨hy1, hy2⟩ := h';dsimp only at hx1 hx2 hy1 hy2 hf;obtain ⟨g1, g2, g3⟩ := hx1.swap hy1 ⟨hap, hf.1, hf.2.1, hf.2.2.1, hf.2.2.2⟩;refine ⟨⟨g1, fun hk hc h key => ?_⟩, ⟨g2, fun hk hc h key => ?_⟩, g3⟩
     · exact (zDd hly.1).symm.trans (hy2 hk hc h key)
     · exact (zDd hlx.1).trans (hx2 hk hc h key)
   | some q =>
     obtain ⟨hb, ha, c0⟩ := q;obtain ⟨hx1, hx2⟩ := h;dsimp only at hx1 hx2 hf;obtain ⟨hk, hw, hbu, hef⟩ := hf;dsimp only at hk hw hbu hef;obtain ⟨e1, e2, e3, e4, e5, f, args, e6, e7⟩ := h';dsimp only at e1 e2 e3 e4 e5 e6 e7;have hh : (stepG σ xo xc xe).s.h = σ.s.h := by show zAZ σ.s.h xe.wr = _; rw [hw]; rfl
     have hcn : (stepG σ xo xc xe).s.cnt = σ.s.cnt := by show bumpC σ.s.cnt (zAH xo) xe.bump = _; rw [hbu]; rfl
     have e7' : zAy P f args σ.s.h σ.s.cnt fun v h' c' => v = ye.v ∧ h' = ha ∧ c' = c0 := by rw [← hh, ← hcn]; exact e7
     have hσ : σ.s.h = hb := by rw [← hh]; exact e5
     refine ⟨⟨e1, by rw [← hly.2.2.1]; exact e2, by rw [← hly.2.1]; exact e3, ?_, hσ, f, args, by rw [← hly.2.2.2.2]; exact e6, e7'⟩, ⟨?_, ?_⟩, ?_⟩
     · have := zDN (τ := σ) (σ := stepX σ ⟨xi, xo, xc, xe, xft, none, xef⟩) (fun t ht => (hry t ht).symm) (fun t ht => (hGy t ht).symm);exact this.2.2.2.1 e4
     · refine hx1.calm hk hrx hGx fun hc => ?_;show eff P (ev σ.s.r) ha _ xo.op = _;rw [hx2 hk hc, hx2 hk hc, ← hef hc, hσ]
     · intro hk' hc h key;exact (zDd hlx.1).trans (hx2 hk' hc h key)
     · have g1 : putR (putR σ.s.r xo.dst xe.v) yo.dst ye.v = putR (putR σ.s.r yo.dst ye.v) xo.dst xe.v := zIn hd2;have g2 : setG (setG σ.G xo.dst xc) yo.dst true = setG (setG σ.G yo.dst true) xo.dst xc := zIf hd2;show (⟨⟨putR (putR σ.s.r xo.dst xe.v) yo.dst ye.v, ha, c0⟩, setG (setG σ.G xo.dst xc) yo.dst true⟩ : GS) = ⟨⟨putR (putR σ.s.r yo.dst ye.v) xo.dst xe.v, zAZ ha xe.wr, bumpC c0 (zAH xo) xe.bump⟩, setG (setG σ.G yo.dst true) xo.dst xc⟩
       rw [g1, g2, hw, hbu]; rfl
 | some p =>
   obtain ⟨hb, ha, c0⟩ := p;cases yhc with
   | some q => exact hf.elim
   | none =>
     obtain ⟨hy1, hy2⟩ := h';dsimp only at hy1 hy2 hf;obtain ⟨hk, hw, hbu, hef⟩ := hf;dsimp only at hk hw hbu hef;obtain ⟨e1, e2, e3, e4, e5, f, args, e6, e7⟩ := h;dsimp only at e1 e2 e3 e4 e5 e6 e7;have hh : (stepG σ yo yc ye).s.h = σ.s.h := by show zAZ σ.s.h ye.wr = _; rw [hw]; rfl
     have hcn : (stepG σ yo yc ye).s.cnt = σ.s.cnt := by show bumpC σ.s.cnt (zAH yo) ye.bump = _; rw [hbu]; rfl
     refine ⟨⟨?_, ?_⟩, ⟨e1, by rw [hlx.2.2.1]; exact e2, by rw [hlx.2.1]; exact e3, hlx.2.2.2.1 e4, ?_, f, args, by rw [hlx.2.2.2.2]; exact e6, ?_⟩, ?_⟩
     · refine hy1.calm hk (fun t ht => (hry t ht).symm) (fun t ht => (hGy t ht).symm) fun hc => ?_;show eff P _ σ.s.h _ yo.op = eff P _ ha _ yo.op;rw [hy2 hk hc, hy2 hk hc, ← hef hc, e5]
     · intro hk' hc h key;exact (zDd hly.1).symm.trans (hy2 hk' hc h key)
     · show (stepG σ yo yc ye).s.h = hb;rw [hh]; exact e5
     · show zAy P f args (stepG σ yo yc ye).s.h (stepG σ yo yc ye).s.cnt _;rw [hh, hcn]; exact e7
     · have g1 : putR (putR σ.s.r xo.dst xe.v) yo.dst ye.v = putR (putR σ.s.r yo.dst ye.v) xo.dst xe.v := zIn hd2;have g2 : setG (setG σ.G xo.dst true) yo.dst yc = setG (setG σ.G yo.dst yc) xo.dst true := zIf hd2;show (⟨⟨putR (putR σ.s.r xo.dst xe.v) yo.dst ye.v, zAZ ha ye.wr, bumpC c0 (zAH yo) ye.bump⟩, setG (setG σ.G xo.dst true) yo.dst yc⟩ : GS) = ⟨⟨putR (putR σ.s.r yo.dst ye.v) xo.dst xe.v, ha, c0⟩, setG (setG σ.G yo.dst yc) xo.dst true⟩
       rw [g1, g2, hw, hbu]; rfl
theorem XRun.bubble {ops : Array Oper} : ∀ {l1 : List XIt} {x : XIt} {l2 : List XIt} {σ σ' : GS}, XRun P ops (l1 ++ x :: l2) σ σ' → (∀ y ∈ l1, XFree ops y x) → XRun P ops (x :: (l1 ++ l2)) σ σ'
 | [], _, _, _, _, h, _ => h
 | y :: l1, x, l2, σ, σ', h, hf => by
   cases h with
   | cons h hr =>
     cases XRun.bubble hr fun z hz => hf z (by simp [hz]) with
     | cons h2 hr2 =>
       obtain ⟨h3, h4, h5⟩ := h.swap h2 (hf y (by simp));rw [h5] at hr2;exact .cons h3 (.cons h4 hr2)
theorem XAt.op {ops : Array Oper} {x : XIt} {σ : GS} (h : XAt P ops x σ) : ops[x.i]? = some x.o := by
 unfold XAt at h;split at h
 · exact h.1.1
 · exact h.1
theorem XRun.at {ops : Array Oper} : ∀ {L : List XIt} {σ σ' : GS}, XRun P ops L σ σ' → ∀ x ∈ L, ops[x.i]? = some x.o
 | _, _, _, .nil _, x, hx => by simp at hx
 | _, _, _, .cons h hr, x, hx => by
   rcases List.mem_cons.1 hx with rfl | hx
   · exact h.op
   · exact hr.at x hx
end
end Go.Pv
namespace Go.Pv
open Go Go.RowKit
section
variable {P : Program}
structure It where
 i : Nat
 o : Oper
 c : Bool
 e : Eff
 ft : Foot
inductive GRun (P : Program) (ops : Array Oper) : List It → GS → GS → Prop where
 | nil (σ : GS) : GRun P ops [] σ σ
 | cons {x : It} {l : List It} {σ σ' : GS} (h : GAt P ops x.i x.o x.c x.e σ x.ft) (hr : GRun P ops l (stepG σ x.o x.c x.e) σ') : GRun P ops (x :: l) σ σ'
theorem GRun.bubble {ops : Array Oper} : ∀ {l1 : List It} {x : It} {l2 : List It} {σ σ' : GS}, GRun P ops (l1 ++ x :: l2) σ σ' → (∀ y ∈ l1, Free ops y.o x.o y.ft x.ft) → GRun P ops (x :: (l1 ++ l2)) σ σ'
 | [], _, _, _, _, h, _ => h
 | y :: l1, x, l2, σ, σ', h, hf => by
   cases h with
   | cons h hr =>
     cases GRun.bubble hr fun z hz => hf z (by simp [hz]) with
     | cons h2 hr2 =>
       obtain ⟨h3, h4, h5⟩ := h.swap h2 (hf y (by simp));rw [h5] at hr2;exact .cons h3 (.cons h4 hr2)
def zMD (P : Program) (ops : Array Oper) (K : PS → Prop) (m : Nat) (σ : GS) : Prop :=
 (m = ops.size ∧ K (fin ops.toList σ.s)) ∨
 ∃ (o : Oper) (f : FuncId) (args : List PV), ops[m]? = some o ∧ gob ops σ o.guard ∧ zAX σ.s.r o.op = some (f, args) ∧ gval ops σ o.guard = true ∧ valid σ o.op ∧ zEU ops m = true ∧
   zAy P f args σ.s.h σ.s.cnt fun v h' cnt' => gOps P ops true K (ops.toList.drop (m + 1)) (m + 1) ⟨⟨putR σ.s.r o.dst v, h', cnt'⟩, setG σ.G o.dst true⟩ []
theorem zFG {ops : Array Oper} {K : PS → Prop} : ∀ (l : List Oper) (i : Nat) (σ : GS) (tr : List Foot), i + l.length = ops.size → l = ops.toList.drop i → gOps P ops true K l i σ tr →
   ∃ (L : List It) (σ' : GS) (m : Nat), GRun P ops L σ σ' ∧ L.map (·.i) = List.range' i L.length ∧ i + L.length = m ∧ m ≤ ops.size ∧ (∀ x ∈ L, x.ft.i = x.i) ∧ zDh ops (tr ++ L.map (·.ft)) ∧ zMD P ops K m σ'
 | [], i, σ, tr, hlen, _, h => ⟨[], σ, i, .nil σ, rfl, rfl, by simp at hlen; omega, by simp, by simpa using h.1 rfl, .inl ⟨by simpa using hlen, h.2⟩⟩
 | o :: l, i, σ, tr, hlen, hl, h => by
   have ho : ops[i]? = some o := by
     have := congrArg (fun l => l[0]?) hl;simp only [List.getElem?_cons_zero, List.getElem?_drop, Nat.add_zero] at this;simpa using this.symm
   have hl' : l = ops.toList.drop (i + 1) := by
     have := congrArg List.tail hl;simpa using this
   have hlen' : i + 1 + l.length = ops.size := by simp at hlen; omega
   unfold gOps at h;obtain ⟨hgob, h⟩ := h;split at h
   · rename_i hno;obtain ⟨h1, h3, h4⟩ := h;obtain ⟨L, σ', m, h5, h6, hm1, hm2, h7, h8, h9⟩ := zFG l (i + 1) _ _ hlen' hl' h4;refine ⟨⟨i, o, gval ops σ o.guard, effG (gval ops σ o.guard) (eff P (ev σ.s.r) σ.s.h (zAH o, σ.s.cnt (zAH o)) o.op), ⟨i, (effG (gval ops σ o.guard) (eff P (ev σ.s.r) σ.s.h (zAH o, σ.s.cnt (zAH o)) o.op)).rd, (effG (gval ops σ o.guard) (eff P (ev σ.s.r) σ.s.h (zAH o, σ.s.cnt (zAH o)) o.op)).wr.map (·.1)⟩⟩ :: L, σ', m, ?_, ?_, ?_, hm2, ?_, ?_, h9⟩
     · exact .cons ⟨ho, rfl, hgob, rfl, .inl ⟨hno, fun (hc : gval ops σ o.guard = true) => ⟨(h1 hc).1, by show (effG _ _).ob; rw [hc]; exact (h1 hc).2⟩, h3, rfl, rfl, rfl⟩⟩ h5
     · simp [h6, List.range'_succ]
     · simp; omega
     · intro x hx;rcases List.mem_cons.1 hx with rfl | hx
       · rfl
       · exact h7 x hx
     · simpa using h8
   · rename_i f args hc;rcases h with ⟨v, h1, h2⟩ | ⟨hgv, hv, hbar, hcall⟩ | ⟨hgv, hv, hdst, e, hne, h2⟩
     · obtain ⟨L, σ', m, h5, h6, hm1, hm2, h7, h8, h9⟩ := zFG l (i + 1) _ _ hlen' hl' h2;refine ⟨⟨i, o, gval ops σ o.guard, .val True v, ⟨i, args.flatMap zBF, []⟩⟩ :: L, σ', m, ?_, ?_, ?_, hm2, ?_, ?_, h9⟩
       · exact .cons ⟨ho, rfl, hgob, rfl, .inr (.inl ⟨f, args, v, hc, h1, rfl, rfl, rfl⟩)⟩ h5
       · simp [h6, List.range'_succ]
       · simp; omega
       · intro x hx;rcases List.mem_cons.1 hx with rfl | hx
         · rfl
         · exact h7 x hx
       · simpa using h8
     · obtain ⟨hb1, hb2⟩ := hbar rfl;refine ⟨[], σ, i, .nil σ, rfl, rfl, by simp at hlen; omega, by simp, by simpa using hb2, .inr ⟨o, f, args, ho, hgob, hc, hgv, hv, hb1, ?_⟩⟩;rw [← hl']; exact hcall
     · obtain ⟨L, σ', m, h5, h6, hm1, hm2, h7, h8, h9⟩ := zFG l (i + 1) _ _ hlen' hl' h2;refine ⟨⟨i, o, gval ops σ o.guard, e, ⟨i, e.rd, e.wr.map (·.1)⟩⟩ :: L, σ', m, ?_, ?_, ?_, hm2, ?_, ?_, h9⟩
       · exact .cons ⟨ho, rfl, hgob, rfl, .inr (.inr ⟨f, args, hc, hgv, hv, hdst, hne, rfl, rfl⟩)⟩ h5
       · simp [h6, List.range'_succ]
       · simp; omega
       · intro x hx;rcases List.mem_cons.1 hx with rfl | hx
         · rfl
         · exact h7 x hx
       · simpa using h8
theorem zEu {ops : Array Oper} (h : zDR ops = true) {i : Nat} {o : Oper} (ho : ops[i]? = some o) {e : Edge} (he : e ∈ o.after) (hb : Region.binds .any e = true) : e.on < i := by
 unfold zDR at h;have h1 := (List.all_eq_true.1 h) (o, i) (by rw [List.mem_zipIdx_iff_getElem?]; simpa using ho)
 have h2 := (Array.all_eq_true_iff_forall_mem.1 h1) e he;simpa [hb] using h2
theorem zDX {ops : Array Oper} {D : Nat → Prop} (hd : ∀ (i : Nat) (o : Oper), ops[i]? = some o → D i → ∀ e ∈ o.after, Region.binds .any e = true → D e.on) : ∀ (n i p : Nat), (∀ o : Oper, ops[i]? = some o → ∀ e ∈ o.after, Region.binds .any e = true → D e.on) → waitsFor ops n i p = true → D p
 | 0, _, _, _, h => by simp [waitsFor] at h
 | n + 1, i, p, hi, h => by
   unfold waitsFor at h;cases ho : ops[i]? with
   | none => rw [ho] at h; simp at h
   | some o =>
     rw [ho] at h;simp only [Option.map_some, Option.getD_some] at h;obtain ⟨e, he, h1⟩ := Array.any_eq_true'.1 h;simp only [Bool.and_eq_true, Bool.or_eq_true, beq_iff_eq] at h1;obtain ⟨hb, h1⟩ := h1;have hD := hi o ho e he hb;rcases h1 with h1 | h1
     · rw [← h1]; exact hD
     · exact zDX hd n e.on p (fun o' ho' e' he' hb' => hd e.on o' ho' hD e' he' hb') h1
theorem indep_free {ops : Array Oper} {x y : It} (hx : ops[x.i]? = some x.o) (hy : ops[y.i]? = some y.o) (hfx : x.ft.i = x.i) (hfy : y.ft.i = y.i) (h : Indep ops x.ft y.ft) (hn : ¬ waitsFor ops ops.size y.i x.i = true) : Free ops x.o y.o x.ft y.ft := by
 unfold Indep at h;rw [hfx, hfy] at h;rcases h with h | ⟨h1, h2, h3, h4⟩
 · exact absurd h hn
 · rw [hx, hy] at h1;simp only [Option.bind_eq_bind, Option.bind_some, Option.pure_def, Option.getD_some, Bool.and_eq_true, Bool.or_eq_true, bne_iff_ne, Option.isNone_iff_eq_none] at h1;refine ⟨h1.1, h1.2, h2, ?_, h4⟩;rcases h3 with h3 | h3
   · rw [zKo, hx, hy] at h3; exact .inl h3
   · exact .inr h3
def Pairs (R : It → It → Prop) : List It → Prop
 | [] => True
 | x :: l => (∀ y ∈ l, R x y) ∧ Pairs R l
theorem Pairs.of_indep {ops : Array Oper} : ∀ {L : List It}, zDh ops (L.map (·.ft)) → Pairs (fun x y => Indep ops x.ft y.ft) L
 | [], _ => trivial
 | _x :: _L, h => ⟨fun y hy => h.1 y.ft (List.mem_map.2 ⟨y, hy, rfl⟩), Pairs.of_indep h.2⟩
theorem Pairs.split {R : It → It → Prop} : ∀ {l1 : List It} {x : It} {l2 : List It}, Pairs R (l1 ++ x :: l2) → (∀ y ∈ l1, R y x) ∧ Pairs R (l1 ++ l2)
 | [], x, l2, h => ⟨by simp, h.2⟩
 | y :: l1, x, l2, h => by
   obtain ⟨h1, h2⟩ := Pairs.split h.2
   exact ⟨fun z hz => by
     rcases List.mem_cons.1 hz with rfl | hz
     · exact h.1 x (by simp)
     · exact h1 z hz, fun z hz => h.1 z (by
     rcases List.mem_append.1 hz with h | h
     · exact List.mem_append_left _ h
     · exact List.mem_append_right _ (List.mem_cons_of_mem _ h)), h2⟩
theorem GRun.at {ops : Array Oper} : ∀ {L : List It} {σ σ' : GS}, GRun P ops L σ σ' → ∀ x ∈ L, ops[x.i]? = some x.o
 | _, _, _, .nil _, x, hx => by simp at hx
 | _, _, _, .cons h hr, x, hx => by
   rcases List.mem_cons.1 hx with rfl | hx
   · exact h.1
   · exact hr.at x hx
theorem zDt : ∀ (n i : Nat), (List.range' i n).Pairwise (· < ·)
 | 0, _ => by simp
 | n + 1, i => by
   rw [List.range'_succ, List.pairwise_cons];refine ⟨fun x hx => ?_, zDt n (i + 1)⟩;rw [List.mem_range'_1] at hx;omega
theorem zG3 {E0 : Env} {n : Nat} {ops : Array Oper} {Q : Exit → Act → World → Prop} {K : PS → Prop} (hsc : ∀ o ∈ ops, zA8 n o = true) (hdb : zDR ops = true) (hQ : ∀ s' a' w', K s' → St E0 n s' a' w' → Q .normal a' w') :
   ∀ (fuel : Nat) (L : List It) (m : Nat) (σ' : GS) (listed : Array Bool) (σ : GS) (a : Act) (w : World), L.length + (ops.size - m) = fuel → m ≤ ops.size → zMD P ops K m σ' → (∀ x ∈ L, x.i < m) → GRun P ops L σ σ' → (L.map (·.i)).Pairwise (· < ·) → (∀ x ∈ L, x.ft.i = x.i) → Pairs (fun x y => Indep ops x.ft y.ft) L →
     listed.size = ops.size → (∀ i, i < ops.size → (listed[i]? = some false ↔ (i ∈ L.map (·.i) ∨ m ≤ i))) → (∀ (i : Nat) (o : Oper), ops[i]? = some o → listed[i]? = some true → ∀ e ∈ o.after, Region.binds .any e = true → listed[e.on]? = some true) →
     Gok ops σ → GSt E0 n σ a w → wpAny P .any ops Q fuel listed a w
 | 0, L, m, σ', listed, σ, a, w, hlen, hmle, hend, hLm, hrun, hsort, hft, hpairs, hsz, hlist, hdown, hG, st => by
   have hL : L = [] := List.eq_nil_of_length_eq_zero (by omega);have hms : m = ops.size := by omega
   subst hL;cases hrun
   have hK : K (fin ops.toList σ'.s) := by
     rcases hend with ⟨_, h⟩ | ⟨o, _, _, h, _⟩
     · exact h
     · rw [hms, Array.getElem?_eq_none (Nat.le_refl _)] at h; cases h
   refine ⟨?_, hQ _ a w hK (zIQ st hG)⟩;unfold Region.ready;rw [List.filter_eq_nil_iff];intro i hi;have hi' : i < ops.size := by simpa using hi
   have h1 : listed[i]? = some true := by
     have h2 : listed[i]? ≠ some false := fun h => by have := (hlist i hi').1 h; simp at this; omega
     have h3 : i < listed.size := by omega
     rw [Array.getElem?_eq_getElem h3] at h2 ⊢;cases hq : listed[i] with
     | true => rfl
     | false => rw [hq] at h2; exact absurd rfl h2
   simp [h1]
 | fuel + 1, L, m, σ', listed, σ, a, w, hlen, hmle, hend, hLm, hrun, hsort, hft, hpairs, hsz, hlist, hdown, hG, st => by
   have hlisted : ∀ i, i < ops.size → i ∉ L.map (·.i) → i < m → listed[i]? = some true := fun i hi hn hm => by
     have h2 : listed[i]? ≠ some false := fun h => by
       rcases (hlist i hi).1 h with h | h
       · exact hn h
       · omega
     have h3 : i < listed.size := by omega
     rw [Array.getElem?_eq_getElem h3] at h2 ⊢;cases hq : listed[i] with
     | true => rfl
     | false => rw [hq] at h2; exact absurd rfl h2
   constructor
   · -- the first one that is left may always come up
     intro hempty;cases L with
     | nil =>
       exfalso;have hmlt : m < ops.size := by simp at hlen; omega
       have hmo : ops[m]? = some ops[m] := Array.getElem?_eq_getElem hmlt
       have hmem : m ∈ Region.ready .any ops listed := by
         unfold Region.ready;rw [List.mem_filter];refine ⟨by simpa using hmlt, ?_⟩;have h1 := (hlist m hmlt).2 (.inr (Nat.le_refl _));simp only [Array.getD_eq_getD_getElem?, h1, Option.getD_some, Bool.not_false, Bool.true_and, hmo, Option.map_some];refine Array.all_eq_true_iff_forall_mem.2 fun e he => ?_;cases hb : Region.binds .any e with
         | false => rfl
         | true =>
           have hlt := zEu hdb hmo he hb;simp [hlisted e.on (by omega) (by simp) hlt]
       rw [hempty] at hmem;simp at hmem
     | cons x L =>
       exfalso;have hxo := hrun.at x (by simp);have hxi : x.i < ops.size := (Array.getElem?_eq_some_iff.1 hxo).1
       have hmem : x.i ∈ Region.ready .any ops listed := by
         unfold Region.ready;rw [List.mem_filter];refine ⟨by simpa using hxi, ?_⟩;have h1 := (hlist x.i hxi).2 (.inl (by simp));simp only [Array.getD_eq_getD_getElem?, h1, Option.getD_some, Bool.not_false, Bool.true_and, hxo, Option.map_some];refine Array.all_eq_true_iff_forall_mem.2 fun e he => ?_;cases hb : Region.binds .any e with
         | false => rfl
         | true =>
           have hlt := zEu hdb hxo he hb
           have : e.on ∉ (x :: L).map (·.i) := fun hm => by
             simp only [List.map_cons, List.mem_cons] at hm;rcases hm with hm | hm
             · omega
             · have := (List.pairwise_cons.1 (by simpa using hsort)).1 e.on hm;omega
           simp [hlisted e.on (by omega) this (by have := hLm x (by simp); omega)]
       rw [hempty] at hmem;simp at hmem
   · intro i hi;unfold Region.ready at hi;rw [List.mem_filter] at hi;obtain ⟨hi1, hi2⟩ := hi;have hisz : i < ops.size := by simpa using hi1
     have hils : i < listed.size := by omega
     simp only [Bool.and_eq_true, Bool.not_eq_true', Array.getD_eq_getD_getElem?] at hi2;obtain ⟨hi3, hi4⟩ := hi2
     have hun : listed[i]? = some false := by
       rw [Array.getElem?_eq_getElem hils] at hi3 ⊢;simpa using hi3
     have hdeps : ∀ o : Oper, ops[i]? = some o → ∀ e ∈ o.after, Region.binds .any e = true → listed[e.on]? = some true := fun o ho e he hb => by
       rw [ho] at hi4;simp only [Option.map_some, Option.getD_some] at hi4;have := (Array.all_eq_true_iff_forall_mem.1 hi4) e he;simp only [hb, Bool.not_true, Bool.false_or] at this;cases hq : listed[e.on]? with
       | none => rw [hq] at this; simp at this
       | some b => rw [hq] at this; simp at this; rw [this]
     have hwl : ∀ p, waitsFor ops ops.size i p = true → listed[p]? = some true := fun p hw => zDX (D := fun p => listed[p]? = some true) hdown ops.size i p hdeps hw;rcases (hlist i hisz).1 hun with hiL | him
     case inr =>
       -- the call that all others wait for
       rcases hend with ⟨hms, _⟩ | ⟨o, f, args, ho, hgob, hc, hgv, hv, hbar, hcall⟩
       · omega
       · simp only [zEU, Bool.and_eq_true] at hbar
         have hmi : i = m := by
           rcases Nat.lt_or_ge m i with hlt | hge
           · have h1 := List.all_eq_true.1 hbar.2 i (by simpa using hisz);simp only [Bool.or_eq_true, Nat.ble_eq] at h1;have h2 := hwl m (h1.resolve_left (by omega));have h3 := (hlist m (by omega)).2 (.inr (Nat.le_refl _));rw [h2] at h3; cases h3
           · omega
         subst hmi
         have hLn : L = [] := by
           cases L with
           | nil => rfl
           | cons x L =>
             have hxm := hLm x (by simp);have h2 := hwl x.i (List.all_eq_true.1 hbar.1 x.i (by simpa using hxm));have h3 := (hlist x.i (by omega)).2 (.inl (by simp));rw [h2] at h3; cases h3
         subst hLn;cases hrun;refine zCi st ho hsc hgob hc hgv hv hcall fun v h' cnt' a' w' hR st' => ?_;obtain ⟨L', σ2, m', h5, h6, hm1, hm2, h7, h8, h9⟩ := zFG (P := P) _ _ _ _ (by simp; omega) rfl hR
         refine zG3 hsc hdb hQ fuel L' m' σ2 (listed.setIfInBounds i true) _ a' w' (by simp at hlen; omega) hm2 h9 (fun x hx => ?_) h5 (by rw [h6]; exact zDt _ _) h7 (Pairs.of_indep (by simpa using h8)) (by simp [hsz]) (fun k hk => ?_) (fun k o ho hk e he hb => ?_) (by
           have := hG.step (e := .val True v) (Array.mem_of_getElem? ho);rw [hgv] at this;exact this) st'
         · have : x.i ∈ L'.map (·.i) := List.mem_map.2 ⟨x, hx, rfl⟩;rw [h6, List.mem_range'_1] at this;omega
         · rw [Array.getElem?_setIfInBounds, h6, List.mem_range'_1];by_cases hik : i = k
           · subst hik;rw [if_pos rfl, if_pos hils];simp only [Option.some.injEq, Bool.true_eq_false, false_iff];omega
           · rw [if_neg hik, hlist k hk];simp only [List.map_nil, List.not_mem_nil, false_or];omega
         · have key : listed[e.on]? = some true → (listed.setIfInBounds i true)[e.on]? = some true := fun h => by
             rw [Array.getElem?_setIfInBounds];split
             · first | rfl | rw [if_pos hils]
             · exact h
           rw [Array.getElem?_setIfInBounds] at hk;by_cases hik : i = k
           · subst hik; exact key (hdeps o ho e he hb)
           · rw [if_neg hik] at hk; exact key (hdown k o ho hk e he hb)
     obtain ⟨x, hxL, hxi⟩ := List.mem_map.1 hiL;obtain ⟨L1, L2, rfl⟩ := List.append_of_mem hxL;have hxo := hrun.at x hxL;obtain ⟨hp1, hp2⟩ := Pairs.split hpairs;have hnd : (L1 ++ x :: L2).map (·.i) = L1.map (·.i) ++ x.i :: L2.map (·.i) := by simp
     rw [hnd] at hsort;have hsort' := List.pairwise_append.1 hsort
     have hfree : ∀ y ∈ L1, Free ops y.o x.o y.ft x.ft := fun y hy => by
       refine indep_free (hrun.at y (by simp [hy])) hxo (hft y (by simp [hy])) (hft x hxL) (hp1 y hy) fun hw => ?_;rw [hxi] at hw;have hyl : listed[y.i]? = some true := zDX (D := fun p => listed[p]? = some true) hdown ops.size i y.i hdeps hw;have hyi : y.i < ops.size := (Array.getElem?_eq_some_iff.1 (hrun.at y (by simp [hy]))).1;have := (hlist y.i hyi).2 (.inl (List.mem_map.2 ⟨y, by simp [hy], rfl⟩));rw [hyl] at this; cases this
     cases GRun.bubble hrun hfree with
     | cons hx hrest =>
       have hnot : x.i ∉ (L1 ++ L2).map (·.i) := fun hm => by
         simp only [List.map_append, List.mem_append] at hm;rcases hm with hm | hm
         · have := hsort'.2.2 x.i hm x.i (by simp); omega
         · have := (List.pairwise_cons.1 hsort'.2.1).1 x.i hm; omega
       have ih := fun a' w' (st' : GSt E0 n (stepG σ x.o x.c x.e) a' w') (hG' : Gok ops (stepG σ x.o x.c x.e)) => zG3 hsc hdb hQ fuel (L1 ++ L2) m σ' (listed.setIfInBounds i true) (stepG σ x.o x.c x.e) a' w' (by simp at hlen ⊢; omega) hmle hend (fun y hy => hLm y (by
           rcases List.mem_append.1 hy with h | h
           · simp [h]
           · simp [h])) hrest (by
           rw [List.map_append];exact List.pairwise_append.2 ⟨hsort'.1, (List.pairwise_cons.1 hsort'.2.1).2, fun p hp q hq => hsort'.2.2 p hp q (List.mem_cons_of_mem _ hq)⟩) (fun y hy => hft y (by
           rcases List.mem_append.1 hy with h | h
           · simp [h]
           · simp [h])) hp2 (by simp [hsz]) (fun k hk => by
           rw [Array.getElem?_setIfInBounds];by_cases hik : i = k
           · subst hik;rw [if_pos rfl, if_pos hils, ← hxi];simp only [Option.some.injEq, Bool.true_eq_false, false_iff]
             rintro (h | h)
             · exact hnot h
             · have := hLm x hxL; omega
           · rw [if_neg hik, hlist k hk];simp only [List.map_append, List.map_cons, List.mem_append, List.mem_cons];constructor
             · rintro ((h | h | h) | h)
               · exact .inl (.inl h)
               · exact absurd (hxi.symm.trans h.symm) hik
               · exact .inl (.inr h)
               · exact .inr h
             · rintro ((h | h) | h)
               · exact .inl (.inl h)
               · exact .inl (.inr (.inr h))
               · exact .inr h) (fun k o ho hk e he hb => by
           have key : listed[e.on]? = some true → (listed.setIfInBounds i true)[e.on]? = some true := fun h => by
             rw [Array.getElem?_setIfInBounds];split
             · first | rfl | rw [if_pos hils]
             · exact h
           rw [Array.getElem?_setIfInBounds] at hk;by_cases hik : i = k
           · subst hik; exact key (hdeps o ho e he hb)
           · rw [if_neg hik] at hk; exact key (hdown k o ho hk e he hb)) hG' st'
       obtain ⟨ho, hfi, hgob, hcv, hrest2⟩ := hx;rw [hxi] at ho;have hmem : x.o ∈ ops := Array.mem_of_getElem? ho;have hG' : ∀ e, Gok ops (stepG σ x.o (gval ops σ x.o.guard) e) := fun e => hG.step hmem;rcases hrest2 with ⟨h1, h2, h4, h5, h6, h7⟩ | ⟨f, args, v, h1, h2, h3, h4, h5⟩ | ⟨f, args, h1, h2, h3, h4, ⟨sz, rows, as', h5, h6, h7⟩ | ⟨v, rd, h5, h6⟩, h8, h9⟩
       · rw [hcv] at h5;rw [hcv, h5] at ih;rw [hcv, h5] at h2;exact zIJ st ho hsc hgob h1 (fun hg => ⟨(h2 hg).1, by have h8 := (h2 hg).2; rw [hg] at h8; exact h8⟩) fun a' w' st' => ih a' w' st' (hG' _)
       · rw [hcv, h3] at ih;rw [hcv] at h2;exact zGe st ho hsc hgob h1 h2 fun a' w' st' => ih a' w' st' (hG' _)
       · have hgv : gval ops σ x.o.guard = true := by rw [← hcv]; exact h2
         rw [hcv, h7] at ih;refine zCi st ho hsc hgob h1 hgv h3 (zAy.of_new (zAH x.o) h6 h5) fun v h' cnt' a' w' hR st' => ?_;obtain ⟨rfl, rfl, rfl⟩ := hR;refine ih a' w' ?_ (hG' _);rw [hgv]; exact st'
       · have hgv : gval ops σ x.o.guard = true := by rw [← hcv]; exact h2
         rw [hcv, h5] at ih;refine zCi st ho hsc hgob h1 hgv h3 (h6 _ (fun _ _ => rfl) _) fun v' h' cnt' a' w' hR st' => ?_;obtain ⟨rfl, rfl, rfl⟩ := hR;refine ih a' w' ?_ (hG' _);rw [hgv]; exact st'
theorem St.drew {E0 : Env} {n : Nat} {s : PS} {a : Act} {w : World} (h : St E0 n s a w) : St E0 n s a { w with drawn := w.drawn + 1 } := by
 obtain ⟨E, rfl, S, hle, hb, hk⟩ := h;have hle' : EnvLe E { E with w := { E.w with drawn := E.w.drawn + 1 } } := ⟨fun _ _ _ => rfl, Nat.le_refl _, fun _ h => .inl h, rfl, rfl, rfl, fun _ => Nat.le_refl _, fun _ _ h => h, fun _ _ rs h => .inr ⟨rs, h, rfl, rfl⟩, fun _ o h _ => .inr ⟨o, h, rfl, rfl⟩⟩
 refine ⟨{ E with w := { E.w with drawn := E.w.drawn + 1 } }, rfl, ⟨⟨S.good.inj, S.good.known, S.good.base, fun k o h => ObjOK.le hle' rfl rfl rfl (S.good.obj k o h), S.good.out, S.good.size, zCr S.good.glob (Nat.le_refl _) fun _ _ => rfl⟩, S.h, S.cnt, S.tt, S.size, fun i v hv => (S.regs i v hv).le hle', S.defers.le hle'⟩, hle.trans hle' hk, hb.trans ⟨rfl, rfl, rfl, Nat.le_refl _, fun _ _ => rfl⟩, hk⟩
def RegW (P : Program) (ops : Array Oper) (draw : Bool) (Q : Exit → Act → World → Prop) (a : Act) (w : World) : Prop :=
 (draw = false ∧ (wpList P ops Q ops.toList a w ∨ wpOps P ops Q (List.range ops.size) a w)) ∨ (draw = true ∧ wpAny P .any ops Q ops.size (Array.replicate ops.size false) a { w with drawn := w.drawn + 1 })
theorem zFr {E0 : Env} {n : Nat} {ops : Array Oper} {draw : Bool} {K : PS → Prop} {Q : Exit → Act → World → Prop} {s : PS} {a : Act} {w : World} (hsc : ∀ o ∈ ops, zA8 n o = true) (hdb : draw = true → zDR ops = true)
   (h : zBA P ops draw K s) (st : St E0 n s a w) (hQ : ∀ s' a' w', K s' → St E0 n s' a' w' → Q .normal a' w') : RegW P ops draw Q a w := by
 unfold zBA at h
 have hkn : Known s := fun k o hk => by
   obtain ⟨E, _, S, _⟩ := st;have := S.good.known k o (by rw [S.h]; exact hk);unfold Env.known at this;rw [S.cnt] at this;exact this
 replace h := h hkn;split at h
 · rename_i hc;simp only [Bool.and_eq_true, Bool.not_eq_true'] at hc;obtain ⟨hng, rfl⟩ := hc
   have hng' : ∀ o ∈ ops.toList, o.guard = none := fun o ho => by
     have := (List.all_eq_true.1 hng) o ho; simpa using this
   have := zFu (ops := ops) (Q := Q) ops.toList s a w hng' (fun o ho => hsc o (by simpa using ho)) h st (fun s' a' w' h1 h2 _ => hQ s' a' w' h1 h2);exact .inl ⟨rfl, .inl this⟩
 · cases draw with
   | false =>
     have h := h.resolve_right (by simp);have := zHx (P := P) (Q := Q) hsc ops.toList 0 ⟨s, fun _ => true⟩ [] a w (by simp) h (fun i hi => by simp at hi) (GSt.of_st st) hQ;exact .inl ⟨rfl, .inr (by simpa [List.range_eq_range'] using this)⟩
   | true =>
     rcases h with h | ⟨_, h⟩
     case inr => exact h.elim
     obtain ⟨L, σ', m, h1, h2, hm1, hm2, h3, h4, h5⟩ := zFG (P := P) ops.toList 0 ⟨s, fun _ => true⟩ [] (by simp) rfl h;refine .inr ⟨rfl, zG3 hsc (hdb rfl) hQ ops.size L m σ' (Array.replicate ops.size false) ⟨s, fun _ => true⟩ a _ (by omega) hm2 h5 (fun x hx => ?_) h1 (by rw [h2]; exact zDt _ _) h3 (Pairs.of_indep (by simpa using h4)) (by simp) (fun i hi => ?_) (fun i o ho hlst => ?_) (fun i hi => by simp at hi) (GSt.of_st st.drew)⟩
     · have : x.i ∈ L.map (·.i) := List.mem_map.2 ⟨x, hx, rfl⟩;rw [h2, List.mem_range'_1] at this;omega
     · rw [h2, List.mem_range'_1];simp [hi];omega
     · exact absurd hlst (by rw [Array.getElem?_replicate]; split <;> simp)
theorem region_sound {E0 : Env} {n : Nat} {id : Nat} {ops : Array Oper} {draw : Bool} {K : PS → Prop} {Q : Exit → Act → World → Prop} (hm : P.follows .mixedOrders = true) {s : PS} {a : Act} {w : World} (hsc : ∀ o ∈ ops, zA8 n o = true) (hdb : draw = true → zDR ops = true)
   (h : zBA P ops draw K s) (st : St E0 n s a w) (hQ : ∀ s' a' w', K s' → St E0 n s' a' w' → Q .normal a' w') : (Code.region id ops draw).wp P Q a w := by
 rcases zFr hsc hdb h st hQ with ⟨rfl, h1 | h1⟩ | ⟨rfl, h1⟩
 · exact wp_region_list h1
 · exact wp_region h1
 · exact wp_region_any hm h1
end
end Go.Pv
namespace Go.Pv
open Go Go.RowKit
section
variable {P : Program}
theorem zC4 (hm : P.follows .mixedOrders = true) {E0 : Env} {n : Nat} : ∀ (c : Code) (Q : Exit → PS → Prop) (s : PS) (a : Act) (w : World), zBn n c = true → pwp P c Q s → St E0 n s a w →
   c.wp P (fun e a' w' => ∃ s', Q e s' ∧ St E0 n s' a' w') a w
 | .skip, Q, s, a, w, _, h, st => wp_skip ⟨s, h, st⟩
 | .region id ops draw, Q, s, a, w, hf, h, st => by
   simp only [zBn, Bool.and_eq_true, Bool.or_eq_true, Bool.not_eq_true'] at hf;refine region_sound hm (fun o ho => (Array.all_eq_true_iff_forall_mem.1 hf.1) o ho) (fun hd => ?_) h st fun s' a' w' h' st' => ⟨s', h', st'⟩
   rcases hf.2 with h1 | h1
   · rw [hd] at h1; cases h1
   · exact h1
 | .seq x y, Q, s, a, w, hf, h, st => by
   simp only [zBn, Bool.and_eq_true] at hf;refine wp_seq (wp_mono (zC4 hm x _ s a w hf.1 h st) fun e a' w' hq => ?_);obtain ⟨s', h1, st'⟩ := hq;cases e <;> first | exact zC4 hm y Q s' a' w' hf.2 h1 st' | exact ⟨s', h1, st'⟩
 | .cond c x y, Q, s, a, w, hf, h, st => by
   simp only [zBn, Bool.and_eq_true] at hf;obtain ⟨b, h1, h2, h3⟩ := h
   have hc : a.eval c = .bool b := by
     obtain ⟨E, rfl, S, _⟩ := st;have := S.eval hf.1.1;rw [h1] at this;exact this.sc_inv
   refine wp_cond hc ?_;cases b with
   | true => exact zC4 hm x Q s a w hf.1.2 (h2 rfl) st
   | false => exact zC4 hm y Q s a w hf.2 (h3 rfl) st
 | .block id c, Q, s, a, w, hf, h, st => by
   simp only [zBn] at hf;refine wp_block (wp_mono (zC4 hm c _ s a w hf h st) fun e a' w' hq => ?_);obtain ⟨s', h1, st'⟩ := hq;cases e with
   | exit i =>
     simp only [Exit.inBlock] at h1 ⊢;split
     · rename_i hi; rw [if_pos hi] at h1; exact ⟨s', h1, st'⟩
     · rename_i hi; rw [if_neg hi] at h1; exact ⟨s', h1, st'⟩
   | _ => exact ⟨s', h1, st'⟩
 | .loop c, Q, s, a, w, hf, h, st => by
   simp only [zBn] at hf;obtain ⟨I, k, h1, h2⟩ := h;refine wp_loop_ghost (fun k a w => ∃ s, I k s ∧ St E0 n s a w) k ⟨s, h1, st⟩ fun k a w ⟨s, h3, st'⟩ => ?_;refine wp_mono (zC4 hm c _ s a w hf (h2 k s h3) st') fun e a' w' hq => ?_;obtain ⟨s', h4, st''⟩ := hq;cases e with
   | normal =>
     obtain ⟨k', h5, h6⟩ := h4;exact ⟨k', h5, s', h6, st''⟩
   | _ => exact ⟨s', h4, st''⟩
 | .exit id, Q, s, a, w, _, h, st => wp_exit ⟨s, h, st⟩
 | .ret, Q, s, a, w, _, h, st => wp_ret ⟨s, h, st⟩
 | .rangeFunc .., Q, s, a, w, hf, h, st => h E0 n a w hf st
 | .scope _, Q, s, a, w, _, h, st => h.elim
 | .label _, Q, s, a, w, _, h, st => h.elim
 | .goto _, Q, s, a, w, _, h, st => h.elim
 | .refuse _, Q, s, a, w, _, h, st => h.elim
def resOf (P : Program) (s : PS) : ResultVar → Prop × PV
 | .tmp t => (True, s.r t)
 | .cell a t => ((zBK P s.h t (s.r a)).ob, (zBK P s.h t (s.r a)).v)
def resPV (P : Program) (rs : List ResultVar) (s : PS) : Prop × PV :=
 match rs with
 | [x] => resOf P s x
 | rs => ((∀ x ∈ rs, (resOf P s x).1), .tup (rs.map fun x => (resOf P s x).2))
def zCd (n : Nat) : ResultVar → Bool
 | .tmp t => decide (t < n)
 | .cell a _ => decide (a < n)
def zKq (a : Act) : ResultVar → Sem Value
 | .tmp t => pure (a.tmps.getD t undef)
 | .cell c t => do loadVar t (← asAddr (a.tmps.getD c undef))
theorem run_res {E : Env} {n : Nat} {s : PS} {a : Act} {r0 : Nat} (S : Sim r0 E n s a) {x : ResultVar} (hx : zCd n x = true) (hob : (resOf P s x).1) :
   ∃ v, (zKq a x).run P E.w = .ok v E.w ∧ Rep E v (resOf P s x).2 := by
 cases x with
 | tmp t =>
   have := S.eval (x := .tmp t) (by simpa [zDT, zCd] using hx);exact ⟨_, rfl, this⟩
 | cell c t =>
   have hc := S.eval (x := .tmp c) (by simpa [zDT, zCd] using hx);have hob' : (zBK P E.h t (ev s.r (.tmp c))).ob := by rw [S.h]; exact hob
   obtain ⟨v, h1, h2, _, _⟩ := zKU (P := P) S.good hc hob';refine ⟨v, ?_, by rw [S.h] at h2; exact h2⟩
   have hptr : ∃ ad, a.eval (.tmp c) = .pointer (some ad) := by
     generalize a.eval (.tmp c) = u at hc;unfold zBK at hob';split at hob'
     · rename_i hq; rw [hq] at hc; cases hc; exact ⟨_, rfl⟩
     · rename_i hq; rw [hq] at hc; cases hc; exact ⟨_, rfl⟩
     · exact hob'.elim
   obtain ⟨ad, had⟩ := hptr;rw [had] at h1;simp only [Act.eval] at had;rw [← h1];simp only [zKq, had];rfl
theorem zF4 {E : Env} {n : Nat} {s : PS} {a : Act} {r0 : Nat} (S : Sim r0 E n s a) : ∀ (rs : List ResultVar), (∀ x ∈ rs, zCd n x = true) → (∀ x ∈ rs, (resOf P s x).1) →
   ∃ vs : List Value, (rs.mapM (zKq a)).run P E.w = .ok vs E.w ∧ vs.length = rs.length ∧
     ∀ (i : Nat) (v : Value) (p : PV), vs[i]? = some v → (rs.map fun x => (resOf P s x).2)[i]? = some p → Rep E v p
 | [], _, _ => ⟨[], rfl, rfl, by simp⟩
 | x :: rs, h1, h2 => by
   obtain ⟨v, h3, h4⟩ := run_res S (h1 x (by simp)) (h2 x (by simp));obtain ⟨vs, h5, h6, h7⟩ := zF4 S rs (fun x hx => h1 x (by simp [hx])) (fun x hx => h2 x (by simp [hx]));refine ⟨v :: vs, ?_, by simp [h6], fun i u p h8 h9 => ?_⟩
   · rw [List.mapM_cons];simp only [Sem.run_bind];rw [h3];simp only [Result.andThen_ok];rw [h5];rfl
   · cases i with
     | zero => simp at h8 h9; subst h8; subst h9; exact h4
     | succ i => exact h7 i u p (by simpa using h8) (by simpa using h9)
theorem zF3 {E : Env} {n : Nat} {s : PS} {a : Act} {fn : Func} {rs : List ResultVar} {r0 : Nat} (S : Sim r0 E n s a) (hrs : fn.results = rs.toArray) (h1 : rs.all (zCd n) = true) (h2 : (resPV P rs s).1) :
   ∃ v, (results fn a.tmps).run P E.w = .ok v E.w ∧ Rep E v (resPV P rs s).2 := by
 have hs : ∀ x ∈ rs, zCd n x = true := List.all_eq_true.1 h1
 have hob : ∀ x ∈ rs, (resOf P s x).1 := by
   unfold resPV at h2;split at h2
   · intro x hx; simp at hx; subst hx; exact h2
   · exact h2
 obtain ⟨vs, h3, h4, h5⟩ := zF4 S rs hs hob
 have h6 : (results fn a.tmps).run P E.w = .ok (if h : vs.toArray.size = 1 then vs.toArray[0] else .tuple vs.toArray) E.w := by
   have hres : results fn a.tmps = (do let vs ← fn.results.mapM (zKq a); pure (if h : vs.size = 1 then vs[0] else .tuple vs)) := by
     unfold results;congr 1
   rw [hres, hrs, List.mapM_toArray];simp only [Sem.run_bind, Sem.run_map];rw [h3];rfl
 refine ⟨_, h6, ?_⟩
 match rs, h4, h5 with
 | [x], h4, h5 =>
   match vs, h4, h5 with
   | [v], _, h5 => exact h5 0 v _ rfl rfl
 | [], h4, h5 =>
   match vs, h4 with
   | [], _ => exact .tup rfl (by simp)
 | x :: y :: rs, h4, h5 =>
   have hl : ¬ vs.toArray.size = 1 := fun h => by simp at h h4; omega
   rw [dif_neg hl];exact .tup (by simp [h4]) fun i v p h7 h8 => h5 i v p (by simpa using h7) h8
def zDi (E : Env) (r : Nat) : Env := { E with w := E.w.putObj r (.deferred none) }
theorem shut_cell {E : Env} {r : Nat} (hr : E.w.heap[r]? = some (.deferred (some []))) {ad : Addr} {v : Value} (h : E.w.cell? ad = some v) : (zDi E r).w.cell? ad = some v := by
 have hne : ad.block ≠ r := fun e => by
   unfold World.cell? at h;rw [e, hr] at h;simp at h
 unfold World.cell? at h ⊢;rw [show (zDi E r).w.heap[ad.block]? = E.w.heap[ad.block]? from World.putObj_heap_other hne];exact h
theorem zGr {E : Env} {r : Nat} (hr : E.w.heap[r]? = some (.deferred (some []))) {v : Value} {p : PV} (h : Rep E v p) : Rep (zDi E r) v p := by
 have mem : ∀ {t : Bool} {sz : Nat} {rows : Rows} {b off : Nat} {f : Nat → Nat → Value}, MemAt E t sz rows b off f → MemAt (zDi E r) t sz rows b off f := fun hm =>
   ⟨hm.own, hm.out, hm.tt, by show _ < (E.w.putObj r _).heap.size; rw [World.putObj_size]; exact hm.lt, hm.width, fun i j row p h1 h2 => shut_cell hr (hm.cell i j row p h1 h2), hm.pure, hm.one⟩
 induction h with
 | sc hx => exact .sc hx
 | nil => exact .nil
 | litE => exact .litE
 | lit hm hc hr ih => exact .lit (mem hm) hc ih
 | lptr i j hm hr ih => exact .lptr i j (mem hm) ih
 | ref hk hlen hl => exact .ref hk hlen hl
 | refE hk hl => exact .refE hk hl
 | ptr hk hl => exact .ptr hk hl
 | agg hl _ ih => exact .agg hl ih
 | tup hl _ ih => exact .tup hl ih
 | func hl hl' _ _ ih ih' => exact .func hl hl' ih ih'
 | map hk hl => exact .map hk hl
 | iter hk hl => exact .iter hk hl
 | dead => exact .dead
theorem shut_obj {E : Env} {r : Nat} (hr : E.w.heap[r]? = some (.deferred (some []))) {k : Key} {o : PObj} (h : ObjOK E k o) : ObjOK (zDi E r) k o := by
 have keep : ∀ {ob : Obj}, E.w.heap[E.blk k]? = some ob → (∀ ds, ob ≠ .deferred ds) → (zDi E r).w.heap[E.blk k]? = some ob := fun {ob} h1 h2 => by
   have hne : E.blk k ≠ r := fun e => by rw [e, hr] at h1; cases h1; exact h2 _ rfl
   exact (World.putObj_heap_other hne).trans h1
 cases o with
 | rows sz rs =>
   obtain ⟨c, T, h1, h2, h3, h4, h5, h6, h7⟩ := h
   exact ⟨c, T, keep h1 (fun _ h => by cases h), h2, h3, h4, h5, h6, fun i j row p h8 h9 => by
     obtain ⟨v, h10, h11⟩ := h7 i j row p h8 h9;exact ⟨v, h10, zGr hr h11⟩⟩
 | map es bs clk =>
   obtain ⟨ents, h1, h2, h3, h4, h5⟩ := h;exact ⟨ents, keep h1 (fun _ h => by cases h), h2, h3, fun i e p h6 h7 => ⟨zGr hr (h4 i e p h6 h7).1, zGr hr (h4 i e p h6 h7).2⟩, h5⟩
 | iter km since seen =>
   obtain ⟨b, h1, h2⟩ := h;exact ⟨b, keep h1 (fun _ h => by cases h), h2⟩
theorem shut_good {E : Env} (g : Good E) {r : Nat} (hr : E.w.heap[r]? = some (.deferred (some []))) (hb : E.B0 ≤ r) : Good (zDi E r) where
 inj := g.inj
 known := g.known
 base := g.base
 obj := fun k o h => shut_obj hr (g.obj k o h)
 out := g.out
 size := by show E.B0 ≤ (E.w.putObj r _).heap.size; rw [World.putObj_size]; exact g.size
 glob := zCr g.glob (Nat.le_refl _) fun b hb' => World.putObj_heap_other (by show b ≠ r; have : b < E.B0 := hb'; omega)
theorem shut_le {E0 E : Env} (h : EnvLe E0 E) {r : Nat} (hb : E0.w.heap.size ≤ r) : EnvLe E0 (zDi E r) where
 blk := fun b hb' ho => (World.putObj_heap_other (by omega)).trans (h.blk b hb' ho)
 size := by show _ ≤ (E.w.putObj r _).heap.size; rw [World.putObj_size]; exact h.size
 own := h.own
 M := h.M
 tt := h.tt
 B0 := h.B0
 cnt := h.cnt
 nokey := h.nokey
 rows := h.rows
 map := h.map
theorem shut_below {E : Env} {B : Nat} {w : World} (h : Below B w E.w) {r : Nat} (hb : B ≤ r) : Below B w (zDi E r).w :=
 ⟨h.os, h.tape, h.output, by show _ ≤ (E.w.putObj r _).heap.size; rw [World.putObj_size]; exact h.size, fun k hk => (World.putObj_heap_other (by omega)).trans (h.block k hk)⟩
theorem zHa {r0 : Nat} {E : Env} {r : Nat} : ∀ {ds : List Deferred}, Marks r0 E ds → (∀ d ∈ ds, d.target ≠ .collected r) → Marks r0 (zDi E r) ds
 | [], _, _ => trivial
 | d :: ds, ⟨⟨r', h1, h2, h3, h4, h5⟩, h6⟩, h => by
   refine ⟨⟨r', h1, h2, (World.putObj_heap_other fun e => ?_).trans h3, h4, h5⟩, zHa h6 fun d' hd => h d' (List.mem_cons_of_mem _ hd)⟩;exact h d (by simp) (e ▸ h1)
theorem marks_leave {E0 : Env} {n : Nat} {s : PS} {fn : Func} {k : Nat} {R : Ending → World → Prop} (hB : E0.B0 ≤ E0.w.heap.size) : ∀ (ds : List Deferred) (E : Env) (tmps : Array Value), Sim E0.w.heap.size E n s { tmps := tmps, defers := ds } → EnvLe E0 E → Below E0.B0 E0.w E.w →
   (∀ E', Sim E0.w.heap.size E' n s { tmps := tmps, defers := [] } → EnvLe E0 E' → Below E0.B0 E0.w E'.w → ∃ v, (results fn tmps).run P E'.w = .ok v E'.w ∧ R (.returned v) E'.w) → LeavesInM Fence.wide k P fn tmps R ds .returning E.w
 | [], E, tmps, S, hle, hb, h => h E S hle hb
 | d :: ds, E, tmps, S, hle, hb, h => by
   obtain ⟨⟨r, h1, h2, h3, h4, h5⟩, h6⟩ := S.defers;refine ⟨by simp, .inl ⟨r, (zDi E r).w, h1, run_takeDeferred h3, ?_⟩⟩;refine marks_leave hB ds (zDi E r) tmps ⟨shut_good S.good h3 (by rw [hle.B0]; omega), S.h, S.cnt, S.tt, S.size, fun i v hv => zGr h3 (S.regs i v hv), zHa h6 h5⟩ (shut_le hle h2) (shut_below hb (by omega)) h
theorem zAy.of_pwp {f : FuncId} {fn : Func} {c : Code} {rs : List ResultVar} {args : List PV} {h : Heap} {cnt : Nat → Nat} {R : PV → Heap → (Nat → Nat) → Prop} (hf : P.funcs[f]? = some fn) (hb : fn.body = some c) (hrs : fn.results = rs.toArray)
   (hB : hasBody P f = true) (hm : P.follows .mixedOrders = true) (hfr : (zBn fn.ntmps c && rs.all (zCd fn.ntmps)) = true) (hfr3 : args.length ≤ fn.ntmps)
   (hp : pwp P c (fun e s => (e = .normal ∨ e = .ret) ∧ (resPV P rs s).1 ∧ R (resPV P rs s).2 s.h s.cnt) ⟨fun i => args.getD i .dead, h, cnt⟩) : zAy P f args h cnt R := by
 simp only [Bool.and_eq_true] at hfr;obtain ⟨hfr1, hfr2⟩ := hfr;refine ⟨hB, fun E vs g hh hcn htt hsz hrep => ?_⟩;refine (callsIn_wide (n := 0)).1 (callsIn_of_wp_marks hf hb trivial (wpIn_wide.2 ?_))
 have st : St E fn.ntmps ⟨fun i => args.getD i .dead, h, cnt⟩ { tmps := vs ++ Array.replicate (fn.ntmps - vs.size) undef, defers := [] } E.w := by
   refine ⟨E, rfl, ⟨g, hh, hcn, htt, by simp; omega, fun i v hv => ?_, .nil⟩, EnvLe.refl E, Below.refl _ _, g.known⟩;rw [Array.getElem?_append] at hv;split at hv
   · rename_i hi;have hi' : i < args.length := by omega
     refine hrep i v _ hv ?_;show args[i]? = some (args.getD i .dead);rw [List.getD_eq_getElem?_getD, List.getElem?_eq_getElem hi']; rfl
   · rename_i hi;have : args.getD i .dead = .dead := by rw [List.getD_eq_getElem?_getD, List.getElem?_eq_none (by omega)]; rfl
     simp only [this];exact .dead
 refine wp_mono (zC4 hm c _ _ _ _ hfr1 hp st) fun e a' w' hq => ?_;obtain ⟨s', ⟨he, h1, h2⟩, E', rfl, S, hle, hbl, _⟩ := hq
 have hfin : LeavesInM Fence.wide 0 P fn a'.tmps (fun e w' => ∃ (u : Value) (v : PV) (E' : Env), e = .returned u ∧ R v E'.h E'.cnt ∧ E'.w = w' ∧ Good E' ∧ EnvLe E E' ∧ Below E.B0 E.w w' ∧ Rep E' u v) a'.defers .returning E'.w :=
   marks_leave (E0 := E) g.size a'.defers E' a'.tmps S hle hbl fun E'' S'' hle'' hbl'' => by
     obtain ⟨v, h3, h4⟩ := zF3 (P := P) (fn := fn) S'' hrs hfr2 h1;exact ⟨v, h3, v, _, E'', rfl, by rw [S''.h, S''.cnt]; exact h2, rfl, S''.good, hle'', hbl'', h4⟩
 rcases he with rfl | rfl
 · exact hfin
 · exact hfin
inductive Clean : PV → Prop where
 | sc (x : Value) : Clean (.sc x)
 | nil : Clean .nil
 | lit (sz : Nat) (rows : Rows) (h : ∀ row ∈ rows, ∀ p ∈ row, Clean p) : Clean (.lit false sz rows)
 | agg (cs : List PV) (h : ∀ p ∈ cs, Clean p) : Clean (.agg cs)
 | tup (cs : List PV) (h : ∀ p ∈ cs, Clean p) : Clean (.tup cs)
theorem Clean.pure {p : PV} (h : Clean p) : Pure p := by
 induction h with
 | sc x => exact .sc x
 | nil => exact .nil
 | lit sz rows _ ih => exact .lit _ _ _ ih
 | agg cs _ ih => exact .agg _ ih
 | tup cs _ ih => exact .tup _ ih
inductive Out (h : Heap) : PV → PV → Prop where
 | clean {p : PV} (hp : Clean p) : Out h p p
 | nil (sz : Nat) : Out h .nil (.lit false sz [])
 | ref {k : Key} {sz off len : Nat} {rs rows : Rows} (hk : h k = some (.rows sz rs)) (hl : off + len ≤ rs.length) (hlen : rows.length = len) (hw : ∀ row ∈ rows, row.length = sz)
     (hr : ∀ (i j : Nat) (row row' : List PV) (p p' : PV), rs[off + i]? = some row → rows[i]? = some row' → row[j]? = some p → row'[j]? = some p' → Out h p p') (hc : ∀ row ∈ rows, ∀ p ∈ row, p.cell = true) : Out h (.ref k sz off len) (.lit false sz rows)
 | agg {a a' : List PV} (hl : a.length = a'.length) (ha : ∀ (i : Nat) (p q : PV), a[i]? = some p → a'[i]? = some q → Out h p q) : Out h (.agg a) (.agg a')
 | tup {a a' : List PV} (hl : a.length = a'.length) (ha : ∀ (i : Nat) (p q : PV), a[i]? = some p → a'[i]? = some q → Out h p q) : Out h (.tup a) (.tup a')
theorem rep_clean {E : Env} {v : Value} {p : PV} (h : Rep E v p) (hp : Clean p) : Rep (zA5 E.w E.M false) v p := by
 induction h with
 | sc hx => exact .sc hx
 | nil => exact .nil
 | litE => exact .litE
 | lit hm hc hr ih =>
   cases hp with
   | lit _ _ h => exact .lit ⟨zCD _, hm.out, (fun h => by cases h), hm.lt, hm.width, hm.cell, hm.pure, hm.one⟩ hc fun i j row p h1 h2 => ih i j row p h1 h2 (h row (List.mem_of_getElem? h1) p (List.mem_of_getElem? h2))
 | agg hl _ ih => cases hp with | agg _ h => exact .agg hl fun i v p h1 h2 => ih i v p h1 h2 (h p (List.mem_of_getElem? h2))
 | tup hl _ ih => cases hp with | tup _ h => exact .tup hl fun i v p h1 h2 => ih i v p h1 h2 (h p (List.mem_of_getElem? h2))
 | lptr => cases hp
 | ref => cases hp
 | refE => cases hp
 | ptr => cases hp
 | func => cases hp
 | map => cases hp
 | iter => cases hp
 | dead => cases hp
inductive OutOK (h : Heap) : PV → PV → Prop where
 | mk {p q : PV} (ho : Out h p q) (hp : Pure q) : OutOK h p q
theorem out_rep {E : Env} (g : Good E) {v : Value} {p q : PV} (ho : Out E.h p q) (h : Rep E v p) : Rep (zA5 E.w E.M false) v q ∧ Pure q := by
 induction ho generalizing v with
 | clean hp => exact ⟨rep_clean h hp, hp.pure⟩
 | nil sz => cases h with | nil => exact ⟨.litE, .lit _ _ _ (by simp)⟩
 | ref hk hl hlen hw hr hc ih =>
   rename_i k sz off len rs rows;have hrow : ∀ i, i < len → rs[off + i]? = some (rs.getD (off + i) []) := fun i hi => getElem?_row (by omega);have V := View.of_obj (g.obj k _ hk);cases h with
   | refE hk1 hq =>
     have : rows = [] := List.eq_nil_of_length_eq_zero hlen;subst this;exact ⟨.litE, .lit _ _ _ (by simp)⟩
   | ref hk1 hlc hq =>
     rename_i b ad c;obtain ⟨⟨hb, ha⟩, _⟩ := hq _ hk;subst hb; subst ha
     have get : ∀ (i j : Nat) (row' : List PV) (p' : PV), rows[i]? = some row' → row'[j]? = some p' → ∃ u p, E.w.cell? ⟨E.blk k, (E.cap k).2 + off * sz + i * sz + j, none⟩ = some u ∧ Rep (zA5 E.w E.M false) u p' ∧ Pure p' ∧ p = p' := fun i j row' p' h1 h2 => by
       have hi : i < len := by rw [← hlen]; exact (List.getElem?_eq_some_iff.1 h1).1
       have hj : j < sz := by rw [← hw row' (List.mem_of_getElem? h1)]; exact (List.getElem?_eq_some_iff.1 h2).1
       have hrl : (rs.getD (off + i) []).length = sz := V.width _ (List.mem_of_getElem? (hrow i hi));have h3 : (rs.getD (off + i) [])[j]? = some ((rs.getD (off + i) [])[j]'(by omega)) := List.getElem?_eq_getElem (by omega);obtain ⟨u, h4, h5⟩ := V.cell (off + i) j _ _ (hrow i hi) h3;obtain ⟨h6, h7⟩ := ih i j _ row' _ p' (hrow i hi) h1 h3 h2 h5;refine ⟨u, p', ?_, h6, h7, rfl⟩;rw [← h4]; congr 2;rw [Nat.add_mul]; omega
     have hpure : ∀ row ∈ rows, ∀ p ∈ row, Pure p := fun row hrw p hp => by
       obtain ⟨i, hi⟩ := List.mem_iff_getElem?.1 hrw;obtain ⟨j, hj⟩ := List.mem_iff_getElem?.1 hp;obtain ⟨_, _, _, _, h, _⟩ := get i j row p hi hj;exact h
     have := Rep.lit (E := zA5 E.w E.M false) (b := E.blk k) (off := (E.cap k).2 + off * sz) (c := c) (t := false) (sz := sz) (rows := rows) (f := fun i j => (E.w.cell? ⟨E.blk k, (E.cap k).2 + off * sz + i * sz + j, none⟩).getD undef)
       ⟨zCD _, (fun _ hM => by have h1 := g.out _ hM; have h2 := g.base k _ hk; omega), (fun h => by cases h), zBL g hk, hw, (fun i j row p h1 h2 => by
         obtain ⟨u, _, h3, _⟩ := get i j row p h1 h2;show E.w.cell? _ = _;rw [h3]; rfl), hpure, hc⟩ (by omega) (fun i j row p h1 h2 => by
         obtain ⟨u, _, h3, h4, _⟩ := get i j row p h1 h2;show Rep _ ((E.w.cell? ⟨E.blk k, (E.cap k).2 + off * sz + i * sz + j, none⟩).getD undef) p;rw [h3]; exact h4)
     rw [hlen] at this;exact ⟨this, .lit _ _ _ hpure⟩
 | agg hl _ ih =>
   rename_i a a' _;cases h with
   | agg h1 h2 =>
     have key : ∀ (i : Nat) (u : Value) (q : PV), ‹Array Value›[i]? = some u → a'[i]? = some q → Rep (zA5 E.w E.M false) u q ∧ Pure q := fun i u q h3 h4 => by
       have hi : i < a.length := by rw [hl]; exact (List.getElem?_eq_some_iff.1 h4).1
       exact ih i _ q (List.getElem?_eq_getElem hi) h4 (h2 i u _ h3 (List.getElem?_eq_getElem hi))
     refine ⟨.agg (h1.trans hl) fun i u q h3 h4 => (key i u q h3 h4).1, .agg _ fun q hq => ?_⟩;obtain ⟨i, hi⟩ := List.mem_iff_getElem?.1 hq;have hlt := (List.getElem?_eq_some_iff.1 hi).1;exact (key i _ q (Array.getElem?_eq_getElem (by omega)) hi).2
 | tup hl _ ih =>
   rename_i a a' _;cases h with
   | tup h1 h2 =>
     have key : ∀ (i : Nat) (u : Value) (q : PV), ‹Array Value›[i]? = some u → a'[i]? = some q → Rep (zA5 E.w E.M false) u q ∧ Pure q := fun i u q h3 h4 => by
       have hi : i < a.length := by rw [hl]; exact (List.getElem?_eq_some_iff.1 h4).1
       exact ih i _ q (List.getElem?_eq_getElem hi) h4 (h2 i u _ h3 (List.getElem?_eq_getElem hi))
     refine ⟨.tup (h1.trans hl) fun i u q h3 h4 => (key i u q h3 h4).1, .tup _ fun q hq => ?_⟩;obtain ⟨i, hi⟩ := List.mem_iff_getElem?.1 hq;have hlt := (List.getElem?_eq_some_iff.1 hi).1;exact (key i _ q (Array.getElem?_eq_getElem (by omega)) hi).2
theorem zFs {w : World} {M : Nat → Prop} (h : ∀ b, M b → b < w.heap.size) (hg : gw w w.heap.size) (tt : Bool) : Good (zA5 w M tt) :=
 ⟨fun _ _ _ _ h => by simp [zA5] at h, fun _ _ h => by simp [zA5] at h, fun _ _ h => by simp [zA5] at h, fun _ _ h => by simp [zA5] at h, h, Nat.le_refl _, hg⟩
def zLE : Heap := fun _ => none
def noCnt : Nat → Nat := fun _ => 0
theorem PCalls.of_pwp {f : FuncId} {fn : Func} {c : Code} {rs : List ResultVar} {args : List PV} {r : PV} (hf : P.funcs[f]? = some fn) (hb : fn.body = some c) (hrs : fn.results = rs.toArray)
   (hB : hasBody P f = true) (hm : P.follows .mixedOrders = true) (hfr : (zBn fn.ntmps c && rs.all (zCd fn.ntmps)) = true) (hfr3 : args.length ≤ fn.ntmps) (hpr : Pure r)
   (hp : pwp P c (fun e s => (e = .normal ∨ e = .ret) ∧ (resPV P rs s).1 ∧ Out s.h (resPV P rs s).2 r) ⟨fun i => args.getD i .dead, zLE, noCnt⟩) : PCalls P f args r := by
 refine ⟨hpr, hB, fun w M vs hM hgw hsz hrep => ?_⟩;have hc := zAy.of_pwp (R := fun p h cnt => Out h p r) hf hb hrs hB hm hfr hfr3 hp;refine (hc.2 (zA5 w M true) vs (zFs hM hgw true) rfl rfl rfl hsz hrep).mono ?_
 rintro e w' ⟨u, v, E', rfl, ho, rfl, g', hle, hbl, hv⟩
 have := (out_rep g' ho hv).1;rw [hle.M] at this;exact ⟨u, rfl, this, hbl⟩
end
end Go.Pv
namespace Go.Pv
open Go Go.RowKit
section
variable {P : Program}
def openF (ro : Option Nat) : Fence := { Fence.wide with round := ro }
theorem calls_open {ro : Option Nat} {n : Nat} {f : FuncId} {args : Array Value} {w : World} {R : Ending → World → Prop} (h : Calls P f args w R) : CallsIn (openF ro) n P f args w R := callsIn_wide (n := n).2 h
def zD3 : Op → Bool
 | .defer _ => false
 | _ => true
theorem noDefer_spec {o : Op} (h : zD3 o = true) : ∀ c, o ≠ .defer c := fun c e => by subst e; cases h
theorem zHi {ro : Option Nat} {n : Nat} : (openF ro).depth.isSome = true → 1 ≤ n := fun h => by cases h
theorem rows_open {ro : Option Nat} {n : Nat} {row : String} {args : Array Value} {w : World} {R : Value → World → Prop} (h : Go.Rows P row args w R) : RowsIn (openF ro) n P row args w R := fun c cs _ =>
 let ⟨v, w', r, s⟩ := h c cs
 ⟨v, w', r, stepsIn_wide.2 s⟩
theorem op_in {ro : Option Nat} {n : Nat} {o : Oper} {a : Act} {w : World} {K K' : Act → World → Prop} {Q : Exit → Act → World → Prop} (hd : zD3 o.op = true) (hno : ∀ a w, ¬ Q .outgrown a w) (hk : ∀ a w, K a w → K' a w) (h : o.wp P a w K Q) : o.wpIn (openF ro) n P a w K' Q := by
 refine ⟨fun _ _ => trivial, ?_⟩;rw [Oper.semAt_eq _ _ _ (noDefer_spec hd)];unfold Oper.wp at h;generalize (execOp a.eval o).run P w = r at h;cases r with
 | ok x w' =>
   cases x with
   | enter f args =>
     rw [Oper.upon_enter] at h;rw [Oper.uponIn_enter];refine ⟨zHi, (calls_open h).mono fun e w'' he => ?_⟩;cases e with
     | returned v => exact hk _ _ he
     | panicked c => exact he
     | outgrown => exact he
   | row row args =>
     rw [Oper.upon_row] at h;rw [Oper.uponIn_row];exact ⟨zHi, (rows_open h).mono fun v w'' he => hk _ _ he⟩
   | value v => exact hk _ _ h
   | skip => exact hk _ _ h
   | defer d => exact hk _ _ h
   | _ => exact h.elim
 | halt x w' =>
   cases x with
   | panic v => exact h
   | _ => exact h.elim
theorem zIC {ro : Option Nat} {n : Nat} {ops : Array Oper} {Q : Exit → Act → World → Prop} {Q' : Exit → Act → World → Prop} (hno : ∀ a w, ¬ Q .outgrown a w) (hq : ∀ a w c, Q (.panic c) a w → Q' (.panic c) a w) (tail : List Oper) (ht : ∀ a w, Q .normal a w → wpListIn (openF ro) n P ops Q' tail a w) :
   ∀ (l : List Oper) (a : Act) (w : World), (∀ o ∈ l, zD3 o.op = true) → wpList P ops Q l a w → wpListIn (openF ro) n P ops Q' (l ++ tail) a w
 | [], a, w, _, h => ht a w h
 | o :: l, a, w, hd, h => by
   have ih := zIC hno hq tail ht l;unfold wpList at h;rw [List.cons_append];unfold wpListIn;split at h
   · rename_i hw;rw [if_pos hw];rcases h with h | ⟨_, a', w', h⟩
     · have := op_in (ro := ro) (n := n) (hd o (by simp)) hno (fun a w h' => ih a w (fun o ho => hd o (by simp [ho])) h') h;refine ⟨this.1, ?_⟩;have h2 := this.2;revert h2;generalize (o.semAt (openF ro).round a.eval).run P w = r;intro h2;cases r with
       | ok x w' =>
         cases x with
         | enter f args => rw [Oper.uponIn_enter] at h2 ⊢; exact ⟨h2.1, h2.2.mono fun e w'' he => by
             cases e with
             | returned v => exact he
             | panicked c => exact hq _ _ _ he
             | outgrown => obtain ⟨a', w', h⟩ := he; exact absurd h (hno a' w')⟩
         | round l f tmps x y => rw [Oper.uponIn_round] at h2 ⊢; exact ⟨h2.1, h2.2.mono fun e w'' he => by
             cases e with
             | returned v => exact he
             | panicked c => exact hq _ _ _ he
             | outgrown => obtain ⟨a', w', h⟩ := he; exact absurd h (hno a' w')⟩
         | row row args => exact h2
         | value v => exact h2
         | skip => exact h2
         | defer d => exact h2
         | _ => exact h2.elim
       | halt x w' =>
         cases x with
         | panic v => exact hq _ _ _ h2
         | _ => exact h2.elim
     · exact absurd h (hno a' w')
   · rename_i hw;rw [if_neg hw];exact ⟨fun _ _ => trivial, ih _ _ (fun o ho => hd o (by simp [ho])) h⟩
theorem zL6 {ro : Option Nat} {n : Nat} {ops : Array Oper} {Q : Exit → Act → World → Prop} (hno : ∀ a w, ¬ Q .outgrown a w) (hd : ∀ o ∈ ops, zD3 o.op = true) :
   ∀ (l : List Nat) (a : Act) (w : World), wpOps P ops Q l a w → wpOpsIn (openF ro) n P ops Q l a w
 | [], _, _, h => h
 | i :: l, a, w, h => by
   have ih := zL6 (ro := ro) (n := n) hno hd l;unfold wpOps at h;unfold wpOpsIn;split at h
   · rename_i ho; rw [ho]; exact ih _ _ h
   · rename_i o ho;rw [ho];dsimp only;split at h
     · rename_i hw;rw [if_pos hw];rcases h with h | ⟨_, a', w', h⟩
       · exact op_in (hd o (Array.mem_of_getElem? ho)) hno ih h
       · exact absurd h (hno a' w')
     · rename_i hw;rw [if_neg hw];exact ⟨fun _ _ => trivial, ih _ _ h⟩
theorem zMC {ro : Option Nat} {n : Nat} {ops : Array Oper} {Q : Exit → Act → World → Prop} (hno : ∀ a w, ¬ Q .outgrown a w) (hd : ∀ o ∈ ops, zD3 o.op = true) :
   ∀ (fuel : Nat) (listed : Array Bool) (a : Act) (w : World), wpAny P .any ops Q fuel listed a w → wpAnyIn (openF ro) n P .any ops Q fuel listed a w
 | 0, _, _, _, h => h
 | fuel + 1, listed, a, w, h => by
   refine ⟨h.1, fun i hi => ?_⟩;have ih := zMC (ro := ro) (n := n) hno hd fuel (listed.setIfInBounds i true);have h2 := h.2 i hi;unfold wpOp at h2;unfold wpOpIn;split at h2
   · rename_i ho; rw [ho]; exact ih _ _ h2
   · rename_i o ho;rw [ho];dsimp only;split at h2
     · rename_i hw;rw [if_pos hw];rcases h2 with h | ⟨_, a', w', h⟩
       · exact op_in (hd o (Array.mem_of_getElem? ho)) hno ih h
       · exact absurd h (hno a' w')
     · rename_i hw;rw [if_neg hw];exact ⟨fun _ _ => trivial, ih _ _ h2⟩
theorem regW_in {ro : Option Nat} {n : Nat} {id : Nat} {ops : Array Oper} {draw : Bool} {Q : Exit → Act → World → Prop} {a : Act} {w : World} (hm : P.follows .mixedOrders = true) (hno : ∀ a w, ¬ Q .outgrown a w) (hd : ∀ o ∈ ops, zD3 o.op = true)
   (h : RegW P ops draw Q a w) : (Code.region id ops draw).wpIn (openF ro) n P Q a w := by
 rcases h with ⟨rfl, h | h⟩ | ⟨rfl, h⟩
 · refine wpIn_region_list ?_;have := zIC (ro := ro) (n := n) (ops := ops) (Q := Q) (Q' := Q) hno (fun _ _ _ h => h) [] (fun a w h => by unfold wpListIn; exact h) ops.toList a w (fun o ho => hd o (by simpa using ho)) h
   rwa [List.append_nil] at this
 · exact wpIn_region (zL6 hno hd _ _ _ h)
 · exact wpIn_region_any hm (zMC hno hd _ _ _ _ h)
def zCc : Code → Bool
 | .skip => true
 | .region _ ops _ => ops.all fun o => zD3 o.op
 | .seq a b => zCc a && zCc b
 | .cond _ x y => zCc x && zCc y
 | .block _ c => zCc c
 | .loop c => zCc c
 | .exit _ => true
 | .ret => true
 | _ => false
theorem zB8 (hm : P.follows .mixedOrders = true) {E0 : Env} {n : Nat} {ro : Option Nat} {m : Nat} : ∀ (c : Code) (Q : Exit → PS → Prop) (s : PS) (a : Act) (w : World), zBn n c = true → zCc c = true → pwp P c Q s → St E0 n s a w →
   c.wpIn (openF ro) m P (fun e a' w' => ∃ s', Q e s' ∧ St E0 n s' a' w') a w
 | .skip, Q, s, a, w, _, _, h, st => wpIn_skip ⟨s, h, st⟩
 | .region id ops draw, Q, s, a, w, hf, hr, h, st => by
   simp only [zBn, Bool.and_eq_true, Bool.or_eq_true, Bool.not_eq_true'] at hf
   have h1 : RegW P ops draw (fun e a' w' => e = .normal ∧ ∃ s', Q .normal s' ∧ St E0 n s' a' w') a w := zFr (fun o ho => (Array.all_eq_true_iff_forall_mem.1 hf.1) o ho) (fun hd => by
     rcases hf.2 with h1 | h1
     · rw [hd] at h1; cases h1
     · exact h1) h st fun s' a' w' h' st' => ⟨rfl, s', h', st'⟩
   refine wpIn_mono (regW_in hm (fun _ _ h => by cases h.1) (fun o ho => (Array.all_eq_true_iff_forall_mem.1 hr) o ho) h1) fun e a' w' h2 => ?_;obtain ⟨rfl, h2⟩ := h2;exact h2
 | .seq x y, Q, s, a, w, hf, hr, h, st => by
   simp only [zBn, Bool.and_eq_true] at hf;simp only [zCc, Bool.and_eq_true] at hr;refine wpIn_seq (wpIn_mono (zB8 hm x _ s a w hf.1 hr.1 h st) fun e a' w' hq => ?_);obtain ⟨s', h1, st'⟩ := hq;cases e <;> first | exact zB8 hm y Q s' a' w' hf.2 hr.2 h1 st' | exact ⟨s', h1, st'⟩
 | .cond c x y, Q, s, a, w, hf, hr, h, st => by
   simp only [zBn, Bool.and_eq_true] at hf;simp only [zCc, Bool.and_eq_true] at hr;obtain ⟨b, h1, h2, h3⟩ := h
   have hc : a.eval c = .bool b := by
     obtain ⟨E, rfl, S, _⟩ := st;have := S.eval hf.1.1;rw [h1] at this;exact this.sc_inv
   refine wpIn_cond hc ?_;cases b with
   | true => exact zB8 hm x Q s a w hf.1.2 hr.1 (h2 rfl) st
   | false => exact zB8 hm y Q s a w hf.2 hr.2 (h3 rfl) st
 | .block id c, Q, s, a, w, hf, hr, h, st => by
   simp only [zBn] at hf;simp only [zCc] at hr;refine wpIn_block (wpIn_mono (zB8 hm c _ s a w hf hr h st) fun e a' w' hq => ?_);obtain ⟨s', h1, st'⟩ := hq;cases e with
   | exit i =>
     simp only [Exit.inBlock] at h1 ⊢;split
     · rename_i hi; rw [if_pos hi] at h1; exact ⟨s', h1, st'⟩
     · rename_i hi; rw [if_neg hi] at h1; exact ⟨s', h1, st'⟩
   | _ => exact ⟨s', h1, st'⟩
 | .loop c, Q, s, a, w, hf, hr, h, st => by
   simp only [zBn] at hf;simp only [zCc] at hr;obtain ⟨I, k, h1, h2⟩ := h
   have key : ∀ (j k : Nat) (s : PS) (a : Act) (w : World), k < j → I k s → St E0 n s a w → Code.roundsIn (openF ro) m P c (fun e a' w' => ∃ s', Q e s' ∧ St E0 n s' a' w') j a w := by
     intro j;induction j with
     | zero => intro k s a w hk _ _; omega
     | succ j ih =>
       intro k s a w hk hI st;rw [roundsIn_succ];refine wpIn_mono (zB8 hm c _ s a w hf hr (h2 k s hI) st) fun e a' w' hq => ?_;obtain ⟨s', h4, st''⟩ := hq;cases e with
       | normal =>
         obtain ⟨k', h5, h6⟩ := h4;exact ih k' s' a' w' (by omega) h6 st''
       | _ => exact ⟨s', h4, st''⟩
   exact wpIn_loop_rounds (k + 1) (key (k + 1) k s a w (by omega) h1 st)
 | .exit id, Q, s, a, w, _, _, h, st => wpIn_exit ⟨s, h, st⟩
 | .ret, Q, s, a, w, _, _, h, st => wpIn_ret ⟨s, h, st⟩
 | .rangeFunc .., _, _, _, _, _, hr, _, _ => by cases hr
 | .scope _, _, _, _, _, _, hr, _, _ => by cases hr
 | .label _, _, _, _, _, _, hr, _, _ => by cases hr
 | .goto _, _, _, _, _, _, hr, _, _ => by cases hr
 | .refuse _, _, _, _, _, _, hr, _, _ => by cases hr
end
end Go.Pv
namespace Go.Pv
open Go Go.RowKit
section
variable {P : Program}
def zGb : Obj → Bool
 | .loop _ => true
 | .deferred _ => true
 | _ => false
def zCN (E : Env) (r : Nat) (o : Obj) : Env := { E with w := E.w.putObj r o }
theorem put_cell {E : Env} {r : Nat} {o o' : Obj} (hr : E.w.heap[r]? = some o) (ho : zGb o = true) {ad : Addr} {v : Value} (h : E.w.cell? ad = some v) : (zCN E r o').w.cell? ad = some v := by
 have hne : ad.block ≠ r := fun e => by
   unfold World.cell? at h;rw [e, hr] at h;cases o <;> simp_all [zGb]
 unfold World.cell? at h ⊢;rw [show (zCN E r o').w.heap[ad.block]? = E.w.heap[ad.block]? from World.putObj_heap_other hne];exact h
theorem zF7 {E : Env} {r : Nat} {o o' : Obj} (hr : E.w.heap[r]? = some o) (ho : zGb o = true) {v : Value} {p : PV} (h : Rep E v p) : Rep (zCN E r o') v p := by
 have mem : ∀ {t : Bool} {sz : Nat} {rows : Rows} {b off : Nat} {f : Nat → Nat → Value}, MemAt E t sz rows b off f → MemAt (zCN E r o') t sz rows b off f := fun hm =>
   ⟨hm.own, hm.out, hm.tt, by show _ < (E.w.putObj r _).heap.size; rw [World.putObj_size]; exact hm.lt, hm.width, fun i j row p h1 h2 => put_cell hr ho (hm.cell i j row p h1 h2), hm.pure, hm.one⟩
 induction h with
 | sc hx => exact .sc hx
 | nil => exact .nil
 | litE => exact .litE
 | lit hm hc hr ih => exact .lit (mem hm) hc ih
 | lptr i j hm hr ih => exact .lptr i j (mem hm) ih
 | ref hk hlen hl => exact .ref hk hlen hl
 | refE hk hl => exact .refE hk hl
 | ptr hk hl => exact .ptr hk hl
 | agg hl _ ih => exact .agg hl ih
 | tup hl _ ih => exact .tup hl ih
 | func hl hl' _ _ ih ih' => exact .func hl hl' ih ih'
 | map hk hl => exact .map hk hl
 | iter hk hl => exact .iter hk hl
 | dead => exact .dead
theorem put_obj {E : Env} {r : Nat} {o o' : Obj} (hr : E.w.heap[r]? = some o) (ho : zGb o = true) {k : Key} {q : PObj} (h : ObjOK E k q) : ObjOK (zCN E r o') k q := by
 have keep : ∀ {ob : Obj}, E.w.heap[E.blk k]? = some ob → zGb ob = false → (zCN E r o').w.heap[E.blk k]? = some ob := fun {ob} h1 h2 => by
   have hne : E.blk k ≠ r := fun e => by rw [e, hr] at h1; cases h1; rw [ho] at h2; cases h2
   exact (World.putObj_heap_other hne).trans h1
 cases q with
 | rows sz rs =>
   obtain ⟨c, T, h1, h2, h3, h4, h5, h6, h7⟩ := h
   exact ⟨c, T, keep h1 rfl, h2, h3, h4, h5, h6, fun i j row p h8 h9 => by
     obtain ⟨v, h10, h11⟩ := h7 i j row p h8 h9;exact ⟨v, h10, zF7 hr ho h11⟩⟩
 | map es bs clk =>
   obtain ⟨ents, h1, h2, h3, h4, h5⟩ := h;exact ⟨ents, keep h1 rfl, h2, h3, fun i e p h6 h7 => ⟨zF7 hr ho (h4 i e p h6 h7).1, zF7 hr ho (h4 i e p h6 h7).2⟩, h5⟩
 | iter km since seen =>
   obtain ⟨b, h1, h2⟩ := h;exact ⟨b, keep h1 rfl, h2⟩
theorem zJy {E : Env} (g : Good E) {r : Nat} {o o' : Obj} (hr : E.w.heap[r]? = some o) (ho : zGb o = true) (hb : E.B0 ≤ r) : Good (zCN E r o') where
 inj := g.inj
 known := g.known
 base := g.base
 obj := fun k q h => put_obj hr ho (g.obj k q h)
 out := g.out
 size := by show E.B0 ≤ (E.w.putObj r _).heap.size; rw [World.putObj_size]; exact g.size
 glob := zCr g.glob (Nat.le_refl _) fun b hb' => World.putObj_heap_other (by have : b < E.B0 := hb'; omega)
theorem zLB {E0 E : Env} (h : EnvLe E0 E) {r : Nat} {o' : Obj} (hb : E0.w.heap.size ≤ r) : EnvLe E0 (zCN E r o') where
 blk := fun b hb' ho => (World.putObj_heap_other (by omega)).trans (h.blk b hb' ho)
 size := by show _ ≤ (E.w.putObj r _).heap.size; rw [World.putObj_size]; exact h.size
 own := h.own
 M := h.M
 tt := h.tt
 B0 := h.B0
 cnt := h.cnt
 nokey := h.nokey
 rows := h.rows
 map := h.map
theorem put_le2 {E E' : Env} (h : EnvLe E E') {r : Nat} {o' : Obj} : EnvLe (zCN E r o') (zCN E' r o') where
 blk := fun b hb' ho => by
   have hb : b < E.w.heap.size := by have h1 : b < (E.w.putObj r o').heap.size := hb'; rwa [World.putObj_size] at h1
   by_cases e : b = r
   · subst e;exact (World.putObj_heap_same (Nat.lt_of_lt_of_le hb h.size)).trans (World.putObj_heap_same hb).symm
   · exact (World.putObj_heap_other e).trans ((h.blk b hb ho).trans (World.putObj_heap_other e).symm)
 size := by show (E.w.putObj r o').heap.size ≤ (E'.w.putObj r o').heap.size; rw [World.putObj_size, World.putObj_size]; exact h.size
 own := fun b hb => by
   show _ ∨ (E.w.putObj r o').heap.size ≤ b;rw [World.putObj_size]; exact h.own b hb
 M := h.M
 tt := h.tt
 B0 := h.B0
 cnt := h.cnt
 nokey := h.nokey
 rows := h.rows
 map := h.map
theorem put_below2 {B : Nat} {E E' : Env} (h : Below B E.w E'.w) {r : Nat} {o' : Obj} : Below B (zCN E r o').w (zCN E' r o').w :=
 ⟨h.os, h.tape, h.output, by show (E.w.putObj r o').heap.size ≤ (E'.w.putObj r o').heap.size; rw [World.putObj_size, World.putObj_size]; exact h.size, fun b hb => by
   by_cases e : b = r
   · subst e;show (E'.w.heap.setIfInBounds b o')[b]? = (E.w.heap.setIfInBounds b o')[b]?;have h1 := h.block b hb;by_cases h2 : b < E.w.heap.size
     · have h3 := Nat.lt_of_lt_of_le h2 h.size;simp [h2, h3]
     · have h3 : ¬ b < E'.w.heap.size := fun h3 => by
         rw [Array.getElem?_eq_getElem h3, Array.getElem?_eq_none (by omega)] at h1; cases h1
       simp [h2, h3]
   · exact (World.putObj_heap_other e).trans ((h.block b hb).trans (World.putObj_heap_other e).symm)⟩
theorem zGv {E : Env} {B : Nat} {w : World} (h : Below B w E.w) {r : Nat} {o' : Obj} (hb : B ≤ r) : Below B w (zCN E r o').w :=
 ⟨h.os, h.tape, h.output, by show _ ≤ (E.w.putObj r _).heap.size; rw [World.putObj_size]; exact h.size, fun k hk => (World.putObj_heap_other (by omega)).trans (h.block k hk)⟩
theorem zFf {r0 : Nat} {E : Env} {r : Nat} {o' : Obj} {lp : Loop} (hr : E.w.heap[r]? = some (.loop lp)) : ∀ {ds : List Deferred}, Marks r0 E ds → Marks r0 (zCN E r o') ds
 | [], _ => trivial
 | d :: ds, ⟨⟨r', h1, h2, h3, h4, h5⟩, h6⟩ => by
   refine ⟨⟨r', h1, h2, (World.putObj_heap_other fun e => ?_).trans h3, h4, h5⟩, zFf hr h6⟩;rw [e, hr] at h3; cases h3
theorem zK0 {r0 : Nat} {E : Env} {n : Nat} {s : PS} {a : Act} (S : Sim r0 E n s a) {r : Nat} {o' : Obj} {lp : Loop} (hr : E.w.heap[r]? = some (.loop lp)) (hb : E.B0 ≤ r) : Sim r0 (zCN E r o') n s a :=
 ⟨zJy S.good hr rfl hb, S.h, S.cnt, S.tt, S.size, fun i v hv => zF7 hr rfl (S.regs i v hv), zFf hr S.defers⟩
def zHG (E : Env) (o : Obj) : Env := { E with w := E.w.alloc o }
theorem zKj (E : Env) (o : Obj) : EnvLe E (zHG E o) where
 blk := fun b hb _ => Below.heap_alloc _ _ b hb
 size := by simp [zHG]
 own := fun _ h => .inl h
 M := rfl
 tt := rfl
 B0 := rfl
 cnt := fun _ => Nat.le_refl _
 nokey := fun _ _ h => h
 rows := fun _ _ rs h => .inr ⟨rs, h, rfl, rfl⟩
 map := fun _ o h _ => .inr ⟨o, h, rfl, rfl⟩
theorem zH9 {E : Env} (g : Good E) (o : Obj) : Good (zHG E o) where
 inj := g.inj
 known := g.known
 base := g.base
 obj := fun k q h => ObjOK.le (zKj E o) rfl rfl (Below.heap_alloc _ _ _ (zBL g h)) (g.obj k q h)
 out := g.out
 size := by show E.B0 ≤ (E.w.alloc o).heap.size; have := g.size; simp; omega
 glob := zCr g.glob (Nat.le_refl _) fun b hb' => Below.heap_alloc _ _ b (by have := g.size; omega)
theorem zIY (E : Env) (g : Good E) (o : Obj) : Below E.B0 E.w (zHG E o).w := (Below.refl _ _).alloc g.size _
theorem zLt {r0 : Nat} {E : Env} {n : Nat} {s : PS} {a : Act} (S : Sim r0 E n s a) (o : Obj) : Sim r0 (zHG E o) n s a :=
 ⟨zH9 S.good o, S.h, S.cnt, S.tt, S.size, fun i v hv => (S.regs i v hv).le (zKj E o), S.defers.le (zKj E o)⟩
def zG5 (P : Program) (g : FuncId) (caps : List PV) (items : List (List PV)) (Hk : Heap → Prop) : Prop :=
 hasBody P g = true ∧ ∀ (E : Env) (ws : Array Value) (l : Nat) (J : Nat → Env → Prop), Good E → E.tt = true → Hk E.h → ws.size = caps.length → (∀ (i : Nat) (u : Value) (p : PV), ws[i]? = some u → caps[i]? = some p → Rep E u p) → J 0 E →
   (∀ (j : Nat) (E1 E2 : Env), J j E1 → EnvLe E1 E2 → Good E2 → E2.h = E1.h → E2.cnt = E1.cnt → Below E1.B0 E1.w E2.w → J j E2) →
   (∀ (j : Nat) (row : List PV) (E1 : Env) (us : Array Value), items[j]? = some row → J j E1 → Good E1 → E1.tt = true → us.size = row.length → (∀ (i : Nat) (u : Value) (p : PV), us[i]? = some u → row[i]? = some p → Rep E1 u p) →
     YieldAt Fence.wide 0 P l us E1.w fun e w' => e = .returned (.bool true) ∧ ∃ E2 : Env, E2.w = w' ∧ J (j + 1) E2 ∧ Good E2 ∧ E2.tt = true ∧ Hk E2.h ∧ ∀ v p, Rep E1 v p → Rep E2 v p) →
   CallsIn Fence.wide 0 P g (#[.func (.yield l) #[] #[]] ++ ws) E.w fun e w' => ∃ (v : Value) (E' : Env), e = .returned v ∧ E'.w = w' ∧ J items.length E'
def putRs (r : Nat → PV) : List Nat → List PV → Nat → PV
 | d :: ds, v :: vs => putRs (putR r (some d) v) ds vs
 | _, _ => r
theorem zG9 {r0 : Nat} {E : Env} {n : Nat} {h : Heap} {cnt : Nat → Nat} {ds : List Deferred} : ∀ (ps : List Nat) (us : List Value) (row : List PV) (r : Nat → PV) (tmps : Array Value), Sim r0 E n ⟨r, h, cnt⟩ { tmps := tmps, defers := ds } → us.length = row.length → (∀ (i : Nat) (u : Value) (p : PV), us[i]? = some u → row[i]? = some p → Rep E u p) →
   Sim r0 E n ⟨putRs r ps row, h, cnt⟩ { tmps := (ps.zip us).foldl (fun tmps (t, a) => tmps.setIfInBounds t a) tmps, defers := ds }
 | [], us, row, r, tmps, S, _, _ => by simpa [putRs] using S
 | p :: ps, [], [], r, tmps, S, _, _ => by simpa [putRs] using S
 | p :: ps, u :: us, v :: row, r, tmps, S, hl, hr => by
   refine zG9 ps us row _ (tmps.setIfInBounds p u) ?_ (by simpa using hl) fun i u' p' h1 h2 => hr (i + 1) u' p' (by simpa using h1) (by simpa using h2);exact S.put (dst := some p) (s' := ⟨putR r (some p) v, h, cnt⟩) (EnvLe.refl E) S.good S.tt (hr 0 u v rfl rfl) rfl S.h S.cnt
 | p :: ps, [], v :: row, r, tmps, S, hl, hr => by cases hl
 | p :: ps, u :: us, [], r, tmps, S, hl, hr => by cases hl
theorem yield_rep {E : Env} {u : Value} {f : Fn} (h : Rep E u (.func f [] [])) : u = .func f #[] #[] := by
 cases h with
 | func hl hl' _ _ =>
   rw [Array.eq_empty_of_size_eq_zero hl, Array.eq_empty_of_size_eq_zero hl']
structure RAt (E0 : Env) (n : Nat) (r : Nat → PV) (tmps : Array Value) (ds : List Deferred) (l : Nat) (rec : Loop) (I : Nat → Heap → (Nat → Nat) → Prop) (j : Nat) (E : Env) : Prop where
 inv : I j E.h E.cnt
 sim : Sim E0.w.heap.size E n ⟨r, E.h, E.cnt⟩ { tmps := tmps, defers := ds }
 le : EnvLe E0 E
 below : Below E0.B0 E0.w E.w
 loop : E.w.heap[l]? = some (.loop rec)
 own : ¬ E.own l
theorem zJB {E E' : Env} (h : EnvLe E E') {l : Nat} (hl : l < E.w.heap.size) (ho : ¬ E.own l) : ¬ E'.own l := fun h' => by
 rcases h.own l h' with h1 | h1
 · exact ho h1
 · omega
theorem range_rule (hm : P.follows .mixedOrders = true) {g : FuncId} {caps : List PV} {items : List (List PV)} {Hk : Heap → Prop} (hit : zG5 P g caps items Hk) {gop : Operand} {ps : Array Tmp} {assign body : Code} {Q : Exit → PS → Prop} {s : PS}
   (hg : ev s.r gop = .func (.func g) [] caps) (I : Nat → Heap → (Nat → Nat) → Prop) (hI : I 0 s.h s.cnt) (hHk : ∀ j h c, I j h c → Hk h) (hr1 : zCc assign = true) (hr2 : zCc body = true) (hlen : ∀ row ∈ items, row.length = ps.size)
   (hbody : ∀ (j : Nat) (row : List PV), items[j]? = some row → ∀ h c, I j h c → pwp P assign (fun e s1 => e = .normal ∧ pwp P body (fun e s2 => e = .normal ∧ I (j + 1) s2.h s2.cnt) s1) ⟨putRs s.r ps.toList row, h, c⟩)
   (hfin : ∀ h c, I items.length h c → Q .normal ⟨s.r, h, c⟩) : zIb P gop ps assign body Q s := by
 intro E0 n a w hf st;simp only [zBn, Bool.and_eq_true] at hf;obtain ⟨⟨⟨hfg, hfp⟩, hfa⟩, hfb⟩ := hf;obtain ⟨E, rfl, S, hle, hb, hk⟩ := st;have hB : E0.B0 ≤ E.B0 ∧ E.B0 ≤ E0.B0 := by rw [hle.B0]; exact ⟨Nat.le_refl _, Nat.le_refl _⟩
 refine (wpIn_wide (n := 1)).1 (wpIn_rangeFunc fun fn _ => ?_);have hgv : Rep E (a.eval gop) (.func (.func g) [] caps) := by rw [← hg]; exact S.eval hfg
 obtain ⟨ws, hgv1, hws, hwr⟩ : ∃ ws : Array Value, a.eval gop = .func (.func g) #[] ws ∧ ws.size = caps.length ∧ ∀ (i : Nat) (u : Value) (p : PV), ws[i]? = some u → caps[i]? = some p → Rep E u p := by
   generalize a.eval gop = v at hgv;cases hgv with
   | func hl hl' _ h' => rw [Array.eq_empty_of_size_eq_zero hl]; exact ⟨_, rfl, hl', h'⟩
 -- the block for deferred calls, and the record
 have g0 := S.good;let rec0 : Loop := { state := .ready, pending := none, fn := fn, tmps := a.tmps, params := ps, assign := assign, body := body, defers := E.w.heap.size }
 let E1 := zHG E (.deferred (some []));let E2 := zHG E1 (.loop rec0);let mk : Deferred := { target := .collected E.w.heap.size, args := #[] }
 have hle1 : EnvLe E E1 := zKj E _;have hle2 : EnvLe E1 E2 := zKj E1 _;have g1 : Good E1 := zH9 g0 _;have g2 : Good E2 := zH9 g1 _;have hs1 : E1.w.heap.size = E.w.heap.size + 1 := by simp [E1, zHG]
 have hD1 : E1.w.heap[E.w.heap.size]? = some (.deferred (some [])) := World.alloc_heap_new E.w _
 have hL2 : E2.w.heap[E.w.heap.size + 1]? = some (.loop rec0) := by
   have := World.alloc_heap_new E1.w (.loop rec0);rw [hs1] at this; exact this
 have no1 : ¬ E1.own E.w.heap.size := fun ⟨k, o, h1, h2⟩ => by have h3 := zBL g0 (k := k) (o := o) h1; have h4 : E.blk k = E.w.heap.size := h2; omega
 have no2 : ¬ E2.own (E.w.heap.size + 1) := fun ⟨k, o, h1, h2⟩ => by have h3 := zBL g0 (k := k) (o := o) h1; have h4 : E.blk k = E.w.heap.size + 1 := h2; omega
 have hle0 : EnvLe E0 E2 := (hle.trans hle1 hk).trans hle2 hk;have hbl1 : Below E0.B0 E.w E1.w := by have := zIY E g0 (.deferred (some [])); rwa [hle.B0] at this
 have hbl2 : Below E0.B0 E1.w E2.w := by have := zIY E1 g1 (.loop rec0); rwa [show E1.B0 = E0.B0 from hle.B0] at this
 have S1 : Sim E0.w.heap.size E1 n s { a with defers := mk :: a.defers } := by
   have S1 := zLt S (.deferred (some []));refine ⟨S1.good, S1.h, S1.cnt, S1.tt, S1.size, S1.regs, ⟨⟨E.w.heap.size, rfl, hle.size, hD1, no1, fun d hd e => ?_⟩, S1.defers⟩⟩
   have : ∀ {ds : List Deferred}, Marks E0.w.heap.size E ds → ∀ d ∈ ds, d.target ≠ .collected E.w.heap.size := by
     intro ds;induction ds with
     | nil => intro _ d hd; cases hd
     | cons d ds ih =>
       intro hmk d' hd' e;obtain ⟨⟨r, h1, _, h3, _⟩, h6⟩ := hmk;rcases List.mem_cons.1 hd' with rfl | hd'
       · rw [h1] at e;cases e;have := (Array.getElem?_eq_some_iff.1 h3).1;omega
       · exact ih h6 d' hd' e
   exact this S.defers d hd e
 have S2 := zLt S1 (.loop rec0)
 have R0 : RAt E0 n s.r a.tmps (mk :: a.defers) (E.w.heap.size + 1) rec0 I 0 E2 := by
   refine ⟨?_, ?_, hle0, (hb.trans hbl1).trans hbl2, hL2, no2⟩
   · show I 0 E.h E.cnt; rw [S.h, S.cnt]; exact hI
   · have h1 : E2.h = s.h := S.h;have h2 : E2.cnt = s.cnt := S.cnt;rw [h1, h2]; exact S2
 obtain ⟨hgb, hit⟩ := hit
 have henter : ∀ args w, (callFunc g args).run P w = .ok (.enter g args) w := fun args w => by
   obtain ⟨fn', h1, h2, h3⟩ := zFF hgb;have hn : fn'.body.isNone = false := by cases hq : fn'.body <;> simp_all
   simp only [callFunc, run_program, Sem.run_bind, Result.andThen_ok, h1, h3, hn, Bool.false_eq_true, if_false, Sem.run_pure]
 have hlB : E0.w.heap.size ≤ E.w.heap.size + 1 := by have := hle.size; omega
 have hB0l : ∀ E' : Env, EnvLe E0 E' → Good E0 ∨ True → E'.B0 ≤ E.w.heap.size + 1 := fun E' h _ => by
   have h1 := g0.size;have h2 := hle.B0;have h3 := h.B0;omega
 refine ⟨E.w.heap.size + 1, [mk], E2.w, { target := .fn (.func g) ws, args := #[.func (.yield (E.w.heap.size + 1)) #[] #[]] }, E2.w, g, #[.func (.yield (E.w.heap.size + 1)) #[] #[]] ++ ws, E2.w, run_enterLoop_outer _ _ _ _ _, ?_, fun _ _ => trivial, ?_, (fun h => by cases h), ?_⟩
 · simp only [resolve, rangeCall, Deferred.ofValue];rw [hgv1];simp [Act.eval]
 · simp [invoke, henter]
 refine (hit E2 ws (E.w.heap.size + 1) (RAt E0 n s.r a.tmps (mk :: a.defers) (E.w.heap.size + 1) rec0 I) g2 S.tt (hHk 0 _ _ R0.inv) hws (fun i u p h1 h2 => ((hwr i u p h1 h2).le hle1).le hle2) R0 ?_ ?_).mono ?_
 · intro j F1 F2 hJ hle' gF2 hh hc hbl;have hlt := (Array.getElem?_eq_some_iff.1 hJ.loop).1;refine ⟨by rw [hh, hc]; exact hJ.inv, ⟨gF2, rfl, rfl, hle'.tt.trans hJ.sim.tt, hJ.sim.size, fun i v hv => (hJ.sim.regs i v hv).le hle', hJ.sim.defers.le hle'⟩, hJ.le.trans hle' hk, ?_, (hle'.blk _ hlt hJ.own).trans hJ.loop, zJB hle' hlt hJ.own⟩;rw [hJ.le.B0] at hbl;exact hJ.below.trans hbl
 · intro j row F1 us hrow hJ gF1 htt hus hurep;have hlt := (Array.getElem?_eq_some_iff.1 hJ.loop).1;have hrl := hlen row (List.mem_of_getElem? hrow);refine ⟨fn, _, assign, body, run_yield hJ.loop (hus.trans hrl), ?_⟩;refine roundIn_of_wpIn trivial ?_
   have SA : Sim F1.w.heap.size F1 n ⟨putRs s.r ps.toList row, F1.h, F1.cnt⟩ { tmps := (ps.zip us).foldl (fun tmps (t, a) => tmps.setIfInBounds t a) a.tmps, defers := [] } := by
     have h0 : Sim F1.w.heap.size F1 n ⟨s.r, F1.h, F1.cnt⟩ { tmps := a.tmps, defers := [] } := ⟨gF1, rfl, rfl, htt, hJ.sim.size, hJ.sim.regs, trivial⟩
     have := zG9 ps.toList us.toList row s.r a.tmps h0 (by simpa using hus) (fun i u p h1 h2 => hurep i u p (by simpa using h1) h2);rw [← Array.foldl_toList, Array.toList_zip];exact this
   have stA : St F1 n ⟨putRs s.r ps.toList row, F1.h, F1.cnt⟩ { tmps := (ps.zip us).foldl (fun tmps (t, a) => tmps.setIfInBounds t a) a.tmps, defers := [] } F1.w := ⟨F1, rfl, SA, EnvLe.refl _, Below.refl _ _, gF1.known⟩
   refine wpIn_mono (zB8 (ro := some (E.w.heap.size + 1)) hm assign _ _ _ _ hfa hr1 (hbody j row hrow F1.h F1.cnt hJ.inv) stA) fun e a1 w1 h1 => ?_;obtain ⟨s1, ⟨rfl, hs1⟩, F2, rfl, SB, hleB, hblB, _⟩ := h1;have hloopB : F2.w.heap[E.w.heap.size + 1]? = some (.loop rec0) := (hleB.blk _ hlt hJ.own).trans hJ.loop;refine ⟨_, run_beginRound hloopB rfl, ?_⟩;have hB1 : F1.B0 ≤ E.w.heap.size + 1 := hB0l F1 hJ.le (.inr trivial);have hB2 : F2.B0 ≤ E.w.heap.size + 1 := by rw [hleB.B0]; exact hB1
   let G1 := zCN F1 (E.w.heap.size + 1) (.loop { rec0 with state := .busy });have hsz : G1.w.heap.size = F1.w.heap.size := World.putObj_size;have hleG : EnvLe G1 (zCN F2 (E.w.heap.size + 1) (.loop { rec0 with state := .busy })) := put_le2 hleB;have SC := zK0 (o' := .loop { rec0 with state := .busy }) SB hloopB hB2;rw [← hsz] at SC
   have stC : St G1 n s1 a1 (zCN F2 (E.w.heap.size + 1) (.loop { rec0 with state := .busy })).w :=
     ⟨_, rfl, SC, hleG, put_below2 hblB, gF1.known⟩
   refine wpIn_mono (zB8 (ro := some (E.w.heap.size + 1)) hm body _ _ _ _ hfb hr2 hs1 stC) fun e a2 w2 h2 => ?_;obtain ⟨s2, ⟨rfl, hs2⟩, F4, rfl, SD, hleD, hblD, _⟩ := h2;have hltG : E.w.heap.size + 1 < G1.w.heap.size := by rw [hsz]; exact hlt
   have hownG : ¬ G1.own (E.w.heap.size + 1) := hJ.own;have hloopD : F4.w.heap[E.w.heap.size + 1]? = some (.loop { rec0 with state := .busy }) := (hleD.blk _ hltG hownG).trans (World.putObj_heap_same hlt);have hlt4 : E.w.heap.size + 1 < F4.w.heap.size := (Array.getElem?_eq_some_iff.1 hloopD).1;have hle1G : EnvLe E0 G1 := zLB hJ.le hlB;have hle4 : EnvLe E0 F4 := hle1G.trans hleD hk;have hB4 : F4.B0 ≤ E.w.heap.size + 1 := hB0l F4 hle4 (.inr trivial);have carry : ∀ v p, Rep F1 v p → Rep (zCN F4 (E.w.heap.size + 1) (.loop rec0)) v p := fun v p hv => zF7 hloopD rfl ((zF7 (o' := .loop { rec0 with state := .busy }) hJ.loop rfl hv).le hleD);have g5 := zJy (o' := .loop rec0) SD.good hloopD rfl hB4;refine ⟨_, _, run_endRound none hloopD, rfl, zCN F4 (E.w.heap.size + 1) (.loop rec0), rfl, ⟨?_, ⟨g5, rfl, rfl, SD.tt, hJ.sim.size, fun i v hv => carry _ _ (hJ.sim.regs i v hv), zFf hloopD ((zFf hJ.loop hJ.sim.defers).le hleD)⟩, zLB hle4 hlB, ?_, World.putObj_heap_same hlt4, zJB hleD hltG hownG⟩, g5, SD.tt, ?_, carry⟩
   · show I (j + 1) F4.h F4.cnt; rw [SD.h, SD.cnt]; exact hs2
   · have hb1 : Below E0.B0 E0.w G1.w := zGv hJ.below (by have := hB1; have := hJ.le.B0; omega);have hb2 : Below E0.B0 G1.w F4.w := by have h3 := hblD; rw [hle1G.B0] at h3; exact h3
     exact zGv (hb1.trans hb2) (by have := hB4; have := hle4.B0; omega)
   · show Hk F4.h;have := hHk (j + 1) _ _ hs2;rw [← SD.h] at this;exact this
 · rintro e w' ⟨v, E', rfl, rfl, hJ⟩
   refine ⟨none, _, run_endLoop hJ.loop (by simp [rec0]), ?_⟩;have hle' := zLB hJ.le (o' := .loop { rec0 with state := .exhausted }) hlB;refine ⟨_, hfin _ _ hJ.inv, zCN E' (E.w.heap.size + 1) (.loop { rec0 with state := .exhausted }), rfl, zK0 hJ.sim hJ.loop (hB0l E' hJ.le (.inr trivial)), hle', zGv hJ.below (by have := g0.size; have := hle.B0; omega), hk⟩
structure Fr (E : Env) (n : Nat) (s : PS) (a : Act) : Prop where
 sim : Sim E.w.heap.size E n s a
 nod : a.defers = []
theorem Fr.of_sim {E : Env} {r0 n : Nat} {s : PS} {a : Act} (S : Sim r0 E n s a) (h : a.defers = []) : Fr E n s a :=
 ⟨⟨S.good, S.h, S.cnt, S.tt, S.size, S.regs, by rw [h]; trivial⟩, h⟩
theorem Fr.st {E : Env} {n : Nat} {s : PS} {a : Act} (F : Fr E n s a) : St E n s a E.w := ⟨E, rfl, F.sim, EnvLe.refl E, Below.refl _ _, F.sim.good.known⟩
def FrTo (E : Env) (n : Nat) (K : PS → Prop) (a' : Act) (w' : World) : Prop := ∃ (s' : PS) (E' : Env), K s' ∧ Fr E' n s' a' ∧ EnvLe E E' ∧ Below E.B0 E.w E'.w ∧ E'.w = w'
theorem zJO {E : Env} {n : Nat} {s : PS} {a : Act} {ops : Array Oper} {l : List Oper} {K : PS → Prop} (hng : ∀ o ∈ l, o.guard = none) (hsc : ∀ o ∈ l, zA8 n o = true) (F : Fr E n s a) (h : pOps P K l s) :
   wpList P ops (fun e a' w' => e = .normal ∧ FrTo E n K a' w') l a E.w :=
 zFu l s a E.w hng hsc h F.st fun s' a' w' hk ⟨E', hw, S, hle, hb, _⟩ hd => ⟨rfl, s', E', hk, Fr.of_sim S (hd.trans F.nod), hle, hw ▸ hb, hw⟩
theorem zFd {E : Env} {n : Nat} {s : PS} {a : Act} {id : Nat} {ops : Array Oper} {K : PS → Prop} {Q : Exit → Act → World → Prop} {m : Nat} (hf : (zCn ops && ops.all (zA8 n)) = true) (F : Fr E n s a) (h : pOps P K ops.toList s) (hQ : ∀ a' w', FrTo E n K a' w' → Q .normal a' w') :
   (Code.region id ops false).wpIn Fence.wide m P Q a E.w := by
 simp only [Bool.and_eq_true] at hf;refine wpIn_wide.2 (wp_mono (wp_region_list (zJO (fun o ho => ?_) (fun o ho => (Array.all_eq_true_iff_forall_mem.1 hf.2) o (by simpa using ho)) F h)) ?_)
 · have := (List.all_eq_true.1 hf.1) o ho; simpa using this
 · rintro e a' w' ⟨rfl, h⟩; exact hQ a' w' h
theorem yield_op {E : Env} {n : Nat} {s : PS} {a : Act} {o : Oper} {f : Operand} {as : Array Operand} {ts : Array TypeId} {l : Nat} {K : Act → World → Prop} {Q : Exit → Act → World → Prop} (F : Fr E n s a) (ho : o.op = .call { callee := .value f, args := as, argTypes := ts }) (hsc : zA8 n o = true)
   (hf : ev s.r f = .func (.yield l) [] [])
   (hy : ∀ us : Array Value, us.size = as.size → (∀ (i : Nat) (u : Value) (p : PV), us[i]? = some u → (as.toList.map (ev s.r))[i]? = some p → Rep E u p) → YieldAt Fence.wide 0 P l us E.w fun e w' => e = .returned (.bool true) ∧ K (a.put o.dst (.bool true)) w') :
   o.wpIn Fence.wide 0 P a E.w K Q := by
 have hρ : ∀ x ∈ o.op.operands, Rep E (a.eval x) (ev s.r x) := fun x hx => F.sim.eval ((zBT hsc).1 x hx);have hfv : a.eval f = .func (.yield l) #[] #[] := yield_rep (by rw [← hf]; exact hρ f (by rw [ho]; simp [Op.operands, Call.operands]))
 obtain ⟨fn, tmps, as', body, hrun, hround⟩ := hy (as.map a.eval) (by simp) fun i u p h1 h2 => by
   rw [Array.getElem?_map, Option.map_eq_some_iff] at h1;rw [List.getElem?_map, Option.map_eq_some_iff] at h2;obtain ⟨y, h3, rfl⟩ := h1;obtain ⟨z, h4, rfl⟩ := h2;rw [Array.getElem?_toList, h3] at h4; cases h4;exact hρ y (by rw [ho]; simp only [Op.operands, Call.operands]; have := Array.mem_of_getElem? h3; simp [this])
 refine ⟨fun _ _ => trivial, ?_⟩;rw [Oper.semAt_eq _ _ _ (fun c h => by rw [ho] at h; cases h)]
 have he : (execOp a.eval o).run P E.w = .ok (.round l fn tmps as' body) E.w := by
   obtain ⟨dst, op, type, pos, after, guard⟩ := o;simp only at ho; subst ho;simp only [execOp, resolve, hfv, Deferred.ofValue, Sem.run_bind, Sem.run_pure, Result.andThen_ok, invoke];simpa using hrun
 rw [he, Oper.uponIn_round];refine ⟨fun h => (by cases h), hround.mono fun e w' h => ?_⟩;obtain ⟨rfl, h⟩ := h;exact h
end
end Go.Pv
namespace Go.Pv
open Go Go.RowKit
def seqQ (K : PS → Prop) (Q : Exit → PS → Prop) : Exit → PS → Prop
 | .normal, s => K s
 | e, s => Q e s
def zJb (id : Nat) (Q : Exit → PS → Prop) : Exit → PS → Prop
 | .exit i, s => if i = id then Q .normal s else Q (.exit i) s
 | e, s => Q e s
def loopQ (I : Nat → PS → Prop) (n : Nat) (Q : Exit → PS → Prop) : Exit → PS → Prop
 | .normal, s => ∃ n', n' < n ∧ I n' s
 | e, s => Q e s
def endQ (P : Program) (rs : List ResultVar) (R : PV → Heap → (Nat → Nat) → Prop) : Exit → PS → Prop
 | .normal, s => (resPV P rs s).1 ∧ R (resPV P rs s).2 s.h s.cnt
 | .ret, s => (resPV P rs s).1 ∧ R (resPV P rs s).2 s.h s.cnt
 | _, _ => False
section
variable {P : Program} {Q : Exit → PS → Prop} {s : PS}
theorem zDL {K K' : PS → Prop} (h : ∀ s, K s → K' s) : ∀ (l : List Oper) (s : PS), pOps P K l s → pOps P K' l s
 | [], s, hp => h s hp
 | o :: l, s, hp => by
   unfold pOps at hp ⊢;split
   · rename_i hc;rw [hc] at hp;exact hp.imp (fun hp => ⟨hp.1, zDL h l _ hp.2⟩) (Or.imp (NextP.mono fun _ => zDL h l _) (Or.imp (RenP.mono fun _ => zDL h l _) (NilP.mono fun _ => zDL h l _)))
   · rename_i f args hc;rw [hc] at hp;exact zAy.mono hp fun v h' cnt' h1 => zDL h l _ h1
theorem zEs {ops : Array Oper} {d : Bool} {K K' : PS → Prop} (h : ∀ s, K s → K' s) : ∀ (l : List Oper) (i : Nat) (σ : GS) (tr : List Foot), gOps P ops d K l i σ tr → gOps P ops d K' l i σ tr
 | [], _, _, _, hp => ⟨hp.1, h _ hp.2⟩
 | o :: l, i, σ, tr, hp => by
   unfold gOps at hp ⊢;refine ⟨hp.1, ?_⟩;have hp := hp.2;split
   · rename_i hc;rw [hc] at hp;exact ⟨hp.1, hp.2.1, zEs h l _ _ _ hp.2.2⟩
   · rename_i f args hc;rw [hc] at hp;rcases hp with ⟨v, h1, h2⟩ | ⟨h1, h2, h3, h4⟩ | ⟨h1, h2, h3, e, h4, h5⟩
     · exact .inl ⟨v, h1, zEs h l _ _ _ h2⟩
     · exact .inr (.inl ⟨h1, h2, h3, zAy.mono h4 fun v h' cnt' h5 => zEs h l _ _ _ h5⟩)
     · exact .inr (.inr ⟨h1, h2, h3, e, h4, zEs h l _ _ _ h5⟩)
theorem pRegion_mono {ops : Array Oper} {d : Bool} {K K' : PS → Prop} (h : ∀ s, K s → K' s) (hp : zBA P ops d K s) : zBA P ops d K' s := by
 unfold zBA at hp ⊢;intro hkn;have hp := hp hkn;split
 · rename_i hc; rw [if_pos hc] at hp; exact zDL h _ _ hp
 · rename_i hc;rw [if_neg hc] at hp;refine hp.imp (fun hp => zEs h _ _ _ _ hp) fun hx => ⟨hx.1, hx.2.elim⟩
theorem zBW : ∀ (c : Code) {Q Q' : Exit → PS → Prop} {s : PS}, (∀ e s, Q e s → Q' e s) → pwp P c Q s → pwp P c Q' s
 | .skip, _, _, _, h, hp => h _ _ hp
 | .region _ _ _, _, _, _, h, hp => pRegion_mono (fun s => h _ s) hp
 | .seq a b, Q, Q', s, h, hp => zBW a (fun e s he => by cases e <;> first | exact zBW b h he | exact h _ _ he) hp
 | .cond c x y, _, _, _, h, ⟨b, h1, h2, h3⟩ => ⟨b, h1, fun hb => zBW x h (h2 hb), fun hb => zBW y h (h3 hb)⟩
 | .block id c, _, _, _, h, hp => zBW c (fun e s he => by
     cases e <;> first
       | exact h _ _ he
       | (rename_i i; simp only at he ⊢; split <;> rename_i hi <;> simp only [hi, if_true, if_false] at he <;> first | exact h _ _ he | (rw [if_neg hi] at he; exact h _ _ he))) hp
 | .loop c, _, _, _, h, ⟨I, n, h1, h2⟩ => ⟨I, n, h1, fun n s hI => zBW c (fun e s he => by cases e <;> first | exact he | exact h _ _ he) (h2 n s hI)⟩
 | .exit _, _, _, _, h, hp => h _ _ hp
 | .ret, _, _, _, h, hp => h _ _ hp
 | .rangeFunc .., _, _, _, h, hp => zIb.mono h hp
 | .scope _, _, _, _, _, hp => hp.elim
 | .label _, _, _, _, _, hp => hp.elim
 | .goto _, _, _, _, _, hp => hp.elim
 | .refuse _, _, _, _, _, hp => hp.elim
theorem zC5 {a b : Code} (h : ∀ K : PS → Prop, (∀ s', pwp P b Q s' → K s') → pwp P a (seqQ K Q) s) : pwp P (.seq a b) Q s :=
 zBW a (fun e s he => by cases e <;> exact he) (h _ fun _ h => h)
theorem pwp_seq_cut {a b : Code} (J : PS → Prop) (h1 : pwp P a (seqQ J Q) s) (h2 : ∀ s, J s → pwp P b Q s) : pwp P (.seq a b) Q s :=
 zC5 fun K hK => zBW a (fun e s he => by cases e <;> first | exact hK _ (h2 _ he) | exact he) h1
theorem zAf {a b c : Code} (h : pwp P (.seq a (.seq b c)) Q s) : pwp P (.seq (.seq a b) c) Q s := by
 refine zBW a (fun e s he => ?_) h;cases e <;> first | exact he | exact zBW b (fun e s he => by cases e <;> exact he) he
theorem zAl (h : Q .normal s) : pwp P .skip Q s := h
theorem zAh (h : Q .ret s) : pwp P .ret Q s := h
theorem zAJ {id : Nat} (h : Q (.exit id) s) : pwp P (.exit id) Q s := h
theorem zAa {b : Code} {id : Nat} {ops : Array Oper} (hg : zCn ops = true) (h : ∀ K : PS → Prop, (∀ s', pwp P b Q s' → K s') → pOps P K ops.toList s) : pwp P (.seq (.region id ops false) b) Q s :=
 zC5 fun K hK => by
   show zBA P ops false K s;unfold zBA;intro _;rw [hg];exact h K hK
theorem zAn {id : Nat} {ops : Array Oper} (hg : zCn ops = true) (h : ∀ K : PS → Prop, (∀ s', Q .normal s' → K s') → pOps P K ops.toList s) : pwp P (.region id ops false) Q s := by
 show zBA P ops false (Q .normal) s;unfold zBA;intro _;rw [hg];exact h _ fun _ h => h
theorem pwp_seq_plainK {b : Code} {id : Nat} {ops : Array Oper} (hg : zCn ops = true) (h : Known s → ∀ K : PS → Prop, (∀ s', pwp P b Q s' → K s') → pOps P K ops.toList s) : pwp P (.seq (.region id ops false) b) Q s :=
 zC5 fun K hK => by
   show zBA P ops false K s;unfold zBA;intro hk;rw [hg];exact h hk K hK
theorem zB9 {b : Code} {id : Nat} {ops : Array Oper} {d : Bool} (hg : (zCn ops && !d) = false) (h : Known s → ∀ K : PS → Prop, (∀ s', pwp P b Q s' → K s') → gOps P ops d K ops.toList 0 ⟨s, fun _ => true⟩ []) : pwp P (.seq (.region id ops d) b) Q s :=
 zC5 fun K hK => by
   show zBA P ops d K s;unfold zBA;intro hk;rw [hg];exact .inl (h hk K hK)
theorem zAm {b : Code} {id : Nat} {ops : Array Oper} {d : Bool} (hg : (zCn ops && !d) = false) (h : ∀ K : PS → Prop, (∀ s', pwp P b Q s' → K s') → gOps P ops d K ops.toList 0 ⟨s, fun _ => true⟩ []) : pwp P (.seq (.region id ops d) b) Q s :=
 zC5 fun K hK => by
   show zBA P ops d K s;unfold zBA;intro _;rw [hg];exact .inl (h K hK)
theorem zBw {id : Nat} {ops : Array Oper} {d : Bool} (hg : (zCn ops && !d) = false) (h : ∀ K : PS → Prop, (∀ s', Q .normal s' → K s') → gOps P ops d K ops.toList 0 ⟨s, fun _ => true⟩ []) : pwp P (.region id ops d) Q s := by
 show zBA P ops d (Q .normal) s;unfold zBA;intro _;rw [hg];exact .inl (h _ fun _ h => h)
theorem zAe {b : Code} {c : Operand} {x y : Code} {t : Bool} (hc : ev s.r c = .sc (.bool t)) (h : ∀ K : PS → Prop, (∀ s', pwp P b Q s' → K s') → (t = true → pwp P x (seqQ K Q) s) ∧ (t = false → pwp P y (seqQ K Q) s)) : pwp P (.seq (.cond c x y) b) Q s :=
 zC5 fun K hK => ⟨t, hc, (h K hK).1, (h K hK).2⟩
theorem zAt {c : Operand} {x y : Code} {t : Bool} (hc : ev s.r c = .sc (.bool t)) (ht : t = true → pwp P x Q s) (hf : t = false → pwp P y Q s) : pwp P (.cond c x y) Q s := ⟨t, hc, ht, hf⟩
theorem zAg {b : Code} {id : Nat} {c : Code} (h : ∀ K : PS → Prop, (∀ s', pwp P b Q s' → K s') → pwp P c (zJb id (seqQ K Q)) s) : pwp P (.seq (.block id c) b) Q s :=
 zC5 fun K hK => zBW c (fun e s he => by cases e <;> exact he) (h K hK)
theorem zB2 {id : Nat} {c : Code} (h : pwp P c (zJb id Q) s) : pwp P (.block id c) Q s := zBW c (fun e s he => by cases e <;> exact he) h
theorem zHQ {c : Code} (I : Nat → PS → Prop) (n : Nat) (h0 : I n s) (h : ∀ n s, I n s → pwp P c (loopQ I n Q) s) : pwp P (.loop c) Q s :=
 ⟨I, n, h0, fun n s hI => zBW c (fun e s he => by cases e <;> exact he) (h n s hI)⟩
theorem PCalls.of_code {f : FuncId} {fn : Func} {c : Code} {rs : List ResultVar} {args : List PV} {r : PV} (hf : P.funcs[f]? = some fn) (hb : fn.body = some c) (hrs : fn.results = rs.toArray)
   (hB : hasBody P f = true) (hm : P.follows .mixedOrders = true) (hfr : (zBn fn.ntmps c && rs.all (zCd fn.ntmps)) = true) (hfr3 : args.length ≤ fn.ntmps) (hpr : Pure r)
   (hp : pwp P c (endQ P rs fun p h _ => Out h p r) ⟨fun i => args.getD i .dead, zLE, noCnt⟩) : PCalls P f args r :=
 .of_pwp hf hb hrs hB hm hfr hfr3 hpr (zBW c (fun e s he => by cases e <;> first | exact ⟨.inl rfl, he⟩ | exact ⟨.inr rfl, he⟩ | exact he.elim) hp)
theorem zAy.of_code {f : FuncId} {fn : Func} {c : Code} {rs : List ResultVar} {args : List PV} {h : Heap} {cnt : Nat → Nat} {R : PV → Heap → (Nat → Nat) → Prop} (hf : P.funcs[f]? = some fn) (hb : fn.body = some c) (hrs : fn.results = rs.toArray)
   (hB : hasBody P f = true) (hm : P.follows .mixedOrders = true) (hfr : (zBn fn.ntmps c && rs.all (zCd fn.ntmps)) = true) (hfr3 : args.length ≤ fn.ntmps)
   (hp : pwp P c (endQ P rs R) ⟨fun i => args.getD i .dead, h, cnt⟩) : zAy P f args h cnt R :=
 .of_pwp hf hb hrs hB hm hfr hfr3 (zBW c (fun e s he => by cases e <;> first | exact ⟨.inl rfl, he⟩ | exact ⟨.inr rfl, he⟩ | exact he.elim) hp)
end
end Go.Pv
