/- The P level is sound: regions without guards, calls on pure values. -/
import Derived.Test.YtjmjiegplnfiiaaPvL
namespace Go.Pv
open Go Go.RowKit
section
variable {P : Program}

theorem Sim.eval {E : Env} {n : Nat} {s : PS} {a : Act} {r0 : Nat} (S : Sim r0 E n s a) {x : Operand} (hx : inScope n x = true) : Rep E (a.eval x) (ev s.r x) := by
 cases x with
 | tmp t =>
   have ht : t < a.tmps.size := by rw [S.size]; simpa [inScope] using hx
   exact S.regs t _ (by simp [Act.eval, ht])
 | const v => exact ofVal_rep v
 | global g => exact gw_rep S.good.glob S.good.base S.tt g
 | func f => exact .func (by simp) (by simp) (fun i v p h _ => by simp at h) (fun i v p h _ => by simp at h)

theorem Sim.put {E E' : Env} {n : Nat} {s : PS} {a : Act} {r0 : Nat} (S : Sim r0 E n s a) (hle : EnvLe E E') (g' : Good E') (htt : E'.tt = true) {dst : Option Nat} {v : Value} {p : PV} (hv : Rep E' v p) {s' : PS} (hr : s'.r = putR s.r dst p) (hh : E'.h = s'.h) (hc : E'.cnt = s'.cnt) : Sim r0 E' n s' (a.put dst v) where
 good := g'
 h := hh
 cnt := hc
 tt := htt
 size := by cases dst <;> simp [Act.put, S.size]
 regs := fun i u hu => by
   rw [hr]
   cases dst with
   | none => exact (S.regs i u (by simpa [Act.put] using hu)).le hle
   | some d =>
     simp only [Act.put, Array.getElem?_setIfInBounds] at hu
     simp only [putR]
     by_cases hd : d = i
     · subst hd
       rw [if_pos rfl] at hu ⊢
       split at hu
       · cases hu; exact hv
       · cases hu
     · rw [if_neg hd] at hu
       rw [if_neg (fun e => hd e.symm)]
       exact (S.regs i u hu).le hle
 defers := by cases dst <;> exact S.defers.le hle

theorem callOf_spec {r : Nat → PV} {o : Op} {f : FuncId} {args : List PV} (h : callOf r o = some (f, args)) :
   ∃ (x : Operand) (as : Array Operand) (ts : Array TypeId) (first cap : List PV), o = .call { callee := .value x, args := as, argTypes := ts } ∧ ev r x = .func (.func f) first cap ∧ args = first ++ as.toList.map (ev r) ++ cap := by
 unfold callOf at h
 split at h
 · split at h
   · cases h; exact ⟨_, _, _, _, _, rfl, by assumption, rfl⟩
   · cases h
 · cases h

theorem hasBody_spec {f : FuncId} (h : hasBody P f = true) : ∃ fn, P.funcs[f]? = some fn ∧ fn.body.isSome = true ∧ (fn.name == "runtime.NumGoroutine") = false := by
 unfold hasBody at h
 split at h
 · rename_i fn hfn
   simp only [Bool.and_eq_true, Bool.not_eq_true'] at h
   exact ⟨fn, hfn, h.1, h.2⟩
 · cases h

/-- What a call operation of the model comes to. -/
theorem run_call {E : Env} {a : Act} {r : Nat → PV} {o : Oper} {f : FuncId} {args : List PV} (h : callOf r o.op = some (f, args)) (hρ : ∀ x ∈ o.op.operands, Rep E (a.eval x) (ev r x)) (w : World)
   (hf : hasBody P f = true) :
   ∃ vs : Array Value, (execOp a.eval o).run P w = .ok (.enter f vs) w ∧ vs.size = args.length ∧ ∀ (i : Nat) (u : Value) (p : PV), vs[i]? = some u → args[i]? = some p → Rep E u p := by
 obtain ⟨x, as, ts, first, cap, ho, hx, rfl⟩ := callOf_spec h
 obtain ⟨dst, op, type, pos, after, guard⟩ := o
 simp only at ho; subst ho
 have hfx := hρ x (by simp [Op.operands, Call.operands])
 rw [hx] at hfx
 generalize hv : a.eval x = v at hfx
 cases hfx with
 | func hl hl' hf1 hf2 =>
   rename_i vf vc
   refine ⟨vf ++ as.map a.eval ++ vc, ?_, ?_, ?_⟩
   · obtain ⟨fn, h1, h2, h3⟩ := hasBody_spec hf
     have hn : fn.body.isNone = false := by cases hb : fn.body <;> simp_all
     simp only [execOp, resolve, hv, Deferred.ofValue, Sem.run_bind, Sem.run_pure, Result.andThen_ok, invoke, callFunc, run_program, h1, h3, hn, Bool.false_eq_true, if_false]
   · simp [hl, hl']
   · intro i u p h1 h2
     have hargs : ∀ (i : Nat) (u : Value) (p : PV), (as.map a.eval)[i]? = some u → (as.toList.map (ev r))[i]? = some p → Rep E u p := fun i u p h1 h2 => by
       rw [Array.getElem?_map, Option.map_eq_some_iff] at h1
       rw [List.getElem?_map, Option.map_eq_some_iff] at h2
       obtain ⟨y, h3, rfl⟩ := h1
       obtain ⟨z, h4, rfl⟩ := h2
       rw [Array.getElem?_toList, h3] at h4; cases h4
       exact hρ y (by simp only [Op.operands, Call.operands]; have := Array.mem_of_getElem? h3; simp [this])
     rw [Array.getElem?_append, Array.getElem?_append] at h1
     rw [List.getElem?_append, List.getElem?_append] at h2
     simp only [Array.size_append, Array.size_map, List.length_append, List.length_map, Array.length_toList, ← hl] at h1 h2
     by_cases h3 : i < vf.size + as.size
     · rw [if_pos h3] at h1 h2
       by_cases h4 : i < vf.size
       · rw [if_pos h4] at h1 h2; exact hf1 i u p h1 h2
       · rw [if_neg h4] at h1 h2; exact hargs _ u p h1 h2
     · rw [if_neg h3] at h1 h2; exact hf2 _ u p h1 h2


theorem inFrame_ops {n : Nat} {o : Oper} (h : inFrameOp n o = true) : (∀ x ∈ o.op.operands, inScope n x = true) ∧ ∀ d, o.dst = some d → d < n := by
 simp only [inFrameOp, Bool.and_eq_true] at h
 refine ⟨fun x hx => (Array.all_eq_true_iff_forall_mem.1 h.1) x hx, fun d hd => ?_⟩
 have := h.2
 rw [hd] at this
 simpa using this

theorem put_defers (a : Act) (dst : Option Nat) (v : Value) : (a.put dst v).defers = a.defers := by cases dst <;> rfl

/-- One operation without a guard. -/
theorem op_sound {E0 E : Env} {n : Nat} {s : PS} {a : Act} {o : Oper} {K : Act → World → Prop} {Q : Exit → Act → World → Prop} (S : Sim E0.w.heap.size E n s a) (hle : EnvLe E0 E) (hb : Below E0.B0 E0.w E.w) (hk : ∀ k o, E0.h k = some o → E0.known k)
   (hsc : inFrameOp n o = true) (hob : (eff P (ev s.r) s.h (siteOf o, s.cnt (siteOf o)) o.op).ob)
   (hK : ∀ a' w', St E0 n (stepS s o (eff P (ev s.r) s.h (siteOf o, s.cnt (siteOf o)) o.op)) a' w' → a'.defers = a.defers → K a' w') : o.wp P a E.w K Q := by
 have hρ : ∀ x ∈ o.op.operands, Rep E (a.eval x) (ev s.r x) := fun x hx => S.eval ((inFrame_ops hsc).1 x hx)
 have hob' : (eff P (ev s.r) E.h (siteOf o, E.cnt (siteOf o)) o.op).ob := by rw [S.h, S.cnt]; exact hob
 obtain ⟨v, w', blk, cap, hrun, hg, hle', hbl, hrep⟩ := eff_sound (P := P) (a := a) (o := o) (site := siteOf o) S.good hρ hob'
 rw [S.h, S.cnt] at hg hle' hrep
 have hst : St E0 n (stepS s o (eff P (ev s.r) s.h (siteOf o, s.cnt (siteOf o)) o.op)) (a.put o.dst v) w' := by
   refine ⟨_, rfl, S.put hle' hg S.tt hrep rfl rfl rfl, hle.trans hle' hk, ?_, hk⟩
   rw [hle.B0] at hbl
   exact hb.trans hbl
 unfold Oper.wp
 rcases hrun with hrun | ⟨hrun, rfl⟩
 · rw [hrun]; exact hK _ _ hst (put_defers _ _ _)
 · rw [hrun]; exact hK _ _ hst (put_defers _ _ _)

theorem wanted_none {o : Oper} (h : o.guard = none) (y : Nat → Option Bool) : Region.wanted o y = true := by simp [Region.wanted, h]

/-- A call without a guard. -/
theorem call_sound {E0 E : Env} {n : Nat} {s : PS} {a : Act} {o : Oper} {K : Act → World → Prop} {Q : Exit → Act → World → Prop} {f : FuncId} {args : List PV} {R : PV → Heap → (Nat → Nat) → Prop} (S : Sim E0.w.heap.size E n s a) (hle : EnvLe E0 E) (hb : Below E0.B0 E0.w E.w) (hk : ∀ k o, E0.h k = some o → E0.known k)
   (hsc : inFrameOp n o = true) (hc : callOf s.r o.op = some (f, args)) (hob : HCallsR P f args s.h s.cnt R)
   (hK : ∀ a' w' v h' cnt', R v h' cnt' → St E0 n { r := putR s.r o.dst v, h := h', cnt := cnt' } a' w' → a'.defers = a.defers → K a' w') : o.wp P a E.w K Q := by
 have hρ : ∀ x ∈ o.op.operands, Rep E (a.eval x) (ev s.r x) := fun x hx => S.eval ((inFrame_ops hsc).1 x hx)
 obtain ⟨vs, hrun, hsize, hrep⟩ := run_call (P := P) hc hρ E.w hob.1
 unfold Oper.wp
 rw [hrun]
 refine (hob.2 E vs S.good S.h S.cnt S.tt hsize hrep).mono ?_
 rintro e w' ⟨u, v, E', rfl, hR, rfl, hg, hle', hbl, hv⟩
 refine hK _ _ v E'.h E'.cnt hR ⟨E', rfl, S.put hle' hg (hle'.tt.trans S.tt) hv rfl rfl rfl, hle.trans hle' hk, ?_, hk⟩ (put_defers _ _ _)
 rw [hle.B0] at hbl
 exact hb.trans hbl

/-- A step of an iteration. -/
theorem next_sound {E0 E : Env} {n : Nat} {s : PS} {a : Act} {o : Oper} {K' : PS → Prop} {K : Act → World → Prop} {Q : Exit → Act → World → Prop} (S : Sim E0.w.heap.size E n s a) (hle : EnvLe E0 E) (hb : Below E0.B0 E0.w E.w) (hk : ∀ k o, E0.h k = some o → E0.known k)
   (hsc : inFrameOp n o = true) (hN : NextP K' o s) (hK : ∀ a' w' s', K' s' → St E0 n s' a' w' → a'.defers = a.defers → K a' w') : o.wp P a E.w K Q := by
 obtain ⟨x, kit, km, since, seen, es, bs, ho, hx, hkit, hkm, hlt, hne, hall⟩ := hN
 have hrx : Rep E (a.eval x) (.iter kit) := by rw [← hx]; exact S.eval ((inFrame_ops hsc).1 x (by rw [ho]; simp [Op.operands]))
 rw [← S.h] at hkit hkm
 obtain ⟨v, w', p, hp, hrun, hg, hle', hbl, hrep⟩ := next_step (P := P) (ty := o.type) S.good hrx hkit hkm hlt hne
 have hst : St E0 n { r := putR s.r o.dst (.tup [.bool true, p.1.1, p.1.2]), h := fun k => if k = kit then some (.iter km since (seen ++ [p.2])) else s.h k, cnt := s.cnt } (a.put o.dst v) w' := by
   refine ⟨_, rfl, S.put hle' hg S.tt hrep rfl (by simp only [setEnv, S.h]) (by simp only [setEnv, S.cnt]), hle.trans hle' hk, ?_, hk⟩
   rw [hle.B0] at hbl
   exact hb.trans hbl
 have hrun' : (execOp a.eval o).run P E.w = .ok (.value v) w' := by
   obtain ⟨dst, op, type, pos, after, guard⟩ := o
   simp only at ho; subst ho
   simp only [execOp, Sem.run_bind, hrun, Result.andThen_ok, Sem.run_pure]
 unfold Oper.wp
 rw [hrun']
 exact hK _ _ _ (hall p hp) hst (put_defers _ _ _)

/-- Another key for an own row. -/
theorem ren_sound {E0 E : Env} {n : Nat} {s : PS} {a : Act} {o : Oper} {K' : PS → Prop} {K : Act → World → Prop} {Q : Exit → Act → World → Prop} (S : Sim E0.w.heap.size E n s a) (hle : EnvLe E0 E) (hb : Below E0.B0 E0.w E.w) (hk : ∀ k o, E0.h k = some o → E0.known k)
   (hsc : inFrameOp n o = true) (hN : RenP K' o s) (hK : ∀ a' w' s', K' s' → St E0 n s' a' w' → a'.defers = a.defers → K a' w') : o.wp P a E.w K Q := by
 obtain ⟨x, d, e, k, sz, len, rs, ho, hd, hx, hkey, hall⟩ := hN
 have hrx : Rep E (a.eval x) (.ref k sz 0 len) := by rw [← hx]; exact S.eval ((inFrame_ops hsc).1 x (by rw [ho]; simp [Op.operands]))
 rw [← S.h] at hkey
 have hsz : E.w.heap.size ≤ E.w.heap.size := Nat.le_refl _
 have hbs : ∀ b, b ≠ E.blk k → E.w.heap[b]? = E.w.heap[b]? := fun _ _ => rfl
 have hle' := reuseEnv_le (site := e) (cp := E.cap k) (o := .rows sz rs) S.good hkey hsz hbs
 have hob : ObjOK (reuseEnv E e k (E.cap k) (.rows sz rs) E.w) (e, E.cnt e) (.rows sz rs) := by
   obtain ⟨c, T, h1, h2, h3, h4, h5, h6, h7⟩ := S.good.obj _ _ hkey
   refine ⟨c, T, by simpa [reuseEnv] using h1, by simpa [reuseEnv] using h2, by simpa [reuseEnv] using h3, h4, h5, h6, fun i j row p h8 h9 => ?_⟩
   obtain ⟨v, h10, h11⟩ := h7 i j row p h8 h9
   exact ⟨v, by simpa [reuseEnv] using h10, h11.le hle'⟩
 have hg := reuseEnv_good (site := e) (cp := E.cap k) (o := .rows sz rs) S.good hkey hsz hbs hob
 have hrep : Rep (reuseEnv E e k (E.cap k) (.rows sz rs) E.w) (a.eval x) (.ref (e, E.cnt e) sz 0 len) := by
   generalize a.eval x = v at hrx
   cases hrx with
   | refE hk1 hl =>
     refine .refE (by simp [reuseEnv, Env.known]) fun o ho => ?_
     simp [reuseEnv] at ho
     exact ⟨_, ho.symm⟩
   | ref hk1 hlc hl =>
     obtain ⟨hbk, hcap, rs', hq⟩ := hl _ hkey
     refine .ref (by simp [reuseEnv, Env.known]) hlc fun o ho => ?_
     simp [reuseEnv] at ho ⊢
     exact ⟨by simpa using hbk, by simpa using hcap, _, ho.symm⟩
 have hst : St E0 n { r := putR s.r (some d) (.ref (e, s.cnt e) sz 0 len), h := fun k' => if k' = (e, s.cnt e) then some (.rows sz rs) else if k' = k then none else s.h k', cnt := fun t => if t = e then s.cnt t + 1 else s.cnt t } (a.put o.dst (a.eval x)) E.w := by
   refine ⟨reuseEnv E e k (E.cap k) (.rows sz rs) E.w, rfl, ?_, hle.trans hle' hk, hb, hk⟩
   rw [hd, ← S.cnt, ← S.h]
   exact S.put (p := .ref (e, E.cnt e) sz 0 len) hle' hg S.tt hrep rfl rfl rfl
 have hrun' : (execOp a.eval o).run P E.w = .ok (.value (a.eval x)) E.w := by
   obtain ⟨dst, op, type, pos, after, guard⟩ := o
   simp only at ho; subst ho
   rfl
 unfold Oper.wp
 rw [hrun']
 exact hK _ _ _ hall hst (put_defers _ _ _)

theorem run_eql_nil2 {t e : TypeId} {a : Option Addr} {l c : Nat} (h : P.underlying t = some (.slice e)) (w : World) : ∃ b, (binOp .eql t (.slice a l c) (.slice none 0 0)).run P w = .ok (.bool b) w := by
 have := run_equal_slice_nil (P := P) w t e a l c h
 refine ⟨a.isNone, ?_⟩
 simp only [binOp]
 simp [this]
/-- An empty slice is compared with nil. -/
theorem nil_sound {E0 E : Env} {n : Nat} {s : PS} {a : Act} {o : Oper} {K' : PS → Prop} {K : Act → World → Prop} {Q : Exit → Act → World → Prop} (S : Sim E0.w.heap.size E n s a) (hle : EnvLe E0 E) (hb : Below E0.B0 E0.w E.w) (hk : ∀ k o, E0.h k = some o → E0.known k)
   (hsc : inFrameOp n o = true) (hN : NilP P K' o s) (hK : ∀ a' w' s', K' s' → St E0 n s' a' w' → a'.defers = a.defers → K a' w') : o.wp P a E.w K Q := by
 obtain ⟨x, y, t, t', d, tt, sz, ho, hd, hny, hty, hx, hall⟩ := hN
 have hrx : Rep E (a.eval x) (.lit tt sz []) := by rw [← hx]; exact S.eval ((inFrame_ops hsc).1 x (by rw [ho]; simp [Op.operands]))
 have hy : a.eval y = .slice none 0 0 := isNilC_spec hny
 obtain ⟨l, c, b0, hv⟩ : ∃ (b0 : Option Addr) (l c : Nat), a.eval x = .slice b0 l c := by
   generalize a.eval x = v at hrx
   cases hrx with
   | litE => exact ⟨_, _, _, rfl⟩
   | lit hm hc hr => exact ⟨_, _, _, rfl⟩
 obtain ⟨b, hrun⟩ := run_eql_nil2 (P := P) (a := l) (l := c) (c := b0) (isSliceTy_spec hty) E.w
 have hrun' : (execOp a.eval o).run P E.w = .ok (.value (.bool b)) E.w := by
   obtain ⟨dst, op, type, pos, after, guard⟩ := o
   simp only at ho; subst ho
   have hgd : (eqGuard .eql t x y (.slice l c b0) (.slice none 0 0)).run P E.w = .ok () E.w := by rw [eqGuard_at_slice]; rfl
   simp only [execOp, hv, hy, Sem.run_bind, hgd, hrun, Result.andThen_ok, Sem.run_pure]
 have hst : St E0 n { r := putR s.r (some d) (.bool b), h := s.h, cnt := s.cnt } (a.put o.dst (.bool b)) E.w := by
   refine ⟨E, rfl, ?_, hle, hb, hk⟩
   rw [hd, ← S.cnt, ← S.h]
   exact S.put (p := .bool b) (EnvLe.refl _) S.good S.tt (.sc rfl) rfl rfl rfl
 unfold Oper.wp
 rw [hrun']
 exact hK _ _ _ (hall b) hst (put_defers _ _ _)

theorem pOps_sound {E0 : Env} {n : Nat} {ops : Array Oper} {Q : Exit → Act → World → Prop} {K : PS → Prop} : ∀ (l : List Oper) (s : PS) (a : Act) (w : World), (∀ o ∈ l, o.guard = none) → (∀ o ∈ l, inFrameOp n o = true) →
   pOps P K l s → St E0 n s a w → (∀ s' a' w', K s' → St E0 n s' a' w' → a'.defers = a.defers → Q .normal a' w') → wpList P ops Q l a w
 | [], s, a, w, _, _, h, st, hQ => hQ s a w h st rfl
 | o :: l, s, a, w, hg, hsc, h, ⟨E, hw, S, hle, hb, hk⟩, hQ => by
   subst hw
   have ih := pOps_sound (E0 := E0) (n := n) (Q := Q) (ops := ops) (K := K) l
   unfold wpList
   rw [if_pos (wanted_none (hg o (by simp)) _)]
   refine .inl ?_
   unfold pOps at h
   split at h
   · rcases h with ⟨h1, h2⟩ | h1 | h1 | h1
     · exact op_sound S hle hb hk (hsc o (by simp)) h1 fun a' w' st' hd => ih _ a' w' (fun o ho => hg o (by simp [ho])) (fun o ho => hsc o (by simp [ho])) h2 st' (fun s2 a2 w2 k1 k2 k3 => hQ s2 a2 w2 k1 k2 (k3.trans hd))
     · exact next_sound S hle hb hk (hsc o (by simp)) h1 fun a' w' s' h2 st' hd => ih _ a' w' (fun o ho => hg o (by simp [ho])) (fun o ho => hsc o (by simp [ho])) h2 st' (fun s2 a2 w2 k1 k2 k3 => hQ s2 a2 w2 k1 k2 (k3.trans hd))
     · exact ren_sound S hle hb hk (hsc o (by simp)) h1 fun a' w' s' h2 st' hd => ih _ a' w' (fun o ho => hg o (by simp [ho])) (fun o ho => hsc o (by simp [ho])) h2 st' (fun s2 a2 w2 k1 k2 k3 => hQ s2 a2 w2 k1 k2 (k3.trans hd))
     · exact nil_sound S hle hb hk (hsc o (by simp)) h1 fun a' w' s' h2 st' hd => ih _ a' w' (fun o ho => hg o (by simp [ho])) (fun o ho => hsc o (by simp [ho])) h2 st' (fun s2 a2 w2 k1 k2 k3 => hQ s2 a2 w2 k1 k2 (k3.trans hd))
   · rename_i f args hc
     exact call_sound S hle hb hk (hsc o (by simp)) hc h fun a' w' v h' cnt' hR st' hd => ih _ a' w' (fun o ho => hg o (by simp [ho])) (fun o ho => hsc o (by simp [ho])) hR st' (fun s2 a2 w2 k1 k2 k3 => hQ s2 a2 w2 k1 k2 (k3.trans hd))


/-- The environment of a callee on pure values. -/
def calleeM (E : Env) : Nat → Prop := fun b => E.M b ∨ E.own b

theorem calleeM_lt {E : Env} (g : Good E) : ∀ b, calleeM E b → b < E.w.heap.size := fun b hb => by
 rcases hb with h | ⟨k, o, h, rfl⟩
 · exact Nat.lt_of_lt_of_le (g.out b h) g.size
 · exact live_lt g h

theorem callee_own {w : World} {M : Nat → Prop} {tt : Bool} (b : Nat) : ¬ (pureEnv w M tt).own b := fun ⟨_, _, h, _⟩ => by simp [pureEnv] at h

theorem rep_down {E : Env} {v : Value} {p : PV} (h : Rep E v p) (hp : Pure p) : Rep (pureEnv E.w (calleeM E) true) v p :=
 h.pure_env hp (fun b _ _ _ => callee_own b) (fun b _ h1 h2 h3 => by rcases h3 with h3 | h3; exact h2 h3; exact h1 h3) (fun _ => rfl) (Nat.le_refl _) (fun _ _ _ => rfl)

/-- Own rows read as rows of memory that does not change while a callee runs. -/
theorem mem_down {E : Env} (g : Good E) {k : Key} {sz : Nat} {rs : Rows} (hk : E.h k = some (.rows sz rs)) (d n : Nat) (hp : ∀ row ∈ (rs.drop d).take n, ∀ p ∈ row, Pure p) :
   ∃ f, MemAt (pureEnv E.w (calleeM E) true) true sz ((rs.drop d).take n) (E.blk k) ((E.cap k).2 + d * sz) f ∧
     ∀ (i j : Nat) (row : List PV) (p : PV), ((rs.drop d).take n)[i]? = some row → row[j]? = some p → Rep (pureEnv E.w (calleeM E) true) (f i j) p := by
 have V := (View.of_obj (g.obj k _ hk)).sub d n
 refine ⟨fun i j => (E.w.cell? ⟨E.blk k, (E.cap k).2 + d * sz + i * sz + j, none⟩).getD undef, ⟨callee_own _, (fun h => by cases h), fun _ => rfl, live_lt g hk, V.width, fun i j row p h1 h2 => ?_, hp, V.one⟩, fun i j row p h1 h2 => ?_⟩
 · obtain ⟨v, h3, h4⟩ := V.cell i j row p h1 h2
   show E.w.cell? _ = _
   rw [h3]; rfl
 · obtain ⟨v, h3, h4⟩ := V.cell i j row p h1 h2
   show Rep _ ((E.w.cell? ⟨E.blk k, (E.cap k).2 + d * sz + i * sz + j, none⟩).getD undef) p
   rw [h3]
   exact rep_down h4 (hp row (List.mem_of_getElem? h1) p (List.mem_of_getElem? h2))

theorem lit_down {E : Env} {v : Value} {t t' : Bool} {sz : Nat} {rows : Rows} (h : Rep E v (.lit t sz rows)) (ht : t = true → t' = true) : Rep (pureEnv E.w (calleeM E) true) v (.lit t' sz rows) := by
 cases h with
 | litE => exact .litE
 | lit hm hc hr =>
   have hd := fun i j row p h1 h2 => rep_down (hr i j row p h1 h2) (hm.pure row (List.mem_of_getElem? h1) p (List.mem_of_getElem? h2))
   refine .lit ⟨callee_own _, fun h3 h4 => ?_, fun _ => rfl, hm.lt, hm.width, hm.cell, hm.pure, hm.one⟩ hc hd
   have h5 : t = false := by cases t with | false => rfl | true => rw [ht rfl] at h3; cases h3
   rcases h4 with h4 | h4
   · exact hm.out h5 h4
   · exact hm.own h4

theorem inn0_rep {E : Env} (g : Good E) {v : Value} {p q : PV} (hi : Inn0 E.h p q) (h : Rep E v p) : Rep (pureEnv E.w (calleeM E) true) v q := by
 cases hi with
 | pure hp => exact rep_down h hp
 | lit ht => exact lit_down h ht
 | nil t sz => cases h with | nil => exact .litE
 | ref hk hl hr hp =>
   subst hr
   rename_i k sz off len rs
   obtain ⟨f, hm, hd⟩ := mem_down g hk off len hp
   have hlen : ((rs.drop off).take len).length = len := by rw [List.length_take, List.length_drop]; omega
   cases h with
   | ref hk1 hlc hq =>
     obtain ⟨⟨hb, ha⟩, _⟩ := hq _ hk
     subst hb; subst ha
     have := Rep.lit (c := ‹Nat›) hm (by rw [hlen]; exact hlc) hd
     rw [hlen] at this
     exact this
   | refE hk1 hq =>
     rw [List.take_zero]
     exact .litE
 | ptr hk hp =>
   rename_i k sz i j rs
   obtain ⟨f, hm, hd⟩ := mem_down g hk 0 rs.length (by simpa using hp)
   simp only [List.drop_zero, List.take_length, Nat.zero_mul, Nat.add_zero] at hm hd
   cases h with
   | ptr hk1 hq =>
     obtain ⟨⟨hb, ha⟩, _⟩ := hq _ hk
     subst hb; subst ha
     exact Rep.lptr i j hm hd
 | lptr ht =>
   rename_i t t' sz i j rows
   cases h with
   | lptr _ _ hm hr =>
     refine .lptr _ _ ⟨callee_own _, fun h3 h4 => ?_, fun _ => rfl, hm.lt, hm.width, hm.cell, hm.pure, hm.one⟩ fun i j row p h1 h2 => rep_down (hr i j row p h1 h2) (hm.pure row (List.mem_of_getElem? h1) p (List.mem_of_getElem? h2))
     have h5 : t = false := by cases t with | false => rfl | true => rw [ht rfl] at h3; cases h3
     rcases h4 with h4 | h4
     · exact hm.out h5 h4
     · exact hm.own h4

theorem inn_rep {E : Env} (g : Good E) {v : Value} {p q : PV} (hi : Inn E.h p q) (h : Rep E v p) : Rep (pureEnv E.w (calleeM E) true) v q := by
 cases hi with
 | base hi => exact inn0_rep g hi h
 | func hl hl' ih ih' =>
   cases h with
   | func h1 h2 h3 h4 =>
     refine .func (h1.trans hl) (h2.trans hl') (fun i u q h5 h6 => ?_) (fun i u q h5 h6 => ?_)
     · have hi := (List.getElem?_eq_some_iff.1 h6).1
       exact inn0_rep g (ih i _ q (List.getElem?_eq_getElem (by omega)) h6) (h3 i u _ h5 (List.getElem?_eq_getElem (by omega)))
     · have hi := (List.getElem?_eq_some_iff.1 h6).1
       exact inn0_rep g (ih' i _ q (List.getElem?_eq_getElem (by omega)) h6) (h4 i u _ h5 (List.getElem?_eq_getElem (by omega)))
 | agg hl ih =>
   cases h with
   | agg h1 h2 =>
     refine .agg (h1.trans hl) fun i u q h5 h6 => ?_
     have hi := (List.getElem?_eq_some_iff.1 h6).1
     exact inn0_rep g (ih i _ q (List.getElem?_eq_getElem (by omega)) h6) (h2 i u _ h5 (List.getElem?_eq_getElem (by omega)))

theorem Inns.length {h : Heap} {a b : List PV} (hi : Inns h a b) : a.length = b.length := by
 induction hi with
 | nil => rfl
 | cons _ _ ih => simp [ih]

theorem Inns.get {h : Heap} {a b : List PV} (hi : Inns h a b) : ∀ (i : Nat) (p q : PV), a[i]? = some p → b[i]? = some q → Inn h p q := by
 induction hi with
 | nil => intro i p q h1; simp at h1
 | cons h1 _ ih =>
   intro i p q h2 h3
   cases i with
   | zero => simp at h2 h3; subst h2; subst h3; exact h1
   | succ i => exact ih i p q (by simpa using h2) (by simpa using h3)

/-- A call of a function on pure values. -/
theorem HCallsR.of_pure {f : FuncId} {args as' : List PV} {h : Heap} {cnt : Nat → Nat} {v : PV} {R : PV → Heap → (Nat → Nat) → Prop} (hc : PCalls P f as' v) (ha : Inns h args as') (hR : R v h cnt) : HCallsR P f args h cnt R := by
 refine ⟨hc.2.1, fun E vs g hh hcn htt hsz hrep => ?_⟩
 subst hh
 refine (hc.2.2 E.w (calleeM E) vs (calleeM_lt g) (gw_keep g.glob g.size fun _ _ => rfl) (hsz.trans ha.length) fun i u q h1 h2 => ?_).mono ?_
 · have hi := (List.getElem?_eq_some_iff.1 h2).1
   have hi' : i < args.length := by rw [ha.length]; exact hi
   exact inn_rep g (ha.get i _ q (List.getElem?_eq_getElem hi') h2) (hrep i u _ h1 (List.getElem?_eq_getElem hi'))
 · rintro e w' ⟨u, rfl, hu, hbl⟩
   have hblk : ∀ b, b < E.w.heap.size → w'.heap[b]? = E.w.heap[b]? := hbl.block
   have hle : EnvLe E { E with w := w' } := ⟨fun b hb _ => hblk b hb, hbl.size, fun b hb => .inl hb, rfl, rfl, rfl, fun _ => Nat.le_refl _, fun _ _ h => h, fun _ _ rs h => .inr ⟨rs, h, rfl, rfl⟩, fun _ o h _ => .inr ⟨o, h, rfl, rfl⟩⟩
   refine ⟨u, v, { E with w := w' }, rfl, by rw [← hcn] at hR; exact hR, rfl, ⟨g.inj, g.known, g.base, fun k o h => ObjOK.le hle rfl rfl (hblk _ (live_lt g h)) (g.obj k o h), g.out, Nat.le_trans g.size hbl.size, gw_keep g.glob (Nat.le_refl _) fun b hb => hblk b (Nat.lt_of_lt_of_le hb g.size)⟩, hle, hbl.mono g.size, ?_⟩
   refine hu.pure_env hc.1 (fun b _ _ h1 h2 => h1 rfl (.inr h2)) (fun b _ _ h1 h2 => h1 (.inl h2)) (fun h => by cases h) (Nat.le_refl _) (fun _ _ _ => rfl)

end
section
/-- The environment in which a new block is own memory. -/
def newEnvB (E : Env) (site : Nat) (o : PObj) (w' : World) (c : Nat × Nat) (gb : Nat) : Env :=
 { E with
   w := w'
   h := fun k => if k = (site, E.cnt site) then some o else E.h k
   cnt := fun s => if s = site then E.cnt s + 1 else E.cnt s
   blk := fun k => if k = (site, E.cnt site) then gb else E.blk k
   cap := fun k => if k = (site, E.cnt site) then c else E.cap k }
variable {E : Env}
theorem newEnvB_le (g : Good E) {site : Nat} {o : PObj} {w' : World} {c : Nat × Nat} {gb : Nat} (hbl : Below E.w.heap.size E.w w') (hgb : E.w.heap.size ≤ gb) : EnvLe E (newEnvB E site o w' c gb) where
 blk := fun b hb _ => hbl.block b hb
 size := hbl.size
 own := fun b ⟨k, o', h1, h2⟩ => by
   simp only [newEnvB] at h1 h2
   by_cases hk : k = (site, E.cnt site)
   · rw [if_pos hk] at h2; exact .inr (by omega)
   · rw [if_neg hk] at h1 h2; exact .inl ⟨k, o', h1, h2⟩
 M := rfl
 tt := rfl
 B0 := rfl
 cnt := fun s => by simp only [newEnvB]; split <;> omega
 nokey := fun k hk hn => by simp only [newEnvB]; rw [if_neg (known_ne hk)]; exact hn
 rows := fun k sz rs hk => .inr ⟨rs, by
   have := known_ne (site := site) (g.known _ _ hk)
   simp [newEnvB, this, hk]⟩
 map := fun k o1 hk _ => .inr ⟨o1, by
   have := known_ne (site := site) (g.known _ _ hk)
   simp [newEnvB, this, hk]⟩
theorem newEnvB_good (g : Good E) {site : Nat} {o : PObj} {w' : World} {c : Nat × Nat} {gb : Nat} (hbl : Below E.w.heap.size E.w w') (hgb : E.w.heap.size ≤ gb) (ho : ObjOK (newEnvB E site o w' c gb) (site, E.cnt site) o) : Good (newEnvB E site o w' c gb) where
 inj := fun k k' o1 o2 h1 h2 h3 => by
   simp only [newEnvB] at h1 h2 h3
   by_cases hk : k = (site, E.cnt site) <;> by_cases hk' : k' = (site, E.cnt site)
   · rw [hk, hk']
   · rw [if_pos hk, if_neg hk'] at h3
     rw [if_neg hk'] at h2
     have := live_lt g h2
     omega
   · rw [if_neg hk, if_pos hk'] at h3
     rw [if_neg hk] at h1
     have := live_lt g h1
     omega
   · rw [if_neg hk, if_neg hk'] at h3
     rw [if_neg hk] at h1
     rw [if_neg hk'] at h2
     exact g.inj k k' _ _ h1 h2 h3
 known := fun k o' h1 => by
   simp only [newEnvB, Env.known] at h1 ⊢
   by_cases hk : k = (site, E.cnt site)
   · subst hk; simp
   · rw [if_neg hk] at h1
     have := g.known k o' h1
     simp only [Env.known] at this
     split
     · rename_i hs; omega
     · exact this
 base := fun k o' h1 => by
   simp only [newEnvB] at h1 ⊢
   by_cases hk : k = (site, E.cnt site)
   · rw [if_pos hk]; exact Nat.le_trans g.size hgb
   · rw [if_neg hk] at h1 ⊢; exact g.base k o' h1
 obj := fun k o' h1 => by
   by_cases hk : k = (site, E.cnt site)
   · subst hk
     simp only [newEnvB, if_true] at h1
     cases h1; exact ho
   · have h1' : E.h k = some o' := by simp only [newEnvB] at h1; rw [if_neg hk] at h1; exact h1
     exact ObjOK.le (newEnvB_le g hbl hgb) (by simp [newEnvB, hk]) (by simp [newEnvB, hk]) (hbl.block _ (live_lt g h1')) (g.obj k o' h1')
 out := g.out
 size := Nat.le_trans g.size hbl.size
 glob := gw_keep g.glob (Nat.le_refl _) fun b hb' => hbl.block b (Nat.lt_of_lt_of_le hb' g.size)
/-- A new block whose first cells are plain values. -/
theorem adopt (g : Good E) {w' : World} {gb site sz cp ba : Nat} {rs : Rows} {cells : Array Value} {T : TypeId} (hbl : Below E.w.heap.size E.w w') (hgb : E.w.heap.size ≤ gb) (hc : w'.heap[gb]? = some (.cells cells T (0, 0)))
   (hsz : cells.size = ba + cp * sz) (h1 : rs.length ≤ cp) (h2 : 1 ≤ sz) (hw : ∀ row ∈ rs, row.length = sz)
   (hr : ∀ (i j : Nat) (row : List PV) (p : PV), rs[i]? = some row → row[j]? = some p → ∃ x, p = .sc x ∧ isScalar x = true ∧ cells[ba + i * sz + j]? = some x) :
   Good (newEnvB E site (.rows sz rs) w' (cp, ba) gb) ∧ EnvLe E (newEnvB E site (.rows sz rs) w' (cp, ba) gb) ∧ (∀ c, rs.length ≤ c → c ≤ cp → Rep (newEnvB E site (.rows sz rs) w' (cp, ba) gb) (.slice (some ⟨gb, ba, none⟩) rs.length c) (.ref (site, E.cnt site) sz 0 rs.length)) ∧ (rs.length = 0 → ∀ a, Rep (newEnvB E site (.rows sz rs) w' (cp, ba) gb) (.slice a 0 0) (.ref (site, E.cnt site) sz 0 rs.length)) := by
 have hcell : ∀ row ∈ rs, ∀ p ∈ row, p.cell = true := fun row hrow p hp => by
   obtain ⟨i, hi⟩ := List.mem_iff_getElem?.1 hrow
   obtain ⟨j, hj⟩ := List.mem_iff_getElem?.1 hp
   obtain ⟨x, rfl, _⟩ := hr i j row p hi hj
   rfl
 have ho : ObjOK (newEnvB E site (.rows sz rs) w' (cp, ba) gb) (site, E.cnt site) (.rows sz rs) :=
   ⟨cells, T, by simp [newEnvB, hc], by simp [newEnvB, hsz], by simp [newEnvB, h1], h2, hw, hcell, fun i j row p h3 h4 => by
     obtain ⟨x, rfl, hx, h5⟩ := hr i j row p h3 h4
     exact ⟨x, by simpa [newEnvB] using h5, .sc hx⟩⟩
 refine ⟨newEnvB_good g hbl hgb ho, newEnvB_le g hbl hgb, fun c hc1 hc2 => ?_, fun h0 a => ?_⟩
 · have hrep := Rep.ref (E := newEnvB E site (.rows sz rs) w' (cp, ba) gb) (b := gb) (a := ba) (k := (site, E.cnt site)) (sz := sz) (off := 0) (len := rs.length) (c := c) (by simp [newEnvB, Env.known]) hc1
     (fun o ho => by
       simp only [newEnvB, if_true, Option.some.injEq] at ho
       subst ho
       exact ⟨by simp [newEnvB], by simp [newEnvB]; omega, _, rfl⟩)
   exact hrep
 · rw [h0]
   exact Rep.refE (by simp [newEnvB, Env.known]) fun o ho => by
     simp only [newEnvB, if_true, Option.some.injEq] at ho
     subst ho
     exact ⟨_, rfl⟩

variable {P : Program}
/-- A call that hands back a new slice. -/
theorem HCallsR.of_new {f : FuncId} {args as' : List PV} {h : Heap} {cnt : Nat → Nat} {sz : Nat} {rows : Rows} (site : Nat) (hc : PNew P f as' sz rows) (ha : Inns h args as') :
   HCallsR P f args h cnt fun v h' cnt' => v = .ref (site, cnt site) sz 0 rows.length ∧ h' = applyWr h [((site, cnt site), some (.rows sz rows))] ∧ cnt' = bumpC cnt site true := by
 obtain ⟨hb, h2, hw, hc⟩ := hc
 refine ⟨hb, fun E vs g hh hcn htt hsz hrep => ?_⟩
 subst hh
 subst hcn
 refine (hc E.w (calleeM E) vs (calleeM_lt g) (gw_keep g.glob g.size fun _ _ => rfl) (hsz.trans ha.length) fun i u q h1 h2 => ?_).mono ?_
 · have hi := (List.getElem?_eq_some_iff.1 h2).1
   have hi' : i < args.length := by rw [ha.length]; exact hi
   exact inn_rep g (ha.get i _ q (List.getElem?_eq_getElem hi') h2) (hrep i u _ h1 (List.getElem?_eq_getElem hi'))
 · rintro e w' ⟨u, gb, cp, ba, cells, T, rfl, hbl, hgb, hcl, hcs, h1, hr, hu⟩
   have had := adopt g (site := site) hbl hgb hcl hcs h1 h2 hw hr
   refine ⟨u, _, newEnvB E site (.rows sz rows) w' (cp, ba) gb, rfl, ⟨rfl, rfl, rfl⟩, rfl, had.1, had.2.1, hbl.mono g.size, ?_⟩
   rcases hu with ⟨c, rfl, h3, h4⟩ | ⟨a, rfl, h3⟩
   · exact had.2.2.1 c h3 h4
   · exact had.2.2.2 h3 a

end
end Go.Pv
