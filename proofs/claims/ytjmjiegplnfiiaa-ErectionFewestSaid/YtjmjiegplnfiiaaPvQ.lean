/- The P level is sound: code, functions. -/
import Derived.Test.YtjmjiegplnfiiaaPvP
import Derived.RangeFuncRecord
namespace Go.Pv
open Go Go.RowKit
section
variable {P : Program}

theorem pwp_sound (hm : P.follows .mixedOrders = true) {E0 : Env} {n : Nat} : ∀ (c : Code) (Q : Exit → PS → Prop) (s : PS) (a : Act) (w : World), inFrame n c = true → pwp P c Q s → St E0 n s a w →
   c.wp P (fun e a' w' => ∃ s', Q e s' ∧ St E0 n s' a' w') a w
 | .skip, Q, s, a, w, _, h, st => wp_skip ⟨s, h, st⟩
 | .region id ops draw, Q, s, a, w, hf, h, st => by
   simp only [inFrame, Bool.and_eq_true, Bool.or_eq_true, Bool.not_eq_true'] at hf
   refine region_sound hm (fun o ho => (Array.all_eq_true_iff_forall_mem.1 hf.1) o ho) (fun hd => ?_) h st fun s' a' w' h' st' => ⟨s', h', st'⟩
   rcases hf.2 with h1 | h1
   · rw [hd] at h1; cases h1
   · exact h1
 | .seq x y, Q, s, a, w, hf, h, st => by
   simp only [inFrame, Bool.and_eq_true] at hf
   refine wp_seq (wp_mono (pwp_sound hm x _ s a w hf.1 h st) fun e a' w' hq => ?_)
   obtain ⟨s', h1, st'⟩ := hq
   cases e <;> first | exact pwp_sound hm y Q s' a' w' hf.2 h1 st' | exact ⟨s', h1, st'⟩
 | .cond c x y, Q, s, a, w, hf, h, st => by
   simp only [inFrame, Bool.and_eq_true] at hf
   obtain ⟨b, h1, h2, h3⟩ := h
   have hc : a.eval c = .bool b := by
     obtain ⟨E, rfl, S, _⟩ := st
     have := S.eval hf.1.1
     rw [h1] at this
     exact this.sc_inv
   refine wp_cond hc ?_
   cases b with
   | true => exact pwp_sound hm x Q s a w hf.1.2 (h2 rfl) st
   | false => exact pwp_sound hm y Q s a w hf.2 (h3 rfl) st
 | .block id c, Q, s, a, w, hf, h, st => by
   simp only [inFrame] at hf
   refine wp_block (wp_mono (pwp_sound hm c _ s a w hf h st) fun e a' w' hq => ?_)
   obtain ⟨s', h1, st'⟩ := hq
   cases e with
   | exit i =>
     simp only [Exit.inBlock] at h1 ⊢
     split
     · rename_i hi; rw [if_pos hi] at h1; exact ⟨s', h1, st'⟩
     · rename_i hi; rw [if_neg hi] at h1; exact ⟨s', h1, st'⟩
   | _ => exact ⟨s', h1, st'⟩
 | .loop c, Q, s, a, w, hf, h, st => by
   simp only [inFrame] at hf
   obtain ⟨I, k, h1, h2⟩ := h
   refine wp_loop_ghost (fun k a w => ∃ s, I k s ∧ St E0 n s a w) k ⟨s, h1, st⟩ fun k a w ⟨s, h3, st'⟩ => ?_
   refine wp_mono (pwp_sound hm c _ s a w hf (h2 k s h3) st') fun e a' w' hq => ?_
   obtain ⟨s', h4, st''⟩ := hq
   cases e with
   | normal =>
     obtain ⟨k', h5, h6⟩ := h4
     exact ⟨k', h5, s', h6, st''⟩
   | _ => exact ⟨s', h4, st''⟩
 | .exit id, Q, s, a, w, _, h, st => wp_exit ⟨s, h, st⟩
 | .ret, Q, s, a, w, _, h, st => wp_ret ⟨s, h, st⟩
 | .rangeFunc .., Q, s, a, w, hf, h, st => h E0 n a w hf st
 | .scope _, Q, s, a, w, _, h, st => h.elim
 | .label _, Q, s, a, w, _, h, st => h.elim
 | .goto _, Q, s, a, w, _, h, st => h.elim
 | .refuse _, Q, s, a, w, _, h, st => h.elim

/-- A result at P level: what must hold, the value. -/
def resOf (P : Program) (s : PS) : ResultVar → Prop × PV
 | .tmp t => (True, s.r t)
 | .cell a t => ((loadEff P s.h t (s.r a)).ob, (loadEff P s.h t (s.r a)).v)

/-- The results of a function at P level. -/
def resPV (P : Program) (rs : List ResultVar) (s : PS) : Prop × PV :=
 match rs with
 | [x] => resOf P s x
 | rs => ((∀ x ∈ rs, (resOf P s x).1), .tup (rs.map fun x => (resOf P s x).2))

def resScope (n : Nat) : ResultVar → Bool
 | .tmp t => decide (t < n)
 | .cell a _ => decide (a < n)

def resVal (a : Act) : ResultVar → Sem Value
 | .tmp t => pure (a.tmps.getD t undef)
 | .cell c t => do loadVar t (← asAddr (a.tmps.getD c undef))

theorem run_res {E : Env} {n : Nat} {s : PS} {a : Act} {r0 : Nat} (S : Sim r0 E n s a) {x : ResultVar} (hx : resScope n x = true) (hob : (resOf P s x).1) :
   ∃ v, (resVal a x).run P E.w = .ok v E.w ∧ Rep E v (resOf P s x).2 := by
 cases x with
 | tmp t =>
   have := S.eval (x := .tmp t) (by simpa [inScope, resScope] using hx)
   exact ⟨_, rfl, this⟩
 | cell c t =>
   have hc := S.eval (x := .tmp c) (by simpa [inScope, resScope] using hx)
   have hob' : (loadEff P E.h t (ev s.r (.tmp c))).ob := by rw [S.h]; exact hob
   obtain ⟨v, h1, h2, _, _⟩ := ro_load (P := P) S.good hc hob'
   refine ⟨v, ?_, by rw [S.h] at h2; exact h2⟩
   have hptr : ∃ ad, a.eval (.tmp c) = .pointer (some ad) := by
     generalize a.eval (.tmp c) = u at hc
     unfold loadEff at hob'
     split at hob'
     · rename_i hq; rw [hq] at hc; cases hc; exact ⟨_, rfl⟩
     · rename_i hq; rw [hq] at hc; cases hc; exact ⟨_, rfl⟩
     · exact hob'.elim
   obtain ⟨ad, had⟩ := hptr
   rw [had] at h1
   simp only [Act.eval] at had
   rw [← h1]
   simp only [resVal, had]
   rfl

theorem run_resList {E : Env} {n : Nat} {s : PS} {a : Act} {r0 : Nat} (S : Sim r0 E n s a) : ∀ (rs : List ResultVar), (∀ x ∈ rs, resScope n x = true) → (∀ x ∈ rs, (resOf P s x).1) →
   ∃ vs : List Value, (rs.mapM (resVal a)).run P E.w = .ok vs E.w ∧ vs.length = rs.length ∧
     ∀ (i : Nat) (v : Value) (p : PV), vs[i]? = some v → (rs.map fun x => (resOf P s x).2)[i]? = some p → Rep E v p
 | [], _, _ => ⟨[], rfl, rfl, by simp⟩
 | x :: rs, h1, h2 => by
   obtain ⟨v, h3, h4⟩ := run_res S (h1 x (by simp)) (h2 x (by simp))
   obtain ⟨vs, h5, h6, h7⟩ := run_resList S rs (fun x hx => h1 x (by simp [hx])) (fun x hx => h2 x (by simp [hx]))
   refine ⟨v :: vs, ?_, by simp [h6], fun i u p h8 h9 => ?_⟩
   · rw [List.mapM_cons]
     simp only [Sem.run_bind]
     rw [h3]
     simp only [Result.andThen_ok]
     rw [h5]
     rfl
   · cases i with
     | zero => simp at h8 h9; subst h8; subst h9; exact h4
     | succ i => exact h7 i u p (by simpa using h8) (by simpa using h9)

theorem run_results {E : Env} {n : Nat} {s : PS} {a : Act} {fn : Func} {rs : List ResultVar} {r0 : Nat} (S : Sim r0 E n s a) (hrs : fn.results = rs.toArray) (h1 : rs.all (resScope n) = true) (h2 : (resPV P rs s).1) :
   ∃ v, (results fn a.tmps).run P E.w = .ok v E.w ∧ Rep E v (resPV P rs s).2 := by
 have hs : ∀ x ∈ rs, resScope n x = true := List.all_eq_true.1 h1
 have hob : ∀ x ∈ rs, (resOf P s x).1 := by
   unfold resPV at h2
   split at h2
   · intro x hx; simp at hx; subst hx; exact h2
   · exact h2
 obtain ⟨vs, h3, h4, h5⟩ := run_resList S rs hs hob
 have h6 : (results fn a.tmps).run P E.w = .ok (if h : vs.toArray.size = 1 then vs.toArray[0] else .tuple vs.toArray) E.w := by
   have hres : results fn a.tmps = (do let vs ← fn.results.mapM (resVal a); pure (if h : vs.size = 1 then vs[0] else .tuple vs)) := by
     unfold results
     congr 1
   rw [hres, hrs, List.mapM_toArray]
   simp only [Sem.run_bind, Sem.run_map]
   rw [h3]
   rfl
 refine ⟨_, h6, ?_⟩
 match rs, h4, h5 with
 | [x], h4, h5 =>
   match vs, h4, h5 with
   | [v], _, h5 => exact h5 0 v _ rfl rfl
 | [], h4, h5 =>
   match vs, h4 with
   | [], _ => exact .tup rfl (by simp)
 | x :: y :: rs, h4, h5 =>
   have hl : ¬ vs.toArray.size = 1 := fun h => by simp at h h4; omega
   rw [dif_neg hl]
   exact .tup (by simp [h4]) fun i v p h7 h8 => h5 i v p (by simpa using h7) h8

/-- The environment when an empty block of deferred calls has been shut. -/
def shutEnv (E : Env) (r : Nat) : Env := { E with w := E.w.putObj r (.deferred none) }

theorem shut_cell {E : Env} {r : Nat} (hr : E.w.heap[r]? = some (.deferred (some []))) {ad : Addr} {v : Value} (h : E.w.cell? ad = some v) : (shutEnv E r).w.cell? ad = some v := by
 have hne : ad.block ≠ r := fun e => by
   unfold World.cell? at h
   rw [e, hr] at h
   simp at h
 unfold World.cell? at h ⊢
 rw [show (shutEnv E r).w.heap[ad.block]? = E.w.heap[ad.block]? from World.putObj_heap_other hne]
 exact h

theorem shut_rep {E : Env} {r : Nat} (hr : E.w.heap[r]? = some (.deferred (some []))) {v : Value} {p : PV} (h : Rep E v p) : Rep (shutEnv E r) v p := by
 have mem : ∀ {t : Bool} {sz : Nat} {rows : Rows} {b off : Nat} {f : Nat → Nat → Value}, MemAt E t sz rows b off f → MemAt (shutEnv E r) t sz rows b off f := fun hm =>
   ⟨hm.own, hm.out, hm.tt, by show _ < (E.w.putObj r _).heap.size; rw [World.putObj_size]; exact hm.lt, hm.width, fun i j row p h1 h2 => shut_cell hr (hm.cell i j row p h1 h2), hm.pure, hm.one⟩
 induction h with
 | sc hx => exact .sc hx
 | nil => exact .nil
 | litE => exact .litE
 | lit hm hc hr ih => exact .lit (mem hm) hc ih
 | lptr i j hm hr ih => exact .lptr i j (mem hm) ih
 | ref hk hlen hl => exact .ref hk hlen hl
 | refE hk hl => exact .refE hk hl
 | ptr hk hl => exact .ptr hk hl
 | agg hl _ ih => exact .agg hl ih
 | tup hl _ ih => exact .tup hl ih
 | func hl hl' _ _ ih ih' => exact .func hl hl' ih ih'
 | map hk hl => exact .map hk hl
 | iter hk hl => exact .iter hk hl
 | dead => exact .dead

theorem shut_obj {E : Env} {r : Nat} (hr : E.w.heap[r]? = some (.deferred (some []))) {k : Key} {o : PObj} (h : ObjOK E k o) : ObjOK (shutEnv E r) k o := by
 have keep : ∀ {ob : Obj}, E.w.heap[E.blk k]? = some ob → (∀ ds, ob ≠ .deferred ds) → (shutEnv E r).w.heap[E.blk k]? = some ob := fun {ob} h1 h2 => by
   have hne : E.blk k ≠ r := fun e => by rw [e, hr] at h1; cases h1; exact h2 _ rfl
   exact (World.putObj_heap_other hne).trans h1
 cases o with
 | rows sz rs =>
   obtain ⟨c, T, h1, h2, h3, h4, h5, h6, h7⟩ := h
   exact ⟨c, T, keep h1 (fun _ h => by cases h), h2, h3, h4, h5, h6, fun i j row p h8 h9 => by
     obtain ⟨v, h10, h11⟩ := h7 i j row p h8 h9
     exact ⟨v, h10, shut_rep hr h11⟩⟩
 | map es bs clk =>
   obtain ⟨ents, h1, h2, h3, h4, h5⟩ := h
   exact ⟨ents, keep h1 (fun _ h => by cases h), h2, h3, fun i e p h6 h7 => ⟨shut_rep hr (h4 i e p h6 h7).1, shut_rep hr (h4 i e p h6 h7).2⟩, h5⟩
 | iter km since seen =>
   obtain ⟨b, h1, h2⟩ := h
   exact ⟨b, keep h1 (fun _ h => by cases h), h2⟩

theorem shut_good {E : Env} (g : Good E) {r : Nat} (hr : E.w.heap[r]? = some (.deferred (some []))) (hb : E.B0 ≤ r) : Good (shutEnv E r) where
 inj := g.inj
 known := g.known
 base := g.base
 obj := fun k o h => shut_obj hr (g.obj k o h)
 out := g.out
 size := by show E.B0 ≤ (E.w.putObj r _).heap.size; rw [World.putObj_size]; exact g.size
 glob := gw_keep g.glob (Nat.le_refl _) fun b hb' => World.putObj_heap_other (by show b ≠ r; have : b < E.B0 := hb'; omega)

theorem shut_le {E0 E : Env} (h : EnvLe E0 E) {r : Nat} (hb : E0.w.heap.size ≤ r) : EnvLe E0 (shutEnv E r) where
 blk := fun b hb' ho => (World.putObj_heap_other (by omega)).trans (h.blk b hb' ho)
 size := by show _ ≤ (E.w.putObj r _).heap.size; rw [World.putObj_size]; exact h.size
 own := h.own
 M := h.M
 tt := h.tt
 B0 := h.B0
 cnt := h.cnt
 nokey := h.nokey
 rows := h.rows
 map := h.map

theorem shut_below {E : Env} {B : Nat} {w : World} (h : Below B w E.w) {r : Nat} (hb : B ≤ r) : Below B w (shutEnv E r).w :=
 ⟨h.os, h.tape, h.output, by show _ ≤ (E.w.putObj r _).heap.size; rw [World.putObj_size]; exact h.size, fun k hk => (World.putObj_heap_other (by omega)).trans (h.block k hk)⟩

theorem shut_marks {r0 : Nat} {E : Env} {r : Nat} : ∀ {ds : List Deferred}, Marks r0 E ds → (∀ d ∈ ds, d.target ≠ .collected r) → Marks r0 (shutEnv E r) ds
 | [], _, _ => trivial
 | d :: ds, ⟨⟨r', h1, h2, h3, h4, h5⟩, h6⟩, h => by
   refine ⟨⟨r', h1, h2, (World.putObj_heap_other fun e => ?_).trans h3, h4, h5⟩, shut_marks h6 fun d' hd => h d' (List.mem_cons_of_mem _ hd)⟩
   exact h d (by simp) (e ▸ h1)

/-- A frame leaves past its marks. -/
theorem marks_leave {E0 : Env} {n : Nat} {s : PS} {fn : Func} {k : Nat} {R : Ending → World → Prop} (hB : E0.B0 ≤ E0.w.heap.size) : ∀ (ds : List Deferred) (E : Env) (tmps : Array Value), Sim E0.w.heap.size E n s { tmps := tmps, defers := ds } → EnvLe E0 E → Below E0.B0 E0.w E.w →
   (∀ E', Sim E0.w.heap.size E' n s { tmps := tmps, defers := [] } → EnvLe E0 E' → Below E0.B0 E0.w E'.w → ∃ v, (results fn tmps).run P E'.w = .ok v E'.w ∧ R (.returned v) E'.w) → LeavesInM Fence.wide k P fn tmps R ds .returning E.w
 | [], E, tmps, S, hle, hb, h => h E S hle hb
 | d :: ds, E, tmps, S, hle, hb, h => by
   obtain ⟨⟨r, h1, h2, h3, h4, h5⟩, h6⟩ := S.defers
   refine ⟨by simp, .inl ⟨r, (shutEnv E r).w, h1, run_takeDeferred h3, ?_⟩⟩
   refine marks_leave hB ds (shutEnv E r) tmps ⟨shut_good S.good h3 (by rw [hle.B0]; omega), S.h, S.cnt, S.tt, S.size, fun i v hv => shut_rep h3 (S.regs i v hv), shut_marks h6 h5⟩ (shut_le hle h2) (shut_below hb (by omega)) h

/-- A function in an environment, by its code at P level. -/
theorem HCallsR.of_pwp {f : FuncId} {fn : Func} {c : Code} {rs : List ResultVar} {args : List PV} {h : Heap} {cnt : Nat → Nat} {R : PV → Heap → (Nat → Nat) → Prop} (hf : P.funcs[f]? = some fn) (hb : fn.body = some c) (hrs : fn.results = rs.toArray)
   (hB : hasBody P f = true) (hm : P.follows .mixedOrders = true) (hfr : (inFrame fn.ntmps c && rs.all (resScope fn.ntmps)) = true) (hfr3 : args.length ≤ fn.ntmps)
   (hp : pwp P c (fun e s => (e = .normal ∨ e = .ret) ∧ (resPV P rs s).1 ∧ R (resPV P rs s).2 s.h s.cnt) ⟨fun i => args.getD i .dead, h, cnt⟩) : HCallsR P f args h cnt R := by
 simp only [Bool.and_eq_true] at hfr
 obtain ⟨hfr1, hfr2⟩ := hfr
 refine ⟨hB, fun E vs g hh hcn htt hsz hrep => ?_⟩
 refine (callsIn_wide (n := 0)).1 (callsIn_of_wp_marks hf hb trivial (wpIn_wide.2 ?_))
 have st : St E fn.ntmps ⟨fun i => args.getD i .dead, h, cnt⟩ { tmps := vs ++ Array.replicate (fn.ntmps - vs.size) undef, defers := [] } E.w := by
   refine ⟨E, rfl, ⟨g, hh, hcn, htt, by simp; omega, fun i v hv => ?_, .nil⟩, EnvLe.refl E, Below.refl _ _, g.known⟩
   rw [Array.getElem?_append] at hv
   split at hv
   · rename_i hi
     have hi' : i < args.length := by omega
     refine hrep i v _ hv ?_
     show args[i]? = some (args.getD i .dead)
     rw [List.getD_eq_getElem?_getD, List.getElem?_eq_getElem hi']; rfl
   · rename_i hi
     have : args.getD i .dead = .dead := by rw [List.getD_eq_getElem?_getD, List.getElem?_eq_none (by omega)]; rfl
     simp only [this]
     exact .dead
 refine wp_mono (pwp_sound hm c _ _ _ _ hfr1 hp st) fun e a' w' hq => ?_
 obtain ⟨s', ⟨he, h1, h2⟩, E', rfl, S, hle, hbl, _⟩ := hq
 have hfin : LeavesInM Fence.wide 0 P fn a'.tmps (fun e w' => ∃ (u : Value) (v : PV) (E' : Env), e = .returned u ∧ R v E'.h E'.cnt ∧ E'.w = w' ∧ Good E' ∧ EnvLe E E' ∧ Below E.B0 E.w w' ∧ Rep E' u v) a'.defers .returning E'.w :=
   marks_leave (E0 := E) g.size a'.defers E' a'.tmps S hle hbl fun E'' S'' hle'' hbl'' => by
     obtain ⟨v, h3, h4⟩ := run_results (P := P) (fn := fn) S'' hrs hfr2 h1
     exact ⟨v, h3, v, _, E'', rfl, by rw [S''.h, S''.cnt]; exact h2, rfl, S''.good, hle'', hbl'', h4⟩
 rcases he with rfl | rfl
 · exact hfin
 · exact hfin

/-- Pure values in memory that is not a caller's. -/
inductive Clean : PV → Prop where
 | sc (x : Value) : Clean (.sc x)
 | nil : Clean .nil
 | lit (sz : Nat) (rows : Rows) (h : ∀ row ∈ rows, ∀ p ∈ row, Clean p) : Clean (.lit false sz rows)
 | agg (cs : List PV) (h : ∀ p ∈ cs, Clean p) : Clean (.agg cs)
 | tup (cs : List PV) (h : ∀ p ∈ cs, Clean p) : Clean (.tup cs)

theorem Clean.pure {p : PV} (h : Clean p) : Pure p := by
 induction h with
 | sc x => exact .sc x
 | nil => exact .nil
 | lit sz rows _ ih => exact .lit _ _ _ ih
 | agg cs _ ih => exact .agg _ ih
 | tup cs _ ih => exact .tup _ ih

/-- A result as a caller takes it. -/
inductive Out (h : Heap) : PV → PV → Prop where
 | clean {p : PV} (hp : Clean p) : Out h p p
 | nil (sz : Nat) : Out h .nil (.lit false sz [])
 | ref {k : Key} {sz off len : Nat} {rs rows : Rows} (hk : h k = some (.rows sz rs)) (hl : off + len ≤ rs.length) (hlen : rows.length = len) (hw : ∀ row ∈ rows, row.length = sz)
     (hr : ∀ (i j : Nat) (row row' : List PV) (p p' : PV), rs[off + i]? = some row → rows[i]? = some row' → row[j]? = some p → row'[j]? = some p' → Out h p p') (hc : ∀ row ∈ rows, ∀ p ∈ row, p.cell = true) : Out h (.ref k sz off len) (.lit false sz rows)
 | agg {a a' : List PV} (hl : a.length = a'.length) (ha : ∀ (i : Nat) (p q : PV), a[i]? = some p → a'[i]? = some q → Out h p q) : Out h (.agg a) (.agg a')
 | tup {a a' : List PV} (hl : a.length = a'.length) (ha : ∀ (i : Nat) (p q : PV), a[i]? = some p → a'[i]? = some q → Out h p q) : Out h (.tup a) (.tup a')

theorem rep_clean {E : Env} {v : Value} {p : PV} (h : Rep E v p) (hp : Clean p) : Rep (pureEnv E.w E.M false) v p := by
 induction h with
 | sc hx => exact .sc hx
 | nil => exact .nil
 | litE => exact .litE
 | lit hm hc hr ih =>
   cases hp with
   | lit _ _ h => exact .lit ⟨callee_own _, hm.out, (fun h => by cases h), hm.lt, hm.width, hm.cell, hm.pure, hm.one⟩ hc fun i j row p h1 h2 => ih i j row p h1 h2 (h row (List.mem_of_getElem? h1) p (List.mem_of_getElem? h2))
 | agg hl _ ih => cases hp with | agg _ h => exact .agg hl fun i v p h1 h2 => ih i v p h1 h2 (h p (List.mem_of_getElem? h2))
 | tup hl _ ih => cases hp with | tup _ h => exact .tup hl fun i v p h1 h2 => ih i v p h1 h2 (h p (List.mem_of_getElem? h2))
 | lptr => cases hp
 | ref => cases hp
 | refE => cases hp
 | ptr => cases hp
 | func => cases hp
 | map => cases hp
 | iter => cases hp
 | dead => cases hp

/-- Pure results, cell by cell. -/
inductive OutOK (h : Heap) : PV → PV → Prop where
 | mk {p q : PV} (ho : Out h p q) (hp : Pure q) : OutOK h p q

theorem out_rep {E : Env} (g : Good E) {v : Value} {p q : PV} (ho : Out E.h p q) (h : Rep E v p) : Rep (pureEnv E.w E.M false) v q ∧ Pure q := by
 induction ho generalizing v with
 | clean hp => exact ⟨rep_clean h hp, hp.pure⟩
 | nil sz => cases h with | nil => exact ⟨.litE, .lit _ _ _ (by simp)⟩
 | ref hk hl hlen hw hr hc ih =>
   rename_i k sz off len rs rows
   have hrow : ∀ i, i < len → rs[off + i]? = some (rs.getD (off + i) []) := fun i hi => getElem?_row (by omega)
   have V := View.of_obj (g.obj k _ hk)
   cases h with
   | refE hk1 hq =>
     have : rows = [] := List.eq_nil_of_length_eq_zero hlen
     subst this
     exact ⟨.litE, .lit _ _ _ (by simp)⟩
   | ref hk1 hlc hq =>
     rename_i b ad c
     obtain ⟨⟨hb, ha⟩, _⟩ := hq _ hk
     subst hb; subst ha
     have get : ∀ (i j : Nat) (row' : List PV) (p' : PV), rows[i]? = some row' → row'[j]? = some p' → ∃ u p, E.w.cell? ⟨E.blk k, (E.cap k).2 + off * sz + i * sz + j, none⟩ = some u ∧ Rep (pureEnv E.w E.M false) u p' ∧ Pure p' ∧ p = p' := fun i j row' p' h1 h2 => by
       have hi : i < len := by rw [← hlen]; exact (List.getElem?_eq_some_iff.1 h1).1
       have hj : j < sz := by rw [← hw row' (List.mem_of_getElem? h1)]; exact (List.getElem?_eq_some_iff.1 h2).1
       have hrl : (rs.getD (off + i) []).length = sz := V.width _ (List.mem_of_getElem? (hrow i hi))
       have h3 : (rs.getD (off + i) [])[j]? = some ((rs.getD (off + i) [])[j]'(by omega)) := List.getElem?_eq_getElem (by omega)
       obtain ⟨u, h4, h5⟩ := V.cell (off + i) j _ _ (hrow i hi) h3
       obtain ⟨h6, h7⟩ := ih i j _ row' _ p' (hrow i hi) h1 h3 h2 h5
       refine ⟨u, p', ?_, h6, h7, rfl⟩
       rw [← h4]; congr 2
       rw [Nat.add_mul]; omega
     have hpure : ∀ row ∈ rows, ∀ p ∈ row, Pure p := fun row hrw p hp => by
       obtain ⟨i, hi⟩ := List.mem_iff_getElem?.1 hrw
       obtain ⟨j, hj⟩ := List.mem_iff_getElem?.1 hp
       obtain ⟨_, _, _, _, h, _⟩ := get i j row p hi hj
       exact h
     have := Rep.lit (E := pureEnv E.w E.M false) (b := E.blk k) (off := (E.cap k).2 + off * sz) (c := c) (t := false) (sz := sz) (rows := rows) (f := fun i j => (E.w.cell? ⟨E.blk k, (E.cap k).2 + off * sz + i * sz + j, none⟩).getD undef)
       ⟨callee_own _, (fun _ hM => by have h1 := g.out _ hM; have h2 := g.base k _ hk; omega), (fun h => by cases h), live_lt g hk, hw, (fun i j row p h1 h2 => by
         obtain ⟨u, _, h3, _⟩ := get i j row p h1 h2
         show E.w.cell? _ = _
         rw [h3]; rfl), hpure, hc⟩ (by omega) (fun i j row p h1 h2 => by
         obtain ⟨u, _, h3, h4, _⟩ := get i j row p h1 h2
         show Rep _ ((E.w.cell? ⟨E.blk k, (E.cap k).2 + off * sz + i * sz + j, none⟩).getD undef) p
         rw [h3]; exact h4)
     rw [hlen] at this
     exact ⟨this, .lit _ _ _ hpure⟩
 | agg hl _ ih =>
   rename_i a a' _
   cases h with
   | agg h1 h2 =>
     have key : ∀ (i : Nat) (u : Value) (q : PV), ‹Array Value›[i]? = some u → a'[i]? = some q → Rep (pureEnv E.w E.M false) u q ∧ Pure q := fun i u q h3 h4 => by
       have hi : i < a.length := by rw [hl]; exact (List.getElem?_eq_some_iff.1 h4).1
       exact ih i _ q (List.getElem?_eq_getElem hi) h4 (h2 i u _ h3 (List.getElem?_eq_getElem hi))
     refine ⟨.agg (h1.trans hl) fun i u q h3 h4 => (key i u q h3 h4).1, .agg _ fun q hq => ?_⟩
     obtain ⟨i, hi⟩ := List.mem_iff_getElem?.1 hq
     have hlt := (List.getElem?_eq_some_iff.1 hi).1
     exact (key i _ q (Array.getElem?_eq_getElem (by omega)) hi).2
 | tup hl _ ih =>
   rename_i a a' _
   cases h with
   | tup h1 h2 =>
     have key : ∀ (i : Nat) (u : Value) (q : PV), ‹Array Value›[i]? = some u → a'[i]? = some q → Rep (pureEnv E.w E.M false) u q ∧ Pure q := fun i u q h3 h4 => by
       have hi : i < a.length := by rw [hl]; exact (List.getElem?_eq_some_iff.1 h4).1
       exact ih i _ q (List.getElem?_eq_getElem hi) h4 (h2 i u _ h3 (List.getElem?_eq_getElem hi))
     refine ⟨.tup (h1.trans hl) fun i u q h3 h4 => (key i u q h3 h4).1, .tup _ fun q hq => ?_⟩
     obtain ⟨i, hi⟩ := List.mem_iff_getElem?.1 hq
     have hlt := (List.getElem?_eq_some_iff.1 hi).1
     exact (key i _ q (Array.getElem?_eq_getElem (by omega)) hi).2

theorem pureEnv_good {w : World} {M : Nat → Prop} (h : ∀ b, M b → b < w.heap.size) (hg : gw w w.heap.size) (tt : Bool) : Good (pureEnv w M tt) :=
 ⟨fun _ _ _ _ h => by simp [pureEnv] at h, fun _ _ h => by simp [pureEnv] at h, fun _ _ h => by simp [pureEnv] at h, fun _ _ h => by simp [pureEnv] at h, h, Nat.le_refl _, hg⟩

/-- The heap at a pure function's start. -/
def noHeap : Heap := fun _ => none
def noCnt : Nat → Nat := fun _ => 0

/-- A function on pure values, by its code at P level. -/
theorem PCalls.of_pwp {f : FuncId} {fn : Func} {c : Code} {rs : List ResultVar} {args : List PV} {r : PV} (hf : P.funcs[f]? = some fn) (hb : fn.body = some c) (hrs : fn.results = rs.toArray)
   (hB : hasBody P f = true) (hm : P.follows .mixedOrders = true) (hfr : (inFrame fn.ntmps c && rs.all (resScope fn.ntmps)) = true) (hfr3 : args.length ≤ fn.ntmps) (hpr : Pure r)
   (hp : pwp P c (fun e s => (e = .normal ∨ e = .ret) ∧ (resPV P rs s).1 ∧ Out s.h (resPV P rs s).2 r) ⟨fun i => args.getD i .dead, noHeap, noCnt⟩) : PCalls P f args r := by
 refine ⟨hpr, hB, fun w M vs hM hgw hsz hrep => ?_⟩
 have hc := HCallsR.of_pwp (R := fun p h cnt => Out h p r) hf hb hrs hB hm hfr hfr3 hp
 refine (hc.2 (pureEnv w M true) vs (pureEnv_good hM hgw true) rfl rfl rfl hsz hrep).mono ?_
 rintro e w' ⟨u, v, E', rfl, ho, rfl, g', hle, hbl, hv⟩
 have := (out_rep g' ho hv).1
 rw [hle.M] at this
 exact ⟨u, rfl, this, hbl⟩

end
end Go.Pv
