/- The rule for a range over a function, at P level. -/
import Derived.Test.YtjmjiegplnfiiaaPvQ1
namespace Go.Pv
open Go Go.RowKit
section
variable {P : Program}

/-- Objects that no value of the P level speaks of. -/
def isOther : Obj → Bool
 | .loop _ => true
 | .deferred _ => true
 | _ => false

/-- The environment when such an object has become another. -/
def putEnv (E : Env) (r : Nat) (o : Obj) : Env := { E with w := E.w.putObj r o }

theorem put_cell {E : Env} {r : Nat} {o o' : Obj} (hr : E.w.heap[r]? = some o) (ho : isOther o = true) {ad : Addr} {v : Value} (h : E.w.cell? ad = some v) : (putEnv E r o').w.cell? ad = some v := by
 have hne : ad.block ≠ r := fun e => by
   unfold World.cell? at h
   rw [e, hr] at h
   cases o <;> simp_all [isOther]
 unfold World.cell? at h ⊢
 rw [show (putEnv E r o').w.heap[ad.block]? = E.w.heap[ad.block]? from World.putObj_heap_other hne]
 exact h

theorem put_rep {E : Env} {r : Nat} {o o' : Obj} (hr : E.w.heap[r]? = some o) (ho : isOther o = true) {v : Value} {p : PV} (h : Rep E v p) : Rep (putEnv E r o') v p := by
 have mem : ∀ {t : Bool} {sz : Nat} {rows : Rows} {b off : Nat} {f : Nat → Nat → Value}, MemAt E t sz rows b off f → MemAt (putEnv E r o') t sz rows b off f := fun hm =>
   ⟨hm.own, hm.out, hm.tt, by show _ < (E.w.putObj r _).heap.size; rw [World.putObj_size]; exact hm.lt, hm.width, fun i j row p h1 h2 => put_cell hr ho (hm.cell i j row p h1 h2), hm.pure, hm.one⟩
 induction h with
 | sc hx => exact .sc hx
 | nil => exact .nil
 | litE => exact .litE
 | lit hm hc hr ih => exact .lit (mem hm) hc ih
 | lptr i j hm hr ih => exact .lptr i j (mem hm) ih
 | ref hk hlen hl => exact .ref hk hlen hl
 | refE hk hl => exact .refE hk hl
 | ptr hk hl => exact .ptr hk hl
 | agg hl _ ih => exact .agg hl ih
 | tup hl _ ih => exact .tup hl ih
 | func hl hl' _ _ ih ih' => exact .func hl hl' ih ih'
 | map hk hl => exact .map hk hl
 | iter hk hl => exact .iter hk hl
 | dead => exact .dead

theorem put_obj {E : Env} {r : Nat} {o o' : Obj} (hr : E.w.heap[r]? = some o) (ho : isOther o = true) {k : Key} {q : PObj} (h : ObjOK E k q) : ObjOK (putEnv E r o') k q := by
 have keep : ∀ {ob : Obj}, E.w.heap[E.blk k]? = some ob → isOther ob = false → (putEnv E r o').w.heap[E.blk k]? = some ob := fun {ob} h1 h2 => by
   have hne : E.blk k ≠ r := fun e => by rw [e, hr] at h1; cases h1; rw [ho] at h2; cases h2
   exact (World.putObj_heap_other hne).trans h1
 cases q with
 | rows sz rs =>
   obtain ⟨c, T, h1, h2, h3, h4, h5, h6, h7⟩ := h
   exact ⟨c, T, keep h1 rfl, h2, h3, h4, h5, h6, fun i j row p h8 h9 => by
     obtain ⟨v, h10, h11⟩ := h7 i j row p h8 h9
     exact ⟨v, h10, put_rep hr ho h11⟩⟩
 | map es bs clk =>
   obtain ⟨ents, h1, h2, h3, h4, h5⟩ := h
   exact ⟨ents, keep h1 rfl, h2, h3, fun i e p h6 h7 => ⟨put_rep hr ho (h4 i e p h6 h7).1, put_rep hr ho (h4 i e p h6 h7).2⟩, h5⟩
 | iter km since seen =>
   obtain ⟨b, h1, h2⟩ := h
   exact ⟨b, keep h1 rfl, h2⟩

theorem put_good {E : Env} (g : Good E) {r : Nat} {o o' : Obj} (hr : E.w.heap[r]? = some o) (ho : isOther o = true) (hb : E.B0 ≤ r) : Good (putEnv E r o') where
 inj := g.inj
 known := g.known
 base := g.base
 obj := fun k q h => put_obj hr ho (g.obj k q h)
 out := g.out
 size := by show E.B0 ≤ (E.w.putObj r _).heap.size; rw [World.putObj_size]; exact g.size
 glob := gw_keep g.glob (Nat.le_refl _) fun b hb' => World.putObj_heap_other (by have : b < E.B0 := hb'; omega)

theorem put_le {E0 E : Env} (h : EnvLe E0 E) {r : Nat} {o' : Obj} (hb : E0.w.heap.size ≤ r) : EnvLe E0 (putEnv E r o') where
 blk := fun b hb' ho => (World.putObj_heap_other (by omega)).trans (h.blk b hb' ho)
 size := by show _ ≤ (E.w.putObj r _).heap.size; rw [World.putObj_size]; exact h.size
 own := h.own
 M := h.M
 tt := h.tt
 B0 := h.B0
 cnt := h.cnt
 nokey := h.nokey
 rows := h.rows
 map := h.map

theorem put_le2 {E E' : Env} (h : EnvLe E E') {r : Nat} {o' : Obj} : EnvLe (putEnv E r o') (putEnv E' r o') where
 blk := fun b hb' ho => by
   have hb : b < E.w.heap.size := by have h1 : b < (E.w.putObj r o').heap.size := hb'; rwa [World.putObj_size] at h1
   by_cases e : b = r
   · subst e
     exact (World.putObj_heap_same (Nat.lt_of_lt_of_le hb h.size)).trans (World.putObj_heap_same hb).symm
   · exact (World.putObj_heap_other e).trans ((h.blk b hb ho).trans (World.putObj_heap_other e).symm)
 size := by show (E.w.putObj r o').heap.size ≤ (E'.w.putObj r o').heap.size; rw [World.putObj_size, World.putObj_size]; exact h.size
 own := fun b hb => by
   show _ ∨ (E.w.putObj r o').heap.size ≤ b
   rw [World.putObj_size]; exact h.own b hb
 M := h.M
 tt := h.tt
 B0 := h.B0
 cnt := h.cnt
 nokey := h.nokey
 rows := h.rows
 map := h.map

theorem put_below2 {B : Nat} {E E' : Env} (h : Below B E.w E'.w) {r : Nat} {o' : Obj} : Below B (putEnv E r o').w (putEnv E' r o').w :=
 ⟨h.os, h.tape, h.output, by show (E.w.putObj r o').heap.size ≤ (E'.w.putObj r o').heap.size; rw [World.putObj_size, World.putObj_size]; exact h.size, fun b hb => by
   by_cases e : b = r
   · subst e
     show (E'.w.heap.setIfInBounds b o')[b]? = (E.w.heap.setIfInBounds b o')[b]?
     have h1 := h.block b hb
     by_cases h2 : b < E.w.heap.size
     · have h3 := Nat.lt_of_lt_of_le h2 h.size
       simp [h2, h3]
     · have h3 : ¬ b < E'.w.heap.size := fun h3 => by
         rw [Array.getElem?_eq_getElem h3, Array.getElem?_eq_none (by omega)] at h1; cases h1
       simp [h2, h3]
   · exact (World.putObj_heap_other e).trans ((h.block b hb).trans (World.putObj_heap_other e).symm)⟩

theorem put_below {E : Env} {B : Nat} {w : World} (h : Below B w E.w) {r : Nat} {o' : Obj} (hb : B ≤ r) : Below B w (putEnv E r o').w :=
 ⟨h.os, h.tape, h.output, by show _ ≤ (E.w.putObj r _).heap.size; rw [World.putObj_size]; exact h.size, fun k hk => (World.putObj_heap_other (by omega)).trans (h.block k hk)⟩

theorem put_marks {r0 : Nat} {E : Env} {r : Nat} {o' : Obj} {lp : Loop} (hr : E.w.heap[r]? = some (.loop lp)) : ∀ {ds : List Deferred}, Marks r0 E ds → Marks r0 (putEnv E r o') ds
 | [], _ => trivial
 | d :: ds, ⟨⟨r', h1, h2, h3, h4, h5⟩, h6⟩ => by
   refine ⟨⟨r', h1, h2, (World.putObj_heap_other fun e => ?_).trans h3, h4, h5⟩, put_marks hr h6⟩
   rw [e, hr] at h3; cases h3

theorem put_sim {r0 : Nat} {E : Env} {n : Nat} {s : PS} {a : Act} (S : Sim r0 E n s a) {r : Nat} {o' : Obj} {lp : Loop} (hr : E.w.heap[r]? = some (.loop lp)) (hb : E.B0 ≤ r) : Sim r0 (putEnv E r o') n s a :=
 ⟨put_good S.good hr rfl hb, S.h, S.cnt, S.tt, S.size, fun i v hv => put_rep hr rfl (S.regs i v hv), put_marks hr S.defers⟩

/-- The environment when an object has come that no value speaks of. -/
def addEnv (E : Env) (o : Obj) : Env := { E with w := E.w.alloc o }

theorem add_le (E : Env) (o : Obj) : EnvLe E (addEnv E o) where
 blk := fun b hb _ => Below.heap_alloc _ _ b hb
 size := by simp [addEnv]
 own := fun _ h => .inl h
 M := rfl
 tt := rfl
 B0 := rfl
 cnt := fun _ => Nat.le_refl _
 nokey := fun _ _ h => h
 rows := fun _ _ rs h => .inr ⟨rs, h, rfl, rfl⟩
 map := fun _ o h _ => .inr ⟨o, h, rfl, rfl⟩

theorem add_good {E : Env} (g : Good E) (o : Obj) : Good (addEnv E o) where
 inj := g.inj
 known := g.known
 base := g.base
 obj := fun k q h => ObjOK.le (add_le E o) rfl rfl (Below.heap_alloc _ _ _ (live_lt g h)) (g.obj k q h)
 out := g.out
 size := by show E.B0 ≤ (E.w.alloc o).heap.size; have := g.size; simp; omega
 glob := gw_keep g.glob (Nat.le_refl _) fun b hb' => Below.heap_alloc _ _ b (by have := g.size; omega)

theorem add_below (E : Env) (g : Good E) (o : Obj) : Below E.B0 E.w (addEnv E o).w := (Below.refl _ _).alloc g.size _

theorem add_sim {r0 : Nat} {E : Env} {n : Nat} {s : PS} {a : Act} (S : Sim r0 E n s a) (o : Obj) : Sim r0 (addEnv E o) n s a :=
 ⟨add_good S.good o, S.h, S.cnt, S.tt, S.size, fun i v hv => (S.regs i v hv).le (add_le E o), S.defers.le (add_le E o)⟩

/-- What an iterator, ranged over, promises: its function, what it has taken along, the rounds that it asks for. -/
def IterOK (P : Program) (g : FuncId) (caps : List PV) (items : List (List PV)) (Hk : Heap → Prop) : Prop :=
 hasBody P g = true ∧ ∀ (E : Env) (ws : Array Value) (l : Nat) (J : Nat → Env → Prop), Good E → E.tt = true → Hk E.h → ws.size = caps.length → (∀ (i : Nat) (u : Value) (p : PV), ws[i]? = some u → caps[i]? = some p → Rep E u p) → J 0 E →
   (∀ (j : Nat) (E1 E2 : Env), J j E1 → EnvLe E1 E2 → Good E2 → E2.h = E1.h → E2.cnt = E1.cnt → Below E1.B0 E1.w E2.w → J j E2) →
   (∀ (j : Nat) (row : List PV) (E1 : Env) (us : Array Value), items[j]? = some row → J j E1 → Good E1 → E1.tt = true → us.size = row.length → (∀ (i : Nat) (u : Value) (p : PV), us[i]? = some u → row[i]? = some p → Rep E1 u p) →
     YieldAt Fence.wide 0 P l us E1.w fun e w' => e = .returned (.bool true) ∧ ∃ E2 : Env, E2.w = w' ∧ J (j + 1) E2 ∧ Good E2 ∧ E2.tt = true ∧ Hk E2.h ∧ ∀ v p, Rep E1 v p → Rep E2 v p) →
   CallsIn Fence.wide 0 P g (#[.func (.yield l) #[] #[]] ++ ws) E.w fun e w' => ∃ (v : Value) (E' : Env), e = .returned v ∧ E'.w = w' ∧ J items.length E'

def putRs (r : Nat → PV) : List Nat → List PV → Nat → PV
 | d :: ds, v :: vs => putRs (putR r (some d) v) ds vs
 | _, _ => r

theorem sim_params {r0 : Nat} {E : Env} {n : Nat} {h : Heap} {cnt : Nat → Nat} {ds : List Deferred} : ∀ (ps : List Nat) (us : List Value) (row : List PV) (r : Nat → PV) (tmps : Array Value), Sim r0 E n ⟨r, h, cnt⟩ { tmps := tmps, defers := ds } → us.length = row.length → (∀ (i : Nat) (u : Value) (p : PV), us[i]? = some u → row[i]? = some p → Rep E u p) →
   Sim r0 E n ⟨putRs r ps row, h, cnt⟩ { tmps := (ps.zip us).foldl (fun tmps (t, a) => tmps.setIfInBounds t a) tmps, defers := ds }
 | [], us, row, r, tmps, S, _, _ => by simpa [putRs] using S
 | p :: ps, [], [], r, tmps, S, _, _ => by simpa [putRs] using S
 | p :: ps, u :: us, v :: row, r, tmps, S, hl, hr => by
   refine sim_params ps us row _ (tmps.setIfInBounds p u) ?_ (by simpa using hl) fun i u' p' h1 h2 => hr (i + 1) u' p' (by simpa using h1) (by simpa using h2)
   exact S.put (dst := some p) (s' := ⟨putR r (some p) v, h, cnt⟩) (EnvLe.refl E) S.good S.tt (hr 0 u v rfl rfl) rfl S.h S.cnt
 | p :: ps, [], v :: row, r, tmps, S, hl, hr => by cases hl
 | p :: ps, u :: us, [], r, tmps, S, hl, hr => by cases hl

theorem yield_rep {E : Env} {u : Value} {f : Fn} (h : Rep E u (.func f [] [])) : u = .func f #[] #[] := by
 cases h with
 | func hl hl' _ _ =>
   rw [Array.eq_empty_of_size_eq_zero hl, Array.eq_empty_of_size_eq_zero hl']

/-- Where a range over a function stands between two rounds. -/
structure RAt (E0 : Env) (n : Nat) (r : Nat → PV) (tmps : Array Value) (ds : List Deferred) (l : Nat) (rec : Loop) (I : Nat → Heap → (Nat → Nat) → Prop) (j : Nat) (E : Env) : Prop where
 inv : I j E.h E.cnt
 sim : Sim E0.w.heap.size E n ⟨r, E.h, E.cnt⟩ { tmps := tmps, defers := ds }
 le : EnvLe E0 E
 below : Below E0.B0 E0.w E.w
 loop : E.w.heap[l]? = some (.loop rec)
 own : ¬ E.own l

theorem own_keep {E E' : Env} (h : EnvLe E E') {l : Nat} (hl : l < E.w.heap.size) (ho : ¬ E.own l) : ¬ E'.own l := fun h' => by
 rcases h.own l h' with h1 | h1
 · exact ho h1
 · omega

/-- **A RANGE OVER A FUNCTION**, whose rounds end normally. -/
theorem range_rule (hm : P.follows .mixedOrders = true) {g : FuncId} {caps : List PV} {items : List (List PV)} {Hk : Heap → Prop} (hit : IterOK P g caps items Hk) {gop : Operand} {ps : Array Tmp} {assign body : Code} {Q : Exit → PS → Prop} {s : PS}
   (hg : ev s.r gop = .func (.func g) [] caps) (I : Nat → Heap → (Nat → Nat) → Prop) (hI : I 0 s.h s.cnt) (hHk : ∀ j h c, I j h c → Hk h) (hr1 : roundOK assign = true) (hr2 : roundOK body = true) (hlen : ∀ row ∈ items, row.length = ps.size)
   (hbody : ∀ (j : Nat) (row : List PV), items[j]? = some row → ∀ h c, I j h c → pwp P assign (fun e s1 => e = .normal ∧ pwp P body (fun e s2 => e = .normal ∧ I (j + 1) s2.h s2.cnt) s1) ⟨putRs s.r ps.toList row, h, c⟩)
   (hfin : ∀ h c, I items.length h c → Q .normal ⟨s.r, h, c⟩) : RangeP P gop ps assign body Q s := by
 intro E0 n a w hf st
 simp only [inFrame, Bool.and_eq_true] at hf
 obtain ⟨⟨⟨hfg, hfp⟩, hfa⟩, hfb⟩ := hf
 obtain ⟨E, rfl, S, hle, hb, hk⟩ := st
 have hB : E0.B0 ≤ E.B0 ∧ E.B0 ≤ E0.B0 := by rw [hle.B0]; exact ⟨Nat.le_refl _, Nat.le_refl _⟩
 refine (wpIn_wide (n := 1)).1 (wpIn_rangeFunc fun fn _ => ?_)
 have hgv : Rep E (a.eval gop) (.func (.func g) [] caps) := by rw [← hg]; exact S.eval hfg
 obtain ⟨ws, hgv1, hws, hwr⟩ : ∃ ws : Array Value, a.eval gop = .func (.func g) #[] ws ∧ ws.size = caps.length ∧ ∀ (i : Nat) (u : Value) (p : PV), ws[i]? = some u → caps[i]? = some p → Rep E u p := by
   generalize a.eval gop = v at hgv
   cases hgv with
   | func hl hl' _ h' => rw [Array.eq_empty_of_size_eq_zero hl]; exact ⟨_, rfl, hl', h'⟩
 -- the block for deferred calls, and the record
 have g0 := S.good
 let rec0 : Loop := { state := .ready, pending := none, fn := fn, tmps := a.tmps, params := ps, assign := assign, body := body, defers := E.w.heap.size }
 let E1 := addEnv E (.deferred (some []))
 let E2 := addEnv E1 (.loop rec0)
 let mk : Deferred := { target := .collected E.w.heap.size, args := #[] }
 have hle1 : EnvLe E E1 := add_le E _
 have hle2 : EnvLe E1 E2 := add_le E1 _
 have g1 : Good E1 := add_good g0 _
 have g2 : Good E2 := add_good g1 _
 have hs1 : E1.w.heap.size = E.w.heap.size + 1 := by simp [E1, addEnv]
 have hD1 : E1.w.heap[E.w.heap.size]? = some (.deferred (some [])) := World.alloc_heap_new E.w _
 have hL2 : E2.w.heap[E.w.heap.size + 1]? = some (.loop rec0) := by
   have := World.alloc_heap_new E1.w (.loop rec0)
   rw [hs1] at this; exact this
 have no1 : ¬ E1.own E.w.heap.size := fun ⟨k, o, h1, h2⟩ => by have h3 := live_lt g0 (k := k) (o := o) h1; have h4 : E.blk k = E.w.heap.size := h2; omega
 have no2 : ¬ E2.own (E.w.heap.size + 1) := fun ⟨k, o, h1, h2⟩ => by have h3 := live_lt g0 (k := k) (o := o) h1; have h4 : E.blk k = E.w.heap.size + 1 := h2; omega
 have hle0 : EnvLe E0 E2 := (hle.trans hle1 hk).trans hle2 hk
 have hbl1 : Below E0.B0 E.w E1.w := by have := add_below E g0 (.deferred (some [])); rwa [hle.B0] at this
 have hbl2 : Below E0.B0 E1.w E2.w := by have := add_below E1 g1 (.loop rec0); rwa [show E1.B0 = E0.B0 from hle.B0] at this
 have S1 : Sim E0.w.heap.size E1 n s { a with defers := mk :: a.defers } := by
   have S1 := add_sim S (.deferred (some []))
   refine ⟨S1.good, S1.h, S1.cnt, S1.tt, S1.size, S1.regs, ⟨⟨E.w.heap.size, rfl, hle.size, hD1, no1, fun d hd e => ?_⟩, S1.defers⟩⟩
   have : ∀ {ds : List Deferred}, Marks E0.w.heap.size E ds → ∀ d ∈ ds, d.target ≠ .collected E.w.heap.size := by
     intro ds
     induction ds with
     | nil => intro _ d hd; cases hd
     | cons d ds ih =>
       intro hmk d' hd' e
       obtain ⟨⟨r, h1, _, h3, _⟩, h6⟩ := hmk
       rcases List.mem_cons.1 hd' with rfl | hd'
       · rw [h1] at e
         cases e
         have := (Array.getElem?_eq_some_iff.1 h3).1
         omega
       · exact ih h6 d' hd' e
   exact this S.defers d hd e
 have S2 := add_sim S1 (.loop rec0)
 have R0 : RAt E0 n s.r a.tmps (mk :: a.defers) (E.w.heap.size + 1) rec0 I 0 E2 := by
   refine ⟨?_, ?_, hle0, (hb.trans hbl1).trans hbl2, hL2, no2⟩
   · show I 0 E.h E.cnt; rw [S.h, S.cnt]; exact hI
   · have h1 : E2.h = s.h := S.h
     have h2 : E2.cnt = s.cnt := S.cnt
     rw [h1, h2]; exact S2
 obtain ⟨hgb, hit⟩ := hit
 have henter : ∀ args w, (callFunc g args).run P w = .ok (.enter g args) w := fun args w => by
   obtain ⟨fn', h1, h2, h3⟩ := hasBody_spec hgb
   have hn : fn'.body.isNone = false := by cases hq : fn'.body <;> simp_all
   simp only [callFunc, run_program, Sem.run_bind, Result.andThen_ok, h1, h3, hn, Bool.false_eq_true, if_false, Sem.run_pure]
 have hlB : E0.w.heap.size ≤ E.w.heap.size + 1 := by have := hle.size; omega
 have hB0l : ∀ E' : Env, EnvLe E0 E' → Good E0 ∨ True → E'.B0 ≤ E.w.heap.size + 1 := fun E' h _ => by
   have h1 := g0.size
   have h2 := hle.B0
   have h3 := h.B0
   omega
 refine ⟨E.w.heap.size + 1, [mk], E2.w, { target := .fn (.func g) ws, args := #[.func (.yield (E.w.heap.size + 1)) #[] #[]] }, E2.w, g, #[.func (.yield (E.w.heap.size + 1)) #[] #[]] ++ ws, E2.w, run_enterLoop_outer _ _ _ _ _, ?_, fun _ _ => trivial, ?_, (fun h => by cases h), ?_⟩
 · simp only [resolve, rangeCall, Deferred.ofValue]
   rw [hgv1]
   simp [Act.eval]
 · simp [invoke, henter]
 refine (hit E2 ws (E.w.heap.size + 1) (RAt E0 n s.r a.tmps (mk :: a.defers) (E.w.heap.size + 1) rec0 I) g2 S.tt (hHk 0 _ _ R0.inv) hws (fun i u p h1 h2 => ((hwr i u p h1 h2).le hle1).le hle2) R0 ?_ ?_).mono ?_
 · intro j F1 F2 hJ hle' gF2 hh hc hbl
   have hlt := (Array.getElem?_eq_some_iff.1 hJ.loop).1
   refine ⟨by rw [hh, hc]; exact hJ.inv, ⟨gF2, rfl, rfl, hle'.tt.trans hJ.sim.tt, hJ.sim.size, fun i v hv => (hJ.sim.regs i v hv).le hle', hJ.sim.defers.le hle'⟩, hJ.le.trans hle' hk, ?_, (hle'.blk _ hlt hJ.own).trans hJ.loop, own_keep hle' hlt hJ.own⟩
   rw [hJ.le.B0] at hbl
   exact hJ.below.trans hbl
 · intro j row F1 us hrow hJ gF1 htt hus hurep
   have hlt := (Array.getElem?_eq_some_iff.1 hJ.loop).1
   have hrl := hlen row (List.mem_of_getElem? hrow)
   refine ⟨fn, _, assign, body, run_yield hJ.loop (hus.trans hrl), ?_⟩
   refine roundIn_of_wpIn trivial ?_
   have SA : Sim F1.w.heap.size F1 n ⟨putRs s.r ps.toList row, F1.h, F1.cnt⟩ { tmps := (ps.zip us).foldl (fun tmps (t, a) => tmps.setIfInBounds t a) a.tmps, defers := [] } := by
     have h0 : Sim F1.w.heap.size F1 n ⟨s.r, F1.h, F1.cnt⟩ { tmps := a.tmps, defers := [] } := ⟨gF1, rfl, rfl, htt, hJ.sim.size, hJ.sim.regs, trivial⟩
     have := sim_params ps.toList us.toList row s.r a.tmps h0 (by simpa using hus) (fun i u p h1 h2 => hurep i u p (by simpa using h1) h2)
     rw [← Array.foldl_toList, Array.toList_zip]
     exact this
   have stA : St F1 n ⟨putRs s.r ps.toList row, F1.h, F1.cnt⟩ { tmps := (ps.zip us).foldl (fun tmps (t, a) => tmps.setIfInBounds t a) a.tmps, defers := [] } F1.w := ⟨F1, rfl, SA, EnvLe.refl _, Below.refl _ _, gF1.known⟩
   refine wpIn_mono (pwp_soundIn (ro := some (E.w.heap.size + 1)) hm assign _ _ _ _ hfa hr1 (hbody j row hrow F1.h F1.cnt hJ.inv) stA) fun e a1 w1 h1 => ?_
   obtain ⟨s1, ⟨rfl, hs1⟩, F2, rfl, SB, hleB, hblB, _⟩ := h1
   have hloopB : F2.w.heap[E.w.heap.size + 1]? = some (.loop rec0) := (hleB.blk _ hlt hJ.own).trans hJ.loop
   refine ⟨_, run_beginRound hloopB rfl, ?_⟩
   have hB1 : F1.B0 ≤ E.w.heap.size + 1 := hB0l F1 hJ.le (.inr trivial)
   have hB2 : F2.B0 ≤ E.w.heap.size + 1 := by rw [hleB.B0]; exact hB1
   let G1 := putEnv F1 (E.w.heap.size + 1) (.loop { rec0 with state := .busy })
   have hsz : G1.w.heap.size = F1.w.heap.size := World.putObj_size
   have hleG : EnvLe G1 (putEnv F2 (E.w.heap.size + 1) (.loop { rec0 with state := .busy })) := put_le2 hleB
   have SC := put_sim (o' := .loop { rec0 with state := .busy }) SB hloopB hB2
   rw [← hsz] at SC
   have stC : St G1 n s1 a1 (putEnv F2 (E.w.heap.size + 1) (.loop { rec0 with state := .busy })).w :=
     ⟨_, rfl, SC, hleG, put_below2 hblB, gF1.known⟩
   refine wpIn_mono (pwp_soundIn (ro := some (E.w.heap.size + 1)) hm body _ _ _ _ hfb hr2 hs1 stC) fun e a2 w2 h2 => ?_
   obtain ⟨s2, ⟨rfl, hs2⟩, F4, rfl, SD, hleD, hblD, _⟩ := h2
   have hltG : E.w.heap.size + 1 < G1.w.heap.size := by rw [hsz]; exact hlt
   have hownG : ¬ G1.own (E.w.heap.size + 1) := hJ.own
   have hloopD : F4.w.heap[E.w.heap.size + 1]? = some (.loop { rec0 with state := .busy }) := (hleD.blk _ hltG hownG).trans (World.putObj_heap_same hlt)
   have hlt4 : E.w.heap.size + 1 < F4.w.heap.size := (Array.getElem?_eq_some_iff.1 hloopD).1
   have hle1G : EnvLe E0 G1 := put_le hJ.le hlB
   have hle4 : EnvLe E0 F4 := hle1G.trans hleD hk
   have hB4 : F4.B0 ≤ E.w.heap.size + 1 := hB0l F4 hle4 (.inr trivial)
   have carry : ∀ v p, Rep F1 v p → Rep (putEnv F4 (E.w.heap.size + 1) (.loop rec0)) v p := fun v p hv => put_rep hloopD rfl ((put_rep (o' := .loop { rec0 with state := .busy }) hJ.loop rfl hv).le hleD)
   have g5 := put_good (o' := .loop rec0) SD.good hloopD rfl hB4
   refine ⟨_, _, run_endRound none hloopD, rfl, putEnv F4 (E.w.heap.size + 1) (.loop rec0), rfl, ⟨?_, ⟨g5, rfl, rfl, SD.tt, hJ.sim.size, fun i v hv => carry _ _ (hJ.sim.regs i v hv), put_marks hloopD ((put_marks hJ.loop hJ.sim.defers).le hleD)⟩, put_le hle4 hlB, ?_, World.putObj_heap_same hlt4, own_keep hleD hltG hownG⟩, g5, SD.tt, ?_, carry⟩
   · show I (j + 1) F4.h F4.cnt; rw [SD.h, SD.cnt]; exact hs2
   · have hb1 : Below E0.B0 E0.w G1.w := put_below hJ.below (by have := hB1; have := hJ.le.B0; omega)
     have hb2 : Below E0.B0 G1.w F4.w := by have h3 := hblD; rw [hle1G.B0] at h3; exact h3
     exact put_below (hb1.trans hb2) (by have := hB4; have := hle4.B0; omega)
   · show Hk F4.h
     have := hHk (j + 1) _ _ hs2
     rw [← SD.h] at this
     exact this
 · rintro e w' ⟨v, E', rfl, rfl, hJ⟩
   refine ⟨none, _, run_endLoop hJ.loop (by simp [rec0]), ?_⟩
   have hle' := put_le hJ.le (o' := .loop { rec0 with state := .exhausted }) hlB
   refine ⟨_, hfin _ _ hJ.inv, putEnv E' (E.w.heap.size + 1) (.loop { rec0 with state := .exhausted }), rfl, put_sim hJ.sim hJ.loop (hB0l E' hJ.le (.inr trivial)), hle', put_below hJ.below (by have := g0.size; have := hle.B0; omega), hk⟩

/-- A frame without deferred calls, in an environment. -/
structure Fr (E : Env) (n : Nat) (s : PS) (a : Act) : Prop where
 sim : Sim E.w.heap.size E n s a
 nod : a.defers = []

theorem Fr.of_sim {E : Env} {r0 n : Nat} {s : PS} {a : Act} (S : Sim r0 E n s a) (h : a.defers = []) : Fr E n s a :=
 ⟨⟨S.good, S.h, S.cnt, S.tt, S.size, S.regs, by rw [h]; trivial⟩, h⟩

theorem Fr.st {E : Env} {n : Nat} {s : PS} {a : Act} (F : Fr E n s a) : St E n s a E.w := ⟨E, rfl, F.sim, EnvLe.refl E, Below.refl _ _, F.sim.good.known⟩

/-- What a frame has become behind operations. -/
def FrTo (E : Env) (n : Nat) (K : PS → Prop) (a' : Act) (w' : World) : Prop := ∃ (s' : PS) (E' : Env), K s' ∧ Fr E' n s' a' ∧ EnvLe E E' ∧ Below E.B0 E.w E'.w ∧ E'.w = w'

theorem list_fr {E : Env} {n : Nat} {s : PS} {a : Act} {ops : Array Oper} {l : List Oper} {K : PS → Prop} (hng : ∀ o ∈ l, o.guard = none) (hsc : ∀ o ∈ l, inFrameOp n o = true) (F : Fr E n s a) (h : pOps P K l s) :
   wpList P ops (fun e a' w' => e = .normal ∧ FrTo E n K a' w') l a E.w :=
 pOps_sound l s a E.w hng hsc h F.st fun s' a' w' hk ⟨E', hw, S, hle, hb, _⟩ hd => ⟨rfl, s', E', hk, Fr.of_sim S (hd.trans F.nod), hle, hw ▸ hb, hw⟩

theorem region_fr {E : Env} {n : Nat} {s : PS} {a : Act} {id : Nat} {ops : Array Oper} {K : PS → Prop} {Q : Exit → Act → World → Prop} {m : Nat} (hf : (noGuards ops && ops.all (inFrameOp n)) = true) (F : Fr E n s a) (h : pOps P K ops.toList s) (hQ : ∀ a' w', FrTo E n K a' w' → Q .normal a' w') :
   (Code.region id ops false).wpIn Fence.wide m P Q a E.w := by
 simp only [Bool.and_eq_true] at hf
 refine wpIn_wide.2 (wp_mono (wp_region_list (list_fr (fun o ho => ?_) (fun o ho => (Array.all_eq_true_iff_forall_mem.1 hf.2) o (by simpa using ho)) F h)) ?_)
 · have := (List.all_eq_true.1 hf.1) o ho; simpa using this
 · rintro e a' w' ⟨rfl, h⟩; exact hQ a' w' h

/-- A call of yield. -/
theorem yield_op {E : Env} {n : Nat} {s : PS} {a : Act} {o : Oper} {f : Operand} {as : Array Operand} {ts : Array TypeId} {l : Nat} {K : Act → World → Prop} {Q : Exit → Act → World → Prop} (F : Fr E n s a) (ho : o.op = .call { callee := .value f, args := as, argTypes := ts }) (hsc : inFrameOp n o = true)
   (hf : ev s.r f = .func (.yield l) [] [])
   (hy : ∀ us : Array Value, us.size = as.size → (∀ (i : Nat) (u : Value) (p : PV), us[i]? = some u → (as.toList.map (ev s.r))[i]? = some p → Rep E u p) → YieldAt Fence.wide 0 P l us E.w fun e w' => e = .returned (.bool true) ∧ K (a.put o.dst (.bool true)) w') :
   o.wpIn Fence.wide 0 P a E.w K Q := by
 have hρ : ∀ x ∈ o.op.operands, Rep E (a.eval x) (ev s.r x) := fun x hx => F.sim.eval ((inFrame_ops hsc).1 x hx)
 have hfv : a.eval f = .func (.yield l) #[] #[] := yield_rep (by rw [← hf]; exact hρ f (by rw [ho]; simp [Op.operands, Call.operands]))
 obtain ⟨fn, tmps, as', body, hrun, hround⟩ := hy (as.map a.eval) (by simp) fun i u p h1 h2 => by
   rw [Array.getElem?_map, Option.map_eq_some_iff] at h1
   rw [List.getElem?_map, Option.map_eq_some_iff] at h2
   obtain ⟨y, h3, rfl⟩ := h1
   obtain ⟨z, h4, rfl⟩ := h2
   rw [Array.getElem?_toList, h3] at h4; cases h4
   exact hρ y (by rw [ho]; simp only [Op.operands, Call.operands]; have := Array.mem_of_getElem? h3; simp [this])
 refine ⟨fun _ _ => trivial, ?_⟩
 rw [Oper.semAt_eq _ _ _ (fun c h => by rw [ho] at h; cases h)]
 have he : (execOp a.eval o).run P E.w = .ok (.round l fn tmps as' body) E.w := by
   obtain ⟨dst, op, type, pos, after, guard⟩ := o
   simp only at ho; subst ho
   simp only [execOp, resolve, hfv, Deferred.ofValue, Sem.run_bind, Sem.run_pure, Result.andThen_ok, invoke]
   simpa using hrun
 rw [he, Oper.uponIn_round]
 refine ⟨fun h => (by cases h), hround.mono fun e w' h => ?_⟩
 obtain ⟨rfl, h⟩ := h
 exact h

end
end Go.Pv
