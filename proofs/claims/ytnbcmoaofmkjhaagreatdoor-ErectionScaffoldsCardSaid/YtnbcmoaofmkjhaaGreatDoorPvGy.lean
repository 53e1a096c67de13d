import Derived.Test.YtnbcmoaofmkjhaaGreatDoorPvGd
set_option linter.unusedSimpArgs false
set_option linter.unusedVariables false
namespace Go.Pv
open Go Go.RowKit
section
variable {P : Program}
theorem zCy : ∀ {n : Nat} {p : PV}, pureB n p = true → Pure p
 | 0, _, h => by cases h
 | n + 1, p, h => by
   unfold pureB at h;split at h
   · exact .sc _
   · exact .nil
   · exact .lit _ _ _ fun row hr q hq => zCy (List.all_eq_true.1 (List.all_eq_true.1 h row hr) q hq)
   · exact .lptr _ _ _ _ _ fun row hr q hq => zCy (List.all_eq_true.1 (List.all_eq_true.1 h row hr) q hq)
   · exact .agg _ fun q hq => zCy (List.all_eq_true.1 h q hq)
   · exact .tup _ fun q hq => zCy (List.all_eq_true.1 h q hq)
   · simp only [Bool.and_eq_true] at h;exact .func _ _ _ (fun q hq => zCy (List.all_eq_true.1 h.1 q hq)) (fun q hq => zCy (List.all_eq_true.1 h.2 q hq))
   · cases h
theorem zFi : ∀ {n : Nat} {p : PV}, zI9 n p = true → Clean p
 | 0, _, h => by cases h
 | n + 1, p, h => by
   unfold zI9 at h;split at h
   · exact .sc _
   · exact .nil
   · simp only [Bool.and_eq_true, Bool.not_eq_true'] at h;rw [h.1];exact .lit _ _ fun row hr q hq => zFi (List.all_eq_true.1 (List.all_eq_true.1 h.2 row hr) q hq)
   · exact .agg _ fun q hq => zFi (List.all_eq_true.1 h q hq)
   · exact .tup _ fun q hq => zFi (List.all_eq_true.1 h q hq)
   · cases h
theorem zBS {α β : Type} {f : α → Option β} : ∀ {l : List α} {l' : List β}, mapO f l = some l' → l.length = l'.length ∧ ∀ (i : Nat) (x : α) (y : β), l[i]? = some x → l'[i]? = some y → f x = some y
 | [], l', h => by cases h; exact ⟨rfl, by simp⟩
 | x :: l, l', h => by
   unfold mapO at h;split at h
   · rename_i y ys h1 h2;cases h;obtain ⟨h3, h4⟩ := zBS h2;refine ⟨by simp [h3], fun i a b h5 h6 => ?_⟩;cases i with
     | zero => simp at h5 h6; subst h5; subst h6; exact h1
     | succ i => exact h4 i a b (by simpa using h5) (by simpa using h6)
   · cases h
theorem zGM {h : Heap} {p q : PV} (hq : inn0I h p = some q) : Inn0 h p q := by
 unfold inn0I at hq;split at hq
 · split at hq
   · rename_i hk;cases hb : (Nat.beq _ _ && (leB _ _ && List.all _ _)) with
     | false => rw [hb] at hq; cases hq
     | true =>
       rw [hb] at hq; cases hq;simp only [Bool.and_eq_true, Nat.beq_eq, zFx] at hb;obtain ⟨h1, h2, h3⟩ := hb;subst h1;exact .ref hk h2 rfl fun row hr q hq => zCy (List.all_eq_true.1 (List.all_eq_true.1 h3 row hr) q hq)
   · cases hq
 · split at hq
   · rename_i hk;cases hb : (Nat.beq _ _ && List.all _ _) with
     | false => rw [hb] at hq; cases hq
     | true =>
       rw [hb] at hq; cases hq;simp only [Bool.and_eq_true, Nat.beq_eq] at hb;obtain ⟨h1, h3⟩ := hb;subst h1;exact .ptr hk fun row hr q hq => zCy (List.all_eq_true.1 (List.all_eq_true.1 h3 row hr) q hq)
   · cases hq
 · cases hb : pureB 9 p with
   | false => rw [hb] at hq; cases hq
   | true => rw [hb] at hq; cases hq; exact .pure (zCy hb)
theorem innI_ok {h : Heap} {p q : PV} (hq : innI h p = some q) : Inn h p q := by
 unfold innI at hq;split at hq
 · split at hq
   · rename_i h1 h2;cases hq;exact .func (zBS h1).1 (zBS h2).1 (fun i x y h3 h4 => zGM ((zBS h1).2 i x y h3 h4)) (fun i x y h3 h4 => zGM ((zBS h2).2 i x y h3 h4))
   · cases hq
 · split at hq
   · rename_i h1;cases hq;exact .agg (zBS h1).1 (fun i x y h3 h4 => zGM ((zBS h1).2 i x y h3 h4))
   · cases hq
 · exact .base (zGM hq)
theorem zJQ {h : Heap} : ∀ {l l' : List PV}, mapO (innI h) l = some l' → Inns h l l'
 | [], l', hq => by cases hq; exact .nil
 | x :: l, l', hq => by
   unfold mapO at hq;split at hq
   · rename_i h1 h2;cases hq;exact .cons (innI_ok h1) (zJQ h2)
   · cases hq
theorem zHh {h : Heap} : ∀ {n : Nat} {p q : PV}, outI h n p = some q → Out h p q
 | 0, _, _, hq => by cases hq
 | n + 1, p, q, hq => by
   unfold outI at hq;split at hq
   · split at hq
     · rename_i sz' rs hk;cases hb : (Nat.beq _ _ && leB _ _) with
       | false => rw [hb] at hq; cases hq
       | true =>
         rw [hb] at hq;simp only [Bool.and_eq_true, Nat.beq_eq, zFx] at hb;obtain ⟨h1, h2⟩ := hb;subst h1;simp only [cond_true] at hq;split at hq
         · rename_i rows h3;cases hb2 : (List.all rows _ && List.all _ _) with
           | false => rw [hb2] at hq; cases hq
           | true =>
             rw [hb2] at hq; cases hq;simp only [Bool.and_eq_true] at hb2;obtain ⟨h4, h5⟩ := hb2;obtain ⟨h6, h7⟩ := zBS h3;refine .ref hk h2 (by rw [← h6]; simp; omega) (fun row hr => ?_) (fun i j row row' p p' h8 h9 h10 h11 => ?_) (fun row hr => ?_)
             · have := List.all_eq_true.1 h4 row hr;simp only [Bool.and_eq_true, Nat.beq_eq] at this;exact this.1
             · have hi : i < rows.length := (List.getElem?_eq_some_iff.1 h9).1;have hlen : rows.length = _ := h6.symm;simp only [List.length_take, List.length_drop] at hlen;have h12 := h7 i row row' (by rw [List.getElem?_take_of_lt (by omega), List.getElem?_drop]; exact h8) h9;exact zHh ((zBS h12).2 j p p' h10 h11)
             · have := List.all_eq_true.1 h4 row hr;simp only [Bool.and_eq_true] at this;exact fun p hp => List.all_eq_true.1 this.2 p hp
         · cases hq
     · cases hq
   · split at hq
     · rename_i h1;cases hq;exact .agg (zBS h1).1 fun i x y h3 h4 => zHh ((zBS h1).2 i x y h3 h4)
     · cases hq
   · split at hq
     · rename_i h1;cases hq;exact .tup (zBS h1).1 fun i x y h3 h4 => zHh ((zBS h1).2 i x y h3 h4)
     · cases hq
   · cases hb : zI9 9 p with
     | false => rw [hb] at hq; cases hq
     | true => rw [hb] at hq; cases hq; exact .clean (zFi hb)
theorem zIl {s : IS} {x : ResultVar} {v : PV} (h : zKr P s x = some v) : (resOf P s.abs x).1 ∧ (resOf P s.abs x).2 = v := by
 cases x with
 | tmp t => cases h; exact ⟨trivial, rfl⟩
 | cell a t =>
   simp only [zKr] at h;cases hb : zHs P (hGet s.h) t (rGet s.r a) with
   | false => rw [hb] at h; cases h
   | true => rw [hb] at h; cases h; exact ⟨zHr P hb, rfl⟩
theorem zHd {s : IS} : ∀ {l : List ResultVar} {vs : List PV}, zIk P s l = some vs → (∀ x ∈ l, (resOf P s.abs x).1) ∧ (l.map fun x => (resOf P s.abs x).2) = vs
 | [], vs, h => by cases h; exact ⟨by simp, rfl⟩
 | x :: l, vs, h => by
   unfold zIk at h;split at h
   · rename_i h1 h2;cases h;obtain ⟨h3, h4⟩ := zIl h1;obtain ⟨h5, h6⟩ := zHd h2;refine ⟨fun y hy => ?_, by simp [h4, h6]⟩;rcases List.mem_cons.1 hy with rfl | hy
     · exact h3
     · exact h5 y hy
   · cases h
theorem zKY {s : IS} {rs : List ResultVar} {v : PV} (h : resI P rs s = some v) : (resPV P rs s.abs).1 ∧ (resPV P rs s.abs).2 = v := by
 unfold resI at h;split at h
 · exact zIl h
 · rename_i hn;split at h
   · rename_i vs h1;cases h;obtain ⟨h2, h3⟩ := zHd h1;unfold resPV;split
     · exact (hn _ rfl).elim
     · exact ⟨h2, by rw [h3]⟩
   · cases h
theorem zIW : ∀ (l : List PV) (n i : Nat), rGet (argsI n l) i = if n ≤ i then l.getD (i - n) .dead else .dead
 | [], n, i => by simp [argsI, rGet, bGet, rGet1]
 | v :: l, n, i => by
   unfold argsI;rw [congrFun (zIm (argsI (n + 1) l) n v) i, zIW l (n + 1) i];by_cases hne : i = n
   · subst hne; simp
   · rw [if_neg hne];by_cases h : n ≤ i
     · have h2 : n + 1 ≤ i := by omega
       rw [if_pos h, if_pos h2];have : i - n = (i - (n + 1)) + 1 := by omega
       rw [this]; rfl
     · rw [if_neg h, if_neg (by omega)]
variable {good : Goods}
structure GoodsOK (P : Program) (good : Goods) : Prop where
 fr : ∀ f, good.ok f = true → zFH P f = true
 orc : ∀ (f : FuncId) (args : List PV) (h : HL) (c : CL) (v : PV) (h' : HL) (c' : CL), good.orc f args h c = some (v, h', c') → ∀ R : PV → Heap → (Nat → Nat) → Prop, R v (hGet h') (cGet c') → zAy P f args (hGet h) (cGet c) R
 iter : ∀ (f : FuncId) (caps : List PV) (h : HL) (items : List (List PV)) (chk : HL → Bool), good.iter f caps h = some (items, chk) → zG5 P f caps items (fun H => ∃ hl, H = hGet hl ∧ chk hl = true)
def RunOK (P : Program) (run : Run) : Prop := ∀ (c : Code) (s : IS) (e : Exit) (s' : IS), run c s = some (e, s') → ∀ Q : Exit → PS → Prop, Q e s'.abs → pwp P c Q s.abs
theorem zGY {run : Run} (hr : RunOK P run) (hg : GoodsOK P good) {f : FuncId} {args : List PV} {h : HL} {c : CL} {v : PV} {h' : HL} {c' : CL} (hc : callI P good run f args h c = some (v, h', c')) :
   ∃ (fn : Func) (code : Code), P.funcs[f]? = some fn ∧ fn.body = some code ∧ hasBody P f = true ∧ (zBn fn.ntmps code && fn.results.toList.all (zCd fn.ntmps)) = true ∧ args.length ≤ fn.ntmps ∧
     ∀ (R : PV → Heap → (Nat → Nat) → Prop), R v (hGet h') (cGet c') → pwp P code (fun e s => (e = .normal ∨ e = .ret) ∧ (resPV P fn.results.toList s).1 ∧ R (resPV P fn.results.toList s).2 s.h s.cnt) ⟨fun i => args.getD i .dead, hGet h, cGet c⟩ := by
 unfold callI at hc;split at hc
 · rename_i fn hfn;split at hc
   · rename_i code hcode;cases hb : (good.ok f && leB args.length fn.ntmps) with
     | false => rw [hb] at hc; cases hc
     | true =>
       rw [hb] at hc;simp only [cond_true] at hc;simp only [Bool.and_eq_true, zFx] at hb;have hfr := hg.fr f hb.1;unfold zFH at hfr;rw [hfn] at hfr;simp only [hcode] at hfr;rw [Bool.and_eq_true] at hfr
       have habs : (⟨argsI 0 args, h, c⟩ : IS).abs = ⟨fun i => args.getD i .dead, hGet h, cGet c⟩ := by
         simp only [IS.abs];congr 1;funext i;rw [zIW]; simp
       refine ⟨fn, code, hfn, hcode, hfr.1, hfr.2, hb.2, fun R hR => ?_⟩;rw [← habs];split at hc
       · rename_i s hs;split at hc
         · rename_i v' hv;cases hc;obtain ⟨h1, h2⟩ := zKY hv;exact hr code _ .normal s hs _ ⟨.inl rfl, h1, by rw [h2]; exact hR⟩
         · cases hc
       · rename_i s hs;split at hc
         · rename_i v' hv;cases hc;obtain ⟨h1, h2⟩ := zKY hv;exact hr code _ .ret s hs _ ⟨.inr rfl, h1, by rw [h2]; exact hR⟩
         · cases hc
       · cases hc
   · cases hc
 · cases hc
theorem callI_ok {run : Run} (hr : RunOK P run) (hm : P.follows .mixedOrders = true) (hg : GoodsOK P good) {f : FuncId} {args : List PV} {h : HL} {c : CL} {v : PV} {h' : HL} {c' : CL} (hc : callI P good run f args h c = some (v, h', c'))
   {R : PV → Heap → (Nat → Nat) → Prop} (hR : R v (hGet h') (cGet c')) : zAy P f args (hGet h) (cGet c) R := by
 obtain ⟨fn, code, h1, h2, h3, h4, h5, h6⟩ := zGY hr hg hc;exact .of_pwp h1 h2 (by simp) h3 hm h4 h5 (h6 R hR)
theorem zGQ {run : Run} (hr : RunOK P run) (hm : P.follows .mixedOrders = true) (hg : GoodsOK P good) {f : FuncId} {args : List PV} {h : HL} {c : CL} {v : PV} {h' : HL} {c' : CL} (hc : zJY P good run f args h c = some (v, h', c'))
   {R : PV → Heap → (Nat → Nat) → Prop} (hR : R v (hGet h') (cGet c')) : zAy P f args (hGet h) (cGet c) R := by
 unfold zJY at hc;split at hc
 · rename_i x hx;cases hc;exact hg.orc _ _ _ _ _ _ _ hx R hR
 · exact callI_ok hr hm hg hc hR
theorem pureCallI_ok {run : Run} (hr : RunOK P run) (hm : P.follows .mixedOrders = true) (hg : GoodsOK P good) {f : FuncId} {args : List PV} {h : Heap} {v : PV} (hc : zGw P good run f args h = some v) : CallD P f args h v := by
 unfold zGw at hc;split at hc
 · rename_i as' ha;split at hc
   · rename_i p h' c' hp;split at hc
     · rename_i r ho;cases hb : pureB 9 r with
       | false => rw [hb] at hc; cases hc
       | true =>
         rw [hb] at hc; cases hc;obtain ⟨fn, code, h1, h2, h3, h4, h5, h6⟩ := zGY hr hg hp;exact ⟨as', zJQ ha, .of_pwp h1 h2 (by simp) h3 hm h4 h5 (zCy hb) (h6 (fun p h _ => Out h p v) (zHh ho))⟩
     · cases hc
   · cases hc
 · cases hc
def zDy (E : Env) (S : Key → Bool) : Env := { E with h := fun k => if S k = true then E.h k else none }
theorem zFC (E : Env) (S : Key → Bool) : EnvLe E (zDy E S) where
 blk := fun _ _ _ => rfl
 size := Nat.le_refl _
 own := fun b ⟨k', o, h1, h2⟩ => by
   simp only [zDy] at h1;split at h1
   · exact .inl ⟨k', o, h1, h2⟩
   · cases h1
 M := rfl
 tt := rfl
 B0 := rfl
 cnt := fun _ => Nat.le_refl _
 nokey := fun k' _ hn => by simp only [zDy]; split <;> first | rfl | exact hn
 rows := fun k' sz rs hr => by
   by_cases hk : S k' = true
   · exact .inr ⟨rs, by simp [zDy, hk, hr], rfl, rfl⟩
   · exact .inl (by simp [zDy, hk])
 map := fun k' o1 hr _ => by
   by_cases hk : S k' = true
   · exact .inr ⟨o1, by simp [zDy, hk, hr], rfl, rfl⟩
   · exact .inl (by simp [zDy, hk])
theorem zCA {E : Env} {S : Key → Bool} {k : Key} {o : PObj} (h : (zDy E S).h k = some o) : E.h k = some o := by
 simp only [zDy] at h;split at h
 · exact h
 · cases h
theorem keepEnv_good {E : Env} (g : Good E) (S : Key → Bool) : Good (zDy E S) where
 inj := fun _k1 _k2 _o1 _o2 h1 h2 h3 => g.inj _ _ _ _ (zCA h1) (zCA h2) h3
 known := fun _k1 _o1 h1 => g.known _ _ (zCA h1)
 base := fun _k1 _o1 h1 => g.base _ _ (zCA h1)
 obj := fun _k1 _o1 h1 => ObjOK.le (zFC E S) rfl rfl rfl (g.obj _ _ (zCA h1))
 out := g.out
 size := g.size
 glob := g.glob
theorem zAy.keep {f : FuncId} {args : List PV} {h : Heap} {cnt : Nat → Nat} {R : PV → Heap → (Nat → Nat) → Prop} (S : Key → Bool) (hc : zAy P f args h cnt fun v h' c' => R v (fun k => if S k = true then h' k else none) c') : zAy P f args h cnt R :=
 ⟨hc.1, fun E vs g h1 h2 h3 h4 h5 => (hc.2 E vs g h1 h2 h3 h4 h5).mono fun _ _ ⟨u, v, E', q1, q2, q3, q4, q5, q6, q7⟩ => ⟨u, v, zDy E' S, q1, q2, q3, keepEnv_good q4 S, q5.trans (zFC E' S) g.known, q6, q7.le (zFC E' S)⟩⟩
theorem zHw (S : Key → Bool) : ∀ h : HL, hGet (h.filter fun p => S p.1) = fun k => if S k = true then hGet h k else none
 | [] => by funext k; simp [hGet]
 | (i, v) :: l => by
   funext k;have ih := congrFun (zHw S l) k;cases hS : S i with
   | true =>
     simp only [List.filter_cons, hS, if_true, hGet];cases hk : keyB i k with
     | true => rw [zDx] at hk; subst hk; simp [hS]
     | false => simpa using ih
   | false =>
     simp only [List.filter_cons, hS, hGet];cases hk : keyB i k with
     | true => rw [zDx] at hk; subst hk; simp [hS] at ih ⊢; exact ih
     | false => simpa using ih
theorem zKk (s : IS) (d : Option Nat) (v : PV) (h : HL) (c : CL) : (⟨rPut s.r d v, h, c⟩ : IS).abs = ⟨putR s.abs.r d v, hGet h, cGet c⟩ := by
 simp only [IS.abs, zFe]
theorem zGz {run : Run} (hr : RunOK P run) (hm : P.follows .mixedOrders = true) (hg : GoodsOK P good) {K : PS → Prop} : ∀ {l : List Oper} {s s' : IS}, pOpsI P good run l s = some s' → K s'.abs → pOps P K l s.abs
 | [], s, s', h, hk => by cases h; exact hk
 | o :: rest, s, s', h, hk => by
   unfold pOpsI at h; unfold pOps;show match zAX (rGet s.r) o.op with | none => _ | some (f, args) => _
   split at h
   · rename_i hc;rw [hc];cases hb : okB P (ev (rGet s.r)) (hGet s.h) o.op with
     | false => rw [hb] at h; cases h
     | true =>
       rw [hb] at h;refine .inl ⟨zL7 P hb, ?_⟩;have := zGz hr hm hg h hk;rw [zId] at this;exact this
   · rename_i f args hc;rw [hc];cases hl : good.light f with
     | true =>
       rw [hl] at h;simp only [cond_true] at h;split at h
       · rename_i v h' c' hcall;refine zAy.keep (hasK s.h) (zGQ hr hm hg hcall ?_);have := zGz hr hm hg h hk;rw [zKk, zHw] at this;exact this
       · cases h
     | false =>
     rw [hl] at h;simp only [cond_false] at h;split at h
     · rename_i v h' c' hcall;refine zGQ hr hm hg hcall ?_;have := zGz hr hm hg h hk;rw [zKk] at this;exact this
     · cases h
theorem zEQ {run : Run} (hr : RunOK P run) (hm : P.follows .mixedOrders = true) (hg : GoodsOK P good) {K : PS → Prop} {ops : Array Oper} {d : Bool} : ∀ {l : List Oper} {i : Nat} {σ : GI} {tr : List Foot} {s' : IS}, TrI tr i → i + l.length = ops.size → gOpsI P good run ops d l i σ tr = some s' → K s'.abs → gOps P ops d K l i σ.abs tr
 | [], i, σ, tr, s', hi, hl, h, hk => by
   unfold gOpsI at h; unfold gOps;cases hb : (!d || trOKB ops tr) with
   | false => rw [hb] at h; cases h
   | true =>
     rw [hb] at h; cases h;rw [finI_abs] at hk;refine ⟨fun hd => ?_, hk⟩;rw [hd] at hb;exact zJe hi (by simp at hl; omega) (by simpa using hb)
 | o :: rest, i, σ, tr, s', hi, hl, h, hk => by
   have hi' : ∀ rd wr, TrI (tr ++ [(⟨i, rd, wr⟩ : Foot)]) (i + 1) := fun rd wr => hi.step rd wr;have hl' : i + 1 + rest.length = ops.size := by simp at hl; omega
   unfold gOpsI at h; unfold gOps;cases hgo : gobB ops (rGet σ.s.r) (gGet σ.g) o.guard with
   | false => rw [hgo] at h; cases h
   | true =>
     rw [hgo] at h;simp only [cond_true] at h;refine ⟨zDl hgo, ?_⟩;show match zAX (rGet σ.s.r) o.op with | none => _ | some (f, args) => _
     have hst : ∀ (e : Eff) (c : Bool), (⟨stepI σ.s o e, gPut σ.g o.dst c⟩ : GI).abs = stepG σ.abs o c e := fun e c => by
       simp only [GI.abs, stepG, zId, zIM]
     split at h
     · rename_i hc;rw [hc];simp only;cases hgv : gval ops σ.abs o.guard with
       | false =>
         rw [hgv] at h;simp only [cond_false] at h;refine ⟨(fun hn => by cases hn), (fun hn => by cases hn), ?_⟩;have := zEQ hr hm hg (hi' _ _) hl' h hk;rw [hst] at this;exact this
       | true =>
         rw [hgv] at h;simp only [cond_true] at h;cases hb : ((zCL (rGet σ.s.r) (gGet σ.g) o.op && okB P (ev (rGet σ.s.r)) (hGet σ.s.h) o.op) && (!(eff P (ev (rGet σ.s.r)) (hGet σ.s.h) (zAH o, cGet σ.s.c (zAH o)) o.op).bump || o.dst.isSome)) with
         | false => rw [hb] at h; cases h
         | true =>
           rw [hb] at h;simp only [cond_true] at h;simp only [Bool.and_eq_true, Bool.or_eq_true, Bool.not_eq_true'] at hb;obtain ⟨⟨h1, h2⟩, h3⟩ := hb;refine ⟨fun _ => ⟨zB1 h1, zL7 P h2⟩, fun hbu => ?_, ?_⟩
           · rcases h3 with h3 | h3
             · have h3' : (eff P (ev (rGet σ.s.r)) (hGet σ.s.h) (zAH o, cGet σ.s.c (zAH o)) o.op).bump = true := hbu;rw [h3'] at h3; cases h3
             · exact h3
           · have := zEQ hr hm hg (hi' _ _) hl' h hk;rw [hst] at this;exact this
     · rename_i f args hc;rw [hc];simp only;cases hgv : gval ops σ.abs o.guard with
       | true =>
         rw [hgv] at h;simp only [cond_true] at h;cases hv : zCL (rGet σ.s.r) (gGet σ.g) o.op with
         | false => rw [hv] at h; cases h
         | true =>
           rw [hv] at h;simp only [cond_true] at h;cases hbar : (!d || (zEU ops i && trOKB ops tr)) with
           | true =>
             rw [hbar] at h;simp only [cond_true] at h;split at h
             · rename_i v h' c' hp;refine .inr (.inl ⟨rfl, zB1 hv, fun hd => ?_, zGQ hr hm hg hp ?_⟩)
               · rw [hd] at hbar;simp only [Bool.not_true, Bool.false_or, Bool.and_eq_true] at hbar;exact ⟨hbar.1, zJe hi (by simp at hl; omega) hbar.2⟩
               · have := zEQ hr hm hg (TrI.nil _) hl' h hk;simp only [GI.abs, zKk, zIM] at this;exact this
             · cases h
           | false =>
             rw [hbar] at h;simp only [cond_false] at h;split at h
             · rename_i v hp;refine .inl ⟨v, fun _ => ⟨zB1 hv, pureCallI_ok hr hm hg hp⟩, ?_⟩;have := zEQ hr hm hg (hi' _ _) hl' h hk;rw [hst] at this;exact this
             · cases h
       | false =>
         rw [hgv] at h;simp only [cond_false] at h;refine .inl ⟨.dead, (fun hn => by cases hn), ?_⟩;have := zEQ hr hm hg (hi' _ _) hl' h hk;rw [hst] at this;exact this
theorem xRegI_ok {run : Run} (hr : RunOK P run) (hm : P.follows .mixedOrders = true) (hg : GoodsOK P good) {K : PS → Prop} {ops : Array Oper} {d : Bool} {s s' : IS} (h : xRegI P good run ops d s = some s') (hk : K s'.abs) : d = true ∧ zKG P ops K s.abs := by simp [xRegI] at h
theorem loop_next {run : Run} (hr : RunOK P run) {c : Code} {Q : Exit → PS → Prop} {s s1 : IS} (h1 : run c s = some (.normal, s1)) (h2 : pwp P (.loop c) Q s1.abs) : pwp P (.loop c) Q s.abs := by
 obtain ⟨I, n, hI, hs⟩ := h2;refine zHQ (fun m σ => (m = n + 1 ∧ σ = s.abs) ∨ (m ≤ n ∧ I m σ)) (n + 1) (.inl ⟨rfl, rfl⟩) fun m σ hm => ?_;rcases hm with ⟨rfl, rfl⟩ | ⟨hm, hI'⟩
 · exact hr c s .normal s1 h1 _ ⟨n, Nat.lt_succ_self n, .inr ⟨Nat.le_refl n, hI⟩⟩
 · refine zBW c (fun e σ' he => ?_) (hs m σ hI')
   cases e <;> first
     | (obtain ⟨n', h3, h4⟩ := he; exact ⟨n', h3, .inr ⟨by omega, h4⟩⟩)
     | exact he
theorem loop_ends {run : Run} (hr : RunOK P run) {c : Code} {Q : Exit → PS → Prop} {s s1 : IS} {e : Exit} (h1 : run c s = some (e, s1)) (hn : e ≠ .normal) (h2 : Q e s1.abs) : pwp P (.loop c) Q s.abs := by
 refine zHQ (fun m σ => σ = s.abs) 0 rfl fun m σ hm => ?_;subst hm;refine hr c s e s1 h1 _ ?_;cases e <;> first | exact (hn rfl).elim | exact h2
theorem zJx : ∀ (ds : List Nat) (vs : List PV) (r : RL), rGet (putsI r ds vs) = putRs (rGet r) ds vs
 | [], _, _ => rfl
 | _ :: _, [], _ => rfl
 | d :: ds, v :: vs, r => by unfold putsI putRs; rw [zJx ds vs, zFe]
theorem zHe {run : Run} {r : RL} {ps : List Nat} {x y : Code} {chk : HL → Bool} : ∀ {items : List (List PV)} {h : HL} {c : CL} {q : HL × CL}, zFa run r ps x y chk items h c = some q → ∀ row ∈ items, row.length = ps.length
 | [], _, _, _, _ => by simp
 | row :: rest, h, c, q, hq => by
   unfold zFa at hq;cases hb : (chk h && Nat.beq row.length ps.length) with
   | false => rw [hb] at hq; cases hq
   | true =>
     rw [hb] at hq;simp only [cond_true] at hq;simp only [Bool.and_eq_true, Nat.beq_eq] at hb;split at hq
     · split at hq
       · intro row' hr;rcases List.mem_cons.1 hr with rfl | hr
         · exact hb.2
         · exact zHe hq row' hr
       · cases hq
     · cases hq
theorem rangeI_chk {run : Run} {r : RL} {ps : List Nat} {x y : Code} {chk : HL → Bool} {items : List (List PV)} {h : HL} {c : CL} {q : HL × CL} (hq : zFa run r ps x y chk items h c = some q) : chk h = true := by
 cases items with
 | nil =>
   unfold zFa at hq;cases hb : chk h with
   | false => rw [hb] at hq; cases hq
   | true => rfl
 | cons row rest =>
   unfold zFa at hq;cases hb : chk h with
   | false => rw [hb] at hq; cases hq
   | true => rfl
theorem range_ok {run : Run} (hr : RunOK P run) (hm : P.follows .mixedOrders = true) {g : Operand} {ps : Array Nat} {x y : Code} {f : FuncId} {caps : List PV} {items : List (List PV)} {chk : HL → Bool} {s : IS} {hF : HL} {cF : CL} {Q : Exit → PS → Prop} (hit : zG5 P f caps items (fun H => ∃ hl, H = hGet hl ∧ chk hl = true))
   (hg : ev (rGet s.r) g = .func (.func f) [] caps) (h1 : zCc x = true) (h2 : zCc y = true) (hq : zFa run s.r ps.toList x y chk items s.h s.c = some (hF, cF)) (hQ : Q .normal ⟨rGet s.r, hGet hF, cGet cF⟩) : zIb P g ps x y Q s.abs := by
 refine range_rule hm hit hg (fun j H C => ∃ hl cl, H = hGet hl ∧ C = cGet cl ∧ zFa run s.r ps.toList x y chk (items.drop j) hl cl = some (hF, cF)) ⟨s.h, s.c, rfl, rfl, hq⟩ ?_ h1 h2 ?_ ?_ ?_
 · rintro j H C ⟨hl, cl, rfl, rfl, h⟩; exact ⟨hl, rfl, rangeI_chk h⟩
 · intro row hrow; rw [zHe hq row hrow]; simp
 · rintro j row hrow H C ⟨hl, cl, rfl, rfl, h⟩
   have hd : items.drop j = row :: items.drop (j + 1) := by
     obtain ⟨hj, rfl⟩ := List.getElem?_eq_some_iff.1 hrow;exact List.drop_eq_getElem_cons hj
   rw [hd] at h;unfold zFa at h;cases hb : (chk hl && Nat.beq row.length ps.toList.length) with
   | false => rw [hb] at h; cases h
   | true =>
     rw [hb] at h;simp only [cond_true] at h;split at h
     · rename_i s1 hx;split at h
       · rename_i s2 hy;have := hr x _ .normal s1 hx (fun e s1 => e = .normal ∧ pwp P y (fun e s2 => e = .normal ∧ ∃ hl cl, s2.h = hGet hl ∧ s2.cnt = cGet cl ∧ zFa run s.r ps.toList x y chk (items.drop (j + 1)) hl cl = some (hF, cF)) s1) ⟨rfl, hr y s1 .normal s2 hy _ ⟨rfl, s2.h, s2.c, rfl, rfl, h⟩⟩;simp only [IS.abs, zJx] at this;exact this
       · cases h
     · cases h
 · rintro H C ⟨hl, cl, rfl, rfl, h⟩
   rw [List.drop_length] at h;unfold zFa at h;cases hb : chk hl with
   | false => rw [hb] at h; cases h
   | true => rw [hb] at h; cases h; exact hQ
theorem runStep_ok {run : Run} (hr : RunOK P run) (hm : P.follows .mixedOrders = true) (hg : GoodsOK P good) : RunOK P (zJs P good run) := by
 intro c s e s' h Q hQ;unfold zJs at h;split at h
 · cases h; exact hQ
 · rename_i id ops d;show zBA P ops d (Q .normal) s.abs;unfold zBA;intro _;cases hb : (zCn ops && !d) with
   | true =>
     rw [hb] at h;simp only [cond_true] at h;rw [if_pos rfl];split at h
     · rename_i s1 h1; cases h; exact zGz hr hm hg h1 hQ
     · cases h
   | false =>
     rw [hb] at h;simp only [cond_false] at h;rw [if_neg (by simp)];split at h
     · rename_i s1 h1;cases h;split at h1
       · rename_i s2 h2; cases h1; exact .inl (zEQ hr hm hg (TrI.nil 0) (by simp) h2 hQ)
       · exact .inr (xRegI_ok hr hm hg h1 hQ)
     · cases h
 · rename_i a b;split at h
   · rename_i s1 h1;exact hr a s .normal s1 h1 _ (hr b s1 e s' h Q hQ)
   · rename_i hn;refine hr a s e s' h _ ?_;cases e <;> first | exact (hn _ h).elim | exact hQ
 · rename_i c x y;split at h
   · rename_i b hb;refine ⟨b, hb, fun ht => ?_, fun hf => ?_⟩
     · subst ht; exact hr x s e s' h Q hQ
     · subst hf; exact hr y s e s' h Q hQ
   · cases h
 · rename_i id c;split at h
   · rename_i i s1 h1;refine hr c s (.exit i) s1 h1 _ ?_;show if i = id then Q .normal s1.abs else Q (.exit i) s1.abs
     split at h
     · rename_i hi; cases h; rw [if_pos hi]; exact hQ
     · rename_i hi; cases h; rw [if_neg hi]; exact hQ
   · rename_i hn;refine hr c s e s' h _ ?_;cases e <;> first | exact (hn _ _ h).elim | exact hQ
 · rename_i c;split at h
   · rename_i s1 h1;exact loop_next hr h1 (hr (.loop c) s1 e s' h Q hQ)
   · rename_i hn;refine loop_ends hr h (fun he => ?_) hQ;subst he;exact hn _ h
 · cases h; exact hQ
 · cases h; exact hQ
 · rename_i g ps x y;split at h
   · rename_i f caps hg';split at h
     · rename_i items chk hi;cases hb : (zCc x && zCc y) with
       | false => rw [hb] at h; cases h
       | true =>
         rw [hb] at h;simp only [cond_true] at h;simp only [Bool.and_eq_true] at hb;split at h
         · rename_i hF cF hq;cases h;exact range_ok hr hm (hg.iter _ _ _ _ _ hi) hg' hb.1 hb.2 hq hQ
         · cases h
     · cases h
   · cases h
 · cases h
theorem zK1 (hm : P.follows .mixedOrders = true) (hg : GoodsOK P good) : ∀ n : Nat, RunOK P (prun P good n)
 | 0 => fun c s e s' h => by cases h
 | n + 1 => runStep_ok (zK1 hm hg n) hm hg
def zDm (P : Program) (good : Goods) (n : Nat) (f : FuncId) (args : List PV) : Option PV :=
 match callI P good (prun P good n) f args [] [] with
 | some (v, h', _) => match outI (hGet h') 9 v with
   | some r => bif pureB 9 r then some r else none
   | none => none
 | none => none
theorem zCj (hm : P.follows .mixedOrders = true) (hg : GoodsOK P good) {n : Nat} {f : FuncId} {args : List PV} {r : PV} (hc : zDm P good n f args = some r) : PCalls P f args r := by
 unfold zDm at hc;split at hc
 · rename_i p h' c' hp;split at hc
   · rename_i r' ho;cases hb : pureB 9 r' with
     | false => rw [hb] at hc; cases hc
     | true =>
       rw [hb] at hc; cases hc;obtain ⟨fn, code, h1, h2, h3, h4, h5, h6⟩ := zGY (zK1 hm hg n) hg hp;exact .of_pwp h1 h2 (by simp) h3 hm h4 h5 (zCy hb) (h6 (fun p h _ => Out h p r) (zHh ho))
   · cases hc
 · cases hc
def inRange (lo n : Nat) (f : FuncId) : Bool := Nat.ble lo f && Nat.blt f (lo + n)
end
end Go.Pv
