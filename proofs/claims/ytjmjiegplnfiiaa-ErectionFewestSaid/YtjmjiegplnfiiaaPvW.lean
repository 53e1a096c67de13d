/- The frame of a law: from contracts on pure values to what a statement asks. -/
import Derived.Test.YtjmjiegplnfiiaaPvV
import Derived.Carry
import Derived.RowKit
import Derived.ProofKit
import Derived.WideShapes
namespace Go.Pv
open Go Go.RowKit Go.ChangeShapes Go.WideShapes
section
variable {H : Type} {enc : TypeId × Value → H} {P : Program} {W W' : World}

/-- A pure value is of a type. -/
def ArgP (P : Program) (t : TypeId) (q : PV) : Prop :=
 if tyAgg P t then ∃ cs tys, q = .agg cs ∧ cellTys P 9 t = some tys ∧ cs.length = tys.length ∧ ∀ (i : Nat) (ty : TypeId) (p : PV), tys[i]? = some ty → cs[i]? = some p → CellP P ty p
 else CellP P t q

def okArg (P : Program) (t : TypeId) : Bool :=
 if tyAgg P t then match cellTys P 9 t with | some tys => tys.all (okTy P 9) | none => false
 else okTy P 9 t

inductive ArgsP (P : Program) : List TypeId → List PV → Prop where
 | nil : ArgsP P [] []
 | cons {t : TypeId} {q : PV} {ts : List TypeId} {qs : List PV} (h : ArgP P t q) (hs : ArgsP P ts qs) : ArgsP P (t :: ts) (q :: qs)

theorem arg_rep {t : TypeId} {v : Value} {d : DataW H} {ps : List MemPlace} {base : Nat} (hok : okArg P t = true) (hv : Value.okWide P W .any base t v) (h : DataW.Trod enc P W 0 (fun _ => true) true t v d ps) :
   ∃ q, Rep (pureEnv W (fun _ => False) true) v q ∧ ArgP P t q := by
 obtain ⟨fuel, hf⟩ := h
 unfold okArg at hok
 unfold ArgP
 cases hg : tyAgg P t with
 | true =>
   rw [hg] at hok
   simp only [if_true] at hok ⊢
   split at hok
   · rename_i tys htys
     obtain ⟨cs, rfl⟩ : ∃ cs, v = .agg cs := by
       unfold tyAgg at hg
       unfold Value.okWide at hv
       split at hg
       · rename_i hu; rw [hu] at hv; obtain ⟨cs, h, _⟩ := hv; exact ⟨cs, h⟩
       · rename_i hu; rw [hu] at hv; obtain ⟨cs, h, _⟩ := hv; exact ⟨cs, h⟩
       · cases hg
     simp only [Value.cells] at hf
     obtain ⟨h1, h2⟩ := trod_cells 9 fuel t cs.toList _ tys htys hf
     have each : ∀ i, i < cs.size → ∃ q ty, tys[i]? = some ty ∧ Rep (pureEnv W (fun _ => False) true) (cs.getD i undef) q ∧ CellP P ty q := fun i hi => by
       have hty : tys[i]? = some (tys[i]'(by simp at h1; omega)) := List.getElem?_eq_getElem (by simp at h1; omega)
       have hc : cs.toList[i]? = some (cs.getD i undef) := by simp [hi]
       obtain ⟨fuel', x', _, h3⟩ := h2 i _ _ hty hc
       obtain ⟨q, h4, h5⟩ := cell_rep fuel' 9 _ _ x' (List.all_eq_true.1 hok _ (List.getElem_mem _)) h3
       exact ⟨q, _, hty, h4, h5⟩
     let qf : Nat → PV := fun i => if h : i < cs.size then Classical.choose (each i h) else .dead
     have hqf : ∀ i, i < cs.size → ∃ ty, tys[i]? = some ty ∧ Rep (pureEnv W (fun _ => False) true) (cs.getD i undef) (qf i) ∧ CellP P ty (qf i) := fun i hi => by
       have := Classical.choose_spec (each i hi)
       have hq : qf i = Classical.choose (each i hi) := dif_pos hi
       rw [hq]; exact this
     refine ⟨.agg ((List.range cs.size).map qf), .agg (by simp) (fun i u p h3 h4 => ?_), (List.range cs.size).map qf, tys, rfl, htys, by simp at h1 ⊢; exact h1, fun i ty p h3 h4 => ?_⟩
     · have hi : i < cs.size := (Array.getElem?_eq_some_iff.1 h3).1
       obtain ⟨ty, _, h5, _⟩ := hqf i hi
       have hu : cs.getD i undef = u := by simp [Array.getElem?_eq_some_iff] at h3; obtain ⟨h, rfl⟩ := h3; simp [h]
       have hp : p = qf i := by simp [hi] at h4; exact h4.symm
       rw [hp, ← hu]; exact h5
     · have hi : i < cs.size := by have := (List.getElem?_eq_some_iff.1 h4).1; simpa using this
       obtain ⟨ty', h5, _, h6⟩ := hqf i hi
       have hp : p = qf i := by simp [hi] at h4; exact h4.symm
       rw [h3] at h5; cases h5
       rw [hp]; exact h6
   · cases hok
 | false =>
   rw [hg] at hok
   simp only [Bool.false_eq_true, if_false] at hok ⊢
   have hone : v.cells.toList = [v] := by
     unfold okTy at hok
     split at hok
     · rename_i ht; obtain ⟨b, rfl⟩ := okWide_bool ht hv; rfl
     · rename_i ht; obtain ⟨b, rfl⟩ := okWide_int ht hv; rfl
     · rename_i ht; obtain ⟨b, rfl⟩ := okWide_string ht hv; rfl
     · rename_i ht; obtain ⟨a, l, c, rfl⟩ := okWide_slice ht hv; rfl
     · cases hok
   rw [hone] at hf
   obtain ⟨q, h1, h2⟩ := cell_rep fuel 9 t v _ hok hf
   exact ⟨q, h1, h2⟩

theorem args_rep {base : Nat} : ∀ {ts : List TypeId} {vs : List Value} {ds : List (DataW H)} {ps : List MemPlace}, ts.all (okArg P) = true → (∀ (j : Nat) (t : TypeId) (v : Value), ts[j]? = some t → vs[j]? = some v → Value.okWide P W .any base t v) →
   DataW.TrodAll enc P W 0 (fun _ => true) true ts vs ds ps → ∃ qs, ArgsP P ts qs ∧ vs.length = qs.length ∧ ds.length = ts.length ∧ ∀ (i : Nat) (u : Value) (p : PV), vs[i]? = some u → qs[i]? = some p → Rep (pureEnv W (fun _ => False) true) u p
 | [], [], [], _, _, _, _ => ⟨[], .nil, rfl, rfl, by simp⟩
 | t :: ts, v :: vs, d :: ds, ps, hok, hv, h => by
   obtain ⟨p, q, h1, h2, _⟩ := h
   simp only [List.all_cons, Bool.and_eq_true] at hok
   obtain ⟨x, h3, h4⟩ := arg_rep hok.1 (hv 0 t v rfl rfl) h1
   obtain ⟨xs, h5, h6, h7, h8⟩ := args_rep hok.2 (fun j t v h1 h2 => hv (j + 1) t v (by simpa using h1) (by simpa using h2)) h2
   refine ⟨x :: xs, .cons h4 h5, by simp [h6], by simp [h7], fun i u p h9 h10 => ?_⟩
   cases i with
   | zero => simp at h9 h10; subst h9; subst h10; exact h3
   | succ i => exact h8 i u p (by simpa using h9) (by simpa using h10)
 | [], [], _ :: _, _, _, _, h => h.elim
 | [], _ :: _, [], _, _, _, h => h.elim
 | [], _ :: _, _ :: _, _, _, _, h => h.elim
 | _ :: _, [], _, _, _, _, h => by cases ‹List (DataW H)› <;> exact h.elim
 | _ :: _, _ :: _, [], _, _, _, h => h.elim

theorem trodAll_below (hl : laidOutB P = true) (hb : Below W.heap.size W W') : ∀ {ts : List TypeId} {vs : List Value} {ds : List (DataW H)} {ps : List MemPlace}, ts.all (fun t => P.readableRec t && decide (t < P.types.size)) = true →
   DataW.TrodAll enc P W 0 (fun _ => true) true ts vs ds ps → DataW.TrodAll enc P W' 0 (fun b => decide (b < W.heap.size)) true ts vs ds ps
 | [], [], [], _, _, h => h
 | t :: ts, v :: vs, d :: ds, ps, hok, h => by
   obtain ⟨p, q, h1, h2, h3⟩ := h
   simp only [List.all_cons, Bool.and_eq_true, decide_eq_true_eq] at hok
   refine ⟨p, q, Below.trod hl hok.1.1 hok.1.2 h1 hb (fun x hx => ?_), trodAll_below hl hb hok.2 h2, h3⟩
   obtain ⟨m, hm⟩ := h1
   exact DataW.trod_lt m _ _ _ hm x hx
 | [], [], _ :: _, _, _, h => h.elim
 | [], _ :: _, [], _, _, h => h.elim
 | [], _ :: _, _ :: _, _, _, h => h.elim
 | _ :: _, [], _, _, _, h => by cases ‹List (DataW H)› <;> exact h.elim
 | _ :: _, _ :: _, [], _, _, h => h.elim

/-- What a law's row asks of the call, out of the law's contract on pure values. -/
theorem law_stepG {fn : Func} {f : FuncId} {s : ChangeSpec} {ts : List TypeId} {tb : TypeId} {base : Nat} {args : Array Value} {ds gs : List (DataW H)} {before : List MemPlace}
   (hps : fn.params.toList = ts) (hrt : fn.resultTypes.toList = [tb]) (hn : fn.resultTypes.size = 1) (htb : P.underlying tb = some .bool) (hvars : s.vars = [])
   (hfn : ∀ ds : List (DataW H), ds.length = ts.length → s.fn H ds = { results := [.lit (.bool true)], args := ds })
   (hl : laidOutB P = true) (hrd : ts.all (fun t => P.readableRec t && decide (t < P.types.size)) = true) (hok : ts.all (okArg P) = true)
   (hlaw : ∀ qs, ArgsP P ts qs → PCalls P f qs (.bool true))
   (hval : ∀ (j : Nat) t v, fn.params[j]? = some t → args[j]? = some v → Value.okWide P W .any base t v) (hW : DataW.Whole enc P fn.params.toList s.vars false W args.toList ds gs before) (hgw : gw W W.heap.size) :
   Calls P f args W fun e W' => ∃ v, e = .returned v ∧ s.post enc P fn false true false false W args v W' := by
 have hW' := hW
 obtain ⟨p, q, hA, hV, rfl, hfz, hnd⟩ := hW
 rw [hvars] at hV
 obtain ⟨rfl, rfl⟩ := trodVars_none hV
 rw [hps] at hA
 obtain ⟨qs, h1, h2, h3, h4⟩ := args_rep (base := base) hok (fun j t v h5 h6 => hval j t v (by rw [← hps] at h5; simpa using h5) (by simpa using h6)) hA
 have hc := hlaw qs h1
 refine (hc.2.2 W (fun _ => False) args (fun _ h => h.elim) hgw (by simpa using h2) (fun i u p h5 h6 => h4 i u p (by simpa using h5) h6)).mono ?_
 rintro e W' ⟨u, rfl, hr, hb⟩
 have hu := hr.sc_inv
 subst hu
 refine ⟨_, rfl, ds, [], p ++ [], [], p, [], hW', ?_, ?_, ?_, hb.frame _, fun h => by cases h⟩
 · rw [hrt, hn, List.append_nil, hfn ds h3]
   exact trodAll_mk1 (shut_bool htb _)
 · rw [hps, List.append_nil, hfn ds h3]
   exact trodAll_below hl hb hrd hA
 · rw [hvars, List.append_nil, hfn ds h3]
   rfl

/-! GLOBALS -/
/-- The same, where no variables are listed. -/
theorem law_step {fn : Func} {f : FuncId} {s : ChangeSpec} {ts : List TypeId} {tb : TypeId} {base : Nat} {args : Array Value} {ds gs : List (DataW H)} {before : List MemPlace}
   (hps : fn.params.toList = ts) (hrt : fn.resultTypes.toList = [tb]) (hn : fn.resultTypes.size = 1) (htb : P.underlying tb = some .bool) (hvars : s.vars = [])
   (hfn : ∀ ds : List (DataW H), ds.length = ts.length → s.fn H ds = { results := [.lit (.bool true)], args := ds })
   (hl : laidOutB P = true) (hrd : ts.all (fun t => P.readableRec t && decide (t < P.types.size)) = true) (hok : ts.all (okArg P) = true)
   (hlaw : ∀ qs, ArgsP P ts qs → PCalls P f qs (.bool true))
   (hval : ∀ (j : Nat) t v, fn.params[j]? = some t → args[j]? = some v → Value.okWide P W .any base t v) (hW : DataW.Whole enc P fn.params.toList s.vars false W args.toList ds gs before) :
   Calls P f args W fun e W' => ∃ v, e = .returned v ∧ s.post enc P fn false true false false W args v W'  :=
 law_stepG hps hrt hn htb hvars hfn hl hrd hok hlaw hval hW fun _ => .dead
/-! GLOBALS END -/
end
end Go.Pv
