/- The P level is sound: regions whose order is drawn. Operations that leave each other alone may change places. -/
import Derived.Test.YtjmjiegplnfiiaaPvN
namespace Go.Pv
open Go Go.RowKit
section
variable {P : Program}

theorem srcRows_heap {h h' : Heap} {sz : Nat} {x : PV} (hr : ∀ k ∈ (srcRows h sz x).2.2, h' k = h k) : srcRows h' sz x = srcRows h sz x := by
 cases x with
 | ref k sz' off len =>
   have : h' k = h k := hr k (by simp only [srcRows]; split <;> simp)
   simp only [srcRows, this]
 | sc v => cases v <;> rfl
 | _ => rfl

theorem eff_heap {ρ : Operand → PV} {h h' : Heap} {key : Key} {o : Op} (hr : ∀ k ∈ (eff P ρ h key o).rd, h' k = h k) : eff P ρ h' key o = eff P ρ h key o := by
 cases o <;> try rfl
 case load t x =>
   simp only [eff] at hr ⊢
   unfold loadEff at hr ⊢
   generalize ρ x = p at hr ⊢
   cases p <;> try rfl
   rename_i k sz i j
   have : h' k = h k := hr k (by simp only; split <;> simp)
   simp only [this]
 case store t x y =>
   simp only [eff] at hr ⊢
   unfold storeEff at hr ⊢
   generalize ρ x = p at hr ⊢
   cases p <;> try rfl
   rename_i k sz i j
   have : h' k = h k := hr k (by simp only; split <;> simp)
   simp only [this]
 case range t x =>
   simp only [eff] at hr ⊢
   unfold rangeEff at hr ⊢
   generalize ρ x = p at hr ⊢
   cases p <;> try rfl
   rename_i key'
   have : h' key' = h key' := hr key' (by simp only; split <;> simp)
   simp only [this]
 case next x s =>
   simp only [eff] at hr ⊢
   unfold nextEff at hr ⊢
   generalize ρ x = p at hr ⊢
   cases p <;> try rfl
   rename_i key'
   have h0 : h' key' = h key' := hr key' (by
     simp only
     split
     · split <;> simp
     · simp)
   simp only [h0]
   split
   · rename_i km since seen hq
     have h1 : h' km = h km := hr km (by
       simp only [hq]
       split <;> simp)
     simp only [h1]
   · rfl
 case entry x =>
   simp only [eff] at hr ⊢
   unfold entryEff at hr ⊢
   generalize ρ x = p at hr ⊢
   cases p <;> try rfl
   rename_i key'
   have h0 : h' key' = h key' := hr key' (by
     simp only
     split
     · split <;> simp
     · simp)
   simp only [h0]
   split
   · rename_i km since seen hq
     have h1 : h' km = h km := hr km (by
       simp only [hq]
       split <;> simp)
     simp only [h1]
   · rfl
 case lookup t m k ok =>
   simp only [eff] at hr ⊢
   unfold lookupEff at hr ⊢
   cases hm : mapTy P t with
   | none => rfl
   | some ke =>
     rw [hm] at hr
     simp only at hr ⊢
     generalize ρ m = p at hr ⊢
     cases p <;> try rfl
     rename_i key'
     have : h' key' = h key' := hr key' (by simp only; split <;> simp)
     simp only [this]
 case mapUpdate t m k v =>
   simp only [eff] at hr ⊢
   unfold mapUpdateEff at hr ⊢
   cases hm : mapTy P t with
   | none => rfl
   | some ke =>
     rw [hm] at hr
     simp only at hr ⊢
     generalize ρ m = p at hr ⊢
     cases p <;> try rfl
     rename_i key'
     have : h' key' = h key' := hr key' (by simp only; split <;> simp)
     simp only [this]
 case mapEntry t m k =>
   simp only [eff] at hr ⊢
   unfold mapEntryEff at hr ⊢
   cases hm : mapTy P t with
   | none => rfl
   | some ke =>
     rw [hm] at hr
     simp only at hr ⊢
     generalize ρ m = p at hr ⊢
     cases p <;> try rfl
     rename_i key'
     have : h' key' = h key' := hr key' (by simp only; split <;> simp)
     simp only [this]
 case entryStore t m s v =>
   simp only [eff] at hr ⊢
   unfold entryStoreEff at hr ⊢
   generalize ρ m = p at hr ⊢
   cases p <;> try rfl
   rename_i key'
   have : h' key' = h key' := hr key' (by
     simp only
     split
     · split <;> simp
     · simp)
   simp only [this]
 case call c =>
   obtain ⟨callee, args, ts⟩ := c
   cases callee with
   | value f => rfl
   | invoke r m => rfl
   | builtin b =>
     simp only [eff] at hr ⊢
     generalize args.toList.map ρ = as at hr ⊢
     generalize ts.toList = tl at hr ⊢
     unfold builtinEff at hr ⊢
     split at hr
     · rename_i t _ x _
       unfold lenEff at hr ⊢
       cases x with
       | map key' =>
         have : h' key' = h key' := hr key' (by simp only; split <;> simp)
         simp only [this]
       | sc v => cases v <;> rfl
       | _ => rfl
     · rename_i t t2 _ s x _
       unfold appendEff at hr ⊢
       simp only at hr ⊢
       cases s with
       | ref k sz off len =>
         simp only at hr
         have h1 : h' k = h k := hr k (by split <;> simp)
         have h2 : srcRows h' (tySize P (elemTy P t)) x = srcRows h (tySize P (elemTy P t)) x := srcRows_heap fun k2 hk2 => hr k2 (by split <;> simp [hk2])
         simp only [h1, h2]
       | nil =>
         simp only at hr
         have h2 : srcRows h' (tySize P (elemTy P t)) x = srcRows h (tySize P (elemTy P t)) x := srcRows_heap fun k2 hk2 => hr k2 (by cases (srcRows h (tySize P (elemTy P t)) x).2.1.isEmpty <;> exact hk2)
         simp only [h2]
       | _ =>
         simp only at hr
         have h2 : srcRows h' (tySize P (elemTy P t)) x = srcRows h (tySize P (elemTy P t)) x := srcRows_heap fun k2 hk2 => hr k2 hk2
         simp only [h2]
     · rename_i t _ m k _
       unfold mapDeleteEff at hr ⊢
       cases hm : mapTy P t with
       | none => rfl
       | some ke =>
         rw [hm] at hr
         simp only at hr ⊢
         cases m <;> try rfl
         rename_i key'
         have : h' key' = h key' := hr key' (by simp only; split <;> simp)
         simp only [this]
     · rename_i t _ x _
       unfold clearEff at hr ⊢
       cases x with
       | ref k sz off len =>
         have : h' k = h k := hr k (by simp only; split <;> simp [Eff.badAt])
         simp only [this]
       | _ => rfl
     · rename_i t _ s x _
       unfold copyEff at hr ⊢
       simp only at hr ⊢
       cases s with
       | ref k sz off len =>
         simp only at hr
         have h1 : h' k = h k := hr k (by split <;> simp)
         have h2 : srcRows h' (tySize P (elemTy P t)) x = srcRows h (tySize P (elemTy P t)) x := srcRows_heap fun k2 hk2 => hr k2 (by split <;> simp [hk2])
         simp only [h1, h2]
       | _ =>
         simp only at hr
         have h2 : srcRows h' (tySize P (elemTy P t)) x = srcRows h (tySize P (elemTy P t)) x := srcRows_heap fun k2 hk2 => hr k2 hk2
         simp only [h2]
     · rfl
     · rfl
     · rfl

theorem inn0_heap {h h' : Heap} {p q : PV} (hi : Inn0 h p q) (hr : ∀ k ∈ keyOf p, h' k = h k) : Inn0 h' p q := by
 cases hi with
 | pure hp => exact .pure hp
 | lit ht => exact .lit ht
 | nil t sz => exact .nil t sz
 | ref hk hl he hp => exact .ref (by rw [hr _ (by simp [keyOf])]; exact hk) hl he hp
 | ptr hk hp => exact .ptr (by rw [hr _ (by simp [keyOf])]; exact hk) hp
 | lptr ht => exact .lptr ht

theorem inn_heap {h h' : Heap} {p q : PV} (hi : Inn h p q) (hr : ∀ k ∈ keysOf p, h' k = h k) : Inn h' p q := by
 cases hi with
 | base hi =>
   cases hi with
   | pure hp => exact .base (.pure hp)
   | lit ht => exact .base (.lit ht)
   | nil t sz => exact .base (.nil t sz)
   | ref hk hl he hp => exact .base (.ref (by rw [hr _ (by simp [keysOf, keyOf])]; exact hk) hl he hp)
   | ptr hk hp => exact .base (.ptr (by rw [hr _ (by simp [keysOf, keyOf])]; exact hk) hp)
   | lptr ht => exact .base (.lptr ht)
 | func hl hl' ha hc =>
   refine .func hl hl' (fun i p q h1 h2 => inn0_heap (ha i p q h1 h2) fun k hk => hr k ?_) (fun i p q h1 h2 => inn0_heap (hc i p q h1 h2) fun k hk => hr k ?_)
   · simp only [keysOf, List.mem_append, List.mem_flatMap]; exact .inl ⟨p, List.mem_of_getElem? h1, hk⟩
   · simp only [keysOf, List.mem_append, List.mem_flatMap]; exact .inr ⟨p, List.mem_of_getElem? h1, hk⟩
 | agg hl ha =>
   refine .agg hl fun i p q h1 h2 => inn0_heap (ha i p q h1 h2) fun k hk => hr k ?_
   simp only [keysOf, List.mem_flatMap]; exact ⟨p, List.mem_of_getElem? h1, hk⟩

theorem inns_heap {h h' : Heap} {a b : List PV} (hi : Inns h a b) (hr : ∀ k ∈ a.flatMap keysOf, h' k = h k) : Inns h' a b := by
 induction hi with
 | nil => exact .nil
 | cons h1 h2 ih => exact .cons (inn_heap h1 fun k hk => hr k (by simp [hk])) (ih fun k hk => hr k (by simp only [List.flatMap_cons, List.mem_append]; exact .inr hk))

theorem ev_agree {r r' : Nat → PV} {x : Operand} (h : ∀ t, x = .tmp t → r' t = r t) : ev r' x = ev r x := by
 cases x <;> try rfl
 exact h _ rfl

theorem looks_opnd {ops : Array Oper} {o : Oper} {t : Nat} (h : Operand.tmp t ∈ o.op.operands) : t ∈ o.looksAt ops := by
 unfold Oper.looksAt
 exact List.mem_append_left _ (List.mem_filterMap.2 ⟨.tmp t, by simpa using h, rfl⟩)

theorem looks_guard {ops : Array Oper} {o : Oper} {j d : Nat} {w : Bool} (hg : o.guard = some (j, w)) (hd : (ops[j]?).bind (·.dst) = some d) : d ∈ o.looksAt ops := by
 unfold Oper.looksAt
 refine List.mem_append_right _ ?_
 rw [hg]
 simp [hd]

/-- What an operation does hangs on what it looks at alone. -/
theorem GAt.local {ops : Array Oper} {i : Nat} {o : Oper} {c : Bool} {e : Eff} {σ τ : GS} {ft : Foot} (h : GAt P ops i o c e σ ft)
   (hr : ∀ t ∈ o.looksAt ops, τ.s.r t = σ.s.r t) (hG : ∀ t ∈ o.looksAt ops, τ.G t = σ.G t) (hh : ∀ k ∈ ft.rd, τ.s.h k = σ.s.h k) (hc : τ.s.cnt (siteOf o) = σ.s.cnt (siteOf o)) : GAt P ops i o c e τ ft := by
 obtain ⟨ho, hi, hgob, hcv, hrest⟩ := h
 have hev : ∀ x ∈ o.op.operands, ev τ.s.r x = ev σ.s.r x := fun x hx => ev_agree fun t ht => hr t (looks_opnd (by rw [← ht]; exact hx))
 have hok : ∀ x ∈ o.op.operands, okOpnd τ.G x = okOpnd σ.G x := fun x hx => by
   cases x <;> try rfl
   simp only [okOpnd]
   rw [hG _ (looks_opnd hx)]
 have hgv : gval ops τ o.guard = gval ops σ o.guard := by
   unfold gval
   cases hg : o.guard with
   | none => rfl
   | some gw =>
     obtain ⟨j, w⟩ := gw
     simp only
     cases hd : (ops[j]?).bind (·.dst) with
     | none => rfl
     | some d => simp only; rw [hr d (looks_guard hg hd), hG d (looks_guard hg hd)]
 have hgb : gob ops τ o.guard = gob ops σ o.guard := by
   unfold gob
   cases hg : o.guard with
   | none => rfl
   | some gw =>
     obtain ⟨j, w⟩ := gw
     simp only
     cases hd : (ops[j]?).bind (·.dst) with
     | none => rfl
     | some d => simp only; rw [hr d (looks_guard hg hd), hG d (looks_guard hg hd)]
 have hval : valid σ o.op → valid τ o.op := by
   intro hv
   generalize o.op = op at hv hev hok
   cases op
   case pick a b d =>
     obtain ⟨h1, h2, h3⟩ := hv
     refine ⟨by rw [hok _ (by simp [Op.operands])]; exact h1, fun h4 => ?_, fun h4 => ?_⟩
     · rw [hok _ (by simp [Op.operands])]; rw [hev _ (by simp [Op.operands])] at h4; exact h2 h4
     · rw [hok _ (by simp [Op.operands])]; rw [hev _ (by simp [Op.operands])] at h4; exact h3 h4
   all_goals exact fun x hx => by rw [hok x (by simpa using hx)]; exact hv x hx
 have hco : callOf τ.s.r o.op = callOf σ.s.r o.op := callOf_congr hev
 refine ⟨ho, hi, by rw [hgb]; exact hgob, by rw [hgv]; exact hcv, ?_⟩
 rcases hrest with ⟨h1, h2, h4, h5, h6, h7⟩ | ⟨f, args, v, h1, h2, h3, h4, h5⟩ | ⟨f, args, h1, h2, h3, h4, ⟨sz, rows, as', h5, h6, h7⟩, h8, h9⟩
 · refine .inl ⟨by rw [hco]; exact h1, fun hc' => ⟨hval (h2 hc').1, (h2 hc').2⟩, h4, ?_, h6, h7⟩
   cases c with
   | false => exact h5
   | true =>
     simp only [effG, if_true] at h5 ⊢
     rw [hc, eff_congr hev, eff_heap (fun k hk => hh k (by rw [h6, h5]; exact hk))]
     exact h5
 · refine .inr (.inl ⟨f, args, v, by rw [hco]; exact h1, fun hc' => ⟨hval (h2 hc').1, ?_⟩, h3, h4, h5⟩)
   obtain ⟨as', h6, h7⟩ := (h2 hc').2
   exact ⟨as', inns_heap h6 fun k hk => hh k (by rw [h4]; exact hk), h7⟩
 · refine .inr (.inr ⟨f, args, by rw [hco]; exact h1, h2, hval h3, h4, ⟨sz, rows, as', inns_heap h5 fun k hk => hh k (by rw [h8, h7]; exact hk), h6, ?_⟩, h8, h9⟩)
   rw [hc]; exact h7

theorem putR_ne {r : Nat → PV} {dst : Option Nat} {v : PV} {t : Nat} (h : dst ≠ some t) : putR r dst v t = r t := by
 cases dst with
 | none => rfl
 | some d => simp only [putR]; rw [if_neg (fun e => h (by rw [e]))]

theorem setG_ne {G : Nat → Bool} {dst : Option Nat} {c : Bool} {t : Nat} (h : dst ≠ some t) : setG G dst c t = G t := by
 cases dst with
 | none => rfl
 | some d => simp only [setG]; rw [if_neg (fun e => h (by rw [e]))]

theorem applyWr_ne {wr : List (Key × Option PObj)} : ∀ {h : Heap} {k : Key}, k ∉ wr.map (·.1) → applyWr h wr k = h k := by
 induction wr with
 | nil => intro h k _; rfl
 | cons x wr ih =>
   intro h k hk
   simp only [List.map_cons, List.mem_cons, not_or] at hk
   unfold applyWr at ih ⊢
   rw [List.foldl_cons, ih hk.2]
   simp [hk.1]

theorem applyWr_eq {wr : List (Key × Option PObj)} : ∀ {h h' : Heap} {k : Key}, h k = h' k → applyWr h wr k = applyWr h' wr k := by
 induction wr with
 | nil => intro h h' k he; exact he
 | cons x wr ih =>
   intro h h' k he
   unfold applyWr at ih ⊢
   rw [List.foldl_cons, List.foldl_cons]
   refine ih ?_
   simp only [he]

theorem applyWr_mem {wr : List (Key × Option PObj)} : ∀ {h h' : Heap} {k : Key}, k ∈ wr.map (·.1) → applyWr h wr k = applyWr h' wr k := by
 induction wr with
 | nil => intro h h' k hk; simp at hk
 | cons x wr ih =>
   intro h h' k hk
   unfold applyWr at ih ⊢
   rw [List.foldl_cons, List.foldl_cons]
   by_cases hx : k ∈ wr.map (·.1)
   · exact ih hx
   · have hkx : k = x.1 := by
       simp only [List.map_cons, List.mem_cons] at hk
       exact hk.resolve_right hx
     have := applyWr_eq (wr := wr) (h := fun k' => if k' = x.1 then x.2 else h k') (h' := fun k' => if k' = x.1 then x.2 else h' k') (k := k) (by simp [hkx])
     exact this

theorem applyWr_comm {wr wr' : List (Key × Option PObj)} (hd : disjointK (wr.map (·.1)) (wr'.map (·.1))) (h : Heap) : applyWr (applyWr h wr) wr' = applyWr (applyWr h wr') wr := by
 funext k
 by_cases h1 : k ∈ wr.map (·.1)
 · have h2 := hd k h1
   rw [applyWr_ne h2]
   exact applyWr_mem h1
 · rw [applyWr_ne h1 (h := applyWr h wr')]
   by_cases h2 : k ∈ wr'.map (·.1)
   · exact applyWr_mem h2
   · rw [applyWr_ne h2, applyWr_ne h2, applyWr_ne h1]

/-- What independence of two operations gives. -/
structure Free (ops : Array Oper) (a b : Oper) (x y : Foot) : Prop where
 apart : a.apart ops b = true
 site : siteOf a ≠ siteOf b ∨ (a.dst = none ∧ b.dst = none)
 wr : disjointK x.wr y.rd
 rw' : softOp a.op b.op = true ∨ disjointK y.wr x.rd
 ww : disjointK x.wr y.wr

theorem GAt.bump {ops : Array Oper} {i : Nat} {o : Oper} {c : Bool} {e : Eff} {σ : GS} {ft : Foot} (h : GAt P ops i o c e σ ft) : e.bump = true → o.dst.isSome = true := by
 obtain ⟨_, _, _, _, hrest⟩ := h
 rcases hrest with ⟨_, _, h4, _⟩ | ⟨_, _, _, _, _, h3, _⟩ | ⟨_, _, _, _, _, h4, _⟩
 · exact h4
 · subst h3; intro h; cases h
 · exact fun _ => h4

theorem GAt.wrs {ops : Array Oper} {i : Nat} {o : Oper} {c : Bool} {e : Eff} {σ : GS} {ft : Foot} (h : GAt P ops i o c e σ ft) : ft.wr = e.wr.map (·.1) := by
 obtain ⟨_, _, _, _, hrest⟩ := h
 rcases hrest with ⟨_, _, _, _, _, h7⟩ | ⟨_, _, _, _, _, h3, _, h5⟩ | ⟨_, _, _, _, _, _, _, _, h9⟩
 · exact h7
 · subst h3; exact h5
 · exact h9

theorem bumpC_ne {cnt : Nat → Nat} {s t : Nat} {b : Bool} (h : b = true → s ≠ t) : bumpC cnt s b t = cnt t := by
 cases b with
 | false => rfl
 | true => simp only [bumpC, if_true]; rw [if_neg (fun e => h rfl e.symm)]

theorem bumpC_comm (cnt : Nat → Nat) (s t : Nat) (b b' : Bool) : bumpC (bumpC cnt s b) t b' = bumpC (bumpC cnt t b') s b := by
 funext x
 cases b <;> cases b' <;> simp only [bumpC, if_true, Bool.false_eq_true, if_false]
 split <;> split <;> rfl

theorem scEq_eq {t : TypeId} {a b : PV} (ha : basicOk P t a = true) (hb : basicOk P t b = true) (h : scEq a b = true) : a = b := by
 unfold basicOk at ha hb
 split at ha <;> split at hb <;> first | (cases ha; done) | (cases hb; done) | skip
 all_goals simp_all [scEq]

theorem scEq_refl {t : TypeId} {a : PV} (ha : basicOk P t a = true) : scEq a a = true := by
 unfold basicOk at ha
 split at ha <;> first | (cases ha; done) | simp [scEq]

theorem scsEq_eq : ∀ {fs : List Field} {i : Nat} {a b : List PV}, keyParts P fs i a = true → keyParts P fs i b = true → scsEq a b = true → a = b
 | [], _, [], [], _, _, _ => rfl
 | [], _, _ :: _, _, h, _, _ => by simp [keyParts] at h
 | [], _, [], _ :: _, _, h, _ => by simp [keyParts] at h
 | _ :: _, _, [], _, h, _, _ => by simp [keyParts] at h
 | _ :: _, _, _ :: _, [], _, h, _ => by simp [keyParts] at h
 | f :: fs, i, a :: as', b :: bs, h1, h2, h3 => by
   simp only [keyParts, Bool.and_eq_true] at h1 h2
   simp only [scsEq, Bool.and_eq_true] at h3
   rw [scEq_eq h1.2.2.2.1 h2.2.2.2.1 h3.1, scsEq_eq h1.2.2.2.2 h2.2.2.2.2 h3.2]

theorem scsEq_refl : ∀ {fs : List Field} {i : Nat} {a : List PV}, keyParts P fs i a = true → scsEq a a = true
 | [], _, [], _ => rfl
 | [], _, _ :: _, h => by simp [keyParts] at h
 | _ :: _, _, [], h => by simp [keyParts] at h
 | f :: fs, i, a :: as', h1 => by
   simp only [keyParts, Bool.and_eq_true] at h1
   simp only [scsEq, Bool.and_eq_true]
   exact ⟨scEq_refl h1.2.2.2.1, scsEq_refl h1.2.2.2.2⟩

theorem keyAgg_parts {kt : TypeId} {cs : List PV} (h : keyAgg P kt cs = true) : ∃ fs : Array Field, P.underlying kt = some (.struct fs) ∧ keyParts P fs.toList 0 cs = true := by
 unfold keyAgg at h
 split at h
 · rename_i fs hu; simp only [Bool.and_eq_true] at h; exact ⟨fs, hu, h.2⟩
 · cases h

/-- Among the keys of one map's type, to be equal is to be the same. -/
theorem keyEq_eq {kt : TypeId} {p q : PV} (hp : keyOk P kt p) (hq : keyOk P kt q) (h : keyEq p q = true) : p = q := by
 unfold keyOk at hp hq
 split at hp <;> split at hq <;> first | exact hp.elim | exact hq.elim | skip
 all_goals first | (simp [keyEq] at h; done) | skip
 · rw [hp] at hq; cases hq; simp [keyEq] at h; rw [h]
 · simp [keyEq] at h; rw [h]
 · obtain ⟨fs, hu, h1⟩ := keyAgg_parts hp
   obtain ⟨fs', hu', h2⟩ := keyAgg_parts hq
   rw [hu] at hu'; cases hu'
   rw [scsEq_eq h1 h2 h]

theorem keyEq_refl {kt : TypeId} {p : PV} (hp : keyOk P kt p) : keyEq p p = true := by
 unfold keyOk at hp
 split at hp
 · simp [keyEq]
 · simp [keyEq]
 · obtain ⟨fs, hu, h1⟩ := keyAgg_parts hp
   exact scsEq_refl h1
 · exact hp.elim

theorem mapFind_mapSet {kt : TypeId} {k k' v : PV} (hk : keyOk P kt k) (hk' : keyOk P kt k') : ∀ {es : List (PV × PV)}, (∀ e ∈ es, keyOk P kt e.1) → mapFind k (mapSet k' v es) = if keyEq k k' = true then some v else mapFind k es
 | [], _ => by simp [mapSet, mapFind]
 | e :: es, h => by
   have he := h e (by simp)
   have ih := mapFind_mapSet (v := v) hk hk' (es := es) fun e he => h e (by simp [he])
   unfold mapSet
   by_cases h1 : keyEq k' e.1 = true
   · rw [if_pos h1]
     have h2 := keyEq_eq hk' he h1
     simp only [mapFind]
     rw [← h2]
     by_cases h3 : keyEq k k' = true
     · rw [if_pos h3, if_pos h3]
     · rw [if_neg h3, if_neg h3, if_neg h3]
   · rw [if_neg h1]
     simp only [mapFind]
     rw [ih]
     by_cases h3 : keyEq k e.1 = true
     · have h4 := keyEq_eq hk he h3
       have h5 : ¬ keyEq k k' = true := fun h5 => by
         have h6 := keyEq_eq hk hk' h5
         rw [← h6, h4] at h1
         exact h1 (keyEq_refl he)
       rw [if_pos h3, if_neg h5, if_pos h3]
     · rw [if_neg h3, if_neg h3]

theorem mem_mapSet {k v : PV} : ∀ {es : List (PV × PV)} {e : PV × PV}, e ∈ mapSet k v es → e = (k, v) ∨ e ∈ es
 | [], e, h => by simp [mapSet] at h; exact .inl h
 | x :: es, e, h => by
   unfold mapSet at h
   split at h
   · rcases List.mem_cons.1 h with h | h
     · exact .inl h
     · exact .inr (List.mem_cons_of_mem _ h)
   · rcases List.mem_cons.1 h with h | h
     · exact .inr (by rw [h]; exact List.mem_cons_self ..)
     · rcases mem_mapSet h with h | h
       · exact .inl h
       · exact .inr (List.mem_cons_of_mem _ h)

/-- A look finds the same behind the making of an entry. -/
theorem soft_eff {t : TypeId} {h : Heap} {m k m' k' : PV} (hob' : (mapEntryEff P h t m' k').ob) (hob : (lookupEff P h t m k false).ob) : lookupEff P (applyWr h (mapEntryEff P h t m' k').wr) t m k false = lookupEff P h t m k false := by
 unfold mapEntryEff at hob' ⊢
 unfold lookupEff at hob ⊢
 cases hm : mapTy P t with
 | none => rfl
 | some ke =>
   obtain ⟨kt, et⟩ := ke
   rw [hm] at hob hob'
   simp only at hob hob' ⊢
   cases m' <;> try exact hob'.elim
   rename_i key'
   cases m <;> try exact hob.elim
   rename_i key
   simp only at hob hob' ⊢
   split at hob'
   · rename_i es' bs' clk' hk2
     simp only [hk2]
     by_cases he : key = key'
     · subst he
       rw [hk2] at hob
       simp only [hk2, applyWr, List.foldl_cons, List.foldl_nil, if_true] at hob hob' ⊢
       obtain ⟨a1, a2, a3⟩ := hob
       obtain ⟨b1, b2, b3, b4⟩ := hob'
       have hf := mapFind_mapSet (v := (mapFind k' es').getD (zeroVal P et)) a1 b1 a2
       have hob1 : (keyOk P kt k ∧ (∀ e ∈ mapSet k' ((mapFind k' es').getD (zeroVal P et)) es', keyOk P kt e.1) ∧ zeroFit P et = true) = (keyOk P kt k ∧ (∀ e ∈ es', keyOk P kt e.1) ∧ zeroFit P et = true) := propext ⟨fun _ => ⟨a1, a2, a3⟩, fun _ => ⟨a1, fun e he => by
         rcases mem_mapSet he with h | h
         · rw [h]; exact b1
         · exact a2 e h, a3⟩⟩
       have hv : lookRes P et false (mapFind k (mapSet k' ((mapFind k' es').getD (zeroVal P et)) es')) = lookRes P et false (mapFind k es') := by
         rw [hf]
         by_cases h3 : keyEq k k' = true
         · rw [if_pos h3, keyEq_eq a1 b1 h3]; rfl
         · rw [if_neg h3]
       simp only [hob1, hv]
     · have : applyWr h [(key', some (.map (mapSet k' ((mapFind k' es').getD (zeroVal P et)) es') (stB k' es' bs' clk') (stC k' es' clk')))] key = h key := by
         simp [applyWr, he]
       simp only [this]
   · exact hob'.elim

theorem softOp_spec {a b : Op} (h : softOp a b = true) : ∃ t m k m' k', a = .lookup t m k false ∧ b = .mapEntry t m' k' := by
 unfold softOp at h
 split at h
 · rename_i t m k t' m' k'
   obtain rfl : t = t' := Nat.eq_of_beq_eq_true h
   exact ⟨_, _, _, _, _, rfl, rfl⟩
 · cases h

/-- Two operations that leave each other alone may change places. -/
theorem GAt.swap {ops : Array Oper} {i j : Nat} {a b : Oper} {c c' : Bool} {e e' : Eff} {σ : GS} {x y : Foot} (h : GAt P ops i a c e σ x) (h' : GAt P ops j b c' e' (stepG σ a c e) y) (hf : Free ops a b x y) :
   GAt P ops j b c' e' σ y ∧ GAt P ops i a c e (stepG σ b c' e') x ∧ stepG (stepG σ a c e) b c' e' = stepG (stepG σ b c' e') a c e := by
 obtain ⟨hd1, hd2, hd3⟩ := Oper.apart_spec hf.apart
 have hcnt : ∀ (cnt : Nat → Nat), bumpC cnt (siteOf a) e.bump (siteOf b) = cnt (siteOf b) := fun cnt => bumpC_ne fun hb => by
   rcases hf.site with h1 | ⟨h1, _⟩
   · exact h1
   · have := h.bump hb; rw [h1] at this; cases this
 have h1 : GAt P ops j b c' e' σ y := by
   refine h'.local (fun t ht => ?_) (fun t ht => ?_) (fun k hk => ?_) ?_
   · exact (putR_ne fun he => hd1 t he ht).symm
   · exact (setG_ne fun he => hd1 t he ht).symm
   · refine (applyWr_ne ?_).symm
     rw [← h.wrs]
     exact fun hm => hf.wr k hm hk
   · exact (hcnt _).symm
 have hcnt' : ∀ (cnt : Nat → Nat), bumpC cnt (siteOf b) e'.bump (siteOf a) = cnt (siteOf a) := fun cnt => bumpC_ne fun hb => by
   rcases hf.site with h1 | ⟨_, h1⟩
   · exact fun e => h1 e.symm
   · have := h'.bump hb; rw [h1] at this; cases this
 refine ⟨h1, ?_, ?_⟩
 · rcases hf.rw' with hs | hf'
   · obtain ⟨t, m, k, m', k', ha, hb⟩ := softOp_spec hs
     -- the state behind b, with the heap as ahead of it
     have h2 : GAt P ops i a c e { (stepG σ b c' e') with s := { (stepG σ b c' e').s with h := σ.s.h } } x :=
       h.local (fun t ht => putR_ne fun he => hd3 t he ht) (fun t ht => setG_ne fun he => hd3 t he ht) (fun k hk => rfl) (hcnt' _)
     have hev : ∀ y, ev (stepG σ b c' e').s.r y = ev { (stepG σ b c' e') with s := { (stepG σ b c' e').s with h := σ.s.h } }.s.r y := fun _ => rfl
     obtain ⟨_, _, _, _, hrest'⟩ := h1
     have hob' : c' = true → e' = mapEntryEff P σ.s.h t (ev σ.s.r m') (ev σ.s.r k') ∧ (mapEntryEff P σ.s.h t (ev σ.s.r m') (ev σ.s.r k')).ob := by
       intro hc'
       rcases hrest' with ⟨_, q2, _, q4, _, _⟩ | ⟨f, as, v, q1, _⟩ | ⟨f, as, q1, _⟩
       · have q5 := (q2 hc').2
         subst hc'
         rw [hb] at q4
         have q6 : e' = mapEntryEff P σ.s.h t (ev σ.s.r m') (ev σ.s.r k') := q4
         rw [q6] at q5
         exact ⟨q6, q5⟩
       · rw [hb] at q1; cases q1
       · rw [hb] at q1; cases q1
     obtain ⟨g1, g2, g3, g4, hrest⟩ := h2
     refine ⟨g1, g2, g3, g4, ?_⟩
     rcases hrest with ⟨q1, q2, q3, q4, q5, q6⟩ | ⟨f, as, v, q1, _⟩ | ⟨f, as, q1, _⟩
     · refine .inl ⟨q1, q2, q3, ?_, q5, q6⟩
       rw [ha] at q4 ⊢
       have q7 : e = effG c (lookupEff P σ.s.h t (ev (stepG σ b c' e').s.r m) (ev (stepG σ b c' e').s.r k) false) := q4
       show e = effG c (lookupEff P (applyWr σ.s.h e'.wr) t (ev (stepG σ b c' e').s.r m) (ev (stepG σ b c' e').s.r k) false)
       rw [q7]
       cases hc : c with
       | false => rfl
       | true =>
         have q8 := (q2 hc).2
         rw [q7, hc] at q8
         cases hc' : c' with
         | false =>
           have : e'.wr = [] := by
             rcases hrest' with ⟨_, _, _, q4', _, _⟩ | ⟨f, as, v, q1', _⟩ | ⟨f, as, q1', _⟩
             · rw [q4', hc']; rfl
             · rw [hb] at q1'; cases q1'
             · rw [hb] at q1'; cases q1'
           rw [this]; rfl
         | true =>
           obtain ⟨p1, p2⟩ := hob' hc'
           show lookupEff P σ.s.h t _ _ false = lookupEff P (applyWr σ.s.h e'.wr) t _ _ false
           have p3 : applyWr σ.s.h e'.wr = applyWr σ.s.h (mapEntryEff P σ.s.h t (ev σ.s.r m') (ev σ.s.r k')).wr := by rw [← p1]
           rw [p3]
           exact (soft_eff p2 q8).symm
     · rw [ha] at q1; cases q1
     · rw [ha] at q1; cases q1
   · refine h.local (fun t ht => ?_) (fun t ht => ?_) (fun k hk => ?_) ?_
     · exact putR_ne fun he => hd3 t he ht
     · exact setG_ne fun he => hd3 t he ht
     · refine applyWr_ne ?_
       rw [← h'.wrs]
       exact fun hm => hf' k hm hk
     · exact hcnt' _
 · have hr : putR (putR σ.s.r a.dst e.v) b.dst e'.v = putR (putR σ.s.r b.dst e'.v) a.dst e.v := by
     funext t
     cases hda : a.dst with
     | none => rfl
     | some da =>
       cases hdb : b.dst with
       | none => rfl
       | some db =>
         have hne : da ≠ db := fun he => hd2 da hda (by rw [hdb, he])
         simp only [putR]
         by_cases h1 : t = da
         · have h2 : ¬ t = db := fun h2 => hne (h1.symm.trans h2)
           simp only [if_pos h1, if_neg h2]
         · simp only [if_neg h1]
   have hG : setG (setG σ.G a.dst c) b.dst c' = setG (setG σ.G b.dst c') a.dst c := by
     funext t
     cases hda : a.dst with
     | none => rfl
     | some da =>
       cases hdb : b.dst with
       | none => rfl
       | some db =>
         have hne : da ≠ db := fun he => hd2 da hda (by rw [hdb, he])
         simp only [setG]
         by_cases h1 : t = da
         · have h2 : ¬ t = db := fun h2 => hne (h1.symm.trans h2)
           simp only [if_pos h1, if_neg h2]
         · simp only [if_neg h1]
   have hh : applyWr (applyWr σ.s.h e.wr) e'.wr = applyWr (applyWr σ.s.h e'.wr) e.wr := applyWr_comm (by rw [← h.wrs, ← h'.wrs]; exact hf.ww) _
   simp only [stepG, stepS, hr, hG, hh, bumpC_comm]

end
end Go.Pv
