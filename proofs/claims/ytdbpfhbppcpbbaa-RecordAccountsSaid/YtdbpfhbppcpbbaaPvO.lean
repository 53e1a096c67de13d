/- The P level is sound: regions whose order is drawn. Operations that leave each other alone may change places. -/
import Derived.Test.YtdbpfhbppcpbbaaPvN
namespace Go.Pv
open Go Go.RowKit
section
variable {P : Program}

theorem srcRows_heap {h h' : Heap} {sz : Nat} {x : PV} (hr : ∀ k ∈ (srcRows h sz x).2.2, h' k = h k) : srcRows h' sz x = srcRows h sz x := by
  cases x with
  | ref k sz' off len =>
    have : h' k = h k := hr k (by simp only [srcRows]; split <;> simp)
    simp only [srcRows, this]
  | sc v => cases v <;> rfl
  | _ => rfl

theorem eff_heap {ρ : Operand → PV} {h h' : Heap} {key : Key} {o : Op} (hr : ∀ k ∈ (eff P ρ h key o).rd, h' k = h k) : eff P ρ h' key o = eff P ρ h key o := by
  cases o <;> try rfl
  case load t x =>
    simp only [eff] at hr ⊢
    unfold loadEff at hr ⊢
    generalize ρ x = p at hr ⊢
    cases p <;> try rfl
    rename_i k sz i j
    have : h' k = h k := hr k (by simp only; split <;> simp)
    simp only [this]
  case store t x y =>
    simp only [eff] at hr ⊢
    unfold storeEff at hr ⊢
    generalize ρ x = p at hr ⊢
    cases p <;> try rfl
    rename_i k sz i j
    have : h' k = h k := hr k (by simp only; split <;> simp)
    simp only [this]
  case range t x =>
    simp only [eff] at hr ⊢
    unfold rangeEff at hr ⊢
    generalize ρ x = p at hr ⊢
    cases p <;> try rfl
    rename_i key'
    have : h' key' = h key' := hr key' (by simp only; split <;> simp)
    simp only [this]
  case next x s =>
    simp only [eff] at hr ⊢
    unfold nextEff at hr ⊢
    generalize ρ x = p at hr ⊢
    cases p <;> try rfl
    rename_i key'
    have h0 : h' key' = h key' := hr key' (by
      simp only
      split
      · split <;> simp
      · simp)
    simp only [h0]
    split
    · rename_i km since seen hq
      have h1 : h' km = h km := hr km (by
        simp only [hq]
        split <;> simp)
      simp only [h1]
    · rfl
  case entry x =>
    simp only [eff] at hr ⊢
    unfold entryEff at hr ⊢
    generalize ρ x = p at hr ⊢
    cases p <;> try rfl
    rename_i key'
    have h0 : h' key' = h key' := hr key' (by
      simp only
      split
      · split <;> simp
      · simp)
    simp only [h0]
    split
    · rename_i km since seen hq
      have h1 : h' km = h km := hr km (by
        simp only [hq]
        split <;> simp)
      simp only [h1]
    · rfl
  case lookup t m k ok =>
    simp only [eff] at hr ⊢
    unfold lookupEff at hr ⊢
    cases hm : mapTy P t with
    | none => rfl
    | some ke =>
      rw [hm] at hr
      simp only at hr ⊢
      generalize ρ m = p at hr ⊢
      cases p <;> try rfl
      rename_i key'
      have : h' key' = h key' := hr key' (by simp only; split <;> simp)
      simp only [this]
  case mapUpdate t m k v =>
    simp only [eff] at hr ⊢
    unfold mapUpdateEff at hr ⊢
    cases hm : mapTy P t with
    | none => rfl
    | some ke =>
      rw [hm] at hr
      simp only at hr ⊢
      generalize ρ m = p at hr ⊢
      cases p <;> try rfl
      rename_i key'
      have : h' key' = h key' := hr key' (by simp only; split <;> simp)
      simp only [this]
  case mapEntry t m k =>
    simp only [eff] at hr ⊢
    unfold mapEntryEff at hr ⊢
    cases hm : mapTy P t with
    | none => rfl
    | some ke =>
      rw [hm] at hr
      simp only at hr ⊢
      generalize ρ m = p at hr ⊢
      cases p <;> try rfl
      rename_i key'
      have : h' key' = h key' := hr key' (by simp only; split <;> simp)
      simp only [this]
  case entryStore t m s v =>
    simp only [eff] at hr ⊢
    unfold entryStoreEff at hr ⊢
    generalize ρ m = p at hr ⊢
    cases p <;> try rfl
    rename_i key'
    have : h' key' = h key' := hr key' (by
      simp only
      split
      · split <;> simp
      · simp)
    simp only [this]
  case call c =>
    obtain ⟨callee, args, ts⟩ := c
    cases callee with
    | value f => rfl
    | invoke r m => rfl
    | builtin b =>
      simp only [eff] at hr ⊢
      generalize args.toList.map ρ = as at hr ⊢
      generalize ts.toList = tl at hr ⊢
      unfold builtinEff at hr ⊢
      split at hr
      · rename_i t _ x _
        unfold lenEff at hr ⊢
        cases x with
        | map key' =>
          have : h' key' = h key' := hr key' (by simp only; split <;> simp)
          simp only [this]
        | sc v => cases v <;> rfl
        | _ => rfl
      · rename_i t t2 _ s x _
        unfold appendEff at hr ⊢
        simp only at hr ⊢
        cases s with
        | ref k sz off len =>
          simp only at hr
          have h1 : h' k = h k := hr k (by split <;> simp)
          have h2 : srcRows h' (tySize P (elemTy P t)) x = srcRows h (tySize P (elemTy P t)) x := srcRows_heap fun k2 hk2 => hr k2 (by split <;> simp [hk2])
          simp only [h1, h2]
        | nil =>
          simp only at hr
          have h2 : srcRows h' (tySize P (elemTy P t)) x = srcRows h (tySize P (elemTy P t)) x := srcRows_heap fun k2 hk2 => hr k2 (by cases (srcRows h (tySize P (elemTy P t)) x).2.1.isEmpty <;> exact hk2)
          simp only [h2]
        | _ =>
          simp only at hr
          have h2 : srcRows h' (tySize P (elemTy P t)) x = srcRows h (tySize P (elemTy P t)) x := srcRows_heap fun k2 hk2 => hr k2 hk2
          simp only [h2]
      · rename_i t _ m k _
        unfold mapDeleteEff at hr ⊢
        cases hm : mapTy P t with
        | none => rfl
        | some ke =>
          rw [hm] at hr
          simp only at hr ⊢
          cases m <;> try rfl
          rename_i key'
          have : h' key' = h key' := hr key' (by simp only; split <;> simp)
          simp only [this]
      · rename_i t _ x _
        unfold clearEff at hr ⊢
        cases x with
        | ref k sz off len =>
          have : h' k = h k := hr k (by simp only; split <;> simp [Eff.badAt])
          simp only [this]
        | _ => rfl
      · rename_i t _ s x _
        unfold copyEff at hr ⊢
        simp only at hr ⊢
        cases s with
        | ref k sz off len =>
          simp only at hr
          have h1 : h' k = h k := hr k (by split <;> simp)
          have h2 : srcRows h' (tySize P (elemTy P t)) x = srcRows h (tySize P (elemTy P t)) x := srcRows_heap fun k2 hk2 => hr k2 (by split <;> simp [hk2])
          simp only [h1, h2]
        | _ =>
          simp only at hr
          have h2 : srcRows h' (tySize P (elemTy P t)) x = srcRows h (tySize P (elemTy P t)) x := srcRows_heap fun k2 hk2 => hr k2 hk2
          simp only [h2]
      · rfl
      · rfl
      · rfl

theorem inn0_heap {h h' : Heap} {p q : PV} (hi : Inn0 h p q) (hr : ∀ k ∈ keyOf p, h' k = h k) : Inn0 h' p q := by
  cases hi with
  | pure hp => exact .pure hp
  | lit ht => exact .lit ht
  | nil t sz => exact .nil t sz
  | ref hk hl he hp => exact .ref (by rw [hr _ (by simp [keyOf])]; exact hk) hl he hp
  | ptr hk hp => exact .ptr (by rw [hr _ (by simp [keyOf])]; exact hk) hp
  | lptr ht => exact .lptr ht

theorem inn_heap {h h' : Heap} {p q : PV} (hi : Inn h p q) (hr : ∀ k ∈ keysOf p, h' k = h k) : Inn h' p q := by
  cases hi with
  | base hi =>
    cases hi with
    | pure hp => exact .base (.pure hp)
    | lit ht => exact .base (.lit ht)
    | nil t sz => exact .base (.nil t sz)
    | ref hk hl he hp => exact .base (.ref (by rw [hr _ (by simp [keysOf, keyOf])]; exact hk) hl he hp)
    | ptr hk hp => exact .base (.ptr (by rw [hr _ (by simp [keysOf, keyOf])]; exact hk) hp)
    | lptr ht => exact .base (.lptr ht)
  | func hl hl' ha hc =>
    refine .func hl hl' (fun i p q h1 h2 => inn0_heap (ha i p q h1 h2) fun k hk => hr k ?_) (fun i p q h1 h2 => inn0_heap (hc i p q h1 h2) fun k hk => hr k ?_)
    · simp only [keysOf, List.mem_append, List.mem_flatMap]; exact .inl ⟨p, List.mem_of_getElem? h1, hk⟩
    · simp only [keysOf, List.mem_append, List.mem_flatMap]; exact .inr ⟨p, List.mem_of_getElem? h1, hk⟩
  | agg hl ha =>
    refine .agg hl fun i p q h1 h2 => inn0_heap (ha i p q h1 h2) fun k hk => hr k ?_
    simp only [keysOf, List.mem_flatMap]; exact ⟨p, List.mem_of_getElem? h1, hk⟩

theorem inns_heap {h h' : Heap} {a b : List PV} (hi : Inns h a b) (hr : ∀ k ∈ a.flatMap keysOf, h' k = h k) : Inns h' a b := by
  induction hi with
  | nil => exact .nil
  | cons h1 h2 ih => exact .cons (inn_heap h1 fun k hk => hr k (by simp [hk])) (ih fun k hk => hr k (by simp only [List.flatMap_cons, List.mem_append]; exact .inr hk))

/-- One operation of a region at P level: its condition, its effect, its footprint. -/
def GAt (P : Program) (ops : Array Oper) (i : Nat) (o : Oper) (c : Bool) (e : Eff) (σ : GS) (ft : Foot) : Prop :=
  ops[i]? = some o ∧ ft.i = i ∧ gob ops σ o.guard ∧ c = gval ops σ o.guard ∧
  ((callOf σ.s.r o.op = none ∧ (c = true → valid σ o.op ∧ e.ob) ∧ (e.bump = true → o.dst.isSome = true) ∧
      e = effG c (eff P (ev σ.s.r) σ.s.h (siteOf o, σ.s.cnt (siteOf o)) o.op) ∧ ft.rd = e.rd ∧ ft.wr = e.wr.map (·.1)) ∨
    (∃ f args v, callOf σ.s.r o.op = some (f, args) ∧ (c = true → valid σ o.op ∧ CallD P f args σ.s.h v) ∧ e = .val True v ∧ ft.rd = args.flatMap keysOf ∧ ft.wr = []) ∨
    ∃ f args, callOf σ.s.r o.op = some (f, args) ∧ c = true ∧ valid σ o.op ∧ o.dst.isSome = true ∧ NewE P f args σ.s.h (siteOf o, σ.s.cnt (siteOf o)) e ∧ ft.rd = e.rd ∧ ft.wr = e.wr.map (·.1))

theorem ev_agree {r r' : Nat → PV} {x : Operand} (h : ∀ t, x = .tmp t → r' t = r t) : ev r' x = ev r x := by
  cases x <;> try rfl
  exact h _ rfl

theorem looks_opnd {ops : Array Oper} {o : Oper} {t : Nat} (h : Operand.tmp t ∈ o.op.operands) : t ∈ o.looksAt ops := by
  unfold Oper.looksAt
  exact List.mem_append_left _ (List.mem_filterMap.2 ⟨.tmp t, by simpa using h, rfl⟩)

theorem looks_guard {ops : Array Oper} {o : Oper} {j d : Nat} {w : Bool} (hg : o.guard = some (j, w)) (hd : (ops[j]?).bind (·.dst) = some d) : d ∈ o.looksAt ops := by
  unfold Oper.looksAt
  refine List.mem_append_right _ ?_
  rw [hg]
  simp [hd]

/-- What an operation does hangs on what it looks at alone. -/
theorem GAt.local {ops : Array Oper} {i : Nat} {o : Oper} {c : Bool} {e : Eff} {σ τ : GS} {ft : Foot} (h : GAt P ops i o c e σ ft)
    (hr : ∀ t ∈ o.looksAt ops, τ.s.r t = σ.s.r t) (hG : ∀ t ∈ o.looksAt ops, τ.G t = σ.G t) (hh : ∀ k ∈ ft.rd, τ.s.h k = σ.s.h k) (hc : τ.s.cnt (siteOf o) = σ.s.cnt (siteOf o)) : GAt P ops i o c e τ ft := by
  obtain ⟨ho, hi, hgob, hcv, hrest⟩ := h
  have hev : ∀ x ∈ o.op.operands, ev τ.s.r x = ev σ.s.r x := fun x hx => ev_agree fun t ht => hr t (looks_opnd (by rw [← ht]; exact hx))
  have hok : ∀ x ∈ o.op.operands, okOpnd τ.G x = okOpnd σ.G x := fun x hx => by
    cases x <;> try rfl
    simp only [okOpnd]
    rw [hG _ (looks_opnd hx)]
  have hgv : gval ops τ o.guard = gval ops σ o.guard := by
    unfold gval
    cases hg : o.guard with
    | none => rfl
    | some gw =>
      obtain ⟨j, w⟩ := gw
      simp only
      cases hd : (ops[j]?).bind (·.dst) with
      | none => rfl
      | some d => simp only; rw [hr d (looks_guard hg hd), hG d (looks_guard hg hd)]
  have hgb : gob ops τ o.guard = gob ops σ o.guard := by
    unfold gob
    cases hg : o.guard with
    | none => rfl
    | some gw =>
      obtain ⟨j, w⟩ := gw
      simp only
      cases hd : (ops[j]?).bind (·.dst) with
      | none => rfl
      | some d => simp only; rw [hr d (looks_guard hg hd), hG d (looks_guard hg hd)]
  have hval : valid σ o.op → valid τ o.op := by
    intro hv
    generalize o.op = op at hv hev hok
    cases op
    case pick a b d =>
      obtain ⟨h1, h2, h3⟩ := hv
      refine ⟨by rw [hok _ (by simp [Op.operands])]; exact h1, fun h4 => ?_, fun h4 => ?_⟩
      · rw [hok _ (by simp [Op.operands])]; rw [hev _ (by simp [Op.operands])] at h4; exact h2 h4
      · rw [hok _ (by simp [Op.operands])]; rw [hev _ (by simp [Op.operands])] at h4; exact h3 h4
    all_goals exact fun x hx => by rw [hok x (by simpa using hx)]; exact hv x hx
  have hco : callOf τ.s.r o.op = callOf σ.s.r o.op := callOf_congr hev
  refine ⟨ho, hi, by rw [hgb]; exact hgob, by rw [hgv]; exact hcv, ?_⟩
  rcases hrest with ⟨h1, h2, h4, h5, h6, h7⟩ | ⟨f, args, v, h1, h2, h3, h4, h5⟩ | ⟨f, args, h1, h2, h3, h4, ⟨sz, rows, as', h5, h6, h7⟩, h8, h9⟩
  · refine .inl ⟨by rw [hco]; exact h1, fun hc' => ⟨hval (h2 hc').1, (h2 hc').2⟩, h4, ?_, h6, h7⟩
    cases c with
    | false => exact h5
    | true =>
      simp only [effG, if_true] at h5 ⊢
      rw [hc, eff_congr hev, eff_heap (fun k hk => hh k (by rw [h6, h5]; exact hk))]
      exact h5
  · refine .inr (.inl ⟨f, args, v, by rw [hco]; exact h1, fun hc' => ⟨hval (h2 hc').1, ?_⟩, h3, h4, h5⟩)
    obtain ⟨as', h6, h7⟩ := (h2 hc').2
    exact ⟨as', inns_heap h6 fun k hk => hh k (by rw [h4]; exact hk), h7⟩
  · refine .inr (.inr ⟨f, args, by rw [hco]; exact h1, h2, hval h3, h4, ⟨sz, rows, as', inns_heap h5 fun k hk => hh k (by rw [h8, h7]; exact hk), h6, ?_⟩, h8, h9⟩)
    rw [hc]; exact h7

theorem putR_ne {r : Nat → PV} {dst : Option Nat} {v : PV} {t : Nat} (h : dst ≠ some t) : putR r dst v t = r t := by
  cases dst with
  | none => rfl
  | some d => simp only [putR]; rw [if_neg (fun e => h (by rw [e]))]

theorem setG_ne {G : Nat → Bool} {dst : Option Nat} {c : Bool} {t : Nat} (h : dst ≠ some t) : setG G dst c t = G t := by
  cases dst with
  | none => rfl
  | some d => simp only [setG]; rw [if_neg (fun e => h (by rw [e]))]

theorem applyWr_ne {wr : List (Key × Option PObj)} : ∀ {h : Heap} {k : Key}, k ∉ wr.map (·.1) → applyWr h wr k = h k := by
  induction wr with
  | nil => intro h k _; rfl
  | cons x wr ih =>
    intro h k hk
    simp only [List.map_cons, List.mem_cons, not_or] at hk
    unfold applyWr at ih ⊢
    rw [List.foldl_cons, ih hk.2]
    simp [hk.1]

theorem applyWr_eq {wr : List (Key × Option PObj)} : ∀ {h h' : Heap} {k : Key}, h k = h' k → applyWr h wr k = applyWr h' wr k := by
  induction wr with
  | nil => intro h h' k he; exact he
  | cons x wr ih =>
    intro h h' k he
    unfold applyWr at ih ⊢
    rw [List.foldl_cons, List.foldl_cons]
    refine ih ?_
    simp only [he]

theorem applyWr_mem {wr : List (Key × Option PObj)} : ∀ {h h' : Heap} {k : Key}, k ∈ wr.map (·.1) → applyWr h wr k = applyWr h' wr k := by
  induction wr with
  | nil => intro h h' k hk; simp at hk
  | cons x wr ih =>
    intro h h' k hk
    unfold applyWr at ih ⊢
    rw [List.foldl_cons, List.foldl_cons]
    by_cases hx : k ∈ wr.map (·.1)
    · exact ih hx
    · have hkx : k = x.1 := by
        simp only [List.map_cons, List.mem_cons] at hk
        exact hk.resolve_right hx
      have := applyWr_eq (wr := wr) (h := fun k' => if k' = x.1 then x.2 else h k') (h' := fun k' => if k' = x.1 then x.2 else h' k') (k := k) (by simp [hkx])
      exact this

theorem applyWr_comm {wr wr' : List (Key × Option PObj)} (hd : disjointK (wr.map (·.1)) (wr'.map (·.1))) (h : Heap) : applyWr (applyWr h wr) wr' = applyWr (applyWr h wr') wr := by
  funext k
  by_cases h1 : k ∈ wr.map (·.1)
  · have h2 := hd k h1
    rw [applyWr_ne h2]
    exact applyWr_mem h1
  · rw [applyWr_ne h1 (h := applyWr h wr')]
    by_cases h2 : k ∈ wr'.map (·.1)
    · exact applyWr_mem h2
    · rw [applyWr_ne h2, applyWr_ne h2, applyWr_ne h1]

/-- What independence of two operations gives. -/
structure Free (ops : Array Oper) (a b : Oper) (x y : Foot) : Prop where
  apart : a.apart ops b = true
  site : siteOf a ≠ siteOf b ∨ (a.dst = none ∧ b.dst = none)
  wr : disjointK x.wr y.rd
  rw' : disjointK y.wr x.rd
  ww : disjointK x.wr y.wr

theorem GAt.bump {ops : Array Oper} {i : Nat} {o : Oper} {c : Bool} {e : Eff} {σ : GS} {ft : Foot} (h : GAt P ops i o c e σ ft) : e.bump = true → o.dst.isSome = true := by
  obtain ⟨_, _, _, _, hrest⟩ := h
  rcases hrest with ⟨_, _, h4, _⟩ | ⟨_, _, _, _, _, h3, _⟩ | ⟨_, _, _, _, _, h4, _⟩
  · exact h4
  · subst h3; intro h; cases h
  · exact fun _ => h4

theorem GAt.wrs {ops : Array Oper} {i : Nat} {o : Oper} {c : Bool} {e : Eff} {σ : GS} {ft : Foot} (h : GAt P ops i o c e σ ft) : ft.wr = e.wr.map (·.1) := by
  obtain ⟨_, _, _, _, hrest⟩ := h
  rcases hrest with ⟨_, _, _, _, _, h7⟩ | ⟨_, _, _, _, _, h3, _, h5⟩ | ⟨_, _, _, _, _, _, _, _, h9⟩
  · exact h7
  · subst h3; exact h5
  · exact h9

theorem bumpC_ne {cnt : Nat → Nat} {s t : Nat} {b : Bool} (h : b = true → s ≠ t) : bumpC cnt s b t = cnt t := by
  cases b with
  | false => rfl
  | true => simp only [bumpC, if_true]; rw [if_neg (fun e => h rfl e.symm)]

theorem bumpC_comm (cnt : Nat → Nat) (s t : Nat) (b b' : Bool) : bumpC (bumpC cnt s b) t b' = bumpC (bumpC cnt t b') s b := by
  funext x
  cases b <;> cases b' <;> simp only [bumpC, if_true, Bool.false_eq_true, if_false]
  split <;> split <;> rfl

/-- Two operations that leave each other alone may change places. -/
theorem GAt.swap {ops : Array Oper} {i j : Nat} {a b : Oper} {c c' : Bool} {e e' : Eff} {σ : GS} {x y : Foot} (h : GAt P ops i a c e σ x) (h' : GAt P ops j b c' e' (stepG σ a c e) y) (hf : Free ops a b x y) :
    GAt P ops j b c' e' σ y ∧ GAt P ops i a c e (stepG σ b c' e') x ∧ stepG (stepG σ a c e) b c' e' = stepG (stepG σ b c' e') a c e := by
  obtain ⟨hd1, hd2, hd3⟩ := Oper.apart_spec hf.apart
  have hcnt : ∀ (cnt : Nat → Nat), bumpC cnt (siteOf a) e.bump (siteOf b) = cnt (siteOf b) := fun cnt => bumpC_ne fun hb => by
    rcases hf.site with h1 | ⟨h1, _⟩
    · exact h1
    · have := h.bump hb; rw [h1] at this; cases this
  have h1 : GAt P ops j b c' e' σ y := by
    refine h'.local (fun t ht => ?_) (fun t ht => ?_) (fun k hk => ?_) ?_
    · exact (putR_ne fun he => hd1 t he ht).symm
    · exact (setG_ne fun he => hd1 t he ht).symm
    · refine (applyWr_ne ?_).symm
      rw [← h.wrs]
      exact fun hm => hf.wr k hm hk
    · exact (hcnt _).symm
  have hcnt' : ∀ (cnt : Nat → Nat), bumpC cnt (siteOf b) e'.bump (siteOf a) = cnt (siteOf a) := fun cnt => bumpC_ne fun hb => by
    rcases hf.site with h1 | ⟨_, h1⟩
    · exact fun e => h1 e.symm
    · have := h'.bump hb; rw [h1] at this; cases this
  refine ⟨h1, ?_, ?_⟩
  · refine h.local (fun t ht => ?_) (fun t ht => ?_) (fun k hk => ?_) ?_
    · exact putR_ne fun he => hd3 t he ht
    · exact setG_ne fun he => hd3 t he ht
    · refine applyWr_ne ?_
      rw [← h'.wrs]
      exact fun hm => hf.rw' k hm hk
    · exact hcnt' _
  · have hr : putR (putR σ.s.r a.dst e.v) b.dst e'.v = putR (putR σ.s.r b.dst e'.v) a.dst e.v := by
      funext t
      cases hda : a.dst with
      | none => rfl
      | some da =>
        cases hdb : b.dst with
        | none => rfl
        | some db =>
          have hne : da ≠ db := fun he => hd2 da hda (by rw [hdb, he])
          simp only [putR]
          by_cases h1 : t = da
          · have h2 : ¬ t = db := fun h2 => hne (h1.symm.trans h2)
            simp only [if_pos h1, if_neg h2]
          · simp only [if_neg h1]
    have hG : setG (setG σ.G a.dst c) b.dst c' = setG (setG σ.G b.dst c') a.dst c := by
      funext t
      cases hda : a.dst with
      | none => rfl
      | some da =>
        cases hdb : b.dst with
        | none => rfl
        | some db =>
          have hne : da ≠ db := fun he => hd2 da hda (by rw [hdb, he])
          simp only [setG]
          by_cases h1 : t = da
          · have h2 : ¬ t = db := fun h2 => hne (h1.symm.trans h2)
            simp only [if_pos h1, if_neg h2]
          · simp only [if_neg h1]
    have hh : applyWr (applyWr σ.s.h e.wr) e'.wr = applyWr (applyWr σ.s.h e'.wr) e.wr := applyWr_comm (by rw [← h.wrs, ← h'.wrs]; exact hf.ww) _
    simp only [stepG, stepS, hr, hG, hh, bumpC_comm]

end
end Go.Pv
