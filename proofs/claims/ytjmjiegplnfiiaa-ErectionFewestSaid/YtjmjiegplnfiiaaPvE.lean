/- One operation that is no call of a function, third part: slice expressions, max and min, choices, aggregates, conversions. -/
import Derived.Test.YtjmjiegplnfiiaaPvD
namespace Go.Pv
open Go Go.RowKit
section
variable {P : Program} {E : Env}

theorem ro_pick {c a b : Value} {p q r : PV} (hc : Rep E c p) (ha : Rep E a q) (hb : Rep E b r) (hob : (pickEff p q r).ob) :
   RO P E (do pure (if ← asBool c then a else b)) (pickEff p q r) := by
 unfold pickEff at hob ⊢
 split at hob
 · rename_i t
   obtain rfl := hc.sc_inv
   cases t
   · exact ⟨b, rfl, hb, rfl, rfl⟩
   · exact ⟨a, rfl, ha, rfl, rfl⟩
 · exact hob.elim

theorem max_eq (a b : Int) : (if b > a then b else a) = max a b := by omega
theorem min_eq (a b : Int) : (if b < a then b else a) = min a b := by omega

theorem ro_maxs : ∀ (l : List Value) (lp : List PV) (x : Value) (p : PV), l.length = lp.length → (∀ (i : Nat) (v : Value) (q : PV), l[i]? = some v → lp[i]? = some q → Rep E v q) → Rep E x p → (maxs p lp).ob →
   RO P E (l.foldlM Builtin.max2 x) (maxs p lp)
 | [], [], x, p, _, _, hx, _ => ⟨x, rfl, hx, rfl, rfl⟩
 | [], _ :: _, _, _, h, _, _, _ => by simp at h
 | _ :: _, [], _, _, h, _, _, _ => by simp at h
 | y :: l, q :: lp, x, p, hl, hr, hx, hob => by
   unfold maxs at hob ⊢
   split at hob
   · rename_i h; cases h
   · rename_i k a k' b rest h
     cases h
     obtain ⟨rfl, hob⟩ := hob
     obtain rfl := hx.int_inv
     obtain rfl := (hr 0 y _ rfl rfl).int_inv
     obtain ⟨v, h1, h2, h3, h4⟩ := ro_maxs l _ (.int k (max a b)) _ (by simpa using hl) (fun i v q h1 h2 => hr (i + 1) v q h1 h2) (.sc rfl) hob
     refine ⟨v, ?_, h2, h3, h4⟩
     rw [List.foldlM_cons, Sem.run_bind]
     simp only [Builtin.max2, Sem.run_pure, Result.andThen_ok, max_eq]
     exact h1
   · exact hob.elim

theorem ro_mins : ∀ (l : List Value) (lp : List PV) (x : Value) (p : PV), l.length = lp.length → (∀ (i : Nat) (v : Value) (q : PV), l[i]? = some v → lp[i]? = some q → Rep E v q) → Rep E x p → (mins p lp).ob →
   RO P E (l.foldlM Builtin.min2 x) (mins p lp)
 | [], [], x, p, _, _, hx, _ => ⟨x, rfl, hx, rfl, rfl⟩
 | [], _ :: _, _, _, h, _, _, _ => by simp at h
 | _ :: _, [], _, _, h, _, _, _ => by simp at h
 | y :: l, q :: lp, x, p, hl, hr, hx, hob => by
   unfold mins at hob ⊢
   split at hob
   · rename_i h; cases h
   · rename_i k a k' b rest h
     cases h
     obtain ⟨rfl, hob⟩ := hob
     obtain rfl := hx.int_inv
     obtain rfl := (hr 0 y _ rfl rfl).int_inv
     obtain ⟨v, h1, h2, h3, h4⟩ := ro_mins l _ (.int k (min a b)) _ (by simpa using hl) (fun i v q h1 h2 => hr (i + 1) v q h1 h2) (.sc rfl) hob
     refine ⟨v, ?_, h2, h3, h4⟩
     rw [List.foldlM_cons, Sem.run_bind]
     simp only [Builtin.min2, Sem.run_pure, Result.andThen_ok, min_eq]
     exact h1
   · exact hob.elim

theorem run_sliceBound {x : Value} {n : Int} {k : IntKind} {y : Nat} {code : BoundsCode} (hx : x = .int k n) (h0 : 0 ≤ n) (h1 : n ≤ y) (w : World) : (Instr.sliceBound x y code).run P w = .ok n.toNat w := by
 subst hx
 simp [Instr.sliceBound, asIntOf, h0, h1]

/-- How an operand that may be missing reads. -/
def OptRep (E : Env) (x : Option Value) (p : Option PV) : Prop := (x = none ∧ p = none) ∨ ∃ v q, x = some v ∧ p = some q ∧ Rep E v q

theorem bound_inv {x : Option Value} {p : Option PV} (h : OptRep E x p) {d : Option Int} {n : Int} (hb : bound p d = some n) : (x = none ∧ d = some n) ∨ ∃ k, x = some (.int k n) := by
 rcases h with ⟨rfl, rfl⟩ | ⟨v, q, rfl, rfl, hr⟩
 · exact .inl ⟨rfl, hb⟩
 · unfold bound at hb
   split at hb
   · rename_i hq; cases hq
   · rename_i hq; cases hq; cases hb; exact .inr ⟨_, by rw [hr.sc_inv]⟩
   · cases hb

/-- The bounds of a slice expression as the model reckons them. -/
theorem run_bounds {lo hi : Option Value} {plo phi : Option PV} (hlo : OptRep E lo plo) (hhi : OptRep E hi phi)
   {l h : Int} {isSlice : Bool} {len cap : Nat} (hl : bound plo (some 0) = some l) (hh : bound phi (some len) = some h) (h0 : 0 ≤ l) (h1 : l ≤ h) (h2 : h ≤ len) (h3 : len ≤ cap) (w : World) :
   (Instr.sliceBounds isSlice len cap lo hi none).run P w = .ok (l.toNat, h.toNat, cap) w := by
 have e1 : ∀ code, (Instr.sliceBound (.int .i64 0) 0 code).run P w = .ok 0 w := fun code => run_sliceBound rfl (by omega) (by omega) w
 rcases bound_inv hlo hl with ⟨rfl, hl'⟩ | ⟨k, rfl⟩ <;> rcases bound_inv hhi hh with ⟨rfl, hh'⟩ | ⟨k', rfl⟩
 · cases hl'; cases hh'; simp [Instr.sliceBounds]
 · cases hl'
   have e2 : ∀ code, (Instr.sliceBound (.int k' h) cap code).run P w = .ok h.toNat w := fun code => run_sliceBound rfl (by omega) (by omega) w
   simp [Instr.sliceBounds, e2]
 · cases hh'
   have e2 : ∀ code, (Instr.sliceBound (.int k l) len code).run P w = .ok l.toNat w := fun code => run_sliceBound rfl (by omega) (by omega) w
   simp [Instr.sliceBounds, e2]
 · have e2 : ∀ code, (Instr.sliceBound (.int k' h) cap code).run P w = .ok h.toNat w := fun code => run_sliceBound rfl (by omega) (by omega) w
   have e3 : ∀ code, (Instr.sliceBound (.int k l) h.toNat code).run P w = .ok l.toNat w := fun code => run_sliceBound rfl (by omega) (by omega) w
   simp [Instr.sliceBounds, e2, e3]

theorem run_bounds0 {lo hi mx : Option Value} {plo phi pmx : Option PV} (hlo : OptRep E lo plo) (hhi : OptRep E hi phi) (hmx : OptRep E mx pmx)
   {isSlice : Bool} {len cap : Nat} (hl : bound plo (some 0) = some 0) (hh : bound phi none = some 0) (hm : bound pmx none = some 0) (w : World) :
   (Instr.sliceBounds isSlice len cap lo hi mx).run P w = .ok (0, 0, 0) w := by
 have e : ∀ k y code, (Instr.sliceBound (.int k 0) y code).run P w = .ok 0 w := fun k y code => run_sliceBound rfl (by omega) (by omega) w
 rcases bound_inv hhi hh with ⟨_, h⟩ | ⟨k', rfl⟩
 · cases h
 rcases bound_inv hmx hm with ⟨_, h⟩ | ⟨k'', rfl⟩
 · cases h
 rcases bound_inv hlo hl with ⟨rfl, _⟩ | ⟨k, rfl⟩ <;> simp [Instr.sliceBounds, e]

theorem ro_slice {t : TypeId} {x : Value} {p : PV} {lo hi mx : Option Value} {plo phi pmx : Option PV} (hx : Rep E x p)
   (hlo : OptRep E lo plo) (hhi : OptRep E hi phi) (hmx : OptRep E mx pmx)
   (hob : (sliceEff P t p plo phi pmx).ob) : RO P E (Instr.sliceAt t x lo hi mx) (sliceEff P t p plo phi pmx) := by
 have hmx0 : pmx = none → mx = none := fun h => by
   rcases hmx with ⟨h1, _⟩ | ⟨v, q, _, h1, _⟩
   · exact h1
   · rw [h] at h1; cases h1
 have zero3 : ∀ (a : Option Addr) (len cap : Nat), sliceOk P t = true → bound plo (some 0) = some 0 → bound phi none = some 0 → bound pmx none = some 0 →
     (Instr.sliceAt t (.slice a len cap) lo hi mx).run P E.w = .ok (.slice a 0 0) E.w := fun a len cap h1 h2 h3 h5 => by
   obtain ⟨hu, hok⟩ := sliceOk_spec h1
   have hs := run_sizeOf (P := P) (t := elemTy P t) rfl (by have := (tyOk_spec hok).2; omega) E.w
   have hb := run_bounds0 (P := P) (isSlice := true) (len := len) (cap := cap) hlo hhi hmx h2 h3 h5 E.w
   simp only [Instr.sliceAt, Instr.slice, Sem.run_bind, run_under hu, Result.andThen_ok, Sem.run_pure, hb, hs, if_true, Nat.sub_self]
 unfold sliceEff at hob ⊢
 split at hob
 · rename_i s
   split at hob
   · rename_i l h hl hh
     obtain ⟨h1, h2, h3, h4⟩ := hob
     obtain rfl := hx.sc_inv
     obtain rfl := hmx0 rfl
     have hb := run_bounds (P := P) (isSlice := false) (cap := s.size) hlo hhi hl hh h2 h3 h4 (Nat.le_refl _) E.w
     refine ⟨.string (s.extract l.toNat h.toNat), ?_, .sc rfl, rfl, rfl⟩
     simp only [Instr.sliceAt, Instr.slice, Sem.run_bind, run_under (isStringTy_spec h1), Result.andThen_ok, Option.isSome_none, Bool.false_eq_true, if_false, Sem.run_pure, hb]
   · exact hob.elim
 · rename_i tt sz rs
   split at hob
   · rename_i l h hl hh
     obtain ⟨h1, h2, h3, h4, h5⟩ := hob
     obtain ⟨hu, hok⟩ := sliceOk_spec h1
     obtain rfl := hmx0 rfl
     have hs := run_sizeOf (P := P) (t := elemTy P t) rfl (by have := (tyOk_spec hok).2; omega) E.w
     have key : ∀ (a : Option Addr) (c : Nat), rs.length ≤ c → (Instr.sliceAt t (.slice a rs.length c) lo hi none).run P E.w = .ok (.slice (if c = l.toNat then a else a.map (·.add (l.toNat * tySize P (elemTy P t)))) (h.toNat - l.toNat) (c - l.toNat)) E.w := fun a c hc => by
       have hb := run_bounds (P := P) (isSlice := true) (cap := c) hlo hhi hl hh h3 h4 h5 hc E.w
       simp only [Instr.sliceAt, Instr.slice, Sem.run_bind, run_under hu, Result.andThen_ok, Sem.run_pure, hb, hs]
     have hrows : (sliceRows rs l.toNat h.toNat).length = h.toNat - l.toNat := by unfold sliceRows; rw [List.length_take, List.length_drop]; omega
     by_cases he : h.toNat - l.toNat = 0
     · have hnil : sliceRows rs l.toNat h.toNat = [] := List.eq_nil_of_length_eq_zero (by omega)
       cases hx with
       | litE => exact ⟨_, key _ _ (by simp), by rw [he]; simp only [hnil]; exact .litE, rfl, rfl⟩
       | lit hm hc hr => exact ⟨_, key _ _ hc, by rw [he]; simp only [hnil]; exact .litE, rfl, rfl⟩
     · cases hx with
       | litE => simp at h5; omega
       | lit hm hc hr =>
         rename_i b off c f
         have hne : ¬ c = l.toNat := by omega
         refine ⟨_, key _ _ hc, ?_, rfl, rfl⟩
         rw [if_neg hne]
         simp only [Option.map_some, Addr.add_at, h2]
         rw [← hrows]
         have hget : ∀ (i : Nat) (row : List PV), (sliceRows rs l.toNat h.toNat)[i]? = some row → rs[l.toNat + i]? = some row := fun i row h6 => by
           unfold sliceRows at h6
           rw [List.getElem?_take] at h6
           split at h6
           · rwa [List.getElem?_drop] at h6
           · cases h6
         have hmem : ∀ row ∈ sliceRows rs l.toNat h.toNat, row ∈ rs := fun row h6 => by
           obtain ⟨i, h7⟩ := List.mem_iff_getElem?.1 h6
           exact List.mem_of_getElem? (hget i row h7)
         refine .lit (f := fun i j => f (l.toNat + i) j) ⟨hm.own, hm.out, hm.tt, hm.lt, fun row h6 => hm.width row (hmem row h6), fun i j row p h6 h7 => ?_, fun row h6 => hm.pure row (hmem row h6), fun row h6 => hm.one row (hmem row h6)⟩ (by omega) (fun i j row p h6 h7 => hr _ j row p (hget i row h6) h7)
         have := hm.cell (l.toNat + i) j row p (hget i row h6) h7
         rw [Nat.add_mul] at this
         rw [← this]; congr 2; omega
   · exact hob.elim
 · rename_i k sz off len
   split at hob
   · rename_i l h hl hh
     obtain ⟨h1, h2, h3, h4, h5⟩ := hob
     obtain ⟨hu, hok⟩ := sliceOk_spec h1
     obtain rfl := hmx0 rfl
     have hs := run_sizeOf (P := P) (t := elemTy P t) rfl (by have := (tyOk_spec hok).2; omega) E.w
     have key : ∀ (a : Option Addr) (c : Nat), len ≤ c → (Instr.sliceAt t (.slice a len c) lo hi none).run P E.w = .ok (.slice (if c = l.toNat then a else a.map (·.add (l.toNat * tySize P (elemTy P t)))) (h.toNat - l.toNat) (c - l.toNat)) E.w := fun a c hc => by
       have hb := run_bounds (P := P) (isSlice := true) (cap := c) hlo hhi hl hh h3 h4 h5 hc E.w
       simp only [Instr.sliceAt, Instr.slice, Sem.run_bind, run_under hu, Result.andThen_ok, Sem.run_pure, hb, hs]
     cases hx with
     | refE hk hq =>
       have e1 : l.toNat = 0 := by omega
       have e2 : h.toNat = 0 := by omega
       rename_i a
       have := key a 0 (Nat.le_refl _)
       rw [e1, e2] at this
       exact ⟨_, this, by simp only [e1, e2]; exact .refE hk hq, rfl, rfl⟩
     | ref hk hlen hq =>
       rename_i b a c
       have := key (some ⟨b, a, none⟩) c hlen
       refine ⟨_, this, ?_, rfl, rfl⟩
       by_cases hne : c = l.toNat
       · have e3 : h.toNat - l.toNat = 0 := by omega
         have e4 : c - l.toNat = 0 := by omega
         simp only [e3, e4]
         exact .refE hk fun o ho => (hq o ho).2.2
       · rw [if_neg hne]
         simp only [Option.map_some, Addr.add_at, h2]
         refine .ref hk (by omega) fun o ho => ⟨⟨(hq o ho).1.1, by rw [(hq o ho).1.2, Nat.add_mul]; omega⟩, ?_, (hq o ho).2.2⟩
         have := (hq o ho).2.1
         omega
   · exact hob.elim
 · split at hob
   · rename_i l h hl hh
     obtain ⟨h1, rfl, rfl⟩ := hob
     obtain ⟨hu, hok⟩ := sliceOk_spec h1
     obtain rfl := hmx0 rfl
     have hs := run_sizeOf (P := P) (t := elemTy P t) rfl (by have := (tyOk_spec hok).2; omega) E.w
     cases hx with
     | nil =>
       rename_i a
       have hb := run_bounds (P := P) (isSlice := true) (len := 0) (cap := 0) hlo hhi hl hh (by omega) (by omega) (by omega) (by omega) E.w
       refine ⟨.slice a 0 0, ?_, .nil, rfl, rfl⟩
       simp only [Instr.sliceAt, Instr.slice, Sem.run_bind, run_under hu, Result.andThen_ok, Sem.run_pure, hb, hs]
       simp
   · exact hob.elim
 · split at hob
   · rename_i m _ l h m' hl hh hm
     obtain ⟨h1, rfl, rfl, rfl⟩ := hob
     cases hx with
     | litE => exact ⟨_, zero3 _ _ _ h1 hl hh hm, .nil, rfl, rfl⟩
     | lit _ _ _ => exact ⟨_, zero3 _ _ _ h1 hl hh hm, .nil, rfl, rfl⟩
   · exact hob.elim
 · split at hob
   · rename_i m _ l h m' hl hh hm
     obtain ⟨h1, rfl, rfl, rfl⟩ := hob
     cases hx with
     | refE _ _ => exact ⟨_, zero3 _ _ _ h1 hl hh hm, .nil, rfl, rfl⟩
     | ref _ _ _ => exact ⟨_, zero3 _ _ _ h1 hl hh hm, .nil, rfl, rfl⟩
   · exact hob.elim
 · split at hob
   · rename_i m _ l h m' hl hh hm
     obtain ⟨h1, rfl, rfl, rfl⟩ := hob
     cases hx with
     | nil => exact ⟨_, zero3 _ _ _ h1 hl hh hm, .nil, rfl, rfl⟩
   · exact hob.elim
 · exact hob.elim


/-- A value's cells and a pure value's cells. -/
theorem cells_rep {v : Value} {p : PV} (h : Rep E v p) (hc : (pcells p).all PV.cell = true) :
   v.cells.size = (pcells p).length ∧ ∀ (i : Nat) (u : Value) (q : PV), v.cells[i]? = some u → (pcells p)[i]? = some q → Rep E u q := by
 have hone : p.cell = true → pcells p = [p] → (v.cells.size = (pcells p).length ∧ ∀ (i : Nat) (u : Value) (q : PV), v.cells[i]? = some u → (pcells p)[i]? = some q → Rep E u q) := fun h1 h2 => by
   have h3 : v.cells = #[v] := by have := Rep.one h h1; cases v <;> first | rfl | (simp [Value.oneCell'] at this; done)
   rw [h2, h3]
   exact (⟨rfl, fun i u q h4 h5 => by
     cases i with
     | zero => simp at h4 h5; subst h4; subst h5; exact h
     | succ i => simp at h4⟩ : (#[v] : Array Value).size = [p].length ∧ ∀ (i : Nat) (u : Value) (q : PV), (#[v] : Array Value)[i]? = some u → [p][i]? = some q → Rep E u q)
 cases p with
 | agg cs => cases h with | agg hl hp => exact ⟨hl, hp⟩
 | _ => exact hone (by simpa [pcells] using hc) rfl

theorem foldl_set_size : ∀ (l : List (Value × Nat)) (off : Nat) (cells : Array Value), (l.foldl (fun cs (x : Value × Nat) => cs.setIfInBounds (off + x.2) x.1) cells).size = cells.size
 | [], _, _ => rfl
 | x :: l, off, cells => by rw [List.foldl_cons, foldl_set_size l off]; simp

theorem foldl_set_get : ∀ (l : List Value) (k off : Nat) (cells : Array Value) (x : Nat),
   ((l.zipIdx k).foldl (fun cs (x : Value × Nat) => cs.setIfInBounds (off + x.2) x.1) cells)[x]? = if off + k ≤ x ∧ x < off + k + l.length ∧ x < cells.size then l[x - (off + k)]? else cells[x]?
 | [], k, off, cells, x => by
   rw [if_neg (by simp; omega)]; rfl
 | v :: l, k, off, cells, x => by
   rw [List.zipIdx_cons, List.foldl_cons, foldl_set_get l (k + 1) off]
   simp only [Array.size_setIfInBounds, List.length_cons, Array.getElem?_setIfInBounds]
   by_cases h1 : off + (k + 1) ≤ x ∧ x < off + (k + 1) + l.length ∧ x < cells.size
   · rw [if_pos h1, if_pos (by omega), show x - (off + k) = (x - (off + (k + 1))) + 1 by omega, List.getElem?_cons_succ]
   · rw [if_neg h1]
     by_cases h2 : off + k = x
     · subst h2
       by_cases h3 : off + k < cells.size
       · simp [h3]
       · simp [h3]
     · rw [if_neg h2, if_neg (by omega)]

theorem setAt_length {row cs : List PV} {j : Nat} (h : j + cs.length ≤ row.length) : (setAt row j cs).length = row.length := by
 unfold setAt; simp only [List.length_append, List.length_take, List.length_drop]; omega

theorem setAt_get {row cs : List PV} {j : Nat} (h : j + cs.length ≤ row.length) (x : Nat) : (setAt row j cs)[x]? = if j ≤ x ∧ x < j + cs.length then cs[x - j]? else row[x]? := by
 unfold setAt
 by_cases h1 : x < j
 · rw [if_neg (by omega), List.append_assoc, List.getElem?_append_left (by rw [List.length_take]; omega), List.getElem?_take, if_pos h1]
 · rw [List.append_assoc, List.getElem?_append_right (by rw [List.length_take]; omega), List.length_take, show min j row.length = j by omega]
   by_cases h2 : x < j + cs.length
   · rw [if_pos ⟨by omega, h2⟩, List.getElem?_append_left (by omega)]
   · rw [if_neg (by omega), List.getElem?_append_right (by omega), List.getElem?_drop]; congr 1; omega

theorem fill_rep {place : Nat → Option (Nat × Nat)} {pl : List (Nat × Nat × Bool)} (hpl : ∀ i, i < pl.length → place i = some ((pl.getD i (0, 0, false)).1, (pl.getD i (0, 0, false)).2.1)) :
   ∀ (parts : List (Nat × Value)) (pp : List (Nat × PV)) (cells : Array Value) (cs : List PV), parts.length = pp.length →
     (∀ (i : Nat) (x : Nat × Value) (y : Nat × PV), parts[i]? = some x → pp[i]? = some y → x.1 = y.1 ∧ Rep E x.2 y.2) →
     Rep E (.agg cells) (.agg cs) → cs.all PV.cell = true → fillOk pl cs.length pp →
     ∃ cells', Instr.fill place cells parts = some cells' ∧ Rep E (.agg cells') (.agg (fillCells pl cs pp)) ∧ (fillCells pl cs pp).all PV.cell = true ∧ (fillCells pl cs pp).length = cs.length
 | [], [], cells, cs, _, _, hr, hc, _ => ⟨cells, rfl, hr, hc, rfl⟩
 | [], _ :: _, _, _, h, _, _, _, _ => by simp at h
 | _ :: _, [], _, _, h, _, _, _, _ => by simp at h
 | (i, v) :: parts, (i', p) :: pp, cells, cs, hl, hrel, hr, hc, hok => by
   obtain ⟨h1, h2, h3, h4, h5⟩ := hok
   obtain ⟨rfl, hvp⟩ := hrel 0 _ _ rfl rfl
   simp only at h1 h2 h3 h4 hvp
   obtain ⟨h6, h7⟩ := cells_rep hvp h4
   have hsz : cells.size = cs.length := by cases hr; assumption
   have hget := foldl_set_get v.cells.toList 0 (pl.getD i (0, 0, false)).1 cells
   have hnew : Rep E (.agg (v.cells.toList.zipIdx.foldl (fun cs (x : Value × Nat) => cs.setIfInBounds ((pl.getD i (0, 0, false)).1 + x.2) x.1) cells)) (.agg (setAt cs (pl.getD i (0, 0, false)).1 (pcells p))) := by
     refine .agg (by rw [foldl_set_size, setAt_length h3, hsz]) fun x u q h8 h9 => ?_
     rw [hget] at h8
     rw [setAt_get h3] at h9
     simp only [Nat.add_zero, Array.length_toList] at h8
     by_cases hx : (pl.getD i (0, 0, false)).1 ≤ x ∧ x < (pl.getD i (0, 0, false)).1 + (pcells p).length
     · rw [if_pos hx] at h9
       rw [if_pos (by omega)] at h8
       exact h7 _ u q (by simpa using h8) h9
     · rw [if_neg hx] at h9
       rw [if_neg (by omega)] at h8
       cases hr with
       | agg _ hp => exact hp x u q h8 h9
   have hc' : (setAt cs (pl.getD i (0, 0, false)).1 (pcells p)).all PV.cell = true := by
     unfold setAt
     simp only [List.all_append, Bool.and_eq_true]
     refine ⟨⟨?_, h4⟩, ?_⟩
     · rw [List.all_eq_true] at hc ⊢; exact fun x hx => hc x (List.mem_of_mem_take hx)
     · rw [List.all_eq_true] at hc ⊢; exact fun x hx => hc x (List.mem_of_mem_drop hx)
   obtain ⟨cells', h10, h11, h12, h13⟩ := fill_rep hpl parts pp _ _ (by simpa using hl) (fun j x y hx hy => hrel (j + 1) x y hx hy) hnew hc' (by rw [setAt_length h3]; exact h5)
   refine ⟨cells', ?_, h11, h12, (h13.trans (setAt_length h3))⟩
   rw [← h10]
   simp only [Instr.fill, hpl i h1]
   rw [if_neg (by simp only [Bool.or_eq_true, decide_eq_true_eq, not_or]; omega)]
   congr 1
   rw [← Array.foldl_toList]
   simp


theorem ofCell_rep (v : Value) : Rep E v (ofCell v) := by
 unfold ofCell
 split
 · exact .nil
 · split
   · exact .sc (by assumption)
   · exact .dead

theorem ofVal_rep (v : Value) : Rep E v (ofVal v) := by
 unfold ofVal
 split
 · rename_i cs
   refine .agg (by simp) fun i v p h1 h2 => ?_
   simp at h2
   obtain ⟨u, h3, rfl⟩ := h2
   rw [h1] at h3; cases h3
   exact ofCell_rep _
 · exact ofCell_rep _

theorem zero_rep {t : TypeId} {z : List PV} (h : zeroCellsOf P t = some z) : ∃ v i, P.info? t = some i ∧ i.zero = some v ∧ Rep E (.agg v.cells) (.agg z) ∧ z.length = v.cells.size := by
 unfold zeroCellsOf at h
 split at h
 · rename_i i hi
   obtain ⟨v, h1, rfl⟩ := Option.map_eq_some_iff.1 h
   refine ⟨v, i, hi, h1, .agg (by simp) fun j u p h2 h3 => ?_, by simp⟩
   simp at h3
   obtain ⟨x, h4, rfl⟩ := h3
   rw [h2] at h4; cases h4
   exact ofCell_rep _
 · cases h

theorem run_zeroValue {t : TypeId} {v : Value} {i : TypeInfo} (h : P.info? t = some i) (hz : i.zero = some v) (w : World) : (zeroValue t).run P w = .ok v w := by
 simp [zeroValue, typeInfo, h, hz]

theorem run_mapPlaces (fs : List Field) (w : World) (h : ∀ f ∈ fs, tyOk P f.type = true) : (fs.mapM fun f => do pure (f.offset, ← sizeOf f.type) : Sem (List (Nat × Nat))).run P w = .ok (fs.map fun f => (f.offset, P.cellsOf f.type)) w := by
 induction fs with
 | nil => rfl
 | cons f fs ih =>
   have hs := run_sizeOf (P := P) (t := f.type) rfl (by have := (tyOk_spec (h f (by simp))).2; omega) w
   rw [List.mapM_cons]
   simp only [Sem.run_bind, hs, Sem.run_pure, Result.andThen_ok, ih (fun x hx => h x (by simp [hx]))]
   rfl

theorem ro_build {t : TypeId} {parts : List (Nat × Value)} {pp : List (Nat × PV)} (hl : parts.length = pp.length)
   (hrel : ∀ (i : Nat) (x : Nat × Value) (y : Nat × PV), parts[i]? = some x → pp[i]? = some y → x.1 = y.1 ∧ Rep E x.2 y.2)
   (hob : (buildEff P t pp).ob) : RO P E (Instr.build t parts.toArray) (buildEff P t pp) := by
 unfold buildEff at hob ⊢
 split at hob
 · rename_i z hz
   obtain ⟨h1, h2, h3⟩ := hob
   obtain ⟨v, i, h4, h5, h6, h7⟩ := zero_rep (E := E) hz
   rcases h1 with h1 | h1
   · obtain ⟨fs, hu, hall⟩ := structOk_spec h1
     have hpl : places P t = fs.toList.map fun f => (f.offset, P.cellsOf f.type, tyAgg P f.type) := by unfold places; rw [hu]
     have hm := run_mapPlaces (P := P) fs.toList E.w (fun f hf => hall f (by simpa using hf))
     obtain ⟨cells', h8, h9, h10, _⟩ := fill_rep (place := fun i => (fs.map fun f => (f.offset, P.cellsOf f.type))[i]?) (pl := places P t) (fun i hi => by
       rw [hpl] at hi ⊢
       simp at hi
       simp [hi]) parts pp v.cells z hl hrel h6 h2 h3
     refine ⟨.agg cells', ?_, h9, rfl, rfl⟩
     have hm' : (fs.mapM fun f => do pure (f.offset, ← sizeOf f.type) : Sem (Array (Nat × Nat))).run P E.w = .ok (fs.map fun f => (f.offset, P.cellsOf f.type)) E.w := by
       rw [← Array.toArray_toList (xs := fs), List.mapM_toArray, Sem.run_map, hm]
       simp only [Result.andThen_ok, Array.toArray_toList]
       congr 1
       apply Array.ext'
       simp
     simp only [Instr.build, Sem.run_bind, run_zeroValue h4 h5, Result.andThen_ok, run_under hu, hm', h8]
     rfl
   · obtain ⟨⟨n, e⟩, ha⟩ := Option.isSome_iff_exists.1 h1
     obtain ⟨hu, hok⟩ := arrOk_spec ha
     have hs := run_sizeOf (P := P) (t := e) rfl (by have := (tyOk_spec hok).2; omega) E.w
     have hpl : places P t = (List.range n).map fun i => (i * P.cellsOf e, P.cellsOf e, tyAgg P e) := by unfold places; rw [hu]
     obtain ⟨cells', h8, h9, h10, _⟩ := fill_rep (place := fun i => some (i * tySize P e, tySize P e)) (pl := places P t) (fun i hi => by
       rw [hpl] at hi ⊢
       simp at hi
       simp [hi, tySize]) parts pp v.cells z hl hrel h6 h2 h3
     refine ⟨.agg cells', ?_, h9, rfl, rfl⟩
     simp only [Instr.build, Sem.run_bind, run_zeroValue h4 h5, Result.andThen_ok, run_under hu, hs, h8]
     rfl
 · exact hob.elim

theorem ro_conv {s d : TypeId} {x : Value} {p : PV} (hx : Rep E x p) (hn : ∀ b, p = .sc (.string b) → isStringTy P d = true) (hob : (convEff P s d p).ob) : RO P E (convert s d x) (convEff P s d p) := by
 unfold convEff at hob ⊢
 split at hob
 · rename_i k n
   obtain rfl := hx.sc_inv
   split at hob
   · rename_i k' hk
     obtain ⟨u, hu⟩ := Option.isSome_iff_exists.1 hob
     refine ⟨.int k' (k'.wrap n), ?_, .sc rfl, rfl, rfl⟩
     simp only [convert, Sem.run_bind, run_under hu, run_under (intKind_spec hk), Result.andThen_ok]
     cases u <;> rfl
   · exact hob.elim
 · rename_i b
   obtain rfl := hx.sc_inv
   have hd := hn b rfl
   rw [if_pos hd] at hob ⊢
   obtain ⟨u, hu⟩ := Option.isSome_iff_exists.1 hob
   refine ⟨.string b, ?_, .sc rfl, rfl, rfl⟩
   simp only [convert, Sem.run_bind, run_under hu, run_under (isStringTy_spec hd), Result.andThen_ok]
   cases u <;> rfl
 · exact hob.elim

end
end Go.Pv
