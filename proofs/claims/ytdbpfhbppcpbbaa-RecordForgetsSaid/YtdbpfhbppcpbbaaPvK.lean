/- Every operation that is no call of a function: what the model's run gives is what the P level says. -/
import Derived.Test.YtdbpfhbppcpbbaaPvJ
namespace Go.Pv
open Go Go.RowKit
section
variable {P : Program} {E : Env}

theorem ok_of_ro (g : Good E) {site : Nat} {s : Sem Value} {e : Eff} {run : Result Next} (h : RO P E s e) (hrun : run = (s.run P E.w).andThen fun v w' => .ok (.value v) w') : OpOK P E site run e := by
  obtain ⟨v, h1, h2, h3, h4⟩ := h
  exact OpOK.pure g (by rw [hrun, h1]; rfl) h2 h3 h4

theorem run_v (s : Sem Value) (w : World) : (do pure (.value (← s)) : Sem Next).run P w = (s.run P w).andThen fun v w' => .ok (.value v) w' := by
  rw [Sem.run_bind]; rfl

theorem run_u (s : Sem Unit) (w : World) : (do s; pure .skip : Sem Next).run P w = (s.run P w).andThen fun _ w' => .ok .skip w' := by
  rw [Sem.run_bind]; rfl

theorem optRep {ρv : Operand → Value} {ρ : Operand → PV} {x : Option Operand} (h : ∀ y, x = some y → Rep E (ρv y) (ρ y)) : OptRep E (x.map ρv) (x.map ρ) := by
  cases x with
  | none => exact .inl ⟨rfl, rfl⟩
  | some y => exact .inr ⟨_, _, rfl, rfl, h y rfl⟩

theorem eqGuard_run {op : BinOp} {t : TypeId} {x y : Operand} {a b : Value} {p q : PV} (ha : Rep E a p) (hb : Rep E b q) (hob : (binEff P op t p q).ob) (w : World) : (eqGuard op t x y a b).run P w = .ok () w := by
  have main : ∀ n : Bool, (eqBin P n t p q).ob → (eqGuard op t x y a b).run P w = .ok () w := fun n h => by
    unfold eqBin at h
    split at h
    · obtain rfl := ha.sc_inv; rw [eqGuard_at_bool]; rfl
    · cases ha with
      | agg _ _ => cases hb with
        | agg _ _ => exact run_eqGuard_agg w op t x y _ _ h.1
    · exact h.elim
  unfold binEff at hob
  split at hob
  · obtain rfl := ha.sc_inv; rw [eqGuard_at_int]; rfl
  · obtain rfl := ha.sc_inv; rw [eqGuard_at_string]; rfl
  · split at hob
    · exact main _ hob
    · exact main _ hob
    · exact hob.elim

theorem eqGuard_runN {op : BinOp} {t : TypeId} {n : Bool} {x y : Operand} {a b : Value} {p q : PV} (ha : Rep E a p) (hb : Rep E b q) (hob : (binEffN P op t n p q).ob) (w : World) : (eqGuard op t x y a b).run P w = .ok () w := by
  unfold binEffN at hob
  split at hob
  · cases ha with
    | lit hm hc hr => rw [eqGuard_at_slice]; rfl
  · cases ha with
    | ref hk hlen hl => rw [eqGuard_at_slice]; rfl
  · exact eqGuard_run ha hb hob w

theorem isNilC_spec {a : Act} {y : Operand} (h : isNilC y = true) : a.eval y = .slice none 0 0 := by
  unfold isNilC at h
  split at h
  · rfl
  · cases h

theorem eff_sound (g : Good E) {a : Act} {ρ : Operand → PV} {o : Oper} {site : Nat} (hρ : ∀ x ∈ o.op.operands, Rep E (a.eval x) (ρ x))
    (hob : (eff P ρ E.h (site, E.cnt site) o.op).ob) : OpOK P E site ((execOp a.eval o).run P E.w) (eff P ρ E.h (site, E.cnt site) o.op) := by
  obtain ⟨dst, op, type, pos, after, guard⟩ := o
  cases op <;> simp only [eff] at hob ⊢ <;> simp only [execOp]
  case move x => exact OpOK.pure g rfl (hρ x (by simp [Op.operands])) rfl rfl
  case assign x => exact OpOK.pure g rfl (hρ x (by simp [Op.operands])) rfl rfl
  case pick c x y =>
    refine ok_of_ro g (ro_pick (hρ c (by simp [Op.operands])) (hρ x (by simp [Op.operands])) (hρ y (by simp [Op.operands])) hob) ?_
    cases a.eval c <;> rfl
  case alloc t =>
    split at hob
    · rename_i z hz
      obtain ⟨v, i, hi, hzv, hzr, hzl⟩ := zero_rep (E := E) hz
      refine ok_alloc g (T := t) ?_ hzr hob
      rw [run_v]
      simp only [Instr.alloc, Sem.run_bind, run_zeroValue hi hzv, Result.andThen_ok]
      rfl
    · exact hob.elim
  case box t x =>
    have hx := hρ x (by simp [Op.operands])
    have hc : (pcells (ρ x)).all PV.cell = true := hob.1
    obtain ⟨h1, h2⟩ := cells_rep hx hc
    refine ok_alloc g (T := t) ?_ (.agg h1 h2) hob
    rw [run_v]; rfl
  case build t parts =>
    have hr : RO P E (Instr.build t (parts.toList.map fun p => (p.1, a.eval p.2)).toArray) (buildEff P t (parts.toList.map fun p => (p.1, ρ p.2))) := by
      refine ro_build (by simp) (fun i x y h1 h2 => ?_) hob
      rw [List.getElem?_map, Option.map_eq_some_iff] at h1 h2
      obtain ⟨p, h3, rfl⟩ := h1
      obtain ⟨q, h4, rfl⟩ := h2
      rw [h3] at h4; cases h4
      exact ⟨rfl, hρ _ (by simp only [Op.operands]; simp; exact ⟨p.1, by have := List.mem_of_getElem? h3; simpa using this⟩)⟩
    refine ok_of_ro g hr ?_
    rw [run_v]
    congr 2
    congr 1
    apply Array.ext'
    simp
  case buildSlice t n parts =>
    refine ok_buildSlice g (parts := parts.toList.map fun p => (p.1, a.eval p.2)) (by simp) (fun i x y h1 h2 => ?_) ?_ hob
    · rw [List.getElem?_map, Option.map_eq_some_iff] at h1 h2
      obtain ⟨p, h3, rfl⟩ := h1
      obtain ⟨q, h4, rfl⟩ := h2
      rw [h3] at h4; cases h4
      exact ⟨rfl, hρ _ (by simp only [Op.operands]; simp; exact ⟨p.1, by have := List.mem_of_getElem? h3; simpa using this⟩)⟩
    · rw [run_v]
      congr 2
      congr 1
      apply Array.ext'
      simp
  case load t x => exact ok_of_ro g (ro_load g (hρ x (by simp [Op.operands])) hob) (run_v _ _)
  case store t x y => exact ok_store g (hρ x (by simp [Op.operands])) (hρ y (by simp [Op.operands])) (run_u _ _) hob
  case nilCheck x =>
    have hx := hρ x (by simp [Op.operands])
    split at hob
    · rename_i k sz i j hp
      rw [hp] at hx
      generalize hv : a.eval x = v at hx ⊢
      cases hx with
      | ptr hk hl => exact OpOK.pure g rfl (.ptr hk hl) rfl rfl
    · rename_i t sz rs i j hp
      rw [hp] at hx
      generalize hv : a.eval x = v at hx ⊢
      cases hx with
      | lptr _ _ hm hr => exact OpOK.pure g rfl (.lptr _ _ hm hr) rfl rfl
    · exact hob.elim
  case binOp op t x y yt =>
    have hx := hρ x (by simp [Op.operands])
    have hy := hρ y (by simp [Op.operands])
    refine ok_of_ro g (ro_binN (fun h => isNilC_spec h) hx hy hob) ?_
    rw [run_v, Sem.run_bind, eqGuard_runN hx hy hob]
    rfl
  case unOp op t x => exact ok_of_ro g (ro_un (hρ x (by simp [Op.operands])) hob) (run_v _ _)
  case convert s d x => exact ok_conv g (hρ x (by simp [Op.operands])) (run_v _ _) hob
  case makeFunc fn first cap =>
    refine OpOK.pure g (v := .func fn (first.map a.eval) (cap.map a.eval)) rfl ?_ rfl rfl
    refine .func (by simp) (by simp) (fun i v p h1 h2 => ?_) (fun i v p h1 h2 => ?_)
    all_goals
      simp at h1 h2
      obtain ⟨x, h3, rfl⟩ := h1
      obtain ⟨y, h4, rfl⟩ := h2
      rw [h3] at h4; cases h4
      exact hρ x (by simp only [Op.operands]; have := Array.mem_of_getElem? h3; simp [this])
  case makeMap t r =>
    cases r with
    | none => exact ok_makeMap g (by rw [run_v]; rfl) rfl rfl rfl
    | some x => simp at hob
  case makeSlice t l c => exact ok_makeSlice g (hρ l (by simp [Op.operands])) (hρ c (by simp [Op.operands])) (run_v _ _) hob
  case slice t x lo hi mx =>
    refine ok_of_ro g (ro_slice (hρ x (by simp [Op.operands])) (optRep fun y h => hρ y (by simp [Op.operands, h])) (optRep fun y h => hρ y (by simp [Op.operands, h])) (optRep fun y h => hρ y (by simp [Op.operands, h])) hob) (run_v _ _)
  case fieldAddr t x f => exact ok_of_ro g (ro_fieldAddr (hρ x (by simp [Op.operands])) hob) (run_v _ _)
  case field t x f => exact ok_of_ro g (ro_field (hρ x (by simp [Op.operands])) hob) (run_v _ _)
  case indexAddr t x i => exact ok_of_ro g (ro_indexAddr (hρ x (by simp [Op.operands])) (hρ i (by simp [Op.operands])) hob) (run_v _ _)
  case index t x i => exact ok_of_ro g (ro_index (hρ x (by simp [Op.operands])) (hρ i (by simp [Op.operands])) hob) (run_v _ _)
  case range t x => exact ok_range g (hρ x (by simp [Op.operands])) (run_v _ _) hob
  case entry x => exact ok_of_ro g (ro_entry g (hρ x (by simp [Op.operands])) hob) (run_v _ _)
  case next x s => exact ok_of_ro g (ro_next g (hρ x (by simp [Op.operands])) hob) (run_v _ _)
  case lookup t m k ok => exact ok_of_ro g (ro_lookup g (hρ m (by simp [Op.operands])) (hρ k (by simp [Op.operands])) hob) (run_v _ _)
  case mapUpdate t m k v => exact ok_mapUpdate g (hρ m (by simp [Op.operands])) (hρ k (by simp [Op.operands])) (hρ v (by simp [Op.operands])) (run_u _ _) hob
  case extract x i => exact ok_of_ro g (ro_extract (hρ x (by simp [Op.operands])) hob) (run_v _ _)
  case call c =>
    obtain ⟨callee, args, argTypes⟩ := c
    cases callee with
    | value f => simp only at hob; exact hob.elim
    | invoke r m => simp only at hob; exact hob.elim
    | builtin b =>
      have hargs : ∀ (i : Nat) (v : Value) (p : PV), (args.map a.eval)[i]? = some v → (args.toList.map ρ)[i]? = some p → Rep E v p := fun i v p h1 h2 => by
        simp at h1 h2
        obtain ⟨x, h3, rfl⟩ := h1
        obtain ⟨y, h4, rfl⟩ := h2
        rw [h3] at h4; cases h4
        exact hρ x (by simp only [Op.operands, Call.operands]; have := Array.mem_of_getElem? h3; simp [this])
      simp only at hob ⊢
      have hts : ∀ t rest, argTypes.toList = t :: rest → argTypes[0]? = some t := fun t rest h => by rw [← Array.getElem?_toList, h]; rfl
      have hts1 : ∀ t t2 rest, argTypes.toList = t :: t2 :: rest → argTypes[1]? = some t2 := fun t t2 rest h => by rw [← Array.getElem?_toList, h]; rfl
      have harg : ∀ (i : Nat) (p : PV), (args.toList.map ρ)[i]? = some p → ∃ v, (args.map a.eval)[i]? = some v ∧ Rep E v p := fun i p h => by
        have h' := h
        simp at h'
        obtain ⟨x, h3, rfl⟩ := h'
        exact ⟨a.eval x, by simp [h3], hargs i _ _ (by simp [h3]) h⟩
      unfold builtinEff at hob ⊢
      split at hob
      · rename_i t _ x _ ht hx
        obtain ⟨v, h1, h2⟩ := harg 0 x (by rw [hx]; rfl)
        refine ok_of_ro g (ro_len (ty := type) g (hts _ _ ht) h1 h2 hob) ?_
        simp only [resolve, Sem.run_bind, Sem.run_pure, Result.andThen_ok, invoke, builtin]
      · rename_i t t2 _ s x _ ht hx
        obtain ⟨vs, h1, h2⟩ := harg 0 s (by rw [hx]; rfl)
        obtain ⟨vx, h3, h4⟩ := harg 1 x (by rw [hx]; rfl)
        refine ok_append (ty := type) g (hts _ _ ht) (hts1 _ _ _ ht) h1 h3 h2 h4 ?_ hob
        simp only [resolve, Sem.run_bind, Sem.run_pure, Result.andThen_ok, invoke, builtin]
      · rename_i t _ m k _ ht hx
        obtain ⟨vm, h1, h2⟩ := harg 0 m (by rw [hx]; rfl)
        obtain ⟨vk, h3, h4⟩ := harg 1 k (by rw [hx]; rfl)
        refine ok_mapDelete (ty := type) g (hts _ _ ht) h1 h3 h2 h4 ?_ hob
        simp only [resolve, Sem.run_bind, Sem.run_pure, Result.andThen_ok, invoke, builtin]
      · rename_i x rest hx
        obtain ⟨v, h1, h2⟩ := harg 0 x (by rw [hx]; rfl)
        have hl : (args.map a.eval).toList = v :: (args.map a.eval).toList.tail := by
          cases hq : (args.map a.eval).toList with
          | nil => rw [← Array.getElem?_toList, hq] at h1; cases h1
          | cons y ys => rw [← Array.getElem?_toList, hq] at h1; cases h1; rfl
        have hlen : (args.map a.eval).toList.tail.length = rest.length := by
          have := congrArg List.length hx
          simp at this
          simp; omega
        refine ok_of_ro g (ro_maxs (args.map a.eval).toList.tail rest v x hlen (fun i u q h3 h4 => hargs (i + 1) u q ?_ (by rw [hx]; exact h4)) h2 hob) ?_
        · rw [← Array.getElem?_toList, hl]; exact h3
        · simp only [resolve, Sem.run_bind, Sem.run_pure, Result.andThen_ok, invoke, builtin, Builtin.max_]
          rw [hl]; rfl
      · rename_i x rest hx
        obtain ⟨v, h1, h2⟩ := harg 0 x (by rw [hx]; rfl)
        have hl : (args.map a.eval).toList = v :: (args.map a.eval).toList.tail := by
          cases hq : (args.map a.eval).toList with
          | nil => rw [← Array.getElem?_toList, hq] at h1; cases h1
          | cons y ys => rw [← Array.getElem?_toList, hq] at h1; cases h1; rfl
        have hlen : (args.map a.eval).toList.tail.length = rest.length := by
          have := congrArg List.length hx
          simp at this
          simp; omega
        refine ok_of_ro g (ro_mins (args.map a.eval).toList.tail rest v x hlen (fun i u q h3 h4 => hargs (i + 1) u q ?_ (by rw [hx]; exact h4)) h2 hob) ?_
        · rw [← Array.getElem?_toList, hl]; exact h3
        · simp only [resolve, Sem.run_bind, Sem.run_pure, Result.andThen_ok, invoke, builtin, Builtin.min_]
          rw [hl]; rfl
      · exact hob.elim
  all_goals exact hob.elim

end
end Go.Pv
