/- One operation that is no call of a function, eighth part: maps; a string's bytes. -/
import Derived.Test.YtdbpfhbppcpbbaaPvI
namespace Go.Pv
open Go Go.RowKit
section
variable {P : Program} {E : Env}

theorem bytes_beq' (a b : ByteArray) : (a == b) = decide (a = b) := by
  rw [Bool.eq_iff_iff, decide_eq_true_eq]
  cases a; cases b
  rename_i x y
  show (x == y) = true ↔ _
  simp

theorem keyOk_cases {kt : TypeId} {p : PV} {v : Value} (h : keyOk P kt p) (hr : Rep E v p) :
    (∃ k n, p = .sc (.int k n) ∧ v = .int k n ∧ P.underlying kt = some (.int k)) ∨ (∃ s, p = .sc (.string s) ∧ v = .string s ∧ P.underlying kt = some .string) := by
  unfold keyOk at h
  split at h
  · exact .inl ⟨_, _, rfl, hr.sc_inv, intKind_spec h⟩
  · exact .inr ⟨_, rfl, hr.sc_inv, isStringTy_spec h⟩
  · exact h.elim

theorem same_now {kt : TypeId} {p q : PV} {v u : Value} {d : TypeDesc} (hd : P.underlying kt = some d) (h : keyOk P kt p) (hr : Rep E v p) (h' : keyOk P kt q) (hr' : Rep E u q) : Instr.sameNow d v u = some (keyEq p q) := by
  rcases keyOk_cases h hr with ⟨k, n, rfl, rfl, hu⟩ | ⟨s, rfl, rfl, hu⟩ <;> rcases keyOk_cases h' hr' with ⟨k', n', rfl, rfl, hu'⟩ | ⟨s', rfl, rfl, hu'⟩
  · rw [hd] at hu hu'; cases hu; cases hu'; simp [Instr.sameNow, keyEq]
  · rw [hu] at hu'; cases hu'
  · rw [hu] at hu'; cases hu'
  · rw [hd] at hu; cases hu; simp only [Instr.sameNow, keyEq]; congr 1; exact bytes_beq' _ _

theorem run_checkKey' (b : Bool) (n : Nat) {kt : TypeId} {p : PV} {v : Value} (h : keyOk P kt p) (hr : Rep E v p) (w : World) : (Instr.checkKey b (n + 1) kt v).run P w = .ok () w := by
  rcases keyOk_cases h hr with ⟨k, n, rfl, rfl, hu⟩ | ⟨s, rfl, rfl, hu⟩ <;> simp [Instr.checkKey, run_under hu]

theorem run_checkKey (b : Bool) {kt : TypeId} {p : PV} {v : Value} (h : keyOk P kt p) (hr : Rep E v p) (w : World) : (Instr.checkKey b 10000 kt v).run P w = .ok () w := run_checkKey' b 9999 h hr w

/-- Pointwise: entries of a map. -/
def EntsRep (E : Env) (ents : List MapEntry) (es : List (PV × PV)) : Prop :=
  ents.length = es.length ∧ ∀ (i : Nat) (e : MapEntry) (p : PV × PV), ents[i]? = some e → es[i]? = some p → Rep E e.key p.1 ∧ Rep E e.val p.2

theorem find_spec {kt : TypeId} {d : TypeDesc} (hd : P.underlying kt = some d) {kp : PV} {kv : Value} (hk : keyOk P kt kp) (hkr : Rep E kv kp) (vp : PV) :
    ∀ (ents : List MapEntry) (es : List (PV × PV)) (i : Nat), EntsRep E ents es → (∀ e ∈ es, keyOk P kt e.1) →
      (Instr.findNow d kv ents i = some none ∧ mapFind kp es = none ∧ mapSet kp vp es = es ++ [(kp, vp)]) ∨
      (∃ j e pe, ents[j]? = some e ∧ es[j]? = some pe ∧ Instr.findNow d kv ents i = some (some (i + j, e.val)) ∧ mapFind kp es = some pe.2 ∧ mapSet kp vp es = es.set j (kp, vp) ∧ keyEq kp pe.1 = true)
  | [], [], i, _, _ => .inl ⟨rfl, rfl, rfl⟩
  | [], _ :: _, _, h, _ => by simp [EntsRep] at h
  | _ :: _, [], _, h, _ => by simp [EntsRep] at h
  | e :: ents, pe :: es, i, h, hok => by
    obtain ⟨h1, h2⟩ := h.2 0 e pe rfl rfl
    have hs := same_now hd hk hkr (hok pe (by simp)) h1
    cases hq : keyEq kp pe.1 with
    | true =>
      rw [hq] at hs
      exact .inr ⟨0, e, pe, rfl, rfl, by simp [Instr.findNow, hs], by simp [mapFind, hq], by simp [mapSet, hq], hq⟩
    | false =>
      rw [hq] at hs
      have hl := h.1
      rcases find_spec hd hk hkr vp ents es (i + 1) ⟨by simpa using hl, fun j e p h3 h4 => h.2 (j + 1) e p h3 h4⟩ (fun e he => hok e (by simp [he])) with ⟨h3, h4, h5⟩ | ⟨j, e', pe', h3, h4, h5, h6, h7, h8⟩
      · exact .inl ⟨by simp [Instr.findNow, hs, h3], by simp [mapFind, hq, h4], by simp [mapSet, hq, h5]⟩
      · exact .inr ⟨j + 1, e', pe', h3, h4, by simp [Instr.findNow, hs, h5]; omega, by simp [mapFind, hq, h6], by simp [mapSet, hq, h7], h8⟩

theorem run_findKey {kt : TypeId} {d : TypeDesc} (hd : P.underlying kt = some d) {kv : Value} {es : List MapEntry} {r : Option (Nat × Value)} (h : Instr.findNow d kv es 0 = some r) (w : World) : (Instr.findKey kt kv es).run P w = .ok r w := by
  simp [Instr.findKey, run_under hd, h]

theorem run_getMap {r : Nat} {ents : Array MapEntry} {clk : Nat} {w : World} (h : w.heap[r]? = some (.map ents clk)) : (getObj r).run P w = .ok (.map ents clk) w := by
  simp [getObj, Sem.run, h]

theorem ents_of (g : Good E) {k : Key} {es : List (PV × PV)} (hk : E.h k = some (.map es)) : ∃ ents clk, E.w.heap[E.blk k]? = some (.map ents clk) ∧ EntsRep E ents.toList es := by
  obtain ⟨ents, clk, h1, h2, h3, h4, _⟩ := g.obj _ _ hk
  exact ⟨ents, clk, h1, by simpa using h2, fun i e p h5 h6 => h4 i e p (by simpa using h5) h6⟩

theorem zeroVal_rep {t : TypeId} (h : zeroFit P t = true) : ∃ v, (∀ w, (zeroValue t).run P w = .ok v w) ∧ Rep E v (zeroVal P t) := by
  unfold zeroFit at h
  cases hi : P.info? t with
  | none => rw [hi] at h; simp at h
  | some i =>
    rw [hi] at h
    simp only [Option.bind_some] at h
    cases hz : i.zero with
    | none => rw [hz] at h; simp at h
    | some v =>
      rw [hz] at h
      refine ⟨v, fun w => run_zeroValue hi hz w, ?_⟩
      have hc : zeroCellsOf P t = some (v.cells.toList.map ofCell) := by simp [zeroCellsOf, hi, hz]
      unfold zeroVal
      rw [hc]
      simp only
      cases v with
      | agg cs => simp only at h; rw [if_pos h]; exact ofVal_rep (.agg cs)
      | tuple vs => simp at h
      | _ =>
        simp only [Bool.not_eq_true'] at h
        rw [if_neg (by simp [h])]
        simpa [Value.cells] using ofCell_rep _

theorem ro_lookup (g : Good E) {t : TypeId} {m k : Value} {pm pk : PV} {ok : Bool} (hm : Rep E m pm) (hk : Rep E k pk) (hob : (lookupEff P E.h t pm pk ok).ob) : RO P E (Instr.lookup t m k ok) (lookupEff P E.h t pm pk ok) := by
  unfold lookupEff at hob ⊢
  split at hob
  · rename_i kt et hmt
    split at hob
    · rename_i key
      split at hob
      · rename_i es hkey
        obtain ⟨h1, h2, h3⟩ := hob
        cases hm with
        | map hkn hl =>
          obtain ⟨hb, es', hq⟩ := hl _ hkey
          cases hq
          subst hb
          obtain ⟨ents, clk, h4, h5⟩ := ents_of g hkey
          obtain ⟨d, hd⟩ : ∃ d, P.underlying kt = some d := by
            rcases keyOk_cases h1 hk with ⟨_, _, _, _, hu⟩ | ⟨_, _, _, hu⟩ <;> exact ⟨_, hu⟩
          obtain ⟨z, hzr, hzrep⟩ := zeroVal_rep (P := P) (E := E) (t := et) h3
          rcases find_spec hd h1 hk .dead ents.toList es 0 h5 h2 with ⟨h6, h7, _⟩ | ⟨j, e, pe, h6, h7, h8, h9, _, _⟩
          · have hrun : ∀ b, (Instr.lookup t (.map (some (E.blk key))) k b).run P E.w = .ok (if b then .tuple #[z, .bool false] else z) E.w := fun b => by
              simp only [Instr.lookup, Sem.run_bind, run_under (mapTy_spec hmt), Result.andThen_ok, run_getMap h4, Sem.run_pure, run_checkKey ents.isEmpty h1 hk, run_findKey hd h6, hzr]
            refine ⟨_, hrun ok, ?_, rfl, rfl⟩
            cases ok with
            | false => simpa [h7, lookRes] using hzrep
            | true =>
              simp only [h7, lookRes, Option.getD_none, Option.isSome_none, if_true]
              refine .tup (by simp) fun i v p h8 h9 => ?_
              rcases i with _ | _ | i
              · simp at h8 h9; subst h8; subst h9; exact hzrep
              · simp at h8 h9; subst h8; subst h9; exact .sc rfl
              · simp at h8
          · have hrun : ∀ b, (Instr.lookup t (.map (some (E.blk key))) k b).run P E.w = .ok (if b then .tuple #[e.val, .bool true] else e.val) E.w := fun b => by
              simp only [Instr.lookup, Sem.run_bind, run_under (mapTy_spec hmt), Result.andThen_ok, run_getMap h4, Sem.run_pure, run_checkKey ents.isEmpty h1 hk, run_findKey hd h8]
            have hval := (h5.2 j e pe h6 h7).2
            refine ⟨_, hrun ok, ?_, rfl, rfl⟩
            cases ok with
            | false => simpa [h9, lookRes] using hval
            | true =>
              simp only [h9, lookRes, Option.getD_some, Option.isSome_some, if_true]
              refine .tup (by simp) fun i v p h10 h11 => ?_
              rcases i with _ | _ | i
              · simp at h10 h11; subst h10; subst h11; exact hval
              · simp at h10 h11; subst h10; subst h11; exact .sc rfl
              · simp at h10
      · exact hob.elim
    · exact hob.elim
  · exact hob.elim


theorem sameBits_key {kt : TypeId} {p q : PV} {v u : Value} (h : keyOk P kt p) (hr : Rep E v p) (h' : keyOk P kt q) (hr' : Rep E u q) (he : keyEq p q = true) (n : Nat) : Instr.sameBits n u v = true := by
  rcases keyOk_cases h hr with ⟨k, n, rfl, rfl, hu⟩ | ⟨s, rfl, rfl, hu⟩ <;> rcases keyOk_cases h' hr' with ⟨k', n', rfl, rfl, hu'⟩ | ⟨s', rfl, rfl, hu'⟩
  · rw [hu] at hu'; cases hu'
    simp [keyEq] at he; subst he; simp [Instr.sameBits]
  · rw [hu] at hu'; cases hu'
  · rw [hu] at hu'; cases hu'
  · simp [keyEq] at he; subst he; simp [Instr.sameBits, bytes_beq']

theorem heap_set (w : World) (b : Nat) (o : Obj) (x : Nat) : ({ w with heap := w.heap.setIfInBounds b o } : World).heap[x]? = if b = x ∧ x < w.heap.size then some o else w.heap[x]? := by
  show (w.heap.setIfInBounds b o)[x]? = _
  rw [Array.getElem?_setIfInBounds]
  by_cases h : b = x
  · subst h
    by_cases h2 : b < w.heap.size
    · simp [h2]
    · simp [h2]
  · simp [h]

theorem run_setMap {r : Nat} {ents ents' : Array MapEntry} {clk clk' : Nat} {w : World} (h : w.heap[r]? = some (.map ents clk)) : (setObj r (.map ents' clk')).run P w = .ok () { w with heap := w.heap.setIfInBounds r (.map ents' clk') } := by
  simp [setObj, Sem.run, h]

theorem mapFind_none {k : PV} : ∀ {es : List (PV × PV)}, mapFind k es = none → ∀ e ∈ es, keyEq k e.1 = false
  | [], _, e, he => by simp at he
  | x :: es, h, e, he => by
    unfold mapFind at h
    split at h
    · cases h
    · rename_i hx
      rcases List.mem_cons.1 he with rfl | he
      · simpa using hx
      · exact mapFind_none h e he

theorem keyEq_same {kt : TypeId} {p q : PV} {v : Value} (hp : keyOk P kt p) (hv : Rep E v p) (hq : keyOk P kt q) (hv' : Rep E v q) : keyEq p q = true := by
  rcases keyOk_cases hp hv with ⟨k, n, rfl, rfl, hu⟩ | ⟨s, rfl, rfl, hu⟩
  · rcases keyOk_cases hq hv' with ⟨k', n', rfl, h, hu'⟩ | ⟨s, rfl, h, hu'⟩
    · cases h; simp [keyEq]
    · cases h
  · rcases keyOk_cases hq hv' with ⟨k', n', rfl, h, hu'⟩ | ⟨s', rfl, h, hu'⟩
    · cases h
    · cases h; simp [keyEq]

theorem keyEq_val {kt : TypeId} {p q : PV} {v v' : Value} (hp : keyOk P kt p) (hv : Rep E v p) (hq : keyOk P kt q) (hv' : Rep E v' q) (h : keyEq p q = true) : v' = v := by
  rcases keyOk_cases hp hv with ⟨k, n, rfl, rfl, hu⟩ | ⟨s, rfl, rfl, hu⟩
  · rcases keyOk_cases hq hv' with ⟨k', n', rfl, rfl, hu'⟩ | ⟨s, rfl, rfl, hu'⟩
    · rw [hu] at hu'; cases hu'
      simp only [keyEq, beq_iff_eq] at h
      rw [h]
    · simp [keyEq] at h
  · rcases keyOk_cases hq hv' with ⟨k', n', rfl, rfl, hu'⟩ | ⟨s', rfl, rfl, hu'⟩
    · simp [keyEq] at h
    · simp only [keyEq, decide_eq_true_eq] at h
      rw [h]

theorem stamps_push {ents : Array MapEntry} {clk : Nat} {k v : Value} (h : Stamps ents clk) (hk : ∀ x ∈ ents.toList, x.key = k → False) : Stamps (ents.push { key := k, val := v, born := clk }) (clk + 1) := by
  obtain ⟨h1, h2, h3⟩ := h
  refine ⟨fun x hx => ?_, ?_, ?_⟩
  · rw [Array.toList_push] at hx
    rcases List.mem_append.1 hx with hx | hx
    · have := h1 x hx; omega
    · simp at hx; subst hx; exact Nat.lt_succ_self _
  · rw [Array.toList_push, List.map_append, List.nodup_append]
    refine ⟨h2, by simp, fun a ha b hb => ?_⟩
    obtain ⟨x, hx, rfl⟩ := List.mem_map.1 ha
    simp at hb; subst hb
    have := h1 x hx; omega
  · rw [Array.toList_push, List.map_append, List.nodup_append]
    refine ⟨h3, by simp, fun a ha b hb => ?_⟩
    obtain ⟨x, hx, rfl⟩ := List.mem_map.1 ha
    simp at hb; subst hb
    exact fun he => hk x hx he

theorem stamps_modify {ents : Array MapEntry} {clk j : Nat} {k v : Value} {e : MapEntry} (h : Stamps ents clk) (he : ents[j]? = some e) (hk : e.key = k) : Stamps (ents.modify j fun e => { e with key := k, val := v }) clk := by
  obtain ⟨h1, h2, h3⟩ := h
  have hget : ∀ (i : Nat) (x : MapEntry), (ents.modify j fun e => { e with key := k, val := v })[i]? = some x → ∃ y, ents[i]? = some y ∧ y.born = x.born ∧ y.key = x.key := fun i x hx => by
    rw [Array.getElem?_modify] at hx
    split at hx
    · rename_i hji
      subst hji
      rw [he] at hx
      simp at hx; subst hx
      exact ⟨e, he, rfl, hk⟩
    · exact ⟨x, hx, rfl, rfl⟩
  have hmap : ∀ {β : Type} (f : MapEntry → β), (∀ x y : MapEntry, y.born = x.born → y.key = x.key → f y = f x) → ((ents.modify j fun e => { e with key := k, val := v }).toList.map f) = ents.toList.map f := fun f hf => by
    apply List.ext_getElem?
    intro i
    simp only [List.getElem?_map, Array.getElem?_toList]
    cases hx : (ents.modify j fun e => { e with key := k, val := v })[i]? with
    | none =>
      have : ents[i]? = none := by
        rw [Array.getElem?_eq_none_iff] at hx ⊢
        simpa using hx
      rw [this]
    | some x =>
      obtain ⟨y, hy, hb, hky⟩ := hget i x hx
      rw [hy]
      simp [hf x y hb hky]
  refine ⟨fun x hx => ?_, ?_, ?_⟩
  · obtain ⟨i, hi⟩ := List.mem_iff_getElem?.1 hx
    obtain ⟨y, hy, hb, _⟩ := hget i x (by rw [← Array.getElem?_toList]; exact hi)
    rw [← hb]
    exact h1 y (by simpa using Array.mem_of_getElem? hy)
  · rw [hmap (·.born) fun x y h _ => h]; exact h2
  · rw [hmap (·.key) fun x y _ h => h]; exact h3

theorem ok_mapUpdate (g : Good E) {site : Nat} {t : TypeId} {m k v : Value} {pm pk pv : PV} {run : Result Next} (hm : Rep E m pm) (hk : Rep E k pk) (hv : Rep E v pv)
    (hrun : run = ((Instr.mapUpdate t m k v).run P E.w).andThen fun _ w' => .ok .skip w')
    (hob : (mapUpdateEff P E.h t pm pk pv).ob) : OpOK P E site run (mapUpdateEff P E.h t pm pk pv) := by
  unfold mapUpdateEff at hob ⊢
  split at hob
  · rename_i kt et hmt
    split at hob
    · rename_i key
      split at hob
      · rename_i es hkey
        obtain ⟨h1, h2, h3⟩ := hob
        cases hm with
        | map hkn hl =>
          obtain ⟨hb, es', hq⟩ := hl _ hkey
          cases hq
          subst hb
          obtain ⟨ents, clk, h4, h5⟩ := ents_of g hkey
          obtain ⟨ents0, clk0, h4', _, hcell, _, hst0⟩ := g.obj _ _ hkey
          have hst : Stamps ents clk := by rw [h4] at h4'; cases h4'; exact hst0
          obtain ⟨d, hd⟩ : ∃ d, P.underlying kt = some d := by
            rcases keyOk_cases h1 hk with ⟨_, _, _, _, hu⟩ | ⟨_, _, _, hu⟩ <;> exact ⟨_, hu⟩
          have hlt := live_lt g hkey
          have main : ∀ (ents' : Array MapEntry) (clk' : Nat) (esn : List (PV × PV)), (Instr.mapUpdate t (.map (some (E.blk key))) k v).run P E.w = .ok () { E.w with heap := E.w.heap.setIfInBounds (E.blk key) (.map ents' clk') } →
              ents'.size = esn.length → (∀ p ∈ esn, p.2.cell = true) → (∀ (i : Nat) (e : MapEntry) (p : PV × PV), ents'[i]? = some e → esn[i]? = some p → Rep E e.key p.1 ∧ Rep E e.val p.2) → Stamps ents' clk' → esn = mapSet pk pv es →
              OpOK P E site run { ob := keyOk P kt pk ∧ (∀ e ∈ es, keyOk P kt e.1) ∧ pv.cell = true, wr := [(key, some (.map (mapSet pk pv es)))], rd := [key] } := fun ents' clk' esn hr hsize hcells hrep hstn he => by
            subst he
            let w' : World := { E.w with heap := E.w.heap.setIfInBounds (E.blk key) (.map ents' clk') }
            have hb : ∀ b, b ≠ E.blk key → w'.heap[b]? = E.w.heap[b]? := fun b hb => by
              rw [heap_set, if_neg (by intro h; exact hb h.1.symm)]
            have hsz : E.w.heap.size ≤ w'.heap.size := by simp [w']
            have hal : (PObj.map es).alike (.map (mapSet pk pv es)) := trivial
            have hle := setEnv_le (w' := w') g hkey hal hsz hb
            have hobj : ObjOK (setEnv E key (.map (mapSet pk pv es)) w') key (.map (mapSet pk pv es)) := by
              refine ⟨ents', clk', ?_, hsize, hcells, fun i e p h6 h7 => ⟨(hrep i e p h6 h7).1.le hle, (hrep i e p h6 h7).2.le hle⟩, hstn⟩
              show w'.heap[E.blk key]? = _
              rw [heap_set, if_pos ⟨rfl, hlt⟩]
            refine ⟨undef, w', E.blk, E.cap, .inr ⟨by rw [hrun, hr]; rfl, rfl⟩, ?_⟩
            exact ⟨setEnv_good g hkey hal hsz hb hobj, hle, below_set g hkey hsz hb rfl rfl rfl, .dead⟩
          have hlen : ents.size = es.length := by simpa using h5.1
          rcases find_spec hd h1 hk pv ents.toList es 0 h5 h2 with ⟨h6, h7, h8⟩ | ⟨j, e, pe, h6, h7, h8, h9, h10, h11⟩
          · refine main (ents.push { key := k, val := v, born := clk }) (clk + 1) (es ++ [(pk, pv)]) ?_ (by simp [hlen]) ?_ ?_ (stamps_push hst fun x hx hxk => ?_) h8.symm
            · simp only [Instr.mapUpdate, Sem.run_bind, run_under (mapTy_spec hmt), Result.andThen_ok, run_getMap h4, run_checkKey false h1 hk, run_findKey hd h6, run_setMap h4]
            · intro p hp
              rcases List.mem_append.1 hp with h | h
              · exact hcell p h
              · simp at h; subst h; exact h3
            · intro i e p h9 h10
              rw [Array.getElem?_push] at h9
              split at h9
              · rename_i hi
                cases h9
                rw [hi, hlen] at h10
                simp at h10; subst h10
                exact ⟨hk, hv⟩
              · have hi := (Array.getElem?_eq_some_iff.1 h9).1
                rw [List.getElem?_append_left (by omega)] at h10
                exact h5.2 i e p (by simpa using h9) h10
            · obtain ⟨i, hi⟩ := List.mem_iff_getElem?.1 hx
              have hil : i < es.length := by rw [← h5.1]; exact (List.getElem?_eq_some_iff.1 hi).1
              have hr1 := (h5.2 i x _ hi (List.getElem?_eq_getElem hil)).1
              have hne := mapFind_none h7 _ (List.getElem_mem hil)
              rw [hxk] at hr1
              have := keyEq_same h1 hk (h2 _ (List.getElem_mem hil)) hr1
              rw [hne] at this; cases this
          · have hje : ents[j]? = some e := by simpa using h6
            have hold := (h5.2 j e pe h6 h7).1
            have hsb := sameBits_key (P := P) (E := E) h1 hk (h2 pe (List.mem_of_getElem? h7)) hold h11 10000
            refine main (ents.modify j fun e => { e with key := k, val := v }) clk (es.set j (pk, pv)) ?_ (by simp [hlen]) ?_ ?_ (stamps_modify hst hje (keyEq_val h1 hk (h2 pe (List.mem_of_getElem? h7)) hold h11)) h10.symm
            · simp only [Nat.zero_add] at h8
              simp only [Instr.mapUpdate, Sem.run_bind, run_under (mapTy_spec hmt), Result.andThen_ok, run_getMap h4, run_checkKey false h1 hk, run_findKey hd h8, hje, Option.map_some, Option.getD_some, Instr.keyThatStays, hsb, if_true, Sem.run_pure, run_setMap h4]
            · intro p hp
              rcases List.mem_or_eq_of_mem_set hp with h | h
              · exact hcell p h
              · subst h; exact h3
            · intro i e' p h12 h13
              rw [Array.getElem?_modify] at h12
              rw [List.getElem?_set] at h13
              by_cases hi : j = i
              · subst hi
                have hjl : j < es.length := (List.getElem?_eq_some_iff.1 h7).1
                rw [if_pos rfl, hje] at h12
                rw [if_pos rfl, if_pos hjl] at h13
                simp at h12; cases h13; subst h12
                exact ⟨hk, hv⟩
              · rw [if_neg hi] at h12
                rw [if_neg hi] at h13
                exact h5.2 i e' p (by simpa using h12) h13
      · exact hob.elim
    · exact hob.elim
  · exact hob.elim

theorem ok_makeMap (g : Good E) {site : Nat} {run : Result Next} {e : Eff}
    (hrun : run = .ok (.value (.map (some E.w.heap.size))) { E.w with heap := E.w.heap.push (.map #[] 0) }) (hv : e.v = .map (site, E.cnt site)) (hwr : e.wr = [((site, E.cnt site), some (.map []))]) (hb : e.bump = true) : OpOK P E site run e := by
  refine OpOK.new g (o := .map []) (w' := { E.w with heap := E.w.heap.push (.map #[] 0) }) (c := 0) hrun rfl rfl rfl rfl hwr hb ?_ ?_
  · refine ⟨#[], 0, ?_, rfl, by simp, by simp, by simp, by simp, by simp⟩
    rw [show (newEnv E site (.map []) { E.w with heap := E.w.heap.push (.map #[] 0) } 0).blk (site, E.cnt site) = E.w.heap.size by simp [newEnv]]
    show (E.w.heap.push _)[E.w.heap.size]? = _
    simp
  · rw [hv]
    refine .map (by simp [newEnv, Env.known]) fun o ho => ?_
    simp [newEnv] at ho ⊢
    exact ⟨_, ho.symm⟩

/-- A new block that is not own: memory that does not change. -/
theorem OpOK.frozen (g : Good E) {site : Nat} {run : Result Next} {e : Eff} {v : Value} {w' : World} {obj : Obj} (hrun : run = .ok (.value v) w') (hh : w'.heap = E.w.heap.push obj)
    (h1 : w'.os = E.w.os) (h2 : w'.tape = E.w.tape) (h3 : w'.output = E.w.output) (hwr : e.wr = []) (hb : e.bump = false) (hv : Rep { E with w := w' } v e.v) : OpOK P E site run e := by
  have he : ({ E with w := w', h := applyWr E.h e.wr, cnt := bumpC E.cnt site e.bump, blk := E.blk, cap := E.cap } : Env) = { E with w := w' } := by rw [hwr, hb]; rfl
  have hblk : ∀ b, b < E.w.heap.size → w'.heap[b]? = E.w.heap[b]? := fun b hb => by rw [hh, Array.getElem?_push, if_neg (by omega)]
  have hle : EnvLe E { E with w := w' } := ⟨fun b hb _ => hblk b hb, by simp [hh], fun b hb => .inl hb, rfl, rfl, rfl, fun _ => Nat.le_refl _, fun _ _ h => h, fun _ _ rs h => .inr ⟨rs, h, rfl, rfl⟩, fun _ es h => .inr ⟨es, h, rfl⟩⟩
  refine ⟨v, w', E.blk, E.cap, .inl hrun, ?_⟩
  rw [he]
  exact ⟨⟨g.inj, g.known, g.base, fun k o h => ObjOK.le hle rfl rfl (hblk _ (live_lt g h)) (g.obj k o h), g.out, by simp only [hh, Array.size_push]; exact Nat.le_trans g.size (by omega)⟩, hle, below_push g hh h1 h2 h3, hv⟩

theorem freeze_new (w : World) (c : Array Value) (T : TypeId) : ((w.alloc (.cells c T)).freeze { block := w.heap.size, off := c.size } 1).heap = w.heap.push (.cells c T (c.size, c.size + 1)) := by
  simp only [World.freeze, Nat.one_ne_zero, if_false, World.alloc]
  apply Array.ext_getElem?
  intro i
  rw [Array.getElem?_modify, Array.getElem?_push, Array.getElem?_push]
  by_cases h : i = w.heap.size
  · subst h; simp
  · rw [if_neg (fun e => h e.symm), if_neg h, if_neg h]

theorem ok_conv (g : Good E) {site : Nat} {s d : TypeId} {x : Value} {p : PV} {run : Result Next} (hx : Rep E x p) (hrun : run = ((convert s d x).run P E.w).andThen fun v w' => .ok (.value v) w')
    (hob : (convEff P s d p).ob) : OpOK P E site run (convEff P s d p) := by
  by_cases hs : ∀ b, p = .sc (.string b) → isStringTy P d = true
  · obtain ⟨v, h1, h2, h3, h4⟩ := ro_conv (P := P) hx hs hob
    exact OpOK.pure g (by rw [hrun, h1]; rfl) h2 h3 h4
  · obtain ⟨b, hb⟩ : ∃ b, p = .sc (.string b) ∧ isStringTy P d = false := by
      refine Classical.byContradiction fun hn => hs fun b hb => ?_
      cases hq : isStringTy P d with
      | true => rfl
      | false => exact absurd ⟨b, hb, hq⟩ hn
    obtain ⟨rfl, hd⟩ := hb
    obtain rfl := hx.sc_inv
    unfold convEff at hob ⊢
    simp only [hd, Bool.false_eq_true, if_false] at hob ⊢
    split at hob
    · rename_i hc
      rw [if_pos hc]
      have hob' : isStringTy P s = true := hob
      simp only [Bool.and_eq_true, beq_iff_eq] at hc
      obtain ⟨hu, hok⟩ := sliceOk_spec hc.1
      have hk := intKind_spec hc.2
      let cap := (Question.appendCap b.size 0 (elemTy P d)).cut (E.w.tape E.w.drawn (.appendCap b.size 0 (elemTy P d)))
      let cells : Array Value := b.data.map (fun c => Value.int .u8 c.toNat) ++ Array.replicate (cap - b.size) (.int .u8 0)
      let w' : World := (E.w.drew.alloc (.cells cells (elemTy P d))).freeze { block := E.w.heap.size, off := cells.size } 1
      have hcap : b.size ≤ cap := by simp [cap, Question.cut]
      have hfz : w'.heap = E.w.heap.push (.cells cells (elemTy P d) (cells.size, cells.size + 1)) := by
        exact freeze_new (E.w.drew) cells (elemTy P d)
      have hsh : (E.w.drew.alloc (.cells cells (elemTy P d))).shape? E.w.heap.size = some (elemTy P d, cells.size) := by
        have : (E.w.drew.alloc (.cells cells (elemTy P d))).heap[E.w.heap.size]? = some (.cells cells (elemTy P d)) := by
          show (E.w.heap.push _)[E.w.heap.size]? = _
          simp
        unfold World.shape?
        rw [this]
      have hr : (convert s d (.string b)).run P E.w = .ok (.slice (some ⟨E.w.heap.size, 0, none⟩) b.size cap) w' := by
        have hst : (Conv.stringToBytes (elemTy P d) b).run P E.w = .ok (.slice (some ⟨E.w.heap.size, 0, none⟩) b.size cap) w' := by
          have hnr : (newRow (elemTy P d) cells).run P E.w.drew = .ok ⟨E.w.heap.size, 0, none⟩ (E.w.drew.alloc (.cells cells (elemTy P d))) := rfl
          have hms : (markStringish ⟨E.w.heap.size, 0, none⟩).run P (E.w.drew.alloc (.cells cells (elemTy P d))) = .ok () w' := by
            simp only [markStringish, Sem.run_bind, run_shape, Result.andThen_ok, hsh]
            rfl
          simp only [Conv.stringToBytes, Sem.run_bind, run_choose, Question.forced, Bool.false_eq_true, if_false, Result.andThen_ok]
          show ((newRow (elemTy P d) cells).run P E.w.drew).andThen _ = _
          rw [hnr]
          simp only [Result.andThen_ok, hms, Sem.run_pure]
          rfl
        simp only [convert, Sem.run_bind, run_under (isStringTy_spec hob'), run_under hu, Result.andThen_ok, run_under hk]
        exact hst
      refine OpOK.frozen g (w' := w') (by rw [hrun, hr]; rfl) hfz rfl rfl rfl rfl rfl ?_
      have hown : ¬ ({ E with w := w' } : Env).own E.w.heap.size := fun ⟨k, o, h1, h2⟩ => by have := live_lt g h1; have h2' : E.blk k = E.w.heap.size := h2; omega
      have hM : ¬ E.M E.w.heap.size := fun h => by have := g.out _ h; have := g.size; omega
      have hcell : ∀ x, w'.cell? ⟨E.w.heap.size, x, none⟩ = cells[x]? := fun x => by
        have : w'.heap[E.w.heap.size]? = some (.cells cells (elemTy P d) (cells.size, cells.size + 1)) := by rw [hfz]; simp
        exact cell_of_heap this x
      have hlen : (byteRows b.data.toList).length = b.size := by simp [byteRows]
      have := Rep.lit (E := { E with w := w' }) (b := E.w.heap.size) (off := 0) (c := cap) (t := false) (sz := 1) (rows := byteRows b.data.toList) (f := fun i _ => .int .u8 ((b.data.toList.getD i 0).toNat))
        ⟨hown, fun _ => hM, (fun h => by cases h), by simp [hfz], (fun row h => by simp [byteRows] at h; obtain ⟨x, _, rfl⟩ := h; rfl), (fun i j row p h1 h2 => by
          simp [byteRows] at h1
          obtain ⟨c, h3, rfl⟩ := h1
          have hi : i < b.size := by
            have := (Array.getElem?_eq_some_iff.1 h3).1; simpa using this
          cases j with
          | zero =>
            simp only [Nat.zero_add, Nat.mul_one, Nat.add_zero]
            rw [hcell]
            simp only [cells]
            rw [Array.getElem?_append_left (by simpa using hi)]
            simp [h3]
          | succ j => simp at h2), (fun row h p hp => by simp [byteRows] at h; obtain ⟨x, _, rfl⟩ := h; simp at hp; subst hp; exact .sc _), (fun row h p hp => by simp [byteRows] at h; obtain ⟨x, _, rfl⟩ := h; simp at hp; subst hp; rfl)⟩
        (by rw [hlen]; exact hcap) (fun i j row p h1 h2 => by
          simp [byteRows] at h1
          obtain ⟨c, h3, rfl⟩ := h1
          cases j with
          | zero => simp at h2; subst h2; simp [h3]; exact .sc rfl
          | succ j => simp at h2)
      rw [hlen] at this
      exact this
    · rename_i hc; exact hob.elim

theorem ok_range (g : Good E) {site : Nat} {t : TypeId} {x : Value} {p : PV} {run : Result Next} (hx : Rep E x p) (hrun : run = ((Instr.range t x).run P E.w).andThen fun v w' => .ok (.value v) w')
    (hob : (rangeEff P E.h t p).ob) : OpOK P E site run (rangeEff P E.h t p) := by
  unfold rangeEff at hob ⊢
  split at hob
  · rename_i key
    split at hob
    · rename_i es hkey
      have hmt : (mapTy P t).isSome = true := hob
      obtain ⟨kt, hkt⟩ := Option.isSome_iff_exists.1 hmt
      obtain ⟨kt, et⟩ := kt
      cases hx with
      | map hkn hl =>
        have hb := (hl _ hkey).1
        subst hb
        obtain ⟨ents, clk, h4, h5⟩ := ents_of g hkey
        let w' : World := { E.w with heap := E.w.heap.push (.mapIter (some (E.blk key)) clk #[] clk) }
        have hr : (Instr.range t (.map (some (E.blk key)))).run P E.w = .ok (.pointer (some ⟨E.w.heap.size, 0, none⟩)) w' := by
          simp only [Instr.range, Sem.run_bind, run_under (mapTy_spec hkt), Result.andThen_ok, run_getMap h4, Sem.run_pure]
          rfl
        refine OpOK.frozen g (w' := w') (obj := .mapIter (some (E.blk key)) clk #[] clk) (by rw [hrun, hr]; rfl) rfl rfl rfl rfl rfl rfl ?_
        have hown : ¬ ({ E with w := w' } : Env).own E.w.heap.size := fun ⟨k, o, h1, h2⟩ => by have := live_lt g h1; have h2' : E.blk k = E.w.heap.size := h2; omega
        refine Rep.iter (E := { E with w := w' }) (r := E.w.heap.size) (b := E.blk key) (since := clk) (last := clk) (seen := #[]) hown (by show E.w.heap.size < (E.w.heap.push _).size; simp) (by show (E.w.heap.push _)[E.w.heap.size]? = _; simp) hkn fun o ho => ⟨rfl, es, ?_⟩
        have ho' : E.h key = some o := ho
        rw [hkey] at ho'; cases ho'; rfl
    · exact hob.elim
  · exact hob.elim

theorem ro_next (g : Good E) {x : Value} {p : PV} {s : Bool} {ty : TypeId} (hx : Rep E x p) (hob : (nextEff E.h p s).ob) : RO P E (Instr.next x s ty) (nextEff E.h p s) := by
  unfold nextEff at hob ⊢
  split at hob
  · rename_i key
    split at hob
    · rename_i hkey
      have hs : s = false := hob
      subst hs
      cases hx with
      | iter hown hlt hit hkn hl =>
        rename_i r b since last seen
        have hb := (hl _ hkey).1
        subst hb
        obtain ⟨ents, clk, h4, h5⟩ := ents_of g hkey
        have he : ents = #[] := by
          have := h5.1
          apply Array.eq_empty_of_size_eq_zero
          simpa using this
        subst he
        have hgi : (getObj r).run P E.w = .ok (.mapIter (some (E.blk key)) since seen last) E.w := by simp [getObj, Sem.run, hit]
        refine ⟨.tuple #[.bool false], ?_, .tup rfl fun i v q h1 h2 => ?_, rfl, rfl⟩
        · have hf : ∀ p : MapEntry → Bool, (#[] : Array MapEntry).filter p = #[] := fun p => by simp
          have hc : (choose (.mapNext 1)).run P E.w = .ok 0 E.w := by simp [Question.forced]
          have hb : (!seen.isEmpty && !(#[] : Array MapEntry).isEmpty && (#[] : Array MapEntry).all fun x => decide (x.born ≥ last)) = false := by simp
          have hl2 : ((if (#[] : Array MapEntry).isEmpty = true then #[(none : Option MapEntry)] else #[]) ++ Array.map some ((#[] : Array MapEntry) ++ #[])) = #[none] := by simp
          simp only [Instr.next, Sem.run_bind, hgi, Result.andThen_ok, run_getMap h4, hf, hb, hl2, Bool.false_eq_true, if_false]
          show (((choose (.mapNext 1)).run P E.w).andThen _) = _
          rw [hc]
          rfl
        · rcases i with _ | i
          · simp at h1 h2; subst h1; subst h2; exact .sc rfl
          · simp at h1
    · exact hob.elim
  · exact hob.elim

end
end Go.Pv
