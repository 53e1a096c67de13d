import Derived.Sort.MapsRangeIn
import Derived.RangeFuncGives
import Derived.Test.YtjihcgcbnbaclaaGreatDoorPvGb
set_option linter.unusedSimpArgs false
set_option linter.unusedVariables false
namespace Go.Pv
open Go Go.RowKit
structure RawIter (W : World) (b r : Nat) (ents : Array MapEntry) (since : Nat) (seen : Array Nat) : Prop where
 m : W.heap[b]? = some (.map ents since)
 it : W.heap[r]? = some (.mapIter (some b) since seen since)
theorem RawIter.ne {W : World} {b r : Nat} {ents : Array MapEntry} {since : Nat} {seen : Array Nat} (h : RawIter W b r ents since seen) : b ≠ r := fun e => by
 have h1 := h.m; rw [e, h.it] at h1; cases h1
theorem RawIter.of_walks {W W' : World} {b r : Nat} {ents : Array MapEntry} {since : Nat} {seen : Array Nat} (h : RawIter W b r ents since seen) (k : KeepsWalks W W') : RawIter W' b r ents since seen :=
 ⟨k.same _ _ h.m rfl, k.same _ _ h.it rfl⟩
theorem raw_next {P : Program} {W : World} {b r : Nat} {ents : Array MapEntry} {since : Nat} {seen : Array Nat} {ty : TypeId} (h : RawIter W b r ents since seen) (hall : ∀ e ∈ ents.toList, e.born < since) :
   ((∀ e ∈ ents.toList, seen.contains e.born = true) ∧ (Instr.next (.pointer (some ⟨r, 0, none⟩)) false ty).run P W = .ok (.tuple #[.bool false]) W) ∨
   ∃ (e : MapEntry) (W' : World), e ∈ ents.toList ∧ seen.contains e.born = false ∧ (Instr.next (.pointer (some ⟨r, 0, none⟩)) false ty).run P W = .ok (.tuple #[.bool true, e.key, e.val]) W' ∧
     RawIter W' b r ents since (seen.push e.born) ∧ W.grownBy W' (some r) ∧ W'.heap.size = W.heap.size := by
 have h1 := h.it;have h2 := h.m
 have hold : ((ents.filter fun e => !seen.contains e.born).filter fun e => decide (e.born < since)) = ents.filter fun e => !seen.contains e.born := by
   apply Array.filter_eq_self.2;intro e he;have := hall e (by simpa using (Array.mem_filter.1 he).1);simpa using this
 have hnew : ((ents.filter fun e => !seen.contains e.born).filter fun e => decide (e.born ≥ since)) = #[] := by
   apply Array.filter_eq_empty_iff.2;intro e he;have := hall e (by simpa using (Array.mem_filter.1 he).1);simp; omega
 generalize hL : (ents.filter fun e => !seen.contains e.born) = L at hold hnew;cases hLe : L.isEmpty with
 | true =>
   have hL0 : L = #[] := Array.isEmpty_iff.1 hLe;refine .inl ⟨fun e he => ?_, ?_⟩
   · cases hc : seen.contains e.born with
     | true => rfl
     | false =>
       have : e ∈ L := by rw [← hL]; exact Array.mem_filter.2 ⟨by simpa using he, by simp only [hc, Bool.not_false]⟩
       rw [hL0] at this; simp at this
   · have hc : (choose (.mapNext 1)).run P W = .ok 0 W := by simp [Question.forced]
     have hl2 : ((if (#[] : Array MapEntry).isEmpty = true then #[(none : Option MapEntry)] else #[]) ++ Array.map some ((#[] : Array MapEntry) ++ #[])) = #[none] := by simp
     have hf : ∀ p : MapEntry → Bool, (#[] : Array MapEntry).filter p = #[] := fun p => by simp
     subst hL0;simp only [Instr.next, Sem.run_bind, run_getIter h1, Result.andThen_ok, run_getMap h2, stale_false hall, hL, hf, hl2, Bool.false_eq_true, if_false];show (((choose (.mapNext 1)).run P W).andThen _) = _;rw [hc];rfl
 | false =>
   have hpos : 0 < L.size := by
     cases hq : L.size with
     | zero => rw [Array.eq_empty_of_size_eq_zero hq] at hLe; simp at hLe
     | succ n => omega
   obtain ⟨i, w1, hch, hi, hh, ho1, ho2, ho3⟩ : ∃ i w1, (choose (.mapNext L.size)).run P W = .ok i w1 ∧ i < L.size ∧ w1.heap = W.heap ∧ w1.os = W.os ∧ w1.tape = W.tape ∧ w1.output = W.output := by
     by_cases hf : (Question.mapNext L.size).forced = true
     · exact ⟨0, W, by simp [run_choose, hf], hpos, rfl, rfl, rfl, rfl⟩
     · refine ⟨_, W.drew, by simp only [run_choose, hf]; rfl, ?_, rfl, rfl, rfl, rfl⟩;exact Nat.mod_lt _ hpos
   have he := Array.getElem?_eq_getElem hi;generalize L[i] = e at he;have hmem : e ∈ L := Array.mem_of_getElem? he;rw [← hL] at hmem;obtain ⟨h6, h7⟩ := Array.mem_filter.1 hmem;have hrlt : r < W.heap.size := (Array.getElem?_eq_some_iff.1 h1).1;let w' : World := { w1 with heap := w1.heap.setIfInBounds r (.mapIter (some b) since (seen.push e.born) since) }
   have hb : ∀ k, k ≠ r → w'.heap[k]? = W.heap[k]? := fun k hk => by
     show (w1.heap.setIfInBounds _ _)[k]? = _;rw [hh, heap_set, if_neg (by intro h; exact hk h.1.symm)]
   have hsz : w'.heap.size = W.heap.size := by simp [w', hh]
   refine .inr ⟨e, w', by simpa using h6, by simpa using h7, ?_, ⟨(hb b h.ne).trans h2, ?_⟩, ⟨ho1, ho2, ho3, by rw [hsz]; exact Nat.le_refl _, fun k _ hk => hb k (fun e => hk (by rw [e]))⟩, hsz⟩
   · have hcand : ((if L.isEmpty = true then #[(none : Option MapEntry)] else #[]) ++ Array.map some (L ++ #[])) = L.map some := by simp [hLe]
     have h1' : w1.heap[r]? = some (.mapIter (some b) since seen since) := by rw [hh]; exact h1
     have hget : (L.map some)[i]? = some (some e) := by rw [Array.getElem?_map, he]; rfl
     simp only [Instr.next, Sem.run_bind, run_getIter h1, Result.andThen_ok, run_getMap h2, stale_false hall, hL, hold, hnew, hcand, Bool.false_eq_true, if_false, Array.size_map];show (((choose (.mapNext L.size)).run P W).andThen _) = _;rw [hch];simp only [Result.andThen_ok, hget, Sem.run_bind, run_setIter h1', Sem.run_pure];rfl
   · show (w1.heap.setIfInBounds _ _)[r]? = _;rw [hh, heap_set, if_pos ⟨rfl, hrlt⟩]
theorem raw_entry {P : Program} {W : World} {b r : Nat} {ents : Array MapEntry} {since : Nat} {seen : Array Nat} {e : MapEntry} (h : RawIter W b r ents since (seen.push e.born)) (he : e ∈ ents.toList) (hd : (ents.toList.map (·.born)).Nodup) :
   (Instr.entry (.pointer (some ⟨r, 0, none⟩))).run P W = .ok (.tuple #[e.key, e.val]) W := by
 have hf : ents.find? (·.born == e.born) = some e := by
   have : ∀ l : List MapEntry, (l.map (·.born)).Nodup → e ∈ l → l.find? (·.born == e.born) = some e := by
     intro l;induction l with
     | nil => intro _ h; cases h
     | cons x l ih =>
       intro hn hm;simp only [List.map_cons, List.nodup_cons] at hn;rcases List.mem_cons.1 hm with rfl | hm
       · simp
       · have hne : (x.born == e.born) = false := by
           rw [beq_eq_false_iff_ne];intro hq; exact hn.1 (by rw [hq]; exact List.mem_map_of_mem hm)
         rw [List.find?_cons, hne]; exact ih hn.2 hm
   have := this _ hd he;simpa using this
 have hback : (seen.push e.born).back? = some e.born := by simp
 simp only [Instr.entry, Sem.run_bind, run_getIter h.it, Result.andThen_ok, hback, run_getMap h.m, bne_self_eq_false, Bool.false_eq_true, if_false, hf, Sem.run_pure]
section
variable {F : Fence} {n : Nat} {P : Program} (w : World) {ops : Array Oper} {rest : List Oper} {o : Oper} {a : Act} {Q : Exit → Act → World → Prop}
theorem wpListIn_range_raw (hg : o.guard = none) (m : Operand) (t : TypeId) (hop : o.op = Op.range t m) {k e : TypeId} (ht : P.underlying t = some (.map k e)) {b clk : Nat} {ents : Array MapEntry}
   (hm : a.eval m = .map (some b)) (hb : w.heap[b]? = some (.map ents clk))
   (hK : ∀ w', RawIter w' b w.heap.size ents clk #[] → w.grownBy w' none → w'.heap.size = w.heap.size + 1 → wpListIn F n P ops Q rest (a.put o.dst (.pointer (some ⟨w.heap.size, 0, none⟩))) w') :
   wpListIn F n P ops Q (o :: rest) a w := by
 refine wpListIn_plain hg fun K' hK' => ?_;have hbl : b < w.heap.size := (Array.getElem?_eq_some_iff.1 hb).1
 have hr : (Instr.range t (.map (some b))).run P w = .ok (.pointer (some ⟨w.heap.size, 0, none⟩)) (w.alloc (.mapIter (some b) clk #[] clk)) := by
   simp only [Instr.range, Sem.run_bind, run_under ht, Result.andThen_ok, run_getMap hb, Sem.run_pure];rfl
 unfold Oper.wpIn;refine ⟨?_, ?_⟩
 · simp [Oper.about, hop]
 · rw [Oper.semAt_plain F _ _ (by rw [hop]; intro c hc'; cases hc')];simp [execOp, hop, hm, hr, Result.andThen];exact hK' _ _ (hK _ ⟨(Below.heap_alloc _ _ b hbl).trans hb, World.alloc_heap_new w _⟩ (World.grownBy_alloc w _ none) (by simp))
theorem wpListIn_next_raw (hg : o.guard = none) (it : Operand) (hop : o.op = Op.next it false) {b r since : Nat} {ents : Array MapEntry} {seen : Array Nat} (hit : a.eval it = .pointer (some ⟨r, 0, none⟩))
   (h : RawIter w b r ents since seen) (hall : ∀ e ∈ ents.toList, e.born < since)
   (hDone : (∀ e ∈ ents.toList, seen.contains e.born = true) → wpListIn F n P ops Q rest (a.put o.dst (.tuple #[.bool false])) w)
   (hMore : ∀ (e : MapEntry) (w' : World), e ∈ ents.toList → seen.contains e.born = false → RawIter w' b r ents since (seen.push e.born) → w.grownBy w' (some r) → w'.heap.size = w.heap.size →
     wpListIn F n P ops Q rest (a.put o.dst (.tuple #[.bool true, e.key, e.val])) w') :
   wpListIn F n P ops Q (o :: rest) a w := by
 refine wpListIn_plain hg fun K' hK' => ?_;unfold Oper.wpIn;refine ⟨by simp [Oper.about, hop], ?_⟩;rw [Oper.semAt_plain F _ _ (by rw [hop]; intro c hc'; cases hc')];rcases raw_next (P := P) (ty := o.type) h hall with ⟨h0, hrun⟩ | ⟨e, w', he, hs, hrun, hr, hgr, hsz⟩
 · simp [execOp, hop, hit, hrun, Result.andThen];exact hK' _ _ (hDone h0)
 · simp [execOp, hop, hit, hrun, Result.andThen];exact hK' _ _ (hMore e w' he hs hr hgr hsz)
end
theorem nodup_sub_length : ∀ (l m : List Nat), l.Nodup → (∀ x ∈ l, x ∈ m) → l.length ≤ m.length
 | [], _, _, _ => Nat.zero_le _
 | x :: l, m, hn, hs => by
   simp only [List.nodup_cons] at hn;have hx : x ∈ m := hs x (List.mem_cons_self ..);have := nodup_sub_length l (m.erase x) hn.2 fun y hy => (List.mem_erase_of_ne (fun e => hn.1 (by rw [← e]; exact hy))).2 (hs y (List.mem_cons_of_mem _ hy));rw [List.length_erase_of_mem hx] at this;have : 0 < m.length := List.length_pos_of_mem hx;simp; omega
structure Came (ents : Array MapEntry) (seen : Array Nat) (vis : List MapEntry) : Prop where
 born : seen.toList = vis.map (·.born)
 sub : ∀ e ∈ vis, e ∈ ents.toList
 nd : (vis.map (·.born)).Nodup
theorem Came.start (ents : Array MapEntry) : Came ents #[] [] := ⟨rfl, by simp, by simp⟩
theorem Came.step {ents : Array MapEntry} {seen : Array Nat} {vis : List MapEntry} (h : Came ents seen vis) {e : MapEntry} (he : e ∈ ents.toList) (hs : seen.contains e.born = false) : Came ents (seen.push e.born) (vis ++ [e]) := by
 refine ⟨by simp [h.born], fun x hx => ?_, ?_⟩
 · rcases List.mem_append.1 hx with hx | hx
   · exact h.sub x hx
   · simp at hx; rw [hx]; exact he
 · rw [List.map_append, List.nodup_append];refine ⟨h.nd, by simp, fun x hx y hy => ?_⟩;simp at hy; subst hy
   rintro rfl
   rw [← h.born] at hx;have : seen.contains e.born = true := by simpa using hx
   rw [hs] at this; cases this
theorem Came.perm {ents : Array MapEntry} {seen : Array Nat} {vis : List MapEntry} (h : Came ents seen vis) (hd : (ents.toList.map (·.born)).Nodup) (hall : ∀ e ∈ ents.toList, seen.contains e.born = true) : vis.Perm ents.toList := by
 have nv : vis.Nodup := (List.pairwise_map.1 h.nd).imp fun hne e => hne (by rw [e]);have ne : ents.toList.Nodup := (List.pairwise_map.1 hd).imp fun hne e => hne (by rw [e]);refine (List.perm_ext_iff_of_nodup nv ne).2 fun x => ⟨h.sub x, fun hx => ?_⟩
 have h1 := hall x hx;have h2 : x.born ∈ vis.map (·.born) := by rw [← h.born]; simpa using h1
 obtain ⟨y, hy, hb⟩ := List.mem_map.1 h2
 have hinj : ∀ l : List MapEntry, (l.map (·.born)).Nodup → ∀ x ∈ l, ∀ y ∈ l, y.born = x.born → y = x := by
   intro l;induction l with
   | nil => intro _ x hx; cases hx
   | cons z l ih =>
     intro hn x hx y hy hb;simp only [List.map_cons, List.nodup_cons] at hn;rcases List.mem_cons.1 hx with hx1 | hx1 <;> rcases List.mem_cons.1 hy with hy1 | hy1
     · rw [hx1, hy1]
     · exact (hn.1 (by rw [← hx1, ← hb]; exact List.mem_map_of_mem hy1)).elim
     · exact (hn.1 (by rw [← hy1, hb]; exact List.mem_map_of_mem hx1)).elim
     · exact ih hn.2 x hx1 y hy1 hb
 rw [← hinj _ hd x hx y (h.sub y hy) hb]; exact hy
theorem Came.lt {ents : Array MapEntry} {seen : Array Nat} {vis : List MapEntry} (h : Came ents seen vis) {e : MapEntry} (he : e ∈ ents.toList) (hs : seen.contains e.born = false) : vis.length < ents.size := by
 have h2 := h.step he hs;have := nodup_sub_length ((vis ++ [e]).map (·.born)) (ents.toList.map (·.born)) h2.nd fun x hx => by obtain ⟨y, hy, rfl⟩ := List.mem_map.1 hx; exact List.mem_map_of_mem (h2.sub y hy)
 simp at this; omega
end Go.Pv
