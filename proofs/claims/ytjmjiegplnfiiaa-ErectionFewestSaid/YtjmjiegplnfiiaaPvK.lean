/- Every operation that is no call of a function: what the model's run gives is what the P level says. -/
import Derived.Test.YtjmjiegplnfiiaaPvJ
namespace Go.Pv
open Go Go.RowKit
section
variable {P : Program} {E : Env}

theorem zero_mem {z : Array Value} {n : Nat} (hz : 0 < z.size) {u : Value} (hu : u ∈ (Builtin.zeroCells z n).toList) : u ∈ z.toList := by
 unfold Builtin.zeroCells at hu
 rw [Array.toList_map, List.mem_map] at hu
 obtain ⟨i, _, rfl⟩ := hu
 have hlt : i % z.size < z.size := Nat.mod_lt _ hz
 rw [getElem!_pos z (i % z.size) hlt]
 exact Array.getElem_mem_toList hlt
theorem ok_clear (g : Good E) {site : Nat} {t : TypeId} {ts : Array TypeId} {as : Array Value} {ty : TypeId} {v : Value} {p : PV} {run : Result Next} (hts : ts[0]? = some t) (has : as[0]? = some v) (hv : Rep E v p)
   (hrun : run = ((Builtin.clear_ ts ty as).run P E.w).andThen fun v w' => .ok (.value v) w') (hob : (clearEff P E.h t p).ob) : OpOK P E site run (clearEff P E.h t p) := by
 unfold clearEff at hob ⊢
 cases p with
 | nil =>
   simp only at hob ⊢
   obtain ⟨ht, _⟩ := sliceOk_spec hob
   cases hv with
   | nil =>
   refine OpOK.pure g (v := .tuple #[]) ?_ (.tup rfl (by simp)) rfl rfl
   rw [hrun]
   rename_i a
   cases a <;> simp [Builtin.clear_, hts, has, run_underlying ht]
 | ref k sz off len =>
   simp only at hob ⊢
   split at hob
   · rename_i sz' rs hk
     obtain ⟨ho, hsz', hts2, ⟨z, hz1, hz2, hz3⟩, hle1⟩ := hob
     subst hsz'
     obtain ⟨ht, _⟩ := sliceOk_spec ho
     obtain ⟨c, T, h5, h6, h7, h8, h9, h10, h11⟩ := g.obj _ _ hk
     have main : ∀ (cells' : Array Value) (w' : World), run = .ok (.value (.tuple #[])) w' → w'.heap[E.blk k]? = some (.cells cells' T (0, 0)) → (∀ b, b ≠ E.blk k → w'.heap[b]? = E.w.heap[b]?) → E.w.heap.size ≤ w'.heap.size →
         w'.os = E.w.os → w'.tape = E.w.tape → w'.output = E.w.output → cells'.size = c.size → (∀ j, j < (E.cap k).2 + off * sz → cells'[j]? = c[j]?) →
         OpOK P E site run { ob := sliceOk P t = true ∧ sz = sz ∧ tySize P (elemTy P t) = sz ∧ (∃ z, zeroCellsOf P (elemTy P t) = some z ∧ z.all PV.cell = true ∧ z.length = sz) ∧ off + len ≤ rs.length, v := .tup [], wr := [(k, some (.rows sz (rs.take off)))], rd := [k] } :=
       fun cells' w' hr hheap hb hsz q1 q2 q3 hcs hag => by
         have hal : (PObj.rows sz rs).alike (.rows sz (rs.take off)) := rfl
         have hle := setEnv_le (w' := w') g hk hal hsz hb
         have hobj : ObjOK (setEnv E k (.rows sz (rs.take off)) w') k (.rows sz (rs.take off)) := by
           refine ⟨cells', T, hheap, by rw [hcs]; exact h6, by rw [List.length_take]; show _ ≤ (E.cap k).1; omega, h8, fun row hr => h9 row (List.mem_of_mem_take hr), fun row hr => h10 row (List.mem_of_mem_take hr), fun i j row p h14 h15 => ?_⟩
           have hi : i < off := by have := (List.getElem?_eq_some_iff.1 h14).1; rw [List.length_take] at this; omega
           rw [List.getElem?_take_of_lt hi] at h14
           obtain ⟨u, h16, h17⟩ := h11 i j row p h14 h15
           have hj : j < sz := by rw [← h9 row (List.mem_of_getElem? h14)]; exact (List.getElem?_eq_some_iff.1 h15).1
           have hlt : (E.cap k).2 + i * sz + j < (E.cap k).2 + off * sz := by
             have : (i + 1) * sz ≤ off * sz := Nat.mul_le_mul_right _ hi
             rw [Nat.succ_mul] at this; omega
           exact ⟨u, (hag _ hlt).trans h16, h17.le hle⟩
         refine ⟨.tuple #[], w', E.blk, E.cap, .inl hr, ?_⟩
         exact ⟨setEnv_good g hk hal hsz hb hobj, hle, below_set g hk hsz hb q1 q2 q3, .tup rfl (by simp)⟩
     by_cases h0 : len = 0
     · subst h0
       refine main c E.w ?_ h5 (fun _ _ => rfl) (Nat.le_refl _) rfl rfl rfl rfl (fun _ _ => rfl)
       rw [hrun]
       cases hv with
       | ref hkn hlen hl => simp [Builtin.clear_, hts, has, run_underlying ht]
       | refE =>
         rename_i a _ _
         cases a <;> simp [Builtin.clear_, hts, has, run_underlying ht]
     · cases hv with
       | refE => exact absurd rfl h0
       | ref hkn hlen hl =>
         obtain ⟨⟨hb, ha⟩, hcap, _⟩ := hl _ hk
         subst hb; subst ha
         obtain ⟨v0, i0, hi, hv0, hrep, hzl⟩ := zero_rep (E := E) hz1
         have hvs : v0.cells.size = sz := by rw [← hzl]; exact hz3
         have hzsz : (Builtin.zeroCells v0.cells len).toList.length = len * sz := by rw [Array.length_toList, size_zeroCells, hvs]
         have hmul : (E.cap k).2 + off * sz + len * sz ≤ c.size := by
           have : off * sz + len * sz ≤ (E.cap k).1 * sz := by rw [← Nat.add_mul]; exact Nat.mul_le_mul_right _ (by omega)
           omega
         have h1 : ∀ u ∈ (Builtin.zeroCells v0.cells len).toList, u.oneCell' = true := fun u hu =>
           cells_one (v := .agg v0.cells) hrep (by simpa [pcells] using hz2) u (zero_mem (by show 0 < v0.cells.size; rw [hvs]; exact h8) hu)
         have hst := run_storeCells_at (P := P) (E.blk k) ((E.cap k).2 + off * sz) T (Builtin.zeroCells v0.cells len).toList 0 c E.w h5 (by rw [hzsz, Nat.add_zero]; exact hmul) h1
         simp only [Nat.add_zero] at hst
         let cells' := (c.toList.take ((E.cap k).2 + off * sz) ++ (Builtin.zeroCells v0.cells len).toList ++ c.toList.drop ((E.cap k).2 + off * sz + (Builtin.zeroCells v0.cells len).toList.length)).toArray
         have hheap : (E.w.setRow (E.blk k) cells').heap[E.blk k]? = some (.cells cells' T (0, 0)) := setRow_heap E.w _ c cells' T (0, 0) h5
         refine main cells' (E.w.setRow (E.blk k) cells') ?_ hheap (fun b hb => setRow_other E.w _ b _ hb) (by simp) rfl rfl rfl ?_ ?_
         · rw [hrun]
           obtain ⟨m, rfl⟩ : ∃ m, len = m + 1 := ⟨len - 1, by omega⟩
           simp [Builtin.clear_, hts, has, run_underlying ht, run_zeroValue hi hv0, hst, cells']
         · simp only [cells', List.size_toArray, List.length_append, List.length_take, List.length_drop, Array.length_toList] at hzsz ⊢
           omega
         · intro j hj
           simp only [cells']
           rw [List.getElem?_toArray, List.append_assoc, List.getElem?_append_left (by rw [List.length_take, Array.length_toList]; omega), List.getElem?_take_of_lt hj]
           simp
   · exact hob.elim
 | _ => exact hob.elim

theorem ok_copy (g : Good E) {site : Nat} {t : TypeId} {ts : Array TypeId} {as : Array Value} {ty : TypeId} {vd vx : Value} {s x : PV} {run : Result Next} (hts : ts[0]? = some t) (had : as[0]? = some vd) (hax : as[1]? = some vx) (hd : Rep E vd s) (hx : Rep E vx x)
   (hrun : run = ((Builtin.copy_ ts ty as).run P E.w).andThen fun v w' => .ok (.value v) w') (hob : (copyEff P E.h t s x).ob) : OpOK P E site run (copyEff P E.h t s x) := by
 unfold copyEff at hob ⊢
 cases s with
 | ref k sz off len =>
   simp only at hob ⊢
   split at hob
   · rename_i sz' rs hk
     obtain ⟨ho, hsrc, hsl, hsz', hts2, hle1⟩ := hob
     subst hsz'
     obtain ⟨ht, hok⟩ := sliceOk_spec ho
     obtain ⟨c, T, h5, h6, h7, h8, h9, h10, h11⟩ := g.obj _ _ hk
     have hz1 : 1 ≤ sz := h8
     rw [← hts2] at hsrc ⊢
     obtain ⟨S⟩ := src_ok (P := P) g hz1 hx hsrc
     have hxs : ∃ a l c, vx = .slice a l c := by
       cases x <;> first | (simp [isSl] at hsl; done) | skip
       all_goals cases hx <;> exact ⟨_, _, _, rfl⟩
     generalize (srcRows E.h sz x).2.2 = rdx
     generalize (srcRows E.h sz x).2.1 = rx at S ⊢
     have hsize : ∀ w, (sizeOf (elemTy P t)).run P w = .ok sz w := fun w => run_sizeOf hts2.symm (by omega) w
     obtain ⟨n, hn⟩ : ∃ n, Nat.min rx.length len = n := ⟨_, rfl⟩
     have hn1 : n ≤ rx.length := by rw [← hn]; exact Nat.min_le_left _ _
     have hn2 : n ≤ len := by rw [← hn]; exact Nat.min_le_right _ _
     have htk : rx.take len = rx.take n := by
       rcases Nat.le_total rx.length len with h | h
       · rw [List.take_of_length_le h, ← hn, show Nat.min rx.length len = rx.length from Nat.min_eq_left h, List.take_length]
       · rw [← hn, show Nat.min rx.length len = len from Nat.min_eq_right h]
     rw [hn, htk]
     have hpart := S.part n hn1 hxs
     have hnl : (S.news.take (n * sz)).length = n * sz := by
       rw [List.length_take, S.size]; exact Nat.min_eq_left (Nat.mul_le_mul_right _ hn1)
     have main : ∀ (cells' : Array Value) (w' : World), run = .ok (.value (.int .i64 n)) w' → w'.heap[E.blk k]? = some (.cells cells' T (0, 0)) → (∀ b, b ≠ E.blk k → w'.heap[b]? = E.w.heap[b]?) → E.w.heap.size ≤ w'.heap.size →
         w'.os = E.w.os → w'.tape = E.w.tape → w'.output = E.w.output → cells'.size = c.size → (∀ j, cells'[j]? = if (E.cap k).2 + off * sz ≤ j ∧ j < (E.cap k).2 + off * sz + n * sz then S.news[j - ((E.cap k).2 + off * sz)]? else c[j]?) →
         OpOK P E site run { ob := sliceOk P t = true ∧ (srcRows E.h sz x).1 ∧ isSl x = true ∧ sz = sz ∧ sz = sz ∧ off + len ≤ rs.length, v := .int n, wr := [(k, some (.rows sz (rs.take off ++ rx.take n ++ rs.drop (off + n))))], rd := k :: rdx } :=
       fun cells' w' hr hheap hb hsz q1 q2 q3 hcs hag => by
         have hal : (PObj.rows sz rs).alike (.rows sz (rs.take off ++ rx.take n ++ rs.drop (off + n))) := rfl
         have hle := setEnv_le (w' := w') g hk hal hsz hb
         have hlen' : (rs.take off ++ rx.take n ++ rs.drop (off + n)).length = rs.length := by
           simp only [List.length_append, List.length_take, List.length_drop]; omega
         have hmem : ∀ row ∈ rs.take off ++ rx.take n ++ rs.drop (off + n), row ∈ rs ∨ row ∈ rx := fun row hr => by
           simp only [List.mem_append] at hr
           rcases hr with (h | h) | h
           · exact .inl (List.mem_of_mem_take h)
           · exact .inr (List.mem_of_mem_take h)
           · exact .inl (List.mem_of_mem_drop h)
         have hget : ∀ i row, (rs.take off ++ rx.take n ++ rs.drop (off + n))[i]? = some row → (off ≤ i ∧ i < off + n ∧ rx[i - off]? = some row) ∨ ((i < off ∨ off + n ≤ i) ∧ rs[i]? = some row) := fun i row h => by
           have hl1 : (rs.take off).length = off := by rw [List.length_take]; omega
           have hl2 : (rx.take n).length = n := by rw [List.length_take]; omega
           by_cases h1 : i < off
           · rw [List.append_assoc, List.getElem?_append_left (by omega), List.getElem?_take_of_lt h1] at h
             exact .inr ⟨.inl h1, h⟩
           · by_cases h2 : i < off + n
             · rw [List.append_assoc, List.getElem?_append_right (by omega), hl1, List.getElem?_append_left (by omega), List.getElem?_take_of_lt (by omega)] at h
               exact .inl ⟨by omega, h2, h⟩
             · rw [List.getElem?_append_right (by rw [List.length_append]; omega), List.length_append, hl1, hl2, List.getElem?_drop, show off + n + (i - (off + n)) = i by omega] at h
               exact .inr ⟨.inr (by omega), h⟩
         have hobj : ObjOK (setEnv E k (.rows sz (rs.take off ++ rx.take n ++ rs.drop (off + n))) w') k (.rows sz (rs.take off ++ rx.take n ++ rs.drop (off + n))) := by
           refine ⟨cells', T, hheap, by rw [hcs]; exact h6, by rw [hlen']; exact h7, h8, fun row hr => ?_, fun row hr => ?_, fun i j row p h14 h15 => ?_⟩
           · rcases hmem row hr with h | h
             · exact h9 row h
             · exact S.width row h
           · rcases hmem row hr with h | h
             · exact h10 row h
             · exact S.one row h
           · show ∃ v, cells'[(E.cap k).2 + i * sz + j]? = some v ∧ _
             rw [hag]
             rcases hget i row h14 with ⟨g1, g2, g3⟩ | ⟨g1, g3⟩
             · have hj : j < sz := by rw [← S.width row (List.mem_of_getElem? g3)]; exact (List.getElem?_eq_some_iff.1 h15).1
               obtain ⟨u, g4, g5⟩ := S.get (i - off) j row p g3 h15
               obtain ⟨d, rfl⟩ : ∃ d, i = off + d := ⟨i - off, by omega⟩
               have e1 : (off + d) * sz = off * sz + d * sz := Nat.add_mul _ _ _
               have e2 : d * sz + sz ≤ n * sz := by rw [← Nat.succ_mul]; exact Nat.mul_le_mul_right _ (by omega)
               rw [if_pos (by omega), show (E.cap k).2 + (off + d) * sz + j - ((E.cap k).2 + off * sz) = (off + d - off) * sz + j by rw [show off + d - off = d by omega]; omega, g4]
               exact ⟨u, rfl, g5.le hle⟩
             · have hj : j < sz := by rw [← h9 row (List.mem_of_getElem? g3)]; exact (List.getElem?_eq_some_iff.1 h15).1
               obtain ⟨u, g4, g5⟩ := h11 i j row p g3 h15
               rw [if_neg ?_]
               · exact ⟨u, g4, g5.le hle⟩
               · rintro ⟨a1, a2⟩
                 rcases g1 with g1 | g1
                 · have : i * sz + sz ≤ off * sz := by rw [← Nat.succ_mul]; exact Nat.mul_le_mul_right _ (by omega)
                   omega
                 · have : (off + n) * sz ≤ i * sz := Nat.mul_le_mul_right _ (by omega)
                   rw [Nat.add_mul] at this
                   omega
         refine ⟨.int .i64 n, w', E.blk, E.cap, .inl hr, ?_⟩
         exact ⟨setEnv_good g hk hal hsz hb hobj, hle, below_set g hk hsz hb q1 q2 q3, .sc rfl⟩
     have hlenx := S.len E.w
     cases hd with
     | refE hkn hlc =>
       have hn0 : n = 0 := by omega
       subst hn0
       refine main c E.w ?_ h5 (fun _ _ => rfl) (Nat.le_refl _) rfl rfl rfl rfl (fun j => by rw [if_neg (by omega)])
       rw [hrun]
       have hp := hpart E.w rfl
       simp only [Nat.zero_mul, List.take_zero] at hp
       obtain ⟨a, had⟩ : ∃ a c, as[0]? = some (Value.slice a 0 c) := ⟨_, _, had⟩
       obtain ⟨_, had⟩ := had
       cases a <;> simp [Builtin.copy_, hts, had, hax, run_under ht, hlenx, hn, hsize, hp, storeCells, goInt]
     | ref hkn hlc hl =>
       obtain ⟨⟨hb, ha⟩, hcap, _⟩ := hl _ hk
       subst hb; subst ha
       have hmul : (E.cap k).2 + off * sz + n * sz ≤ c.size := by
         have : off * sz + n * sz ≤ (E.cap k).1 * sz := by rw [← Nat.add_mul]; exact Nat.mul_le_mul_right _ (by omega)
         omega
       have hone : ∀ u ∈ S.news.take (n * sz), u.oneCell' = true := fun u hu => by
         obtain ⟨j, hj⟩ := List.mem_iff_getElem?.1 (List.mem_of_mem_take hu)
         have hjl := (List.getElem?_eq_some_iff.1 hj).1
         rw [S.size] at hjl
         have hi : j / sz < rx.length := Nat.div_lt_of_lt_mul (by rw [Nat.mul_comm]; exact hjl)
         have hj2 : j % sz < sz := Nat.mod_lt _ (by omega)
         have hrow := List.getElem?_eq_getElem hi
         have hw := S.width _ (List.getElem_mem hi)
         have hcol := List.getElem?_eq_getElem (l := rx[j / sz]) (i := j % sz) (by rw [hw]; exact hj2)
         obtain ⟨v, g1, g2⟩ := S.get _ _ _ _ hrow hcol
         have : j / sz * sz + j % sz = j := by have := Nat.div_add_mod j sz; rw [Nat.mul_comm] at this; omega
         rw [this, hj] at g1; cases g1
         exact g2.one (S.one _ (List.getElem_mem hi) _ (List.getElem_mem _))
       have hst := run_storeCells_at (P := P) (E.blk k) ((E.cap k).2 + off * sz) T (S.news.take (n * sz)) 0 c E.w h5 (by rw [hnl, Nat.add_zero]; exact hmul) hone
       simp only [Nat.add_zero] at hst
       let cells' := (c.toList.take ((E.cap k).2 + off * sz) ++ S.news.take (n * sz) ++ c.toList.drop ((E.cap k).2 + off * sz + (S.news.take (n * sz)).length)).toArray
       have hheap : (E.w.setRow (E.blk k) cells').heap[E.blk k]? = some (.cells cells' T (0, 0)) := setRow_heap E.w _ c cells' T (0, 0) h5
       refine main cells' (E.w.setRow (E.blk k) cells') ?_ hheap (fun b hb => setRow_other E.w _ b _ hb) (by simp) rfl rfl rfl ?_ ?_
       · rw [hrun]
         simp only [Builtin.copy_, hts, had, hax, run_under ht, Sem.run_bind, Result.andThen_ok, hlenx, hn, hsize, hpart E.w rfl, List.toList_toArray, hst, Sem.run_pure, goInt, cells']
       · simp only [cells', List.size_toArray, List.length_append, List.length_drop, hnl]
         rw [List.length_take, Array.length_toList]
         omega
       · intro j
         have hsg := stored_get (cur := c.toList) (o := (E.cap k).2 + off * sz) (vs := S.news.take (n * sz)) (by rw [hnl]; simpa using hmul) j
         simp only [cells']
         rw [List.getElem?_toArray, hsg, hnl]
         split
         · rename_i hc; rw [List.getElem?_take_of_lt (by omega)]
         · simp
   · exact hob.elim
 | _ => exact hob.elim

theorem ok_of_ro (g : Good E) {site : Nat} {s : Sem Value} {e : Eff} {run : Result Next} (h : RO P E s e) (hrun : run = (s.run P E.w).andThen fun v w' => .ok (.value v) w') : OpOK P E site run e := by
 obtain ⟨v, h1, h2, h3, h4⟩ := h
 exact OpOK.pure g (by rw [hrun, h1]; rfl) h2 h3 h4

theorem run_v (s : Sem Value) (w : World) : (do pure (.value (← s)) : Sem Next).run P w = (s.run P w).andThen fun v w' => .ok (.value v) w' := by
 rw [Sem.run_bind]; rfl

theorem run_u (s : Sem Unit) (w : World) : (do s; pure .skip : Sem Next).run P w = (s.run P w).andThen fun _ w' => .ok .skip w' := by
 rw [Sem.run_bind]; rfl

theorem optRep {ρv : Operand → Value} {ρ : Operand → PV} {x : Option Operand} (h : ∀ y, x = some y → Rep E (ρv y) (ρ y)) : OptRep E (x.map ρv) (x.map ρ) := by
 cases x with
 | none => exact .inl ⟨rfl, rfl⟩
 | some y => exact .inr ⟨_, _, rfl, rfl, h y rfl⟩

theorem eqGuard_run {op : BinOp} {t : TypeId} {x y : Operand} {a b : Value} {p q : PV} (ha : Rep E a p) (hb : Rep E b q) (hob : (binEff P op t p q).ob) (w : World) : (eqGuard op t x y a b).run P w = .ok () w := by
 have main : ∀ n : Bool, (eqBin P n t p q).ob → (eqGuard op t x y a b).run P w = .ok () w := fun n h => by
   unfold eqBin at h
   split at h
   · obtain rfl := ha.sc_inv; rw [eqGuard_at_bool]; rfl
   · cases ha with
     | agg _ _ => cases hb with
       | agg _ _ => exact run_eqGuard_agg w op t x y _ _ h.1
   · exact h.elim
 unfold binEff at hob
 split at hob
 · obtain rfl := ha.sc_inv; rw [eqGuard_at_int]; rfl
 · obtain rfl := ha.sc_inv; rw [eqGuard_at_string]; rfl
 · split at hob
   · exact main _ hob
   · exact main _ hob
   · exact hob.elim

theorem eqGuard_runN {op : BinOp} {t : TypeId} {n : Bool} {x y : Operand} {a b : Value} {p q : PV} (ha : Rep E a p) (hb : Rep E b q) (hob : (binEffN P op t n p q).ob) (w : World) : (eqGuard op t x y a b).run P w = .ok () w := by
 unfold binEffN at hob
 split at hob
 · cases ha with
   | lit hm hc hr => rw [eqGuard_at_slice]; rfl
 · cases ha with
   | ref hk hlen hl => rw [eqGuard_at_slice]; rfl
 · exact eqGuard_run ha hb hob w

theorem isNilC_spec {a : Act} {y : Operand} (h : isNilC y = true) : a.eval y = .slice none 0 0 := by
 unfold isNilC at h
 split at h
 · rfl
 · cases h

theorem eff_sound (g : Good E) {a : Act} {ρ : Operand → PV} {o : Oper} {site : Nat} (hρ : ∀ x ∈ o.op.operands, Rep E (a.eval x) (ρ x))
   (hob : (eff P ρ E.h (site, E.cnt site) o.op).ob) : OpOK P E site ((execOp a.eval o).run P E.w) (eff P ρ E.h (site, E.cnt site) o.op) := by
 obtain ⟨dst, op, type, pos, after, guard⟩ := o
 cases op <;> simp only [eff] at hob ⊢ <;> simp only [execOp]
 case move x => exact OpOK.pure g rfl (hρ x (by simp [Op.operands])) rfl rfl
 case assign x => exact OpOK.pure g rfl (hρ x (by simp [Op.operands])) rfl rfl
 case pick c x y =>
   refine ok_of_ro g (ro_pick (hρ c (by simp [Op.operands])) (hρ x (by simp [Op.operands])) (hρ y (by simp [Op.operands])) hob) ?_
   cases a.eval c <;> rfl
 case alloc t =>
   split at hob
   · rename_i z hz
     obtain ⟨v, i, hi, hzv, hzr, hzl⟩ := zero_rep (E := E) hz
     refine ok_alloc g (T := t) ?_ hzr hob
     rw [run_v]
     simp only [Instr.alloc, Sem.run_bind, run_zeroValue hi hzv, Result.andThen_ok]
     rfl
   · exact hob.elim
 case box t x =>
   have hx := hρ x (by simp [Op.operands])
   have hc : (pcells (ρ x)).all PV.cell = true := hob.1
   obtain ⟨h1, h2⟩ := cells_rep hx hc
   refine ok_alloc g (T := t) ?_ (.agg h1 h2) hob
   rw [run_v]; rfl
 case build t parts =>
   have hr : RO P E (Instr.build t (parts.toList.map fun p => (p.1, a.eval p.2)).toArray) (buildEff P t (parts.toList.map fun p => (p.1, ρ p.2))) := by
     refine ro_build (by simp) (fun i x y h1 h2 => ?_) hob
     rw [List.getElem?_map, Option.map_eq_some_iff] at h1 h2
     obtain ⟨p, h3, rfl⟩ := h1
     obtain ⟨q, h4, rfl⟩ := h2
     rw [h3] at h4; cases h4
     exact ⟨rfl, hρ _ (by simp only [Op.operands]; simp; exact ⟨p.1, by have := List.mem_of_getElem? h3; simpa using this⟩)⟩
   refine ok_of_ro g hr ?_
   rw [run_v]
   congr 2
   congr 1
   apply Array.ext'
   simp
 case buildSlice t n parts =>
   refine ok_buildSlice g (parts := parts.toList.map fun p => (p.1, a.eval p.2)) (by simp) (fun i x y h1 h2 => ?_) ?_ hob
   · rw [List.getElem?_map, Option.map_eq_some_iff] at h1 h2
     obtain ⟨p, h3, rfl⟩ := h1
     obtain ⟨q, h4, rfl⟩ := h2
     rw [h3] at h4; cases h4
     exact ⟨rfl, hρ _ (by simp only [Op.operands]; simp; exact ⟨p.1, by have := List.mem_of_getElem? h3; simpa using this⟩)⟩
   · rw [run_v]
     congr 2
     congr 1
     apply Array.ext'
     simp
 case load t x => exact ok_of_ro g (ro_load g (hρ x (by simp [Op.operands])) hob) (run_v _ _)
 case store t x y => exact ok_store g (hρ x (by simp [Op.operands])) (hρ y (by simp [Op.operands])) (run_u _ _) hob
 case nilCheck x =>
   have hx := hρ x (by simp [Op.operands])
   split at hob
   · rename_i k sz i j hp
     rw [hp] at hx
     generalize hv : a.eval x = v at hx ⊢
     cases hx with
     | ptr hk hl => exact OpOK.pure g rfl (.ptr hk hl) rfl rfl
   · rename_i t sz rs i j hp
     rw [hp] at hx
     generalize hv : a.eval x = v at hx ⊢
     cases hx with
     | lptr _ _ hm hr => exact OpOK.pure g rfl (.lptr _ _ hm hr) rfl rfl
   · exact hob.elim
 case binOp op t x y yt =>
   have hx := hρ x (by simp [Op.operands])
   have hy := hρ y (by simp [Op.operands])
   refine ok_of_ro g (ro_binN (fun h => isNilC_spec h) hx hy hob) ?_
   rw [run_v, Sem.run_bind, eqGuard_runN hx hy hob]
   rfl
 case unOp op t x => exact ok_of_ro g (ro_un (hρ x (by simp [Op.operands])) hob) (run_v _ _)
 case convert s d x => exact ok_conv g (hρ x (by simp [Op.operands])) (run_v _ _) hob
 case makeFunc fn first cap =>
   refine OpOK.pure g (v := .func fn (first.map a.eval) (cap.map a.eval)) rfl ?_ rfl rfl
   refine .func (by simp) (by simp) (fun i v p h1 h2 => ?_) (fun i v p h1 h2 => ?_)
   all_goals
     simp at h1 h2
     obtain ⟨x, h3, rfl⟩ := h1
     obtain ⟨y, h4, rfl⟩ := h2
     rw [h3] at h4; cases h4
     exact hρ x (by simp only [Op.operands]; have := Array.mem_of_getElem? h3; simp [this])
 case makeMap t r =>
   cases r with
   | none => exact ok_makeMap g (by rw [run_v]; rfl) rfl rfl rfl
   | some x => simp at hob
 case makeSlice t l c => exact ok_makeSlice g (hρ l (by simp [Op.operands])) (hρ c (by simp [Op.operands])) (run_v _ _) hob
 case slice t x lo hi mx =>
   refine ok_of_ro g (ro_slice (hρ x (by simp [Op.operands])) (optRep fun y h => hρ y (by simp [Op.operands, h])) (optRep fun y h => hρ y (by simp [Op.operands, h])) (optRep fun y h => hρ y (by simp [Op.operands, h])) hob) (run_v _ _)
 case fieldAddr t x f => exact ok_of_ro g (ro_fieldAddr (hρ x (by simp [Op.operands])) hob) (run_v _ _)
 case field t x f => exact ok_of_ro g (ro_field (hρ x (by simp [Op.operands])) hob) (run_v _ _)
 case indexAddr t x i => exact ok_of_ro g (ro_indexAddr (hρ x (by simp [Op.operands])) (hρ i (by simp [Op.operands])) hob) (run_v _ _)
 case index t x i => exact ok_of_ro g (ro_index (hρ x (by simp [Op.operands])) (hρ i (by simp [Op.operands])) hob) (run_v _ _)
 case range t x => exact ok_range g (hρ x (by simp [Op.operands])) (run_v _ _) hob
 case entry x => exact ok_of_ro g (ro_entry g (hρ x (by simp [Op.operands])) hob) (run_v _ _)
 case next x s => exact ok_of_ro g (ro_next g (hρ x (by simp [Op.operands])) hob) (run_v _ _)
 case lookup t m k ok => exact ok_of_ro g (ro_lookup g (hρ m (by simp [Op.operands])) (hρ k (by simp [Op.operands])) hob) (run_v _ _)
 case mapUpdate t m k v => exact ok_mapUpdate g (hρ m (by simp [Op.operands])) (hρ k (by simp [Op.operands])) (hρ v (by simp [Op.operands])) (run_u _ _) hob
 case mapEntry t m k => exact ok_mapEntry g (hρ m (by simp [Op.operands])) (hρ k (by simp [Op.operands])) (run_v _ _) hob
 case entryStore t m s v => exact ok_entryStore (t := t) g (hρ m (by simp [Op.operands])) (hρ s (by simp [Op.operands])) (hρ v (by simp [Op.operands])) (run_u _ _) hob
 case extract x i => exact ok_of_ro g (ro_extract (hρ x (by simp [Op.operands])) hob) (run_v _ _)
 case call c =>
   obtain ⟨callee, args, argTypes⟩ := c
   cases callee with
   | value f => simp only at hob; exact hob.elim
   | invoke r m => simp only at hob; exact hob.elim
   | builtin b =>
     have hargs : ∀ (i : Nat) (v : Value) (p : PV), (args.map a.eval)[i]? = some v → (args.toList.map ρ)[i]? = some p → Rep E v p := fun i v p h1 h2 => by
       simp at h1 h2
       obtain ⟨x, h3, rfl⟩ := h1
       obtain ⟨y, h4, rfl⟩ := h2
       rw [h3] at h4; cases h4
       exact hρ x (by simp only [Op.operands, Call.operands]; have := Array.mem_of_getElem? h3; simp [this])
     simp only at hob ⊢
     have hts : ∀ t rest, argTypes.toList = t :: rest → argTypes[0]? = some t := fun t rest h => by rw [← Array.getElem?_toList, h]; rfl
     have hts1 : ∀ t t2 rest, argTypes.toList = t :: t2 :: rest → argTypes[1]? = some t2 := fun t t2 rest h => by rw [← Array.getElem?_toList, h]; rfl
     have harg : ∀ (i : Nat) (p : PV), (args.toList.map ρ)[i]? = some p → ∃ v, (args.map a.eval)[i]? = some v ∧ Rep E v p := fun i p h => by
       have h' := h
       simp at h'
       obtain ⟨x, h3, rfl⟩ := h'
       exact ⟨a.eval x, by simp [h3], hargs i _ _ (by simp [h3]) h⟩
     unfold builtinEff at hob ⊢
     split at hob
     · rename_i t _ x _ ht hx
       obtain ⟨v, h1, h2⟩ := harg 0 x (by rw [hx]; rfl)
       refine ok_of_ro g (ro_len (ty := type) g (hts _ _ ht) h1 h2 hob) ?_
       simp only [resolve, Sem.run_bind, Sem.run_pure, Result.andThen_ok, invoke, builtin]
     · rename_i t t2 _ s x _ ht hx
       obtain ⟨vs, h1, h2⟩ := harg 0 s (by rw [hx]; rfl)
       obtain ⟨vx, h3, h4⟩ := harg 1 x (by rw [hx]; rfl)
       refine ok_append (ty := type) g (hts _ _ ht) (hts1 _ _ _ ht) h1 h3 h2 h4 ?_ hob
       simp only [resolve, Sem.run_bind, Sem.run_pure, Result.andThen_ok, invoke, builtin]
     · rename_i t _ m k _ ht hx
       obtain ⟨vm, h1, h2⟩ := harg 0 m (by rw [hx]; rfl)
       obtain ⟨vk, h3, h4⟩ := harg 1 k (by rw [hx]; rfl)
       refine ok_mapDelete (ty := type) g (hts _ _ ht) h1 h3 h2 h4 ?_ hob
       simp only [resolve, Sem.run_bind, Sem.run_pure, Result.andThen_ok, invoke, builtin]
     · rename_i t _ x _ ht hx
       obtain ⟨v, h1, h2⟩ := harg 0 x (by rw [hx]; rfl)
       refine ok_clear (ty := type) g (hts _ _ ht) h1 h2 ?_ hob
       simp only [resolve, Sem.run_bind, Sem.run_pure, Result.andThen_ok, invoke, builtin]
     · rename_i t _ s x _ ht hx
       obtain ⟨vs, h1, h2⟩ := harg 0 s (by rw [hx]; rfl)
       obtain ⟨vx, h3, h4⟩ := harg 1 x (by rw [hx]; rfl)
       refine ok_copy (ty := type) g (hts _ _ ht) h1 h3 h2 h4 ?_ hob
       simp only [resolve, Sem.run_bind, Sem.run_pure, Result.andThen_ok, invoke, builtin]
     · rename_i x rest hx
       obtain ⟨v, h1, h2⟩ := harg 0 x (by rw [hx]; rfl)
       have hl : (args.map a.eval).toList = v :: (args.map a.eval).toList.tail := by
         cases hq : (args.map a.eval).toList with
         | nil => rw [← Array.getElem?_toList, hq] at h1; cases h1
         | cons y ys => rw [← Array.getElem?_toList, hq] at h1; cases h1; rfl
       have hlen : (args.map a.eval).toList.tail.length = rest.length := by
         have := congrArg List.length hx
         simp at this
         simp; omega
       refine ok_of_ro g (ro_maxs (args.map a.eval).toList.tail rest v x hlen (fun i u q h3 h4 => hargs (i + 1) u q ?_ (by rw [hx]; exact h4)) h2 hob) ?_
       · rw [← Array.getElem?_toList, hl]; exact h3
       · simp only [resolve, Sem.run_bind, Sem.run_pure, Result.andThen_ok, invoke, builtin, Builtin.max_]
         rw [hl]; rfl
     · rename_i x rest hx
       obtain ⟨v, h1, h2⟩ := harg 0 x (by rw [hx]; rfl)
       have hl : (args.map a.eval).toList = v :: (args.map a.eval).toList.tail := by
         cases hq : (args.map a.eval).toList with
         | nil => rw [← Array.getElem?_toList, hq] at h1; cases h1
         | cons y ys => rw [← Array.getElem?_toList, hq] at h1; cases h1; rfl
       have hlen : (args.map a.eval).toList.tail.length = rest.length := by
         have := congrArg List.length hx
         simp at this
         simp; omega
       refine ok_of_ro g (ro_mins (args.map a.eval).toList.tail rest v x hlen (fun i u q h3 h4 => hargs (i + 1) u q ?_ (by rw [hx]; exact h4)) h2 hob) ?_
       · rw [← Array.getElem?_toList, hl]; exact h3
       · simp only [resolve, Sem.run_bind, Sem.run_pure, Result.andThen_ok, invoke, builtin, Builtin.min_]
         rw [hl]; rfl
     · exact hob.elim
 all_goals exact hob.elim

end
end Go.Pv
