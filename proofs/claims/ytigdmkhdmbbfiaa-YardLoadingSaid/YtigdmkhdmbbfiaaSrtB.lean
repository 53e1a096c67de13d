import Derived.Test.YtigdmkhdmbbfiaaSrtA
import Derived.Shelf.SlSortCmp.NoneTotal
import Derived.Sort.OwnSorted
/- 'slices.SortedFunc(maps.Keys(s), cmp)' at this program, 5: the call, told from its parts. No conditions. -/
namespace Go.Proofs.Ytigdmkhdmbbfiaa
open Go Go.Proofs Go.RowKit Go.Shelf Go.Sort Go.Pv

abbrev encV (x : K3) : Value := .agg #[.string x.s, .int .i64 x.a, .int .i64 x.b]

set_option maxRecDepth 100000 in
set_option maxHeartbeats 2000000 in
theorem appendSeq_in (F : Fence) (n : Nat) (h127 : F.fn 127) (hro : F.round = none) (hn : 2 ≤ n) (g : Nat) (lb : Array Value) (hFg : F.fn g) (eg : ∀ args w, (callFunc g args).run Try.prog w = .ok (.enter g args) w)
   (S : List K3 → Prop) (N : Nat) (hN : N ≤ maxLen) (hNb : N * 32 ≤ 140737488355328) (w : World) (hseq : SeqGives F (n - 1) Try.prog g lb encV S N w) :
   CallsIn F n Try.prog 127 #[.slice none 0 0, .func (.func g) #[] lb] w fun e w' => ∃ (v : Value) (ss : List K3), e = .returned v ∧ S ss ∧ w'.ownsRow w.heap.size 124 3 v ss.length (cellsK ss) ∧ (v = .slice none 0 0 ↔ ss = []) ∧ Below w.heap.size w w' := by
 have h1 : 1 ≤ n := by omega
 refine callsIn_of_wp_marks Try.func127 rfl h127 ?_ hro
 simp only [Try.ntmps127, List.size_toArray, List.length_cons, List.length_nil, Nat.reduceAdd, Nat.reduceSub, Array.replicate_succ, Array.replicate_zero, List.push_toArray, List.append_toArray, List.nil_append, List.cons_append]
 gi_wp2
 refine wpIn_rangeFunc ?_
 intro fn hfn
 rw [hro]
 obtain ⟨W0, hW0⟩ : ∃ W0, w.alloc (.cells #[.slice none 0 0] 175) = W0 := ⟨_, rfl⟩
 have hs0 : W0.heap.size = w.heap.size + 1 := by rw [← hW0]; simp
 have hv0 : W0.heap[w.heap.size]? = some (.cells #[.slice none 0 0] 175 (0, 0)) := by rw [← hW0]; exact World.alloc_heap_new w _
 have hb0 : Below w.heap.size w W0 := by rw [← hW0]; exact (Below.refl _ w).alloc (Nat.le_refl _) _
 rw [hW0]
 obtain ⟨W1, hW1⟩ : ∃ W1, (W0.alloc (.deferred (some []))).alloc (.loop (apRec fn (.func (.func g) #[] lb) w.heap.size W0.heap.size .ready none)) = W1 := ⟨_, rfl⟩
 have hold : ∀ k, k < W0.heap.size → W1.heap[k]? = W0.heap[k]? := fun k hk => by
   rw [← hW1]; exact (Below.heap_alloc _ _ k (by simp; omega)).trans (Below.heap_alloc _ _ k hk)
 have hb1 : Below w.heap.size w W1 := by rw [← hW1]; exact (hb0.alloc hb0.size _).alloc (by have := hb0.size; simp; omega) _
 have hs1 : W1.heap.size = W0.heap.size + 2 := by rw [← hW1]; simp
 have hM : ApAt w fn (.func (.func g) #[] lb) w.heap.size (W0.heap.size + 1) W0.heap.size [] W1 :=
   ⟨⟨_, (hold w.heap.size (by omega)).trans hv0, ⟨rfl, .inl ⟨rfl, rfl⟩⟩, by simp⟩,
    by rw [← hW1]; have := World.alloc_heap_new (W0.alloc (.deferred (some []))) (.loop (apRec fn (.func (.func g) #[] lb) w.heap.size W0.heap.size .ready none)); rwa [World.size_alloc] at this,
    by rw [← hW1]; exact (Below.heap_alloc _ _ _ (by simp)).trans (World.alloc_heap_new W0 _), hb1⟩
 refine ⟨W0.heap.size + 1, [{ target := .collected W0.heap.size, args := #[] }], W1, { target := .fn (.func g) lb, args := #[.func (.yield (W0.heap.size + 1)) #[] #[]] }, W1, g,
   #[.func (.yield (W0.heap.size + 1)) #[] #[]] ++ lb, W1, ?_, ?_, ?_, ?_, fun _ => h1, ?_⟩
 · rw [← hW1]; exact run_enterLoop_outer _ _ _ _ _
 · simp [resolve, go_sem]
 · intro f' hf'; simp [Target.leads] at hf'; subst hf'; exact hFg
 · simp [invoke, go_sem, eg]
 · refine (hseq (W0.heap.size + 1) (ApAt w fn (.func (.func g) #[] lb) w.heap.size (W0.heap.size + 1) W0.heap.size) W1 hb1 (ap_abides _ _ _ _ _ _ _ hb1.size)
     (fun pre x W hJ hl => apYield F (n - 1 - 1) w fn hfn _ w.heap.size (W0.heap.size + 1) W0.heap.size (by omega) (by omega) (by omega) (Nat.le_refl _) (by omega) N hN hNb pre x W hJ hl) hM).mono ?_
   rintro e W2 ⟨⟨v0, rfl⟩, ss, hS, h2⟩
   obtain ⟨v, hv, hrow, hnil⟩ := h2.box
   have hend := run_endLoop (P := Try.prog) h2.L (by simp [apRec])
   obtain ⟨W3, hW3⟩ : ∃ W3, W2.putObj (W0.heap.size + 1) (.loop { apRec fn (.func (.func g) #[] lb) w.heap.size W0.heap.size .ready none with state := .exhausted }) = W3 := ⟨_, rfl⟩
   rw [hW3] at hend
   have hg3 : W2.grownBy W3 (some (W0.heap.size + 1)) := by rw [← hW3]; exact grownBy_putObj_a _ _ _
   have hv3 : W3.heap[w.heap.size]? = some (.cells #[v] 175 (0, 0)) := by rw [← hW3]; exact (World.putObj_heap_other (by omega)).trans hv
   have hK3 : W3.heap[W0.heap.size]? = some (.deferred (some [])) := by rw [← hW3]; exact (World.putObj_heap_other (by omega)).trans h2.K
   have hrow3 := hrow.kept hg3 (ownsRow_ne_a hrow h2.L (fun cur e => by cases e))
   have hb3 : Below w.heap.size w W3 := h2.below.grown hg3 h2.below.size (fun k e => by cases e; omega)
   obtain ⟨hc3, hf3⟩ := cell_of_box_a hv3
   clear hW3
   refine ⟨none, W3, hend, ?_⟩
   gi_wp2
   rw [← hs0]
   refine ⟨by simp, .inl ⟨_, _, rfl, run_takeDeferred hK3, ?_⟩⟩
   exact ⟨_, results_tmp rfl _ _ _, v, ss, rfl, hS, hrow3.kept (grownBy_putObj_a _ _ _) (ownsRow_ne_a hrow3 hK3 (fun cur e => by cases e)), hnil, hb3.grown (grownBy_putObj_a _ _ _) hb3.size (fun k e => by cases e; omega)⟩

set_option maxHeartbeats 1000000 in
theorem collect_in (F : Fence) (n : Nat) (h109 : F.fn 109) (h127 : F.fn 127) (hro : F.round = none) (hn : 3 ≤ n) (g : Nat) (lb : Array Value) (hFg : F.fn g) (eg : ∀ args w, (callFunc g args).run Try.prog w = .ok (.enter g args) w)
   (S : List K3 → Prop) (N : Nat) (hN : N ≤ maxLen) (hNb : N * 32 ≤ 140737488355328) (w : World) (hseq : SeqGives F (n - 1 - 1) Try.prog g lb encV S N w) :
   CallsIn F n Try.prog 109 #[.func (.func g) #[] lb] w fun e w' => ∃ (v : Value) (ss : List K3), e = .returned v ∧ S ss ∧ w'.ownsRow w.heap.size 124 3 v ss.length (cellsK ss) ∧ (v = .slice none 0 0 ↔ ss = []) ∧ Below w.heap.size w w' := by
 have h1 : 1 ≤ n := by omega
 have e127 : ∀ args w, (callFunc 127 args).run Try.prog w = .ok (.enter 127 args) w := enters_of Try.func127 (by kernel_rfl) rfl
 refine callsIn_of_wp Try.func109 rfl h109 ?_ hro
 simp only [Try.ntmps109, List.size_toArray, List.length_cons, List.length_nil, Nat.reduceAdd, Nat.reduceSub, Array.replicate_succ, Array.replicate_zero, List.push_toArray, List.append_toArray, List.nil_append, List.cons_append]
 gi_wp2_with (gi_at_call 127; refine (appendSeq_in F (n - 1) h127 hro (by omega) g lb hFg eg S N hN hNb _ hseq).mono ?_; rintro e w' ⟨v, ss, rfl, hS, hrow, hnil, hb⟩)
 go_ret
 exact ⟨v, ss, rfl, hS, hrow, hnil, hb⟩

/-- The keys of a map as an iterator gives them. -/
theorem keys_gives (F : Fence) (n : Nat) (h111 : F.fn 111) (hro : F.round = none) (hn : 1 ≤ n) (Bm ad b since : Nat) (ents : Array MapEntry) (key : MapEntry → K3) (hkey : ∀ e ∈ ents.toList, e.key = encV (key e)) (hst : Stamps ents since) (w : World) (hBm : Bm < w.heap.size)
   (hm : w.cell? ⟨Bm, ad, none⟩ = some (.map (some b))) (hb : w.heap[b]? = some (.map ents since)) :
   SeqGives F n Try.prog 111 #[.pointer (some ⟨Bm, ad, none⟩)] encV (fun ss => ss.Perm (ents.toList.map key)) ents.size w := fun l J W hW hJ hY h0 =>
 keys_in F n h111 hro hn l Bm ad b since ents key hkey J hY W hJ ((hW.cell (p := ⟨Bm, ad, none⟩) hBm).trans hm) ((hW.block b (Array.getElem?_eq_some_iff.1 hb).1).trans hb) hst h0

end Go.Proofs.Ytigdmkhdmbbfiaa

/- 'slices.SortedFunc(maps.Keys(s), cmp)' at this program, 6: the sorting, the whole call. No conditions. -/
namespace Go.Proofs.Ytigdmkhdmbbfiaa
open Go Go.Proofs Go.RowKit Go.Shelf Go.Sort Go.Pv

theorem cellsK_get : ∀ (l : List K3) (i j : Nat) (x : K3), l[i]? = some x → j < 3 → (cellsK l)[i * 3 + j]? = (encK x)[j]?
 | [], i, j, x, h, _ => by simp at h
 | y :: l, 0, j, x, h, hj => by
   simp at h; subst h
   show (encK y ++ cellsK l)[0 * 3 + j]? = _
   rw [List.getElem?_append_left (by simp [encK]; omega)]
   simp
 | y :: l, i + 1, j, x, h, hj => by
   have := cellsK_get l i j x (by simpa using h) hj
   show (encK y ++ cellsK l)[(i + 1) * 3 + j]? = _
   rw [List.getElem?_append_right (by simp [encK]; omega)]
   rw [← this]
   congr 1
   simp [encK]; omega

theorem flat_cells (l : List K3) : (flatK encK 3 l.toArray).toList = cellsK l := by
 apply List.ext_getElem?
 intro t
 have hsz : (flatK encK 3 l.toArray).toList.length = l.length * 3 := by simp
 by_cases ht : t < l.length * 3
 · have hi : t / 3 < l.length := by omega
   have h1 := cellsK_get l (t / 3) (t % 3) _ (List.getElem?_eq_getElem hi) (by omega)
   have e1 : t / 3 * 3 + t % 3 = t := by omega
   rw [e1] at h1
   rw [h1]
   have h2 := get_flatK encK 3 l.toArray t (by simpa using ht)
   have hlen : (encK l[t / 3]).length = 3 := rfl
   rw [List.getElem?_eq_getElem (by rw [hsz]; exact ht), List.getElem?_eq_getElem (by rw [hlen]; omega)]
   congr 1
   rw [getElem!_pos (flatK encK 3 l.toArray) t (by simpa using ht)] at h2
   rw [Array.getElem_toList, h2]
   rw [getElem!_pos l.toArray (t / 3) (by simpa using hi)]
   rw [getElem!_pos _ (t % 3) (by simp [encK]; omega)]
   rfl
 · rw [List.getElem?_eq_none (by rw [hsz]; omega), List.getElem?_eq_none (by rw [cellsK_length]; omega)]

theorem holds_id {w : World} {g : Nat} {cur F : Array Value} {e : TypeId} (hb : w.heap[g]? = some (.cells cur e (0, 0))) (ht : cur.toList.take F.size = F.toList) : Holds id w g 0 F := by
 intro j hj
 refine ⟨?_, by simp [World.frozen?, hb]⟩
 have h1 : (cur.toList.take F.size)[j]? = F.toList[j]? := by rw [ht]
 rw [List.getElem?_take_of_lt hj] at h1
 simp only [World.cell?, hb, Nat.zero_add]
 simp only [Option.isSome_none, Bool.false_eq_true, if_false]
 rw [← Array.getElem?_toList, h1]
 simp [hj]

theorem heap_sorted_id {w : World} {g n : Nat} {os : Array Obj} {cur : Array Value} {e : TypeId} {fr : Nat × Nat} (F : Array Value) (hb : w.heap[g]? = some (.cells cur e fr)) :
   (grow (putRow id (Sort.ahead w n) g 0 F) os).heap[g]? = some (.cells (putCells id 0 F cur) e fr) := by
 have hg : g < w.heap.size := (Array.getElem?_eq_some_iff.1 hb).1
 rw [heap_grow_old _ _ (by simpa using hg)]
 simp [putRow, mapBlock, Sort.ahead, Array.getElem?_modify, hb, onCells]

theorem grownBy_sorted_id {w : World} {g n : Nat} {os : Array Obj} (F : Array Value) : w.grownBy (grow (putRow id (Sort.ahead w n) g 0 F) os) (some g) := by
 refine ⟨rfl, rfl, rfl, by simp, fun k hk hne => ?_⟩
 rw [heap_grow_old _ _ (by simpa using hk)]
 have : g ≠ k := fun e => hne (by rw [e])
 simp [putRow, mapBlock, Sort.ahead, Array.getElem?_modify, this]

theorem take_putCells_id (cur F : Array Value) (h : F.size ≤ cur.size) : (putCells id 0 F cur).toList.take F.size = F.toList := by
 apply List.ext_getElem?
 intro j
 by_cases hj : j < F.size
 · rw [List.getElem?_take_of_lt hj, Array.getElem?_toList]
   simp [putCells, hj, show j < cur.size by omega]
 · rw [List.getElem?_take_eq_none (by omega), List.getElem?_eq_none (by simp; omega)]

set_option maxHeartbeats 2000000 in
/-- The keys of a map, sorted, in a new slice. -/
theorem sortedFunc (Bm ad b since : Nat) (ents : Array MapEntry) (key : MapEntry → K3) (hkey : ∀ e ∈ ents.toList, e.key = encV (key e)) (hst : Stamps ents since) (w : World) (hBm : Bm < w.heap.size)
   (hm : w.cell? ⟨Bm, ad, none⟩ = some (.map (some b))) (hb : w.heap[b]? = some (.map ents since)) (hN : ents.size ≤ 1000000) :
   Calls Try.prog 94 #[.func (.func 111) #[] #[.pointer (some ⟨Bm, ad, none⟩)], .func (.func 96) #[] #[]] w fun e w' => ∃ (v : Value) (ss : List K3), e = .returned v ∧ ss.length = ents.size ∧ ss.map shK = sortSh (ents.toList.map fun e => shK (key e)) ∧
     w'.ownsRow w.heap.size 124 3 v ss.length (cellsK ss) ∧ Below w.heap.size w w' := by
 refine (callsIn_wide (n := 6)).1 ?_
 have e109 : ∀ args w, (callFunc 109 args).run Try.prog w = .ok (.enter 109 args) w := enters_of Try.func109 (by kernel_rfl) rfl
 have e110 : ∀ args w, (callFunc 110 args).run Try.prog w = .ok (.enter 110 args) w := enters_of Try.func110 (by kernel_rfl) rfl
 have e111 : ∀ args w, (callFunc 111 args).run Try.prog w = .ok (.enter 111 args) w := enters_of Try.func111 (by kernel_rfl) rfl
 have e96 : ∀ args w, (callFunc 96 args).run Try.prog w = .ok (.enter 96 args) w := enters_of Try.func96 (by kernel_rfl) rfl
 have hseq : SeqGives Fence.wide 3 Try.prog 111 #[.pointer (some ⟨Bm, ad, none⟩)] encV (fun ss => ss.Perm (ents.toList.map key)) ents.size w :=
   keys_gives Fence.wide 3 trivial rfl (by omega) Bm ad b since ents key hkey hst w hBm hm hb
 have hcol := collect_in Fence.wide 5 trivial trivial rfl (by omega) 111 #[.pointer (some ⟨Bm, ad, none⟩)] trivial e111 _ ents.size (Nat.le_trans hN (by decide)) (by omega) w hseq
 have h1 : 1 ≤ 6 := by omega
 have h94 : Fence.wide.fn 94 := trivial
 have h109 : Fence.wide.fn 109 := trivial
 have h110 : Fence.wide.fn 110 := trivial
 refine callsIn_of_wp Try.func94 rfl h94 ?_ rfl
 simp only [Try.ntmps94, List.size_toArray, List.length_cons, List.length_nil, Nat.reduceAdd, Nat.reduceSub, Array.replicate_succ, Array.replicate_zero, List.push_toArray, List.append_toArray, List.nil_append, List.cons_append]
 gi_wp2_with (gi_at_call 109; refine hcol.mono ?_; rintro e W ⟨v, ss, rfl, hS, hrow, hnil, hbl⟩)
 have hlen : ss.length = ents.size := by have := hS.length_eq; simpa using this
 have hsh : (ss.map shK).Perm (ents.toList.map fun e => shK (key e)) := by
   have := hS.map shK
   rwa [List.map_map] at this
 rcases hrow.2 with ⟨rfl, hz⟩ | ⟨gb, cap, cur, rfl, hbase, hgb, r1, r2, r3, r4⟩
 · have hss : ss = [] := List.eq_nil_of_length_eq_zero hz
   subst hss
   have hno : CallsIn Fence.wide 5 Try.prog 110 #[.slice none 0 0, .func (.func 96) #[] #[]] W fun e w' => e = .returned (.tuple #[]) ∧ w' = W := callsIn_wide.2 (AnyF.slices_SortFunc_none Try.sortF none 0 _ W)
   gi_wp2_with (gi_at_call 110; refine hno.mono ?_; rintro e w' ⟨rfl, rfl⟩)
   go_ret
   exact ⟨.slice none 0 0, [], rfl, hlen, by rw [← sortSh_unique hsh (by simp)], hrow, hbl⟩
 · have hF : (flatK encK 3 ss.toArray).size = ss.length * 3 := by simp
   have hH : HoldsK encK 3 W gb 0 ss.toArray := holds_id hgb (by rw [hF, flat_cells]; exact r4)
   have hgl : gb < W.heap.size := (Array.getElem?_eq_some_iff.1 hgb).1
   have hso : CallsIn Fence.wide 5 Try.prog 110 #[.slice (some ⟨gb, 0, none⟩) ss.length cap, .func (.func 96) #[] #[]] W fun e w' => e = .returned (.tuple #[]) ∧ ∃ n os, w' = sortWorldK encK 3 W gb 0 n (ss.mergeSort fun x y => !(ltOf cfK) y x).toArray os := by
     have := AnyQ.slices_SortFunc_total Try.sortF 3 Try.isAgg124 Try.sizeOf124 encK (fun _ => rfl) (fun x v hv => by simp [encK] at hv; rcases hv with rfl | rfl | rfl <;> rfl) cfK swoK 96 #[] gb 0 cap ss.toArray W e96 (cmpLaysK _ _ _ _) hH hgl (by simp; omega) totK
     exact callsIn_wide.2 this
   have hsl : (ss.mergeSort fun x y => !(ltOf cfK) y x).length = ss.length := List.length_mergeSort _
   have hsorted := sorted_sh ss
   generalize (ss.mergeSort fun x y => !(ltOf cfK) y x) = ts at hso hsl hsorted
   gi_wp2_with (gi_at_call 110; refine hso.mono ?_; rintro e w' ⟨rfl, nn, os, rfl⟩)
   go_ret
   have hFt : (flatK encK 3 ts.toArray).size = ss.length * 3 := by simp [hsl]
   refine ⟨.slice (some ⟨gb, 0, none⟩) ents.size cap, ts, rfl, hsl.trans hlen, by rw [hsorted]; exact (sortSh_unique ((sortSh_perm _).trans hsh) (sortSh_sorted _)), ?_, ?_⟩
   · rw [hsl, ← hlen]
     refine ⟨by rw [cellsK_length, hsl], .inr ⟨gb, cap, _, rfl, hbase, heap_sorted_id _ hgb, r1, r2, by simp [putCells, r3], ?_⟩⟩
     rw [← flat_cells, ← hFt]
     exact take_putCells_id cur _ (by rw [hFt, r3]; exact Nat.mul_le_mul_right _ r1)
   · exact hbl.grown (grownBy_sorted_id _) hbl.size (fun j hj => by cases hj; exact hbase)

end Go.Proofs.Ytigdmkhdmbbfiaa

/- 'slices.SortedFunc(maps.Keys(s), cmp)' at this program, 7: told to the machine and to the working rules. No conditions. -/
namespace Go.Proofs.Ytigdmkhdmbbfiaa
open Go Go.Proofs Go.RowKit Go.Shelf Go.Sort Go.Pv

def keyOfV : Value → K3
 | .agg cs => match cs.toList with
   | [.string s, .int _ a, .int _ b] => ⟨s, a, b⟩
   | _ => default
 | _ => default

theorem agg3_inv {E : Env} {v a b c : Value} (h : Rep E v (.agg [.sc a, .sc b, .sc c])) : v = .agg #[a, b, c] := by
 cases h with
 | agg hl hc =>
   rename_i cs
   obtain ⟨l⟩ := cs
   match l, hl with
   | [x, y, z], _ =>
     have h0 := (hc 0 x (.sc a) rfl rfl).sc_inv
     have h1 := (hc 1 y (.sc b) rfl rfl).sc_inv
     have h2 := (hc 2 z (.sc c) rfl rfl).sc_inv
     subst h0; subst h1; subst h2; rfl

theorem shOf_spec {E : Env} : ∀ {es : List (PV × PV)} {ss : List Sh} {ents : List MapEntry}, shOf es = some ss → EntsRep E ents es →
   (∀ x ∈ ents, x.key = encV (keyOfV x.key)) ∧ (ents.map fun x => shK (keyOfV x.key)) = ss
 | [], ss, [], h, hr => by cases h; simp
 | [], ss, _ :: _, h, hr => by simp [EntsRep] at hr
 | p :: es, ss, [], h, hr => by simp [EntsRep] at hr
 | p :: es, ss, e :: ents, h, hr => by
   unfold shOf at h
   split at h
   · rename_i s a b l hp hl
     cases hb : Nat.ble s.data.size 1000000 with
     | false => rw [hb] at h; cases h
     | true =>
       rw [hb] at h; cases h
       obtain ⟨h1, h2⟩ := shOf_spec (ents := ents) hl ⟨by simpa using hr.1, fun i e p h3 h4 => hr.2 (i + 1) e p h3 h4⟩
       have hkey := (hr.2 0 e p rfl rfl).1
       rw [hp] at hkey
       have hke := agg3_inv hkey
       refine ⟨fun x hx => ?_, ?_⟩
       · rcases List.mem_cons.1 hx with rfl | hx
         · rw [hke]; rfl
         · exact h1 x hx
       · simp only [List.map_cons, h2]
         rw [hke]; rfl
   · cases h

theorem arr2 {a : Array Value} (h : a.size = 2) : ∃ x y, a = #[x, y] := by
 obtain ⟨l⟩ := a
 match l, h with
 | [x, y], _ => exact ⟨x, y, rfl⟩

theorem sortedF_core {h : Heap} {c : Nat → Nat} {R : PV → Heap → (Nat → Nat) → Prop} {kb km : Key} {es : List (PV × PV)} {ss : List Sh} (hkb : h kb = some (.rows 1 [[.map km]])) (hkm : ∃ bs clk, h km = some (.map es bs clk)) (hss : shOf es = some ss) (hlen : es.length ≤ 1000000)
   (hR : R (.lit false 3 (shRows (sortSh ss))) h c) : HCallsR Try.prog 94 [.func (.func 111) [] [.ptr kb 1 0 0], .func (.func 96) [] []] h c R := by
 refine ⟨by kernel_rfl, fun E vs gE hh hcn htt hvs hrep => ?_⟩
 rw [← hh] at hkb hkm hR
 rw [← hcn] at hR
 obtain ⟨bs, clk, hkm⟩ := hkm
 obtain ⟨v0, v1, rfl⟩ := arr2 (a := vs) hvs
 have h0 := hrep 0 v0 _ rfl rfl
 have h1' := hrep 1 v1 _ rfl rfl
 cases h1' with
 | @func _ vas1 cs1 _ _ hl1 hl1' _ _ =>
 have has1 : vas1 = #[] := Array.eq_empty_of_size_eq_zero hl1
 have hcs1 : cs1 = #[] := Array.eq_empty_of_size_eq_zero hl1'
 subst has1; subst hcs1
 cases h0 with
 | @func _ vas cs _ _ hl hl' ha hc =>
 have has : vas = #[] := Array.eq_empty_of_size_eq_zero hl
 subst has
 obtain ⟨p0, rfl⟩ := arr1 (a := cs) hl'
 have hp0 := hc 0 p0 _ rfl rfl
 cases hp0 with
 | @ptr bb ad _ _ _ _ hkn hlk =>
 obtain ⟨hbb, had⟩ := (hlk _ hkb).1
 subst hbb; subst had
 obtain ⟨cc, T, hcc, hcs, _, _, _, _, hcells⟩ := gE.obj _ _ hkb
 obtain ⟨mv, hmv, hmr⟩ := hcells 0 0 [.map km] (.map km) rfl rfl
 cases hmr with
 | @map mb _ hkn2 hlm =>
 have hmb := (hlm _ hkm).1
 subst hmb
 obtain ⟨ents, h4, h5⟩ := ents_of gE hkm
 have hst : Stamps ents clk := by
   obtain ⟨ents0, h4', _, _, _, hst0, _⟩ := gE.obj _ _ hkm
   rw [h4] at h4'; cases h4'; exact hst0
 have hcell : E.w.cell? ⟨E.blk kb, (E.cap kb).2 + 0 * 1 + 0, none⟩ = some (.map (some (E.blk km))) := by
   rw [cell_of_heap hcc]
   exact hmv
 obtain ⟨h6, h7⟩ := shOf_spec (E := E) hss h5
 have hsize : ents.size = es.length := by simpa using h5.1
 refine (sortedFunc (E.blk kb) _ (E.blk km) clk ents (fun e => keyOfV e.key) h6 hst E.w (live_lt gE hkb) hcell h4 (by rw [hsize]; exact hlen)).mono ?_
 rintro e w' ⟨u, ts, rfl, hts, hmap, hrow, hbl⟩
 rw [h7] at hmap
 have hlen' : ts.length = (sortSh ss).length := by rw [← hmap, List.length_map]
 rw [hlen'] at hrow
 have hblk : ∀ b, b < E.w.heap.size → w'.heap[b]? = E.w.heap[b]? := fun b hb => hbl.block b hb
 have hle : EnvLe E { E with w := w' } := ⟨fun b hb _ => hblk b hb, hbl.size, fun b hb => .inl hb, rfl, rfl, rfl, fun _ => Nat.le_refl _, fun _ _ h => h, fun _ _ rs h => .inr ⟨rs, h, rfl, rfl⟩, fun _ o h _ => .inr ⟨o, h, rfl, rfl⟩⟩
 refine ⟨u, .lit false 3 (shRows (sortSh ss)), { E with w := w' }, rfl, hR, rfl, ⟨gE.inj, gE.known, gE.base, fun k o h => ObjOK.le hle rfl rfl (hblk _ (live_lt gE h)) (gE.obj k o h), gE.out, Nat.le_trans gE.size hbl.size, gw_keep gE.glob (Nat.le_refl _) fun b hb => hblk b (Nat.lt_of_lt_of_le hb gE.size)⟩, hle, hbl.mono gE.size, ?_⟩
 obtain ⟨hxl, ⟨rfl, hz⟩ | ⟨gb, cap, cur, rfl, hbase, hgb, hcap, _, hcur, htake⟩⟩ := hrow
 · rw [List.eq_nil_of_length_eq_zero hz]
   exact .litE
 · have hlr : (shRows (sortSh ss)).length = (sortSh ss).length := by simp [shRows]
   have hwidth : ∀ row ∈ shRows (sortSh ss), row.length = 3 := fun row hr => by
     simp only [shRows, List.mem_map] at hr; obtain ⟨x, _, rfl⟩ := hr; rfl
   have hrow1 : ∀ (i j : Nat) (row : List PV) (p : PV), (shRows (sortSh ss))[i]? = some row → row[j]? = some p → ∃ x y, j < 3 ∧ p = .sc x ∧ isScalar x = true ∧ ts[i]? = some y ∧ (encK y)[j]? = some x := fun i j row p h1 h2 => by
     simp only [shRows, List.getElem?_map, Option.map_eq_some_iff] at h1
     obtain ⟨x, hx, rfl⟩ := h1
     rw [← hmap, List.getElem?_map, Option.map_eq_some_iff] at hx
     obtain ⟨y, hy, rfl⟩ := hx
     have he : encSh (shK y) = encK y := by simp [encSh, shK, encK, Go.Proofs.encStr]
     rw [List.getElem?_map, Option.map_eq_some_iff] at h2
     obtain ⟨z, hz, rfl⟩ := h2
     have hj : j < 3 := (List.getElem?_eq_some_iff.1 hz).1
     refine ⟨z, y, hj, rfl, ?_, hy, by rw [← he]; exact hz⟩
     rcases j with _ | _ | _ | j
     · simp [encSh] at hz; subst hz; rfl
     · simp [encSh] at hz; subst hz; rfl
     · simp [encSh] at hz; subst hz; rfl
     · omega
   have hget : ∀ (i j : Nat) (y : K3) (x : Value), ts[i]? = some y → j < 3 → (encK y)[j]? = some x → cur[i * 3 + j]? = some x := fun i j y x hy hj hx => by
     have hi : i < ts.length := (List.getElem?_eq_some_iff.1 hy).1
     have h9 : (cur.toList.take ((sortSh ss).length * 3))[i * 3 + j]? = some x := by rw [htake, cellsK_get ts i j y hy hj]; exact hx
     rw [List.getElem?_take_of_lt (by omega)] at h9
     simpa using h9
   have := Rep.lit (E := { E with w := w' }) (b := gb) (off := 0) (c := cap) (t := false) (sz := 3) (rows := shRows (sortSh ss)) (f := fun i j => (cur[i * 3 + j]?).getD .nilFunc)
     ⟨fun ⟨k, o, h1, h2⟩ => by have := live_lt gE h1; have h2' : E.blk k = gb := h2; omega, fun _ hM => by have := gE.out _ hM; have := gE.size; omega, (fun h => by cases h), (Array.getElem?_eq_some_iff.1 hgb).1, hwidth,
       (fun i j row p h1 h2 => by
         obtain ⟨x, y, hj, rfl, hsc, hy, hx⟩ := hrow1 i j row p h1 h2
         rw [hget i j y x hy hj hx]
         show w'.cell? ⟨gb, 0 + i * 3 + j, none⟩ = _
         rw [cell_of_heap hgb]
         rw [Nat.zero_add, hget i j y x hy hj hx]; rfl),
       (fun row hr p hp => by
         simp only [shRows, List.mem_map] at hr; obtain ⟨x, _, rfl⟩ := hr
         simp [encSh] at hp; rcases hp with rfl | rfl | rfl <;> exact .sc _),
       (fun row hr p hp => by
         simp only [shRows, List.mem_map] at hr; obtain ⟨x, _, rfl⟩ := hr
         simp [encSh] at hp; rcases hp with rfl | rfl | rfl <;> rfl)⟩
     (by rw [hlr]; exact hcap) (fun i j row p h1 h2 => by
       obtain ⟨x, y, hj, rfl, hsc, hy, hx⟩ := hrow1 i j row p h1 h2
       rw [hget i j y x hy hj hx]
       exact .sc hsc)
   rw [hlr] at this
   exact this

theorem sortedF_orc :
   ∀ (f : FuncId) (args : List PV) (h : HL) (c : CL) (v : PV) (h' : HL) (c' : CL), sortedFO 94 111 96 f args h c = some (v, h', c') → ∀ R : PV → Heap → (Nat → Nat) → Prop, R v (hGet h') (cGet c') → HCallsR Try.prog f args (hGet h) (cGet c) R := by
 intro f args h c v h' c' ho R hR
 unfold sortedFO at ho
 cases hf : Nat.beq f 94 with
 | false => rw [hf] at ho; cases ho
 | true =>
 rw [hf] at ho
 obtain rfl : f = 94 := Nat.eq_of_beq_eq_true hf
 simp only [cond_true] at ho
 split at ho
 · rename_i g kb gc
   cases hgk : Nat.beq g 111 && Nat.beq gc 96 with
   | false => rw [hgk] at ho; cases ho
   | true =>
   rw [hgk] at ho
   simp only [Bool.and_eq_true] at hgk
   obtain rfl : g = 111 := Nat.eq_of_beq_eq_true hgk.1
   obtain rfl : gc = 96 := Nat.eq_of_beq_eq_true hgk.2
   simp only [cond_true] at ho
   split at ho
   · rename_i km hkb
     split at ho
     · rename_i es bs0 clk0 hkm
       split at ho
       · rename_i ss hss
         cases hlb : Nat.ble es.length 1000000 with
         | false => rw [hlb] at ho; cases ho
         | true =>
         rw [hlb] at ho; cases ho
         exact sortedF_core hkb ⟨_, _, hkm⟩ hss (Nat.le_of_ble_eq_true hlb) hR
       · cases ho
     · cases ho
   · cases ho
 · cases ho

end Go.Proofs.Ytigdmkhdmbbfiaa
