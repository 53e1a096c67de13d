import Derived.Shelf.SlSortCmp.NoneTotal
import Derived.Sort.OwnSorted
import Derived.Test.YtjihcgcbnbaclaaGreatDoorESrt4
set_option linter.unusedSimpArgs false
set_option linter.unusedVariables false
namespace Go.Proofs.YtjihcgcbnbaclaaGreatDoor.Y8
open Go Go.Proofs Go.RowKit Go.Shelf Go.Sort Go.Pv
theorem cellsK_get : ∀ (l : List K3) (i j : Nat) (x : K3), l[i]? = some x → j < 3 → (cellsK l)[i * 3 + j]? = (encK x)[j]?
 | [], i, j, x, h, _ => by simp at h
 | y :: l, 0, j, x, h, hj => by
   simp at h; subst h;show (encK y ++ cellsK l)[0 * 3 + j]? = _;rw [List.getElem?_append_left (by simp [encK]; omega)];simp
 | y :: l, i + 1, j, x, h, hj => by
   have := cellsK_get l i j x (by simpa using h) hj;show (encK y ++ cellsK l)[(i + 1) * 3 + j]? = _;rw [List.getElem?_append_right (by simp [encK]; omega)];rw [← this];congr 1;simp [encK]; omega
theorem flat_cells (l : List K3) : (flatK encK 3 l.toArray).toList = cellsK l := by
 apply List.ext_getElem?;intro t;have hsz : (flatK encK 3 l.toArray).toList.length = l.length * 3 := by simp
 by_cases ht : t < l.length * 3
 · have hi : t / 3 < l.length := by omega
   have h1 := cellsK_get l (t / 3) (t % 3) _ (List.getElem?_eq_getElem hi) (by omega);have e1 : t / 3 * 3 + t % 3 = t := by omega
   rw [e1] at h1;rw [h1];have h2 := get_flatK encK 3 l.toArray t (by simpa using ht);have hlen : (encK l[t / 3]).length = 3 := rfl;rw [List.getElem?_eq_getElem (by rw [hsz]; exact ht), List.getElem?_eq_getElem (by rw [hlen]; omega)];congr 1;rw [getElem!_pos (flatK encK 3 l.toArray) t (by simpa using ht)] at h2;rw [Array.getElem_toList, h2];rw [getElem!_pos l.toArray (t / 3) (by simpa using hi)];rw [getElem!_pos _ (t % 3) (by simp [encK]; omega)];rfl
 · rw [List.getElem?_eq_none (by rw [hsz]; omega), List.getElem?_eq_none (by rw [cellsK_length]; omega)]
theorem holds_id {w : World} {g : Nat} {cur F : Array Value} {e : TypeId} (hb : w.heap[g]? = some (.cells cur e (0, 0))) (ht : cur.toList.take F.size = F.toList) : Holds id w g 0 F := by
 intro j hj;refine ⟨?_, by simp [World.frozen?, hb]⟩;have h1 : (cur.toList.take F.size)[j]? = F.toList[j]? := by rw [ht]
 rw [List.getElem?_take_of_lt hj] at h1;simp only [World.cell?, hb, Nat.zero_add];simp only [Option.isSome_none, Bool.false_eq_true, if_false];rw [← Array.getElem?_toList, h1];simp [hj]
theorem heap_sorted_id {w : World} {g n : Nat} {os : Array Obj} {cur : Array Value} {e : TypeId} {fr : Nat × Nat} (F : Array Value) (hb : w.heap[g]? = some (.cells cur e fr)) :
   (grow (putRow id (Sort.ahead w n) g 0 F) os).heap[g]? = some (.cells (putCells id 0 F cur) e fr) := by
 have hg : g < w.heap.size := (Array.getElem?_eq_some_iff.1 hb).1;rw [heap_grow_old _ _ (by simpa using hg)];simp [putRow, mapBlock, Sort.ahead, Array.getElem?_modify, hb, onCells]
theorem grownBy_sorted_id {w : World} {g n : Nat} {os : Array Obj} (F : Array Value) : w.grownBy (grow (putRow id (Sort.ahead w n) g 0 F) os) (some g) := by
 refine ⟨rfl, rfl, rfl, by simp, fun k hk hne => ?_⟩;rw [heap_grow_old _ _ (by simpa using hk)];have : g ≠ k := fun e => hne (by rw [e]);simp [putRow, mapBlock, Sort.ahead, Array.getElem?_modify, this]
theorem take_putCells_id (cur F : Array Value) (h : F.size ≤ cur.size) : (putCells id 0 F cur).toList.take F.size = F.toList := by
 apply List.ext_getElem?;intro j;by_cases hj : j < F.size
 · rw [List.getElem?_take_of_lt hj, Array.getElem?_toList];simp [putCells, hj, show j < cur.size by omega]
 · rw [List.getElem?_take_eq_none (by omega), List.getElem?_eq_none (by simp; omega)]
set_option maxHeartbeats 2000000 in
theorem sortedFunc (Bm ad b since : Nat) (ents : Array MapEntry) (key : MapEntry → K3) (hkey : ∀ e ∈ ents.toList, e.key = encV (key e)) (hst : Stamps ents since) (w : World) (hBm : Bm < w.heap.size)
   (hm : w.cell? ⟨Bm, ad, none⟩ = some (.map (some b))) (hb : w.heap[b]? = some (.map ents since)) (hN : ents.size ≤ 1000000) :
   Calls Tryz.prog 47 #[.func (.func 65) #[] #[.pointer (some ⟨Bm, ad, none⟩)], .func (.func 49) #[] #[]] w fun e w' => ∃ (v : Value) (ss : List K3), e = .returned v ∧ ss.length = ents.size ∧ ss.map shK = sortSh (ents.toList.map fun e => shK (key e)) ∧
     w'.ownsRow w.heap.size 91 3 v ss.length (cellsK ss) ∧ Below w.heap.size w w' := by
 refine (callsIn_wide (n := 6)).1 ?_;have e63 : ∀ args w, (callFunc 63 args).run Tryz.prog w = .ok (.enter 63 args) w := enters_of Tryz.func63 (by kernel_rfl) rfl;have e64 : ∀ args w, (callFunc 64 args).run Tryz.prog w = .ok (.enter 64 args) w := enters_of Tryz.func64 (by kernel_rfl) rfl;have e65 : ∀ args w, (callFunc 65 args).run Tryz.prog w = .ok (.enter 65 args) w := enters_of Tryz.func65 (by kernel_rfl) rfl;have e49 : ∀ args w, (callFunc 49 args).run Tryz.prog w = .ok (.enter 49 args) w := enters_of Tryz.func49 (by kernel_rfl) rfl
 have hseq : SeqGives Fence.wide 3 Tryz.prog 65 #[.pointer (some ⟨Bm, ad, none⟩)] encV (fun ss => ss.Perm (ents.toList.map key)) ents.size w :=
   keys_gives Fence.wide 3 trivial rfl (by omega) Bm ad b since ents key hkey hst w hBm hm hb
 have hcol := collect_in Fence.wide 5 trivial trivial rfl (by omega) 65 #[.pointer (some ⟨Bm, ad, none⟩)] trivial e65 _ ents.size (Nat.le_trans hN (by decide)) (by omega) w hseq;have h1 : 1 ≤ 6 := by omega
 have h47 : Fence.wide.fn 47 := trivial;have h63 : Fence.wide.fn 63 := trivial;have h64 : Fence.wide.fn 64 := trivial;refine callsIn_of_wp Tryz.func47 rfl h47 ?_ rfl;simp only [Tryz.ntmps47, List.size_toArray, List.length_cons, List.length_nil, Nat.reduceAdd, Nat.reduceSub, Array.replicate_succ, Array.replicate_zero, List.push_toArray, List.append_toArray, List.nil_append, List.cons_append]
 gi_wp2_with (gi_at_call 63; refine hcol.mono ?_; rintro e W ⟨v, ss, rfl, hS, hrow, hnil, hbl⟩)
 have hlen : ss.length = ents.size := by have := hS.length_eq; simpa using this
 have hsh : (ss.map shK).Perm (ents.toList.map fun e => shK (key e)) := by
   have := hS.map shK
   rwa [List.map_map] at this
 rcases hrow.2 with ⟨rfl, hz⟩ | ⟨gb, cap, cur, rfl, hbase, hgb, r1, r2, r3, r4⟩
 · have hss : ss = [] := List.eq_nil_of_length_eq_zero hz;subst hss;have hno : CallsIn Fence.wide 5 Tryz.prog 64 #[.slice none 0 0, .func (.func 49) #[] #[]] W fun e w' => e = .returned (.tuple #[]) ∧ w' = W := callsIn_wide.2 (AnyF.slices_SortFunc_none Tryz.sortF none 0 _ W)
   gi_wp2_with (gi_at_call 64; refine hno.mono ?_; rintro e w' ⟨rfl, rfl⟩)
   go_ret
   exact ⟨.slice none 0 0, [], rfl, hlen, by rw [← sortSh_unique hsh (by simp)], hrow, hbl⟩
 · have hF : (flatK encK 3 ss.toArray).size = ss.length * 3 := by simp
   have hH : HoldsK encK 3 W gb 0 ss.toArray := holds_id hgb (by rw [hF, flat_cells]; exact r4);have hgl : gb < W.heap.size := (Array.getElem?_eq_some_iff.1 hgb).1
   have hso : CallsIn Fence.wide 5 Tryz.prog 64 #[.slice (some ⟨gb, 0, none⟩) ss.length cap, .func (.func 49) #[] #[]] W fun e w' => e = .returned (.tuple #[]) ∧ ∃ n os, w' = sortWorldK encK 3 W gb 0 n (ss.mergeSort fun x y => !(ltOf cfK) y x).toArray os := by
     have := AnyQ.slices_SortFunc_total Tryz.sortF 3 Tryz.isAgg91 Tryz.sizeOf91 encK (fun _ => rfl) (fun x v hv => by simp [encK] at hv; rcases hv with rfl | rfl | rfl <;> rfl) cfK swoK 49 #[] gb 0 cap ss.toArray W e49 (cmpLaysK _ _ _ _) hH hgl (by simp; omega) totK;exact callsIn_wide.2 this
   have hsl : (ss.mergeSort fun x y => !(ltOf cfK) y x).length = ss.length := List.length_mergeSort _;have hsorted := sorted_sh ss;generalize (ss.mergeSort fun x y => !(ltOf cfK) y x) = ts at hso hsl hsorted
   gi_wp2_with (gi_at_call 64; refine hso.mono ?_; rintro e w' ⟨rfl, nn, os, rfl⟩)
   go_ret
   have hFt : (flatK encK 3 ts.toArray).size = ss.length * 3 := by simp [hsl]
   refine ⟨.slice (some ⟨gb, 0, none⟩) ents.size cap, ts, rfl, hsl.trans hlen, by rw [hsorted]; exact (sortSh_unique ((sortSh_perm _).trans hsh) (sortSh_sorted _)), ?_, ?_⟩
   · rw [hsl, ← hlen];refine ⟨by rw [cellsK_length, hsl], .inr ⟨gb, cap, _, rfl, hbase, heap_sorted_id _ hgb, r1, r2, by simp [putCells, r3], ?_⟩⟩;rw [← flat_cells, ← hFt];exact take_putCells_id cur _ (by rw [hFt, r3]; exact Nat.mul_le_mul_right _ r1)
   · exact hbl.grown (grownBy_sorted_id _) hbl.size (fun j hj => by cases hj; exact hbase)
end Go.Proofs.YtjihcgcbnbaclaaGreatDoor.Y8
