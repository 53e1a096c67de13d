/- One operation that is no call of a function, sixth part: append. -/
import Derived.Test.YtjmjiegplnfiiaaPvG
namespace Go.Pv
open Go Go.RowKit
section
variable {P : Program} {E : Env}

section runs
variable {ts : Array TypeId} {as : Array Value} {t t2 ty e : TypeId} {s x : Value} {d2 : TypeDesc} {i : TypeInfo} {z : Value} {size n sLen sCap : Nat} {base : Option Addr} {w : World}

theorem not_int {t2 : TypeId} {d2 : TypeDesc} (h : P.underlying t2 = some d2) (hk : intKind P t2 = none) : Builtin.append_.match_1 (fun _ => Bool) d2 (fun _ => true) (fun _ => false) = false := by
 unfold intKind at hk
 rw [h] at hk
 cases d2 <;> first | rfl | (simp at hk)

theorem ap_grow (h1 : ts[0]? = some t) (h2 : ts[1]? = some t2) (h3 : as[0]? = some (.slice base sLen sCap)) (h4 : as[1]? = some x) (hu : P.underlying t = some (.slice e)) (hu2 : P.underlying t2 = some d2) (hk : intKind P t2 = none)
   (hi : P.info? e = some i) (hz : i.zero = some z) (hsize : i.size = size) {old new : Array Value} (hold : ∀ w', w'.heap = w.heap → (Builtin.firstCells size sLen (.slice base sLen sCap)).run P w' = .ok old w')
   (hlen : ∀ w', (Builtin.lenOf x).run P w' = .ok n w') (hnew : ∀ w', w'.heap = w.heap → (Builtin.firstCells size n x).run P w' = .ok new w') (hg : sCap < sLen + n) (h63 : ((sLen + n : Nat) : Int) ≤ 9223372036854775807) (hfit : Builtin.nextslicecap (sLen + n) sCap * i.bytes ≤ 281474976710656) :
   (Builtin.append_ ts ty as).run P w = .ok (.slice (some ⟨w.heap.size, 0, none⟩) (sLen + n) (grownCap w (sLen + n) sCap e))
     (w.drew.alloc (.cells (old ++ new ++ Builtin.zeroCells z.cells (grownCap w (sLen + n) sCap e - (sLen + n))) e)) := by
 have hd := not_int hu2 hk
 have hn : ¬ (sLen + n ≤ sCap) := by omega
 have h63' : ¬ (9223372036854775807 < ((sLen : Int) + (n : Int))) := by omega
 have h48' : ¬ (281474976710656 < Builtin.nextslicecap (sLen + n) sCap * i.bytes) := by omega
 have ho := hold w.drew rfl
 have hne := hnew w.drew rfl
 simp [Builtin.append_, h1, h2, h3, h4, run_underlying hu, run_underlying hu2, hd, sizeOf, typeInfo, zeroValue, hi, hz, hsize, hlen, hn, h63', h48', Question.forced, ho, hne, newRow, grownCap]

theorem ap_room (h1 : ts[0]? = some t) (h2 : ts[1]? = some t2) (h3 : as[0]? = some (.slice base sLen sCap)) (h4 : as[1]? = some x) (hu : P.underlying t = some (.slice e)) (hu2 : P.underlying t2 = some d2) (hk : intKind P t2 = none)
   (hi : P.info? e = some i) (hsize : i.size = size) {new : Array Value} {w' : World}
   (hlen : ∀ w', (Builtin.lenOf x).run P w' = .ok n w') (hnew : ∀ w', w'.heap = w.heap → (Builtin.firstCells size n x).run P w' = .ok new w') (hg : sLen + n ≤ sCap)
   (hst : (match base with | some a => storeCells (a.add (sLen * size)) new.toList | none => pure () : Sem Unit).run P w = .ok () w') :
   (Builtin.append_ ts ty as).run P w = .ok (.slice base (sLen + n) sCap) w' := by
 have hd := not_int hu2 hk
 have hne := hnew w rfl
 cases base with
 | none =>
   have hst' : w = w' := by simpa using hst
   subst hst'
   simp [Builtin.append_, h1, h2, h3, h4, run_underlying hu, run_underlying hu2, hd, sizeOf, typeInfo, hi, hsize, hlen, hg, hne]
 | some a =>
   simp only at hst
   simp [Builtin.append_, h1, h2, h3, h4, run_underlying hu, run_underlying hu2, hd, sizeOf, typeInfo, hi, hsize, hlen, hg, hne, hst]
end runs

/-- What a source of an append or a copy gives in every world with this heap. -/
structure Src (P : Program) (E : Env) (sz : Nat) (x : Value) (rs : Rows) where
 news : List Value
 len : ∀ w, (Builtin.lenOf x).run P w = .ok rs.length w
 size : news.length = rs.length * sz
 cells : ∀ w, w.heap = E.w.heap → (Builtin.firstCells sz rs.length x).run P w = .ok news.toArray w
 part : ∀ n, n ≤ rs.length → (∃ a l c, x = .slice a l c) → ∀ w, w.heap = E.w.heap → (Builtin.firstCells sz n x).run P w = .ok (news.take (n * sz)).toArray w
 width : ∀ row ∈ rs, row.length = sz
 one : ∀ row ∈ rs, ∀ p ∈ row, p.cell = true
 get : ∀ (i j : Nat) (row : List PV) (p : PV), rs[i]? = some row → row[j]? = some p → ∃ v, news[i * sz + j]? = some v ∧ Rep E v p

theorem cell?_heap {w w' : World} (h : w'.heap = w.heap) (a : Addr) : w'.cell? a = w.cell? a := by simp [World.cell?, h]

/-- A source out of rows that stand in memory. -/
def Src.of_view {sz : Nat} {rs : Rows} {b o c : Nat} (V : View E b o sz rs) (h1 : 1 ≤ sz) : Src P E sz (.slice (some ⟨b, o, none⟩) rs.length c) rs :=
 let f : Nat → Value := fun x => (E.w.cell? ⟨b, o + x, none⟩).getD undef
 have hf : ∀ x, x < rs.length * sz → E.w.cell? ⟨b, o + x, none⟩ = some (f x) := fun x hx => by
   have hi : x / sz < rs.length := Nat.div_lt_of_lt_mul (by rw [Nat.mul_comm]; exact hx)
   have hj : x % sz < sz := Nat.mod_lt _ (by omega)
   obtain ⟨v, h2, _⟩ := V.at hi hj
   have : o + x / sz * sz + x % sz = o + x := by have := Nat.div_add_mod x sz; rw [Nat.mul_comm] at this; omega
   rw [this] at h2
   simp [f, h2]
 { news := (List.range (rs.length * sz)).map f
   len := fun w => rfl
   size := by simp
   cells := fun w hw => by
     have := run_loadCells (P := P) w ⟨b, o, none⟩ (rs.length * sz) f (fun j hj => by rw [Addr.add_at, cell?_heap hw]; exact hf j hj)
     simpa [Builtin.firstCells] using this
   part := fun n hn _ w hw => by
     have := run_loadCells (P := P) w ⟨b, o, none⟩ (n * sz) f (fun j hj => by rw [Addr.add_at, cell?_heap hw]; exact hf j (Nat.lt_of_lt_of_le hj (Nat.mul_le_mul_right _ hn)))
     have e : ((List.range (rs.length * sz)).map f).take (n * sz) = (List.range (n * sz)).map f := by rw [← List.map_take, List.take_range, Nat.min_eq_left (Nat.mul_le_mul_right _ hn)]
     rw [e]; simpa [Builtin.firstCells] using this
   width := V.width
   one := V.one
   get := fun i j row p h2 h3 => by
     obtain ⟨v, h4, h5⟩ := V.cell i j row p h2 h3
     have hi := (List.getElem?_eq_some_iff.1 h2).1
     have hj : j < sz := by rw [← V.width row (List.mem_of_getElem? h2)]; exact (List.getElem?_eq_some_iff.1 h3).1
     have hlt := flat_lt hi hj
     refine ⟨f (i * sz + j), by simp [hlt], ?_⟩
     have : f (i * sz + j) = v := by simp only [f]; rw [← Nat.add_assoc, h4]; rfl
     rw [this]; exact h5 }

def Src.none {sz c : Nat} {a : Option Addr} : Src P E sz (.slice a 0 c) [] where
 news := []
 len := fun w => rfl
 size := by simp
 cells := fun w _ => by cases a <;> simp [Builtin.firstCells, loadCells, loadCellsFrom]
 part := fun n hn _ w _ => by
   have : n = 0 := by simpa using hn
   subst this
   cases a <;> simp [Builtin.firstCells, loadCells, loadCellsFrom]
 width := by simp
 one := by simp
 get := by simp

theorem View.sub {b o sz : Nat} {rs : Rows} (V : View E b o sz rs) (d n : Nat) : View E b (o + d * sz) sz ((rs.drop d).take n) where
 width := fun row h => V.width row (List.mem_of_mem_drop (List.mem_of_mem_take h))
 cell := fun i j row p h1 h2 => by
   rw [List.getElem?_take] at h1
   split at h1
   · rw [List.getElem?_drop] at h1
     obtain ⟨v, h3, h4⟩ := V.cell (d + i) j row p h1 h2
     refine ⟨v, ?_, h4⟩
     rw [← h3]; congr 2
     rw [Nat.add_mul]; omega
   · cases h1
 one := fun row h => V.one row (List.mem_of_mem_drop (List.mem_of_mem_take h))

theorem src_ok (g : Good E) {sz : Nat} {x : Value} {p : PV} (h1 : 1 ≤ sz) (hx : Rep E x p) (hob : (srcRows E.h sz p).1) : Nonempty (Src P E sz x (srcRows E.h sz p).2.1) := by
 unfold srcRows at hob ⊢
 split at hob
 · cases hx; exact ⟨Src.none⟩
 · rename_i tt sz' rs
   have hob' : sz' = sz := hob
   subst hob'
   cases hx with
   | litE => exact ⟨Src.none⟩
   | lit hm hc hr => exact ⟨Src.of_view (View.of_mem hm hr) h1⟩
 · rename_i k sz' off len
   split at hob
   · rename_i sz2 rs hk
     obtain ⟨rfl, h2⟩ := hob
     have hlen : ((rs.drop off).take len).length = len := by rw [List.length_take, List.length_drop]; omega
     cases hx with
     | refE _ _ =>
       simp only [List.take_zero]
       exact ⟨Src.none⟩
     | ref hkn hlc hl =>
       obtain ⟨⟨hb, ha⟩, _, rs', hq⟩ := hl _ hk
       cases hq
       subst hb; subst ha
       have V := (View.of_obj (g.obj _ _ hk)).sub off len
       have := Src.of_view (P := P) (c := ‹Nat›) V h1
       rw [hlen] at this
       exact ⟨this⟩
   · exact hob.elim
 · rename_i s
   obtain rfl := hx.sc_inv
   have hob' : sz = 1 := hob
   subst hob'
   refine ⟨⟨s.data.toList.map fun b => .int .u8 b.toNat, fun w => ?_, by simp [byteRows], fun w _ => ?_, (fun _ _ hx => by obtain ⟨_, _, _, hx⟩ := hx; cases hx), ?_, ?_, ?_⟩⟩
   · simp [Builtin.lenOf, byteRows]
   · have hx : (Array.map (fun b : UInt8 => Value.int IntKind.u8 (b.toNat : Int)) (s.extract 0 s.size).data) = (s.data.toList.map fun b => Value.int .u8 b.toNat).toArray := by
       apply Array.ext'
       simp
     simp only [Builtin.firstCells, byteRows, List.length_map]
     have hl : s.data.toList.length = s.size := by simp
     rw [hl, hx]
     rfl
   · simp [byteRows]
   · simp [byteRows, PV.cell]
   · intro i j row p h2 h3
     simp [byteRows] at h2
     obtain ⟨b, h4, rfl⟩ := h2
     cases j with
     | zero => simp at h3; subst h3; exact ⟨.int .u8 b.toNat, by simp [h4], .sc rfl⟩
     | succ j => simp at h3
 · exact hob.elim

end
end Go.Pv
