/- One operation that is no call of a function, fifth part: stores, append, maps, bytes of a string. -/
import Derived.Test.YtjmjiegplnfiiaaPvF
namespace Go.Pv
open Go Go.RowKit
section
variable {P : Program} {E : Env}

/-- An own object written in place (and, for 'k' other than 'k'', taken over under a new key). -/
def setEnv (E : Env) (k : Key) (o : PObj) (w' : World) : Env := { E with w := w', h := fun k' => if k' = k then some o else E.h k' }

def PObj.alike : PObj → PObj → Prop
 | .rows sz _, .rows sz' _ => sz = sz'
 | .map _ _ _, .map _ _ _ => True
 | .iter _ _ _, .iter _ _ _ => True
 | _, _ => False

theorem setEnv_le (_g : Good E) {k : Key} {o o' : PObj} {w' : World} (hk : E.h k = some o) (ha : o.alike o') (hsz : E.w.heap.size ≤ w'.heap.size) (hb : ∀ b, b ≠ E.blk k → w'.heap[b]? = E.w.heap[b]?) : EnvLe E (setEnv E k o' w') where
 blk := fun b _ ho => hb b fun he => ho ⟨k, o, hk, he.symm⟩
 size := hsz
 own := fun b ⟨k', o1, h1, h2⟩ => by
   simp only [setEnv] at h1 h2
   by_cases hkk : k' = k
   · subst hkk; exact .inl ⟨k', o, hk, h2⟩
   · rw [if_neg hkk] at h1; exact .inl ⟨k', o1, h1, h2⟩
 M := rfl
 tt := rfl
 B0 := rfl
 cnt := fun _ => Nat.le_refl _
 nokey := fun k' _ hn => by
   simp only [setEnv]
   rw [if_neg (fun he => by subst he; rw [hk] at hn; cases hn)]; exact hn
 rows := fun k' sz rs hr => by
   by_cases hkk : k' = k
   · subst hkk
     rw [hk] at hr; cases hr
     cases o' with
     | rows sz' rs' => simp only [PObj.alike] at ha; subst ha; exact .inr ⟨rs', by simp [setEnv], rfl, rfl⟩
     | map _ _ _ => exact ha.elim
     | iter _ _ _ => exact ha.elim
   · exact .inr ⟨rs, by simp [setEnv, hkk, hr], rfl, rfl⟩
 map := fun k' o1 hr hd => by
   by_cases hkk : k' = k
   · subst hkk
     rw [hk] at hr; cases hr
     refine .inr ⟨o', by simp [setEnv], ?_, rfl⟩
     cases o <;> cases o' <;> first | rfl | exact ha.elim
   · exact .inr ⟨o1, by simp [setEnv, hkk, hr], rfl, rfl⟩

theorem setEnv_good (g : Good E) {k : Key} {o o' : PObj} {w' : World} (hk : E.h k = some o) (ha : o.alike o') (hsz : E.w.heap.size ≤ w'.heap.size) (hb : ∀ b, b ≠ E.blk k → w'.heap[b]? = E.w.heap[b]?)
   (ho : ObjOK (setEnv E k o' w') k o') : Good (setEnv E k o' w') where
 inj := fun k1 k2 o1 o2 h1 h2 h3 => by
   simp only [setEnv] at h1 h2 h3
   by_cases e1 : k1 = k <;> by_cases e2 : k2 = k
   · rw [e1, e2]
   · rw [if_neg e2] at h2; subst e1; exact g.inj _ _ _ _ hk h2 h3
   · rw [if_neg e1] at h1; subst e2; exact g.inj _ _ _ _ h1 hk h3
   · rw [if_neg e1] at h1; rw [if_neg e2] at h2; exact g.inj _ _ _ _ h1 h2 h3
 known := fun k1 o1 h1 => by
   simp only [setEnv] at h1
   by_cases e1 : k1 = k
   · subst e1; exact g.known _ _ hk
   · rw [if_neg e1] at h1; exact g.known _ _ h1
 base := fun k1 o1 h1 => by
   simp only [setEnv] at h1
   by_cases e1 : k1 = k
   · subst e1; exact g.base _ _ hk
   · rw [if_neg e1] at h1; exact g.base _ _ h1
 obj := fun k1 o1 h1 => by
   by_cases e1 : k1 = k
   · subst e1
     simp only [setEnv, if_true] at h1; cases h1; exact ho
   · have h1' : E.h k1 = some o1 := by simp only [setEnv] at h1; rw [if_neg e1] at h1; exact h1
     exact ObjOK.le (setEnv_le g hk ha hsz hb) rfl rfl (hb _ fun he => e1 (g.inj _ _ _ _ h1' hk he)) (g.obj _ _ h1')
 out := g.out
 size := Nat.le_trans g.size hsz
 glob := gw_keep g.glob (Nat.le_refl _) fun b hb' => hb b fun e => by have := g.base k o hk; omega

theorem below_set (g : Good E) {k : Key} {o : PObj} {w' : World} (hk : E.h k = some o) (hsz : E.w.heap.size ≤ w'.heap.size) (hb : ∀ b, b ≠ E.blk k → w'.heap[b]? = E.w.heap[b]?)
   (h1 : w'.os = E.w.os) (h2 : w'.tape = E.w.tape) (h3 : w'.output = E.w.output) : Below E.B0 E.w w' :=
 ⟨h1, h2, h3, hsz, fun b hlt => hb b fun he => by have := g.base k o hk; omega⟩

theorem setRow_len {rs : Rows} {i j : Nat} {cs : List PV} : (setRow rs i j cs).length = rs.length := by simp [setRow]

theorem setRow_get {rs : Rows} {i j : Nat} {cs : List PV} (hi : i < rs.length) (i2 : Nat) : (setRow rs i j cs)[i2]? = if i2 = i then some (setAt (rs.getD i []) j cs) else rs[i2]? := by
 unfold setRow
 rw [List.getElem?_set]
 by_cases h : i = i2
 · subst h; simp [hi]
 · rw [if_neg h, if_neg (fun e => h e.symm)]

/-- Cells of a row stored into a list of cells. -/
theorem stored_get {cur : List Value} {o : Nat} {vs : List Value} (h : o + vs.length ≤ cur.length) (x : Nat) :
   (cur.take o ++ vs ++ cur.drop (o + vs.length))[x]? = if o ≤ x ∧ x < o + vs.length then vs[x - o]? else cur[x]? := by
 by_cases h1 : x < o
 · rw [if_neg (by omega), List.append_assoc, List.getElem?_append_left (by rw [List.length_take]; omega), List.getElem?_take, if_pos h1]
 · rw [List.append_assoc, List.getElem?_append_right (by rw [List.length_take]; omega), List.length_take, show min o cur.length = o by omega]
   by_cases h2 : x < o + vs.length
   · rw [if_pos ⟨by omega, h2⟩, List.getElem?_append_left (by omega)]
   · rw [if_neg (by omega), List.getElem?_append_right (by omega), List.getElem?_drop]; congr 1; omega

theorem run_storeVar {t : TypeId} (hok : tyOk P t = true) {v : Value} (hv : v.cells.size = tySize P t) {b o : Nat} {cur : Array Value} {T : TypeId} {w : World} (hg : w.heap[b]? = some (.cells cur T (0, 0)))
   (hfit : o + v.cells.size ≤ cur.size) (h1 : ∀ u ∈ v.cells.toList, u.oneCell' = true) :
   (storeVar t ⟨b, o, none⟩ v).run P w = .ok () (w.setRow b (cur.toList.take o ++ v.cells.toList ++ cur.toList.drop (o + v.cells.toList.length)).toArray) := by
 have hs := run_sizeOf (P := P) (t := t) rfl (by have := (tyOk_spec hok).2; omega) w
 have hst := run_storeCells_at P b o T v.cells.toList 0 cur w hg (by simpa using hfit) h1
 simp only [Nat.add_zero] at hst
 simp only [storeVar, Sem.run_bind, hs, Result.andThen_ok, hv, ne_eq, not_true_eq_false, if_false]
 exact hst

theorem cells_one {v : Value} {p : PV} (h : Rep E v p) (hc : (pcells p).all PV.cell = true) : ∀ u ∈ v.cells.toList, u.oneCell' = true := fun u hu => by
 obtain ⟨h1, h2⟩ := cells_rep h hc
 obtain ⟨i, hi, rfl⟩ := List.mem_iff_getElem.1 hu
 simp at hi
 have hq : (pcells p)[i]? = some (pcells p)[i] := List.getElem?_eq_getElem (by omega)
 exact Rep.one (h2 i _ _ (by simp [hi]) hq) ((List.all_eq_true.1 hc) _ (List.mem_of_getElem? hq))

theorem ok_store (g : Good E) {site : Nat} {t : TypeId} {a v : Value} {p q : PV} {run : Result Next} (ha : Rep E a p) (hv : Rep E v q)
   (hrun : run = ((Instr.storeAt t a v).run P E.w).andThen fun _ w' => .ok .skip w')
   (hob : (storeEff P E.h t p q).ob) : OpOK P E site run (storeEff P E.h t p q) := by
 unfold storeEff at hob ⊢
 split at hob
 · rename_i k sz0 i j
   split at hob
   · rename_i sz rs hk
     obtain ⟨h1, h2, h3, h4, hok⟩ := hob
     cases ha with
     | ptr hkn hl =>
       obtain ⟨⟨hb, ha⟩, rs', hq⟩ := hl _ hk
       cases hq
       subst hb; subst ha
       obtain ⟨c, T, h5, h6, h7, h8, h9, h10, h11⟩ := g.obj _ _ hk
       obtain ⟨h12, h13⟩ := cells_rep hv h4
       have hlt : i * sz0 + sz0 ≤ (E.cap k).1 * sz0 := by rw [← Nat.succ_mul]; exact Nat.mul_le_mul_right _ (by omega)
       have hfit : (E.cap k).2 + i * sz0 + j + v.cells.size ≤ c.size := by omega
       have hst := run_storeVar (P := P) hok (v := v) (by omega) h5 hfit (cells_one hv h4)
       let cells' := (c.toList.take ((E.cap k).2 + i * sz0 + j) ++ v.cells.toList ++ c.toList.drop ((E.cap k).2 + i * sz0 + j + v.cells.toList.length)).toArray
       let w' := E.w.setRow (E.blk k) cells'
       have hheap : w'.heap[E.blk k]? = some (.cells cells' T (0, 0)) := setRow_heap E.w _ c cells' T (0, 0) h5
       have hb : ∀ b, b ≠ E.blk k → w'.heap[b]? = E.w.heap[b]? := fun b hb => setRow_other E.w _ b _ hb
       have hsz : E.w.heap.size ≤ w'.heap.size := by simp [w']
       have halike : (PObj.rows sz0 rs).alike (.rows sz0 (setRow rs i j (pcells q))) := rfl
       have hle := setEnv_le (w' := w') g hk halike hsz hb
       have hrow : (rs.getD i []).length = sz0 := h9 _ (List.mem_of_getElem? (getElem?_row h1))
       have hmem : ∀ row ∈ setRow rs i j (pcells q), row = setAt (rs.getD i []) j (pcells q) ∨ row ∈ rs := fun row hr => by
         rcases List.mem_or_eq_of_mem_set hr with h | h
         · exact .inr h
         · exact .inl h
       have hobj : ObjOK (setEnv E k (.rows sz0 (setRow rs i j (pcells q))) w') k (.rows sz0 (setRow rs i j (pcells q))) := by
         refine ⟨cells', T, hheap, ?_, by rw [setRow_len]; exact h7, h8, ?_, ?_, ?_⟩
         · simp only [cells', List.size_toArray, List.length_append, List.length_take, List.length_drop, Array.length_toList]
           show _ = (E.cap k).2 + (E.cap k).1 * sz0
           omega
         · intro row hr
           rcases hmem row hr with rfl | h
           · rw [setAt_length (by omega), hrow]
           · exact h9 row h
         · intro row hr p hp
           rcases hmem row hr with rfl | h
           · unfold setAt at hp
             simp only [List.mem_append] at hp
             rcases hp with (hp | hp) | hp
             · exact h10 _ (List.mem_of_getElem? (getElem?_row h1)) p (List.mem_of_mem_take hp)
             · exact (List.all_eq_true.1 h4) p hp
             · exact h10 _ (List.mem_of_getElem? (getElem?_row h1)) p (List.mem_of_mem_drop hp)
           · exact h10 row h p hp
         · intro i2 j2 row p h14 h15
           have hget := stored_get (cur := c.toList) (o := (E.cap k).2 + i * sz0 + j) (vs := v.cells.toList) (by simpa using hfit) ((E.cap k).2 + i2 * sz0 + j2)
           have hcell : cells'[(E.cap k).2 + i2 * sz0 + j2]? = if (E.cap k).2 + i * sz0 + j ≤ (E.cap k).2 + i2 * sz0 + j2 ∧ (E.cap k).2 + i2 * sz0 + j2 < (E.cap k).2 + i * sz0 + j + v.cells.size then v.cells[(E.cap k).2 + i2 * sz0 + j2 - ((E.cap k).2 + i * sz0 + j)]? else c[(E.cap k).2 + i2 * sz0 + j2]? := by
             simp only [cells']
             rw [List.getElem?_toArray, hget]
             simp
           rw [setRow_get h1] at h14
           by_cases hi : i2 = i
           · subst hi
             rw [if_pos rfl] at h14
             cases h14
             rw [setAt_get (by omega)] at h15
             by_cases hj : j ≤ j2 ∧ j2 < j + (pcells q).length
             · rw [if_pos hj] at h15
               rw [if_pos (by omega), show (E.cap k).2 + i2 * sz0 + j2 - ((E.cap k).2 + i2 * sz0 + j) = j2 - j by omega] at hcell
               have hjv : j2 - j < v.cells.size := by omega
               exact ⟨v.cells[j2 - j], hcell.trans (by simp [hjv]), (h13 _ _ p (by simp [hjv]) h15).le hle⟩
             · rw [if_neg hj] at h15
               rw [if_neg (by omega)] at hcell
               obtain ⟨u, h16, h17⟩ := h11 i2 j2 _ p (getElem?_row h1) h15
               exact ⟨u, hcell.trans h16, h17.le hle⟩
           · rw [if_neg hi] at h14
             have hj2 : j2 < sz0 := by rw [← h9 row (List.mem_of_getElem? h14)]; exact (List.getElem?_eq_some_iff.1 h15).1
             rw [if_neg (by
               intro hx
               rcases Nat.lt_or_gt_of_ne hi with h | h
               · have : (i2 + 1) * sz0 ≤ i * sz0 := Nat.mul_le_mul_right _ h
                 rw [Nat.succ_mul] at this; omega
               · have : (i + 1) * sz0 ≤ i2 * sz0 := Nat.mul_le_mul_right _ h
                 rw [Nat.succ_mul] at this; omega)] at hcell
             obtain ⟨u, h16, h17⟩ := h11 i2 j2 _ p h14 h15
             exact ⟨u, hcell.trans h16, h17.le hle⟩
       refine ⟨undef, w', E.blk, E.cap, .inr ⟨?_, rfl⟩, ?_⟩
       · rw [hrun]
         simp only [Instr.storeAt, Instr.sureAddr, Sem.run_bind, Sem.run_pure, Result.andThen_ok, hst]
         rfl
       · exact ⟨setEnv_good g hk halike hsz hb hobj, hle, below_set g hk hsz hb rfl rfl rfl, .dead⟩
   · exact hob.elim
 · exact hob.elim

end
end Go.Pv
