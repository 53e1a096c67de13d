/- One operation that is no call of a function, fourth part: operations that make memory. -/
import Derived.Test.YtjmjiegplnfiiaaPvE
namespace Go.Pv
open Go Go.RowKit
section
variable {P : Program} {E : Env}

theorem ObjOK.le {E E' : Env} (h : EnvLe E E') {k : Key} {o : PObj} (hb : E'.blk k = E.blk k) (hc : E'.cap k = E.cap k) (hw : E'.w.heap[E.blk k]? = E.w.heap[E.blk k]?) (ho : ObjOK E k o) : ObjOK E' k o := by
 cases o with
 | rows sz rs =>
   obtain ⟨c, T, h1, h2, h3, h4, h5, h6, h7⟩ := ho
   exact ⟨c, T, by rw [hb, hw]; exact h1, by rw [hc]; exact h2, by rw [hc]; exact h3, h4, h5, h6, fun i j row p h8 h9 => by
     obtain ⟨v, h10, h11⟩ := h7 i j row p h8 h9
     exact ⟨v, by rw [hc]; exact h10, h11.le h⟩⟩
 | map es bs clk =>
   obtain ⟨ents, h1, h2, h3, h4, hst, hbs⟩ := ho
   exact ⟨ents, by rw [hb, hw]; exact h1, h2, h3, fun i e p h5 h6 => ⟨(h4 i e p h5 h6).1.le h, (h4 i e p h5 h6).2.le h⟩, hst, hbs⟩
 | iter km since seen =>
   obtain ⟨b, h1, h2, h3⟩ := ho
   refine ⟨b, by rw [hb, hw]; exact h1, h.known h2, fun o' ho' => ?_⟩
   cases hq : E.h km with
   | none => rw [h.nokey _ h2 hq] at ho'; cases ho'
   | some o =>
     obtain ⟨h4, h5⟩ := h3 o hq
     rcases h.map _ _ hq (by rw [h5]; decide) with h6 | ⟨o1, h6, h7, h8⟩
     · rw [h6] at ho'; cases ho'
     · rw [h6] at ho'; cases ho'; exact ⟨h4.trans h8.symm, h7.trans h5⟩

/-- The environment behind the making of one object. -/
def newEnv (E : Env) (site : Nat) (o : PObj) (w' : World) (c : Nat) : Env :=
 { E with
   w := w'
   h := fun k => if k = (site, E.cnt site) then some o else E.h k
   cnt := fun s => if s = site then E.cnt s + 1 else E.cnt s
   blk := fun k => if k = (site, E.cnt site) then E.w.heap.size else E.blk k
   cap := fun k => if k = (site, E.cnt site) then (c, 0) else E.cap k }

theorem known_ne {site : Nat} {k : Key} (hk : E.known k) : k ≠ (site, E.cnt site) := fun h => by
 subst h; simp [Env.known] at hk

theorem live_lt (g : Good E) {k : Key} {o : PObj} (h : E.h k = some o) : E.blk k < E.w.heap.size := by
 have := g.obj k o h
 cases o with
 | rows sz rs => obtain ⟨c, T, h1, _⟩ := this; exact (Array.getElem?_eq_some_iff.1 h1).1
 | map es bs clk => obtain ⟨ents, h1, _⟩ := this; exact (Array.getElem?_eq_some_iff.1 h1).1
 | iter km since seen => obtain ⟨b, h1, _⟩ := this; exact (Array.getElem?_eq_some_iff.1 h1).1

theorem newEnv_le (g : Good E) {site : Nat} {o : PObj} {w' : World} {c : Nat} {obj : Obj} (hh : w'.heap = E.w.heap.push obj) : EnvLe E (newEnv E site o w' c) where
 blk := fun b hb _ => by simp only [newEnv, hh]; rw [Array.getElem?_push, if_neg (by omega)]
 size := by simp [newEnv, hh]
 own := fun b ⟨k, o', h1, h2⟩ => by
   simp only [newEnv] at h1 h2
   by_cases hk : k = (site, E.cnt site)
   · rw [if_pos hk] at h2; exact .inr (by omega)
   · rw [if_neg hk] at h1 h2; exact .inl ⟨k, o', h1, h2⟩
 M := rfl
 tt := rfl
 B0 := rfl
 cnt := fun s => by simp only [newEnv]; split <;> omega
 nokey := fun k hk hn => by simp only [newEnv]; rw [if_neg (known_ne hk)]; exact hn
 rows := fun k sz rs hk => .inr ⟨rs, by
   have := known_ne (site := site) (g.known _ _ hk)
   simp [newEnv, this, hk]⟩
 map := fun k o1 hk _ => .inr ⟨o1, by
   have := known_ne (site := site) (g.known _ _ hk)
   simp [newEnv, this, hk]⟩

theorem newEnv_good (g : Good E) {site : Nat} {o : PObj} {w' : World} {c : Nat} {obj : Obj} (hh : w'.heap = E.w.heap.push obj) (ho : ObjOK (newEnv E site o w' c) (site, E.cnt site) o) : Good (newEnv E site o w' c) where
 inj := fun k k' o1 o2 h1 h2 h3 => by
   simp only [newEnv] at h1 h2 h3
   by_cases hk : k = (site, E.cnt site) <;> by_cases hk' : k' = (site, E.cnt site)
   · rw [hk, hk']
   · rw [if_pos hk, if_neg hk'] at h3
     rw [if_neg hk'] at h2
     have := live_lt g h2
     omega
   · rw [if_neg hk, if_pos hk'] at h3
     rw [if_neg hk] at h1
     have := live_lt g h1
     omega
   · rw [if_neg hk, if_neg hk'] at h3
     rw [if_neg hk] at h1
     rw [if_neg hk'] at h2
     exact g.inj k k' _ _ h1 h2 h3
 known := fun k o' h1 => by
   simp only [newEnv, Env.known] at h1 ⊢
   by_cases hk : k = (site, E.cnt site)
   · subst hk; simp
   · rw [if_neg hk] at h1
     have := g.known k o' h1
     simp only [Env.known] at this
     split
     · rename_i hs; omega
     · exact this
 base := fun k o' h1 => by
   simp only [newEnv] at h1 ⊢
   by_cases hk : k = (site, E.cnt site)
   · rw [if_pos hk]; exact g.size
   · rw [if_neg hk] at h1 ⊢; exact g.base k o' h1
 obj := fun k o' h1 => by
   by_cases hk : k = (site, E.cnt site)
   · subst hk
     simp only [newEnv, if_true] at h1
     cases h1; exact ho
   · have h1' : E.h k = some o' := by simp only [newEnv] at h1; rw [if_neg hk] at h1; exact h1
     refine ObjOK.le (newEnv_le g hh) (by simp [newEnv, hk]) (by simp [newEnv, hk]) ?_ (g.obj k o' h1')
     have := live_lt g h1'
     simp only [newEnv, hh]
     rw [Array.getElem?_push, if_neg (by omega)]
 out := g.out
 size := by simp only [newEnv, hh, Array.size_push]; exact Nat.le_trans g.size (by omega)
 glob := gw_keep g.glob (Nat.le_refl _) fun b hb => by
   simp only [newEnv, hh]
   have := g.size
   rw [Array.getElem?_push, if_neg (by omega)]

theorem below_push (g : Good E) {w' : World} {obj : Obj} (hh : w'.heap = E.w.heap.push obj) (h1 : w'.os = E.w.os) (h2 : w'.tape = E.w.tape) (h3 : w'.output = E.w.output) : Below E.B0 E.w w' :=
 ⟨h1, h2, h3, by simp [hh], fun k hk => by have := g.size; rw [hh, Array.getElem?_push, if_neg (by omega)]⟩

/-- One new object: what is to be shown. -/
theorem OpOK.new (g : Good E) {site : Nat} {run : Result Next} {e : Eff} {o : PObj} {w' : World} {c : Nat} {obj : Obj} {v : Value}
   (hrun : run = .ok (.value v) w') (hh : w'.heap = E.w.heap.push obj) (h1 : w'.os = E.w.os) (h2 : w'.tape = E.w.tape) (h3 : w'.output = E.w.output)
   (hwr : e.wr = [((site, E.cnt site), some o)]) (hbump : e.bump = true) (ho : ObjOK (newEnv E site o w' c) (site, E.cnt site) o) (hv : Rep (newEnv E site o w' c) v e.v) : OpOK P E site run e := by
 refine ⟨v, w', (newEnv E site o w' c).blk, (newEnv E site o w' c).cap, .inl hrun, ?_⟩
 have he : ({ E with w := w', h := applyWr E.h e.wr, cnt := bumpC E.cnt site e.bump, blk := (newEnv E site o w' c).blk, cap := (newEnv E site o w' c).cap } : Env) = newEnv E site o w' c := by
   rw [hwr, hbump]; rfl
 rw [he]
 exact ⟨newEnv_good g hh ho, newEnv_le g hh, below_push g hh h1 h2 h3, hv⟩

theorem flat_lt {i j n sz : Nat} (hi : i < n) (hj : j < sz) : i * sz + j < n * sz := by
 have : (i + 1) * sz ≤ n * sz := Nat.mul_le_mul_right _ hi
 rw [Nat.succ_mul] at this; omega

/-- A new row of cells reads as rows. -/
theorem objOK_new {site : Nat} {sz c : Nat} {rs : Rows} {w' : World} {cells : Array Value} {T : TypeId} (hh : w'.heap = E.w.heap.push (.cells cells T))
   (hsz : cells.size = c * sz) (hlen : rs.length ≤ c) (h1 : 1 ≤ sz) (hw : ∀ row ∈ rs, row.length = sz) (hone : ∀ row ∈ rs, ∀ p ∈ row, p.cell = true)
   (hcell : ∀ (i j : Nat) (row : List PV) (p : PV), rs[i]? = some row → row[j]? = some p → ∃ v, cells[i * sz + j]? = some v ∧ Rep (newEnv E site (.rows sz rs) w' c) v p) :
   ObjOK (newEnv E site (.rows sz rs) w' c) (site, E.cnt site) (.rows sz rs) := by
 refine ⟨cells, T, ?_, ?_, ?_, h1, hw, hone, fun i j row p h2 h3 => ?_⟩
 · simp [newEnv, hh]
 · simp [newEnv, hsz]
 · simp [newEnv, hlen]
 · obtain ⟨v, h4, h5⟩ := hcell i j row p h2 h3
   exact ⟨v, by simpa [newEnv] using h4, h5⟩

theorem rep_new_ptr {site : Nat} {sz c : Nat} {rs : Rows} {w' : World} : Rep (newEnv E site (.rows sz rs) w' c) (.pointer (some ⟨E.w.heap.size, 0, none⟩)) (.ptr (site, E.cnt site) sz 0 0) := by
 have := Rep.ptr (E := newEnv E site (.rows sz rs) w' c) (b := E.w.heap.size) (a := 0) (k := (site, E.cnt site)) (sz := sz) (i := 0) (j := 0) (by simp [newEnv, Env.known]) (fun o ho => by
   simp [newEnv] at ho ⊢
   exact ⟨_, ho.symm⟩)
 simpa using this

theorem rep_new_ref {site : Nat} {sz c len : Nat} {rs : Rows} {w' : World} (hl : len ≤ c) : Rep (newEnv E site (.rows sz rs) w' c) (.slice (some ⟨E.w.heap.size, 0, none⟩) len c) (.ref (site, E.cnt site) sz 0 len) := by
 have := Rep.ref (E := newEnv E site (.rows sz rs) w' c) (b := E.w.heap.size) (a := 0) (k := (site, E.cnt site)) (sz := sz) (off := 0) (len := len) (c := c) (by simp [newEnv, Env.known]) hl (fun o ho => by
   simp [newEnv] at ho ⊢
   exact ⟨_, ho.symm⟩)
 simpa using this

theorem ok_alloc (g : Good E) {site : Nat} {run : Result Next} {T : TypeId} {cells : Array Value} {cs : List PV}
   (hrun : run = .ok (.value (.pointer (some ⟨E.w.heap.size, 0, none⟩))) { E.w with heap := E.w.heap.push (.cells cells T) })
   (hrep : Rep E (.agg cells) (.agg cs)) (hob : (allocEff (site, E.cnt site) cs).ob) : OpOK P E site run (allocEff (site, E.cnt site) cs) := by
 obtain ⟨h1, h2⟩ := hob
 have hsz : cells.size = cs.length := by cases hrep; assumption
 refine OpOK.new g (o := .rows cs.length [cs]) (w' := { E.w with heap := E.w.heap.push (.cells cells T) }) (c := 1) hrun rfl rfl rfl rfl rfl rfl ?_ rep_new_ptr
 refine objOK_new rfl (by omega) (by simp) h2 (by simp) (by simpa using h1) fun i j row p h3 h4 => ?_
 cases i with
 | zero =>
   simp at h3; subst h3
   have hj := (List.getElem?_eq_some_iff.1 h4).1
   refine ⟨cells[j], by simp [hsz, hj], ?_⟩
   have hle : EnvLe E (newEnv E site (.rows cs.length [cs]) { E.w with heap := E.w.heap.push (.cells cells T) } 1) := newEnv_le g rfl
   cases hrep with
   | agg _ hp => exact (hp j _ p (by simp [hsz, hj]) h4).le hle
 | succ i => simp at h3

/-- A new slice whose cells are known as a whole. -/
theorem ok_newRef (g : Good E) {site : Nat} {run : Result Next} {T : TypeId} {cells : Array Value} {sz c len : Nat} {rs : Rows} {e : Eff} {w' : World}
   (hrun : run = .ok (.value (.slice (some ⟨E.w.heap.size, 0, none⟩) len c)) w') (hh : w'.heap = E.w.heap.push (.cells cells T)) (h1 : w'.os = E.w.os) (h2 : w'.tape = E.w.tape) (h3 : w'.output = E.w.output)
   (he : e.v = .ref (site, E.cnt site) sz 0 len) (hwr : e.wr = [((site, E.cnt site), some (.rows sz rs))]) (hbump : e.bump = true)
   (hlen : rs.length = len) (hc : len ≤ c) (hsz : cells.size = c * sz) (h1sz : 1 ≤ sz) (hw : ∀ row ∈ rs, row.length = sz) (hone : ∀ row ∈ rs, ∀ p ∈ row, p.cell = true)
   (hcell : ∀ (i j : Nat) (row : List PV) (p : PV), rs[i]? = some row → row[j]? = some p → ∃ v, cells[i * sz + j]? = some v ∧ Rep E v p) : OpOK P E site run e := by
 refine OpOK.new g (o := .rows sz rs) (w' := w') (c := c) hrun hh h1 h2 h3 hwr hbump ?_ (by rw [he]; exact rep_new_ref hc)
 exact objOK_new hh hsz (by omega) h1sz hw hone fun i j row p h4 h5 => by
   obtain ⟨v, h6, h7⟩ := hcell i j row p h4 h5
   exact ⟨v, h6, h7.le (newEnv_le g hh)⟩

theorem fillRows_spec {sz : Nat} : ∀ {pp : List (Nat × PV)} {rs : Rows}, (∀ row ∈ rs, row.length = sz) → (∀ row ∈ rs, ∀ p ∈ row, p.cell = true) → fillRowsOk rs.length sz pp →
   (fillRows rs pp).length = rs.length ∧ (∀ row ∈ fillRows rs pp, row.length = sz) ∧ ∀ row ∈ fillRows rs pp, ∀ p ∈ row, p.cell = true
 | [], rs, h1, h2, _ => ⟨rfl, h1, h2⟩
 | (i, v) :: pp, rs, h1, h2, hok => by
   obtain ⟨h3, h4, h5, h6⟩ := hok
   have hmem : ∀ row ∈ rs.set i (pcells v), row = pcells v ∨ row ∈ rs := fun row hr => by
     rcases List.mem_or_eq_of_mem_set hr with h | h
     · exact .inr h
     · exact .inl h
   have := fillRows_spec (pp := pp) (rs := rs.set i (pcells v)) (sz := sz) (fun row hr => by
     rcases hmem row hr with rfl | h
     · exact h4
     · exact h1 row h) (fun row hr p hp => by
     rcases hmem row hr with rfl | h
     · exact (List.all_eq_true.1 h5) p hp
     · exact h2 row h p hp) (by simpa using h6)
   simpa [fillRows] using this

/-- Filling the elements of a slice literal, cell by cell. -/
theorem fillRows_rep {sz : Nat} : ∀ (parts : List (Nat × Value)) (pp : List (Nat × PV)) (cells : Array Value) (rs : Rows), parts.length = pp.length →
     (∀ (i : Nat) (x : Nat × Value) (y : Nat × PV), parts[i]? = some x → pp[i]? = some y → x.1 = y.1 ∧ Rep E x.2 y.2) →
     (∀ row ∈ rs, row.length = sz) → cells.size = rs.length * sz →
     (∀ (i j : Nat) (row : List PV) (p : PV), rs[i]? = some row → row[j]? = some p → ∃ v, cells[i * sz + j]? = some v ∧ Rep E v p) → fillRowsOk rs.length sz pp →
     ∃ cells', Instr.fill (fun i => some (i * sz, sz)) cells parts = some cells' ∧ cells'.size = rs.length * sz ∧
       (∀ (i j : Nat) (row : List PV) (p : PV), (fillRows rs pp)[i]? = some row → row[j]? = some p → ∃ v, cells'[i * sz + j]? = some v ∧ Rep E v p)
 | [], [], cells, rs, _, _, hw, hsz, hc, _ => ⟨cells, rfl, hsz, hc⟩
 | [], _ :: _, _, _, h, _, _, _, _, _ => by simp at h
 | _ :: _, [], _, _, h, _, _, _, _, _ => by simp at h
 | (i, v) :: parts, (i', p) :: pp, cells, rs, hl, hrel, hw, hsz, hc, hok => by
   obtain ⟨h1, h2, h3, h4⟩ := hok
   obtain ⟨rfl, hvp⟩ := hrel 0 _ _ rfl rfl
   simp only at h1 h2 h3 hvp
   obtain ⟨h6, h7⟩ := cells_rep hvp h3
   have hlt : i * sz + sz ≤ rs.length * sz := by rw [← Nat.succ_mul]; exact Nat.mul_le_mul_right _ h1
   have hget := foldl_set_get v.cells.toList 0 (i * sz) cells
   have hw' : ∀ row ∈ rs.set i (pcells p), row.length = sz := fun row hr => by
     rcases List.mem_or_eq_of_mem_set hr with h | h
     · exact hw row h
     · rw [h]; exact h2
   obtain ⟨cells', h10, h11, h12⟩ := fillRows_rep (sz := sz) parts pp (v.cells.toList.zipIdx.foldl (fun cs (x : Value × Nat) => cs.setIfInBounds (i * sz + x.2) x.1) cells) (rs.set i (pcells p)) (by simpa using hl) (fun j x y hx hy => hrel (j + 1) x y hx hy) hw'
     (by rw [foldl_set_size, List.length_set, hsz]) (fun i2 j row q h13 h14 => by
       rw [hget]
       simp only [Nat.add_zero, Array.length_toList]
       have hj : j < sz := by rw [← hw' row (List.mem_of_getElem? h13)]; exact (List.getElem?_eq_some_iff.1 h14).1
       rw [List.getElem?_set] at h13
       by_cases hi : i = i2
       · subst hi
         rw [if_pos rfl, if_pos h1] at h13
         cases h13
         rw [if_pos (by omega), show i * sz + j - i * sz = j by omega]
         have hjv : j < v.cells.size := by omega
         exact ⟨v.cells[j], by simp [hjv], h7 j _ q (by simp [hjv]) h14⟩
       · rw [if_neg hi] at h13
         have hi2 : i2 < rs.length := (List.getElem?_eq_some_iff.1 h13).1
         rw [if_neg (by
           intro hx
           rcases Nat.lt_or_gt_of_ne hi with h | h
           · have : (i + 1) * sz ≤ i2 * sz := Nat.mul_le_mul_right _ h
             rw [Nat.succ_mul] at this; omega
           · have : (i2 + 1) * sz ≤ i * sz := Nat.mul_le_mul_right _ h
             rw [Nat.succ_mul] at this; omega)]
         exact hc i2 j row q h13 h14) (by simpa using h4)
   refine ⟨cells', ?_, by simpa using h11, h12⟩
   rw [← h10]
   simp only [Instr.fill]
   rw [if_neg (by simp only [Bool.or_eq_true, decide_eq_true_eq, not_or]; omega)]
   congr 1
   rw [← Array.foldl_toList]
   simp


theorem zeroRow_get {z : Array Value} {n i j : Nat} (hj : j < z.size) (hi : i < n) : ((Array.range (n * z.size)).map (z[· % z.size]!))[i * z.size + j]? = some z[j] := by
 have hlt := flat_lt hi hj
 have hm : (i * z.size + j) % z.size = j := by rw [Nat.add_comm, Nat.add_mul_mod_self_right]; exact Nat.mod_eq_of_lt hj
 simp [hlt, hm, hj]

theorem ok_buildSlice (g : Good E) {site : Nat} {t : TypeId} {n : Nat} {parts : List (Nat × Value)} {pp : List (Nat × PV)} {run : Result Next} (hl : parts.length = pp.length)
   (hrel : ∀ (i : Nat) (x : Nat × Value) (y : Nat × PV), parts[i]? = some x → pp[i]? = some y → x.1 = y.1 ∧ Rep E x.2 y.2)
   (hrun : run = ((Instr.buildSlice t n parts.toArray).run P E.w).andThen fun v w' => .ok (.value v) w')
   (hob : (buildSliceEff P (site, E.cnt site) t n pp).ob) : OpOK P E site run (buildSliceEff P (site, E.cnt site) t n pp) := by
 unfold buildSliceEff at hob ⊢
 split at hob
 · rename_i z hz
   obtain ⟨h1, h2, h3, h4, h5⟩ := hob
   obtain ⟨v, i, h6, h7, h8, h9⟩ := zero_rep (E := E) hz
   obtain ⟨hu, hok⟩ := sliceOk_spec h1
   have hpos := (tyOk_spec hok).2
   have hs := run_sizeOf (P := P) (t := elemTy P t) rfl (by omega) E.w
   have hzs : v.cells.size = tySize P (elemTy P t) := by omega
   have hzl : z.length = v.cells.size := h9
   have hrepl : ∀ row ∈ List.replicate n z, row.length = z.length := fun row hr => by rw [(List.mem_replicate.1 hr).2]
   have hrepl1 : ∀ row ∈ List.replicate n z, ∀ p ∈ row, p.cell = true := fun row hr p hp => by
     rw [(List.mem_replicate.1 hr).2] at hp; exact (List.all_eq_true.1 h4) p hp
   have hcells0 : (if n * tySize P (elemTy P t) = 0 then pure #[] else do pure (← zeroValue (elemTy P t)).cells : Sem (Array Value)).run P E.w = .ok (if n * tySize P (elemTy P t) = 0 then #[] else v.cells) E.w := by
     split
     · rfl
     · simp [run_zeroValue h6 h7]
   have hget : ∀ (i j : Nat) (row : List PV) (p : PV), (List.replicate n z)[i]? = some row → row[j]? = some p →
       ∃ u, ((Array.range (n * tySize P (elemTy P t))).map ((if n * tySize P (elemTy P t) = 0 then #[] else v.cells)[· % (if n * tySize P (elemTy P t) = 0 then #[] else v.cells).size]!))[i * z.length + j]? = some u ∧ Rep E u p := fun i j row p h10 h11 => by
     have hi := (List.getElem?_eq_some_iff.1 h10).1
     simp at hi
     have hrow : row = z := (List.mem_replicate.1 (List.mem_of_getElem? h10)).2
     subst hrow
     have hj := (List.getElem?_eq_some_iff.1 h11).1
     have hne : ¬ n * tySize P (elemTy P t) = 0 := by
       intro h0
       rcases Nat.mul_eq_zero.1 h0 with h0 | h0 <;> omega
     rw [if_neg hne, ← hzs, hzl]
     refine ⟨v.cells[j]'(by omega), zeroRow_get (by omega) hi, ?_⟩
     cases h8 with
     | agg _ hp => exact hp j _ p (by simp [show j < v.cells.size by omega]) h11
   obtain ⟨cells', h12, h13, h14⟩ := fillRows_rep (sz := z.length) parts pp _ (List.replicate n z) hl hrel hrepl (by simp [hzl, hzs]) hget (by simpa using h5)
   obtain ⟨h15, h16, h17⟩ := fillRows_spec (sz := z.length) hrepl hrepl1 (by simpa using h5)
   refine ok_newRef g (T := elemTy P t) (cells := cells') (c := n) (len := n) (w' := { E.w with heap := E.w.heap.push (.cells cells' (elemTy P t)) }) ?_ rfl rfl rfl rfl rfl rfl rfl (by simpa using h15) (Nat.le_refl _) (by simpa using h13) (by omega) h16 h17 h14
   rw [hrun]
   have hle : ¬ n * tySize P (elemTy P t) > 2 ^ 24 := by omega
   have h12' : Instr.fill (fun i => some (i * tySize P (elemTy P t), tySize P (elemTy P t))) ((Array.range (n * tySize P (elemTy P t))).map ((if n * tySize P (elemTy P t) = 0 then #[] else v.cells)[· % (if n * tySize P (elemTy P t) = 0 then #[] else v.cells).size]!)) parts = some cells' := by
     rw [← h12, h2]
   by_cases h0 : n * tySize P (elemTy P t) = 0
   · rw [if_pos h0] at h12'
     simp only [Instr.buildSlice, Sem.run_bind, run_under hu, Result.andThen_ok, hs, if_neg hle, if_pos h0, Sem.run_pure, h12']
     rfl
   · rw [if_neg h0] at h12'
     simp only [Instr.buildSlice, Sem.run_bind, run_under hu, Result.andThen_ok, hs, if_neg hle, if_neg h0, run_zeroValue h6 h7, Sem.run_pure, h12']
     rfl
 · exact hob.elim


theorem ok_makeSlice (g : Good E) {site : Nat} {t : TypeId} {l c : Value} {pl pc : PV} {run : Result Next} (hl : Rep E l pl) (hc : Rep E c pc)
   (hrun : run = ((Instr.makeSlice t l c).run P E.w).andThen fun v w' => .ok (.value v) w')
   (hob : (makeSliceEff P (site, E.cnt site) t pl pc).ob) : OpOK P E site run (makeSliceEff P (site, E.cnt site) t pl pc) := by
 unfold makeSliceEff at hob ⊢
 split at hob
 · rename_i k L k' C
   split at hob
   · rename_i z hz
     obtain ⟨h1, h2, h4, h5, h6, h7, h8⟩ := hob
     obtain rfl := hl.sc_inv
     obtain rfl := hc.sc_inv
     obtain ⟨v, i, h9, h10, h11, h12⟩ := zero_rep (E := E) hz
     obtain ⟨hu, hok⟩ := sliceOk_spec h1
     have hpos := (tyOk_spec hok).2
     have hs := run_sizeOf (P := P) (t := elemTy P t) rfl (by omega) E.w
     have hzs : v.cells.size = tySize P (elemTy P t) := by omega
     have hby : P.bytesOf (elemTy P t) = i.bytes := by simp [Program.bytesOf, h9]
     have hwl : IntKind.i64.wrap L = L := by simp [IntKind.wrap, IntKind.bits, IntKind.signed]; omega
     have hwc : IntKind.i64.wrap C = C := by simp [IntKind.wrap, IntKind.bits, IntKind.signed]; omega
     have hprod : (i.bytes : Int) * C ≤ 2 ^ 15 * 2 ^ 32 := by
       have h13 : (i.bytes : Int) ≤ 2 ^ 15 := by omega
       exact Int.le_trans (Int.mul_le_mul_of_nonneg_right h13 (by omega)) (Int.mul_le_mul_of_nonneg_left (by omega) (by omega))
     have hbig : ¬ ((decide (C < 0) || decide ((i.bytes : Int) * C > 2 ^ 48) || decide (L < 0) || decide (L > C)) = true) := by
       simp only [Bool.or_eq_true, decide_eq_true_eq, not_or]
       refine ⟨⟨⟨by omega, ?_⟩, by omega⟩, by omega⟩
       have : (2 : Int) ^ 15 * 2 ^ 32 ≤ 2 ^ 48 := by decide
       omega
     refine ok_newRef g (T := elemTy P t) (cells := (Array.range (C.toNat * v.cells.size)).map (v.cells[· % v.cells.size]!)) (c := C.toNat) (len := L.toNat)
       (w' := { E.w with heap := E.w.heap.push (.cells ((Array.range (C.toNat * v.cells.size)).map (v.cells[· % v.cells.size]!)) (elemTy P t)) }) ?_ rfl rfl rfl rfl rfl rfl rfl (by simp) (by omega) (by simp [h12]) (by omega)
       (fun row hr => by rw [(List.mem_replicate.1 hr).2]) (fun row hr p hp => by rw [(List.mem_replicate.1 hr).2] at hp; exact (List.all_eq_true.1 h4) p hp) (fun a b row p h13 h14 => ?_)
     · rw [hrun]
       have hif : ∀ (n : Nat), (if n = 0 then pure #[] else do pure (← zeroValue (elemTy P t)).cells : Sem (Array Value)).run P E.w = .ok (if n = 0 then #[] else v.cells) E.w := fun n => by
         split
         · rfl
         · simp [run_zeroValue h9 h10]
       have htl : ∀ (n : Int), ¬ ((decide (n < 0) || decide ((i.bytes : Int) * n > 2 ^ 48)) = true) → True := fun _ _ => trivial
       simp only [Instr.makeSlice, Sem.run_bind, run_under hu, Result.andThen_ok, asInt, asIntOf, Sem.run_pure, typeInfo, run_program, h9, hwl, hwc]
       rw [if_neg hbig]
       simp only [Sem.run_bind, run_askRoom, Result.andThen_ok, hs, ← hzs]
       by_cases h0 : C.toNat * v.cells.size = 0
       · rw [if_pos h0]
         have : C.toNat = 0 := by rcases Nat.mul_eq_zero.1 h0 with h | h <;> omega
         simp [this, newRow, Array.range_zero']
       · rw [if_neg h0]
         simp only [Sem.run_bind, run_zeroValue h9 h10, Result.andThen_ok, Sem.run_pure]
         rfl
     · have hi := (List.getElem?_eq_some_iff.1 h13).1
       simp at hi
       have hrow : row = z := (List.mem_replicate.1 (List.mem_of_getElem? h13)).2
       subst hrow
       have hj := (List.getElem?_eq_some_iff.1 h14).1
       rw [h12]
       refine ⟨v.cells[b]'(by omega), zeroRow_get (by omega) (by omega), ?_⟩
       cases h11 with
       | agg _ hp => exact hp b _ p (by simp [show b < v.cells.size by omega]) h14
   · exact hob.elim
 · exact hob.elim

end
end Go.Pv
