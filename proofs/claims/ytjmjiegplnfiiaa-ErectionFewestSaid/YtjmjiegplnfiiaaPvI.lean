/- One operation that is no call of a function, seventh part: append, as a whole. -/
import Derived.Test.YtjmjiegplnfiiaaPvH
namespace Go.Pv
open Go Go.RowKit
section
variable {P : Program} {E : Env}

def killEnv (E : Env) (k : Key) : Env := { E with h := fun k' => if k' = k then none else E.h k' }

theorem killEnv_le (k : Key) : EnvLe E (killEnv E k) where
 blk := fun _ _ _ => rfl
 size := Nat.le_refl _
 own := fun b ⟨k', o, h1, h2⟩ => by
   simp only [killEnv] at h1
   split at h1
   · cases h1
   · exact .inl ⟨k', o, h1, h2⟩
 M := rfl
 tt := rfl
 B0 := rfl
 cnt := fun _ => Nat.le_refl _
 nokey := fun k' _ hn => by simp only [killEnv]; split <;> first | rfl | exact hn
 rows := fun k' sz rs hr => by
   by_cases hk : k' = k
   · exact .inl (by simp [killEnv, hk])
   · exact .inr ⟨rs, by simp [killEnv, hk, hr], rfl, rfl⟩
 map := fun k' o1 hr _ => by
   by_cases hk : k' = k
   · exact .inl (by simp [killEnv, hk])
   · exact .inr ⟨o1, by simp [killEnv, hk, hr], rfl, rfl⟩

theorem killEnv_live {k k' : Key} {o : PObj} (h : (killEnv E k).h k' = some o) : k' ≠ k ∧ E.h k' = some o := by
 simp only [killEnv] at h
 split at h
 · cases h
 · exact ⟨by assumption, h⟩

theorem killEnv_good (g : Good E) (k : Key) : Good (killEnv E k) where
 inj := fun _k1 _k2 _o1 _o2 h1 h2 h3 => g.inj _ _ _ _ (killEnv_live h1).2 (killEnv_live h2).2 h3
 known := fun _k1 _o1 h1 => g.known _ _ (killEnv_live h1).2
 base := fun _k1 _o1 h1 => g.base _ _ (killEnv_live h1).2
 obj := fun _k1 _o1 h1 => ObjOK.le (killEnv_le k) rfl rfl rfl (g.obj _ _ (killEnv_live h1).2)
 out := g.out
 size := g.size
 glob := g.glob

/-- The environment in which the block of one object has been taken over under a new key. -/
def reuseEnv (E : Env) (site : Nat) (k : Key) (cp : Nat × Nat) (o : PObj) (w' : World) : Env :=
 { E with
   w := w'
   h := fun k' => if k' = (site, E.cnt site) then some o else if k' = k then none else E.h k'
   cnt := fun s => if s = site then E.cnt s + 1 else E.cnt s
   blk := fun k' => if k' = (site, E.cnt site) then E.blk k else E.blk k'
   cap := fun k' => if k' = (site, E.cnt site) then cp else E.cap k' }

theorem reuseEnv_le (g : Good E) {site : Nat} {k : Key} {cp : Nat × Nat} {o o' : PObj} {w' : World} (hk : E.h k = some o') (hsz : E.w.heap.size ≤ w'.heap.size) (hb : ∀ b, b ≠ E.blk k → w'.heap[b]? = E.w.heap[b]?) : EnvLe E (reuseEnv E site k cp o w') where
 blk := fun b _ ho => hb b fun he => ho ⟨k, o', hk, he.symm⟩
 size := hsz
 own := fun b ⟨k', o1, h1, h2⟩ => by
   simp only [reuseEnv] at h1 h2
   by_cases e1 : k' = (site, E.cnt site)
   · rw [if_pos e1] at h2; exact .inl ⟨k, o', hk, h2⟩
   · rw [if_neg e1] at h1 h2
     split at h1
     · cases h1
     · exact .inl ⟨k', o1, h1, h2⟩
 M := rfl
 tt := rfl
 B0 := rfl
 cnt := fun s => by simp only [reuseEnv]; split <;> omega
 nokey := fun k' hkn hn => by
   simp only [reuseEnv]; rw [if_neg (known_ne hkn)]; split <;> first | rfl | exact hn
 rows := fun k' sz rs hr => by
   have hne := known_ne (site := site) (g.known _ _ hr)
   by_cases e : k' = k
   · subst e; exact .inl (by simp [reuseEnv, hne])
   · exact .inr ⟨rs, by simp [reuseEnv, hne, e, hr]⟩
 map := fun k' o1 hr _ => by
   have hne := known_ne (site := site) (g.known _ _ hr)
   by_cases e : k' = k
   · subst e; exact .inl (by simp [reuseEnv, hne])
   · exact .inr ⟨o1, by simp [reuseEnv, hne, e, hr]⟩

theorem reuseEnv_good (g : Good E) {site : Nat} {k : Key} {cp : Nat × Nat} {o o' : PObj} {w' : World} (hk : E.h k = some o') (hsz : E.w.heap.size ≤ w'.heap.size) (hb : ∀ b, b ≠ E.blk k → w'.heap[b]? = E.w.heap[b]?)
   (ho : ObjOK (reuseEnv E site k cp o w') (site, E.cnt site) o) : Good (reuseEnv E site k cp o w') := by
 have live : ∀ k1 o1, (reuseEnv E site k cp o w').h k1 = some o1 → k1 ≠ (site, E.cnt site) → k1 ≠ k ∧ E.h k1 = some o1 := fun k1 o1 h1 h2 => by
   simp only [reuseEnv] at h1
   rw [if_neg h2] at h1
   split at h1
   · cases h1
   · exact ⟨by assumption, h1⟩
 refine ⟨fun k1 k2 o1 o2 h1 h2 h3 => ?_, fun k1 o1 h1 => ?_, fun k1 o1 h1 => ?_, fun k1 o1 h1 => ?_, g.out, Nat.le_trans g.size hsz, gw_keep g.glob (Nat.le_refl _) fun b hb' => hb b fun e => by have := g.base k o' hk; omega⟩
 · by_cases e1 : k1 = (site, E.cnt site) <;> by_cases e2 : k2 = (site, E.cnt site)
   · rw [e1, e2]
   · obtain ⟨h4, h5⟩ := live k2 o2 h2 e2
     simp only [reuseEnv] at h3
     rw [if_pos e1, if_neg e2] at h3
     exact absurd (g.inj _ _ _ _ hk h5 h3).symm h4
   · obtain ⟨h4, h5⟩ := live k1 o1 h1 e1
     simp only [reuseEnv] at h3
     rw [if_neg e1, if_pos e2] at h3
     exact absurd (g.inj _ _ _ _ h5 hk h3) h4
   · simp only [reuseEnv] at h3
     rw [if_neg e1, if_neg e2] at h3
     exact g.inj _ _ _ _ (live k1 o1 h1 e1).2 (live k2 o2 h2 e2).2 h3
 · by_cases e1 : k1 = (site, E.cnt site)
   · subst e1; simp [reuseEnv, Env.known]
   · exact (reuseEnv_le g hk hsz hb).known (g.known _ _ (live k1 o1 h1 e1).2)
 · by_cases e1 : k1 = (site, E.cnt site)
   · simp only [reuseEnv]; rw [if_pos e1]; exact g.base _ _ hk
   · simp only [reuseEnv]; rw [if_neg e1]; exact g.base _ _ (live k1 o1 h1 e1).2
 · by_cases e1 : k1 = (site, E.cnt site)
   · subst e1
     simp only [reuseEnv, if_true] at h1; cases h1; exact ho
   · obtain ⟨h4, h5⟩ := live k1 o1 h1 e1
     refine ObjOK.le (reuseEnv_le g hk hsz hb) (by simp [reuseEnv, e1]) (by simp [reuseEnv, e1]) (hb _ fun he => h4 (g.inj _ _ _ _ h5 hk he)) (g.obj _ _ h5)

theorem OpOK.reuse (g : Good E) {site : Nat} {run : Result Next} {e : Eff} {k : Key} {cp : Nat × Nat} {o o' : PObj} {w' : World} {v : Value} (hk : E.h k = some o')
   (hrun : run = .ok (.value v) w') (hsz : E.w.heap.size ≤ w'.heap.size) (hb : ∀ b, b ≠ E.blk k → w'.heap[b]? = E.w.heap[b]?) (h1 : w'.os = E.w.os) (h2 : w'.tape = E.w.tape) (h3 : w'.output = E.w.output)
   (hwr : e.wr = [(k, none), ((site, E.cnt site), some o)]) (hbump : e.bump = true) (ho : ObjOK (reuseEnv E site k cp o w') (site, E.cnt site) o) (hv : Rep (reuseEnv E site k cp o w') v e.v) : OpOK P E site run e := by
 refine ⟨v, w', (reuseEnv E site k cp o w').blk, (reuseEnv E site k cp o w').cap, .inl hrun, ?_⟩
 have he : ({ E with w := w', h := applyWr E.h e.wr, cnt := bumpC E.cnt site e.bump, blk := (reuseEnv E site k cp o w').blk, cap := (reuseEnv E site k cp o w').cap } : Env) = reuseEnv E site k cp o w' := by
   rw [hwr, hbump]; rfl
 rw [he]
 exact ⟨reuseEnv_good g hk hsz hb ho, reuseEnv_le g hk hsz hb, below_set g hk hsz hb h1 h2 h3, hv⟩

/-- A new object, another one being given up. -/
theorem OpOK.newKill (g : Good E) {site : Nat} {run : Result Next} {e : Eff} {k : Key} {o : PObj} {w' : World} {c : Nat} {obj : Obj} {v : Value}
   (hrun : run = .ok (.value v) w') (hh : w'.heap = E.w.heap.push obj) (h1 : w'.os = E.w.os) (h2 : w'.tape = E.w.tape) (h3 : w'.output = E.w.output)
   (hwr : e.wr = [(k, none), ((site, E.cnt site), some o)]) (hbump : e.bump = true) (ho : ObjOK (newEnv (killEnv E k) site o w' c) (site, E.cnt site) o) (hv : Rep (newEnv (killEnv E k) site o w' c) v e.v) : OpOK P E site run e := by
 refine ⟨v, w', (newEnv (killEnv E k) site o w' c).blk, (newEnv (killEnv E k) site o w' c).cap, .inl hrun, ?_⟩
 have he : ({ E with w := w', h := applyWr E.h e.wr, cnt := bumpC E.cnt site e.bump, blk := (newEnv (killEnv E k) site o w' c).blk, cap := (newEnv (killEnv E k) site o w' c).cap } : Env) = newEnv (killEnv E k) site o w' c := by
   rw [hwr, hbump]; rfl
 rw [he]
 exact ⟨newEnv_good (killEnv_good g k) hh ho, (killEnv_le k).trans (newEnv_le (killEnv_good g k) hh) g.known, below_push g hh h1 h2 h3, hv⟩

theorem mul_bound {n by_ : Nat} (h1 : n < 2 ^ 32) (h2 : by_ < 2 ^ 15) : n * by_ ≤ 140737488355328 := by
 have := Nat.mul_le_mul (Nat.le_of_lt h1) (Nat.le_of_lt h2)
 have e : (2 : Nat) ^ 32 * 2 ^ 15 = 140737488355328 := by decide
 omega

/-- The cells of a grown slice. -/
theorem grown_get {old news rest : List Value} {rs rx : Rows} {sz : Nat} (h1 : old.length = rs.length * sz)
   (ho : ∀ (i j : Nat) (row : List PV) (p : PV), rs[i]? = some row → row[j]? = some p → ∃ v, old[i * sz + j]? = some v ∧ Rep E v p) (hwo : ∀ row ∈ rs, row.length = sz)
   (hn : ∀ (i j : Nat) (row : List PV) (p : PV), rx[i]? = some row → row[j]? = some p → ∃ v, news[i * sz + j]? = some v ∧ Rep E v p) (hwn : ∀ row ∈ rx, row.length = sz) (hnl : news.length = rx.length * sz)
   (i j : Nat) (row : List PV) (p : PV) (h2 : (rs ++ rx)[i]? = some row) (h3 : row[j]? = some p) : ∃ v, (old ++ news ++ rest)[i * sz + j]? = some v ∧ Rep E v p := by
 by_cases hi : i < rs.length
 · rw [List.getElem?_append_left hi] at h2
   have hj : j < sz := by rw [← hwo row (List.mem_of_getElem? h2)]; exact (List.getElem?_eq_some_iff.1 h3).1
   have hlt := flat_lt hi hj
   obtain ⟨v, h4, h5⟩ := ho i j row p h2 h3
   exact ⟨v, by rw [List.append_assoc, List.getElem?_append_left (by omega)]; exact h4, h5⟩
 · rw [List.getElem?_append_right (by omega)] at h2
   have hi2 := (List.getElem?_eq_some_iff.1 h2).1
   have hj : j < sz := by rw [← hwn row (List.mem_of_getElem? h2)]; exact (List.getElem?_eq_some_iff.1 h3).1
   have hlt := flat_lt hi2 hj
   obtain ⟨v, h4, h5⟩ := hn _ j row p h2 h3
   refine ⟨v, ?_, h5⟩
   have hle : rs.length * sz ≤ i * sz := Nat.mul_le_mul_right _ (by omega)
   rw [Nat.sub_mul] at h4 hlt
   rw [List.append_assoc, List.getElem?_append_right (by omega), List.getElem?_append_left (by omega), ← h4]
   congr 1; omega

theorem zeroCells_size {z : Array Value} {n : Nat} : (Builtin.zeroCells z n).size = n * z.size := by simp [Builtin.zeroCells]

theorem zeroOk_spec {t : TypeId} (h : zeroOk P t = true) : ∃ z, zeroCellsOf P t = some z ∧ z.length = tySize P t := by
 unfold zeroOk at h
 split at h
 · exact ⟨_, by assumption, by simpa using h⟩
 · cases h

theorem ok_append (g : Good E) {site : Nat} {t t2 ty : TypeId} {ts : Array TypeId} {as : Array Value} {s x : Value} {p q : PV} {run : Result Next}
   (h1 : ts[0]? = some t) (h2 : ts[1]? = some t2) (h3 : as[0]? = some s) (h4 : as[1]? = some x) (hs : Rep E s p) (hx : Rep E x q)
   (hrun : run = ((Builtin.append_ ts ty as).run P E.w).andThen fun v w' => .ok (.value v) w')
   (hob : (appendEff P E.h (site, E.cnt site) t t2 p q).ob) : OpOK P E site run (appendEff P E.h (site, E.cnt site) t t2 p q) := by
 unfold appendEff at hob ⊢
 simp only at hob ⊢
 split at hob
 · cases hE : (srcRows E.h (tySize P (elemTy P t)) q).2.1.isEmpty with
   | true =>
     rw [hE] at hob
     simp only [cond_true] at hob ⊢
     obtain ⟨⟨ht1, ht2, ht3, ht4, ht5⟩, hsrc⟩ := hob
     obtain ⟨hu, hok⟩ := sliceOk_spec ht1
     have hpos := (tyOk_spec hok).2
     obtain ⟨d2, hu2⟩ := Option.isSome_iff_exists.1 ht5
     obtain ⟨z, hz, hzs⟩ := zeroOk_spec ht4
     obtain ⟨zv, i, hi, hzv, hzr, hzl⟩ := zero_rep (E := E) hz
     obtain ⟨S⟩ := src_ok (P := P) g hpos hx hsrc
     have hisz : i.size = tySize P (elemTy P t) := by simp [tySize, Program.cellsOf, hi]
     have hlen0 : (srcRows E.h (tySize P (elemTy P t)) q).2.1.length = 0 := by rw [List.isEmpty_iff.1 hE]; rfl
     cases hs with
     | nil =>
       rename_i a
       have hr := ap_room (P := P) (ty := ty) (w := E.w) (w' := E.w) (new := S.news.toArray) h1 h2 h3 h4 hu hu2 ht3 hi hisz S.len S.cells (by omega) (by
         have : S.news = [] := List.eq_nil_of_length_eq_zero (by rw [S.size, hlen0]; simp)
         rw [this]; cases a <;> rfl)
       rw [hlen0] at hr
       exact OpOK.pure g (v := .slice a 0 0) (by rw [hrun, hr]; rfl) .nil rfl rfl
   | false =>
   rw [hE] at hob
   simp only [cond_false] at hob ⊢
   obtain ⟨⟨ht1, ht2, ht3, ht4, ht5⟩, hsrc, hne, hbd⟩ := hob
   obtain ⟨hu, hok⟩ := sliceOk_spec ht1
   have hpos := (tyOk_spec hok).2
   obtain ⟨d2, hu2⟩ := Option.isSome_iff_exists.1 ht5
   obtain ⟨z, hz, hzs⟩ := zeroOk_spec ht4
   obtain ⟨zv, i, hi, hzv, hzr, hzl⟩ := zero_rep (E := E) hz
   obtain ⟨S⟩ := src_ok (P := P) g hpos hx hsrc
   have hisz : i.size = tySize P (elemTy P t) := by simp [tySize, Program.cellsOf, hi]
   have hiby : i.bytes = P.bytesOf (elemTy P t) := by simp [Program.bytesOf, hi]
   have hn0 : 0 < (srcRows E.h (tySize P (elemTy P t)) q).2.1.length := by
     rcases Nat.eq_zero_or_pos (srcRows E.h (tySize P (elemTy P t)) q).2.1.length with h | h
     · exact absurd (List.eq_nil_of_length_eq_zero h) hne
     · exact h
   cases hs with
   | nil =>
     rename_i a
     have hb := mul_bound hbd ht2
     have hr := ap_grow (P := P) (ty := ty) (w := E.w) h1 h2 h3 h4 hu hu2 ht3 hi hzv hisz (old := #[]) (fun w' _ => by cases a <;> simp [Builtin.firstCells, loadCells, loadCellsFrom]) S.len S.cells (by omega) (by omega) (growslice_fits (by omega) (by rw [hiby]; simpa using hb))
     have hge := grownCap_ge E.w (0 + (srcRows E.h (tySize P (elemTy P t)) q).2.1.length) 0 (elemTy P t)
     refine ok_newRef g (w' := E.w.drew.alloc _) (by rw [hrun, hr]; rfl) rfl rfl rfl rfl (by simp) rfl rfl (by simp) hge ?_ hpos S.width S.one ?_
     · simp only [Array.size_append, List.size_toArray, S.size, zeroCells_size, ← hzl, hzs, List.length_nil, Nat.zero_add, ← Nat.add_mul] at hge ⊢
       congr 1; omega
     · intro i j row p h5 h6
       obtain ⟨v, h7, h8⟩ := S.get i j row p h5 h6
       have hlt := (List.getElem?_eq_some_iff.1 h7).1
       refine ⟨v, ?_, h8⟩
       rw [Array.getElem?_append_left (by simpa using hlt)]
       simpa using h7
 · rename_i k sz off len
   split at hob
   · rename_i sz2 rs hk
     obtain ⟨⟨ht1, ht2, ht3, ht4, ht5⟩, hsrc, hsz, hlen, hbd⟩ := hob
     obtain ⟨hu, hok⟩ := sliceOk_spec ht1
     have hpos := (tyOk_spec hok).2
     obtain ⟨d2, hu2⟩ := Option.isSome_iff_exists.1 ht5
     obtain ⟨z, hz, hzs⟩ := zeroOk_spec ht4
     obtain ⟨zv, i, hi, hzv, hzr, hzl⟩ := zero_rep (E := E) hz
     obtain ⟨S⟩ := src_ok (P := P) g hpos hx hsrc
     have hisz : i.size = tySize P (elemTy P t) := by simp [tySize, Program.cellsOf, hi]
     have hiby : i.bytes = P.bytesOf (elemTy P t) := by simp [Program.bytesOf, hi]
     generalize (srcRows E.h (tySize P (elemTy P t)) q).2.1 = rx at *
     have hb := mul_bound hbd ht2
     have hkn := g.known _ _ hk
     have htk : ((rs.drop off).take len).length = len := by rw [List.length_take, List.length_drop]; omega
     -- what the object holds
     have hsz2 : sz2 = sz := by
       cases hs with
       | ref _ _ hl => obtain ⟨_, _, rs', hq⟩ := hl _ hk; cases hq; rfl
       | refE _ hl => obtain ⟨rs', hq⟩ := hl _ hk; cases hq; rfl
     subst hsz2
     have V := (View.of_obj (g.obj _ _ hk)).sub off len
     subst hsz
     have hwid : ∀ row ∈ ((rs.drop off).take len) ++ rx, row.length = tySize P (elemTy P t) := fun row hr => by
       rcases List.mem_append.1 hr with h | h
       · exact V.width row h
       · exact S.width row h
     have hone : ∀ row ∈ ((rs.drop off).take len) ++ rx, ∀ p ∈ row, p.cell = true := fun row hr => by
       rcases List.mem_append.1 hr with h | h
       · exact V.one row h
       · exact S.one row h
     have hlen2 : (((rs.drop off).take len) ++ rx).length = len + rx.length := by rw [List.length_append, htk]
     -- growing
     have grow : ∀ (base : Option Addr) (cap : Nat) (old : List Value), s = .slice base len cap → cap < len + rx.length → old.length = ((rs.drop off).take len).length * tySize P (elemTy P t) →
         (∀ w', w'.heap = E.w.heap → (Builtin.firstCells (tySize P (elemTy P t)) len (.slice base len cap)).run P w' = .ok old.toArray w') →
         (∀ (i j : Nat) (row : List PV) (p : PV), ((rs.drop off).take len)[i]? = some row → row[j]? = some p → ∃ v, old[i * tySize P (elemTy P t) + j]? = some v ∧ Rep E v p) →
         OpOK P E site run { ob := (sliceOk P t = true ∧ P.bytesOf (elemTy P t) < 2 ^ 15 ∧ intKind P t2 = none ∧ zeroOk P (elemTy P t) = true ∧ (P.underlying t2).isSome = true) ∧ (srcRows E.h (tySize P (elemTy P t)) q).1 ∧ tySize P (elemTy P t) = tySize P (elemTy P t) ∧ off + len ≤ rs.length ∧ len + rx.length < 2 ^ 32, v := .ref (site, E.cnt site) (tySize P (elemTy P t)) 0 (len + rx.length), wr := [(k, none), ((site, E.cnt site), some (.rows (tySize P (elemTy P t)) (((rs.drop off).take len) ++ rx)))], rd := k :: (srcRows E.h (tySize P (elemTy P t)) q).2.2, bump := true } := fun base cap old hse hcap hol hold hog => by
       subst hse
       have hr := ap_grow (P := P) (ty := ty) (w := E.w) h1 h2 h3 h4 hu hu2 ht3 hi hzv hisz hold S.len S.cells hcap (by omega) (growslice_fits hcap (by rw [hiby]; exact hb))
       have hge := grownCap_ge E.w (len + rx.length) cap (elemTy P t)
       refine OpOK.newKill g (k := k) (o := .rows (tySize P (elemTy P t)) (((rs.drop off).take len) ++ rx)) (w' := E.w.drew.alloc _) (c := grownCap E.w (len + rx.length) cap (elemTy P t)) (by rw [hrun, hr]; rfl) rfl rfl rfl rfl rfl rfl ?_ (rep_new_ref (E := killEnv E k) hge)
       refine objOK_new (E := killEnv E k) (cells := old.toArray ++ S.news.toArray ++ Builtin.zeroCells zv.cells (grownCap E.w (len + rx.length) cap (elemTy P t) - (len + rx.length))) (T := elemTy P t) rfl ?_ (by rw [hlen2]; exact hge) hpos hwid hone ?_
       · simp only [Array.size_append, List.size_toArray, S.size, hol, htk, zeroCells_size, ← hzl, hzs, ← Nat.add_mul]
         congr 1; omega
       · intro i j row p h5 h6
         obtain ⟨v, h7, h8⟩ := grown_get (rest := (Builtin.zeroCells zv.cells (grownCap E.w (len + rx.length) cap (elemTy P t) - (len + rx.length))).toList) hol hog V.width S.get S.width S.size i j row p h5 h6
         refine ⟨v, ?_, (h8.le (killEnv_le k)).le (newEnv_le (killEnv_good g k) rfl)⟩
         rw [← h7, ← Array.getElem?_toList]
         simp
     cases hs with
     | refE hk1 hl =>
       rename_i a
       by_cases hn : rx.length = 0
       · have hrx : rx = [] := List.eq_nil_of_length_eq_zero hn
         subst hrx
         have hr := ap_room (P := P) (ty := ty) (w := E.w) (w' := E.w) (new := S.news.toArray) h1 h2 h3 h4 hu hu2 ht3 hi hisz S.len S.cells (by simp) (by
           have : S.news = [] := List.eq_nil_of_length_eq_zero (by rw [S.size]; simp)
           rw [this]; cases a <;> rfl)
         obtain ⟨c, T, h5, h6, h7, h8, h9, h10, h11⟩ := g.obj _ _ hk
         refine OpOK.reuse g (k := k) (cp := E.cap k) (o := .rows (tySize P (elemTy P t)) ((rs.drop off).take 0 ++ [])) (w' := E.w) hk (by rw [hrun, hr]; rfl) (Nat.le_refl _) (fun _ _ => rfl) rfl rfl rfl rfl rfl ?_ ?_
         · exact ⟨c, T, by simpa [reuseEnv] using h5, by simpa [reuseEnv] using h6, by simp, h8, by simp, by simp, by simp⟩
         · refine .refE (by simp [reuseEnv, Env.known]) fun o ho => ?_
           simp [reuseEnv] at ho
           exact ⟨_, ho.symm⟩
       · exact grow a 0 [] rfl (by omega) (by simp) (fun w' _ => by cases a <;> simp [Builtin.firstCells, loadCells, loadCellsFrom]) (by simp)
     | ref hk1 hlc hl =>
       rename_i b ad c
       obtain ⟨⟨hbk, hak⟩, hcap, rs', hq⟩ := hl _ hk
       cases hq
       subst hbk; subst hak
       obtain ⟨B0, hB0⟩ : ∃ B0, (E.cap k).2 + off * tySize P (elemTy P t) = B0 := ⟨_, rfl⟩
       rw [hB0] at V
       obtain ⟨cur, T, h5, h6, h7, h8, h9, h10, h11⟩ := g.obj _ _ hk
       by_cases hroom : len + rx.length ≤ c
       · have hmul : off * tySize P (elemTy P t) + (len * tySize P (elemTy P t) + rx.length * tySize P (elemTy P t)) ≤ (E.cap k).1 * tySize P (elemTy P t) := by
           rw [← Nat.add_mul, ← Nat.add_mul]; exact Nat.mul_le_mul_right _ (by omega)
         have hsub : off * tySize P (elemTy P t) + ((E.cap k).1 - off) * tySize P (elemTy P t) = (E.cap k).1 * tySize P (elemTy P t) := by
           rw [← Nat.add_mul]; congr 1; omega
         have hfit : B0 + len * tySize P (elemTy P t) + S.news.length ≤ cur.size := by
           rw [S.size, h6]; omega
         have hnone : ∀ u ∈ S.news, u.oneCell' = true := fun u hu => by
           obtain ⟨x, hx, rfl⟩ := List.mem_iff_getElem.1 hu
           rw [S.size] at hx
           have hxi : x / tySize P (elemTy P t) < rx.length := Nat.div_lt_of_lt_mul (by rw [Nat.mul_comm]; exact hx)
           have hxj : x % tySize P (elemTy P t) < tySize P (elemTy P t) := Nat.mod_lt _ (by omega)
           have hrow := getElem?_row hxi
           have hrl := S.width _ (List.mem_of_getElem? hrow)
           obtain ⟨v, h12, h13⟩ := S.get _ _ _ _ hrow (List.getElem?_eq_getElem (show x % tySize P (elemTy P t) < (rx.getD (x / tySize P (elemTy P t)) []).length by omega))
           have : x / tySize P (elemTy P t) * tySize P (elemTy P t) + x % tySize P (elemTy P t) = x := by have := Nat.div_add_mod x (tySize P (elemTy P t)); rw [Nat.mul_comm] at this; omega
           rw [this] at h12
           have hx' : S.news[x] = v := by
             have := (List.getElem?_eq_some_iff.1 h12).2; exact this
           rw [hx']
           exact Rep.one h13 (S.one _ (List.mem_of_getElem? hrow) _ (List.getElem_mem _))
         have hst := run_storeCells_at P (E.blk k) (B0 + len * tySize P (elemTy P t)) T S.news 0 cur E.w h5 (by simpa using hfit) hnone
         simp only [Nat.add_zero] at hst
         let cells' := (cur.toList.take (B0 + len * tySize P (elemTy P t)) ++ S.news ++ cur.toList.drop (B0 + len * tySize P (elemTy P t) + S.news.length)).toArray
         have hr := ap_room (P := P) (ty := ty) (w := E.w) (w' := E.w.setRow (E.blk k) cells') (new := S.news.toArray) h1 h2 h3 h4 hu hu2 ht3 hi hisz S.len S.cells hroom (by
           rw [hB0]
           simp only [Addr.add_at]
           exact hst)
         have hbo : ∀ b, b ≠ E.blk k → (E.w.setRow (E.blk k) cells').heap[b]? = E.w.heap[b]? := fun b hb => setRow_other E.w _ b _ hb
         have hszw : E.w.heap.size ≤ (E.w.setRow (E.blk k) cells').heap.size := by simp
         have hle := reuseEnv_le (site := site) (cp := ((E.cap k).1 - off, B0)) (o := .rows (tySize P (elemTy P t)) (((rs.drop off).take len) ++ rx)) g hk hszw hbo
         refine OpOK.reuse g (k := k) (cp := ((E.cap k).1 - off, B0)) (o := .rows (tySize P (elemTy P t)) (((rs.drop off).take len) ++ rx)) (w' := E.w.setRow (E.blk k) cells') hk (by rw [hrun, hr]; rfl) hszw hbo rfl rfl rfl rfl rfl ?_ ?_
         · refine ⟨cells', T, by simpa [reuseEnv] using setRow_heap E.w _ cur cells' T (0, 0) h5, ?_, ?_, h8, hwid, hone, ?_⟩
           · simp only [reuseEnv, if_true, cells', List.size_toArray, List.length_append, List.length_take, List.length_drop, Array.length_toList]
             omega
           · rw [hlen2]; simp only [reuseEnv, if_true]; omega
           · intro i j row p h12 h13
             obtain ⟨v, h14, h15⟩ := grown_get (E := E) (old := (cur.toList.drop B0).take (len * tySize P (elemTy P t))) (news := S.news) (rest := cur.toList.drop (B0 + len * tySize P (elemTy P t) + S.news.length)) (rs := ((rs.drop off).take len)) (rx := rx) (by rw [List.length_take, List.length_drop, htk, Array.length_toList]; omega)
               (fun i j row p h16 h17 => by
                 rw [List.getElem?_take] at h16
                 split at h16
                 · rename_i hi
                   rw [List.getElem?_drop] at h16
                   obtain ⟨v, h18, h19⟩ := h11 (off + i) j row p h16 h17
                   have hj : j < tySize P (elemTy P t) := by rw [← h9 row (List.mem_of_getElem? h16)]; exact (List.getElem?_eq_some_iff.1 h17).1
                   have hlt := flat_lt hi hj
                   refine ⟨v, ?_, h19⟩
                   rw [List.getElem?_take, if_pos hlt, List.getElem?_drop]
                   rw [Nat.add_mul] at h18
                   rw [Array.getElem?_toList, ← h18]
                   congr 1
                   omega
                 · cases h16) V.width S.get S.width S.size i j row p h12 h13
             refine ⟨v, ?_, h15.le hle⟩
             have hB : B0 ≤ cur.size := by omega
             simp only [reuseEnv, if_true, cells']
             generalize cur.toList.drop (B0 + len * tySize P (elemTy P t) + S.news.length) = rst at h14 ⊢
             rw [List.getElem?_toArray, List.take_add, List.append_assoc, List.append_assoc, List.getElem?_append_right (by rw [List.length_take, Array.length_toList]; omega), List.length_take, Array.length_toList, Nat.min_eq_left hB, show B0 + i * tySize P (elemTy P t) + j - B0 = i * tySize P (elemTy P t) + j by omega, ← List.append_assoc]
             exact h14
         · have := Rep.ref (E := reuseEnv E site k ((E.cap k).1 - off, B0) (.rows (tySize P (elemTy P t)) (((rs.drop off).take len) ++ rx)) (E.w.setRow (E.blk k) cells')) (b := E.blk k) (a := B0) (k := (site, E.cnt site)) (sz := tySize P (elemTy P t)) (off := 0) (len := len + rx.length) (c := c) (by simp [reuseEnv, Env.known]) hroom (fun o ho => by
             simp [reuseEnv] at ho ⊢
             exact ⟨by omega, _, ho.symm⟩)
           rw [hB0]
           exact this
       · subst hB0
         obtain ⟨S0⟩ : Nonempty (Src P E (tySize P (elemTy P t)) (.slice (some ⟨E.blk k, (E.cap k).2 + off * tySize P (elemTy P t), none⟩) len c) ((rs.drop off).take len)) := by
           have := Src.of_view (P := P) (c := c) V hpos
           rw [htk] at this
           exact ⟨by simpa using this⟩
         have hcells := S0.cells
         rw [htk] at hcells
         exact grow _ c S0.news rfl (by omega) S0.size hcells S0.get
   · exact hob.elim
 · exact hob.elim

end
end Go.Pv
