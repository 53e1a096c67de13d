import Derived.Test.YtnbcmoaofmkjhaaGreatDoorPvGc
import Derived.ProofKit
import Derived.OpenShut
import Derived.ChangeArms
import Derived.ChangeOld
import Derived.DataReads
import Derived.Carry
import Derived.RowKit
import Derived.WideShapes
set_option linter.unusedSimpArgs false
set_option linter.unusedVariables false
namespace Go.Pv
open Go Go.RowKit
section
variable (P : Program)
def zFK (g : TypeId → Option (List TypeId)) : Nat → List Field → Option (List TypeId)
 | _, [] => some []
 | off, f :: fs => match g f.type with
   | some l => if f.offset = off ∧ l.length = P.cellsOf f.type then (zFK g (off + l.length) fs).map (l ++ ·) else none
   | none => none
def zDF : Nat → TypeId → Option (List TypeId)
 | 0, _ => none
 | n + 1, t => match P.underlying t with
   | some .bool | some (.int _) | some .string | some (.slice _) => some [t]
   | some (.struct fs) => match zFK P (zDF n) 0 fs.toList with
     | some l => if l.length = P.cellsOf t then some l else none
     | none => none
   | some (.array m e) => match zDF n e with
     | some l => if l.length = P.cellsOf e ∧ m * l.length = P.cellsOf t then some ((List.replicate m l).flatten) else none
     | none => none
   | _ => none
def okTy : Nat → TypeId → Bool
 | 0, _ => false
 | n + 1, t => match P.underlying t with
   | some .bool | some (.int _) | some .string => true
   | some (.slice e) => match zDF P 9 e with
     | some tys => decide (1 ≤ P.cellsOf e ∧ tys.length = P.cellsOf e) && tys.all (okTy n)
     | none => false
   | _ => false
inductive CellP : TypeId → PV → Prop where
 | bool {t : TypeId} (b : Bool) (ht : P.underlying t = some .bool) : CellP t (.sc (.bool b))
 | int {t : TypeId} (k : IntKind) (z : Int) (ht : P.underlying t = some (.int k)) (hw : (Lit.int k z).wf = true) : CellP t (.sc (.int k z))
 | str {t : TypeId} (s : ByteArray) (ht : P.underlying t = some .string) (hs : s.size ≤ maxLen) : CellP t (.sc (.string s))
 | slice {t e : TypeId} {tys : List TypeId} (rows : Rows) (ht : P.underlying t = some (.slice e)) (he : zDF P 9 e = some tys) (hm : rows.length ≤ maxLen) (hl : ∀ row ∈ rows, row.length = tys.length)
     (h : ∀ row ∈ rows, ∀ (i : Nat) (ty : TypeId) (q : PV), tys[i]? = some ty → row[i]? = some q → CellP ty q) : CellP t (.lit true (P.cellsOf e) rows)
end
section
variable {H : Type} {enc : TypeId × Value → H} {P : Program} {w : World} {base : Nat} {spare : Nat → Bool} {held : Bool}
theorem zE5 {g : TypeId → Option (List TypeId)} : ∀ {fs : List Field} {off : Nat} {tys : List TypeId}, zFK P g off fs = some tys →
   ∀ (i : Nat) (ty : TypeId), tys[i]? = some ty → ∃ f ∈ fs, ∃ l, g f.type = some l ∧ l.length = P.cellsOf f.type ∧ f.offset ≤ off + i ∧ off + i < f.offset + l.length ∧ l[off + i - f.offset]? = some ty
 | [], off, tys, h, i, ty, hi => by simp [zFK] at h; subst h; simp at hi
 | f :: fs, off, tys, h, i, ty, hi => by
   simp only [zFK] at h;split at h
   · rename_i l hl;split at h
     · rename_i hc;rw [Option.map_eq_some_iff] at h;obtain ⟨r, hr, rfl⟩ := h;rw [List.getElem?_append] at hi;split at hi
       · rename_i hlt;refine ⟨f, by simp, l, hl, hc.2, by omega, by omega, ?_⟩;rw [hc.1]; simpa using hi
       · rename_i hge;obtain ⟨f', h1, l', h2, h3, h4, h5, h6⟩ := zE5 hr (i - l.length) ty hi;refine ⟨f', by simp [h1], l', h2, h3, by omega, by omega, ?_⟩;have : off + l.length + (i - l.length) - f'.offset = off + i - f'.offset := by omega
         rw [← this]; exact h6
     · cases h
   · cases h
theorem zG6 : ∀ (n fuel : Nat) (t : TypeId) (cs : List Value) (x : DataW H × List MemPlace) (tys : List TypeId), zDF P n t = some tys → DataW.trod enc P w base spare held fuel t cs = some x →
   cs.length = tys.length ∧ ∀ (i : Nat) (ty : TypeId) (c : Value), tys[i]? = some ty → cs[i]? = some c → ∃ fuel' x', fuel' ≤ fuel ∧ DataW.trod enc P w base spare held fuel' ty [c] = some x' := by
 intro n;induction n with
 | zero => intro fuel t cs x tys h; cases h
 | succ n ih =>
   intro fuel t cs x tys h hx
   have one : ∀ c0, cs = [c0] → tys = [t] → cs.length = tys.length ∧ ∀ (i : Nat) (ty : TypeId) (c : Value), tys[i]? = some ty → cs[i]? = some c → ∃ fuel' x', fuel' ≤ fuel ∧ DataW.trod enc P w base spare held fuel' ty [c] = some x' := by
     rintro c0 rfl rfl
     refine ⟨rfl, fun i ty c h1 h2 => ?_⟩;cases i with
     | zero => simp at h1 h2; subst h1; subst h2; exact ⟨fuel, x, Nat.le_refl _, hx⟩
     | succ i => simp at h1
   unfold zDF at h;split at h
   · rename_i ht; cases h;obtain ⟨b, rfl, _⟩ := DataW.trod_bool ht hx;exact one _ rfl rfl
   · rename_i ht; cases h;obtain ⟨b, rfl, _⟩ := DataW.trod_int ht hx;exact one _ rfl rfl
   · rename_i ht; cases h;obtain ⟨b, rfl, _⟩ := DataW.trod_string ht hx;exact one _ rfl rfl
   · rename_i ht; cases h;rcases DataW.trod_slice ht hx with ⟨rfl, _⟩ | ⟨a, len, cap, elems, rest, n', _, rfl, _⟩
     · exact one _ rfl rfl
     · exact one _ rfl rfl
   · rename_i fs ht;split at h
     · rename_i l hl;split at h
       · rename_i hlen;cases h;obtain ⟨xs, m, rfl, _, h1, h2, h3⟩ := DataW.trod_struct ht hx;refine ⟨by omega, fun i ty c hty hc => ?_⟩;obtain ⟨f, hf, l', h4, h5, h6, h7, h8⟩ := zE5 hl i ty hty;obtain ⟨j, hj⟩ := List.mem_iff_getElem?.1 hf;have hj' : fs[j]? = some f := by simpa using hj
         have hjx : j < xs.length := by rw [h2]; exact (Array.getElem?_eq_some_iff.1 hj').1
         have h9 := h3 j f hj';rw [List.getElem?_eq_getElem hjx] at h9;obtain ⟨_, h10⟩ := ih m f.type _ _ l' h4 h9
         obtain ⟨fuel', x', h11, h12⟩ := h10 (0 + i - f.offset) ty c h8 (by
           rw [List.getElem?_take_of_lt (by omega), List.getElem?_drop, ← hc]; congr 1; omega)
         exact ⟨fuel', x', by omega, h12⟩
       · cases h
     · cases h
   · rename_i m e ht;split at h
     · rename_i l hl;split at h
       · rename_i hlen;cases h;obtain ⟨xs, m', rfl, _, h1, h2, h3⟩ := DataW.trod_array ht hx;have hlf : ((List.replicate m l).flatten).length = m * l.length := by simp
         refine ⟨by rw [hlf]; omega, fun i ty c hty hc => ?_⟩;have hi : i < m * l.length := by rw [← hlf]; exact (List.getElem?_eq_some_iff.1 hty).1
         have hpos : 0 < l.length := by
           rcases Nat.eq_zero_or_pos l.length with h | h
           · rw [h] at hi; omega
           · exact h
         have hq : i / l.length < m := (Nat.div_lt_iff_lt_mul hpos).2 hi;have h9 := h3 (i / l.length) hq;rw [List.getElem?_eq_getElem (by omega)] at h9;obtain ⟨_, h10⟩ := ih m' e _ _ l hl h9;have hmod : i % l.length < l.length := Nat.mod_lt _ hpos;have hdm : i / l.length * l.length + i % l.length = i := Nat.div_add_mod' i l.length
         have hty' : l[i % l.length]? = some ty := by
           rw [← hty]
           have : ∀ (m i : Nat), i < m * l.length → ((List.replicate m l).flatten)[i]? = l[i % l.length]? := by
             intro m;induction m with
             | zero => intro i hi; omega
             | succ m ihm =>
               intro i hi;rw [List.replicate_succ, List.flatten_cons, List.getElem?_append];split
               · rename_i hlt; rw [Nat.mod_eq_of_lt hlt]
               · rename_i hge;rw [ihm _ (by rw [Nat.succ_mul] at hi; omega)];congr 1;rw [Nat.mod_eq_sub_mod (by omega : i ≥ l.length)]
           exact (this m i hi).symm
         obtain ⟨fuel', x', h11, h12⟩ := h10 (i % l.length) ty c hty' (by
           rw [List.getElem?_take_of_lt (by rw [← hlen.1]; exact hmod), List.getElem?_drop, ← hc, ← hlen.1, hdm])
         exact ⟨fuel', x', by omega, h12⟩
       · cases h
     · cases h
   · cases h
theorem add_add (a : Addr) (x y : Nat) : (a.add x).add y = a.add (x + y) := by
 unfold Addr.add;by_cases hx : x = 0 <;> by_cases hy : y = 0 <;> simp [hx, hy, Nat.add_assoc]
theorem add_none (b off k : Nat) : (⟨b, off, none⟩ : Addr).add k = ⟨b, off + k, none⟩ := by
 unfold Addr.add;by_cases hk : k = 0 <;> simp [hk]
theorem zLo {w : World} {a : Addr} {v : Value} (h : w.cell? a = some v) : a.block < w.heap.size := by
 unfold World.cell? at h;split at h
 · rename_i hb; exact (Array.getElem?_eq_some_iff.1 hb).1
 · cases h
theorem CellP.pure {t : TypeId} {q : PV} (h : CellP P t q) : Pure q ∧ q.cell = true := by
 induction h with
 | bool => exact ⟨.sc _, rfl⟩
 | int => exact ⟨.sc _, rfl⟩
 | str => exact ⟨.sc _, rfl⟩
 | slice rows ht he hm hl h ih =>
   refine ⟨.lit _ _ _ fun row hr p hp => ?_, rfl⟩;obtain ⟨i, hi⟩ := List.mem_iff_getElem?.1 hp;have hlt : i < row.length := (List.getElem?_eq_some_iff.1 hi).1;have hw := hl row hr;exact (ih row hr i _ p (List.getElem?_eq_getElem (by omega)) hi).1
theorem zKd : ∀ (fuel n : Nat) (t : TypeId) (c : Value) (x : DataW H × List MemPlace), okTy P n t = true → DataW.trod enc P w base spare held fuel t [c] = some x →
   ∃ q, Rep (zA5 w (fun _ => False) true) c q ∧ CellP P t q := by
 intro fuel;induction fuel using Nat.strongRecOn with
 | _ fuel ih =>
   intro n t c x hok hx;cases n with
   | zero => cases hok
   | succ n =>
     unfold okTy at hok;split at hok
     · rename_i ht;obtain ⟨b, hb, _⟩ := DataW.trod_bool ht hx;cases hb;exact ⟨_, .sc rfl, .bool _ ht⟩
     · rename_i ht;obtain ⟨z, hb, _, hw⟩ := DataW.trod_int ht hx;cases hb;exact ⟨_, .sc rfl, .int _ _ ht hw⟩
     · rename_i ht;obtain ⟨s, hb, _, hs⟩ := DataW.trod_string ht hx;cases hb;exact ⟨_, .sc rfl, .str _ ht hs⟩
     · rename_i e ht;split at hok
       · rename_i tys htys;simp only [Bool.and_eq_true, decide_eq_true_eq] at hok;obtain ⟨⟨hsz, hlen⟩, hall⟩ := hok;rcases DataW.trod_slice ht hx with ⟨hb, _⟩ | ⟨a, len, cap, elems, rest, m, rfl, hb, _, _, hlc, hcm, hel, hget, _, _⟩
         · cases hb;exact ⟨.lit true (P.cellsOf e) [], .litE, .slice _ ht htys (by simp) (by simp) (by simp)⟩
         · cases hb;rcases Nat.eq_zero_or_pos len with h0 | h0
           · subst h0;exact ⟨.lit true (P.cellsOf e) [], .litE, .slice _ ht htys (by simp) (by simp) (by simp)⟩
           · have each : ∀ i, i < len → ∃ (cs : List Value) (y : DataW H × List MemPlace), w.cells? base (a.add (i * P.cellsOf e)) (P.cellsOf e) = some cs ∧ DataW.trod enc P w base spare held m e cs = some y := fun i hi => by
               have := hget i hi;rw [List.getElem?_eq_getElem (by omega), Option.bind_eq_some_iff] at this;obtain ⟨cs, h1, h2⟩ := this;exact ⟨cs, _, h1, h2⟩
             have cellAt' : ∀ i j, i < len → j < P.cellsOf e → ∃ (c : Value) (q : PV) (ty : TypeId), w.cell? (a.add (i * P.cellsOf e + j)) = some c ∧ tys[j]? = some ty ∧ Rep (zA5 w (fun _ => False) true) c q ∧ CellP P ty q := fun i j hi hj => by
               obtain ⟨cs, y, h1, h2⟩ := each i hi;obtain ⟨_, h3, h4⟩ := World.cells?_some h1;obtain ⟨h5, h6⟩ := zG6 9 m e cs y tys htys h2;have hty : tys[j]? = some (tys[j]'(by omega)) := List.getElem?_eq_getElem (by omega);have hcs : cs[j]? = some (cs[j]'(by omega)) := List.getElem?_eq_getElem (by omega);obtain ⟨fuel', x', h7, h8⟩ := h6 j _ _ hty hcs;obtain ⟨q, h9, h10⟩ := ih fuel' (by omega) n _ _ x' (List.all_eq_true.1 hall _ (List.getElem_mem _)) h8;refine ⟨_, q, _, ?_, hty, h9, h10⟩;rw [← hcs, ← h4 j hj, add_add]
             obtain ⟨b, off, spot⟩ := a
             have hspot : spot = none := by
               obtain ⟨c, q, ty, h1, _⟩ := cellAt' 0 0 h0 hsz;have h2 := World.cell?_spot h1;simpa [Addr.add] using h2
             subst hspot
             have cell2 : ∀ i j, i < len → j < P.cellsOf e → ∃ (c : Value) (q : PV) (ty : TypeId), w.cell? ⟨b, off + i * P.cellsOf e + j, none⟩ = some c ∧ tys[j]? = some ty ∧ Rep (zA5 w (fun _ => False) true) c q ∧ CellP P ty q := fun i j hi hj => by
               obtain ⟨c, q, ty, h1, h2⟩ := cellAt' i j hi hj;refine ⟨c, q, ty, ?_, h2⟩;rw [← h1, add_none, Nat.add_assoc]
             let f : Nat → Nat → Value := fun i j => (w.cell? ⟨b, off + i * P.cellsOf e + j, none⟩).getD undef;let qf : Nat → Nat → PV := fun i j => if h : i < len ∧ j < P.cellsOf e then Classical.choose (Classical.choose_spec (cell2 i j h.1 h.2)) else .dead
             have hqf : ∀ i j, i < len → j < P.cellsOf e → ∃ ty, w.cell? ⟨b, off + i * P.cellsOf e + j, none⟩ = some (f i j) ∧ tys[j]? = some ty ∧ Rep (zA5 w (fun _ => False) true) (f i j) (qf i j) ∧ CellP P ty (qf i j) := fun i j hi hj => by
               have hs := Classical.choose_spec (Classical.choose_spec (cell2 i j hi hj));obtain ⟨ty, h1, h2, h3, h4⟩ := hs;have hf : f i j = Classical.choose (cell2 i j hi hj) := congrArg (fun o => Option.getD o undef) h1;have hq : qf i j = Classical.choose (Classical.choose_spec (cell2 i j hi hj)) := dif_pos ⟨hi, hj⟩;rw [hf, hq];exact ⟨ty, h1, h2, h3, h4⟩
             let rows : Rows := (List.range len).map fun i => (List.range (P.cellsOf e)).map fun j => qf i j
             have hrow : ∀ (i : Nat) (row : List PV), rows[i]? = some row → i < len ∧ row = (List.range (P.cellsOf e)).map fun j => qf i j := fun i row hi => by
               simp only [rows, List.getElem?_map, Option.map_eq_some_iff, List.getElem?_eq_some_iff] at hi;obtain ⟨k, ⟨hk, rfl⟩, rfl⟩ := hi;simp only [List.length_range] at hk;simp [hk]
             have hcell : ∀ (i j : Nat) (row : List PV) (p : PV), rows[i]? = some row → row[j]? = some p → i < len ∧ j < P.cellsOf e ∧ p = qf i j := fun i j row p hi hj => by
               obtain ⟨h1, rfl⟩ := hrow i row hi;simp only [List.getElem?_map, Option.map_eq_some_iff, List.getElem?_eq_some_iff] at hj;obtain ⟨k, ⟨hk, rfl⟩, rfl⟩ := hj;simp only [List.length_range] at hk;simp [h1, hk]
             have hlr : rows.length = len := by simp [rows]
             have hwid : ∀ row ∈ rows, row.length = P.cellsOf e := fun row hr => by
               obtain ⟨i, hi⟩ := List.mem_iff_getElem?.1 hr;obtain ⟨_, rfl⟩ := hrow i row hi;simp
             have hp : ∀ row ∈ rows, ∀ p ∈ row, Pure p ∧ p.cell = true := fun row hr p hp => by
               obtain ⟨i, hi⟩ := List.mem_iff_getElem?.1 hr;obtain ⟨j, hj⟩ := List.mem_iff_getElem?.1 hp;obtain ⟨h1, h2, rfl⟩ := hcell i j row p hi hj;obtain ⟨ty, _, _, _, h3⟩ := hqf i j h1 h2;exact h3.pure
             refine ⟨.lit true (P.cellsOf e) rows, ?_, .slice _ ht htys (by omega) (fun row hr => by rw [hwid row hr, hlen]) (fun row hr i ty q hty hq => ?_)⟩
             · have := Rep.lit (E := zA5 w (fun _ => False) true) (b := b) (off := off) (c := cap) (t := true) (sz := P.cellsOf e) (rows := rows) (f := f)
                 ⟨(fun ⟨k, o, h, _⟩ => by simp [zA5] at h), (fun h => by cases h), (fun _ => rfl), (by
                   obtain ⟨ty, h1, _⟩ := hqf 0 0 h0 hsz;show b < w.heap.size;exact zLo h1), hwid, (fun i j row p h1 h2 => by
                   obtain ⟨h3, h4, _⟩ := hcell i j row p h1 h2;obtain ⟨ty, h5, _⟩ := hqf i j h3 h4;exact h5), (fun row hr p h => (hp row hr p h).1), (fun row hr p h => (hp row hr p h).2)⟩ (by omega) (fun i j row p h1 h2 => by
                   obtain ⟨h3, h4, rfl⟩ := hcell i j row p h1 h2;obtain ⟨ty, _, _, h5, _⟩ := hqf i j h3 h4;exact h5)
               rw [hlr] at this;exact this
             · obtain ⟨k, hk⟩ := List.mem_iff_getElem?.1 hr;obtain ⟨h1, h2, rfl⟩ := hcell k i row q hk hq;obtain ⟨ty', _, h3, _, h4⟩ := hqf k i h1 h2;rw [hty] at h3; cases h3;exact h4
       · cases hok
     · cases hok
end
end Go.Pv
namespace Go.Pv
open Go Go.RowKit Go.ChangeShapes Go.WideShapes
section
variable {H : Type} {enc : TypeId × Value → H} {P : Program} {W W' : World}
def ArgP (P : Program) (t : TypeId) (q : PV) : Prop :=
 if tyAgg P t then ∃ cs tys, q = .agg cs ∧ zDF P 9 t = some tys ∧ cs.length = tys.length ∧ ∀ (i : Nat) (ty : TypeId) (p : PV), tys[i]? = some ty → cs[i]? = some p → CellP P ty p
 else CellP P t q
def okArg (P : Program) (t : TypeId) : Bool :=
 if tyAgg P t then match zDF P 9 t with | some tys => tys.all (okTy P 9) | none => false
 else okTy P 9 t
inductive ArgsP (P : Program) : List TypeId → List PV → Prop where
 | nil : ArgsP P [] []
 | cons {t : TypeId} {q : PV} {ts : List TypeId} {qs : List PV} (h : ArgP P t q) (hs : ArgsP P ts qs) : ArgsP P (t :: ts) (q :: qs)
theorem arg_rep {t : TypeId} {v : Value} {d : DataW H} {ps : List MemPlace} {base : Nat} (hok : okArg P t = true) (hv : Value.okWide P W .any base t v) (h : DataW.Trod enc P W 0 (fun _ => true) true t v d ps) :
   ∃ q, Rep (zA5 W (fun _ => False) true) v q ∧ ArgP P t q := by
 obtain ⟨fuel, hf⟩ := h;unfold okArg at hok;unfold ArgP;cases hg : tyAgg P t with
 | true =>
   rw [hg] at hok;simp only [if_true] at hok ⊢;split at hok
   · rename_i tys htys
     obtain ⟨cs, rfl⟩ : ∃ cs, v = .agg cs := by
       unfold tyAgg at hg;unfold Value.okWide at hv;split at hg
       · rename_i hu; rw [hu] at hv; obtain ⟨cs, h, _⟩ := hv; exact ⟨cs, h⟩
       · rename_i hu; rw [hu] at hv; obtain ⟨cs, h, _⟩ := hv; exact ⟨cs, h⟩
       · cases hg
     simp only [Value.cells] at hf;obtain ⟨h1, h2⟩ := zG6 9 fuel t cs.toList _ tys htys hf
     have each : ∀ i, i < cs.size → ∃ q ty, tys[i]? = some ty ∧ Rep (zA5 W (fun _ => False) true) (cs.getD i undef) q ∧ CellP P ty q := fun i hi => by
       have hty : tys[i]? = some (tys[i]'(by simp at h1; omega)) := List.getElem?_eq_getElem (by simp at h1; omega);have hc : cs.toList[i]? = some (cs.getD i undef) := by simp [hi]
       obtain ⟨fuel', x', _, h3⟩ := h2 i _ _ hty hc;obtain ⟨q, h4, h5⟩ := zKd fuel' 9 _ _ x' (List.all_eq_true.1 hok _ (List.getElem_mem _)) h3;exact ⟨q, _, hty, h4, h5⟩
     let qf : Nat → PV := fun i => if h : i < cs.size then Classical.choose (each i h) else .dead
     have hqf : ∀ i, i < cs.size → ∃ ty, tys[i]? = some ty ∧ Rep (zA5 W (fun _ => False) true) (cs.getD i undef) (qf i) ∧ CellP P ty (qf i) := fun i hi => by
       have := Classical.choose_spec (each i hi);have hq : qf i = Classical.choose (each i hi) := dif_pos hi;rw [hq]; exact this
     refine ⟨.agg ((List.range cs.size).map qf), .agg (by simp) (fun i u p h3 h4 => ?_), (List.range cs.size).map qf, tys, rfl, htys, by simp at h1 ⊢; exact h1, fun i ty p h3 h4 => ?_⟩
     · have hi : i < cs.size := (Array.getElem?_eq_some_iff.1 h3).1;obtain ⟨ty, _, h5, _⟩ := hqf i hi;have hu : cs.getD i undef = u := by simp [Array.getElem?_eq_some_iff] at h3; obtain ⟨h, rfl⟩ := h3; simp [h]
       have hp : p = qf i := by simp [hi] at h4; exact h4.symm
       rw [hp, ← hu]; exact h5
     · have hi : i < cs.size := by have := (List.getElem?_eq_some_iff.1 h4).1; simpa using this
       obtain ⟨ty', h5, _, h6⟩ := hqf i hi;have hp : p = qf i := by simp [hi] at h4; exact h4.symm
       rw [h3] at h5; cases h5;rw [hp]; exact h6
   · cases hok
 | false =>
   rw [hg] at hok;simp only [Bool.false_eq_true, if_false] at hok ⊢
   have hone : v.cells.toList = [v] := by
     unfold okTy at hok;split at hok
     · rename_i ht; obtain ⟨b, rfl⟩ := okWide_bool ht hv; rfl
     · rename_i ht; obtain ⟨b, rfl⟩ := okWide_int ht hv; rfl
     · rename_i ht; obtain ⟨b, rfl⟩ := okWide_string ht hv; rfl
     · rename_i ht; obtain ⟨a, l, c, rfl⟩ := okWide_slice ht hv; rfl
     · cases hok
   rw [hone] at hf;obtain ⟨q, h1, h2⟩ := zKd fuel 9 t v _ hok hf;exact ⟨q, h1, h2⟩
theorem zKh {base : Nat} : ∀ {ts : List TypeId} {vs : List Value} {ds : List (DataW H)} {ps : List MemPlace}, ts.all (okArg P) = true → (∀ (j : Nat) (t : TypeId) (v : Value), ts[j]? = some t → vs[j]? = some v → Value.okWide P W .any base t v) →
   DataW.TrodAll enc P W 0 (fun _ => true) true ts vs ds ps → ∃ qs, ArgsP P ts qs ∧ vs.length = qs.length ∧ ds.length = ts.length ∧ ∀ (i : Nat) (u : Value) (p : PV), vs[i]? = some u → qs[i]? = some p → Rep (zA5 W (fun _ => False) true) u p
 | [], [], [], _, _, _, _ => ⟨[], .nil, rfl, rfl, by simp⟩
 | t :: ts, v :: vs, d :: ds, ps, hok, hv, h => by
   obtain ⟨p, q, h1, h2, _⟩ := h;simp only [List.all_cons, Bool.and_eq_true] at hok;obtain ⟨x, h3, h4⟩ := arg_rep hok.1 (hv 0 t v rfl rfl) h1;obtain ⟨xs, h5, h6, h7, h8⟩ := zKh hok.2 (fun j t v h1 h2 => hv (j + 1) t v (by simpa using h1) (by simpa using h2)) h2;refine ⟨x :: xs, .cons h4 h5, by simp [h6], by simp [h7], fun i u p h9 h10 => ?_⟩;cases i with
   | zero => simp at h9 h10; subst h9; subst h10; exact h3
   | succ i => exact h8 i u p (by simpa using h9) (by simpa using h10)
 | [], [], _ :: _, _, _, _, h => h.elim
 | [], _ :: _, [], _, _, _, h => h.elim
 | [], _ :: _, _ :: _, _, _, _, h => h.elim
 | _ :: _, [], _, _, _, _, h => by cases ‹List (DataW H)› <;> exact h.elim
 | _ :: _, _ :: _, [], _, _, _, h => h.elim
theorem zEW (hl : laidOutB P = true) (hb : Below W.heap.size W W') : ∀ {ts : List TypeId} {vs : List Value} {ds : List (DataW H)} {ps : List MemPlace}, ts.all (fun t => P.readableRec t && decide (t < P.types.size)) = true →
   DataW.TrodAll enc P W 0 (fun _ => true) true ts vs ds ps → DataW.TrodAll enc P W' 0 (fun b => decide (b < W.heap.size)) true ts vs ds ps
 | [], [], [], _, _, h => h
 | t :: ts, v :: vs, d :: ds, ps, hok, h => by
   obtain ⟨p, q, h1, h2, h3⟩ := h;simp only [List.all_cons, Bool.and_eq_true, decide_eq_true_eq] at hok;refine ⟨p, q, Below.trod hl hok.1.1 hok.1.2 h1 hb (fun x hx => ?_), zEW hl hb hok.2 h2, h3⟩;obtain ⟨m, hm⟩ := h1;exact DataW.trod_lt m _ _ _ hm x hx
 | [], [], _ :: _, _, _, h => h.elim
 | [], _ :: _, [], _, _, h => h.elim
 | [], _ :: _, _ :: _, _, _, h => h.elim
 | _ :: _, [], _, _, _, h => by cases ‹List (DataW H)› <;> exact h.elim
 | _ :: _, _ :: _, [], _, _, h => h.elim
theorem law_stepG {fn : Func} {f : FuncId} {s : ChangeSpec} {ts : List TypeId} {tb : TypeId} {base : Nat} {args : Array Value} {ds gs : List (DataW H)} {before : List MemPlace}
   (hps : fn.params.toList = ts) (hrt : fn.resultTypes.toList = [tb]) (hn : fn.resultTypes.size = 1) (htb : P.underlying tb = some .bool) (hvars : s.vars = [])
   (hfn : ∀ ds : List (DataW H), ds.length = ts.length → s.fn H ds = { results := [.lit (.bool true)], args := ds })
   (hl : laidOutB P = true) (hrd : ts.all (fun t => P.readableRec t && decide (t < P.types.size)) = true) (hok : ts.all (okArg P) = true)
   (hlaw : ∀ qs, ArgsP P ts qs → PCalls P f qs (.bool true))
   (hval : ∀ (j : Nat) t v, fn.params[j]? = some t → args[j]? = some v → Value.okWide P W .any base t v) (hW : DataW.Whole enc P fn.params.toList s.vars false W args.toList ds gs before) (hgw : gw W W.heap.size) :
   Calls P f args W fun e W' => ∃ v, e = .returned v ∧ s.post enc P fn false true false false W args v W' := by
 have hW' := hW;obtain ⟨p, q, hA, hV, rfl, hfz, hnd⟩ := hW;rw [hvars] at hV;obtain ⟨rfl, rfl⟩ := trodVars_none hV;rw [hps] at hA;obtain ⟨qs, h1, h2, h3, h4⟩ := zKh (base := base) hok (fun j t v h5 h6 => hval j t v (by rw [← hps] at h5; simpa using h5) (by simpa using h6)) hA;have hc := hlaw qs h1;refine (hc.2.2 W (fun _ => False) args (fun _ h => h.elim) hgw (by simpa using h2) (fun i u p h5 h6 => h4 i u p (by simpa using h5) h6)).mono ?_
 rintro e W' ⟨u, rfl, hr, hb⟩
 have hu := hr.sc_inv;subst hu;refine ⟨_, rfl, ds, [], p ++ [], [], p, [], hW', ?_, ?_, ?_, hb.frame _, fun h => by cases h⟩
 · rw [hrt, hn, List.append_nil, hfn ds h3];exact trodAll_mk1 (shut_bool htb _)
 · rw [hps, List.append_nil, hfn ds h3];exact zEW hl hb hrd hA
 · rw [hvars, List.append_nil, hfn ds h3];rfl
end
end Go.Pv
