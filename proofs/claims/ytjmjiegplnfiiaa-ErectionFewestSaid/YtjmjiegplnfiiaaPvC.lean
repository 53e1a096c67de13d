/- One operation that is no call of a function: what the model's run gives is what the P level says. First part: operations that write nothing. -/
import Derived.Test.YtjmjiegplnfiiaaPvB
import Derived.Laws.Cover3
namespace Go.Pv
open Go Go.RowKit

def applyWr (h : Heap) (wr : List (Key × Option PObj)) : Heap := wr.foldl (fun h p => fun k => if k = p.1 then p.2 else h k) h
def bumpC (cnt : Nat → Nat) (site : Nat) (b : Bool) : Nat → Nat := if b then fun s => if s = site then cnt s + 1 else cnt s else cnt

/-- What is shown of an operation. -/
def OpOK (_P : Program) (E : Env) (site : Nat) (run : Result Next) (e : Eff) : Prop :=
 ∃ (v : Value) (w' : World) (blk : Key → Nat) (cap : Key → Nat × Nat),
   (run = .ok (.value v) w' ∨ (run = .ok .skip w' ∧ v = undef)) ∧
   Good { E with w := w', h := applyWr E.h e.wr, cnt := bumpC E.cnt site e.bump, blk := blk, cap := cap } ∧
   EnvLe E { E with w := w', h := applyWr E.h e.wr, cnt := bumpC E.cnt site e.bump, blk := blk, cap := cap } ∧
   Below E.B0 E.w w' ∧
   Rep { E with w := w', h := applyWr E.h e.wr, cnt := bumpC E.cnt site e.bump, blk := blk, cap := cap } v e.v

theorem OpOK.pure {P : Program} {E : Env} {site : Nat} {run : Result Next} {e : Eff} (g : Good E) {v : Value} (hr : run = .ok (.value v) E.w) (hv : Rep E v e.v) (h1 : e.wr = []) (h2 : e.bump = false) : OpOK P E site run e := by
 refine ⟨v, E.w, E.blk, E.cap, .inl hr, ?_, ?_, Below.refl _ _, ?_⟩
 all_goals (rw [h1, h2]; first | exact g | exact EnvLe.refl E | exact hv)

theorem Rep.int_inv {E : Env} {v : Value} {k : IntKind} {n : Int} (h : Rep E v (.sc (.int k n))) : v = .int k n := by cases h; rfl
theorem Rep.sc_inv {E : Env} {v x : Value} (h : Rep E v (.sc x)) : v = x := by cases h; rfl
section
variable {P : Program} {E : Env} {site : Nat}


theorem ok_intBin {op : BinOp} {t : TypeId} {k : IntKind} {a b : Int} (w : World) (hob : (intBin op k a b).ob) :
   ∃ x, (binOp op t (.int k a) (.int k b)).run P w = .ok x w ∧ isScalar x = true ∧ (intBin op k a b).v = .sc x := by
 cases op
 case shl => exact ⟨_, by simp only [binOp, Op.shift, if_neg (Int.not_lt.2 hob)]; rfl, rfl, rfl⟩
 case shr => exact ⟨_, by simp only [binOp, Op.shift, if_neg (Int.not_lt.2 hob)]; rfl, rfl, rfl⟩
 all_goals
   simp [intBin, Op.intArith, Op.intDiv, go_sem] at hob ⊢ <;> first | rfl | (simp [hob, isScalar]; done) | (simp [isScalar]; done)

theorem bytes_beq (a b : ByteArray) : (a.toList == b.toList) = decide (a = b) := by
 rw [Bool.eq_iff_iff]
 simp only [beq_iff_eq, decide_eq_true_eq]
 constructor
 · intro h
   rw [ByteArray.toList_eq, ByteArray.toList_eq] at h
   cases a; cases b; simp at h; subst h; rfl
 · intro h; rw [h]

theorem ok_strBin {op : BinOp} {t : TypeId} {a b : ByteArray} (w : World) (hob : (strBin op a b).ob) :
   ∃ x, (binOp op t (.string a) (.string b)).run P w = .ok x w ∧ isScalar x = true ∧ (strBin op a b).v = .sc x := by
 have hb := bytes_beq a b
 cases op <;> simp [strBin, Eff.bad] at hob ⊢ <;> simp [binOp, Op.stringOp, hb, isScalar]
 have : ¬ ((9223372036854775807 : Int) < (a.size : Int) + b.size) := by omega
 omega

theorem run_under {t : TypeId} {d : TypeDesc} (h : P.underlying t = some d) (w : World) : (underlying t).run P w = .ok d w := run_underlying h w

theorem binOp_shift {op : BinOp} (h : op = .shl ∨ op = .shr) (t : TypeId) (k k' : IntKind) (a b : Int) : binOp op t (.int k a) (.int k' b) = binOp op t (.int k a) (.int k b) := by
 rcases h with rfl | rfl <;> rfl

theorem isBoolTy_spec {t : TypeId} (h : isBoolTy P t = true) : P.underlying t = some .bool := by
 unfold isBoolTy at h; split at h <;> first | assumption | (cases h)
theorem isStringTy_spec {t : TypeId} (h : isStringTy P t = true) : P.underlying t = some .string := by
 unfold isStringTy at h; split at h <;> first | assumption | (cases h)
theorem isSliceTy_spec {t : TypeId} (h : isSliceTy P t = true) : P.underlying t = some (.slice (elemTy P t)) := by
 unfold isSliceTy at h; unfold elemTy; split at h <;> first | (rename_i e he; rw [he]) | (cases h)
theorem structOk_spec {t : TypeId} (h : structOk P t = true) : ∃ fs, P.underlying t = some (.struct fs) ∧ ∀ fd ∈ fs, tyOk P fd.type = true := by
 unfold structOk at h; split at h
 · exact ⟨_, by assumption, Array.all_eq_true_iff_forall_mem.1 h⟩
 · cases h
theorem tyOk_spec {t : TypeId} (h : tyOk P t = true) : (P.underlying t).isSome = true ∧ 1 ≤ tySize P t := by simpa [tyOk] using h
theorem sliceOk_spec {t : TypeId} (h : sliceOk P t = true) : P.underlying t = some (.slice (elemTy P t)) ∧ tyOk P (elemTy P t) = true := by
 simp only [sliceOk, Bool.and_eq_true] at h; exact ⟨isSliceTy_spec h.1, h.2⟩
theorem arrOk_spec {t : TypeId} {n : Nat} {e : TypeId} (h : arrOk P t = some (n, e)) : P.underlying t = some (.array n e) ∧ tyOk P e = true := by
 unfold arrOk at h; split at h
 · split at h
   · cases h; exact ⟨by assumption, by assumption⟩
   · cases h
 · cases h
theorem intKind_spec {t : TypeId} {k : IntKind} (h : intKind P t = some k) : P.underlying t = some (.int k) := by
 unfold intKind at h; split at h <;> first | (cases h; assumption) | (cases h)
theorem mapTy_spec {t : TypeId} {k e : TypeId} (h : mapTy P t = some (k, e)) : P.underlying t = some (.map k e) := by
 unfold mapTy at h; split at h <;> first | (cases h; assumption) | (cases h)

theorem run_equalIn_bool (d : Nat) {t : TypeId} (a b : Bool) (w : World) (h : P.underlying t = some .bool) : (Op.equalIn (d + 1) t (.bool a) (.bool b)).run P w = .ok (a == b) w := by
 simp [Op.equalIn, run_under h]
theorem run_equal_bool {t : TypeId} (a b : Bool) (w : World) (h : P.underlying t = some .bool) : (Op.equal t (.bool a) (.bool b)).run P w = .ok (a == b) w := run_equalIn_bool 9999 a b w h
theorem ok_eqBool {t : TypeId} {a b neg : Bool} (w : World) (h : isBoolTy P t = true) :
   (binOp (if neg then .neq else .eql) t (.bool a) (.bool b)).run P w = .ok (.bool (xor neg (a == b))) w := by
 have hu := run_equal_bool (P := P) a b w (isBoolTy_spec h)
 cases neg
 · show (binOp .eql t (.bool a) (.bool b)).run P w = _
   simp only [binOp]; simp [hu]
 · show (binOp .neq t (.bool a) (.bool b)).run P w = _
   simp only [binOp]; simp [hu]

theorem run_sizeOf {t : TypeId} {n : Nat} (h : tySize P t = n) (hn : n ≠ 0) (w : World) : (sizeOf t).run P w = .ok n w := by
 unfold tySize Program.cellsOf at h
 cases hq : P.info? t with
 | none => rw [hq] at h; simp at h; exact absurd h.symm hn
 | some i => rw [hq] at h; simp at h; simp [sizeOf, typeInfo, hq, h]

theorem run_isAgg {t : TypeId} (h : (P.underlying t).isSome = true) (w : World) : (isAgg t).run P w = .ok (tyAgg P t) w := by
 obtain ⟨d, hd⟩ := Option.isSome_iff_exists.1 h
 unfold isAgg tyAgg
 rw [Sem.run_bind, run_under hd, hd]
 cases d <;> rfl

theorem agg_get {vs : Array Value} {cs : List PV} (h : Rep E (.agg vs) (.agg cs)) {i : Nat} (hi : i < cs.length) : ∃ v, vs[i]? = some v ∧ Rep E v (cs.getD i .dead) := by
 cases h with
 | agg hl hp =>
   have h1 : i < vs.size := by omega
   exact ⟨vs[i], by simp [h1], hp i _ _ (by simp [h1]) (by rw [List.getD_eq_getElem?_getD, List.getElem?_eq_getElem hi]; rfl)⟩

theorem run_part {t : TypeId} {vs : Array Value} {cs : List PV} (hu : (P.underlying t).isSome = true) (h : Rep E (.agg vs) (.agg cs)) {o n : Nat} (hn : tySize P t = n) (h1 : 1 ≤ n) (ho : o + n ≤ cs.length) :
   ∃ v, (part t vs o).run P E.w = .ok v E.w ∧ Rep E v (partOf cs (o, n, tyAgg P t)) := by
 subst hn
 unfold part partOf
 rw [Sem.run_bind, run_isAgg hu, Result.andThen_ok]
 cases hq : tyAgg P t with
 | false =>
   obtain ⟨v, h2, h3⟩ := agg_get h (show o < cs.length by omega)
   exact ⟨v, by simp [h2], h3⟩
 | true =>
   have hs := run_sizeOf (P := P) (t := t) rfl (by omega) E.w
   refine ⟨.agg (vs.extract o (o + tySize P t)), by simp [hs], ?_⟩
   cases h with
   | agg hl hp =>
     refine .agg (by simp only [Array.size_extract, List.length_take, List.length_drop]; omega) fun i v p h2 h3 => ?_
     simp only [Array.getElem?_extract] at h2
     split at h2
     · simp only [List.getElem?_take] at h3
       split at h3
       · rw [List.getElem?_drop] at h3
         exact hp _ _ _ h2 h3
       · cases h3
     · cases h2

theorem eqFields_run {d m : Nat} {vs us : Array Value} {a b : List PV} (hx : Rep E (.agg vs) (.agg a)) (hy : Rep E (.agg us) (.agg b)) (hl : a.length = b.length)
   (ih : ∀ (t : TypeId) (x y : Value) (p q : PV), eqOk P d t p q = true → Rep E x p → Rep E y q → ∀ m, (Op.equalIn (d + m) t x y).run P E.w = .ok (eqV P d t p q) E.w) :
   ∀ fs : List Field, (fs.all fun f => f.name != "_" && (tyOk P f.type && (Nat.ble (f.offset + tySize P f.type) a.length && eqOk P d f.type (fieldPart P a f) (fieldPart P b f)))) = true →
     (Op.eqFields (d + m) vs us fs).run P E.w = .ok (fs.all fun f => eqV P d f.type (fieldPart P a f) (fieldPart P b f)) E.w
 | [], _ => rfl
 | f :: fs, h => by
   simp only [List.all_cons, Bool.and_eq_true, bne_iff_ne] at h
   obtain ⟨⟨h1, h2, h3, h4⟩, h5⟩ := h
   obtain ⟨hu, hn⟩ := tyOk_spec h2
   have hle := Nat.le_of_ble_eq_true h3
   obtain ⟨v, hv, hvr⟩ := run_part (P := P) (t := f.type) (o := f.offset) hu hx rfl hn hle
   obtain ⟨u, hu', hur⟩ := run_part (P := P) (t := f.type) (o := f.offset) hu hy rfl hn (by omega)
   have he := ih f.type v u _ _ h4 hvr hur m
   have hr := eqFields_run hx hy hl ih (m := m) fs h5
   simp only [Op.eqFields, if_pos h1, Sem.run_bind, hv, Result.andThen_ok, hu', he, List.all_cons]
   cases hq : eqV P d f.type (fieldPart P a f) (fieldPart P b f) with
   | true => simpa [hq] using hr
   | false => simp

theorem eqItems_run {d m : Nat} {e : TypeId} {vs us : Array Value} {a b : List PV} (hx : Rep E (.agg vs) (.agg a)) (hy : Rep E (.agg us) (.agg b)) (hl : a.length = b.length) (hte : tyOk P e = true)
   (ih : ∀ (t : TypeId) (x y : Value) (p q : PV), eqOk P d t p q = true → Rep E x p → Rep E y q → ∀ m, (Op.equalIn (d + m) t x y).run P E.w = .ok (eqV P d t p q) E.w) :
   ∀ is : List Nat, (is.all fun i => Nat.ble (i * tySize P e + tySize P e) a.length && eqOk P d e (itemPart P a e i) (itemPart P b e i)) = true →
     (Op.eqItems (d + m) e (P.cellsOf e) vs us is).run P E.w = .ok (is.all fun i => eqV P d e (itemPart P a e i) (itemPart P b e i)) E.w
 | [], _ => rfl
 | i :: is, h => by
   simp only [List.all_cons, Bool.and_eq_true] at h
   obtain ⟨⟨h3, h4⟩, h5⟩ := h
   obtain ⟨hu, hn⟩ := tyOk_spec hte
   have hle := Nat.le_of_ble_eq_true h3
   obtain ⟨v, hv, hvr⟩ := run_part (P := P) (t := e) (o := i * tySize P e) hu hx rfl hn hle
   obtain ⟨u, hu', hur⟩ := run_part (P := P) (t := e) (o := i * tySize P e) hu hy rfl hn (by omega)
   have he := ih e v u _ _ h4 hvr hur m
   have hr := eqItems_run hx hy hl hte ih (m := m) is h5
   have hv : (part e vs (i * P.cellsOf e)).run P E.w = .ok v E.w := hv
   have hu' : (part e us (i * P.cellsOf e)).run P E.w = .ok u E.w := hu'
   simp only [Op.eqItems, Sem.run_bind, hv, Result.andThen_ok, hu', he, List.all_cons]
   unfold itemPart at hr ⊢
   cases hq : eqV P d e (partOf a (i * tySize P e, tySize P e, tyAgg P e)) (partOf b (i * tySize P e, tySize P e, tyAgg P e)) with
   | true => simpa [hq] using hr
   | false => simp

theorem run_equal_in : ∀ (d : Nat) (t : TypeId) (x y : Value) (p q : PV), eqOk P d t p q = true → Rep E x p → Rep E y q → ∀ m, (Op.equalIn (d + m) t x y).run P E.w = .ok (eqV P d t p q) E.w
 | 0, t, x, y, p, q, h, _, _, _ => by cases h
 | d + 1, t, x, y, p, q, h, hx, hy, m => by
   rw [Nat.add_right_comm]
   unfold eqOk at h
   split at h
   · rename_i hu
     split at h
     · obtain rfl := hx.int_inv
       obtain rfl := hy.int_inv
       have := of_decide_eq_true h
       subst this
       exact run_equalIn_int E.w _ _ _ _ _ _ hu
     · cases h
   · rename_i hu
     split at h
     · rename_i a b
       obtain rfl := hx.sc_inv
       obtain rfl := hy.sc_inv
       rw [run_equalIn_string E.w _ _ _ _ hu, bytes_beq]
       rfl
     · cases h
   · rename_i hu
     split at h
     · obtain rfl := hx.sc_inv
       obtain rfl := hy.sc_inv
       exact run_equalIn_bool' E.w _ _ _ _ hu
     · cases h
   · rename_i fs hu
     split at h
     · rename_i a b
       simp only [Bool.and_eq_true, Bool.not_eq_true', Nat.beq_eq] at h
       obtain ⟨h1, h2, h3⟩ := h
       have hf : P.fieldsOf t = fs := by simp [Program.fieldsOf, hu]
       generalize hv : x = vx at hx
       generalize hw : y = vy at hy
       cases hx with
       | @agg vs _ hl hp =>
       cases hy with
       | @agg us _ hl' hp' =>
       rw [run_equalIn_struct E.w _ t vs us (by rw [hf]; exact hu) h2, hf]
       rw [eqFields_run (.agg hl hp) (.agg hl' hp') h1 (fun t x y p q => run_equal_in d t x y p q) fs.toList h3]
       simp only [eqV, hu]
     · cases h
   · rename_i n e hu
     split at h
     · rename_i a b
       simp only [Bool.and_eq_true, Nat.beq_eq] at h
       obtain ⟨h1, h2, h3⟩ := h
       obtain ⟨i, hi⟩ := info_of_underlying (P := P) (t := e) (d := _) (Option.eq_some_of_isSome (by have := h2; unfold tyOk at this; simp only [Bool.and_eq_true] at this; exact this.1))
       generalize hv : x = vx at hx
       generalize hw : y = vy at hy
       cases hx with
       | @agg vs _ hl hp =>
       cases hy with
       | @agg us _ hl' hp' =>
       rw [run_equalIn_array E.w _ vs us hu hi]
       rw [eqItems_run (.agg hl hp) (.agg hl' hp') h1 h2 (fun t x y p q => run_equal_in d t x y p q) (List.range n) h3]
       simp only [eqV, hu]
     · cases h
   · cases h

theorem ok_eqAgg {t : TypeId} {x y : Value} {a b : List PV} {neg : Bool} (hx : Rep E x (.agg a)) (hy : Rep E y (.agg b)) (h : eqOk P 6 t (.agg a) (.agg b) = true) :
   (binOp (if neg then .neq else .eql) t x y).run P E.w = .ok (.bool (xor neg (eqV P 6 t (.agg a) (.agg b)))) E.w := by
 have hr := run_equal_in 6 t x y _ _ h hx hy 9994
 generalize hv : x = vx at hx hr ⊢
 generalize hw : y = vy at hy hr ⊢
 cases hx with
 | @agg vs _ hl hp =>
 cases hy with
 | @agg us _ hl' hp' =>
 cases neg
 · show (binOp .eql t (.agg vs) (.agg us)).run P E.w = _
   rw [run_eql_struct, show (10000 : Nat) = 6 + 9994 from rfl, hr]
   simp
 · show (binOp .neq t (.agg vs) (.agg us)).run P E.w = _
   rw [run_neq_struct, show (10000 : Nat) = 6 + 9994 from rfl, hr]
   simp

/-- Two operands: what the model's operation gives. -/
theorem ok_binEff {op : BinOp} {t : TypeId} {x y : Value} {p q : PV} (hx : Rep E x p) (hy : Rep E y q) (hob : (binEff P op t p q).ob) :
   ∃ v, (binOp op t x y).run P E.w = .ok v E.w ∧ isScalar v = true ∧ (binEff P op t p q).v = .sc v := by
 unfold binEff at hob ⊢
 split at hob
 · rename_i k a k' b
   obtain rfl := hx.int_inv
   obtain rfl := hy.int_inv
   split at hob
   · rw [binOp_shift (.inl rfl)]; exact ok_intBin E.w hob
   · rw [binOp_shift (.inr rfl)]; exact ok_intBin E.w hob
   · rename_i h1 h2
     obtain ⟨rfl, h3⟩ := hob
     obtain ⟨v, h4, h5, h6⟩ := ok_intBin (P := P) (t := t) E.w h3
     refine ⟨v, h4, h5, ?_⟩
     cases op <;> first | exact h6 | (exact absurd rfl h1) | (exact absurd rfl h2)
 · obtain rfl := hx.sc_inv
   obtain rfl := hy.sc_inv
   exact ok_strBin E.w hob
 · rename_i h1 h2
   split at hob
   · unfold eqBin at hob ⊢
     split at hob
     · obtain rfl := hx.sc_inv
       obtain rfl := hy.sc_inv
       exact ⟨_, ok_eqBool (neg := false) E.w hob, rfl, rfl⟩
     · exact ⟨_, ok_eqAgg (neg := false) hx hy hob.2, rfl, rfl⟩
     · exact hob.elim
   · unfold eqBin at hob ⊢
     split at hob
     · obtain rfl := hx.sc_inv
       obtain rfl := hy.sc_inv
       exact ⟨_, ok_eqBool (neg := true) E.w hob, rfl, rfl⟩
     · exact ⟨_, ok_eqAgg (neg := true) hx hy hob.2, rfl, rfl⟩
     · exact hob.elim
   · exact hob.elim

theorem ok_unEff {op : UnOp} {x : Value} {p : PV} (w : World) (hx : Rep E x p) (hob : (unEff op p).ob) :
   ∃ v, (Op.unary op x).run P w = .ok v w ∧ isScalar v = true ∧ (unEff op p).v = .sc v := by
 unfold unEff at hob ⊢
 split at hob
 · obtain rfl := hx.sc_inv; exact ⟨_, rfl, rfl, rfl⟩
 · obtain rfl := hx.sc_inv; exact ⟨_, rfl, rfl, rfl⟩
 · exact hob.elim


/-- Rows of cells as they stand at a place in memory. -/
structure View (E : Env) (b off sz : Nat) (rs : Rows) : Prop where
 width : ∀ row ∈ rs, row.length = sz
 cell : ∀ (i j : Nat) (row : List PV) (p : PV), rs[i]? = some row → row[j]? = some p → ∃ v, E.w.cell? ⟨b, off + i * sz + j, none⟩ = some v ∧ Rep E v p
 one : ∀ row ∈ rs, ∀ p ∈ row, p.cell = true

theorem View.of_mem {t : Bool} {sz : Nat} {rows : Rows} {b off : Nat} {f : Nat → Nat → Value} (m : MemAt E t sz rows b off f)
   (hr : ∀ (i j : Nat) (row : List PV) (p : PV), rows[i]? = some row → row[j]? = some p → Rep E (f i j) p) : View E b off sz rows :=
 ⟨m.width, fun i j row p h1 h2 => ⟨_, m.cell i j row p h1 h2, hr i j row p h1 h2⟩, m.one⟩

theorem cell_of_heap {w : World} {b : Nat} {c : Array Value} {T : TypeId} {fr : Nat × Nat} (h : w.heap[b]? = some (.cells c T fr)) (o : Nat) : w.cell? ⟨b, o, none⟩ = c[o]? := by
 simp [World.cell?, h]

theorem View.of_obj {k : Key} {sz : Nat} {rs : Rows} (ho : ObjOK E k (.rows sz rs)) : View E (E.blk k) (E.cap k).2 sz rs := by
 obtain ⟨c, T, h1, h2, h3, h4, h5, h6, h7⟩ := ho
 refine ⟨h5, fun i j row p h8 h9 => ?_, h6⟩
 obtain ⟨v, h10, h11⟩ := h7 i j row p h8 h9
 exact ⟨v, by rw [cell_of_heap h1]; exact h10, h11⟩

theorem getElem?_row {rs : Rows} {i : Nat} (h : i < rs.length) : rs[i]? = some (rs.getD i []) := by
 rw [List.getD_eq_getElem?_getD, List.getElem?_eq_getElem h]; rfl

theorem View.at {b off sz : Nat} {rs : Rows} (V : View E b off sz rs) {i j : Nat} (hi : i < rs.length) (hj : j < sz) :
   ∃ v, E.w.cell? ⟨b, off + i * sz + j, none⟩ = some v ∧ Rep E v (cellAt rs i j) ∧ (cellAt rs i j).cell = true := by
 have h1 := getElem?_row hi
 have hl : (rs.getD i []).length = sz := V.width _ (List.mem_of_getElem? h1)
 have h2 : (rs.getD i [])[j]? = some (cellAt rs i j) := by
   unfold cellAt; rw [List.getD_eq_getElem?_getD (l := rs.getD i []), List.getElem?_eq_getElem (by omega)]; rfl
 obtain ⟨v, h3, h4⟩ := V.cell i j _ _ h1 h2
 exact ⟨v, h3, h4, V.one _ (List.mem_of_getElem? h1) _ (List.mem_of_getElem? h2)⟩

theorem Addr.add_at (b o n : Nat) : Addr.add ⟨b, o, none⟩ n = ⟨b, o + n, none⟩ := by
 unfold Addr.add; split <;> simp_all

theorem aggAt_get {rs : Rows} {i j n x : Nat} (hx : x < n) (h : j + n ≤ (rs.getD i []).length) : (aggAt rs i j n)[x]? = some (cellAt rs i (j + x)) := by
 unfold aggAt cellAt
 rw [List.getElem?_take, if_pos hx, List.getElem?_drop, List.getD_eq_getElem?_getD (l := rs.getD i []), List.getElem?_eq_getElem (by omega)]
 rfl

theorem aggAt_length {rs : Rows} {i j n : Nat} (h : j + n ≤ (rs.getD i []).length) : (aggAt rs i j n).length = n := by
 unfold aggAt; rw [List.length_take, List.length_drop]; omega

/-- A load through a view. -/
theorem View.load {b off sz : Nat} {rs : Rows} (V : View E b off sz rs) {t : TypeId} {i j : Nat} (ht : (P.underlying t).isSome = true) (hti : (P.info? t).isSome = true) (hi : i < rs.length) (hj : j + tySize P t ≤ sz) (h1 : 1 ≤ tySize P t) :
   ∃ v, (loadVar t ⟨b, off + i * sz + j, none⟩).run P E.w = .ok v E.w ∧ Rep E v (if tyAgg P t then .agg (aggAt rs i j (tySize P t)) else cellAt rs i j) := by
 obtain ⟨d, hd⟩ := Option.isSome_iff_exists.1 ht
 obtain ⟨ti, hti⟩ := Option.isSome_iff_exists.1 hti
 have hsz : tySize P t = ti.size := by simp [tySize, Program.cellsOf, hti]
 have hagg : (isAgg t).run P E.w = .ok (tyAgg P t) E.w := by
   unfold isAgg tyAgg
   rw [Sem.run_bind, run_under hd, hd]
   cases d <;> rfl
 have hl : (rs.getD i []).length = sz := V.width _ (List.mem_of_getElem? (getElem?_row hi))
 unfold loadVar
 rw [Sem.run_bind, hagg, Result.andThen_ok]
 cases hq : tyAgg P t with
 | false =>
   obtain ⟨v, h2, h3, _⟩ := V.at hi (show j < sz by omega)
   exact ⟨v, by simp [h2], h3⟩
 | true =>
   have hcell : ∀ x, x < tySize P t → ∃ v, E.w.cell? ⟨b, off + i * sz + j + x, none⟩ = some v ∧ Rep E v (cellAt rs i (j + x)) := fun x hx => by
     obtain ⟨v, h2, h3, _⟩ := V.at hi (show j + x < sz by omega)
     exact ⟨v, by rw [← h2]; congr 2; omega, h3⟩
   let f : Nat → Value := fun x => (E.w.cell? ⟨b, off + i * sz + j + x, none⟩).getD undef
   have hf : ∀ x, x < tySize P t → E.w.cell? ((⟨b, off + i * sz + j, none⟩ : Addr).add x) = some (f x) := fun x hx => by
     obtain ⟨v, h2, _⟩ := hcell x hx
     rw [Addr.add_at]; simp [f, h2]
   refine ⟨.agg ((List.range (tySize P t)).map f).toArray, ?_, ?_⟩
   · simp only [if_true, sizeOf, typeInfo, Sem.run_bind, run_program, Result.andThen_ok, hti, Sem.run_pure, ← hsz]
     rw [run_loadCells E.w ⟨b, off + i * sz + j, none⟩ (tySize P t) f hf]
     rfl
   · simp only [if_true]
     refine .agg (by simp [aggAt_length (show j + tySize P t ≤ (rs.getD i []).length by omega)]) fun x v p h2 h3 => ?_
     have hx : x < tySize P t := by
       have := (List.getElem?_eq_some_iff.1 h3).1
       rw [aggAt_length (by omega)] at this; exact this
     rw [aggAt_get hx (by omega)] at h3
     simp [hx] at h2
     obtain ⟨v', h4, h5⟩ := hcell x hx
     cases h3
     rw [← h2]
     simp only [f, h4]; exact h5

theorem info_of_size {t : TypeId} (h : 1 ≤ tySize P t) : (P.info? t).isSome = true := by
 unfold tySize Program.cellsOf at h
 cases hq : P.info? t with
 | none => rw [hq] at h; simp at h
 | some i => rfl


/-- An operation that reads at most: what the model's run gives. -/
def RO (P : Program) (E : Env) (s : Sem Value) (e : Eff) : Prop := ∃ v, s.run P E.w = .ok v E.w ∧ Rep E v e.v ∧ e.wr = [] ∧ e.bump = false

theorem ro_load (g : Good E) {t : TypeId} {va : Value} {p : PV} (hr : Rep E va p) (hob : (loadEff P E.h t p).ob) : RO P E (Instr.loadAt t va) (loadEff P E.h t p) := by
 unfold loadEff at hob ⊢
 split at hob
 · rename_i k sz i j
   split at hob
   · rename_i sz' rs hk
     obtain ⟨h1, h2, h34⟩ := hob
     obtain ⟨h4, h3⟩ := tyOk_spec h34
     cases hr with
     | ptr hkn hl =>
       obtain ⟨⟨hb, ha⟩, rs', hq⟩ := hl _ hk
       cases hq
       subst hb; subst ha
       obtain ⟨v, hv, hrep⟩ := (View.of_obj (g.obj k _ hk)).load (P := P) (t := t) h4 (info_of_size h3) h1 h2 h3
       refine ⟨v, ?_, ?_, ?_, ?_⟩
       · simp only [Instr.loadAt, Instr.sureAddr, Sem.run_bind, Sem.run_pure, Result.andThen_ok]
         simpa using hv
       · exact hrep
       · rfl
       · rfl
   · exact hob.elim
 · rename_i tt sz rs i j
   obtain ⟨h1, h2, h34⟩ := hob
   obtain ⟨h4, h3⟩ := tyOk_spec h34
   cases hr with
   | lptr _ _ hm hrr =>
     obtain ⟨v, hv, hrep⟩ := (View.of_mem hm hrr).load (P := P) (t := t) h4 (info_of_size h3) h1 h2 h3
     refine ⟨v, ?_, hrep, rfl, rfl⟩
     simp only [Instr.loadAt, Instr.sureAddr, Sem.run_bind, Sem.run_pure, Result.andThen_ok]
     exact hv
 · exact hob.elim

theorem ro_bin {op : BinOp} {t : TypeId} {x y : Value} {p q : PV} (hx : Rep E x p) (hy : Rep E y q) (hob : (binEff P op t p q).ob) : RO P E (binOp op t x y) (binEff P op t p q) := by
 obtain ⟨v, h1, h2, h3⟩ := ok_binEff (P := P) hx hy hob
 refine ⟨v, h1, by rw [h3]; exact .sc h2, ?_, ?_⟩
 all_goals
   unfold binEff at hob ⊢
   split at hob
   · split at hob
     · rfl
     · rfl
     · cases op <;> rfl
   · cases op <;> rfl
   · split at hob
     · unfold eqBin; split <;> rfl
     · unfold eqBin; split <;> rfl
     · exact hob.elim

theorem run_eql_nil {t e : TypeId} {a : Addr} {l c : Nat} (h : P.underlying t = some (.slice e)) (w : World) : (binOp .eql t (.slice (some a) l c) (.slice none 0 0)).run P w = .ok (.bool false) w := by
 have := run_equal_slice_nil (P := P) w t e (some a) l c h
 simp only [binOp]
 simp [this]
theorem run_neq_nil {t e : TypeId} {a : Addr} {l c : Nat} (h : P.underlying t = some (.slice e)) (w : World) : (binOp .neq t (.slice (some a) l c) (.slice none 0 0)).run P w = .ok (.bool true) w := by
 have := run_equal_slice_nil (P := P) w t e (some a) l c h
 simp only [binOp]
 simp [this]
theorem ro_nil {op : BinOp} {t : TypeId} {n : Bool} {a : Addr} {l c : Nat} {y : Value} (hn : n = true → y = .slice none 0 0) (hob : (nilEff P op t n).ob) : RO P E (binOp op t (.slice (some a) l c) y) (nilEff P op t n) := by
 unfold nilEff at hob ⊢
 cases op <;> first | exact hob.elim | skip
 · obtain ⟨h1, h2⟩ := hob
   rw [hn h1]
   exact ⟨_, run_eql_nil (isSliceTy_spec h2) _, .sc rfl, rfl, rfl⟩
 · obtain ⟨h1, h2⟩ := hob
   rw [hn h1]
   exact ⟨_, run_neq_nil (isSliceTy_spec h2) _, .sc rfl, rfl, rfl⟩
theorem ro_binN {op : BinOp} {t : TypeId} {n : Bool} {x y : Value} {p q : PV} (hn : n = true → y = .slice none 0 0) (hx : Rep E x p) (hy : Rep E y q) (hob : (binEffN P op t n p q).ob) : RO P E (binOp op t x y) (binEffN P op t n p q) := by
 unfold binEffN at hob ⊢
 split at hob
 · generalize hv : x = v at hx ⊢
   cases hx with
   | lit hm hc hr => exact ro_nil hn hob
 · generalize hv : x = v at hx ⊢
   cases hx with
   | ref hk hlen hl => exact ro_nil hn hob
 · exact ro_bin hx hy hob

theorem ro_un {op : UnOp} {x : Value} {p : PV} (hx : Rep E x p) (hob : (unEff op p).ob) : RO P E (Op.unary op x) (unEff op p) := by
 obtain ⟨v, h1, h2, h3⟩ := ok_unEff (P := P) E.w hx hob
 refine ⟨v, h1, by rw [h3]; exact .sc h2, ?_, ?_⟩
 all_goals
   unfold unEff at hob ⊢
   split at hob <;> first | rfl | exact hob.elim

theorem struct_places {t : TypeId} (h : structOk P t = true) {f : Nat} (hf : f < (places P t).length) :
   ∃ fs fd, P.underlying t = some (.struct fs) ∧ fs[f]? = some fd ∧ tyOk P fd.type = true ∧ (places P t).getD f (0, 0, false) = (fd.offset, P.cellsOf fd.type, tyAgg P fd.type) := by
 obtain ⟨fs, hu, hall⟩ := structOk_spec h
 unfold places at hf ⊢
 rw [hu] at hf ⊢
 simp only [List.length_map, Array.length_toList] at hf
 refine ⟨fs, fs[f], rfl, by simp [hf], hall _ (by simp), ?_⟩
 simp [hf]

theorem ro_fieldAddr {t : TypeId} {f : Nat} {x : Value} {p : PV} (hx : Rep E x p) (hob : (fieldAddrEff P t p f).ob) : RO P E (Instr.fieldAt t x f) (fieldAddrEff P t p f) := by
 have key : ∀ (b o : Nat), structOk P t = true → f < (places P t).length →
     (Instr.fieldAt t (.pointer (some ⟨b, o, none⟩)) f).run P E.w = .ok (.pointer (some ⟨b, o + ((places P t).getD f (0, 0, false)).1, none⟩)) E.w := fun b o h1 h2 => by
   obtain ⟨fs, fd, hu, hfd, hok, hpl⟩ := struct_places h1 h2
   rw [hpl]
   have h3 : tySize P fd.type ≠ 0 := by have := (tyOk_spec hok).2; omega
   have hs := run_sizeOf (P := P) (t := fd.type) rfl h3 E.w
   simp only [Instr.fieldAt, Sem.run_bind, run_under hu, Result.andThen_ok, hfd, Instr.sureAddr, Sem.run_pure, fieldPlace, hs]
   simp [h3, Addr.add_at]
 unfold fieldAddrEff at hob ⊢
 split at hob
 · obtain ⟨h1, h2⟩ := hob
   cases hx with
   | ptr hk hl => exact ⟨_, key _ _ h1 h2, .ptr hk fun o ho => ⟨⟨(hl o ho).1.1, by rw [(hl o ho).1.2]; omega⟩, (hl o ho).2⟩, rfl, rfl⟩
 · obtain ⟨h1, h2⟩ := hob
   cases hx with
   | lptr _ _ hm hrr => exact ⟨_, key _ _ h1 h2, by rw [Nat.add_assoc]; exact .lptr _ _ hm hrr, rfl, rfl⟩
 · exact hob.elim

end
end Go.Pv
