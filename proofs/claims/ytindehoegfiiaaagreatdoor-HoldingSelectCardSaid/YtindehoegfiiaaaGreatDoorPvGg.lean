import Derived.Test.YtindehoegfiiaaaGreatDoorPvGe
import Derived.Test.YtindehoegfiiaaaGreatDoorPvGf
set_option linter.unusedSimpArgs false
set_option linter.unusedVariables false
/- Arguments of a law, taken apart by their types. -/
namespace Go.Pv
open Go Go.RowKit
section
variable {P : Program}

theorem CellP.int_inv {t : TypeId} {q : PV} {k : IntKind} (ht : P.underlying t = some (.int k)) (h : CellP P t q) : ∃ z, q = .sc (.int k z) ∧ (Lit.int k z).wf = true := by
 cases h with
 | int k' z ht' hw => rw [ht] at ht'; cases ht'; exact ⟨z, rfl, hw⟩
 | bool b ht' => rw [ht] at ht'; cases ht'
 | str s ht' hs => rw [ht] at ht'; cases ht'
 | slice rows ht' he hm hl h => rw [ht] at ht'; cases ht'

inductive CellsP (P : Program) : List TypeId → List PV → Prop where
 | nil : CellsP P [] []
 | cons {t : TypeId} {q : PV} {ts : List TypeId} {qs : List PV} (h : CellP P t q) (hs : CellsP P ts qs) : CellsP P (t :: ts) (q :: qs)

theorem CellsP.mk : ∀ {ts : List TypeId} {qs : List PV}, qs.length = ts.length → (∀ (i : Nat) (ty : TypeId) (q : PV), ts[i]? = some ty → qs[i]? = some q → CellP P ty q) → CellsP P ts qs
 | [], [], _, _ => .nil
 | [], _ :: _, h, _ => by simp at h
 | _ :: _, [], h, _ => by simp at h
 | t :: ts, q :: qs, h, hc => .cons (hc 0 t q rfl rfl) (CellsP.mk (by simpa using h) fun i ty p h1 h2 => hc (i + 1) ty p h1 h2)

theorem CellsP.nil_inv {qs : List PV} (h : CellsP P [] qs) : qs = [] := by cases h; rfl
theorem CellsP.cons_inv {t : TypeId} {ts : List TypeId} {qs : List PV} (h : CellsP P (t :: ts) qs) : ∃ q l, qs = q :: l ∧ CellP P t q ∧ CellsP P ts l := by
 cases h with
 | cons h hs => exact ⟨_, _, rfl, h, hs⟩

theorem CellP.slice_inv {t e : TypeId} {q : PV} {tys : List TypeId} (ht : P.underlying t = some (.slice e)) (he : cellTys P 9 e = some tys) (h : CellP P t q) :
   ∃ rows, q = .lit true (P.cellsOf e) rows ∧ rows.length ≤ maxLen ∧ ∀ row ∈ rows, CellsP P tys row := by
 cases h with
 | int k' z ht' hw => rw [ht] at ht'; cases ht'
 | bool b ht' => rw [ht] at ht'; cases ht'
 | str s ht' hs => rw [ht] at ht'; cases ht'
 | slice rows ht' he' hm hl h =>
   rw [ht] at ht'; cases ht'
   rw [he] at he'; cases he'
   exact ⟨rows, rfl, hm, fun row hr => .mk (hl row hr) fun i ty q h1 h2 => h row hr i ty q h1 h2⟩

theorem CellP.slice_at {t e n : Nat} {q : PV} {tys : List TypeId} (ht : P.underlying t = some (.slice e)) (he : cellTys P 9 e = some tys) (hn : P.cellsOf e = n) (h : CellP P t q) :
   ∃ rows, q = .lit true n rows ∧ rows.length ≤ maxLen ∧ ∀ row ∈ rows, CellsP P tys row := by
 subst hn; exact h.slice_inv ht he
theorem ArgP.agg {t : TypeId} {q : PV} {tys : List TypeId} (ht : tyAgg P t = true) (he : cellTys P 9 t = some tys) (h : ArgP P t q) : ∃ cs, q = .agg cs ∧ CellsP P tys cs := by
 unfold ArgP at h; rw [ht] at h
 obtain ⟨cs, tys', rfl, h1, h2, h3⟩ := h
 rw [he] at h1; cases h1
 exact ⟨cs, rfl, .mk h2 h3⟩

theorem ArgsP.nil_inv {qs : List PV} (h : ArgsP P [] qs) : qs = [] := by cases h; rfl
theorem ArgsP.cons_inv {t : TypeId} {ts : List TypeId} {qs : List PV} (h : ArgsP P (t :: ts) qs) : ∃ q l, qs = q :: l ∧ ArgP P t q ∧ ArgsP P ts l := by
 cases h with
 | cons h hs => exact ⟨_, _, rfl, h, hs⟩
end
end Go.Pv

/- Loops over states that are written out; own memory; what slices of records read as. -/
namespace Go.Pv
open Go

/-- The slots that are kept as they were. -/
def mix (live : List Nat) (R r : Nat → PV) : Nat → PV := fun t => bif live.any (Nat.beq t) then R t else r t
def sets (r : Nat → PV) : List (Nat × PV) → Nat → PV
 | [] => r
 | p :: l => setT (sets r l) p.1 p.2
def holds (r : Nat → PV) : List (Nat × PV) → Prop
 | [] => True
 | p :: l => r p.1 = p.2 ∧ holds r l
def agree (R r : Nat → PV) : List Nat → Prop
 | [] => True
 | t :: l => r t = R t ∧ agree R r l

theorem agree_self (R : Nat → PV) : ∀ l, agree R R l
 | [] => trivial
 | _ :: l => ⟨rfl, agree_self R l⟩
theorem agree_get {R r : Nat → PV} {t : Nat} : ∀ {l : List Nat}, agree R r l → l.any (Nat.beq t) = true → r t = R t
 | [], _, h => by simp at h
 | u :: l, ⟨h1, h2⟩, h => by
   rw [List.any_cons, Bool.or_eq_true] at h
   rcases h with h | h
   · rw [Nat.eq_of_beq_eq_true h]; exact h1
   · exact agree_get h2 h
theorem mix_eq {live : List Nat} {R r : Nat → PV} (h : agree R r live) : mix live R r = r := by
 funext t
 unfold mix
 cases hb : live.any (Nat.beq t) with
 | true => exact (agree_get h hb).symm
 | false => rfl
theorem sets_eq {r : Nat → PV} : ∀ {l : List (Nat × PV)}, holds r l → sets r l = r
 | [], _ => rfl
 | p :: l, ⟨h1, h2⟩ => by
   show setT (sets r l) p.1 p.2 = r
   rw [sets_eq h2]
   exact (setT_id h1).symm

section
variable {P : Program} {α : Type}

def LI (live : List Nat) (R : Nat → PV) (vs : α → List (Nat × PV)) (J : α → Heap → (Nat → Nat) → Prop) (μ : α → Nat) (n : Nat) (s : PS) : Prop := ∃ a, μ a = n ∧ agree R s.r live ∧ holds s.r (vs a) ∧ J a s.h s.cnt

theorem pwp_loopR {R : Nat → PV} {H : Heap} {C : Nat → Nat} {Q : Exit → PS → Prop} {cb : Code} (live : List Nat) (vs : α → List (Nat × PV)) (J : α → Heap → (Nat → Nat) → Prop) (μ : α → Nat) (a0 : α) (h0 : holds R (vs a0)) (hJ0 : J a0 H C)
   (body : ∀ a r h c, J a h c → pwp P cb (loopQ (LI live R vs J μ) (μ a) Q) ⟨sets (mix live R r) (vs a), h, c⟩) : pwp P (.loop cb) Q ⟨R, H, C⟩ := by
 refine pwp_loop (LI live R vs J μ) (μ a0) ⟨a0, rfl, agree_self R live, h0, hJ0⟩ fun n s ⟨a, hn, h1, h2, h3⟩ => ?_
 subst hn
 obtain ⟨r, h, c⟩ := s
 have := body a r h c h3
 rw [mix_eq h1, sets_eq h2] at this
 exact this

theorem loop_again {live : List Nat} {R r : Nat → PV} {vs : α → List (Nat × PV)} {J : α → Heap → (Nat → Nat) → Prop} {μ : α → Nat} {a : α} {Q : Exit → PS → Prop} {h : Heap} {c : Nat → Nat} (a' : α) (hm : μ a' < μ a) (h1 : agree R r live) (h2 : holds r (vs a')) (h3 : J a' h c) :
   loopQ (LI live R vs J μ) (μ a) Q .normal ⟨r, h, c⟩ := ⟨μ a', hm, a', rfl, h1, h2, h3⟩

theorem key_ne {a b x y : Nat} (h : Nat.beq a b = false) : ((a, x) : Key) ≠ (b, y) := fun e => beq_false.1 h (congrArg Prod.fst e)

variable {ρ : Operand → PV} {h : Heap} {key : Key} {x y z : Operand} {t t' : TypeId} {v : PV}

theorem e_box {cs : List PV} {n : Nat} (hx : ρ x = .agg cs) (hn : cs.length = n) : eff P ρ h key (.box t x) = ⟨cs.all PV.cell = true ∧ 1 ≤ n, .ptr key n 0 0, [(key, some (.rows n [cs]))], [], true⟩ := by
 subst hn; simp only [eff, hx, boxEff, allocEff, pcells]
theorem e_loadH {k : Key} {sz i j : Nat} {rs : Rows} (hx : ρ x = .ptr k sz i j) (hk : h k = some (.rows sz rs)) (hg : tyAgg P t = false) (hs : tySize P t = 1) (ht : tyOk P t = true) (hi : i < rs.length) (hj : j < sz) (hv : cellAt rs i j = v) :
   eff P ρ h key (.load t x) = ⟨True, v, [], [k], false⟩ := by
 simp only [eff, hx, loadEff, hk, hg, hs, ht, hv]; simp [hi]; omega
theorem e_loadHA {k : Key} {sz i j n : Nat} {rs : Rows} {cs : List PV} (hx : ρ x = .ptr k sz i j) (hk : h k = some (.rows sz rs)) (hg : tyAgg P t = true) (hs : tySize P t = n) (ht : tyOk P t = true) (hi : i < rs.length) (hj : j + n ≤ sz) (hv : aggAt rs i j n = cs) :
   eff P ρ h key (.load t x) = ⟨True, .agg cs, [], [k], false⟩ := by
 simp only [eff, hx, loadEff, hk, hg, hs, ht, hv]; simp [hi, hj]
theorem e_faP {k : Key} {sz i j f o : Nat} {pl : List (Nat × Nat × Bool)} (hx : ρ x = .ptr k sz i j) (ht : structOk P t = true) (hp : places P t = pl) (hf : f < pl.length) (ho : (pl.getD f (0, 0, false)).1 = o) :
   eff P ρ h key (.fieldAddr t x f) = ⟨True, .ptr k sz i (j + o), [], [], false⟩ := by
 simp only [eff, hx, fieldAddrEff, ht, hp, ho, hf]; simp
theorem e_build {parts : Array (Nat × Operand)} {cs : List PV} {ps : List (Nat × PV)} {pl : List (Nat × Nat × Bool)} {zs : List PV} (hz : zeroCellsOf P t = some zs) (hpl : places P t = pl) (hso : structOk P t = true) (hza : zs.all PV.cell = true) (hp : (parts.toList.map fun p => (p.1, ρ p.2)) = ps)
   (hf : fillOk pl zs.length ps) (hcs : fillCells pl zs ps = cs) : eff P ρ h key (.build t parts) = ⟨True, .agg cs, [], [], false⟩ := by
 simp only [eff, hp, buildEff, hz, hpl, hso, hza, hcs]; simp [hf]
theorem e_bslice {parts : Array (Nat × Operand)} {rows : Rows} {n sz : Nat} {ps : List (Nat × PV)} {zs : List PV} (hz : zeroCellsOf P (elemTy P t) = some zs) (hso : sliceOk P t = true) (hl : zs.length = sz) (hs : tySize P (elemTy P t) = sz) (hn : n * sz ≤ 2 ^ 24) (hza : zs.all PV.cell = true) (hp : (parts.toList.map fun p => (p.1, ρ p.2)) = ps)
   (hf : fillRowsOk n sz ps) (hr : fillRows (List.replicate n zs) ps = rows) : eff P ρ h key (.buildSlice t n parts) = ⟨True, .ref key sz 0 n, [(key, some (.rows sz rows))], [], true⟩ := by
 subst hl
 simp only [eff, hp, buildSliceEff, hz, hso, hs, hza, hr]; simp [hf, hn]
/-! ### Slices that grow -/
/-- A slice of own memory, made at one place of the text. -/
def SliceAt (h : Heap) (d : Nat) (v : PV) (sz : Nat) (rows : Rows) : Prop := (rows = [] ∧ v = .nil) ∨ ∃ g, v = .ref (d, g) sz 0 rows.length ∧ h (d, g) = some (.rows sz rows)

theorem SliceAt.nil {h : Heap} {d sz : Nat} : SliceAt h d .nil sz [] := .inl ⟨rfl, rfl⟩
theorem SliceAt.keep {h h' : Heap} {d sz : Nat} {v : PV} {rows : Rows} (hs : SliceAt h d v sz rows) (hk : ∀ g, h' (d, g) = h (d, g)) : SliceAt h' d v sz rows := by
 rcases hs with h1 | ⟨g, h1, h2⟩
 · exact .inl h1
 · exact .inr ⟨g, h1, (hk g).trans h2⟩

variable {K : PS → Prop} {d : Nat} {ty : TypeId} {pos : String} {aft : Array Edge} {gd : Option (Nat × Bool)} {rest : List Oper} {r : Nat → PV} {cnt : Nat → Nat}

theorem src_ref {sz n2 : Nat} {rows2 : Rows} {k2 : Key} (hk2 : h k2 = some (.rows sz rows2)) (hn : rows2.length = n2) : (srcRows h sz (.ref k2 sz 0 n2)).1 ∧ (srcRows h sz (.ref k2 sz 0 n2)).2.1 = rows2 := by
 unfold srcRows
 simp only [hk2]
 subst hn
 simp
theorem p_app {ts : Array TypeId} {t2 : TypeId} {u u2 : PV} {sz d1 : Nat} {rows rows2 : Rows} (hts : ts.toList = [t, t2]) (hx : ev r x = u) (hy : ev r y = u2) (hs : SliceAt h d1 u sz rows) (hsr : (srcRows h sz u2).1 ∧ (srcRows h sz u2).2.1 = rows2)
   (hok : (sliceOk P t && (decide (P.bytesOf (elemTy P t) < 2 ^ 15) && (decide (intKind P t2 = none) && (zeroOk P (elemTy P t) && ((P.underlying t2).isSome && decide (tySize P (elemTy P t) = sz)))))) = true) (hlen : rows.length + rows2.length < 2 ^ 32)
   (hk : ∀ v' h' c', SliceAt h' d v' sz (rows ++ rows2) → (∀ k' : Key, k' ≠ (d, cnt d) → (∀ g, u = .ref (d1, g) sz 0 rows.length → k' ≠ (d1, g)) → h' k' = h k') → pOps P K rest ⟨setT r d v', h', c'⟩) :
   pOps P K (⟨some d, .call { callee := .builtin .append, args := #[x, y], argTypes := ts }, ty, pos, aft, gd⟩ :: rest) ⟨r, h, cnt⟩ := by
 simp only [Bool.and_eq_true, decide_eq_true_eq] at hok
 obtain ⟨o1, o2, o3, o4, o5, o6⟩ := hok
 subst o6
 have he : ∀ u, ev r x = u → eff P (ev r) h (d, cnt d) (.call { callee := .builtin .append, args := #[x, y], argTypes := ts }) = appendEff P h (d, cnt d) t t2 u u2 := fun u hu => by
   show builtinEff P h (d, cnt d) .append ts.toList [ev r x, ev r y] = _
   rw [hts, hu, hy]; rfl
 rcases hs with ⟨rfl, rfl⟩ | ⟨g, rfl, hg⟩
 · have hq := he _ hx
   unfold appendEff at hq
   simp only [hsr.2] at hq
   cases hne : rows2.isEmpty with
   | true =>
     have hr2 : rows2 = [] := by simpa using hne
     rw [hne] at hq
     simp only [cond_true] at hq
     exact p_step rfl hq ⟨⟨o1, o2, o3, o4, o5⟩, hsr.1⟩ (hk _ _ _ (.inl ⟨by rw [hr2]; rfl, rfl⟩) fun k' _ _ => rfl)
   | false =>
     rw [hne] at hq
     simp only [cond_false] at hq
     refine p_new rfl hq ⟨⟨o1, o2, o3, o4, o5⟩, hsr.1, (by intro e; rw [e] at hne; cases hne), by simp at hlen; omega⟩ (hk _ _ _ (.inr ⟨cnt d, by rw [List.nil_append], by rw [List.nil_append]; exact hset_self _ _ _⟩) fun k' h1 _ => hset_ne h1)
 · have hq := he _ hx
   unfold appendEff at hq
   simp only [hg, hsr.2] at hq
   refine p_renew rfl hq (by refine ⟨⟨o1, o2, o3, o4, o5⟩, hsr.1, ?_⟩; simp; omega) (hk _ _ _ (.inr ⟨cnt d, by rw [List.length_append], ?_⟩) fun k' h1 h2 => ?_)
   · rw [hset_self, List.drop_zero, List.take_length]
   · rw [hset_ne h1, hset_ne (h2 g rfl)]

end

/-! ### Slices of records -/
section
variable {α : Type} {f : α → List PV} {xs : List α} {i : Nat} {a : α}
theorem cell_map (hx : xs[i]? = some a) (j : Nat) : cellAt (xs.map f) i j = (f a).getD j .dead := by
 simp [cellAt, List.getD_eq_getElem?_getD, hx]
theorem agg_map {n : Nat} (hx : xs[i]? = some a) (hl : (f a).length = n) : aggAt (xs.map f) i 0 n = f a := by
 subst hl
 simp [aggAt, List.getD_eq_getElem?_getD, hx]
theorem pure_map (hp : ∀ a, ∀ p ∈ f a, Pure p) : ∀ row ∈ xs.map f, ∀ p ∈ row, Pure p := fun row hr p h => by
 obtain ⟨a, _, rfl⟩ := List.mem_map.1 hr; exact hp a p h
theorem get_lt (h : i < xs.length) : ∃ a, xs[i]? = some a ∧ xs.drop i = a :: xs.drop (i + 1) ∧ xs.take (i + 1) = xs.take i ++ [a] :=
 ⟨xs[i], List.getElem?_eq_getElem h, List.drop_eq_getElem_cons h, by rw [List.take_add_one, List.getElem?_eq_getElem h]; rfl⟩
end
theorem rows_of {α : Type} {f : α → List PV} {ok : α → Prop} : ∀ {rows : Rows}, (∀ row ∈ rows, ∃ a, row = f a ∧ ok a) → ∃ xs : List α, rows = xs.map f ∧ ∀ a ∈ xs, ok a
 | [], _ => ⟨[], rfl, by simp⟩
 | row :: rows, h => by
   obtain ⟨a, ha, ho⟩ := h row (by simp)
   obtain ⟨xs, hx, hxo⟩ := rows_of (rows := rows) fun r hr => h r (by simp [hr])
   exact ⟨a :: xs, by rw [ha, hx]; rfl, fun b hb => by rcases List.mem_cons.1 hb with rfl | hb; exact ho; exact hxo b hb⟩

theorem wf64 {z : Int} (h : (Lit.int .i64 z).wf = true) : -9223372036854775808 ≤ z ∧ z ≤ 9223372036854775807 := by
 simp only [Lit.wf, Bool.and_eq_true, decide_eq_true_eq] at h
 exact h
theorem SliceAt.to {h : Heap} {d sz : Nat} {v : PV} {rows rows' : Rows} (hs : SliceAt h d v sz rows) (he : rows = rows') : SliceAt h d v sz rows' := he ▸ hs
end Go.Pv

/- More operations at states that are written out: bytes, parts of slices, arrays, rows of numbers, closures; results in memory; drawn regions with stores. -/
namespace Go.Pv
open Go
section
variable {P : Program} {ρ : Operand → PV} {h : Heap} {key : Key} {x y z : Operand} {t t' : TypeId} {v : PV}

/-! Rows of one number each -/
def ci (n : Int) : List PV := [.int n]
theorem ci_pure (n : Int) : ∀ p ∈ ci n, Pure p := fun p hp => by simp [ci] at hp; subst hp; exact .sc _

end

section
variable {h : Heap}
theorem inn_agg {a : List PV} (hp : ∀ p ∈ a, Pure p) : Inn h (.agg a) (.agg a) := .base (.pure (.agg _ hp))
theorem inn_ref {k : Key} {sz n : Nat} {rs rows : Rows} (hk : h k = some (.rows sz rs)) (hl : rs.length = n) (he : rs = rows) (hp : ∀ row ∈ rs, ∀ p ∈ row, Pure p) : Inn h (.ref k sz 0 n) (.lit true sz rows) := by
 subst he; subst hl
 exact .base (.ref hk (by omega) (by simp) hp)
theorem out_slice {α : Type} {f : α → List PV} {xs : List α} {d sz : Nat} {v : PV} {rows : Rows} (hs : SliceAt h d v sz rows) (he : rows = xs.map f) (hl : ∀ a, (f a).length = sz) (hp : ∀ a, ∀ p ∈ f a, Clean p ∧ p.cell = true) : Out h v (.lit false sz (xs.map f)) := by
 subst he
 rcases hs with ⟨h1, rfl⟩ | ⟨g, rfl, hg⟩
 · rw [h1]; exact .nil sz
 · refine .ref hg (by omega) rfl (fun row hr => ?_) (fun i j row row' p p' h1 h2 h3 h4 => ?_) (fun row hr p hp' => ?_)
   · obtain ⟨a, _, rfl⟩ := List.mem_map.1 hr; exact hl a
   · rw [Nat.zero_add] at h1
     rw [h1] at h2; cases h2
     rw [h3] at h4; cases h4
     obtain ⟨a, _, rfl⟩ := List.mem_map.1 (List.mem_of_getElem? h1)
     exact .clean (hp a p (List.mem_of_getElem? h3)).1
   · obtain ⟨a, _, rfl⟩ := List.mem_map.1 hr; exact (hp a p hp').2
end

section
variable {P : Program} {R : PV → Heap → (Nat → Nat) → Prop} {r : Nat → PV} {h : Heap} {cnt : Nat → Nat}
end

/-! ### Drawn regions with stores: the places of the text that are read and written -/
section
variable {P : Program} {K : PS → Prop} {d : Nat} {op : Op} {ty : TypeId} {pos : String} {aft : Array Edge} {gd : Option (Nat × Bool)} {rest : List Oper} {r : Nat → PV} {h : Heap} {cnt : Nat → Nat} {ops : Array Oper} {i : Nat} {G : Nat → Bool} {dd : Bool}

structure Ft where
 i : Nat
 rd : List Nat
 wr : List Nat
end
end Go.Pv

/- Maps at states that are written out, by lists of keys and values; structs compared. -/
namespace Go.Pv
open Go
section
variable {α β : Type} [DecidableEq α]

variable {f : α → PV} {g : β → PV}
variable {P : Program} {ρ : Operand → PV} {h : Heap} {key : Key} {x y z : Operand} {t t' : TypeId} {v : PV}

/-! ### A map at a key: its entries; the stamps are right -/
/-! ### Iteration over a map -/
omit [DecidableEq α] in
theorem e_ane {a b : List PV} {c : Bool} (hx : ρ x = .agg a) (hy : ρ y = .agg b) (hg : P.eqGuardType P.depth t = false) (ho : eqOk P 6 t (.agg a) (.agg b) = true) (hv : eqV P 6 t (.agg a) (.agg b) = c) :
   eff P ρ h key (.binOp .neq t x y t') = ⟨True, .bool (!c), [], [], false⟩ := by
 simp only [eff, hx, hy, binEffN, binEff, eqBin, hg, ho, hv]; simp
end
end Go.Pv

/- More operations at states that are written out: slices compared with nil, records stored into own slices. -/
namespace Go.Pv
open Go
section
variable {P : Program} {ρ : Operand → PV} {h : Heap} {key : Key} {x y : Operand} {t t' : TypeId}

end

section
variable {h h' : Heap} {d sz : Nat} {v : PV} {rows : Rows}
end

end Go.Pv

/- Iteration over a map of typed entries; arrays; rows of texts. -/
namespace Go.Pv
open Go
section
variable {α β : Type} [DecidableEq α] {f : α → PV} {g : β → PV}

variable {P : Program} {ρ : Operand → PV} {h : Heap} {key : Key} {x y : Operand} {t : TypeId}
end

/-! ### Arrays -/
section
variable {P : Program} {ρ : Operand → PV} {h : Heap} {key : Key} {x y : Operand} {t : TypeId}
end

/-! ### An own slice in another place of the text -/
/-! ### Rows of texts -/
def cb (s : ByteArray) : List PV := [.str s]
theorem cb_pure (s : ByteArray) : ∀ p ∈ cb s, Pure p := fun p hp => by simp [cb] at hp; subst hp; exact .sc _
end Go.Pv

namespace Go.Pv
open Go Go.RowKit
/-! ### Appends in drawn regions; parts of own slices as what is appended -/
section
variable {P : Program} {K : PS → Prop} {d : Nat} {op : Op} {ty : TypeId} {pos : String} {aft : Array Edge} {rest : List Oper} {r : Nat → PV} {h : Heap} {cnt : Nat → Nat} {ops : Array Oper} {i : Nat} {G : Nat → Bool} {dd : Bool} {x y : Operand} {t : TypeId}

end
end Go.Pv
