import Derived.Test.YtmlhhdiomijpfaaGreatDoorPvGe
import Derived.Test.YtmlhhdiomijpfaaGreatDoorPvGf
set_option linter.unusedSimpArgs false
set_option linter.unusedVariables false
namespace Go.Pv
open Go Go.RowKit
section
variable {P : Program}
theorem CellP.int_inv {t : TypeId} {q : PV} {k : IntKind} (ht : P.underlying t = some (.int k)) (h : CellP P t q) : ∃ z, q = .sc (.int k z) ∧ (Lit.int k z).wf = true := by
 cases h with
 | int k' z ht' hw => rw [ht] at ht'; cases ht'; exact ⟨z, rfl, hw⟩
 | bool b ht' => rw [ht] at ht'; cases ht'
 | str s ht' hs => rw [ht] at ht'; cases ht'
 | slice rows ht' he hm hl h => rw [ht] at ht'; cases ht'
theorem CellP.str_inv {t : TypeId} {q : PV} (ht : P.underlying t = some .string) (h : CellP P t q) : ∃ s, q = .sc (.string s) ∧ s.size ≤ maxLen := by
 cases h with
 | int k' z ht' hw => rw [ht] at ht'; cases ht'
 | bool b ht' => rw [ht] at ht'; cases ht'
 | str s ht' hs => exact ⟨s, rfl, hs⟩
 | slice rows ht' he hm hl h => rw [ht] at ht'; cases ht'
inductive CellsP (P : Program) : List TypeId → List PV → Prop where
 | nil : CellsP P [] []
 | cons {t : TypeId} {q : PV} {ts : List TypeId} {qs : List PV} (h : CellP P t q) (hs : CellsP P ts qs) : CellsP P (t :: ts) (q :: qs)
theorem CellsP.mk : ∀ {ts : List TypeId} {qs : List PV}, qs.length = ts.length → (∀ (i : Nat) (ty : TypeId) (q : PV), ts[i]? = some ty → qs[i]? = some q → CellP P ty q) → CellsP P ts qs
 | [], [], _, _ => .nil
 | [], _ :: _, h, _ => by simp at h
 | _ :: _, [], h, _ => by simp at h
 | t :: ts, q :: qs, h, hc => .cons (hc 0 t q rfl rfl) (CellsP.mk (by simpa using h) fun i ty p h1 h2 => hc (i + 1) ty p h1 h2)
theorem CellsP.nil_inv {qs : List PV} (h : CellsP P [] qs) : qs = [] := by cases h; rfl
theorem CellsP.cons_inv {t : TypeId} {ts : List TypeId} {qs : List PV} (h : CellsP P (t :: ts) qs) : ∃ q l, qs = q :: l ∧ CellP P t q ∧ CellsP P ts l := by
 cases h with
 | cons h hs => exact ⟨_, _, rfl, h, hs⟩
theorem CellP.slice_inv {t e : TypeId} {q : PV} {tys : List TypeId} (ht : P.underlying t = some (.slice e)) (he : cellTys P 9 e = some tys) (h : CellP P t q) :
   ∃ rows, q = .lit true (P.cellsOf e) rows ∧ rows.length ≤ maxLen ∧ ∀ row ∈ rows, CellsP P tys row := by
 cases h with
 | int k' z ht' hw => rw [ht] at ht'; cases ht'
 | bool b ht' => rw [ht] at ht'; cases ht'
 | str s ht' hs => rw [ht] at ht'; cases ht'
 | slice rows ht' he' hm hl h =>
   rw [ht] at ht'; cases ht';rw [he] at he'; cases he';exact ⟨rows, rfl, hm, fun row hr => .mk (hl row hr) fun i ty q h1 h2 => h row hr i ty q h1 h2⟩
theorem CellP.slice_at {t e n : Nat} {q : PV} {tys : List TypeId} (ht : P.underlying t = some (.slice e)) (he : cellTys P 9 e = some tys) (hn : P.cellsOf e = n) (h : CellP P t q) :
   ∃ rows, q = .lit true n rows ∧ rows.length ≤ maxLen ∧ ∀ row ∈ rows, CellsP P tys row := by
 subst hn; exact h.slice_inv ht he
theorem ArgP.cell {t : TypeId} {q : PV} (ht : tyAgg P t = false) (h : ArgP P t q) : CellP P t q := by
 unfold ArgP at h; rw [ht] at h; exact h
theorem ArgsP.nil_inv {qs : List PV} (h : ArgsP P [] qs) : qs = [] := by cases h; rfl
theorem ArgsP.cons_inv {t : TypeId} {ts : List TypeId} {qs : List PV} (h : ArgsP P (t :: ts) qs) : ∃ q l, qs = q :: l ∧ ArgP P t q ∧ ArgsP P ts l := by
 cases h with
 | cons h hs => exact ⟨_, _, rfl, h, hs⟩
end
end Go.Pv
namespace Go.Pv
open Go
def mix (live : List Nat) (R r : Nat → PV) : Nat → PV := fun t => bif live.any (Nat.beq t) then R t else r t
def sets (r : Nat → PV) : List (Nat × PV) → Nat → PV
 | [] => r
 | p :: l => setT (sets r l) p.1 p.2
def holds (r : Nat → PV) : List (Nat × PV) → Prop
 | [] => True
 | p :: l => r p.1 = p.2 ∧ holds r l
def agree (R r : Nat → PV) : List Nat → Prop
 | [] => True
 | t :: l => r t = R t ∧ agree R r l
theorem agree_self (R : Nat → PV) : ∀ l, agree R R l
 | [] => trivial
 | _ :: l => ⟨rfl, agree_self R l⟩
theorem agree_get {R r : Nat → PV} {t : Nat} : ∀ {l : List Nat}, agree R r l → l.any (Nat.beq t) = true → r t = R t
 | [], _, h => by simp at h
 | u :: l, ⟨h1, h2⟩, h => by
   rw [List.any_cons, Bool.or_eq_true] at h;rcases h with h | h
   · rw [Nat.eq_of_beq_eq_true h]; exact h1
   · exact agree_get h2 h
theorem mix_eq {live : List Nat} {R r : Nat → PV} (h : agree R r live) : mix live R r = r := by
 funext t;unfold mix;cases hb : live.any (Nat.beq t) with
 | true => exact (agree_get h hb).symm
 | false => rfl
theorem sets_eq {r : Nat → PV} : ∀ {l : List (Nat × PV)}, holds r l → sets r l = r
 | [], _ => rfl
 | p :: l, ⟨h1, h2⟩ => by
   show setT (sets r l) p.1 p.2 = r;rw [sets_eq h2];exact (setT_id h1).symm
section
variable {P : Program} {α : Type}
def LI (live : List Nat) (R : Nat → PV) (vs : α → List (Nat × PV)) (J : α → Heap → (Nat → Nat) → Prop) (μ : α → Nat) (n : Nat) (s : PS) : Prop := ∃ a, μ a = n ∧ agree R s.r live ∧ holds s.r (vs a) ∧ J a s.h s.cnt
theorem pwp_loopR {R : Nat → PV} {H : Heap} {C : Nat → Nat} {Q : Exit → PS → Prop} {cb : Code} (live : List Nat) (vs : α → List (Nat × PV)) (J : α → Heap → (Nat → Nat) → Prop) (μ : α → Nat) (a0 : α) (h0 : holds R (vs a0)) (hJ0 : J a0 H C)
   (body : ∀ a r h c, J a h c → pwp P cb (loopQ (LI live R vs J μ) (μ a) Q) ⟨sets (mix live R r) (vs a), h, c⟩) : pwp P (.loop cb) Q ⟨R, H, C⟩ := by
 refine pwp_loop (LI live R vs J μ) (μ a0) ⟨a0, rfl, agree_self R live, h0, hJ0⟩ fun n s ⟨a, hn, h1, h2, h3⟩ => ?_;subst hn;obtain ⟨r, h, c⟩ := s;have := body a r h c h3;rw [mix_eq h1, sets_eq h2] at this;exact this
theorem loop_again {live : List Nat} {R r : Nat → PV} {vs : α → List (Nat × PV)} {J : α → Heap → (Nat → Nat) → Prop} {μ : α → Nat} {a : α} {Q : Exit → PS → Prop} {h : Heap} {c : Nat → Nat} (a' : α) (hm : μ a' < μ a) (h1 : agree R r live) (h2 : holds r (vs a')) (h3 : J a' h c) :
   loopQ (LI live R vs J μ) (μ a) Q .normal ⟨r, h, c⟩ := ⟨μ a', hm, a', rfl, h1, h2, h3⟩
theorem pwp_seq_cutG {R : Nat → PV} {H : Heap} {C : Nat → Nat} {Q : Exit → PS → Prop} {a b : Code} (live : List Nat) (vs : List (Nat × PV))
   (h1 : ∀ K : PS → Prop, (∀ r, agree R r live → holds r vs → K ⟨r, H, C⟩) → pwp P a (seqQ K Q) ⟨R, H, C⟩) (h2 : ∀ r, pwp P b Q ⟨sets (mix live R r) vs, H, C⟩) : pwp P (.seq a b) Q ⟨R, H, C⟩ := by
 refine pwp_seq_cut (fun s => ∃ r, agree R r live ∧ holds r vs ∧ s = ⟨r, H, C⟩) (h1 _ fun r ha hv => ⟨r, ha, hv, rfl⟩) fun s ⟨r, ha, hv, he⟩ => ?_;subst he;have := h2 r;rw [mix_eq ha, sets_eq hv] at this;exact this
theorem key_ne {a b x y : Nat} (h : Nat.beq a b = false) : ((a, x) : Key) ≠ (b, y) := fun e => beq_false.1 h (congrArg Prod.fst e)
variable {ρ : Operand → PV} {h : Heap} {key : Key} {x y z : Operand} {t t' : TypeId} {v : PV}
theorem e_alloc {cs : List PV} {n : Nat} (hz : zeroCellsOf P t = some cs) (hn : cs.length = n) (hc : (cs.all PV.cell && Nat.ble 1 n) = true) : eff P ρ h key (.alloc t) = ⟨cs.all PV.cell = true ∧ 1 ≤ n, .ptr key n 0 0, [(key, some (.rows n [cs]))], [], true⟩ := by
 subst hn; simp only [eff, hz, allocEff]
theorem ob_alloc {cs : List PV} {n : Nat} (hc : (cs.all PV.cell && Nat.ble 1 n) = true) : cs.all PV.cell = true ∧ 1 ≤ n := by
 simp only [Bool.and_eq_true] at hc; exact ⟨hc.1, Nat.le_of_ble_eq_true hc.2⟩
theorem e_box {cs : List PV} {n : Nat} (hx : ρ x = .agg cs) (hn : cs.length = n) : eff P ρ h key (.box t x) = ⟨cs.all PV.cell = true ∧ 1 ≤ n, .ptr key n 0 0, [(key, some (.rows n [cs]))], [], true⟩ := by
 subst hn; simp only [eff, hx, boxEff, allocEff, pcells]
theorem e_box1 (hx : ρ x = v) (hp : pcells v = [v]) : eff P ρ h key (.box t x) = ⟨[v].all PV.cell = true ∧ 1 ≤ 1, .ptr key 1 0 0, [(key, some (.rows 1 [[v]]))], [], true⟩ := by
 simp only [eff, hx, boxEff, allocEff, hp]; rfl
theorem e_storeA {k : Key} {n : Nat} {z cs : List PV} (hx : ρ x = .ptr k n 0 0) (hk : h k = some (.rows n [z])) (hy : ρ y = .agg cs) (hz : z.length = n) (hn : cs.length = n) (hs : tySize P t = n) (hc : cs.all PV.cell = true) (ht : tyOk P t = true) :
   eff P ρ h key (.store t x y) = ⟨True, .dead, [(k, some (.rows n [cs]))], [k], false⟩ := by
 have h1 : setAt z 0 cs = cs := by
   unfold setAt;rw [List.take_zero, List.nil_append, Nat.zero_add, hn, ← hz, List.drop_length, List.append_nil]
 simp only [eff, storeEff, hx, hk, hy, pcells, hn, hs, hc, ht, setRow];simp [h1]
theorem e_store1 {k : Key} {n j : Nat} {z : List PV} (hx : ρ x = .ptr k n 0 j) (hk : h k = some (.rows n [z])) (hy : ρ y = v) (hp : pcells v = [v]) (hz : z.length = n) (hj : j < n) (hs : tySize P t = 1) (hc : v.cell = true) (ht : tyOk P t = true) :
   eff P ρ h key (.store t x y) = ⟨True, .dead, [(k, some (.rows n [z.set j v]))], [k], false⟩ := by
 have h1 : setAt z j [v] = z.set j v := by
   unfold setAt;rw [List.set_eq_take_append_cons_drop, if_pos (by omega)]; simp
 simp only [eff, storeEff, hx, hk, hy, hp, hs, ht, setRow];simp [h1, hc]; omega
theorem e_loadH {k : Key} {sz i j : Nat} {rs : Rows} (hx : ρ x = .ptr k sz i j) (hk : h k = some (.rows sz rs)) (hg : tyAgg P t = false) (hs : tySize P t = 1) (ht : tyOk P t = true) (hi : i < rs.length) (hj : j < sz) (hv : cellAt rs i j = v) :
   eff P ρ h key (.load t x) = ⟨True, v, [], [k], false⟩ := by
 simp only [eff, hx, loadEff, hk, hg, hs, ht, hv]; simp [hi]; omega
theorem e_loadHA {k : Key} {sz i j n : Nat} {rs : Rows} {cs : List PV} (hx : ρ x = .ptr k sz i j) (hk : h k = some (.rows sz rs)) (hg : tyAgg P t = true) (hs : tySize P t = n) (ht : tyOk P t = true) (hi : i < rs.length) (hj : j + n ≤ sz) (hv : aggAt rs i j n = cs) :
   eff P ρ h key (.load t x) = ⟨True, .agg cs, [], [k], false⟩ := by
 simp only [eff, hx, loadEff, hk, hg, hs, ht, hv]; simp [hi, hj]
theorem e_faP {k : Key} {sz i j f o : Nat} {pl : List (Nat × Nat × Bool)} (hx : ρ x = .ptr k sz i j) (ht : structOk P t = true) (hp : places P t = pl) (hf : f < pl.length) (ho : (pl.getD f (0, 0, false)).1 = o) :
   eff P ρ h key (.fieldAddr t x f) = ⟨True, .ptr k sz i (j + o), [], [], false⟩ := by
 simp only [eff, hx, fieldAddrEff, ht, hp, ho, hf]; simp
theorem e_ixaR {k : Key} {sz off len : Nat} {kd : IntKind} {i : Int} (hx : ρ x = .ref k sz off len) (hy : ρ y = .sc (.int kd i)) (ht : sliceOk P t = true) (hs : tySize P (elemTy P t) = sz) (hi : 0 ≤ i ∧ i < len) :
   eff P ρ h key (.indexAddr t x y) = ⟨True, .ptr k sz (off + i.toNat) 0, [], [], false⟩ := by
 simp only [eff, hx, hy, indexAddrEff, ht, hs]; simp [hi]
theorem e_nilc {k : Key} {sz i j : Nat} (hx : ρ x = .ptr k sz i j) : eff P ρ h key (.nilCheck x) = ⟨True, .ptr k sz i j, [], [], false⟩ := by
 simp only [eff, hx]
theorem e_build {parts : Array (Nat × Operand)} {cs : List PV} {ps : List (Nat × PV)} {pl : List (Nat × Nat × Bool)} {zs : List PV} (hz : zeroCellsOf P t = some zs) (hpl : places P t = pl) (hso : structOk P t = true) (hza : zs.all PV.cell = true) (hp : (parts.toList.map fun p => (p.1, ρ p.2)) = ps)
   (hf : fillOk pl zs.length ps) (hcs : fillCells pl zs ps = cs) : eff P ρ h key (.build t parts) = ⟨True, .agg cs, [], [], false⟩ := by
 simp only [eff, hp, buildEff, hz, hpl, hso, hza, hcs]; simp [hf]
theorem e_bslice {parts : Array (Nat × Operand)} {rows : Rows} {n sz : Nat} {ps : List (Nat × PV)} {zs : List PV} (hz : zeroCellsOf P (elemTy P t) = some zs) (hso : sliceOk P t = true) (hl : zs.length = sz) (hs : tySize P (elemTy P t) = sz) (hn : n * sz ≤ 2 ^ 24) (hza : zs.all PV.cell = true) (hp : (parts.toList.map fun p => (p.1, ρ p.2)) = ps)
   (hf : fillRowsOk n sz ps) (hr : fillRows (List.replicate n zs) ps = rows) : eff P ρ h key (.buildSlice t n parts) = ⟨True, .ref key sz 0 n, [(key, some (.rows sz rows))], [], true⟩ := by
 subst hl;simp only [eff, hp, buildSliceEff, hz, hso, hs, hza, hr]; simp [hf, hn]
def SliceAt (h : Heap) (d : Nat) (v : PV) (sz : Nat) (rows : Rows) : Prop := (rows = [] ∧ v = .nil) ∨ ∃ g, v = .ref (d, g) sz 0 rows.length ∧ h (d, g) = some (.rows sz rows)
theorem SliceAt.nil {h : Heap} {d sz : Nat} : SliceAt h d .nil sz [] := .inl ⟨rfl, rfl⟩
theorem SliceAt.keep {h h' : Heap} {d sz : Nat} {v : PV} {rows : Rows} (hs : SliceAt h d v sz rows) (hk : ∀ g, h' (d, g) = h (d, g)) : SliceAt h' d v sz rows := by
 rcases hs with h1 | ⟨g, h1, h2⟩
 · exact .inl h1
 · exact .inr ⟨g, h1, (hk g).trans h2⟩
variable {K : PS → Prop} {d : Nat} {ty : TypeId} {pos : String} {aft : Array Edge} {gd : Option (Nat × Bool)} {rest : List Oper} {r : Nat → PV} {cnt : Nat → Nat}
theorem src_ref {sz n2 : Nat} {rows2 : Rows} {k2 : Key} (hk2 : h k2 = some (.rows sz rows2)) (hn : rows2.length = n2) : (srcRows h sz (.ref k2 sz 0 n2)).1 ∧ (srcRows h sz (.ref k2 sz 0 n2)).2.1 = rows2 := by
 unfold srcRows;simp only [hk2];subst hn;simp
theorem src_lit {sz : Nat} {tt : Bool} {rows2 : Rows} : (srcRows h sz (.lit tt sz rows2)).1 ∧ (srcRows h sz (.lit tt sz rows2)).2.1 = rows2 := by
 unfold srcRows;simp
theorem p_app {ts : Array TypeId} {t2 : TypeId} {u u2 : PV} {sz d1 : Nat} {rows rows2 : Rows} (hts : ts.toList = [t, t2]) (hx : ev r x = u) (hy : ev r y = u2) (hs : SliceAt h d1 u sz rows) (hsr : (srcRows h sz u2).1 ∧ (srcRows h sz u2).2.1 = rows2)
   (hok : (sliceOk P t && (decide (P.bytesOf (elemTy P t) < 2 ^ 15) && (decide (intKind P t2 = none) && (zeroOk P (elemTy P t) && ((P.underlying t2).isSome && decide (tySize P (elemTy P t) = sz)))))) = true) (hlen : rows.length + rows2.length < 2 ^ 32)
   (hk : ∀ v' h' c', SliceAt h' d v' sz (rows ++ rows2) → (∀ k' : Key, k' ≠ (d, cnt d) → (∀ g, u = .ref (d1, g) sz 0 rows.length → k' ≠ (d1, g)) → h' k' = h k') → pOps P K rest ⟨setT r d v', h', c'⟩) :
   pOps P K (⟨some d, .call { callee := .builtin .append, args := #[x, y], argTypes := ts }, ty, pos, aft, gd⟩ :: rest) ⟨r, h, cnt⟩ := by
 simp only [Bool.and_eq_true, decide_eq_true_eq] at hok;obtain ⟨o1, o2, o3, o4, o5, o6⟩ := hok;subst o6
 have he : ∀ u, ev r x = u → eff P (ev r) h (d, cnt d) (.call { callee := .builtin .append, args := #[x, y], argTypes := ts }) = appendEff P h (d, cnt d) t t2 u u2 := fun u hu => by
   show builtinEff P h (d, cnt d) .append ts.toList [ev r x, ev r y] = _;rw [hts, hu, hy]; rfl
 rcases hs with ⟨rfl, rfl⟩ | ⟨g, rfl, hg⟩
 · have hq := he _ hx;unfold appendEff at hq;simp only [hsr.2] at hq;cases hne : rows2.isEmpty with
   | true =>
     have hr2 : rows2 = [] := by simpa using hne
     rw [hne] at hq;simp only [cond_true] at hq;exact p_step rfl hq ⟨⟨o1, o2, o3, o4, o5⟩, hsr.1⟩ (hk _ _ _ (.inl ⟨by rw [hr2]; rfl, rfl⟩) fun k' _ _ => rfl)
   | false =>
     rw [hne] at hq;simp only [cond_false] at hq;refine p_new rfl hq ⟨⟨o1, o2, o3, o4, o5⟩, hsr.1, (by intro e; rw [e] at hne; cases hne), by simp at hlen; omega⟩ (hk _ _ _ (.inr ⟨cnt d, by rw [List.nil_append], by rw [List.nil_append]; exact hset_self _ _ _⟩) fun k' h1 _ => hset_ne h1)
 · have hq := he _ hx;unfold appendEff at hq;simp only [hg, hsr.2] at hq;refine p_renew rfl hq (by refine ⟨⟨o1, o2, o3, o4, o5⟩, hsr.1, ?_⟩; simp; omega) (hk _ _ _ (.inr ⟨cnt d, by rw [List.length_append], ?_⟩) fun k' h1 h2 => ?_)
   · rw [hset_self, List.drop_zero, List.take_length]
   · rw [hset_ne h1, hset_ne (h2 g rfl)]
theorem SliceAt.len {d1 : Nat} {u : PV} {sz : Nat} {rows : Rows} {t2 : TypeId} (hs : SliceAt h d1 u sz rows) (hx : ρ x = u) (ht : sliceOk P t2 = true) : eff P ρ h key (.call { callee := .builtin .len, args := #[x], argTypes := #[t2] }) = ⟨True, .int rows.length, [], [], false⟩ := by
 rcases hs with ⟨rfl, rfl⟩ | ⟨g, rfl, hg⟩
 · exact e_lenN hx ht
 · exact e_lenR hx ht
theorem SliceAt.isRef {d1 : Nat} {u : PV} {sz : Nat} {rows : Rows} (hs : SliceAt h d1 u sz rows) (hp : rows ≠ []) : ∃ g, u = .ref (d1, g) sz 0 rows.length ∧ h (d1, g) = some (.rows sz rows) := by
 rcases hs with ⟨rfl, _⟩ | h1
 · exact absurd rfl hp
 · exact h1
theorem SliceAt.inn {d1 : Nat} {u : PV} {sz : Nat} {rows rows' : Rows} (hs : SliceAt h d1 u sz rows) (he : rows = rows') (hp : ∀ row ∈ rows, ∀ p ∈ row, Pure p) : Inn h u (.lit true sz rows') := by
 subst he;rcases hs with ⟨rfl, rfl⟩ | ⟨g, rfl, hg⟩
 · exact inn_nil
 · exact .base (.ref hg (by omega) (by simp) hp)
theorem SliceAt.ofRef {d1 g n sz : Nat} {rows : Rows} (hk : h (d1, g) = some (.rows sz rows)) (hn : rows.length = n) : SliceAt h d1 (.ref (d1, g) sz 0 n) sz rows := .inr ⟨g, by rw [hn], hk⟩
end
section
variable {α : Type} {f : α → List PV} {xs : List α} {i : Nat} {a : α}
theorem cell_map (hx : xs[i]? = some a) (j : Nat) : cellAt (xs.map f) i j = (f a).getD j .dead := by
 simp [cellAt, List.getD_eq_getElem?_getD, hx]
theorem agg_map {n : Nat} (hx : xs[i]? = some a) (hl : (f a).length = n) : aggAt (xs.map f) i 0 n = f a := by
 subst hl;simp [aggAt, List.getD_eq_getElem?_getD, hx]
theorem pure_map (hp : ∀ a, ∀ p ∈ f a, Pure p) : ∀ row ∈ xs.map f, ∀ p ∈ row, Pure p := fun row hr p h => by
 obtain ⟨a, _, rfl⟩ := List.mem_map.1 hr; exact hp a p h
theorem get_lt (h : i < xs.length) : ∃ a, xs[i]? = some a ∧ xs.drop i = a :: xs.drop (i + 1) ∧ xs.take (i + 1) = xs.take i ++ [a] :=
 ⟨xs[i], List.getElem?_eq_getElem h, List.drop_eq_getElem_cons h, by rw [List.take_add_one, List.getElem?_eq_getElem h]; rfl⟩
end
theorem rows_of {α : Type} {f : α → List PV} {ok : α → Prop} : ∀ {rows : Rows}, (∀ row ∈ rows, ∃ a, row = f a ∧ ok a) → ∃ xs : List α, rows = xs.map f ∧ ∀ a ∈ xs, ok a
 | [], _ => ⟨[], rfl, by simp⟩
 | row :: rows, h => by
   obtain ⟨a, ha, ho⟩ := h row (by simp);obtain ⟨xs, hx, hxo⟩ := rows_of (rows := rows) fun r hr => h r (by simp [hr]);exact ⟨a :: xs, by rw [ha, hx]; rfl, fun b hb => by rcases List.mem_cons.1 hb with rfl | hb; exact ho; exact hxo b hb⟩
theorem wf64 {z : Int} (h : (Lit.int .i64 z).wf = true) : -9223372036854775808 ≤ z ∧ z ≤ 9223372036854775807 := by
 simp only [Lit.wf, Bool.and_eq_true, decide_eq_true_eq] at h;exact h
theorem SliceAt.to {h : Heap} {d sz : Nat} {v : PV} {rows rows' : Rows} (hs : SliceAt h d v sz rows) (he : rows = rows') : SliceAt h d v sz rows' := he ▸ hs
end Go.Pv
namespace Go.Pv
open Go
section
variable {P : Program} {ρ : Operand → PV} {h : Heap} {key : Key} {x y z : Operand} {t t' : TypeId} {v : PV}
theorem e_mkf {fn : Fn} {first cap : Array Operand} {cs : List PV} (hc : cap.toList.map ρ = cs) : eff P ρ h key (.makeFunc fn first cap) = ⟨True, .func fn (first.toList.map ρ) cs, [], [], false⟩ := by
 subst hc; rfl
theorem e_index {s : ByteArray} {k : IntKind} {i : Int} (hx : ρ x = .str s) (hy : ρ y = .sc (.int k i)) (ht : isStringTy P t = true) (hi : 0 ≤ i ∧ i < s.size) :
   eff P ρ h key (.index t x y) = ⟨True, .sc (.int .u8 ((s.data.toList.getD i.toNat 0).toNat)), [], [], false⟩ := by
 simp only [eff, hx, hy, indexEff, ht]; simp [hi]
def byteAt (s : ByteArray) (n : Nat) : Int := ((s.data.toList.getD n 0).toNat : Int)
theorem e_indexN {s : ByteArray} {k : IntKind} {i : Int} {n : Nat} (hx : ρ x = .str s) (hy : ρ y = .sc (.int k i)) (hn : i = (n : Int)) (ht : isStringTy P t = true) (hi : n < s.size) :
   eff P ρ h key (.index t x y) = ⟨True, .sc (.int .u8 (byteAt s n)), [], [], false⟩ := by
 subst hn;exact e_index hx hy ht (by omega)
theorem e_storeC {k : Key} {n j : Nat} {zs : List PV} (hx : ρ x = .ptr k n 0 j) (hk : h k = some (.rows n [zs])) (hy : ρ y = v) (hp : pcells v = [v]) (hz : zs.length = n) (hj : j < n) (hs : tySize P t = 1) (hc : v.cell = true) (ht : tyOk P t = true) :
   eff P ρ h key (.store t x y) = ⟨True, .dead, [(k, some (.rows n [zs.set j v]))], [k], false⟩ := e_store1 hx hk hy hp hz hj hs hc ht
def ci (n : Int) : List PV := [.int n]
theorem ci_pure (n : Int) : ∀ p ∈ ci n, Pure p := fun p hp => by simp [ci] at hp; subst hp; exact .sc _
theorem e_mkI {l c : Operand} {L : Int} {n : Nat} (hx : ρ l = .int L) (hy : ρ c = .int L) (hn : L = (n : Int)) (hz : zeroCellsOf P (elemTy P t) = some [.int 0]) (ho : sliceOk P t = true) (hs : tySize P (elemTy P t) = 1) (hb : P.bytesOf (elemTy P t) < 2 ^ 15) (hl : n < 2 ^ 32) :
   eff P ρ h key (.makeSlice t l c) = ⟨True, .ref key 1 0 n, [(key, some (.rows 1 ((List.replicate n (0 : Int)).map ci)))], [], true⟩ := by
 subst hn;have h1 : (List.replicate n (0 : Int)).map ci = List.replicate n [PV.int 0] := by simp [ci]
 simp only [eff, hx, hy, makeSliceEff, hz, ho, hs, hb, h1];simp [PV.cell]; omega
theorem e_loadI {k : Key} {zs : List Int} {i : Nat} {a : Int} (hx : ρ x = .ptr k 1 i 0) (hk : h k = some (.rows 1 (zs.map ci))) (hg : tyAgg P t = false) (hs : tySize P t = 1) (ht : tyOk P t = true) (ha : zs[i]? = some a) :
   eff P ρ h key (.load t x) = ⟨True, .int a, [], [k], false⟩ := by
 have hi : i < zs.length := (List.getElem?_eq_some_iff.1 ha).1;exact e_loadH hx hk hg hs ht (by simpa using hi) (by omega) ((cell_map ha _).trans rfl)
theorem e_storeI {k : Key} {zs : List Int} {i : Nat} {a : Int} (hx : ρ x = .ptr k 1 i 0) (hk : h k = some (.rows 1 (zs.map ci))) (hy : ρ y = .int a) (hi : i < zs.length) (hs : tySize P t = 1) (ht : tyOk P t = true) :
   eff P ρ h key (.store t x y) = ⟨True, .dead, [(k, some (.rows 1 ((zs.set i a).map ci)))], [k], false⟩ := by
 have h1 : setRow (zs.map ci) i 0 [.int a] = (zs.set i a).map ci := by
   unfold setRow setAt;rw [List.map_set];congr 1;simp [List.getD_eq_getElem?_getD, hi, ci]
 simp only [eff, storeEff, hx, hk, hy, pcells, hs, ht, h1];simp [hi, PV.cell]
end
section
variable {h : Heap}
theorem inn_ptr {k : Key} {sz i j : Nat} {rs : Rows} (hk : h k = some (.rows sz rs)) (hp : ∀ row ∈ rs, ∀ p ∈ row, Pure p) : Inn0 h (.ptr k sz i j) (.lptr true sz rs i j) := .ptr hk hp
theorem inn_clos1 {f : Fn} {c c' : PV} (hc : Inn0 h c c') : Inn h (.func f [] [c]) (.func f [] [c']) :=
 .func rfl rfl (fun i p q hp _ => by simp at hp) fun i p q hp hq => by
   rcases i with _ | i
   · simp at hp hq; subst hp; subst hq; exact hc
   · simp at hp
theorem inn_ref {k : Key} {sz n : Nat} {rs rows : Rows} (hk : h k = some (.rows sz rs)) (hl : rs.length = n) (he : rs = rows) (hp : ∀ row ∈ rs, ∀ p ∈ row, Pure p) : Inn h (.ref k sz 0 n) (.lit true sz rows) := by
 subst he; subst hl;exact .base (.ref hk (by omega) (by simp) hp)
theorem pure_one {v : PV} (hv : Pure v) : ∀ row ∈ [[v]], ∀ p ∈ row, Pure p := fun row hr p hp => by
 simp at hr; subst hr; simp at hp; subst hp; exact hv
theorem inn_lptr {tt : Bool} {sz i j : Nat} {rows : Rows} : Inn h (.lptr tt sz rows i j) (.lptr true sz rows i j) := .base (.lptr fun _ => rfl)
theorem out_slice {α : Type} {f : α → List PV} {xs : List α} {d sz : Nat} {v : PV} {rows : Rows} (hs : SliceAt h d v sz rows) (he : rows = xs.map f) (hl : ∀ a, (f a).length = sz) (hp : ∀ a, ∀ p ∈ f a, Clean p ∧ p.cell = true) : Out h v (.lit false sz (xs.map f)) := by
 subst he;rcases hs with ⟨h1, rfl⟩ | ⟨g, rfl, hg⟩
 · rw [h1]; exact .nil sz
 · refine .ref hg (by omega) rfl (fun row hr => ?_) (fun i j row row' p p' h1 h2 h3 h4 => ?_) (fun row hr p hp' => ?_)
   · obtain ⟨a, _, rfl⟩ := List.mem_map.1 hr; exact hl a
   · rw [Nat.zero_add] at h1;rw [h1] at h2; cases h2;rw [h3] at h4; cases h4;obtain ⟨a, _, rfl⟩ := List.mem_map.1 (List.mem_of_getElem? h1);exact .clean (hp a p (List.mem_of_getElem? h3)).1
   · obtain ⟨a, _, rfl⟩ := List.mem_map.1 hr; exact (hp a p hp').2
end
section
variable {P : Program} {R : PV → Heap → (Nat → Nat) → Prop} {r : Nat → PV} {h : Heap} {cnt : Nat → Nat}
end
section
variable {P : Program} {K : PS → Prop} {d : Nat} {op : Op} {ty : TypeId} {pos : String} {aft : Array Edge} {gd : Option (Nat × Bool)} {rest : List Oper} {r : Nat → PV} {h : Heap} {cnt : Nat → Nat} {ops : Array Oper} {i : Nat} {G : Nat → Bool} {dd : Bool}
structure Ft where
 i : Nat
 rd : List Nat
 wr : List Nat
def Fits (tr : List Foot) (ts : List Ft) : Prop := tr.length = ts.length ∧ ∀ (j : Nat) (x : Foot) (t : Ft), tr[j]? = some x → ts[j]? = some t → x.i = t.i ∧ (∀ k ∈ x.rd, k.1 ∈ t.rd) ∧ (∀ k ∈ x.wr, k.1 ∈ t.wr)
theorem Fits.snoc {tr : List Foot} {ts : List Ft} {x : Foot} {t : Ft} (hf : Fits tr ts) (h1 : x.i = t.i) (h2 : ∀ k ∈ x.rd, k.1 ∈ t.rd) (h3 : ∀ k ∈ x.wr, k.1 ∈ t.wr) : Fits (tr ++ [x]) (ts ++ [t]) := by
 refine ⟨by simp [hf.1], fun j y u hy hu => ?_⟩;rw [List.getElem?_append] at hy hu;by_cases hj : j < tr.length
 · rw [if_pos hj] at hy;rw [if_pos (by rw [← hf.1]; exact hj)] at hu;exact hf.2 j y u hy hu
 · rw [if_neg hj] at hy;rw [if_neg (by rw [← hf.1]; exact hj)] at hu;rw [hf.1] at hy;cases hq : j - ts.length with
   | zero => rw [hq] at hy hu; simp at hy hu; subst hy; subst hu; exact ⟨h1, h2, h3⟩
   | succ m => rw [hq] at hy; simp at hy
def djB (a b : List Nat) : Bool := a.all fun x => b.all fun y => !Nat.beq x y
theorem djB_ok {a b : List Nat} {u w : List Key} (hd : djB a b = true) (hu : ∀ k ∈ u, k.1 ∈ a) (hw : ∀ k ∈ w, k.1 ∈ b) : disjointK u w := fun k h1 h2 => by
 have := List.all_eq_true.1 (List.all_eq_true.1 hd _ (hu k h1)) _ (hw k h2);simp at this
def indB (ops : Array Oper) (x y : Ft) : Bool := waitsFor ops ops.size y.i x.i || ((((do let a ← ops[x.i]?; let b ← ops[y.i]?; pure (a.apart ops b && (siteOf a != siteOf b || (a.dst.isNone && b.dst.isNone)))) : Option Bool).getD false) && (djB x.wr y.rd && ((softAt ops x.i y.i || djB y.wr x.rd) && djB x.wr y.wr)))
def indAll (ops : Array Oper) : List Ft → Bool
 | [] => true
 | x :: l => l.all (indB ops x) && indAll ops l
theorem indAll_ok : ∀ {ts : List Ft} {tr : List Foot}, indAll ops ts = true → Fits tr ts → IndepAll ops tr
 | [], [], _, _ => trivial
 | [], _ :: _, _, hf => by have := hf.1; simp at this
 | _ :: _, [], _, hf => by have := hf.1; simp at this
 | t :: ts, x :: tr, hi, hf => by
   simp only [indAll, Bool.and_eq_true] at hi;obtain ⟨e1, e2, e3⟩ := hf.2 0 x t rfl rfl;have hf' : Fits tr ts := ⟨by have := hf.1; simpa using this, fun j y u h1 h2 => hf.2 (j + 1) y u h1 h2⟩
   refine ⟨fun y hy => ?_, indAll_ok hi.2 hf'⟩;obtain ⟨j, hj⟩ := List.mem_iff_getElem?.1 hy;have hlt : j < ts.length := by rw [← hf'.1]; exact (List.getElem?_eq_some_iff.1 hj).1
   obtain ⟨u, hu⟩ : ∃ u, ts[j]? = some u := ⟨_, List.getElem?_eq_getElem hlt⟩
   obtain ⟨f1, f2, f3⟩ := hf'.2 j y u hj hu;have hb := List.all_eq_true.1 hi.1 u (List.mem_of_getElem? hu);simp only [indB, Bool.or_eq_true, Bool.and_eq_true] at hb;rcases hb with hb | ⟨hb, b1, b2, b3⟩
   · left; rw [e1, f1]; exact hb
   · right; refine ⟨by rw [e1, f1]; exact hb, djB_ok b1 e3 f2, (b2.imp (by rw [e1, f1]; exact id) fun b2 => djB_ok b2 f3 e2), djB_ok b3 e3 f3⟩
def sRun (P : Program) (ops : Array Oper) (dd : Bool) (K : PS → Prop) (l : List Oper) (i : Nat) (s : PS) (G : Nat → Bool) (ts : List Ft) : Prop := ∀ tr, Fits tr ts → gOps P ops dd K l i ⟨s, G⟩ tr
theorem s_begin (hr : sRun P ops dd K ops.toList 0 ⟨r, h, cnt⟩ (fun _ => true) []) : gOps P ops dd K ops.toList 0 ⟨⟨r, h, cnt⟩, fun _ => true⟩ [] := hr [] ⟨rfl, fun j x t hx => by simp at hx⟩
theorem s_end {ds : List Nat} {ts : List Ft} (hs : (!dd || indAll ops ts) = true) (hd : guardedOf ops.toList = ds) (hk : K ⟨deadT r ds, h, cnt⟩) : sRun P ops dd K [] i ⟨r, h, cnt⟩ G ts := by
 intro tr ht;refine ⟨fun hd => indAll_ok (by rw [hd] at hs; exact hs) ht, ?_⟩;show K (fin ops.toList ⟨r, h, cnt⟩);unfold fin;rw [fin_deadT, hd];exact hk
theorem s_step {ob : Prop} {v : PV} {rd : List Key} {ts : List Ft} (rs : List Nat) (hrd : ∀ k ∈ rd, k.1 ∈ rs) (hg : gobB ops r G gd = true) (hgv : gval ops ⟨⟨r, h, cnt⟩, G⟩ gd = true) (hc : callOf r op = none) (hv : validB r G op = true) (he : eff P (ev r) h (d, cnt d) op = ⟨ob, v, [], rd, false⟩) (hob : ob)
   (hk : sRun P ops dd K rest (i + 1) ⟨setT r d v, h, cnt⟩ (setB G d true) (ts ++ [⟨i, rs, []⟩])) : sRun P ops dd K (⟨some d, op, ty, pos, aft, gd⟩ :: rest) i ⟨r, h, cnt⟩ G ts := by
 intro tr ht;unfold gOps;refine ⟨gobB_ok hg, ?_⟩;show match callOf r op with | none => _ | some (f, args) => _
 rw [hc];simp only [siteOf, Option.getD_some];rw [he, hgv];refine ⟨fun _ => ⟨validB_ok hv, hob⟩, (fun h => by cases h), ?_⟩;have := hk (tr ++ [⟨i, rd, []⟩]) (ht.snoc rfl hrd (by simp));simp only [stepG, stepS, putR_setT, setG_setB, effG, if_true];exact this
theorem s_new {ob : Prop} {v : PV} {rd : List Key} {g : Nat} {o : Option PObj} {ts : List Ft} (rs : List Nat) (hrd : ∀ k ∈ rd, k.1 ∈ rs) (hg : gobB ops r G gd = true) (hgv : gval ops ⟨⟨r, h, cnt⟩, G⟩ gd = true) (hc : callOf r op = none) (hv : validB r G op = true) (he : eff P (ev r) h (d, cnt d) op = ⟨ob, v, [((d, g), o)], rd, true⟩) (hob : ob)
   (hk : sRun P ops dd K rest (i + 1) ⟨setT r d v, hset h (d, g) o, cset cnt d⟩ (setB G d true) (ts ++ [⟨i, rs, [d]⟩])) : sRun P ops dd K (⟨some d, op, ty, pos, aft, gd⟩ :: rest) i ⟨r, h, cnt⟩ G ts := by
 intro tr ht;unfold gOps;refine ⟨gobB_ok hg, ?_⟩;show match callOf r op with | none => _ | some (f, args) => _
 rw [hc];simp only [siteOf, Option.getD_some];rw [he, hgv];refine ⟨fun _ => ⟨validB_ok hv, hob⟩, (fun _ => rfl), ?_⟩;have := hk (tr ++ [⟨i, rd, [(d, g)]⟩]) (ht.snoc rfl hrd (by simp));simp only [stepG, stepS, putR_setT, setG_setB, effG, if_true];exact this
theorem s_store {ob : Prop} {v : PV} {rd : List Key} {e g : Nat} {o : Option PObj} {ts : List Ft} (rs : List Nat) (hrd : ∀ k ∈ rd, k.1 ∈ rs) (hc : callOf r op = none) (hv : validB r G op = true) (he : eff P (ev r) h (999983, cnt 999983) op = ⟨ob, v, [((e, g), o)], rd, false⟩) (hob : ob)
   (hk : sRun P ops dd K rest (i + 1) ⟨r, hset h (e, g) o, cnt⟩ G (ts ++ [⟨i, rs, [e]⟩])) : sRun P ops dd K (⟨none, op, ty, pos, aft, none⟩ :: rest) i ⟨r, h, cnt⟩ G ts := by
 intro tr ht;unfold gOps;refine ⟨trivial, ?_⟩;show match callOf r op with | none => _ | some (f, args) => _
 rw [hc];simp only [siteOf, Option.getD_none];rw [he];refine ⟨fun _ => ⟨validB_ok hv, hob⟩, (fun h => by cases h), ?_⟩;exact hk (tr ++ [⟨i, rd, [(e, g)]⟩]) (ht.snoc rfl hrd (by simp))
theorem s_call {f : FuncId} {args as' : List PV} {v : PV} {ts : List Ft} (rs : List Nat) (hrd : ∀ k ∈ args.flatMap keysOf, k.1 ∈ rs) (hg : gobB ops r G gd = true) (hgv : gval ops ⟨⟨r, h, cnt⟩, G⟩ gd = true) (hc : callOf r op = some (f, args)) (hv : validB r G op = true) (hi : Inns h args as') (hp : PCalls P f as' v)
   (hk : sRun P ops dd K rest (i + 1) ⟨setT r d v, h, cnt⟩ (setB G d true) (ts ++ [⟨i, rs, []⟩])) : sRun P ops dd K (⟨some d, op, ty, pos, aft, gd⟩ :: rest) i ⟨r, h, cnt⟩ G ts := by
 intro tr ht;unfold gOps;refine ⟨gobB_ok hg, ?_⟩;show match callOf r op with | none => _ | some (f, args) => _
 rw [hc];refine .inl ⟨v, fun _ => ⟨validB_ok hv, as', hi, hp⟩, ?_⟩;rw [hgv];have := hk (tr ++ [⟨i, args.flatMap keysOf, []⟩]) (ht.snoc rfl hrd (by simp));simp only [stepG, stepS, putR_setT, setG_setB];exact this
end
end Go.Pv
namespace Go.Pv
open Go
section
variable {α β : Type} [DecidableEq α]
def aGet (k : α) : List (α × β) → Option β
 | [] => none
 | e :: l => if k = e.1 then some e.2 else aGet k l
def aSet (k : α) (v : β) : List (α × β) → List (α × β)
 | [] => [(k, v)]
 | e :: l => if k = e.1 then (k, v) :: l else e :: aSet k v l
theorem aGet_aSet (k k' : α) (v : β) : ∀ l : List (α × β), aGet k' (aSet k v l) = if k' = k then some v else aGet k' l
 | [] => by simp [aSet, aGet]
 | e :: l => by
   unfold aSet;split
   · rename_i h;subst h;simp only [aGet];by_cases hk : k' = e.1 <;> simp [hk]
   · rename_i h;simp only [aGet, aGet_aSet k k' v l];by_cases hk : k' = e.1
     · rw [if_pos hk, if_neg (fun he => h (he.symm.trans hk)), if_pos hk]
     · simp [hk]
variable {f : α → PV} {g : β → PV}
def entsOf (f : α → PV) (g : β → PV) (l : List (α × β)) : List (PV × PV) := l.map fun e => (f e.1, g e.2)
theorem mapFind_of (hf : ∀ a b, keyEq (f a) (f b) = decide (a = b)) (k : α) : ∀ l, mapFind (f k) (entsOf f g l) = (aGet k l).map g
 | [] => rfl
 | e :: l => by
   show (if keyEq (f k) (f e.1) then some (g e.2) else mapFind (f k) (entsOf f g l)) = _;rw [hf, mapFind_of hf k l];by_cases h : k = e.1 <;> simp [aGet, h]
theorem mapSet_of (hf : ∀ a b, keyEq (f a) (f b) = decide (a = b)) (k : α) (v : β) : ∀ l, mapSet (f k) (g v) (entsOf f g l) = entsOf f g (aSet k v l)
 | [] => rfl
 | e :: l => by
   show (if keyEq (f k) (f e.1) then (f k, g v) :: entsOf f g l else (f e.1, g e.2) :: mapSet (f k) (g v) (entsOf f g l)) = _;rw [hf, mapSet_of hf k v l];by_cases h : k = e.1 <;> simp [aSet, h, entsOf]
variable {P : Program} {ρ : Operand → PV} {h : Heap} {key : Key} {x y z : Operand} {t t' : TypeId} {v : PV}
omit [DecidableEq α] in
theorem ents_ok {kt : TypeId} {l : List (α × β)} (hk : ∀ a, keyOk P kt (f a)) : ∀ e ∈ entsOf f g l, keyOk P kt e.1 := fun e he => by
 obtain ⟨a, _, rfl⟩ := List.mem_map.1 he;exact hk a.1
def MapAt (h : Heap) (k : Key) (es : List (PV × PV)) : Prop :=
 ∃ (bs : List Nat) (clk : Nat), h k = some (.map es bs clk) ∧ bs.length = es.length ∧ bs.Nodup ∧ ∀ b ∈ bs, b < clk
theorem MapAt.keep {h h' : Heap} {k : Key} {es : List (PV × PV)} (hm : MapAt h k es) (he : h' k = h k) : MapAt h' k es := by
 obtain ⟨bs, clk, h1, h2⟩ := hm;exact ⟨bs, clk, he.trans h1, h2⟩
omit [DecidableEq α] in
theorem MapAt.new {h : Heap} {k : Key} : MapAt (hset h k (some (.map [] [] 0))) k (entsOf f g []) := ⟨[], 0, by simp [hset, entsOf], rfl, List.nodup_nil, by simp⟩
theorem mapSet_len {k v : PV} : ∀ {es : List (PV × PV)}, (mapSet k v es).length = if (mapFind k es).isSome then es.length else es.length + 1
 | [] => by simp [mapSet, mapFind]
 | e :: es => by
   unfold mapSet mapFind;split
   · simp
   · rw [List.length_cons, mapSet_len];split <;> simp
def mSet (o : Option PObj) (k v : PV) : PObj :=
 match o with
 | some (.map es bs clk) => .map (mapSet k v es) (stB k es bs clk) (stC k es clk)
 | _ => .map [] [] 0
theorem MapAt.set {h : Heap} {k : Key} {l : List (α × β)} (hf : ∀ a b, keyEq (f a) (f b) = decide (a = b)) (hm : MapAt h k (entsOf f g l)) (a : α) (b : β) : MapAt (hset h k (some (mSet (h k) (f a) (g b)))) k (entsOf f g (aSet a b l)) := by
 obtain ⟨bs, clk, h1, h2, h3, h4⟩ := hm;refine ⟨stB (f a) (entsOf f g l) bs clk, stC (f a) (entsOf f g l) clk, ?_, ?_, ?_, ?_⟩
 · simp only [hset, if_true, h1, mSet, mapSet_of hf]
 · rw [← mapSet_of hf, mapSet_len];unfold stB;split <;> simp [h2]
 · unfold stB;split
   · exact h3
   · refine List.nodup_append.2 ⟨h3, by simp, fun x hx y hy => ?_⟩;simp at hy; subst hy;have := h4 x hx; omega
 · unfold stB stC;split
   · exact h4
   · intro x hx;rcases List.mem_append.1 hx with h | h
     · have := h4 x h; omega
     · simp at h; omega
theorem e_mkmap : eff P ρ h key (.makeMap t none) = ⟨True, .map key, [(key, some (.map [] [] 0))], [], true⟩ := by
 simp only [eff, Option.isNone_none]
theorem e_look {kt et : TypeId} {k : Key} {l : List (α × β)} {a : α} {z : β} (hf : ∀ a b, keyEq (f a) (f b) = decide (a = b)) (hko : ∀ a, keyOk P kt (f a)) (hx : ρ x = .map k) (hy : ρ y = f a) (hm : MapAt h k (entsOf f g l)) (ht : mapTy P t = some (kt, et)) (hz : zeroFit P et = true) (hzv : zeroVal P et = g z) :
   eff P ρ h key (.lookup t x y false) = ⟨True, g ((aGet a l).getD z), [], [k], false⟩ := by
 have h1 : lookRes P et false (mapFind (f a) (entsOf f g l)) = g ((aGet a l).getD z) := by
   rw [mapFind_of hf];unfold lookRes;rw [hzv];cases aGet a l <;> rfl
 obtain ⟨bs, clk, hm, _⟩ := hm;simp only [eff, hx, hy, lookupEff, ht, hm, h1, hz];simp [hko a];exact fun u w hu => ents_ok (g := g) (l := l) hko (u, w) hu
theorem e_mset {kt et : TypeId} {k : Key} {l : List (α × β)} {a : α} {b : β} (hf : ∀ a b, keyEq (f a) (f b) = decide (a = b)) (hko : ∀ a, keyOk P kt (f a)) (hx : ρ x = .map k) (hy : ρ y = f a) (hz : ρ z = g b) (hc : (g b).cell = true) (hm : MapAt h k (entsOf f g l)) (ht : mapTy P t = some (kt, et)) :
   eff P ρ h key (.mapUpdate t x y z) = ⟨True, .dead, [(k, some (mSet (h k) (f a) (g b)))], [k], false⟩ := by
 obtain ⟨bs, clk, hm, _⟩ := hm;simp only [eff, hx, hy, hz, mapUpdateEff, ht, hm, mSet, mval_cell hc];simp [hko a];exact fun u w hu => ents_ok (g := g) (l := l) hko (u, w) hu
end
end Go.Pv
namespace Go.Pv
open Go
section
variable {P : Program} {ρ : Operand → PV} {h : Heap} {key : Key} {x y : Operand} {t t' : TypeId}
theorem e_ixaR0 {k : Key} {sz len : Nat} {kd : IntKind} {i : Int} (hx : ρ x = .ref k sz 0 len) (hy : ρ y = .sc (.int kd i)) (ht : sliceOk P t = true) (hs : tySize P (elemTy P t) = sz) (hi : 0 ≤ i ∧ i < len) :
   eff P ρ h key (.indexAddr t x y) = ⟨True, .ptr k sz i.toNat 0, [], [], false⟩ := by
 have := e_ixaR (P := P) (h := h) (key := key) hx hy ht hs hi;rw [Nat.zero_add] at this; exact this
end
section
variable {h h' : Heap} {d sz : Nat} {v : PV} {rows : Rows}
end
end Go.Pv
namespace Go.Pv
open Go
section
variable {α β : Type} [DecidableEq α] {f : α → PV} {g : β → PV}
variable {P : Program} {ρ : Operand → PV} {h : Heap} {key : Key} {x y : Operand} {t : TypeId}
end
section
variable {P : Program} {ρ : Operand → PV} {h : Heap} {key : Key} {x y : Operand} {t : TypeId}
theorem e_buildA {parts : Array (Nat × Operand)} {cs : List PV} {ps : List (Nat × PV)} {pl : List (Nat × Nat × Bool)} {zs : List PV} (hz : zeroCellsOf P t = some zs) (hpl : places P t = pl) (hso : (arrOk P t).isSome = true) (hza : zs.all PV.cell = true) (hp : (parts.toList.map fun p => (p.1, ρ p.2)) = ps)
   (hf : fillOk pl zs.length ps) (hcs : fillCells pl zs ps = cs) : eff P ρ h key (.build t parts) = ⟨True, .agg cs, [], [], false⟩ := by
 simp only [eff, hp, buildEff, hz, hpl, hso, hza, hcs]; simp [hf]
end
def cb (s : ByteArray) : List PV := [.str s]
theorem cb_pure (s : ByteArray) : ∀ p ∈ cb s, Pure p := fun p hp => by simp [cb] at hp; subst hp; exact .sc _
theorem cb_clean (s : ByteArray) : ∀ p ∈ cb s, Clean p ∧ p.cell = true := fun p hp => by simp [cb] at hp; subst hp; exact ⟨.sc _, rfl⟩
end Go.Pv
namespace Go.Pv
open Go Go.RowKit
section
variable {P : Program} {K : PS → Prop} {d : Nat} {op : Op} {ty : TypeId} {pos : String} {aft : Array Edge} {rest : List Oper} {r : Nat → PV} {h : Heap} {cnt : Nat → Nat} {ops : Array Oper} {i : Nat} {G : Nat → Bool} {dd : Bool} {x y : Operand} {t : TypeId}
def subTo (u : PV) (n : Nat) : PV := match u with | .ref k sz off _ => .ref k sz off n | _ => .nil
def subFrom (u : PV) (n : Nat) : PV := match u with | .ref k sz off len => .ref k sz (off + n) (len - n) | _ => .nil
theorem e_subFrom {ρ : Operand → PV} {key : Key} {d1 sz n : Nat} {u : PV} {rows : Rows} (hs : SliceAt h d1 u sz rows) (hx : ρ x = u) (hy : ρ y = .int (n : Int)) (hn : n ≤ rows.length) (ht : sliceOk P t = true) (hz : tySize P (elemTy P t) = sz) :
   eff P ρ h key (.slice t x (some y) none none) = ⟨True, subFrom u n, [], [], false⟩ := by
 rcases hs with ⟨rfl, rfl⟩ | ⟨g, rfl, hg⟩
 · have : n = 0 := by simpa using hn
   subst this;simp only [eff, Option.map_none, Option.map_some, hx, hy, sliceEff, bound, ht, subFrom]; simp
 · simp only [eff, Option.map_none, Option.map_some, hx, hy, sliceEff, bound, ht, hz, subFrom]; simp; omega
end
end Go.Pv
