/- Loops over states that are written out; own memory; what slices of records read as. -/
import Derived.Test.YtjmjiegplnfiiaaPvZ1
namespace Go.Pv
open Go

/-- The slots that are kept as they were. -/
def mix (live : List Nat) (R r : Nat → PV) : Nat → PV := fun t => bif live.any (Nat.beq t) then R t else r t
def sets (r : Nat → PV) : List (Nat × PV) → Nat → PV
 | [] => r
 | p :: l => setT (sets r l) p.1 p.2
def holds (r : Nat → PV) : List (Nat × PV) → Prop
 | [] => True
 | p :: l => r p.1 = p.2 ∧ holds r l
def agree (R r : Nat → PV) : List Nat → Prop
 | [] => True
 | t :: l => r t = R t ∧ agree R r l

theorem agree_self (R : Nat → PV) : ∀ l, agree R R l
 | [] => trivial
 | _ :: l => ⟨rfl, agree_self R l⟩
theorem agree_get {R r : Nat → PV} {t : Nat} : ∀ {l : List Nat}, agree R r l → l.any (Nat.beq t) = true → r t = R t
 | [], _, h => by simp at h
 | u :: l, ⟨h1, h2⟩, h => by
   rw [List.any_cons, Bool.or_eq_true] at h
   rcases h with h | h
   · rw [Nat.eq_of_beq_eq_true h]; exact h1
   · exact agree_get h2 h
theorem mix_eq {live : List Nat} {R r : Nat → PV} (h : agree R r live) : mix live R r = r := by
 funext t
 unfold mix
 cases hb : live.any (Nat.beq t) with
 | true => exact (agree_get h hb).symm
 | false => rfl
theorem sets_eq {r : Nat → PV} : ∀ {l : List (Nat × PV)}, holds r l → sets r l = r
 | [], _ => rfl
 | p :: l, ⟨h1, h2⟩ => by
   show setT (sets r l) p.1 p.2 = r
   rw [sets_eq h2]
   exact (setT_id h1).symm

section
variable {P : Program} {α : Type}

def LI (live : List Nat) (R : Nat → PV) (vs : α → List (Nat × PV)) (J : α → Heap → (Nat → Nat) → Prop) (μ : α → Nat) (n : Nat) (s : PS) : Prop := ∃ a, μ a = n ∧ agree R s.r live ∧ holds s.r (vs a) ∧ J a s.h s.cnt

theorem pwp_loopR {R : Nat → PV} {H : Heap} {C : Nat → Nat} {Q : Exit → PS → Prop} {cb : Code} (live : List Nat) (vs : α → List (Nat × PV)) (J : α → Heap → (Nat → Nat) → Prop) (μ : α → Nat) (a0 : α) (h0 : holds R (vs a0)) (hJ0 : J a0 H C)
   (body : ∀ a r h c, J a h c → pwp P cb (loopQ (LI live R vs J μ) (μ a) Q) ⟨sets (mix live R r) (vs a), h, c⟩) : pwp P (.loop cb) Q ⟨R, H, C⟩ := by
 refine pwp_loop (LI live R vs J μ) (μ a0) ⟨a0, rfl, agree_self R live, h0, hJ0⟩ fun n s ⟨a, hn, h1, h2, h3⟩ => ?_
 subst hn
 obtain ⟨r, h, c⟩ := s
 have := body a r h c h3
 rw [mix_eq h1, sets_eq h2] at this
 exact this

theorem loop_again {live : List Nat} {R r : Nat → PV} {vs : α → List (Nat × PV)} {J : α → Heap → (Nat → Nat) → Prop} {μ : α → Nat} {a : α} {Q : Exit → PS → Prop} {h : Heap} {c : Nat → Nat} (a' : α) (hm : μ a' < μ a) (h1 : agree R r live) (h2 : holds r (vs a')) (h3 : J a' h c) :
   loopQ (LI live R vs J μ) (μ a) Q .normal ⟨r, h, c⟩ := ⟨μ a', hm, a', rfl, h1, h2, h3⟩

/-- Many ways through a statement come together. -/
theorem pwp_seq_cutG {R : Nat → PV} {H : Heap} {C : Nat → Nat} {Q : Exit → PS → Prop} {a b : Code} (live : List Nat) (vs : List (Nat × PV))
   (h1 : ∀ K : PS → Prop, (∀ r, agree R r live → holds r vs → K ⟨r, H, C⟩) → pwp P a (seqQ K Q) ⟨R, H, C⟩) (h2 : ∀ r, pwp P b Q ⟨sets (mix live R r) vs, H, C⟩) : pwp P (.seq a b) Q ⟨R, H, C⟩ := by
 refine pwp_seq_cut (fun s => ∃ r, agree R r live ∧ holds r vs ∧ s = ⟨r, H, C⟩) (h1 _ fun r ha hv => ⟨r, ha, hv, rfl⟩) fun s ⟨r, ha, hv, he⟩ => ?_
 subst he
 have := h2 r
 rw [mix_eq ha, sets_eq hv] at this
 exact this

theorem key_ne {a b x y : Nat} (h : Nat.beq a b = false) : ((a, x) : Key) ≠ (b, y) := fun e => beq_false.1 h (congrArg Prod.fst e)

variable {ρ : Operand → PV} {h : Heap} {key : Key} {x y z : Operand} {t t' : TypeId} {v : PV}

theorem e_alloc {cs : List PV} {n : Nat} (hz : zeroCellsOf P t = some cs) (hn : cs.length = n) (hc : (cs.all PV.cell && Nat.ble 1 n) = true) : eff P ρ h key (.alloc t) = ⟨cs.all PV.cell = true ∧ 1 ≤ n, .ptr key n 0 0, [(key, some (.rows n [cs]))], [], true⟩ := by
 subst hn; simp only [eff, hz, allocEff]
theorem ob_alloc {cs : List PV} {n : Nat} (hc : (cs.all PV.cell && Nat.ble 1 n) = true) : cs.all PV.cell = true ∧ 1 ≤ n := by
 simp only [Bool.and_eq_true] at hc; exact ⟨hc.1, Nat.le_of_ble_eq_true hc.2⟩
theorem e_box {cs : List PV} {n : Nat} (hx : ρ x = .agg cs) (hn : cs.length = n) : eff P ρ h key (.box t x) = ⟨cs.all PV.cell = true ∧ 1 ≤ n, .ptr key n 0 0, [(key, some (.rows n [cs]))], [], true⟩ := by
 subst hn; simp only [eff, hx, boxEff, allocEff, pcells]
theorem e_box1 (hx : ρ x = v) (hp : pcells v = [v]) : eff P ρ h key (.box t x) = ⟨[v].all PV.cell = true ∧ 1 ≤ 1, .ptr key 1 0 0, [(key, some (.rows 1 [[v]]))], [], true⟩ := by
 simp only [eff, hx, boxEff, allocEff, hp]; rfl

/-- A whole object is stored. -/
theorem e_storeA {k : Key} {n : Nat} {z cs : List PV} (hx : ρ x = .ptr k n 0 0) (hk : h k = some (.rows n [z])) (hy : ρ y = .agg cs) (hz : z.length = n) (hn : cs.length = n) (hs : tySize P t = n) (hc : cs.all PV.cell = true) (ht : tyOk P t = true) :
   eff P ρ h key (.store t x y) = ⟨True, .dead, [(k, some (.rows n [cs]))], [k], false⟩ := by
 have h1 : setAt z 0 cs = cs := by
   unfold setAt
   rw [List.take_zero, List.nil_append, Nat.zero_add, hn, ← hz, List.drop_length, List.append_nil]
 simp only [eff, storeEff, hx, hk, hy, pcells, hn, hs, hc, ht, setRow]
 simp [h1]
/-- A cell is stored. -/
theorem e_store1 {k : Key} {n j : Nat} {z : List PV} (hx : ρ x = .ptr k n 0 j) (hk : h k = some (.rows n [z])) (hy : ρ y = v) (hp : pcells v = [v]) (hz : z.length = n) (hj : j < n) (hs : tySize P t = 1) (hc : v.cell = true) (ht : tyOk P t = true) :
   eff P ρ h key (.store t x y) = ⟨True, .dead, [(k, some (.rows n [z.set j v]))], [k], false⟩ := by
 have h1 : setAt z j [v] = z.set j v := by
   unfold setAt
   rw [List.set_eq_take_append_cons_drop, if_pos (by omega)]; simp
 simp only [eff, storeEff, hx, hk, hy, hp, hs, ht, setRow]
 simp [h1, hc]; omega
theorem e_loadH {k : Key} {sz i j : Nat} {rs : Rows} (hx : ρ x = .ptr k sz i j) (hk : h k = some (.rows sz rs)) (hg : tyAgg P t = false) (hs : tySize P t = 1) (ht : tyOk P t = true) (hi : i < rs.length) (hj : j < sz) (hv : cellAt rs i j = v) :
   eff P ρ h key (.load t x) = ⟨True, v, [], [k], false⟩ := by
 simp only [eff, hx, loadEff, hk, hg, hs, ht, hv]; simp [hi]; omega
theorem e_loadHA {k : Key} {sz i j n : Nat} {rs : Rows} {cs : List PV} (hx : ρ x = .ptr k sz i j) (hk : h k = some (.rows sz rs)) (hg : tyAgg P t = true) (hs : tySize P t = n) (ht : tyOk P t = true) (hi : i < rs.length) (hj : j + n ≤ sz) (hv : aggAt rs i j n = cs) :
   eff P ρ h key (.load t x) = ⟨True, .agg cs, [], [k], false⟩ := by
 simp only [eff, hx, loadEff, hk, hg, hs, ht, hv]; simp [hi, hj]
theorem e_faP {k : Key} {sz i j f o : Nat} {pl : List (Nat × Nat × Bool)} (hx : ρ x = .ptr k sz i j) (ht : structOk P t = true) (hp : places P t = pl) (hf : f < pl.length) (ho : (pl.getD f (0, 0, false)).1 = o) :
   eff P ρ h key (.fieldAddr t x f) = ⟨True, .ptr k sz i (j + o), [], [], false⟩ := by
 simp only [eff, hx, fieldAddrEff, ht, hp, ho, hf]; simp
theorem e_ixaR {k : Key} {sz off len : Nat} {kd : IntKind} {i : Int} (hx : ρ x = .ref k sz off len) (hy : ρ y = .sc (.int kd i)) (ht : sliceOk P t = true) (hs : tySize P (elemTy P t) = sz) (hi : 0 ≤ i ∧ i < len) :
   eff P ρ h key (.indexAddr t x y) = ⟨True, .ptr k sz (off + i.toNat) 0, [], [], false⟩ := by
 simp only [eff, hx, hy, indexAddrEff, ht, hs]; simp [hi]
theorem e_nilc {k : Key} {sz i j : Nat} (hx : ρ x = .ptr k sz i j) : eff P ρ h key (.nilCheck x) = ⟨True, .ptr k sz i j, [], [], false⟩ := by
 simp only [eff, hx]
theorem e_build {parts : Array (Nat × Operand)} {cs : List PV} {ps : List (Nat × PV)} {pl : List (Nat × Nat × Bool)} {zs : List PV} (hz : zeroCellsOf P t = some zs) (hpl : places P t = pl) (hso : structOk P t = true) (hza : zs.all PV.cell = true) (hp : (parts.toList.map fun p => (p.1, ρ p.2)) = ps)
   (hf : fillOk pl zs.length ps) (hcs : fillCells pl zs ps = cs) : eff P ρ h key (.build t parts) = ⟨True, .agg cs, [], [], false⟩ := by
 simp only [eff, hp, buildEff, hz, hpl, hso, hza, hcs]; simp [hf]
theorem e_bslice {parts : Array (Nat × Operand)} {rows : Rows} {n sz : Nat} {ps : List (Nat × PV)} {zs : List PV} (hz : zeroCellsOf P (elemTy P t) = some zs) (hso : sliceOk P t = true) (hl : zs.length = sz) (hs : tySize P (elemTy P t) = sz) (hn : n * sz ≤ 2 ^ 24) (hza : zs.all PV.cell = true) (hp : (parts.toList.map fun p => (p.1, ρ p.2)) = ps)
   (hf : fillRowsOk n sz ps) (hr : fillRows (List.replicate n zs) ps = rows) : eff P ρ h key (.buildSlice t n parts) = ⟨True, .ref key sz 0 n, [(key, some (.rows sz rows))], [], true⟩ := by
 subst hl
 simp only [eff, hp, buildSliceEff, hz, hso, hs, hza, hr]; simp [hf, hn]
/-! ### Slices that grow -/
/-- A slice of own memory, made at one place of the text. -/
def SliceAt (h : Heap) (d : Nat) (v : PV) (sz : Nat) (rows : Rows) : Prop := (rows = [] ∧ v = .nil) ∨ ∃ g, v = .ref (d, g) sz 0 rows.length ∧ h (d, g) = some (.rows sz rows)

theorem SliceAt.nil {h : Heap} {d sz : Nat} : SliceAt h d .nil sz [] := .inl ⟨rfl, rfl⟩
theorem SliceAt.keep {h h' : Heap} {d sz : Nat} {v : PV} {rows : Rows} (hs : SliceAt h d v sz rows) (hk : ∀ g, h' (d, g) = h (d, g)) : SliceAt h' d v sz rows := by
 rcases hs with h1 | ⟨g, h1, h2⟩
 · exact .inl h1
 · exact .inr ⟨g, h1, (hk g).trans h2⟩

variable {K : PS → Prop} {d : Nat} {ty : TypeId} {pos : String} {aft : Array Edge} {gd : Option (Nat × Bool)} {rest : List Oper} {r : Nat → PV} {cnt : Nat → Nat}

theorem src_ref {sz n2 : Nat} {rows2 : Rows} {k2 : Key} (hk2 : h k2 = some (.rows sz rows2)) (hn : rows2.length = n2) : (srcRows h sz (.ref k2 sz 0 n2)).1 ∧ (srcRows h sz (.ref k2 sz 0 n2)).2.1 = rows2 := by
 unfold srcRows
 simp only [hk2]
 subst hn
 simp
theorem src_lit {sz : Nat} {tt : Bool} {rows2 : Rows} : (srcRows h sz (.lit tt sz rows2)).1 ∧ (srcRows h sz (.lit tt sz rows2)).2.1 = rows2 := by
 unfold srcRows
 simp
theorem p_app {ts : Array TypeId} {t2 : TypeId} {u u2 : PV} {sz d1 : Nat} {rows rows2 : Rows} (hts : ts.toList = [t, t2]) (hx : ev r x = u) (hy : ev r y = u2) (hs : SliceAt h d1 u sz rows) (hsr : (srcRows h sz u2).1 ∧ (srcRows h sz u2).2.1 = rows2)
   (hok : (sliceOk P t && (decide (P.bytesOf (elemTy P t) < 2 ^ 15) && (decide (intKind P t2 = none) && (zeroOk P (elemTy P t) && ((P.underlying t2).isSome && decide (tySize P (elemTy P t) = sz)))))) = true) (hlen : rows.length + rows2.length < 2 ^ 32)
   (hk : ∀ v' h' c', SliceAt h' d v' sz (rows ++ rows2) → (∀ k' : Key, k' ≠ (d, cnt d) → (∀ g, u = .ref (d1, g) sz 0 rows.length → k' ≠ (d1, g)) → h' k' = h k') → pOps P K rest ⟨setT r d v', h', c'⟩) :
   pOps P K (⟨some d, .call { callee := .builtin .append, args := #[x, y], argTypes := ts }, ty, pos, aft, gd⟩ :: rest) ⟨r, h, cnt⟩ := by
 simp only [Bool.and_eq_true, decide_eq_true_eq] at hok
 obtain ⟨o1, o2, o3, o4, o5, o6⟩ := hok
 subst o6
 have he : ∀ u, ev r x = u → eff P (ev r) h (d, cnt d) (.call { callee := .builtin .append, args := #[x, y], argTypes := ts }) = appendEff P h (d, cnt d) t t2 u u2 := fun u hu => by
   show builtinEff P h (d, cnt d) .append ts.toList [ev r x, ev r y] = _
   rw [hts, hu, hy]; rfl
 rcases hs with ⟨rfl, rfl⟩ | ⟨g, rfl, hg⟩
 · have hq := he _ hx
   unfold appendEff at hq
   simp only [hsr.2] at hq
   cases hne : rows2.isEmpty with
   | true =>
     have hr2 : rows2 = [] := by simpa using hne
     rw [hne] at hq
     simp only [cond_true] at hq
     exact p_step rfl hq ⟨⟨o1, o2, o3, o4, o5⟩, hsr.1⟩ (hk _ _ _ (.inl ⟨by rw [hr2]; rfl, rfl⟩) fun k' _ _ => rfl)
   | false =>
     rw [hne] at hq
     simp only [cond_false] at hq
     refine p_new rfl hq ⟨⟨o1, o2, o3, o4, o5⟩, hsr.1, (by intro e; rw [e] at hne; cases hne), by simp at hlen; omega⟩ (hk _ _ _ (.inr ⟨cnt d, by rw [List.nil_append], by rw [List.nil_append]; exact hset_self _ _ _⟩) fun k' h1 _ => hset_ne h1)
 · have hq := he _ hx
   unfold appendEff at hq
   simp only [hg, hsr.2] at hq
   refine p_renew rfl hq (by refine ⟨⟨o1, o2, o3, o4, o5⟩, hsr.1, ?_⟩; simp; omega) (hk _ _ _ (.inr ⟨cnt d, by rw [List.length_append], ?_⟩) fun k' h1 h2 => ?_)
   · rw [hset_self, List.drop_zero, List.take_length]
   · rw [hset_ne h1, hset_ne (h2 g rfl)]

theorem SliceAt.len {d1 : Nat} {u : PV} {sz : Nat} {rows : Rows} {t2 : TypeId} (hs : SliceAt h d1 u sz rows) (hx : ρ x = u) (ht : sliceOk P t2 = true) : eff P ρ h key (.call { callee := .builtin .len, args := #[x], argTypes := #[t2] }) = ⟨True, .int rows.length, [], [], false⟩ := by
 rcases hs with ⟨rfl, rfl⟩ | ⟨g, rfl, hg⟩
 · exact e_lenN hx ht
 · exact e_lenR hx ht
theorem SliceAt.isRef {d1 : Nat} {u : PV} {sz : Nat} {rows : Rows} (hs : SliceAt h d1 u sz rows) (hp : rows ≠ []) : ∃ g, u = .ref (d1, g) sz 0 rows.length ∧ h (d1, g) = some (.rows sz rows) := by
 rcases hs with ⟨rfl, _⟩ | h1
 · exact absurd rfl hp
 · exact h1
theorem SliceAt.inn {d1 : Nat} {u : PV} {sz : Nat} {rows rows' : Rows} (hs : SliceAt h d1 u sz rows) (he : rows = rows') (hp : ∀ row ∈ rows, ∀ p ∈ row, Pure p) : Inn h u (.lit true sz rows') := by
 subst he
 rcases hs with ⟨rfl, rfl⟩ | ⟨g, rfl, hg⟩
 · exact inn_nil
 · exact .base (.ref hg (by omega) (by simp) hp)
theorem SliceAt.ofRef {d1 g n sz : Nat} {rows : Rows} (hk : h (d1, g) = some (.rows sz rows)) (hn : rows.length = n) : SliceAt h d1 (.ref (d1, g) sz 0 n) sz rows := .inr ⟨g, by rw [hn], hk⟩
end

/-! ### Slices of records -/
section
variable {α : Type} {f : α → List PV} {xs : List α} {i : Nat} {a : α}
theorem cell_map (hx : xs[i]? = some a) (j : Nat) : cellAt (xs.map f) i j = (f a).getD j .dead := by
 simp [cellAt, List.getD_eq_getElem?_getD, hx]
theorem agg_map {n : Nat} (hx : xs[i]? = some a) (hl : (f a).length = n) : aggAt (xs.map f) i 0 n = f a := by
 subst hl
 simp [aggAt, List.getD_eq_getElem?_getD, hx]
theorem pure_map (hp : ∀ a, ∀ p ∈ f a, Pure p) : ∀ row ∈ xs.map f, ∀ p ∈ row, Pure p := fun row hr p h => by
 obtain ⟨a, _, rfl⟩ := List.mem_map.1 hr; exact hp a p h
theorem get_lt (h : i < xs.length) : ∃ a, xs[i]? = some a ∧ xs.drop i = a :: xs.drop (i + 1) ∧ xs.take (i + 1) = xs.take i ++ [a] :=
 ⟨xs[i], List.getElem?_eq_getElem h, List.drop_eq_getElem_cons h, by rw [List.take_add_one, List.getElem?_eq_getElem h]; rfl⟩
end
theorem rows_of {α : Type} {f : α → List PV} {ok : α → Prop} : ∀ {rows : Rows}, (∀ row ∈ rows, ∃ a, row = f a ∧ ok a) → ∃ xs : List α, rows = xs.map f ∧ ∀ a ∈ xs, ok a
 | [], _ => ⟨[], rfl, by simp⟩
 | row :: rows, h => by
   obtain ⟨a, ha, ho⟩ := h row (by simp)
   obtain ⟨xs, hx, hxo⟩ := rows_of (rows := rows) fun r hr => h r (by simp [hr])
   exact ⟨a :: xs, by rw [ha, hx]; rfl, fun b hb => by rcases List.mem_cons.1 hb with rfl | hb; exact ho; exact hxo b hb⟩

theorem wf64 {z : Int} (h : (Lit.int .i64 z).wf = true) : -9223372036854775808 ≤ z ∧ z ≤ 9223372036854775807 := by
 simp only [Lit.wf, Bool.and_eq_true, decide_eq_true_eq] at h
 exact h
theorem SliceAt.to {h : Heap} {d sz : Nat} {v : PV} {rows rows' : Rows} (hs : SliceAt h d v sz rows) (he : rows = rows') : SliceAt h d v sz rows' := he ▸ hs
end Go.Pv
