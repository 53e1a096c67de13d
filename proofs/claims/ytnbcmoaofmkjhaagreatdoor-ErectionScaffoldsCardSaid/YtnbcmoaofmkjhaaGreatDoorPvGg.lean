import Derived.Test.YtnbcmoaofmkjhaaGreatDoorPvGe
import Derived.Test.YtnbcmoaofmkjhaaGreatDoorPvGf
set_option linter.unusedSimpArgs false
set_option linter.unusedVariables false
namespace Go.Pv
open Go Go.RowKit
section
variable {P : Program}
theorem CellP.int_inv {t : TypeId} {q : PV} {k : IntKind} (ht : P.underlying t = some (.int k)) (h : CellP P t q) : ∃ z, q = .sc (.int k z) ∧ (Lit.int k z).wf = true := by
 cases h with
 | int k' z ht' hw => rw [ht] at ht'; cases ht'; exact ⟨z, rfl, hw⟩
 | bool b ht' => rw [ht] at ht'; cases ht'
 | str s ht' hs => rw [ht] at ht'; cases ht'
 | slice rows ht' he hm hl h => rw [ht] at ht'; cases ht'
inductive CellsP (P : Program) : List TypeId → List PV → Prop where
 | nil : CellsP P [] []
 | cons {t : TypeId} {q : PV} {ts : List TypeId} {qs : List PV} (h : CellP P t q) (hs : CellsP P ts qs) : CellsP P (t :: ts) (q :: qs)
theorem CellsP.mk : ∀ {ts : List TypeId} {qs : List PV}, qs.length = ts.length → (∀ (i : Nat) (ty : TypeId) (q : PV), ts[i]? = some ty → qs[i]? = some q → CellP P ty q) → CellsP P ts qs
 | [], [], _, _ => .nil
 | [], _ :: _, h, _ => by simp at h
 | _ :: _, [], h, _ => by simp at h
 | t :: ts, q :: qs, h, hc => .cons (hc 0 t q rfl rfl) (CellsP.mk (by simpa using h) fun i ty p h1 h2 => hc (i + 1) ty p h1 h2)
theorem CellsP.nil_inv {qs : List PV} (h : CellsP P [] qs) : qs = [] := by cases h; rfl
theorem CellsP.cons_inv {t : TypeId} {ts : List TypeId} {qs : List PV} (h : CellsP P (t :: ts) qs) : ∃ q l, qs = q :: l ∧ CellP P t q ∧ CellsP P ts l := by
 cases h with
 | cons h hs => exact ⟨_, _, rfl, h, hs⟩
theorem CellP.slice_inv {t e : TypeId} {q : PV} {tys : List TypeId} (ht : P.underlying t = some (.slice e)) (he : zDF P 9 e = some tys) (h : CellP P t q) :
   ∃ rows, q = .lit true (P.cellsOf e) rows ∧ rows.length ≤ maxLen ∧ ∀ row ∈ rows, CellsP P tys row := by
 cases h with
 | int k' z ht' hw => rw [ht] at ht'; cases ht'
 | bool b ht' => rw [ht] at ht'; cases ht'
 | str s ht' hs => rw [ht] at ht'; cases ht'
 | slice rows ht' he' hm hl h =>
   rw [ht] at ht'; cases ht';rw [he] at he'; cases he';exact ⟨rows, rfl, hm, fun row hr => .mk (hl row hr) fun i ty q h1 h2 => h row hr i ty q h1 h2⟩
theorem CellP.slice_at {t e n : Nat} {q : PV} {tys : List TypeId} (ht : P.underlying t = some (.slice e)) (he : zDF P 9 e = some tys) (hn : P.cellsOf e = n) (h : CellP P t q) :
   ∃ rows, q = .lit true n rows ∧ rows.length ≤ maxLen ∧ ∀ row ∈ rows, CellsP P tys row := by
 subst hn; exact h.slice_inv ht he
theorem ArgP.agg {t : TypeId} {q : PV} {tys : List TypeId} (ht : tyAgg P t = true) (he : zDF P 9 t = some tys) (h : ArgP P t q) : ∃ cs, q = .agg cs ∧ CellsP P tys cs := by
 unfold ArgP at h; rw [ht] at h;obtain ⟨cs, tys', rfl, h1, h2, h3⟩ := h;rw [he] at h1; cases h1;exact ⟨cs, rfl, .mk h2 h3⟩
theorem ArgsP.nil_inv {qs : List PV} (h : ArgsP P [] qs) : qs = [] := by cases h; rfl
theorem ArgsP.cons_inv {t : TypeId} {ts : List TypeId} {qs : List PV} (h : ArgsP P (t :: ts) qs) : ∃ q l, qs = q :: l ∧ ArgP P t q ∧ ArgsP P ts l := by
 cases h with
 | cons h hs => exact ⟨_, _, rfl, h, hs⟩
end
end Go.Pv
namespace Go.Pv
open Go
def mix (live : List Nat) (R r : Nat → PV) : Nat → PV := fun t => bif live.any (Nat.beq t) then R t else r t
def sets (r : Nat → PV) : List (Nat × PV) → Nat → PV
 | [] => r
 | p :: l => setT (sets r l) p.1 p.2
def holds (r : Nat → PV) : List (Nat × PV) → Prop
 | [] => True
 | p :: l => r p.1 = p.2 ∧ holds r l
def agree (R r : Nat → PV) : List Nat → Prop
 | [] => True
 | t :: l => r t = R t ∧ agree R r l
theorem zHF (R : Nat → PV) : ∀ l, agree R R l
 | [] => trivial
 | _ :: l => ⟨rfl, zHF R l⟩
theorem zIX {R r : Nat → PV} {t : Nat} : ∀ {l : List Nat}, agree R r l → l.any (Nat.beq t) = true → r t = R t
 | [], _, h => by simp at h
 | u :: l, ⟨h1, h2⟩, h => by
   rw [List.any_cons, Bool.or_eq_true] at h;rcases h with h | h
   · rw [Nat.eq_of_beq_eq_true h]; exact h1
   · exact zIX h2 h
theorem zMe {live : List Nat} {R r : Nat → PV} (h : agree R r live) : mix live R r = r := by
 funext t;unfold mix;cases hb : live.any (Nat.beq t) with
 | true => exact (zIX h hb).symm
 | false => rfl
theorem zJo {r : Nat → PV} : ∀ {l : List (Nat × PV)}, holds r l → sets r l = r
 | [], _ => rfl
 | p :: l, ⟨h1, h2⟩ => by
   show setT (sets r l) p.1 p.2 = r;rw [zJo h2];exact (setT_id h1).symm
section
variable {P : Program} {α : Type}
def LI (live : List Nat) (R : Nat → PV) (vs : α → List (Nat × PV)) (J : α → Heap → (Nat → Nat) → Prop) (μ : α → Nat) (n : Nat) (s : PS) : Prop := ∃ a, μ a = n ∧ agree R s.r live ∧ holds s.r (vs a) ∧ J a s.h s.cnt
theorem zAE {R : Nat → PV} {H : Heap} {C : Nat → Nat} {Q : Exit → PS → Prop} {cb : Code} (live : List Nat) (vs : α → List (Nat × PV)) (J : α → Heap → (Nat → Nat) → Prop) (μ : α → Nat) (a0 : α) (h0 : holds R (vs a0)) (hJ0 : J a0 H C)
   (body : ∀ a r h c, J a h c → pwp P cb (loopQ (LI live R vs J μ) (μ a) Q) ⟨sets (mix live R r) (vs a), h, c⟩) : pwp P (.loop cb) Q ⟨R, H, C⟩ := by
 refine zHQ (LI live R vs J μ) (μ a0) ⟨a0, rfl, zHF R live, h0, hJ0⟩ fun n s ⟨a, hn, h1, h2, h3⟩ => ?_;subst hn;obtain ⟨r, h, c⟩ := s;have := body a r h c h3;rw [zMe h1, zJo h2] at this;exact this
theorem zAo {live : List Nat} {R r : Nat → PV} {vs : α → List (Nat × PV)} {J : α → Heap → (Nat → Nat) → Prop} {μ : α → Nat} {a : α} {Q : Exit → PS → Prop} {h : Heap} {c : Nat → Nat} (a' : α) (hm : μ a' < μ a) (h1 : agree R r live) (h2 : holds r (vs a')) (h3 : J a' h c) :
   loopQ (LI live R vs J μ) (μ a) Q .normal ⟨r, h, c⟩ := ⟨μ a', hm, a', rfl, h1, h2, h3⟩
theorem zA1 {R : Nat → PV} {H : Heap} {C : Nat → Nat} {Q : Exit → PS → Prop} {a b : Code} (live : List Nat) (vs : List (Nat × PV))
   (h1 : ∀ K : PS → Prop, (∀ r, agree R r live → holds r vs → K ⟨r, H, C⟩) → pwp P a (seqQ K Q) ⟨R, H, C⟩) (h2 : ∀ r, pwp P b Q ⟨sets (mix live R r) vs, H, C⟩) : pwp P (.seq a b) Q ⟨R, H, C⟩ := by
 refine pwp_seq_cut (fun s => ∃ r, agree R r live ∧ holds r vs ∧ s = ⟨r, H, C⟩) (h1 _ fun r ha hv => ⟨r, ha, hv, rfl⟩) fun s ⟨r, ha, hv, he⟩ => ?_;subst he;have := h2 r;rw [zMe ha, zJo hv] at this;exact this
theorem zAv {a b x y : Nat} (h : Nat.beq a b = false) : ((a, x) : Key) ≠ (b, y) := fun e => zBU.1 h (congrArg Prod.fst e)
variable {ρ : Operand → PV} {h : Heap} {key : Key} {x y z : Operand} {t t' : TypeId} {v : PV}
theorem zAR {cs : List PV} {n : Nat} (hz : zAT P t = some cs) (hn : cs.length = n) (hc : (cs.all PV.cell && Nat.ble 1 n) = true) : eff P ρ h key (.alloc t) = ⟨cs.all PV.cell = true ∧ 1 ≤ n, .ptr key n 0 0, [(key, some (.rows n [cs]))], [], true⟩ := by
 subst hn; simp only [eff, hz, zDI]
theorem zAG {cs : List PV} {n : Nat} (hc : (cs.all PV.cell && Nat.ble 1 n) = true) : cs.all PV.cell = true ∧ 1 ≤ n := by
 simp only [Bool.and_eq_true] at hc; exact ⟨hc.1, Nat.le_of_ble_eq_true hc.2⟩
theorem e_box {cs : List PV} {n : Nat} (hx : ρ x = .agg cs) (hn : cs.length = n) : eff P ρ h key (.box t x) = ⟨cs.all PV.cell = true ∧ 1 ≤ n, .ptr key n 0 0, [(key, some (.rows n [cs]))], [], true⟩ := by
 subst hn; simp only [eff, hx, zLX, zDI, zBf]
theorem zMx (hx : ρ x = v) (hp : zBf v = [v]) : eff P ρ h key (.box t x) = ⟨[v].all PV.cell = true ∧ 1 ≤ 1, .ptr key 1 0 0, [(key, some (.rows 1 [[v]]))], [], true⟩ := by
 simp only [eff, hx, zLX, zDI, hp]; rfl
theorem zAB {k : Key} {n : Nat} {z cs : List PV} (hx : ρ x = .ptr k n 0 0) (hk : h k = some (.rows n [z])) (hy : ρ y = .agg cs) (hz : z.length = n) (hn : cs.length = n) (hs : zAr P t = n) (hc : cs.all PV.cell = true) (ht : tyOk P t = true) :
   eff P ρ h key (.store t x y) = ⟨True, .dead, [(k, some (.rows n [cs]))], [k], false⟩ := by
 have h1 : setAt z 0 cs = cs := by
   unfold setAt;rw [List.take_zero, List.nil_append, Nat.zero_add, hn, ← hz, List.drop_length, List.append_nil]
 simp only [eff, zCw, hx, hk, hy, zBf, hn, hs, hc, ht, setRow];simp [h1]
theorem zGV {k : Key} {n j : Nat} {z : List PV} (hx : ρ x = .ptr k n 0 j) (hk : h k = some (.rows n [z])) (hy : ρ y = v) (hp : zBf v = [v]) (hz : z.length = n) (hj : j < n) (hs : zAr P t = 1) (hc : v.cell = true) (ht : tyOk P t = true) :
   eff P ρ h key (.store t x y) = ⟨True, .dead, [(k, some (.rows n [z.set j v]))], [k], false⟩ := by
 have h1 : setAt z j [v] = z.set j v := by
   unfold setAt;rw [List.set_eq_take_append_cons_drop, if_pos (by omega)]; simp
 simp only [eff, zCw, hx, hk, hy, hp, hs, ht, setRow];simp [h1, hc]; omega
theorem zDV {k : Key} {sz i j : Nat} {rs : Rows} (hx : ρ x = .ptr k sz i j) (hk : h k = some (.rows sz rs)) (hg : tyAgg P t = false) (hs : zAr P t = 1) (ht : tyOk P t = true) (hi : i < rs.length) (hj : j < sz) (hv : zCZ rs i j = v) :
   eff P ρ h key (.load t x) = ⟨True, v, [], [k], false⟩ := by
 simp only [eff, hx, zBK, hk, hg, hs, ht, hv]; simp [hi]; omega
theorem zAd {k : Key} {sz i j n : Nat} {rs : Rows} {cs : List PV} (hx : ρ x = .ptr k sz i j) (hk : h k = some (.rows sz rs)) (hg : tyAgg P t = true) (hs : zAr P t = n) (ht : tyOk P t = true) (hi : i < rs.length) (hj : j + n ≤ sz) (hv : aggAt rs i j n = cs) :
   eff P ρ h key (.load t x) = ⟨True, .agg cs, [], [k], false⟩ := by
 simp only [eff, hx, zBK, hk, hg, hs, ht, hv]; simp [hi, hj]
theorem e_faP {k : Key} {sz i j f o : Nat} {pl : List (Nat × Nat × Bool)} (hx : ρ x = .ptr k sz i j) (ht : zBG P t = true) (hp : zBp P t = pl) (hf : f < pl.length) (ho : (pl.getD f (0, 0, false)).1 = o) :
   eff P ρ h key (.fieldAddr t x f) = ⟨True, .ptr k sz i (j + o), [], [], false⟩ := by
 simp only [eff, hx, zBO, ht, hp, ho, hf]; simp
theorem zMv {k : Key} {sz off len : Nat} {kd : IntKind} {i : Int} (hx : ρ x = .ref k sz off len) (hy : ρ y = .sc (.int kd i)) (ht : zAN P t = true) (hs : zAr P (zAu P t) = sz) (hi : 0 ≤ i ∧ i < len) :
   eff P ρ h key (.indexAddr t x y) = ⟨True, .ptr k sz (off + i.toNat) 0, [], [], false⟩ := by
 simp only [eff, hx, hy, zBu, ht, hs]; simp [hi]
theorem zBe {k : Key} {sz i j : Nat} (hx : ρ x = .ptr k sz i j) : eff P ρ h key (.nilCheck x) = ⟨True, .ptr k sz i j, [], [], false⟩ := by
 simp only [eff, hx]
theorem zCt {parts : Array (Nat × Operand)} {cs : List PV} {ps : List (Nat × PV)} {pl : List (Nat × Nat × Bool)} {zs : List PV} (hz : zAT P t = some zs) (hpl : zBp P t = pl) (hso : zBG P t = true) (hza : zs.all PV.cell = true) (hp : (parts.toList.map fun p => (p.1, ρ p.2)) = ps)
   (hf : zI8 pl zs.length ps) (hcs : zDc pl zs ps = cs) : eff P ρ h key (.build t parts) = ⟨True, .agg cs, [], [], false⟩ := by
 simp only [eff, hp, zDf, hz, hpl, hso, hza, hcs]; simp [hf]
theorem zB4 {parts : Array (Nat × Operand)} {rows : Rows} {n sz : Nat} {ps : List (Nat × PV)} {zs : List PV} (hz : zAT P (zAu P t) = some zs) (hso : zAN P t = true) (hl : zs.length = sz) (hs : zAr P (zAu P t) = sz) (hn : n * sz ≤ 2 ^ 24) (hza : zs.all PV.cell = true) (hp : (parts.toList.map fun p => (p.1, ρ p.2)) = ps)
   (hf : zCW n sz ps) (hr : zCP (List.replicate n zs) ps = rows) : eff P ρ h key (.buildSlice t n parts) = ⟨True, .ref key sz 0 n, [(key, some (.rows sz rows))], [], true⟩ := by
 subst hl;simp only [eff, hp, zBP, hz, hso, hs, hza, hr]; simp [hf, hn]
def zAq (h : Heap) (d : Nat) (v : PV) (sz : Nat) (rows : Rows) : Prop := (rows = [] ∧ v = .nil) ∨ ∃ g, v = .ref (d, g) sz 0 rows.length ∧ h (d, g) = some (.rows sz rows)
theorem zAq.nil {h : Heap} {d sz : Nat} : zAq h d .nil sz [] := .inl ⟨rfl, rfl⟩
theorem zAq.keep {h h' : Heap} {d sz : Nat} {v : PV} {rows : Rows} (hs : zAq h d v sz rows) (hk : ∀ g, h' (d, g) = h (d, g)) : zAq h' d v sz rows := by
 rcases hs with h1 | ⟨g, h1, h2⟩
 · exact .inl h1
 · exact .inr ⟨g, h1, (hk g).trans h2⟩
variable {K : PS → Prop} {d : Nat} {ty : TypeId} {pos : String} {aft : Array Edge} {gd : Option (Nat × Bool)} {rest : List Oper} {r : Nat → PV} {cnt : Nat → Nat}
theorem zCq {sz n2 : Nat} {rows2 : Rows} {k2 : Key} (hk2 : h k2 = some (.rows sz rows2)) (hn : rows2.length = n2) : (zAU h sz (.ref k2 sz 0 n2)).1 ∧ (zAU h sz (.ref k2 sz 0 n2)).2.1 = rows2 := by
 unfold zAU;simp only [hk2];subst hn;simp
theorem zJm {sz : Nat} {tt : Bool} {rows2 : Rows} : (zAU h sz (.lit tt sz rows2)).1 ∧ (zAU h sz (.lit tt sz rows2)).2.1 = rows2 := by
 unfold zAU;simp
theorem p_app {ts : Array TypeId} {t2 : TypeId} {u u2 : PV} {sz d1 : Nat} {rows rows2 : Rows} (hts : ts.toList = [t, t2]) (hx : ev r x = u) (hy : ev r y = u2) (hs : zAq h d1 u sz rows) (hsr : (zAU h sz u2).1 ∧ (zAU h sz u2).2.1 = rows2)
   (hok : (zAN P t && (decide (P.bytesOf (zAu P t) < 2 ^ 15) && (decide (zBm P t2 = none) && (zEg P (zAu P t) && ((P.underlying t2).isSome && decide (zAr P (zAu P t) = sz)))))) = true) (hlen : rows.length + rows2.length < 2 ^ 32)
   (hk : ∀ v' h' c', zAq h' d v' sz (rows ++ rows2) → (∀ k' : Key, k' ≠ (d, cnt d) → (∀ g, u = .ref (d1, g) sz 0 rows.length → k' ≠ (d1, g)) → h' k' = h k') → pOps P K rest ⟨setT r d v', h', c'⟩) :
   pOps P K (⟨some d, .call { callee := .builtin .append, args := #[x, y], argTypes := ts }, ty, pos, aft, gd⟩ :: rest) ⟨r, h, cnt⟩ := by
 simp only [Bool.and_eq_true, decide_eq_true_eq] at hok;obtain ⟨o1, o2, o3, o4, o5, o6⟩ := hok;subst o6
 have he : ∀ u, ev r x = u → eff P (ev r) h (d, cnt d) (.call { callee := .builtin .append, args := #[x, y], argTypes := ts }) = zA3 P h (d, cnt d) t t2 u u2 := fun u hu => by
   show zA9 P h (d, cnt d) .append ts.toList [ev r x, ev r y] = _;rw [hts, hu, hy]; rfl
 rcases hs with ⟨rfl, rfl⟩ | ⟨g, rfl, hg⟩
 · have hq := he _ hx;unfold zA3 at hq;simp only [hsr.2] at hq;cases hne : rows2.isEmpty with
   | true =>
     have hr2 : rows2 = [] := by simpa using hne
     rw [hne] at hq;simp only [cond_true] at hq;exact zEl rfl hq ⟨⟨o1, o2, o3, o4, o5⟩, hsr.1⟩ (hk _ _ _ (.inl ⟨by rw [hr2]; rfl, rfl⟩) fun k' _ _ => rfl)
   | false =>
     rw [hne] at hq;simp only [cond_false] at hq;refine p_new rfl hq ⟨⟨o1, o2, o3, o4, o5⟩, hsr.1, (by intro e; rw [e] at hne; cases hne), by simp at hlen; omega⟩ (hk _ _ _ (.inr ⟨cnt d, by rw [List.nil_append], by rw [List.nil_append]; exact zBk _ _ _⟩) fun k' h1 _ => zAp h1)
 · have hq := he _ hx;unfold zA3 at hq;simp only [hg, hsr.2] at hq;refine zJA rfl hq (by refine ⟨⟨o1, o2, o3, o4, o5⟩, hsr.1, ?_⟩; simp; omega) (hk _ _ _ (.inr ⟨cnt d, by rw [List.length_append], ?_⟩) fun k' h1 h2 => ?_)
   · rw [zBk, List.drop_zero, List.take_length]
   · rw [zAp h1, zAp (h2 g rfl)]
theorem zAq.len {d1 : Nat} {u : PV} {sz : Nat} {rows : Rows} {t2 : TypeId} (hs : zAq h d1 u sz rows) (hx : ρ x = u) (ht : zAN P t2 = true) : eff P ρ h key (.call { callee := .builtin .len, args := #[x], argTypes := #[t2] }) = ⟨True, .int rows.length, [], [], false⟩ := by
 rcases hs with ⟨rfl, rfl⟩ | ⟨g, rfl, hg⟩
 · exact zLQ hx ht
 · exact zJ8 hx ht
theorem zAq.isRef {d1 : Nat} {u : PV} {sz : Nat} {rows : Rows} (hs : zAq h d1 u sz rows) (hp : rows ≠ []) : ∃ g, u = .ref (d1, g) sz 0 rows.length ∧ h (d1, g) = some (.rows sz rows) := by
 rcases hs with ⟨rfl, _⟩ | h1
 · exact absurd rfl hp
 · exact h1
theorem zAq.ofRef {d1 g n sz : Nat} {rows : Rows} (hk : h (d1, g) = some (.rows sz rows)) (hn : rows.length = n) : zAq h d1 (.ref (d1, g) sz 0 n) sz rows := .inr ⟨g, by rw [hn], hk⟩
end
section
variable {α : Type} {f : α → List PV} {xs : List α} {i : Nat} {a : α}
theorem zAV (hx : xs[i]? = some a) (j : Nat) : zCZ (xs.map f) i j = (f a).getD j .dead := by
 simp [zCZ, List.getD_eq_getElem?_getD, hx]
theorem zBj {n : Nat} (hx : xs[i]? = some a) (hl : (f a).length = n) : aggAt (xs.map f) i 0 n = f a := by
 subst hl;simp [aggAt, List.getD_eq_getElem?_getD, hx]
theorem zBo (hp : ∀ a, ∀ p ∈ f a, Pure p) : ∀ row ∈ xs.map f, ∀ p ∈ row, Pure p := fun row hr p h => by
 obtain ⟨a, _, rfl⟩ := List.mem_map.1 hr; exact hp a p h
theorem zBx (h : i < xs.length) : ∃ a, xs[i]? = some a ∧ xs.drop i = a :: xs.drop (i + 1) ∧ xs.take (i + 1) = xs.take i ++ [a] :=
 ⟨xs[i], List.getElem?_eq_getElem h, List.drop_eq_getElem_cons h, by rw [List.take_add_one, List.getElem?_eq_getElem h]; rfl⟩
end
theorem zJt {α : Type} {f : α → List PV} {ok : α → Prop} : ∀ {rows : Rows}, (∀ row ∈ rows, ∃ a, row = f a ∧ ok a) → ∃ xs : List α, rows = xs.map f ∧ ∀ a ∈ xs, ok a
 | [], _ => ⟨[], rfl, by simp⟩
 | row :: rows, h => by
   obtain ⟨a, ha, ho⟩ := h row (by simp);obtain ⟨xs, hx, hxo⟩ := zJt (rows := rows) fun r hr => h r (by simp [hr]);exact ⟨a :: xs, by rw [ha, hx]; rfl, fun b hb => by rcases List.mem_cons.1 hb with rfl | hb; exact ho; exact hxo b hb⟩
theorem wf64 {z : Int} (h : (Lit.int .i64 z).wf = true) : -9223372036854775808 ≤ z ∧ z ≤ 9223372036854775807 := by
 simp only [Lit.wf, Bool.and_eq_true, decide_eq_true_eq] at h;exact h
theorem zAq.to {h : Heap} {d sz : Nat} {v : PV} {rows rows' : Rows} (hs : zAq h d v sz rows) (he : rows = rows') : zAq h d v sz rows' := he ▸ hs
end Go.Pv
namespace Go.Pv
open Go
section
variable {P : Program} {ρ : Operand → PV} {h : Heap} {key : Key} {x y z : Operand} {t t' : TypeId} {v : PV}
theorem e_mkf {fn : Fn} {first cap : Array Operand} {cs : List PV} (hc : cap.toList.map ρ = cs) : eff P ρ h key (.makeFunc fn first cap) = ⟨True, .func fn (first.toList.map ρ) cs, [], [], false⟩ := by
 subst hc; rfl
def byteAt (s : ByteArray) (n : Nat) : Int := ((s.data.toList.getD n 0).toNat : Int)
theorem zMw {k : Key} {sz a b n : Nat} {e : TypeId} {kd : IntKind} {i : Int} (hx : ρ x = .ptr k sz a b) (hy : ρ y = .sc (.int kd i)) (ht : arrOk P t = some (n, e)) (hs : zAr P e = 1) (hi : 0 ≤ i ∧ i < n) :
   eff P ρ h key (.indexAddr t x y) = ⟨True, .ptr k sz a (b + i.toNat), [], [], false⟩ := by
 simp only [eff, hx, hy, zBu, ht, hs]; simp [hi]
theorem zH3 {cs : List PV} {n : Nat} {e : TypeId} {kd : IntKind} {i : Int} (hx : ρ x = .agg cs) (hy : ρ y = .sc (.int kd i)) (ht : arrOk P t = some (n, e)) (hs : zAr P e = 1) (hg : tyAgg P e = false) (hi : 0 ≤ i ∧ i < n) (hl : cs.length = n) (hv : cs.getD i.toNat .dead = v) :
   eff P ρ h key (.index t x y) = ⟨True, v, [], [], false⟩ := by
 subst hl;subst hv;simp only [eff, hx, hy, zDz, ht, hs, hg, zFt]; simp [hi]
def ci (n : Int) : List PV := [.int n]
theorem zDn (n : Int) : ∀ p ∈ ci n, Pure p := fun p hp => by simp [ci] at hp; subst hp; exact .sc _
theorem e_mkI {l c : Operand} {L : Int} {n : Nat} (hx : ρ l = .int L) (hy : ρ c = .int L) (hn : L = (n : Int)) (hz : zAT P (zAu P t) = some [.int 0]) (ho : zAN P t = true) (hs : zAr P (zAu P t) = 1) (hb : P.bytesOf (zAu P t) < 2 ^ 15) (hl : n < 2 ^ 32) :
   eff P ρ h key (.makeSlice t l c) = ⟨True, .ref key 1 0 n, [(key, some (.rows 1 ((List.replicate n (0 : Int)).map ci)))], [], true⟩ := by
 subst hn;have h1 : (List.replicate n (0 : Int)).map ci = List.replicate n [PV.int 0] := by simp [ci]
 simp only [eff, hx, hy, zBJ, hz, ho, hs, hb, h1];simp [PV.cell]; omega
theorem zBC {k : Key} {zs : List Int} {i : Nat} {a : Int} (hx : ρ x = .ptr k 1 i 0) (hk : h k = some (.rows 1 (zs.map ci))) (hg : tyAgg P t = false) (hs : zAr P t = 1) (ht : tyOk P t = true) (ha : zs[i]? = some a) :
   eff P ρ h key (.load t x) = ⟨True, .int a, [], [k], false⟩ := by
 have hi : i < zs.length := (List.getElem?_eq_some_iff.1 ha).1;exact zDV hx hk hg hs ht (by simpa using hi) (by omega) ((zAV ha _).trans rfl)
theorem zCp {k : Key} {zs : List Int} {i : Nat} {a : Int} (hx : ρ x = .ptr k 1 i 0) (hk : h k = some (.rows 1 (zs.map ci))) (hy : ρ y = .int a) (hi : i < zs.length) (hs : zAr P t = 1) (ht : tyOk P t = true) :
   eff P ρ h key (.store t x y) = ⟨True, .dead, [(k, some (.rows 1 ((zs.set i a).map ci)))], [k], false⟩ := by
 have h1 : setRow (zs.map ci) i 0 [.int a] = (zs.set i a).map ci := by
   unfold setRow setAt;rw [List.map_set];congr 1;simp [List.getD_eq_getElem?_getD, hi, ci]
 simp only [eff, zCw, hx, hk, hy, zBf, hs, ht, h1];simp [hi, PV.cell]
end
section
variable {h : Heap}
theorem zJT {k : Key} {sz i j : Nat} {rs : Rows} (hk : h k = some (.rows sz rs)) (hp : ∀ row ∈ rs, ∀ p ∈ row, Pure p) : Inn0 h (.ptr k sz i j) (.lptr true sz rs i j) := .ptr hk hp
theorem zIG {f : Fn} {c c' : PV} (hc : Inn0 h c c') : Inn h (.func f [] [c]) (.func f [] [c']) :=
 .func rfl rfl (fun i p q hp _ => by simp at hp) fun i p q hp hq => by
   rcases i with _ | i
   · simp at hp hq; subst hp; subst hq; exact hc
   · simp at hp
theorem zAx {a : List PV} (hp : ∀ p ∈ a, Pure p) : Inn h (.agg a) (.agg a) := .base (.pure (.agg _ hp))
theorem zJS {k : Key} {sz n : Nat} {rs rows : Rows} (hk : h k = some (.rows sz rs)) (hl : rs.length = n) (he : rs = rows) (hp : ∀ row ∈ rs, ∀ p ∈ row, Pure p) : Inn h (.ref k sz 0 n) (.lit true sz rows) := by
 subst he; subst hl;exact .base (.ref hk (by omega) (by simp) hp)
theorem pure_one {v : PV} (hv : Pure v) : ∀ row ∈ [[v]], ∀ p ∈ row, Pure p := fun row hr p hp => by
 simp at hr; subst hr; simp at hp; subst hp; exact hv
theorem zJz {cs : List PV} (hv : ∀ p ∈ cs, Pure p) : ∀ row ∈ [cs], ∀ p ∈ row, Pure p := fun row hr p hp => by
 simp at hr; subst hr; exact hv p hp
theorem inn_lptr {tt : Bool} {sz i j : Nat} {rows : Rows} : Inn h (.lptr tt sz rows i j) (.lptr true sz rows i j) := .base (.lptr fun _ => rfl)
theorem zDM {α : Type} {f : α → List PV} {xs : List α} {d sz : Nat} {v : PV} {rows : Rows} (hs : zAq h d v sz rows) (he : rows = xs.map f) (hl : ∀ a, (f a).length = sz) (hp : ∀ a, ∀ p ∈ f a, Clean p ∧ p.cell = true) : Out h v (.lit false sz (xs.map f)) := by
 subst he;rcases hs with ⟨h1, rfl⟩ | ⟨g, rfl, hg⟩
 · rw [h1]; exact .nil sz
 · refine .ref hg (by omega) rfl (fun row hr => ?_) (fun i j row row' p p' h1 h2 h3 h4 => ?_) (fun row hr p hp' => ?_)
   · obtain ⟨a, _, rfl⟩ := List.mem_map.1 hr; exact hl a
   · rw [Nat.zero_add] at h1;rw [h1] at h2; cases h2;rw [h3] at h4; cases h4;obtain ⟨a, _, rfl⟩ := List.mem_map.1 (List.mem_of_getElem? h1);exact .clean (hp a p (List.mem_of_getElem? h3)).1
   · obtain ⟨a, _, rfl⟩ := List.mem_map.1 hr; exact (hp a p hp').2
theorem zIt {cs cs' : List PV} (he : cs = cs') (hp : ∀ p ∈ cs, Clean p) : Out h (.agg cs) (.agg cs') := by
 subst he; exact .clean (.agg _ hp)
end
section
variable {P : Program} {R : PV → Heap → (Nat → Nat) → Prop} {r : Nat → PV} {h : Heap} {cnt : Nat → Nat}
theorem endC {a : Nat} {t : TypeId} {k : Key} {n : Nat} {cs : List PV} (hx : r a = .ptr k n 0 0) (hk : h k = some (.rows n [cs])) (hg : tyAgg P t = true) (hs : zAr P t = n) (ht : tyOk P t = true) (hl : cs.length = n) (hR : R (.agg cs) h cnt) : endQ P [.cell a t] R .ret ⟨r, h, cnt⟩ := by
 have h1 : aggAt [cs] 0 0 n = cs := by subst hl; simp [aggAt]
 show (zBK P h t (r a)).ob ∧ R (zBK P h t (r a)).v h cnt;rw [hx];simp only [zBK, hk, hg, hs, ht, h1];simp;exact hR
end
section
variable {P : Program} {K : PS → Prop} {d : Nat} {op : Op} {ty : TypeId} {pos : String} {aft : Array Edge} {gd : Option (Nat × Bool)} {rest : List Oper} {r : Nat → PV} {h : Heap} {cnt : Nat → Nat} {ops : Array Oper} {i : Nat} {G : Nat → Bool} {dd : Bool}
structure Ft where
 i : Nat
 rd : List Nat
 wr : List Nat
def Fits (tr : List Foot) (ts : List Ft) : Prop := tr.length = ts.length ∧ ∀ (j : Nat) (x : Foot) (t : Ft), tr[j]? = some x → ts[j]? = some t → x.i = t.i ∧ (∀ k ∈ x.rd, k.1 ∈ t.rd) ∧ (∀ k ∈ x.wr, k.1 ∈ t.wr)
theorem Fits.snoc {tr : List Foot} {ts : List Ft} {x : Foot} {t : Ft} (hf : Fits tr ts) (h1 : x.i = t.i) (h2 : ∀ k ∈ x.rd, k.1 ∈ t.rd) (h3 : ∀ k ∈ x.wr, k.1 ∈ t.wr) : Fits (tr ++ [x]) (ts ++ [t]) := by
 refine ⟨by simp [hf.1], fun j y u hy hu => ?_⟩;rw [List.getElem?_append] at hy hu;by_cases hj : j < tr.length
 · rw [if_pos hj] at hy;rw [if_pos (by rw [← hf.1]; exact hj)] at hu;exact hf.2 j y u hy hu
 · rw [if_neg hj] at hy;rw [if_neg (by rw [← hf.1]; exact hj)] at hu;rw [hf.1] at hy;cases hq : j - ts.length with
   | zero => rw [hq] at hy hu; simp at hy hu; subst hy; subst hu; exact ⟨h1, h2, h3⟩
   | succ m => rw [hq] at hy; simp at hy
def djB (a b : List Nat) : Bool := a.all fun x => b.all fun y => !Nat.beq x y
theorem zLR {a b : List Nat} {u w : List Key} (hd : djB a b = true) (hu : ∀ k ∈ u, k.1 ∈ a) (hw : ∀ k ∈ w, k.1 ∈ b) : zB3 u w := fun k h1 h2 => by
 have := List.all_eq_true.1 (List.all_eq_true.1 hd _ (hu k h1)) _ (hw k h2);simp at this
def indB (ops : Array Oper) (x y : Ft) : Bool := waitsFor ops ops.size y.i x.i || ((((do let a ← ops[x.i]?; let b ← ops[y.i]?; pure (a.apart ops b && (zAH a != zAH b || (a.dst.isNone && b.dst.isNone)))) : Option Bool).getD false) && (djB x.wr y.rd && ((zKo ops x.i y.i || djB y.wr x.rd) && djB x.wr y.wr)))
def zJV (ops : Array Oper) : List Ft → Bool
 | [] => true
 | x :: l => l.all (indB ops x) && zJV ops l
theorem zGN : ∀ {ts : List Ft} {tr : List Foot}, zJV ops ts = true → Fits tr ts → zDh ops tr
 | [], [], _, _ => trivial
 | [], _ :: _, _, hf => by have := hf.1; simp at this
 | _ :: _, [], _, hf => by have := hf.1; simp at this
 | t :: ts, x :: tr, hi, hf => by
   simp only [zJV, Bool.and_eq_true] at hi;obtain ⟨e1, e2, e3⟩ := hf.2 0 x t rfl rfl;have hf' : Fits tr ts := ⟨by have := hf.1; simpa using this, fun j y u h1 h2 => hf.2 (j + 1) y u h1 h2⟩
   refine ⟨fun y hy => ?_, zGN hi.2 hf'⟩;obtain ⟨j, hj⟩ := List.mem_iff_getElem?.1 hy;have hlt : j < ts.length := by rw [← hf'.1]; exact (List.getElem?_eq_some_iff.1 hj).1
   obtain ⟨u, hu⟩ : ∃ u, ts[j]? = some u := ⟨_, List.getElem?_eq_getElem hlt⟩
   obtain ⟨f1, f2, f3⟩ := hf'.2 j y u hj hu;have hb := List.all_eq_true.1 hi.1 u (List.mem_of_getElem? hu);simp only [indB, Bool.or_eq_true, Bool.and_eq_true] at hb;rcases hb with hb | ⟨hb, b1, b2, b3⟩
   · left; rw [e1, f1]; exact hb
   · right; refine ⟨by rw [e1, f1]; exact hb, zLR b1 e3 f2, (b2.imp (by rw [e1, f1]; exact id) fun b2 => zLR b2 f3 e2), zLR b3 e3 f3⟩
def sRun (P : Program) (ops : Array Oper) (dd : Bool) (K : PS → Prop) (l : List Oper) (i : Nat) (s : PS) (G : Nat → Bool) (ts : List Ft) : Prop := ∀ tr, Fits tr ts → gOps P ops dd K l i ⟨s, G⟩ tr
theorem zA0 (hr : sRun P ops dd K ops.toList 0 ⟨r, h, cnt⟩ (fun _ => true) []) : gOps P ops dd K ops.toList 0 ⟨⟨r, h, cnt⟩, fun _ => true⟩ [] := hr [] ⟨rfl, fun j x t hx => by simp at hx⟩
theorem s_end {ds : List Nat} {ts : List Ft} (hs : (!dd || zJV ops ts) = true) (hd : zCJ ops.toList = ds) (hk : K ⟨deadT r ds, h, cnt⟩) : sRun P ops dd K [] i ⟨r, h, cnt⟩ G ts := by
 intro tr ht;refine ⟨fun hd => zGN (by rw [hd] at hs; exact hs) ht, ?_⟩;show K (fin ops.toList ⟨r, h, cnt⟩);unfold fin;rw [zGT, hd];exact hk
theorem zAz {ob : Prop} {v : PV} {rd : List Key} {ts : List Ft} (rs : List Nat) (hrd : ∀ k ∈ rd, k.1 ∈ rs) (hg : gobB ops r G gd = true) (hgv : gval ops ⟨⟨r, h, cnt⟩, G⟩ gd = true) (hc : zAX r op = none) (hv : zCL r G op = true) (he : eff P (ev r) h (d, cnt d) op = ⟨ob, v, [], rd, false⟩) (hob : ob)
   (hk : sRun P ops dd K rest (i + 1) ⟨setT r d v, h, cnt⟩ (setB G d true) (ts ++ [⟨i, rs, []⟩])) : sRun P ops dd K (⟨some d, op, ty, pos, aft, gd⟩ :: rest) i ⟨r, h, cnt⟩ G ts := by
 intro tr ht;unfold gOps;refine ⟨zDl hg, ?_⟩;show match zAX r op with | none => _ | some (f, args) => _
 rw [hc];simp only [zAH, Option.getD_some];rw [he, hgv];refine ⟨fun _ => ⟨zB1 hv, hob⟩, (fun h => by cases h), ?_⟩;have := hk (tr ++ [⟨i, rd, []⟩]) (ht.snoc rfl hrd (by simp));simp only [stepG, stepS, zBg, zCb, effG, if_true];exact this
theorem s_new {ob : Prop} {v : PV} {rd : List Key} {g : Nat} {o : Option PObj} {ts : List Ft} (rs : List Nat) (hrd : ∀ k ∈ rd, k.1 ∈ rs) (hg : gobB ops r G gd = true) (hgv : gval ops ⟨⟨r, h, cnt⟩, G⟩ gd = true) (hc : zAX r op = none) (hv : zCL r G op = true) (he : eff P (ev r) h (d, cnt d) op = ⟨ob, v, [((d, g), o)], rd, true⟩) (hob : ob)
   (hk : sRun P ops dd K rest (i + 1) ⟨setT r d v, hset h (d, g) o, cset cnt d⟩ (setB G d true) (ts ++ [⟨i, rs, [d]⟩])) : sRun P ops dd K (⟨some d, op, ty, pos, aft, gd⟩ :: rest) i ⟨r, h, cnt⟩ G ts := by
 intro tr ht;unfold gOps;refine ⟨zDl hg, ?_⟩;show match zAX r op with | none => _ | some (f, args) => _
 rw [hc];simp only [zAH, Option.getD_some];rw [he, hgv];refine ⟨fun _ => ⟨zB1 hv, hob⟩, (fun _ => rfl), ?_⟩;have := hk (tr ++ [⟨i, rd, [(d, g)]⟩]) (ht.snoc rfl hrd (by simp));simp only [stepG, stepS, zBg, zCb, effG, if_true];exact this
theorem zA4 {ob : Prop} {v : PV} {rd : List Key} {e g : Nat} {o : Option PObj} {ts : List Ft} (rs : List Nat) (hrd : ∀ k ∈ rd, k.1 ∈ rs) (hc : zAX r op = none) (hv : zCL r G op = true) (he : eff P (ev r) h (999983, cnt 999983) op = ⟨ob, v, [((e, g), o)], rd, false⟩) (hob : ob)
   (hk : sRun P ops dd K rest (i + 1) ⟨r, hset h (e, g) o, cnt⟩ G (ts ++ [⟨i, rs, [e]⟩])) : sRun P ops dd K (⟨none, op, ty, pos, aft, none⟩ :: rest) i ⟨r, h, cnt⟩ G ts := by
 intro tr ht;unfold gOps;refine ⟨trivial, ?_⟩;show match zAX r op with | none => _ | some (f, args) => _
 rw [hc];simp only [zAH, Option.getD_none];rw [he];refine ⟨fun _ => ⟨zB1 hv, hob⟩, (fun h => by cases h), ?_⟩;exact hk (tr ++ [⟨i, rd, [(e, g)]⟩]) (ht.snoc rfl hrd (by simp))
theorem zC2 {ts : List Ft} (hg : gobB ops r G gd = true) (hgv : gval ops ⟨⟨r, h, cnt⟩, G⟩ gd = false) (hc : zAX r op = none) (hk : sRun P ops dd K rest (i + 1) ⟨setT r d .dead, h, cnt⟩ (setB G d false) (ts ++ [⟨i, [], []⟩])) :
   sRun P ops dd K (⟨some d, op, ty, pos, aft, gd⟩ :: rest) i ⟨r, h, cnt⟩ G ts := by
 intro tr ht;unfold gOps;refine ⟨zDl hg, ?_⟩;show match zAX r op with | none => _ | some (f, args) => _
 rw [hc];simp only [zAH, Option.getD_some];rw [hgv];refine ⟨(fun h => by cases h), (fun h => by cases h), ?_⟩;have := hk (tr ++ [⟨i, [], []⟩]) (ht.snoc rfl (by simp) (by simp));simp only [stepG, stepS, zBg, zCb];exact this
theorem zDS {f : FuncId} {args as' : List PV} {v : PV} {ts : List Ft} (rs : List Nat) (hrd : ∀ k ∈ args.flatMap zBF, k.1 ∈ rs) (hg : gobB ops r G gd = true) (hgv : gval ops ⟨⟨r, h, cnt⟩, G⟩ gd = true) (hc : zAX r op = some (f, args)) (hv : zCL r G op = true) (hi : Inns h args as') (hp : PCalls P f as' v)
   (hk : sRun P ops dd K rest (i + 1) ⟨setT r d v, h, cnt⟩ (setB G d true) (ts ++ [⟨i, rs, []⟩])) : sRun P ops dd K (⟨some d, op, ty, pos, aft, gd⟩ :: rest) i ⟨r, h, cnt⟩ G ts := by
 intro tr ht;unfold gOps;refine ⟨zDl hg, ?_⟩;show match zAX r op with | none => _ | some (f, args) => _
 rw [hc];refine .inl ⟨v, fun _ => ⟨zB1 hv, as', hi, hp⟩, ?_⟩;rw [hgv];have := hk (tr ++ [⟨i, args.flatMap zBF, []⟩]) (ht.snoc rfl hrd (by simp));simp only [stepG, stepS, zBg, zCb];exact this
theorem zIh {b : Bool} {ts : List Ft} (ht : b = true → sRun P ops dd K rest i ⟨setT r d (.bool true), h, cnt⟩ G ts) (hf : b = false → sRun P ops dd K rest i ⟨setT r d (.bool false), h, cnt⟩ G ts) : sRun P ops dd K rest i ⟨setT r d (.bool b), h, cnt⟩ G ts := by
 cases b with
 | true => exact ht rfl
 | false => exact hf rfl
end
end Go.Pv
namespace Go.Pv
open Go
section
variable {α β : Type} [DecidableEq α]
def aGet (k : α) : List (α × β) → Option β
 | [] => none
 | e :: l => if k = e.1 then some e.2 else aGet k l
def aSet (k : α) (v : β) : List (α × β) → List (α × β)
 | [] => [(k, v)]
 | e :: l => if k = e.1 then (k, v) :: l else e :: aSet k v l
theorem zDg (k k' : α) (v : β) : ∀ l : List (α × β), aGet k' (aSet k v l) = if k' = k then some v else aGet k' l
 | [] => by simp [aSet, aGet]
 | e :: l => by
   unfold aSet;split
   · rename_i h;subst h;simp only [aGet];by_cases hk : k' = e.1 <;> simp [hk]
   · rename_i h;simp only [aGet, zDg k k' v l];by_cases hk : k' = e.1
     · rw [if_pos hk, if_neg (fun he => h (he.symm.trans hk)), if_pos hk]
     · simp [hk]
variable {f : α → PV} {g : β → PV}
def zBb (f : α → PV) (g : β → PV) (l : List (α × β)) : List (PV × PV) := l.map fun e => (f e.1, g e.2)
theorem zFv (hf : ∀ a b, keyEq (f a) (f b) = decide (a = b)) (k : α) : ∀ l, zBB (f k) (zBb f g l) = (aGet k l).map g
 | [] => rfl
 | e :: l => by
   show (if keyEq (f k) (f e.1) then some (g e.2) else zBB (f k) (zBb f g l)) = _;rw [hf, zFv hf k l];by_cases h : k = e.1 <;> simp [aGet, h]
theorem zGF (hf : ∀ a b, keyEq (f a) (f b) = decide (a = b)) (k : α) (v : β) : ∀ l, zCo (f k) (g v) (zBb f g l) = zBb f g (aSet k v l)
 | [] => rfl
 | e :: l => by
   show (if keyEq (f k) (f e.1) then (f k, g v) :: zBb f g l else (f e.1, g e.2) :: zCo (f k) (g v) (zBb f g l)) = _;rw [hf, zGF hf k v l];by_cases h : k = e.1 <;> simp [aSet, h, zBb]
variable {P : Program} {ρ : Operand → PV} {h : Heap} {key : Key} {x y z : Operand} {t t' : TypeId} {v : PV}
omit [DecidableEq α] in
theorem zJ6 {kt : TypeId} {l : List (α × β)} (hk : ∀ a, keyOk P kt (f a)) : ∀ e ∈ zBb f g l, keyOk P kt e.1 := fun e he => by
 obtain ⟨a, _, rfl⟩ := List.mem_map.1 he;exact hk a.1
def MapAt (h : Heap) (k : Key) (es : List (PV × PV)) : Prop :=
 ∃ (bs : List Nat) (clk : Nat), h k = some (.map es bs clk) ∧ bs.length = es.length ∧ bs.Nodup ∧ ∀ b ∈ bs, b < clk
theorem MapAt.keep {h h' : Heap} {k : Key} {es : List (PV × PV)} (hm : MapAt h k es) (he : h' k = h k) : MapAt h' k es := by
 obtain ⟨bs, clk, h1, h2⟩ := hm;exact ⟨bs, clk, he.trans h1, h2⟩
omit [DecidableEq α] in
theorem MapAt.new {h : Heap} {k : Key} : MapAt (hset h k (some (.map [] [] 0))) k (zBb f g []) := ⟨[], 0, by simp [hset, zBb], rfl, List.nodup_nil, by simp⟩
theorem zHq {k v : PV} : ∀ {es : List (PV × PV)}, (zCo k v es).length = if (zBB k es).isSome then es.length else es.length + 1
 | [] => by simp [zCo, zBB]
 | e :: es => by
   unfold zCo zBB;split
   · simp
   · rw [List.length_cons, zHq];split <;> simp
def mSet (o : Option PObj) (k v : PV) : PObj :=
 match o with
 | some (.map es bs clk) => .map (zCo k v es) (stB k es bs clk) (stC k es clk)
 | _ => .map [] [] 0
theorem MapAt.set {h : Heap} {k : Key} {l : List (α × β)} (hf : ∀ a b, keyEq (f a) (f b) = decide (a = b)) (hm : MapAt h k (zBb f g l)) (a : α) (b : β) : MapAt (hset h k (some (mSet (h k) (f a) (g b)))) k (zBb f g (aSet a b l)) := by
 obtain ⟨bs, clk, h1, h2, h3, h4⟩ := hm;refine ⟨stB (f a) (zBb f g l) bs clk, stC (f a) (zBb f g l) clk, ?_, ?_, ?_, ?_⟩
 · simp only [hset, if_true, h1, mSet, zGF hf]
 · rw [← zGF hf, zHq];unfold stB;split <;> simp [h2]
 · unfold stB;split
   · exact h3
   · refine List.nodup_append.2 ⟨h3, by simp, fun x hx y hy => ?_⟩;simp at hy; subst hy;have := h4 x hx; omega
 · unfold stB stC;split
   · exact h4
   · intro x hx;rcases List.mem_append.1 hx with h | h
     · have := h4 x h; omega
     · simp at h; omega
theorem zHA : eff P ρ h key (.makeMap t none) = ⟨True, .map key, [(key, some (.map [] [] 0))], [], true⟩ := by
 simp only [eff, Option.isNone_none]
theorem zGW {kt et : TypeId} {k : Key} {l : List (α × β)} {a : α} {z : β} (hf : ∀ a b, keyEq (f a) (f b) = decide (a = b)) (hko : ∀ a, keyOk P kt (f a)) (hx : ρ x = .map k) (hy : ρ y = f a) (hm : MapAt h k (zBb f g l)) (ht : mapTy P t = some (kt, et)) (hz : zF1 P et = true) (hzv : zFZ P et = g z) :
   eff P ρ h key (.lookup t x y false) = ⟨True, g ((aGet a l).getD z), [], [k], false⟩ := by
 have h1 : zEq P et false (zBB (f a) (zBb f g l)) = g ((aGet a l).getD z) := by
   rw [zFv hf];unfold zEq;rw [hzv];cases aGet a l <;> rfl
 obtain ⟨bs, clk, hm, _⟩ := hm;simp only [eff, hx, hy, zBv, ht, hm, h1, hz];simp [hko a];exact fun u w hu => zJ6 (g := g) (l := l) hko (u, w) hu
theorem zH1 {kt et : TypeId} {k : Key} {l : List (α × β)} {a : α} {b : β} (hf : ∀ a b, keyEq (f a) (f b) = decide (a = b)) (hko : ∀ a, keyOk P kt (f a)) (hx : ρ x = .map k) (hy : ρ y = f a) (hz : ρ z = g b) (hc : (g b).cell = true) (hm : MapAt h k (zBb f g l)) (ht : mapTy P t = some (kt, et)) :
   eff P ρ h key (.mapUpdate t x y z) = ⟨True, .dead, [(k, some (mSet (h k) (f a) (g b)))], [k], false⟩ := by
 obtain ⟨bs, clk, hm, _⟩ := hm;simp only [eff, hx, hy, hz, zBI, ht, hm, mSet, mval_cell hc];simp [hko a];exact fun u w hu => zJ6 (g := g) (l := l) hko (u, w) hu
omit [DecidableEq α] in
theorem e_aeq {a b : List PV} {c : Bool} (hx : ρ x = .agg a) (hy : ρ y = .agg b) (hg : P.eqGuardType P.depth t = false) (ho : eqOk P 6 t (.agg a) (.agg b) = true) (hv : eqV P 6 t (.agg a) (.agg b) = c) :
   eff P ρ h key (.binOp .eql t x y t') = ⟨True, .bool c, [], [], false⟩ := by
 simp only [eff, hx, hy, zBl, zBQ, eqBin, hg, ho, hv]; simp
end
end Go.Pv
namespace Go.Pv
open Go
section
variable {P : Program} {ρ : Operand → PV} {h : Heap} {key : Key} {x y : Operand} {t t' : TypeId}
theorem e_nileq {tt : Bool} {sz : Nat} {rows : Rows} (hx : ρ x = .lit tt sz rows) (hn : rows ≠ []) (hy : zHW y = true) (ht : zCv P t = true) : eff P ρ h key (.binOp .eql t x y t') = ⟨True, .bool false, [], [], false⟩ := by
 cases rows with
 | nil => exact absurd rfl hn
 | cons row rows => simp only [eff, hx, hy, zBl, zHU, ht]; simp
theorem zAS {k : Key} {sz len : Nat} {kd : IntKind} {i : Int} (hx : ρ x = .ref k sz 0 len) (hy : ρ y = .sc (.int kd i)) (ht : zAN P t = true) (hs : zAr P (zAu P t) = sz) (hi : 0 ≤ i ∧ i < len) :
   eff P ρ h key (.indexAddr t x y) = ⟨True, .ptr k sz i.toNat 0, [], [], false⟩ := by
 have := zMv (P := P) (h := h) (key := key) hx hy ht hs hi;rw [Nat.zero_add] at this; exact this
end
section
variable {h h' : Heap} {d sz : Nat} {v : PV} {rows : Rows}
end
end Go.Pv
namespace Go.Pv
open Go
section
variable {α β : Type} [DecidableEq α] {f : α → PV} {g : β → PV}
variable {P : Program} {ρ : Operand → PV} {h : Heap} {key : Key} {x y : Operand} {t : TypeId}
end
section
variable {P : Program} {ρ : Operand → PV} {h : Heap} {key : Key} {x y : Operand} {t : TypeId}
theorem zES {parts : Array (Nat × Operand)} {cs : List PV} {ps : List (Nat × PV)} {pl : List (Nat × Nat × Bool)} {zs : List PV} (hz : zAT P t = some zs) (hpl : zBp P t = pl) (hso : (arrOk P t).isSome = true) (hza : zs.all PV.cell = true) (hp : (parts.toList.map fun p => (p.1, ρ p.2)) = ps)
   (hf : zI8 pl zs.length ps) (hcs : zDc pl zs ps = cs) : eff P ρ h key (.build t parts) = ⟨True, .agg cs, [], [], false⟩ := by
 simp only [eff, hp, zDf, hz, hpl, hso, hza, hcs]; simp [hf]
end
def cb (s : ByteArray) : List PV := [.str s]
end Go.Pv
namespace Go.Pv
open Go Go.RowKit
section
variable {P : Program} {K : PS → Prop} {d : Nat} {op : Op} {ty : TypeId} {pos : String} {aft : Array Edge} {rest : List Oper} {r : Nat → PV} {h : Heap} {cnt : Nat → Nat} {ops : Array Oper} {i : Nat} {G : Nat → Bool} {dd : Bool} {x y : Operand} {t : TypeId}
theorem s_any {gd : Option (Nat × Bool)} {e : Eff} {ts : List Ft} (rs ws : List Nat) (hg : gobB ops r G gd = true) (hgv : gval ops ⟨⟨r, h, cnt⟩, G⟩ gd = true) (hrd : ∀ k ∈ e.rd, k.1 ∈ rs) (hwr : ∀ k ∈ e.wr.map (·.1), k.1 ∈ ws) (hc : zAX r op = none) (hv : zCL r G op = true) (he : eff P (ev r) h (d, cnt d) op = e) (hob : e.ob)
   (hk : sRun P ops dd K rest (i + 1) ⟨setT r d e.v, zAZ h e.wr, bumpC cnt d e.bump⟩ (setB G d true) (ts ++ [⟨i, rs, ws⟩])) : sRun P ops dd K (⟨some d, op, ty, pos, aft, gd⟩ :: rest) i ⟨r, h, cnt⟩ G ts := by
 intro tr ht;unfold gOps;refine ⟨zDl hg, ?_⟩;show match zAX r op with | none => _ | some (f, args) => _
 rw [hc];simp only [zAH, Option.getD_some];rw [he, hgv];refine ⟨fun _ => ⟨zB1 hv, hob⟩, (fun _ => rfl), ?_⟩;have := hk (tr ++ [⟨i, e.rd, e.wr.map (·.1)⟩]) (ht.snoc rfl hrd hwr);simp only [stepG, stepS, zBg, zCb, effG, if_true];exact this
def SrcAt (h : Heap) (ds : List Nat) (sz : Nat) (u : PV) (rows : Rows) : Prop := (zAU h sz u).1 ∧ (zAU h sz u).2.1 = rows ∧ ∀ k ∈ (zAU h sz u).2.2, k.1 ∈ ds
theorem SrcAt.ref {d1 g n sz : Nat} {rows : Rows} (hk : h (d1, g) = some (.rows sz rows)) (hn : rows.length = n) : SrcAt h [d1] sz (.ref (d1, g) sz 0 n) rows := by
 have h1 := zCq (n2 := n) hk hn;refine ⟨h1.1, h1.2, ?_⟩;unfold zAU; simp only [hk]; simp
theorem s_appG {gd : Option (Nat × Bool)} {ts : Array TypeId} {t2 : TypeId} {u u2 : PV} {sz d1 : Nat} {rows rows2 : Rows} {tl : List Ft} {ds : List Nat} (rs ws : List Nat) (hgd : gobB ops r G gd = true) (hgv : gval ops ⟨⟨r, h, cnt⟩, G⟩ gd = true) (hr1 : d1 ∈ rs) (hr2 : ∀ z ∈ ds, z ∈ rs) (hw1 : d1 ∈ ws ∧ d ∈ ws) (hts : ts.toList = [t, t2]) (hx : ev r x = u) (hy : ev r y = u2) (hs : zAq h d1 u sz rows) (hsr : SrcAt h ds sz u2 rows2)
   (hv : zCL r G (.call { callee := .builtin .append, args := #[x, y], argTypes := ts }) = true)
   (hok : (zAN P t && (decide (P.bytesOf (zAu P t) < 2 ^ 15) && (decide (zBm P t2 = none) && (zEg P (zAu P t) && ((P.underlying t2).isSome && decide (zAr P (zAu P t) = sz)))))) = true) (hlen : rows.length + rows2.length < 2 ^ 32)
   (hk : ∀ v' h' c', zAq h' d v' sz (rows ++ rows2) → (∀ k' : Key, k' ≠ (d, cnt d) → (∀ g, u = .ref (d1, g) sz 0 rows.length → k' ≠ (d1, g)) → h' k' = h k') → sRun P ops dd K rest (i + 1) ⟨setT r d v', h', c'⟩ (setB G d true) (tl ++ [⟨i, rs, ws⟩])) :
   sRun P ops dd K (⟨some d, .call { callee := .builtin .append, args := #[x, y], argTypes := ts }, ty, pos, aft, gd⟩ :: rest) i ⟨r, h, cnt⟩ G tl := by
 simp only [Bool.and_eq_true, decide_eq_true_eq] at hok;obtain ⟨o1, o2, o3, o4, o5, o6⟩ := hok;subst o6;obtain ⟨hs1, hs2, hs3⟩ := hsr
 have he : ∀ u, ev r x = u → eff P (ev r) h (d, cnt d) (.call { callee := .builtin .append, args := #[x, y], argTypes := ts }) = zA3 P h (d, cnt d) t t2 u u2 := fun u hu => by
   show zA9 P h (d, cnt d) .append ts.toList [ev r x, ev r y] = _;rw [hts, hu, hy]; rfl
 have hrs : ∀ k ∈ (zAU h (zAr P (zAu P t)) u2).2.2, k.1 ∈ rs := fun k hk' => hr2 _ (hs3 k hk');rcases hs with ⟨rfl, rfl⟩ | ⟨g, rfl, hg⟩
 · have hq := he _ hx;unfold zA3 at hq;simp only [hs2] at hq;cases hne : rows2.isEmpty with
   | true =>
     have hr2' : rows2 = [] := by simpa using hne
     rw [hne] at hq;simp only [cond_true] at hq;exact s_any rs ws hgd hgv hrs (by simp) rfl hv hq ⟨⟨o1, o2, o3, o4, o5⟩, hs1⟩ (hk _ _ _ (.inl ⟨by rw [hr2']; rfl, rfl⟩) fun k' _ _ => rfl)
   | false =>
     rw [hne] at hq;simp only [cond_false] at hq;refine s_any rs ws hgd hgv hrs (by simp [hw1.2]) rfl hv hq ⟨⟨o1, o2, o3, o4, o5⟩, hs1, (by intro e; rw [e] at hne; cases hne), by simp at hlen; omega⟩ (hk _ _ _ (.inr ⟨cnt d, by rw [List.nil_append], by rw [List.nil_append]; exact zBk _ _ _⟩) fun k' h1 _ => zAp h1)
 · have hq := he _ hx;unfold zA3 at hq;simp only [hg, hs2] at hq;refine s_any rs ws hgd hgv (by intro k hk'; rcases List.mem_cons.1 hk' with rfl | hk'; exact hr1; exact hrs k hk') (by simp [hw1.1, hw1.2]) rfl hv hq (by refine ⟨⟨o1, o2, o3, o4, o5⟩, hs1, ?_⟩; simp; omega) (hk _ (hset (hset h (d1, g) none) (d, cnt d) (some (.rows (zAr P (zAu P t)) (rows.take rows.length ++ rows2)))) _ (.inr ⟨cnt d, by rw [List.length_append], ?_⟩) fun k' h1 h2 => ?_)
   · rw [zBk]; first | rw [List.drop_zero, List.take_length] | rw [List.take_length]
   · rw [zAp h1, zAp (h2 g rfl)]
theorem s_app {ts : Array TypeId} {t2 : TypeId} {u u2 : PV} {sz d1 : Nat} {rows rows2 : Rows} {tl : List Ft} {ds : List Nat} (rs ws : List Nat) (hr1 : d1 ∈ rs) (hr2 : ∀ z ∈ ds, z ∈ rs) (hw1 : d1 ∈ ws ∧ d ∈ ws) (hts : ts.toList = [t, t2]) (hx : ev r x = u) (hy : ev r y = u2) (hs : zAq h d1 u sz rows) (hsr : SrcAt h ds sz u2 rows2)
   (hv : zCL r G (.call { callee := .builtin .append, args := #[x, y], argTypes := ts }) = true)
   (hok : (zAN P t && (decide (P.bytesOf (zAu P t) < 2 ^ 15) && (decide (zBm P t2 = none) && (zEg P (zAu P t) && ((P.underlying t2).isSome && decide (zAr P (zAu P t) = sz)))))) = true) (hlen : rows.length + rows2.length < 2 ^ 32)
   (hk : ∀ v' h' c', zAq h' d v' sz (rows ++ rows2) → (∀ k' : Key, k' ≠ (d, cnt d) → (∀ g, u = .ref (d1, g) sz 0 rows.length → k' ≠ (d1, g)) → h' k' = h k') → sRun P ops dd K rest (i + 1) ⟨setT r d v', h', c'⟩ (setB G d true) (tl ++ [⟨i, rs, ws⟩])) :
   sRun P ops dd K (⟨some d, .call { callee := .builtin .append, args := #[x, y], argTypes := ts }, ty, pos, aft, none⟩ :: rest) i ⟨r, h, cnt⟩ G tl :=
 s_appG rs ws rfl rfl hr1 hr2 hw1 hts hx hy hs hsr hv hok hlen hk
end
end Go.Pv
