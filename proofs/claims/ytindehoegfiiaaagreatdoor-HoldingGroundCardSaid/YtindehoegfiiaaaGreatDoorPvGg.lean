import Derived.Test.YtindehoegfiiaaaGreatDoorPvGe
import Derived.Test.YtindehoegfiiaaaGreatDoorPvGf
set_option linter.unusedSimpArgs false
set_option linter.unusedVariables false
/- Arguments of a law, taken apart by their types. -/
namespace Go.Pv
open Go Go.RowKit
section
variable {P : Program}

theorem CellP.int_inv {t : TypeId} {q : PV} {k : IntKind} (ht : P.underlying t = some (.int k)) (h : CellP P t q) : ∃ z, q = .sc (.int k z) ∧ (Lit.int k z).wf = true := by
 cases h with
 | int k' z ht' hw => rw [ht] at ht'; cases ht'; exact ⟨z, rfl, hw⟩
 | bool b ht' => rw [ht] at ht'; cases ht'
 | str s ht' hs => rw [ht] at ht'; cases ht'
 | slice rows ht' he hm hl h => rw [ht] at ht'; cases ht'

inductive CellsP (P : Program) : List TypeId → List PV → Prop where
 | nil : CellsP P [] []
 | cons {t : TypeId} {q : PV} {ts : List TypeId} {qs : List PV} (h : CellP P t q) (hs : CellsP P ts qs) : CellsP P (t :: ts) (q :: qs)

theorem CellsP.mk : ∀ {ts : List TypeId} {qs : List PV}, qs.length = ts.length → (∀ (i : Nat) (ty : TypeId) (q : PV), ts[i]? = some ty → qs[i]? = some q → CellP P ty q) → CellsP P ts qs
 | [], [], _, _ => .nil
 | [], _ :: _, h, _ => by simp at h
 | _ :: _, [], h, _ => by simp at h
 | t :: ts, q :: qs, h, hc => .cons (hc 0 t q rfl rfl) (CellsP.mk (by simpa using h) fun i ty p h1 h2 => hc (i + 1) ty p h1 h2)

theorem CellsP.nil_inv {qs : List PV} (h : CellsP P [] qs) : qs = [] := by cases h; rfl
theorem CellsP.cons_inv {t : TypeId} {ts : List TypeId} {qs : List PV} (h : CellsP P (t :: ts) qs) : ∃ q l, qs = q :: l ∧ CellP P t q ∧ CellsP P ts l := by
 cases h with
 | cons h hs => exact ⟨_, _, rfl, h, hs⟩

theorem CellP.slice_inv {t e : TypeId} {q : PV} {tys : List TypeId} (ht : P.underlying t = some (.slice e)) (he : cellTys P 9 e = some tys) (h : CellP P t q) :
   ∃ rows, q = .lit true (P.cellsOf e) rows ∧ rows.length ≤ maxLen ∧ ∀ row ∈ rows, CellsP P tys row := by
 cases h with
 | int k' z ht' hw => rw [ht] at ht'; cases ht'
 | bool b ht' => rw [ht] at ht'; cases ht'
 | str s ht' hs => rw [ht] at ht'; cases ht'
 | slice rows ht' he' hm hl h =>
   rw [ht] at ht'; cases ht'
   rw [he] at he'; cases he'
   exact ⟨rows, rfl, hm, fun row hr => .mk (hl row hr) fun i ty q h1 h2 => h row hr i ty q h1 h2⟩

theorem CellP.slice_at {t e n : Nat} {q : PV} {tys : List TypeId} (ht : P.underlying t = some (.slice e)) (he : cellTys P 9 e = some tys) (hn : P.cellsOf e = n) (h : CellP P t q) :
   ∃ rows, q = .lit true n rows ∧ rows.length ≤ maxLen ∧ ∀ row ∈ rows, CellsP P tys row := by
 subst hn; exact h.slice_inv ht he
theorem ArgP.cell {t : TypeId} {q : PV} (ht : tyAgg P t = false) (h : ArgP P t q) : CellP P t q := by
 unfold ArgP at h; rw [ht] at h; exact h
theorem ArgsP.nil_inv {qs : List PV} (h : ArgsP P [] qs) : qs = [] := by cases h; rfl
theorem ArgsP.cons_inv {t : TypeId} {ts : List TypeId} {qs : List PV} (h : ArgsP P (t :: ts) qs) : ∃ q l, qs = q :: l ∧ ArgP P t q ∧ ArgsP P ts l := by
 cases h with
 | cons h hs => exact ⟨_, _, rfl, h, hs⟩
end
end Go.Pv

/- Loops over states that are written out; own memory; what slices of records read as. -/
namespace Go.Pv
open Go

/-- The slots that are kept as they were. -/
def mix (live : List Nat) (R r : Nat → PV) : Nat → PV := fun t => bif live.any (Nat.beq t) then R t else r t
def sets (r : Nat → PV) : List (Nat × PV) → Nat → PV
 | [] => r
 | p :: l => setT (sets r l) p.1 p.2
def holds (r : Nat → PV) : List (Nat × PV) → Prop
 | [] => True
 | p :: l => r p.1 = p.2 ∧ holds r l
def agree (R r : Nat → PV) : List Nat → Prop
 | [] => True
 | t :: l => r t = R t ∧ agree R r l

theorem agree_self (R : Nat → PV) : ∀ l, agree R R l
 | [] => trivial
 | _ :: l => ⟨rfl, agree_self R l⟩
theorem agree_get {R r : Nat → PV} {t : Nat} : ∀ {l : List Nat}, agree R r l → l.any (Nat.beq t) = true → r t = R t
 | [], _, h => by simp at h
 | u :: l, ⟨h1, h2⟩, h => by
   rw [List.any_cons, Bool.or_eq_true] at h
   rcases h with h | h
   · rw [Nat.eq_of_beq_eq_true h]; exact h1
   · exact agree_get h2 h
theorem mix_eq {live : List Nat} {R r : Nat → PV} (h : agree R r live) : mix live R r = r := by
 funext t
 unfold mix
 cases hb : live.any (Nat.beq t) with
 | true => exact (agree_get h hb).symm
 | false => rfl
theorem sets_eq {r : Nat → PV} : ∀ {l : List (Nat × PV)}, holds r l → sets r l = r
 | [], _ => rfl
 | p :: l, ⟨h1, h2⟩ => by
   show setT (sets r l) p.1 p.2 = r
   rw [sets_eq h2]
   exact (setT_id h1).symm

section
variable {P : Program} {α : Type}

def LI (live : List Nat) (R : Nat → PV) (vs : α → List (Nat × PV)) (J : α → Heap → (Nat → Nat) → Prop) (μ : α → Nat) (n : Nat) (s : PS) : Prop := ∃ a, μ a = n ∧ agree R s.r live ∧ holds s.r (vs a) ∧ J a s.h s.cnt

theorem pwp_loopR {R : Nat → PV} {H : Heap} {C : Nat → Nat} {Q : Exit → PS → Prop} {cb : Code} (live : List Nat) (vs : α → List (Nat × PV)) (J : α → Heap → (Nat → Nat) → Prop) (μ : α → Nat) (a0 : α) (h0 : holds R (vs a0)) (hJ0 : J a0 H C)
   (body : ∀ a r h c, J a h c → pwp P cb (loopQ (LI live R vs J μ) (μ a) Q) ⟨sets (mix live R r) (vs a), h, c⟩) : pwp P (.loop cb) Q ⟨R, H, C⟩ := by
 refine pwp_loop (LI live R vs J μ) (μ a0) ⟨a0, rfl, agree_self R live, h0, hJ0⟩ fun n s ⟨a, hn, h1, h2, h3⟩ => ?_
 subst hn
 obtain ⟨r, h, c⟩ := s
 have := body a r h c h3
 rw [mix_eq h1, sets_eq h2] at this
 exact this

theorem loop_again {live : List Nat} {R r : Nat → PV} {vs : α → List (Nat × PV)} {J : α → Heap → (Nat → Nat) → Prop} {μ : α → Nat} {a : α} {Q : Exit → PS → Prop} {h : Heap} {c : Nat → Nat} (a' : α) (hm : μ a' < μ a) (h1 : agree R r live) (h2 : holds r (vs a')) (h3 : J a' h c) :
   loopQ (LI live R vs J μ) (μ a) Q .normal ⟨r, h, c⟩ := ⟨μ a', hm, a', rfl, h1, h2, h3⟩

variable {ρ : Operand → PV} {h : Heap} {key : Key} {x y z : Operand} {t t' : TypeId} {v : PV}

theorem e_alloc {cs : List PV} {n : Nat} (hz : zeroCellsOf P t = some cs) (hn : cs.length = n) (hc : (cs.all PV.cell && Nat.ble 1 n) = true) : eff P ρ h key (.alloc t) = ⟨cs.all PV.cell = true ∧ 1 ≤ n, .ptr key n 0 0, [(key, some (.rows n [cs]))], [], true⟩ := by
 subst hn; simp only [eff, hz, allocEff]
theorem ob_alloc {cs : List PV} {n : Nat} (hc : (cs.all PV.cell && Nat.ble 1 n) = true) : cs.all PV.cell = true ∧ 1 ≤ n := by
 simp only [Bool.and_eq_true] at hc; exact ⟨hc.1, Nat.le_of_ble_eq_true hc.2⟩
theorem e_box {cs : List PV} {n : Nat} (hx : ρ x = .agg cs) (hn : cs.length = n) : eff P ρ h key (.box t x) = ⟨cs.all PV.cell = true ∧ 1 ≤ n, .ptr key n 0 0, [(key, some (.rows n [cs]))], [], true⟩ := by
 subst hn; simp only [eff, hx, boxEff, allocEff, pcells]
theorem e_box1 (hx : ρ x = v) (hp : pcells v = [v]) : eff P ρ h key (.box t x) = ⟨[v].all PV.cell = true ∧ 1 ≤ 1, .ptr key 1 0 0, [(key, some (.rows 1 [[v]]))], [], true⟩ := by
 simp only [eff, hx, boxEff, allocEff, hp]; rfl

/-- A whole object is stored. -/
theorem e_storeA {k : Key} {n : Nat} {z cs : List PV} (hx : ρ x = .ptr k n 0 0) (hk : h k = some (.rows n [z])) (hy : ρ y = .agg cs) (hz : z.length = n) (hn : cs.length = n) (hs : tySize P t = n) (hc : cs.all PV.cell = true) (ht : tyOk P t = true) :
   eff P ρ h key (.store t x y) = ⟨True, .dead, [(k, some (.rows n [cs]))], [k], false⟩ := by
 have h1 : setAt z 0 cs = cs := by
   unfold setAt
   rw [List.take_zero, List.nil_append, Nat.zero_add, hn, ← hz, List.drop_length, List.append_nil]
 simp only [eff, storeEff, hx, hk, hy, pcells, hn, hs, hc, ht, setRow]
 simp [h1]
theorem e_loadH {k : Key} {sz i j : Nat} {rs : Rows} (hx : ρ x = .ptr k sz i j) (hk : h k = some (.rows sz rs)) (hg : tyAgg P t = false) (hs : tySize P t = 1) (ht : tyOk P t = true) (hi : i < rs.length) (hj : j < sz) (hv : cellAt rs i j = v) :
   eff P ρ h key (.load t x) = ⟨True, v, [], [k], false⟩ := by
 simp only [eff, hx, loadEff, hk, hg, hs, ht, hv]; simp [hi]; omega
theorem e_faP {k : Key} {sz i j f o : Nat} {pl : List (Nat × Nat × Bool)} (hx : ρ x = .ptr k sz i j) (ht : structOk P t = true) (hp : places P t = pl) (hf : f < pl.length) (ho : (pl.getD f (0, 0, false)).1 = o) :
   eff P ρ h key (.fieldAddr t x f) = ⟨True, .ptr k sz i (j + o), [], [], false⟩ := by
 simp only [eff, hx, fieldAddrEff, ht, hp, ho, hf]; simp
/-! ### Slices that grow -/
/-- A slice of own memory, made at one place of the text. -/
def SliceAt (h : Heap) (d : Nat) (v : PV) (sz : Nat) (rows : Rows) : Prop := (rows = [] ∧ v = .nil) ∨ ∃ g, v = .ref (d, g) sz 0 rows.length ∧ h (d, g) = some (.rows sz rows)

theorem SliceAt.nil {h : Heap} {d sz : Nat} : SliceAt h d .nil sz [] := .inl ⟨rfl, rfl⟩
variable {K : PS → Prop} {d : Nat} {ty : TypeId} {pos : String} {aft : Array Edge} {gd : Option (Nat × Bool)} {rest : List Oper} {r : Nat → PV} {cnt : Nat → Nat}

end

/-! ### Slices of records -/
section
variable {α : Type} {f : α → List PV} {xs : List α} {i : Nat} {a : α}
theorem cell_map (hx : xs[i]? = some a) (j : Nat) : cellAt (xs.map f) i j = (f a).getD j .dead := by
 simp [cellAt, List.getD_eq_getElem?_getD, hx]
theorem agg_map {n : Nat} (hx : xs[i]? = some a) (hl : (f a).length = n) : aggAt (xs.map f) i 0 n = f a := by
 subst hl
 simp [aggAt, List.getD_eq_getElem?_getD, hx]
theorem pure_map (hp : ∀ a, ∀ p ∈ f a, Pure p) : ∀ row ∈ xs.map f, ∀ p ∈ row, Pure p := fun row hr p h => by
 obtain ⟨a, _, rfl⟩ := List.mem_map.1 hr; exact hp a p h
theorem get_lt (h : i < xs.length) : ∃ a, xs[i]? = some a ∧ xs.drop i = a :: xs.drop (i + 1) ∧ xs.take (i + 1) = xs.take i ++ [a] :=
 ⟨xs[i], List.getElem?_eq_getElem h, List.drop_eq_getElem_cons h, by rw [List.take_add_one, List.getElem?_eq_getElem h]; rfl⟩
end
theorem rows_of {α : Type} {f : α → List PV} {ok : α → Prop} : ∀ {rows : Rows}, (∀ row ∈ rows, ∃ a, row = f a ∧ ok a) → ∃ xs : List α, rows = xs.map f ∧ ∀ a ∈ xs, ok a
 | [], _ => ⟨[], rfl, by simp⟩
 | row :: rows, h => by
   obtain ⟨a, ha, ho⟩ := h row (by simp)
   obtain ⟨xs, hx, hxo⟩ := rows_of (rows := rows) fun r hr => h r (by simp [hr])
   exact ⟨a :: xs, by rw [ha, hx]; rfl, fun b hb => by rcases List.mem_cons.1 hb with rfl | hb; exact ho; exact hxo b hb⟩

theorem wf64 {z : Int} (h : (Lit.int .i64 z).wf = true) : -9223372036854775808 ≤ z ∧ z ≤ 9223372036854775807 := by
 simp only [Lit.wf, Bool.and_eq_true, decide_eq_true_eq] at h
 exact h
end Go.Pv

/- More operations at states that are written out: bytes, parts of slices, arrays, rows of numbers, closures; results in memory; drawn regions with stores. -/
namespace Go.Pv
open Go
section
variable {P : Program} {ρ : Operand → PV} {h : Heap} {key : Key} {x y z : Operand} {t t' : TypeId} {v : PV}

theorem e_mkf {fn : Fn} {first cap : Array Operand} {cs : List PV} (hc : cap.toList.map ρ = cs) : eff P ρ h key (.makeFunc fn first cap) = ⟨True, .func fn (first.toList.map ρ) cs, [], [], false⟩ := by
 subst hc; rfl
/-! Rows of one number each -/
def ci (n : Int) : List PV := [.int n]
theorem ci_pure (n : Int) : ∀ p ∈ ci n, Pure p := fun p hp => by simp [ci] at hp; subst hp; exact .sc _

end

section
variable {h : Heap}
theorem inn_ptr {k : Key} {sz i j : Nat} {rs : Rows} (hk : h k = some (.rows sz rs)) (hp : ∀ row ∈ rs, ∀ p ∈ row, Pure p) : Inn0 h (.ptr k sz i j) (.lptr true sz rs i j) := .ptr hk hp
theorem inn_clos1 {f : Fn} {c c' : PV} (hc : Inn0 h c c') : Inn h (.func f [] [c]) (.func f [] [c']) :=
 .func rfl rfl (fun i p q hp _ => by simp at hp) fun i p q hp hq => by
   rcases i with _ | i
   · simp at hp hq; subst hp; subst hq; exact hc
   · simp at hp
theorem inn_agg {a : List PV} (hp : ∀ p ∈ a, Pure p) : Inn h (.agg a) (.agg a) := .base (.pure (.agg _ hp))
theorem inn_ref {k : Key} {sz n : Nat} {rs rows : Rows} (hk : h k = some (.rows sz rs)) (hl : rs.length = n) (he : rs = rows) (hp : ∀ row ∈ rs, ∀ p ∈ row, Pure p) : Inn h (.ref k sz 0 n) (.lit true sz rows) := by
 subst he; subst hl
 exact .base (.ref hk (by omega) (by simp) hp)
theorem pure_one {v : PV} (hv : Pure v) : ∀ row ∈ [[v]], ∀ p ∈ row, Pure p := fun row hr p hp => by
 simp at hr; subst hr; simp at hp; subst hp; exact hv
theorem inn_lptr {tt : Bool} {sz i j : Nat} {rows : Rows} : Inn h (.lptr tt sz rows i j) (.lptr true sz rows i j) := .base (.lptr fun _ => rfl)

end

section
variable {P : Program} {R : PV → Heap → (Nat → Nat) → Prop} {r : Nat → PV} {h : Heap} {cnt : Nat → Nat}
end

/-! ### Drawn regions with stores: the places of the text that are read and written -/
section
variable {P : Program} {K : PS → Prop} {d : Nat} {op : Op} {ty : TypeId} {pos : String} {aft : Array Edge} {gd : Option (Nat × Bool)} {rest : List Oper} {r : Nat → PV} {h : Heap} {cnt : Nat → Nat} {ops : Array Oper} {i : Nat} {G : Nat → Bool} {dd : Bool}

structure Ft where
 i : Nat
 rd : List Nat
 wr : List Nat
end
end Go.Pv

/- Maps at states that are written out, by lists of keys and values; structs compared. -/
namespace Go.Pv
open Go
section
variable {α β : Type} [DecidableEq α]

variable {f : α → PV} {g : β → PV}
variable {P : Program} {ρ : Operand → PV} {h : Heap} {key : Key} {x y z : Operand} {t t' : TypeId} {v : PV}

/-! ### A map at a key: its entries; the stamps are right -/
/-! ### Iteration over a map -/
end
end Go.Pv

/- More operations at states that are written out: slices compared with nil, records stored into own slices. -/
namespace Go.Pv
open Go
section
variable {P : Program} {ρ : Operand → PV} {h : Heap} {key : Key} {x y : Operand} {t t' : TypeId}

end

section
variable {h h' : Heap} {d sz : Nat} {v : PV} {rows : Rows}
end

end Go.Pv

/- Iteration over a map of typed entries; arrays; rows of texts. -/
namespace Go.Pv
open Go
section
variable {α β : Type} [DecidableEq α] {f : α → PV} {g : β → PV}

variable {P : Program} {ρ : Operand → PV} {h : Heap} {key : Key} {x y : Operand} {t : TypeId}
end

/-! ### Arrays -/
section
variable {P : Program} {ρ : Operand → PV} {h : Heap} {key : Key} {x y : Operand} {t : TypeId}
end

/-! ### An own slice in another place of the text -/
/-! ### Rows of texts -/
def cb (s : ByteArray) : List PV := [.str s]
theorem cb_pure (s : ByteArray) : ∀ p ∈ cb s, Pure p := fun p hp => by simp [cb] at hp; subst hp; exact .sc _
end Go.Pv

namespace Go.Pv
open Go Go.RowKit
/-! ### Appends in drawn regions; parts of own slices as what is appended -/
section
variable {P : Program} {K : PS → Prop} {d : Nat} {op : Op} {ty : TypeId} {pos : String} {aft : Array Edge} {rest : List Oper} {r : Nat → PV} {h : Heap} {cnt : Nat → Nat} {ops : Array Oper} {i : Nat} {G : Nat → Bool} {dd : Bool} {x y : Operand} {t : TypeId}

end
end Go.Pv
