import Derived.Test.YtmlhhdiomijpfaaGreatDoorPvGg
import Derived.Test.YtmlhhdiomijpfaaGreatDoorPvGu
set_option linter.unusedSimpArgs false
set_option linter.unusedVariables false
/- Blocks that a called function has laid, as own memory: slices.Grow of nothing, sorted keys; closures over three places; texts in own rows; the end of own rows cleared. -/
namespace Go.Pv
open Go Go.RowKit
theorem arr2' {a : Array Value} (h : a.size = 2) : ∃ x y, a = #[x, y] := by
 obtain ⟨l⟩ := a
 match l, h with
 | [x, y], _ => exact ⟨x, y, rfl⟩
section
variable {P : Program} {K : PS → Prop} {d : Nat} {op : Op} {ty : TypeId} {pos : String} {aft : Array Edge} {gd : Option (Nat × Bool)} {rest : List Oper} {r : Nat → PV} {h : Heap} {cnt : Nat → Nat} {ops : Array Oper} {i : Nat} {G : Nat → Bool} {dd : Bool}
end
end Go.Pv
namespace Go.Pv
open Go Go.Proofs Go.RowKit Go.Maps Go.Sort

section
variable {P : Program}
end
end Go.Pv
namespace Go.Pv
open Go
section
variable {P : Program} {ρ : Operand → PV} {h : Heap} {key : Key} {x y : Operand} {t : TypeId}
end
end Go.Pv
namespace Go.Pv
open Go Go.RowKit
section
variable {P : Program} {K : PS → Prop} {d : Nat} {op : Op} {ty : TypeId} {pos : String} {aft : Array Edge} {gd : Option (Nat × Bool)} {rest : List Oper} {r : Nat → PV} {h : Heap} {cnt : Nat → Nat} {ops : Array Oper} {i : Nat} {G : Nat → Bool} {dd : Bool}
end

end Go.Pv

/- Drawn regions whose places are told apart by more than the place in the text; calls that change memory in them; appends whose new key is known. -/
namespace Go.Pv
open Go Go.RowKit
section
variable {P : Program} {K : PS → Prop} {d : Nat} {op : Op} {ty : TypeId} {pos : String} {aft : Array Edge} {gd : Option (Nat × Bool)} {rest : List Oper} {r : Nat → PV} {h : Heap} {cnt : Nat → Nat} {ops : Array Oper} {i : Nat} {G : Nat → Bool} {dd : Bool} {vs : Key → Nat}

variable {x y : Operand} {t : TypeId}
end
end Go.Pv

/-! ### Who waits for whom, told by sets of numbers -/
namespace Go.Pv
open Go Go.RowKit
end Go.Pv

/- Appends that tell how the generations go on. No conditions. -/
namespace Go.Pv
open Go
section
variable {P : Program} {h : Heap} {key : Key} {x y z : Operand} {t t' : TypeId} {v : PV} {K : PS → Prop} {d : Nat} {ty : TypeId} {pos : String} {aft : Array Edge} {gd : Option (Nat × Bool)} {rest : List Oper} {r : Nat → PV} {cnt : Nat → Nat}
end
section
variable {P : Program} {K : PS → Prop} {d : Nat} {op : Op} {ty : TypeId} {pos : String} {aft : Array Edge} {rest : List Oper} {r : Nat → PV} {h : Heap} {cnt : Nat → Nat} {ops : Array Oper} {i : Nat} {G : Nat → Bool} {dd : Bool} {x y : Operand} {t : TypeId}
end
end Go.Pv

/- Own rows of truth values; entries of own maps that are made and stored in two steps. -/
namespace Go.Pv
open Go Go.RowKit
section
variable {P : Program} {ρ : Operand → PV} {h : Heap} {key : Key} {x y : Operand} {t : TypeId}
end
/-! ### Entries that are made, and stored -/
section
variable {α β : Type} [DecidableEq α] {f : α → PV} {g : β → PV}
end
section
variable {α β : Type} [DecidableEq α] {f : α → PV} {g : β → PV}
variable {P : Program} {K : PS → Prop} {d : Nat} {ty : TypeId} {pos : String} {aft : Array Edge} {gd : Option (Nat × Bool)} {rest : List Oper} {r : Nat → PV} {h : Heap} {cnt : Nat → Nat} {ops : Array Oper} {i : Nat} {G : Nat → Bool} {dd : Bool} {x y w : Operand} {t : TypeId}
end
end Go.Pv

/- Drawn regions with one call that changes own memory, told in full: the others leave it alone or wait. -/
namespace Go.Pv
open Go Go.RowKit
section
variable {P : Program} {K : PS → Prop} {d : Nat} {op : Op} {ty : TypeId} {pos : String} {aft : Array Edge} {rest : List Oper} {r : Nat → PV} {h : Heap} {cnt : Nat → Nat} {ops : Array Oper} {i : Nat} {G : Nat → Bool}
end
end Go.Pv

/- Working at P level: own slices that hold own slices; appends whose result is told in full; slices that end ahead of their block's end. -/
namespace Go.Pv
open Go
section
variable {P : Program} {K : PS → Prop} {d : Nat} {ty t : TypeId} {pos : String} {aft : Array Edge} {gd : Option (Nat × Bool)} {rest : List Oper} {r : Nat → PV} {h : Heap} {cnt : Nat → Nat} {op : Op} {x y : Operand}

/-- The generation of a key. -/
def gen : PV → Nat
 | .ref k _ _ _ => k.2
 | _ => 0
/-- Own slices, each of its own block, made at one place of the text. -/
structure NP {α : Type} (h : Heap) (d : Nat) (sz : Nat) (f : α → List PV) (vs : List PV) (ls : List (List α)) : Prop where
 len : vs.length = ls.length
 at_ : ∀ (i : Nat) (v : PV) (l : List α), vs[i]? = some v → ls[i]? = some l → SliceAt h d v sz (l.map f)
 one : ∀ (i j : Nat) (v : PV), vs[i]? = some v → vs[j]? = some v → v ≠ .nil → i = j

variable {α : Type} {f : α → List PV} {sz : Nat} {vs : List PV} {ls : List (List α)}

/-- One of the slices is changed in place, or made anew at a key of its own. -/
theorem NP.upd {h' : Heap} (hn : NP h d sz f vs ls) {i : Nat} {v v' : PV} {l' : List α} (hv : vs[i]? = some v) (hs : SliceAt h' d v' sz (l'.map f))
   (hfar : ∀ (j : Nat) (w : PV) (g n : Nat), j ≠ i → vs[j]? = some w → w = .ref (d, g) sz 0 n → h' (d, g) = h (d, g) ∧ v' ≠ w) : NP h' d sz f (vs.set i v') (ls.set i l') := by
 have hi : i < vs.length := (List.getElem?_eq_some_iff.1 hv).1
 refine ⟨by simp [hn.len], fun j w l h1 h2 => ?_, fun j k w h1 h2 h3 => ?_⟩
 · rw [List.getElem?_set] at h1 h2
   by_cases hj : i = j
   · subst hj
     rw [if_pos rfl, if_pos hi] at h1
     rw [if_pos rfl, if_pos (by rw [← hn.len]; exact hi)] at h2
     cases h1; cases h2; exact hs
   · rw [if_neg hj] at h1 h2
     rcases hn.at_ j w l h1 h2 with h4 | ⟨g, h4, h5⟩
     · exact .inl h4
     · exact .inr ⟨g, h4, (hfar j w g _ (fun e => hj e.symm) h1 h4).1.trans h5⟩
 · rw [List.getElem?_set] at h1 h2
   have ref : ∀ (j : Nat) (w : PV), vs[j]? = some w → w ≠ .nil → ∃ g n, w = .ref (d, g) sz 0 n := fun j w hw hne => by
     have hj : j < ls.length := by rw [← hn.len]; exact (List.getElem?_eq_some_iff.1 hw).1
     rcases hn.at_ j w _ hw (List.getElem?_eq_getElem hj) with ⟨_, h4⟩ | ⟨g, h4, _⟩
     · exact absurd h4 hne
     · exact ⟨g, _, h4⟩
   by_cases hj : i = j
   · subst hj
     rw [if_pos rfl, if_pos hi] at h1
     cases h1
     by_cases hk : i = k
     · exact hk
     · rw [if_neg hk] at h2
       obtain ⟨g, n, hg⟩ := ref k _ h2 h3
       exact absurd rfl (hfar k _ g n (fun e => hk e.symm) h2 hg).2
   · rw [if_neg hj] at h1
     by_cases hk : i = k
     · subst hk
       rw [if_pos rfl, if_pos hi] at h2
       cases h2
       obtain ⟨g, n, hg⟩ := ref j _ h1 h3
       exact absurd rfl (hfar j _ g n (fun e => hj e.symm) h1 hg).2
     · rw [if_neg hk] at h2
       exact hn.one j k w h1 h2 h3

end
section
variable {P : Program} {K : PS → Prop} {d : Nat} {op : Op} {ty : TypeId} {pos : String} {aft : Array Edge} {gd : Option (Nat × Bool)} {rest : List Oper} {r : Nat → PV} {h : Heap} {cnt : Nat → Nat} {ops : Array Oper} {i : Nat} {G : Nat → Bool} {dd : Bool}
end
end Go.Pv

/- Working at P level: short names of frequent steps. -/
namespace Go.Pv
open Go
section
variable {P : Program} {K : PS → Prop} {d : Nat} {op : Op} {ty : TypeId} {pos : String} {aft : Array Edge} {gd : Option (Nat × Bool)} {rest : List Oper} {r : Nat → PV} {h : Heap} {cnt : Nat → Nat} {x y z : Operand} {v : PV} {a : Value}
theorem p_e {rd : List Key} (hc : callOf r op = none) (he : eff P (ev r) h (d, cnt d) op = ⟨True, v, [], rd, false⟩) (hk : pOps P K rest ⟨setT r d v, h, cnt⟩) : pOps P K (⟨some d, op, ty, pos, aft, gd⟩ :: rest) ⟨r, h, cnt⟩ := p_step hc he trivial hk
theorem p_mv (hx : ev r x = v) (hk : pOps P K rest ⟨setT r d v, h, cnt⟩) : pOps P K (⟨some d, .move x, ty, pos, aft, gd⟩ :: rest) ⟨r, h, cnt⟩ := p_step rfl (e_move hx) trivial hk
theorem p_as (hx : ev r x = v) (hk : pOps P K rest ⟨setT r d v, h, cnt⟩) : pOps P K (⟨some d, .assign x, ty, pos, aft, gd⟩ :: rest) ⟨r, h, cnt⟩ := p_step rfl (e_assign hx) trivial hk
theorem p_mS (hx : ev r x = .sc a) (hk : pOps P K rest ⟨setT r d (.sc a), h, cnt⟩) : pOps P K (⟨some d, .move x, ty, pos, aft, gd⟩ :: rest) ⟨r, h, cnt⟩ := p_mv hx hk
theorem p_aS (hx : ev r x = .sc a) (hk : pOps P K rest ⟨setT r d (.sc a), h, cnt⟩) : pOps P K (⟨some d, .assign x, ty, pos, aft, gd⟩ :: rest) ⟨r, h, cnt⟩ := p_as hx hk
variable {ops : Array Oper} {dr : Bool} {G : Nat → Bool} {i : Nat} {ts : List Ft}
/-- An operation that calls nothing, may be told, is wanted, and names what stands. -/
def wantB (ops : Array Oper) (r : Nat → PV) (h : Heap) (cnt : Nat → Nat) (G : Nat → Bool) (gd : Option (Nat × Bool)) (op : Op) : Bool := (callOf r op).isNone && (gobB ops r G gd && (gval ops ⟨⟨r, h, cnt⟩, G⟩ gd && validB r G op))
theorem wantB_1 (hb : wantB ops r h cnt G gd op = true) : callOf r op = none ∧ gobB ops r G gd = true ∧ gval ops ⟨⟨r, h, cnt⟩, G⟩ gd = true ∧ validB r G op = true := by
 simp only [wantB, Bool.and_eq_true, Option.isNone_iff_eq_none] at hb; exact hb
theorem g_e {rd : List Key} (hb : wantB ops r h cnt G gd op = true) (he : eff P (ev r) h (d, cnt d) op = ⟨True, v, [], rd, false⟩) (hk : gRun P ops dr K rest (i + 1) ⟨setT r d v, h, cnt⟩ (setB G d true)) : gRun P ops dr K (⟨some d, op, ty, pos, aft, gd⟩ :: rest) i ⟨r, h, cnt⟩ G :=
 g_step (wantB_1 hb).2.1 (wantB_1 hb).2.2.1 (wantB_1 hb).1 (wantB_1 hb).2.2.2 he trivial hk
theorem g_mS (hb : wantB ops r h cnt G gd (.move x) = true) (hx : ev r x = .sc a) (hk : gRun P ops dr K rest (i + 1) ⟨setT r d (.sc a), h, cnt⟩ (setB G d true)) : gRun P ops dr K (⟨some d, .move x, ty, pos, aft, gd⟩ :: rest) i ⟨r, h, cnt⟩ G := g_e hb (e_move hx) hk
theorem g_aS (hb : wantB ops r h cnt G gd (.assign x) = true) (hx : ev r x = .sc a) (hk : gRun P ops dr K rest (i + 1) ⟨setT r d (.sc a), h, cnt⟩ (setB G d true)) : gRun P ops dr K (⟨some d, .assign x, ty, pos, aft, gd⟩ :: rest) i ⟨r, h, cnt⟩ G := g_e hb (e_assign hx) hk
theorem g_pT (hb : wantB ops r h cnt G gd (.pick x y z) = true) (hx : ev r x = .bool true) (hy : ev r y = .sc a) (hk : gRun P ops dr K rest (i + 1) ⟨setT r d (.sc a), h, cnt⟩ (setB G d true)) : gRun P ops dr K (⟨some d, .pick x y z, ty, pos, aft, gd⟩ :: rest) i ⟨r, h, cnt⟩ G := g_e hb (e_pickT hx hy) hk
theorem g_pF (hb : wantB ops r h cnt G gd (.pick x y z) = true) (hx : ev r x = .bool false) (hy : ev r z = .sc a) (hk : gRun P ops dr K rest (i + 1) ⟨setT r d (.sc a), h, cnt⟩ (setB G d true)) : gRun P ops dr K (⟨some d, .pick x y z, ty, pos, aft, gd⟩ :: rest) i ⟨r, h, cnt⟩ G := g_e hb (e_pickF hx hy) hk
theorem s_e (hb : wantB ops r h cnt G gd op = true) (he : eff P (ev r) h (d, cnt d) op = ⟨True, v, [], [], false⟩) (hk : sRun P ops dr K rest (i + 1) ⟨setT r d v, h, cnt⟩ (setB G d true) (ts ++ [⟨i, [], []⟩])) : sRun P ops dr K (⟨some d, op, ty, pos, aft, gd⟩ :: rest) i ⟨r, h, cnt⟩ G ts :=
 s_step [] (by simp) (wantB_1 hb).2.1 (wantB_1 hb).2.2.1 (wantB_1 hb).1 (wantB_1 hb).2.2.2 he trivial hk
end
section
variable {P : Program} {ρ : Operand → PV} {h : Heap} {key : Key} {x y z : Operand} {t t' : TypeId} {v : PV}
abbrev pl2 : List (Nat × Nat × Bool) := [(0, 1, false), (1, 1, false)]
theorem e_faQ {k : Key} {sz i j f : Nat} (pl : List (Nat × Nat × Bool)) (hx : ρ x = .ptr k sz i j) (ht : structOk P t = true := by kernel_rfl) (hp : places P t = pl := by kernel_rfl) (hf : f < pl.length := by decide) :
   eff P ρ h key (.fieldAddr t x f) = ⟨True, .ptr k sz i (j + (pl.getD f (0, 0, false)).1), [], [], false⟩ := e_faP hx ht hp hf rfl
theorem e_fb {tt : Bool} {sz : Nat} {rows : Rows} {i j f : Nat} (pl : List (Nat × Nat × Bool)) (hx : ρ x = .lptr tt sz rows i j) (ht : structOk P t = true := by kernel_rfl) (hp : places P t = pl := by kernel_rfl) (hf : f < pl.length := by decide) :
   eff P ρ h key (.fieldAddr t x f) = ⟨True, .lptr tt sz rows i (j + (pl.getD f (0, 0, false)).1), [], [], false⟩ := e_fa hx ht hp hf rfl
theorem e_ixL {tt : Bool} {sz : Nat} {rows : Rows} {k : IntKind} {i : Int} (hx : ρ x = .lit tt sz rows) (hy : ρ y = .sc (.int k i)) (hi : 0 ≤ i ∧ i < rows.length := by first | omega | (simp only [List.length_map]; omega)) (ht : sliceOk P t = true := by kernel_rfl) (hs : tySize P (elemTy P t) = sz := by kernel_rfl) :
   eff P ρ h key (.indexAddr t x y) = ⟨True, .lptr tt sz rows i.toNat 0, [], [], false⟩ := e_ixa hx hy ht hs hi
theorem e_lH {k : Key} {sz i j : Nat} {rs : Rows} (hx : ρ x = .ptr k sz i j) (hk : h k = some (.rows sz rs)) (hv : cellAt rs i j = v) (hg : tyAgg P t = false := by kernel_rfl) (hs : tySize P t = 1 := by kernel_rfl) (ht : tyOk P t = true := by kernel_rfl) (hi : i < rs.length := by exact Nat.zero_lt_one) (hj : j < sz := by decide) :
   eff P ρ h key (.load t x) = ⟨True, v, [], [k], false⟩ := e_loadH hx hk hg hs ht hi hj hv
theorem e_adL {a b : Int} (hx : ρ x = .int a) (hy : ρ y = .int b) (h1 : -9223372036854775808 ≤ a + b ∧ a + b ≤ 9223372036854775807 := by first | omega | (simp only [List.length_map] at *; omega)) : eff P ρ h key (.binOp .add t x y t') = ⟨True, .int (a + b), [], [], false⟩ := e_add hx hy h1
end
/-- How conditions are read. -/
theorem zz : (∀ (p : Prop) [Decidable p], (decide p = true) = p) ∧ (∀ (p : Prop) [Decidable p], decide p = false ↔ ¬ p) ∧ (∀ b : Bool, ((!b) = true) = (b = false)) ∧ (∀ b : Bool, ((!b) = false) = (b = true)) ∧ (∀ a b : Int, ¬ a < b ↔ b ≤ a) ∧ (∀ a b : Int, ¬ a ≤ b ↔ b < a) ∧
   (∀ (α : Type) (a b : α), (a ≠ b) = ¬ (a = b)) ∧ (∀ (p : Prop) [Decidable p], ¬ ¬ p ↔ p) ∧ (∀ (α β : Type) (l : List α) (f : α → β), (l.map f).length = l.length) ∧ (∀ a b : Bool, ((a || b) = true) = (a = true ∨ b = true)) ∧ (∀ a b : Bool, ((a && b) = true) = (a = true ∧ b = true)) ∧
   (∀ a b : Bool, (a || b) = false ↔ a = false ∧ b = false) ∧ (∀ a b : Bool, (a && b) = false ↔ a = false ∨ b = false) :=
 ⟨fun _ _ => decide_eq_true_eq, fun _ _ => decide_eq_false_iff_not, Bool.not_eq_true', Bool.not_eq_false', fun _ _ => Int.not_lt, fun _ _ => Int.not_le, fun _ _ _ => rfl, fun _ _ => Decidable.not_not, fun _ _ l f => List.length_map f, Bool.or_eq_true, Bool.and_eq_true, fun _ _ => Bool.or_eq_false_iff, fun _ _ => Bool.and_eq_false_iff⟩
end Go.Pv

/- A call that only reads own memory leaves no trace: its own objects are forgotten. -/
namespace Go.Pv
open Go
variable {P : Program}
section
variable {K : PS → Prop} {d : Nat} {op : Op} {ty : TypeId} {pos : String} {aft : Array Edge} {gd : Option (Nat × Bool)} {rest : List Oper} {r : Nat → PV} {h : Heap} {cnt : Nat → Nat} {ops : Array Oper} {i : Nat} {G : Nat → Bool} {dd dr : Bool}
end
end Go.Pv

/- Code without calls of functions and without draws of values comes to one end: what is told of all ends is told of one. -/
namespace Go.Pv
open Go Go.RowKit
section
variable {P : Program} {K : PS → Prop}
end
end Go.Pv

/- Texts: what is put together, what is cut off, a byte as a text, division of numbers of either sign. No conditions. -/
set_option linter.unusedSimpArgs false
namespace Go.Pv
open Go Go.RowKit
section
variable {P : Program} {ρ : Operand → PV} {h : Heap} {key : Key} {x y z : Operand} {t t' : TypeId}
theorem e_sadd {a b : ByteArray} (hx : ρ x = .str a) (hy : ρ y = .str b) (h1 : a.size + b.size < 4611686018427387904) : eff P ρ h key (.binOp .add t x y t') = ⟨True, .str (a ++ b), [], [], false⟩ := by
 simp only [eff, hx, hy, binEffN, binEff, strBin]
 have : a.size + b.size < 2 ^ 62 := by omega
 simp [Eff.val, this]
theorem e_ssub {s : ByteArray} {a b : Int} {lo hi : Nat} (hx : ρ x = .str s) (hy : ρ y = .int a) (hz : ρ z = .int b) (ha : a = (lo : Int)) (hb : b = (hi : Int)) (ht : isStringTy P t = true) (h1 : lo ≤ hi) (h2 : hi ≤ s.size) :
   eff P ρ h key (.slice t x (some y) (some z) none) = ⟨True, .str (s.extract lo hi), [], [], false⟩ := by
 subst ha; subst hb
 simp only [eff, hx, hy, hz, sliceEff, bound, Option.map, ht, Int.toNat_natCast]
 simp [Eff.val]; omega
theorem e_sfrom {s : ByteArray} {a : Int} {lo : Nat} (hx : ρ x = .str s) (hy : ρ y = .int a) (ha : a = (lo : Int)) (ht : isStringTy P t = true) (h2 : lo ≤ s.size) :
   eff P ρ h key (.slice t x (some y) none none) = ⟨True, .str (s.extract lo s.size), [], [], false⟩ := by
 subst ha
 simp only [eff, hx, hy, sliceEff, bound, Option.map, ht, Int.toNat_natCast]
 simp [Eff.val]; omega
theorem e_byte {k : Key} {v : Int} (hx : ρ x = .ref k 1 0 1) (hk : h k = some (.rows 1 [[.sc (.int .u8 v)]])) (ht : (sliceOk P t && (intKind P (elemTy P t) == some .u8) && isStringTy P t') = true) :
   eff P ρ h key (.convert t t' x) = ⟨True, .str (strOfNums [v]), [], [k], false⟩ := by
 simp only [eff, hx, convHEff, hk]
 have : bytesAt [[.sc (.int .u8 v)]] 0 1 = some [v] := rfl
 simp only [this]
 simp only [ht]; simp
theorem e_remT {a b : Int} (hx : ρ x = .int a) (hy : ρ y = .int b) (hb : b ≠ 0) : eff P ρ h key (.binOp .rem t x y t') = ⟨True, .int (a.tmod b), [], [], false⟩ := by
 simp only [eff, hx, hy, binEffN, binEff, intBin]; simp [Eff.val, hb]
theorem e_quoT {a b : Int} (hx : ρ x = .int a) (hy : ρ y = .int b) (hb : b ≠ 0) (h1 : -9223372036854775808 ≤ a.tdiv b ∧ a.tdiv b ≤ 9223372036854775807) : eff P ρ h key (.binOp .quo t x y t') = ⟨True, .int (a.tdiv b), [], [], false⟩ := by
 simp only [eff, hx, hy, binEffN, binEff, intBin, wrap64 h1.1 h1.2]; simp [Eff.val, hb]
theorem e_subU {a b : Int} (hx : ρ x = .sc (.int .u8 a)) (hy : ρ y = .sc (.int .u8 b)) (h1 : 0 ≤ a - b ∧ a - b ≤ 255) : eff P ρ h key (.binOp .sub t x y t') = ⟨True, .sc (.int .u8 (a - b)), [], [], false⟩ := by
 have : IntKind.u8.wrap (a - b) = a - b := by unfold IntKind.wrap; simp [IntKind.bits, IntKind.signed]; omega
 simp only [eff, hx, hy, binEffN, binEff, intBin, this]; simp
end
end Go.Pv
