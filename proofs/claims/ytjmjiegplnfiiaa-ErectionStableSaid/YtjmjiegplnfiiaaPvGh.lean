import Derived.Test.YtjmjiegplnfiiaaPvGg
import Derived.Test.YtjmjiegplnfiiaaPvGu
set_option linter.unusedSimpArgs false
set_option linter.unusedVariables false
/- Blocks that a called function has laid, as own memory: slices.Grow of nothing, sorted keys; closures over three places; texts in own rows; the end of own rows cleared. -/
namespace Go.Pv
open Go Go.RowKit
section
variable {P : Program} {K : PS → Prop} {d : Nat} {op : Op} {ty : TypeId} {pos : String} {aft : Array Edge} {gd : Option (Nat × Bool)} {rest : List Oper} {r : Nat → PV} {h : Heap} {cnt : Nat → Nat} {ops : Array Oper} {i : Nat} {G : Nat → Bool} {dd : Bool}
theorem s_nocall {f : FuncId} {args : List PV} {ts : List Ft} (rs : List Nat) (hrd : ∀ k ∈ args.flatMap keysOf, k.1 ∈ rs) (hg : gobB ops r G gd = true) (hgv : gval ops ⟨⟨r, h, cnt⟩, G⟩ gd = false) (hc : callOf r op = some (f, args))
   (hk : sRun P ops dd K rest (i + 1) ⟨setT r d .dead, h, cnt⟩ (setB G d false) (ts ++ [⟨i, rs, []⟩])) : sRun P ops dd K (⟨some d, op, ty, pos, aft, gd⟩ :: rest) i ⟨r, h, cnt⟩ G ts := by
 intro tr ht
 unfold gOps
 refine ⟨gobB_ok hg, ?_⟩
 show match callOf r op with | none => _ | some (f, args) => _
 rw [hc]
 refine .inl ⟨.dead, (fun h => by rw [hgv] at h; cases h), ?_⟩
 rw [hgv]
 have := hk (tr ++ [⟨i, args.flatMap keysOf, []⟩]) (ht.snoc rfl hrd (by simp))
 simp only [stepG, stepS, putR_setT, setG_setB]
 exact this
end
end Go.Pv
namespace Go.Pv
open Go Go.Proofs Go.RowKit Go.Maps Go.Sort

section
variable {P : Program}
end
end Go.Pv
namespace Go.Pv
open Go
section
variable {P : Program} {ρ : Operand → PV} {h : Heap} {key : Key} {x y : Operand} {t : TypeId}
/-- A part of an own slice from its beginning, and from a place on. -/
theorem e_cutR {k : Key} {sz len n : Nat} (hx : ρ x = .ref k sz 0 len) (hy : ρ y = .int (n : Int)) (hn : n ≤ len) (ht : sliceOk P t = true) (hz : tySize P (elemTy P t) = sz) :
   eff P ρ h key (.slice t x none (some y) none) = ⟨True, .ref k sz 0 n, [], [], false⟩ := by
 simp only [eff, Option.map_none, Option.map_some, hx, hy, sliceEff, bound, ht, hz]; simp; omega
end
end Go.Pv
namespace Go.Pv
open Go Go.RowKit
section
variable {P : Program} {K : PS → Prop} {d : Nat} {op : Op} {ty : TypeId} {pos : String} {aft : Array Edge} {gd : Option (Nat × Bool)} {rest : List Oper} {r : Nat → PV} {h : Heap} {cnt : Nat → Nat} {ops : Array Oper} {i : Nat} {G : Nat → Bool} {dd : Bool}
end

end Go.Pv

/- Drawn regions whose places are told apart by more than the place in the text; calls that change memory in them; appends whose new key is known. -/
namespace Go.Pv
open Go Go.RowKit
section
variable {P : Program} {K : PS → Prop} {d : Nat} {op : Op} {ty : TypeId} {pos : String} {aft : Array Edge} {gd : Option (Nat × Bool)} {rest : List Oper} {r : Nat → PV} {h : Heap} {cnt : Nat → Nat} {ops : Array Oper} {i : Nat} {G : Nat → Bool} {dd : Bool} {vs : Key → Nat}

variable {x y : Operand} {t : TypeId}
end
end Go.Pv

/-! ### Who waits for whom, told by sets of numbers -/
namespace Go.Pv
open Go Go.RowKit
end Go.Pv

/- Appends that tell how the generations go on. No conditions. -/
namespace Go.Pv
open Go
section
variable {P : Program} {h : Heap} {key : Key} {x y z : Operand} {t t' : TypeId} {v : PV} {K : PS → Prop} {d : Nat} {ty : TypeId} {pos : String} {aft : Array Edge} {gd : Option (Nat × Bool)} {rest : List Oper} {r : Nat → PV} {cnt : Nat → Nat}
end
section
variable {P : Program} {K : PS → Prop} {d : Nat} {op : Op} {ty : TypeId} {pos : String} {aft : Array Edge} {rest : List Oper} {r : Nat → PV} {h : Heap} {cnt : Nat → Nat} {ops : Array Oper} {i : Nat} {G : Nat → Bool} {dd : Bool} {x y : Operand} {t : TypeId}
end
end Go.Pv

/- Own rows of truth values; entries of own maps that are made and stored in two steps. -/
namespace Go.Pv
open Go Go.RowKit
section
variable {P : Program} {ρ : Operand → PV} {h : Heap} {key : Key} {x y : Operand} {t : TypeId}
end
/-! ### Entries that are made, and stored -/
section
variable {α β : Type} [DecidableEq α] {f : α → PV} {g : β → PV}
end
section
variable {α β : Type} [DecidableEq α] {f : α → PV} {g : β → PV}
variable {P : Program} {K : PS → Prop} {d : Nat} {ty : TypeId} {pos : String} {aft : Array Edge} {gd : Option (Nat × Bool)} {rest : List Oper} {r : Nat → PV} {h : Heap} {cnt : Nat → Nat} {ops : Array Oper} {i : Nat} {G : Nat → Bool} {dd : Bool} {x y w : Operand} {t : TypeId}
end
end Go.Pv

/- Drawn regions with one call that changes own memory, told in full: the others leave it alone or wait. -/
namespace Go.Pv
open Go Go.RowKit
section
variable {P : Program} {K : PS → Prop} {d : Nat} {op : Op} {ty : TypeId} {pos : String} {aft : Array Edge} {rest : List Oper} {r : Nat → PV} {h : Heap} {cnt : Nat → Nat} {ops : Array Oper} {i : Nat} {G : Nat → Bool}
end
end Go.Pv

/- Working at P level: own slices that hold own slices; appends whose result is told in full; slices that end ahead of their block's end. -/
namespace Go.Pv
open Go
section
variable {P : Program} {K : PS → Prop} {d : Nat} {ty t : TypeId} {pos : String} {aft : Array Edge} {gd : Option (Nat × Bool)} {rest : List Oper} {r : Nat → PV} {h : Heap} {cnt : Nat → Nat} {op : Op} {x y : Operand}

/-- The generation of a key. -/
def gen : PV → Nat
 | .ref k _ _ _ => k.2
 | _ => 0
/-- One value a row. -/
def cv (v : PV) : List PV := [v]

/-- Own slices, each of its own block, made at one place of the text. -/
structure NP {α : Type} (h : Heap) (d : Nat) (sz : Nat) (f : α → List PV) (vs : List PV) (ls : List (List α)) : Prop where
 len : vs.length = ls.length
 at_ : ∀ (i : Nat) (v : PV) (l : List α), vs[i]? = some v → ls[i]? = some l → SliceAt h d v sz (l.map f)
 one : ∀ (i j : Nat) (v : PV), vs[i]? = some v → vs[j]? = some v → v ≠ .nil → i = j

variable {α : Type} {f : α → List PV} {sz : Nat} {vs : List PV} {ls : List (List α)}

theorem NP.keep {h' : Heap} (hn : NP h d sz f vs ls) (hk : ∀ g, h' (d, g) = h (d, g)) : NP h' d sz f vs ls :=
 ⟨hn.len, fun i v l h1 h2 => (hn.at_ i v l h1 h2).keep hk, hn.one⟩
theorem NP.get (hn : NP h d sz f vs ls) {i : Nat} {v : PV} {l : List α} (hv : vs[i]? = some v) (hl : ls[i]? = some l) : SliceAt h d v sz (l.map f) := hn.at_ i v l hv hl
theorem NP.nils (n : Nat) : NP h d sz f (List.replicate n .nil) (List.replicate n ([] : List α)) := by
 refine ⟨by simp, fun i v l h1 h2 => ?_, fun i j v h1 h2 h3 => ?_⟩
 · simp only [List.getElem?_replicate] at h1 h2
   by_cases hi : i < n
   · rw [if_pos hi] at h1 h2; cases h1; cases h2; exact .nil
   · rw [if_neg hi] at h1; cases h1
 · simp only [List.getElem?_replicate] at h1
   split at h1
   · cases h1; exact absurd rfl h3
   · cases h1
/-- One of the slices is changed in place, or made anew at a key of its own. -/
theorem NP.upd {h' : Heap} (hn : NP h d sz f vs ls) {i : Nat} {v v' : PV} {l' : List α} (hv : vs[i]? = some v) (hs : SliceAt h' d v' sz (l'.map f))
   (hfar : ∀ (j : Nat) (w : PV) (g n : Nat), j ≠ i → vs[j]? = some w → w = .ref (d, g) sz 0 n → h' (d, g) = h (d, g) ∧ v' ≠ w) : NP h' d sz f (vs.set i v') (ls.set i l') := by
 have hi : i < vs.length := (List.getElem?_eq_some_iff.1 hv).1
 refine ⟨by simp [hn.len], fun j w l h1 h2 => ?_, fun j k w h1 h2 h3 => ?_⟩
 · rw [List.getElem?_set] at h1 h2
   by_cases hj : i = j
   · subst hj
     rw [if_pos rfl, if_pos hi] at h1
     rw [if_pos rfl, if_pos (by rw [← hn.len]; exact hi)] at h2
     cases h1; cases h2; exact hs
   · rw [if_neg hj] at h1 h2
     rcases hn.at_ j w l h1 h2 with h4 | ⟨g, h4, h5⟩
     · exact .inl h4
     · exact .inr ⟨g, h4, (hfar j w g _ (fun e => hj e.symm) h1 h4).1.trans h5⟩
 · rw [List.getElem?_set] at h1 h2
   have ref : ∀ (j : Nat) (w : PV), vs[j]? = some w → w ≠ .nil → ∃ g n, w = .ref (d, g) sz 0 n := fun j w hw hne => by
     have hj : j < ls.length := by rw [← hn.len]; exact (List.getElem?_eq_some_iff.1 hw).1
     rcases hn.at_ j w _ hw (List.getElem?_eq_getElem hj) with ⟨_, h4⟩ | ⟨g, h4, _⟩
     · exact absurd h4 hne
     · exact ⟨g, _, h4⟩
   by_cases hj : i = j
   · subst hj
     rw [if_pos rfl, if_pos hi] at h1
     cases h1
     by_cases hk : i = k
     · exact hk
     · rw [if_neg hk] at h2
       obtain ⟨g, n, hg⟩ := ref k _ h2 h3
       exact absurd rfl (hfar k _ g n (fun e => hk e.symm) h2 hg).2
   · rw [if_neg hj] at h1
     by_cases hk : i = k
     · subst hk
       rw [if_pos rfl, if_pos hi] at h2
       cases h2
       obtain ⟨g, n, hg⟩ := ref j _ h1 h3
       exact absurd rfl (hfar j _ g n (fun e => hj e.symm) h1 hg).2
     · rw [if_neg hk] at h2
       exact hn.one j k w h1 h2 h3

/-- The key of a slice of own memory is below the counter. -/
def Fresh (h : Heap) (c : Nat → Nat) (d : Nat) : Prop := ∀ g o, h (d, g) = some o → g < c d
theorem Known.fresh {s : PS} (hk : Known s) (d : Nat) : Fresh s.h s.cnt d := fun g o h1 => hk (d, g) o h1

/-- Behind an append to one of the slices, whose result lies at the next key. -/
theorem NP.app {h' : Heap} {c : Nat → Nat} (hn : NP h d sz f vs ls) (hf : Fresh h c d) {i : Nat} {v v' : PV} {l l' : List α} (hv : vs[i]? = some v) (hl : ls[i]? = some l) (hv' : v' = .ref (d, c d) sz 0 l'.length) (hr : h' (d, c d) = some (.rows sz (l'.map f)))
   (hk : ∀ k' : Key, k' ≠ (d, c d) → (∀ g, v = .ref (d, g) sz 0 l.length → k' ≠ (d, g)) → h' k' = h k') : NP h' d sz f (vs.set i v') (ls.set i l') := by
 refine hn.upd hv (.inr ⟨c d, by rw [hv', List.length_map], hr⟩) fun j w g n hj hw hg => ?_
 have hjl : j < ls.length := by rw [← hn.len]; exact (List.getElem?_eq_some_iff.1 hw).1
 have hlive : ∃ o, h (d, g) = some o := by
   rcases hn.at_ j w _ hw (List.getElem?_eq_getElem hjl) with ⟨_, h4⟩ | ⟨g', h4, h5⟩
   · rw [h4] at hg; cases hg
   · rw [h4] at hg; cases hg; exact ⟨_, h5⟩
 obtain ⟨o, ho⟩ := hlive
 have hlt := hf g o ho
 refine ⟨hk (d, g) (fun e => ?_) (fun g' hg' e => ?_), fun e => ?_⟩
 · cases e; omega
 · cases e
   refine hj (hn.one j i w hw ?_ (by rw [hg]; intro e; cases e))
   rw [hv]
   rcases hn.at_ i v l hv hl with ⟨_, h4⟩ | ⟨g2, h4, _⟩
   · rw [h4] at hg'; cases hg'
   · rcases hn.at_ j w _ hw (List.getElem?_eq_getElem hjl) with ⟨_, h5⟩ | ⟨g3, h5, h6⟩
     · rw [h5] at hg; cases hg
     · rw [h4] at hg'
       have e1 : g2 = g := congrArg gen hg'
       rw [h5] at hg
       have e2 : g3 = g := congrArg gen hg
       subst e1; subst e2
       rw [h4, h5]
       have h7 := hn.at_ i v l hv hl
       rcases h7 with ⟨_, h8⟩ | ⟨g4, h8, h9⟩
       · rw [h4] at h8; cases h8
       · rw [h4] at h8
         have e3 : g3 = g4 := congrArg gen h8
         rw [← e3, h6] at h9
         simp only [Option.some.injEq, PObj.rows.injEq, true_and] at h9
         rw [h9]
 · rw [hv', hg] at e
   have : c d = g := congrArg gen e
   omega

/-- An append whose result is told in full. -/
theorem p_appK {ts : Array TypeId} {t2 : TypeId} {u u2 : PV} {sz d1 : Nat} {rows rows2 : Rows} (hts : ts.toList = [t, t2]) (hx : ev r x = u) (hy : ev r y = u2) (hs : SliceAt h d1 u sz rows) (hsr : (srcRows h sz u2).1 ∧ (srcRows h sz u2).2.1 = rows2)
   (hok : (sliceOk P t && (decide (P.bytesOf (elemTy P t) < 2 ^ 15) && (decide (intKind P t2 = none) && (zeroOk P (elemTy P t) && ((P.underlying t2).isSome && decide (tySize P (elemTy P t) = sz)))))) = true) (hlen : rows.length + rows2.length < 2 ^ 32) (hne : rows2 ≠ [])
   (hk : ∀ h', h' (d, cnt d) = some (.rows sz (rows ++ rows2)) → (∀ k' : Key, k' ≠ (d, cnt d) → (∀ g, u = .ref (d1, g) sz 0 rows.length → k' ≠ (d1, g)) → h' k' = h k') → pOps P K rest ⟨setT r d (.ref (d, cnt d) sz 0 (rows.length + rows2.length)), h', cset cnt d⟩) :
   pOps P K (⟨some d, .call { callee := .builtin .append, args := #[x, y], argTypes := ts }, ty, pos, aft, gd⟩ :: rest) ⟨r, h, cnt⟩ := by
 simp only [Bool.and_eq_true, decide_eq_true_eq] at hok
 obtain ⟨o1, o2, o3, o4, o5, o6⟩ := hok
 subst o6
 have he : ∀ u, ev r x = u → eff P (ev r) h (d, cnt d) (.call { callee := .builtin .append, args := #[x, y], argTypes := ts }) = appendEff P h (d, cnt d) t t2 u u2 := fun u hu => by
   show builtinEff P h (d, cnt d) .append ts.toList [ev r x, ev r y] = _
   rw [hts, hu, hy]; rfl
 have hie : rows2.isEmpty = false := by cases rows2 <;> first | exact absurd rfl hne | rfl
 rcases hs with ⟨rfl, rfl⟩ | ⟨g, rfl, hg⟩
 · have hq := he _ hx
   unfold appendEff at hq
   simp only [hsr.2] at hq
   rw [hie] at hq
   simp only [cond_false] at hq
   refine p_new rfl hq ⟨⟨o1, o2, o3, o4, o5⟩, hsr.1, hne, by simp at hlen; omega⟩ ?_
   have := hk (hset h (d, cnt d) (some (.rows (tySize P (elemTy P t)) rows2))) (by rw [List.nil_append]; exact hset_self _ _ _) (fun k' h1 _ => hset_ne h1)
   simpa using this
 · have hq := he _ hx
   unfold appendEff at hq
   simp only [hg, hsr.2] at hq
   refine p_renew rfl hq (by refine ⟨⟨o1, o2, o3, o4, o5⟩, hsr.1, ?_⟩; simp; omega) ?_
   refine hk _ ?_ fun k' h1 h2 => ?_
   · rw [hset_self, List.drop_zero, List.take_length]
   · rw [hset_ne h1, hset_ne (h2 g rfl)]
end
section
variable {P : Program} {K : PS → Prop} {d : Nat} {op : Op} {ty : TypeId} {pos : String} {aft : Array Edge} {gd : Option (Nat × Bool)} {rest : List Oper} {r : Nat → PV} {h : Heap} {cnt : Nat → Nat} {ops : Array Oper} {i : Nat} {G : Nat → Bool} {dd : Bool}
end
end Go.Pv

/- Working at P level: short names of frequent steps. -/
namespace Go.Pv
open Go
section
variable {P : Program} {K : PS → Prop} {d : Nat} {op : Op} {ty : TypeId} {pos : String} {aft : Array Edge} {gd : Option (Nat × Bool)} {rest : List Oper} {r : Nat → PV} {h : Heap} {cnt : Nat → Nat} {x y z : Operand} {v : PV} {a : Value}
theorem p_e {rd : List Key} (hc : callOf r op = none) (he : eff P (ev r) h (d, cnt d) op = ⟨True, v, [], rd, false⟩) (hk : pOps P K rest ⟨setT r d v, h, cnt⟩) : pOps P K (⟨some d, op, ty, pos, aft, gd⟩ :: rest) ⟨r, h, cnt⟩ := p_step hc he trivial hk
theorem p_mv (hx : ev r x = v) (hk : pOps P K rest ⟨setT r d v, h, cnt⟩) : pOps P K (⟨some d, .move x, ty, pos, aft, gd⟩ :: rest) ⟨r, h, cnt⟩ := p_step rfl (e_move hx) trivial hk
theorem p_as (hx : ev r x = v) (hk : pOps P K rest ⟨setT r d v, h, cnt⟩) : pOps P K (⟨some d, .assign x, ty, pos, aft, gd⟩ :: rest) ⟨r, h, cnt⟩ := p_step rfl (e_assign hx) trivial hk
theorem p_mS (hx : ev r x = .sc a) (hk : pOps P K rest ⟨setT r d (.sc a), h, cnt⟩) : pOps P K (⟨some d, .move x, ty, pos, aft, gd⟩ :: rest) ⟨r, h, cnt⟩ := p_mv hx hk
theorem p_aS (hx : ev r x = .sc a) (hk : pOps P K rest ⟨setT r d (.sc a), h, cnt⟩) : pOps P K (⟨some d, .assign x, ty, pos, aft, gd⟩ :: rest) ⟨r, h, cnt⟩ := p_as hx hk
variable {ops : Array Oper} {dr : Bool} {G : Nat → Bool} {i : Nat} {ts : List Ft}
/-- An operation that calls nothing, may be told, is wanted, and names what stands. -/
def wantB (ops : Array Oper) (r : Nat → PV) (h : Heap) (cnt : Nat → Nat) (G : Nat → Bool) (gd : Option (Nat × Bool)) (op : Op) : Bool := (callOf r op).isNone && (gobB ops r G gd && (gval ops ⟨⟨r, h, cnt⟩, G⟩ gd && validB r G op))
theorem wantB_1 (hb : wantB ops r h cnt G gd op = true) : callOf r op = none ∧ gobB ops r G gd = true ∧ gval ops ⟨⟨r, h, cnt⟩, G⟩ gd = true ∧ validB r G op = true := by
 simp only [wantB, Bool.and_eq_true, Option.isNone_iff_eq_none] at hb; exact hb
theorem g_e {rd : List Key} (hb : wantB ops r h cnt G gd op = true) (he : eff P (ev r) h (d, cnt d) op = ⟨True, v, [], rd, false⟩) (hk : gRun P ops dr K rest (i + 1) ⟨setT r d v, h, cnt⟩ (setB G d true)) : gRun P ops dr K (⟨some d, op, ty, pos, aft, gd⟩ :: rest) i ⟨r, h, cnt⟩ G :=
 g_step (wantB_1 hb).2.1 (wantB_1 hb).2.2.1 (wantB_1 hb).1 (wantB_1 hb).2.2.2 he trivial hk
theorem g_mS (hb : wantB ops r h cnt G gd (.move x) = true) (hx : ev r x = .sc a) (hk : gRun P ops dr K rest (i + 1) ⟨setT r d (.sc a), h, cnt⟩ (setB G d true)) : gRun P ops dr K (⟨some d, .move x, ty, pos, aft, gd⟩ :: rest) i ⟨r, h, cnt⟩ G := g_e hb (e_move hx) hk
theorem g_aS (hb : wantB ops r h cnt G gd (.assign x) = true) (hx : ev r x = .sc a) (hk : gRun P ops dr K rest (i + 1) ⟨setT r d (.sc a), h, cnt⟩ (setB G d true)) : gRun P ops dr K (⟨some d, .assign x, ty, pos, aft, gd⟩ :: rest) i ⟨r, h, cnt⟩ G := g_e hb (e_assign hx) hk
theorem g_pT (hb : wantB ops r h cnt G gd (.pick x y z) = true) (hx : ev r x = .bool true) (hy : ev r y = .sc a) (hk : gRun P ops dr K rest (i + 1) ⟨setT r d (.sc a), h, cnt⟩ (setB G d true)) : gRun P ops dr K (⟨some d, .pick x y z, ty, pos, aft, gd⟩ :: rest) i ⟨r, h, cnt⟩ G := g_e hb (e_pickT hx hy) hk
theorem g_pF (hb : wantB ops r h cnt G gd (.pick x y z) = true) (hx : ev r x = .bool false) (hy : ev r z = .sc a) (hk : gRun P ops dr K rest (i + 1) ⟨setT r d (.sc a), h, cnt⟩ (setB G d true)) : gRun P ops dr K (⟨some d, .pick x y z, ty, pos, aft, gd⟩ :: rest) i ⟨r, h, cnt⟩ G := g_e hb (e_pickF hx hy) hk
theorem s_e (hb : wantB ops r h cnt G gd op = true) (he : eff P (ev r) h (d, cnt d) op = ⟨True, v, [], [], false⟩) (hk : sRun P ops dr K rest (i + 1) ⟨setT r d v, h, cnt⟩ (setB G d true) (ts ++ [⟨i, [], []⟩])) : sRun P ops dr K (⟨some d, op, ty, pos, aft, gd⟩ :: rest) i ⟨r, h, cnt⟩ G ts :=
 s_step [] (by simp) (wantB_1 hb).2.1 (wantB_1 hb).2.2.1 (wantB_1 hb).1 (wantB_1 hb).2.2.2 he trivial hk
end
section
variable {P : Program} {ρ : Operand → PV} {h : Heap} {key : Key} {x y z : Operand} {t t' : TypeId} {v : PV}
abbrev pl2 : List (Nat × Nat × Bool) := [(0, 1, false), (1, 1, false)]
abbrev pl3 : List (Nat × Nat × Bool) := [(0, 1, false), (1, 1, false), (2, 1, false)]
abbrev pl6 : List (Nat × Nat × Bool) := [(0, 1, false), (1, 1, false), (2, 1, false), (3, 1, false), (4, 1, false), (5, 1, false)]
theorem e_faQ {k : Key} {sz i j f : Nat} (pl : List (Nat × Nat × Bool)) (hx : ρ x = .ptr k sz i j) (ht : structOk P t = true := by kernel_rfl) (hp : places P t = pl := by kernel_rfl) (hf : f < pl.length := by decide) :
   eff P ρ h key (.fieldAddr t x f) = ⟨True, .ptr k sz i (j + (pl.getD f (0, 0, false)).1), [], [], false⟩ := e_faP hx ht hp hf rfl
theorem e_fb {tt : Bool} {sz : Nat} {rows : Rows} {i j f : Nat} (pl : List (Nat × Nat × Bool)) (hx : ρ x = .lptr tt sz rows i j) (ht : structOk P t = true := by kernel_rfl) (hp : places P t = pl := by kernel_rfl) (hf : f < pl.length := by decide) :
   eff P ρ h key (.fieldAddr t x f) = ⟨True, .lptr tt sz rows i (j + (pl.getD f (0, 0, false)).1), [], [], false⟩ := e_fa hx ht hp hf rfl
theorem e_ixL {tt : Bool} {sz : Nat} {rows : Rows} {k : IntKind} {i : Int} (hx : ρ x = .lit tt sz rows) (hy : ρ y = .sc (.int k i)) (hi : 0 ≤ i ∧ i < rows.length := by first | omega | (simp only [List.length_map]; omega)) (ht : sliceOk P t = true := by kernel_rfl) (hs : tySize P (elemTy P t) = sz := by kernel_rfl) :
   eff P ρ h key (.indexAddr t x y) = ⟨True, .lptr tt sz rows i.toNat 0, [], [], false⟩ := e_ixa hx hy ht hs hi
theorem e_lH {k : Key} {sz i j : Nat} {rs : Rows} (hx : ρ x = .ptr k sz i j) (hk : h k = some (.rows sz rs)) (hv : cellAt rs i j = v) (hg : tyAgg P t = false := by kernel_rfl) (hs : tySize P t = 1 := by kernel_rfl) (ht : tyOk P t = true := by kernel_rfl) (hi : i < rs.length := by exact Nat.zero_lt_one) (hj : j < sz := by decide) :
   eff P ρ h key (.load t x) = ⟨True, v, [], [k], false⟩ := e_loadH hx hk hg hs ht hi hj hv
theorem e_adL {a b : Int} (hx : ρ x = .int a) (hy : ρ y = .int b) (h1 : -9223372036854775808 ≤ a + b ∧ a + b ≤ 9223372036854775807 := by first | omega | (simp only [List.length_map] at *; omega)) : eff P ρ h key (.binOp .add t x y t') = ⟨True, .int (a + b), [], [], false⟩ := e_add hx hy h1
end
/-- How conditions are read. -/
theorem zz : (∀ (p : Prop) [Decidable p], (decide p = true) = p) ∧ (∀ (p : Prop) [Decidable p], decide p = false ↔ ¬ p) ∧ (∀ b : Bool, ((!b) = true) = (b = false)) ∧ (∀ b : Bool, ((!b) = false) = (b = true)) ∧ (∀ a b : Int, ¬ a < b ↔ b ≤ a) ∧ (∀ a b : Int, ¬ a ≤ b ↔ b < a) ∧
   (∀ (α : Type) (a b : α), (a ≠ b) = ¬ (a = b)) ∧ (∀ (p : Prop) [Decidable p], ¬ ¬ p ↔ p) ∧ (∀ (α β : Type) (l : List α) (f : α → β), (l.map f).length = l.length) ∧ (∀ a b : Bool, ((a || b) = true) = (a = true ∨ b = true)) ∧ (∀ a b : Bool, ((a && b) = true) = (a = true ∧ b = true)) ∧
   (∀ a b : Bool, (a || b) = false ↔ a = false ∧ b = false) ∧ (∀ a b : Bool, (a && b) = false ↔ a = false ∨ b = false) :=
 ⟨fun _ _ => decide_eq_true_eq, fun _ _ => decide_eq_false_iff_not, Bool.not_eq_true', Bool.not_eq_false', fun _ _ => Int.not_lt, fun _ _ => Int.not_le, fun _ _ _ => rfl, fun _ _ => Decidable.not_not, fun _ _ l f => List.length_map f, Bool.or_eq_true, Bool.and_eq_true, fun _ _ => Bool.or_eq_false_iff, fun _ _ => Bool.and_eq_false_iff⟩
end Go.Pv

/- A call that only reads own memory leaves no trace: its own objects are forgotten. -/
namespace Go.Pv
open Go
/-- What has been the same object all along is where it was. -/
theorem EnvLe.same {E E' : Env} (hle : EnvLe E E') (hk : ∀ k o, E.h k = some o → E'.h k = some o) {k : Key} {o : PObj} (h : E.h k = some o) : E'.blk k = E.blk k ∧ (∀ sz rs, o = .rows sz rs → E'.cap k = E.cap k) := by
 cases o with
 | rows sz rs =>
   rcases hle.rows k sz rs h with h1 | ⟨rs', h1, h2, h3⟩
   · rw [hk k _ h] at h1; cases h1
   · exact ⟨h2, fun _ _ _ => h3⟩
 | map es bs clk =>
   rcases hle.map k _ h (by simp [PObj.kd]) with h1 | ⟨o', h1, h2, h3⟩
   · rw [hk k _ h] at h1; cases h1
   · exact ⟨h3, fun _ _ e => by cases e⟩
 | iter km s l =>
   rcases hle.map k _ h (by simp [PObj.kd]) with h1 | ⟨o', h1, h2, h3⟩
   · rw [hk k _ h] at h1; cases h1
   · exact ⟨h3, fun _ _ e => by cases e⟩
abbrev backEnv (E E' : Env) : Env := { E with w := E'.w }
theorem rep_back {E E' : Env} (hle : EnvLe E E') (hk : ∀ k o, E.h k = some o → E'.h k = some o) {v : Value} {p : PV} (h : Rep E' v p) : ∀ {u : Value}, Rep E u p → Rep (backEnv E E') v p := by
 have hmem : ∀ {t sz rows b off f}, MemAt E' t sz rows b off f → MemAt (backEnv E E') t sz rows b off f := fun {t sz rows b off f} hm =>
   ⟨fun ⟨k, o, h1, h2⟩ => hm.own ⟨k, o, hk k o h1, by rw [(hle.same hk h1).1]; exact h2⟩, fun ht => by have := hm.out ht; rw [hle.M] at this; exact this, fun ht => by have := hm.tt ht; rw [hle.tt] at this; exact this, hm.lt, hm.width, hm.cell, hm.pure, hm.one⟩
 induction h with
 | sc hx => intro u _; exact .sc hx
 | nil => intro u _; exact .nil
 | litE => intro u _; exact .litE
 | lit hm hc hr ih =>
   intro u hu
   refine .lit (hmem hm) hc fun i j row p h1 h2 => ?_
   cases hu with
   | litE => simp at h1
   | lit hm2 hc2 hr2 => exact ih i j row p h1 h2 (hr2 i j row p h1 h2)
 | lptr i j hm hr ih =>
   intro u hu
   cases hu with
   | lptr i j hm2 hr2 => exact .lptr i j (hmem hm) fun a b row p h1 h2 => ih a b row p h1 h2 (hr2 a b row p h1 h2)
 | @ref b a k sz off len c hkn hlen hl =>
   intro u hu
   have hkE : E.known k := by cases hu <;> assumption
   refine .ref hkE hlen fun o ho => ?_
   obtain ⟨⟨h1, h2⟩, h3, rs, rfl⟩ := hl o (hk k o ho)
   obtain ⟨g1, g2⟩ := hle.same hk ho
   have g3 := g2 _ _ rfl
   exact ⟨⟨by rw [h1, g1], by rw [h2, g3]⟩, by rw [← g3]; exact h3, rs, rfl⟩
 | @refE a k sz off hkn hl =>
   intro u hu
   have hkE : E.known k := by cases hu <;> assumption
   exact .refE hkE fun o ho => hl o (hk k o ho)
 | @ptr b a k sz i j hkn hl =>
   intro u hu
   have hkE : E.known k := by cases hu; assumption
   refine .ptr hkE fun o ho => ?_
   obtain ⟨⟨h1, h2⟩, rs, rfl⟩ := hl o (hk k o ho)
   obtain ⟨g1, g2⟩ := hle.same hk ho
   have g3 := g2 _ _ rfl
   exact ⟨⟨by rw [h1, g1], by rw [h2, g3]⟩, rs, rfl⟩
 | agg hl _ ih =>
   intro u hu
   cases hu with
   | @agg vs2 _ hl2 h2 =>
     exact .agg hl fun i v p h3 h4 => by
       have hi : i < vs2.size := by rw [hl2]; exact (List.getElem?_eq_some_iff.1 h4).1
       exact ih i v p h3 h4 (h2 i _ p (Array.getElem?_eq_getElem hi) h4)
 | tup hl _ ih =>
   intro u hu
   cases hu with
   | @tup vs2 _ hl2 h2 =>
     exact .tup hl fun i v p h3 h4 => by
       have hi : i < vs2.size := by rw [hl2]; exact (List.getElem?_eq_some_iff.1 h4).1
       exact ih i v p h3 h4 (h2 i _ p (Array.getElem?_eq_getElem hi) h4)
 | func hl hl' _ _ ih ih' =>
   intro u hu
   cases hu with
   | @func _ as2 cs2 _ _ hl2 hl2' h2 h2' =>
     refine .func hl hl' (fun i v p h3 h4 => ?_) fun i v p h3 h4 => ?_
     · have hi : i < as2.size := by rw [hl2]; exact (List.getElem?_eq_some_iff.1 h4).1
       exact ih i v p h3 h4 (h2 i _ p (Array.getElem?_eq_getElem hi) h4)
     · have hi : i < cs2.size := by rw [hl2']; exact (List.getElem?_eq_some_iff.1 h4).1
       exact ih' i v p h3 h4 (h2' i _ p (Array.getElem?_eq_getElem hi) h4)
 | @map b k hkn hl =>
   intro u hu
   have hkE : E.known k := by cases hu; assumption
   refine .map hkE fun o ho => ?_
   obtain ⟨h1, h2⟩ := hl o (hk k o ho)
   exact ⟨by rw [h1, (hle.same hk ho).1], h2⟩
 | @iter b k hkn hl =>
   intro u hu
   have hkE : E.known k := by cases hu; assumption
   refine .iter hkE fun o ho => ?_
   obtain ⟨h1, h2⟩ := hl o (hk k o ho)
   exact ⟨by rw [h1, (hle.same hk ho).1], h2⟩
 | dead => intro u _; exact .dead
theorem good_back {E E' : Env} (g : Good E) (g' : Good E') (hle : EnvLe E E') (hk : ∀ k o, E.h k = some o → E'.h k = some o) : Good (backEnv E E') := by
 refine ⟨g.inj, g.known, g.base, fun k o ho => ?_, g.out, by have := g'.size; rw [hle.B0] at this; exact this, by have := g'.glob; rw [hle.B0] at this; exact this⟩
 have h0 := g.obj k o ho
 have h1 := g'.obj k o (hk k o ho)
 obtain ⟨e1, e2⟩ := hle.same hk ho
 cases o with
 | rows sz rs =>
   have e3 := e2 _ _ rfl
   obtain ⟨c, T, a1, a2, a3, a4, a5, a6, a7⟩ := h1
   obtain ⟨_, _, _, _, _, _, _, _, b7⟩ := h0
   rw [e1] at a1
   rw [e3] at a2 a3 a7
   refine ⟨c, T, a1, a2, a3, a4, a5, a6, fun i j row p h2 h3 => ?_⟩
   obtain ⟨v, h4, h5⟩ := a7 i j row p h2 h3
   obtain ⟨u, _, h6⟩ := b7 i j row p h2 h3
   exact ⟨v, h4, rep_back hle hk h5 h6⟩
 | map es bs clk =>
   obtain ⟨ents, a1, a2, a3, a4, a5, a6⟩ := h1
   obtain ⟨ents0, _, b2, _, b4, _, _⟩ := h0
   rw [e1] at a1
   refine ⟨ents, a1, a2, a3, fun i e p h2 h3 => ?_, a5, a6⟩
   have hi : i < ents0.size := by rw [b2]; exact (List.getElem?_eq_some_iff.1 h3).1
   have h4 := a4 i e p h2 h3
   have h5 := b4 i _ p (Array.getElem?_eq_getElem hi) h3
   exact ⟨rep_back hle hk h4.1 h5.1, rep_back hle hk h4.2 h5.2⟩
 | iter km s l =>
   obtain ⟨b, a1, a2, a3⟩ := h1
   obtain ⟨b0, _, b2, _⟩ := h0
   rw [e1] at a1
   exact ⟨b, a1, b2, fun o ho2 => by
     obtain ⟨h4, h5⟩ := a3 o (hk km o ho2)
     exact ⟨by rw [h4, (hle.same hk ho2).1], h5⟩⟩
variable {P : Program}
/-- The same, told by the keys that were in use. -/
theorem HCallsR.forget2 {f : FuncId} {args : List PV} {h : Heap} {cnt : Nat → Nat} {v0 : PV} (hc : HCallsR P f args h cnt (fun v h2 _ => v = v0 ∧ ∀ k : Key, k.2 < cnt k.1 → h2 k = h k)) (hv : ∀ E : Env, ∃ u, Rep E u v0) :
   HCallsR P f args h cnt (fun v h2 c2 => v = v0 ∧ h2 = h ∧ c2 = cnt) := by
 refine ⟨hc.1, fun E vs g hh hcn htt hsz hrep => (hc.2 E vs g hh hcn htt hsz hrep).mono ?_⟩
 rintro e w' ⟨u, v, E', rfl, ⟨rfl, hk0⟩, rfl, g', hle, hbl, hu⟩
 have hk : ∀ k o, E.h k = some o → E'.h k = some o := fun k o ho => by
   have h1 := g.known k o ho
   unfold Env.known at h1
   rw [hcn] at h1
   rw [hk0 k h1, ← hh]; exact ho
 obtain ⟨u0, hu0⟩ := hv E
 refine ⟨u, v, backEnv E E', rfl, ⟨rfl, hh, hcn⟩, rfl, good_back g g' hle hk, ⟨hle.blk, hle.size, fun b hb => .inl hb, rfl, rfl, rfl, fun _ => Nat.le_refl _, fun _ _ h => h, fun _ _ rs h => .inr ⟨rs, h, rfl, rfl⟩, fun _ o h _ => .inr ⟨o, h, rfl, rfl⟩⟩, hbl, rep_back hle hk hu hu0⟩
theorem rep_sc0 {x : Value} (hx : isScalar x = true) (E : Env) : ∃ u, Rep E u (.sc x) := ⟨x, .sc hx⟩
theorem rep_agg2 {x y : Value} (hx : isScalar x = true) (hy : isScalar y = true) (E : Env) : ∃ u, Rep E u (.agg [.sc x, .sc y]) :=
 ⟨.agg #[x, y], .agg rfl fun i v p h1 h2 => by
   match i, h1, h2 with
   | 0, h1, h2 => cases h1; cases h2; exact .sc hx
   | 1, h1, h2 => cases h1; cases h2; exact .sc hy
   | i + 2, _, h2 => simp at h2⟩
section
variable {K : PS → Prop} {d : Nat} {op : Op} {ty : TypeId} {pos : String} {aft : Array Edge} {gd : Option (Nat × Bool)} {rest : List Oper} {r : Nat → PV} {h : Heap} {cnt : Nat → Nat} {ops : Array Oper} {i : Nat} {G : Nat → Bool} {dd dr : Bool}
/-- A call that reads own memory, in a region whose order may be drawn. -/
theorem s_callM {f : FuncId} {args : List PV} {v : PV} {ts : List Ft} (ks : List Key) (rs : List Nat) (hrd : ∀ k ∈ ks, k.1 ∈ rs) (hg : gobB ops r G gd = true) (hgv : gval ops ⟨⟨r, h, cnt⟩, G⟩ gd = true) (hc : callOf r op = some (f, args)) (hv : validB r G op = true)
   (hp : ∀ h' : Heap, (∀ k ∈ ks, h' k = h k) → ∀ c', HCallsR P f args h' c' fun v' h2 c2 => v' = v ∧ h2 = h' ∧ c2 = c')
   (hk : sRun P ops dd K rest (i + 1) ⟨setT r d v, h, cnt⟩ (setB G d true) (ts ++ [⟨i, rs, []⟩])) : sRun P ops dd K (⟨some d, op, ty, pos, aft, gd⟩ :: rest) i ⟨r, h, cnt⟩ G ts := by
 intro tr ht
 unfold gOps
 refine ⟨gobB_ok hg, ?_⟩
 show match callOf r op with | none => _ | some (f, args) => _
 rw [hc]
 refine .inr (.inr ⟨hgv, validB_ok hv, rfl, _, .inr ⟨v, ks, rfl, hp⟩, ?_⟩)
 have := hk (tr ++ [⟨i, ks, []⟩]) (ht.snoc rfl hrd (by simp))
 simp only [stepG, stepS, putR_setT, setG_setB]
 rw [hgv]
 exact this
end
end Go.Pv
