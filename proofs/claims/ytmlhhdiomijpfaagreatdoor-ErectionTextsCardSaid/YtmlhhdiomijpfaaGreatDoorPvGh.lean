import Derived.Test.YtmlhhdiomijpfaaGreatDoorPvGg
import Derived.Test.YtmlhhdiomijpfaaGreatDoorPvGu
set_option linter.unusedSimpArgs false
set_option linter.unusedVariables false
namespace Go.Pv
open Go Go.RowKit
theorem arr2' {a : Array Value} (h : a.size = 2) : ∃ x y, a = #[x, y] := by
 obtain ⟨l⟩ := a
 match l, h with
 | [x, y], _ => exact ⟨x, y, rfl⟩
theorem grow_core {P : Program} {fG : FuncId} {sz site n : Nat} (hb : hasBody P fG = true) (hs : 1 ≤ sz)
   (hG : ∀ (base : Option Addr) (w : World), Calls P fG #[.slice base 0 0, .int .i64 n] w fun e w' => ∃ (c : Nat) (cells : Array Value) (T : TypeId), e = .returned (.slice (some ⟨w.heap.size, 0, none⟩) 0 c) ∧ w' = w.drew.alloc (.cells cells T) ∧ cells.size = c * sz)
   {h : Heap} {c : Nat → Nat} {R : PV → Heap → (Nat → Nat) → Prop} (hR : R (.ref (site, c site) sz 0 0) (hset h (site, c site) (some (.rows sz []))) (cset c site)) : HCallsR P fG [.nil, .int n] h c R := by
 refine ⟨hb, fun E vs gE hh hcn htt hvs hrep => ?_⟩;subst hh;subst hcn;obtain ⟨v0, v1, rfl⟩ := arr2' hvs;have h0 := hrep 0 v0 _ rfl rfl;have h1 := hrep 1 v1 _ rfl rfl;cases h0 with
 | nil =>
 have hv1 : v1 = .int .i64 n := h1.sc_inv;subst hv1;refine (hG _ E.w).mono ?_
 rintro e w' ⟨cp, cells, T, rfl, rfl, hsz⟩
 have hpush : (E.w.drew.alloc (.cells cells T)).heap = E.w.heap.push (.cells cells T (0, 0)) := rfl
 have ho : ObjOK (newEnv E site (.rows sz []) (E.w.drew.alloc (.cells cells T)) cp) (site, E.cnt site) (.rows sz []) :=
   ⟨cells, T, by simp [newEnv, hpush], by simp [newEnv, hsz], by simp, hs, by simp, by simp, by simp⟩
 refine ⟨_, .ref (site, E.cnt site) sz 0 0, newEnv E site (.rows sz []) (E.w.drew.alloc (.cells cells T)) cp, rfl, hR, rfl, newEnv_good gE hpush ho, newEnv_le gE hpush, (Below.refl _ _).drew.alloc gE.size _, ?_⟩
 have hr := Rep.ref (E := newEnv E site (.rows sz []) (E.w.drew.alloc (.cells cells T)) cp) (b := E.w.heap.size) (a := 0) (k := (site, E.cnt site)) (sz := sz) (off := 0) (len := 0) (c := cp) (by simp [newEnv, Env.known]) (Nat.zero_le _)
   (fun o ho => by
     simp only [newEnv, if_true, Option.some.injEq] at ho;subst ho;exact ⟨by simp [newEnv], by simp [newEnv], _, rfl⟩)
 exact hr
section
variable {P : Program} {K : PS → Prop} {d : Nat} {op : Op} {ty : TypeId} {pos : String} {aft : Array Edge} {gd : Option (Nat × Bool)} {rest : List Oper} {r : Nat → PV} {h : Heap} {cnt : Nat → Nat} {ops : Array Oper} {i : Nat} {G : Nat → Bool} {dd : Bool}
end
end Go.Pv
namespace Go.Pv
open Go Go.Proofs Go.RowKit Go.Maps Go.Sort
section
variable {P : Program}
end
end Go.Pv
namespace Go.Pv
open Go
section
variable {P : Program} {ρ : Operand → PV} {h : Heap} {key : Key} {x y : Operand} {t : TypeId}
theorem e_cutR {k : Key} {sz len n : Nat} (hx : ρ x = .ref k sz 0 len) (hy : ρ y = .int (n : Int)) (hn : n ≤ len) (ht : sliceOk P t = true) (hz : tySize P (elemTy P t) = sz) :
   eff P ρ h key (.slice t x none (some y) none) = ⟨True, .ref k sz 0 n, [], [], false⟩ := by
 simp only [eff, Option.map_none, Option.map_some, hx, hy, sliceEff, bound, ht, hz]; simp; omega
end
end Go.Pv
namespace Go.Pv
open Go Go.RowKit
section
variable {P : Program} {K : PS → Prop} {d : Nat} {op : Op} {ty : TypeId} {pos : String} {aft : Array Edge} {gd : Option (Nat × Bool)} {rest : List Oper} {r : Nat → PV} {h : Heap} {cnt : Nat → Nat} {ops : Array Oper} {i : Nat} {G : Nat → Bool} {dd : Bool}
end
end Go.Pv
namespace Go.Pv
open Go Go.RowKit
section
variable {P : Program} {K : PS → Prop} {d : Nat} {op : Op} {ty : TypeId} {pos : String} {aft : Array Edge} {gd : Option (Nat × Bool)} {rest : List Oper} {r : Nat → PV} {h : Heap} {cnt : Nat → Nat} {ops : Array Oper} {i : Nat} {G : Nat → Bool} {dd : Bool} {vs : Key → Nat}
variable {x y : Operand} {t : TypeId}
end
end Go.Pv
namespace Go.Pv
open Go Go.RowKit
def staticR (ops : Array Oper) (R : List Nat) : Bool := okR ops R && (List.range ops.size).all fun j => (List.range j).all fun i =>
 (R.getD j 0).testBit i || (((do let a ← ops[i]?; let b ← ops[j]?; pure (a.apart ops b && (siteOf a != siteOf b || (a.dst.isNone && b.dst.isNone)))) : Option Bool).getD false)
theorem staticR_ok {ops : Array Oper} {R : List Nat} (h : staticR ops R = true) : staticB ops = true := by
 unfold staticR at h;rw [Bool.and_eq_true] at h;refine List.all_eq_true.2 fun j hj => List.all_eq_true.2 fun i hi => ?_;have h1 := List.all_eq_true.1 (List.all_eq_true.1 h.2 j hj) i hi;unfold pairB;rw [Bool.or_eq_true] at h1 ⊢;rcases h1 with h1 | h1
 · left; exact okR_waits h.1 ops.size j i (List.mem_range.1 hj) (List.mem_range.1 hj) h1
 · right; exact h1
theorem g_endR {P : Program} {K : PS → Prop} {r : Nat → PV} {h : Heap} {cnt : Nat → Nat} {ops : Array Oper} {i : Nat} {G : Nat → Bool} {dr : Bool} {ds : List Nat} (R : List Nat) (hs : staticR ops R = true) (hd : guardedOf ops.toList = ds) (hk : K ⟨deadT r ds, h, cnt⟩) : gRun P ops dr K [] i ⟨r, h, cnt⟩ G :=
 g_end (by rw [staticR_ok hs]; simp) hd hk
end Go.Pv
namespace Go.Pv
open Go
section
variable {P : Program} {h : Heap} {key : Key} {x y z : Operand} {t t' : TypeId} {v : PV} {K : PS → Prop} {d : Nat} {ty : TypeId} {pos : String} {aft : Array Edge} {gd : Option (Nat × Bool)} {rest : List Oper} {r : Nat → PV} {cnt : Nat → Nat}
end
section
variable {P : Program} {K : PS → Prop} {d : Nat} {op : Op} {ty : TypeId} {pos : String} {aft : Array Edge} {rest : List Oper} {r : Nat → PV} {h : Heap} {cnt : Nat → Nat} {ops : Array Oper} {i : Nat} {G : Nat → Bool} {dd : Bool} {x y : Operand} {t : TypeId}
end
end Go.Pv
namespace Go.Pv
open Go Go.RowKit
def cbo (b : Bool) : List PV := [.bool b]
theorem cbo_pure (b : Bool) : ∀ p ∈ cbo b, Pure p := fun p hp => by simp [cbo] at hp; subst hp; exact .sc _
section
variable {P : Program} {ρ : Operand → PV} {h : Heap} {key : Key} {x y : Operand} {t : TypeId}
theorem e_mkB {l c : Operand} {L : Int} {n : Nat} (hx : ρ l = .int L) (hy : ρ c = .int L) (hn : L = (n : Int)) (hz : zeroCellsOf P (elemTy P t) = some [.bool false]) (ho : sliceOk P t = true) (hs : tySize P (elemTy P t) = 1) (hb : P.bytesOf (elemTy P t) < 2 ^ 15) (hl : n < 2 ^ 32) :
   eff P ρ h key (.makeSlice t l c) = ⟨True, .ref key 1 0 n, [(key, some (.rows 1 ((List.replicate n false).map cbo)))], [], true⟩ := by
 subst hn;have h1 : (List.replicate n false).map cbo = List.replicate n [PV.bool false] := by simp [cbo]
 simp only [eff, hx, hy, makeSliceEff, hz, ho, hs, hb, h1];simp [PV.cell]; omega
theorem e_storeB {k : Key} {zs : List Bool} {i : Nat} {a : Bool} (hx : ρ x = .ptr k 1 i 0) (hk : h k = some (.rows 1 (zs.map cbo))) (hy : ρ y = .bool a) (hi : i < zs.length) (hs : tySize P t = 1) (ht : tyOk P t = true) :
   eff P ρ h key (.store t x y) = ⟨True, .dead, [(k, some (.rows 1 ((zs.set i a).map cbo)))], [k], false⟩ := by
 have h1 : setRow (zs.map cbo) i 0 [.bool a] = (zs.set i a).map cbo := by
   unfold setRow setAt;rw [List.map_set];congr 1;simp [List.getD_eq_getElem?_getD, hi, cbo]
 simp only [eff, storeEff, hx, hk, hy, hs, ht, pcells];rw [h1];simp [hi, PV.cell]
end
section
variable {α β : Type} [DecidableEq α] {f : α → PV} {g : β → PV}
end
section
variable {α β : Type} [DecidableEq α] {f : α → PV} {g : β → PV}
variable {P : Program} {K : PS → Prop} {d : Nat} {ty : TypeId} {pos : String} {aft : Array Edge} {gd : Option (Nat × Bool)} {rest : List Oper} {r : Nat → PV} {h : Heap} {cnt : Nat → Nat} {ops : Array Oper} {i : Nat} {G : Nat → Bool} {dd : Bool} {x y w : Operand} {t : TypeId}
end
end Go.Pv
namespace Go.Pv
open Go Go.RowKit
section
variable {P : Program} {K : PS → Prop} {d : Nat} {op : Op} {ty : TypeId} {pos : String} {aft : Array Edge} {rest : List Oper} {r : Nat → PV} {h : Heap} {cnt : Nat → Nat} {ops : Array Oper} {i : Nat} {G : Nat → Bool}
end
end Go.Pv
namespace Go.Pv
open Go
section
variable {P : Program} {K : PS → Prop} {d : Nat} {ty t : TypeId} {pos : String} {aft : Array Edge} {gd : Option (Nat × Bool)} {rest : List Oper} {r : Nat → PV} {h : Heap} {cnt : Nat → Nat} {op : Op} {x y : Operand}
def gen : PV → Nat
 | .ref k _ _ _ => k.2
 | _ => 0
def cv (v : PV) : List PV := [v]
structure NP {α : Type} (h : Heap) (d : Nat) (sz : Nat) (f : α → List PV) (vs : List PV) (ls : List (List α)) : Prop where
 len : vs.length = ls.length
 at_ : ∀ (i : Nat) (v : PV) (l : List α), vs[i]? = some v → ls[i]? = some l → SliceAt h d v sz (l.map f)
 one : ∀ (i j : Nat) (v : PV), vs[i]? = some v → vs[j]? = some v → v ≠ .nil → i = j
variable {α : Type} {f : α → List PV} {sz : Nat} {vs : List PV} {ls : List (List α)}
theorem NP.keep {h' : Heap} (hn : NP h d sz f vs ls) (hk : ∀ g, h' (d, g) = h (d, g)) : NP h' d sz f vs ls :=
 ⟨hn.len, fun i v l h1 h2 => (hn.at_ i v l h1 h2).keep hk, hn.one⟩
theorem NP.get (hn : NP h d sz f vs ls) {i : Nat} {v : PV} {l : List α} (hv : vs[i]? = some v) (hl : ls[i]? = some l) : SliceAt h d v sz (l.map f) := hn.at_ i v l hv hl
theorem NP.nils (n : Nat) : NP h d sz f (List.replicate n .nil) (List.replicate n ([] : List α)) := by
 refine ⟨by simp, fun i v l h1 h2 => ?_, fun i j v h1 h2 h3 => ?_⟩
 · simp only [List.getElem?_replicate] at h1 h2;by_cases hi : i < n
   · rw [if_pos hi] at h1 h2; cases h1; cases h2; exact .nil
   · rw [if_neg hi] at h1; cases h1
 · simp only [List.getElem?_replicate] at h1;split at h1
   · cases h1; exact absurd rfl h3
   · cases h1
theorem NP.upd {h' : Heap} (hn : NP h d sz f vs ls) {i : Nat} {v v' : PV} {l' : List α} (hv : vs[i]? = some v) (hs : SliceAt h' d v' sz (l'.map f))
   (hfar : ∀ (j : Nat) (w : PV) (g n : Nat), j ≠ i → vs[j]? = some w → w = .ref (d, g) sz 0 n → h' (d, g) = h (d, g) ∧ v' ≠ w) : NP h' d sz f (vs.set i v') (ls.set i l') := by
 have hi : i < vs.length := (List.getElem?_eq_some_iff.1 hv).1;refine ⟨by simp [hn.len], fun j w l h1 h2 => ?_, fun j k w h1 h2 h3 => ?_⟩
 · rw [List.getElem?_set] at h1 h2;by_cases hj : i = j
   · subst hj;rw [if_pos rfl, if_pos hi] at h1;rw [if_pos rfl, if_pos (by rw [← hn.len]; exact hi)] at h2;cases h1; cases h2; exact hs
   · rw [if_neg hj] at h1 h2;rcases hn.at_ j w l h1 h2 with h4 | ⟨g, h4, h5⟩
     · exact .inl h4
     · exact .inr ⟨g, h4, (hfar j w g _ (fun e => hj e.symm) h1 h4).1.trans h5⟩
 · rw [List.getElem?_set] at h1 h2
   have ref : ∀ (j : Nat) (w : PV), vs[j]? = some w → w ≠ .nil → ∃ g n, w = .ref (d, g) sz 0 n := fun j w hw hne => by
     have hj : j < ls.length := by rw [← hn.len]; exact (List.getElem?_eq_some_iff.1 hw).1
     rcases hn.at_ j w _ hw (List.getElem?_eq_getElem hj) with ⟨_, h4⟩ | ⟨g, h4, _⟩
     · exact absurd h4 hne
     · exact ⟨g, _, h4⟩
   by_cases hj : i = j
   · subst hj;rw [if_pos rfl, if_pos hi] at h1;cases h1;by_cases hk : i = k
     · exact hk
     · rw [if_neg hk] at h2;obtain ⟨g, n, hg⟩ := ref k _ h2 h3;exact absurd rfl (hfar k _ g n (fun e => hk e.symm) h2 hg).2
   · rw [if_neg hj] at h1;by_cases hk : i = k
     · subst hk;rw [if_pos rfl, if_pos hi] at h2;cases h2;obtain ⟨g, n, hg⟩ := ref j _ h1 h3;exact absurd rfl (hfar j _ g n (fun e => hj e.symm) h1 hg).2
     · rw [if_neg hk] at h2;exact hn.one j k w h1 h2 h3
def Fresh (h : Heap) (c : Nat → Nat) (d : Nat) : Prop := ∀ g o, h (d, g) = some o → g < c d
theorem Known.fresh {s : PS} (hk : Known s) (d : Nat) : Fresh s.h s.cnt d := fun g o h1 => hk (d, g) o h1
theorem NP.app {h' : Heap} {c : Nat → Nat} (hn : NP h d sz f vs ls) (hf : Fresh h c d) {i : Nat} {v v' : PV} {l l' : List α} (hv : vs[i]? = some v) (hl : ls[i]? = some l) (hv' : v' = .ref (d, c d) sz 0 l'.length) (hr : h' (d, c d) = some (.rows sz (l'.map f)))
   (hk : ∀ k' : Key, k' ≠ (d, c d) → (∀ g, v = .ref (d, g) sz 0 l.length → k' ≠ (d, g)) → h' k' = h k') : NP h' d sz f (vs.set i v') (ls.set i l') := by
 refine hn.upd hv (.inr ⟨c d, by rw [hv', List.length_map], hr⟩) fun j w g n hj hw hg => ?_;have hjl : j < ls.length := by rw [← hn.len]; exact (List.getElem?_eq_some_iff.1 hw).1
 have hlive : ∃ o, h (d, g) = some o := by
   rcases hn.at_ j w _ hw (List.getElem?_eq_getElem hjl) with ⟨_, h4⟩ | ⟨g', h4, h5⟩
   · rw [h4] at hg; cases hg
   · rw [h4] at hg; cases hg; exact ⟨_, h5⟩
 obtain ⟨o, ho⟩ := hlive;have hlt := hf g o ho;refine ⟨hk (d, g) (fun e => ?_) (fun g' hg' e => ?_), fun e => ?_⟩
 · cases e; omega
 · cases e;refine hj (hn.one j i w hw ?_ (by rw [hg]; intro e; cases e));rw [hv];rcases hn.at_ i v l hv hl with ⟨_, h4⟩ | ⟨g2, h4, _⟩
   · rw [h4] at hg'; cases hg'
   · rcases hn.at_ j w _ hw (List.getElem?_eq_getElem hjl) with ⟨_, h5⟩ | ⟨g3, h5, h6⟩
     · rw [h5] at hg; cases hg
     · rw [h4] at hg';have e1 : g2 = g := congrArg gen hg';rw [h5] at hg;have e2 : g3 = g := congrArg gen hg;subst e1; subst e2;rw [h4, h5];have h7 := hn.at_ i v l hv hl;rcases h7 with ⟨_, h8⟩ | ⟨g4, h8, h9⟩
       · rw [h4] at h8; cases h8
       · rw [h4] at h8;have e3 : g3 = g4 := congrArg gen h8;rw [← e3, h6] at h9;simp only [Option.some.injEq, PObj.rows.injEq, true_and] at h9;rw [h9]
 · rw [hv', hg] at e;have : c d = g := congrArg gen e;omega
theorem p_appK {ts : Array TypeId} {t2 : TypeId} {u u2 : PV} {sz d1 : Nat} {rows rows2 : Rows} (hts : ts.toList = [t, t2]) (hx : ev r x = u) (hy : ev r y = u2) (hs : SliceAt h d1 u sz rows) (hsr : (srcRows h sz u2).1 ∧ (srcRows h sz u2).2.1 = rows2)
   (hok : (sliceOk P t && (decide (P.bytesOf (elemTy P t) < 2 ^ 15) && (decide (intKind P t2 = none) && (zeroOk P (elemTy P t) && ((P.underlying t2).isSome && decide (tySize P (elemTy P t) = sz)))))) = true) (hlen : rows.length + rows2.length < 2 ^ 32) (hne : rows2 ≠ [])
   (hk : ∀ h', h' (d, cnt d) = some (.rows sz (rows ++ rows2)) → (∀ k' : Key, k' ≠ (d, cnt d) → (∀ g, u = .ref (d1, g) sz 0 rows.length → k' ≠ (d1, g)) → h' k' = h k') → pOps P K rest ⟨setT r d (.ref (d, cnt d) sz 0 (rows.length + rows2.length)), h', cset cnt d⟩) :
   pOps P K (⟨some d, .call { callee := .builtin .append, args := #[x, y], argTypes := ts }, ty, pos, aft, gd⟩ :: rest) ⟨r, h, cnt⟩ := by
 simp only [Bool.and_eq_true, decide_eq_true_eq] at hok;obtain ⟨o1, o2, o3, o4, o5, o6⟩ := hok;subst o6
 have he : ∀ u, ev r x = u → eff P (ev r) h (d, cnt d) (.call { callee := .builtin .append, args := #[x, y], argTypes := ts }) = appendEff P h (d, cnt d) t t2 u u2 := fun u hu => by
   show builtinEff P h (d, cnt d) .append ts.toList [ev r x, ev r y] = _;rw [hts, hu, hy]; rfl
 have hie : rows2.isEmpty = false := by cases rows2 <;> first | exact absurd rfl hne | rfl
 rcases hs with ⟨rfl, rfl⟩ | ⟨g, rfl, hg⟩
 · have hq := he _ hx;unfold appendEff at hq;simp only [hsr.2] at hq;rw [hie] at hq;simp only [cond_false] at hq;refine p_new rfl hq ⟨⟨o1, o2, o3, o4, o5⟩, hsr.1, hne, by simp at hlen; omega⟩ ?_;have := hk (hset h (d, cnt d) (some (.rows (tySize P (elemTy P t)) rows2))) (by rw [List.nil_append]; exact hset_self _ _ _) (fun k' h1 _ => hset_ne h1);simpa using this
 · have hq := he _ hx;unfold appendEff at hq;simp only [hg, hsr.2] at hq;refine p_renew rfl hq (by refine ⟨⟨o1, o2, o3, o4, o5⟩, hsr.1, ?_⟩; simp; omega) ?_;refine hk _ ?_ fun k' h1 h2 => ?_
   · rw [hset_self, List.drop_zero, List.take_length]
   · rw [hset_ne h1, hset_ne (h2 g rfl)]
end
section
variable {P : Program} {K : PS → Prop} {d : Nat} {op : Op} {ty : TypeId} {pos : String} {aft : Array Edge} {gd : Option (Nat × Bool)} {rest : List Oper} {r : Nat → PV} {h : Heap} {cnt : Nat → Nat} {ops : Array Oper} {i : Nat} {G : Nat → Bool} {dd : Bool}
end
end Go.Pv
namespace Go.Pv
open Go
section
variable {P : Program} {K : PS → Prop} {d : Nat} {op : Op} {ty : TypeId} {pos : String} {aft : Array Edge} {gd : Option (Nat × Bool)} {rest : List Oper} {r : Nat → PV} {h : Heap} {cnt : Nat → Nat} {x y z : Operand} {v : PV} {a : Value}
theorem p_e {rd : List Key} (hc : callOf r op = none) (he : eff P (ev r) h (d, cnt d) op = ⟨True, v, [], rd, false⟩) (hk : pOps P K rest ⟨setT r d v, h, cnt⟩) : pOps P K (⟨some d, op, ty, pos, aft, gd⟩ :: rest) ⟨r, h, cnt⟩ := p_step hc he trivial hk
theorem p_mv (hx : ev r x = v) (hk : pOps P K rest ⟨setT r d v, h, cnt⟩) : pOps P K (⟨some d, .move x, ty, pos, aft, gd⟩ :: rest) ⟨r, h, cnt⟩ := p_step rfl (e_move hx) trivial hk
theorem p_as (hx : ev r x = v) (hk : pOps P K rest ⟨setT r d v, h, cnt⟩) : pOps P K (⟨some d, .assign x, ty, pos, aft, gd⟩ :: rest) ⟨r, h, cnt⟩ := p_step rfl (e_assign hx) trivial hk
theorem p_mS (hx : ev r x = .sc a) (hk : pOps P K rest ⟨setT r d (.sc a), h, cnt⟩) : pOps P K (⟨some d, .move x, ty, pos, aft, gd⟩ :: rest) ⟨r, h, cnt⟩ := p_mv hx hk
theorem p_aS (hx : ev r x = .sc a) (hk : pOps P K rest ⟨setT r d (.sc a), h, cnt⟩) : pOps P K (⟨some d, .assign x, ty, pos, aft, gd⟩ :: rest) ⟨r, h, cnt⟩ := p_as hx hk
variable {ops : Array Oper} {dr : Bool} {G : Nat → Bool} {i : Nat} {ts : List Ft}
def wantB (ops : Array Oper) (r : Nat → PV) (h : Heap) (cnt : Nat → Nat) (G : Nat → Bool) (gd : Option (Nat × Bool)) (op : Op) : Bool := (callOf r op).isNone && (gobB ops r G gd && (gval ops ⟨⟨r, h, cnt⟩, G⟩ gd && validB r G op))
theorem wantB_1 (hb : wantB ops r h cnt G gd op = true) : callOf r op = none ∧ gobB ops r G gd = true ∧ gval ops ⟨⟨r, h, cnt⟩, G⟩ gd = true ∧ validB r G op = true := by
 simp only [wantB, Bool.and_eq_true, Option.isNone_iff_eq_none] at hb; exact hb
theorem g_e {rd : List Key} (hb : wantB ops r h cnt G gd op = true) (he : eff P (ev r) h (d, cnt d) op = ⟨True, v, [], rd, false⟩) (hk : gRun P ops dr K rest (i + 1) ⟨setT r d v, h, cnt⟩ (setB G d true)) : gRun P ops dr K (⟨some d, op, ty, pos, aft, gd⟩ :: rest) i ⟨r, h, cnt⟩ G :=
 g_step (wantB_1 hb).2.1 (wantB_1 hb).2.2.1 (wantB_1 hb).1 (wantB_1 hb).2.2.2 he trivial hk
theorem g_mS (hb : wantB ops r h cnt G gd (.move x) = true) (hx : ev r x = .sc a) (hk : gRun P ops dr K rest (i + 1) ⟨setT r d (.sc a), h, cnt⟩ (setB G d true)) : gRun P ops dr K (⟨some d, .move x, ty, pos, aft, gd⟩ :: rest) i ⟨r, h, cnt⟩ G := g_e hb (e_move hx) hk
theorem g_aS (hb : wantB ops r h cnt G gd (.assign x) = true) (hx : ev r x = .sc a) (hk : gRun P ops dr K rest (i + 1) ⟨setT r d (.sc a), h, cnt⟩ (setB G d true)) : gRun P ops dr K (⟨some d, .assign x, ty, pos, aft, gd⟩ :: rest) i ⟨r, h, cnt⟩ G := g_e hb (e_assign hx) hk
theorem g_pT (hb : wantB ops r h cnt G gd (.pick x y z) = true) (hx : ev r x = .bool true) (hy : ev r y = .sc a) (hk : gRun P ops dr K rest (i + 1) ⟨setT r d (.sc a), h, cnt⟩ (setB G d true)) : gRun P ops dr K (⟨some d, .pick x y z, ty, pos, aft, gd⟩ :: rest) i ⟨r, h, cnt⟩ G := g_e hb (e_pickT hx hy) hk
theorem g_pF (hb : wantB ops r h cnt G gd (.pick x y z) = true) (hx : ev r x = .bool false) (hy : ev r z = .sc a) (hk : gRun P ops dr K rest (i + 1) ⟨setT r d (.sc a), h, cnt⟩ (setB G d true)) : gRun P ops dr K (⟨some d, .pick x y z, ty, pos, aft, gd⟩ :: rest) i ⟨r, h, cnt⟩ G := g_e hb (e_pickF hx hy) hk
theorem s_e (hb : wantB ops r h cnt G gd op = true) (he : eff P (ev r) h (d, cnt d) op = ⟨True, v, [], [], false⟩) (hk : sRun P ops dr K rest (i + 1) ⟨setT r d v, h, cnt⟩ (setB G d true) (ts ++ [⟨i, [], []⟩])) : sRun P ops dr K (⟨some d, op, ty, pos, aft, gd⟩ :: rest) i ⟨r, h, cnt⟩ G ts :=
 s_step [] (by simp) (wantB_1 hb).2.1 (wantB_1 hb).2.2.1 (wantB_1 hb).1 (wantB_1 hb).2.2.2 he trivial hk
end
section
variable {P : Program} {ρ : Operand → PV} {h : Heap} {key : Key} {x y z : Operand} {t t' : TypeId} {v : PV}
abbrev pl2 : List (Nat × Nat × Bool) := [(0, 1, false), (1, 1, false)]
abbrev pl6 : List (Nat × Nat × Bool) := [(0, 1, false), (1, 1, false), (2, 1, false), (3, 1, false), (4, 1, false), (5, 1, false)]
theorem e_faQ {k : Key} {sz i j f : Nat} (pl : List (Nat × Nat × Bool)) (hx : ρ x = .ptr k sz i j) (ht : structOk P t = true := by kernel_rfl) (hp : places P t = pl := by kernel_rfl) (hf : f < pl.length := by decide) :
   eff P ρ h key (.fieldAddr t x f) = ⟨True, .ptr k sz i (j + (pl.getD f (0, 0, false)).1), [], [], false⟩ := e_faP hx ht hp hf rfl
theorem e_fb {tt : Bool} {sz : Nat} {rows : Rows} {i j f : Nat} (pl : List (Nat × Nat × Bool)) (hx : ρ x = .lptr tt sz rows i j) (ht : structOk P t = true := by kernel_rfl) (hp : places P t = pl := by kernel_rfl) (hf : f < pl.length := by decide) :
   eff P ρ h key (.fieldAddr t x f) = ⟨True, .lptr tt sz rows i (j + (pl.getD f (0, 0, false)).1), [], [], false⟩ := e_fa hx ht hp hf rfl
theorem e_ixL {tt : Bool} {sz : Nat} {rows : Rows} {k : IntKind} {i : Int} (hx : ρ x = .lit tt sz rows) (hy : ρ y = .sc (.int k i)) (hi : 0 ≤ i ∧ i < rows.length := by first | omega | (simp only [List.length_map]; omega)) (ht : sliceOk P t = true := by kernel_rfl) (hs : tySize P (elemTy P t) = sz := by kernel_rfl) :
   eff P ρ h key (.indexAddr t x y) = ⟨True, .lptr tt sz rows i.toNat 0, [], [], false⟩ := e_ixa hx hy ht hs hi
theorem e_lH {k : Key} {sz i j : Nat} {rs : Rows} (hx : ρ x = .ptr k sz i j) (hk : h k = some (.rows sz rs)) (hv : cellAt rs i j = v) (hg : tyAgg P t = false := by kernel_rfl) (hs : tySize P t = 1 := by kernel_rfl) (ht : tyOk P t = true := by kernel_rfl) (hi : i < rs.length := by exact Nat.zero_lt_one) (hj : j < sz := by decide) :
   eff P ρ h key (.load t x) = ⟨True, v, [], [k], false⟩ := e_loadH hx hk hg hs ht hi hj hv
theorem e_adL {a b : Int} (hx : ρ x = .int a) (hy : ρ y = .int b) (h1 : -9223372036854775808 ≤ a + b ∧ a + b ≤ 9223372036854775807 := by first | omega | (simp only [List.length_map] at *; omega)) : eff P ρ h key (.binOp .add t x y t') = ⟨True, .int (a + b), [], [], false⟩ := e_add hx hy h1
end
theorem zz : (∀ (p : Prop) [Decidable p], (decide p = true) = p) ∧ (∀ (p : Prop) [Decidable p], decide p = false ↔ ¬ p) ∧ (∀ b : Bool, ((!b) = true) = (b = false)) ∧ (∀ b : Bool, ((!b) = false) = (b = true)) ∧ (∀ a b : Int, ¬ a < b ↔ b ≤ a) ∧ (∀ a b : Int, ¬ a ≤ b ↔ b < a) ∧
   (∀ (α : Type) (a b : α), (a ≠ b) = ¬ (a = b)) ∧ (∀ (p : Prop) [Decidable p], ¬ ¬ p ↔ p) ∧ (∀ (α β : Type) (l : List α) (f : α → β), (l.map f).length = l.length) ∧ (∀ a b : Bool, ((a || b) = true) = (a = true ∨ b = true)) ∧ (∀ a b : Bool, ((a && b) = true) = (a = true ∧ b = true)) ∧
   (∀ a b : Bool, (a || b) = false ↔ a = false ∧ b = false) ∧ (∀ a b : Bool, (a && b) = false ↔ a = false ∨ b = false) :=
 ⟨fun _ _ => decide_eq_true_eq, fun _ _ => decide_eq_false_iff_not, Bool.not_eq_true', Bool.not_eq_false', fun _ _ => Int.not_lt, fun _ _ => Int.not_le, fun _ _ _ => rfl, fun _ _ => Decidable.not_not, fun _ _ l f => List.length_map f, Bool.or_eq_true, Bool.and_eq_true, fun _ _ => Bool.or_eq_false_iff, fun _ _ => Bool.and_eq_false_iff⟩
end Go.Pv
namespace Go.Pv
open Go
variable {P : Program}
section
variable {K : PS → Prop} {d : Nat} {op : Op} {ty : TypeId} {pos : String} {aft : Array Edge} {gd : Option (Nat × Bool)} {rest : List Oper} {r : Nat → PV} {h : Heap} {cnt : Nat → Nat} {ops : Array Oper} {i : Nat} {G : Nat → Bool} {dd dr : Bool}
end
end Go.Pv
namespace Go.Pv
open Go Go.RowKit
section
variable {P : Program} {K : PS → Prop}
end
end Go.Pv
set_option linter.unusedSimpArgs false
namespace Go.Pv
open Go Go.RowKit
section
variable {P : Program} {ρ : Operand → PV} {h : Heap} {key : Key} {x y z : Operand} {t t' : TypeId}
theorem e_sadd {a b : ByteArray} (hx : ρ x = .str a) (hy : ρ y = .str b) (h1 : a.size + b.size < 4611686018427387904) : eff P ρ h key (.binOp .add t x y t') = ⟨True, .str (a ++ b), [], [], false⟩ := by
 simp only [eff, hx, hy, binEffN, binEff, strBin];have : a.size + b.size < 2 ^ 62 := by omega
 simp [Eff.val, this]
theorem e_ssub {s : ByteArray} {a b : Int} {lo hi : Nat} (hx : ρ x = .str s) (hy : ρ y = .int a) (hz : ρ z = .int b) (ha : a = (lo : Int)) (hb : b = (hi : Int)) (ht : isStringTy P t = true) (h1 : lo ≤ hi) (h2 : hi ≤ s.size) :
   eff P ρ h key (.slice t x (some y) (some z) none) = ⟨True, .str (s.extract lo hi), [], [], false⟩ := by
 subst ha; subst hb;simp only [eff, hx, hy, hz, sliceEff, bound, Option.map, ht, Int.toNat_natCast];simp [Eff.val]; omega
theorem e_sfrom {s : ByteArray} {a : Int} {lo : Nat} (hx : ρ x = .str s) (hy : ρ y = .int a) (ha : a = (lo : Int)) (ht : isStringTy P t = true) (h2 : lo ≤ s.size) :
   eff P ρ h key (.slice t x (some y) none none) = ⟨True, .str (s.extract lo s.size), [], [], false⟩ := by
 subst ha;simp only [eff, hx, hy, sliceEff, bound, Option.map, ht, Int.toNat_natCast];simp [Eff.val]; omega
theorem e_byte {k : Key} {v : Int} (hx : ρ x = .ref k 1 0 1) (hk : h k = some (.rows 1 [[.sc (.int .u8 v)]])) (ht : (sliceOk P t && (intKind P (elemTy P t) == some .u8) && isStringTy P t') = true) :
   eff P ρ h key (.convert t t' x) = ⟨True, .str (strOfNums [v]), [], [k], false⟩ := by
 simp only [eff, hx, convHEff, hk];have : bytesAt [[.sc (.int .u8 v)]] 0 1 = some [v] := rfl;simp only [this];simp only [ht]; simp
theorem e_remT {a b : Int} (hx : ρ x = .int a) (hy : ρ y = .int b) (hb : b ≠ 0) : eff P ρ h key (.binOp .rem t x y t') = ⟨True, .int (a.tmod b), [], [], false⟩ := by
 simp only [eff, hx, hy, binEffN, binEff, intBin]; simp [Eff.val, hb]
theorem e_quoT {a b : Int} (hx : ρ x = .int a) (hy : ρ y = .int b) (hb : b ≠ 0) (h1 : -9223372036854775808 ≤ a.tdiv b ∧ a.tdiv b ≤ 9223372036854775807) : eff P ρ h key (.binOp .quo t x y t') = ⟨True, .int (a.tdiv b), [], [], false⟩ := by
 simp only [eff, hx, hy, binEffN, binEff, intBin, wrap64 h1.1 h1.2]; simp [Eff.val, hb]
theorem e_subU {a b : Int} (hx : ρ x = .sc (.int .u8 a)) (hy : ρ y = .sc (.int .u8 b)) (h1 : 0 ≤ a - b ∧ a - b ≤ 255) : eff P ρ h key (.binOp .sub t x y t') = ⟨True, .sc (.int .u8 (a - b)), [], [], false⟩ := by
 have : IntKind.u8.wrap (a - b) = a - b := by unfold IntKind.wrap; simp [IntKind.bits, IntKind.signed]; omega
 simp only [eff, hx, hy, binEffN, binEff, intBin, this]; simp
end
end Go.Pv
namespace Go.Pv
section
variable {P : Program} {ρ : Operand → PV} {h : Heap} {key : Key} {x y z : Operand} {t t' : TypeId} {v : PV}
theorem hzM {a b x y : Nat} {o o' : Option PObj} (hn : Nat.beq a b = false) (e : h (a, x) = o') : hset h (b, y) o (a, x) = o' := (hset_ne (key_ne hn)).trans e
theorem e_ixR {k : Key} {sz len : Nat} {kd : IntKind} {i : Int} (hx : ρ x = .ref k sz 0 len) (hy : ρ y = .sc (.int kd i)) (ht : sliceOk P t = true := by kernel_rfl) (hs : tySize P (elemTy P t) = sz := by kernel_rfl) (hi : 0 ≤ i ∧ i < len := by omega) : eff P ρ h key (.indexAddr t x y) = ⟨True, .ptr k sz i.toNat 0, [], [], false⟩ := e_ixaR0 hx hy ht hs hi
theorem e_lL {tt : Bool} {sz : Nat} {rows : Rows} {i j : Nat} (hx : ρ x = .lptr tt sz rows i j) (hv : cellAt rows i j = v) (hg : tyAgg P t = false := by kernel_rfl) (hs : tySize P t = 1 := by kernel_rfl) (ht : tyOk P t = true := by kernel_rfl) (hi : i < rows.length := by first | omega | (simp only [List.length_map]; omega)) (hj : j < sz := by decide) : eff P ρ h key (.load t x) = ⟨True, v, [], [], false⟩ := e_load hx hg hs ht hi hj hv
theorem e_lA {k : Key} {sz i j n : Nat} {rs : Rows} {cs : List PV} (hx : ρ x = .ptr k sz i j) (hk : h k = some (.rows sz rs)) (hg : tyAgg P t = true := by kernel_rfl) (hs : tySize P t = n := by kernel_rfl) (ht : tyOk P t = true := by kernel_rfl) (hi : i < rs.length := by exact Nat.zero_lt_one) (hj : j + n ≤ sz := by decide) (hv : aggAt rs i j n = cs := by exact rfl) : eff P ρ h key (.load t x) = ⟨True, .agg cs, [], [k], false⟩ := e_loadHA hx hk hg hs ht hi hj hv
theorem s_eR {K : PS → Prop} {d : Nat} {op : Op} {ty : TypeId} {pos : String} {aft : Array Edge} {gd : Option (Nat × Bool)} {rest : List Oper} {r : Nat → PV} {cnt : Nat → Nat} {ops : Array Oper} {i : Nat} {G : Nat → Bool} {dd : Bool} {rd : List Key} {ts : List Ft} (rs : List Nat) (hb : wantB ops r h cnt G gd op = true) (he : eff P (ev r) h (d, cnt d) op = ⟨True, v, [], rd, false⟩) (hk : sRun P ops dd K rest (i + 1) ⟨setT r d v, h, cnt⟩ (setB G d true) (ts ++ [⟨i, rs, []⟩])) (hrd : ∀ k ∈ rd, k.1 ∈ rs := by simp) : sRun P ops dd K (⟨some d, op, ty, pos, aft, gd⟩ :: rest) i ⟨r, h, cnt⟩ G ts :=
  s_step rs hrd (wantB_1 hb).2.1 (wantB_1 hb).2.2.1 (wantB_1 hb).1 (wantB_1 hb).2.2.2 he trivial hk
theorem lM {α β : Type _} {l : List α} (f : α → β) : (l.map f).length = l.length := List.length_map f
end
end Go.Pv
