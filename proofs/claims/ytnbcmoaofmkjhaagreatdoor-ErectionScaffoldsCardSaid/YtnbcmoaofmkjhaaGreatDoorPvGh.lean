import Derived.Test.YtnbcmoaofmkjhaaGreatDoorPvGg
import Derived.Test.YtnbcmoaofmkjhaaGreatDoorPvGu
set_option linter.unusedSimpArgs false
set_option linter.unusedVariables false
namespace Go.Pv
open Go Go.RowKit
theorem arr2' {a : Array Value} (h : a.size = 2) : ∃ x y, a = #[x, y] := by
 obtain ⟨l⟩ := a
 match l, h with
 | [x, y], _ => exact ⟨x, y, rfl⟩
theorem grow_core {P : Program} {fG : FuncId} {sz site n : Nat} (hb : hasBody P fG = true) (hs : 1 ≤ sz)
   (hG : ∀ (base : Option Addr) (w : World), Calls P fG #[.slice base 0 0, .int .i64 n] w fun e w' => ∃ (c : Nat) (cells : Array Value) (T : TypeId), e = .returned (.slice (some ⟨w.heap.size, 0, none⟩) 0 c) ∧ w' = w.drew.alloc (.cells cells T) ∧ cells.size = c * sz)
   {h : Heap} {c : Nat → Nat} {R : PV → Heap → (Nat → Nat) → Prop} (hR : R (.ref (site, c site) sz 0 0) (hset h (site, c site) (some (.rows sz []))) (cset c site)) : zAy P fG [.nil, .int n] h c R := by
 refine ⟨hb, fun E vs gE hh hcn htt hvs hrep => ?_⟩;subst hh;subst hcn;obtain ⟨v0, v1, rfl⟩ := arr2' hvs;have h0 := hrep 0 v0 _ rfl rfl;have h1 := hrep 1 v1 _ rfl rfl;cases h0 with
 | nil =>
 have hv1 : v1 = .int .i64 n := h1.sc_inv;subst hv1;refine (hG _ E.w).mono ?_
 rintro e w' ⟨cp, cells, T, rfl, rfl, hsz⟩
 have hpush : (E.w.drew.alloc (.cells cells T)).heap = E.w.heap.push (.cells cells T (0, 0)) := rfl
 have ho : ObjOK (zA2 E site (.rows sz []) (E.w.drew.alloc (.cells cells T)) cp) (site, E.cnt site) (.rows sz []) :=
   ⟨cells, T, by simp [zA2, hpush], by simp [zA2, hsz], by simp, hs, by simp, by simp, by simp⟩
 refine ⟨_, .ref (site, E.cnt site) sz 0 0, zA2 E site (.rows sz []) (E.w.drew.alloc (.cells cells T)) cp, rfl, hR, rfl, zEH gE hpush ho, zC6 gE hpush, (Below.refl _ _).drew.alloc gE.size _, ?_⟩
 have hr := Rep.ref (E := zA2 E site (.rows sz []) (E.w.drew.alloc (.cells cells T)) cp) (b := E.w.heap.size) (a := 0) (k := (site, E.cnt site)) (sz := sz) (off := 0) (len := 0) (c := cp) (by simp [zA2, Env.known]) (Nat.zero_le _)
   (fun o ho => by
     simp only [zA2, if_true, Option.some.injEq] at ho;subst ho;exact ⟨by simp [zA2], by simp [zA2], _, rfl⟩)
 exact hr
section
variable {P : Program} {K : PS → Prop} {d : Nat} {op : Op} {ty : TypeId} {pos : String} {aft : Array Edge} {gd : Option (Nat × Bool)} {rest : List Oper} {r : Nat → PV} {h : Heap} {cnt : Nat → Nat} {ops : Array Oper} {i : Nat} {G : Nat → Bool} {dd : Bool}
end
end Go.Pv
namespace Go.Pv
open Go Go.Proofs Go.RowKit Go.Maps Go.Sort
section
variable {P : Program}
end
end Go.Pv
namespace Go.Pv
open Go
section
variable {P : Program} {ρ : Operand → PV} {h : Heap} {key : Key} {x y : Operand} {t : TypeId}
theorem e_cutR {k : Key} {sz len n : Nat} (hx : ρ x = .ref k sz 0 len) (hy : ρ y = .int (n : Int)) (hn : n ≤ len) (ht : zAN P t = true) (hz : zAr P (zAu P t) = sz) :
   eff P ρ h key (.slice t x none (some y) none) = ⟨True, .ref k sz 0 n, [], [], false⟩ := by
 simp only [eff, Option.map_none, Option.map_some, hx, hy, zDr, bound, ht, hz]; simp; omega
end
end Go.Pv
namespace Go.Pv
open Go Go.RowKit
section
variable {P : Program} {K : PS → Prop} {d : Nat} {op : Op} {ty : TypeId} {pos : String} {aft : Array Edge} {gd : Option (Nat × Bool)} {rest : List Oper} {r : Nat → PV} {h : Heap} {cnt : Nat → Nat} {ops : Array Oper} {i : Nat} {G : Nat → Bool} {dd : Bool}
end
theorem PNew.of_calls {P : Program} {f : FuncId} {args : List PV} {sz d : Nat} {rows : Rows} (hsz : 1 ≤ sz) (hw : ∀ row ∈ rows, row.length = sz) (hpl : ∀ row ∈ rows, ∀ p ∈ row, ∃ x, p = .sc x ∧ zBM x = true)
   (hc : zAy P f args (fun _ => none) (fun _ => 0) fun v h _ => ∃ g, v = .ref (d, g) sz 0 rows.length ∧ h (d, g) = some (.rows sz rows)) : PNew P f args sz rows := by
 refine ⟨hc.1, hsz, hw, fun w M vs hM hgw hvs hrep => ?_⟩;refine (hc.2 (zA5 w M true) vs (zFs hM hgw true) rfl rfl rfl hvs hrep).mono ?_
 rintro e w' ⟨u, v, E', rfl, ⟨g, rfl, hg⟩, rfl, gE, hle, hbl, hu⟩
 obtain ⟨c, T, h5, h6, h7, h8, h9, h10, h11⟩ := gE.obj _ _ hg
 have hown : w.heap.size ≤ E'.blk (d, g) := by
   rcases hle.own (E'.blk (d, g)) ⟨_, _, hg, rfl⟩ with ⟨k, o, h1, _⟩ | h1
   · exact absurd h1 (by simp [zA5])
   · exact h1
 refine ⟨u, E'.blk (d, g), (E'.cap (d, g)).1, (E'.cap (d, g)).2, c, T, rfl, hbl, hown, h5, h6, h7, fun i j row p h1 h2 => ?_, ?_⟩
 · obtain ⟨x, rfl, hx⟩ := hpl row (List.mem_of_getElem? h1) p (List.mem_of_getElem? h2);obtain ⟨v, h3, h4⟩ := h11 i j row _ h1 h2;exact ⟨x, rfl, hx, by rw [h3, h4.sc_inv]⟩
 · generalize hn : rows.length = n at hu h7;cases hu with
   | ref hk hlen hl =>
     obtain ⟨⟨hb, ha⟩, hcap, _⟩ := hl _ hg;subst hb; subst ha;refine .inl ⟨_, ?_, hlen, by simpa using hcap⟩;rw [Nat.zero_mul, Nat.add_zero]
   | refE hk hl => exact .inr ⟨_, rfl, rfl⟩
end Go.Pv
namespace Go.Pv
open Go Go.RowKit
section
variable {P : Program} {K : PS → Prop} {d : Nat} {op : Op} {ty : TypeId} {pos : String} {aft : Array Edge} {gd : Option (Nat × Bool)} {rest : List Oper} {r : Nat → PV} {h : Heap} {cnt : Nat → Nat} {ops : Array Oper} {i : Nat} {G : Nat → Bool} {dd : Bool} {vs : Key → Nat}
variable {x y : Operand} {t : TypeId}
end
end Go.Pv
namespace Go.Pv
open Go Go.RowKit
def zJk (ops : Array Oper) (R : List Nat) : Bool := okR ops R && (List.range ops.size).all fun j => (List.range j).all fun i =>
 (R.getD j 0).testBit i || (((do let a ← ops[i]?; let b ← ops[j]?; pure (a.apart ops b && (zAH a != zAH b || (a.dst.isNone && b.dst.isNone)))) : Option Bool).getD false)
theorem staticR_ok {ops : Array Oper} {R : List Nat} (h : zJk ops R = true) : zIe ops = true := by
 unfold zJk at h;rw [Bool.and_eq_true] at h;refine List.all_eq_true.2 fun j hj => List.all_eq_true.2 fun i hi => ?_;have h1 := List.all_eq_true.1 (List.all_eq_true.1 h.2 j hj) i hi;unfold pairB;rw [Bool.or_eq_true] at h1 ⊢;rcases h1 with h1 | h1
 · left; exact zGC h.1 ops.size j i (List.mem_range.1 hj) (List.mem_range.1 hj) h1
 · right; exact h1
theorem zI5 {P : Program} {K : PS → Prop} {r : Nat → PV} {h : Heap} {cnt : Nat → Nat} {ops : Array Oper} {i : Nat} {G : Nat → Bool} {dr : Bool} {ds : List Nat} (R : List Nat) (hs : zJk ops R = true) (hd : zCJ ops.toList = ds) (hk : K ⟨deadT r ds, h, cnt⟩) : gRun P ops dr K [] i ⟨r, h, cnt⟩ G :=
 g_end (by rw [staticR_ok hs]; simp) hd hk
end Go.Pv
namespace Go.Pv
open Go
section
variable {P : Program} {h : Heap} {key : Key} {x y z : Operand} {t t' : TypeId} {v : PV} {K : PS → Prop} {d : Nat} {ty : TypeId} {pos : String} {aft : Array Edge} {gd : Option (Nat × Bool)} {rest : List Oper} {r : Nat → PV} {cnt : Nat → Nat}
end
section
variable {P : Program} {K : PS → Prop} {d : Nat} {op : Op} {ty : TypeId} {pos : String} {aft : Array Edge} {rest : List Oper} {r : Nat → PV} {h : Heap} {cnt : Nat → Nat} {ops : Array Oper} {i : Nat} {G : Nat → Bool} {dd : Bool} {x y : Operand} {t : TypeId}
end
end Go.Pv
namespace Go.Pv
open Go Go.RowKit
section
variable {P : Program} {ρ : Operand → PV} {h : Heap} {key : Key} {x y : Operand} {t : TypeId}
end
section
variable {α β : Type} [DecidableEq α] {f : α → PV} {g : β → PV}
end
section
variable {α β : Type} [DecidableEq α] {f : α → PV} {g : β → PV}
variable {P : Program} {K : PS → Prop} {d : Nat} {ty : TypeId} {pos : String} {aft : Array Edge} {gd : Option (Nat × Bool)} {rest : List Oper} {r : Nat → PV} {h : Heap} {cnt : Nat → Nat} {ops : Array Oper} {i : Nat} {G : Nat → Bool} {dd : Bool} {x y w : Operand} {t : TypeId}
end
end Go.Pv
namespace Go.Pv
open Go Go.RowKit
section
variable {P : Program} {K : PS → Prop} {d : Nat} {op : Op} {ty : TypeId} {pos : String} {aft : Array Edge} {rest : List Oper} {r : Nat → PV} {h : Heap} {cnt : Nat → Nat} {ops : Array Oper} {i : Nat} {G : Nat → Bool}
end
end Go.Pv
namespace Go.Pv
open Go
section
variable {P : Program} {K : PS → Prop} {d : Nat} {ty t : TypeId} {pos : String} {aft : Array Edge} {gd : Option (Nat × Bool)} {rest : List Oper} {r : Nat → PV} {h : Heap} {cnt : Nat → Nat} {op : Op} {x y : Operand}
def gen : PV → Nat
 | .ref k _ _ _ => k.2
 | _ => 0
def cv (v : PV) : List PV := [v]
structure NP {α : Type} (h : Heap) (d : Nat) (sz : Nat) (f : α → List PV) (vs : List PV) (ls : List (List α)) : Prop where
 len : vs.length = ls.length
 at_ : ∀ (i : Nat) (v : PV) (l : List α), vs[i]? = some v → ls[i]? = some l → zAq h d v sz (l.map f)
 one : ∀ (i j : Nat) (v : PV), vs[i]? = some v → vs[j]? = some v → v ≠ .nil → i = j
variable {α : Type} {f : α → List PV} {sz : Nat} {vs : List PV} {ls : List (List α)}
theorem NP.keep {h' : Heap} (hn : NP h d sz f vs ls) (hk : ∀ g, h' (d, g) = h (d, g)) : NP h' d sz f vs ls :=
 ⟨hn.len, fun i v l h1 h2 => (hn.at_ i v l h1 h2).keep hk, hn.one⟩
theorem NP.get (hn : NP h d sz f vs ls) {i : Nat} {v : PV} {l : List α} (hv : vs[i]? = some v) (hl : ls[i]? = some l) : zAq h d v sz (l.map f) := hn.at_ i v l hv hl
theorem NP.nils (n : Nat) : NP h d sz f (List.replicate n .nil) (List.replicate n ([] : List α)) := by
 refine ⟨by simp, fun i v l h1 h2 => ?_, fun i j v h1 h2 h3 => ?_⟩
 · simp only [List.getElem?_replicate] at h1 h2;by_cases hi : i < n
   · rw [if_pos hi] at h1 h2; cases h1; cases h2; exact .nil
   · rw [if_neg hi] at h1; cases h1
 · simp only [List.getElem?_replicate] at h1;split at h1
   · cases h1; exact absurd rfl h3
   · cases h1
theorem NP.upd {h' : Heap} (hn : NP h d sz f vs ls) {i : Nat} {v v' : PV} {l' : List α} (hv : vs[i]? = some v) (hs : zAq h' d v' sz (l'.map f))
   (hfar : ∀ (j : Nat) (w : PV) (g n : Nat), j ≠ i → vs[j]? = some w → w = .ref (d, g) sz 0 n → h' (d, g) = h (d, g) ∧ v' ≠ w) : NP h' d sz f (vs.set i v') (ls.set i l') := by
 have hi : i < vs.length := (List.getElem?_eq_some_iff.1 hv).1;refine ⟨by simp [hn.len], fun j w l h1 h2 => ?_, fun j k w h1 h2 h3 => ?_⟩
 · rw [List.getElem?_set] at h1 h2;by_cases hj : i = j
   · subst hj;rw [if_pos rfl, if_pos hi] at h1;rw [if_pos rfl, if_pos (by rw [← hn.len]; exact hi)] at h2;cases h1; cases h2; exact hs
   · rw [if_neg hj] at h1 h2;rcases hn.at_ j w l h1 h2 with h4 | ⟨g, h4, h5⟩
     · exact .inl h4
     · exact .inr ⟨g, h4, (hfar j w g _ (fun e => hj e.symm) h1 h4).1.trans h5⟩
 · rw [List.getElem?_set] at h1 h2
   have ref : ∀ (j : Nat) (w : PV), vs[j]? = some w → w ≠ .nil → ∃ g n, w = .ref (d, g) sz 0 n := fun j w hw hne => by
     have hj : j < ls.length := by rw [← hn.len]; exact (List.getElem?_eq_some_iff.1 hw).1
     rcases hn.at_ j w _ hw (List.getElem?_eq_getElem hj) with ⟨_, h4⟩ | ⟨g, h4, _⟩
     · exact absurd h4 hne
     · exact ⟨g, _, h4⟩
   by_cases hj : i = j
   · subst hj;rw [if_pos rfl, if_pos hi] at h1;cases h1;by_cases hk : i = k
     · exact hk
     · rw [if_neg hk] at h2;obtain ⟨g, n, hg⟩ := ref k _ h2 h3;exact absurd rfl (hfar k _ g n (fun e => hk e.symm) h2 hg).2
   · rw [if_neg hj] at h1;by_cases hk : i = k
     · subst hk;rw [if_pos rfl, if_pos hi] at h2;cases h2;obtain ⟨g, n, hg⟩ := ref j _ h1 h3;exact absurd rfl (hfar j _ g n (fun e => hj e.symm) h1 hg).2
     · rw [if_neg hk] at h2;exact hn.one j k w h1 h2 h3
def Fresh (h : Heap) (c : Nat → Nat) (d : Nat) : Prop := ∀ g o, h (d, g) = some o → g < c d
theorem Known.fresh {s : PS} (hk : Known s) (d : Nat) : Fresh s.h s.cnt d := fun g o h1 => hk (d, g) o h1
theorem NP.app {h' : Heap} {c : Nat → Nat} (hn : NP h d sz f vs ls) (hf : Fresh h c d) {i : Nat} {v v' : PV} {l l' : List α} (hv : vs[i]? = some v) (hl : ls[i]? = some l) (hv' : v' = .ref (d, c d) sz 0 l'.length) (hr : h' (d, c d) = some (.rows sz (l'.map f)))
   (hk : ∀ k' : Key, k' ≠ (d, c d) → (∀ g, v = .ref (d, g) sz 0 l.length → k' ≠ (d, g)) → h' k' = h k') : NP h' d sz f (vs.set i v') (ls.set i l') := by
 refine hn.upd hv (.inr ⟨c d, by rw [hv', List.length_map], hr⟩) fun j w g n hj hw hg => ?_;have hjl : j < ls.length := by rw [← hn.len]; exact (List.getElem?_eq_some_iff.1 hw).1
 have hlive : ∃ o, h (d, g) = some o := by
   rcases hn.at_ j w _ hw (List.getElem?_eq_getElem hjl) with ⟨_, h4⟩ | ⟨g', h4, h5⟩
   · rw [h4] at hg; cases hg
   · rw [h4] at hg; cases hg; exact ⟨_, h5⟩
 obtain ⟨o, ho⟩ := hlive;have hlt := hf g o ho;refine ⟨hk (d, g) (fun e => ?_) (fun g' hg' e => ?_), fun e => ?_⟩
 · cases e; omega
 · cases e;refine hj (hn.one j i w hw ?_ (by rw [hg]; intro e; cases e));rw [hv];rcases hn.at_ i v l hv hl with ⟨_, h4⟩ | ⟨g2, h4, _⟩
   · rw [h4] at hg'; cases hg'
   · rcases hn.at_ j w _ hw (List.getElem?_eq_getElem hjl) with ⟨_, h5⟩ | ⟨g3, h5, h6⟩
     · rw [h5] at hg; cases hg
     · rw [h4] at hg';have e1 : g2 = g := congrArg gen hg';rw [h5] at hg;have e2 : g3 = g := congrArg gen hg;subst e1; subst e2;rw [h4, h5];have h7 := hn.at_ i v l hv hl;rcases h7 with ⟨_, h8⟩ | ⟨g4, h8, h9⟩
       · rw [h4] at h8; cases h8
       · rw [h4] at h8;have e3 : g3 = g4 := congrArg gen h8;rw [← e3, h6] at h9;simp only [Option.some.injEq, PObj.rows.injEq, true_and] at h9;rw [h9]
 · rw [hv', hg] at e;have : c d = g := congrArg gen e;omega
theorem zFW {ts : Array TypeId} {t2 : TypeId} {u u2 : PV} {sz d1 : Nat} {rows rows2 : Rows} (hts : ts.toList = [t, t2]) (hx : ev r x = u) (hy : ev r y = u2) (hs : zAq h d1 u sz rows) (hsr : (zAU h sz u2).1 ∧ (zAU h sz u2).2.1 = rows2)
   (hok : (zAN P t && (decide (P.bytesOf (zAu P t) < 2 ^ 15) && (decide (zBm P t2 = none) && (zEg P (zAu P t) && ((P.underlying t2).isSome && decide (zAr P (zAu P t) = sz)))))) = true) (hlen : rows.length + rows2.length < 2 ^ 32) (hne : rows2 ≠ [])
   (hk : ∀ h', h' (d, cnt d) = some (.rows sz (rows ++ rows2)) → (∀ k' : Key, k' ≠ (d, cnt d) → (∀ g, u = .ref (d1, g) sz 0 rows.length → k' ≠ (d1, g)) → h' k' = h k') → pOps P K rest ⟨setT r d (.ref (d, cnt d) sz 0 (rows.length + rows2.length)), h', cset cnt d⟩) :
   pOps P K (⟨some d, .call { callee := .builtin .append, args := #[x, y], argTypes := ts }, ty, pos, aft, gd⟩ :: rest) ⟨r, h, cnt⟩ := by
 simp only [Bool.and_eq_true, decide_eq_true_eq] at hok;obtain ⟨o1, o2, o3, o4, o5, o6⟩ := hok;subst o6
 have he : ∀ u, ev r x = u → eff P (ev r) h (d, cnt d) (.call { callee := .builtin .append, args := #[x, y], argTypes := ts }) = zA3 P h (d, cnt d) t t2 u u2 := fun u hu => by
   show zA9 P h (d, cnt d) .append ts.toList [ev r x, ev r y] = _;rw [hts, hu, hy]; rfl
 have hie : rows2.isEmpty = false := by cases rows2 <;> first | exact absurd rfl hne | rfl
 rcases hs with ⟨rfl, rfl⟩ | ⟨g, rfl, hg⟩
 · have hq := he _ hx;unfold zA3 at hq;simp only [hsr.2] at hq;rw [hie] at hq;simp only [cond_false] at hq;refine p_new rfl hq ⟨⟨o1, o2, o3, o4, o5⟩, hsr.1, hne, by simp at hlen; omega⟩ ?_;have := hk (hset h (d, cnt d) (some (.rows (zAr P (zAu P t)) rows2))) (by rw [List.nil_append]; exact zBk _ _ _) (fun k' h1 _ => zAp h1);simpa using this
 · have hq := he _ hx;unfold zA3 at hq;simp only [hg, hsr.2] at hq;refine zJA rfl hq (by refine ⟨⟨o1, o2, o3, o4, o5⟩, hsr.1, ?_⟩; simp; omega) ?_;refine hk _ ?_ fun k' h1 h2 => ?_
   · rw [zBk, List.drop_zero, List.take_length]
   · rw [zAp h1, zAp (h2 g rfl)]
end
section
variable {P : Program} {K : PS → Prop} {d : Nat} {op : Op} {ty : TypeId} {pos : String} {aft : Array Edge} {gd : Option (Nat × Bool)} {rest : List Oper} {r : Nat → PV} {h : Heap} {cnt : Nat → Nat} {ops : Array Oper} {i : Nat} {G : Nat → Bool} {dd : Bool}
end
end Go.Pv
namespace Go.Pv
open Go
section
variable {P : Program} {K : PS → Prop} {d : Nat} {op : Op} {ty : TypeId} {pos : String} {aft : Array Edge} {gd : Option (Nat × Bool)} {rest : List Oper} {r : Nat → PV} {h : Heap} {cnt : Nat → Nat} {x y z : Operand} {v : PV} {a : Value}
theorem p_e {rd : List Key} (hc : zAX r op = none) (he : eff P (ev r) h (d, cnt d) op = ⟨True, v, [], rd, false⟩) (hk : pOps P K rest ⟨setT r d v, h, cnt⟩) : pOps P K (⟨some d, op, ty, pos, aft, gd⟩ :: rest) ⟨r, h, cnt⟩ := zEl hc he trivial hk
theorem p_mv (hx : ev r x = v) (hk : pOps P K rest ⟨setT r d v, h, cnt⟩) : pOps P K (⟨some d, .move x, ty, pos, aft, gd⟩ :: rest) ⟨r, h, cnt⟩ := zEl rfl (zAi hx) trivial hk
theorem p_as (hx : ev r x = v) (hk : pOps P K rest ⟨setT r d v, h, cnt⟩) : pOps P K (⟨some d, .assign x, ty, pos, aft, gd⟩ :: rest) ⟨r, h, cnt⟩ := zEl rfl (zAs hx) trivial hk
theorem p_mS (hx : ev r x = .sc a) (hk : pOps P K rest ⟨setT r d (.sc a), h, cnt⟩) : pOps P K (⟨some d, .move x, ty, pos, aft, gd⟩ :: rest) ⟨r, h, cnt⟩ := p_mv hx hk
theorem p_aS (hx : ev r x = .sc a) (hk : pOps P K rest ⟨setT r d (.sc a), h, cnt⟩) : pOps P K (⟨some d, .assign x, ty, pos, aft, gd⟩ :: rest) ⟨r, h, cnt⟩ := p_as hx hk
variable {ops : Array Oper} {dr : Bool} {G : Nat → Bool} {i : Nat} {ts : List Ft}
def wantB (ops : Array Oper) (r : Nat → PV) (h : Heap) (cnt : Nat → Nat) (G : Nat → Bool) (gd : Option (Nat × Bool)) (op : Op) : Bool := (zAX r op).isNone && (gobB ops r G gd && (gval ops ⟨⟨r, h, cnt⟩, G⟩ gd && zCL r G op))
theorem zEV (hb : wantB ops r h cnt G gd op = true) : zAX r op = none ∧ gobB ops r G gd = true ∧ gval ops ⟨⟨r, h, cnt⟩, G⟩ gd = true ∧ zCL r G op = true := by
 simp only [wantB, Bool.and_eq_true, Option.isNone_iff_eq_none] at hb; exact hb
theorem g_e {rd : List Key} (hb : wantB ops r h cnt G gd op = true) (he : eff P (ev r) h (d, cnt d) op = ⟨True, v, [], rd, false⟩) (hk : gRun P ops dr K rest (i + 1) ⟨setT r d v, h, cnt⟩ (setB G d true)) : gRun P ops dr K (⟨some d, op, ty, pos, aft, gd⟩ :: rest) i ⟨r, h, cnt⟩ G :=
 g_step (zEV hb).2.1 (zEV hb).2.2.1 (zEV hb).1 (zEV hb).2.2.2 he trivial hk
theorem g_mS (hb : wantB ops r h cnt G gd (.move x) = true) (hx : ev r x = .sc a) (hk : gRun P ops dr K rest (i + 1) ⟨setT r d (.sc a), h, cnt⟩ (setB G d true)) : gRun P ops dr K (⟨some d, .move x, ty, pos, aft, gd⟩ :: rest) i ⟨r, h, cnt⟩ G := g_e hb (zAi hx) hk
theorem g_aS (hb : wantB ops r h cnt G gd (.assign x) = true) (hx : ev r x = .sc a) (hk : gRun P ops dr K rest (i + 1) ⟨setT r d (.sc a), h, cnt⟩ (setB G d true)) : gRun P ops dr K (⟨some d, .assign x, ty, pos, aft, gd⟩ :: rest) i ⟨r, h, cnt⟩ G := g_e hb (zAs hx) hk
theorem g_pT (hb : wantB ops r h cnt G gd (.pick x y z) = true) (hx : ev r x = .bool true) (hy : ev r y = .sc a) (hk : gRun P ops dr K rest (i + 1) ⟨setT r d (.sc a), h, cnt⟩ (setB G d true)) : gRun P ops dr K (⟨some d, .pick x y z, ty, pos, aft, gd⟩ :: rest) i ⟨r, h, cnt⟩ G := g_e hb (zCX hx hy) hk
theorem g_pF (hb : wantB ops r h cnt G gd (.pick x y z) = true) (hx : ev r x = .bool false) (hy : ev r z = .sc a) (hk : gRun P ops dr K rest (i + 1) ⟨setT r d (.sc a), h, cnt⟩ (setB G d true)) : gRun P ops dr K (⟨some d, .pick x y z, ty, pos, aft, gd⟩ :: rest) i ⟨r, h, cnt⟩ G := g_e hb (zGi hx hy) hk
theorem s_e (hb : wantB ops r h cnt G gd op = true) (he : eff P (ev r) h (d, cnt d) op = ⟨True, v, [], [], false⟩) (hk : sRun P ops dr K rest (i + 1) ⟨setT r d v, h, cnt⟩ (setB G d true) (ts ++ [⟨i, [], []⟩])) : sRun P ops dr K (⟨some d, op, ty, pos, aft, gd⟩ :: rest) i ⟨r, h, cnt⟩ G ts :=
 zAz [] (by simp) (zEV hb).2.1 (zEV hb).2.2.1 (zEV hb).1 (zEV hb).2.2.2 he trivial hk
end
section
variable {P : Program} {ρ : Operand → PV} {h : Heap} {key : Key} {x y z : Operand} {t t' : TypeId} {v : PV}
abbrev pl2 : List (Nat × Nat × Bool) := [(0, 1, false), (1, 1, false)]
abbrev pl3 : List (Nat × Nat × Bool) := [(0, 1, false), (1, 1, false), (2, 1, false)]
abbrev pl6 : List (Nat × Nat × Bool) := [(0, 1, false), (1, 1, false), (2, 1, false), (3, 1, false), (4, 1, false), (5, 1, false)]
theorem e_faQ {k : Key} {sz i j f : Nat} (pl : List (Nat × Nat × Bool)) (hx : ρ x = .ptr k sz i j) (ht : zBG P t = true := by kernel_rfl) (hp : zBp P t = pl := by kernel_rfl) (hf : f < pl.length := by decide) :
   eff P ρ h key (.fieldAddr t x f) = ⟨True, .ptr k sz i (j + (pl.getD f (0, 0, false)).1), [], [], false⟩ := e_faP hx ht hp hf rfl
theorem e_fb {tt : Bool} {sz : Nat} {rows : Rows} {i j f : Nat} (pl : List (Nat × Nat × Bool)) (hx : ρ x = .lptr tt sz rows i j) (ht : zBG P t = true := by kernel_rfl) (hp : zBp P t = pl := by kernel_rfl) (hf : f < pl.length := by decide) :
   eff P ρ h key (.fieldAddr t x f) = ⟨True, .lptr tt sz rows i (j + (pl.getD f (0, 0, false)).1), [], [], false⟩ := e_fa hx ht hp hf rfl
theorem e_ixL {tt : Bool} {sz : Nat} {rows : Rows} {k : IntKind} {i : Int} (hx : ρ x = .lit tt sz rows) (hy : ρ y = .sc (.int k i)) (hi : 0 ≤ i ∧ i < rows.length := by first | omega | (simp only [List.length_map]; omega)) (ht : zAN P t = true := by kernel_rfl) (hs : zAr P (zAu P t) = sz := by kernel_rfl) :
   eff P ρ h key (.indexAddr t x y) = ⟨True, .lptr tt sz rows i.toNat 0, [], [], false⟩ := e_ixa hx hy ht hs hi
theorem e_lH {k : Key} {sz i j : Nat} {rs : Rows} (hx : ρ x = .ptr k sz i j) (hk : h k = some (.rows sz rs)) (hv : zCZ rs i j = v) (hg : tyAgg P t = false := by kernel_rfl) (hs : zAr P t = 1 := by kernel_rfl) (ht : tyOk P t = true := by kernel_rfl) (hi : i < rs.length := by exact Nat.zero_lt_one) (hj : j < sz := by decide) :
   eff P ρ h key (.load t x) = ⟨True, v, [], [k], false⟩ := zDV hx hk hg hs ht hi hj hv
theorem e_adL {a b : Int} (hx : ρ x = .int a) (hy : ρ y = .int b) (h1 : -9223372036854775808 ≤ a + b ∧ a + b ≤ 9223372036854775807 := by first | omega | (simp only [List.length_map] at *; omega)) : eff P ρ h key (.binOp .add t x y t') = ⟨True, .int (a + b), [], [], false⟩ := e_add hx hy h1
end
theorem zz : (∀ (p : Prop) [Decidable p], (decide p = true) = p) ∧ (∀ (p : Prop) [Decidable p], decide p = false ↔ ¬ p) ∧ (∀ b : Bool, ((!b) = true) = (b = false)) ∧ (∀ b : Bool, ((!b) = false) = (b = true)) ∧ (∀ a b : Int, ¬ a < b ↔ b ≤ a) ∧ (∀ a b : Int, ¬ a ≤ b ↔ b < a) ∧
   (∀ (α : Type) (a b : α), (a ≠ b) = ¬ (a = b)) ∧ (∀ (p : Prop) [Decidable p], ¬ ¬ p ↔ p) ∧ (∀ (α β : Type) (l : List α) (f : α → β), (l.map f).length = l.length) ∧ (∀ a b : Bool, ((a || b) = true) = (a = true ∨ b = true)) ∧ (∀ a b : Bool, ((a && b) = true) = (a = true ∧ b = true)) ∧
   (∀ a b : Bool, (a || b) = false ↔ a = false ∧ b = false) ∧ (∀ a b : Bool, (a && b) = false ↔ a = false ∨ b = false) :=
 ⟨fun _ _ => decide_eq_true_eq, fun _ _ => decide_eq_false_iff_not, Bool.not_eq_true', Bool.not_eq_false', fun _ _ => Int.not_lt, fun _ _ => Int.not_le, fun _ _ _ => rfl, fun _ _ => Decidable.not_not, fun _ _ l f => List.length_map f, Bool.or_eq_true, Bool.and_eq_true, fun _ _ => Bool.or_eq_false_iff, fun _ _ => Bool.and_eq_false_iff⟩
end Go.Pv
namespace Go.Pv
open Go
theorem EnvLe.same {E E' : Env} (hle : EnvLe E E') (hk : ∀ k o, E.h k = some o → E'.h k = some o) {k : Key} {o : PObj} (h : E.h k = some o) : E'.blk k = E.blk k ∧ (∀ sz rs, o = .rows sz rs → E'.cap k = E.cap k) := by
 cases o with
 | rows sz rs =>
   rcases hle.rows k sz rs h with h1 | ⟨rs', h1, h2, h3⟩
   · rw [hk k _ h] at h1; cases h1
   · exact ⟨h2, fun _ _ _ => h3⟩
 | map es bs clk =>
   rcases hle.map k _ h (by simp [PObj.kd]) with h1 | ⟨o', h1, h2, h3⟩
   · rw [hk k _ h] at h1; cases h1
   · exact ⟨h3, fun _ _ e => by cases e⟩
 | iter km s l =>
   rcases hle.map k _ h (by simp [PObj.kd]) with h1 | ⟨o', h1, h2, h3⟩
   · rw [hk k _ h] at h1; cases h1
   · exact ⟨h3, fun _ _ e => by cases e⟩
abbrev zHD (E E' : Env) : Env := { E with w := E'.w }
theorem zGt {E E' : Env} (hle : EnvLe E E') (hk : ∀ k o, E.h k = some o → E'.h k = some o) {v : Value} {p : PV} (h : Rep E' v p) : ∀ {u : Value}, Rep E u p → Rep (zHD E E') v p := by
 have hmem : ∀ {t sz rows b off f}, MemAt E' t sz rows b off f → MemAt (zHD E E') t sz rows b off f := fun {t sz rows b off f} hm =>
   ⟨fun ⟨k, o, h1, h2⟩ => hm.own ⟨k, o, hk k o h1, by rw [(hle.same hk h1).1]; exact h2⟩, fun ht => by have := hm.out ht; rw [hle.M] at this; exact this, fun ht => by have := hm.tt ht; rw [hle.tt] at this; exact this, hm.lt, hm.width, hm.cell, hm.pure, hm.one⟩
 induction h with
 | sc hx => intro u _; exact .sc hx
 | nil => intro u _; exact .nil
 | litE => intro u _; exact .litE
 | lit hm hc hr ih =>
   intro u hu;refine .lit (hmem hm) hc fun i j row p h1 h2 => ?_;cases hu with
   | litE => simp at h1
   | lit hm2 hc2 hr2 => exact ih i j row p h1 h2 (hr2 i j row p h1 h2)
 | lptr i j hm hr ih =>
   intro u hu;cases hu with
   | lptr i j hm2 hr2 => exact .lptr i j (hmem hm) fun a b row p h1 h2 => ih a b row p h1 h2 (hr2 a b row p h1 h2)
 | @ref b a k sz off len c hkn hlen hl =>
   intro u hu;have hkE : E.known k := by cases hu <;> assumption
   refine .ref hkE hlen fun o ho => ?_;obtain ⟨⟨h1, h2⟩, h3, rs, rfl⟩ := hl o (hk k o ho);obtain ⟨g1, g2⟩ := hle.same hk ho;have g3 := g2 _ _ rfl;exact ⟨⟨by rw [h1, g1], by rw [h2, g3]⟩, by rw [← g3]; exact h3, rs, rfl⟩
 | @refE a k sz off hkn hl =>
   intro u hu;have hkE : E.known k := by cases hu <;> assumption
   exact .refE hkE fun o ho => hl o (hk k o ho)
 | @ptr b a k sz i j hkn hl =>
   intro u hu;have hkE : E.known k := by cases hu; assumption
   refine .ptr hkE fun o ho => ?_;obtain ⟨⟨h1, h2⟩, rs, rfl⟩ := hl o (hk k o ho);obtain ⟨g1, g2⟩ := hle.same hk ho;have g3 := g2 _ _ rfl;exact ⟨⟨by rw [h1, g1], by rw [h2, g3]⟩, rs, rfl⟩
 | agg hl _ ih =>
   intro u hu;cases hu with
   | @agg vs2 _ hl2 h2 =>
     exact .agg hl fun i v p h3 h4 => by
       have hi : i < vs2.size := by rw [hl2]; exact (List.getElem?_eq_some_iff.1 h4).1
       exact ih i v p h3 h4 (h2 i _ p (Array.getElem?_eq_getElem hi) h4)
 | tup hl _ ih =>
   intro u hu;cases hu with
   | @tup vs2 _ hl2 h2 =>
     exact .tup hl fun i v p h3 h4 => by
       have hi : i < vs2.size := by rw [hl2]; exact (List.getElem?_eq_some_iff.1 h4).1
       exact ih i v p h3 h4 (h2 i _ p (Array.getElem?_eq_getElem hi) h4)
 | func hl hl' _ _ ih ih' =>
   intro u hu;cases hu with
   | @func _ as2 cs2 _ _ hl2 hl2' h2 h2' =>
     refine .func hl hl' (fun i v p h3 h4 => ?_) fun i v p h3 h4 => ?_
     · have hi : i < as2.size := by rw [hl2]; exact (List.getElem?_eq_some_iff.1 h4).1
       exact ih i v p h3 h4 (h2 i _ p (Array.getElem?_eq_getElem hi) h4)
     · have hi : i < cs2.size := by rw [hl2']; exact (List.getElem?_eq_some_iff.1 h4).1
       exact ih' i v p h3 h4 (h2' i _ p (Array.getElem?_eq_getElem hi) h4)
 | @map b k hkn hl =>
   intro u hu;have hkE : E.known k := by cases hu; assumption
   refine .map hkE fun o ho => ?_;obtain ⟨h1, h2⟩ := hl o (hk k o ho);exact ⟨by rw [h1, (hle.same hk ho).1], h2⟩
 | @iter b k hkn hl =>
   intro u hu;have hkE : E.known k := by cases hu; assumption
   refine .iter hkE fun o ho => ?_;obtain ⟨h1, h2⟩ := hl o (hk k o ho);exact ⟨by rw [h1, (hle.same hk ho).1], h2⟩
 | dead => intro u _; exact .dead
theorem zIL {E E' : Env} (g : Good E) (g' : Good E') (hle : EnvLe E E') (hk : ∀ k o, E.h k = some o → E'.h k = some o) : Good (zHD E E') := by
 refine ⟨g.inj, g.known, g.base, fun k o ho => ?_, g.out, by have := g'.size; rw [hle.B0] at this; exact this, by have := g'.glob; rw [hle.B0] at this; exact this⟩;have h0 := g.obj k o ho;have h1 := g'.obj k o (hk k o ho);obtain ⟨e1, e2⟩ := hle.same hk ho;cases o with
 | rows sz rs =>
   have e3 := e2 _ _ rfl;obtain ⟨c, T, a1, a2, a3, a4, a5, a6, a7⟩ := h1;obtain ⟨_, _, _, _, _, _, _, _, b7⟩ := h0;rw [e1] at a1;rw [e3] at a2 a3 a7;refine ⟨c, T, a1, a2, a3, a4, a5, a6, fun i j row p h2 h3 => ?_⟩;obtain ⟨v, h4, h5⟩ := a7 i j row p h2 h3;obtain ⟨u, _, h6⟩ := b7 i j row p h2 h3;exact ⟨v, h4, zGt hle hk h5 h6⟩
 | map es bs clk =>
   obtain ⟨ents, a1, a2, a3, a4, a5, a6⟩ := h1;obtain ⟨ents0, _, b2, _, b4, _, _⟩ := h0;rw [e1] at a1;refine ⟨ents, a1, a2, a3, fun i e p h2 h3 => ?_, a5, a6⟩;have hi : i < ents0.size := by rw [b2]; exact (List.getElem?_eq_some_iff.1 h3).1
   have h4 := a4 i e p h2 h3;have h5 := b4 i _ p (Array.getElem?_eq_getElem hi) h3;exact ⟨zGt hle hk h4.1 h5.1, zGt hle hk h4.2 h5.2⟩
 | iter km s l =>
   obtain ⟨b, a1, a2, a3⟩ := h1;obtain ⟨b0, _, b2, _⟩ := h0;rw [e1] at a1
   exact ⟨b, a1, b2, fun o ho2 => by
     obtain ⟨h4, h5⟩ := a3 o (hk km o ho2);exact ⟨by rw [h4, (hle.same hk ho2).1], h5⟩⟩
variable {P : Program}
theorem zAy.forget2 {f : FuncId} {args : List PV} {h : Heap} {cnt : Nat → Nat} {v0 : PV} (hc : zAy P f args h cnt (fun v h2 _ => v = v0 ∧ ∀ k : Key, k.2 < cnt k.1 → h2 k = h k)) (hv : ∀ E : Env, ∃ u, Rep E u v0) :
   zAy P f args h cnt (fun v h2 c2 => v = v0 ∧ h2 = h ∧ c2 = cnt) := by
 refine ⟨hc.1, fun E vs g hh hcn htt hsz hrep => (hc.2 E vs g hh hcn htt hsz hrep).mono ?_⟩
 rintro e w' ⟨u, v, E', rfl, ⟨rfl, hk0⟩, rfl, g', hle, hbl, hu⟩
 have hk : ∀ k o, E.h k = some o → E'.h k = some o := fun k o ho => by
   have h1 := g.known k o ho;unfold Env.known at h1;rw [hcn] at h1;rw [hk0 k h1, ← hh]; exact ho
 obtain ⟨u0, hu0⟩ := hv E;refine ⟨u, v, zHD E E', rfl, ⟨rfl, hh, hcn⟩, rfl, zIL g g' hle hk, ⟨hle.blk, hle.size, fun b hb => .inl hb, rfl, rfl, rfl, fun _ => Nat.le_refl _, fun _ _ h => h, fun _ _ rs h => .inr ⟨rs, h, rfl, rfl⟩, fun _ o h _ => .inr ⟨o, h, rfl, rfl⟩⟩, hbl, zGt hle hk hu hu0⟩
theorem rep_sc0 {x : Value} (hx : zBM x = true) (E : Env) : ∃ u, Rep E u (.sc x) := ⟨x, .sc hx⟩
theorem rep_agg2 {x y : Value} (hx : zBM x = true) (hy : zBM y = true) (E : Env) : ∃ u, Rep E u (.agg [.sc x, .sc y]) :=
 ⟨.agg #[x, y], .agg rfl fun i v p h1 h2 => by
   match i, h1, h2 with
   | 0, h1, h2 => cases h1; cases h2; exact .sc hx
   | 1, h1, h2 => cases h1; cases h2; exact .sc hy
   | i + 2, _, h2 => simp at h2⟩
section
variable {K : PS → Prop} {d : Nat} {op : Op} {ty : TypeId} {pos : String} {aft : Array Edge} {gd : Option (Nat × Bool)} {rest : List Oper} {r : Nat → PV} {h : Heap} {cnt : Nat → Nat} {ops : Array Oper} {i : Nat} {G : Nat → Bool} {dd dr : Bool}
theorem zBr {f : FuncId} {args : List PV} {v : PV} {ts : List Ft} (ks : List Key) (rs : List Nat) (hrd : ∀ k ∈ ks, k.1 ∈ rs) (hg : gobB ops r G gd = true) (hgv : gval ops ⟨⟨r, h, cnt⟩, G⟩ gd = true) (hc : zAX r op = some (f, args)) (hv : zCL r G op = true)
   (hp : ∀ h' : Heap, (∀ k ∈ ks, h' k = h k) → ∀ c', zAy P f args h' c' fun v' h2 c2 => v' = v ∧ h2 = h' ∧ c2 = c')
   (hk : sRun P ops dd K rest (i + 1) ⟨setT r d v, h, cnt⟩ (setB G d true) (ts ++ [⟨i, rs, []⟩])) : sRun P ops dd K (⟨some d, op, ty, pos, aft, gd⟩ :: rest) i ⟨r, h, cnt⟩ G ts := by
 intro tr ht;unfold gOps;refine ⟨zDl hg, ?_⟩;show match zAX r op with | none => _ | some (f, args) => _
 rw [hc];refine .inr (.inr ⟨hgv, zB1 hv, rfl, _, .inr ⟨v, ks, rfl, hp⟩, ?_⟩);have := hk (tr ++ [⟨i, ks, []⟩]) (ht.snoc rfl hrd (by simp));simp only [stepG, stepS, zBg, zCb];rw [hgv];exact this
end
end Go.Pv
namespace Go.Pv
open Go Go.RowKit
section
variable {P : Program} {K : PS → Prop}
end
end Go.Pv
set_option linter.unusedSimpArgs false
namespace Go.Pv
open Go Go.RowKit
section
variable {P : Program} {ρ : Operand → PV} {h : Heap} {key : Key} {x y z : Operand} {t t' : TypeId}
theorem zMt {a b : ByteArray} (hx : ρ x = .str a) (hy : ρ y = .str b) (h1 : a.size + b.size < 4611686018427387904) : eff P ρ h key (.binOp .add t x y t') = ⟨True, .str (a ++ b), [], [], false⟩ := by
 simp only [eff, hx, hy, zBl, zBQ, zG8];have : a.size + b.size < 2 ^ 62 := by omega
 simp [Eff.val, this]
theorem zKC {a b : Int} (hx : ρ x = .int a) (hy : ρ y = .int b) (hb : b ≠ 0) : eff P ρ h key (.binOp .rem t x y t') = ⟨True, .int (a.tmod b), [], [], false⟩ := by
 simp only [eff, hx, hy, zBl, zBQ, zCg]; simp [Eff.val, hb]
theorem zMu {a b : Int} (hx : ρ x = .int a) (hy : ρ y = .int b) (hb : b ≠ 0) (h1 : -9223372036854775808 ≤ a.tdiv b ∧ a.tdiv b ≤ 9223372036854775807) : eff P ρ h key (.binOp .quo t x y t') = ⟨True, .int (a.tdiv b), [], [], false⟩ := by
 simp only [eff, hx, hy, zBl, zBQ, zCg, zFV h1.1 h1.2]; simp [Eff.val, hb]
end
end Go.Pv
namespace Go.Pv
section
variable {h : Heap} {a b c d e x y z w v : Nat} {o o1 o2 o3 o' : Option PObj}
theorem w_ {k : Key} : hset h k o k = o := zBk h k o
theorem h1_ (q : h (a, x) = o') (n1 : Nat.beq a b = false := by exact rfl) : hset h (b, y) o (a, x) = o' := (zAp (zAv n1)).trans q
theorem h2_ (q : h (a, x) = o') (n1 : Nat.beq a b = false := by exact rfl) (n2 : Nat.beq a c = false := by exact rfl) : hset (hset h (c, z) o1) (b, y) o (a, x) = o' := h1_ (h1_ q n2) n1
theorem h3_ (q : h (a, x) = o') (n1 : Nat.beq a b = false := by exact rfl) (n2 : Nat.beq a c = false := by exact rfl) (n3 : Nat.beq a d = false := by exact rfl) : hset (hset (hset h (d, w) o2) (c, z) o1) (b, y) o (a, x) = o' := h1_ (h2_ q n2 n3) n1
theorem h4_ (q : h (a, x) = o') (n1 : Nat.beq a b = false := by exact rfl) (n2 : Nat.beq a c = false := by exact rfl) (n3 : Nat.beq a d = false := by exact rfl) (n4 : Nat.beq a e = false := by exact rfl) : hset (hset (hset (hset h (e, v) o3) (d, w) o2) (c, z) o1) (b, y) o (a, x) = o' := h1_ (h3_ q n2 n3 n4) n1
end
section
variable {P : Program} {f : FuncId} {fn : Func} {c : Code} {rs : List ResultVar} {args : List PV} {r : PV} {h : Heap} {cnt : Nat → Nat} {R : PV → Heap → (Nat → Nat) → Prop}
theorem pco (hf : P.funcs[f]? = some fn) (hb : fn.body = some c) (hrs : fn.results = rs.toArray) (hpr : Pure r) (hp : pwp P c (endQ P rs fun p h _ => Out h p r) ⟨fun i => args.getD i .dead, zLE, noCnt⟩)
    (hB : hasBody P f = true := by kernel_rfl) (hm : P.follows .mixedOrders = true := by kernel_rfl) (hfr : (zBn fn.ntmps c && rs.all (zCd fn.ntmps)) = true := by kernel_rfl) (hl : args.length ≤ fn.ntmps := by exact Nat.le_of_ble_eq_true rfl) : PCalls P f args r := PCalls.of_code hf hb hrs hB hm hfr hl hpr hp
theorem hco (hf : P.funcs[f]? = some fn) (hb : fn.body = some c) (hrs : fn.results = rs.toArray) (hp : pwp P c (endQ P rs R) ⟨fun i => args.getD i .dead, h, cnt⟩)
    (hB : hasBody P f = true := by kernel_rfl) (hm : P.follows .mixedOrders = true := by kernel_rfl) (hfr : (zBn fn.ntmps c && rs.all (zCd fn.ntmps)) = true := by kernel_rfl) (hl : args.length ≤ fn.ntmps := by exact Nat.le_of_ble_eq_true rfl) : zAy P f args h cnt R := zAy.of_code hf hb hrs hB hm hfr hl hp
end
section
variable {P : Program} {K : PS → Prop} {d : Nat} {op : Op} {ty : TypeId} {pos : String} {aft : Array Edge} {gd : Option (Nat × Bool)} {rest : List Oper} {r : Nat → PV} {h : Heap} {cnt : Nat → Nat} {ops : Array Oper} {i : Nat} {G : Nat → Bool} {dr : Bool}
theorem gk_ (hk : gRun P ops dr K rest (i + 1) ⟨setT r d .dead, h, cnt⟩ (setB G d false)) (hg : gobB ops r G gd = true := by rfl) (hgv : gval ops ⟨⟨r, h, cnt⟩, G⟩ gd = false := by rfl) (hc : zAX r op = none := by rfl) :
    gRun P ops dr K (⟨some d, op, ty, pos, aft, gd⟩ :: rest) i ⟨r, h, cnt⟩ G := zCO hg hgv hc hk
end
section
variable {P : Program} {ρ : Operand → PV} {h : Heap} {key : Key} {x : Operand} {t : TypeId}
theorem e_lB {tt : Bool} {sz : Nat} {rows : Rows} {i j n : Nat} {cs : List PV} (hx : ρ x = .lptr tt sz rows i j) (hv : aggAt rows i j n = cs) (hg : tyAgg P t = true := by kernel_rfl) (hs : zAr P t = n := by kernel_rfl) (ht : tyOk P t = true := by kernel_rfl) (hi : i < rows.length := by first | omega | (simp only [List.length_map]; omega)) (hj : j + n ≤ sz := by decide) :
    eff P ρ h key (.load t x) = ⟨True, .agg cs, [], [], false⟩ := e_loadA hx hg hs ht hi hj hv
theorem nb_ {n m : Nat} (h : Nat.ble n m = true := by rfl) : n ≤ m := Nat.le_of_ble_eq_true h
theorem e_b1 (z : Int) {parts : Array (Nat × Operand)} (hp : (parts.toList.map fun p => (p.1, ρ p.2)) = [(0, .int z)] := by rfl) (hz : zAT P (zAu P t) = some [.int 0] := by kernel_rfl) (hso : zAN P t = true := by kernel_rfl) (hs : zAr P (zAu P t) = 1 := by kernel_rfl) :
    eff P ρ h key (.buildSlice t 1 parts) = ⟨True, .ref key 1 0 1, [(key, some (.rows 1 [ci z]))], [], true⟩ := zB4 hz hso rfl hs (by decide) rfl hp ⟨by decide, rfl, rfl, trivial⟩ rfl
end
end Go.Pv
namespace Go.Pv
section
variable {P : Program} {ρ : Operand → PV} {h : Heap} {key : Key} {x y z : Operand} {t t' : TypeId} {v : PV}
theorem hzM {a b x y : Nat} {o o' : Option PObj} (hn : Nat.beq a b = false) (e : h (a, x) = o') : hset h (b, y) o (a, x) = o' := (zAp (zAv hn)).trans e
theorem e_ixR {k : Key} {sz len : Nat} {kd : IntKind} {i : Int} (hx : ρ x = .ref k sz 0 len) (hy : ρ y = .sc (.int kd i)) (ht : zAN P t = true := by kernel_rfl) (hs : zAr P (zAu P t) = sz := by kernel_rfl) (hi : 0 ≤ i ∧ i < len := by omega) : eff P ρ h key (.indexAddr t x y) = ⟨True, .ptr k sz i.toNat 0, [], [], false⟩ := zAS hx hy ht hs hi
theorem e_lL {tt : Bool} {sz : Nat} {rows : Rows} {i j : Nat} (hx : ρ x = .lptr tt sz rows i j) (hv : zCZ rows i j = v) (hg : tyAgg P t = false := by kernel_rfl) (hs : zAr P t = 1 := by kernel_rfl) (ht : tyOk P t = true := by kernel_rfl) (hi : i < rows.length := by first | omega | (simp only [List.length_map]; omega)) (hj : j < sz := by decide) : eff P ρ h key (.load t x) = ⟨True, v, [], [], false⟩ := zBD hx hg hs ht hi hj hv
theorem e_lA {k : Key} {sz i j n : Nat} {rs : Rows} {cs : List PV} (hx : ρ x = .ptr k sz i j) (hk : h k = some (.rows sz rs)) (hg : tyAgg P t = true := by kernel_rfl) (hs : zAr P t = n := by kernel_rfl) (ht : tyOk P t = true := by kernel_rfl) (hi : i < rs.length := by exact Nat.zero_lt_one) (hj : j + n ≤ sz := by decide) (hv : aggAt rs i j n = cs := by exact rfl) : eff P ρ h key (.load t x) = ⟨True, .agg cs, [], [k], false⟩ := zAd hx hk hg hs ht hi hj hv
theorem s_eR {K : PS → Prop} {d : Nat} {op : Op} {ty : TypeId} {pos : String} {aft : Array Edge} {gd : Option (Nat × Bool)} {rest : List Oper} {r : Nat → PV} {cnt : Nat → Nat} {ops : Array Oper} {i : Nat} {G : Nat → Bool} {dd : Bool} {rd : List Key} {ts : List Ft} (rs : List Nat) (hb : wantB ops r h cnt G gd op = true) (he : eff P (ev r) h (d, cnt d) op = ⟨True, v, [], rd, false⟩) (hk : sRun P ops dd K rest (i + 1) ⟨setT r d v, h, cnt⟩ (setB G d true) (ts ++ [⟨i, rs, []⟩])) (hrd : ∀ k ∈ rd, k.1 ∈ rs := by simp) : sRun P ops dd K (⟨some d, op, ty, pos, aft, gd⟩ :: rest) i ⟨r, h, cnt⟩ G ts :=
  zAz rs hrd (zEV hb).2.1 (zEV hb).2.2.1 (zEV hb).1 (zEV hb).2.2.2 he trivial hk
theorem lM {α β : Type _} {l : List α} (f : α → β) : (l.map f).length = l.length := List.length_map f
end
end Go.Pv
