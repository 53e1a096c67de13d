import Derived.Test.YtnbcmoaofmkjhaaGreatDoorProg
import Derived.Test.YtnbcmoaofmkjhaaGreatDoorPvGh
import Derived.Test.YtnbcmoaofmkjhaaGreatDoorPvGc
import Derived.KernelRfl
set_option linter.unusedSimpArgs false
set_option linter.unusedVariables false
namespace Go.Proofs.YtnbcmoaofmkjhaaGreatDoor.E7
open Go Go.Pv Go.Proofs.YtnbcmoaofmkjhaaGreatDoor
set_option maxRecDepth 100000
theorem mixed : Tryz.prog.follows .mixedOrders = true := by kernel_rfl
def cl (l : List Int) : List PV := [.lit true 1 (l.map ci)]
abbrev In64 (z : Int) : Prop := -9223372036854775808 ≤ z ∧ z ≤ 9223372036854775807
structure Node where
 px : Int
 py : Int
 pz : Int
 deriving Inhabited, DecidableEq
def Node.enc (x : Node) : List PV := [.int x.px, .int x.py, .int x.pz]
structure Node.ok (x : Node) : Prop where
 px : In64 x.px
 py : In64 x.py
 pz : In64 x.pz
theorem Node.pure (x : Node) : ∀ p ∈ x.enc, Pure p := fun p hp => by
 simp only [Node.enc, List.mem_cons, List.not_mem_nil, or_false] at hp;rcases hp with rfl | rfl | rfl
 · exact .sc _
 · exact .sc _
 · exact .sc _
theorem Node.of {row : List PV} (h : CellsP Tryz.prog [3, 3, 3] row) : ∃ x : Node, row = x.enc ∧ x.ok := by
 obtain ⟨q0, l0, rfl, h0, h⟩ := h.cons_inv;obtain ⟨q1, l1, rfl, h1, h⟩ := h.cons_inv;obtain ⟨q2, l2, rfl, h2, h⟩ := h.cons_inv;obtain rfl := h.nil_inv;obtain ⟨z0, rfl, w0⟩ := h0.int_inv (k := .i64) Tryz.underlying3;obtain ⟨z1, rfl, w1⟩ := h1.int_inv (k := .i64) Tryz.underlying3;obtain ⟨z2, rfl, w2⟩ := h2.int_inv (k := .i64) Tryz.underlying3;exact ⟨⟨z0, z1, z2⟩, rfl, ⟨wf64 w0, wf64 w1, wf64 w2⟩⟩
theorem Node.ofs {q : PV} (h : CellP Tryz.prog 22 q) : ∃ xs : List Node, q = .lit true 3 (xs.map Node.enc) ∧ xs.length ≤ maxLen ∧ ∀ x ∈ xs, x.ok := by
 obtain ⟨rows, rfl, h1, h2⟩ := h.slice_at (tys := [3, 3, 3]) (n := 3) Tryz.underlying22 (by kernel_rfl) (by kernel_rfl);obtain ⟨xs, rfl, h3⟩ := zJt fun row hr => Node.of (h2 row hr);exact ⟨xs, rfl, by simpa using h1, h3⟩
structure Member where
 kind : Int
 a : Int
 b : Int
 deriving Inhabited, DecidableEq
def Member.enc (x : Member) : List PV := [.int x.kind, .int x.a, .int x.b]
structure Member.ok (x : Member) : Prop where
 kind : In64 x.kind
 a : In64 x.a
 b : In64 x.b
theorem Member.pure (x : Member) : ∀ p ∈ x.enc, Pure p := fun p hp => by
 simp only [Member.enc, List.mem_cons, List.not_mem_nil, or_false] at hp;rcases hp with rfl | rfl | rfl
 · exact .sc _
 · exact .sc _
 · exact .sc _
theorem Member.of {row : List PV} (h : CellsP Tryz.prog [3, 3, 3] row) : ∃ x : Member, row = x.enc ∧ x.ok := by
 obtain ⟨q0, l0, rfl, h0, h⟩ := h.cons_inv;obtain ⟨q1, l1, rfl, h1, h⟩ := h.cons_inv;obtain ⟨q2, l2, rfl, h2, h⟩ := h.cons_inv;obtain rfl := h.nil_inv;obtain ⟨z0, rfl, w0⟩ := h0.int_inv (k := .i64) Tryz.underlying3;obtain ⟨z1, rfl, w1⟩ := h1.int_inv (k := .i64) Tryz.underlying3;obtain ⟨z2, rfl, w2⟩ := h2.int_inv (k := .i64) Tryz.underlying3;exact ⟨⟨z0, z1, z2⟩, rfl, ⟨wf64 w0, wf64 w1, wf64 w2⟩⟩
theorem Member.ofs {q : PV} (h : CellP Tryz.prog 23 q) : ∃ xs : List Member, q = .lit true 3 (xs.map Member.enc) ∧ xs.length ≤ maxLen ∧ ∀ x ∈ xs, x.ok := by
 obtain ⟨rows, rfl, h1, h2⟩ := h.slice_at (tys := [3, 3, 3]) (n := 3) Tryz.underlying23 (by kernel_rfl) (by kernel_rfl);obtain ⟨xs, rfl, h3⟩ := zJt fun row hr => Member.of (h2 row hr);exact ⟨xs, rfl, by simpa using h1, h3⟩
structure Scaffold where
 nodes : List Node
 members : List Member
 deriving Inhabited, DecidableEq
def Scaffold.enc (x : Scaffold) : List PV := [.lit true 3 (x.nodes.map Node.enc), .lit true 3 (x.members.map Member.enc)]
structure Scaffold.ok (x : Scaffold) : Prop where
 nodes : x.nodes.length ≤ maxLen ∧ ∀ z ∈ x.nodes, z.ok
 members : x.members.length ≤ maxLen ∧ ∀ z ∈ x.members, z.ok
theorem Scaffold.pure (x : Scaffold) : ∀ p ∈ x.enc, Pure p := fun p hp => by
 simp only [Scaffold.enc, List.mem_cons, List.not_mem_nil, or_false] at hp;rcases hp with rfl | rfl
 · exact .lit _ _ _ fun row hr => zBo Node.pure row hr
 · exact .lit _ _ _ fun row hr => zBo Member.pure row hr
theorem Scaffold.of {row : List PV} (h : CellsP Tryz.prog [22, 23] row) : ∃ x : Scaffold, row = x.enc ∧ x.ok := by
 obtain ⟨q0, l0, rfl, h0, h⟩ := h.cons_inv;obtain ⟨q1, l1, rfl, h1, h⟩ := h.cons_inv;obtain rfl := h.nil_inv;obtain ⟨z0, rfl, w0⟩ := Node.ofs h0;obtain ⟨z1, rfl, w1⟩ := Member.ofs h1;exact ⟨⟨z0, z1⟩, rfl, ⟨w0, w1⟩⟩
theorem Scaffold.arg {q : PV} (h : ArgP Tryz.prog 25 q) : ∃ x : Scaffold, q = .agg x.enc ∧ x.ok := by
 obtain ⟨cs, rfl, h1⟩ := h.agg (by kernel_rfl) (tys := [22, 23]) (by kernel_rfl);obtain ⟨x, rfl, h2⟩ := Scaffold.of h1;exact ⟨x, rfl, h2⟩
structure Task where
 name : ByteArray
 trade : ByteArray
 member : Int
 place : Int
 minutes : Int
 needs : List Int
 deriving Inhabited, DecidableEq
def Task.enc (x : Task) : List PV := [.str x.name, .str x.trade, .int x.member, .int x.place, .int x.minutes, .lit true 1 (x.needs.map ci)]
structure Task.ok (x : Task) : Prop where
 name : x.name.size ≤ maxLen
 trade : x.trade.size ≤ maxLen
 member : In64 x.member
 place : In64 x.place
 minutes : In64 x.minutes
 needs : x.needs.length ≤ maxLen ∧ ∀ z ∈ x.needs, In64 z
theorem Task.pure (x : Task) : ∀ p ∈ x.enc, Pure p := fun p hp => by
 simp only [Task.enc, List.mem_cons, List.not_mem_nil, or_false] at hp;rcases hp with rfl | rfl | rfl | rfl | rfl | rfl
 · exact .sc _
 · exact .sc _
 · exact .sc _
 · exact .sc _
 · exact .sc _
 · exact .lit _ _ _ fun row hr => zBo zDn row hr
structure Slot where
 task : Int
 gang : Int
 start : Int
 deriving Inhabited, DecidableEq
structure Slot.ok (x : Slot) : Prop where
 task : In64 x.task
 gang : In64 x.gang
 start : In64 x.start
structure Gang where
 name : ByteArray
 trades : List ByteArray
 fro : Int
 til : Int
 deriving Inhabited, DecidableEq
structure Gang.ok (x : Gang) : Prop where
 name : x.name.size ≤ maxLen
 trades : x.trades.length ≤ maxLen ∧ ∀ z ∈ x.trades, z.size ≤ maxLen
 fro : In64 x.fro
 til : In64 x.til
structure Span where
 place : Int
 fro : Int
 til : Int
 deriving Inhabited, DecidableEq
structure Span.ok (x : Span) : Prop where
 place : In64 x.place
 fro : In64 x.fro
 til : In64 x.til
structure Crew where
 gangs : List Gang
 closed : List Span
 deriving Inhabited, DecidableEq
structure Crew.ok (x : Crew) : Prop where
 gangs : x.gangs.length ≤ maxLen ∧ ∀ z ∈ x.gangs, z.ok
 closed : x.closed.length ≤ maxLen ∧ ∀ z ∈ x.closed, z.ok
open Go Go.Pv Go.RowKit
def zH8 (xs : List Int) : List (List PV) := (List.range xs.length).map fun (j : Nat) => [.int ((xs.length : Int) - 1 - j), .int (xs.getD (xs.length - 1 - j) 0)]
theorem bItems_get {xs : List Int} {j : Nat} (hj : j < xs.length) : (zH8 xs)[j]? = some [.int ((xs.length : Int) - 1 - j), .int (xs.getD (xs.length - 1 - j) 0)] := by
 simp [zH8, List.getElem?_range hj]
noncomputable def bLoop : Code := match Tryz.f79.body with | some (.seq _ (.block _ (.loop c))) => c | _ => .skip
def Sl (p : PV) (xs : List Int) (h : Heap) : Prop := (∃ t, p = .lit t 1 (xs.map fun x => [.int x])) ∨ ∃ k2 off rs, p = .ref k2 1 off xs.length ∧ h k2 = some (.rows 1 rs) ∧ off + xs.length ≤ rs.length ∧ ∀ i, i < xs.length → rs[off + i]? = some [.int (xs.getD i 0)]
def Held (k : Key) (p : PV) (xs : List Int) (h : Heap) : Prop := h k = some (.rows 1 [[p]]) ∧ Sl p xs h
def bInv (k : Key) (p : PV) (xs : List Int) (l : Nat) (j : Nat) (s : PS) : Prop :=
 s.r 0 = .func (.yield l) [] [] ∧ s.r 1 = .ptr k 1 0 0 ∧ s.r 3 = .int ((xs.length : Int) - 1 - j) ∧ Held k p xs s.h
def Keeps (J : Nat → Env → Prop) : Prop := ∀ (j : Nat) (E1 E2 : Env), J j E1 → EnvLe E1 E2 → Pv.Good E2 → E2.h = E1.h → E2.cnt = E1.cnt → Below E1.B0 E1.w E2.w → J j E2
theorem Keeps.fr {J : Nat → Env → Prop} (hJ : Keeps J) {j n : Nat} {E1 E2 : Env} {s s' : PS} {a a' : Act} (h : J j E1) (F : Fr E1 n s a) (F' : Fr E2 n s' a') (hle : EnvLe E1 E2) (hb : Below E1.B0 E1.w E2.w) (hh : s'.h = s.h) (hc : s'.cnt = s.cnt) : J j E2 :=
 hJ _ _ _ h hle F'.sim.good ((F'.sim.h.trans hh).trans F.sim.h.symm) ((F'.sim.cnt.trans hc).trans F.sim.cnt.symm) hb
theorem b_done {k : Key} {p : PV} {xs : List Int} {l : Nat} {J : Nat → Env → Prop} (hJ : Keeps J) {Q : Exit → Act → World → Prop} {E : Env} {s : PS} {a : Act} (hj : J xs.length E) (hi : bInv k p xs l xs.length s) (F : Fr E 19 s a)
   (hQ : ∀ a' E' s', J xs.length E' → Fr E' 19 s' a' → Q (.exit 0) a' E'.w) : bLoop.wpIn Fence.wide 0 Tryz.prog Q a E.w := by
 obtain ⟨r, h, cnt⟩ := s;obtain ⟨i1, i2, i3, i4⟩ := hi;simp only [bLoop, Tryz.f79];refine wpIn_seq (wpIn_seq (zFd (K := fun s => s.r 8 = .bool false ∧ s.h = h ∧ s.cnt = cnt) (by kernel_rfl) F ?_ fun a2 w2 h2 => ?_))
 · refine zEl rfl (zAi (v := .sc _) i3) trivial ?_;refine p_e rfl (e_ge rfl rfl) ?_;exact p_end ⟨by simp [setT]; omega, rfl, rfl⟩
 obtain ⟨⟨r2, h2, c2⟩, E2, ⟨hb, hh, hc⟩, F2, hle2, hb2, rfl⟩ := h2;have hcv : a2.eval (.tmp 8) = .bool false := by have := F2.sim.eval (x := .tmp 8) (by decide); rw [show ev r2 (.tmp 8) = .bool false from hb] at this; exact this.sc_inv
 exact wpIn_cond_false hcv (wpIn_exit (hQ a2 E2 _ (hJ.fr hj F F2 hle2 hb2 hh hc) F2))
set_option maxHeartbeats 1000000 in
theorem b_step {k : Key} {p : PV} {xs : List Int} (hx : xs.length ≤ 1000000) {l j : Nat} {J : Nat → Env → Prop} (hJ : Keeps J) {Q : Exit → Act → World → Prop} {E : Env} {s : PS} {a : Act} (hlt : j < xs.length) (hj : J j E) (hi : bInv k p xs l j s) (F : Fr E 19 s a)
   (hround : ∀ (E1 : Env) (us : Array Value), J j E1 → Pv.Good E1 → E1.tt = true → us.size = 2 → (∀ (i : Nat) (u : Value) (p : PV), us[i]? = some u → [PV.int ((xs.length : Int) - 1 - j), .int (xs.getD (xs.length - 1 - j) 0)][i]? = some p → Rep E1 u p) →
     YieldAt Fence.wide 0 Tryz.prog l us E1.w fun e w' => e = .returned (.bool true) ∧ ∃ E2 : Env, E2.w = w' ∧ J (j + 1) E2 ∧ Pv.Good E2 ∧ E2.tt = true ∧ Held k p xs E2.h ∧ ∀ v q, Rep E1 v q → Rep E2 v q)
   (hQ : ∀ a' E' s', J (j + 1) E' → bInv k p xs l (j + 1) s' → Fr E' 19 s' a' → Q .normal a' E'.w) : bLoop.wpIn Fence.wide 0 Tryz.prog Q a E.w := by
 obtain ⟨r, h, cnt⟩ := s;obtain ⟨i1, i2, i3, i4⟩ := hi;simp only [bLoop, Tryz.f79];refine wpIn_seq (wpIn_seq (zFd (K := fun s => s.r 8 = .bool true ∧ bInv k p xs l j s ∧ s.h = h ∧ s.cnt = cnt) (by kernel_rfl) F ?_ fun a2 w2 h2 => ?_))
 · refine zEl rfl (zAi (v := .sc _) i3) trivial ?_;refine p_e rfl (e_ge rfl rfl) ?_;exact p_end ⟨by simp [setT]; omega, ⟨i1, i2, i3, i4⟩, rfl, rfl⟩
 obtain ⟨⟨r2, h2, c2⟩, E2, ⟨hb, ⟨i1', i2', i3', i4'⟩, hh, hc⟩, F2, hle2, hb2, rfl⟩ := h2;have hJ2 := hJ.fr hj F F2 hle2 hb2 hh hc;have hcv : a2.eval (.tmp 8) = .bool true := by have := F2.sim.eval (x := .tmp 8) (by decide); rw [show ev r2 (.tmp 8) = .bool true from hb] at this; exact this.sc_inv
 refine wpIn_cond_true hcv (wpIn_skip ?_);show Code.wpIn _ _ _ (.seq _ _) _ _ _;refine wpIn_seq (wpIn_block (wpIn_seq (wpIn_region_list ?_)));clear hj hle2 hb2 F;have hyl : (xs.map fun x => [PV.int x])[xs.length - 1 - j]? = some [.int (xs.getD (xs.length - 1 - j) 0)] := by simp [List.getElem?_eq_getElem (show xs.length - 1 - j < xs.length by omega)]
 generalize hy : xs.getD (xs.length - 1 - j) 0 = y at hround hyl;have hix : ((xs.length : Int) - 1 - j).toNat = xs.length - 1 - j := by omega
 refine zIC (ro := none) (n := 0) (P := Tryz.prog) (Q := fun e a' w' => e = .normal ∧ FrTo E2 19 (fun s => s.r 11 = .func (.yield l) [] [] ∧ s.r 12 = .int ((xs.length : Int) - 1 - j) ∧ s.r 16 = .int y ∧ bInv k p xs l j s ∧ s.h = h2 ∧ s.cnt = c2) a' w') (fun _ _ h => by cases h.1) (fun _ _ _ h => by cases h.1) [_, _] ?_ [_, _, _, _, _, _] a2 E2.w ?_ (zJO ?_ ?_ F2 ?_)
 · rintro a3 w3 ⟨_, ⟨r3, h3, c3⟩, E3, ⟨k1, k2, k3, ki, kh, kc⟩, F3, hle3, hb3, rfl⟩
   have hJ3 := hJ.fr hJ2 F2 F3 hle3 hb3 kh kc;unfold wpListIn;rw [if_pos (zF2 rfl _)];refine yield_op F3 rfl (by kernel_rfl) k1 fun us hus hur => ?_
   obtain ⟨fn, tmps, x, z, h1, h2⟩ := hround E3 us hJ3 F3.sim.good F3.sim.tt hus (by
     have h4 : ([Operand.tmp 12, Operand.tmp 16].map (ev r3)) = [PV.int ((xs.length : Int) - 1 - j), .int y] := by
       show [r3 12, r3 16] = _;rw [show r3 12 = _ from k2, show r3 16 = _ from k3]
     intro i u p h5 h6;exact hur i u p h5 (by rw [← h4] at h6; exact h6))
   refine ⟨fn, tmps, x, z, h1, h2.mono ?_⟩
   rintro e w' ⟨rfl, E4, rfl, hJ4, g4, tt4, hk4, carry⟩
   refine ⟨rfl, ?_⟩
   have F4 : Fr E4 19 ⟨setT r3 17 (.bool true), E4.h, E4.cnt⟩ (a3.put (some 17) (.bool true)) := by
     have h0 : Sim E4.w.heap.size E4 19 ⟨r3, E4.h, E4.cnt⟩ a3 := ⟨g4, rfl, rfl, tt4, F3.sim.size, fun i v hv => carry _ _ (F3.sim.regs i v hv), by rw [F3.nod]; trivial⟩
     have h1 := h0.put (dst := some 17) (v := .bool true) (p := .bool true) (s' := ⟨putR r3 (some 17) (.bool true), E4.h, E4.cnt⟩) (EnvLe.refl E4) g4 tt4 (.sc rfl) rfl rfl rfl;rw [zBg] at h1;exact Fr.of_sim h1 ((zCT _ _ _).trans F3.nod)
   have hI4 : bInv k p xs l j ⟨setT r3 17 (.bool true), E4.h, E4.cnt⟩ := ⟨ki.1, ki.2.1, ki.2.2.1, hk4⟩
   clear hround h1 h2 hur F3 hle3 hb3 carry hJ3;show wpListIn (openF none) 0 Tryz.prog _ _ ([_] ++ []) _ _;refine zIC (ro := none) (n := 0) (P := Tryz.prog) (Q := fun e a' w' => e = .normal ∧ FrTo E4 19 (fun s => s.r 18 = .bool false ∧ bInv k p xs l j s ∧ s.h = E4.h ∧ s.cnt = E4.cnt) a' w') (fun _ _ h => by cases h.1) (fun _ _ _ h => by cases h.1) [] ?_ [_] _ E4.w ?_ (zJO ?_ ?_ F4 ?_)
   · rintro a5 w5 ⟨_, ⟨r5, h5, c5⟩, E5, ⟨kb, ⟨q1, q2, q3, q4⟩, kh, kc⟩, F5, hle5, hb5, rfl⟩
     have hJ5 := hJ.fr hJ4 F4 F5 hle5 hb5 kh kc;have hcv : a5.eval (.tmp 18) = .bool false := by have := F5.sim.eval (x := .tmp 18) (by decide); rw [show ev r5 (.tmp 18) = .bool false from kb] at this; exact this.sc_inv
     show Code.wpIn _ _ _ (.cond _ .ret .skip) _ _ _;refine wpIn_cond_false hcv (wpIn_skip ?_);simp only [Exit.inBlock, Exit.then];refine zFd (K := fun s => bInv k p xs l (j + 1) s ∧ s.h = h5 ∧ s.cnt = c5) (by kernel_rfl) F5 ?_ ?_
     · refine zEl rfl (zAi (v := .sc _) q3) trivial ?_;refine p_e rfl (e_sub rfl rfl (by omega)) (p_aS rfl ?_);exact p_end ⟨⟨q1, q2, by simp [setT]; omega, q4⟩, rfl, rfl⟩
     rintro a6 w6 ⟨⟨r6, h6, c6⟩, E6, ⟨hi6, kh6, kc6⟩, F6, hle6, hb6, rfl⟩
     exact hQ a6 E6 _ (hJ.fr hJ5 F5 F6 hle6 hb6 kh6 kc6) hi6 F6
   · intro o ho; simp only [List.mem_cons, List.not_mem_nil, or_false] at ho; subst ho; kernel_rfl
   · intro o ho; simp only [List.mem_cons, List.not_mem_nil, or_false] at ho; subst ho; kernel_rfl
   · intro o ho; simp only [List.mem_cons, List.not_mem_nil, or_false] at ho; subst ho; kernel_rfl
   · refine zEl rfl (e_not rfl) trivial ?_;exact p_end ⟨rfl, hI4, rfl, rfl⟩
 · intro o ho; simp only [List.mem_cons, List.not_mem_nil, or_false] at ho; rcases ho with rfl | rfl | rfl | rfl | rfl | rfl <;> kernel_rfl
 · intro o ho; simp only [List.mem_cons, List.not_mem_nil, or_false] at ho; rcases ho with rfl | rfl | rfl | rfl | rfl | rfl <;> kernel_rfl
 · intro o ho; simp only [List.mem_cons, List.not_mem_nil, or_false] at ho; rcases ho with rfl | rfl | rfl | rfl | rfl | rfl <;> kernel_rfl
 · refine zEl rfl (zAi (v := .func _ _ _) i1') trivial ?_;refine p_e rfl (zAi (v := .sc _) i3') (p_e rfl (zDV (v := p) i2' i4'.1 (by kernel_rfl) (by kernel_rfl) (by kernel_rfl) (by simp) (by decide) rfl) (p_e rfl (zAi (v := .sc _) i3') ?_));have i4'' := i4';rcases i4'.2 with ⟨t, rfl⟩ | ⟨k2, off, rs, rfl, hk2, hl2, hg2⟩
   · refine zEl rfl (e_ixa rfl rfl (by kernel_rfl) (by kernel_rfl) (by simp; omega)) trivial ?_;refine p_e rfl (zBD (v := .int y) rfl (by kernel_rfl) (by kernel_rfl) (by kernel_rfl) (by rw [hix]; simp; omega) (by decide) (by rw [hix]; simp [zCZ, hyl])) ?_;exact p_end ⟨rfl, rfl, rfl, ⟨i1', i2', i3', i4''⟩, rfl, rfl⟩
   · refine zEl rfl (zMv rfl rfl (by kernel_rfl) (by kernel_rfl) (by omega)) trivial ?_;refine p_e rfl (zDV (v := .int y) rfl hk2 (by kernel_rfl) (by kernel_rfl) (by kernel_rfl) (by rw [hix]; omega) (by decide) (by rw [hix]; simp [zCZ, hg2 _ (show xs.length - 1 - j < xs.length by omega), ← hy])) ?_;exact p_end ⟨rfl, rfl, rfl, ⟨i1', i2', i3', i4''⟩, rfl, rfl⟩
set_option maxHeartbeats 4000000 in
theorem back_ok (k : Key) (p : PV) (xs : List Int) (hx : xs.length ≤ 1000000) : zG5 Tryz.prog 79 [.ptr k 1 0 0] (zH8 xs) (Held k p xs) := by
 refine ⟨by kernel_rfl, fun E ws l J g tt hH hws hwr hJ0 hstep hround => ?_⟩;refine callsIn_of_wp Tryz.func79 rfl trivial ?_
 obtain ⟨u1, rfl⟩ : ∃ u, ws = #[u] := by
   match ws, hws with
   | ⟨[u]⟩, _ => exact ⟨u, rfl⟩
 have F0 : Fr E 19 ⟨fun i => [PV.func (.yield l) [] [], .ptr k 1 0 0].getD i .dead, E.h, E.cnt⟩ { tmps := #[.func (.yield l) #[] #[], u1, undef, undef, undef, undef, undef, undef, undef, undef, undef, undef, undef, undef, undef, undef, undef, undef, undef], defers := [] } := by
   refine ⟨⟨g, rfl, rfl, tt, rfl, fun i v hv => ?_, trivial⟩, rfl⟩
   match i with
   | 0 => cases hv; exact .func rfl rfl (by simp) (by simp)
   | 1 => cases hv; exact hwr 0 u1 _ rfl rfl
   | i + 2 => exact .dead
 have noK : ∀ {E1 E2 : Env} {j : Nat}, J j E1 → EnvLe E1 E2 → Pv.Good E2 → E2.h = E1.h → E2.cnt = E1.cnt → Below E1.B0 E1.w E2.w → J j E2 := fun h1 h2 h3 h4 h5 h6 => hstep _ _ _ h1 h2 h3 h4 h5 h6;simp only [Tryz.ntmps128, List.size_toArray, List.length_cons, List.length_nil, Nat.reduceAdd, Nat.reduceSub, Array.replicate_succ, Array.replicate_zero, List.push_toArray, List.append_toArray, List.nil_append, List.cons_append];refine wpIn_seq ?_;refine zFd (K := fun s => bInv k p xs l 0 s ∧ s.h = E.h ∧ s.cnt = E.cnt) (by kernel_rfl) F0 ?_ fun a1 w1 h1 => ?_
 · refine zEl rfl (zDV (v := p) rfl hH.1 (by kernel_rfl) (by kernel_rfl) (by kernel_rfl) (by simp) (by decide) rfl) trivial ?_;have hH' := hH;rcases hH.2 with ⟨t, rfl⟩ | ⟨k2, off, rs, rfl, hk2, hl2, hg2⟩
   · refine zEl rfl (e_len rfl (by kernel_rfl)) trivial ?_;refine p_e rfl (e_sub rfl rfl (by simp; omega)) (p_aS rfl ?_);exact p_end ⟨⟨rfl, rfl, by simp [setT], hH'⟩, rfl, rfl⟩
   · refine zEl rfl (zJ8 rfl (by kernel_rfl)) trivial ?_;refine p_e rfl (e_sub rfl rfl (by omega)) (p_aS rfl ?_);exact p_end ⟨⟨rfl, rfl, by simp [setT], hH'⟩, rfl, rfl⟩
 obtain ⟨s1, E1, ⟨hi1, hh1, hc1⟩, F1, hle1, hb1, rfl⟩ := h1;have hJ1 : J 0 E1 := noK hJ0 hle1 F1.sim.good (F1.sim.h.trans hh1) (F1.sim.cnt.trans hc1) hb1;refine wpIn_block (wpIn_loop_rounds (xs.length + 1) ?_)
 have key : ∀ (m j : Nat) (E1 : Env) (s1 : PS) (a1 : Act), j + m = xs.length → J j E1 → bInv k p xs l j s1 → Fr E1 19 s1 a1 →
     Code.roundsIn Fence.wide 0 Tryz.prog bLoop (Exit.inBlock 0 (bodyPost Tryz.prog Tryz.f79 fun e w' => ∃ (v : Value) (E' : Env), e = .returned v ∧ E'.w = w' ∧ J (zH8 xs).length E')) (m + 1) a1 E1.w := by
   intro m;induction m with
   | zero =>
     intro j E1 s1 a1 hj hJ1 hi F;have hj' : j = xs.length := by omega
     subst hj';rw [roundsIn_succ];refine b_done hstep hJ1 hi F fun a2 E2 s2 hJ2 F2 => ?_;simp only [Exit.then, Exit.inBlock, if_true];obtain ⟨v, hv, _⟩ := zF3 (P := Tryz.prog) (fn := Tryz.f79) (rs := []) F2.sim (by kernel_rfl) rfl (fun x hx => by cases hx);refine ⟨F2.nod, v, hv, v, E2, rfl, rfl, ?_⟩;rw [show (zH8 xs).length = xs.length by simp [zH8]]; exact hJ2
   | succ m ih =>
     intro j E1 s1 a1 hj hJ1 hi F;rw [roundsIn_succ];refine b_step hx hstep (by omega) hJ1 hi F (fun E2 us h1 h2 h3 h4 h5 => hround j _ E2 us (bItems_get (by omega)) h1 h2 h3 h4 h5) fun a2 E2 s2 hJ2 hi2 F2 => ?_;exact ih (j + 1) E2 s2 a2 (by omega) hJ2 hi2 F2
 exact key xs.length 0 E1 s1 a1 (by omega) hJ1 hi1 F1
def zI4 : Pv.Rows → Option (List Int)
 | [] => some []
 | [.sc (.int .i64 a)] :: l => match zI4 l with | some xs => some (a :: xs) | none => none
 | _ => none
theorem zGK : ∀ {rows : Pv.Rows} {xs : List Int}, zI4 rows = some xs → rows = xs.map fun x => [.int x]
 | [], xs, h => by cases h; rfl
 | row :: l, xs, h => by
   unfold zI4 at h;split at h
   · rename_i heq; cases heq
   · rename_i a l' heq;split at h
     · rename_i ys hy;cases h;cases heq;rw [zGK hy]; rfl
     · cases h
   · cases h
def zKA : List Int → List Int → Bool
 | [], [] => true
 | a :: l, b :: m => decide (a = b) && zKA l m
 | _, _ => false
theorem zIT : ∀ {l m : List Int}, zKA l m = true → l = m
 | [], [], _ => rfl
 | [], _ :: _, h => by cases h
 | _ :: _, [], h => by cases h
 | a :: l, b :: m, h => by
   simp only [zKA, Bool.and_eq_true, decide_eq_true_eq] at h;rw [h.1, zIT h.2]
inductive Hd where
 | lit (t : Bool)
 | ref (k2 : Key) (off : Nat)
def Hd.pv (xs : List Int) : Hd → PV
 | .lit t => .lit t 1 (xs.map fun x => [.int x])
 | .ref k2 off => .ref k2 1 off xs.length
def Hd.eqB : Hd → Hd → Bool
 | .lit t, .lit t' => t == t'
 | .ref k2 off, .ref k2' off' => keyB k2 k2' && Nat.beq off off'
 | _, _ => false
theorem Hd.eqB_ok : ∀ {a b : Hd}, Hd.eqB a b = true → a = b
 | .lit t, .lit t', h => by simp [Hd.eqB] at h; rw [h]
 | .ref k2 off, .ref k2' off', h => by
   simp only [Hd.eqB, Bool.and_eq_true, zDx, Nat.beq_eq] at h;rw [h.1, h.2]
 | .lit _, .ref _ _, h => by cases h
 | .ref _ _, .lit _, h => by cases h
theorem intsOf_get {rows : Pv.Rows} {xs : List Int} (h : zI4 rows = some xs) {i : Nat} (hi : i < xs.length) : rows[i]? = some [.int (xs.getD i 0)] := by
 rw [zGK h]; simp [List.getElem?_eq_getElem hi]
def heldI (k : Key) (h : HL) : Option (Hd × List Int) := match hGet h k with
 | some (.rows 1 [[.lit t 1 rows]]) => match zI4 rows with | some xs => some (.lit t, xs) | none => none
 | some (.rows 1 [[.ref k2 1 off len]]) => match hGet h k2 with
   | some (.rows 1 rs) => match zI4 ((rs.drop off).take len) with
     | some xs => bif Nat.ble (off + len) rs.length && Nat.beq xs.length len then some (.ref k2 off, xs) else none
     | none => none
   | _ => none
 | _ => none
theorem heldI_ok {k : Key} {h : HL} {a : Hd} {xs : List Int} (hh : heldI k h = some (a, xs)) : Held k (a.pv xs) xs (hGet h) := by
 unfold heldI at hh;split at hh
 · rename_i t' rows hk;split at hh
   · rename_i ys hy;cases hh;rw [zGK hy] at hk;exact ⟨hk, .inl ⟨_, rfl⟩⟩
   · cases hh
 · rename_i k2 off len hk;split at hh
   · rename_i rs hk2;split at hh
     · rename_i ys hy;cases hb : (Nat.ble (off + len) rs.length && Nat.beq ys.length len) with
       | false => rw [hb] at hh; cases hh
       | true =>
         rw [hb] at hh;cases hh;simp only [Bool.and_eq_true, Nat.beq_eq] at hb;obtain ⟨h1, h2⟩ := hb;have h1 := Nat.le_of_ble_eq_true h1;subst h2;refine ⟨hk, .inr ⟨k2, off, rs, rfl, hk2, h1, fun i hi => ?_⟩⟩;have := intsOf_get hy hi;rw [List.getElem?_take_of_lt hi, List.getElem?_drop] at this;exact this
     · cases hh
   · cases hh
 · cases hh
def chkI (k : Key) (a : Hd) (xs : List Int) (h : HL) : Bool := match heldI k h with
 | some (b, ys) => Hd.eqB a b && zKA xs ys
 | none => false
theorem chkI_ok {k : Key} {a : Hd} {xs : List Int} {h : HL} (hh : chkI k a xs h = true) : Held k (a.pv xs) xs (hGet h) := by
 unfold chkI at hh;split at hh
 · rename_i b ys hk;simp only [Bool.and_eq_true] at hh;rw [Hd.eqB_ok hh.1, zIT hh.2];exact heldI_ok hk
 · cases hh
def iterI (fb : FuncId) (f : FuncId) (caps : List PV) (h : HL) : Option (List (List PV) × (HL → Bool)) := bif Nat.beq f fb then match caps with
 | [.ptr k 1 0 0] => match heldI k h with
   | some (a, xs) => bif Nat.ble xs.length 1000000 then some (zH8 xs, chkI k a xs) else none
   | none => none
 | _ => none else none
theorem zG5.weak {P : Program} {g : FuncId} {caps : List PV} {items : List (List PV)} {H1 H2 : Heap → Prop} (h : zG5 P g caps items H1) (hi : ∀ x, H2 x → H1 x) : zG5 P g caps items H2 :=
 ⟨h.1, fun E ws l J k1 k2 k3 k4 k5 k6 k7 k8 => h.2 E ws l J k1 k2 (hi _ k3) k4 k5 k6 k7 fun j row E1 us m1 m2 m3 m4 m5 m6 => by
   obtain ⟨fn, tmps, x, y, q1, q2⟩ := k8 j row E1 us m1 m2 m3 m4 m5 m6;exact ⟨fn, tmps, x, y, q1, q2.mono fun e w' ⟨p1, E2, p2, p3, p4, p5, p6, p7⟩ => ⟨p1, E2, p2, p3, p4, p5, hi _ p6, p7⟩⟩⟩
theorem iterI_ok (f : FuncId) (caps : List PV) (h : HL) (items : List (List PV)) (chk : HL → Bool) (hi : iterI 79 f caps h = some (items, chk)) : zG5 Tryz.prog f caps items (fun H => ∃ hl, H = hGet hl ∧ chk hl = true) := by
 unfold iterI at hi;cases hf : Nat.beq f 79 with
 | false => rw [hf] at hi; cases hi
 | true =>
   rw [hf] at hi;obtain rfl : f = 79 := Nat.eq_of_beq_eq_true hf;simp only [cond_true] at hi;split at hi
   · rename_i k;split at hi
     · rename_i a xs hk;cases hb : Nat.ble xs.length 1000000 with
       | false => rw [hb] at hi; cases hi
       | true =>
         rw [hb] at hi;cases hi;exact zG5.weak (back_ok k (a.pv xs) xs (Nat.le_of_ble_eq_true hb)) fun x ⟨hl, h1, h2⟩ => h1 ▸ chkI_ok h2
     · cases hi
   · cases hi
def gl7 : List FuncId := [5, 9, 18, 19, 20, 21, 30, 31, 43, 45, 48, 49, 50, 51, 52, 53, 54, 55, 66, 67, 68, 76, 77, 78, 79, 91]
theorem frames7 : gl7.all (zFH Tryz.prog) = true := by kernel_rfl
def zLP : Goods := { ok := fun f => gl7.contains f, iter := iterI 79, light := fun f => inRange 49 3 f }
theorem zIK : GoodsOK Tryz.prog zLP := ⟨fun f hf => List.all_eq_true.1 frames7 f (List.contains_iff_mem.1 hf), (fun _ _ _ _ _ _ _ h => by cases h), iterI_ok⟩
def rig : PV := .str ⟨#[114, 105, 103, 103, 101, 114]⟩
def zDu : Pv.Rows := [[.str ⟨#[98, 97, 115, 101]⟩, rig, .int (-1), .int 0, .int 3, .nil],
 [.str ⟨#[112, 111, 115, 116]⟩, rig, .int (-1), .int 0, .int 10, .lit false 1 [[.int 0]]],
 [.str ⟨#[114, 97, 105, 108]⟩, rig, .int (-1), .int 1, .int 5, .lit false 1 [[.int 0]]],
 [.str ⟨#[100, 101, 99, 107]⟩, rig, .int (-1), .int 0, .int 6, .lit false 1 [[.int 1], [.int 2]]]]
theorem run18 : zDm Tryz.prog zLP 300 18 [] = some (.lit false 6 zDu) := by kernel_rfl
theorem run20 : zDm Tryz.prog zLP 300 20 [.lit true 6 zDu] = some (.tup [.int 19, .lit false 1 [[.int 0], [.int 1], [.int 3]], .int 0]) := by kernel_rfl
theorem zLC : PCalls Tryz.prog 18 [] (.lit false 6 zDu) := zCj mixed zIK run18
theorem critical_c : PCalls Tryz.prog 20 [.lit true 6 zDu] (.tup [.int 19, .lit false 1 (([0, 1, 3] : List Int).map ci), .int 0]) := zCj mixed zIK run20
def at0 (l : List Int) (i : Nat) : Int := l.getD i 0
theorem zBt {l : List Int} {i : Nat} (h : i < l.length) : l[i]? = some (at0 l i) := by
 simp [at0, List.getElem?_eq_getElem h]
theorem zB5 {l : List Int} {i : Nat} (h : i < l.length) : l[i] = at0 l i := by
 simp [at0, List.getElem?_eq_getElem h]
theorem zEB {l : List Int} {i j : Nat} {v : Int} (h : i < l.length) : at0 (l.set i v) j = if i = j then v else at0 l j := by
 simp only [at0, List.getD_eq_getElem?_getD, List.getElem?_set];split
 · rename_i e; subst e; simp [h]
 · rfl
theorem zHE {l : List Int} {i : Nat} (h : i < l.length) : at0 l i ∈ l := List.mem_of_getElem? (zBt h)
theorem zLc {l : List Int} {x : Int} (h : x ∈ l) : ∃ i, i < l.length ∧ at0 l i = x := by
 obtain ⟨i, hi, e⟩ := List.getElem_of_mem h;exact ⟨i, hi, by rw [← zB5 hi, e]⟩
def swp (l : List Int) (i j : Nat) : List Int := (l.set i (at0 l j)).set j (at0 l i)
theorem zEX {l : List Int} {i j : Nat} : (swp l i j).length = l.length := by simp [swp]
theorem zG7 {l : List Int} {i j k : Nat} (hi : i < l.length) (hj : j < l.length) : at0 (swp l i j) k = if j = k then at0 l i else if i = k then at0 l j else at0 l k := by
 rw [swp, zEB (by simpa using hj)];split
 · rfl
 · rw [zEB hi]
theorem zHM {l : List Int} {i : Nat} (h : i < l.length) (v : Int) : (at0 l i :: l.set i v).Perm (v :: l) := by
 rw [List.perm_iff_count];intro x;rw [List.count_cons, List.count_cons, List.count_set h, zB5 h]
 have h1 : (if (at0 l i == x) = true then 1 else 0) ≤ l.count x := by
   split
   · rename_i e;have : at0 l i = x := by simpa using e
     rw [← this]; exact List.count_pos_iff.2 (zHE h)
   · omega
 omega
theorem zJj {l : List Int} {i j : Nat} (hi : i < l.length) (hj : j < l.length) : (swp l i j).Perm l := by
 have h1 := zHM (l := l.set i (at0 l j)) (i := j) (by simpa using hj) (at0 l i);have h2 := zHM hi (at0 l j);have e : at0 (l.set i (at0 l j)) j = at0 l j := by rw [zEB hi]; split <;> simp_all
 rw [e] at h1;exact ((h1.trans h2).cons_inv)
def up (j : Nat) : Nat := (j - 1) / 2
def HeapL (l : List Int) : Prop := ∀ j, 0 < j → j < l.length → at0 l (up j) ≤ at0 l j
def UpI (l : List Int) (i : Nat) : Prop := i < l.length ∧ (∀ j, 0 < j → j < l.length → j ≠ i → at0 l (up j) ≤ at0 l j) ∧ (∀ j, 0 < j → j < l.length → up j = i → 0 < i → at0 l (up i) ≤ at0 l j)
def DownI (l : List Int) (i : Nat) : Prop := (∀ j, 0 < j → j < l.length → up j ≠ i → at0 l (up j) ≤ at0 l j) ∧ (0 < i → ∀ j, 0 < j → j < l.length → up j = i → at0 l (up i) ≤ at0 l j)
theorem HeapL.nil : HeapL [] := fun j _ h => absurd h (Nat.not_lt_zero _)
theorem UpI.start {l : List Int} {n : Int} (h : HeapL l) : UpI (l ++ [n]) l.length := by
 have ha : ∀ j, j < l.length → at0 (l ++ [n]) j = at0 l j := fun j hj => by simp [at0, List.getElem?_append_left hj]
 refine ⟨by simp, fun j h1 h2 h3 => ?_, fun j h1 h2 h3 h4 => ?_⟩
 · have h5 : j < l.length := by simp at h2; omega
   rw [ha _ (by unfold up; omega), ha _ h5]; exact h j h1 h5
 · exfalso; simp at h2; unfold up at h3; omega
theorem UpI.stop {l : List Int} {i : Nat} (h : UpI l i) (hs : i = 0 ∨ at0 l (up i) ≤ at0 l i) : HeapL l := fun j h1 h2 => by
 by_cases e : j = i
 · subst e; rcases hs with hs | hs
   · omega
   · exact hs
 · exact h.2.1 j h1 h2 e
theorem UpI.step {l : List Int} {i : Nat} (h : UpI l i) (h0 : 0 < i) (hs : at0 l i < at0 l (up i)) : UpI (swp l (up i) i) (up i) := by
 have hu : up i < i := by unfold up; omega
 have hi := h.1;have hp : up i < l.length := by omega
 refine ⟨by rw [zEX]; exact hp, fun j h1 h2 h3 => ?_, fun j h1 h2 h3 h4 => ?_⟩
 · rw [zEX] at h2;rw [zG7 hp hi, zG7 hp hi];by_cases e : i = j
   · subst e;rw [if_neg (by omega), if_pos rfl, if_pos rfl]; omega
   · rw [if_neg e, if_neg (show ¬ up i = j from fun q => h3 q.symm)];by_cases e2 : i = up j
     · rw [if_pos e2];exact h.2.2 j h1 h2 e2.symm h0
     · rw [if_neg e2];by_cases e3 : up i = up j
       · rw [if_pos e3];have := h.2.1 j h1 h2 (fun q => e q.symm);rw [← e3] at this; omega
       · rw [if_neg e3]; exact h.2.1 j h1 h2 (fun q => e q.symm)
 · rw [zEX] at h2;have hq : up (up i) < up i := by unfold up at *; omega
   rw [zG7 hp hi, zG7 hp hi, if_neg (by omega), if_neg (by omega)];have h5 := h.2.1 (up i) (by omega) hp (by omega);by_cases e : i = j
   · rw [if_pos e]; exact h5
   · rw [if_neg e];by_cases e2 : up i = j
     · exfalso; rw [← e2] at h3; unfold up at h3 h4; omega
     · rw [if_neg e2];have := h.2.1 j h1 h2 (fun q => e q.symm);rw [h3] at this; omega
theorem DownI.stop {l : List Int} {i : Nat} (h : DownI l i) (hs : ∀ j, 0 < j → j < l.length → up j = i → at0 l i ≤ at0 l j) : HeapL l := fun j h1 h2 => by
 by_cases e : up j = i
 · rw [e]; exact hs j h1 h2 e
 · exact h.1 j h1 h2 e
theorem DownI.step {l : List Int} {i k : Nat} (h : DownI l i) (hi : i < l.length) (hk : k < l.length) (hk0 : 0 < k) (hu : up k = i) (hm : ∀ j, 0 < j → j < l.length → up j = i → at0 l k ≤ at0 l j) (hs : at0 l k < at0 l i) : DownI (swp l i k) k := by
 have hik : i < k := by unfold up at hu; omega
 refine ⟨fun j h1 h2 h3 => ?_, fun _ j h1 h2 h3 => ?_⟩
 · rw [zEX] at h2;rw [zG7 hi hk, zG7 hi hk, if_neg (fun q => h3 q.symm)];by_cases e : i = up j
   · rw [if_pos e];by_cases e2 : k = j
     · rw [if_pos e2]; omega
     · rw [if_neg e2];have : i ≠ j := by unfold up at e; omega
       rw [if_neg this]; exact hm j h1 h2 e.symm
   · rw [if_neg e];have e2 : k ≠ j := fun q => e (by rw [← q, hu]);rw [if_neg e2];by_cases e3 : i = j
     · rw [if_pos e3];subst e3;exact h.2 h1 k hk0 hk hu
     · rw [if_neg e3]; exact h.1 j h1 h2 (fun q => e q.symm)
 · rw [zEX] at h2;have hkj : k < j := by unfold up at h3; omega
   rw [zG7 hi hk, zG7 hi hk, if_neg (by omega), if_pos hu.symm, if_neg (by omega), if_neg (by omega)];rw [← h3]; exact h.1 j h1 h2 (by omega)
theorem HeapL.least {l : List Int} (h : HeapL l) : ∀ (j : Nat), j < l.length → at0 l 0 ≤ at0 l j := by
 intro j;induction j using Nat.strongRecOn with
 | ind j ih =>
   intro hj;by_cases e : j = 0
   · subst e; exact Int.le_refl _
   · have h1 := h j (by omega) hj;have h2 := ih (up j) (by unfold up; omega) (by unfold up; omega);omega
def mv0 (l : List Int) : List Int := (l.set 0 (at0 l (l.length - 1))).take (l.length - 1)
theorem mv0_len {l : List Int} : (mv0 l).length = l.length - 1 := by simp [mv0]
theorem zB7 {l : List Int} {n j : Nat} (h : j < n) : at0 (l.take n) j = at0 l j := by
 simp [at0, List.getElem?_take_of_lt h]
theorem mv0_down {l : List Int} (h : HeapL l) : DownI (mv0 l) 0 := by
 refine ⟨fun j h1 h2 h3 => ?_, fun h0 => absurd h0 (Nat.lt_irrefl _)⟩;rw [mv0_len] at h2;have hl : 0 < l.length := by omega
 have hu : up j < j := by unfold up; omega
 rw [mv0, zB7 (by omega), zB7 h2, zEB hl, zEB hl, if_neg (by omega), if_neg (by omega)];exact h j h1 (by omega)
theorem mv0_perm {l : List Int} (h : l ≠ []) : (at0 l 0 :: mv0 l).Perm l := by
 have hl : 0 < l.length := List.length_pos_iff.2 h;have h1 := zHM hl (at0 l (l.length - 1))
 have h2 : ∀ m : List Int, m ≠ [] → (at0 m (m.length - 1) :: m.take (m.length - 1)).Perm m := fun m hm => by
   have h3 : m.take (m.length - 1) ++ [at0 m (m.length - 1)] = m := by
     have h4 : 0 < m.length := List.length_pos_iff.2 hm;rw [← zB5 (by omega), List.take_append_getElem];rw [Nat.sub_add_cancel h4, List.take_length]
   exact (List.perm_append_comm (l₁ := [_])).trans (by rw [h3])
 have h4 := h2 (l.set 0 (at0 l (l.length - 1))) (by intro e; apply h; simpa using e);rw [List.length_set, zEB hl] at h4;have e : (if 0 = l.length - 1 then at0 l (l.length - 1) else at0 l (l.length - 1)) = at0 l (l.length - 1) := by split <;> rfl
 rw [e] at h4;have h5 := (h4.cons (at0 l 0)).trans h1;have h6 := (List.Perm.swap (at0 l 0) (at0 l (l.length - 1)) (mv0 l)).trans h5;exact h6.cons_inv
theorem z1 {p : Prop} [Decidable p] : (decide p = true) = p := decide_eq_true_eq
theorem z2 {p : Prop} [Decidable p] : decide p = false ↔ ¬ p := decide_eq_false_iff_not
theorem z3 (b : Bool) : ((!b) = true) = (b = false) := Bool.not_eq_true' b
theorem z4 (b : Bool) : ((!b) = false) = (b = true) := Bool.not_eq_false' b
theorem z5 {a b : Int} : ¬ a < b ↔ b ≤ a := Int.not_lt
theorem z9 (a b : Bool) : ((a || b) = true) = (a = true ∨ b = true) := Bool.or_eq_true a b
def chOk (i : Nat) (c : Int) : Prop := (97 ≤ c ∧ c ≤ 122) ∨ (65 ≤ c ∧ c ≤ 90) ∨ (i ≠ 0 ∧ (c = 45 ∨ (48 ≤ c ∧ c ≤ 57)))
instance (i : Nat) (c : Int) : Decidable (chOk i c) := inferInstanceAs (Decidable (_ ∨ _))
def isNm (s : ByteArray) : Bool := decide (1 ≤ s.size ∧ s.size ≤ 12 ∧ ∀ i, i < s.size → chOk i (byteAt s i))
theorem zKl (n lo hi : Int) : PCalls Tryz.prog 12 [.int n, .int lo, .int hi] (.bool (decide (lo ≤ n ∧ n ≤ hi))) := by
 refine pco Tryz.func12 rfl rfl (.sc _) (zAa rfl fun K1 hK1 => p_aS rfl (p_end (hK1 _ ?_)));refine zA1 [] [(6, .bool ((decide (lo ≤ n)) && (decide (n ≤ hi))))] (fun K2 hK2 => ?_) (fun r3 => ?_)
 ·skip
  refine zBw rfl fun K4 hK4 => zAM (g_mS rfl rfl (g_mS rfl rfl (g_e rfl (e_ge rfl rfl) (g_mS rfl rfl ?_))));refine zAw (fun hb5 => ?_) (fun hb5 => ?_)
  ·have hb5R := hb5; try simp only [zz] at hb5
   refine g_mS rfl rfl (g_mS rfl rfl (g_e rfl (e_le rfl rfl) (g_pT rfl rfl rfl (g_aS rfl rfl (g_end (ds := [11, 12, 13]) rfl rfl (hK4 _ ?_))))));exact zAb (hK2 _ trivial ⟨(congrArg PV.bool (show ((decide (n ≤ hi)) : Bool) = ((decide (lo ≤ n)) && (decide (n ≤ hi))) by rw [hb5R]; rfl)), trivial⟩)
  have hb5R := hb5; try simp only [zz] at hb5
  iterate 3 refine gk_ ?_
  refine g_pF rfl rfl rfl (g_aS rfl rfl (g_end (ds := [11, 12, 13]) rfl rfl (hK4 _ ?_)));exact zAb (hK2 _ trivial ⟨(congrArg PV.bool (show (false : Bool) = ((decide (lo ≤ n)) && (decide (n ≤ hi))) by rw [hb5R]; rfl)), trivial⟩)
 refine zAh (end1 (v := .sc _) rfl ?_);exact out_b (by first | rfl | (rw [Bool.eq_iff_iff]; simp only [decide_eq_true_eq, Bool.false_eq_true, eq_self_iff_true, true_iff, false_iff, iff_true, iff_false, Bool.and_eq_true] <;> omega))
theorem zHH (n lo hi : Int) : PCalls Tryz.prog 45 [.int n, .int lo, .int hi] (.bool (decide (lo ≤ n ∧ n ≤ hi))) := by
 refine pco Tryz.func45 rfl rfl (.sc _) (zAa rfl fun K1 hK1 => p_aS rfl (p_end (hK1 _ ?_)));refine zA1 [] [(6, .bool ((decide (lo ≤ n)) && (decide (n ≤ hi))))] (fun K2 hK2 => ?_) (fun r3 => ?_)
 ·skip
  refine zBw rfl fun K4 hK4 => zAM (g_mS rfl rfl (g_mS rfl rfl (g_e rfl (e_ge rfl rfl) (g_mS rfl rfl ?_))));refine zAw (fun hb5 => ?_) (fun hb5 => ?_)
  ·have hb5R := hb5; try simp only [zz] at hb5
   refine g_mS rfl rfl (g_mS rfl rfl (g_e rfl (e_le rfl rfl) (g_pT rfl rfl rfl (g_aS rfl rfl (g_end (ds := [11, 12, 13]) rfl rfl (hK4 _ ?_))))));exact zAb (hK2 _ trivial ⟨(congrArg PV.bool (show ((decide (n ≤ hi)) : Bool) = ((decide (lo ≤ n)) && (decide (n ≤ hi))) by rw [hb5R]; rfl)), trivial⟩)
  have hb5R := hb5; try simp only [zz] at hb5
  iterate 3 refine gk_ ?_
  refine g_pF rfl rfl rfl (g_aS rfl rfl (g_end (ds := [11, 12, 13]) rfl rfl (hK4 _ ?_)));exact zAb (hK2 _ trivial ⟨(congrArg PV.bool (show (false : Bool) = ((decide (lo ≤ n)) && (decide (n ≤ hi))) by rw [hb5R]; rfl)), trivial⟩)
 refine zAh (end1 (v := .sc _) rfl ?_);exact out_b (by first | rfl | (rw [Bool.eq_iff_iff]; simp only [decide_eq_true_eq, Bool.false_eq_true, eq_self_iff_true, true_iff, false_iff, iff_true, iff_false, Bool.and_eq_true] <;> omega))
theorem at0_prev {l : List Int} {k : Nat} (h : 0 < k) (h2 : k < l.length) : l[((k : Int) - 1).toNat]? = some (at0 l (k - 1)) := by
 rw [show ((k : Int) - 1).toNat = k - 1 by omega]; exact zBt (by omega)
def ascB (l : List Int) : Bool := decide (∀ i, i < l.length → 0 < i → at0 l (i - 1) < at0 l i)
theorem asc_step {l : List Int} {k : Nat} (h : ∀ i, 0 < i → i < k → at0 l (i - 1) < at0 l i) (h2 : 0 < k → at0 l (k - 1) < at0 l k) : ∀ i, 0 < i → i < k + 1 → at0 l (i - 1) < at0 l i := fun i h3 h4 => by
 by_cases e : i = k
 · subst e; exact h2 h3
 · exact h i h3 (by omega)
theorem asc_no {l : List Int} {k : Nat} (h1 : 0 < k) (h2 : k < l.length) (h3 : at0 l k ≤ at0 l (k - 1)) : false = ascB l := by
 symm; simp only [ascB, decide_eq_false_iff_not];exact fun h => absurd (h k h2 h1) (by omega)
theorem asc_yes {l : List Int} {k : Nat} (h : ∀ i, 0 < i → i < k → at0 l (i - 1) < at0 l i) (h2 : l.length ≤ k) : true = ascB l := by
 symm; simp only [ascB, decide_eq_true_eq];exact fun i h3 h4 => h i h4 (by omega)
theorem rising (l : List Int) (hl : l.length ≤ 1000000) : PCalls Tryz.prog 78 [.lit true 1 (l.map ci)] (.bool (ascB l)) := by
 refine pco Tryz.func78 rfl rfl (.sc _) (zAa rfl fun K1 hK1 => p_aS rfl (p_end (hK1 _ ?_)));refine zAf (zAa rfl fun K2 hK2 => p_e rfl (zAi (v := .lit _ _ _) rfl) (p_e rfl (e_len rfl (by kernel_rfl)) (p_mS rfl (p_end (hK2 _ ?_)))));refine zAg fun K3 hK3 => zAE (α := Nat) [0, 5] (fun (k : Nat) => [(6, .int (k))]) (fun (k : Nat) (h : Heap) (_ : Nat → Nat) => ((k) ≤ l.length) ∧ (∀ i, 0 < i → i < (k) → at0 l (i - 1) < at0 l i)) (fun (k : Nat) => l.length - (k)) (0) (by exact ⟨rfl, trivial⟩) (by exact ⟨by exact Nat.zero_le _, by exact fun i h1 h2 => absurd h2 (by omega)⟩) fun k r4 h5 c6 hj7 => ?_;obtain ⟨hk, hinv⟩ := hj7;try dsimp only at hk
 try dsimp only at hinv
 show pwp _ _ (loopQ _ _ _) ⟨sets (mix _ _ _) [(6, .int k)], _, _⟩;refine zAa rfl fun K8 hK8 => p_e rfl (e_lt rfl rfl) (p_end (hK8 _ ?_));refine zAe rfl fun K9 hK9 => ⟨fun hb10 => ?_, fun hb10 => ?_⟩
 ·try simp only [zz] at hb10
  refine zAl (zAb (hK9 _ ?_));refine zAg fun K11 hK11 => zAa rfl fun K12 hK12 => p_mS rfl (p_aS rfl (p_end (hK12 _ ?_)));refine zA1 [0, 5, 6] [(22, .bool ((decide ((0) < (k : Int))) && (decide (at0 l k ≤ at0 l (k - 1)))))] (fun K13 hK13 => ?_) (fun r14 => ?_)
  ·skip
   refine zBw rfl fun K15 hK15 => zAM (g_mS rfl rfl (g_e rfl (e_gt rfl rfl) (g_mS rfl rfl ?_)));refine zAw (fun hb16 => ?_) (fun hb16 => ?_)
   ·have hb16R := hb16; try simp only [zz] at hb16
    refine g_e rfl (zAi (v := .lit _ _ _) rfl) (g_mS rfl rfl (g_e rfl (e_sub rfl rfl (by omega)) (g_e rfl (e_ixL rfl rfl) (g_e rfl (e_lL (v := .sc _) rfl ((zAV (at0_prev (l := l) (k := k) (by omega) (by omega)) _).trans rfl)) (g_e rfl (zAi (v := .lit _ _ _) rfl) (g_mS rfl rfl (g_e rfl (e_ixL rfl rfl) ?_)))))));refine g_e rfl (e_lL (v := .sc _) rfl ((zAV (zBt (l := l) (i := k) (by omega)) _).trans rfl)) (g_e rfl (e_ge rfl rfl) (g_pT rfl rfl rfl (g_end (ds := [12, 13, 14, 15, 16, 17, 18, 19, 20, 21]) (by kernel_rfl) rfl (hK15 _ ?_))));exact zAb (hK13 _ ⟨rfl, rfl, rfl, trivial⟩ ⟨(congrArg PV.bool (show ((decide (at0 l k ≤ at0 l (k - 1))) : Bool) = ((decide ((0) < (k : Int))) && (decide (at0 l k ≤ at0 l (k - 1)))) by rw [hb16R]; rfl)), trivial⟩)
   have hb16R := hb16; try simp only [zz] at hb16
   iterate 10 refine gk_ ?_
   refine g_pF rfl rfl rfl (g_end (ds := [12, 13, 14, 15, 16, 17, 18, 19, 20, 21]) (by kernel_rfl) rfl (hK15 _ ?_));exact zAb (hK13 _ ⟨rfl, rfl, rfl, trivial⟩ ⟨(congrArg PV.bool (show (false : Bool) = ((decide ((0) < (k : Int))) && (decide (at0 l k ≤ at0 l (k - 1)))) by rw [hb16R]; rfl)), trivial⟩)
  refine zAt rfl (fun hb17 => ?_) (fun hb17 => ?_)
  ·try simp only [zz] at hb17
   refine zAa rfl fun K18 hK18 => p_aS rfl (p_end (hK18 _ ?_));refine zAh (zAc (zAk (zAP (zAc (zAk (end1 (v := .sc _) rfl ?_))))));exact out_b (asc_no (k := k) (by omega) (by omega) (by omega))
  try simp only [zz] at hb17
  refine zAl (zAj (zAb (hK11 _ ?_)));refine zAn rfl fun K19 hK19 => p_e rfl (e_add rfl rfl (by omega)) (p_mS rfl (p_end (hK19 _ ?_)));exact zAo (k + 1) (by show _ < _; omega) ⟨rfl, rfl, trivial⟩ ⟨rfl, trivial⟩ (by exact ⟨by first | (show _ + 1 ≤ _; omega) | (show _ ≤ _ + 1; omega), by exact asc_step hinv (by omega)⟩)
 try simp only [zz] at hb10
 refine zAJ (zAK ?_);clear hK9 K9;refine zAC (zAA (zAb (hK3 _ ?_)));refine zAa rfl fun K20 hK20 => p_aS rfl (p_end (hK20 _ ?_));refine zAh (end1 (v := .sc _) rfl ?_);exact out_b (asc_yes hinv (by omega))
theorem ints_ext {l m : List Int} (h1 : l.length = m.length) (h2 : ∀ i, i < l.length → at0 l i = at0 m i) : l = m := by
 apply List.ext_getElem h1;intro i h3 h4;rw [zB5 h3, zB5 h4]; exact h2 i h3
theorem zGo {p : Nat → Prop} {k : Nat} (h : ∀ i, i < k → p i) (h2 : p k) : ∀ i, i < k + 1 → p i := fun i h3 => by
 rcases Nat.lt_succ_iff_lt_or_eq.1 h3 with h4 | h4
 · exact h i h4
 · exact h4 ▸ h2
theorem zLv {p : Nat → Prop} : ∀ i, i < 0 → p i := fun i h => absurd h (Nat.not_lt_zero _)
theorem ints_no {l m : List Int} {k : Nat} (h : at0 l k ≠ at0 m k) : false = decide (l = m) := by
 symm; simp only [decide_eq_false_iff_not]
 rintro rfl; exact h rfl
theorem ints_len {l m : List Int} (h : l.length ≠ m.length) : false = decide (l = m) := by
 symm; simp only [decide_eq_false_iff_not]
 rintro rfl; exact h rfl
theorem ints_yes {l m : List Int} {k : Nat} (h1 : l.length = m.length) (h : ∀ i, i < k → at0 l i = at0 m i) (h2 : l.length ≤ k) : true = decide (l = m) := by
 symm; simp only [decide_eq_true_eq];exact ints_ext h1 fun i h3 => h i (by omega)
def ixI (K : Int → Bool) (l : List Int) : Int := match l.findIdx? K with | some i => (i : Int) | none => -1
theorem ixI_hit {K : Int → Bool} {l : List Int} {k : Nat} (h1 : k < l.length) (h : ∀ i, i < k → K (at0 l i) = false) (h2 : K (at0 l k) = true) : (k : Int) = ixI K l := by
 have : l.findIdx? K = some k := by
   rw [List.findIdx?_eq_some_iff_getElem];refine ⟨h1, by rw [zB5 h1]; exact h2, fun j hj => by rw [zB5 (by omega), h j hj]; decide⟩
 rw [ixI, this]
theorem ixI_no {K : Int → Bool} {l : List Int} {k : Nat} (h : ∀ i, i < k → K (at0 l i) = false) (h2 : l.length ≤ k) : -1 = ixI K l := by
 have : l.findIdx? K = none := by
   rw [List.findIdx?_eq_none_iff];intro z hz;obtain ⟨i, h3, rfl⟩ := zLc hz;exact h i (by omega)
 rw [ixI, this]
theorem ixI_any {K : Int → Bool} {l : List Int} : decide (0 ≤ ixI K l) = l.any K := by
 rw [Bool.eq_iff_iff, decide_eq_true_eq, ixI, List.any_eq_true];cases h : l.findIdx? K with
 | none =>
   rw [List.findIdx?_eq_none_iff] at h;simp only [Int.reduceNeg];exact ⟨fun h => absurd h (by decide), fun ⟨x, h1, h2⟩ => by rw [h x h1] at h2; cases h2⟩
 | some i =>
   rw [List.findIdx?_eq_some_iff_getElem] at h;obtain ⟨h1, h2, _⟩ := h;exact ⟨fun _ => ⟨_, List.getElem_mem h1, h2⟩, fun _ => Int.natCast_nonneg i⟩
def outB (n : Int) (z : Int) : Bool := !decide (0 ≤ z ∧ z ≤ n - 1)
def listE (l : List Int) (n : Int) : Int := if l.any (outB n) then 6 else if ascB l then 0 else 10
theorem listE_6 {l : List Int} {n : Int} (h : l.any (outB n) = true) : 6 = listE l n := by rw [listE, if_pos h]
theorem listE_10 {l : List Int} {n : Int} (h : l.any (outB n) = false) (h2 : ascB l = false) : 10 = listE l n := by simp [listE, h, h2]
theorem listE_0 {l : List Int} {n : Int} (h : l.any (outB n) = false) (h2 : ascB l = true) : 0 = listE l n := by simp [listE, h, h2]
theorem IntsC (l m : List Int) (hl : l.length ≤ 1000000) : PCalls Tryz.prog 21 [.lit true 1 (l.map ci), .lit true 1 (m.map ci)] (.bool (decide (l = m))) := by
 refine pco Tryz.func21 rfl rfl (.sc _) (zAa rfl fun K1 hK1 => p_aS rfl (p_end (hK1 _ ?_)));refine zAf (zAa rfl fun K2 hK2 => p_e rfl (zAi (v := .lit _ _ _) rfl) (p_e rfl (e_len rfl (by kernel_rfl)) (p_e rfl (zAi (v := .lit _ _ _) rfl) (p_e rfl (e_len rfl (by kernel_rfl)) (p_e rfl (e_ne rfl rfl) (p_end (hK2 _ ?_)))))));refine zAe rfl fun K3 hK3 => ⟨fun hb4 => ?_, fun hb4 => ?_⟩
 ·try simp only [zz] at hb4
  refine zAa rfl fun K5 hK5 => p_aS rfl (p_end (hK5 _ ?_));refine zAh (zAk (end1 (v := .sc _) rfl ?_));exact out_b (ints_len (by omega))
 try simp only [zz] at hb4
 refine zAl (zAb (hK3 _ ?_));refine zAf (zAa rfl fun K6 hK6 => p_aS rfl (p_end (hK6 _ ?_)));refine zAg fun K7 hK7 => zAE (α := Nat) [0, 1] (fun (k : Nat) => [(5, .int (k))]) (fun (k : Nat) (h : Heap) (_ : Nat → Nat) => ((k) ≤ l.length) ∧ (∀ i, i < (k) → at0 l i = at0 m i)) (fun (k : Nat) => l.length - (k)) (0) (by exact ⟨rfl, trivial⟩) (by exact ⟨by exact Nat.zero_le _, by exact zLv⟩) fun k r8 h9 c10 hj11 => ?_;obtain ⟨hk, hinv⟩ := hj11;try dsimp only at hk
 try dsimp only at hinv
 show pwp _ _ (loopQ _ _ _) ⟨sets (mix _ _ _) [(5, .int k)], _, _⟩;refine zAf (zAa rfl fun K12 hK12 => p_mS rfl (p_e rfl (zAi (v := .lit _ _ _) rfl) (p_e rfl (e_len rfl (by kernel_rfl)) (p_e rfl (e_lt rfl rfl) (p_end (hK12 _ ?_))))));refine zAe rfl fun K13 hK13 => ⟨fun hb14 => ?_, fun hb14 => ?_⟩
 ·try simp only [zz] at hb14
  refine zAl (zAb (hK13 _ ?_));refine zAg fun K15 hK15 => zAm rfl fun K16 hK16 => zAM (g_e rfl (zAi (v := .lit _ _ _) rfl) (g_mS rfl rfl (g_e rfl (e_ixL rfl rfl) (g_e rfl (e_lL (v := .sc _) rfl ((zAV (zBt (l := l) (i := k) (by omega)) _).trans rfl)) (g_e rfl (zAi (v := .lit _ _ _) rfl) ?_)))));refine g_mS rfl rfl (g_e rfl (e_ixL rfl rfl) (g_e rfl (e_lL (v := .sc _) rfl ((zAV (zBt (l := m) (i := k) (by omega)) _).trans rfl)) (g_e rfl (e_ne rfl rfl) (g_end (ds := []) (by kernel_rfl) rfl (hK16 _ ?_)))));refine zAt rfl (fun hb17 => ?_) (fun hb17 => ?_)
  ·try simp only [zz] at hb17
   refine zAa rfl fun K18 hK18 => p_aS rfl (p_end (hK18 _ ?_));refine zAh (zAc (zAk (zAP (zAc (zAk (end1 (v := .sc _) rfl ?_))))));exact out_b (ints_no (k := k) (by assumption))
  try simp only [zz] at hb17
  refine zAl (zAj (zAb (hK15 _ ?_)));refine zAn rfl fun K19 hK19 => p_mS rfl (p_e rfl (e_add rfl rfl (by omega)) (p_aS rfl (p_end (hK19 _ ?_))));exact zAo (k + 1) (by show _ < _; omega) ⟨rfl, rfl, trivial⟩ ⟨rfl, trivial⟩ (by exact ⟨by show _ + 1 ≤ _; omega, by exact zGo (p := fun i => at0 l i = at0 m i) hinv (by first | assumption | (exact Decidable.not_not.1 (by assumption)))⟩)
 try simp only [zz] at hb14
 refine zAJ (zAK ?_);clear hK13 K13;refine zAC (zAA (zAb (hK7 _ ?_)));refine zAa rfl fun K20 hK20 => p_aS rfl (p_end (hK20 _ ?_));refine zAh (end1 (v := .sc _) rfl ?_);exact out_b (ints_yes (by omega) hinv (by omega))
theorem IndexFZ (fv : FuncId) (rows : Pv.Rows) (K : Int → Bool) (l : List Int) (hl : l.length ≤ 1000000) (hK : ∀ i, i < l.length → PCalls Tryz.prog fv [.int (at0 l i), .lptr true 1 rows 0 0] (.bool (K (at0 l i)))) : PCalls Tryz.prog 91 [.lit true 1 (l.map ci), .func (.func fv) [] [.lptr true 1 rows 0 0]] (.int (ixI K l)) := by
 refine pco Tryz.func91 rfl rfl (.sc _) (zAa rfl fun K1 hK1 => p_aS rfl (p_end (hK1 _ ?_)));refine zAf (zAa rfl fun K2 hK2 => p_e rfl (zAi (v := .lit _ _ _) rfl) (p_e rfl (e_len rfl (by kernel_rfl)) (p_mS rfl (p_end (hK2 _ ?_)))));refine zAg fun K3 hK3 => zAE (α := Nat) [0, 1, 7] (fun (k : Nat) => [(8, .int (k))]) (fun (k : Nat) (h : Heap) (_ : Nat → Nat) => ((k) ≤ l.length) ∧ (∀ i, i < (k) → K (at0 l i) = false)) (fun (k : Nat) => l.length - (k)) (0) (by exact ⟨rfl, trivial⟩) (by exact ⟨by exact Nat.zero_le _, by exact zLv⟩) fun k r4 h5 c6 hj7 => ?_;obtain ⟨hk, hinv⟩ := hj7;try dsimp only at hk
 try dsimp only at hinv
 show pwp _ _ (loopQ _ _ _) ⟨sets (mix _ _ _) [(8, .int k)], _, _⟩;refine zAa rfl fun K8 hK8 => p_e rfl (e_lt rfl rfl) (p_end (hK8 _ ?_));refine zAe rfl fun K9 hK9 => ⟨fun hb10 => ?_, fun hb10 => ?_⟩
 ·try simp only [zz] at hb10
  refine zAl (zAb (hK9 _ ?_));refine zAg fun K11 hK11 => zAa rfl fun K12 hK12 => p_mS rfl (p_aS rfl (p_end (hK12 _ ?_)));refine zAa rfl fun K13 hK13 => p_e rfl (zAi (v := .func _ _ _) rfl) (p_e rfl (zAi (v := .lit _ _ _) rfl) (p_mS rfl (p_e rfl (e_ixL rfl rfl) (p_e rfl (e_lL (v := .sc _) rfl ((zAV (zBt (l := l) (i := k) (by omega)) _).trans rfl)) (zBs rfl (.cons zAY (.cons inn_lptr .nil)) (hK k (by omega)) (p_end (hK13 _ ?_)))))));refine zAt rfl (fun hb14 => ?_) (fun hb14 => ?_)
  ·try simp only [zz] at hb14
   refine zAa rfl fun K15 hK15 => p_mS rfl (p_aS rfl (p_end (hK15 _ ?_)));refine zAh (zAc (zAk (zAP (zAc (zAk (end1 (v := .sc _) rfl ?_))))));exact out_i (ixI_hit (by omega) hinv (by assumption))
  try simp only [zz] at hb14
  refine zAl (zAj (zAb (hK11 _ ?_)));refine zAn rfl fun K16 hK16 => p_e rfl (e_add rfl rfl (by omega)) (p_mS rfl (p_end (hK16 _ ?_)));exact zAo (k + 1) (by show _ < _; omega) ⟨rfl, rfl, rfl, trivial⟩ ⟨rfl, trivial⟩ (by exact ⟨by show _ + 1 ≤ _; omega, by exact zGo (p := fun i => K (at0 l i) = false) hinv (by simpa using (by assumption))⟩)
 try simp only [zz] at hb10
 refine zAJ (zAK ?_);clear hK9 K9;refine zAC (zAA (zAb (hK3 _ ?_)));refine zAa rfl fun K17 hK17 => p_aS rfl (p_end (hK17 _ ?_));refine zAh (end1 (v := .sc _) rfl ?_);exact out_i (ixI_no hinv (by omega))
theorem ContainsFZ (fv : FuncId) (rows : Pv.Rows) (K : Int → Bool) (l : List Int) (hl : l.length ≤ 1000000) (hK : ∀ i, i < l.length → PCalls Tryz.prog fv [.int (at0 l i), .lptr true 1 rows 0 0] (.bool (K (at0 l i)))) : PCalls Tryz.prog 76 [.lit true 1 (l.map ci), .func (.func fv) [] [.lptr true 1 rows 0 0]] (.bool (l.any K)) := by
 refine pco Tryz.func76 rfl rfl (.sc _) (zAa rfl fun K1 hK1 => p_aS rfl (p_end (hK1 _ ?_)));refine zAa rfl fun K2 hK2 => p_e rfl (zAi (v := .lit _ _ _) rfl) (p_e rfl (zAi (v := .func _ _ _) rfl) (zBs rfl (.cons zBV (.cons (zIG (.lptr id)) .nil)) (IndexFZ fv rows K l hl hK) (p_e rfl (e_ge rfl rfl) (p_aS rfl (p_end (hK2 _ ?_))))));refine zAh (end1 (v := .sc _) rfl ?_);exact out_b ixI_any
theorem listed1 (z n : Int) (hn : 0 ≤ n ∧ n ≤ 1000000) : PCalls Tryz.prog 77 [.int z, .lptr true 1 [[.int n]] 0 0] (.bool (outB n z)) := by
 refine pco Tryz.func77 rfl rfl (.sc _) (zAa rfl fun K1 hK1 => p_aS rfl (p_end (hK1 _ ?_)));refine zAa rfl fun K2 hK2 => p_mS rfl (p_e rfl (zBD (v := .sc _) rfl (by kernel_rfl) (by kernel_rfl) (by kernel_rfl) (by exact Nat.zero_lt_one) (by decide) rfl) (p_e rfl (e_sub rfl rfl (by omega)) (zBs rfl (.cons zAY (.cons zAY (.cons zAY .nil))) (zHH _ _ _) (p_e rfl (e_not rfl) (p_aS rfl (p_end (hK2 _ ?_)))))));refine zAh (end1 (v := .sc _) rfl ?_);exact out_b rfl
theorem listedC (l : List Int) (n : Int) (hl : l.length ≤ 1000000) (hn : 0 ≤ n ∧ n ≤ 1000000) : PCalls Tryz.prog 43 [.lit true 1 (l.map ci), .int n] (.int (listE l n)) := by
 refine pco Tryz.func43 rfl rfl (.sc _) (zAa rfl fun K1 hK1 => p_new rfl (zMx rfl rfl) ⟨rfl, by decide⟩ (p_aS rfl (p_end (hK1 _ ?_))));refine zAf (zAa rfl fun K2 hK2 => p_e rfl (zAi (v := .lit _ _ _) rfl) (p_e rfl (e_mkf rfl) (zBs rfl (.cons zBV (.cons (zIG (zJT w_ (pure_one (.sc _)))) .nil)) (ContainsFZ 77 [[.int n]] (outB n) l hl (fun i hi => listed1 _ _ hn)) (p_end (hK2 _ ?_)))));refine zAe rfl fun K3 hK3 => ⟨fun hb4 => ?_, fun hb4 => ?_⟩
 ·try simp only [zz] at hb4
  refine zAa rfl fun K5 hK5 => p_aS rfl (p_end (hK5 _ ?_));refine zAh (zAk (end1 (v := .sc _) rfl ?_));exact out_i (listE_6 (by assumption))
 try simp only [zz] at hb4
 refine zAl (zAb (hK3 _ ?_));refine zAf (zAa rfl fun K6 hK6 => p_e rfl (zAi (v := .lit _ _ _) rfl) (zBs rfl (.cons zBV .nil) (rising _ (by omega)) (p_e rfl (e_not rfl) (p_end (hK6 _ ?_)))));refine zAe rfl fun K7 hK7 => ⟨fun hb8 => ?_, fun hb8 => ?_⟩
 ·try simp only [zz] at hb8
  refine zAa rfl fun K9 hK9 => p_aS rfl (p_end (hK9 _ ?_));refine zAh (zAk (end1 (v := .sc _) rfl ?_));exact out_i (listE_10 (by assumption) (by assumption))
 try simp only [zz] at hb8
 refine zAl (zAb (hK7 _ ?_));refine zAa rfl fun K10 hK10 => p_aS rfl (p_end (hK10 _ ?_));refine zAh (end1 (v := .sc _) rfl ?_);exact out_i (listE_0 (by assumption) (by assumption))
end Go.Proofs.YtnbcmoaofmkjhaaGreatDoor.E7
