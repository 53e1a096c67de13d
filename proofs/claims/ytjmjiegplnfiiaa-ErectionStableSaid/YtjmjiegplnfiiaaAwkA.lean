import Derived.Test.YtjmjiegplnfiiaaPvGc
import Derived.Test.YtjmjiegplnfiiaaPvGh
import Derived.Test.YtjmjiegplnfiiaaData
import Derived.KernelRfl
import Derived.Test.YtjmjiegplnfiiaaFewA
/- slices.Backward over integers, as an iterator. No conditions. -/
set_option linter.unusedSimpArgs false
set_option linter.unusedVariables false
set_option maxRecDepth 100000
namespace Go.Proofs.Ytjmjiegplnfiiaa
open Go Go.Pv Go.RowKit


/-- The rounds of a backward range over integers, from the last on. -/
def bItems (xs : List Int) : List (List PV) := (List.range xs.length).map fun (j : Nat) => [.int ((xs.length : Int) - 1 - j), .int (xs.getD (xs.length - 1 - j) 0)]

theorem bItems_get {xs : List Int} {j : Nat} (hj : j < xs.length) : (bItems xs)[j]? = some [.int ((xs.length : Int) - 1 - j), .int (xs.getD (xs.length - 1 - j) 0)] := by
 simp [bItems, List.getElem?_range hj]

noncomputable def bLoop : Code := match Try.f128.body with | some (.seq _ (.block _ (.loop c))) => c | _ => .skip

/-- A slice of integers. -/
def Sl (p : PV) (xs : List Int) (h : Heap) : Prop := (∃ t, p = .lit t 1 (xs.map fun x => [.int x])) ∨ ∃ k2 off rs, p = .ref k2 1 off xs.length ∧ h k2 = some (.rows 1 rs) ∧ off + xs.length ≤ rs.length ∧ ∀ i, i < xs.length → rs[off + i]? = some [.int (xs.getD i 0)]
/-- A box that holds it. -/
def Held (k : Key) (p : PV) (xs : List Int) (h : Heap) : Prop := h k = some (.rows 1 [[p]]) ∧ Sl p xs h

/-- The registers of the function between two rounds. -/
def bInv (k : Key) (p : PV) (xs : List Int) (l : Nat) (j : Nat) (s : PS) : Prop :=
 s.r 0 = .func (.yield l) [] [] ∧ s.r 1 = .ptr k 1 0 0 ∧ s.r 3 = .int ((xs.length : Int) - 1 - j) ∧ Held k p xs s.h

/-- The iterator's steps leave the caller's invariant alone. -/
def Keeps (J : Nat → Env → Prop) : Prop := ∀ (j : Nat) (E1 E2 : Env), J j E1 → EnvLe E1 E2 → Pv.Good E2 → E2.h = E1.h → E2.cnt = E1.cnt → Below E1.B0 E1.w E2.w → J j E2

theorem Keeps.fr {J : Nat → Env → Prop} (hJ : Keeps J) {j n : Nat} {E1 E2 : Env} {s s' : PS} {a a' : Act} (h : J j E1) (F : Fr E1 n s a) (F' : Fr E2 n s' a') (hle : EnvLe E1 E2) (hb : Below E1.B0 E1.w E2.w) (hh : s'.h = s.h) (hc : s'.cnt = s.cnt) : J j E2 :=
 hJ _ _ _ h hle F'.sim.good ((F'.sim.h.trans hh).trans F.sim.h.symm) ((F'.sim.cnt.trans hc).trans F.sim.cnt.symm) hb

theorem b_done {k : Key} {p : PV} {xs : List Int} {l : Nat} {J : Nat → Env → Prop} (hJ : Keeps J) {Q : Exit → Act → World → Prop} {E : Env} {s : PS} {a : Act} (hj : J xs.length E) (hi : bInv k p xs l xs.length s) (F : Fr E 19 s a)
   (hQ : ∀ a' E' s', J xs.length E' → Fr E' 19 s' a' → Q (.exit 0) a' E'.w) : bLoop.wpIn Fence.wide 0 Try.prog Q a E.w := by
 obtain ⟨r, h, cnt⟩ := s
 obtain ⟨i1, i2, i3, i4⟩ := hi
 simp only [bLoop, Try.f128]
 refine wpIn_seq (wpIn_seq (region_fr (K := fun s => s.r 8 = .bool false ∧ s.h = h ∧ s.cnt = cnt) (by kernel_rfl) F ?_ fun a2 w2 h2 => ?_))
 · refine p_step rfl (e_move (v := .sc _) i3) trivial ?_
   refine p_e rfl (e_ge rfl rfl) ?_
   exact p_end ⟨by simp [setT]; omega, rfl, rfl⟩
 obtain ⟨⟨r2, h2, c2⟩, E2, ⟨hb, hh, hc⟩, F2, hle2, hb2, rfl⟩ := h2
 have hcv : a2.eval (.tmp 8) = .bool false := by have := F2.sim.eval (x := .tmp 8) (by decide); rw [show ev r2 (.tmp 8) = .bool false from hb] at this; exact this.sc_inv
 exact wpIn_cond_false hcv (wpIn_exit (hQ a2 E2 _ (hJ.fr hj F F2 hle2 hb2 hh hc) F2))

set_option maxHeartbeats 1000000 in
theorem b_step {k : Key} {p : PV} {xs : List Int} (hx : xs.length ≤ 1000000) {l j : Nat} {J : Nat → Env → Prop} (hJ : Keeps J) {Q : Exit → Act → World → Prop} {E : Env} {s : PS} {a : Act} (hlt : j < xs.length) (hj : J j E) (hi : bInv k p xs l j s) (F : Fr E 19 s a)
   (hround : ∀ (E1 : Env) (us : Array Value), J j E1 → Pv.Good E1 → E1.tt = true → us.size = 2 → (∀ (i : Nat) (u : Value) (p : PV), us[i]? = some u → [PV.int ((xs.length : Int) - 1 - j), .int (xs.getD (xs.length - 1 - j) 0)][i]? = some p → Rep E1 u p) →
     YieldAt Fence.wide 0 Try.prog l us E1.w fun e w' => e = .returned (.bool true) ∧ ∃ E2 : Env, E2.w = w' ∧ J (j + 1) E2 ∧ Pv.Good E2 ∧ E2.tt = true ∧ Held k p xs E2.h ∧ ∀ v q, Rep E1 v q → Rep E2 v q)
   (hQ : ∀ a' E' s', J (j + 1) E' → bInv k p xs l (j + 1) s' → Fr E' 19 s' a' → Q .normal a' E'.w) : bLoop.wpIn Fence.wide 0 Try.prog Q a E.w := by
 obtain ⟨r, h, cnt⟩ := s
 obtain ⟨i1, i2, i3, i4⟩ := hi
 simp only [bLoop, Try.f128]
 refine wpIn_seq (wpIn_seq (region_fr (K := fun s => s.r 8 = .bool true ∧ bInv k p xs l j s ∧ s.h = h ∧ s.cnt = cnt) (by kernel_rfl) F ?_ fun a2 w2 h2 => ?_))
 · refine p_step rfl (e_move (v := .sc _) i3) trivial ?_
   refine p_e rfl (e_ge rfl rfl) ?_
   exact p_end ⟨by simp [setT]; omega, ⟨i1, i2, i3, i4⟩, rfl, rfl⟩
 obtain ⟨⟨r2, h2, c2⟩, E2, ⟨hb, ⟨i1', i2', i3', i4'⟩, hh, hc⟩, F2, hle2, hb2, rfl⟩ := h2
 have hJ2 := hJ.fr hj F F2 hle2 hb2 hh hc
 have hcv : a2.eval (.tmp 8) = .bool true := by have := F2.sim.eval (x := .tmp 8) (by decide); rw [show ev r2 (.tmp 8) = .bool true from hb] at this; exact this.sc_inv
 refine wpIn_cond_true hcv (wpIn_skip ?_)
 show Code.wpIn _ _ _ (.seq _ _) _ _ _
 refine wpIn_seq (wpIn_block (wpIn_seq (wpIn_region_list ?_)))
 clear hj hle2 hb2 F
 have hyl : (xs.map fun x => [PV.int x])[xs.length - 1 - j]? = some [.int (xs.getD (xs.length - 1 - j) 0)] := by simp [List.getElem?_eq_getElem (show xs.length - 1 - j < xs.length by omega)]
 generalize hy : xs.getD (xs.length - 1 - j) 0 = y at hround hyl
 have hix : ((xs.length : Int) - 1 - j).toNat = xs.length - 1 - j := by omega
 refine list_in (ro := none) (n := 0) (P := Try.prog) (Q := fun e a' w' => e = .normal ∧ FrTo E2 19 (fun s => s.r 11 = .func (.yield l) [] [] ∧ s.r 12 = .int ((xs.length : Int) - 1 - j) ∧ s.r 16 = .int y ∧ bInv k p xs l j s ∧ s.h = h2 ∧ s.cnt = c2) a' w') (fun _ _ h => by cases h.1) (fun _ _ _ h => by cases h.1) [_, _] ?_ [_, _, _, _, _, _] a2 E2.w ?_ (list_fr ?_ ?_ F2 ?_)
 · rintro a3 w3 ⟨_, ⟨r3, h3, c3⟩, E3, ⟨k1, k2, k3, ki, kh, kc⟩, F3, hle3, hb3, rfl⟩
   have hJ3 := hJ.fr hJ2 F2 F3 hle3 hb3 kh kc
   unfold wpListIn
   rw [if_pos (wanted_none rfl _)]
   refine yield_op F3 rfl (by kernel_rfl) k1 fun us hus hur => ?_
   obtain ⟨fn, tmps, x, z, h1, h2⟩ := hround E3 us hJ3 F3.sim.good F3.sim.tt hus (by
     have h4 : ([Operand.tmp 12, Operand.tmp 16].map (ev r3)) = [PV.int ((xs.length : Int) - 1 - j), .int y] := by
       show [r3 12, r3 16] = _
       rw [show r3 12 = _ from k2, show r3 16 = _ from k3]
     intro i u p h5 h6
     exact hur i u p h5 (by rw [← h4] at h6; exact h6))
   refine ⟨fn, tmps, x, z, h1, h2.mono ?_⟩
   rintro e w' ⟨rfl, E4, rfl, hJ4, g4, tt4, hk4, carry⟩
   refine ⟨rfl, ?_⟩
   have F4 : Fr E4 19 ⟨setT r3 17 (.bool true), E4.h, E4.cnt⟩ (a3.put (some 17) (.bool true)) := by
     have h0 : Sim E4.w.heap.size E4 19 ⟨r3, E4.h, E4.cnt⟩ a3 := ⟨g4, rfl, rfl, tt4, F3.sim.size, fun i v hv => carry _ _ (F3.sim.regs i v hv), by rw [F3.nod]; trivial⟩
     have h1 := h0.put (dst := some 17) (v := .bool true) (p := .bool true) (s' := ⟨putR r3 (some 17) (.bool true), E4.h, E4.cnt⟩) (EnvLe.refl E4) g4 tt4 (.sc rfl) rfl rfl rfl
     rw [putR_setT] at h1
     exact Fr.of_sim h1 ((put_defers _ _ _).trans F3.nod)
   have hI4 : bInv k p xs l j ⟨setT r3 17 (.bool true), E4.h, E4.cnt⟩ := ⟨ki.1, ki.2.1, ki.2.2.1, hk4⟩
   clear hround h1 h2 hur F3 hle3 hb3 carry hJ3
   show wpListIn (openF none) 0 Try.prog _ _ ([_] ++ []) _ _
   refine list_in (ro := none) (n := 0) (P := Try.prog) (Q := fun e a' w' => e = .normal ∧ FrTo E4 19 (fun s => s.r 18 = .bool false ∧ bInv k p xs l j s ∧ s.h = E4.h ∧ s.cnt = E4.cnt) a' w') (fun _ _ h => by cases h.1) (fun _ _ _ h => by cases h.1) [] ?_ [_] _ E4.w ?_ (list_fr ?_ ?_ F4 ?_)
   · rintro a5 w5 ⟨_, ⟨r5, h5, c5⟩, E5, ⟨kb, ⟨q1, q2, q3, q4⟩, kh, kc⟩, F5, hle5, hb5, rfl⟩
     have hJ5 := hJ.fr hJ4 F4 F5 hle5 hb5 kh kc
     have hcv : a5.eval (.tmp 18) = .bool false := by have := F5.sim.eval (x := .tmp 18) (by decide); rw [show ev r5 (.tmp 18) = .bool false from kb] at this; exact this.sc_inv
     show Code.wpIn _ _ _ (.cond _ .ret .skip) _ _ _
     refine wpIn_cond_false hcv (wpIn_skip ?_)
     simp only [Exit.inBlock, Exit.then]
     refine region_fr (K := fun s => bInv k p xs l (j + 1) s ∧ s.h = h5 ∧ s.cnt = c5) (by kernel_rfl) F5 ?_ ?_
     · refine p_step rfl (e_move (v := .sc _) q3) trivial ?_
       refine p_e rfl (e_sub rfl rfl (by omega)) (p_aS rfl ?_)
       exact p_end ⟨⟨q1, q2, by simp [setT]; omega, q4⟩, rfl, rfl⟩
     rintro a6 w6 ⟨⟨r6, h6, c6⟩, E6, ⟨hi6, kh6, kc6⟩, F6, hle6, hb6, rfl⟩
     exact hQ a6 E6 _ (hJ.fr hJ5 F5 F6 hle6 hb6 kh6 kc6) hi6 F6
   · intro o ho; simp only [List.mem_cons, List.not_mem_nil, or_false] at ho; subst ho; kernel_rfl
   · intro o ho; simp only [List.mem_cons, List.not_mem_nil, or_false] at ho; subst ho; kernel_rfl
   · intro o ho; simp only [List.mem_cons, List.not_mem_nil, or_false] at ho; subst ho; kernel_rfl
   · refine p_step rfl (e_not rfl) trivial ?_
     exact p_end ⟨rfl, hI4, rfl, rfl⟩
 · intro o ho; simp only [List.mem_cons, List.not_mem_nil, or_false] at ho; rcases ho with rfl | rfl | rfl | rfl | rfl | rfl <;> kernel_rfl
 · intro o ho; simp only [List.mem_cons, List.not_mem_nil, or_false] at ho; rcases ho with rfl | rfl | rfl | rfl | rfl | rfl <;> kernel_rfl
 · intro o ho; simp only [List.mem_cons, List.not_mem_nil, or_false] at ho; rcases ho with rfl | rfl | rfl | rfl | rfl | rfl <;> kernel_rfl
 · refine p_step rfl (e_move (v := .func _ _ _) i1') trivial ?_
   refine p_e rfl (e_move (v := .sc _) i3') (p_e rfl (e_loadH (v := p) i2' i4'.1 (by kernel_rfl) (by kernel_rfl) (by kernel_rfl) (by simp) (by decide) rfl) (p_e rfl (e_move (v := .sc _) i3') ?_))
   have i4'' := i4'
   rcases i4'.2 with ⟨t, rfl⟩ | ⟨k2, off, rs, rfl, hk2, hl2, hg2⟩
   · refine p_step rfl (e_ixa rfl rfl (by kernel_rfl) (by kernel_rfl) (by simp; omega)) trivial ?_
     refine p_e rfl (e_load (v := .int y) rfl (by kernel_rfl) (by kernel_rfl) (by kernel_rfl) (by rw [hix]; simp; omega) (by decide) (by rw [hix]; simp [cellAt, hyl])) ?_
     exact p_end ⟨rfl, rfl, rfl, ⟨i1', i2', i3', i4''⟩, rfl, rfl⟩
   · refine p_step rfl (e_ixaR rfl rfl (by kernel_rfl) (by kernel_rfl) (by omega)) trivial ?_
     refine p_e rfl (e_loadH (v := .int y) rfl hk2 (by kernel_rfl) (by kernel_rfl) (by kernel_rfl) (by rw [hix]; omega) (by decide) (by rw [hix]; simp [cellAt, hg2 _ (show xs.length - 1 - j < xs.length by omega), ← hy])) ?_
     exact p_end ⟨rfl, rfl, rfl, ⟨i1', i2', i3', i4''⟩, rfl, rfl⟩

set_option maxHeartbeats 4000000 in
theorem back_ok (k : Key) (p : PV) (xs : List Int) (hx : xs.length ≤ 1000000) : IterOK Try.prog 128 [.ptr k 1 0 0] (bItems xs) (Held k p xs) := by
 refine ⟨by kernel_rfl, fun E ws l J g tt hH hws hwr hJ0 hstep hround => ?_⟩
 refine callsIn_of_wp Try.func128 rfl trivial ?_
 obtain ⟨u1, rfl⟩ : ∃ u, ws = #[u] := by
   match ws, hws with
   | ⟨[u]⟩, _ => exact ⟨u, rfl⟩
 have F0 : Fr E 19 ⟨fun i => [PV.func (.yield l) [] [], .ptr k 1 0 0].getD i .dead, E.h, E.cnt⟩ { tmps := #[.func (.yield l) #[] #[], u1, undef, undef, undef, undef, undef, undef, undef, undef, undef, undef, undef, undef, undef, undef, undef, undef, undef], defers := [] } := by
   refine ⟨⟨g, rfl, rfl, tt, rfl, fun i v hv => ?_, trivial⟩, rfl⟩
   match i with
   | 0 => cases hv; exact .func rfl rfl (by simp) (by simp)
   | 1 => cases hv; exact hwr 0 u1 _ rfl rfl
   | i + 2 => exact .dead
 have noK : ∀ {E1 E2 : Env} {j : Nat}, J j E1 → EnvLe E1 E2 → Pv.Good E2 → E2.h = E1.h → E2.cnt = E1.cnt → Below E1.B0 E1.w E2.w → J j E2 := fun h1 h2 h3 h4 h5 h6 => hstep _ _ _ h1 h2 h3 h4 h5 h6
 simp only [Try.ntmps128, List.size_toArray, List.length_cons, List.length_nil, Nat.reduceAdd, Nat.reduceSub, Array.replicate_succ, Array.replicate_zero, List.push_toArray, List.append_toArray, List.nil_append, List.cons_append]
 refine wpIn_seq ?_
 refine region_fr (K := fun s => bInv k p xs l 0 s ∧ s.h = E.h ∧ s.cnt = E.cnt) (by kernel_rfl) F0 ?_ fun a1 w1 h1 => ?_
 · refine p_step rfl (e_loadH (v := p) rfl hH.1 (by kernel_rfl) (by kernel_rfl) (by kernel_rfl) (by simp) (by decide) rfl) trivial ?_
   have hH' := hH
   rcases hH.2 with ⟨t, rfl⟩ | ⟨k2, off, rs, rfl, hk2, hl2, hg2⟩
   · refine p_step rfl (e_len rfl (by kernel_rfl)) trivial ?_
     refine p_e rfl (e_sub rfl rfl (by simp; omega)) (p_aS rfl ?_)
     exact p_end ⟨⟨rfl, rfl, by simp [setT], hH'⟩, rfl, rfl⟩
   · refine p_step rfl (e_lenR rfl (by kernel_rfl)) trivial ?_
     refine p_e rfl (e_sub rfl rfl (by omega)) (p_aS rfl ?_)
     exact p_end ⟨⟨rfl, rfl, by simp [setT], hH'⟩, rfl, rfl⟩
 obtain ⟨s1, E1, ⟨hi1, hh1, hc1⟩, F1, hle1, hb1, rfl⟩ := h1
 have hJ1 : J 0 E1 := noK hJ0 hle1 F1.sim.good (F1.sim.h.trans hh1) (F1.sim.cnt.trans hc1) hb1
 refine wpIn_block (wpIn_loop_rounds (xs.length + 1) ?_)
 have key : ∀ (m j : Nat) (E1 : Env) (s1 : PS) (a1 : Act), j + m = xs.length → J j E1 → bInv k p xs l j s1 → Fr E1 19 s1 a1 →
     Code.roundsIn Fence.wide 0 Try.prog bLoop (Exit.inBlock 0 (bodyPost Try.prog Try.f128 fun e w' => ∃ (v : Value) (E' : Env), e = .returned v ∧ E'.w = w' ∧ J (bItems xs).length E')) (m + 1) a1 E1.w := by
   intro m
   induction m with
   | zero =>
     intro j E1 s1 a1 hj hJ1 hi F
     have hj' : j = xs.length := by omega
     subst hj'
     rw [roundsIn_succ]
     refine b_done hstep hJ1 hi F fun a2 E2 s2 hJ2 F2 => ?_
     simp only [Exit.then, Exit.inBlock, if_true]
     obtain ⟨v, hv, _⟩ := run_results (P := Try.prog) (fn := Try.f128) (rs := []) F2.sim (by kernel_rfl) rfl (fun x hx => by cases hx)
     refine ⟨F2.nod, v, hv, v, E2, rfl, rfl, ?_⟩
     rw [show (bItems xs).length = xs.length by simp [bItems]]; exact hJ2
   | succ m ih =>
     intro j E1 s1 a1 hj hJ1 hi F
     rw [roundsIn_succ]
     refine b_step hx hstep (by omega) hJ1 hi F (fun E2 us h1 h2 h3 h4 h5 => hround j _ E2 us (bItems_get (by omega)) h1 h2 h3 h4 h5) fun a2 E2 s2 hJ2 hi2 F2 => ?_
     exact ih (j + 1) E2 s2 a2 (by omega) hJ2 hi2 F2
 exact key xs.length 0 E1 s1 a1 (by omega) hJ1 hi1 F1

end Go.Proofs.Ytjmjiegplnfiiaa

/- The examples with which each law of the chapter begins come out true: run by the machine of the P level. No conditions. -/
namespace Go.Proofs.Ytjmjiegplnfiiaa
open Go Go.Pv
set_option maxRecDepth 100000

/-- A row of integers, read. -/
def intsOf : Pv.Rows → Option (List Int)
 | [] => some []
 | [.sc (.int .i64 a)] :: l => match intsOf l with | some xs => some (a :: xs) | none => none
 | _ => none

theorem intsOf_ok : ∀ {rows : Pv.Rows} {xs : List Int}, intsOf rows = some xs → rows = xs.map fun x => [.int x]
 | [], xs, h => by cases h; rfl
 | row :: l, xs, h => by
   unfold intsOf at h
   split at h
   · rename_i heq; cases heq
   · rename_i a l' heq
     split at h
     · rename_i ys hy
       cases h
       cases heq
       rw [intsOf_ok hy]; rfl
     · cases h
   · cases h

def eqInts : List Int → List Int → Bool
 | [], [] => true
 | a :: l, b :: m => decide (a = b) && eqInts l m
 | _, _ => false
theorem eqInts_ok : ∀ {l m : List Int}, eqInts l m = true → l = m
 | [], [], _ => rfl
 | [], _ :: _, h => by cases h
 | _ :: _, [], h => by cases h
 | a :: l, b :: m, h => by
   simp only [eqInts, Bool.and_eq_true, decide_eq_true_eq] at h
   rw [h.1, eqInts_ok h.2]

/-- Where the integers of a slice lie. -/
inductive Hd where
 | lit (t : Bool)
 | ref (k2 : Key) (off : Nat)
def Hd.pv (xs : List Int) : Hd → PV
 | .lit t => .lit t 1 (xs.map fun x => [.int x])
 | .ref k2 off => .ref k2 1 off xs.length
def Hd.eqB : Hd → Hd → Bool
 | .lit t, .lit t' => t == t'
 | .ref k2 off, .ref k2' off' => keyB k2 k2' && Nat.beq off off'
 | _, _ => false
theorem Hd.eqB_ok : ∀ {a b : Hd}, Hd.eqB a b = true → a = b
 | .lit t, .lit t', h => by simp [Hd.eqB] at h; rw [h]
 | .ref k2 off, .ref k2' off', h => by
   simp only [Hd.eqB, Bool.and_eq_true, keyB_iff, Nat.beq_eq] at h
   rw [h.1, h.2]
 | .lit _, .ref _ _, h => by cases h
 | .ref _ _, .lit _, h => by cases h

theorem intsOf_get {rows : Pv.Rows} {xs : List Int} (h : intsOf rows = some xs) {i : Nat} (hi : i < xs.length) : rows[i]? = some [.int (xs.getD i 0)] := by
 rw [intsOf_ok h]; simp [List.getElem?_eq_getElem hi]

/-- The slice that a backward range has taken along. -/
def heldI (k : Key) (h : HL) : Option (Hd × List Int) := match hGet h k with
 | some (.rows 1 [[.lit t 1 rows]]) => match intsOf rows with | some xs => some (.lit t, xs) | none => none
 | some (.rows 1 [[.ref k2 1 off len]]) => match hGet h k2 with
   | some (.rows 1 rs) => match intsOf ((rs.drop off).take len) with
     | some xs => bif Nat.ble (off + len) rs.length && Nat.beq xs.length len then some (.ref k2 off, xs) else none
     | none => none
   | _ => none
 | _ => none

theorem heldI_ok {k : Key} {h : HL} {a : Hd} {xs : List Int} (hh : heldI k h = some (a, xs)) : Held k (a.pv xs) xs (hGet h) := by
 unfold heldI at hh
 split at hh
 · rename_i t' rows hk
   split at hh
   · rename_i ys hy
     cases hh
     rw [intsOf_ok hy] at hk
     exact ⟨hk, .inl ⟨_, rfl⟩⟩
   · cases hh
 · rename_i k2 off len hk
   split at hh
   · rename_i rs hk2
     split at hh
     · rename_i ys hy
       cases hb : (Nat.ble (off + len) rs.length && Nat.beq ys.length len) with
       | false => rw [hb] at hh; cases hh
       | true =>
         rw [hb] at hh
         cases hh
         simp only [Bool.and_eq_true, Nat.beq_eq] at hb
         obtain ⟨h1, h2⟩ := hb
         have h1 := Nat.le_of_ble_eq_true h1
         subst h2
         refine ⟨hk, .inr ⟨k2, off, rs, rfl, hk2, h1, fun i hi => ?_⟩⟩
         have := intsOf_get hy hi
         rw [List.getElem?_take_of_lt hi, List.getElem?_drop] at this
         exact this
     · cases hh
   · cases hh
 · cases hh

def chkI (k : Key) (a : Hd) (xs : List Int) (h : HL) : Bool := match heldI k h with
 | some (b, ys) => Hd.eqB a b && eqInts xs ys
 | none => false
theorem chkI_ok {k : Key} {a : Hd} {xs : List Int} {h : HL} (hh : chkI k a xs h = true) : Held k (a.pv xs) xs (hGet h) := by
 unfold chkI at hh
 split at hh
 · rename_i b ys hk
   simp only [Bool.and_eq_true] at hh
   rw [Hd.eqB_ok hh.1, eqInts_ok hh.2]
   exact heldI_ok hk
 · cases hh

def iterI (fb : FuncId) (f : FuncId) (caps : List PV) (h : HL) : Option (List (List PV) × (HL → Bool)) := bif Nat.beq f fb then match caps with
 | [.ptr k 1 0 0] => match heldI k h with
   | some (a, xs) => bif Nat.ble xs.length 1000000 then some (bItems xs, chkI k a xs) else none
   | none => none
 | _ => none else none

theorem IterOK.weak {P : Program} {g : FuncId} {caps : List PV} {items : List (List PV)} {H1 H2 : Heap → Prop} (h : IterOK P g caps items H1) (hi : ∀ x, H2 x → H1 x) : IterOK P g caps items H2 :=
 ⟨h.1, fun E ws l J k1 k2 k3 k4 k5 k6 k7 k8 => h.2 E ws l J k1 k2 (hi _ k3) k4 k5 k6 k7 fun j row E1 us m1 m2 m3 m4 m5 m6 => by
   obtain ⟨fn, tmps, x, y, q1, q2⟩ := k8 j row E1 us m1 m2 m3 m4 m5 m6
   exact ⟨fn, tmps, x, y, q1, q2.mono fun e w' ⟨p1, E2, p2, p3, p4, p5, p6, p7⟩ => ⟨p1, E2, p2, p3, p4, p5, hi _ p6, p7⟩⟩⟩

theorem iterI_ok (f : FuncId) (caps : List PV) (h : HL) (items : List (List PV)) (chk : HL → Bool) (hi : iterI 128 f caps h = some (items, chk)) : IterOK Try.prog f caps items (fun H => ∃ hl, H = hGet hl ∧ chk hl = true) := by
 unfold iterI at hi
 cases hf : Nat.beq f 128 with
 | false => rw [hf] at hi; cases hi
 | true =>
   rw [hf] at hi
   obtain rfl : f = 128 := Nat.eq_of_beq_eq_true hf
   simp only [cond_true] at hi
   split at hi
   · rename_i k
     split at hi
     · rename_i a xs hk
       cases hb : Nat.ble xs.length 1000000 with
       | false => rw [hb] at hi; cases hi
       | true =>
         rw [hb] at hi
         cases hi
         exact IterOK.weak (back_ok k (a.pv xs) xs (Nat.le_of_ble_eq_true hb)) fun x ⟨hl, h1, h2⟩ => h1 ▸ chkI_ok h2
     · cases hi
   · cases hi

theorem frames_all : framesIn Try.prog 3 129 = true := by kernel_rfl
def goods : Goods := { ok := inRange 3 129, iter := iterI 128, light := fun f => inRange 63 3 f }
theorem goods_ok : GoodsOK Try.prog goods := ⟨framesIn_ok frames_all, (fun _ _ _ _ _ _ _ h => by cases h), iterI_ok⟩
def rig : PV := .str ⟨#[114, 105, 103, 103, 101, 114]⟩
/-- The plan of the examples, as it is handed back. -/
def planRows : Pv.Rows := [[.str ⟨#[98, 97, 115, 101]⟩, rig, .int (-1), .int 0, .int 3, .nil],
 [.str ⟨#[112, 111, 115, 116]⟩, rig, .int (-1), .int 0, .int 10, .lit false 1 [[.int 0]]],
 [.str ⟨#[114, 97, 105, 108]⟩, rig, .int (-1), .int 1, .int 5, .lit false 1 [[.int 0]]],
 [.str ⟨#[100, 101, 99, 107]⟩, rig, .int (-1), .int 0, .int 6, .lit false 1 [[.int 1], [.int 2]]]]
theorem run61 : closedI Try.prog goods 300 61 [] = some (.lit false 6 planRows) := by kernel_rfl
theorem run60 : closedI Try.prog goods 300 60 [.lit true 6 planRows] = some (.tup [.int 19, .lit false 1 [[.int 0], [.int 1], [.int 3]], .int 0]) := by kernel_rfl
theorem plan_c : PCalls Try.prog 61 [] (.lit false 6 planRows) := closed_calls mixed goods_ok run61
theorem critical_c : PCalls Try.prog 60 [.lit true 6 planRows] (.tup [.int 19, .lit false 1 (([0, 1, 3] : List Int).map ci), .int 0]) := closed_calls mixed goods_ok run60
end Go.Proofs.Ytjmjiegplnfiiaa

/- What is read of pure values may be read of such as may lie in memory that changes later. No conditions. -/
set_option linter.unusedSimpArgs false
set_option linter.unusedVariables false
namespace Go.Proofs.Ytjmjiegplnfiiaa
open Go Go.Pv

inductive Raise : PV → PV → Prop where
 | same (p : PV) : Raise p p
 | nil (sz : Nat) : Raise .nil (.lit true sz [])
 | lit {t : Bool} {sz : Nat} {rows rows' : Pv.Rows} (hl : rows.length = rows'.length) (hw : ∀ (i : Nat) (row row' : List PV), rows[i]? = some row → rows'[i]? = some row' → row.length = row'.length)
     (h : ∀ (i j : Nat) (row row' : List PV) (p p' : PV), rows[i]? = some row → rows'[i]? = some row' → row[j]? = some p → row'[j]? = some p' → Raise p p') : Raise (.lit t sz rows) (.lit true sz rows')

theorem Raise.cell {p p' : PV} (h : Raise p p') (hc : p.cell = true) : p'.cell = true := by
 cases h <;> first | exact hc | rfl
theorem at_both {α β : Type} {l : List α} {m : List β} {i : Nat} {b : β} (h : l.length = m.length) (hb : m[i]? = some b) : ∃ a, l[i]? = some a := by
 have := (List.getElem?_eq_some_iff.1 hb).1
 exact ⟨l[i]'(by omega), List.getElem?_eq_getElem _⟩
theorem Raise.pure {p p' : PV} (h : Raise p p') : Pure p → Pure p' := by
 induction h with
 | same p => exact id
 | nil sz => intro _; exact .lit _ _ _ (by simp)
 | lit hl hw _ ih =>
   intro hp
   cases hp with
   | lit _ _ _ h1 =>
     refine .lit _ _ _ fun row' hr p' hp' => ?_
     obtain ⟨i, hi⟩ := List.getElem?_of_mem hr
     obtain ⟨j, hj⟩ := List.getElem?_of_mem hp'
     obtain ⟨row, h2⟩ := at_both hl hi
     obtain ⟨p, h3⟩ := at_both (hw i row row' h2 hi) hj
     exact ih i j row row' p p' h2 hi h3 hj (h1 row (List.mem_of_getElem? h2) p (List.mem_of_getElem? h3))
theorem rep_raise {E : Env} (htt : E.tt = true) {p p' : PV} (h : Raise p p') : ∀ {v : Value}, Rep E v p → Rep E v p' := by
 induction h with
 | same p => exact id
 | nil sz => intro v hv; cases hv; exact .litE
 | lit hl hw hs ih =>
   rename_i t sz rows rows'
   intro v hv
   cases hv with
   | litE =>
     have : rows' = [] := List.eq_nil_of_length_eq_zero hl.symm
     subst this; exact .litE
   | @lit b off c _ _ _ f hm hc hr =>
     rw [hl]
     refine .lit (f := f) ⟨hm.own, fun h => (by cases h), fun _ => htt, hm.lt, fun row' hr' => ?_, fun i j row' p' h1 h2 => ?_, fun row' hr' p' hp' => ?_, fun row' hr' p' hp' => ?_⟩ (by omega) fun i j row' p' h1 h2 => ?_
     · obtain ⟨i, hi⟩ := List.getElem?_of_mem hr'
       obtain ⟨row, h2⟩ := at_both hl hi
       rw [← hw i row row' h2 hi]; exact hm.width row (List.mem_of_getElem? h2)
     · obtain ⟨row, h3⟩ := at_both hl h1
       obtain ⟨p, h4⟩ := at_both (hw i row row' h3 h1) h2
       exact hm.cell i j row p h3 h4
     · obtain ⟨i, h1⟩ := List.getElem?_of_mem hr'
       obtain ⟨j, h2⟩ := List.getElem?_of_mem hp'
       obtain ⟨row, h3⟩ := at_both hl h1
       obtain ⟨p, h4⟩ := at_both (hw i row row' h3 h1) h2
       exact (hs i j row row' p p' h3 h1 h4 h2).pure (hm.pure row (List.mem_of_getElem? h3) p (List.mem_of_getElem? h4))
     · obtain ⟨i, h1⟩ := List.getElem?_of_mem hr'
       obtain ⟨j, h2⟩ := List.getElem?_of_mem hp'
       obtain ⟨row, h3⟩ := at_both hl h1
       obtain ⟨p, h4⟩ := at_both (hw i row row' h3 h1) h2
       exact (hs i j row row' p p' h3 h1 h4 h2).cell (hm.one row (List.mem_of_getElem? h3) p (List.mem_of_getElem? h4))
     · obtain ⟨row, h3⟩ := at_both hl h1
       obtain ⟨p, h4⟩ := at_both (hw i row row' h3 h1) h2
       exact ih i j row row' p p' h3 h1 h4 h2 (hr i j row p h3 h4)
inductive Raises : List PV → List PV → Prop where
 | nil : Raises [] []
 | cons {p p' : PV} {l l' : List PV} (h : Raise p p') (hs : Raises l l') : Raises (p :: l) (p' :: l')
theorem Raises.len : ∀ {l l' : List PV}, Raises l l' → l.length = l'.length
 | _, _, .nil => rfl
 | _, _, .cons _ hs => by simp [hs.len]
theorem Raises.get : ∀ {l l' : List PV}, Raises l l' → ∀ (i : Nat) (p p' : PV), l[i]? = some p → l'[i]? = some p' → Raise p p'
 | _, _, .nil, i, p, p', h1, _ => by cases h1
 | _, _, .cons h hs, 0, p, p', h1, h2 => by cases h1; cases h2; exact h
 | _, _, .cons h hs, i + 1, p, p', h1, h2 => hs.get i p p' h1 h2
/-- Rows whose parts are raised one by one. -/
theorem Raise.row {t : Bool} {sz : Nat} {rows rows' : Pv.Rows} (hl : rows.length = rows'.length) (h : ∀ (i : Nat) (row row' : List PV), rows[i]? = some row → rows'[i]? = some row' → Raises row row') : Raise (.lit t sz rows) (.lit true sz rows') :=
 .lit hl (fun i row row' h1 h2 => (h i row row' h1 h2).len) fun i j row row' p p' h1 h2 h3 h4 => (h i row row' h1 h2).get j p p' h3 h4
theorem PCalls.raise {P : Program} {f : FuncId} {args args' : List PV} {r : PV} (hc : PCalls P f args' r) (h : Raises args args') : PCalls P f args r :=
 ⟨hc.1, hc.2.1, fun w M vs h1 h2 h3 h4 => hc.2.2 w M vs h1 h2 (h3.trans h.len) fun i u p hu hp => by
   obtain ⟨q, hq⟩ := at_both h.len hp
   exact rep_raise rfl (h.get i q p hq hp) (h4 i u q hu hq)⟩
end Go.Proofs.Ytjmjiegplnfiiaa

/- The examples with which each law of the chapter begins come out true. No conditions. -/
set_option linter.unusedSimpArgs false
set_option linter.unusedVariables false
set_option maxRecDepth 100000
namespace Go.Proofs.Ytjmjiegplnfiiaa
open Go Go.Pv

/-- What Order hands back. -/
def ordX (xs : List Task) : List Int × Int := if planE xs ≠ 0 then ([], planE xs) else (ordR (ndX xs), 0)
theorem ordX_e {h : Heap} {xs : List Task} (hp : planE xs ≠ 0) : Out h (.tup [.nil, .int (planE xs)]) (.tup [.lit false 1 ((ordX xs).1.map ci), .int (ordX xs).2]) := by
 rw [ordX, if_pos hp]; exact out_2 (.nil 1) (out_i rfl)
theorem srt_ok {xs : List Task} (hp : planE xs = 0) : srtR (ndX xs) = ordX xs := by
 rw [srt_2 (planE_len hp), ordX, if_neg (fun q => q hp)]
theorem ints_clean {l : List Int} : ∀ row ∈ l.map ci, ∀ p ∈ row, Go.Pv.Clean p := fun row hr p hp => by
 obtain ⟨a, _, rfl⟩ := List.mem_map.1 hr
 simp [ci] at hp; subst hp; exact .sc _
theorem e_eqT {P : Program} {ρ : Operand → PV} {h : Heap} {key : Key} {x y : Operand} {t t' : TypeId} {k : IntKind} {a : Int} (hx : ρ x = .sc (.int k a)) (hy : ρ y = .sc (.int k a)) : eff P ρ h key (.binOp .eql t x y t') = ⟨True, .bool true, [], [], false⟩ := by
 rw [e_eq hx hy, decide_eq_true rfl]

theorem fr23 : (inFrame Try.f23.ntmps (Try.f23.body.getD .skip) && Try.f23.results.toList.all (resScope Try.f23.ntmps)) = true := by kernel_rfl
theorem OrderC (xs : List Task) (hl : xs.length ≤ 10000) (hq : Fair xs) : PCalls Try.prog 23 [.lit true 6 (xs.map Task.enc)] (.tup [.lit false 1 ((ordX xs).1.map ci), .int (ordX xs).2]) := by
 refine PCalls.of_code Try.func23 rfl rfl (by kernel_rfl) mixed fr23 (by show _ ≤ 14; simp) (pure_2 (.lit _ _ _ fun row hr => pure_map ci_pure row hr) (.sc _)) (pwp_seq_plain rfl fun K1 hK1 => p_e rfl (e_assign (v := .nil) rfl) (p_aS rfl (p_end (hK1 _ ?_)))); clear hK1 K1
 refine pwp_seq_seq (pwp_seq_plain rfl fun K2 hK2 => p_e rfl (e_move (v := .lit _ _ _) rfl) (p_call rfl (.cons inn_lit .nil) (CheckC _ hl hq) (p_aS rfl (p_end (hK2 _ ?_))))); clear hK2 K2
 refine pwp_seq_seq (pwp_seq_plain rfl fun K3 hK3 => p_mS rfl (p_e rfl (e_ne rfl rfl) (p_end (hK3 _ ?_)))); clear hK3 K3
 refine pwp_seq_cond rfl fun K4 hK4 => ⟨fun hb5 => ?_, fun hb5 => ?_⟩
 ·have hb5R := hb5; try simp only [zz] at hb5
  refine pwp_seq_plain rfl fun K6 hK6 => p_mS rfl (p_e rfl (e_assign (v := .nil) rfl) (p_aS rfl (p_end (hK6 _ ?_)))); clear hK6 K6
  refine pwp_ret (ret_seq (end2 (v := .nil) (w := .sc _) rfl rfl ?_))
  exact ordX_e (by assumption)
 have hb5R := hb5; try simp only [zz] at hb5
 refine pwp_skip (seq_norm (hK4 _ ?_)); clear hK4 K4
 refine pwp_seq_plain rfl fun K7 hK7 => p_e rfl (e_move (v := .lit _ _ _) rfl) (p_call rfl (.cons inn_lit .nil) (sortedC _ (by omega) (fun x hx => (hq x hx).1) (tasks_nd (planE_ok (by assumption)))) (p_e rfl (e_ext (v := .lit _ _ _) rfl (by simp) rfl) (p_e rfl (e_ext (v := .sc _) rfl (by simp) rfl) (p_e rfl (e_assign (v := .lit _ _ _) rfl) (p_aS rfl (p_end (hK7 _ ?_))))))); clear hK7 K7
 refine pwp_ret (end2 (v := .lit _ _ _) (w := .sc _) rfl rfl ?_)
 exact (by rw [← srt_ok (by assumption)]; exact out_2 (.clean (.lit _ _ ints_clean)) (out_i rfl))


def rigB : ByteArray := ⟨#[114, 105, 103, 103, 101, 114]⟩
def planX : List Task := [⟨⟨#[98, 97, 115, 101]⟩, rigB, -1, 0, 3, []⟩, ⟨⟨#[112, 111, 115, 116]⟩, rigB, -1, 0, 10, [0]⟩, ⟨⟨#[114, 97, 105, 108]⟩, rigB, -1, 1, 5, [0]⟩, ⟨⟨#[100, 101, 99, 107]⟩, rigB, -1, 0, 6, [1, 2]⟩]
theorem plan_raise : Raises [.lit true 6 planRows] [.lit true 6 (planX.map Task.enc)] := by
 have hn : ∀ l : List Int, Raise (.lit false 1 (l.map ci)) (.lit true 1 (l.map ci)) := fun l => .row rfl fun i row row' h1 h2 => by
   rw [h1] at h2; cases h2
   have : ∀ r : List PV, Raises r r := fun r => by
     induction r with
     | nil => exact .nil
     | cons p r ih => exact .cons (.same p) ih
   exact this row
 refine .cons (.row rfl fun i row row' h1 h2 => ?_) .nil
 match i with
 | 0 => cases h1; cases h2; exact .cons (.same _) (.cons (.same _) (.cons (.same _) (.cons (.same _) (.cons (.same _) (.cons (.nil 1) .nil)))))
 | 1 => cases h1; cases h2; exact .cons (.same _) (.cons (.same _) (.cons (.same _) (.cons (.same _) (.cons (.same _) (.cons (hn [0]) .nil)))))
 | 2 => cases h1; cases h2; exact .cons (.same _) (.cons (.same _) (.cons (.same _) (.cons (.same _) (.cons (.same _) (.cons (hn [0]) .nil)))))
 | 3 => cases h1; cases h2; exact .cons (.same _) (.cons (.same _) (.cons (.same _) (.cons (.same _) (.cons (.same _) (.cons (hn [1, 2]) .nil)))))
 | i + 4 => simp [planRows] at h1
theorem plan_fair : Fair planX := by
 intro x hx
 simp only [planX, List.mem_cons, List.not_mem_nil, or_false] at hx
 rcases hx with rfl | rfl | rfl | rfl <;> decide
theorem plan_ord : ordX planX = ([0, 1, 2, 3], 0) := by decide +kernel
theorem plan_few : fewR planX = ([0, 1, 2, 3], 2, 0) := by decide +kernel
theorem order_c : PCalls Try.prog 23 [.lit true 6 planRows] (.tup [.lit false 1 (([0, 1, 2, 3] : List Int).map ci), .int 0]) := by
 have h := PCalls.raise (OrderC planX (by decide) plan_fair) plan_raise
 rw [plan_ord] at h; exact h
theorem fewest_c : PCalls Try.prog 16 [.lit true 6 planRows] (.tup [.lit false 1 (([0, 1, 2, 3] : List Int).map ci), .int 2, .int 0]) := by
 have h := PCalls.raise (FewestC planX (by decide) plan_fair (.inl (by decide))) plan_raise
 rw [plan_few] at h; exact h
theorem ints_c (l : List Int) (h : l.length ≤ 1000000) : PCalls Try.prog 20 [.lit true 1 (l.map ci), .lit true 1 (l.map ci)] (.bool true) := by
 have h := IntsC l l h
 rw [decide_eq_true rfl] at h; exact h

theorem fr14 : (inFrame Try.f14.ntmps (Try.f14.body.getD .skip) && Try.f14.results.toList.all (resScope Try.f14.ntmps)) = true := by kernel_rfl
theorem awake  : PCalls Try.prog 14 [] (.bool true) := by
 refine PCalls.of_code Try.func14 rfl rfl (by kernel_rfl) mixed fr14 (by show _ ≤ 59; simp) (.sc _) (pwp_seq_plain rfl fun K1 hK1 => p_aS rfl (p_end (hK1 _ ?_))); clear hK1 K1
 refine pwp_seq_plain rfl fun K2 hK2 => p_call rfl .nil (plan_c) (p_call rfl (.cons inn_lit .nil) (order_c) (p_e rfl (e_move (v := .tup _) rfl) (p_e rfl (e_ext (v := .lit _ _ _) rfl (by simp) rfl) (p_e rfl (e_ext (v := .sc _) rfl (by simp) rfl) (p_e rfl (e_assign (v := .lit _ _ _) rfl) (p_aS rfl ?_))))))
 refine p_end (hK2 _ ?_); clear hK2 K2
 refine pwp_seq_plain rfl fun K3 hK3 => p_call rfl .nil (plan_c) (p_call rfl (.cons inn_lit .nil) (fewest_c) (p_e rfl (e_move (v := .tup _) rfl) (p_e rfl (e_ext (v := .lit _ _ _) rfl (by simp) rfl) (p_e rfl (e_ext (v := .sc _) rfl (by simp) rfl) (p_e rfl (e_ext (v := .sc _) rfl (by simp) rfl) (p_e rfl (e_assign (v := .lit _ _ _) rfl) ?_))))))
 refine p_aS rfl (p_aS rfl (p_end (hK3 _ ?_))); clear hK3 K3
 refine pwp_seq_plain rfl fun K4 hK4 => p_call rfl .nil (plan_c) (p_call rfl (.cons inn_lit .nil) (critical_c) (p_e rfl (e_move (v := .tup _) rfl) (p_e rfl (e_ext (v := .sc _) rfl (by simp) rfl) (p_e rfl (e_ext (v := .lit _ _ _) rfl (by simp) rfl) (p_e rfl (e_ext (v := .sc _) rfl (by simp) rfl) (p_aS rfl ?_))))))
 refine p_e rfl (e_assign (v := .lit _ _ _) rfl) (p_aS rfl (p_end (hK4 _ ?_))); clear hK4 K4
 refine pwp_seq_gops rfl fun K5 hK5 => s_begin (s_e rfl (e_move (v := .sc _) rfl) (s_e rfl (e_eqT rfl rfl) (s_e rfl (e_move (v := .sc _) rfl) (s_e rfl (e_move (v := .lit _ _ _) rfl) (s_new [] (by simp) rfl rfl rfl rfl (e_bslice (rows := ([0, 1, 2, 3] : List Int).map ci) (zs := [.int 0]) (sz := 1) (by kernel_rfl) (by kernel_rfl) rfl (by kernel_rfl) (by decide) rfl rfl (by exact ⟨by decide, rfl, rfl, ⟨by decide, rfl, rfl, ⟨by decide, rfl, rfl, ⟨by decide, rfl, rfl, trivial⟩⟩⟩⟩) rfl) trivial (s_call (args := [.lit _ _ _, .ref _ _ _ _]) [30] (by intro k hk; simp [keysOf, Go.Pv.keyOf] at hk; try (subst hk; simp)) rfl rfl rfl rfl (.cons inn_lit (.cons (inn_ref (rows := ([0, 1, 2, 3] : List Int).map ci) (hset_self _ _ _) (by simp) rfl (by exact pure_map ci_pure)) .nil)) (ints_c _ (by decide)) ?_))))))
 refine s_e rfl (e_pickT (v := .sc _) rfl rfl) (s_e rfl (e_move (v := .sc _) rfl) (s_e rfl (e_move (v := .sc _) rfl) (s_e rfl (e_eqT rfl rfl) (s_e rfl (e_pickT (v := .sc _) rfl rfl) (s_e rfl (e_move (v := .sc _) rfl) (s_e rfl (e_move (v := .lit _ _ _) rfl) (s_new [] (by simp) rfl rfl rfl rfl (e_bslice (rows := ([0, 1, 2, 3] : List Int).map ci) (zs := [.int 0]) (sz := 1) (by kernel_rfl) (by kernel_rfl) rfl (by kernel_rfl) (by decide) rfl rfl (by exact ⟨by decide, rfl, rfl, ⟨by decide, rfl, rfl, ⟨by decide, rfl, rfl, ⟨by decide, rfl, rfl, trivial⟩⟩⟩⟩) rfl) trivial ?_)))))))
 refine s_call (args := [.lit _ _ _, .ref _ _ _ _]) [39] (by intro k hk; simp [keysOf, Go.Pv.keyOf] at hk; try (subst hk; simp)) rfl rfl rfl rfl (.cons inn_lit (.cons (inn_ref (rows := ([0, 1, 2, 3] : List Int).map ci) (hset_self _ _ _) (by simp) rfl (by exact pure_map ci_pure)) .nil)) (ints_c _ (by decide)) (s_e rfl (e_pickT (v := .sc _) rfl rfl) (s_e rfl (e_move (v := .sc _) rfl) (s_e rfl (e_move (v := .sc _) rfl) (s_e rfl (e_eqT rfl rfl) (s_e rfl (e_pickT (v := .sc _) rfl rfl) (s_e rfl (e_move (v := .sc _) rfl) (s_e rfl (e_move (v := .sc _) rfl) ?_)))))))
 refine s_e rfl (e_eqT rfl rfl) (s_e rfl (e_pickT (v := .sc _) rfl rfl) (s_e rfl (e_move (v := .sc _) rfl) (s_e rfl (e_move (v := .sc _) rfl) (s_e rfl (e_eqT rfl rfl) (s_e rfl (e_pickT (v := .sc _) rfl rfl) (s_e rfl (e_move (v := .sc _) rfl) (s_e rfl (e_move (v := .lit _ _ _) rfl) ?_)))))))
 refine s_new [] (by simp) rfl rfl rfl rfl (e_bslice (rows := ([0, 1, 3] : List Int).map ci) (zs := [.int 0]) (sz := 1) (by kernel_rfl) (by kernel_rfl) rfl (by kernel_rfl) (by decide) rfl rfl (by exact ⟨by decide, rfl, rfl, ⟨by decide, rfl, rfl, ⟨by decide, rfl, rfl, trivial⟩⟩⟩) rfl) trivial (s_call (args := [.lit _ _ _, .ref _ _ _ _]) [56] (by intro k hk; simp [keysOf, Go.Pv.keyOf] at hk; try (subst hk; simp)) rfl rfl rfl rfl (.cons inn_lit (.cons (inn_ref (rows := ([0, 1, 3] : List Int).map ci) (hset_self _ _ _) (by simp) rfl (by exact pure_map ci_pure)) .nil)) (ints_c _ (by decide)) (s_e rfl (e_pickT (v := .sc _) rfl rfl) (s_e rfl (e_assign (v := .sc _) rfl) (s_end (ds := [29, 30, 31, 34, 35, 38, 39, 40, 43, 44, 47, 48, 51, 52, 55, 56, 57]) (by kernel_rfl) (by kernel_rfl) (hK5 _ ?_))))); clear hK5 K5
 refine pwp_ret (end1 (v := .sc _) rfl ?_)
 exact out_b rfl

end Go.Proofs.Ytjmjiegplnfiiaa
