import Derived.Test.YtmlhhdiomijpfaaGreatDoorPvGc
import Derived.Test.YtmlhhdiomijpfaaGreatDoorPvGh
import Derived.Test.YtmlhhdiomijpfaaGreatDoorDatA
import Derived.KernelRfl
set_option linter.unusedSimpArgs false
set_option linter.unusedVariables false
set_option maxRecDepth 100000
namespace Go.Proofs.YtmlhhdiomijpfaaGreatDoor.E7
open Go Go.Pv Go.RowKit
def bItems (xs : List Int) : List (List PV) := (List.range xs.length).map fun (j : Nat) => [.int ((xs.length : Int) - 1 - j), .int (xs.getD (xs.length - 1 - j) 0)]
theorem bItems_get {xs : List Int} {j : Nat} (hj : j < xs.length) : (bItems xs)[j]? = some [.int ((xs.length : Int) - 1 - j), .int (xs.getD (xs.length - 1 - j) 0)] := by
 simp [bItems, List.getElem?_range hj]
noncomputable def bLoop : Code := match Tryz.f109.body with | some (.seq _ (.block _ (.loop c))) => c | _ => .skip
def Sl (p : PV) (xs : List Int) (h : Heap) : Prop := (∃ t, p = .lit t 1 (xs.map fun x => [.int x])) ∨ ∃ k2 off rs, p = .ref k2 1 off xs.length ∧ h k2 = some (.rows 1 rs) ∧ off + xs.length ≤ rs.length ∧ ∀ i, i < xs.length → rs[off + i]? = some [.int (xs.getD i 0)]
def Held (k : Key) (p : PV) (xs : List Int) (h : Heap) : Prop := h k = some (.rows 1 [[p]]) ∧ Sl p xs h
def bInv (k : Key) (p : PV) (xs : List Int) (l : Nat) (j : Nat) (s : PS) : Prop :=
 s.r 0 = .func (.yield l) [] [] ∧ s.r 1 = .ptr k 1 0 0 ∧ s.r 3 = .int ((xs.length : Int) - 1 - j) ∧ Held k p xs s.h
def Keeps (J : Nat → Env → Prop) : Prop := ∀ (j : Nat) (E1 E2 : Env), J j E1 → EnvLe E1 E2 → Pv.Good E2 → E2.h = E1.h → E2.cnt = E1.cnt → Below E1.B0 E1.w E2.w → J j E2
theorem Keeps.fr {J : Nat → Env → Prop} (hJ : Keeps J) {j n : Nat} {E1 E2 : Env} {s s' : PS} {a a' : Act} (h : J j E1) (F : Fr E1 n s a) (F' : Fr E2 n s' a') (hle : EnvLe E1 E2) (hb : Below E1.B0 E1.w E2.w) (hh : s'.h = s.h) (hc : s'.cnt = s.cnt) : J j E2 :=
 hJ _ _ _ h hle F'.sim.good ((F'.sim.h.trans hh).trans F.sim.h.symm) ((F'.sim.cnt.trans hc).trans F.sim.cnt.symm) hb
theorem b_done {k : Key} {p : PV} {xs : List Int} {l : Nat} {J : Nat → Env → Prop} (hJ : Keeps J) {Q : Exit → Act → World → Prop} {E : Env} {s : PS} {a : Act} (hj : J xs.length E) (hi : bInv k p xs l xs.length s) (F : Fr E 19 s a)
   (hQ : ∀ a' E' s', J xs.length E' → Fr E' 19 s' a' → Q (.exit 0) a' E'.w) : bLoop.wpIn Fence.wide 0 Tryz.prog Q a E.w := by
 obtain ⟨r, h, cnt⟩ := s;obtain ⟨i1, i2, i3, i4⟩ := hi;simp only [bLoop, Tryz.f109];refine wpIn_seq (wpIn_seq (region_fr (K := fun s => s.r 8 = .bool false ∧ s.h = h ∧ s.cnt = cnt) (by kernel_rfl) F ?_ fun a2 w2 h2 => ?_))
 · refine p_step rfl (e_move (v := .sc _) i3) trivial ?_;refine p_e rfl (e_ge rfl rfl) ?_;exact p_end ⟨by simp [setT]; omega, rfl, rfl⟩
 obtain ⟨⟨r2, h2, c2⟩, E2, ⟨hb, hh, hc⟩, F2, hle2, hb2, rfl⟩ := h2;have hcv : a2.eval (.tmp 8) = .bool false := by have := F2.sim.eval (x := .tmp 8) (by decide); rw [show ev r2 (.tmp 8) = .bool false from hb] at this; exact this.sc_inv
 exact wpIn_cond_false hcv (wpIn_exit (hQ a2 E2 _ (hJ.fr hj F F2 hle2 hb2 hh hc) F2))
set_option maxHeartbeats 1000000 in
theorem b_step {k : Key} {p : PV} {xs : List Int} (hx : xs.length ≤ 1000000) {l j : Nat} {J : Nat → Env → Prop} (hJ : Keeps J) {Q : Exit → Act → World → Prop} {E : Env} {s : PS} {a : Act} (hlt : j < xs.length) (hj : J j E) (hi : bInv k p xs l j s) (F : Fr E 19 s a)
   (hround : ∀ (E1 : Env) (us : Array Value), J j E1 → Pv.Good E1 → E1.tt = true → us.size = 2 → (∀ (i : Nat) (u : Value) (p : PV), us[i]? = some u → [PV.int ((xs.length : Int) - 1 - j), .int (xs.getD (xs.length - 1 - j) 0)][i]? = some p → Rep E1 u p) →
     YieldAt Fence.wide 0 Tryz.prog l us E1.w fun e w' => e = .returned (.bool true) ∧ ∃ E2 : Env, E2.w = w' ∧ J (j + 1) E2 ∧ Pv.Good E2 ∧ E2.tt = true ∧ Held k p xs E2.h ∧ ∀ v q, Rep E1 v q → Rep E2 v q)
   (hQ : ∀ a' E' s', J (j + 1) E' → bInv k p xs l (j + 1) s' → Fr E' 19 s' a' → Q .normal a' E'.w) : bLoop.wpIn Fence.wide 0 Tryz.prog Q a E.w := by
 obtain ⟨r, h, cnt⟩ := s;obtain ⟨i1, i2, i3, i4⟩ := hi;simp only [bLoop, Tryz.f109];refine wpIn_seq (wpIn_seq (region_fr (K := fun s => s.r 8 = .bool true ∧ bInv k p xs l j s ∧ s.h = h ∧ s.cnt = cnt) (by kernel_rfl) F ?_ fun a2 w2 h2 => ?_))
 · refine p_step rfl (e_move (v := .sc _) i3) trivial ?_;refine p_e rfl (e_ge rfl rfl) ?_;exact p_end ⟨by simp [setT]; omega, ⟨i1, i2, i3, i4⟩, rfl, rfl⟩
 obtain ⟨⟨r2, h2, c2⟩, E2, ⟨hb, ⟨i1', i2', i3', i4'⟩, hh, hc⟩, F2, hle2, hb2, rfl⟩ := h2;have hJ2 := hJ.fr hj F F2 hle2 hb2 hh hc;have hcv : a2.eval (.tmp 8) = .bool true := by have := F2.sim.eval (x := .tmp 8) (by decide); rw [show ev r2 (.tmp 8) = .bool true from hb] at this; exact this.sc_inv
 refine wpIn_cond_true hcv (wpIn_skip ?_);show Code.wpIn _ _ _ (.seq _ _) _ _ _;refine wpIn_seq (wpIn_block (wpIn_seq (wpIn_region_list ?_)));clear hj hle2 hb2 F;have hyl : (xs.map fun x => [PV.int x])[xs.length - 1 - j]? = some [.int (xs.getD (xs.length - 1 - j) 0)] := by simp [List.getElem?_eq_getElem (show xs.length - 1 - j < xs.length by omega)]
 generalize hy : xs.getD (xs.length - 1 - j) 0 = y at hround hyl;have hix : ((xs.length : Int) - 1 - j).toNat = xs.length - 1 - j := by omega
 refine list_in (ro := none) (n := 0) (P := Tryz.prog) (Q := fun e a' w' => e = .normal ∧ FrTo E2 19 (fun s => s.r 11 = .func (.yield l) [] [] ∧ s.r 12 = .int ((xs.length : Int) - 1 - j) ∧ s.r 16 = .int y ∧ bInv k p xs l j s ∧ s.h = h2 ∧ s.cnt = c2) a' w') (fun _ _ h => by cases h.1) (fun _ _ _ h => by cases h.1) [_, _] ?_ [_, _, _, _, _, _] a2 E2.w ?_ (list_fr ?_ ?_ F2 ?_)
 · rintro a3 w3 ⟨_, ⟨r3, h3, c3⟩, E3, ⟨k1, k2, k3, ki, kh, kc⟩, F3, hle3, hb3, rfl⟩
   have hJ3 := hJ.fr hJ2 F2 F3 hle3 hb3 kh kc;unfold wpListIn;rw [if_pos (wanted_none rfl _)];refine yield_op F3 rfl (by kernel_rfl) k1 fun us hus hur => ?_
   obtain ⟨fn, tmps, x, z, h1, h2⟩ := hround E3 us hJ3 F3.sim.good F3.sim.tt hus (by
     have h4 : ([Operand.tmp 12, Operand.tmp 16].map (ev r3)) = [PV.int ((xs.length : Int) - 1 - j), .int y] := by
       show [r3 12, r3 16] = _;rw [show r3 12 = _ from k2, show r3 16 = _ from k3]
     intro i u p h5 h6;exact hur i u p h5 (by rw [← h4] at h6; exact h6))
   refine ⟨fn, tmps, x, z, h1, h2.mono ?_⟩
   rintro e w' ⟨rfl, E4, rfl, hJ4, g4, tt4, hk4, carry⟩
   refine ⟨rfl, ?_⟩
   have F4 : Fr E4 19 ⟨setT r3 17 (.bool true), E4.h, E4.cnt⟩ (a3.put (some 17) (.bool true)) := by
     have h0 : Sim E4.w.heap.size E4 19 ⟨r3, E4.h, E4.cnt⟩ a3 := ⟨g4, rfl, rfl, tt4, F3.sim.size, fun i v hv => carry _ _ (F3.sim.regs i v hv), by rw [F3.nod]; trivial⟩
     have h1 := h0.put (dst := some 17) (v := .bool true) (p := .bool true) (s' := ⟨putR r3 (some 17) (.bool true), E4.h, E4.cnt⟩) (EnvLe.refl E4) g4 tt4 (.sc rfl) rfl rfl rfl;rw [putR_setT] at h1;exact Fr.of_sim h1 ((put_defers _ _ _).trans F3.nod)
   have hI4 : bInv k p xs l j ⟨setT r3 17 (.bool true), E4.h, E4.cnt⟩ := ⟨ki.1, ki.2.1, ki.2.2.1, hk4⟩
   clear hround h1 h2 hur F3 hle3 hb3 carry hJ3;show wpListIn (openF none) 0 Tryz.prog _ _ ([_] ++ []) _ _;refine list_in (ro := none) (n := 0) (P := Tryz.prog) (Q := fun e a' w' => e = .normal ∧ FrTo E4 19 (fun s => s.r 18 = .bool false ∧ bInv k p xs l j s ∧ s.h = E4.h ∧ s.cnt = E4.cnt) a' w') (fun _ _ h => by cases h.1) (fun _ _ _ h => by cases h.1) [] ?_ [_] _ E4.w ?_ (list_fr ?_ ?_ F4 ?_)
   · rintro a5 w5 ⟨_, ⟨r5, h5, c5⟩, E5, ⟨kb, ⟨q1, q2, q3, q4⟩, kh, kc⟩, F5, hle5, hb5, rfl⟩
     have hJ5 := hJ.fr hJ4 F4 F5 hle5 hb5 kh kc;have hcv : a5.eval (.tmp 18) = .bool false := by have := F5.sim.eval (x := .tmp 18) (by decide); rw [show ev r5 (.tmp 18) = .bool false from kb] at this; exact this.sc_inv
     show Code.wpIn _ _ _ (.cond _ .ret .skip) _ _ _;refine wpIn_cond_false hcv (wpIn_skip ?_);simp only [Exit.inBlock, Exit.then];refine region_fr (K := fun s => bInv k p xs l (j + 1) s ∧ s.h = h5 ∧ s.cnt = c5) (by kernel_rfl) F5 ?_ ?_
     · refine p_step rfl (e_move (v := .sc _) q3) trivial ?_;refine p_e rfl (e_sub rfl rfl (by omega)) (p_aS rfl ?_);exact p_end ⟨⟨q1, q2, by simp [setT]; omega, q4⟩, rfl, rfl⟩
     rintro a6 w6 ⟨⟨r6, h6, c6⟩, E6, ⟨hi6, kh6, kc6⟩, F6, hle6, hb6, rfl⟩
     exact hQ a6 E6 _ (hJ.fr hJ5 F5 F6 hle6 hb6 kh6 kc6) hi6 F6
   · intro o ho; simp only [List.mem_cons, List.not_mem_nil, or_false] at ho; subst ho; kernel_rfl
   · intro o ho; simp only [List.mem_cons, List.not_mem_nil, or_false] at ho; subst ho; kernel_rfl
   · intro o ho; simp only [List.mem_cons, List.not_mem_nil, or_false] at ho; subst ho; kernel_rfl
   · refine p_step rfl (e_not rfl) trivial ?_;exact p_end ⟨rfl, hI4, rfl, rfl⟩
 · intro o ho; simp only [List.mem_cons, List.not_mem_nil, or_false] at ho; rcases ho with rfl | rfl | rfl | rfl | rfl | rfl <;> kernel_rfl
 · intro o ho; simp only [List.mem_cons, List.not_mem_nil, or_false] at ho; rcases ho with rfl | rfl | rfl | rfl | rfl | rfl <;> kernel_rfl
 · intro o ho; simp only [List.mem_cons, List.not_mem_nil, or_false] at ho; rcases ho with rfl | rfl | rfl | rfl | rfl | rfl <;> kernel_rfl
 · refine p_step rfl (e_move (v := .func _ _ _) i1') trivial ?_;refine p_e rfl (e_move (v := .sc _) i3') (p_e rfl (e_loadH (v := p) i2' i4'.1 (by kernel_rfl) (by kernel_rfl) (by kernel_rfl) (by simp) (by decide) rfl) (p_e rfl (e_move (v := .sc _) i3') ?_));have i4'' := i4';rcases i4'.2 with ⟨t, rfl⟩ | ⟨k2, off, rs, rfl, hk2, hl2, hg2⟩
   · refine p_step rfl (e_ixa rfl rfl (by kernel_rfl) (by kernel_rfl) (by simp; omega)) trivial ?_;refine p_e rfl (e_load (v := .int y) rfl (by kernel_rfl) (by kernel_rfl) (by kernel_rfl) (by rw [hix]; simp; omega) (by decide) (by rw [hix]; simp [cellAt, hyl])) ?_;exact p_end ⟨rfl, rfl, rfl, ⟨i1', i2', i3', i4''⟩, rfl, rfl⟩
   · refine p_step rfl (e_ixaR rfl rfl (by kernel_rfl) (by kernel_rfl) (by omega)) trivial ?_;refine p_e rfl (e_loadH (v := .int y) rfl hk2 (by kernel_rfl) (by kernel_rfl) (by kernel_rfl) (by rw [hix]; omega) (by decide) (by rw [hix]; simp [cellAt, hg2 _ (show xs.length - 1 - j < xs.length by omega), ← hy])) ?_;exact p_end ⟨rfl, rfl, rfl, ⟨i1', i2', i3', i4''⟩, rfl, rfl⟩
set_option maxHeartbeats 4000000 in
theorem back_ok (k : Key) (p : PV) (xs : List Int) (hx : xs.length ≤ 1000000) : IterOK Tryz.prog 109 [.ptr k 1 0 0] (bItems xs) (Held k p xs) := by
 refine ⟨by kernel_rfl, fun E ws l J g tt hH hws hwr hJ0 hstep hround => ?_⟩;refine callsIn_of_wp Tryz.func109 rfl trivial ?_
 obtain ⟨u1, rfl⟩ : ∃ u, ws = #[u] := by
   match ws, hws with
   | ⟨[u]⟩, _ => exact ⟨u, rfl⟩
 have F0 : Fr E 19 ⟨fun i => [PV.func (.yield l) [] [], .ptr k 1 0 0].getD i .dead, E.h, E.cnt⟩ { tmps := #[.func (.yield l) #[] #[], u1, undef, undef, undef, undef, undef, undef, undef, undef, undef, undef, undef, undef, undef, undef, undef, undef, undef], defers := [] } := by
   refine ⟨⟨g, rfl, rfl, tt, rfl, fun i v hv => ?_, trivial⟩, rfl⟩
   match i with
   | 0 => cases hv; exact .func rfl rfl (by simp) (by simp)
   | 1 => cases hv; exact hwr 0 u1 _ rfl rfl
   | i + 2 => exact .dead
 have noK : ∀ {E1 E2 : Env} {j : Nat}, J j E1 → EnvLe E1 E2 → Pv.Good E2 → E2.h = E1.h → E2.cnt = E1.cnt → Below E1.B0 E1.w E2.w → J j E2 := fun h1 h2 h3 h4 h5 h6 => hstep _ _ _ h1 h2 h3 h4 h5 h6;simp only [Tryz.ntmps109, List.size_toArray, List.length_cons, List.length_nil, Nat.reduceAdd, Nat.reduceSub, Array.replicate_succ, Array.replicate_zero, List.push_toArray, List.append_toArray, List.nil_append, List.cons_append];refine wpIn_seq ?_;refine region_fr (K := fun s => bInv k p xs l 0 s ∧ s.h = E.h ∧ s.cnt = E.cnt) (by kernel_rfl) F0 ?_ fun a1 w1 h1 => ?_
 · refine p_step rfl (e_loadH (v := p) rfl hH.1 (by kernel_rfl) (by kernel_rfl) (by kernel_rfl) (by simp) (by decide) rfl) trivial ?_;have hH' := hH;rcases hH.2 with ⟨t, rfl⟩ | ⟨k2, off, rs, rfl, hk2, hl2, hg2⟩
   · refine p_step rfl (e_len rfl (by kernel_rfl)) trivial ?_;refine p_e rfl (e_sub rfl rfl (by simp; omega)) (p_aS rfl ?_);exact p_end ⟨⟨rfl, rfl, by simp [setT], hH'⟩, rfl, rfl⟩
   · refine p_step rfl (e_lenR rfl (by kernel_rfl)) trivial ?_;refine p_e rfl (e_sub rfl rfl (by omega)) (p_aS rfl ?_);exact p_end ⟨⟨rfl, rfl, by simp [setT], hH'⟩, rfl, rfl⟩
 obtain ⟨s1, E1, ⟨hi1, hh1, hc1⟩, F1, hle1, hb1, rfl⟩ := h1;have hJ1 : J 0 E1 := noK hJ0 hle1 F1.sim.good (F1.sim.h.trans hh1) (F1.sim.cnt.trans hc1) hb1;refine wpIn_block (wpIn_loop_rounds (xs.length + 1) ?_)
 have key : ∀ (m j : Nat) (E1 : Env) (s1 : PS) (a1 : Act), j + m = xs.length → J j E1 → bInv k p xs l j s1 → Fr E1 19 s1 a1 →
     Code.roundsIn Fence.wide 0 Tryz.prog bLoop (Exit.inBlock 0 (bodyPost Tryz.prog Tryz.f109 fun e w' => ∃ (v : Value) (E' : Env), e = .returned v ∧ E'.w = w' ∧ J (bItems xs).length E')) (m + 1) a1 E1.w := by
   intro m;induction m with
   | zero =>
     intro j E1 s1 a1 hj hJ1 hi F;have hj' : j = xs.length := by omega
     subst hj';rw [roundsIn_succ];refine b_done hstep hJ1 hi F fun a2 E2 s2 hJ2 F2 => ?_;simp only [Exit.then, Exit.inBlock, if_true];obtain ⟨v, hv, _⟩ := run_results (P := Tryz.prog) (fn := Tryz.f109) (rs := []) F2.sim (by kernel_rfl) rfl (fun x hx => by cases hx);refine ⟨F2.nod, v, hv, v, E2, rfl, rfl, ?_⟩;rw [show (bItems xs).length = xs.length by simp [bItems]]; exact hJ2
   | succ m ih =>
     intro j E1 s1 a1 hj hJ1 hi F;rw [roundsIn_succ];refine b_step hx hstep (by omega) hJ1 hi F (fun E2 us h1 h2 h3 h4 h5 => hround j _ E2 us (bItems_get (by omega)) h1 h2 h3 h4 h5) fun a2 E2 s2 hJ2 hi2 F2 => ?_;exact ih (j + 1) E2 s2 a2 (by omega) hJ2 hi2 F2
 exact key xs.length 0 E1 s1 a1 (by omega) hJ1 hi1 F1
end Go.Proofs.YtmlhhdiomijpfaaGreatDoor.E7
