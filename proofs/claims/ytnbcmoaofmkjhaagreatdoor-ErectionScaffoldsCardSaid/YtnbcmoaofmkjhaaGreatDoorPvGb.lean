import Derived.Test.YtnbcmoaofmkjhaaGreatDoorPvGa
set_option linter.unusedSimpArgs false
set_option linter.unusedVariables false
namespace Go.Pv
open Go Go.RowKit
section
variable {P : Program} {E : Env}
theorem zFP (a b : ByteArray) : (a == b) = decide (a = b) := by
 rw [Bool.eq_iff_iff, decide_eq_true_eq];cases a; cases b;rename_i x y;show (x == y) = true ↔ _;simp
theorem zDO {kt : TypeId} {p : PV} {v : Value} (h : keyOk P kt p) (hr : Rep E v p) :
   (∃ k n, p = .sc (.int k n) ∧ v = .int k n ∧ P.underlying kt = some (.int k)) ∨ (∃ s, p = .sc (.string s) ∧ v = .string s ∧ P.underlying kt = some .string) ∨
   (∃ cs vs fs, p = .agg cs ∧ v = .agg vs ∧ P.underlying kt = some (.struct fs) ∧ P.stoodInHeld kt = false ∧ zDw P fs.toList 0 cs = true) ∨
   (∃ cs vs n e, p = .agg cs ∧ v = .agg vs ∧ P.underlying kt = some (.array n e) ∧ zAr P e = 1 ∧ cs.length = n ∧ cs.all (zDo P e) = true) := by
 unfold keyOk at h;split at h
 · exact .inl ⟨_, _, rfl, hr.sc_inv, zBN h⟩
 · exact .inr (.inl ⟨_, rfl, hr.sc_inv, zA6 h⟩)
 · unfold zI3 at h;split at h
   · rename_i fs hu;simp only [Bool.and_eq_true, Bool.not_eq_true'] at h;cases hr with
     | agg hl hp => exact .inr (.inr (.inl ⟨_, _, fs, rfl, rfl, hu, h.1, h.2⟩))
   · rename_i n e hu;simp only [Bool.and_eq_true, Nat.beq_eq] at h;cases hr with
     | agg hl hp => exact .inr (.inr (.inr ⟨_, _, n, e, rfl, rfl, hu, h.1, h.2.1, h.2.2⟩))
   · cases h
 · exact h.elim
theorem zFk {t : TypeId} {c : PV} {v : Value} (h : zDo P t c = true) (hr : Rep E v c) : (P.underlying t).isSome = true ∧ tyAgg P t = false ∧ (∀ b n w, (Instr.checkKey b (n + 1) t v).run P w = .ok () w) ∧
   ∀ (e : PV) (u : Value), zDo P t e = true → Rep E u e → (∀ d w, (Op.equalIn (d + 1) t v u).run P w = .ok (scEq c e) w) ∧ (scEq c e = true → v = u) ∧ (v = u → scEq c e = true) ∧ (scEq c e = true → ∀ n, Instr.sameBits n u v = true) := by
 unfold zDo at h;split at h
 · rename_i k n;have hu := zBN (of_decide_eq_true h);obtain rfl := hr.sc_inv;refine ⟨by rw [hu]; rfl, by simp [tyAgg, hu], fun b m w => by simp [Instr.checkKey, zAD hu], fun e u he hur => ?_⟩;unfold zDo at he;split at he
   · rename_i k' n';have hu' := zBN (of_decide_eq_true he);rw [hu] at hu'; cases hu';obtain rfl := hur.sc_inv;exact ⟨fun d w => run_equalIn_int w d _ _ _ _ _ hu, fun hq => by simp only [scEq, beq_iff_eq] at hq; rw [hq], fun hq => by cases hq; simp [scEq], fun hq m => by simp only [scEq, beq_iff_eq] at hq; subst hq; simp [Instr.sameBits]⟩
   · have := zA6 he; rw [hu] at this; cases this
   · have := zCI he; rw [hu] at this; cases this
   · cases he
 · rename_i s;have hu := zA6 h;obtain rfl := hr.sc_inv;refine ⟨by rw [hu]; rfl, by simp [tyAgg, hu], fun b m w => by simp [Instr.checkKey, zAD hu], fun e u he hur => ?_⟩;unfold zDo at he;split at he
   · have := zBN (of_decide_eq_true he); rw [hu] at this; cases this
   · obtain rfl := hur.sc_inv;exact ⟨fun d w => by rw [run_equalIn_string w d _ _ _ hu, zGZ]; rfl, fun hq => by simp only [scEq, decide_eq_true_eq] at hq; rw [hq], fun hq => by cases hq; simp [scEq], fun hq m => by simp only [scEq, decide_eq_true_eq] at hq; subst hq; simp [Instr.sameBits, zFP]⟩
   · have := zCI he; rw [hu] at this; cases this
   · cases he
 · rename_i x;have hu := zCI h;obtain rfl := hr.sc_inv;refine ⟨by rw [hu]; rfl, by simp [tyAgg, hu], fun b m w => by simp [Instr.checkKey, zAD hu], fun e u he hur => ?_⟩;unfold zDo at he;split at he
   · have := zBN (of_decide_eq_true he); rw [hu] at this; cases this
   · have := zA6 he; rw [hu] at this; cases this
   · obtain rfl := hur.sc_inv;exact ⟨fun d w => run_equalIn_bool' w d _ _ _ hu, fun hq => by simp only [scEq, beq_iff_eq] at hq; rw [hq], fun hq => by cases hq; simp [scEq], fun hq m => by simp only [scEq, beq_iff_eq] at hq; subst hq; simp [Instr.sameBits]⟩
   · cases he
 · cases h
def zFY (E : Env) (vs : Array Value) (i : Nat) (cs : List PV) : Prop := i + cs.length = vs.size ∧ ∀ j c, cs[j]? = some c → ∃ v, vs[i + j]? = some v ∧ Rep E v c
theorem zFY.tail {vs : Array Value} {i : Nat} {c : PV} {cs : List PV} (h : zFY E vs i (c :: cs)) : (∃ v, vs[i]? = some v ∧ Rep E v c) ∧ zFY E vs (i + 1) cs :=
 ⟨h.2 0 c rfl, by have := h.1; simp at this; omega, fun j d hj => by have := h.2 (j + 1) d hj; rwa [show i + (j + 1) = i + 1 + j by omega] at this⟩
theorem zDP {vs : Array Value} {cs : List PV} (h : Rep E (.agg vs) (.agg cs)) : zFY E vs 0 cs := by
 cases h with
 | agg hl hp => exact ⟨by omega, fun j c hj => by
     have hlt : j < vs.size := by rw [hl]; exact (List.getElem?_eq_some_iff.1 hj).1
     exact ⟨vs[j], by simp [hlt], hp j _ _ (by simp [hlt]) hj⟩⟩
theorem zCU {t : TypeId} {vs : Array Value} {i : Nat} {v : Value} (hu : (P.underlying t).isSome = true) (hg : tyAgg P t = false) (hv : vs[i]? = some v) (w : World) : (part t vs i).run P w = .ok v w := by
 unfold part;rw [Sem.run_bind, zIi hu, Result.andThen_ok, hg];simp [hv]
theorem zFz {vs us : Array Value} : ∀ (fs : List Field) (i : Nat) (cs ds : List PV), zDw P fs i cs = true → zDw P fs i ds = true → zFY E vs i cs → zFY E us i ds →
   (∀ d w, (Op.eqFields (d + 1) vs us fs).run P w = .ok (scsEq cs ds) w) ∧ (scsEq cs ds = true → ∀ j, i ≤ j → vs[j]? = us[j]?) ∧ ((∀ j, i ≤ j → vs[j]? = us[j]?) → scsEq cs ds = true) ∧
   (scsEq cs ds = true → ∀ n j v u, i ≤ j → vs[j]? = some v → us[j]? = some u → Instr.sameBits n u v = true)
 | [], i, [], [], _, _, hc, hd => ⟨fun d w => rfl, fun _ j hj => by
     have h1 := hc.1; have h2 := hd.1;simp at h1 h2;rw [Array.getElem?_eq_none (by omega), Array.getElem?_eq_none (by omega)], fun _ => rfl, fun _ n j v u hj hv _ => by
     have h1 := hc.1; simp at h1;rw [Array.getElem?_eq_none (by omega)] at hv; cases hv⟩
 | [], _, _ :: _, _, h, _, _, _ => by cases h
 | [], _, [], _ :: _, _, h, _, _ => by cases h
 | _ :: _, _, [], _, h, _, _, _ => by cases h
 | _ :: _, _, _ :: _, [], _, h, _, _ => by cases h
 | f :: fs, i, c :: cs, e :: ds, h, h', hc, hd => by
   simp only [zDw, Bool.and_eq_true, bne_iff_ne, Nat.beq_eq] at h h';obtain ⟨h1, h2, _, h4, h5⟩ := h;obtain ⟨_, _, _, h4', h5'⟩ := h';obtain ⟨⟨v, hv, hvr⟩, hct⟩ := hc.tail;obtain ⟨⟨u, hu, hur⟩, hdt⟩ := hd.tail;obtain ⟨b1, b2, _, b4⟩ := zFk h4 hvr;obtain ⟨q1, q2, q3, q4⟩ := b4 e u h4' hur;obtain ⟨r1, r2, r3, r4⟩ := zFz fs (i + 1) cs ds h5 h5' hct hdt;refine ⟨fun d w => ?_, fun hs j hj => ?_, fun hall => ?_, fun hs n j v' u' hj hv' hu' => ?_⟩
   · simp only [Op.eqFields, if_pos h1, Sem.run_bind, h2, zCU b1 b2 hv, Result.andThen_ok, zCU b1 b2 hu, q1, scsEq];cases hq : scEq c e with
     | true => simpa using r1 d w
     | false => simp
   · simp only [scsEq, Bool.and_eq_true] at hs;rcases Nat.eq_or_lt_of_le hj with rfl | hj
     · rw [hv, hu, q2 hs.1]
     · exact r2 hs.2 j hj
   · simp only [scsEq, Bool.and_eq_true];have h0 := hall i (Nat.le_refl _);rw [hv, hu] at h0;exact ⟨q3 (Option.some.inj h0), r3 fun j hj => hall j (by omega)⟩
   · simp only [scsEq, Bool.and_eq_true] at hs;rcases Nat.eq_or_lt_of_le hj with rfl | hj
     · rw [hv] at hv'; rw [hu] at hu'; cases hv'; cases hu';exact q4 hs.1 n
     · exact r4 hs.2 n j v' u' hj hv' hu'
theorem zFA {vs us : Array Value} {t : TypeId} (hz : P.cellsOf t = 1) : ∀ (i : Nat) (cs ds : List PV), cs.all (zDo P t) = true → ds.all (zDo P t) = true → cs.length = ds.length → zFY E vs i cs → zFY E us i ds →
   (∀ d w, (Op.eqItems (d + 1) t (P.cellsOf t) vs us (List.range' i cs.length)).run P w = .ok (scsEq cs ds) w) ∧ (scsEq cs ds = true → ∀ j, i ≤ j → vs[j]? = us[j]?) ∧ ((∀ j, i ≤ j → vs[j]? = us[j]?) → scsEq cs ds = true) ∧
   (scsEq cs ds = true → ∀ n j v u, i ≤ j → vs[j]? = some v → us[j]? = some u → Instr.sameBits n u v = true)
 | i, [], [], _, _, _, hc, hd => ⟨fun d w => rfl, fun _ j hj => by
     have h1 := hc.1; have h2 := hd.1;simp at h1 h2;rw [Array.getElem?_eq_none (by omega), Array.getElem?_eq_none (by omega)], fun _ => rfl, fun _ n j v u hj hv _ => by
     have h1 := hc.1; simp at h1;rw [Array.getElem?_eq_none (by omega)] at hv; cases hv⟩
 | _, [], _ :: _, _, _, h, _, _ => by simp at h
 | _, _ :: _, [], _, _, h, _, _ => by simp at h
 | i, c :: cs, e :: ds, h, h', hl, hc, hd => by
   simp only [List.all_cons, Bool.and_eq_true] at h h';obtain ⟨h4, h5⟩ := h;obtain ⟨h4', h5'⟩ := h';obtain ⟨⟨v, hv, hvr⟩, hct⟩ := hc.tail;obtain ⟨⟨u, hu, hur⟩, hdt⟩ := hd.tail;obtain ⟨b1, b2, _, b4⟩ := zFk h4 hvr;obtain ⟨q1, q2, q3, q4⟩ := b4 e u h4' hur;obtain ⟨r1, r2, r3, r4⟩ := zFA hz (i + 1) cs ds h5 h5' (by simpa using hl) hct hdt;refine ⟨fun d w => ?_, fun hs j hj => ?_, fun hall => ?_, fun hs n j v' u' hj hv' hu' => ?_⟩
   · have r1' := r1 d w;rw [hz] at r1';simp only [List.length_cons, List.range'_succ, Op.eqItems, Sem.run_bind, hz, Nat.mul_one, zCU b1 b2 hv, Result.andThen_ok, zCU b1 b2 hu, q1, scsEq];cases hq : scEq c e with
     | true => simpa using r1'
     | false => simp
   · simp only [scsEq, Bool.and_eq_true] at hs;rcases Nat.eq_or_lt_of_le hj with rfl | hj
     · rw [hv, hu, q2 hs.1]
     · exact r2 hs.2 j hj
   · simp only [scsEq, Bool.and_eq_true];have h0 := hall i (Nat.le_refl _);rw [hv, hu] at h0;exact ⟨q3 (Option.some.inj h0), r3 fun j hj => hall j (by omega)⟩
   · simp only [scsEq, Bool.and_eq_true] at hs;rcases Nat.eq_or_lt_of_le hj with rfl | hj
     · rw [hv] at hv'; rw [hu] at hu'; cases hv'; cases hu';exact q4 hs.1 n
     · exact r4 hs.2 n j v' u' hj hv' hu'
theorem zEx {vs : Array Value} {t : TypeId} (hz : P.cellsOf t = 1) (hs : ∀ w, (sizeOf t).run P w = .ok 1 w) (b : Bool) (n : Nat) (w : World) : ∀ (i : Nat) (cs : List PV), cs.all (zDo P t) = true → zFY E vs i cs →
   (forIn (List.range' i cs.length) PUnit.unit fun j (_ : PUnit) => (do Instr.checkKey b (n + 1) t (← part t vs (j * (← sizeOf t))); pure (ForInStep.yield PUnit.unit) : Sem (ForInStep PUnit))).run P w = .ok PUnit.unit w
 | i, [], _, _ => rfl
 | i, c :: cs, h, hc => by
   simp only [List.all_cons, Bool.and_eq_true] at h;obtain ⟨⟨v, hv, hvr⟩, hct⟩ := hc.tail;obtain ⟨b1, b2, b3, _⟩ := zFk h.1 hvr;rw [List.length_cons, List.range'_succ, List.forIn_cons];simp only [Sem.run_bind, hs, Result.andThen_ok, Nat.mul_one, zCU b1 b2 hv, b3, Sem.run_pure];exact zEx hz hs b n w (i + 1) cs h.2 hct
theorem zDW {vs : Array Value} (b : Bool) (n : Nat) (w : World) : ∀ (fs : List Field) (i : Nat) (cs : List PV), zDw P fs i cs = true → zFY E vs i cs →
   (forIn fs PUnit.unit fun f (_ : PUnit) => if f.name ≠ "_" then (do Instr.checkKey b (n + 1) f.type (← part f.type vs f.offset); pure (ForInStep.yield PUnit.unit) : Sem (ForInStep PUnit)) else pure (ForInStep.yield PUnit.unit)).run P w = .ok PUnit.unit w
 | [], i, [], _, _ => rfl
 | [], _, _ :: _, h, _ => by cases h
 | _ :: _, _, [], h, _ => by cases h
 | f :: fs, i, c :: cs, h, hc => by
   simp only [zDw, Bool.and_eq_true, bne_iff_ne, Nat.beq_eq] at h;obtain ⟨h1, h2, _, h4, h5⟩ := h;obtain ⟨⟨v, hv, hvr⟩, hct⟩ := hc.tail;obtain ⟨b1, b2, b3, _⟩ := zFk h4 hvr;rw [List.forIn_cons, if_pos h1];simp only [Sem.run_bind, h2, zCU b1 b2 hv, Result.andThen_ok, b3, Sem.run_pure];exact zDW b n w fs (i + 1) cs h5 hct
theorem run_checkKey' (b : Bool) (n : Nat) {kt : TypeId} {p : PV} {v : Value} (h : keyOk P kt p) (hr : Rep E v p) (w : World) : (Instr.checkKey b (n + 2) kt v).run P w = .ok () w := by
 rcases zDO h hr with ⟨k, n, rfl, rfl, hu⟩ | ⟨s, rfl, rfl, hu⟩ | ⟨cs, vs, fs, rfl, rfl, hu, hs, hp⟩ | ⟨cs, vs, m, e, rfl, rfl, hu, hz, hm, hp⟩
 · simp [Instr.checkKey, zAD hu]
 · simp [Instr.checkKey, zAD hu]
 rotate_left
 · subst hm;have hsz : ∀ w, (sizeOf e).run P w = .ok 1 w := fun w => by have := zBh (P := P) (t := e) rfl (by omega) w; rw [hz] at this; exact this
   have := zEx (P := P) (E := E) (t := e) hz hsz b n w 0 cs hp (zDP hr);unfold Instr.checkKey;simp only [Sem.run_bind, zAD hu, Result.andThen_ok];simp only [Std.Legacy.Range.forIn_eq_forIn_range', Std.Legacy.Range.size, Nat.sub_zero, Nat.add_one_sub_one, Nat.div_one];rw [this];rfl
 · have := zDW (P := P) (E := E) b n w fs.toList 0 cs hp (zDP hr);unfold Instr.checkKey;simp only [Sem.run_bind, zAD hu, Result.andThen_ok];rw [← Array.forIn_toList, this];rfl
theorem zC3 (b : Bool) {kt : TypeId} {p : PV} {v : Value} (h : keyOk P kt p) (hr : Rep E v p) (w : World) : (Instr.checkKey b 10000 kt v).run P w = .ok () w := run_checkKey' b 9998 h hr w
def wideD : TypeDesc → Bool
 | .struct _ | .array _ _ => true
 | _ => false
theorem zHu {kt : TypeId} {p q : PV} {v u : Value} (h : keyOk P kt p) (hr : Rep E v p) (h' : keyOk P kt q) (hr' : Rep E u q) :
   (keyEq p q = true → v = u) ∧ (v = u → keyEq p q = true) ∧ (keyEq p q = true → ∀ n, Instr.sameBits (n + 1) u v = true) ∧
   ((∃ d, P.underlying kt = some d ∧ wideD d = false ∧ Instr.sameNow d v u = some (keyEq p q)) ∨ (∃ d, P.underlying kt = some d ∧ wideD d = true ∧ Instr.sameNow d v u = none ∧ ∀ w, (Op.equal kt v u).run P w = .ok (keyEq p q) w)) := by
 rcases zDO h hr with ⟨k, n, rfl, rfl, hu⟩ | ⟨s, rfl, rfl, hu⟩ | ⟨cs, vs, fs, rfl, rfl, hu, hs, hp⟩ | ⟨cs, vs, m, e, rfl, rfl, hu, hz, hm, hp⟩ <;> rcases zDO h' hr' with ⟨k', n', rfl, rfl, hu'⟩ | ⟨s', rfl, rfl, hu'⟩ | ⟨cs', vs', fs', rfl, rfl, hu', hs', hp'⟩ | ⟨cs', vs', m', e', rfl, rfl, hu', hz', hm', hp'⟩ <;> (rw [hu] at hu'; cases hu')
 · exact ⟨fun hq => by simp only [keyEq, beq_iff_eq] at hq; rw [hq], fun hq => by cases hq; simp [keyEq], fun hq n => by simp only [keyEq, beq_iff_eq] at hq; subst hq; simp [Instr.sameBits], .inl ⟨_, hu, rfl, by simp [Instr.sameNow, keyEq]⟩⟩
 · exact ⟨fun hq => by simp only [keyEq, decide_eq_true_eq] at hq; rw [hq], fun hq => by cases hq; simp [keyEq], fun hq n => by simp only [keyEq, decide_eq_true_eq] at hq; subst hq; simp [Instr.sameBits, zFP], .inl ⟨_, hu, rfl, by simp only [Instr.sameNow, keyEq]; congr 1; exact zFP _ _⟩⟩
 · obtain ⟨r1, r2, r3, r4⟩ := zFz (P := P) (E := E) fs.toList 0 cs cs' hp hp' (zDP hr) (zDP hr');refine ⟨fun hq => ?_, fun hq => ?_, fun hq n => ?_, .inr ⟨_, hu, rfl, rfl, fun w => ?_⟩⟩
   · congr 1;exact Array.ext_getElem? fun i => r2 hq i (Nat.zero_le _)
   · cases hq; exact r3 fun _ _ => rfl
   · have hsz : vs'.size = vs.size := congrArg Array.size (Array.ext_getElem? fun i => (r2 hq i (Nat.zero_le _)).symm);simp only [Instr.sameBits, hsz, beq_self_eq_true, Bool.true_and, List.all_eq_true]
     rintro ⟨a, b⟩ hab
     obtain ⟨j, hj⟩ := List.mem_iff_getElem?.1 hab;rw [List.getElem?_zip_eq_some] at hj;exact r4 hq n j b a (Nat.zero_le _) (by simpa using hj.2) (by simpa using hj.1)
   · have hf : P.fieldsOf kt = fs := by simp [Program.fieldsOf, hu]
     show (Op.equalIn 10000 kt (.agg vs) (.agg vs')).run P w = _;rw [run_equalIn_struct w 9999 kt vs vs' (by rw [hf]; exact hu) hs, hf];exact r1 9998 w
 · obtain ⟨r1, r2, r3, r4⟩ := zFA (P := P) (E := E) (t := e) hz 0 cs cs' hp hp' (by rw [hm, hm']) (zDP hr) (zDP hr');refine ⟨fun hq => ?_, fun hq => ?_, fun hq n => ?_, .inr ⟨_, hu, rfl, rfl, fun w => ?_⟩⟩
   · congr 1;exact Array.ext_getElem? fun i => r2 hq i (Nat.zero_le _)
   · cases hq; exact r3 fun _ _ => rfl
   · have hsz : vs'.size = vs.size := congrArg Array.size (Array.ext_getElem? fun i => (r2 hq i (Nat.zero_le _)).symm);simp only [Instr.sameBits, hsz, beq_self_eq_true, Bool.true_and, List.all_eq_true]
     rintro ⟨a, b⟩ hab
     obtain ⟨j, hj⟩ := List.mem_iff_getElem?.1 hab;rw [List.getElem?_zip_eq_some] at hj;exact r4 hq n j b a (Nat.zero_le _) (by simpa using hj.2) (by simpa using hj.1)
   · show (Op.equalIn 10000 kt (.agg vs) (.agg vs')).run P w = _
     obtain ⟨i, hi⟩ : ∃ i, P.info? e = some i := by
       cases hq : P.info? e with
       | some i => exact ⟨i, rfl⟩
       | none => simp [zAr, Program.cellsOf, hq] at hz
     rw [run_equalIn_array w 9999 vs vs' hu hi, ← hm, List.range_eq_range'];exact r1 9998 w
def zE9 (E : Env) (ents : List MapEntry) (es : List (PV × PV)) : Prop :=
 ents.length = es.length ∧ ∀ (i : Nat) (e : MapEntry) (p : PV × PV), ents[i]? = some e → es[i]? = some p → Rep E e.key p.1 ∧ Rep E e.val p.2
theorem keyOk_under {kt : TypeId} {p : PV} {v : Value} (h : keyOk P kt p) (hr : Rep E v p) : ∃ d, P.underlying kt = some d := by
 rcases zDO h hr with ⟨_, _, _, _, hu⟩ | ⟨_, _, _, hu⟩ | ⟨_, _, _, _, _, hu, _⟩ | ⟨_, _, _, _, _, _, hu, _⟩ <;> exact ⟨_, hu⟩
theorem zJ3 {kt : TypeId} {d : TypeDesc} (hd : P.underlying kt = some d) (hn : wideD d = false) {kp : PV} {kv : Value} (hk : keyOk P kt kp) (hkr : Rep E kv kp) (vp : PV) :
   ∀ (ents : List MapEntry) (es : List (PV × PV)) (i : Nat), zE9 E ents es → (∀ e ∈ es, keyOk P kt e.1) →
     (Instr.findNow d kv ents i = some none ∧ zBB kp es = none ∧ zCo kp vp es = es ++ [(kp, vp)] ∧ zEL kp es = es) ∨
     (∃ j e pe, ents[j]? = some e ∧ es[j]? = some pe ∧ Instr.findNow d kv ents i = some (some (i + j, e.val)) ∧ zBB kp es = some pe.2 ∧ zCo kp vp es = es.set j (kp, vp) ∧ zEL kp es = es.eraseIdx j ∧ keyEq kp pe.1 = true ∧ ∀ bs : List Nat, bs.length = es.length → delB kp es bs = bs.eraseIdx j ∧ ∀ clk, zE0 kp es bs clk = (bs[j]?).getD clk)
 | [], [], i, _, _ => .inl ⟨rfl, rfl, rfl, rfl⟩
 | [], _ :: _, _, h, _ => by simp [zE9] at h
 | _ :: _, [], _, h, _ => by simp [zE9] at h
 | e :: ents, pe :: es, i, h, hok => by
   obtain ⟨h1, h2⟩ := h.2 0 e pe rfl rfl
   have hs : Instr.sameNow d kv e.key = some (keyEq kp pe.1) := by
     rcases (zHu hk hkr (hok pe (by simp)) h1).2.2.2 with ⟨d', hd', _, hs⟩ | ⟨d', hu, hw, _⟩
     · rw [hd] at hd'; cases hd'; exact hs
     · rw [hd] at hu; cases hu; rw [hn] at hw; cases hw
   cases hq : keyEq kp pe.1 with
   | true =>
     rw [hq] at hs;exact .inr ⟨0, e, pe, rfl, rfl, by simp [Instr.findNow, hs], by simp [zBB, hq], by simp [zCo, hq], by simp [zEL, hq], hq, fun bs hb => by cases bs with | nil => simp at hb | cons b bs => simp [delB, zE0, hq]⟩
   | false =>
     rw [hq] at hs;have hl := h.1;rcases zJ3 hd hn hk hkr vp ents es (i + 1) ⟨by simpa using hl, fun j e p h3 h4 => h.2 (j + 1) e p h3 h4⟩ (fun e he => hok e (by simp [he])) with ⟨h3, h4, h5, h6⟩ | ⟨j, e', pe', h3, h4, h5, h6, h7, h8, h9, h9b⟩
     · exact .inl ⟨by simp [Instr.findNow, hs, h3], by simp [zBB, hq, h4], by simp [zCo, hq, h5], by simp [zEL, hq, h6]⟩
     · exact .inr ⟨j + 1, e', pe', h3, h4, by simp [Instr.findNow, hs, h5]; omega, by simp [zBB, hq, h6], by simp [zCo, hq, h7], by simp [zEL, hq, h8], h9, fun bs hb => by cases bs with | nil => simp at hb | cons b bs => have hx := h9b bs (by simpa using hb); exact ⟨by simp [delB, hq, hx.1], fun clk => by simp [zE0, hq, hx.2]⟩⟩
theorem zJ4 {kt : TypeId} {d : TypeDesc} (hd : P.underlying kt = some d) (hw : wideD d = true) {kp : PV} {kv : Value} (hk : keyOk P kt kp) (hkr : Rep E kv kp) (vp : PV) (w : World) :
   ∀ (ents : List MapEntry) (es : List (PV × PV)) (i : Nat), zE9 E ents es → (∀ e ∈ es, keyOk P kt e.1) →
     ((Instr.findAsking kt kv ents i).run P w = .ok none w ∧ zBB kp es = none ∧ zCo kp vp es = es ++ [(kp, vp)] ∧ zEL kp es = es) ∨
     (∃ j e pe, ents[j]? = some e ∧ es[j]? = some pe ∧ (Instr.findAsking kt kv ents i).run P w = .ok (some (i + j, e.val)) w ∧ zBB kp es = some pe.2 ∧ zCo kp vp es = es.set j (kp, vp) ∧ zEL kp es = es.eraseIdx j ∧ keyEq kp pe.1 = true ∧ ∀ bs : List Nat, bs.length = es.length → delB kp es bs = bs.eraseIdx j ∧ ∀ clk, zE0 kp es bs clk = (bs[j]?).getD clk)
 | [], [], i, _, _ => .inl ⟨rfl, rfl, rfl, rfl⟩
 | [], _ :: _, _, h, _ => by simp [zE9] at h
 | _ :: _, [], _, h, _ => by simp [zE9] at h
 | e :: ents, pe :: es, i, h, hok => by
   obtain ⟨h1, h2⟩ := h.2 0 e pe rfl rfl
   have hs : (Op.equal kt kv e.key).run P w = .ok (keyEq kp pe.1) w := by
     rcases (zHu hk hkr (hok pe (by simp)) h1).2.2.2 with ⟨d', hd', hn, _⟩ | ⟨_, _, _, _, hs⟩
     · rw [hd] at hd'; cases hd'; rw [hw] at hn; cases hn
     · exact hs w
   cases hq : keyEq kp pe.1 with
   | true =>
     rw [hq] at hs;exact .inr ⟨0, e, pe, rfl, rfl, by simp [Instr.findAsking, hs], by simp [zBB, hq], by simp [zCo, hq], by simp [zEL, hq], hq, fun bs hb => by cases bs with | nil => simp at hb | cons b bs => simp [delB, zE0, hq]⟩
   | false =>
     rw [hq] at hs;have hl := h.1;rcases zJ4 hd hw hk hkr vp w ents es (i + 1) ⟨by simpa using hl, fun j e p h3 h4 => h.2 (j + 1) e p h3 h4⟩ (fun e he => hok e (by simp [he])) with ⟨h3, h4, h5, h6⟩ | ⟨j, e', pe', h3, h4, h5, h6, h7, h8, h9, h9b⟩
     · exact .inl ⟨by simp [Instr.findAsking, hs, h3], by simp [zBB, hq, h4], by simp [zCo, hq, h5], by simp [zEL, hq, h6]⟩
     · exact .inr ⟨j + 1, e', pe', h3, h4, by simp [Instr.findAsking, hs, h5]; omega, by simp [zBB, hq, h6], by simp [zCo, hq, h7], by simp [zEL, hq, h8], h9, fun bs hb => by cases bs with | nil => simp at hb | cons b bs => have hx := h9b bs (by simpa using hb); exact ⟨by simp [delB, hq, hx.1], fun clk => by simp [zE0, hq, hx.2]⟩⟩
theorem zJ2 {kt : TypeId} {kp : PV} {kv : Value} (hk : keyOk P kt kp) (hkr : Rep E kv kp) (vp : PV) (w : World) {ents : List MapEntry} {es : List (PV × PV)} (h : zE9 E ents es) (hok : ∀ e ∈ es, keyOk P kt e.1) :
     ((Instr.findKey kt kv ents).run P w = .ok none w ∧ zBB kp es = none ∧ zCo kp vp es = es ++ [(kp, vp)] ∧ zEL kp es = es) ∨
     (∃ j e pe, ents[j]? = some e ∧ es[j]? = some pe ∧ (Instr.findKey kt kv ents).run P w = .ok (some (j, e.val)) w ∧ zBB kp es = some pe.2 ∧ zCo kp vp es = es.set j (kp, vp) ∧ zEL kp es = es.eraseIdx j ∧ keyEq kp pe.1 = true ∧ ∀ bs : List Nat, bs.length = es.length → delB kp es bs = bs.eraseIdx j ∧ ∀ clk, zE0 kp es bs clk = (bs[j]?).getD clk) := by
 obtain ⟨d, hd⟩ := keyOk_under hk hkr;cases hn : wideD d with
 | false =>
   rcases zJ3 hd hn hk hkr vp ents es 0 h hok with ⟨h1, h2⟩ | ⟨j, e, pe, h1, h2, h3, h4⟩
   · exact .inl ⟨by simp [Instr.findKey, zAD hd, h1], h2⟩
   · exact .inr ⟨j, e, pe, h1, h2, by simp [Instr.findKey, zAD hd, h3], h4⟩
 | true =>
   have hfn : ents ≠ [] → Instr.findNow d kv ents 0 = none := fun hne => by
     cases ents with
     | nil => exact absurd rfl hne
     | cons e l => unfold wideD at hn; split at hn <;> first | rfl | cases hn
   by_cases hne : ents = []
   · subst hne;have : es = [] := List.eq_nil_of_length_eq_zero h.1.symm;subst this;exact .inl ⟨by simp [Instr.findKey, zAD hd, Instr.findNow], rfl, rfl, rfl⟩
   · rcases zJ4 hd hn hk hkr vp w ents es 0 h hok with ⟨h1, h2⟩ | ⟨j, e, pe, h1, h2, h3, h4⟩
     · exact .inl ⟨by simp [Instr.findKey, zAD hd, hfn hne, h1], h2⟩
     · exact .inr ⟨j, e, pe, h1, h2, by simp [Instr.findKey, zAD hd, hfn hne, h3], h4⟩
theorem zEj {r : Nat} {ents : Array MapEntry} {clk : Nat} {w : World} (h : w.heap[r]? = some (.map ents clk)) : (getObj r).run P w = .ok (.map ents clk) w := by
 simp [getObj, Sem.run, h]
theorem zLl (g : Good E) {k : Key} {es : List (PV × PV)} {bs : List Nat} {clk : Nat} (hk : E.h k = some (.map es bs clk)) : ∃ ents, E.w.heap[E.blk k]? = some (.map ents clk) ∧ zE9 E ents.toList es := by
 obtain ⟨ents, h1, h2, h3, h4, _⟩ := g.obj _ _ hk;exact ⟨ents, h1, by simpa using h2, fun i e p h5 h6 => h4 i e p (by simpa using h5) h6⟩
theorem zeroVal_rep {t : TypeId} (h : zF1 P t = true) : ∃ v, (∀ w, (zeroValue t).run P w = .ok v w) ∧ Rep E v (zFZ P t) := by
 unfold zF1 at h;cases hi : P.info? t with
 | none => rw [hi] at h; simp at h
 | some i =>
   rw [hi] at h;simp only [Option.bind_some] at h;cases hz : i.zero with
   | none => rw [hz] at h; simp at h
   | some v =>
     rw [hz] at h;refine ⟨v, fun w => zBy hi hz w, ?_⟩;have hc : zAT P t = some (v.cells.toList.map zI1) := by simp [zAT, hi, hz]
     unfold zFZ;rw [hc];simp only;cases v with
     | agg cs => simp only at h; rw [if_pos h]; exact zGD (.agg cs)
     | tuple vs => simp at h
     | _ =>
       simp only [Bool.not_eq_true'] at h;rw [if_neg (by simp [h])];simpa [Value.cells] using zEn _
theorem ro_lookup (g : Good E) {t : TypeId} {m k : Value} {pm pk : PV} {ok : Bool} (hm : Rep E m pm) (hk : Rep E k pk) (hob : (zBv P E.h t pm pk ok).ob) : RO P E (Instr.lookup t m k ok) (zBv P E.h t pm pk ok) := by
 unfold zBv at hob ⊢;split at hob
 · rename_i kt et hmt;split at hob
   · rename_i key;split at hob
     · rename_i es bs clk hkey;obtain ⟨h1, h2, h3⟩ := hob;cases hm with
       | map hkn hl =>
         obtain ⟨hb, _⟩ := hl _ hkey;subst hb;obtain ⟨ents, h4, h5⟩ := zLl g hkey;obtain ⟨z, hzr, hzrep⟩ := zeroVal_rep (P := P) (E := E) (t := et) h3;rcases zJ2 h1 hk .dead E.w h5 h2 with ⟨h6, h7, _⟩ | ⟨j, e, pe, h6, h7, h8, h9, _⟩
         · have hrun : ∀ b, (Instr.lookup t (.map (some (E.blk key))) k b).run P E.w = .ok (if b then .tuple #[z, .bool false] else z) E.w := fun b => by
             simp only [Instr.lookup, Sem.run_bind, zAD (zDv hmt), Result.andThen_ok, zEj h4, Sem.run_pure, zC3 ents.isEmpty h1 hk, h6, hzr]
           refine ⟨_, hrun ok, ?_, rfl, rfl⟩;cases ok with
           | false => simpa [h7, zEq] using hzrep
           | true =>
             simp only [h7, zEq, Option.getD_none, Option.isSome_none, if_true];refine .tup (by simp) fun i v p h8 h9 => ?_;rcases i with _ | _ | i
             · simp at h8 h9; subst h8; subst h9; exact hzrep
             · simp at h8 h9; subst h8; subst h9; exact .sc rfl
             · simp at h8
         · have hrun : ∀ b, (Instr.lookup t (.map (some (E.blk key))) k b).run P E.w = .ok (if b then .tuple #[e.val, .bool true] else e.val) E.w := fun b => by
             simp only [Instr.lookup, Sem.run_bind, zAD (zDv hmt), Result.andThen_ok, zEj h4, Sem.run_pure, zC3 ents.isEmpty h1 hk, h8]
           have hval := (h5.2 j e pe h6 h7).2;refine ⟨_, hrun ok, ?_, rfl, rfl⟩;cases ok with
           | false => simpa [h9, zEq] using hval
           | true =>
             simp only [h9, zEq, Option.getD_some, Option.isSome_some, if_true];refine .tup (by simp) fun i v p h10 h11 => ?_;rcases i with _ | _ | i
             · simp at h10 h11; subst h10; subst h11; exact hval
             · simp at h10 h11; subst h10; subst h11; exact .sc rfl
             · simp at h10
     · exact hob.elim
   · exact hob.elim
 · exact hob.elim
theorem sameBits_key {kt : TypeId} {p q : PV} {v u : Value} (h : keyOk P kt p) (hr : Rep E v p) (h' : keyOk P kt q) (hr' : Rep E u q) (he : keyEq p q = true) : Instr.sameBits 10000 u v = true := (zHu h hr h' hr').2.2.1 he 9999
theorem zJX (w : World) (b : Nat) (o : Obj) (x : Nat) : ({ w with heap := w.heap.setIfInBounds b o } : World).heap[x]? = if b = x ∧ x < w.heap.size then some o else w.heap[x]? := by
 show (w.heap.setIfInBounds b o)[x]? = _;rw [Array.getElem?_setIfInBounds];by_cases h : b = x
 · subst h;by_cases h2 : b < w.heap.size
   · simp [h2]
   · simp [h2]
 · simp [h]
theorem zHc {r : Nat} {ents ents' : Array MapEntry} {clk clk' : Nat} {w : World} (h : w.heap[r]? = some (.map ents clk)) : (setObj r (.map ents' clk')).run P w = .ok () { w with heap := w.heap.setIfInBounds r (.map ents' clk') } := by
 simp [setObj, Sem.run, h]
theorem zFw {k : PV} : ∀ {es : List (PV × PV)}, zBB k es = none → ∀ e ∈ es, keyEq k e.1 = false
 | [], _, e, he => by simp at he
 | x :: es, h, e, he => by
   unfold zBB at h;split at h
   · cases h
   · rename_i hx;rcases List.mem_cons.1 he with rfl | he
     · simpa using hx
     · exact zFw h e he
theorem keyEq_same {kt : TypeId} {p q : PV} {v : Value} (hp : keyOk P kt p) (hv : Rep E v p) (hq : keyOk P kt q) (hv' : Rep E v q) : keyEq p q = true := (zHu hp hv hq hv').2.1 rfl
theorem keyEq_val {kt : TypeId} {p q : PV} {v v' : Value} (hp : keyOk P kt p) (hv : Rep E v p) (hq : keyOk P kt q) (hv' : Rep E v' q) (h : keyEq p q = true) : v' = v := ((zHu hp hv hq hv').1 h).symm
theorem stamps_push {ents : Array MapEntry} {clk : Nat} {k v : Value} (h : zIa ents clk) (hk : ∀ x ∈ ents.toList, x.key = k → False) : zIa (ents.push { key := k, val := v, born := clk }) (clk + 1) := by
 obtain ⟨h1, h2, h3⟩ := h;refine ⟨fun x hx => ?_, ?_, ?_⟩
 · rw [Array.toList_push] at hx;rcases List.mem_append.1 hx with hx | hx
   · have := h1 x hx; omega
   · simp at hx; subst hx; exact Nat.lt_succ_self _
 · rw [Array.toList_push, List.map_append, List.nodup_append];refine ⟨h2, by simp, fun a ha b hb => ?_⟩;obtain ⟨x, hx, rfl⟩ := List.mem_map.1 ha;simp at hb; subst hb;have := h1 x hx; omega
 · rw [Array.toList_push, List.map_append, List.nodup_append];refine ⟨h3, by simp, fun a ha b hb => ?_⟩;obtain ⟨x, hx, rfl⟩ := List.mem_map.1 ha;simp at hb; subst hb;exact fun he => hk x hx he
theorem stamps_modify {ents : Array MapEntry} {clk j : Nat} {k v : Value} {e : MapEntry} (h : zIa ents clk) (he : ents[j]? = some e) (hk : e.key = k) : zIa (ents.modify j fun e => { e with key := k, val := v }) clk := by
 obtain ⟨h1, h2, h3⟩ := h
 have hget : ∀ (i : Nat) (x : MapEntry), (ents.modify j fun e => { e with key := k, val := v })[i]? = some x → ∃ y, ents[i]? = some y ∧ y.born = x.born ∧ y.key = x.key := fun i x hx => by
   rw [Array.getElem?_modify] at hx;split at hx
   · rename_i hji;subst hji;rw [he] at hx;simp at hx; subst hx;exact ⟨e, he, rfl, hk⟩
   · exact ⟨x, hx, rfl, rfl⟩
 have hmap : ∀ {β : Type} (f : MapEntry → β), (∀ x y : MapEntry, y.born = x.born → y.key = x.key → f y = f x) → ((ents.modify j fun e => { e with key := k, val := v }).toList.map f) = ents.toList.map f := fun f hf => by
   apply List.ext_getElem?;intro i;simp only [List.getElem?_map, Array.getElem?_toList];cases hx : (ents.modify j fun e => { e with key := k, val := v })[i]? with
   | none =>
     have : ents[i]? = none := by
       rw [Array.getElem?_eq_none_iff] at hx ⊢;simpa using hx
     rw [this]
   | some x =>
     obtain ⟨y, hy, hb, hky⟩ := hget i x hx;rw [hy];simp [hf x y hb hky]
 refine ⟨fun x hx => ?_, ?_, ?_⟩
 · obtain ⟨i, hi⟩ := List.mem_iff_getElem?.1 hx;obtain ⟨y, hy, hb, _⟩ := hget i x (by rw [← Array.getElem?_toList]; exact hi);rw [← hb];exact h1 y (by simpa using Array.mem_of_getElem? hy)
 · rw [hmap (·.born) fun x y h _ => h]; exact h2
 · rw [hmap (·.key) fun x y _ h => h]; exact h3
theorem borns_modify {k v : Value} (ents : Array MapEntry) (j : Nat) : ((ents.modify j fun e => { e with key := k, val := v }).toList.map (·.born)) = ents.toList.map (·.born) := by
 apply List.ext_getElem?;intro i;simp only [List.getElem?_map, Array.getElem?_toList, Array.getElem?_modify];split
 · cases ents[i]? <;> rfl
 · rfl
theorem ok_mapUpdate (g : Good E) {site : Nat} {t : TypeId} {m k v : Value} {pm pk pv : PV} {run : Result Next} (hm : Rep E m pm) (hk : Rep E k pk) (hv : Rep E v pv)
   (hrun : run = ((Instr.mapUpdate t m k v).run P E.w).andThen fun _ w' => .ok .skip w')
   (hob : (zBI P E.h t pm pk pv).ob) : OpOK P E site run (zBI P E.h t pm pk pv) := by
 unfold zBI at hob ⊢;split at hob
 · rename_i kt et hmt;split at hob
   · rename_i key;split at hob
     · rename_i es bs clk hkey;obtain ⟨h1, h2, h3⟩ := hob;cases hm with
       | map hkn hl =>
         obtain ⟨hb, _⟩ := hl _ hkey;subst hb;obtain ⟨ents, h4, h5⟩ := zLl g hkey;obtain ⟨ents0, h4', _, hcell, _, hst0, hbs0⟩ := g.obj _ _ hkey;have hst : zIa ents clk := by rw [h4] at h4'; cases h4'; exact hst0
         have hbs : bs = ents.toList.map (·.born) := by rw [h4] at h4'; cases h4'; exact hbs0
         have hlt := zBL g hkey
         have main : ∀ (ents' : Array MapEntry) (clk' : Nat) (esn : List (PV × PV)), (Instr.mapUpdate t (.map (some (E.blk key))) k v).run P E.w = .ok () { E.w with heap := E.w.heap.setIfInBounds (E.blk key) (.map ents' clk') } →
             ents'.size = esn.length → (∀ p ∈ esn, mval p.2 = true) → (∀ (i : Nat) (e : MapEntry) (p : PV × PV), ents'[i]? = some e → esn[i]? = some p → Rep E e.key p.1 ∧ Rep E e.val p.2) → zIa ents' clk' → esn = zCo pk pv es → stB pk es bs clk = ents'.toList.map (·.born) → stC pk es clk = clk' →
             OpOK P E site run { ob := keyOk P kt pk ∧ (∀ e ∈ es, keyOk P kt e.1) ∧ mval pv = true, wr := [(key, some (.map (zCo pk pv es) (stB pk es bs clk) (stC pk es clk)))], rd := [key] } := fun ents' clk' esn hr hsize hcells hrep hstn he hB hC => by
           subst he;rw [hB, hC];let w' : World := { E.w with heap := E.w.heap.setIfInBounds (E.blk key) (.map ents' clk') }
           have hb : ∀ b, b ≠ E.blk key → w'.heap[b]? = E.w.heap[b]? := fun b hb => by
             rw [zJX, if_neg (by intro h; exact hb h.1.symm)]
           have hsz : E.w.heap.size ≤ w'.heap.size := by simp [w']
           have hal : (PObj.map es bs clk).alike (.map (zCo pk pv es) (ents'.toList.map (·.born)) clk') := trivial;have hle := zFc (w' := w') g hkey hal hsz hb
           have hobj : ObjOK (zCR E key (.map (zCo pk pv es) (ents'.toList.map (·.born)) clk') w') key (.map (zCo pk pv es) (ents'.toList.map (·.born)) clk') := by
             refine ⟨ents', ?_, hsize, hcells, fun i e p h6 h7 => ⟨(hrep i e p h6 h7).1.le hle, (hrep i e p h6 h7).2.le hle⟩, hstn, rfl⟩;show w'.heap[E.blk key]? = _;rw [zJX, if_pos ⟨rfl, hlt⟩]
           refine ⟨undef, w', E.blk, E.cap, .inr ⟨by rw [hrun, hr]; rfl, rfl⟩, ?_⟩;exact ⟨zED g hkey hal hsz hb hobj, hle, zFj g hkey hsz hb rfl rfl rfl, .dead⟩
         have hlen : ents.size = es.length := by simpa using h5.1
         rcases zJ2 h1 hk pv E.w h5 h2 with ⟨h6, h7, h8, _⟩ | ⟨j, e, pe, h6, h7, h8, h9, h10, _, h11, _⟩
         · refine main (ents.push { key := k, val := v, born := clk }) (clk + 1) (es ++ [(pk, pv)]) ?_ (by simp [hlen]) ?_ ?_ (stamps_push hst fun x hx hxk => ?_) h8.symm (by simp [stB, h7, hbs]) (by simp [stC, h7])
           · simp only [Instr.mapUpdate, Sem.run_bind, zAD (zDv hmt), Result.andThen_ok, zEj h4, zC3 false h1 hk, h6, zHc h4]
           · intro p hp;rcases List.mem_append.1 hp with h | h
             · exact hcell p h
             · simp at h; subst h; exact h3
           · intro i e p h9 h10;rw [Array.getElem?_push] at h9;split at h9
             · rename_i hi;cases h9;rw [hi, hlen] at h10;simp at h10; subst h10;exact ⟨hk, hv⟩
             · have hi := (Array.getElem?_eq_some_iff.1 h9).1;rw [List.getElem?_append_left (by omega)] at h10;exact h5.2 i e p (by simpa using h9) h10
           · obtain ⟨i, hi⟩ := List.mem_iff_getElem?.1 hx;have hil : i < es.length := by rw [← h5.1]; exact (List.getElem?_eq_some_iff.1 hi).1
             have hr1 := (h5.2 i x _ hi (List.getElem?_eq_getElem hil)).1;have hne := zFw h7 _ (List.getElem_mem hil);rw [hxk] at hr1;have := keyEq_same h1 hk (h2 _ (List.getElem_mem hil)) hr1;rw [hne] at this; cases this
         · have hje : ents[j]? = some e := by simpa using h6
           have hold := (h5.2 j e pe h6 h7).1;have hsb := sameBits_key (P := P) (E := E) h1 hk (h2 pe (List.mem_of_getElem? h7)) hold h11;refine main (ents.modify j fun e => { e with key := k, val := v }) clk (es.set j (pk, pv)) ?_ (by simp [hlen]) ?_ ?_ (stamps_modify hst hje (keyEq_val h1 hk (h2 pe (List.mem_of_getElem? h7)) hold h11)) h10.symm (by rw [stB, h9]; simp only [Option.isSome_some, if_true]; rw [hbs]; exact (borns_modify ents j).symm) (by simp [stC, h9])
           · simp only [Instr.mapUpdate, Sem.run_bind, zAD (zDv hmt), Result.andThen_ok, zEj h4, zC3 false h1 hk, h8, hje, Option.map_some, Option.getD_some, Instr.keyThatStays, hsb, if_true, Sem.run_pure, zHc h4]
           · intro p hp;rcases List.mem_or_eq_of_mem_set hp with h | h
             · exact hcell p h
             · subst h; exact h3
           · intro i e' p h12 h13;rw [Array.getElem?_modify] at h12;rw [List.getElem?_set] at h13;by_cases hi : j = i
             · subst hi;have hjl : j < es.length := (List.getElem?_eq_some_iff.1 h7).1;rw [if_pos rfl, hje] at h12;rw [if_pos rfl, if_pos hjl] at h13;simp at h12; cases h13; subst h12;exact ⟨hk, hv⟩
             · rw [if_neg hi] at h12;rw [if_neg hi] at h13;exact h5.2 i e' p (by simpa using h12) h13
     · exact hob.elim
   · exact hob.elim
 · exact hob.elim
theorem ok_mapEntry (g : Good E) {site : Nat} {t : TypeId} {m k : Value} {pm pk : PV} {run : Result Next} (hm : Rep E m pm) (hk : Rep E k pk)
   (hrun : run = ((Instr.mapEntry t m k).run P E.w).andThen fun v w' => .ok (.value v) w')
   (hob : (zBE P E.h t pm pk).ob) : OpOK P E site run (zBE P E.h t pm pk) := (show False from hob).elim
theorem ok_entryStore (g : Good E) {site : Nat} {t : TypeId} {m s v : Value} {pm ps pv : PV} {run : Result Next} (hm : Rep E m pm) (hs : Rep E s ps) (hv : Rep E v pv)
   (hrun : run = ((Instr.entryStore t m s v).run P E.w).andThen fun _ w' => .ok .skip w')
   (hob : (zCK E.h pm ps pv).ob) : OpOK P E site run (zCK E.h pm ps pv) := (show False from hob).elim
theorem ok_mapDelete (g : Good E) {site : Nat} {t : TypeId} {ts : Array TypeId} {as : Array Value} {ty : TypeId} {m k : Value} {pm pk : PV} {run : Result Next} (hts : ts[0]? = some t) (ham : as[0]? = some m) (hak : as[1]? = some k) (hm : Rep E m pm) (hk : Rep E k pk)
   (hrun : run = ((Builtin.delete_ ts ty as).run P E.w).andThen fun v w' => .ok (.value v) w')
   (hob : (zC7 P E.h t pm pk).ob) : OpOK P E site run (zC7 P E.h t pm pk) := (show False from hob).elim
theorem ok_makeMap (g : Good E) {site : Nat} {run : Result Next} {e : Eff}
   (hrun : run = .ok (.value (.map (some E.w.heap.size))) { E.w with heap := E.w.heap.push (.map #[] 0) }) (hv : e.v = .map (site, E.cnt site)) (hwr : e.wr = [((site, E.cnt site), some (.map [] [] 0))]) (hb : e.bump = true) : OpOK P E site run e := by
 refine OpOK.new g (o := .map [] [] 0) (w' := { E.w with heap := E.w.heap.push (.map #[] 0) }) (c := 0) hrun rfl rfl rfl rfl hwr hb ?_ ?_
 · refine ⟨#[], ?_, rfl, by simp, by simp, ⟨by simp, by simp, by simp⟩, rfl⟩;rw [show (zA2 E site (.map [] [] 0) { E.w with heap := E.w.heap.push (.map #[] 0) } 0).blk (site, E.cnt site) = E.w.heap.size by simp [zA2]];show (E.w.heap.push _)[E.w.heap.size]? = _;simp
 · rw [hv];refine .map (by simp [zA2, Env.known]) fun o ho => ?_;simp [zA2] at ho ⊢;rw [← ho]; rfl
theorem OpOK.frozen (g : Good E) {site : Nat} {run : Result Next} {e : Eff} {v : Value} {w' : World} {obj : Obj} (hrun : run = .ok (.value v) w') (hh : w'.heap = E.w.heap.push obj)
   (h1 : w'.os = E.w.os) (h2 : w'.tape = E.w.tape) (h3 : w'.output = E.w.output) (hwr : e.wr = []) (hb : e.bump = false) (hv : Rep { E with w := w' } v e.v) : OpOK P E site run e := by
 have he : ({ E with w := w', h := zAZ E.h e.wr, cnt := bumpC E.cnt site e.bump, blk := E.blk, cap := E.cap } : Env) = { E with w := w' } := by rw [hwr, hb]; rfl
 have hblk : ∀ b, b < E.w.heap.size → w'.heap[b]? = E.w.heap[b]? := fun b hb => by rw [hh, Array.getElem?_push, if_neg (by omega)]
 have hle : EnvLe E { E with w := w' } := ⟨fun b hb _ => hblk b hb, by simp [hh], fun b hb => .inl hb, rfl, rfl, rfl, fun _ => Nat.le_refl _, fun _ _ h => h, fun _ _ rs h => .inr ⟨rs, h, rfl, rfl⟩, fun _ o h _ => .inr ⟨o, h, rfl, rfl⟩⟩
 refine ⟨v, w', E.blk, E.cap, .inl hrun, ?_⟩;rw [he];exact ⟨⟨g.inj, g.known, g.base, fun k o h => ObjOK.le hle rfl rfl (hblk _ (zBL g h)) (g.obj k o h), g.out, by simp only [hh, Array.size_push]; exact Nat.le_trans g.size (by omega), zCr g.glob (Nat.le_refl _) fun b hb' => hblk b (Nat.lt_of_lt_of_le hb' g.size)⟩, hle, zFT g hh h1 h2 h3, hv⟩
theorem freeze_new (w : World) (c : Array Value) (T : TypeId) : ((w.alloc (.cells c T)).freeze { block := w.heap.size, off := c.size } 1).heap = w.heap.push (.cells c T (c.size, c.size + 1)) := by
 simp only [World.freeze, Nat.one_ne_zero, if_false, World.alloc];apply Array.ext_getElem?;intro i;rw [Array.getElem?_modify, Array.getElem?_push, Array.getElem?_push];by_cases h : i = w.heap.size
 · subst h; simp
 · rw [if_neg (fun e => h e.symm), if_neg h, if_neg h]
theorem ok_conv (g : Good E) {site : Nat} {s d : TypeId} {x : Value} {p : PV} {run : Result Next} (hx : Rep E x p) (hrun : run = ((convert s d x).run P E.w).andThen fun v w' => .ok (.value v) w')
   (hob : (zEw P s d p).ob) : OpOK P E site run (zEw P s d p) := by
 by_cases hs : ∀ b, p = .sc (.string b) → zAW P d = true
 · obtain ⟨v, h1, h2, h3, h4⟩ := ro_conv (P := P) hx hs hob;exact OpOK.pure g (by rw [hrun, h1]; rfl) h2 h3 h4
 · obtain ⟨b, hb⟩ : ∃ b, p = .sc (.string b) ∧ zAW P d = false := by
     refine Classical.byContradiction fun hn => hs fun b hb => ?_;cases hq : zAW P d with
     | true => rfl
     | false => exact absurd ⟨b, hb, hq⟩ hn
   obtain ⟨rfl, hd⟩ := hb;obtain rfl := hx.sc_inv;unfold zEw at hob ⊢;simp only [hd, Bool.false_eq_true, if_false] at hob ⊢;split at hob
   · rename_i hc;rw [if_pos hc];have hob' : zAW P s = true := hob;simp only [Bool.and_eq_true, beq_iff_eq] at hc;obtain ⟨hu, hok⟩ := zBa hc.1;have hk := zBN hc.2;let cap := (Question.appendCap b.size 0 (zAu P d)).cut (E.w.tape E.w.drawn (.appendCap b.size 0 (zAu P d)));let cells : Array Value := b.data.map (fun c => Value.int .u8 c.toNat) ++ Array.replicate (cap - b.size) (.int .u8 0);let w' : World := (E.w.drew.alloc (.cells cells (zAu P d))).freeze { block := E.w.heap.size, off := cells.size } 1;have hcap : b.size ≤ cap := by simp [cap, Question.cut]
     have hfz : w'.heap = E.w.heap.push (.cells cells (zAu P d) (cells.size, cells.size + 1)) := by
       exact freeze_new (E.w.drew) cells (zAu P d)
     have hsh : (E.w.drew.alloc (.cells cells (zAu P d))).shape? E.w.heap.size = some (zAu P d, cells.size) := by
       have : (E.w.drew.alloc (.cells cells (zAu P d))).heap[E.w.heap.size]? = some (.cells cells (zAu P d)) := by
         show (E.w.heap.push _)[E.w.heap.size]? = _;simp
       unfold World.shape?;rw [this]
     have hr : (convert s d (.string b)).run P E.w = .ok (.slice (some ⟨E.w.heap.size, 0, none⟩) b.size cap) w' := by
       have hst : (Conv.stringToBytes (zAu P d) b).run P E.w = .ok (.slice (some ⟨E.w.heap.size, 0, none⟩) b.size cap) w' := by
         have hnr : (newRow (zAu P d) cells).run P E.w.drew = .ok ⟨E.w.heap.size, 0, none⟩ (E.w.drew.alloc (.cells cells (zAu P d))) := rfl
         have hms : (markStringish ⟨E.w.heap.size, 0, none⟩).run P (E.w.drew.alloc (.cells cells (zAu P d))) = .ok () w' := by
           simp only [markStringish, Sem.run_bind, run_shape, Result.andThen_ok, hsh];rfl
         simp only [Conv.stringToBytes, Sem.run_bind, run_choose, Question.forced, Bool.false_eq_true, if_false, Result.andThen_ok];show ((newRow (zAu P d) cells).run P E.w.drew).andThen _ = _;rw [hnr];simp only [Result.andThen_ok, hms, Sem.run_pure];rfl
       simp only [convert, Sem.run_bind, zAD (zA6 hob'), zAD hu, Result.andThen_ok, zAD hk];exact hst
     refine OpOK.frozen g (w' := w') (by rw [hrun, hr]; rfl) hfz rfl rfl rfl rfl rfl ?_;have hown : ¬ ({ E with w := w' } : Env).own E.w.heap.size := fun ⟨k, o, h1, h2⟩ => by have := zBL g h1; have h2' : E.blk k = E.w.heap.size := h2; omega
     have hM : ¬ E.M E.w.heap.size := fun h => by have := g.out _ h; have := g.size; omega
     have hcell : ∀ x, w'.cell? ⟨E.w.heap.size, x, none⟩ = cells[x]? := fun x => by
       have : w'.heap[E.w.heap.size]? = some (.cells cells (zAu P d) (cells.size, cells.size + 1)) := by rw [hfz]; simp
       exact zCC this x
     have hlen : (zBX b.data.toList).length = b.size := by simp [zBX]
     have := Rep.lit (E := { E with w := w' }) (b := E.w.heap.size) (off := 0) (c := cap) (t := false) (sz := 1) (rows := zBX b.data.toList) (f := fun i _ => .int .u8 ((b.data.toList.getD i 0).toNat))
       ⟨hown, fun _ => hM, (fun h => by cases h), by simp [hfz], (fun row h => by simp [zBX] at h; obtain ⟨x, _, rfl⟩ := h; rfl), (fun i j row p h1 h2 => by
         simp [zBX] at h1;obtain ⟨c, h3, rfl⟩ := h1
         have hi : i < b.size := by
           have := (Array.getElem?_eq_some_iff.1 h3).1; simpa using this
         cases j with
         | zero =>
           simp only [Nat.zero_add, Nat.mul_one, Nat.add_zero];rw [hcell];simp only [cells];rw [Array.getElem?_append_left (by simpa using hi)];simp [h3]
         | succ j => simp at h2), (fun row h p hp => by simp [zBX] at h; obtain ⟨x, _, rfl⟩ := h; simp at hp; subst hp; exact .sc _), (fun row h p hp => by simp [zBX] at h; obtain ⟨x, _, rfl⟩ := h; simp at hp; subst hp; rfl)⟩
       (by rw [hlen]; exact hcap) (fun i j row p h1 h2 => by
         simp [zBX] at h1;obtain ⟨c, h3, rfl⟩ := h1;cases j with
         | zero => simp at h2; subst h2; simp [h3]; exact .sc rfl
         | succ j => simp at h2)
     rw [hlen] at this;exact this
   · rename_i hc; exact hob.elim
theorem zFQ {rs : Rows} : ∀ {n off : Nat} {l : List Int}, zGk rs off n = some l → l.length = n ∧ ∀ j, j < n → zCZ rs (off + j) 0 = .sc (.int .u8 (l.getD j 0))
 | 0, off, l, h => by unfold zGk at h; injection h with h; subst h; exact ⟨rfl, fun j hj => by omega⟩
 | n + 1, off, l, h => by
   unfold zGk at h;split at h
   · rename_i v hv;obtain ⟨l', h1, rfl⟩ := Option.map_eq_some_iff.1 h;obtain ⟨h2, h3⟩ := zFQ h1;refine ⟨by simp [h2], fun j hj => ?_⟩;cases j with
     | zero => exact hv
     | succ j => have := h3 j (by omega); rw [show off + (j + 1) = off + 1 + j by omega]; simpa using this
   · cases h
theorem ok_convH (g : Good E) {site : Nat} {s d : TypeId} {x : Value} {p : PV} {run : Result Next} (hx : Rep E x p) (hrun : run = ((convert s d x).run P E.w).andThen fun v w' => .ok (.value v) w')
   (hob : (zDE P E.h s d p).ob) : OpOK P E site run (zDE P E.h s d p) := by
 unfold zDE at hob ⊢;split at hob
 · rename_i k sz off n;split at hob
   · rename_i rs hk;split at hob
     · rename_i l hl;have hob' : (zAN P s && (zBm P (zAu P s) == some .u8) && zAW P d && Nat.ble 1 n) = true := hob;simp only [Bool.and_eq_true, beq_iff_eq, Nat.ble_eq] at hob';obtain ⟨⟨⟨h1, h2⟩, h3⟩, h4⟩ := hob';obtain ⟨hu, hok⟩ := zBa h1;have hkd := zBN h2;have hd := zA6 h3;obtain ⟨hlen, hcells⟩ := zFQ hl;cases hx with
       | refE hkn hlx => omega
       | @ref b a _ _ _ _ c hkn hlen' hlx =>
         obtain ⟨⟨rfl, rfl⟩, hcap, rs', hq⟩ := hlx _ hk;cases hq;obtain ⟨cs, T, hheap, hsz, hle, h1', hw, hc, hcell⟩ := g.obj _ _ hk;refine OpOK.pure g (v := .string (strOfNums l)) ?_ (.sc rfl) rfl rfl;rw [hrun, run_convert_bytes_arg E.w s _ hu hkd (E.blk k) ((E.cap k).2 + off * 1) n c l hlen (fun i hi => ?_) d hd]
         · rfl
         · have h5 := hcells i hi;unfold zCZ at h5
           have h6 : ∃ row, rs[off + i]? = some row ∧ row[0]? = some (.sc (.int .u8 (l.getD i 0))) := by
             cases hr : rs[off + i]? with
             | none => simp [List.getD_eq_getElem?_getD, hr] at h5
             | some row =>
               refine ⟨row, rfl, ?_⟩;cases hr0 : row[0]? with
               | none => simp [List.getD_eq_getElem?_getD, hr, hr0] at h5
               | some q => simp only [List.getD_eq_getElem?_getD, hr, hr0, Option.getD_some] at h5; rw [h5]; simp [List.getD_eq_getElem?_getD]
           obtain ⟨row, h7, h8⟩ := h6;obtain ⟨v, h9, h10⟩ := hcell (off + i) 0 row _ h7 h8;rw [zCC hheap];have h11 := h10.sc_inv;subst h11;rw [← h9]; congr 1; omega
     · exact hob.elim
   · exact hob.elim
 · exact ok_conv g hx hrun hob
theorem ok_range (g : Good E) {site : Nat} {t : TypeId} {x : Value} {p : PV} {run : Result Next} (hx : Rep E x p) (hrun : run = ((Instr.range t x).run P E.w).andThen fun v w' => .ok (.value v) w')
   (hob : (zGu P E.h (site, E.cnt site) t p).ob) : OpOK P E site run (zGu P E.h (site, E.cnt site) t p) := (show False from hob).elim
theorem ro_next (g : Good E) {x : Value} {p : PV} {s : Bool} {ty : TypeId} (hx : Rep E x p) (hob : (zIw E.h p s).ob) : RO P E (Instr.next x s ty) (zIw E.h p s) := (show False from hob).elim
theorem ro_entry (g : Good E) {x : Value} {p : PV} (hx : Rep E x p) (hob : (zGU E.h p).ob) : RO P E (Instr.entry x) (zGU E.h p) := (show False from hob).elim
end
end Go.Pv
namespace Go.Pv
open Go Go.RowKit
section
variable {P : Program} {E : Env}
theorem ok_clear (g : Good E) {site : Nat} {t : TypeId} {ts : Array TypeId} {as : Array Value} {ty : TypeId} {v : Value} {p : PV} {run : Result Next} (hts : ts[0]? = some t) (has : as[0]? = some v) (hv : Rep E v p)
   (hrun : run = ((Builtin.clear_ ts ty as).run P E.w).andThen fun v w' => .ok (.value v) w') (hob : (zH6 P E.h t p).ob) : OpOK P E site run (zH6 P E.h t p) := (show False from hob).elim
theorem ok_copy (g : Good E) {site : Nat} {t : TypeId} {ts : Array TypeId} {as : Array Value} {ty : TypeId} {vd vx : Value} {s x : PV} {run : Result Next} (hts : ts[0]? = some t) (had : as[0]? = some vd) (hax : as[1]? = some vx) (hd : Rep E vd s) (hx : Rep E vx x)
   (hrun : run = ((Builtin.copy_ ts ty as).run P E.w).andThen fun v w' => .ok (.value v) w') (hob : (zIV P E.h t s x).ob) : OpOK P E site run (zIV P E.h t s x) := (show False from hob).elim
theorem zBH (g : Good E) {site : Nat} {s : Sem Value} {e : Eff} {run : Result Next} (h : RO P E s e) (hrun : run = (s.run P E.w).andThen fun v w' => .ok (.value v) w') : OpOK P E site run e := by
 obtain ⟨v, h1, h2, h3, h4⟩ := h;exact OpOK.pure g (by rw [hrun, h1]; rfl) h2 h3 h4
theorem run_v (s : Sem Value) (w : World) : (do pure (.value (← s)) : Sem Next).run P w = (s.run P w).andThen fun v w' => .ok (.value v) w' := by
 rw [Sem.run_bind]; rfl
theorem run_u (s : Sem Unit) (w : World) : (do s; pure .skip : Sem Next).run P w = (s.run P w).andThen fun _ w' => .ok .skip w' := by
 rw [Sem.run_bind]; rfl
theorem zLD {ρv : Operand → Value} {ρ : Operand → PV} {x : Option Operand} (h : ∀ y, x = some y → Rep E (ρv y) (ρ y)) : zFX E (x.map ρv) (x.map ρ) := by
 cases x with
 | none => exact .inl ⟨rfl, rfl⟩
 | some y => exact .inr ⟨_, _, rfl, rfl, h y rfl⟩
theorem eqGuard_run {op : BinOp} {t : TypeId} {x y : Operand} {a b : Value} {p q : PV} (ha : Rep E a p) (hb : Rep E b q) (hob : (zBQ P op t p q).ob) (w : World) : (eqGuard op t x y a b).run P w = .ok () w := by
 have main : ∀ n : Bool, (eqBin P n t p q).ob → (eqGuard op t x y a b).run P w = .ok () w := fun n h => by
   unfold eqBin at h;split at h
   · obtain rfl := ha.sc_inv; rw [eqGuard_at_bool]; rfl
   · cases ha with
     | agg _ _ => cases hb with
       | agg _ _ => exact run_eqGuard_agg w op t x y _ _ h.1
   · exact h.elim
 unfold zBQ at hob;split at hob
 · obtain rfl := ha.sc_inv; rw [eqGuard_at_int]; rfl
 · obtain rfl := ha.sc_inv; rw [eqGuard_at_string]; rfl
 · split at hob
   · exact main _ hob
   · exact main _ hob
   · exact hob.elim
theorem eqGuard_runN {op : BinOp} {t : TypeId} {n : Bool} {x y : Operand} {a b : Value} {p q : PV} (ha : Rep E a p) (hb : Rep E b q) (hob : (zBl P op t n p q).ob) (w : World) : (eqGuard op t x y a b).run P w = .ok () w := by
 unfold zBl at hob;split at hob
 · cases ha with
   | lit hm hc hr => rw [eqGuard_at_slice]; rfl
 · cases ha with
   | ref hk hlen hl => rw [eqGuard_at_slice]; rfl
 · exact eqGuard_run ha hb hob w
theorem zGc {a : Act} {y : Operand} (h : zHW y = true) : a.eval y = .slice none 0 0 := by
 unfold zHW at h;split at h
 · rfl
 · cases h
theorem zIU (g : Good E) {a : Act} {ρ : Operand → PV} {o : Oper} {site : Nat} (hρ : ∀ x ∈ o.op.operands, Rep E (a.eval x) (ρ x))
   (hob : (eff P ρ E.h (site, E.cnt site) o.op).ob) : OpOK P E site ((execOp a.eval o).run P E.w) (eff P ρ E.h (site, E.cnt site) o.op) := by
 obtain ⟨dst, op, type, pos, after, guard⟩ := o;cases op <;> simp only [eff] at hob ⊢ <;> simp only [execOp]
 case move x => exact OpOK.pure g rfl (hρ x (by simp [Op.operands])) rfl rfl
 case assign x => exact OpOK.pure g rfl (hρ x (by simp [Op.operands])) rfl rfl
 case pick c x y =>
   refine zBH g (ro_pick (hρ c (by simp [Op.operands])) (hρ x (by simp [Op.operands])) (hρ y (by simp [Op.operands])) hob) ?_;cases a.eval c <;> rfl
 case alloc t =>
   split at hob
   · rename_i z hz;obtain ⟨v, i, hi, hzv, hzr, hzl⟩ := zDq (E := E) hz;refine zJF g (T := t) ?_ hzr hob;rw [run_v];simp only [Instr.alloc, Sem.run_bind, zBy hi hzv, Result.andThen_ok];rfl
   · exact hob.elim
 case box t x =>
   have hx := hρ x (by simp [Op.operands]);have hc : (zBf (ρ x)).all PV.cell = true := hob.1;obtain ⟨h1, h2⟩ := zEy hx hc;refine zJF g (T := t) ?_ (.agg h1 h2) hob;rw [run_v]; rfl
 case build t parts =>
   have hr : RO P E (Instr.build t (parts.toList.map fun p => (p.1, a.eval p.2)).toArray) (zDf P t (parts.toList.map fun p => (p.1, ρ p.2))) := by
     refine ro_build (by simp) (fun i x y h1 h2 => ?_) hob;rw [List.getElem?_map, Option.map_eq_some_iff] at h1 h2;obtain ⟨p, h3, rfl⟩ := h1;obtain ⟨q, h4, rfl⟩ := h2;rw [h3] at h4; cases h4;exact ⟨rfl, hρ _ (by simp only [Op.operands]; simp; exact ⟨p.1, by have := List.mem_of_getElem? h3; simpa using this⟩)⟩
   refine zBH g hr ?_;rw [run_v];congr 2;congr 1;apply Array.ext';simp
 case buildSlice t n parts =>
   refine ok_buildSlice g (parts := parts.toList.map fun p => (p.1, a.eval p.2)) (by simp) (fun i x y h1 h2 => ?_) ?_ hob
   · rw [List.getElem?_map, Option.map_eq_some_iff] at h1 h2;obtain ⟨p, h3, rfl⟩ := h1;obtain ⟨q, h4, rfl⟩ := h2;rw [h3] at h4; cases h4;exact ⟨rfl, hρ _ (by simp only [Op.operands]; simp; exact ⟨p.1, by have := List.mem_of_getElem? h3; simpa using this⟩)⟩
   · rw [run_v];congr 2;congr 1;apply Array.ext';simp
 case load t x => exact zBH g (zKU g (hρ x (by simp [Op.operands])) hob) (run_v _ _)
 case store t x y => exact ok_store g (hρ x (by simp [Op.operands])) (hρ y (by simp [Op.operands])) (run_u _ _) hob
 case nilCheck x =>
   have hx := hρ x (by simp [Op.operands]);split at hob
   · rename_i k sz i j hp;rw [hp] at hx;generalize hv : a.eval x = v at hx ⊢;cases hx with
     | ptr hk hl => exact OpOK.pure g rfl (.ptr hk hl) rfl rfl
   · rename_i t sz rs i j hp;rw [hp] at hx;generalize hv : a.eval x = v at hx ⊢;cases hx with
     | lptr _ _ hm hr => exact OpOK.pure g rfl (.lptr _ _ hm hr) rfl rfl
   · exact hob.elim
 case binOp op t x y yt =>
   have hx := hρ x (by simp [Op.operands]);have hy := hρ y (by simp [Op.operands]);refine zBH g (ro_binN (fun h => zGc h) hx hy hob) ?_;rw [run_v, Sem.run_bind, eqGuard_runN hx hy hob];rfl
 case unOp op t x => exact zBH g (ro_un (hρ x (by simp [Op.operands])) hob) (run_v _ _)
 case convert s d x => exact ok_convH g (hρ x (by simp [Op.operands])) (run_v _ _) hob
 case makeFunc fn first cap =>
   refine OpOK.pure g (v := .func fn (first.map a.eval) (cap.map a.eval)) rfl ?_ rfl rfl;refine .func (by simp) (by simp) (fun i v p h1 h2 => ?_) (fun i v p h1 h2 => ?_)
   all_goals
     simp at h1 h2;obtain ⟨x, h3, rfl⟩ := h1;obtain ⟨y, h4, rfl⟩ := h2;rw [h3] at h4; cases h4;exact hρ x (by simp only [Op.operands]; have := Array.mem_of_getElem? h3; simp [this])
 case makeMap t r =>
   cases r with
   | none => exact ok_makeMap g (by rw [run_v]; rfl) rfl rfl rfl
   | some x => simp at hob
 case makeSlice t l c => exact ok_makeSlice g (hρ l (by simp [Op.operands])) (hρ c (by simp [Op.operands])) (run_v _ _) hob
 case slice t x lo hi mx =>
   refine zBH g (ro_slice (hρ x (by simp [Op.operands])) (zLD fun y h => hρ y (by simp [Op.operands, h])) (zLD fun y h => hρ y (by simp [Op.operands, h])) (zLD fun y h => hρ y (by simp [Op.operands, h])) hob) (run_v _ _)
 case fieldAddr t x f => exact zBH g (ro_fieldAddr (hρ x (by simp [Op.operands])) hob) (run_v _ _)
 case field t x f => exact zBH g (ro_field (hρ x (by simp [Op.operands])) hob) (run_v _ _)
 case indexAddr t x i => exact zBH g (ro_indexAddr (hρ x (by simp [Op.operands])) (hρ i (by simp [Op.operands])) hob) (run_v _ _)
 case index t x i => exact zBH g (ro_index (hρ x (by simp [Op.operands])) (hρ i (by simp [Op.operands])) hob) (run_v _ _)
 case range t x => exact ok_range g (hρ x (by simp [Op.operands])) (run_v _ _) hob
 case entry x => exact zBH g (ro_entry g (hρ x (by simp [Op.operands])) hob) (run_v _ _)
 case next x s => exact zBH g (ro_next g (hρ x (by simp [Op.operands])) hob) (run_v _ _)
 case lookup t m k ok => exact zBH g (ro_lookup g (hρ m (by simp [Op.operands])) (hρ k (by simp [Op.operands])) hob) (run_v _ _)
 case mapUpdate t m k v => exact ok_mapUpdate g (hρ m (by simp [Op.operands])) (hρ k (by simp [Op.operands])) (hρ v (by simp [Op.operands])) (run_u _ _) hob
 case mapEntry t m k => exact ok_mapEntry g (hρ m (by simp [Op.operands])) (hρ k (by simp [Op.operands])) (run_v _ _) hob
 case entryStore t m s v => exact ok_entryStore (t := t) g (hρ m (by simp [Op.operands])) (hρ s (by simp [Op.operands])) (hρ v (by simp [Op.operands])) (run_u _ _) hob
 case extract x i => exact zBH g (ro_extract (hρ x (by simp [Op.operands])) hob) (run_v _ _)
 case call c =>
   obtain ⟨callee, args, argTypes⟩ := c;cases callee with
   | value f => simp only at hob; exact hob.elim
   | invoke r m => simp only at hob; exact hob.elim
   | builtin b =>
     have hargs : ∀ (i : Nat) (v : Value) (p : PV), (args.map a.eval)[i]? = some v → (args.toList.map ρ)[i]? = some p → Rep E v p := fun i v p h1 h2 => by
       simp at h1 h2;obtain ⟨x, h3, rfl⟩ := h1;obtain ⟨y, h4, rfl⟩ := h2;rw [h3] at h4; cases h4;exact hρ x (by simp only [Op.operands, Call.operands]; have := Array.mem_of_getElem? h3; simp [this])
     simp only at hob ⊢;have hts : ∀ t rest, argTypes.toList = t :: rest → argTypes[0]? = some t := fun t rest h => by rw [← Array.getElem?_toList, h]; rfl
     have hts1 : ∀ t t2 rest, argTypes.toList = t :: t2 :: rest → argTypes[1]? = some t2 := fun t t2 rest h => by rw [← Array.getElem?_toList, h]; rfl
     have harg : ∀ (i : Nat) (p : PV), (args.toList.map ρ)[i]? = some p → ∃ v, (args.map a.eval)[i]? = some v ∧ Rep E v p := fun i p h => by
       have h' := h;simp at h';obtain ⟨x, h3, rfl⟩ := h';exact ⟨a.eval x, by simp [h3], hargs i _ _ (by simp [h3]) h⟩
     unfold zA9 at hob ⊢;split at hob
     · rename_i t _ x _ ht hx;obtain ⟨v, h1, h2⟩ := harg 0 x (by rw [hx]; rfl);refine zBH g (ro_len (ty := type) g (hts _ _ ht) h1 h2 hob) ?_;simp only [resolve, Sem.run_bind, Sem.run_pure, Result.andThen_ok, invoke, builtin]
     · rename_i t t2 _ s x _ ht hx;obtain ⟨vs, h1, h2⟩ := harg 0 s (by rw [hx]; rfl);obtain ⟨vx, h3, h4⟩ := harg 1 x (by rw [hx]; rfl);refine ok_append (ty := type) g (hts _ _ ht) (hts1 _ _ _ ht) h1 h3 h2 h4 ?_ hob;simp only [resolve, Sem.run_bind, Sem.run_pure, Result.andThen_ok, invoke, builtin]
     · rename_i t _ m k _ ht hx;obtain ⟨vm, h1, h2⟩ := harg 0 m (by rw [hx]; rfl);obtain ⟨vk, h3, h4⟩ := harg 1 k (by rw [hx]; rfl);refine ok_mapDelete (ty := type) g (hts _ _ ht) h1 h3 h2 h4 ?_ hob;simp only [resolve, Sem.run_bind, Sem.run_pure, Result.andThen_ok, invoke, builtin]
     · rename_i t _ x _ ht hx;obtain ⟨v, h1, h2⟩ := harg 0 x (by rw [hx]; rfl);refine ok_clear (ty := type) g (hts _ _ ht) h1 h2 ?_ hob;simp only [resolve, Sem.run_bind, Sem.run_pure, Result.andThen_ok, invoke, builtin]
     · rename_i t _ s x _ ht hx;obtain ⟨vs, h1, h2⟩ := harg 0 s (by rw [hx]; rfl);obtain ⟨vx, h3, h4⟩ := harg 1 x (by rw [hx]; rfl);refine ok_copy (ty := type) g (hts _ _ ht) h1 h3 h2 h4 ?_ hob;simp only [resolve, Sem.run_bind, Sem.run_pure, Result.andThen_ok, invoke, builtin]
     · rename_i x rest hx;obtain ⟨v, h1, h2⟩ := harg 0 x (by rw [hx]; rfl)
       have hl : (args.map a.eval).toList = v :: (args.map a.eval).toList.tail := by
         cases hq : (args.map a.eval).toList with
         | nil => rw [← Array.getElem?_toList, hq] at h1; cases h1
         | cons y ys => rw [← Array.getElem?_toList, hq] at h1; cases h1; rfl
       have hlen : (args.map a.eval).toList.tail.length = rest.length := by
         have := congrArg List.length hx;simp at this;simp; omega
       refine zBH g (zKT (args.map a.eval).toList.tail rest v x hlen (fun i u q h3 h4 => hargs (i + 1) u q ?_ (by rw [hx]; exact h4)) h2 hob) ?_
       · rw [← Array.getElem?_toList, hl]; exact h3
       · simp only [resolve, Sem.run_bind, Sem.run_pure, Result.andThen_ok, invoke, builtin, Builtin.max_];rw [hl]; rfl
     · rename_i x rest hx;obtain ⟨v, h1, h2⟩ := harg 0 x (by rw [hx]; rfl)
       have hl : (args.map a.eval).toList = v :: (args.map a.eval).toList.tail := by
         cases hq : (args.map a.eval).toList with
         | nil => rw [← Array.getElem?_toList, hq] at h1; cases h1
         | cons y ys => rw [← Array.getElem?_toList, hq] at h1; cases h1; rfl
       have hlen : (args.map a.eval).toList.tail.length = rest.length := by
         have := congrArg List.length hx;simp at this;simp; omega
       refine zBH g (zKS (args.map a.eval).toList.tail rest v x hlen (fun i u q h3 h4 => hargs (i + 1) u q ?_ (by rw [hx]; exact h4)) h2 hob) ?_
       · rw [← Array.getElem?_toList, hl]; exact h3
       · simp only [resolve, Sem.run_bind, Sem.run_pure, Result.andThen_ok, invoke, builtin, Builtin.min_];rw [hl]; rfl
     · exact hob.elim
 all_goals exact hob.elim
end
end Go.Pv
namespace Go.Pv
open Go Go.RowKit
structure PS where
 r : Nat → PV
 h : Heap
 cnt : Nat → Nat
def putR (r : Nat → PV) (dst : Option Nat) (v : PV) : Nat → PV :=
 match dst with
 | some d => fun i => if i = d then v else r i
 | none => r
def zAH (o : Oper) : Nat := o.dst.getD 999983
def zAX (r : Nat → PV) (o : Op) : Option (FuncId × List PV) :=
 match o with
 | .call { callee := .value f, args, .. } => match ev r f with
   | .func (.func fid) first cap => some (fid, first ++ args.toList.map (ev r) ++ cap)
   | _ => none
 | _ => none
def hasBody (P : Program) (f : FuncId) : Bool := match P.funcs[f]? with
 | some fn => fn.body.isSome && !(fn.name == "runtime.NumGoroutine")
 | none => false
def zAy (P : Program) (f : FuncId) (args : List PV) (h : Heap) (cnt : Nat → Nat) (R : PV → Heap → (Nat → Nat) → Prop) : Prop :=
 hasBody P f = true ∧ ∀ (E : Env) (vs : Array Value), Good E → E.h = h → E.cnt = cnt → E.tt = true → vs.size = args.length →
   (∀ (i : Nat) (u : Value) (p : PV), vs[i]? = some u → args[i]? = some p → Rep E u p) →
   Calls P f vs E.w fun e w' => ∃ (u : Value) (v : PV) (E' : Env), e = .returned u ∧ R v E'.h E'.cnt ∧ E'.w = w' ∧ Good E' ∧ EnvLe E E' ∧ Below E.B0 E.w w' ∧ Rep E' u v
theorem zAy.mono {P : Program} {f : FuncId} {args : List PV} {h : Heap} {cnt : Nat → Nat} {R R' : PV → Heap → (Nat → Nat) → Prop} (hc : zAy P f args h cnt R) (hr : ∀ v h cnt, R v h cnt → R' v h cnt) : zAy P f args h cnt R' :=
 ⟨hc.1, fun E vs g h1 h2 h3 h4 h5 => (hc.2 E vs g h1 h2 h3 h4 h5).mono fun _ _ ⟨u, v, E', q1, q2, q3⟩ => ⟨u, v, E', q1, hr _ _ _ q2, q3⟩⟩
def zA5 (w : World) (M : Nat → Prop) (tt : Bool) : Env := { w := w, h := fun _ => none, cnt := fun _ => 0, blk := fun _ => 0, cap := fun _ => (0, 0), M := M, tt := tt, B0 := w.heap.size }
def PCalls (P : Program) (f : FuncId) (args : List PV) (r : PV) : Prop :=
 Pure r ∧ hasBody P f = true ∧ ∀ (w : World) (M : Nat → Prop) (vs : Array Value), (∀ b, M b → b < w.heap.size) → gw w w.heap.size → vs.size = args.length →
   (∀ (i : Nat) (u : Value) (p : PV), vs[i]? = some u → args[i]? = some p → Rep (zA5 w M true) u p) →
   Calls P f vs w fun e w' => ∃ u, e = .returned u ∧ Rep (zA5 w' M false) u r ∧ Below w.heap.size w w'
def PNew (P : Program) (f : FuncId) (args : List PV) (sz : Nat) (rows : Rows) : Prop :=
 hasBody P f = true ∧ 1 ≤ sz ∧ (∀ row ∈ rows, row.length = sz) ∧ ∀ (w : World) (M : Nat → Prop) (vs : Array Value), (∀ b, M b → b < w.heap.size) → gw w w.heap.size → vs.size = args.length →
   (∀ (i : Nat) (u : Value) (p : PV), vs[i]? = some u → args[i]? = some p → Rep (zA5 w M true) u p) →
   Calls P f vs w fun e w' => ∃ (u : Value) (gb cp ba : Nat) (cells : Array Value) (T : TypeId), e = .returned u ∧ Below w.heap.size w w' ∧ w.heap.size ≤ gb ∧ w'.heap[gb]? = some (.cells cells T (0, 0)) ∧ cells.size = ba + cp * sz ∧ rows.length ≤ cp ∧
     (∀ (i j : Nat) (row : List PV) (p : PV), rows[i]? = some row → row[j]? = some p → ∃ x, p = .sc x ∧ zBM x = true ∧ cells[ba + i * sz + j]? = some x) ∧
     ((∃ c, u = .slice (some ⟨gb, ba, none⟩) rows.length c ∧ rows.length ≤ c ∧ c ≤ cp) ∨ ∃ a, u = .slice a 0 0 ∧ rows.length = 0)
inductive Inn0 (h : Heap) : PV → PV → Prop where
 | pure {p : PV} (hp : Pure p) : Inn0 h p p
 | lit {t t' : Bool} {sz : Nat} {rows : Rows} (ht : t = true → t' = true) : Inn0 h (.lit t sz rows) (.lit t' sz rows)
 | nil (t : Bool) (sz : Nat) : Inn0 h .nil (.lit t sz [])
 | ref {k : Key} {sz off len : Nat} {rs rows : Rows} (hk : h k = some (.rows sz rs)) (hl : off + len ≤ rs.length) (hr : rows = (rs.drop off).take len) (hp : ∀ row ∈ rows, ∀ p ∈ row, Pure p) : Inn0 h (.ref k sz off len) (.lit true sz rows)
 | ptr {k : Key} {sz i j : Nat} {rs : Rows} (hk : h k = some (.rows sz rs)) (hp : ∀ row ∈ rs, ∀ p ∈ row, Pure p) : Inn0 h (.ptr k sz i j) (.lptr true sz rs i j)
 | lptr {t t' : Bool} {sz i j : Nat} {rows : Rows} (ht : t = true → t' = true) : Inn0 h (.lptr t sz rows i j) (.lptr t' sz rows i j)
inductive Inn (h : Heap) : PV → PV → Prop where
 | base {p q : PV} (hi : Inn0 h p q) : Inn h p q
 | func {f : Fn} {a a' c c' : List PV} (hl : a.length = a'.length) (hl' : c.length = c'.length) (ha : ∀ (i : Nat) (p q : PV), a[i]? = some p → a'[i]? = some q → Inn0 h p q) (hc : ∀ (i : Nat) (p q : PV), c[i]? = some p → c'[i]? = some q → Inn0 h p q) :
     Inn h (.func f a c) (.func f a' c')
 | agg {a a' : List PV} (hl : a.length = a'.length) (ha : ∀ (i : Nat) (p q : PV), a[i]? = some p → a'[i]? = some q → Inn0 h p q) : Inn h (.agg a) (.agg a')
inductive Inns (h : Heap) : List PV → List PV → Prop where
 | nil : Inns h [] []
 | cons {p q : PV} {ps qs : List PV} (h1 : Inn h p q) (h2 : Inns h ps qs) : Inns h (p :: ps) (q :: qs)
def stepS (s : PS) (o : Oper) (e : Eff) : PS := { r := putR s.r o.dst e.v, h := zAZ s.h e.wr, cnt := bumpC s.cnt (zAH o) e.bump }
def NextP (K : PS → Prop) (o : Oper) (s : PS) : Prop := False
theorem NextP.mono {K K' : PS → Prop} (h : ∀ s, K s → K' s) {o : Oper} {s : PS} : NextP K o s → NextP K' o s := fun h => h
def RenP (K : PS → Prop) (o : Oper) (s : PS) : Prop :=
 ∃ (x : Operand) (d e : Nat) (k : Key) (sz len : Nat) (rs : Rows),
   o.op = .assign x ∧ o.dst = some d ∧ ev s.r x = .ref k sz 0 len ∧ s.h k = some (.rows sz rs) ∧
   K { r := putR s.r (some d) (.ref (e, s.cnt e) sz 0 len), h := fun k' => if k' = (e, s.cnt e) then some (.rows sz rs) else if k' = k then none else s.h k', cnt := fun t => if t = e then s.cnt t + 1 else s.cnt t }
theorem RenP.mono {K K' : PS → Prop} (h : ∀ s, K s → K' s) {o : Oper} {s : PS} : RenP K o s → RenP K' o s := fun ⟨x, d, e, k, sz, len, rs, h1, h2, h3, h4, h5⟩ =>
 ⟨x, d, e, k, sz, len, rs, h1, h2, h3, h4, h _ h5⟩
def NilP0 (P : Program) (K : PS → Prop) (o : Oper) (s : PS) : Prop :=
 ∃ (x y : Operand) (t t' : TypeId) (d : Nat) (tt : Bool) (sz : Nat),
   o.op = .binOp .eql t x y t' ∧ o.dst = some d ∧ zHW y = true ∧ zCv P t = true ∧ ev s.r x = .lit tt sz [] ∧ ∀ b : Bool, K { r := putR s.r (some d) (.bool b), h := s.h, cnt := s.cnt }
def frzS (s : PS) (u : Nat) (k : Key) (sz : Nat) (rs : Rows) (i j : Nat) : PS := { r := putR s.r (some u) (.lptr false sz rs i j), h := fun k' => if k' = k then none else s.h k', cnt := s.cnt }
def FrzP (P : Program) (K : PS → Prop) (o : Oper) (s : PS) : Prop :=
 ∃ (u : Nat) (k : Key) (sz : Nat) (rs : Rows) (i j : Nat),
   (eff P (ev s.r) s.h (zAH o, s.cnt (zAH o)) o.op).ob ∧ zAX s.r o.op = none ∧
   (stepS s o (eff P (ev s.r) s.h (zAH o, s.cnt (zAH o)) o.op)).r u = .ptr k sz i j ∧ (stepS s o (eff P (ev s.r) s.h (zAH o, s.cnt (zAH o)) o.op)).h k = some (.rows sz rs) ∧
   (∀ row ∈ rs, ∀ p ∈ row, Pure p) ∧ K (frzS (stepS s o (eff P (ev s.r) s.h (zAH o, s.cnt (zAH o)) o.op)) u k sz rs i j)
def NilP (P : Program) (K : PS → Prop) (o : Oper) (s : PS) : Prop := NilP0 P K o s ∨ FrzP P K o s
theorem NilP.mono {P : Program} {K K' : PS → Prop} (h : ∀ s, K s → K' s) {o : Oper} {s : PS} : NilP P K o s → NilP P K' o s := fun hn => by
 rcases hn with ⟨x, y, t, t', d, tt, sz, h1, h2, h3, h4, h5, h6⟩ | ⟨u, k, sz, rs, i, j, h1, h2, h3, h4, h5, h6⟩
 · exact .inl ⟨x, y, t, t', d, tt, sz, h1, h2, h3, h4, h5, fun b => h _ (h6 b)⟩
 · exact .inr ⟨u, k, sz, rs, i, j, h1, h2, h3, h4, h5, h _ h6⟩
def pOps (P : Program) (K : PS → Prop) : List Oper → PS → Prop
 | [], s => K s
 | o :: rest, s =>
   match zAX s.r o.op with
   | none => ((eff P (ev s.r) s.h (zAH o, s.cnt (zAH o)) o.op).ob ∧ pOps P K rest (stepS s o (eff P (ev s.r) s.h (zAH o, s.cnt (zAH o)) o.op))) ∨ (NextP (pOps P K rest) o s ∨ (RenP (pOps P K rest) o s ∨ NilP P (pOps P K rest) o s))
   | some (f, args) => zAy P f args s.h s.cnt fun v h' cnt' => pOps P K rest { r := putR s.r o.dst v, h := h', cnt := cnt' }
structure GS where
 s : PS
 G : Nat → Bool
def isB : PV → Bool
 | .sc (.bool _) => true
 | _ => false
def isT : PV → Bool
 | .sc (.bool b) => b
 | _ => false
def gval (ops : Array Oper) (σ : GS) (g : Option (Nat × Bool)) : Bool :=
 match g with
 | none => true
 | some (j, want) => match (ops[j]?).bind (·.dst) with
   | some d => σ.G d && (isT (σ.s.r d) == want)
   | none => false
def gob (ops : Array Oper) (σ : GS) (g : Option (Nat × Bool)) : Prop :=
 match g with
 | none => True
 | some (j, _) => match (ops[j]?).bind (·.dst) with
   | some d => σ.G d = true → isB (σ.s.r d) = true
   | none => True
def zEG (G : Nat → Bool) : Operand → Prop
 | .tmp t => G t = true
 | _ => True
def valid (σ : GS) (o : Op) : Prop :=
 match o with
 | .pick c a b => zEG σ.G c ∧ (isT (ev σ.s.r c) = true → zEG σ.G a) ∧ (isT (ev σ.s.r c) = false → zEG σ.G b)
 | o => ∀ x ∈ o.operands.toList, zEG σ.G x
def CallD (P : Program) (f : FuncId) (args : List PV) (h : Heap) (v : PV) : Prop := ∃ as', Inns h args as' ∧ PCalls P f as' v
def keyOf : PV → List Key
 | .ref k _ _ _ => [k]
 | .ptr k _ _ _ => [k]
 | .map k => [k]
 | .iter k => [k]
 | _ => []
def zBF : PV → List Key
 | .func _ a c => a.flatMap keyOf ++ c.flatMap keyOf
 | .agg cs => cs.flatMap keyOf
 | p => keyOf p
def setG (G : Nat → Bool) (dst : Option Nat) (c : Bool) : Nat → Bool :=
 match dst with
 | some d => fun i => if i = d then c else G i
 | none => G
structure Foot where
 i : Nat
 rd : List Key
 wr : List Key
def stepG (σ : GS) (o : Oper) (c : Bool) (e : Eff) : GS := { s := stepS σ.s o e, G := setG σ.G o.dst c }
def waitsFor (ops : Array Oper) : Nat → Nat → Nat → Bool
 | 0, _, _ => false
 | n + 1, i, p => ((ops[i]?).map fun o => o.after.any fun e => Region.binds .any e && (e.on == p || waitsFor ops n e.on p)).getD false
def zB3 (a b : List Key) : Prop := ∀ k ∈ a, k ∉ b
def zJn (a b : Op) : Bool := match a, b with
 | .lookup t _ _ false, .mapEntry t' _ _ => Nat.beq t t'
 | _, _ => false
def zKo (ops : Array Oper) (i j : Nat) : Bool := match ops[i]?, ops[j]? with
 | some a, some b => zJn a.op b.op
 | _, _ => false
def Indep (ops : Array Oper) (x y : Foot) : Prop :=
 waitsFor ops ops.size y.i x.i = true ∨ (((do let a ← ops[x.i]?; let b ← ops[y.i]?; pure (a.apart ops b && (zAH a != zAH b || (a.dst.isNone && b.dst.isNone)))) : Option Bool).getD false = true ∧ zB3 x.wr y.rd ∧ (zKo ops x.i y.i = true ∨ zB3 y.wr x.rd) ∧ zB3 x.wr y.wr)
def zDh (ops : Array Oper) : List Foot → Prop
 | [] => True
 | x :: l => (∀ y ∈ l, Indep ops x y) ∧ zDh ops l
def zEU (ops : Array Oper) (i : Nat) : Bool :=
 ((List.range i).all fun p => waitsFor ops ops.size i p) && ((List.range ops.size).all fun k => Nat.ble k i || waitsFor ops ops.size k i)
def effG (c : Bool) (e : Eff) : Eff := if c then e else .val True .dead
def fin (ops : List Oper) (s : PS) : PS := { s with r := ops.foldl (fun r o => if o.guard.isSome then putR r o.dst .dead else r) s.r }
def NewE (P : Program) (f : FuncId) (args : List PV) (h : Heap) (key : Key) (e : Eff) : Prop :=
 (∃ (sz : Nat) (rows : Rows) (as' : List PV), Inns h args as' ∧ PNew P f as' sz rows ∧ e = { ob := True, v := .ref key sz 0 rows.length, wr := [(key, some (.rows sz rows))], rd := args.flatMap zBF, bump := true }) ∨
 ∃ (v : PV) (rd : List Key), e = { ob := True, v := v, wr := [], rd := rd, bump := false } ∧ ∀ h' : Heap, (∀ k ∈ rd, h' k = h k) → ∀ c', zAy P f args h' c' fun v' h2 c2 => v' = v ∧ h2 = h' ∧ c2 = c'
inductive InnX (h : Heap) (ks : List Key) : PV → PV → Prop where
 | base {p q : PV} (hi : Inn h p q) (hk : ∀ k ∈ zBF p, k ∈ ks) : InnX h ks p q
 | rows {k : Key} {sz len : Nat} {rs rows : Rows} (hk : h k = some (.rows sz rs)) (hm : k ∈ ks) (hlen : len = rs.length) (hl : rows.length = rs.length)
     (hr : ∀ (i : Nat) (row row' : List PV), rs[i]? = some row → rows[i]? = some row' → row'.length = row.length ∧ ∀ (j : Nat) (p q : PV), row[j]? = some p → row'[j]? = some q → Inn0 h p q ∧ Pure q ∧ q.cell = true ∧ ∀ k ∈ keyOf p, k ∈ ks) :
     InnX h ks (.ref k sz 0 len) (.lit true sz rows)
inductive InnsX (h : Heap) (ks : List Key) : List PV → List PV → Prop where
 | nil : InnsX h ks [] []
 | cons {p q : PV} {ps qs : List PV} (h1 : InnX h ks p q) (h2 : InnsX h ks ps qs) : InnsX h ks (p :: ps) (q :: qs)
def gOps (P : Program) (ops : Array Oper) (d : Bool) (K : PS → Prop) : List Oper → Nat → GS → List Foot → Prop
 | [], _, σ, tr => (d = true → zDh ops tr) ∧ K (fin ops.toList σ.s)
 | o :: rest, i, σ, tr =>
   gob ops σ o.guard ∧
   match zAX σ.s.r o.op with
   | none =>
     (gval ops σ o.guard = true → valid σ o.op ∧ (eff P (ev σ.s.r) σ.s.h (zAH o, σ.s.cnt (zAH o)) o.op).ob) ∧
     ((effG (gval ops σ o.guard) (eff P (ev σ.s.r) σ.s.h (zAH o, σ.s.cnt (zAH o)) o.op)).bump = true → o.dst.isSome = true) ∧
     gOps P ops d K rest (i + 1) (stepG σ o (gval ops σ o.guard) (effG (gval ops σ o.guard) (eff P (ev σ.s.r) σ.s.h (zAH o, σ.s.cnt (zAH o)) o.op)))
       (tr ++ [⟨i, (effG (gval ops σ o.guard) (eff P (ev σ.s.r) σ.s.h (zAH o, σ.s.cnt (zAH o)) o.op)).rd, (effG (gval ops σ o.guard) (eff P (ev σ.s.r) σ.s.h (zAH o, σ.s.cnt (zAH o)) o.op)).wr.map (·.1)⟩])
   | some (f, args) => (∃ v, (gval ops σ o.guard = true → valid σ o.op ∧ CallD P f args σ.s.h v) ∧
     gOps P ops d K rest (i + 1) (stepG σ o (gval ops σ o.guard) (.val True v)) (tr ++ [⟨i, args.flatMap zBF, []⟩])) ∨
     (gval ops σ o.guard = true ∧ valid σ o.op ∧ (d = true → zEU ops i = true ∧ zDh ops tr) ∧
       zAy P f args σ.s.h σ.s.cnt fun v h' cnt' => gOps P ops d K rest (i + 1) ⟨⟨putR σ.s.r o.dst v, h', cnt'⟩, setG σ.G o.dst true⟩ []) ∨
     (gval ops σ o.guard = true ∧ valid σ o.op ∧ o.dst.isSome = true ∧ ∃ e, NewE P f args σ.s.h (zAH o, σ.s.cnt (zAH o)) e ∧
       gOps P ops d K rest (i + 1) (stepG σ o (gval ops σ o.guard) e) (tr ++ [⟨i, e.rd, e.wr.map (·.1)⟩]))
def GAt (P : Program) (ops : Array Oper) (i : Nat) (o : Oper) (c : Bool) (e : Eff) (σ : GS) (ft : Foot) : Prop :=
 ops[i]? = some o ∧ ft.i = i ∧ gob ops σ o.guard ∧ c = gval ops σ o.guard ∧
 ((zAX σ.s.r o.op = none ∧ (c = true → valid σ o.op ∧ e.ob) ∧ (e.bump = true → o.dst.isSome = true) ∧
     e = effG c (eff P (ev σ.s.r) σ.s.h (zAH o, σ.s.cnt (zAH o)) o.op) ∧ ft.rd = e.rd ∧ ft.wr = e.wr.map (·.1)) ∨
   (∃ f args v, zAX σ.s.r o.op = some (f, args) ∧ (c = true → valid σ o.op ∧ CallD P f args σ.s.h v) ∧ e = .val True v ∧ ft.rd = args.flatMap zBF ∧ ft.wr = []) ∨
   ∃ f args, zAX σ.s.r o.op = some (f, args) ∧ c = true ∧ valid σ o.op ∧ o.dst.isSome = true ∧ NewE P f args σ.s.h (zAH o, σ.s.cnt (zAH o)) e ∧ ft.rd = e.rd ∧ ft.wr = e.wr.map (·.1))
def zHt : Op → Bool
 | .move _ | .assign _ | .pick _ _ _ | .load _ _ | .nilCheck _ | .binOp _ _ _ _ _ | .unOp _ _ _ | .makeFunc _ _ _ | .fieldAddr _ _ _ | .field _ _ _ | .indexAddr _ _ _ | .index _ _ _ | .build _ _ | .extract _ _ => true
 | _ => false
structure XIt where
 i : Nat
 o : Oper
 c : Bool
 e : Eff
 ft : Foot
 hc : Option (Heap × Heap × (Nat → Nat))
 ef : Heap → Eff
def XAt (P : Program) (ops : Array Oper) (x : XIt) (σ : GS) : Prop :=
 match x.hc with
 | none => GAt P ops x.i x.o x.c x.e σ x.ft ∧ (zHt x.o.op = true → x.c = true → ∀ h key, eff P (ev σ.s.r) h key x.o.op = x.ef h)
 | some (hb, ha, c0) => ops[x.i]? = some x.o ∧ gob ops σ x.o.guard ∧ gval ops σ x.o.guard = true ∧ valid σ x.o.op ∧ σ.s.h = hb ∧
     ∃ f args, zAX σ.s.r x.o.op = some (f, args) ∧ zAy P f args σ.s.h σ.s.cnt fun v h' c' => v = x.e.v ∧ h' = ha ∧ c' = c0
def stepX (σ : GS) (x : XIt) : GS :=
 match x.hc with
 | none => stepG σ x.o x.c x.e
 | some (_, ha, c0) => ⟨⟨putR σ.s.r x.o.dst x.e.v, ha, c0⟩, setG σ.G x.o.dst true⟩
def Calm (x : XIt) (hb ha : Heap) : Prop := zHt x.o.op = true ∧ x.e.wr = [] ∧ x.e.bump = false ∧ (x.c = true → x.ef hb = x.ef ha)
def XFree (ops : Array Oper) (x y : XIt) : Prop := x.o.apart ops y.o = true ∧
 match x.hc, y.hc with
 | none, none => (zAH x.o ≠ zAH y.o ∨ (x.o.dst = none ∧ y.o.dst = none)) ∧ zB3 x.ft.wr y.ft.rd ∧ (zJn x.o.op y.o.op = true ∨ zB3 y.ft.wr x.ft.rd) ∧ zB3 x.ft.wr y.ft.wr
 | some (hb, ha, _), none => Calm y hb ha
 | none, some (hb, ha, _) => Calm x hb ha
 | some _, some _ => False
inductive XRun (P : Program) (ops : Array Oper) : List XIt → GS → GS → Prop where
 | nil (σ : GS) : XRun P ops [] σ σ
 | cons {x : XIt} {l : List XIt} {σ σ' : GS} (h : XAt P ops x σ) (hr : XRun P ops l (stepX σ x) σ') : XRun P ops (x :: l) σ σ'
def zKG (P : Program) (ops : Array Oper) (K : PS → Prop) (s : PS) : Prop := False
def zCn (ops : Array Oper) : Bool := ops.toList.all fun o => o.guard.isNone
def Known (s : PS) : Prop := ∀ k o, s.h k = some o → k.2 < s.cnt k.1
def zBA (P : Program) (ops : Array Oper) (draw : Bool) (K : PS → Prop) (s : PS) : Prop :=
 Known s → if zCn ops && !draw then pOps P K ops.toList s else (gOps P ops draw K ops.toList 0 ⟨s, fun _ => true⟩ [] ∨ (draw = true ∧ zKG P ops K s))
def zDT (n : Nat) : Operand → Bool
 | .tmp t => decide (t < n)
 | _ => true
def zA8 (n : Nat) (o : Oper) : Bool := o.op.operands.all (zDT n) && (match o.dst with | some d => decide (d < n) | none => true)
def zDR (ops : Array Oper) : Bool := ops.toList.zipIdx.all fun p => p.1.after.all fun e => !Region.binds .any e || decide (e.on < p.2)
def zBn (n : Nat) : Code → Bool
 | .region _ ops draw => ops.all (zA8 n) && (!draw || zDR ops)
 | .seq a b => zBn n a && zBn n b
 | .cond c x y => zDT n c && zBn n x && zBn n y
 | .block _ c => zBn n c
 | .loop c => zBn n c
 | .rangeFunc g ps x y => zDT n g && ps.all (fun t => decide (t < n)) && zBn n x && zBn n y
 | _ => true
def Marks (r0 : Nat) (E : Env) : List Deferred → Prop
 | [] => True
 | d :: ds => (∃ r, d.target = .collected r ∧ r0 ≤ r ∧ E.w.heap[r]? = some (.deferred (some [])) ∧ ¬ E.own r ∧ ∀ d' ∈ ds, d'.target ≠ .collected r) ∧ Marks r0 E ds
theorem Marks.nil {r0 : Nat} {E : Env} : Marks r0 E [] := trivial
theorem Marks.le {r0 : Nat} {E E' : Env} (h : EnvLe E E') : ∀ {ds : List Deferred}, Marks r0 E ds → Marks r0 E' ds
 | [], _ => trivial
 | d :: ds, ⟨⟨r, h1, h2, h3, h4, h5⟩, h6⟩ => by
   have hlt : r < E.w.heap.size := (Array.getElem?_eq_some_iff.1 h3).1;refine ⟨⟨r, h1, h2, (h.blk r hlt h4).trans h3, fun ho => ?_, h5⟩, h6.le h⟩;rcases h.own r ho with h7 | h7
   · exact h4 h7
   · omega
structure Sim (r0 : Nat) (E : Env) (n : Nat) (s : PS) (a : Act) : Prop where
 good : Good E
 h : E.h = s.h
 cnt : E.cnt = s.cnt
 tt : E.tt = true
 size : a.tmps.size = n
 regs : ∀ (i : Nat) (v : Value), a.tmps[i]? = some v → Rep E v (s.r i)
 defers : Marks r0 E a.defers
def St (E0 : Env) (n : Nat) (s : PS) (a : Act) (w : World) : Prop := ∃ E, E.w = w ∧ Sim E0.w.heap.size E n s a ∧ EnvLe E0 E ∧ Below E0.B0 E0.w w ∧ (∀ k o, E0.h k = some o → E0.known k)
def zIb (P : Program) (g : Operand) (ps : Array Tmp) (assign body : Code) (Q : Exit → PS → Prop) (s : PS) : Prop :=
 ∀ (E0 : Env) (n : Nat) (a : Act) (w : World), zBn n (.rangeFunc g ps assign body) = true → St E0 n s a w → (Code.rangeFunc g ps assign body).wp P (fun e a' w' => ∃ s', Q e s' ∧ St E0 n s' a' w') a w
theorem zIb.mono {P : Program} {g : Operand} {ps : Array Tmp} {assign body : Code} {Q Q' : Exit → PS → Prop} {s : PS} (h : ∀ e s, Q e s → Q' e s) (hp : zIb P g ps assign body Q s) : zIb P g ps assign body Q' s :=
 fun E0 n a w h1 h2 => wp_mono (hp E0 n a w h1 h2) fun _ _ _ ⟨s', h3, h4⟩ => ⟨s', h _ _ h3, h4⟩
def pwp (P : Program) : Code → (Exit → PS → Prop) → PS → Prop
 | .skip, Q, s => Q .normal s
 | .region _ ops draw, Q, s => zBA P ops draw (Q .normal) s
 | .seq a b, Q, s => pwp P a (fun e s' => match e with | .normal => pwp P b Q s' | e => Q e s') s
 | .cond c x y, Q, s => ∃ b, ev s.r c = .sc (.bool b) ∧ (b = true → pwp P x Q s) ∧ (b = false → pwp P y Q s)
 | .block id c, Q, s => pwp P c (fun e s' => match e with | .exit i => if i = id then Q .normal s' else Q (.exit i) s' | e => Q e s') s
 | .loop c, Q, s => ∃ (I : Nat → PS → Prop) (n : Nat), I n s ∧ ∀ n s, I n s → pwp P c (fun e s' => match e with | .normal => ∃ n', n' < n ∧ I n' s' | e => Q e s') s
 | .exit id, Q, s => Q (.exit id) s
 | .ret, Q, s => Q .ret s
 | .rangeFunc g ps x y, Q, s => zIb P g ps x y Q s
 | _, _, _ => False
end Go.Pv
namespace Go.Pv
open Go Go.RowKit
section
variable {P : Program}
theorem Sim.eval {E : Env} {n : Nat} {s : PS} {a : Act} {r0 : Nat} (S : Sim r0 E n s a) {x : Operand} (hx : zDT n x = true) : Rep E (a.eval x) (ev s.r x) := by
 cases x with
 | tmp t =>
   have ht : t < a.tmps.size := by rw [S.size]; simpa [zDT] using hx
   exact S.regs t _ (by simp [Act.eval, ht])
 | const v => exact zGD v
 | global g => exact zMo S.good.glob S.good.base S.tt g
 | func f => exact .func (by simp) (by simp) (fun i v p h _ => by simp at h) (fun i v p h _ => by simp at h)
theorem Sim.put {E E' : Env} {n : Nat} {s : PS} {a : Act} {r0 : Nat} (S : Sim r0 E n s a) (hle : EnvLe E E') (g' : Good E') (htt : E'.tt = true) {dst : Option Nat} {v : Value} {p : PV} (hv : Rep E' v p) {s' : PS} (hr : s'.r = putR s.r dst p) (hh : E'.h = s'.h) (hc : E'.cnt = s'.cnt) : Sim r0 E' n s' (a.put dst v) where
 good := g'
 h := hh
 cnt := hc
 tt := htt
 size := by cases dst <;> simp [Act.put, S.size]
 regs := fun i u hu => by
   rw [hr];cases dst with
   | none => exact (S.regs i u (by simpa [Act.put] using hu)).le hle
   | some d =>
     simp only [Act.put, Array.getElem?_setIfInBounds] at hu;simp only [putR];by_cases hd : d = i
     · subst hd;rw [if_pos rfl] at hu ⊢;split at hu
       · cases hu; exact hv
       · cases hu
     · rw [if_neg hd] at hu;rw [if_neg (fun e => hd e.symm)];exact (S.regs i u hu).le hle
 defers := by cases dst <;> exact S.defers.le hle
theorem zGj {r : Nat → PV} {o : Op} {f : FuncId} {args : List PV} (h : zAX r o = some (f, args)) :
   ∃ (x : Operand) (as : Array Operand) (ts : Array TypeId) (first cap : List PV), o = .call { callee := .value x, args := as, argTypes := ts } ∧ ev r x = .func (.func f) first cap ∧ args = first ++ as.toList.map (ev r) ++ cap := by
 unfold zAX at h;split at h
 · split at h
   · cases h; exact ⟨_, _, _, _, _, rfl, by assumption, rfl⟩
   · cases h
 · cases h
theorem zFF {f : FuncId} (h : hasBody P f = true) : ∃ fn, P.funcs[f]? = some fn ∧ fn.body.isSome = true ∧ (fn.name == "runtime.NumGoroutine") = false := by
 unfold hasBody at h;split at h
 · rename_i fn hfn;simp only [Bool.and_eq_true, Bool.not_eq_true'] at h;exact ⟨fn, hfn, h.1, h.2⟩
 · cases h
theorem zHO {E : Env} {a : Act} {r : Nat → PV} {o : Oper} {f : FuncId} {args : List PV} (h : zAX r o.op = some (f, args)) (hρ : ∀ x ∈ o.op.operands, Rep E (a.eval x) (ev r x)) (w : World)
   (hf : hasBody P f = true) :
   ∃ vs : Array Value, (execOp a.eval o).run P w = .ok (.enter f vs) w ∧ vs.size = args.length ∧ ∀ (i : Nat) (u : Value) (p : PV), vs[i]? = some u → args[i]? = some p → Rep E u p := by
 obtain ⟨x, as, ts, first, cap, ho, hx, rfl⟩ := zGj h;obtain ⟨dst, op, type, pos, after, guard⟩ := o;simp only at ho; subst ho;have hfx := hρ x (by simp [Op.operands, Call.operands]);rw [hx] at hfx;generalize hv : a.eval x = v at hfx;cases hfx with
 | func hl hl' hf1 hf2 =>
   rename_i vf vc;refine ⟨vf ++ as.map a.eval ++ vc, ?_, ?_, ?_⟩
   · obtain ⟨fn, h1, h2, h3⟩ := zFF hf;have hn : fn.body.isNone = false := by cases hb : fn.body <;> simp_all
     simp only [execOp, resolve, hv, Deferred.ofValue, Sem.run_bind, Sem.run_pure, Result.andThen_ok, invoke, callFunc, run_program, h1, h3, hn, Bool.false_eq_true, if_false]
   · simp [hl, hl']
   · intro i u p h1 h2
     have hargs : ∀ (i : Nat) (u : Value) (p : PV), (as.map a.eval)[i]? = some u → (as.toList.map (ev r))[i]? = some p → Rep E u p := fun i u p h1 h2 => by
       rw [Array.getElem?_map, Option.map_eq_some_iff] at h1;rw [List.getElem?_map, Option.map_eq_some_iff] at h2;obtain ⟨y, h3, rfl⟩ := h1;obtain ⟨z, h4, rfl⟩ := h2;rw [Array.getElem?_toList, h3] at h4; cases h4;exact hρ y (by simp only [Op.operands, Call.operands]; have := Array.mem_of_getElem? h3; simp [this])
     rw [Array.getElem?_append, Array.getElem?_append] at h1;rw [List.getElem?_append, List.getElem?_append] at h2;simp only [Array.size_append, Array.size_map, List.length_append, List.length_map, Array.length_toList, ← hl] at h1 h2;by_cases h3 : i < vf.size + as.size
     · rw [if_pos h3] at h1 h2;by_cases h4 : i < vf.size
       · rw [if_pos h4] at h1 h2; exact hf1 i u p h1 h2
       · rw [if_neg h4] at h1 h2; exact hargs _ u p h1 h2
     · rw [if_neg h3] at h1 h2; exact hf2 _ u p h1 h2
theorem zBT {n : Nat} {o : Oper} (h : zA8 n o = true) : (∀ x ∈ o.op.operands, zDT n x = true) ∧ ∀ d, o.dst = some d → d < n := by
 simp only [zA8, Bool.and_eq_true] at h;refine ⟨fun x hx => (Array.all_eq_true_iff_forall_mem.1 h.1) x hx, fun d hd => ?_⟩;have := h.2;rw [hd] at this;simpa using this
theorem zCT (a : Act) (dst : Option Nat) (v : Value) : (a.put dst v).defers = a.defers := by cases dst <;> rfl
theorem zJD {E0 E : Env} {n : Nat} {s : PS} {a : Act} {o : Oper} {K : Act → World → Prop} {Q : Exit → Act → World → Prop} (S : Sim E0.w.heap.size E n s a) (hle : EnvLe E0 E) (hb : Below E0.B0 E0.w E.w) (hk : ∀ k o, E0.h k = some o → E0.known k)
   (hsc : zA8 n o = true) (hob : (eff P (ev s.r) s.h (zAH o, s.cnt (zAH o)) o.op).ob)
   (hK : ∀ a' w', St E0 n (stepS s o (eff P (ev s.r) s.h (zAH o, s.cnt (zAH o)) o.op)) a' w' → a'.defers = a.defers → K a' w') : o.wp P a E.w K Q := by
 have hρ : ∀ x ∈ o.op.operands, Rep E (a.eval x) (ev s.r x) := fun x hx => S.eval ((zBT hsc).1 x hx);have hob' : (eff P (ev s.r) E.h (zAH o, E.cnt (zAH o)) o.op).ob := by rw [S.h, S.cnt]; exact hob
 obtain ⟨v, w', blk, cap, hrun, hg, hle', hbl, hrep⟩ := zIU (P := P) (a := a) (o := o) (site := zAH o) S.good hρ hob';rw [S.h, S.cnt] at hg hle' hrep
 have hst : St E0 n (stepS s o (eff P (ev s.r) s.h (zAH o, s.cnt (zAH o)) o.op)) (a.put o.dst v) w' := by
   refine ⟨_, rfl, S.put hle' hg S.tt hrep rfl rfl rfl, hle.trans hle' hk, ?_, hk⟩;rw [hle.B0] at hbl;exact hb.trans hbl
 unfold Oper.wp;rcases hrun with hrun | ⟨hrun, rfl⟩
 · rw [hrun]; exact hK _ _ hst (zCT _ _ _)
 · rw [hrun]; exact hK _ _ hst (zCT _ _ _)
theorem zF2 {o : Oper} (h : o.guard = none) (y : Nat → Option Bool) : Region.wanted o y = true := by simp [Region.wanted, h]
theorem call_sound {E0 E : Env} {n : Nat} {s : PS} {a : Act} {o : Oper} {K : Act → World → Prop} {Q : Exit → Act → World → Prop} {f : FuncId} {args : List PV} {R : PV → Heap → (Nat → Nat) → Prop} (S : Sim E0.w.heap.size E n s a) (hle : EnvLe E0 E) (hb : Below E0.B0 E0.w E.w) (hk : ∀ k o, E0.h k = some o → E0.known k)
   (hsc : zA8 n o = true) (hc : zAX s.r o.op = some (f, args)) (hob : zAy P f args s.h s.cnt R)
   (hK : ∀ a' w' v h' cnt', R v h' cnt' → St E0 n { r := putR s.r o.dst v, h := h', cnt := cnt' } a' w' → a'.defers = a.defers → K a' w') : o.wp P a E.w K Q := by
 have hρ : ∀ x ∈ o.op.operands, Rep E (a.eval x) (ev s.r x) := fun x hx => S.eval ((zBT hsc).1 x hx);obtain ⟨vs, hrun, hsize, hrep⟩ := zHO (P := P) hc hρ E.w hob.1;unfold Oper.wp;rw [hrun];refine (hob.2 E vs S.good S.h S.cnt S.tt hsize hrep).mono ?_
 rintro e w' ⟨u, v, E', rfl, hR, rfl, hg, hle', hbl, hv⟩
 refine hK _ _ v E'.h E'.cnt hR ⟨E', rfl, S.put hle' hg (hle'.tt.trans S.tt) hv rfl rfl rfl, hle.trans hle' hk, ?_, hk⟩ (zCT _ _ _);rw [hle.B0] at hbl;exact hb.trans hbl
theorem next_sound {E0 E : Env} {n : Nat} {s : PS} {a : Act} {o : Oper} {K' : PS → Prop} {K : Act → World → Prop} {Q : Exit → Act → World → Prop} (S : Sim E0.w.heap.size E n s a) (hle : EnvLe E0 E) (hb : Below E0.B0 E0.w E.w) (hk : ∀ k o, E0.h k = some o → E0.known k)
   (hsc : zA8 n o = true) (hN : NextP K' o s) (hK : ∀ a' w' s', K' s' → St E0 n s' a' w' → a'.defers = a.defers → K a' w') : o.wp P a E.w K Q := (show False from hN).elim
theorem ren_sound {E0 E : Env} {n : Nat} {s : PS} {a : Act} {o : Oper} {K' : PS → Prop} {K : Act → World → Prop} {Q : Exit → Act → World → Prop} (S : Sim E0.w.heap.size E n s a) (hle : EnvLe E0 E) (hb : Below E0.B0 E0.w E.w) (hk : ∀ k o, E0.h k = some o → E0.known k)
   (hsc : zA8 n o = true) (hN : RenP K' o s) (hK : ∀ a' w' s', K' s' → St E0 n s' a' w' → a'.defers = a.defers → K a' w') : o.wp P a E.w K Q := by
 obtain ⟨x, d, e, k, sz, len, rs, ho, hd, hx, hkey, hall⟩ := hN;have hrx : Rep E (a.eval x) (.ref k sz 0 len) := by rw [← hx]; exact S.eval ((zBT hsc).1 x (by rw [ho]; simp [Op.operands]))
 rw [← S.h] at hkey;have hsz : E.w.heap.size ≤ E.w.heap.size := Nat.le_refl _;have hbs : ∀ b, b ≠ E.blk k → E.w.heap[b]? = E.w.heap[b]? := fun _ _ => rfl;have hle' := zCS (site := e) (cp := E.cap k) (o := .rows sz rs) S.good hkey hsz hbs
 have hob : ObjOK (zAL E e k (E.cap k) (.rows sz rs) E.w) (e, E.cnt e) (.rows sz rs) := by
   obtain ⟨c, T, h1, h2, h3, h4, h5, h6, h7⟩ := S.good.obj _ _ hkey;refine ⟨c, T, by simpa [zAL] using h1, by simpa [zAL] using h2, by simpa [zAL] using h3, h4, h5, h6, fun i j row p h8 h9 => ?_⟩;obtain ⟨v, h10, h11⟩ := h7 i j row p h8 h9;exact ⟨v, by simpa [zAL] using h10, h11.le hle'⟩
 have hg := zE1 (site := e) (cp := E.cap k) (o := .rows sz rs) S.good hkey hsz hbs hob
 have hrep : Rep (zAL E e k (E.cap k) (.rows sz rs) E.w) (a.eval x) (.ref (e, E.cnt e) sz 0 len) := by
   generalize a.eval x = v at hrx;cases hrx with
   | refE hk1 hl =>
     refine .refE (by simp [zAL, Env.known]) fun o ho => ?_;simp [zAL] at ho;exact ⟨_, ho.symm⟩
   | ref hk1 hlc hl =>
     obtain ⟨hbk, hcap, rs', hq⟩ := hl _ hkey;refine .ref (by simp [zAL, Env.known]) hlc fun o ho => ?_;simp [zAL] at ho ⊢;exact ⟨by simpa using hbk, by simpa using hcap, _, ho.symm⟩
 have hst : St E0 n { r := putR s.r (some d) (.ref (e, s.cnt e) sz 0 len), h := fun k' => if k' = (e, s.cnt e) then some (.rows sz rs) else if k' = k then none else s.h k', cnt := fun t => if t = e then s.cnt t + 1 else s.cnt t } (a.put o.dst (a.eval x)) E.w := by
   refine ⟨zAL E e k (E.cap k) (.rows sz rs) E.w, rfl, ?_, hle.trans hle' hk, hb, hk⟩;rw [hd, ← S.cnt, ← S.h];exact S.put (p := .ref (e, E.cnt e) sz 0 len) hle' hg S.tt hrep rfl rfl rfl
 have hrun' : (execOp a.eval o).run P E.w = .ok (.value (a.eval x)) E.w := by
   obtain ⟨dst, op, type, pos, after, guard⟩ := o;simp only at ho; subst ho;rfl
 unfold Oper.wp;rw [hrun'];exact hK _ _ _ hall hst (zCT _ _ _)
theorem run_eql_nil2 {t e : TypeId} {a : Option Addr} {l c : Nat} (h : P.underlying t = some (.slice e)) (w : World) : ∃ b, (binOp .eql t (.slice a l c) (.slice none 0 0)).run P w = .ok (.bool b) w := by
 have := run_equal_slice_nil (P := P) w t e a l c h;refine ⟨a.isNone, ?_⟩;simp only [binOp];simp [this]
theorem nil_sound0 {E0 E : Env} {n : Nat} {s : PS} {a : Act} {o : Oper} {K' : PS → Prop} {K : Act → World → Prop} {Q : Exit → Act → World → Prop} (S : Sim E0.w.heap.size E n s a) (hle : EnvLe E0 E) (hb : Below E0.B0 E0.w E.w) (hk : ∀ k o, E0.h k = some o → E0.known k)
   (hsc : zA8 n o = true) (hN : NilP0 P K' o s) (hK : ∀ a' w' s', K' s' → St E0 n s' a' w' → a'.defers = a.defers → K a' w') : o.wp P a E.w K Q := by
 obtain ⟨x, y, t, t', d, tt, sz, ho, hd, hny, hty, hx, hall⟩ := hN;have hrx : Rep E (a.eval x) (.lit tt sz []) := by rw [← hx]; exact S.eval ((zBT hsc).1 x (by rw [ho]; simp [Op.operands]))
 have hy : a.eval y = .slice none 0 0 := zGc hny
 obtain ⟨l, c, b0, hv⟩ : ∃ (b0 : Option Addr) (l c : Nat), a.eval x = .slice b0 l c := by
   generalize a.eval x = v at hrx;cases hrx with
   | litE => exact ⟨_, _, _, rfl⟩
   | lit hm hc hr => exact ⟨_, _, _, rfl⟩
 obtain ⟨b, hrun⟩ := run_eql_nil2 (P := P) (a := l) (l := c) (c := b0) (zCu hty) E.w
 have hrun' : (execOp a.eval o).run P E.w = .ok (.value (.bool b)) E.w := by
   obtain ⟨dst, op, type, pos, after, guard⟩ := o;simp only at ho; subst ho;have hgd : (eqGuard .eql t x y (.slice l c b0) (.slice none 0 0)).run P E.w = .ok () E.w := by rw [eqGuard_at_slice]; rfl
   simp only [execOp, hv, hy, Sem.run_bind, hgd, hrun, Result.andThen_ok, Sem.run_pure]
 have hst : St E0 n { r := putR s.r (some d) (.bool b), h := s.h, cnt := s.cnt } (a.put o.dst (.bool b)) E.w := by
   refine ⟨E, rfl, ?_, hle, hb, hk⟩;rw [hd, ← S.cnt, ← S.h];exact S.put (p := .bool b) (EnvLe.refl _) S.good S.tt (.sc rfl) rfl rfl rfl
 unfold Oper.wp;rw [hrun'];exact hK _ _ _ (hall b) hst (zCT _ _ _)
def zDB (E : Env) (k : Key) : Env := { E with h := fun k' => if k' = k then none else E.h k' }
theorem zDa {E : Env} {k k1 : Key} {o : PObj} (h : (zDB E k).h k1 = some o) : k1 ≠ k ∧ E.h k1 = some o := by
 simp only [zDB] at h;split at h
 · cases h
 · exact ⟨by assumption, h⟩
theorem zGS {E : Env} {k : Key} : EnvLe E (zDB E k) where
 blk := fun _ _ _ => rfl
 size := Nat.le_refl _
 own := fun b ⟨k', o, h1, h2⟩ => .inl ⟨k', o, (zDa h1).2, h2⟩
 M := rfl
 tt := rfl
 B0 := rfl
 cnt := fun _ => Nat.le_refl _
 nokey := fun k' _ hn => by simp only [zDB]; split <;> first | rfl | exact hn
 rows := fun k' sz rs hr => by
   by_cases e : k' = k
   · exact .inl (by simp [zDB, e])
   · exact .inr ⟨rs, by simp [zDB, e, hr], rfl, rfl⟩
 map := fun k' o hr _ => by
   by_cases e : k' = k
   · exact .inl (by simp [zDB, e])
   · exact .inr ⟨o, by simp [zDB, e, hr], rfl, rfl⟩
theorem frzEnv_obj {E : Env} {k k1 : Key} {o : PObj} (ho : ObjOK E k1 o) : ObjOK (zDB E k) k1 o := by
 have hle : EnvLe E (zDB E k) := zGS;cases o with
 | rows sz rs =>
   obtain ⟨c, T, h1, h2, h3, h4, h5, h6, h7⟩ := ho;exact ⟨c, T, h1, h2, h3, h4, h5, h6, fun i j row p h8 h9 => by obtain ⟨v, h10, h11⟩ := h7 i j row p h8 h9; exact ⟨v, h10, h11.le hle⟩⟩
 | map es bs clk =>
   obtain ⟨ents, h1, h2, h3, h4, h5, h6⟩ := ho;exact ⟨ents, h1, h2, h3, fun i e p h7 h8 => ⟨(h4 i e p h7 h8).1.le hle, (h4 i e p h7 h8).2.le hle⟩, h5, h6⟩
 | iter km since seen =>
   obtain ⟨b, h1, h2, h3⟩ := ho;exact ⟨b, h1, h2, fun o ho => h3 o (zDa ho).2⟩
theorem frzEnv_good {E : Env} (g : Good E) (k : Key) : Good (zDB E k) where
 inj := fun k1 k2 o1 o2 h1 h2 h3 => g.inj _ _ _ _ (zDa h1).2 (zDa h2).2 h3
 known := fun k1 o h1 => g.known k1 o (zDa h1).2
 base := fun k1 o h1 => g.base k1 o (zDa h1).2
 obj := fun k1 o h1 => frzEnv_obj (g.obj k1 o (zDa h1).2)
 out := g.out
 size := g.size
 glob := g.glob
theorem zLi {E : Env} (g : Good E) {k : Key} {sz : Nat} {rs : Rows} (hk : E.h k = some (.rows sz rs)) (hp : ∀ row ∈ rs, ∀ p ∈ row, Pure p) :
   ∃ f, MemAt (zDB E k) false sz rs (E.blk k) (E.cap k).2 f ∧ ∀ (i j : Nat) (row : List PV) (p : PV), rs[i]? = some row → row[j]? = some p → Rep (zDB E k) (f i j) p := by
 have V := View.of_obj (g.obj k _ hk);refine ⟨fun i j => (E.w.cell? ⟨E.blk k, (E.cap k).2 + i * sz + j, none⟩).getD undef, ⟨?_, fun _ hM => ?_, (fun h => by cases h), zBL g hk, V.width, fun i j row p h1 h2 => ?_, hp, V.one⟩, fun i j row p h1 h2 => ?_⟩
 · rintro ⟨k', o, h1, h2⟩
   exact (zDa h1).1 (g.inj _ _ _ _ (zDa h1).2 hk h2)
 · have h1 := g.out _ hM;have h2 := g.base _ _ hk;omega
 · obtain ⟨v, h3, h4⟩ := V.cell i j row p h1 h2;show E.w.cell? _ = _;rw [h3]; rfl
 · obtain ⟨v, h3, h4⟩ := V.cell i j row p h1 h2;show Rep _ ((E.w.cell? ⟨E.blk k, (E.cap k).2 + i * sz + j, none⟩).getD undef) p;rw [h3];exact h4.le zGS
theorem frz_st {E0 : Env} {n : Nat} {s : PS} {a : Act} {w : World} {u : Nat} {k : Key} {sz : Nat} {rs : Rows} {i j : Nat} (st : St E0 n s a w) (hx : s.r u = .ptr k sz i j) (hkey : s.h k = some (.rows sz rs)) (hpu : ∀ row ∈ rs, ∀ p ∈ row, Pure p) :
   St E0 n (frzS s u k sz rs i j) a w := by
 obtain ⟨E, rfl, S, hle, hb, hk⟩ := st;rw [← S.h] at hkey;obtain ⟨f, hm, hr⟩ := zLi S.good hkey hpu;have hg' := frzEnv_good S.good k;have hle' : EnvLe E (zDB E k) := zGS;refine ⟨zDB E k, rfl, ?_, hle.trans hle' hk, hb, hk⟩
 have S2 : Sim E0.w.heap.size (zDB E k) n { r := s.r, h := fun k' => if k' = k then none else s.h k', cnt := s.cnt } a :=
   S.put (dst := none) (v := .bool true) (p := .bool true) hle' hg' S.tt (.sc rfl) rfl (by simp only [zDB, S.h]) S.cnt
 exact ⟨S2.good, S2.h, S2.cnt, S2.tt, S2.size, fun x v hxv => (by
     by_cases q : x = u
     · subst q;have hrx := S.regs x v hxv;rw [hx] at hrx;simp only [frzS, putR, if_true];cases hrx with
       | ptr hk1 hl =>
         obtain ⟨⟨hb1, ha1⟩, _⟩ := hl _ hkey;subst hb1; subst ha1;exact .lptr i j hm hr
     · simp only [frzS, putR, if_neg q];exact S2.regs x v hxv), S2.defers⟩
theorem frz_sound {E0 E : Env} {n : Nat} {s : PS} {a : Act} {o : Oper} {K' : PS → Prop} {K : Act → World → Prop} {Q : Exit → Act → World → Prop} (S : Sim E0.w.heap.size E n s a) (hle : EnvLe E0 E) (hb : Below E0.B0 E0.w E.w) (hk : ∀ k o, E0.h k = some o → E0.known k)
   (hsc : zA8 n o = true) (hN : FrzP P K' o s) (hK : ∀ a' w' s', K' s' → St E0 n s' a' w' → a'.defers = a.defers → K a' w') : o.wp P a E.w K Q := by
 obtain ⟨u, k, sz, rs, i, j, hob, _, hx, hkey, hpu, hall⟩ := hN;exact zJD S hle hb hk hsc hob fun a' w' st' hd => hK a' w' _ hall (frz_st st' hx hkey hpu) hd
theorem nil_sound {E0 E : Env} {n : Nat} {s : PS} {a : Act} {o : Oper} {K' : PS → Prop} {K : Act → World → Prop} {Q : Exit → Act → World → Prop} (S : Sim E0.w.heap.size E n s a) (hle : EnvLe E0 E) (hb : Below E0.B0 E0.w E.w) (hk : ∀ k o, E0.h k = some o → E0.known k)
   (hsc : zA8 n o = true) (hN : NilP P K' o s) (hK : ∀ a' w' s', K' s' → St E0 n s' a' w' → a'.defers = a.defers → K a' w') : o.wp P a E.w K Q :=
 hN.elim (fun h => nil_sound0 S hle hb hk hsc h hK) (fun h => frz_sound S hle hb hk hsc h hK)
theorem zFu {E0 : Env} {n : Nat} {ops : Array Oper} {Q : Exit → Act → World → Prop} {K : PS → Prop} : ∀ (l : List Oper) (s : PS) (a : Act) (w : World), (∀ o ∈ l, o.guard = none) → (∀ o ∈ l, zA8 n o = true) →
   pOps P K l s → St E0 n s a w → (∀ s' a' w', K s' → St E0 n s' a' w' → a'.defers = a.defers → Q .normal a' w') → wpList P ops Q l a w
 | [], s, a, w, _, _, h, st, hQ => hQ s a w h st rfl
 | o :: l, s, a, w, hg, hsc, h, ⟨E, hw, S, hle, hb, hk⟩, hQ => by
   subst hw;have ih := zFu (E0 := E0) (n := n) (Q := Q) (ops := ops) (K := K) l;unfold wpList;rw [if_pos (zF2 (hg o (by simp)) _)];refine .inl ?_;unfold pOps at h;split at h
   · rcases h with ⟨h1, h2⟩ | h1 | h1 | h1
     · exact zJD S hle hb hk (hsc o (by simp)) h1 fun a' w' st' hd => ih _ a' w' (fun o ho => hg o (by simp [ho])) (fun o ho => hsc o (by simp [ho])) h2 st' (fun s2 a2 w2 k1 k2 k3 => hQ s2 a2 w2 k1 k2 (k3.trans hd))
     · exact next_sound S hle hb hk (hsc o (by simp)) h1 fun a' w' s' h2 st' hd => ih _ a' w' (fun o ho => hg o (by simp [ho])) (fun o ho => hsc o (by simp [ho])) h2 st' (fun s2 a2 w2 k1 k2 k3 => hQ s2 a2 w2 k1 k2 (k3.trans hd))
     · exact ren_sound S hle hb hk (hsc o (by simp)) h1 fun a' w' s' h2 st' hd => ih _ a' w' (fun o ho => hg o (by simp [ho])) (fun o ho => hsc o (by simp [ho])) h2 st' (fun s2 a2 w2 k1 k2 k3 => hQ s2 a2 w2 k1 k2 (k3.trans hd))
     · exact nil_sound S hle hb hk (hsc o (by simp)) h1 fun a' w' s' h2 st' hd => ih _ a' w' (fun o ho => hg o (by simp [ho])) (fun o ho => hsc o (by simp [ho])) h2 st' (fun s2 a2 w2 k1 k2 k3 => hQ s2 a2 w2 k1 k2 (k3.trans hd))
   · rename_i f args hc;exact call_sound S hle hb hk (hsc o (by simp)) hc h fun a' w' v h' cnt' hR st' hd => ih _ a' w' (fun o ho => hg o (by simp [ho])) (fun o ho => hsc o (by simp [ho])) hR st' (fun s2 a2 w2 k1 k2 k3 => hQ s2 a2 w2 k1 k2 (k3.trans hd))
def zCE (E : Env) : Nat → Prop := fun b => E.M b ∨ E.own b
theorem zEz {E : Env} (g : Good E) : ∀ b, zCE E b → b < E.w.heap.size := fun b hb => by
 rcases hb with h | ⟨k, o, h, rfl⟩
 · exact Nat.lt_of_lt_of_le (g.out b h) g.size
 · exact zBL g h
theorem zCD {w : World} {M : Nat → Prop} {tt : Bool} (b : Nat) : ¬ (zA5 w M tt).own b := fun ⟨_, _, h, _⟩ => by simp [zA5] at h
theorem zGs {E : Env} {v : Value} {p : PV} (h : Rep E v p) (hp : Pure p) : Rep (zA5 E.w (zCE E) true) v p :=
 h.pure_env hp (fun b _ _ _ => zCD b) (fun b _ h1 h2 h3 => by rcases h3 with h3 | h3; exact h2 h3; exact h1 h3) (fun _ => rfl) (Nat.le_refl _) (fun _ _ _ => rfl)
theorem zJL {E : Env} (g : Good E) {k : Key} {sz : Nat} {rs : Rows} (hk : E.h k = some (.rows sz rs)) (d n : Nat) (hp : ∀ row ∈ (rs.drop d).take n, ∀ p ∈ row, Pure p) :
   ∃ f, MemAt (zA5 E.w (zCE E) true) true sz ((rs.drop d).take n) (E.blk k) ((E.cap k).2 + d * sz) f ∧
     ∀ (i j : Nat) (row : List PV) (p : PV), ((rs.drop d).take n)[i]? = some row → row[j]? = some p → Rep (zA5 E.w (zCE E) true) (f i j) p := by
 have V := (View.of_obj (g.obj k _ hk)).sub d n;refine ⟨fun i j => (E.w.cell? ⟨E.blk k, (E.cap k).2 + d * sz + i * sz + j, none⟩).getD undef, ⟨zCD _, (fun h => by cases h), fun _ => rfl, zBL g hk, V.width, fun i j row p h1 h2 => ?_, hp, V.one⟩, fun i j row p h1 h2 => ?_⟩
 · obtain ⟨v, h3, h4⟩ := V.cell i j row p h1 h2;show E.w.cell? _ = _;rw [h3]; rfl
 · obtain ⟨v, h3, h4⟩ := V.cell i j row p h1 h2;show Rep _ ((E.w.cell? ⟨E.blk k, (E.cap k).2 + d * sz + i * sz + j, none⟩).getD undef) p;rw [h3];exact zGs h4 (hp row (List.mem_of_getElem? h1) p (List.mem_of_getElem? h2))
theorem lit_down {E : Env} {v : Value} {t t' : Bool} {sz : Nat} {rows : Rows} (h : Rep E v (.lit t sz rows)) (ht : t = true → t' = true) : Rep (zA5 E.w (zCE E) true) v (.lit t' sz rows) := by
 cases h with
 | litE => exact .litE
 | lit hm hc hr =>
   have hd := fun i j row p h1 h2 => zGs (hr i j row p h1 h2) (hm.pure row (List.mem_of_getElem? h1) p (List.mem_of_getElem? h2));refine .lit ⟨zCD _, fun h3 h4 => ?_, fun _ => rfl, hm.lt, hm.width, hm.cell, hm.pure, hm.one⟩ hc hd;have h5 : t = false := by cases t with | false => rfl | true => rw [ht rfl] at h3; cases h3
   rcases h4 with h4 | h4
   · exact hm.out h5 h4
   · exact hm.own h4
theorem zFD {E : Env} (g : Good E) {v : Value} {p q : PV} (hi : Inn0 E.h p q) (h : Rep E v p) : Rep (zA5 E.w (zCE E) true) v q := by
 cases hi with
 | pure hp => exact zGs h hp
 | lit ht => exact lit_down h ht
 | nil t sz => cases h with | nil => exact .litE
 | ref hk hl hr hp =>
   subst hr;rename_i k sz off len rs;obtain ⟨f, hm, hd⟩ := zJL g hk off len hp;have hlen : ((rs.drop off).take len).length = len := by rw [List.length_take, List.length_drop]; omega
   cases h with
   | ref hk1 hlc hq =>
     obtain ⟨⟨hb, ha⟩, _⟩ := hq _ hk;subst hb; subst ha;have := Rep.lit (c := ‹Nat›) hm (by rw [hlen]; exact hlc) hd;rw [hlen] at this;exact this
   | refE hk1 hq =>
     rw [List.take_zero];exact .litE
 | ptr hk hp =>
   rename_i k sz i j rs;obtain ⟨f, hm, hd⟩ := zJL g hk 0 rs.length (by simpa using hp);simp only [List.drop_zero, List.take_length, Nat.zero_mul, Nat.add_zero] at hm hd;cases h with
   | ptr hk1 hq =>
     obtain ⟨⟨hb, ha⟩, _⟩ := hq _ hk;subst hb; subst ha;exact Rep.lptr i j hm hd
 | lptr ht =>
   rename_i t t' sz i j rows;cases h with
   | lptr _ _ hm hr =>
     refine .lptr _ _ ⟨zCD _, fun h3 h4 => ?_, fun _ => rfl, hm.lt, hm.width, hm.cell, hm.pure, hm.one⟩ fun i j row p h1 h2 => zGs (hr i j row p h1 h2) (hm.pure row (List.mem_of_getElem? h1) p (List.mem_of_getElem? h2));have h5 : t = false := by cases t with | false => rfl | true => rw [ht rfl] at h3; cases h3
     rcases h4 with h4 | h4
     · exact hm.out h5 h4
     · exact hm.own h4
theorem zJR {E : Env} (g : Good E) {v : Value} {p q : PV} (hi : Inn E.h p q) (h : Rep E v p) : Rep (zA5 E.w (zCE E) true) v q := by
 cases hi with
 | base hi => exact zFD g hi h
 | func hl hl' ih ih' =>
   cases h with
   | func h1 h2 h3 h4 =>
     refine .func (h1.trans hl) (h2.trans hl') (fun i u q h5 h6 => ?_) (fun i u q h5 h6 => ?_)
     · have hi := (List.getElem?_eq_some_iff.1 h6).1;exact zFD g (ih i _ q (List.getElem?_eq_getElem (by omega)) h6) (h3 i u _ h5 (List.getElem?_eq_getElem (by omega)))
     · have hi := (List.getElem?_eq_some_iff.1 h6).1;exact zFD g (ih' i _ q (List.getElem?_eq_getElem (by omega)) h6) (h4 i u _ h5 (List.getElem?_eq_getElem (by omega)))
 | agg hl ih =>
   cases h with
   | agg h1 h2 =>
     refine .agg (h1.trans hl) fun i u q h5 h6 => ?_;have hi := (List.getElem?_eq_some_iff.1 h6).1;exact zFD g (ih i _ q (List.getElem?_eq_getElem (by omega)) h6) (h2 i u _ h5 (List.getElem?_eq_getElem (by omega)))
theorem Inns.length {h : Heap} {a b : List PV} (hi : Inns h a b) : a.length = b.length := by
 induction hi with
 | nil => rfl
 | cons _ _ ih => simp [ih]
theorem Inns.get {h : Heap} {a b : List PV} (hi : Inns h a b) : ∀ (i : Nat) (p q : PV), a[i]? = some p → b[i]? = some q → Inn h p q := by
 induction hi with
 | nil => intro i p q h1; simp at h1
 | cons h1 _ ih =>
   intro i p q h2 h3;cases i with
   | zero => simp at h2 h3; subst h2; subst h3; exact h1
   | succ i => exact ih i p q (by simpa using h2) (by simpa using h3)
theorem zAy.of_pure {f : FuncId} {args as' : List PV} {h : Heap} {cnt : Nat → Nat} {v : PV} {R : PV → Heap → (Nat → Nat) → Prop} (hc : PCalls P f as' v) (ha : Inns h args as') (hR : R v h cnt) : zAy P f args h cnt R := by
 refine ⟨hc.2.1, fun E vs g hh hcn htt hsz hrep => ?_⟩;subst hh;refine (hc.2.2 E.w (zCE E) vs (zEz g) (zCr g.glob g.size fun _ _ => rfl) (hsz.trans ha.length) fun i u q h1 h2 => ?_).mono ?_
 · have hi := (List.getElem?_eq_some_iff.1 h2).1;have hi' : i < args.length := by rw [ha.length]; exact hi
   exact zJR g (ha.get i _ q (List.getElem?_eq_getElem hi') h2) (hrep i u _ h1 (List.getElem?_eq_getElem hi'))
 · rintro e w' ⟨u, rfl, hu, hbl⟩
   have hblk : ∀ b, b < E.w.heap.size → w'.heap[b]? = E.w.heap[b]? := hbl.block;have hle : EnvLe E { E with w := w' } := ⟨fun b hb _ => hblk b hb, hbl.size, fun b hb => .inl hb, rfl, rfl, rfl, fun _ => Nat.le_refl _, fun _ _ h => h, fun _ _ rs h => .inr ⟨rs, h, rfl, rfl⟩, fun _ o h _ => .inr ⟨o, h, rfl, rfl⟩⟩
   refine ⟨u, v, { E with w := w' }, rfl, by rw [← hcn] at hR; exact hR, rfl, ⟨g.inj, g.known, g.base, fun k o h => ObjOK.le hle rfl rfl (hblk _ (zBL g h)) (g.obj k o h), g.out, Nat.le_trans g.size hbl.size, zCr g.glob (Nat.le_refl _) fun b hb => hblk b (Nat.lt_of_lt_of_le hb g.size)⟩, hle, hbl.mono g.size, ?_⟩;refine hu.pure_env hc.1 (fun b _ _ h1 h2 => h1 rfl (.inr h2)) (fun b _ _ h1 h2 => h1 (.inl h2)) (fun h => by cases h) (Nat.le_refl _) (fun _ _ _ => rfl)
theorem zJU {E : Env} (g : Good E) {ks : List Key} {v : Value} {p q : PV} (hi : InnX E.h ks p q) (h : Rep E v p) : Rep (zA5 E.w (zCE E) true) v q := by
 cases hi with
 | base hi _ => exact zJR g hi h
 | rows hk hm hlen hl hr =>
   rename_i k sz len rs rows;have V := View.of_obj (g.obj k _ hk)
   have hd : ∀ (i j : Nat) (row' : List PV) (q : PV), rows[i]? = some row' → row'[j]? = some q → ∃ row p, rs[i]? = some row ∧ row[j]? = some p ∧ row'.length = row.length ∧ Inn0 E.h p q ∧ Pure q ∧ q.cell = true := fun i j row' q h1 h2 => by
     have hi := (List.getElem?_eq_some_iff.1 h1).1;have h3 := List.getElem?_eq_getElem (l := rs) (i := i) (by omega);obtain ⟨h4, h5⟩ := hr i _ row' h3 h1;have hj := (List.getElem?_eq_some_iff.1 h2).1;have h6 := List.getElem?_eq_getElem (l := rs[i]) (i := j) (by omega);obtain ⟨h7, h8, h9, _⟩ := h5 j _ q h6 h2;exact ⟨_, _, h3, h6, h4, h7, h8, h9⟩
   have hw : ∀ row' ∈ rows, row'.length = sz := fun row' hm' => by
     obtain ⟨i, h1⟩ := List.getElem?_of_mem hm';have hi := (List.getElem?_eq_some_iff.1 h1).1;have h3 := List.getElem?_eq_getElem (l := rs) (i := i) (by omega);rw [(hr i _ row' h3 h1).1]; exact V.width _ (List.getElem_mem _)
   have hmm : ∀ row' ∈ rows, ∀ q ∈ row', Pure q ∧ q.cell = true := fun row' hm' q hq => by
     obtain ⟨i, h1⟩ := List.getElem?_of_mem hm';obtain ⟨j, h2⟩ := List.getElem?_of_mem hq;obtain ⟨_, _, _, _, _, _, h8, h9⟩ := hd i j row' q h1 h2;exact ⟨h8, h9⟩
   have hc : ∀ (i j : Nat) (row' : List PV) (q : PV), rows[i]? = some row' → row'[j]? = some q → ∃ u, E.w.cell? ⟨E.blk k, (E.cap k).2 + 0 * sz + i * sz + j, none⟩ = some u ∧ Rep (zA5 E.w (zCE E) true) u q := fun i j row' q h1 h2 => by
     obtain ⟨row, p, h3, h4, _, h5, _, _⟩ := hd i j row' q h1 h2;obtain ⟨u, h6, h7⟩ := V.cell i j row p h3 h4;exact ⟨u, by rw [Nat.zero_mul, Nat.add_zero]; exact h6, zFD g h5 h7⟩
   have hM : MemAt (zA5 E.w (zCE E) true) true sz rows (E.blk k) ((E.cap k).2 + 0 * sz) fun i j => (E.w.cell? ⟨E.blk k, (E.cap k).2 + 0 * sz + i * sz + j, none⟩).getD undef := by
     refine ⟨zCD _, (fun h => by cases h), fun _ => rfl, zBL g hk, hw, fun i j row' q h1 h2 => ?_, fun row' h1 q h2 => (hmm row' h1 q h2).1, fun row' h1 q h2 => (hmm row' h1 q h2).2⟩;obtain ⟨u, h3, _⟩ := hc i j row' q h1 h2;show E.w.cell? _ = _;rw [h3]; rfl
   have hR : ∀ (i j : Nat) (row' : List PV) (q : PV), rows[i]? = some row' → row'[j]? = some q → Rep (zA5 E.w (zCE E) true) ((E.w.cell? ⟨E.blk k, (E.cap k).2 + 0 * sz + i * sz + j, none⟩).getD undef) q := fun i j row' q h1 h2 => by
     obtain ⟨u, h3, h4⟩ := hc i j row' q h1 h2;rw [h3]; exact h4
   cases h with
   | ref hk1 hlc hq =>
     obtain ⟨⟨hb, ha⟩, _⟩ := hq _ hk;subst hb; subst ha;have := Rep.lit (c := ‹Nat›) hM (by rw [hl, ← hlen]; exact hlc) hR;rw [hl, ← hlen] at this;exact this
   | refE hk1 hq =>
     have : rows = [] := List.eq_nil_of_length_eq_zero (by rw [hl, ← hlen]);rw [this]; exact .litE
theorem InnsX.length {h : Heap} {ks : List Key} {a b : List PV} (hi : InnsX h ks a b) : a.length = b.length := by
 induction hi with
 | nil => rfl
 | cons _ _ ih => simp [ih]
theorem InnsX.get {h : Heap} {ks : List Key} {a b : List PV} (hi : InnsX h ks a b) : ∀ (i : Nat) (p q : PV), a[i]? = some p → b[i]? = some q → InnX h ks p q := by
 induction hi with
 | nil => intro i p q h1; simp at h1
 | cons h1 _ ih =>
   intro i p q h2 h3;cases i with
   | zero => simp at h2 h3; subst h2; subst h3; exact h1
   | succ i => exact ih i p q (by simpa using h2) (by simpa using h3)
theorem zAy.of_pureX {f : FuncId} {args as' : List PV} {h : Heap} {cnt : Nat → Nat} {v : PV} {R : PV → Heap → (Nat → Nat) → Prop} (hc : PCalls P f as' v) {ks : List Key} (ha : InnsX h ks args as') (hR : R v h cnt) : zAy P f args h cnt R := by
 refine ⟨hc.2.1, fun E vs g hh hcn htt hsz hrep => ?_⟩;subst hh;refine (hc.2.2 E.w (zCE E) vs (zEz g) (zCr g.glob g.size fun _ _ => rfl) (hsz.trans ha.length) fun i u q h1 h2 => ?_).mono ?_
 · have hi := (List.getElem?_eq_some_iff.1 h2).1;have hi' : i < args.length := by rw [ha.length]; exact hi
   exact zJU g (ha.get i _ q (List.getElem?_eq_getElem hi') h2) (hrep i u _ h1 (List.getElem?_eq_getElem hi'))
 · rintro e w' ⟨u, rfl, hu, hbl⟩
   have hblk : ∀ b, b < E.w.heap.size → w'.heap[b]? = E.w.heap[b]? := hbl.block;have hle : EnvLe E { E with w := w' } := ⟨fun b hb _ => hblk b hb, hbl.size, fun b hb => .inl hb, rfl, rfl, rfl, fun _ => Nat.le_refl _, fun _ _ h => h, fun _ _ rs h => .inr ⟨rs, h, rfl, rfl⟩, fun _ o h _ => .inr ⟨o, h, rfl, rfl⟩⟩
   refine ⟨u, v, { E with w := w' }, rfl, by rw [← hcn] at hR; exact hR, rfl, ⟨g.inj, g.known, g.base, fun k o h => ObjOK.le hle rfl rfl (hblk _ (zBL g h)) (g.obj k o h), g.out, Nat.le_trans g.size hbl.size, zCr g.glob (Nat.le_refl _) fun b hb => hblk b (Nat.lt_of_lt_of_le hb g.size)⟩, hle, hbl.mono g.size, ?_⟩;refine hu.pure_env hc.1 (fun b _ _ h1 h2 => h1 rfl (.inr h2)) (fun b _ _ h1 h2 => h1 (.inl h2)) (fun h => by cases h) (Nat.le_refl _) (fun _ _ _ => rfl)
end
section
def zBi (E : Env) (site : Nat) (o : PObj) (w' : World) (c : Nat × Nat) (gb : Nat) : Env :=
 { E with
   w := w'
   h := fun k => if k = (site, E.cnt site) then some o else E.h k
   cnt := fun s => if s = site then E.cnt s + 1 else E.cnt s
   blk := fun k => if k = (site, E.cnt site) then gb else E.blk k
   cap := fun k => if k = (site, E.cnt site) then c else E.cap k }
variable {E : Env}
theorem zHl (g : Good E) {site : Nat} {o : PObj} {w' : World} {c : Nat × Nat} {gb : Nat} (hbl : Below E.w.heap.size E.w w') (hgb : E.w.heap.size ≤ gb) : EnvLe E (zBi E site o w' c gb) where
 blk := fun b hb _ => hbl.block b hb
 size := hbl.size
 own := fun b ⟨k, o', h1, h2⟩ => by
   simp only [zBi] at h1 h2;by_cases hk : k = (site, E.cnt site)
   · rw [if_pos hk] at h2; exact .inr (by omega)
   · rw [if_neg hk] at h1 h2; exact .inl ⟨k, o', h1, h2⟩
 M := rfl
 tt := rfl
 B0 := rfl
 cnt := fun s => by simp only [zBi]; split <;> omega
 nokey := fun k hk hn => by simp only [zBi]; rw [if_neg (zC8 hk)]; exact hn
 rows := fun k sz rs hk => .inr ⟨rs, by
   have := zC8 (site := site) (g.known _ _ hk);simp [zBi, this, hk]⟩
 map := fun k o1 hk _ => .inr ⟨o1, by
   have := zC8 (site := site) (g.known _ _ hk);simp [zBi, this, hk]⟩
theorem newEnvB_good (g : Good E) {site : Nat} {o : PObj} {w' : World} {c : Nat × Nat} {gb : Nat} (hbl : Below E.w.heap.size E.w w') (hgb : E.w.heap.size ≤ gb) (ho : ObjOK (zBi E site o w' c gb) (site, E.cnt site) o) : Good (zBi E site o w' c gb) where
 inj := fun k k' o1 o2 h1 h2 h3 => by
   simp only [zBi] at h1 h2 h3;by_cases hk : k = (site, E.cnt site) <;> by_cases hk' : k' = (site, E.cnt site)
   · rw [hk, hk']
   · rw [if_pos hk, if_neg hk'] at h3;rw [if_neg hk'] at h2;have := zBL g h2;omega
   · rw [if_neg hk, if_pos hk'] at h3;rw [if_neg hk] at h1;have := zBL g h1;omega
   · rw [if_neg hk, if_neg hk'] at h3;rw [if_neg hk] at h1;rw [if_neg hk'] at h2;exact g.inj k k' _ _ h1 h2 h3
 known := fun k o' h1 => by
   simp only [zBi, Env.known] at h1 ⊢;by_cases hk : k = (site, E.cnt site)
   · subst hk; simp
   · rw [if_neg hk] at h1;have := g.known k o' h1;simp only [Env.known] at this;split
     · rename_i hs; omega
     · exact this
 base := fun k o' h1 => by
   simp only [zBi] at h1 ⊢;by_cases hk : k = (site, E.cnt site)
   · rw [if_pos hk]; exact Nat.le_trans g.size hgb
   · rw [if_neg hk] at h1 ⊢; exact g.base k o' h1
 obj := fun k o' h1 => by
   by_cases hk : k = (site, E.cnt site)
   · subst hk;simp only [zBi, if_true] at h1;cases h1; exact ho
   · have h1' : E.h k = some o' := by simp only [zBi] at h1; rw [if_neg hk] at h1; exact h1
     exact ObjOK.le (zHl g hbl hgb) (by simp [zBi, hk]) (by simp [zBi, hk]) (hbl.block _ (zBL g h1')) (g.obj k o' h1')
 out := g.out
 size := Nat.le_trans g.size hbl.size
 glob := zCr g.glob (Nat.le_refl _) fun b hb' => hbl.block b (Nat.lt_of_lt_of_le hb' g.size)
theorem adopt (g : Good E) {w' : World} {gb site sz cp ba : Nat} {rs : Rows} {cells : Array Value} {T : TypeId} (hbl : Below E.w.heap.size E.w w') (hgb : E.w.heap.size ≤ gb) (hc : w'.heap[gb]? = some (.cells cells T (0, 0)))
   (hsz : cells.size = ba + cp * sz) (h1 : rs.length ≤ cp) (h2 : 1 ≤ sz) (hw : ∀ row ∈ rs, row.length = sz)
   (hr : ∀ (i j : Nat) (row : List PV) (p : PV), rs[i]? = some row → row[j]? = some p → ∃ x, p = .sc x ∧ zBM x = true ∧ cells[ba + i * sz + j]? = some x) :
   Good (zBi E site (.rows sz rs) w' (cp, ba) gb) ∧ EnvLe E (zBi E site (.rows sz rs) w' (cp, ba) gb) ∧ (∀ c, rs.length ≤ c → c ≤ cp → Rep (zBi E site (.rows sz rs) w' (cp, ba) gb) (.slice (some ⟨gb, ba, none⟩) rs.length c) (.ref (site, E.cnt site) sz 0 rs.length)) ∧ (rs.length = 0 → ∀ a, Rep (zBi E site (.rows sz rs) w' (cp, ba) gb) (.slice a 0 0) (.ref (site, E.cnt site) sz 0 rs.length)) := by
 have hcell : ∀ row ∈ rs, ∀ p ∈ row, p.cell = true := fun row hrow p hp => by
   obtain ⟨i, hi⟩ := List.mem_iff_getElem?.1 hrow;obtain ⟨j, hj⟩ := List.mem_iff_getElem?.1 hp;obtain ⟨x, rfl, _⟩ := hr i j row p hi hj;rfl
 have ho : ObjOK (zBi E site (.rows sz rs) w' (cp, ba) gb) (site, E.cnt site) (.rows sz rs) :=
   ⟨cells, T, by simp [zBi, hc], by simp [zBi, hsz], by simp [zBi, h1], h2, hw, hcell, fun i j row p h3 h4 => by
     obtain ⟨x, rfl, hx, h5⟩ := hr i j row p h3 h4;exact ⟨x, by simpa [zBi] using h5, .sc hx⟩⟩
 refine ⟨newEnvB_good g hbl hgb ho, zHl g hbl hgb, fun c hc1 hc2 => ?_, fun h0 a => ?_⟩
 · have hrep := Rep.ref (E := zBi E site (.rows sz rs) w' (cp, ba) gb) (b := gb) (a := ba) (k := (site, E.cnt site)) (sz := sz) (off := 0) (len := rs.length) (c := c) (by simp [zBi, Env.known]) hc1
     (fun o ho => by
       simp only [zBi, if_true, Option.some.injEq] at ho;subst ho;exact ⟨by simp [zBi], by simp [zBi]; omega, _, rfl⟩)
   exact hrep
 · rw [h0]
   exact Rep.refE (by simp [zBi, Env.known]) fun o ho => by
     simp only [zBi, if_true, Option.some.injEq] at ho;subst ho;exact ⟨_, rfl⟩
variable {P : Program}
theorem zAy.of_new {f : FuncId} {args as' : List PV} {h : Heap} {cnt : Nat → Nat} {sz : Nat} {rows : Rows} (site : Nat) (hc : PNew P f as' sz rows) (ha : Inns h args as') :
   zAy P f args h cnt fun v h' cnt' => v = .ref (site, cnt site) sz 0 rows.length ∧ h' = zAZ h [((site, cnt site), some (.rows sz rows))] ∧ cnt' = bumpC cnt site true := by
 obtain ⟨hb, h2, hw, hc⟩ := hc;refine ⟨hb, fun E vs g hh hcn htt hsz hrep => ?_⟩;subst hh;subst hcn;refine (hc E.w (zCE E) vs (zEz g) (zCr g.glob g.size fun _ _ => rfl) (hsz.trans ha.length) fun i u q h1 h2 => ?_).mono ?_
 · have hi := (List.getElem?_eq_some_iff.1 h2).1;have hi' : i < args.length := by rw [ha.length]; exact hi
   exact zJR g (ha.get i _ q (List.getElem?_eq_getElem hi') h2) (hrep i u _ h1 (List.getElem?_eq_getElem hi'))
 · rintro e w' ⟨u, gb, cp, ba, cells, T, rfl, hbl, hgb, hcl, hcs, h1, hr, hu⟩
   have had := adopt g (site := site) hbl hgb hcl hcs h1 h2 hw hr;refine ⟨u, _, zBi E site (.rows sz rows) w' (cp, ba) gb, rfl, ⟨rfl, rfl, rfl⟩, rfl, had.1, had.2.1, hbl.mono g.size, ?_⟩;rcases hu with ⟨c, rfl, h3, h4⟩ | ⟨a, rfl, h3⟩
   · exact had.2.2.1 c h3 h4
   · exact had.2.2.2 h3 a
end
end Go.Pv
