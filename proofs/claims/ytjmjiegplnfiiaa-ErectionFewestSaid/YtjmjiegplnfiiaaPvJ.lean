/- One operation that is no call of a function, eighth part: maps; a string's bytes. -/
import Derived.Test.YtjmjiegplnfiiaaPvI
namespace Go.Pv
open Go Go.RowKit
section
variable {P : Program} {E : Env}

theorem bytes_beq' (a b : ByteArray) : (a == b) = decide (a = b) := by
 rw [Bool.eq_iff_iff, decide_eq_true_eq]
 cases a; cases b
 rename_i x y
 show (x == y) = true ↔ _
 simp

theorem keyOk_cases {kt : TypeId} {p : PV} {v : Value} (h : keyOk P kt p) (hr : Rep E v p) :
   (∃ k n, p = .sc (.int k n) ∧ v = .int k n ∧ P.underlying kt = some (.int k)) ∨ (∃ s, p = .sc (.string s) ∧ v = .string s ∧ P.underlying kt = some .string) ∨
   (∃ cs vs fs, p = .agg cs ∧ v = .agg vs ∧ P.underlying kt = some (.struct fs) ∧ P.stoodInHeld kt = false ∧ keyParts P fs.toList 0 cs = true) := by
 unfold keyOk at h
 split at h
 · exact .inl ⟨_, _, rfl, hr.sc_inv, intKind_spec h⟩
 · exact .inr (.inl ⟨_, rfl, hr.sc_inv, isStringTy_spec h⟩)
 · unfold keyAgg at h
   split at h
   · rename_i fs hu
     simp only [Bool.and_eq_true, Bool.not_eq_true'] at h
     cases hr with
     | agg hl hp => exact .inr (.inr ⟨_, _, fs, rfl, rfl, hu, h.1, h.2⟩)
   · cases h
 · exact h.elim

/-- A cell of a key. -/
theorem basic_run {t : TypeId} {c : PV} {v : Value} (h : basicOk P t c = true) (hr : Rep E v c) : (P.underlying t).isSome = true ∧ tyAgg P t = false ∧ (∀ b n w, (Instr.checkKey b (n + 1) t v).run P w = .ok () w) ∧
   ∀ (e : PV) (u : Value), basicOk P t e = true → Rep E u e → (∀ d w, (Op.equalIn (d + 1) t v u).run P w = .ok (scEq c e) w) ∧ (scEq c e = true → v = u) ∧ (v = u → scEq c e = true) ∧ (scEq c e = true → ∀ n, Instr.sameBits n u v = true) := by
 unfold basicOk at h
 split at h
 · rename_i k n
   have hu := intKind_spec (of_decide_eq_true h)
   obtain rfl := hr.sc_inv
   refine ⟨by rw [hu]; rfl, by simp [tyAgg, hu], fun b m w => by simp [Instr.checkKey, run_under hu], fun e u he hur => ?_⟩
   unfold basicOk at he
   split at he
   · rename_i k' n'
     have hu' := intKind_spec (of_decide_eq_true he)
     rw [hu] at hu'; cases hu'
     obtain rfl := hur.sc_inv
     exact ⟨fun d w => run_equalIn_int w d _ _ _ _ _ hu, fun hq => by simp only [scEq, beq_iff_eq] at hq; rw [hq], fun hq => by cases hq; simp [scEq], fun hq m => by simp only [scEq, beq_iff_eq] at hq; subst hq; simp [Instr.sameBits]⟩
   · have := isStringTy_spec he; rw [hu] at this; cases this
   · have := isBoolTy_spec he; rw [hu] at this; cases this
   · cases he
 · rename_i s
   have hu := isStringTy_spec h
   obtain rfl := hr.sc_inv
   refine ⟨by rw [hu]; rfl, by simp [tyAgg, hu], fun b m w => by simp [Instr.checkKey, run_under hu], fun e u he hur => ?_⟩
   unfold basicOk at he
   split at he
   · have := intKind_spec (of_decide_eq_true he); rw [hu] at this; cases this
   · obtain rfl := hur.sc_inv
     exact ⟨fun d w => by rw [run_equalIn_string w d _ _ _ hu, bytes_beq]; rfl, fun hq => by simp only [scEq, decide_eq_true_eq] at hq; rw [hq], fun hq => by cases hq; simp [scEq], fun hq m => by simp only [scEq, decide_eq_true_eq] at hq; subst hq; simp [Instr.sameBits, bytes_beq']⟩
   · have := isBoolTy_spec he; rw [hu] at this; cases this
   · cases he
 · rename_i x
   have hu := isBoolTy_spec h
   obtain rfl := hr.sc_inv
   refine ⟨by rw [hu]; rfl, by simp [tyAgg, hu], fun b m w => by simp [Instr.checkKey, run_under hu], fun e u he hur => ?_⟩
   unfold basicOk at he
   split at he
   · have := intKind_spec (of_decide_eq_true he); rw [hu] at this; cases this
   · have := isStringTy_spec he; rw [hu] at this; cases this
   · obtain rfl := hur.sc_inv
     exact ⟨fun d w => run_equalIn_bool' w d _ _ _ hu, fun hq => by simp only [scEq, beq_iff_eq] at hq; rw [hq], fun hq => by cases hq; simp [scEq], fun hq m => by simp only [scEq, beq_iff_eq] at hq; subst hq; simp [Instr.sameBits]⟩
   · cases he
 · cases h

/-- Cells from one place on. -/
def FromAt (E : Env) (vs : Array Value) (i : Nat) (cs : List PV) : Prop := i + cs.length = vs.size ∧ ∀ j c, cs[j]? = some c → ∃ v, vs[i + j]? = some v ∧ Rep E v c
theorem FromAt.tail {vs : Array Value} {i : Nat} {c : PV} {cs : List PV} (h : FromAt E vs i (c :: cs)) : (∃ v, vs[i]? = some v ∧ Rep E v c) ∧ FromAt E vs (i + 1) cs :=
 ⟨h.2 0 c rfl, by have := h.1; simp at this; omega, fun j d hj => by have := h.2 (j + 1) d hj; rwa [show i + (j + 1) = i + 1 + j by omega] at this⟩
theorem fromAt_of {vs : Array Value} {cs : List PV} (h : Rep E (.agg vs) (.agg cs)) : FromAt E vs 0 cs := by
 cases h with
 | agg hl hp => exact ⟨by omega, fun j c hj => by
     have hlt : j < vs.size := by rw [hl]; exact (List.getElem?_eq_some_iff.1 hj).1
     exact ⟨vs[j], by simp [hlt], hp j _ _ (by simp [hlt]) hj⟩⟩

theorem part_basic {t : TypeId} {vs : Array Value} {i : Nat} {v : Value} (hu : (P.underlying t).isSome = true) (hg : tyAgg P t = false) (hv : vs[i]? = some v) (w : World) : (part t vs i).run P w = .ok v w := by
 unfold part
 rw [Sem.run_bind, run_isAgg hu, Result.andThen_ok, hg]
 simp [hv]

theorem keyParts_run {vs us : Array Value} : ∀ (fs : List Field) (i : Nat) (cs ds : List PV), keyParts P fs i cs = true → keyParts P fs i ds = true → FromAt E vs i cs → FromAt E us i ds →
   (∀ d w, (Op.eqFields (d + 1) vs us fs).run P w = .ok (scsEq cs ds) w) ∧ (scsEq cs ds = true → ∀ j, i ≤ j → vs[j]? = us[j]?) ∧ ((∀ j, i ≤ j → vs[j]? = us[j]?) → scsEq cs ds = true) ∧
   (scsEq cs ds = true → ∀ n j v u, i ≤ j → vs[j]? = some v → us[j]? = some u → Instr.sameBits n u v = true)
 | [], i, [], [], _, _, hc, hd => ⟨fun d w => rfl, fun _ j hj => by
     have h1 := hc.1; have h2 := hd.1
     simp at h1 h2
     rw [Array.getElem?_eq_none (by omega), Array.getElem?_eq_none (by omega)], fun _ => rfl, fun _ n j v u hj hv _ => by
     have h1 := hc.1; simp at h1
     rw [Array.getElem?_eq_none (by omega)] at hv; cases hv⟩
 | [], _, _ :: _, _, h, _, _, _ => by cases h
 | [], _, [], _ :: _, _, h, _, _ => by cases h
 | _ :: _, _, [], _, h, _, _, _ => by cases h
 | _ :: _, _, _ :: _, [], _, h, _, _ => by cases h
 | f :: fs, i, c :: cs, e :: ds, h, h', hc, hd => by
   simp only [keyParts, Bool.and_eq_true, bne_iff_ne, Nat.beq_eq] at h h'
   obtain ⟨h1, h2, _, h4, h5⟩ := h
   obtain ⟨_, _, _, h4', h5'⟩ := h'
   obtain ⟨⟨v, hv, hvr⟩, hct⟩ := hc.tail
   obtain ⟨⟨u, hu, hur⟩, hdt⟩ := hd.tail
   obtain ⟨b1, b2, _, b4⟩ := basic_run h4 hvr
   obtain ⟨q1, q2, q3, q4⟩ := b4 e u h4' hur
   obtain ⟨r1, r2, r3, r4⟩ := keyParts_run fs (i + 1) cs ds h5 h5' hct hdt
   refine ⟨fun d w => ?_, fun hs j hj => ?_, fun hall => ?_, fun hs n j v' u' hj hv' hu' => ?_⟩
   · simp only [Op.eqFields, if_pos h1, Sem.run_bind, h2, part_basic b1 b2 hv, Result.andThen_ok, part_basic b1 b2 hu, q1, scsEq]
     cases hq : scEq c e with
     | true => simpa using r1 d w
     | false => simp
   · simp only [scsEq, Bool.and_eq_true] at hs
     rcases Nat.eq_or_lt_of_le hj with rfl | hj
     · rw [hv, hu, q2 hs.1]
     · exact r2 hs.2 j hj
   · simp only [scsEq, Bool.and_eq_true]
     have h0 := hall i (Nat.le_refl _)
     rw [hv, hu] at h0
     exact ⟨q3 (Option.some.inj h0), r3 fun j hj => hall j (by omega)⟩
   · simp only [scsEq, Bool.and_eq_true] at hs
     rcases Nat.eq_or_lt_of_le hj with rfl | hj
     · rw [hv] at hv'; rw [hu] at hu'; cases hv'; cases hu'
       exact q4 hs.1 n
     · exact r4 hs.2 n j v' u' hj hv' hu'

theorem checkFields_run {vs : Array Value} (b : Bool) (n : Nat) (w : World) : ∀ (fs : List Field) (i : Nat) (cs : List PV), keyParts P fs i cs = true → FromAt E vs i cs →
   (forIn fs PUnit.unit fun f (_ : PUnit) => if f.name ≠ "_" then (do Instr.checkKey b (n + 1) f.type (← part f.type vs f.offset); pure (ForInStep.yield PUnit.unit) : Sem (ForInStep PUnit)) else pure (ForInStep.yield PUnit.unit)).run P w = .ok PUnit.unit w
 | [], i, [], _, _ => rfl
 | [], _, _ :: _, h, _ => by cases h
 | _ :: _, _, [], h, _ => by cases h
 | f :: fs, i, c :: cs, h, hc => by
   simp only [keyParts, Bool.and_eq_true, bne_iff_ne, Nat.beq_eq] at h
   obtain ⟨h1, h2, _, h4, h5⟩ := h
   obtain ⟨⟨v, hv, hvr⟩, hct⟩ := hc.tail
   obtain ⟨b1, b2, b3, _⟩ := basic_run h4 hvr
   rw [List.forIn_cons, if_pos h1]
   simp only [Sem.run_bind, h2, part_basic b1 b2 hv, Result.andThen_ok, b3, Sem.run_pure]
   exact checkFields_run b n w fs (i + 1) cs h5 hct

theorem run_checkKey' (b : Bool) (n : Nat) {kt : TypeId} {p : PV} {v : Value} (h : keyOk P kt p) (hr : Rep E v p) (w : World) : (Instr.checkKey b (n + 2) kt v).run P w = .ok () w := by
 rcases keyOk_cases h hr with ⟨k, n, rfl, rfl, hu⟩ | ⟨s, rfl, rfl, hu⟩ | ⟨cs, vs, fs, rfl, rfl, hu, hs, hp⟩
 · simp [Instr.checkKey, run_under hu]
 · simp [Instr.checkKey, run_under hu]
 · have := checkFields_run (P := P) (E := E) b n w fs.toList 0 cs hp (fromAt_of hr)
   unfold Instr.checkKey
   simp only [Sem.run_bind, run_under hu, Result.andThen_ok]
   rw [← Array.forIn_toList, this]
   rfl

theorem run_checkKey (b : Bool) {kt : TypeId} {p : PV} {v : Value} (h : keyOk P kt p) (hr : Rep E v p) (w : World) : (Instr.checkKey b 10000 kt v).run P w = .ok () w := run_checkKey' b 9998 h hr w

/-- Two keys: what the model's comparison gives. -/
theorem key_run {kt : TypeId} {p q : PV} {v u : Value} (h : keyOk P kt p) (hr : Rep E v p) (h' : keyOk P kt q) (hr' : Rep E u q) :
   (keyEq p q = true → v = u) ∧ (v = u → keyEq p q = true) ∧ (keyEq p q = true → ∀ n, Instr.sameBits (n + 1) u v = true) ∧
   ((∃ d, P.underlying kt = some d ∧ (∀ fs, d ≠ .struct fs) ∧ Instr.sameNow d v u = some (keyEq p q)) ∨ (∃ fs, P.underlying kt = some (.struct fs) ∧ Instr.sameNow (.struct fs) v u = none ∧ ∀ w, (Op.equal kt v u).run P w = .ok (keyEq p q) w)) := by
 rcases keyOk_cases h hr with ⟨k, n, rfl, rfl, hu⟩ | ⟨s, rfl, rfl, hu⟩ | ⟨cs, vs, fs, rfl, rfl, hu, hs, hp⟩ <;> rcases keyOk_cases h' hr' with ⟨k', n', rfl, rfl, hu'⟩ | ⟨s', rfl, rfl, hu'⟩ | ⟨cs', vs', fs', rfl, rfl, hu', hs', hp'⟩ <;> (rw [hu] at hu'; cases hu')
 · exact ⟨fun hq => by simp only [keyEq, beq_iff_eq] at hq; rw [hq], fun hq => by cases hq; simp [keyEq], fun hq n => by simp only [keyEq, beq_iff_eq] at hq; subst hq; simp [Instr.sameBits], .inl ⟨_, hu, by simp, by simp [Instr.sameNow, keyEq]⟩⟩
 · exact ⟨fun hq => by simp only [keyEq, decide_eq_true_eq] at hq; rw [hq], fun hq => by cases hq; simp [keyEq], fun hq n => by simp only [keyEq, decide_eq_true_eq] at hq; subst hq; simp [Instr.sameBits, bytes_beq'], .inl ⟨_, hu, by simp, by simp only [Instr.sameNow, keyEq]; congr 1; exact bytes_beq' _ _⟩⟩
 · obtain ⟨r1, r2, r3, r4⟩ := keyParts_run (P := P) (E := E) fs.toList 0 cs cs' hp hp' (fromAt_of hr) (fromAt_of hr')
   refine ⟨fun hq => ?_, fun hq => ?_, fun hq n => ?_, .inr ⟨fs, hu, rfl, fun w => ?_⟩⟩
   · congr 1
     exact Array.ext_getElem? fun i => r2 hq i (Nat.zero_le _)
   · cases hq; exact r3 fun _ _ => rfl
   · have hsz : vs'.size = vs.size := congrArg Array.size (Array.ext_getElem? fun i => (r2 hq i (Nat.zero_le _)).symm)
     simp only [Instr.sameBits, hsz, beq_self_eq_true, Bool.true_and, List.all_eq_true]
     rintro ⟨a, b⟩ hab
     obtain ⟨j, hj⟩ := List.mem_iff_getElem?.1 hab
     rw [List.getElem?_zip_eq_some] at hj
     exact r4 hq n j b a (Nat.zero_le _) (by simpa using hj.2) (by simpa using hj.1)
   · have hf : P.fieldsOf kt = fs := by simp [Program.fieldsOf, hu]
     show (Op.equalIn 10000 kt (.agg vs) (.agg vs')).run P w = _
     rw [run_equalIn_struct w 9999 kt vs vs' (by rw [hf]; exact hu) hs, hf]
     exact r1 9998 w

/-- Pointwise: entries of a map. -/
def EntsRep (E : Env) (ents : List MapEntry) (es : List (PV × PV)) : Prop :=
 ents.length = es.length ∧ ∀ (i : Nat) (e : MapEntry) (p : PV × PV), ents[i]? = some e → es[i]? = some p → Rep E e.key p.1 ∧ Rep E e.val p.2

theorem keyOk_under {kt : TypeId} {p : PV} {v : Value} (h : keyOk P kt p) (hr : Rep E v p) : ∃ d, P.underlying kt = some d := by
 rcases keyOk_cases h hr with ⟨_, _, _, _, hu⟩ | ⟨_, _, _, hu⟩ | ⟨_, _, _, _, _, hu, _⟩ <;> exact ⟨_, hu⟩

theorem find_now {kt : TypeId} {d : TypeDesc} (hd : P.underlying kt = some d) (hn : ∀ fs, d ≠ .struct fs) {kp : PV} {kv : Value} (hk : keyOk P kt kp) (hkr : Rep E kv kp) (vp : PV) :
   ∀ (ents : List MapEntry) (es : List (PV × PV)) (i : Nat), EntsRep E ents es → (∀ e ∈ es, keyOk P kt e.1) →
     (Instr.findNow d kv ents i = some none ∧ mapFind kp es = none ∧ mapSet kp vp es = es ++ [(kp, vp)] ∧ mapDel kp es = es) ∨
     (∃ j e pe, ents[j]? = some e ∧ es[j]? = some pe ∧ Instr.findNow d kv ents i = some (some (i + j, e.val)) ∧ mapFind kp es = some pe.2 ∧ mapSet kp vp es = es.set j (kp, vp) ∧ mapDel kp es = es.eraseIdx j ∧ keyEq kp pe.1 = true ∧ ∀ bs : List Nat, bs.length = es.length → delB kp es bs = bs.eraseIdx j ∧ ∀ clk, stampOf kp es bs clk = (bs[j]?).getD clk)
 | [], [], i, _, _ => .inl ⟨rfl, rfl, rfl, rfl⟩
 | [], _ :: _, _, h, _ => by simp [EntsRep] at h
 | _ :: _, [], _, h, _ => by simp [EntsRep] at h
 | e :: ents, pe :: es, i, h, hok => by
   obtain ⟨h1, h2⟩ := h.2 0 e pe rfl rfl
   have hs : Instr.sameNow d kv e.key = some (keyEq kp pe.1) := by
     rcases (key_run hk hkr (hok pe (by simp)) h1).2.2.2 with ⟨d', hd', _, hs⟩ | ⟨fs, hu, _⟩
     · rw [hd] at hd'; cases hd'; exact hs
     · rw [hd] at hu; cases hu; exact absurd rfl (hn fs)
   cases hq : keyEq kp pe.1 with
   | true =>
     rw [hq] at hs
     exact .inr ⟨0, e, pe, rfl, rfl, by simp [Instr.findNow, hs], by simp [mapFind, hq], by simp [mapSet, hq], by simp [mapDel, hq], hq, fun bs hb => by cases bs with | nil => simp at hb | cons b bs => simp [delB, stampOf, hq]⟩
   | false =>
     rw [hq] at hs
     have hl := h.1
     rcases find_now hd hn hk hkr vp ents es (i + 1) ⟨by simpa using hl, fun j e p h3 h4 => h.2 (j + 1) e p h3 h4⟩ (fun e he => hok e (by simp [he])) with ⟨h3, h4, h5, h6⟩ | ⟨j, e', pe', h3, h4, h5, h6, h7, h8, h9, h9b⟩
     · exact .inl ⟨by simp [Instr.findNow, hs, h3], by simp [mapFind, hq, h4], by simp [mapSet, hq, h5], by simp [mapDel, hq, h6]⟩
     · exact .inr ⟨j + 1, e', pe', h3, h4, by simp [Instr.findNow, hs, h5]; omega, by simp [mapFind, hq, h6], by simp [mapSet, hq, h7], by simp [mapDel, hq, h8], h9, fun bs hb => by cases bs with | nil => simp at hb | cons b bs => have hx := h9b bs (by simpa using hb); exact ⟨by simp [delB, hq, hx.1], fun clk => by simp [stampOf, hq, hx.2]⟩⟩

theorem find_ask {kt : TypeId} {fs : Array Field} (hd : P.underlying kt = some (.struct fs)) {kp : PV} {kv : Value} (hk : keyOk P kt kp) (hkr : Rep E kv kp) (vp : PV) (w : World) :
   ∀ (ents : List MapEntry) (es : List (PV × PV)) (i : Nat), EntsRep E ents es → (∀ e ∈ es, keyOk P kt e.1) →
     ((Instr.findAsking kt kv ents i).run P w = .ok none w ∧ mapFind kp es = none ∧ mapSet kp vp es = es ++ [(kp, vp)] ∧ mapDel kp es = es) ∨
     (∃ j e pe, ents[j]? = some e ∧ es[j]? = some pe ∧ (Instr.findAsking kt kv ents i).run P w = .ok (some (i + j, e.val)) w ∧ mapFind kp es = some pe.2 ∧ mapSet kp vp es = es.set j (kp, vp) ∧ mapDel kp es = es.eraseIdx j ∧ keyEq kp pe.1 = true ∧ ∀ bs : List Nat, bs.length = es.length → delB kp es bs = bs.eraseIdx j ∧ ∀ clk, stampOf kp es bs clk = (bs[j]?).getD clk)
 | [], [], i, _, _ => .inl ⟨rfl, rfl, rfl, rfl⟩
 | [], _ :: _, _, h, _ => by simp [EntsRep] at h
 | _ :: _, [], _, h, _ => by simp [EntsRep] at h
 | e :: ents, pe :: es, i, h, hok => by
   obtain ⟨h1, h2⟩ := h.2 0 e pe rfl rfl
   have hs : (Op.equal kt kv e.key).run P w = .ok (keyEq kp pe.1) w := by
     rcases (key_run hk hkr (hok pe (by simp)) h1).2.2.2 with ⟨d', hd', hn, _⟩ | ⟨_, _, _, hs⟩
     · rw [hd] at hd'; cases hd'; exact absurd rfl (hn fs)
     · exact hs w
   cases hq : keyEq kp pe.1 with
   | true =>
     rw [hq] at hs
     exact .inr ⟨0, e, pe, rfl, rfl, by simp [Instr.findAsking, hs], by simp [mapFind, hq], by simp [mapSet, hq], by simp [mapDel, hq], hq, fun bs hb => by cases bs with | nil => simp at hb | cons b bs => simp [delB, stampOf, hq]⟩
   | false =>
     rw [hq] at hs
     have hl := h.1
     rcases find_ask hd hk hkr vp w ents es (i + 1) ⟨by simpa using hl, fun j e p h3 h4 => h.2 (j + 1) e p h3 h4⟩ (fun e he => hok e (by simp [he])) with ⟨h3, h4, h5, h6⟩ | ⟨j, e', pe', h3, h4, h5, h6, h7, h8, h9, h9b⟩
     · exact .inl ⟨by simp [Instr.findAsking, hs, h3], by simp [mapFind, hq, h4], by simp [mapSet, hq, h5], by simp [mapDel, hq, h6]⟩
     · exact .inr ⟨j + 1, e', pe', h3, h4, by simp [Instr.findAsking, hs, h5]; omega, by simp [mapFind, hq, h6], by simp [mapSet, hq, h7], by simp [mapDel, hq, h8], h9, fun bs hb => by cases bs with | nil => simp at hb | cons b bs => have hx := h9b bs (by simpa using hb); exact ⟨by simp [delB, hq, hx.1], fun clk => by simp [stampOf, hq, hx.2]⟩⟩

theorem find_run {kt : TypeId} {kp : PV} {kv : Value} (hk : keyOk P kt kp) (hkr : Rep E kv kp) (vp : PV) (w : World) {ents : List MapEntry} {es : List (PV × PV)} (h : EntsRep E ents es) (hok : ∀ e ∈ es, keyOk P kt e.1) :
     ((Instr.findKey kt kv ents).run P w = .ok none w ∧ mapFind kp es = none ∧ mapSet kp vp es = es ++ [(kp, vp)] ∧ mapDel kp es = es) ∨
     (∃ j e pe, ents[j]? = some e ∧ es[j]? = some pe ∧ (Instr.findKey kt kv ents).run P w = .ok (some (j, e.val)) w ∧ mapFind kp es = some pe.2 ∧ mapSet kp vp es = es.set j (kp, vp) ∧ mapDel kp es = es.eraseIdx j ∧ keyEq kp pe.1 = true ∧ ∀ bs : List Nat, bs.length = es.length → delB kp es bs = bs.eraseIdx j ∧ ∀ clk, stampOf kp es bs clk = (bs[j]?).getD clk) := by
 obtain ⟨d, hd⟩ := keyOk_under hk hkr
 by_cases hn : ∀ fs, d ≠ .struct fs
 · rcases find_now hd hn hk hkr vp ents es 0 h hok with ⟨h1, h2⟩ | ⟨j, e, pe, h1, h2, h3, h4⟩
   · exact .inl ⟨by simp [Instr.findKey, run_under hd, h1], h2⟩
   · exact .inr ⟨j, e, pe, h1, h2, by simp [Instr.findKey, run_under hd, h3], h4⟩
 · obtain ⟨fs, rfl⟩ : ∃ fs, d = .struct fs := Classical.byContradiction fun hc => hn fun fs he => hc ⟨fs, he⟩
   have hfn : ents ≠ [] → Instr.findNow (.struct fs) kv ents 0 = none := fun hne => by
     cases ents with
     | nil => exact absurd rfl hne
     | cons e l => rfl
   by_cases hne : ents = []
   · subst hne
     have : es = [] := List.eq_nil_of_length_eq_zero h.1.symm
     subst this
     exact .inl ⟨by simp [Instr.findKey, run_under hd, Instr.findNow], rfl, rfl, rfl⟩
   · rcases find_ask hd hk hkr vp w ents es 0 h hok with ⟨h1, h2⟩ | ⟨j, e, pe, h1, h2, h3, h4⟩
     · exact .inl ⟨by simp [Instr.findKey, run_under hd, hfn hne, h1], h2⟩
     · exact .inr ⟨j, e, pe, h1, h2, by simp [Instr.findKey, run_under hd, hfn hne, h3], h4⟩

theorem run_getMap {r : Nat} {ents : Array MapEntry} {clk : Nat} {w : World} (h : w.heap[r]? = some (.map ents clk)) : (getObj r).run P w = .ok (.map ents clk) w := by
 simp [getObj, Sem.run, h]

theorem ents_of (g : Good E) {k : Key} {es : List (PV × PV)} {bs : List Nat} {clk : Nat} (hk : E.h k = some (.map es bs clk)) : ∃ ents, E.w.heap[E.blk k]? = some (.map ents clk) ∧ EntsRep E ents.toList es := by
 obtain ⟨ents, h1, h2, h3, h4, _⟩ := g.obj _ _ hk
 exact ⟨ents, h1, by simpa using h2, fun i e p h5 h6 => h4 i e p (by simpa using h5) h6⟩

theorem zeroVal_rep {t : TypeId} (h : zeroFit P t = true) : ∃ v, (∀ w, (zeroValue t).run P w = .ok v w) ∧ Rep E v (zeroVal P t) := by
 unfold zeroFit at h
 cases hi : P.info? t with
 | none => rw [hi] at h; simp at h
 | some i =>
   rw [hi] at h
   simp only [Option.bind_some] at h
   cases hz : i.zero with
   | none => rw [hz] at h; simp at h
   | some v =>
     rw [hz] at h
     refine ⟨v, fun w => run_zeroValue hi hz w, ?_⟩
     have hc : zeroCellsOf P t = some (v.cells.toList.map ofCell) := by simp [zeroCellsOf, hi, hz]
     unfold zeroVal
     rw [hc]
     simp only
     cases v with
     | agg cs => simp only at h; rw [if_pos h]; exact ofVal_rep (.agg cs)
     | tuple vs => simp at h
     | _ =>
       simp only [Bool.not_eq_true'] at h
       rw [if_neg (by simp [h])]
       simpa [Value.cells] using ofCell_rep _

theorem ro_lookup (g : Good E) {t : TypeId} {m k : Value} {pm pk : PV} {ok : Bool} (hm : Rep E m pm) (hk : Rep E k pk) (hob : (lookupEff P E.h t pm pk ok).ob) : RO P E (Instr.lookup t m k ok) (lookupEff P E.h t pm pk ok) := by
 unfold lookupEff at hob ⊢
 split at hob
 · rename_i kt et hmt
   split at hob
   · rename_i key
     split at hob
     · rename_i es bs clk hkey
       obtain ⟨h1, h2, h3⟩ := hob
       cases hm with
       | map hkn hl =>
         obtain ⟨hb, _⟩ := hl _ hkey
         subst hb
         obtain ⟨ents, h4, h5⟩ := ents_of g hkey
         obtain ⟨z, hzr, hzrep⟩ := zeroVal_rep (P := P) (E := E) (t := et) h3
         rcases find_run h1 hk .dead E.w h5 h2 with ⟨h6, h7, _⟩ | ⟨j, e, pe, h6, h7, h8, h9, _⟩
         · have hrun : ∀ b, (Instr.lookup t (.map (some (E.blk key))) k b).run P E.w = .ok (if b then .tuple #[z, .bool false] else z) E.w := fun b => by
             simp only [Instr.lookup, Sem.run_bind, run_under (mapTy_spec hmt), Result.andThen_ok, run_getMap h4, Sem.run_pure, run_checkKey ents.isEmpty h1 hk, h6, hzr]
           refine ⟨_, hrun ok, ?_, rfl, rfl⟩
           cases ok with
           | false => simpa [h7, lookRes] using hzrep
           | true =>
             simp only [h7, lookRes, Option.getD_none, Option.isSome_none, if_true]
             refine .tup (by simp) fun i v p h8 h9 => ?_
             rcases i with _ | _ | i
             · simp at h8 h9; subst h8; subst h9; exact hzrep
             · simp at h8 h9; subst h8; subst h9; exact .sc rfl
             · simp at h8
         · have hrun : ∀ b, (Instr.lookup t (.map (some (E.blk key))) k b).run P E.w = .ok (if b then .tuple #[e.val, .bool true] else e.val) E.w := fun b => by
             simp only [Instr.lookup, Sem.run_bind, run_under (mapTy_spec hmt), Result.andThen_ok, run_getMap h4, Sem.run_pure, run_checkKey ents.isEmpty h1 hk, h8]
           have hval := (h5.2 j e pe h6 h7).2
           refine ⟨_, hrun ok, ?_, rfl, rfl⟩
           cases ok with
           | false => simpa [h9, lookRes] using hval
           | true =>
             simp only [h9, lookRes, Option.getD_some, Option.isSome_some, if_true]
             refine .tup (by simp) fun i v p h10 h11 => ?_
             rcases i with _ | _ | i
             · simp at h10 h11; subst h10; subst h11; exact hval
             · simp at h10 h11; subst h10; subst h11; exact .sc rfl
             · simp at h10
     · exact hob.elim
   · exact hob.elim
 · exact hob.elim


theorem sameBits_key {kt : TypeId} {p q : PV} {v u : Value} (h : keyOk P kt p) (hr : Rep E v p) (h' : keyOk P kt q) (hr' : Rep E u q) (he : keyEq p q = true) : Instr.sameBits 10000 u v = true := (key_run h hr h' hr').2.2.1 he 9999

theorem heap_set (w : World) (b : Nat) (o : Obj) (x : Nat) : ({ w with heap := w.heap.setIfInBounds b o } : World).heap[x]? = if b = x ∧ x < w.heap.size then some o else w.heap[x]? := by
 show (w.heap.setIfInBounds b o)[x]? = _
 rw [Array.getElem?_setIfInBounds]
 by_cases h : b = x
 · subst h
   by_cases h2 : b < w.heap.size
   · simp [h2]
   · simp [h2]
 · simp [h]

theorem run_setMap {r : Nat} {ents ents' : Array MapEntry} {clk clk' : Nat} {w : World} (h : w.heap[r]? = some (.map ents clk)) : (setObj r (.map ents' clk')).run P w = .ok () { w with heap := w.heap.setIfInBounds r (.map ents' clk') } := by
 simp [setObj, Sem.run, h]

theorem mapFind_none {k : PV} : ∀ {es : List (PV × PV)}, mapFind k es = none → ∀ e ∈ es, keyEq k e.1 = false
 | [], _, e, he => by simp at he
 | x :: es, h, e, he => by
   unfold mapFind at h
   split at h
   · cases h
   · rename_i hx
     rcases List.mem_cons.1 he with rfl | he
     · simpa using hx
     · exact mapFind_none h e he

theorem keyEq_same {kt : TypeId} {p q : PV} {v : Value} (hp : keyOk P kt p) (hv : Rep E v p) (hq : keyOk P kt q) (hv' : Rep E v q) : keyEq p q = true := (key_run hp hv hq hv').2.1 rfl
theorem keyEq_val {kt : TypeId} {p q : PV} {v v' : Value} (hp : keyOk P kt p) (hv : Rep E v p) (hq : keyOk P kt q) (hv' : Rep E v' q) (h : keyEq p q = true) : v' = v := ((key_run hp hv hq hv').1 h).symm

theorem stamps_push {ents : Array MapEntry} {clk : Nat} {k v : Value} (h : Stamps ents clk) (hk : ∀ x ∈ ents.toList, x.key = k → False) : Stamps (ents.push { key := k, val := v, born := clk }) (clk + 1) := by
 obtain ⟨h1, h2, h3⟩ := h
 refine ⟨fun x hx => ?_, ?_, ?_⟩
 · rw [Array.toList_push] at hx
   rcases List.mem_append.1 hx with hx | hx
   · have := h1 x hx; omega
   · simp at hx; subst hx; exact Nat.lt_succ_self _
 · rw [Array.toList_push, List.map_append, List.nodup_append]
   refine ⟨h2, by simp, fun a ha b hb => ?_⟩
   obtain ⟨x, hx, rfl⟩ := List.mem_map.1 ha
   simp at hb; subst hb
   have := h1 x hx; omega
 · rw [Array.toList_push, List.map_append, List.nodup_append]
   refine ⟨h3, by simp, fun a ha b hb => ?_⟩
   obtain ⟨x, hx, rfl⟩ := List.mem_map.1 ha
   simp at hb; subst hb
   exact fun he => hk x hx he

theorem stamps_modify {ents : Array MapEntry} {clk j : Nat} {k v : Value} {e : MapEntry} (h : Stamps ents clk) (he : ents[j]? = some e) (hk : e.key = k) : Stamps (ents.modify j fun e => { e with key := k, val := v }) clk := by
 obtain ⟨h1, h2, h3⟩ := h
 have hget : ∀ (i : Nat) (x : MapEntry), (ents.modify j fun e => { e with key := k, val := v })[i]? = some x → ∃ y, ents[i]? = some y ∧ y.born = x.born ∧ y.key = x.key := fun i x hx => by
   rw [Array.getElem?_modify] at hx
   split at hx
   · rename_i hji
     subst hji
     rw [he] at hx
     simp at hx; subst hx
     exact ⟨e, he, rfl, hk⟩
   · exact ⟨x, hx, rfl, rfl⟩
 have hmap : ∀ {β : Type} (f : MapEntry → β), (∀ x y : MapEntry, y.born = x.born → y.key = x.key → f y = f x) → ((ents.modify j fun e => { e with key := k, val := v }).toList.map f) = ents.toList.map f := fun f hf => by
   apply List.ext_getElem?
   intro i
   simp only [List.getElem?_map, Array.getElem?_toList]
   cases hx : (ents.modify j fun e => { e with key := k, val := v })[i]? with
   | none =>
     have : ents[i]? = none := by
       rw [Array.getElem?_eq_none_iff] at hx ⊢
       simpa using hx
     rw [this]
   | some x =>
     obtain ⟨y, hy, hb, hky⟩ := hget i x hx
     rw [hy]
     simp [hf x y hb hky]
 refine ⟨fun x hx => ?_, ?_, ?_⟩
 · obtain ⟨i, hi⟩ := List.mem_iff_getElem?.1 hx
   obtain ⟨y, hy, hb, _⟩ := hget i x (by rw [← Array.getElem?_toList]; exact hi)
   rw [← hb]
   exact h1 y (by simpa using Array.mem_of_getElem? hy)
 · rw [hmap (·.born) fun x y h _ => h]; exact h2
 · rw [hmap (·.key) fun x y _ h => h]; exact h3

theorem borns_modify {k v : Value} (ents : Array MapEntry) (j : Nat) : ((ents.modify j fun e => { e with key := k, val := v }).toList.map (·.born)) = ents.toList.map (·.born) := by
 apply List.ext_getElem?
 intro i
 simp only [List.getElem?_map, Array.getElem?_toList, Array.getElem?_modify]
 split
 · cases ents[i]? <;> rfl
 · rfl

theorem ok_mapUpdate (g : Good E) {site : Nat} {t : TypeId} {m k v : Value} {pm pk pv : PV} {run : Result Next} (hm : Rep E m pm) (hk : Rep E k pk) (hv : Rep E v pv)
   (hrun : run = ((Instr.mapUpdate t m k v).run P E.w).andThen fun _ w' => .ok .skip w')
   (hob : (mapUpdateEff P E.h t pm pk pv).ob) : OpOK P E site run (mapUpdateEff P E.h t pm pk pv) := by
 unfold mapUpdateEff at hob ⊢
 split at hob
 · rename_i kt et hmt
   split at hob
   · rename_i key
     split at hob
     · rename_i es bs clk hkey
       obtain ⟨h1, h2, h3⟩ := hob
       cases hm with
       | map hkn hl =>
         obtain ⟨hb, _⟩ := hl _ hkey
         subst hb
         obtain ⟨ents, h4, h5⟩ := ents_of g hkey
         obtain ⟨ents0, h4', _, hcell, _, hst0, hbs0⟩ := g.obj _ _ hkey
         have hst : Stamps ents clk := by rw [h4] at h4'; cases h4'; exact hst0
         have hbs : bs = ents.toList.map (·.born) := by rw [h4] at h4'; cases h4'; exact hbs0
         have hlt := live_lt g hkey
         have main : ∀ (ents' : Array MapEntry) (clk' : Nat) (esn : List (PV × PV)), (Instr.mapUpdate t (.map (some (E.blk key))) k v).run P E.w = .ok () { E.w with heap := E.w.heap.setIfInBounds (E.blk key) (.map ents' clk') } →
             ents'.size = esn.length → (∀ p ∈ esn, mval p.2 = true) → (∀ (i : Nat) (e : MapEntry) (p : PV × PV), ents'[i]? = some e → esn[i]? = some p → Rep E e.key p.1 ∧ Rep E e.val p.2) → Stamps ents' clk' → esn = mapSet pk pv es → stB pk es bs clk = ents'.toList.map (·.born) → stC pk es clk = clk' →
             OpOK P E site run { ob := keyOk P kt pk ∧ (∀ e ∈ es, keyOk P kt e.1) ∧ mval pv = true, wr := [(key, some (.map (mapSet pk pv es) (stB pk es bs clk) (stC pk es clk)))], rd := [key] } := fun ents' clk' esn hr hsize hcells hrep hstn he hB hC => by
           subst he
           rw [hB, hC]
           let w' : World := { E.w with heap := E.w.heap.setIfInBounds (E.blk key) (.map ents' clk') }
           have hb : ∀ b, b ≠ E.blk key → w'.heap[b]? = E.w.heap[b]? := fun b hb => by
             rw [heap_set, if_neg (by intro h; exact hb h.1.symm)]
           have hsz : E.w.heap.size ≤ w'.heap.size := by simp [w']
           have hal : (PObj.map es bs clk).alike (.map (mapSet pk pv es) (ents'.toList.map (·.born)) clk') := trivial
           have hle := setEnv_le (w' := w') g hkey hal hsz hb
           have hobj : ObjOK (setEnv E key (.map (mapSet pk pv es) (ents'.toList.map (·.born)) clk') w') key (.map (mapSet pk pv es) (ents'.toList.map (·.born)) clk') := by
             refine ⟨ents', ?_, hsize, hcells, fun i e p h6 h7 => ⟨(hrep i e p h6 h7).1.le hle, (hrep i e p h6 h7).2.le hle⟩, hstn, rfl⟩
             show w'.heap[E.blk key]? = _
             rw [heap_set, if_pos ⟨rfl, hlt⟩]
           refine ⟨undef, w', E.blk, E.cap, .inr ⟨by rw [hrun, hr]; rfl, rfl⟩, ?_⟩
           exact ⟨setEnv_good g hkey hal hsz hb hobj, hle, below_set g hkey hsz hb rfl rfl rfl, .dead⟩
         have hlen : ents.size = es.length := by simpa using h5.1
         rcases find_run h1 hk pv E.w h5 h2 with ⟨h6, h7, h8, _⟩ | ⟨j, e, pe, h6, h7, h8, h9, h10, _, h11, _⟩
         · refine main (ents.push { key := k, val := v, born := clk }) (clk + 1) (es ++ [(pk, pv)]) ?_ (by simp [hlen]) ?_ ?_ (stamps_push hst fun x hx hxk => ?_) h8.symm (by simp [stB, h7, hbs]) (by simp [stC, h7])
           · simp only [Instr.mapUpdate, Sem.run_bind, run_under (mapTy_spec hmt), Result.andThen_ok, run_getMap h4, run_checkKey false h1 hk, h6, run_setMap h4]
           · intro p hp
             rcases List.mem_append.1 hp with h | h
             · exact hcell p h
             · simp at h; subst h; exact h3
           · intro i e p h9 h10
             rw [Array.getElem?_push] at h9
             split at h9
             · rename_i hi
               cases h9
               rw [hi, hlen] at h10
               simp at h10; subst h10
               exact ⟨hk, hv⟩
             · have hi := (Array.getElem?_eq_some_iff.1 h9).1
               rw [List.getElem?_append_left (by omega)] at h10
               exact h5.2 i e p (by simpa using h9) h10
           · obtain ⟨i, hi⟩ := List.mem_iff_getElem?.1 hx
             have hil : i < es.length := by rw [← h5.1]; exact (List.getElem?_eq_some_iff.1 hi).1
             have hr1 := (h5.2 i x _ hi (List.getElem?_eq_getElem hil)).1
             have hne := mapFind_none h7 _ (List.getElem_mem hil)
             rw [hxk] at hr1
             have := keyEq_same h1 hk (h2 _ (List.getElem_mem hil)) hr1
             rw [hne] at this; cases this
         · have hje : ents[j]? = some e := by simpa using h6
           have hold := (h5.2 j e pe h6 h7).1
           have hsb := sameBits_key (P := P) (E := E) h1 hk (h2 pe (List.mem_of_getElem? h7)) hold h11
           refine main (ents.modify j fun e => { e with key := k, val := v }) clk (es.set j (pk, pv)) ?_ (by simp [hlen]) ?_ ?_ (stamps_modify hst hje (keyEq_val h1 hk (h2 pe (List.mem_of_getElem? h7)) hold h11)) h10.symm (by rw [stB, h9]; simp only [Option.isSome_some, if_true]; rw [hbs]; exact (borns_modify ents j).symm) (by simp [stC, h9])
           · simp only [Instr.mapUpdate, Sem.run_bind, run_under (mapTy_spec hmt), Result.andThen_ok, run_getMap h4, run_checkKey false h1 hk, h8, hje, Option.map_some, Option.getD_some, Instr.keyThatStays, hsb, if_true, Sem.run_pure, run_setMap h4]
           · intro p hp
             rcases List.mem_or_eq_of_mem_set hp with h | h
             · exact hcell p h
             · subst h; exact h3
           · intro i e' p h12 h13
             rw [Array.getElem?_modify] at h12
             rw [List.getElem?_set] at h13
             by_cases hi : j = i
             · subst hi
               have hjl : j < es.length := (List.getElem?_eq_some_iff.1 h7).1
               rw [if_pos rfl, hje] at h12
               rw [if_pos rfl, if_pos hjl] at h13
               simp at h12; cases h13; subst h12
               exact ⟨hk, hv⟩
             · rw [if_neg hi] at h12
               rw [if_neg hi] at h13
               exact h5.2 i e' p (by simpa using h12) h13
     · exact hob.elim
   · exact hob.elim
 · exact hob.elim

theorem stampOf_none {k : PV} {clk : Nat} : ∀ {es : List (PV × PV)} {bs : List Nat}, mapFind k es = none → stampOf k es bs clk = clk
 | [], _, _ => by simp [stampOf]
 | e :: es, [], _ => by simp [stampOf]
 | e :: es, b :: bs, h => by
   unfold mapFind at h
   split at h
   · cases h
   · rename_i hq
     simp only [stampOf, if_neg hq]
     exact stampOf_none h

theorem ok_mapEntry (g : Good E) {site : Nat} {t : TypeId} {m k : Value} {pm pk : PV} {run : Result Next} (hm : Rep E m pm) (hk : Rep E k pk)
   (hrun : run = ((Instr.mapEntry t m k).run P E.w).andThen fun v w' => .ok (.value v) w')
   (hob : (mapEntryEff P E.h t pm pk).ob) : OpOK P E site run (mapEntryEff P E.h t pm pk) := by
 unfold mapEntryEff at hob ⊢
 split at hob
 · rename_i kt et hmt
   split at hob
   · rename_i key
     split at hob
     · rename_i es bs clk hkey
       obtain ⟨h1, h2, hz, h3⟩ := hob
       cases hm with
       | map hkn hl =>
         obtain ⟨hb, _⟩ := hl _ hkey
         subst hb
         obtain ⟨ents, h4, h5⟩ := ents_of g hkey
         obtain ⟨ents0, h4', _, hcell, _, hst0, hbs0⟩ := g.obj _ _ hkey
         have hst : Stamps ents clk := by rw [h4] at h4'; cases h4'; exact hst0
         have hbs : bs = ents.toList.map (·.born) := by rw [h4] at h4'; cases h4'; exact hbs0
         have hlt := live_lt g hkey
         obtain ⟨z, hzr, hzrep⟩ := zeroVal_rep (P := P) (E := E) (t := et) hz
         generalize hpv : (mapFind pk es).getD (zeroVal P et) = pv at h3 ⊢
         have main : ∀ (v : Value) (st : Nat) (ents' : Array MapEntry) (clk' : Nat) (esn : List (PV × PV)), Rep E v pv → stampOf pk es bs clk = st → (Instr.mapEntry t (.map (some (E.blk key))) k).run P E.w = .ok (.tuple #[v, .int .i64 st]) { E.w with heap := E.w.heap.setIfInBounds (E.blk key) (.map ents' clk') } →
             ents'.size = esn.length → (∀ p ∈ esn, mval p.2 = true) → (∀ (i : Nat) (e : MapEntry) (p : PV × PV), ents'[i]? = some e → esn[i]? = some p → Rep E e.key p.1 ∧ Rep E e.val p.2) → Stamps ents' clk' → esn = mapSet pk pv es → stB pk es bs clk = ents'.toList.map (·.born) → stC pk es clk = clk' →
             OpOK P E site run { ob := keyOk P kt pk ∧ (∀ e ∈ es, keyOk P kt e.1) ∧ zeroFit P et = true ∧ mval pv = true, v := .tup [pv, .int (stampOf pk es bs clk)], wr := [(key, some (.map (mapSet pk pv es) (stB pk es bs clk) (stC pk es clk)))], rd := [key] } := fun v st ents' clk' esn hv hsto hr hsize hcells hrep hstn he hB hC => by
           subst he
           rw [hB, hC, hsto]
           let w' : World := { E.w with heap := E.w.heap.setIfInBounds (E.blk key) (.map ents' clk') }
           have hb : ∀ b, b ≠ E.blk key → w'.heap[b]? = E.w.heap[b]? := fun b hb => by
             rw [heap_set, if_neg (by intro h; exact hb h.1.symm)]
           have hsz : E.w.heap.size ≤ w'.heap.size := by simp [w']
           have hal : (PObj.map es bs clk).alike (.map (mapSet pk pv es) (ents'.toList.map (·.born)) clk') := trivial
           have hle := setEnv_le (w' := w') g hkey hal hsz hb
           have hobj : ObjOK (setEnv E key (.map (mapSet pk pv es) (ents'.toList.map (·.born)) clk') w') key (.map (mapSet pk pv es) (ents'.toList.map (·.born)) clk') := by
             refine ⟨ents', ?_, hsize, hcells, fun i e p h6 h7 => ⟨(hrep i e p h6 h7).1.le hle, (hrep i e p h6 h7).2.le hle⟩, hstn, rfl⟩
             show w'.heap[E.blk key]? = _
             rw [heap_set, if_pos ⟨rfl, hlt⟩]
           refine ⟨.tuple #[v, .int .i64 st], w', E.blk, E.cap, .inl (by rw [hrun, hr]; rfl), ?_⟩
           refine ⟨setEnv_good g hkey hal hsz hb hobj, hle, below_set g hkey hsz hb rfl rfl rfl, .tup rfl fun i u p h6 h7 => ?_⟩
           rcases i with _ | _ | i
           · simp at h6 h7; subst h6; subst h7; exact hv.le hle
           · simp at h6 h7; subst h6; subst h7; exact .sc rfl
           · simp at h6
         have hlen : ents.size = es.length := by simpa using h5.1
         rcases find_run h1 hk pv E.w h5 h2 with ⟨h6, h7, h8, _⟩ | ⟨j, e, pe, h6, h7, h8, h9, h10, _, h11, hB⟩
         · have hpz : pv = zeroVal P et := by rw [← hpv, h7]; rfl
           have hv : Rep E z pv := by rw [hpz]; exact hzrep
           refine main z clk (ents.push { key := k, val := z, born := clk }) (clk + 1) (es ++ [(pk, pv)]) hv (stampOf_none h7) ?_ (by simp [hlen]) ?_ ?_ (stamps_push hst fun x hx hxk => ?_) h8.symm (by simp [stB, h7, hbs]) (by simp [stC, h7])
           · simp only [Instr.mapEntry, Sem.run_bind, run_under (mapTy_spec hmt), Result.andThen_ok, run_getMap h4, run_checkKey false h1 hk, h6, hzr, run_setMap h4, Sem.run_pure, goInt]
           · intro p hp
             rcases List.mem_append.1 hp with h | h
             · exact hcell p h
             · simp at h; subst h; exact h3
           · intro i e p h9 h10
             rw [Array.getElem?_push] at h9
             split at h9
             · rename_i hi
               cases h9
               rw [hi, hlen] at h10
               simp at h10; subst h10
               exact ⟨hk, hv⟩
             · have hi := (Array.getElem?_eq_some_iff.1 h9).1
               rw [List.getElem?_append_left (by omega)] at h10
               exact h5.2 i e p (by simpa using h9) h10
           · obtain ⟨i, hi⟩ := List.mem_iff_getElem?.1 hx
             have hil : i < es.length := by rw [← h5.1]; exact (List.getElem?_eq_some_iff.1 hi).1
             have hr1 := (h5.2 i x _ hi (List.getElem?_eq_getElem hil)).1
             have hne := mapFind_none h7 _ (List.getElem_mem hil)
             rw [hxk] at hr1
             have := keyEq_same h1 hk (h2 _ (List.getElem_mem hil)) hr1
             rw [hne] at this; cases this
         · have hje : ents[j]? = some e := by simpa using h6
           have hold := (h5.2 j e pe h6 h7).1
           have hsb := sameBits_key (P := P) (E := E) h1 hk (h2 pe (List.mem_of_getElem? h7)) hold h11
           have hpe : pv = pe.2 := by rw [← hpv, h9]; rfl
           have hv : Rep E e.val pv := by rw [hpe]; exact (h5.2 j e pe h6 h7).2
           have hme : (ents.modify j fun e => { e with key := k }) = ents.modify j fun x => { x with key := k, val := e.val } := by
             apply Array.ext_getElem?
             intro i
             rw [Array.getElem?_modify, Array.getElem?_modify]
             split
             · rename_i hji; subst hji; rw [hje]; rfl
             · rfl
           have hsto : stampOf pk es bs clk = e.born := by
             rw [(hB bs (by rw [hbs, List.length_map]; exact h5.1)).2 clk, hbs, List.getElem?_map, h6]; rfl
           refine main e.val e.born (ents.modify j fun x => { x with key := k, val := e.val }) clk (es.set j (pk, pv)) hv hsto ?_ (by simp [hlen]) ?_ ?_ (stamps_modify hst hje (keyEq_val h1 hk (h2 pe (List.mem_of_getElem? h7)) hold h11)) h10.symm (by rw [stB, h9]; simp only [Option.isSome_some, if_true]; rw [hbs]; exact (borns_modify ents j).symm) (by simp [stC, h9])
           · rw [← hme]
             simp only [Instr.mapEntry, Sem.run_bind, run_under (mapTy_spec hmt), Result.andThen_ok, run_getMap h4, run_checkKey false h1 hk, h8, hje, Option.map_some, Option.getD_some, Instr.keyThatStays, hsb, if_true, Sem.run_pure, run_setMap h4, goInt]
           · intro p hp
             rcases List.mem_or_eq_of_mem_set hp with h | h
             · exact hcell p h
             · subst h; exact h3
           · intro i e' p h12 h13
             rw [Array.getElem?_modify] at h12
             rw [List.getElem?_set] at h13
             by_cases hi : j = i
             · subst hi
               have hjl : j < es.length := (List.getElem?_eq_some_iff.1 h7).1
               rw [if_pos rfl, hje] at h12
               rw [if_pos rfl, if_pos hjl] at h13
               simp at h12; cases h13; subst h12
               exact ⟨hk, hv⟩
             · rw [if_neg hi] at h12
               rw [if_neg hi] at h13
               exact h5.2 i e' p (by simpa using h12) h13
     · exact hob.elim
   · exact hob.elim
 · exact hob.elim

theorem setStamp_at {s : Int} {v : PV} : ∀ {es es' : List (PV × PV)} {l : List MapEntry}, setStamp s v es (l.map (·.born)) = some es' → l.length = es.length →
   ∃ j pe, es[j]? = some pe ∧ es' = es.set j (pe.1, v) ∧ ∃ e, l[j]? = some e ∧ l.findIdx? (fun e => (e.born : Int) == s) = some j
 | [], _, _, h, _ => by simp [setStamp] at h
 | e :: es, _, [], h, hl => by simp at hl
 | e :: es, es', x :: l, h, hl => by
   simp only [List.map_cons, setStamp] at h
   by_cases hq : ((x.born : Int) == s) = true
   · rw [if_pos hq] at h; cases h
     exact ⟨0, e, rfl, rfl, x, rfl, by simp [List.findIdx?_cons, hq]⟩
   · rw [if_neg hq, Option.map_eq_some_iff] at h
     obtain ⟨es2, h1, rfl⟩ := h
     obtain ⟨j, pe, h2, rfl, y, h3, h4⟩ := setStamp_at h1 (by simpa using hl)
     exact ⟨j + 1, pe, h2, rfl, y, h3, by simp [List.findIdx?_cons, hq, h4]⟩

theorem ok_entryStore (g : Good E) {site : Nat} {t : TypeId} {m s v : Value} {pm ps pv : PV} {run : Result Next} (hm : Rep E m pm) (hs : Rep E s ps) (hv : Rep E v pv)
   (hrun : run = ((Instr.entryStore t m s v).run P E.w).andThen fun _ w' => .ok .skip w')
   (hob : (entryStoreEff E.h pm ps pv).ob) : OpOK P E site run (entryStoreEff E.h pm ps pv) := by
 unfold entryStoreEff at hob ⊢
 split at hob
 · rename_i key
   split at hob
   · rename_i es bs clk hkey
     split at hob
     · rename_i kd n
       obtain ⟨h3, hsome⟩ := hob
       obtain rfl := hs.sc_inv
       cases hm with
       | map hkn hl =>
         obtain ⟨hb, _⟩ := hl _ hkey
         subst hb
         obtain ⟨ents, h4, h5⟩ := ents_of g hkey
         obtain ⟨ents0, h4', _, hcell, _, hst0, hbs0⟩ := g.obj _ _ hkey
         have hst : Stamps ents clk := by rw [h4] at h4'; cases h4'; exact hst0
         have hbs : bs = ents.toList.map (·.born) := by rw [h4] at h4'; cases h4'; exact hbs0
         have hlt := live_lt g hkey
         obtain ⟨esn, he⟩ := Option.isSome_iff_exists.1 hsome
         have hlen : ents.size = es.length := by simpa using h5.1
         have he' := he
         rw [hbs] at he'
         obtain ⟨j, pe, h7, hes, e, h6, hidx⟩ := setStamp_at he' h5.1
         have hje : ents[j]? = some e := by simpa using h6
         have hme : (ents.modify j fun e => { e with val := v }) = ents.modify j fun x => { x with key := e.key, val := v } := by
           apply Array.ext_getElem?
           intro i
           rw [Array.getElem?_modify, Array.getElem?_modify]
           split
           · rename_i hji; subst hji; rw [hje]; rfl
           · rfl
         have hidx' : ents.findIdx? (fun e => (e.born : Int) == n) = some j := by
           have : ents = ents.toList.toArray := by simp
           rw [this, List.findIdx?_toArray]; exact hidx
         let ents' := ents.modify j fun x => { x with key := e.key, val := v }
         have hr : (Instr.entryStore t (.map (some (E.blk key))) (.int kd n) v).run P E.w = .ok () { E.w with heap := E.w.heap.setIfInBounds (E.blk key) (.map ents' clk) } := by
           show _ = Result.ok () { E.w with heap := E.w.heap.setIfInBounds (E.blk key) (.map (ents.modify j fun x => { x with key := e.key, val := v }) clk) }
           rw [← hme]
           simp only [Instr.entryStore, Sem.run_bind, Result.andThen_ok, run_getMap h4, asInt, asIntOf, Sem.run_pure, hidx', run_setMap h4]
         have hval : (setStamp n pv es bs).getD [] = es.set j (pe.1, pv) := by rw [he, hes]; rfl
         have hborn : ents'.toList.map (·.born) = bs := by rw [hbs]; exact borns_modify ents j
         let w' : World := { E.w with heap := E.w.heap.setIfInBounds (E.blk key) (.map ents' clk) }
         have hb : ∀ b, b ≠ E.blk key → w'.heap[b]? = E.w.heap[b]? := fun b hb => by
           rw [heap_set, if_neg (by intro h; exact hb h.1.symm)]
         have hsz : E.w.heap.size ≤ w'.heap.size := by simp [w']
         have hal : (PObj.map es bs clk).alike (.map (es.set j (pe.1, pv)) bs clk) := trivial
         have hle := setEnv_le (w' := w') g hkey hal hsz hb
         simp only [hval]
         have hobj : ObjOK (setEnv E key (.map (es.set j (pe.1, pv)) bs clk) w') key (.map (es.set j (pe.1, pv)) bs clk) := by
           refine ⟨ents', ?_, by simp [ents', hlen], fun p hp => ?_, fun i e' p h12 h13 => ?_, stamps_modify hst hje rfl, hborn.symm⟩
           · show w'.heap[E.blk key]? = _
             rw [heap_set, if_pos ⟨rfl, hlt⟩]
           · rcases List.mem_or_eq_of_mem_set hp with h | h
             · exact hcell p h
             · subst h; exact h3
           · have : Rep E e'.key p.1 ∧ Rep E e'.val p.2 := by
               simp only [ents'] at h12
               rw [Array.getElem?_modify] at h12
               rw [List.getElem?_set] at h13
               by_cases hi : j = i
               · subst hi
                 have hjl : j < es.length := (List.getElem?_eq_some_iff.1 h7).1
                 rw [if_pos rfl, hje] at h12
                 rw [if_pos rfl, if_pos hjl] at h13
                 simp at h12; cases h13; subst h12
                 exact ⟨(h5.2 j e pe h6 h7).1, hv⟩
               · rw [if_neg hi] at h12
                 rw [if_neg hi] at h13
                 exact h5.2 i e' p (by simpa using h12) h13
             exact ⟨this.1.le hle, this.2.le hle⟩
         refine ⟨undef, w', E.blk, E.cap, .inr ⟨by rw [hrun, hr]; rfl, rfl⟩, ?_⟩
         exact ⟨setEnv_good g hkey hal hsz hb hobj, hle, below_set g hkey hsz hb rfl rfl rfl, .dead⟩
     · exact hob.elim
   · exact hob.elim
 · exact hob.elim

theorem stamps_erase {ents : Array MapEntry} {clk : Nat} (h : Stamps ents clk) (j : Nat) : Stamps (ents.toList.eraseIdx j).toArray clk := by
 obtain ⟨h1, h2, h3⟩ := h
 have hs := List.eraseIdx_sublist ents.toList j
 exact ⟨fun x hx => h1 x (hs.subset hx), h2.sublist (hs.map _), h3.sublist (hs.map _)⟩

theorem erase_arr (ents : Array MapEntry) (j : Nat) : ents.eraseIdxIfInBounds j = (ents.toList.eraseIdx j).toArray := by
 apply Array.ext'
 simp only [Array.toList_eraseIdxIfInBounds]

theorem delB_none {k : PV} : ∀ {es : List (PV × PV)} {bs : List Nat}, mapFind k es = none → delB k es bs = bs
 | [], [], _ => rfl
 | [], _ :: _, _ => rfl
 | _ :: _, [], _ => rfl
 | e :: es, b :: bs, h => by
   unfold mapFind at h
   split at h
   · cases h
   · rename_i hq
     unfold delB
     rw [if_neg hq, delB_none h]
theorem map_eraseIdx {α β : Type} (f : α → β) : ∀ (l : List α) (j : Nat), (l.eraseIdx j).map f = (l.map f).eraseIdx j
 | [], _ => rfl
 | _ :: _, 0 => rfl
 | a :: l, j + 1 => by simp [map_eraseIdx f l j]

theorem ok_mapDelete (g : Good E) {site : Nat} {t : TypeId} {ts : Array TypeId} {as : Array Value} {ty : TypeId} {m k : Value} {pm pk : PV} {run : Result Next} (hts : ts[0]? = some t) (ham : as[0]? = some m) (hak : as[1]? = some k) (hm : Rep E m pm) (hk : Rep E k pk)
   (hrun : run = ((Builtin.delete_ ts ty as).run P E.w).andThen fun v w' => .ok (.value v) w')
   (hob : (mapDeleteEff P E.h t pm pk).ob) : OpOK P E site run (mapDeleteEff P E.h t pm pk) := by
 unfold mapDeleteEff at hob ⊢
 split at hob
 · rename_i kt et hmt
   split at hob
   · rename_i key
     split at hob
     · rename_i es bs clk hkey
       obtain ⟨h1, h2⟩ := hob
       cases hm with
       | map hkn hl =>
         obtain ⟨hb, _⟩ := hl _ hkey
         subst hb
         obtain ⟨ents, h4, h5⟩ := ents_of g hkey
         obtain ⟨ents0, h4', _, hcell, _, hst0, hbs0⟩ := g.obj _ _ hkey
         have hst : Stamps ents clk := by rw [h4] at h4'; cases h4'; exact hst0
         have hbs : bs = ents.toList.map (·.born) := by rw [h4] at h4'; cases h4'; exact hbs0
         have hlt := live_lt g hkey
         have main : ∀ (ents' : Array MapEntry) (esn : List (PV × PV)), (Builtin.delete_ ts ty as).run P E.w = .ok (.tuple #[]) { E.w with heap := E.w.heap.setIfInBounds (E.blk key) (.map ents' clk) } →
             ents'.size = esn.length → (∀ p ∈ esn, mval p.2 = true) → (∀ (i : Nat) (e : MapEntry) (p : PV × PV), ents'[i]? = some e → esn[i]? = some p → Rep E e.key p.1 ∧ Rep E e.val p.2) → Stamps ents' clk → esn = mapDel pk es → delB pk es bs = ents'.toList.map (·.born) →
             OpOK P E site run { ob := keyOk P kt pk ∧ (∀ e ∈ es, keyOk P kt e.1), v := .tup [], wr := [(key, some (.map (mapDel pk es) (delB pk es bs) clk))], rd := [key] } := fun ents' esn hr hsize hcells hrep hstn he hB => by
           subst he
           rw [hB]
           let w' : World := { E.w with heap := E.w.heap.setIfInBounds (E.blk key) (.map ents' clk) }
           have hb : ∀ b, b ≠ E.blk key → w'.heap[b]? = E.w.heap[b]? := fun b hb => by
             rw [heap_set, if_neg (by intro h; exact hb h.1.symm)]
           have hsz : E.w.heap.size ≤ w'.heap.size := by simp [w']
           have hal : (PObj.map es bs clk).alike (.map (mapDel pk es) (ents'.toList.map (·.born)) clk) := trivial
           have hle := setEnv_le (w' := w') g hkey hal hsz hb
           have hobj : ObjOK (setEnv E key (.map (mapDel pk es) (ents'.toList.map (·.born)) clk) w') key (.map (mapDel pk es) (ents'.toList.map (·.born)) clk) := by
             refine ⟨ents', ?_, hsize, hcells, fun i e p h6 h7 => ⟨(hrep i e p h6 h7).1.le hle, (hrep i e p h6 h7).2.le hle⟩, hstn, rfl⟩
             show w'.heap[E.blk key]? = _
             rw [heap_set, if_pos ⟨rfl, hlt⟩]
           refine ⟨.tuple #[], w', E.blk, E.cap, .inl (by rw [hrun, hr]; rfl), ?_⟩
           exact ⟨setEnv_good g hkey hal hsz hb hobj, hle, below_set g hkey hsz hb rfl rfl rfl, .tup rfl fun i v p hv => by simp at hv⟩
         rcases find_run h1 hk .dead E.w h5 h2 with ⟨h6, h7, _, h8⟩ | ⟨j, e, pe, h6, h7, h8, _, _, h10, _, hB⟩
         · refine main ents es ?_ (by simpa using h5.1) hcell (fun i e p h9 h10 => h5.2 i e p (by simpa using h9) h10) hst h8.symm (by rw [delB_none h7, hbs])
           simp only [Builtin.delete_, hts, ham, hak, Sem.run_bind, run_under (mapTy_spec hmt), Result.andThen_ok, run_getMap h4, run_checkKey ents.isEmpty h1 hk, h6, run_setMap h4, Sem.run_pure]
         · refine main (ents.toList.eraseIdx j).toArray (es.eraseIdx j) ?_ ?_ ?_ ?_ (stamps_erase hst j) h10.symm (by rw [(hB bs (by rw [hbs, List.length_map]; exact h5.1)).1, hbs]; exact (map_eraseIdx _ _ _).symm)
           · simp only [Builtin.delete_, hts, ham, hak, Sem.run_bind, run_under (mapTy_spec hmt), Result.andThen_ok, run_getMap h4, run_checkKey ents.isEmpty h1 hk, h8, run_setMap h4, Sem.run_pure, erase_arr]
           · have := h5.1
             simp only [List.size_toArray, List.length_eraseIdx, this]
           · exact fun p hp => hcell p (List.eraseIdx_subset hp)
           · intro i e p h11 h12
             simp only [List.getElem?_toArray, List.getElem?_eraseIdx] at h11 h12
             split at h11
             · rename_i hi; rw [if_pos hi] at h12; exact h5.2 i e p h11 h12
             · rename_i hi; rw [if_neg hi] at h12; exact h5.2 (i + 1) e p h11 h12
     · exact hob.elim
   · exact hob.elim
 · exact hob.elim

theorem ok_makeMap (g : Good E) {site : Nat} {run : Result Next} {e : Eff}
   (hrun : run = .ok (.value (.map (some E.w.heap.size))) { E.w with heap := E.w.heap.push (.map #[] 0) }) (hv : e.v = .map (site, E.cnt site)) (hwr : e.wr = [((site, E.cnt site), some (.map [] [] 0))]) (hb : e.bump = true) : OpOK P E site run e := by
 refine OpOK.new g (o := .map [] [] 0) (w' := { E.w with heap := E.w.heap.push (.map #[] 0) }) (c := 0) hrun rfl rfl rfl rfl hwr hb ?_ ?_
 · refine ⟨#[], ?_, rfl, by simp, by simp, ⟨by simp, by simp, by simp⟩, rfl⟩
   rw [show (newEnv E site (.map [] [] 0) { E.w with heap := E.w.heap.push (.map #[] 0) } 0).blk (site, E.cnt site) = E.w.heap.size by simp [newEnv]]
   show (E.w.heap.push _)[E.w.heap.size]? = _
   simp
 · rw [hv]
   refine .map (by simp [newEnv, Env.known]) fun o ho => ?_
   simp [newEnv] at ho ⊢
   rw [← ho]; rfl

/-- A new block that is not own: memory that does not change. -/
theorem OpOK.frozen (g : Good E) {site : Nat} {run : Result Next} {e : Eff} {v : Value} {w' : World} {obj : Obj} (hrun : run = .ok (.value v) w') (hh : w'.heap = E.w.heap.push obj)
   (h1 : w'.os = E.w.os) (h2 : w'.tape = E.w.tape) (h3 : w'.output = E.w.output) (hwr : e.wr = []) (hb : e.bump = false) (hv : Rep { E with w := w' } v e.v) : OpOK P E site run e := by
 have he : ({ E with w := w', h := applyWr E.h e.wr, cnt := bumpC E.cnt site e.bump, blk := E.blk, cap := E.cap } : Env) = { E with w := w' } := by rw [hwr, hb]; rfl
 have hblk : ∀ b, b < E.w.heap.size → w'.heap[b]? = E.w.heap[b]? := fun b hb => by rw [hh, Array.getElem?_push, if_neg (by omega)]
 have hle : EnvLe E { E with w := w' } := ⟨fun b hb _ => hblk b hb, by simp [hh], fun b hb => .inl hb, rfl, rfl, rfl, fun _ => Nat.le_refl _, fun _ _ h => h, fun _ _ rs h => .inr ⟨rs, h, rfl, rfl⟩, fun _ o h _ => .inr ⟨o, h, rfl, rfl⟩⟩
 refine ⟨v, w', E.blk, E.cap, .inl hrun, ?_⟩
 rw [he]
 exact ⟨⟨g.inj, g.known, g.base, fun k o h => ObjOK.le hle rfl rfl (hblk _ (live_lt g h)) (g.obj k o h), g.out, by simp only [hh, Array.size_push]; exact Nat.le_trans g.size (by omega), gw_keep g.glob (Nat.le_refl _) fun b hb' => hblk b (Nat.lt_of_lt_of_le hb' g.size)⟩, hle, below_push g hh h1 h2 h3, hv⟩

theorem freeze_new (w : World) (c : Array Value) (T : TypeId) : ((w.alloc (.cells c T)).freeze { block := w.heap.size, off := c.size } 1).heap = w.heap.push (.cells c T (c.size, c.size + 1)) := by
 simp only [World.freeze, Nat.one_ne_zero, if_false, World.alloc]
 apply Array.ext_getElem?
 intro i
 rw [Array.getElem?_modify, Array.getElem?_push, Array.getElem?_push]
 by_cases h : i = w.heap.size
 · subst h; simp
 · rw [if_neg (fun e => h e.symm), if_neg h, if_neg h]

theorem ok_conv (g : Good E) {site : Nat} {s d : TypeId} {x : Value} {p : PV} {run : Result Next} (hx : Rep E x p) (hrun : run = ((convert s d x).run P E.w).andThen fun v w' => .ok (.value v) w')
   (hob : (convEff P s d p).ob) : OpOK P E site run (convEff P s d p) := by
 by_cases hs : ∀ b, p = .sc (.string b) → isStringTy P d = true
 · obtain ⟨v, h1, h2, h3, h4⟩ := ro_conv (P := P) hx hs hob
   exact OpOK.pure g (by rw [hrun, h1]; rfl) h2 h3 h4
 · obtain ⟨b, hb⟩ : ∃ b, p = .sc (.string b) ∧ isStringTy P d = false := by
     refine Classical.byContradiction fun hn => hs fun b hb => ?_
     cases hq : isStringTy P d with
     | true => rfl
     | false => exact absurd ⟨b, hb, hq⟩ hn
   obtain ⟨rfl, hd⟩ := hb
   obtain rfl := hx.sc_inv
   unfold convEff at hob ⊢
   simp only [hd, Bool.false_eq_true, if_false] at hob ⊢
   split at hob
   · rename_i hc
     rw [if_pos hc]
     have hob' : isStringTy P s = true := hob
     simp only [Bool.and_eq_true, beq_iff_eq] at hc
     obtain ⟨hu, hok⟩ := sliceOk_spec hc.1
     have hk := intKind_spec hc.2
     let cap := (Question.appendCap b.size 0 (elemTy P d)).cut (E.w.tape E.w.drawn (.appendCap b.size 0 (elemTy P d)))
     let cells : Array Value := b.data.map (fun c => Value.int .u8 c.toNat) ++ Array.replicate (cap - b.size) (.int .u8 0)
     let w' : World := (E.w.drew.alloc (.cells cells (elemTy P d))).freeze { block := E.w.heap.size, off := cells.size } 1
     have hcap : b.size ≤ cap := by simp [cap, Question.cut]
     have hfz : w'.heap = E.w.heap.push (.cells cells (elemTy P d) (cells.size, cells.size + 1)) := by
       exact freeze_new (E.w.drew) cells (elemTy P d)
     have hsh : (E.w.drew.alloc (.cells cells (elemTy P d))).shape? E.w.heap.size = some (elemTy P d, cells.size) := by
       have : (E.w.drew.alloc (.cells cells (elemTy P d))).heap[E.w.heap.size]? = some (.cells cells (elemTy P d)) := by
         show (E.w.heap.push _)[E.w.heap.size]? = _
         simp
       unfold World.shape?
       rw [this]
     have hr : (convert s d (.string b)).run P E.w = .ok (.slice (some ⟨E.w.heap.size, 0, none⟩) b.size cap) w' := by
       have hst : (Conv.stringToBytes (elemTy P d) b).run P E.w = .ok (.slice (some ⟨E.w.heap.size, 0, none⟩) b.size cap) w' := by
         have hnr : (newRow (elemTy P d) cells).run P E.w.drew = .ok ⟨E.w.heap.size, 0, none⟩ (E.w.drew.alloc (.cells cells (elemTy P d))) := rfl
         have hms : (markStringish ⟨E.w.heap.size, 0, none⟩).run P (E.w.drew.alloc (.cells cells (elemTy P d))) = .ok () w' := by
           simp only [markStringish, Sem.run_bind, run_shape, Result.andThen_ok, hsh]
           rfl
         simp only [Conv.stringToBytes, Sem.run_bind, run_choose, Question.forced, Bool.false_eq_true, if_false, Result.andThen_ok]
         show ((newRow (elemTy P d) cells).run P E.w.drew).andThen _ = _
         rw [hnr]
         simp only [Result.andThen_ok, hms, Sem.run_pure]
         rfl
       simp only [convert, Sem.run_bind, run_under (isStringTy_spec hob'), run_under hu, Result.andThen_ok, run_under hk]
       exact hst
     refine OpOK.frozen g (w' := w') (by rw [hrun, hr]; rfl) hfz rfl rfl rfl rfl rfl ?_
     have hown : ¬ ({ E with w := w' } : Env).own E.w.heap.size := fun ⟨k, o, h1, h2⟩ => by have := live_lt g h1; have h2' : E.blk k = E.w.heap.size := h2; omega
     have hM : ¬ E.M E.w.heap.size := fun h => by have := g.out _ h; have := g.size; omega
     have hcell : ∀ x, w'.cell? ⟨E.w.heap.size, x, none⟩ = cells[x]? := fun x => by
       have : w'.heap[E.w.heap.size]? = some (.cells cells (elemTy P d) (cells.size, cells.size + 1)) := by rw [hfz]; simp
       exact cell_of_heap this x
     have hlen : (byteRows b.data.toList).length = b.size := by simp [byteRows]
     have := Rep.lit (E := { E with w := w' }) (b := E.w.heap.size) (off := 0) (c := cap) (t := false) (sz := 1) (rows := byteRows b.data.toList) (f := fun i _ => .int .u8 ((b.data.toList.getD i 0).toNat))
       ⟨hown, fun _ => hM, (fun h => by cases h), by simp [hfz], (fun row h => by simp [byteRows] at h; obtain ⟨x, _, rfl⟩ := h; rfl), (fun i j row p h1 h2 => by
         simp [byteRows] at h1
         obtain ⟨c, h3, rfl⟩ := h1
         have hi : i < b.size := by
           have := (Array.getElem?_eq_some_iff.1 h3).1; simpa using this
         cases j with
         | zero =>
           simp only [Nat.zero_add, Nat.mul_one, Nat.add_zero]
           rw [hcell]
           simp only [cells]
           rw [Array.getElem?_append_left (by simpa using hi)]
           simp [h3]
         | succ j => simp at h2), (fun row h p hp => by simp [byteRows] at h; obtain ⟨x, _, rfl⟩ := h; simp at hp; subst hp; exact .sc _), (fun row h p hp => by simp [byteRows] at h; obtain ⟨x, _, rfl⟩ := h; simp at hp; subst hp; rfl)⟩
       (by rw [hlen]; exact hcap) (fun i j row p h1 h2 => by
         simp [byteRows] at h1
         obtain ⟨c, h3, rfl⟩ := h1
         cases j with
         | zero => simp at h2; subst h2; simp [h3]; exact .sc rfl
         | succ j => simp at h2)
     rw [hlen] at this
     exact this
   · rename_i hc; exact hob.elim

theorem ok_range (g : Good E) {site : Nat} {t : TypeId} {x : Value} {p : PV} {run : Result Next} (hx : Rep E x p) (hrun : run = ((Instr.range t x).run P E.w).andThen fun v w' => .ok (.value v) w')
   (hob : (rangeEff P E.h (site, E.cnt site) t p).ob) : OpOK P E site run (rangeEff P E.h (site, E.cnt site) t p) := by
 unfold rangeEff at hob ⊢
 split at hob
 · rename_i key
   split at hob
   · rename_i es bs clk hkey
     have hmt : (mapTy P t).isSome = true := hob
     obtain ⟨kt, hkt⟩ := Option.isSome_iff_exists.1 hmt
     obtain ⟨kt, et⟩ := kt
     cases hx with
     | map hkn hl =>
       have hb := (hl _ hkey).1
       subst hb
       obtain ⟨ents, h4, h5⟩ := ents_of g hkey
       let w' : World := { E.w with heap := E.w.heap.push (.mapIter (some (E.blk key)) clk #[] clk) }
       have hr : (Instr.range t (.map (some (E.blk key)))).run P E.w = .ok (.pointer (some ⟨E.w.heap.size, 0, none⟩)) w' := by
         simp only [Instr.range, Sem.run_bind, run_under (mapTy_spec hkt), Result.andThen_ok, run_getMap h4, Sem.run_pure]
         rfl
       refine OpOK.new g (o := .iter key clk []) (w' := w') (c := 0) (by rw [hrun, hr]; rfl) rfl rfl rfl rfl rfl rfl ?_ ?_
       · have hne := known_ne (site := site) hkn
         refine ⟨E.blk key, ?_, ?_, fun o ho => ?_⟩
         · rw [show (newEnv E site (.iter key clk []) w' 0).blk (site, E.cnt site) = E.w.heap.size by simp [newEnv]]
           show (E.w.heap.push _)[E.w.heap.size]? = _
           simp
         · exact (newEnv_le (o := .iter key clk []) (w' := w') (c := 0) g rfl).known hkn
         · simp only [newEnv, if_neg hne] at ho ⊢
           rw [hkey] at ho; cases ho
           exact ⟨trivial, rfl⟩
       · have h6 : (newEnv E site (.iter key clk []) w' 0).blk (site, E.cnt site) = E.w.heap.size := by simp [newEnv]
         refine Rep.iter (b := E.w.heap.size) (by simp [newEnv, Env.known]) fun o ho => ?_
         simp [newEnv] at ho ⊢
         rw [← ho]; rfl
   · exact hob.elim
 · exact hob.elim

theorem left_mem {E : Env} {l : List MapEntry} {es : List (PV × PV)} {seen : List Nat} (h : EntsRep E l es) {e : MapEntry} (he : e ∈ l) (hs : seen.contains e.born = false) :
   ∃ p ∈ leftOf es (l.map (·.born)) seen, Rep E e.key p.1.1 ∧ Rep E e.val p.1.2 ∧ p.2 = e.born := by
 obtain ⟨j, hj⟩ := List.mem_iff_getElem?.1 he
 have hjl : j < l.length := (List.getElem?_eq_some_iff.1 hj).1
 have hje : j < es.length := by rw [← h.1]; exact hjl
 have hr := h.2 j e _ hj (List.getElem?_eq_getElem hje)
 refine ⟨(es[j], e.born), ?_, hr.1, hr.2, rfl⟩
 unfold leftOf
 refine List.mem_filter.2 ⟨?_, by simp only [hs, Bool.not_false]⟩
 refine List.mem_iff_getElem?.2 ⟨j, ?_⟩
 rw [List.getElem?_zip_eq_some]
 exact ⟨List.getElem?_eq_getElem hje, by rw [List.getElem?_map, hj]; rfl⟩

theorem left_mem' {E : Env} {l : List MapEntry} {es : List (PV × PV)} {seen : List Nat} {p : (PV × PV) × Nat} (hp : p ∈ leftOf es (l.map (·.born)) seen) :
   ∃ e ∈ l, e.born = p.2 ∧ seen.contains e.born = false := by
 unfold leftOf at hp
 obtain ⟨h1, h2⟩ := List.mem_filter.1 hp
 obtain ⟨j, hj⟩ := List.mem_iff_getElem?.1 h1
 rw [List.getElem?_zip_eq_some] at hj
 have h3 := hj.2
 rw [List.getElem?_map, Option.map_eq_some_iff] at h3
 obtain ⟨e, h4, h5⟩ := h3
 refine ⟨e, List.mem_of_getElem? h4, h5, ?_⟩
 rw [h5]
 cases hq : seen.contains p.2 with
 | false => rfl
 | true => simp only [hq, Bool.not_true] at h2; cases h2

theorem run_getIter {r m since st : Nat} {seen : Array Nat} {w : World} (h : w.heap[r]? = some (.mapIter (some m) since seen st)) : (getObj r).run P w = .ok (.mapIter (some m) since seen st) w := by
 simp [getObj, Sem.run, h]

theorem run_setIter {r : Nat} {o' : Obj} {w : World} {a : Option Nat} {b c : Nat} {seen : Array Nat} (h : w.heap[r]? = some (.mapIter a b seen c)) : (setObj r o').run P w = .ok () { w with heap := w.heap.setIfInBounds r o' } := by
 simp [setObj, Sem.run, h]

/-- What the parts of an iteration are in memory. -/
theorem iter_parts (g : Good E) {x : Value} {kit km : Key} {since : Nat} {seen : List Nat} {es : List (PV × PV)} {bs : List Nat} {clk : Nat} (hx : Rep E x (.iter kit)) (hi : E.h kit = some (.iter km since seen)) (hm : E.h km = some (.map es bs clk)) :
   x = .pointer (some ⟨E.blk kit, 0, none⟩) ∧ E.w.heap[E.blk kit]? = some (.mapIter (some (E.blk km)) since seen.toArray since) ∧
   ∃ ents : Array MapEntry, E.w.heap[E.blk km]? = some (.map ents clk) ∧ EntsRep E ents.toList es ∧ Stamps ents clk ∧ bs = ents.toList.map (·.born) := by
 cases hx with
 | iter hk hl =>
   obtain ⟨hb, _⟩ := hl _ hi
   subst hb
   obtain ⟨b, h1, h2, h3⟩ := g.obj _ _ hi
   obtain ⟨h4, _⟩ := h3 _ hm
   subst h4
   obtain ⟨ents, h5, h6, _, h7, h8, h9⟩ := g.obj _ _ hm
   exact ⟨rfl, h1, ents, h5, ⟨by simpa using h6, fun i e p h10 h11 => h7 i e p (by simpa using h10) h11⟩, h8, h9⟩

theorem born_all {ents : Array MapEntry} {bs : List Nat} {since : Nat} (hbs : bs = ents.toList.map (·.born)) (hlt : ∀ b ∈ bs, b < since) : ∀ e ∈ ents.toList, e.born < since := fun e he =>
 hlt _ (by rw [hbs]; exact List.mem_map_of_mem he)

theorem stale_false {ents : Array MapEntry} {seen : Array Nat} {since : Nat} (h : ∀ e ∈ ents.toList, e.born < since) : (!seen.isEmpty && !ents.isEmpty && ents.all fun x => decide (x.born ≥ since)) = false := by
 by_cases h0 : ents.toList = []
 · have : ents = #[] := by cases ents; simp at h0; simp [h0]
   subst this; simp
 · obtain ⟨e, he⟩ := List.exists_mem_of_ne_nil _ h0
   have : (ents.all fun x => decide (x.born ≥ since)) = false := by
     cases hq : ents.all fun x => decide (x.born ≥ since) with
     | false => rfl
     | true =>
       rw [Array.all_eq_true_iff_forall_mem] at hq
       have h1 := hq e (by simpa using he)
       have h2 := h e he
       simp at h1; omega
   rw [this]; simp

theorem ro_next (g : Good E) {x : Value} {p : PV} {s : Bool} {ty : TypeId} (hx : Rep E x p) (hob : (nextEff E.h p s).ob) : RO P E (Instr.next x s ty) (nextEff E.h p s) := by
 unfold nextEff at hob ⊢
 split at hob
 · rename_i kit
   split at hob
   · rename_i km since seen hkit
     split at hob
     · rename_i es bs clk hkm
       obtain ⟨hs, hleft, hclk, hlt⟩ := hob
       subst hs; subst hclk
       obtain ⟨rfl, h1, ents, h2, h3, h4, h5⟩ := iter_parts g hx hkit hkm
       have hall := born_all h5 hlt
       have hnil : (ents.filter fun e => !seen.toArray.contains e.born) = #[] := by
         apply Array.eq_empty_iff_forall_not_mem.2
         intro e he
         obtain ⟨h6, h7⟩ := Array.mem_filter.1 he
         have h8 : seen.contains e.born = false := by simpa using h7
         obtain ⟨p, hp, _⟩ := left_mem (seen := seen) h3 (by simpa using h6) h8
         rw [← h5, hleft] at hp
         cases hp
       refine ⟨.tuple #[.bool false], ?_, .tup rfl fun i v q h6 h7 => ?_, rfl, rfl⟩
       · have hc : (choose (.mapNext 1)).run P E.w = .ok 0 E.w := by simp [Question.forced]
         have hl2 : ((if (#[] : Array MapEntry).isEmpty = true then #[(none : Option MapEntry)] else #[]) ++ Array.map some ((#[] : Array MapEntry) ++ #[])) = #[none] := by simp
         have hf : ∀ p : MapEntry → Bool, (#[] : Array MapEntry).filter p = #[] := fun p => by simp
         simp only [Instr.next, Sem.run_bind, run_getIter h1, Result.andThen_ok, run_getMap h2, stale_false hall, hnil, hf, hl2, Bool.false_eq_true, if_false]
         show (((choose (.mapNext 1)).run P E.w).andThen _) = _
         rw [hc]
         rfl
       · rcases i with _ | i
         · simp at h6 h7; subst h6; subst h7; exact .sc rfl
         · simp at h6
     · exact hob.elim
   · exact hob.elim
 · exact hob.elim

/-- A step of an iteration. -/
theorem next_step (g : Good E) {x : Value} {kit km : Key} {since : Nat} {seen : List Nat} {es : List (PV × PV)} {bs : List Nat} {ty : TypeId} (hx : Rep E x (.iter kit)) (hkit : E.h kit = some (.iter km since seen)) (hkm : E.h km = some (.map es bs since)) (hlt : ∀ b ∈ bs, b < since)
   (hleft : leftOf es bs seen ≠ []) :
   ∃ (v : Value) (w' : World) (p : (PV × PV) × Nat), p ∈ leftOf es bs seen ∧ (Instr.next x false ty).run P E.w = .ok v w' ∧ Good (setEnv E kit (.iter km since (seen ++ [p.2])) w') ∧ EnvLe E (setEnv E kit (.iter km since (seen ++ [p.2])) w') ∧ Below E.B0 E.w w' ∧
     Rep (setEnv E kit (.iter km since (seen ++ [p.2])) w') v (.tup [.bool true, p.1.1, p.1.2]) := by
 obtain ⟨rfl, h1, ents, h2, h3, h4, h5⟩ := iter_parts g hx hkit hkm
 have hall := born_all h5 hlt
 have hold : ((ents.filter fun e => !seen.toArray.contains e.born).filter fun e => decide (e.born < since)) = ents.filter fun e => !seen.toArray.contains e.born := by
   apply Array.filter_eq_self.2
   intro e he
   have := hall e (by simpa using (Array.mem_filter.1 he).1)
   simpa using this
 have hnew : ((ents.filter fun e => !seen.toArray.contains e.born).filter fun e => decide (e.born ≥ since)) = #[] := by
   apply Array.filter_eq_empty_iff.2
   intro e he
   have := hall e (by simpa using (Array.mem_filter.1 he).1)
   simp; omega
 generalize hL : (ents.filter fun e => !seen.toArray.contains e.born) = L at hold hnew
 have hLne : L.isEmpty = false := by
   obtain ⟨p, hp⟩ := List.exists_mem_of_ne_nil _ hleft
   rw [h5] at hp
   obtain ⟨e, h6, _, h8⟩ := left_mem' (E := E) hp
   have : e ∈ L := by rw [← hL]; exact Array.mem_filter.2 ⟨by simpa using h6, by simpa using h8⟩
   cases hq : L.isEmpty with
   | false => rfl
   | true => rw [Array.isEmpty_iff.1 hq] at this; simp at this
 have hpos : 0 < L.size := by
   cases hq : L.size with
   | zero => rw [Array.eq_empty_of_size_eq_zero hq] at hLne; simp at hLne
   | succ n => omega
 obtain ⟨i, w1, hch, hi, hh, ho1, ho2, ho3⟩ : ∃ i w1, (choose (.mapNext L.size)).run P E.w = .ok i w1 ∧ i < L.size ∧ w1.heap = E.w.heap ∧ w1.os = E.w.os ∧ w1.tape = E.w.tape ∧ w1.output = E.w.output := by
   by_cases hf : (Question.mapNext L.size).forced = true
   · exact ⟨0, E.w, by simp [run_choose, hf], hpos, rfl, rfl, rfl, rfl⟩
   · refine ⟨_, E.w.drew, by simp only [run_choose, hf]; rfl, ?_, rfl, rfl, rfl, rfl⟩
     exact Nat.mod_lt _ hpos
 have he := Array.getElem?_eq_getElem hi
 generalize L[i] = e at he
 have hmem : e ∈ L := Array.mem_of_getElem? he
 rw [← hL] at hmem
 obtain ⟨h6, h7⟩ := Array.mem_filter.1 hmem
 obtain ⟨p, hp, hrk, hrv, hpb⟩ := left_mem (seen := seen) h3 (by simpa using h6) (by simpa using h7)
 rw [← h5] at hp
 have hblt := live_lt g hkit
 let w' : World := { w1 with heap := w1.heap.setIfInBounds (E.blk kit) (.mapIter (some (E.blk km)) since (seen.toArray.push e.born) since) }
 have hb : ∀ b, b ≠ E.blk kit → w'.heap[b]? = E.w.heap[b]? := fun b hb => by
   show (w1.heap.setIfInBounds _ _)[b]? = _
   rw [hh, heap_set, if_neg (by intro h; exact hb h.1.symm)]
 have hsz : E.w.heap.size ≤ w'.heap.size := by simp [w', hh]
 have hal : (PObj.iter km since seen).alike (.iter km since (seen ++ [p.2])) := trivial
 have hle := setEnv_le (w' := w') g hkit hal hsz hb
 have hobj : ObjOK (setEnv E kit (.iter km since (seen ++ [p.2])) w') kit (.iter km since (seen ++ [p.2])) := by
   obtain ⟨b, q1, q2, q3⟩ := g.obj _ _ hkit
   refine ⟨E.blk km, ?_, q2, fun o ho => ?_⟩
   · show w'.heap[E.blk kit]? = _
     show (w1.heap.setIfInBounds _ _)[E.blk kit]? = _
     rw [hh, heap_set, if_pos ⟨rfl, hblt⟩, hpb]
     simp
   · have hne : km ≠ kit := fun e => by rw [e, hkit] at hkm; cases hkm
     simp only [setEnv, if_neg hne] at ho ⊢
     rw [hkm] at ho; cases ho
     exact ⟨trivial, rfl⟩
 refine ⟨.tuple #[.bool true, e.key, e.val], w', p, hp, ?_, setEnv_good g hkit hal hsz hb hobj, hle, below_set g hkit hsz hb ho1 ho2 ho3, .tup rfl fun j v q h8 h9 => ?_⟩
 · have hcand : ((if L.isEmpty = true then #[(none : Option MapEntry)] else #[]) ++ Array.map some (L ++ #[])) = L.map some := by simp [hLne]
   have h1' : w1.heap[E.blk kit]? = some (.mapIter (some (E.blk km)) since seen.toArray since) := by rw [hh]; exact h1
   have hget : (L.map some)[i]? = some (some e) := by rw [Array.getElem?_map, he]; rfl
   simp only [Instr.next, Sem.run_bind, run_getIter h1, Result.andThen_ok, run_getMap h2, stale_false hall, hL, hold, hnew, hcand, Bool.false_eq_true, if_false, Array.size_map]
   show (((choose (.mapNext L.size)).run P E.w).andThen _) = _
   rw [hch]
   simp only [Result.andThen_ok, hget, Sem.run_bind, run_setIter h1', Sem.run_pure]
   rfl
 · rcases j with _ | _ | _ | j
   · simp at h8 h9; subst h8; subst h9; exact .sc rfl
   · simp at h8 h9; subst h8; subst h9; exact hrk.le hle
   · simp at h8 h9; subst h8; subst h9; exact hrv.le hle
   · simp at h8

theorem ro_entry (g : Good E) {x : Value} {p : PV} (hx : Rep E x p) (hob : (entryEff E.h p).ob) : RO P E (Instr.entry x) (entryEff E.h p) := by
 unfold entryEff at hob ⊢
 split at hob
 · rename_i kit
   split at hob
   · rename_i km since seen hkit
     split at hob
     · rename_i es bs clk hkm
       obtain ⟨hclk, hsome⟩ := hob
       subst hclk
       obtain ⟨rfl, h1, ents, h2, h3, h4, h5⟩ := iter_parts g hx hkit hkm
       obtain ⟨pe, hpe⟩ := Option.isSome_iff_exists.1 hsome
       simp only [hpe]
       unfold entryOf at hpe
       cases hl : seen.getLast? with
       | none => rw [hl] at hpe; cases hpe
       | some b =>
         rw [hl] at hpe
         simp only [Option.map_eq_some_iff] at hpe
         obtain ⟨q, hq, rfl⟩ := hpe
         have hback : seen.toArray.back? = some b := by simp [hl]
         have key : ∀ (l : List MapEntry) (es : List (PV × PV)), EntsRep E l es → ∀ q, ((es.zip (l.map (·.born))).find? fun p => p.2 == b) = some q → ∃ e, l.find? (·.born == b) = some e ∧ Rep E e.key q.1.1 ∧ Rep E e.val q.1.2 := by
           intro l
           induction l with
           | nil => intro es _ q hq; simp at hq
           | cons e l ih =>
             intro es hr q hq
             cases es with
             | nil => simp at hq
             | cons pe es =>
               have h0 := hr.2 0 e pe rfl rfl
               simp only [List.map_cons, List.zip_cons_cons, List.find?_cons] at hq ⊢
               split at hq
               · rename_i hb'
                 cases hq
                 exact ⟨e, rfl, h0.1, h0.2⟩
               · rename_i hb'
                 exact ih es ⟨by have := hr.1; simpa using this, fun i e' p' h6 h7 => hr.2 (i + 1) e' p' (by simpa using h6) (by simpa using h7)⟩ q hq
         rw [h5] at hq
         obtain ⟨e, h6, h7, h8⟩ := key _ _ h3 q hq
         have h6' : ents.find? (·.born == b) = some e := by simpa using h6
         refine ⟨.tuple #[e.key, e.val], ?_, .tup rfl fun j v u h9 h10 => ?_, rfl, rfl⟩
         · simp only [Instr.entry, Sem.run_bind, run_getIter h1, Result.andThen_ok, hback, run_getMap h2, bne_self_eq_false, Bool.false_eq_true, if_false, h6', Sem.run_pure]
         · rcases j with _ | _ | j
           · simp at h9 h10; subst h9; subst h10; exact h7
           · simp at h9 h10; subst h9; subst h10; exact h8
           · simp at h9
     · exact hob.elim
   · exact hob.elim
 · exact hob.elim

end
end Go.Pv
