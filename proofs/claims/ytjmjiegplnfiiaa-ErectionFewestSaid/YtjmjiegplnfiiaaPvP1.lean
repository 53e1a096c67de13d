/- The P level is sound: regions whose order is drawn and in which calls change own memory while loads of other cells may come up ahead of them or behind. -/
import Derived.Test.YtjmjiegplnfiiaaPvO
namespace Go.Pv
open Go Go.RowKit
section
variable {P : Program}

/-- What an operation looks at, in a state that agrees on it. -/
theorem looks_local {ops : Array Oper} {o : Oper} {σ τ : GS} (hr : ∀ t ∈ o.looksAt ops, τ.s.r t = σ.s.r t) (hG : ∀ t ∈ o.looksAt ops, τ.G t = σ.G t) :
   (∀ x ∈ o.op.operands, ev τ.s.r x = ev σ.s.r x) ∧ gval ops τ o.guard = gval ops σ o.guard ∧ gob ops τ o.guard = gob ops σ o.guard ∧ (valid σ o.op → valid τ o.op) ∧ callOf τ.s.r o.op = callOf σ.s.r o.op := by
 have hev : ∀ x ∈ o.op.operands, ev τ.s.r x = ev σ.s.r x := fun x hx => ev_agree fun t ht => hr t (looks_opnd (by rw [← ht]; exact hx))
 have hok : ∀ x ∈ o.op.operands, okOpnd τ.G x = okOpnd σ.G x := fun x hx => by
   cases x <;> try rfl
   simp only [okOpnd]
   rw [hG _ (looks_opnd hx)]
 refine ⟨hev, ?_, ?_, ?_, callOf_congr hev⟩
 · unfold gval
   cases hg : o.guard with
   | none => rfl
   | some gw =>
     obtain ⟨j, w⟩ := gw
     simp only
     cases hd : (ops[j]?).bind (·.dst) with
     | none => rfl
     | some d => simp only; rw [hr d (looks_guard hg hd), hG d (looks_guard hg hd)]
 · unfold gob
   cases hg : o.guard with
   | none => rfl
   | some gw =>
     obtain ⟨j, w⟩ := gw
     simp only
     cases hd : (ops[j]?).bind (·.dst) with
     | none => rfl
     | some d => simp only; rw [hr d (looks_guard hg hd), hG d (looks_guard hg hd)]
 · intro hv
   generalize o.op = op at hv hev hok
   cases op
   case pick a b d =>
     obtain ⟨h1, h2, h3⟩ := hv
     refine ⟨by rw [hok _ (by simp [Op.operands])]; exact h1, fun h4 => ?_, fun h4 => ?_⟩
     · rw [hok _ (by simp [Op.operands])]; rw [hev _ (by simp [Op.operands])] at h4; exact h2 h4
     · rw [hok _ (by simp [Op.operands])]; rw [hev _ (by simp [Op.operands])] at h4; exact h3 h4
   all_goals exact fun x hx => by rw [hok x (by simpa using hx)]; exact hv x hx

theorem keyless_call {r : Nat → PV} {o : Op} (h : keyless o = true) : callOf r o = none := by
 cases o <;> first | rfl | (simp [keyless] at h)

/-- An operation that makes nothing, in another own memory in which it finds the same. -/
theorem GAt.calm {ops : Array Oper} {i : Nat} {o : Oper} {c : Bool} {e : Eff} {σ τ : GS} {ft : Foot} (h : GAt P ops i o c e σ ft) (hk : keyless o.op = true)
   (hr : ∀ t ∈ o.looksAt ops, τ.s.r t = σ.s.r t) (hG : ∀ t ∈ o.looksAt ops, τ.G t = σ.G t)
   (he : c = true → eff P (ev σ.s.r) τ.s.h (siteOf o, τ.s.cnt (siteOf o)) o.op = eff P (ev σ.s.r) σ.s.h (siteOf o, σ.s.cnt (siteOf o)) o.op) : GAt P ops i o c e τ ft := by
 obtain ⟨hev, hgv, hgb, hval, hco⟩ := looks_local hr hG
 obtain ⟨ho, hi, hgob, hcv, hrest⟩ := h
 have hn := keyless_call (r := σ.s.r) hk
 refine ⟨ho, hi, by rw [hgb]; exact hgob, by rw [hgv]; exact hcv, ?_⟩
 rcases hrest with ⟨h1, h2, h4, h5, h6, h7⟩ | ⟨f, args, v, h1, _⟩ | ⟨f, args, h1, _⟩
 · refine .inl ⟨by rw [hco]; exact h1, fun hc' => ⟨hval (h2 hc').1, (h2 hc').2⟩, h4, ?_, h6, h7⟩
   rw [h5]
   cases c with
   | false => rfl
   | true => simp only [effG, if_true]; rw [eff_congr hev, he rfl]
 · rw [hn] at h1; cases h1
 · rw [hn] at h1; cases h1

theorem putR_comm {r : Nat → PV} {a b : Option Nat} {u v : PV} (h : ∀ d, a = some d → b ≠ some d) : putR (putR r a u) b v = putR (putR r b v) a u := by
 funext t
 cases a with
 | none => rfl
 | some da =>
   cases b with
   | none => rfl
   | some db =>
     have hne : da ≠ db := fun he => h da rfl (by rw [he])
     simp only [putR]
     by_cases h1 : t = da
     · have h2 : ¬ t = db := fun h2 => hne (h1.symm.trans h2)
       simp only [if_pos h1, if_neg h2]
     · simp only [if_neg h1]

theorem setG_comm {G : Nat → Bool} {a b : Option Nat} {u v : Bool} (h : ∀ d, a = some d → b ≠ some d) : setG (setG G a u) b v = setG (setG G b v) a u := by
 funext t
 cases a with
 | none => rfl
 | some da =>
   cases b with
   | none => rfl
   | some db =>
     have hne : da ≠ db := fun he => h da rfl (by rw [he])
     simp only [setG]
     by_cases h1 : t = da
     · have h2 : ¬ t = db := fun h2 => hne (h1.symm.trans h2)
       simp only [if_pos h1, if_neg h2]
     · simp only [if_neg h1]

theorem stepX_r (σ : GS) (x : XIt) : (stepX σ x).s.r = putR σ.s.r x.o.dst x.e.v := by
 unfold stepX; split <;> rfl
theorem stepX_G (σ : GS) (x : XIt) {c : Bool} (h : x.hc = none → x.c = c) (h' : x.hc ≠ none → c = true) : (stepX σ x).G = setG σ.G x.o.dst c := by
 unfold stepX
 split
 · rename_i hn; rw [← h hn]; rfl
 · rename_i hn; rw [h' (by rw [hn]; simp)]

/-- Two operations that leave each other alone may change places. -/
theorem XAt.swap {ops : Array Oper} {x y : XIt} {σ : GS} (h : XAt P ops x σ) (h' : XAt P ops y (stepX σ x)) (hf : XFree ops x y) :
   XAt P ops y σ ∧ XAt P ops x (stepX σ y) ∧ stepX (stepX σ x) y = stepX (stepX σ y) x := by
 obtain ⟨hap, hf⟩ := hf
 obtain ⟨hd1, hd2, hd3⟩ := Oper.apart_spec hap
 have hry : ∀ t ∈ y.o.looksAt ops, (stepX σ x).s.r t = σ.s.r t := fun t ht => by rw [stepX_r]; exact putR_ne fun he => hd1 t he ht
 have hrx : ∀ t ∈ x.o.looksAt ops, (stepX σ y).s.r t = σ.s.r t := fun t ht => by rw [stepX_r]; exact putR_ne fun he => hd3 t he ht
 have hGs : ∀ z : XIt, ∃ c, (stepX σ z).G = setG σ.G z.o.dst c := fun z => by
   cases hz : z.hc with
   | none => exact ⟨_, stepX_G σ z (c := z.c) (fun _ => rfl) (fun hn => absurd hz hn)⟩
   | some _ => exact ⟨_, stepX_G σ z (c := true) (fun hn => by rw [hz] at hn; cases hn) (fun _ => rfl)⟩
 have hGy : ∀ t ∈ y.o.looksAt ops, (stepX σ x).G t = σ.G t := fun t ht => by obtain ⟨c, hc⟩ := hGs x; rw [hc]; exact setG_ne fun he => hd1 t he ht
 have hGx : ∀ t ∈ x.o.looksAt ops, (stepX σ y).G t = σ.G t := fun t ht => by obtain ⟨c, hc⟩ := hGs y; rw [hc]; exact setG_ne fun he => hd3 t he ht
 have hly := looks_local (τ := stepX σ x) (σ := σ) hry hGy
 have hlx := looks_local (τ := stepX σ y) (σ := σ) hrx hGx
 obtain ⟨xi, xo, xc, xe, xft, xhc, xef⟩ := x
 obtain ⟨yi, yo, yc, ye, yft, yhc, yef⟩ := y
 dsimp only at *
 cases xhc with
 | none =>
   cases yhc with
   | none =>
     obtain ⟨hx1, hx2⟩ := h
     obtain ⟨hy1, hy2⟩ := h'
     dsimp only at hx1 hx2 hy1 hy2 hf
     obtain ⟨g1, g2, g3⟩ := hx1.swap hy1 ⟨hap, hf.1, hf.2.1, hf.2.2.1, hf.2.2.2⟩
     refine ⟨⟨g1, fun hk hc h key => ?_⟩, ⟨g2, fun hk hc h key => ?_⟩, g3⟩
     · exact (eff_congr hly.1).symm.trans (hy2 hk hc h key)
     · exact (eff_congr hlx.1).trans (hx2 hk hc h key)
   | some q =>
     obtain ⟨hb, ha, c0⟩ := q
     obtain ⟨hx1, hx2⟩ := h
     dsimp only at hx1 hx2 hf
     obtain ⟨hk, hw, hbu, hef⟩ := hf
     dsimp only at hk hw hbu hef
     obtain ⟨e1, e2, e3, e4, e5, f, args, e6, e7⟩ := h'
     dsimp only at e1 e2 e3 e4 e5 e6 e7
     have hh : (stepG σ xo xc xe).s.h = σ.s.h := by show applyWr σ.s.h xe.wr = _; rw [hw]; rfl
     have hcn : (stepG σ xo xc xe).s.cnt = σ.s.cnt := by show bumpC σ.s.cnt (siteOf xo) xe.bump = _; rw [hbu]; rfl
     have e7' : HCallsR P f args σ.s.h σ.s.cnt fun v h' c' => v = ye.v ∧ h' = ha ∧ c' = c0 := by rw [← hh, ← hcn]; exact e7
     have hσ : σ.s.h = hb := by rw [← hh]; exact e5
     refine ⟨⟨e1, by rw [← hly.2.2.1]; exact e2, by rw [← hly.2.1]; exact e3, ?_, hσ, f, args, by rw [← hly.2.2.2.2]; exact e6, e7'⟩, ⟨?_, ?_⟩, ?_⟩
     · have := looks_local (τ := σ) (σ := stepX σ ⟨xi, xo, xc, xe, xft, none, xef⟩) (fun t ht => (hry t ht).symm) (fun t ht => (hGy t ht).symm)
       exact this.2.2.2.1 e4
     · refine hx1.calm hk hrx hGx fun hc => ?_
       show eff P (ev σ.s.r) ha _ xo.op = _
       rw [hx2 hk hc, hx2 hk hc, ← hef hc, hσ]
     · intro hk' hc h key
       exact (eff_congr hlx.1).trans (hx2 hk' hc h key)
     · have g1 : putR (putR σ.s.r xo.dst xe.v) yo.dst ye.v = putR (putR σ.s.r yo.dst ye.v) xo.dst xe.v := putR_comm hd2
       have g2 : setG (setG σ.G xo.dst xc) yo.dst true = setG (setG σ.G yo.dst true) xo.dst xc := setG_comm hd2
       show (⟨⟨putR (putR σ.s.r xo.dst xe.v) yo.dst ye.v, ha, c0⟩, setG (setG σ.G xo.dst xc) yo.dst true⟩ : GS) = ⟨⟨putR (putR σ.s.r yo.dst ye.v) xo.dst xe.v, applyWr ha xe.wr, bumpC c0 (siteOf xo) xe.bump⟩, setG (setG σ.G yo.dst true) xo.dst xc⟩
       rw [g1, g2, hw, hbu]; rfl
 | some p =>
   obtain ⟨hb, ha, c0⟩ := p
   cases yhc with
   | some q => exact hf.elim
   | none =>
     obtain ⟨hy1, hy2⟩ := h'
     dsimp only at hy1 hy2 hf
     obtain ⟨hk, hw, hbu, hef⟩ := hf
     dsimp only at hk hw hbu hef
     obtain ⟨e1, e2, e3, e4, e5, f, args, e6, e7⟩ := h
     dsimp only at e1 e2 e3 e4 e5 e6 e7
     have hh : (stepG σ yo yc ye).s.h = σ.s.h := by show applyWr σ.s.h ye.wr = _; rw [hw]; rfl
     have hcn : (stepG σ yo yc ye).s.cnt = σ.s.cnt := by show bumpC σ.s.cnt (siteOf yo) ye.bump = _; rw [hbu]; rfl
     refine ⟨⟨?_, ?_⟩, ⟨e1, by rw [hlx.2.2.1]; exact e2, by rw [hlx.2.1]; exact e3, hlx.2.2.2.1 e4, ?_, f, args, by rw [hlx.2.2.2.2]; exact e6, ?_⟩, ?_⟩
     · refine hy1.calm hk (fun t ht => (hry t ht).symm) (fun t ht => (hGy t ht).symm) fun hc => ?_
       show eff P _ σ.s.h _ yo.op = eff P _ ha _ yo.op
       rw [hy2 hk hc, hy2 hk hc, ← hef hc, e5]
     · intro hk' hc h key
       exact (eff_congr hly.1).symm.trans (hy2 hk' hc h key)
     · show (stepG σ yo yc ye).s.h = hb
       rw [hh]; exact e5
     · show HCallsR P f args (stepG σ yo yc ye).s.h (stepG σ yo yc ye).s.cnt _
       rw [hh, hcn]; exact e7
     · have g1 : putR (putR σ.s.r xo.dst xe.v) yo.dst ye.v = putR (putR σ.s.r yo.dst ye.v) xo.dst xe.v := putR_comm hd2
       have g2 : setG (setG σ.G xo.dst true) yo.dst yc = setG (setG σ.G yo.dst yc) xo.dst true := setG_comm hd2
       show (⟨⟨putR (putR σ.s.r xo.dst xe.v) yo.dst ye.v, applyWr ha ye.wr, bumpC c0 (siteOf yo) ye.bump⟩, setG (setG σ.G xo.dst true) yo.dst yc⟩ : GS) = ⟨⟨putR (putR σ.s.r yo.dst ye.v) xo.dst xe.v, ha, c0⟩, setG (setG σ.G yo.dst yc) xo.dst true⟩
       rw [g1, g2, hw, hbu]; rfl

theorem XRun.bubble {ops : Array Oper} : ∀ {l1 : List XIt} {x : XIt} {l2 : List XIt} {σ σ' : GS}, XRun P ops (l1 ++ x :: l2) σ σ' → (∀ y ∈ l1, XFree ops y x) → XRun P ops (x :: (l1 ++ l2)) σ σ'
 | [], _, _, _, _, h, _ => h
 | y :: l1, x, l2, σ, σ', h, hf => by
   cases h with
   | cons h hr =>
     cases XRun.bubble hr fun z hz => hf z (by simp [hz]) with
     | cons h2 hr2 =>
       obtain ⟨h3, h4, h5⟩ := h.swap h2 (hf y (by simp))
       rw [h5] at hr2
       exact .cons h3 (.cons h4 hr2)

theorem XAt.op {ops : Array Oper} {x : XIt} {σ : GS} (h : XAt P ops x σ) : ops[x.i]? = some x.o := by
 unfold XAt at h
 split at h
 · exact h.1.1
 · exact h.1
theorem XRun.at {ops : Array Oper} : ∀ {L : List XIt} {σ σ' : GS}, XRun P ops L σ σ' → ∀ x ∈ L, ops[x.i]? = some x.o
 | _, _, _, .nil _, x, hx => by simp at hx
 | _, _, _, .cons h hr, x, hx => by
   rcases List.mem_cons.1 hx with rfl | hx
   · exact h.op
   · exact hr.at x hx
end
end Go.Pv
