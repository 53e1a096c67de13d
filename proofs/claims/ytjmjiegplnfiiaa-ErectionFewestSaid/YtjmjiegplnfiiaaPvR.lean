/- Working at P level: the rules by which code is gone through, one statement at a time, what follows behind a variable. -/
import Derived.Test.YtjmjiegplnfiiaaPvQ2
namespace Go.Pv
open Go Go.RowKit

def seqQ (K : PS → Prop) (Q : Exit → PS → Prop) : Exit → PS → Prop
 | .normal, s => K s
 | e, s => Q e s
def blockQ (id : Nat) (Q : Exit → PS → Prop) : Exit → PS → Prop
 | .exit i, s => if i = id then Q .normal s else Q (.exit i) s
 | e, s => Q e s
def loopQ (I : Nat → PS → Prop) (n : Nat) (Q : Exit → PS → Prop) : Exit → PS → Prop
 | .normal, s => ∃ n', n' < n ∧ I n' s
 | e, s => Q e s
/-- The end of a function. -/
def endQ (P : Program) (rs : List ResultVar) (R : PV → Heap → (Nat → Nat) → Prop) : Exit → PS → Prop
 | .normal, s => (resPV P rs s).1 ∧ R (resPV P rs s).2 s.h s.cnt
 | .ret, s => (resPV P rs s).1 ∧ R (resPV P rs s).2 s.h s.cnt
 | _, _ => False

section
variable {P : Program} {Q : Exit → PS → Prop} {s : PS}

theorem pOps_mono {K K' : PS → Prop} (h : ∀ s, K s → K' s) : ∀ (l : List Oper) (s : PS), pOps P K l s → pOps P K' l s
 | [], s, hp => h s hp
 | o :: l, s, hp => by
   unfold pOps at hp ⊢
   split
   · rename_i hc
     rw [hc] at hp
     exact hp.imp (fun hp => ⟨hp.1, pOps_mono h l _ hp.2⟩) (Or.imp (NextP.mono fun _ => pOps_mono h l _) (Or.imp (RenP.mono fun _ => pOps_mono h l _) (NilP.mono fun _ => pOps_mono h l _)))
   · rename_i f args hc
     rw [hc] at hp
     exact HCallsR.mono hp fun v h' cnt' h1 => pOps_mono h l _ h1

theorem gOps_mono {ops : Array Oper} {d : Bool} {K K' : PS → Prop} (h : ∀ s, K s → K' s) : ∀ (l : List Oper) (i : Nat) (σ : GS) (tr : List Foot), gOps P ops d K l i σ tr → gOps P ops d K' l i σ tr
 | [], _, _, _, hp => ⟨hp.1, h _ hp.2⟩
 | o :: l, i, σ, tr, hp => by
   unfold gOps at hp ⊢
   refine ⟨hp.1, ?_⟩
   have hp := hp.2
   split
   · rename_i hc
     rw [hc] at hp
     exact ⟨hp.1, hp.2.1, gOps_mono h l _ _ _ hp.2.2⟩
   · rename_i f args hc
     rw [hc] at hp
     rcases hp with ⟨v, h1, h2⟩ | ⟨h1, h2, h3, h4⟩ | ⟨h1, h2, h3, e, h4, h5⟩
     · exact .inl ⟨v, h1, gOps_mono h l _ _ _ h2⟩
     · exact .inr (.inl ⟨h1, h2, h3, HCallsR.mono h4 fun v h' cnt' h5 => gOps_mono h l _ _ _ h5⟩)
     · exact .inr (.inr ⟨h1, h2, h3, e, h4, gOps_mono h l _ _ _ h5⟩)

theorem pRegion_mono {ops : Array Oper} {d : Bool} {K K' : PS → Prop} (h : ∀ s, K s → K' s) (hp : pRegion P ops d K s) : pRegion P ops d K' s := by
 unfold pRegion at hp ⊢
 intro hkn
 have hp := hp hkn
 split
 · rename_i hc; rw [if_pos hc] at hp; exact pOps_mono h _ _ hp
 · rename_i hc
   rw [if_neg hc] at hp
   refine hp.imp (fun hp => gOps_mono h _ _ _ _ hp) fun ⟨hd, L, σ', h1, h2, h3, h4⟩ => ⟨hd, L, σ', h1, h2, h3, h _ h4⟩

theorem pwp_mono : ∀ (c : Code) {Q Q' : Exit → PS → Prop} {s : PS}, (∀ e s, Q e s → Q' e s) → pwp P c Q s → pwp P c Q' s
 | .skip, _, _, _, h, hp => h _ _ hp
 | .region _ _ _, _, _, _, h, hp => pRegion_mono (fun s => h _ s) hp
 | .seq a b, Q, Q', s, h, hp => pwp_mono a (fun e s he => by cases e <;> first | exact pwp_mono b h he | exact h _ _ he) hp
 | .cond c x y, _, _, _, h, ⟨b, h1, h2, h3⟩ => ⟨b, h1, fun hb => pwp_mono x h (h2 hb), fun hb => pwp_mono y h (h3 hb)⟩
 | .block id c, _, _, _, h, hp => pwp_mono c (fun e s he => by
     cases e <;> first
       | exact h _ _ he
       | (rename_i i; simp only at he ⊢; split <;> rename_i hi <;> simp only [hi, if_true, if_false] at he <;> first | exact h _ _ he | (rw [if_neg hi] at he; exact h _ _ he))) hp
 | .loop c, _, _, _, h, ⟨I, n, h1, h2⟩ => ⟨I, n, h1, fun n s hI => pwp_mono c (fun e s he => by cases e <;> first | exact he | exact h _ _ he) (h2 n s hI)⟩
 | .exit _, _, _, _, h, hp => h _ _ hp
 | .ret, _, _, _, h, hp => h _ _ hp
 | .rangeFunc .., _, _, _, h, hp => RangeP.mono h hp
 | .scope _, _, _, _, _, hp => hp.elim
 | .label _, _, _, _, _, hp => hp.elim
 | .goto _, _, _, _, _, hp => hp.elim
 | .refuse _, _, _, _, _, hp => hp.elim

/-- What goes first in a sequence, what follows behind a variable. -/
theorem pwp_seq_k {a b : Code} (h : ∀ K : PS → Prop, (∀ s', pwp P b Q s' → K s') → pwp P a (seqQ K Q) s) : pwp P (.seq a b) Q s :=
 pwp_mono a (fun e s he => by cases e <;> exact he) (h _ fun _ h => h)

/-- A cut: J holds between the two. -/
theorem pwp_seq_cut {a b : Code} (J : PS → Prop) (h1 : pwp P a (seqQ J Q) s) (h2 : ∀ s, J s → pwp P b Q s) : pwp P (.seq a b) Q s :=
 pwp_seq_k fun K hK => pwp_mono a (fun e s he => by cases e <;> first | exact hK _ (h2 _ he) | exact he) h1

theorem pwp_seq_seq {a b c : Code} (h : pwp P (.seq a (.seq b c)) Q s) : pwp P (.seq (.seq a b) c) Q s := by
 refine pwp_mono a (fun e s he => ?_) h
 cases e <;> first | exact he | exact pwp_mono b (fun e s he => by cases e <;> exact he) he

theorem pwp_skip (h : Q .normal s) : pwp P .skip Q s := h
theorem pwp_ret (h : Q .ret s) : pwp P .ret Q s := h
theorem pwp_exit {id : Nat} (h : Q (.exit id) s) : pwp P (.exit id) Q s := h

/-- A region of the plain kind. -/
theorem pwp_seq_plain {b : Code} {id : Nat} {ops : Array Oper} (hg : noGuards ops = true) (h : ∀ K : PS → Prop, (∀ s', pwp P b Q s' → K s') → pOps P K ops.toList s) : pwp P (.seq (.region id ops false) b) Q s :=
 pwp_seq_k fun K hK => by
   show pRegion P ops false K s
   unfold pRegion
   intro _
   rw [hg]
   exact h K hK

theorem pwp_plain {id : Nat} {ops : Array Oper} (hg : noGuards ops = true) (h : ∀ K : PS → Prop, (∀ s', Q .normal s' → K s') → pOps P K ops.toList s) : pwp P (.region id ops false) Q s := by
 show pRegion P ops false (Q .normal) s
 unfold pRegion
 intro _
 rw [hg]
 exact h _ fun _ h => h

/-- A region with guards, or whose order is drawn. -/
theorem pwp_seq_gops {b : Code} {id : Nat} {ops : Array Oper} {d : Bool} (hg : (noGuards ops && !d) = false) (h : ∀ K : PS → Prop, (∀ s', pwp P b Q s' → K s') → gOps P ops d K ops.toList 0 ⟨s, fun _ => true⟩ []) : pwp P (.seq (.region id ops d) b) Q s :=
 pwp_seq_k fun K hK => by
   show pRegion P ops d K s
   unfold pRegion
   intro _
   rw [hg]
   exact .inl (h K hK)

theorem pwp_gops {id : Nat} {ops : Array Oper} {d : Bool} (hg : (noGuards ops && !d) = false) (h : ∀ K : PS → Prop, (∀ s', Q .normal s' → K s') → gOps P ops d K ops.toList 0 ⟨s, fun _ => true⟩ []) : pwp P (.region id ops d) Q s := by
 show pRegion P ops d (Q .normal) s
 unfold pRegion
 intro _
 rw [hg]
 exact .inl (h _ fun _ h => h)

theorem pwp_seq_cond {b : Code} {c : Operand} {x y : Code} {t : Bool} (hc : ev s.r c = .sc (.bool t)) (h : ∀ K : PS → Prop, (∀ s', pwp P b Q s' → K s') → (t = true → pwp P x (seqQ K Q) s) ∧ (t = false → pwp P y (seqQ K Q) s)) : pwp P (.seq (.cond c x y) b) Q s :=
 pwp_seq_k fun K hK => ⟨t, hc, (h K hK).1, (h K hK).2⟩

theorem pwp_cond {c : Operand} {x y : Code} {t : Bool} (hc : ev s.r c = .sc (.bool t)) (ht : t = true → pwp P x Q s) (hf : t = false → pwp P y Q s) : pwp P (.cond c x y) Q s := ⟨t, hc, ht, hf⟩

theorem pwp_seq_block {b : Code} {id : Nat} {c : Code} (h : ∀ K : PS → Prop, (∀ s', pwp P b Q s' → K s') → pwp P c (blockQ id (seqQ K Q)) s) : pwp P (.seq (.block id c) b) Q s :=
 pwp_seq_k fun K hK => pwp_mono c (fun e s he => by cases e <;> exact he) (h K hK)

theorem pwp_block {id : Nat} {c : Code} (h : pwp P c (blockQ id Q) s) : pwp P (.block id c) Q s := pwp_mono c (fun e s he => by cases e <;> exact he) h

theorem pwp_loop {c : Code} (I : Nat → PS → Prop) (n : Nat) (h0 : I n s) (h : ∀ n s, I n s → pwp P c (loopQ I n Q) s) : pwp P (.loop c) Q s :=
 ⟨I, n, h0, fun n s hI => pwp_mono c (fun e s he => by cases e <;> exact he) (h n s hI)⟩

/-- A function on pure values, in the form that is worked with. -/
theorem PCalls.of_code {f : FuncId} {fn : Func} {c : Code} {rs : List ResultVar} {args : List PV} {r : PV} (hf : P.funcs[f]? = some fn) (hb : fn.body = some c) (hrs : fn.results = rs.toArray)
   (hB : hasBody P f = true) (hm : P.follows .mixedOrders = true) (hfr : (inFrame fn.ntmps c && rs.all (resScope fn.ntmps)) = true) (hfr3 : args.length ≤ fn.ntmps) (hpr : Pure r)
   (hp : pwp P c (endQ P rs fun p h _ => Out h p r) ⟨fun i => args.getD i .dead, noHeap, noCnt⟩) : PCalls P f args r :=
 .of_pwp hf hb hrs hB hm hfr hfr3 hpr (pwp_mono c (fun e s he => by cases e <;> first | exact ⟨.inl rfl, he⟩ | exact ⟨.inr rfl, he⟩ | exact he.elim) hp)

theorem HCallsR.of_code {f : FuncId} {fn : Func} {c : Code} {rs : List ResultVar} {args : List PV} {h : Heap} {cnt : Nat → Nat} {R : PV → Heap → (Nat → Nat) → Prop} (hf : P.funcs[f]? = some fn) (hb : fn.body = some c) (hrs : fn.results = rs.toArray)
   (hB : hasBody P f = true) (hm : P.follows .mixedOrders = true) (hfr : (inFrame fn.ntmps c && rs.all (resScope fn.ntmps)) = true) (hfr3 : args.length ≤ fn.ntmps)
   (hp : pwp P c (endQ P rs R) ⟨fun i => args.getD i .dead, h, cnt⟩) : HCallsR P f args h cnt R :=
 .of_pwp hf hb hrs hB hm hfr hfr3 (pwp_mono c (fun e s he => by cases e <;> first | exact ⟨.inl rfl, he⟩ | exact ⟨.inr rfl, he⟩ | exact he.elim) hp)

end
end Go.Pv
