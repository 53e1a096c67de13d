/- The P level is sound: regions whose order is drawn, whole. -/
import Derived.Test.YtjmjiegplnfiiaaPvP1
namespace Go.Pv
open Go Go.RowKit
section
variable {P : Program}

structure It where
 i : Nat
 o : Oper
 c : Bool
 e : Eff
 ft : Foot

inductive GRun (P : Program) (ops : Array Oper) : List It → GS → GS → Prop where
 | nil (σ : GS) : GRun P ops [] σ σ
 | cons {x : It} {l : List It} {σ σ' : GS} (h : GAt P ops x.i x.o x.c x.e σ x.ft) (hr : GRun P ops l (stepG σ x.o x.c x.e) σ') : GRun P ops (x :: l) σ σ'

theorem GRun.bubble {ops : Array Oper} : ∀ {l1 : List It} {x : It} {l2 : List It} {σ σ' : GS}, GRun P ops (l1 ++ x :: l2) σ σ' → (∀ y ∈ l1, Free ops y.o x.o y.ft x.ft) → GRun P ops (x :: (l1 ++ l2)) σ σ'
 | [], _, _, _, _, h, _ => h
 | y :: l1, x, l2, σ, σ', h, hf => by
   cases h with
   | cons h hr =>
     cases GRun.bubble hr fun z hz => hf z (by simp [hz]) with
     | cons h2 hr2 =>
       obtain ⟨h3, h4, h5⟩ := h.swap h2 (hf y (by simp))
       rw [h5] at hr2
       exact .cons h3 (.cons h4 hr2)

/-- What is at the end of a segment of a region whose order is drawn: the region's end, or a call that all others wait for. -/
def SegEnd (P : Program) (ops : Array Oper) (K : PS → Prop) (m : Nat) (σ : GS) : Prop :=
 (m = ops.size ∧ K (fin ops.toList σ.s)) ∨
 ∃ (o : Oper) (f : FuncId) (args : List PV), ops[m]? = some o ∧ gob ops σ o.guard ∧ callOf σ.s.r o.op = some (f, args) ∧ gval ops σ o.guard = true ∧ valid σ o.op ∧ barrierB ops m = true ∧
   HCallsR P f args σ.s.h σ.s.cnt fun v h' cnt' => gOps P ops true K (ops.toList.drop (m + 1)) (m + 1) ⟨⟨putR σ.s.r o.dst v, h', cnt'⟩, setG σ.G o.dst true⟩ []

theorem gOps_run {ops : Array Oper} {K : PS → Prop} : ∀ (l : List Oper) (i : Nat) (σ : GS) (tr : List Foot), i + l.length = ops.size → l = ops.toList.drop i → gOps P ops true K l i σ tr →
   ∃ (L : List It) (σ' : GS) (m : Nat), GRun P ops L σ σ' ∧ L.map (·.i) = List.range' i L.length ∧ i + L.length = m ∧ m ≤ ops.size ∧ (∀ x ∈ L, x.ft.i = x.i) ∧ IndepAll ops (tr ++ L.map (·.ft)) ∧ SegEnd P ops K m σ'
 | [], i, σ, tr, hlen, _, h => ⟨[], σ, i, .nil σ, rfl, rfl, by simp at hlen; omega, by simp, by simpa using h.1 rfl, .inl ⟨by simpa using hlen, h.2⟩⟩
 | o :: l, i, σ, tr, hlen, hl, h => by
   have ho : ops[i]? = some o := by
     have := congrArg (fun l => l[0]?) hl
     simp only [List.getElem?_cons_zero, List.getElem?_drop, Nat.add_zero] at this
     simpa using this.symm
   have hl' : l = ops.toList.drop (i + 1) := by
     have := congrArg List.tail hl
     simpa using this
   have hlen' : i + 1 + l.length = ops.size := by simp at hlen; omega
   unfold gOps at h
   obtain ⟨hgob, h⟩ := h
   split at h
   · rename_i hno
     obtain ⟨h1, h3, h4⟩ := h
     obtain ⟨L, σ', m, h5, h6, hm1, hm2, h7, h8, h9⟩ := gOps_run l (i + 1) _ _ hlen' hl' h4
     refine ⟨⟨i, o, gval ops σ o.guard, effG (gval ops σ o.guard) (eff P (ev σ.s.r) σ.s.h (siteOf o, σ.s.cnt (siteOf o)) o.op), ⟨i, (effG (gval ops σ o.guard) (eff P (ev σ.s.r) σ.s.h (siteOf o, σ.s.cnt (siteOf o)) o.op)).rd, (effG (gval ops σ o.guard) (eff P (ev σ.s.r) σ.s.h (siteOf o, σ.s.cnt (siteOf o)) o.op)).wr.map (·.1)⟩⟩ :: L, σ', m, ?_, ?_, ?_, hm2, ?_, ?_, h9⟩
     · exact .cons ⟨ho, rfl, hgob, rfl, .inl ⟨hno, fun (hc : gval ops σ o.guard = true) => ⟨(h1 hc).1, by show (effG _ _).ob; rw [hc]; exact (h1 hc).2⟩, h3, rfl, rfl, rfl⟩⟩ h5
     · simp [h6, List.range'_succ]
     · simp; omega
     · intro x hx
       rcases List.mem_cons.1 hx with rfl | hx
       · rfl
       · exact h7 x hx
     · simpa using h8
   · rename_i f args hc
     rcases h with ⟨v, h1, h2⟩ | ⟨hgv, hv, hbar, hcall⟩ | ⟨hgv, hv, hdst, e, hne, h2⟩
     · obtain ⟨L, σ', m, h5, h6, hm1, hm2, h7, h8, h9⟩ := gOps_run l (i + 1) _ _ hlen' hl' h2
       refine ⟨⟨i, o, gval ops σ o.guard, .val True v, ⟨i, args.flatMap keysOf, []⟩⟩ :: L, σ', m, ?_, ?_, ?_, hm2, ?_, ?_, h9⟩
       · exact .cons ⟨ho, rfl, hgob, rfl, .inr (.inl ⟨f, args, v, hc, h1, rfl, rfl, rfl⟩)⟩ h5
       · simp [h6, List.range'_succ]
       · simp; omega
       · intro x hx
         rcases List.mem_cons.1 hx with rfl | hx
         · rfl
         · exact h7 x hx
       · simpa using h8
     · obtain ⟨hb1, hb2⟩ := hbar rfl
       refine ⟨[], σ, i, .nil σ, rfl, rfl, by simp at hlen; omega, by simp, by simpa using hb2, .inr ⟨o, f, args, ho, hgob, hc, hgv, hv, hb1, ?_⟩⟩
       rw [← hl']; exact hcall
     · obtain ⟨L, σ', m, h5, h6, hm1, hm2, h7, h8, h9⟩ := gOps_run l (i + 1) _ _ hlen' hl' h2
       refine ⟨⟨i, o, gval ops σ o.guard, e, ⟨i, e.rd, e.wr.map (·.1)⟩⟩ :: L, σ', m, ?_, ?_, ?_, hm2, ?_, ?_, h9⟩
       · exact .cons ⟨ho, rfl, hgob, rfl, .inr (.inr ⟨f, args, hc, hgv, hv, hdst, hne, rfl, rfl⟩)⟩ h5
       · simp [h6, List.range'_succ]
       · simp; omega
       · intro x hx
         rcases List.mem_cons.1 hx with rfl | hx
         · rfl
         · exact h7 x hx
       · simpa using h8

theorem depsBelow_spec {ops : Array Oper} (h : depsBelow ops = true) {i : Nat} {o : Oper} (ho : ops[i]? = some o) {e : Edge} (he : e ∈ o.after) (hb : Region.binds .any e = true) : e.on < i := by
 unfold depsBelow at h
 have h1 := (List.all_eq_true.1 h) (o, i) (by rw [List.mem_zipIdx_iff_getElem?]; simpa using ho)
 have h2 := (Array.all_eq_true_iff_forall_mem.1 h1) e he
 simpa [hb] using h2

theorem waits_listed {ops : Array Oper} {D : Nat → Prop} (hd : ∀ (i : Nat) (o : Oper), ops[i]? = some o → D i → ∀ e ∈ o.after, Region.binds .any e = true → D e.on) : ∀ (n i p : Nat), (∀ o : Oper, ops[i]? = some o → ∀ e ∈ o.after, Region.binds .any e = true → D e.on) → waitsFor ops n i p = true → D p
 | 0, _, _, _, h => by simp [waitsFor] at h
 | n + 1, i, p, hi, h => by
   unfold waitsFor at h
   cases ho : ops[i]? with
   | none => rw [ho] at h; simp at h
   | some o =>
     rw [ho] at h
     simp only [Option.map_some, Option.getD_some] at h
     obtain ⟨e, he, h1⟩ := Array.any_eq_true'.1 h
     simp only [Bool.and_eq_true, Bool.or_eq_true, beq_iff_eq] at h1
     obtain ⟨hb, h1⟩ := h1
     have hD := hi o ho e he hb
     rcases h1 with h1 | h1
     · rw [← h1]; exact hD
     · exact waits_listed hd n e.on p (fun o' ho' e' he' hb' => hd e.on o' ho' hD e' he' hb') h1

theorem indep_free {ops : Array Oper} {x y : It} (hx : ops[x.i]? = some x.o) (hy : ops[y.i]? = some y.o) (hfx : x.ft.i = x.i) (hfy : y.ft.i = y.i) (h : Indep ops x.ft y.ft) (hn : ¬ waitsFor ops ops.size y.i x.i = true) : Free ops x.o y.o x.ft y.ft := by
 unfold Indep at h
 rw [hfx, hfy] at h
 rcases h with h | ⟨h1, h2, h3, h4⟩
 · exact absurd h hn
 · rw [hx, hy] at h1
   simp only [Option.bind_eq_bind, Option.bind_some, Option.pure_def, Option.getD_some, Bool.and_eq_true, Bool.or_eq_true, bne_iff_ne, Option.isNone_iff_eq_none] at h1
   refine ⟨h1.1, h1.2, h2, ?_, h4⟩
   rcases h3 with h3 | h3
   · rw [softAt, hx, hy] at h3; exact .inl h3
   · exact .inr h3

/-- All pairs of a list, in its order. -/
def Pairs (R : It → It → Prop) : List It → Prop
 | [] => True
 | x :: l => (∀ y ∈ l, R x y) ∧ Pairs R l

theorem Pairs.of_indep {ops : Array Oper} : ∀ {L : List It}, IndepAll ops (L.map (·.ft)) → Pairs (fun x y => Indep ops x.ft y.ft) L
 | [], _ => trivial
 | _x :: _L, h => ⟨fun y hy => h.1 y.ft (List.mem_map.2 ⟨y, hy, rfl⟩), Pairs.of_indep h.2⟩

theorem Pairs.split {R : It → It → Prop} : ∀ {l1 : List It} {x : It} {l2 : List It}, Pairs R (l1 ++ x :: l2) → (∀ y ∈ l1, R y x) ∧ Pairs R (l1 ++ l2)
 | [], x, l2, h => ⟨by simp, h.2⟩
 | y :: l1, x, l2, h => by
   obtain ⟨h1, h2⟩ := Pairs.split h.2
   exact ⟨fun z hz => by
     rcases List.mem_cons.1 hz with rfl | hz
     · exact h.1 x (by simp)
     · exact h1 z hz, fun z hz => h.1 z (by
     rcases List.mem_append.1 hz with h | h
     · exact List.mem_append_left _ h
     · exact List.mem_append_right _ (List.mem_cons_of_mem _ h)), h2⟩

theorem GRun.at {ops : Array Oper} : ∀ {L : List It} {σ σ' : GS}, GRun P ops L σ σ' → ∀ x ∈ L, ops[x.i]? = some x.o
 | _, _, _, .nil _, x, hx => by simp at hx
 | _, _, _, .cons h hr, x, hx => by
   rcases List.mem_cons.1 hx with rfl | hx
   · exact h.1
   · exact hr.at x hx

theorem range'_sorted : ∀ (n i : Nat), (List.range' i n).Pairwise (· < ·)
 | 0, _ => by simp
 | n + 1, i => by
   rw [List.range'_succ, List.pairwise_cons]
   refine ⟨fun x hx => ?_, range'_sorted n (i + 1)⟩
   rw [List.mem_range'_1] at hx
   omega

theorem any_sound {E0 : Env} {n : Nat} {ops : Array Oper} {Q : Exit → Act → World → Prop} {K : PS → Prop} (hsc : ∀ o ∈ ops, inFrameOp n o = true) (hdb : depsBelow ops = true) (hQ : ∀ s' a' w', K s' → St E0 n s' a' w' → Q .normal a' w') :
   ∀ (fuel : Nat) (L : List It) (m : Nat) (σ' : GS) (listed : Array Bool) (σ : GS) (a : Act) (w : World), L.length + (ops.size - m) = fuel → m ≤ ops.size → SegEnd P ops K m σ' → (∀ x ∈ L, x.i < m) → GRun P ops L σ σ' → (L.map (·.i)).Pairwise (· < ·) → (∀ x ∈ L, x.ft.i = x.i) → Pairs (fun x y => Indep ops x.ft y.ft) L →
     listed.size = ops.size → (∀ i, i < ops.size → (listed[i]? = some false ↔ (i ∈ L.map (·.i) ∨ m ≤ i))) → (∀ (i : Nat) (o : Oper), ops[i]? = some o → listed[i]? = some true → ∀ e ∈ o.after, Region.binds .any e = true → listed[e.on]? = some true) →
     Gok ops σ → GSt E0 n σ a w → wpAny P .any ops Q fuel listed a w
 | 0, L, m, σ', listed, σ, a, w, hlen, hmle, hend, hLm, hrun, hsort, hft, hpairs, hsz, hlist, hdown, hG, st => by
   have hL : L = [] := List.eq_nil_of_length_eq_zero (by omega)
   have hms : m = ops.size := by omega
   subst hL
   cases hrun
   have hK : K (fin ops.toList σ'.s) := by
     rcases hend with ⟨_, h⟩ | ⟨o, _, _, h, _⟩
     · exact h
     · rw [hms, Array.getElem?_eq_none (Nat.le_refl _)] at h; cases h
   refine ⟨?_, hQ _ a w hK (fin_sound st hG)⟩
   unfold Region.ready
   rw [List.filter_eq_nil_iff]
   intro i hi
   have hi' : i < ops.size := by simpa using hi
   have h1 : listed[i]? = some true := by
     have h2 : listed[i]? ≠ some false := fun h => by have := (hlist i hi').1 h; simp at this; omega
     have h3 : i < listed.size := by omega
     rw [Array.getElem?_eq_getElem h3] at h2 ⊢
     cases hq : listed[i] with
     | true => rfl
     | false => rw [hq] at h2; exact absurd rfl h2
   simp [h1]
 | fuel + 1, L, m, σ', listed, σ, a, w, hlen, hmle, hend, hLm, hrun, hsort, hft, hpairs, hsz, hlist, hdown, hG, st => by
   have hlisted : ∀ i, i < ops.size → i ∉ L.map (·.i) → i < m → listed[i]? = some true := fun i hi hn hm => by
     have h2 : listed[i]? ≠ some false := fun h => by
       rcases (hlist i hi).1 h with h | h
       · exact hn h
       · omega
     have h3 : i < listed.size := by omega
     rw [Array.getElem?_eq_getElem h3] at h2 ⊢
     cases hq : listed[i] with
     | true => rfl
     | false => rw [hq] at h2; exact absurd rfl h2
   constructor
   · -- the first one that is left may always come up
     intro hempty
     cases L with
     | nil =>
       exfalso
       have hmlt : m < ops.size := by simp at hlen; omega
       have hmo : ops[m]? = some ops[m] := Array.getElem?_eq_getElem hmlt
       have hmem : m ∈ Region.ready .any ops listed := by
         unfold Region.ready
         rw [List.mem_filter]
         refine ⟨by simpa using hmlt, ?_⟩
         have h1 := (hlist m hmlt).2 (.inr (Nat.le_refl _))
         simp only [Array.getD_eq_getD_getElem?, h1, Option.getD_some, Bool.not_false, Bool.true_and, hmo, Option.map_some]
         refine Array.all_eq_true_iff_forall_mem.2 fun e he => ?_
         cases hb : Region.binds .any e with
         | false => rfl
         | true =>
           have hlt := depsBelow_spec hdb hmo he hb
           simp [hlisted e.on (by omega) (by simp) hlt]
       rw [hempty] at hmem
       simp at hmem
     | cons x L =>
       exfalso
       have hxo := hrun.at x (by simp)
       have hxi : x.i < ops.size := (Array.getElem?_eq_some_iff.1 hxo).1
       have hmem : x.i ∈ Region.ready .any ops listed := by
         unfold Region.ready
         rw [List.mem_filter]
         refine ⟨by simpa using hxi, ?_⟩
         have h1 := (hlist x.i hxi).2 (.inl (by simp))
         simp only [Array.getD_eq_getD_getElem?, h1, Option.getD_some, Bool.not_false, Bool.true_and, hxo, Option.map_some]
         refine Array.all_eq_true_iff_forall_mem.2 fun e he => ?_
         cases hb : Region.binds .any e with
         | false => rfl
         | true =>
           have hlt := depsBelow_spec hdb hxo he hb
           have : e.on ∉ (x :: L).map (·.i) := fun hm => by
             simp only [List.map_cons, List.mem_cons] at hm
             rcases hm with hm | hm
             · omega
             · have := (List.pairwise_cons.1 (by simpa using hsort)).1 e.on hm
               omega
           simp [hlisted e.on (by omega) this (by have := hLm x (by simp); omega)]
       rw [hempty] at hmem
       simp at hmem
   · intro i hi
     unfold Region.ready at hi
     rw [List.mem_filter] at hi
     obtain ⟨hi1, hi2⟩ := hi
     have hisz : i < ops.size := by simpa using hi1
     have hils : i < listed.size := by omega
     simp only [Bool.and_eq_true, Bool.not_eq_true', Array.getD_eq_getD_getElem?] at hi2
     obtain ⟨hi3, hi4⟩ := hi2
     have hun : listed[i]? = some false := by
       rw [Array.getElem?_eq_getElem hils] at hi3 ⊢
       simpa using hi3
     have hdeps : ∀ o : Oper, ops[i]? = some o → ∀ e ∈ o.after, Region.binds .any e = true → listed[e.on]? = some true := fun o ho e he hb => by
       rw [ho] at hi4
       simp only [Option.map_some, Option.getD_some] at hi4
       have := (Array.all_eq_true_iff_forall_mem.1 hi4) e he
       simp only [hb, Bool.not_true, Bool.false_or] at this
       cases hq : listed[e.on]? with
       | none => rw [hq] at this; simp at this
       | some b => rw [hq] at this; simp at this; rw [this]
     have hwl : ∀ p, waitsFor ops ops.size i p = true → listed[p]? = some true := fun p hw => waits_listed (D := fun p => listed[p]? = some true) hdown ops.size i p hdeps hw
     rcases (hlist i hisz).1 hun with hiL | him
     case inr =>
       -- the call that all others wait for
       rcases hend with ⟨hms, _⟩ | ⟨o, f, args, ho, hgob, hc, hgv, hv, hbar, hcall⟩
       · omega
       · simp only [barrierB, Bool.and_eq_true] at hbar
         have hmi : i = m := by
           rcases Nat.lt_or_ge m i with hlt | hge
           · have h1 := List.all_eq_true.1 hbar.2 i (by simpa using hisz)
             simp only [Bool.or_eq_true, Nat.ble_eq] at h1
             have h2 := hwl m (h1.resolve_left (by omega))
             have h3 := (hlist m (by omega)).2 (.inr (Nat.le_refl _))
             rw [h2] at h3; cases h3
           · omega
         subst hmi
         have hLn : L = [] := by
           cases L with
           | nil => rfl
           | cons x L =>
             have hxm := hLm x (by simp)
             have h2 := hwl x.i (List.all_eq_true.1 hbar.1 x.i (by simpa using hxm))
             have h3 := (hlist x.i (by omega)).2 (.inl (by simp))
             rw [h2] at h3; cases h3
         subst hLn
         cases hrun
         refine ghcall_sound st ho hsc hgob hc hgv hv hcall fun v h' cnt' a' w' hR st' => ?_
         obtain ⟨L', σ2, m', h5, h6, hm1, hm2, h7, h8, h9⟩ := gOps_run (P := P) _ _ _ _ (by simp; omega) rfl hR
         refine any_sound hsc hdb hQ fuel L' m' σ2 (listed.setIfInBounds i true) _ a' w' (by simp at hlen; omega) hm2 h9 (fun x hx => ?_) h5 (by rw [h6]; exact range'_sorted _ _) h7 (Pairs.of_indep (by simpa using h8)) (by simp [hsz]) (fun k hk => ?_) (fun k o ho hk e he hb => ?_) (by
           have := hG.step (e := .val True v) (Array.mem_of_getElem? ho)
           rw [hgv] at this
           exact this) st'
         · have : x.i ∈ L'.map (·.i) := List.mem_map.2 ⟨x, hx, rfl⟩
           rw [h6, List.mem_range'_1] at this
           omega
         · rw [Array.getElem?_setIfInBounds, h6, List.mem_range'_1]
           by_cases hik : i = k
           · subst hik
             rw [if_pos rfl, if_pos hils]
             simp only [Option.some.injEq, Bool.true_eq_false, false_iff]
             omega
           · rw [if_neg hik, hlist k hk]
             simp only [List.map_nil, List.not_mem_nil, false_or]
             omega
         · have key : listed[e.on]? = some true → (listed.setIfInBounds i true)[e.on]? = some true := fun h => by
             rw [Array.getElem?_setIfInBounds]
             split
             · first | rfl | rw [if_pos hils]
             · exact h
           rw [Array.getElem?_setIfInBounds] at hk
           by_cases hik : i = k
           · subst hik; exact key (hdeps o ho e he hb)
           · rw [if_neg hik] at hk; exact key (hdown k o ho hk e he hb)
     obtain ⟨x, hxL, hxi⟩ := List.mem_map.1 hiL
     obtain ⟨L1, L2, rfl⟩ := List.append_of_mem hxL
     have hxo := hrun.at x hxL
     obtain ⟨hp1, hp2⟩ := Pairs.split hpairs
     have hnd : (L1 ++ x :: L2).map (·.i) = L1.map (·.i) ++ x.i :: L2.map (·.i) := by simp
     rw [hnd] at hsort
     have hsort' := List.pairwise_append.1 hsort
     have hfree : ∀ y ∈ L1, Free ops y.o x.o y.ft x.ft := fun y hy => by
       refine indep_free (hrun.at y (by simp [hy])) hxo (hft y (by simp [hy])) (hft x hxL) (hp1 y hy) fun hw => ?_
       rw [hxi] at hw
       have hyl : listed[y.i]? = some true := waits_listed (D := fun p => listed[p]? = some true) hdown ops.size i y.i hdeps hw
       have hyi : y.i < ops.size := (Array.getElem?_eq_some_iff.1 (hrun.at y (by simp [hy]))).1
       have := (hlist y.i hyi).2 (.inl (List.mem_map.2 ⟨y, by simp [hy], rfl⟩))
       rw [hyl] at this; cases this
     cases GRun.bubble hrun hfree with
     | cons hx hrest =>
       have hnot : x.i ∉ (L1 ++ L2).map (·.i) := fun hm => by
         simp only [List.map_append, List.mem_append] at hm
         rcases hm with hm | hm
         · have := hsort'.2.2 x.i hm x.i (by simp); omega
         · have := (List.pairwise_cons.1 hsort'.2.1).1 x.i hm; omega
       have ih := fun a' w' (st' : GSt E0 n (stepG σ x.o x.c x.e) a' w') (hG' : Gok ops (stepG σ x.o x.c x.e)) => any_sound hsc hdb hQ fuel (L1 ++ L2) m σ' (listed.setIfInBounds i true) (stepG σ x.o x.c x.e) a' w' (by simp at hlen ⊢; omega) hmle hend (fun y hy => hLm y (by
           rcases List.mem_append.1 hy with h | h
           · simp [h]
           · simp [h])) hrest (by
           rw [List.map_append]
           exact List.pairwise_append.2 ⟨hsort'.1, (List.pairwise_cons.1 hsort'.2.1).2, fun p hp q hq => hsort'.2.2 p hp q (List.mem_cons_of_mem _ hq)⟩) (fun y hy => hft y (by
           rcases List.mem_append.1 hy with h | h
           · simp [h]
           · simp [h])) hp2 (by simp [hsz]) (fun k hk => by
           rw [Array.getElem?_setIfInBounds]
           by_cases hik : i = k
           · subst hik
             rw [if_pos rfl, if_pos hils, ← hxi]
             simp only [Option.some.injEq, Bool.true_eq_false, false_iff]
             rintro (h | h)
             · exact hnot h
             · have := hLm x hxL; omega
           · rw [if_neg hik, hlist k hk]
             simp only [List.map_append, List.map_cons, List.mem_append, List.mem_cons]
             constructor
             · rintro ((h | h | h) | h)
               · exact .inl (.inl h)
               · exact absurd (hxi.symm.trans h.symm) hik
               · exact .inl (.inr h)
               · exact .inr h
             · rintro ((h | h) | h)
               · exact .inl (.inl h)
               · exact .inl (.inr (.inr h))
               · exact .inr h) (fun k o ho hk e he hb => by
           have key : listed[e.on]? = some true → (listed.setIfInBounds i true)[e.on]? = some true := fun h => by
             rw [Array.getElem?_setIfInBounds]
             split
             · first | rfl | rw [if_pos hils]
             · exact h
           rw [Array.getElem?_setIfInBounds] at hk
           by_cases hik : i = k
           · subst hik; exact key (hdeps o ho e he hb)
           · rw [if_neg hik] at hk; exact key (hdown k o ho hk e he hb)) hG' st'
       obtain ⟨ho, hfi, hgob, hcv, hrest2⟩ := hx
       rw [hxi] at ho
       have hmem : x.o ∈ ops := Array.mem_of_getElem? ho
       have hG' : ∀ e, Gok ops (stepG σ x.o (gval ops σ x.o.guard) e) := fun e => hG.step hmem
       rcases hrest2 with ⟨h1, h2, h4, h5, h6, h7⟩ | ⟨f, args, v, h1, h2, h3, h4, h5⟩ | ⟨f, args, h1, h2, h3, h4, ⟨sz, rows, as', h5, h6, h7⟩, h8, h9⟩
       · rw [hcv] at h5
         rw [hcv, h5] at ih
         rw [hcv, h5] at h2
         exact gop_sound st ho hsc hgob h1 (fun hg => ⟨(h2 hg).1, by have h8 := (h2 hg).2; rw [hg] at h8; exact h8⟩) fun a' w' st' => ih a' w' st' (hG' _)
       · rw [hcv, h3] at ih
         rw [hcv] at h2
         exact gcall_sound st ho hsc hgob h1 h2 fun a' w' st' => ih a' w' st' (hG' _)
       · have hgv : gval ops σ x.o.guard = true := by rw [← hcv]; exact h2
         rw [hcv, h7] at ih
         refine ghcall_sound st ho hsc hgob h1 hgv h3 (HCallsR.of_new (siteOf x.o) h6 h5) fun v h' cnt' a' w' hR st' => ?_
         obtain ⟨rfl, rfl, rfl⟩ := hR
         refine ih a' w' ?_ (hG' _)
         rw [hgv]; exact st'

theorem xany_sound {E0 : Env} {n : Nat} {ops : Array Oper} {Q : Exit → Act → World → Prop} {K : PS → Prop} (hsc : ∀ o ∈ ops, inFrameOp n o = true) (hdb : depsBelow ops = true) (hQ : ∀ s' a' w', K s' → St E0 n s' a' w' → Q .normal a' w') :
   ∀ (fuel : Nat) (L : List XIt) (σ' : GS) (listed : Array Bool) (σ : GS) (a : Act) (w : World), L.length = fuel → K (fin ops.toList σ'.s) → XRun P ops L σ σ' → (L.map (·.i)).Pairwise (· < ·) → L.Pairwise (XIndep ops) →
     listed.size = ops.size → (∀ i, i < ops.size → (listed[i]? = some false ↔ i ∈ L.map (·.i))) → (∀ (i : Nat) (o : Oper), ops[i]? = some o → listed[i]? = some true → ∀ e ∈ o.after, Region.binds .any e = true → listed[e.on]? = some true) →
     Gok ops σ → GSt E0 n σ a w → wpAny P .any ops Q fuel listed a w
 | 0, L, σ', listed, σ, a, w, hlen, hK, hrun, hsort, hpairs, hsz, hlist, hdown, hG, st => by
   have hL : L = [] := List.eq_nil_of_length_eq_zero hlen
   subst hL
   cases hrun
   refine ⟨?_, hQ _ a w hK (fin_sound st hG)⟩
   unfold Region.ready
   rw [List.filter_eq_nil_iff]
   intro i hi
   have hi' : i < ops.size := by simpa using hi
   have h1 : listed[i]? = some true := by
     have h2 : listed[i]? ≠ some false := fun h => by have := (hlist i hi').1 h; simp at this
     have h3 : i < listed.size := by omega
     rw [Array.getElem?_eq_getElem h3] at h2 ⊢
     cases hq : listed[i] with
     | true => rfl
     | false => rw [hq] at h2; exact absurd rfl h2
   simp [h1]
 | fuel + 1, L, σ', listed, σ, a, w, hlen, hK, hrun, hsort, hpairs, hsz, hlist, hdown, hG, st => by
   have hlisted : ∀ i, i < ops.size → i ∉ L.map (·.i) → listed[i]? = some true := fun i hi hn => by
     have h2 : listed[i]? ≠ some false := fun h => hn ((hlist i hi).1 h)
     have h3 : i < listed.size := by omega
     rw [Array.getElem?_eq_getElem h3] at h2 ⊢
     cases hq : listed[i] with
     | true => rfl
     | false => rw [hq] at h2; exact absurd rfl h2
   constructor
   · intro hempty
     cases L with
     | nil => simp at hlen
     | cons x L =>
       exfalso
       have hxo := hrun.at x (by simp)
       have hxi : x.i < ops.size := (Array.getElem?_eq_some_iff.1 hxo).1
       have hmem : x.i ∈ Region.ready .any ops listed := by
         unfold Region.ready
         rw [List.mem_filter]
         refine ⟨by simpa using hxi, ?_⟩
         have h1 := (hlist x.i hxi).2 (by simp)
         simp only [Array.getD_eq_getD_getElem?, h1, Option.getD_some, Bool.not_false, Bool.true_and, hxo, Option.map_some]
         refine Array.all_eq_true_iff_forall_mem.2 fun e he => ?_
         cases hb : Region.binds .any e with
         | false => rfl
         | true =>
           have hlt := depsBelow_spec hdb hxo he hb
           have : e.on ∉ (x :: L).map (·.i) := fun hm => by
             simp only [List.map_cons, List.mem_cons] at hm
             rcases hm with hm | hm
             · omega
             · have := (List.pairwise_cons.1 (by simpa using hsort)).1 e.on hm
               omega
           simp [hlisted e.on (by omega) this]
       rw [hempty] at hmem
       simp at hmem
   · intro i hi
     unfold Region.ready at hi
     rw [List.mem_filter] at hi
     obtain ⟨hi1, hi2⟩ := hi
     have hisz : i < ops.size := by simpa using hi1
     have hils : i < listed.size := by omega
     simp only [Bool.and_eq_true, Bool.not_eq_true', Array.getD_eq_getD_getElem?] at hi2
     obtain ⟨hi3, hi4⟩ := hi2
     have hun : listed[i]? = some false := by
       rw [Array.getElem?_eq_getElem hils] at hi3 ⊢
       simpa using hi3
     have hdeps : ∀ o : Oper, ops[i]? = some o → ∀ e ∈ o.after, Region.binds .any e = true → listed[e.on]? = some true := fun o ho e he hb => by
       rw [ho] at hi4
       simp only [Option.map_some, Option.getD_some] at hi4
       have := (Array.all_eq_true_iff_forall_mem.1 hi4) e he
       simp only [hb, Bool.not_true, Bool.false_or] at this
       cases hq : listed[e.on]? with
       | none => rw [hq] at this; simp at this
       | some b => rw [hq] at this; simp at this; rw [this]
     have hiL := (hlist i hisz).1 hun
     obtain ⟨x, hxL, hxi⟩ := List.mem_map.1 hiL
     obtain ⟨L1, L2, rfl⟩ := List.append_of_mem hxL
     have hxo := hrun.at x hxL
     have hpp := List.pairwise_append.1 hpairs
     have hnd : (L1 ++ x :: L2).map (·.i) = L1.map (·.i) ++ x.i :: L2.map (·.i) := by simp
     rw [hnd] at hsort
     have hsort' := List.pairwise_append.1 hsort
     have hfree : ∀ y ∈ L1, XFree ops y x := fun y hy => by
       rcases hpp.2.2 y hy x (by simp) with hw | hf
       · exfalso
         rw [hxi] at hw
         have hyl : listed[y.i]? = some true := waits_listed (D := fun p => listed[p]? = some true) hdown ops.size i y.i hdeps hw
         have hyi : y.i < ops.size := (Array.getElem?_eq_some_iff.1 (hrun.at y (by simp [hy]))).1
         have := (hlist y.i hyi).2 (List.mem_map.2 ⟨y, by simp [hy], rfl⟩)
         rw [hyl] at this; cases this
       · exact hf
     cases XRun.bubble hrun hfree with
     | cons hx hrest =>
       have hnot : x.i ∉ (L1 ++ L2).map (·.i) := fun hm => by
         simp only [List.map_append, List.mem_append] at hm
         rcases hm with hm | hm
         · have := hsort'.2.2 x.i hm x.i (by simp); omega
         · have := (List.pairwise_cons.1 hsort'.2.1).1 x.i hm; omega
       have ih := fun a' w' (st' : GSt E0 n (stepX σ x) a' w') (hG' : Gok ops (stepX σ x)) => xany_sound hsc hdb hQ fuel (L1 ++ L2) σ' (listed.setIfInBounds i true) (stepX σ x) a' w' (by simp at hlen ⊢; omega) hK hrest (by
           rw [List.map_append]
           exact List.pairwise_append.2 ⟨hsort'.1, (List.pairwise_cons.1 hsort'.2.1).2, fun p hp q hq => hsort'.2.2 p hp q (List.mem_cons_of_mem _ hq)⟩)
         (List.pairwise_append.2 ⟨hpp.1, (List.pairwise_cons.1 hpp.2.1).2, fun p hp q hq => hpp.2.2 p hp q (List.mem_cons_of_mem _ hq)⟩) (by simp [hsz]) (fun k hk => by
           rw [Array.getElem?_setIfInBounds]
           by_cases hik : i = k
           · subst hik
             rw [if_pos rfl, if_pos hils, ← hxi]
             simp only [Option.some.injEq, Bool.true_eq_false, false_iff]
             exact hnot
           · rw [if_neg hik, hlist k hk]
             simp only [List.map_append, List.map_cons, List.mem_append, List.mem_cons]
             constructor
             · rintro (h | h | h)
               · exact .inl h
               · exact absurd (hxi.symm.trans h.symm) hik
               · exact .inr h
             · rintro (h | h)
               · exact .inl h
               · exact .inr (.inr h)) (fun k o ho hk e he hb => by
           have key : listed[e.on]? = some true → (listed.setIfInBounds i true)[e.on]? = some true := fun h => by
             rw [Array.getElem?_setIfInBounds]
             split
             · first | rfl | rw [if_pos hils]
             · exact h
           rw [Array.getElem?_setIfInBounds] at hk
           by_cases hik : i = k
           · subst hik; exact key (hdeps o ho e he hb)
           · rw [if_neg hik] at hk; exact key (hdown k o ho hk e he hb)) hG' st'
       obtain ⟨xi, xo, xc, xe, xft, xhc, xef⟩ := x
       dsimp only at *
       have hmem : xo ∈ ops := Array.mem_of_getElem? hxo
       cases xhc with
       | none =>
         obtain ⟨hx, _⟩ := hx
         dsimp only at hx
         obtain ⟨ho, hfi, hgob, hcv, hrest2⟩ := hx
         rw [hxi] at ho
         have hG' : ∀ e, Gok ops (stepG σ xo (gval ops σ xo.guard) e) := fun e => hG.step hmem
         have ih' : ∀ a' w', GSt E0 n (stepG σ xo xc xe) a' w' → Gok ops (stepG σ xo xc xe) → wpAny P .any ops Q fuel (listed.setIfInBounds i true) a' w' := ih
         rcases hrest2 with ⟨h1, h2, h4, h5, h6, h7⟩ | ⟨f, args, v, h1, h2, h3, h4, h5⟩ | ⟨f, args, h1, h2, h3, h4, ⟨sz, rows, as', h5, h6, h7⟩, h8, h9⟩
         · rw [hcv] at h5
           rw [hcv, h5] at ih'
           rw [hcv, h5] at h2
           exact gop_sound st ho hsc hgob h1 (fun hg => ⟨(h2 hg).1, by have h8 := (h2 hg).2; rw [hg] at h8; exact h8⟩) fun a' w' st' => ih' a' w' st' (hG' _)
         · rw [hcv, h3] at ih'
           rw [hcv] at h2
           exact gcall_sound st ho hsc hgob h1 h2 fun a' w' st' => ih' a' w' st' (hG' _)
         · have hgv : gval ops σ xo.guard = true := by rw [← hcv]; exact h2
           rw [hcv, h7] at ih'
           refine ghcall_sound st ho hsc hgob h1 hgv h3 (HCallsR.of_new (siteOf xo) h6 h5) fun v h' cnt' a' w' hR st' => ?_
           obtain ⟨rfl, rfl, rfl⟩ := hR
           refine ih' a' w' ?_ (hG' _)
           rw [hgv]; exact st'
       | some q =>
         obtain ⟨hb, ha, c0⟩ := q
         obtain ⟨ho, hgob, hgv, hv, hh, f, args, hca, hcall⟩ := hx
         dsimp only at ho hgob hgv hv hca hcall
         rw [hxi] at ho
         refine ghcall_sound st ho hsc hgob hca hgv hv hcall fun v h' cnt' a' w' hR st' => ?_
         obtain ⟨rfl, rfl, rfl⟩ := hR
         refine ih a' w' st' ?_
         have := hG.step (e := .val True xe.v) hmem
         rw [hgv] at this
         exact this

theorem St.drew {E0 : Env} {n : Nat} {s : PS} {a : Act} {w : World} (h : St E0 n s a w) : St E0 n s a { w with drawn := w.drawn + 1 } := by
 obtain ⟨E, rfl, S, hle, hb, hk⟩ := h
 have hle' : EnvLe E { E with w := { E.w with drawn := E.w.drawn + 1 } } := ⟨fun _ _ _ => rfl, Nat.le_refl _, fun _ h => .inl h, rfl, rfl, rfl, fun _ => Nat.le_refl _, fun _ _ h => h, fun _ _ rs h => .inr ⟨rs, h, rfl, rfl⟩, fun _ o h _ => .inr ⟨o, h, rfl, rfl⟩⟩
 refine ⟨{ E with w := { E.w with drawn := E.w.drawn + 1 } }, rfl, ⟨⟨S.good.inj, S.good.known, S.good.base, fun k o h => ObjOK.le hle' rfl rfl rfl (S.good.obj k o h), S.good.out, S.good.size, gw_keep S.good.glob (Nat.le_refl _) fun _ _ => rfl⟩, S.h, S.cnt, S.tt, S.size, fun i v hv => (S.regs i v hv).le hle', S.defers.le hle'⟩, hle.trans hle' hk, hb.trans ⟨rfl, rfl, rfl, Nat.le_refl _, fun _ _ => rfl⟩, hk⟩

/-- A region's run, in the three ways in which it is shown. -/
def RegW (P : Program) (ops : Array Oper) (draw : Bool) (Q : Exit → Act → World → Prop) (a : Act) (w : World) : Prop :=
 (draw = false ∧ (wpList P ops Q ops.toList a w ∨ wpOps P ops Q (List.range ops.size) a w)) ∨ (draw = true ∧ wpAny P .any ops Q ops.size (Array.replicate ops.size false) a { w with drawn := w.drawn + 1 })

theorem region_shape {E0 : Env} {n : Nat} {ops : Array Oper} {draw : Bool} {K : PS → Prop} {Q : Exit → Act → World → Prop} {s : PS} {a : Act} {w : World} (hsc : ∀ o ∈ ops, inFrameOp n o = true) (hdb : draw = true → depsBelow ops = true)
   (h : pRegion P ops draw K s) (st : St E0 n s a w) (hQ : ∀ s' a' w', K s' → St E0 n s' a' w' → Q .normal a' w') : RegW P ops draw Q a w := by
 unfold pRegion at h
 have hkn : Known s := fun k o hk => by
   obtain ⟨E, _, S, _⟩ := st
   have := S.good.known k o (by rw [S.h]; exact hk)
   unfold Env.known at this
   rw [S.cnt] at this
   exact this
 replace h := h hkn
 split at h
 · rename_i hc
   simp only [Bool.and_eq_true, Bool.not_eq_true'] at hc
   obtain ⟨hng, rfl⟩ := hc
   have hng' : ∀ o ∈ ops.toList, o.guard = none := fun o ho => by
     have := (List.all_eq_true.1 hng) o ho; simpa using this
   have := pOps_sound (ops := ops) (Q := Q) ops.toList s a w hng' (fun o ho => hsc o (by simpa using ho)) h st (fun s' a' w' h1 h2 _ => hQ s' a' w' h1 h2)
   exact .inl ⟨rfl, .inl this⟩
 · cases draw with
   | false =>
     have h := h.resolve_right (by simp)
     have := gOps_sound (P := P) (Q := Q) hsc ops.toList 0 ⟨s, fun _ => true⟩ [] a w (by simp) h (fun i hi => by simp at hi) (GSt.of_st st) hQ
     exact .inl ⟨rfl, .inr (by simpa [List.range_eq_range'] using this)⟩
   | true =>
     rcases h with h | ⟨_, L, σ', h1, h2, h3, h4⟩
     case inr =>
       have hln : L.length = ops.size := by have := congrArg List.length h2; simpa using this
       refine .inr ⟨rfl, xany_sound hsc (hdb rfl) hQ ops.size L σ' (Array.replicate ops.size false) ⟨s, fun _ => true⟩ a _ hln h4 h1 (by rw [h2]; exact List.pairwise_lt_range) h3 (by simp) (fun i hi => ?_) (fun i o ho hlst => ?_) (fun i hi => by simp at hi) (GSt.of_st st.drew)⟩
       · rw [h2]; simp [hi]
       · exact absurd hlst (by rw [Array.getElem?_replicate]; split <;> simp)
     obtain ⟨L, σ', m, h1, h2, hm1, hm2, h3, h4, h5⟩ := gOps_run (P := P) ops.toList 0 ⟨s, fun _ => true⟩ [] (by simp) rfl h
     refine .inr ⟨rfl, any_sound hsc (hdb rfl) hQ ops.size L m σ' (Array.replicate ops.size false) ⟨s, fun _ => true⟩ a _ (by omega) hm2 h5 (fun x hx => ?_) h1 (by rw [h2]; exact range'_sorted _ _) h3 (Pairs.of_indep (by simpa using h4)) (by simp) (fun i hi => ?_) (fun i o ho hlst => ?_) (fun i hi => by simp at hi) (GSt.of_st st.drew)⟩
     · have : x.i ∈ L.map (·.i) := List.mem_map.2 ⟨x, hx, rfl⟩
       rw [h2, List.mem_range'_1] at this
       omega
     · rw [h2, List.mem_range'_1]
       simp [hi]
       omega
     · exact absurd hlst (by rw [Array.getElem?_replicate]; split <;> simp)

theorem region_sound {E0 : Env} {n : Nat} {id : Nat} {ops : Array Oper} {draw : Bool} {K : PS → Prop} {Q : Exit → Act → World → Prop} (hm : P.follows .mixedOrders = true) {s : PS} {a : Act} {w : World} (hsc : ∀ o ∈ ops, inFrameOp n o = true) (hdb : draw = true → depsBelow ops = true)
   (h : pRegion P ops draw K s) (st : St E0 n s a w) (hQ : ∀ s' a' w', K s' → St E0 n s' a' w' → Q .normal a' w') : (Code.region id ops draw).wp P Q a w := by
 rcases region_shape hsc hdb h st hQ with ⟨rfl, h1 | h1⟩ | ⟨rfl, h1⟩
 · exact wp_region_list h1
 · exact wp_region h1
 · exact wp_region_any hm h1

end
end Go.Pv
