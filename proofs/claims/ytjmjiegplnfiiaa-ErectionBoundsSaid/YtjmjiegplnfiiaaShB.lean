import Derived.Test.YtjmjiegplnfiiaaShA
import Derived.Test.YtjmjiegplnfiiaaSchA
/- The schedule of the reference. No conditions. -/
set_option linter.unusedSimpArgs false
set_option linter.unusedVariables false
set_option maxRecDepth 100000
namespace Go.Proofs.Ytjmjiegplnfiiaa
open Go Go.Pv
section
variable {P : Program} {ρ : Operand → PV} {h : Heap} {key : Key} {t : TypeId}
theorem e_mkS {l c : Operand} {L : Int} {n : Nat} (hx : ρ l = .int L) (hy : ρ c = .int L) (hn : L = (n : Int)) (hz : zeroCellsOf P (elemTy P t) = some [.int 0, .int 0, .int 0]) (ho : sliceOk P t = true) (hs : tySize P (elemTy P t) = 3) (hb : P.bytesOf (elemTy P t) < 2 ^ 15) (hl : n < 2 ^ 32) :
   eff P ρ h key (.makeSlice t l c) = ⟨True, .ref key 3 0 n, [(key, some (.rows 3 ((List.replicate n (⟨0, 0, 0⟩ : Slot)).map Slot.enc)))], [], true⟩ := by
 subst hn
 have h1 : (List.replicate n (⟨0, 0, 0⟩ : Slot)).map Slot.enc = List.replicate n [PV.int 0, .int 0, .int 0] := by simp [Slot.enc]
 simp only [eff, hx, hy, makeSliceEff, hz, ho, hs, hb, h1]
 simp [PV.cell]; omega
end
section
variable {xs : List Task} {c : Crew} {D D2 : List Slot} {T f m z i : Int} {fd : Bool} {O : List Int} {k : Nat}
theorem fits_in {y : Slot} (h : fitsB xs c D y = true) : inG xs c y := by
 rw [fitsB, Bool.and_eq_true, decide_eq_true_eq] at h; exact h.1
/-- The facts of a slot that has been found. -/
theorem pk_ok {x : Task} {y : Slot} (h : PkN xs c D T f c.gangs.length y) (hx : xs[T.toNat]? = some x) (hf : 0 ≤ f) (hm : 0 ≤ x.minutes) (hc : ∀ g ∈ c.gangs, grng g) : (0 ≤ y.gang ∧ y.gang < c.gangs.length) ∧ 0 ≤ y.start ∧ y.start ≤ 1000000 ∧ endY xs y ≤ 1000000 := by
 obtain ⟨g, hg, hg2⟩ := gng_of (c := c) (x := y) (by have := h.gang; omega)
 have h4 := fits_in h.fit
 have e1 := tsk_at (x := y) (by rw [h.task]; exact hx)
 rw [inG, hg2, e1] at h4
 have h5 := hc g (List.mem_of_getElem? hg)
 unfold grng at h5
 have h6 := h.fro
 refine ⟨h.gang, by omega, by omega, by rw [endY, e1]; omega⟩
end
theorem slots_out {h : Heap} {d g n : Nat} {l : List Slot} (hk : h (d, g) = some (.rows 3 (l.map Slot.enc))) (hl : l.length = n) : Out h (.ref (d, g) 3 0 n) (.lit false 3 (l.map Slot.enc)) := by
 refine out_slice (.ofRef hk (by rw [List.length_map]; exact hl)) rfl (fun _ => rfl) fun a p hp => ?_
 simp only [Slot.enc, List.mem_cons, List.not_mem_nil, or_false] at hp
 rcases hp with rfl | rfl | rfl <;> exact ⟨.sc _, rfl⟩
end Go.Proofs.Ytjmjiegplnfiiaa

/- The schedule of the program. No conditions. -/
set_option linter.unusedSimpArgs false
set_option linter.unusedVariables false
set_option maxRecDepth 100000
namespace Go.Proofs.Ytjmjiegplnfiiaa
open Go Go.Pv
/-! ### The best gang so far -/
def BI (xs : List Task) (c : Crew) (D : List Slot) (T f i bg bs : Int) : Prop := (bg = -1 ∧ NoN xs c D T f i) ∨ (0 ≤ bg ∧ PkN xs c D T f i ⟨T, bg, bs⟩)
section
variable {xs : List Task} {c : Crew} {D : List Slot} {T f i bg bs : Int} {x : Task} {g : Gang}
theorem BI.zero : BI xs c D T f 0 (-1) 0 := .inl ⟨rfl, .zero⟩
theorem BI.pass (h : BI xs c D T f i bg bs) (hn : ∀ y : Slot, y.task = T → y.gang = i → f ≤ y.start → fitsB xs c D y = true → 0 ≤ bg ∧ bs ≤ y.start) : BI xs c D T f (i + 1) bg bs := by
 rcases h with ⟨h1, h2⟩ | ⟨h1, h2⟩
 · refine .inl ⟨h1, h2.no fun y q1 q2 q3 => ?_⟩
   cases e : fitsB xs c D y with
   | false => rfl
   | true => have := hn y q1 q2 q3 e; omega
 · exact .inr ⟨h1, h2.no fun y q1 q2 q3 q4 => (hn y q1 q2 q3 q4).2⟩
/-- What the rounds of the gangs know. -/
structure GK (xs : List Task) (c : Crew) (D : List Slot) (T f i : Int) (x : Task) (g : Gang) : Prop where
 hx : xs[T.toNat]? = some x
 hg : c.gangs[i.toNat]? = some g
 hB : ∀ s ∈ spL xs c D x.place i, s.b ≤ 1000000
 hf : 0 ≤ f ∧ f ≤ 1000000
 hr : 0 ≤ g.fro ∧ g.fro ≤ 1000000
theorem GK.ear (k : GK xs c D T f i x g) {y : Slot} (h1 : y.task = T) (h2 : y.gang = i) (h3 : f ≤ y.start) (h4 : fitsB xs c D y = true) : hasT g.trades x.trade = true ∧ eG xs c D x g f i ≤ y.start ∧ y.start + x.minutes ≤ g.til := by
 obtain ⟨q1, q2, q3, q4⟩ := (fits_iff k.hx k.hg h1 h2).1 h4
 exact ⟨q1, (eG_spec k.hB k.hf k.hr).2.2.2.2 _ h3 q2 q4, q3⟩
theorem BI.tr (k : GK xs c D T f i x g) (h : BI xs c D T f i bg bs) (ht : hasT g.trades x.trade = false) : BI xs c D T f (i + 1) bg bs := h.pass fun y q1 q2 q3 q4 => by
 have := (k.ear q1 q2 q3 q4).1
 rw [ht] at this; cases this
theorem BI.late (k : GK xs c D T f i x g) (h : BI xs c D T f i bg bs) (ht : ¬ eG xs c D x g f i + x.minutes ≤ g.til) : BI xs c D T f (i + 1) bg bs := h.pass fun y q1 q2 q3 q4 => by
 have := (k.ear q1 q2 q3 q4).2
 omega
theorem BI.keep (k : GK xs c D T f i x g) (h : BI xs c D T f i bg bs) (h1 : ¬ bg < 0) (h2 : ¬ eG xs c D x g f i < bs) : BI xs c D T f (i + 1) bg bs := h.pass fun y q1 q2 q3 q4 => by
 have := (k.ear q1 q2 q3 q4).2
 omega
theorem BI.take (k : GK xs c D T f i x g) (h : BI xs c D T f i bg bs) (hi : 0 ≤ i) (ht : hasT g.trades x.trade = true) (hl : eG xs c D x g f i + x.minutes ≤ g.til) (h2 : bg < 0 ∨ eG xs c D x g f i < bs) : BI xs c D T f (i + 1) i (eG xs c D x g f i) := by
 obtain ⟨e1, e2, _, e4, _⟩ := eG_spec k.hB k.hf k.hr
 have hft : fitsB xs c D ⟨T, i, eG xs c D x g f i⟩ = true := (fits_iff k.hx k.hg rfl rfl).2 ⟨ht, e2, hl, e4⟩
 have hm : ∀ z : Slot, z.task = T → z.gang = i → f ≤ z.start → fitsB xs c D z = true → (⟨T, i, eG xs c D x g f i⟩ : Slot).start ≤ z.start := fun z q1 q2 q3 q4 => (k.ear q1 q2 q3 q4).2.1
 rcases h with ⟨h3, h4⟩ | ⟨h3, h4⟩
 · exact .inr ⟨hi, h4.yes hi rfl rfl e1 hft hm⟩
 · exact .inr ⟨hi, h4.yes rfl rfl e1 hft hm (by show eG xs c D x g f i < bs; omega)⟩
theorem BI.noF (h : BI xs c D T f i bg bs) (hb : bg < 0) : NoN xs c D T f i := by
 rcases h with ⟨_, h⟩ | ⟨h, _⟩
 · exact h
 · omega
theorem BI.yesF (h : BI xs c D T f i bg bs) (hb : ¬ bg < 0) : 0 ≤ bg ∧ PkN xs c D T f i ⟨T, bg, bs⟩ := by
 rcases h with ⟨h, _⟩ | h
 · omega
 · exact h
theorem schP_p (h : planE xs ≠ 0) : schP xs c = ([], planE xs) := if_pos h
theorem schP_c (h : planE xs = 0) (h2 : crewE c ≠ 0) : schP xs c = ([], crewE c) := by
 rw [schP, if_neg (fun q => q h), if_pos h2]
theorem schP_n (h : planE xs = 0) (h2 : crewE c = 0) (h3 : schO xs c = none) : schP xs c = ([], 27) := by
 rw [schP, if_neg (fun q => q h), if_neg (fun q => q h2), h3]
theorem schP_s (h : planE xs = 0) (h2 : crewE c = 0) (h3 : schO xs c = some D) : schP xs c = (SLx xs.length D, 0) := by
 rw [schP, if_neg (fun q => q h), if_neg (fun q => q h2), h3]
end
theorem ordX_q {xs : List Task} (h : (ordX xs).2 ≠ 0) : planE xs ≠ 0 ∧ (ordX xs).2 = planE xs := by
 by_cases hq : planE xs = 0
 · rw [ordX, if_neg (fun q => q hq)] at h; exact absurd rfl h
 · exact ⟨hq, by rw [ordX, if_pos hq]⟩
theorem sl_pcells {h : Heap} {e sz : Nat} {u : PV} {rows : Pv.Rows} (hu : SliceAt h e u sz rows) : pcells u = cv u := by
 rcases hu with ⟨_, rfl⟩ | ⟨g2, rfl, _⟩ <;> rfl
theorem sl_pl {h : Heap} {e sz : Nat} {u : PV} {rows : Pv.Rows} (hu : SliceAt h e u sz rows) : (pcells u).length = 1 := by rw [sl_pcells hu]; rfl
theorem sl_pc {h : Heap} {e sz : Nat} {u : PV} {rows : Pv.Rows} (hu : SliceAt h e u sz rows) : (pcells u).all PV.cell = true := by
 rcases hu with ⟨_, rfl⟩ | ⟨g2, rfl, _⟩ <;> rfl
/-- Two own lists in a list of two. -/
theorem concatX {h : Heap} {d e g : Nat} {u : PV} {l1 l2 : List Sp} (hk : h (d, g) = some (.rows 1 [[u], [.lit false 2 (l2.map Sp.enc)]])) (hu : SliceAt h e u 2 (l1.map Sp.enc)) :
   ∃ ks : List Key, (∀ k ∈ ks, k.1 ∈ [d, e]) ∧ InnsX h ks [.ref (d, g) 1 0 2] [.lit true 1 ([l1, l2].map clS)] := by
 refine ⟨(d, g) :: Go.Pv.keyOf u, fun k hk' => ?_, .cons (.rows hk (List.mem_cons_self ..) rfl rfl fun i row row' h1 h2 => ?_) .nil⟩
 · rcases List.mem_cons.1 hk' with rfl | h3
   · exact List.mem_cons_self ..
   · rcases hu with ⟨_, rfl⟩ | ⟨g2, rfl, _⟩
     · simp [Go.Pv.keyOf] at h3
     · simp [Go.Pv.keyOf] at h3; subst h3; exact List.mem_cons_of_mem _ (List.mem_cons_self ..)
 · match i, h1, h2 with
   | 0, h1, h2 =>
     cases h1; cases h2
     refine ⟨rfl, fun j p q h3 h4 => ?_⟩
     match j, h3, h4 with
     | 0, h3, h4 =>
       cases h3; cases h4
       refine ⟨?_, .lit _ _ _ fun row hr => pure_map Sp.pure row hr, rfl, fun k hk' => List.mem_cons_of_mem _ hk'⟩
       rcases hu with ⟨hn, rfl⟩ | ⟨g2, rfl, hg⟩
       · rw [List.map_eq_nil_iff.1 hn]; exact .nil true 2
       · exact .ref hg (by simp) (by rw [List.drop_zero, List.length_map, List.take_of_length_le (by rw [List.length_map]; exact Nat.le_refl _)]) fun row hr => pure_map Sp.pure row hr
     | j + 1, h3, _ => simp at h3
   | 1, h1, h2 =>
     cases h1; cases h2
     refine ⟨rfl, fun j p q h3 h4 => ?_⟩
     match j, h3, h4 with
     | 0, h3, h4 =>
       cases h3; cases h4
       exact ⟨.lit (fun q => by cases q), .lit _ _ _ fun row hr => pure_map Sp.pure row hr, rfl, fun k hk' => by simp [Go.Pv.keyOf] at hk'⟩
     | j + 1, h3, _ => simp at h3
   | i + 2, h1, _ => simp at h1
section
variable {P : Program} {K : PS → Prop} {d : Nat} {op : Op} {ty : TypeId} {pos : String} {aft : Array Edge} {gd : Option (Nat × Bool)} {rest : List Oper} {r : Nat → PV} {h : Heap} {cnt : Nat → Nat} {ops : Array Oper} {i : Nat} {G : Nat → Bool} {dd : Bool}
theorem s_callX2 {f : FuncId} {args as' : List PV} {v : PV} {ts : List Ft} (rs : List Nat) (hX : ∃ ks : List Key, (∀ k ∈ ks, k.1 ∈ rs) ∧ InnsX h ks args as') (hg : gobB ops r G gd = true) (hgv : gval ops ⟨⟨r, h, cnt⟩, G⟩ gd = true) (hc : callOf r op = some (f, args)) (hv : validB r G op = true) (hp : PCalls P f as' v)
   (hk : sRun P ops dd K rest (i + 1) ⟨setT r d v, h, cnt⟩ (setB G d true) (ts ++ [⟨i, rs, []⟩])) : sRun P ops dd K (⟨some d, op, ty, pos, aft, gd⟩ :: rest) i ⟨r, h, cnt⟩ G ts := by
 obtain ⟨ks, h1, h2⟩ := hX
 exact s_callX rs h1 hg hgv hc hv h2 hp hk
end
theorem concat2 {xs : List Task} {c : Crew} {D : List Slot} {p i : Int} (h1 : D.length ≤ 20) (h2 : c.closed.length ≤ 40) : PCalls Try.prog 99 [.lit true 1 ([bsG xs D i, clL c.closed p].map clS)] (.lit false 2 ((spL xs c D p i).map Sp.enc)) := by
 have h3 := bsG_len (xs := xs) (d := D) (g := i)
 have h4 := clL_len (cs := c.closed) (p := p)
 have e : [bsG xs D i, clL c.closed p].flatten = spL xs c D p i := by simp [spL]
 have := concatC [bsG xs D i, clL c.closed p] (by simp) (by rw [e, spL, List.length_append]; omega)
 rw [e] at this; exact this
theorem spL_len {xs : List Task} {c : Crew} {D : List Slot} {p i : Int} (h1 : D.length ≤ 20) (h2 : c.closed.length ≤ 40) : (spL xs c D p i).length ≤ 1000000 := by
 have h3 := bsG_len (xs := xs) (d := D) (g := i)
 have h4 := clL_len (cs := c.closed) (p := p)
 rw [spL, List.length_append]; omega
theorem earliestG {xs : List Task} {c : Crew} {D : List Slot} {T f i : Int} {x : Task} {g : Gang} (k : GK xs c D T f i x g) (h1 : D.length ≤ 20) (h2 : c.closed.length ≤ 40) (hm : 0 ≤ x.minutes ∧ x.minutes ≤ 1000000) : PCalls Try.prog 98 [.int (max f g.fro), .int x.minutes, .lit true 2 ((spL xs c D x.place i).map Sp.enc)] (.int (eG xs c D x g f i)) := by
 have hr := k.hr; have hf := k.hf
 exact earliestC (spL xs c D x.place i) (max f g.fro) x.minutes 1000000 (spL_len h1 h2) k.hB (by omega) (by omega) hm

theorem frmN_at {xs : List Task} {D : List Slot} {l : List Int} {j : Nat} {n : Int} {u : Task} (hn : l[j]? = some n) (hu : xs[n.toNat]? = some u) : max (frmN xs D l j) ((slA D n).start + u.minutes) = frmN xs D l (j + 1) := by
 have e1 : at0 l j = n := by rw [at0, List.getD_eq_getElem?_getD, hn]; rfl
 have e2 : xs.getD n.toNat default = u := by rw [List.getD_eq_getElem?_getD, hu]; rfl
 rw [frmN, e1, e2]
theorem acc_needs {xs : List Task} {O : List Int} {k : Nat} {x : Task} {z : Int} (hO : AccOK (ndX xs) O) (hk : k < O.length) (hx : xs[(at0 O k).toNat]? = some x) (hz : z ∈ x.needs) : z ∈ O.take k := by
 have := (acE_iff.1 (hO k hk)).2.2 z
 rw [ndX_at hx] at this
 exact this hz
theorem at0_nin {nd : List (List Int)} {O : List Int} {k : Nat} (h : AccOK nd O) (hk : k < O.length) : at0 O k ∉ O.take k := (acE_iff.1 (h k hk)).2.1
theorem schP_out1 {h : Heap} {xs : List Task} {c : Crew} (he : (ordX xs).2 ≠ 0) : Out h (.tup [.nil, .int (ordX xs).2]) (.tup [.lit false 3 ((schP xs c).1.map Slot.enc), .int (schP xs c).2]) := by
 obtain ⟨h1, h2⟩ := ordX_q he
 rw [schP_p h1, h2]; exact out_2 (.nil 3) (out_i rfl)
theorem schP_out2 {h : Heap} {xs : List Task} {c : Crew} (hp : planE xs = 0) (he : crewE c ≠ 0) : Out h (.tup [.nil, .int (crewE c)]) (.tup [.lit false 3 ((schP xs c).1.map Slot.enc), .int (schP xs c).2]) := by
 rw [schP_c hp he]; exact out_2 (.nil 3) (out_i rfl)
theorem schP_out3 {h : Heap} {xs : List Task} {c : Crew} (hp : planE xs = 0) (he : crewE c = 0) (hn : schO xs c = none) : Out h (.tup [.nil, .int 27]) (.tup [.lit false 3 ((schP xs c).1.map Slot.enc), .int (schP xs c).2]) := by
 rw [schP_n hp he hn]; exact out_2 (.nil 3) (out_i rfl)
theorem schP_out4 {h : Heap} {d g : Nat} {xs : List Task} {c : Crew} {D : List Slot} (hp : planE xs = 0) (he : crewE c = 0) (hn : schO xs c = some D) (hk : h (d, g) = some (.rows 3 ((SLx xs.length D).map Slot.enc))) : Out h (.tup [.ref (d, g) 3 0 xs.length, .int 0]) (.tup [.lit false 3 ((schP xs c).1.map Slot.enc), .int (schP xs c).2]) := by
 rw [schP_s hp he hn]; exact out_2 (slots_out hk SLx_len) (out_i rfl)

theorem fr52 : (inFrame Try.f52.ntmps (Try.f52.body.getD .skip) && Try.f52.results.toList.all (resScope Try.f52.ntmps)) = true := by kernel_rfl
theorem ScheduleC (xs : List Task) (c : Crew) (hf : Fair xs) (hxl : xs.length ≤ 15) (hg1 : c.gangs.length ≤ 15) (hg2 : c.closed.length ≤ 50) (hcf : GFair c.gangs) : PCalls Try.prog 52 [.lit true 6 (xs.map Task.enc), .agg c.enc] (.tup [.lit false 3 ((schP xs c).1.map Slot.enc), .int (schP xs c).2]) := by
 refine PCalls.of_code Try.func52 rfl rfl (by kernel_rfl) mixed fr52 (by show _ ≤ 158; simp) (pure_2 (.lit _ _ _ fun row hr => pure_map Slot.pure row hr) (.sc _)) ?_
 have hct : ∀ g ∈ c.gangs, g.trades.length ≤ 6 := fun g hg => (hcf g hg).1
 have hO := ordR_acc (nd := ndX xs)
 have hOr : ∀ z ∈ (ordR (ndX xs)), 0 ≤ z ∧ z < (xs.length : Int) := fun z hz => by have := AccOK.rng hO z hz; rw [ndX_len] at this; exact this
 refine pwp_seq_plain rfl fun K1 hK1 => p_new rfl (e_box (n := 2) rfl rfl) ⟨rfl, by decide⟩ (p_e rfl (e_assign (v := .nil) rfl) (p_aS rfl (p_end (hK1 _ ?_)))); clear hK1 K1
 refine pwp_seq_plain rfl fun K2 hK2 => p_e rfl (e_move (v := .lit _ _ _) rfl) (p_call rfl (.cons inn_lit .nil) (OrderC _ (by omega) hf) (p_e rfl (e_move (v := .tup _) rfl) (p_e rfl (e_ext (v := .lit _ _ _) rfl (by simp) rfl) (p_e rfl (e_ext (v := .sc _) rfl (by simp) rfl) (p_e rfl (e_assign (v := .lit _ _ _) rfl) (p_aS rfl ?_))))))
 refine p_end (hK2 _ ?_); clear hK2 K2
 refine pwp_seq_seq (pwp_seq_plain rfl fun K3 hK3 => p_mS rfl (p_e rfl (e_ne rfl rfl) (p_end (hK3 _ ?_)))); clear hK3 K3
 refine pwp_seq_cond rfl fun K4 hK4 => ⟨fun hb5 => ?_, fun hb5 => ?_⟩
 ·have hb5R := hb5; try simp only [zz] at hb5
  refine pwp_seq_plain rfl fun K6 hK6 => p_mS rfl (p_e rfl (e_assign (v := .nil) rfl) (p_aS rfl (p_end (hK6 _ ?_)))); clear hK6 K6
  refine pwp_ret (ret_seq (end2 (v := .nil) (w := .sc _) rfl rfl ?_))
  exact schP_out1 (by assumption)
 have hb5R := hb5; try simp only [zz] at hb5
 refine pwp_skip (seq_norm (hK4 _ ?_)); clear hK4 K4
 refine pwp_seq_seq ?_
 have hp : planE xs = 0 := ordX_p (by assumption)
 have hx1 : (ordX xs).1 = (ordR (ndX xs)) := by rw [ordX, if_neg (fun q => q hp)]
 rw [hx1]
 refine pwp_seq_plain rfl fun K7 hK7 => p_e rfl (e_loadHA (cs := Crew.enc (c)) (n := 2) rfl (hset_self _ _ _) (by kernel_rfl) (by kernel_rfl) (by kernel_rfl) (by exact Nat.zero_lt_one) (by decide) rfl) (p_call rfl (.cons (inn_agg (Crew.pure _)) .nil) (CheckCrewC c (by omega) (by omega) hcf) (p_aS rfl (p_end (hK7 _ ?_)))); clear hK7 K7
 refine pwp_seq_seq (pwp_seq_plain rfl fun K8 hK8 => p_mS rfl (p_e rfl (e_ne rfl rfl) (p_end (hK8 _ ?_)))); clear hK8 K8
 refine pwp_seq_cond rfl fun K9 hK9 => ⟨fun hb10 => ?_, fun hb10 => ?_⟩
 ·have hb10R := hb10; try simp only [zz] at hb10
  refine pwp_seq_plain rfl fun K11 hK11 => p_mS rfl (p_e rfl (e_assign (v := .nil) rfl) (p_aS rfl (p_end (hK11 _ ?_)))); clear hK11 K11
  refine pwp_ret (ret_seq (end2 (v := .nil) (w := .sc _) rfl rfl ?_))
  exact schP_out2 hp (by assumption)
 have hb10R := hb10; try simp only [zz] at hb10
 refine pwp_skip (seq_norm (hK9 _ ?_)); clear hK9 K9
 have hc0 : crewE c = 0 := (by assumption)
 have hco := crew_ok hc0
 refine pwp_seq_plain rfl fun K12 hK12 => p_e rfl (e_move (v := .lit _ _ _) rfl) (p_e rfl (e_len rfl (by kernel_rfl)) (p_new rfl (e_mkS (n := xs.length) rfl rfl (by rw [List.length_map]) (by kernel_rfl) (by kernel_rfl) (by kernel_rfl) (by decide +kernel) (by omega)) trivial ?_))
 rw [show List.replicate xs.length (⟨0, 0, 0⟩ : Slot) = SLx xs.length [] by rw [SLx_nil]]
 refine p_e rfl (e_assign (v := .ref _ _ _ _) rfl) (p_end (hK12 _ ?_)); clear hK12 K12
 refine pwp_seq_plain rfl fun K13 hK13 => p_e rfl (e_faQ pl2 rfl) (p_e rfl (e_lH (v := .lit _ _ _) rfl ((hset_ne (key_ne rfl)).trans (hset_self _ _ _)) rfl) (p_e rfl (e_len rfl (by kernel_rfl)) (p_new rfl (e_mkV (n := c.gangs.length) rfl rfl (by rw [List.length_map]) (by kernel_rfl) (by kernel_rfl) (by kernel_rfl) (by decide +kernel) (by omega)) trivial (p_e rfl (e_assign (v := .ref _ _ _ _) rfl) (p_end (hK13 _ ?_)))))); clear hK13 K13
 refine pwp_seq_seq (pwp_seq_plain rfl fun K14 hK14 => p_e rfl (e_move (v := .lit _ _ _) rfl) (p_e rfl (e_len rfl (by kernel_rfl)) (p_mS rfl (p_end (hK14 _ ?_))))); clear hK14 K14
 refine pwp_seq_block fun K15 hK15 => pwp_loopR (α := Nat × (List Slot) × (List PV)) [0, 3, 9, 10, 42, 43] (fun (a16 : Nat × (List Slot) × (List PV)) => [(44, .int (a16.1))]) (fun (a16 : Nat × (List Slot) × (List PV)) (h : Heap) (_ : Nat → Nat) => ((a16.1) ≤ (ordR (ndX xs)).length) ∧ (goS xs c (ordR (ndX xs)) [] = goS xs c ((ordR (ndX xs)).drop (a16.1)) (a16.2.1)) ∧ (DInv xs c (ordR (ndX xs)) (a16.1) (a16.2.1)) ∧ (NP h 154 2 Sp.enc (a16.2.2) (bsT xs (a16.2.1) c.gangs.length)) ∧ (h (3, 0) = some (.rows 2 [Crew.enc c])) ∧ (h (37, 0) = some (.rows 3 ((SLx xs.length (a16.2.1)).map Slot.enc))) ∧ (h (41, 0) = some (.rows 1 ((a16.2.2).map cv)))) (fun (a16 : Nat × (List Slot) × (List PV)) => (ordR (ndX xs)).length - (a16.1)) (0, [], List.replicate c.gangs.length .nil) (by exact ⟨rfl, trivial⟩) (by exact ⟨by exact Nat.zero_le _, by exact rfl, by exact DInv.nil, by rw [bsT_0]; exact NP.nils _, ((hset_ne (key_ne rfl)).trans ((hset_ne (key_ne rfl)).trans (hset_self _ _ _))), ((hset_ne (key_ne rfl)).trans (hset_self _ _ _)), (hset_self _ _ _)⟩) fun a16 r17 h18 c19 hj20 => ?_
 obtain ⟨k, D, vs⟩ := a16
 obtain ⟨hk, hgo, hdi, hnp, hihj20_0, hihj20_1, hihj20_2⟩ := hj20
 try dsimp only at hk
 try dsimp only at hgo
 try dsimp only at hdi
 try dsimp only at hnp
 try dsimp only at hihj20_0
 try dsimp only at hihj20_1
 try dsimp only at hihj20_2
 show pwp _ _ (loopQ _ _ _) ⟨sets (mix _ _ _) [(44, .int k)], _, _⟩
 refine pwp_seq_plain rfl fun K21 hK21 => p_e rfl (e_lt rfl rfl) (p_end (hK21 _ ?_)); clear hK21 K21
 refine pwp_seq_cond rfl fun K22 hK22 => ⟨fun hb23 => ?_, fun hb23 => ?_⟩
 ·have hb23R := hb23; try simp only [zz] at hb23
  have hkO : k < (ordR (ndX xs)).length := by simp only [List.length_map] at *; omega
  obtain ⟨hr0, hr1⟩ := AccOK.rng hO _ (at0_mem hkO)
  rw [ndX_len] at hr1
  obtain ⟨x, hx, _, _⟩ := get_lt (xs := xs) (i := (at0 (ordR (ndX xs)) k).toNat) (by omega)
  have hxm := (task_ok hp hx).1.2.2
  have hxn := (task_ok hp hx).2.2.2.1
  have hxl1 := (hf x (List.mem_of_getElem? hx)).1
  have hDl := hdi.len (by omega)
  have hOl := ordR_len hO
  have hdk := hdi.dok hOr
  have hxd : xs.getD (at0 (ordR (ndX xs)) k).toNat default = x := by rw [List.getD_eq_getElem?_getD, hx]; rfl
  have hdr := drop_at0 hkO
  have hSl : (SLx xs.length D).length = xs.length := SLx_len
  have hnd : (D.map (·.task)).Nodup := by rw [hdi.tasks]; exact (AccOK.nodup hO).sublist (List.take_sublist _ _)
  have hnO : ∀ z ∈ x.needs, z ∈ D.map (·.task) := fun z hz => by rw [hdi.tasks]; exact acc_needs hO hkO hx hz
  have hTn : (at0 (ordR (ndX xs)) k) ∉ D.map (·.task) := by rw [hdi.tasks]; exact at0_nin hO hkO
  refine pwp_skip (seq_norm (hK22 _ ?_)); clear hK22 K22
  refine pwp_seq_block fun K24 hK24 => pwp_seq_plain rfl fun K25 hK25 => p_e rfl (e_ixL rfl rfl) (p_e rfl (e_load (v := .sc _) rfl (by kernel_rfl) (by kernel_rfl) (by kernel_rfl) (by first | omega | (simp only [List.length_map]; omega)) (by decide) ((cell_map (at0_get (l := (ordR (ndX xs))) (i := k) hkO) _).trans rfl)) (p_aS rfl (p_end (hK25 _ ?_)))); clear hK25 K25
  refine pwp_seq_plain rfl fun K26 hK26 => p_e rfl (e_move (v := .lit _ _ _) rfl) (p_mS rfl (p_e rfl (e_ixL rfl rfl) (p_e rfl (e_loadA (n := 6) rfl (by kernel_rfl) (by kernel_rfl) (by kernel_rfl) (by first | omega | (simp only [List.length_map]; omega)) (by decide) (by first | exact agg_map hx rfl)) (p_new rfl (e_alloc (cs := [.str ByteArray.empty, .str ByteArray.empty, .int 0, .int 0, .int 0, .nil]) (n := 6) (by kernel_rfl) rfl (by decide)) (ob_alloc (by decide)) (p_store rfl (e_storeA rfl (hset_self _ _ _) rfl rfl rfl (by kernel_rfl) rfl (by kernel_rfl)) trivial (p_end (hK26 _ ?_))))))); clear hK26 K26
  refine pwp_seq_plain rfl fun K27 hK27 => p_aS rfl (p_end (hK27 _ ?_)); clear hK27 K27
  refine pwp_seq_seq (pwp_seq_plain rfl fun K28 hK28 => p_e rfl (e_faQ pl6 rfl) (p_e rfl (e_lH (v := .lit _ _ _) rfl (hset_self _ _ _) rfl) (p_e rfl (e_len rfl (by kernel_rfl)) (p_mS rfl (p_end (hK28 _ ?_)))))); clear hK28 K28
  refine pwp_seq_block fun K29 hK29 => ?_
  refine pwp_loopR (α := Nat × Int) [0, 3, 9, 10, 12, 13, 42, 43, 44, 53, 54] (fun (a30 : Nat × Int) => [(14, .int (a30.2)), (55, .int (a30.1))]) (fun (a30 : Nat × Int) (h : Heap) (_ : Nat → Nat) => ((a30.1) ≤ x.needs.length) ∧ ((a30.2) = frmN xs D x.needs (a30.1)) ∧ (0 ≤ (a30.2) ∧ (a30.2) ≤ 1000000) ∧ (NP h 154 2 Sp.enc vs (bsT xs D c.gangs.length)) ∧ (h (3, 0) = some (.rows 2 [Crew.enc c])) ∧ (h (37, 0) = some (.rows 3 ((SLx xs.length D).map Slot.enc))) ∧ (h (41, 0) = some (.rows 1 (vs.map cv))) ∧ (h (13, c19 13) = some (.rows 6 [Task.enc x]))) (fun (a30 : Nat × Int) => x.needs.length - (a30.1)) (0, 0) (by exact ⟨rfl, rfl, trivial⟩) (by exact ⟨by exact Nat.zero_le _, by exact rfl, by omega, by (show NP _ 154 2 Sp.enc _ _; refine hnp.keep ?_; intro g; repeat (first | refine (hset_ne (key_ne rfl)).trans ?_ | rfl)), ((hset_ne (key_ne rfl)).trans ((hset_ne (key_ne rfl)).trans hihj20_0)), ((hset_ne (key_ne rfl)).trans ((hset_ne (key_ne rfl)).trans hihj20_1)), ((hset_ne (key_ne rfl)).trans ((hset_ne (key_ne rfl)).trans hihj20_2)), (hset_self _ _ _)⟩) fun a30 r31 h32 c33 hj34 => ?_
  obtain ⟨j, f⟩ := a30
  obtain ⟨hj, hfe, hfb, hnp1, hihj34_0, hihj34_1, hihj34_2, hihj34_3⟩ := hj34
  try dsimp only at hj
  try dsimp only at hfe
  try dsimp only at hfb
  try dsimp only at hnp1
  try dsimp only at hihj34_0
  try dsimp only at hihj34_1
  try dsimp only at hihj34_2
  try dsimp only at hihj34_3
  show pwp _ _ (loopQ _ _ _) ⟨sets (mix _ _ _) [(14, .int f), (55, .int j)], _, _⟩
  refine pwp_seq_plain rfl fun K35 hK35 => p_e rfl (e_lt rfl rfl) (p_end (hK35 _ ?_)); clear hK35 K35
  refine pwp_seq_cond rfl fun K36 hK36 => ⟨fun hb37 => ?_, fun hb37 => ?_⟩
  ·have hb37R := hb37; try simp only [zz] at hb37
   obtain ⟨n, hn, hdn, htn⟩ := get_lt (xs := x.needs) (i := j) (by omega)
   have hnm := hnO n (List.mem_of_getElem? hn)
   have hnr := hxn n (List.mem_of_getElem? hn)
   obtain ⟨hs1, hs2⟩ := slA_mem hnm
   have hsb := hdi.ok _ hs1
   obtain ⟨u, hu, _, _⟩ := get_lt (xs := xs) (i := n.toNat) (by omega)
   have hum := (task_ok hp hu).1.2.2
   have hsn : (SLx xs.length D)[n.toNat]? = some (slA D n) := SLx_get (by omega)
   have hen : endY xs (slA D n) = (slA D n).start + u.minutes := by rw [endY, tsk_at (by rw [hs2]; exact hu)]
   have hfm := frmN_at (xs := xs) (D := D) hn hu
   rw [hen] at hsb
   refine pwp_skip (seq_norm (hK36 _ ?_)); clear hK36 K36
   refine pwp_seq_block fun K38 hK38 => pwp_seq_plain rfl fun K39 hK39 => p_e rfl (e_ixL rfl rfl) (p_e rfl (e_load (v := .sc _) rfl (by kernel_rfl) (by kernel_rfl) (by kernel_rfl) (by first | omega | (simp only [List.length_map]; omega)) (by decide) ((cell_map hn _).trans rfl)) (p_aS rfl (p_end (hK39 _ ?_)))); clear hK39 K39
   refine pwp_gops rfl fun K40 hK40 => s_begin (s_e rfl (e_move (v := .sc _) rfl) (s_e rfl (e_move (v := .ref _ _ _ _) rfl) (s_e rfl (e_move (v := .sc _) rfl) (s_e rfl (e_ixaR0 rfl rfl (by kernel_rfl) (by kernel_rfl) (by first | omega | (simp only [List.length_map]; omega))) (s_e rfl (e_faQ pl3 rfl) (s_step [37] (by simp) rfl rfl rfl rfl (e_loadH (v := .sc _) rfl hihj34_1 (by kernel_rfl) (by kernel_rfl) (by kernel_rfl) (by first | omega | (simp only [List.length_map]; omega)) (by decide) ((cell_map hsn _).trans rfl)) trivial ?_))))))
   refine s_e rfl (e_move (v := .lit _ _ _) rfl) (s_e rfl (e_move (v := .sc _) rfl) (s_e rfl (e_ixL rfl rfl) (s_e rfl (e_fb pl6 rfl) (s_e rfl (e_load (v := .sc _) rfl (by kernel_rfl) (by kernel_rfl) (by kernel_rfl) (by first | omega | (simp only [List.length_map]; omega)) (by decide) ((cell_map hu _).trans rfl)) (s_e rfl (e_adL rfl rfl) (s_e rfl (e_max rfl rfl) (s_e rfl (e_assign (v := .sc _) rfl) ?_)))))))
   refine s_end (ds := []) (by kernel_rfl) (by kernel_rfl) (hK40 _ ?_); clear hK40 K40
   refine block_norm (seq_norm (hK38 _ ?_)); clear hK38 K38
   refine pwp_plain rfl fun K41 hK41 => p_e rfl (e_adL rfl rfl) (p_mS rfl (p_end (hK41 _ ?_))); clear hK41 K41
   exact loop_again ((j + 1, (max f ((slA D n).start + u.minutes)))) (by show _ < _; simp only; omega) ⟨rfl, rfl, rfl, rfl, rfl, rfl, rfl, rfl, rfl, rfl, rfl, trivial⟩ ⟨rfl, rfl, trivial⟩ (by exact ⟨by show _ + 1 ≤ _; simp only [List.length_map] at *; omega, by (rw [hfe]; exact hfm), by omega, by (show NP _ 154 2 Sp.enc _ _; refine hnp1.keep ?_; intro g; repeat (first | refine (hset_ne (key_ne rfl)).trans ?_ | rfl)), hihj34_0, hihj34_1, hihj34_2, hihj34_3⟩)
  have hb37R := hb37; try simp only [zz] at hb37
  obtain rfl : j = x.needs.length := by simp only [List.length_map] at *; omega
  rw [frm_eq hnd hnO] at hfe
  refine pwp_exit (exit_seq ?_)
  clear hK36 K36
  refine exit_loop (exit_here (seq_norm (hK29 _ ?_))); clear hK29 K29
  refine pwp_seq_plain rfl fun K42 hK42 => p_mS rfl (p_e rfl (e_build (cs := Slot.enc (⟨(at0 (ordR (ndX xs)) k), (-1), 0⟩ : Slot)) (zs := [.int 0, .int 0, .int 0]) (pl := [(0, 1, false), (1, 1, false), (2, 1, false)]) (by kernel_rfl) (by kernel_rfl) (by kernel_rfl) rfl rfl (by exact ⟨by decide, rfl, Nat.le_of_ble_eq_true rfl, rfl, ⟨by decide, rfl, Nat.le_of_ble_eq_true rfl, rfl, trivial⟩⟩) rfl) (p_new rfl (e_alloc (cs := [.int 0, .int 0, .int 0]) (n := 3) (by kernel_rfl) rfl (by decide)) (ob_alloc (by decide)) (p_store rfl (e_storeA rfl (hset_self _ _ _) rfl rfl rfl (by kernel_rfl) rfl (by kernel_rfl)) trivial (p_end (hK42 _ ?_))))); clear hK42 K42
  refine pwp_seq_plain rfl fun K43 hK43 => p_e rfl (e_loadHA (cs := Crew.enc (c)) (n := 2) rfl ((hset_ne (key_ne rfl)).trans ((hset_ne (key_ne rfl)).trans hihj34_0)) (by kernel_rfl) (by kernel_rfl) (by kernel_rfl) (by exact Nat.zero_lt_one) (by decide) rfl) (p_e rfl (e_faQ pl6 rfl) (p_e rfl (e_lH (v := .sc _) rfl ((hset_ne (key_ne rfl)).trans ((hset_ne (key_ne rfl)).trans hihj34_3)) rfl) (p_call rfl (.cons (inn_agg (Crew.pure _)) (.cons inn_sc .nil)) (closedSp c _ (by omega)) (p_e rfl (e_assign (v := .lit _ _ _) rfl) (p_end (hK43 _ ?_)))))); clear hK43 K43
  refine pwp_seq_seq (pwp_seq_plain rfl fun K44 hK44 => p_e rfl (e_faQ pl2 rfl) (p_e rfl (e_lH (v := .lit _ _ _) rfl ((hset_ne (key_ne rfl)).trans ((hset_ne (key_ne rfl)).trans hihj34_0)) rfl) (p_e rfl (e_len rfl (by kernel_rfl)) (p_mS rfl (p_end (hK44 _ ?_)))))); clear hK44 K44
  refine pwp_seq_block fun K45 hK45 => ?_
  refine pwp_loopR (α := Nat × Int × Int) [0, 3, 9, 10, 12, 13, 14, 17, 18, 42, 43, 44, 80, 81] (fun (a46 : Nat × Int × Int) => [(82, .int (a46.1))]) (fun (a46 : Nat × Int × Int) (h : Heap) (_ : Nat → Nat) => ((a46.1) ≤ c.gangs.length) ∧ (BI xs c D (at0 (ordR (ndX xs)) k) f ((a46.1) : Int) (a46.2.1) (a46.2.2)) ∧ (-1 ≤ (a46.2.1) ∧ (a46.2.1) < (c.gangs.length : Int) ∧ 0 ≤ (a46.2.2) ∧ (a46.2.2) ≤ 1000000) ∧ (NP h 154 2 Sp.enc vs (bsT xs D c.gangs.length)) ∧ (h (3, 0) = some (.rows 2 [Crew.enc c])) ∧ (h (37, 0) = some (.rows 3 ((SLx xs.length D).map Slot.enc))) ∧ (h (41, 0) = some (.rows 1 (vs.map cv))) ∧ (h (13, c19 13) = some (.rows 6 [Task.enc x])) ∧ (h (17, c33 17) = some (.rows 3 [Slot.enc (⟨(at0 (ordR (ndX xs)) k), (a46.2.1), (a46.2.2)⟩ : Slot)]))) (fun (a46 : Nat × Int × Int) => c.gangs.length - (a46.1)) (0, -1, 0) (by exact ⟨rfl, trivial⟩) (by exact ⟨by exact Nat.zero_le _, by exact BI.zero, by (dsimp only; omega), by (show NP _ 154 2 Sp.enc _ _; refine hnp1.keep ?_; intro g; repeat (first | refine (hset_ne (key_ne rfl)).trans ?_ | rfl)), ((hset_ne (key_ne rfl)).trans ((hset_ne (key_ne rfl)).trans hihj34_0)), ((hset_ne (key_ne rfl)).trans ((hset_ne (key_ne rfl)).trans hihj34_1)), ((hset_ne (key_ne rfl)).trans ((hset_ne (key_ne rfl)).trans hihj34_2)), ((hset_ne (key_ne rfl)).trans ((hset_ne (key_ne rfl)).trans hihj34_3)), (hset_self _ _ _)⟩) fun a46 r47 h48 c49 hj50 => ?_
  obtain ⟨i, bg, bs⟩ := a46
  obtain ⟨hi, hbi, hbb, hnp2, hihj50_0, hihj50_1, hihj50_2, hihj50_3, hihj50_4⟩ := hj50
  try dsimp only at hi
  try dsimp only at hbi
  try dsimp only at hbb
  try dsimp only at hnp2
  try dsimp only at hihj50_0
  try dsimp only at hihj50_1
  try dsimp only at hihj50_2
  try dsimp only at hihj50_3
  try dsimp only at hihj50_4
  show pwp _ _ (loopQ _ _ _) ⟨sets (mix _ _ _) [(82, .int i)], _, _⟩
  refine pwp_seq_plain rfl fun K51 hK51 => p_e rfl (e_lt rfl rfl) (p_end (hK51 _ ?_)); clear hK51 K51
  refine pwp_seq_cond rfl fun K52 hK52 => ⟨fun hb53 => ?_, fun hb53 => ?_⟩
  ·have hb53R := hb53; try simp only [zz] at hb53
   obtain ⟨g, hg, hdg, htg⟩ := get_lt (xs := c.gangs) (i := i) (by omega)
   have hgr := hco.2.1 g (List.mem_of_getElem? hg)
   unfold grng at hgr
   have hgk : GK xs c D (at0 (ordR (ndX xs)) k) f (i : Int) x g := ⟨hx, by rw [Int.toNat_natCast]; exact hg, hdi.spb hco.2.2, hfb, by omega⟩
   have heb := eG_spec hgk.hB hgk.hf hgk.hr
   refine pwp_skip (seq_norm (hK52 _ ?_)); clear hK52 K52
   refine pwp_seq_block fun K54 hK54 => pwp_seq_plain rfl fun K55 hK55 => p_mS rfl (p_e rfl (e_ixL rfl rfl) (p_e rfl (e_loadA (n := 4) rfl (by kernel_rfl) (by kernel_rfl) (by kernel_rfl) (by first | omega | (simp only [List.length_map]; omega)) (by decide) (by first | exact agg_map hg rfl)) (p_new rfl (e_alloc (cs := [.str ByteArray.empty, .nil, .int 0, .int 0]) (n := 4) (by kernel_rfl) rfl (by decide)) (ob_alloc (by decide)) (p_aS rfl (p_store rfl (e_storeA rfl (hset_self _ _ _) rfl rfl rfl (by kernel_rfl) rfl (by kernel_rfl)) trivial ?_)))))
   refine p_end (hK55 _ ?_); clear hK55 K55
   refine pwp_seq_seq (pwp_seq_plain rfl fun K56 hK56 => p_e rfl (e_faQ pl4 rfl) (p_e rfl (e_lH (v := .lit _ _ _) rfl (hset_self _ _ _) rfl) (p_e rfl (e_faQ pl6 rfl) (p_e rfl (e_lH (v := .sc _) rfl ((hset_ne (key_ne rfl)).trans ((hset_ne (key_ne rfl)).trans hihj50_3)) rfl) (p_call rfl (.cons inn_lit (.cons inn_sc .nil)) (ContainsT _ _ (by have := hct _ (List.mem_of_getElem? hg); omega)) (p_e rfl (e_not rfl) ?_))))))
   refine p_end (hK56 _ ?_); clear hK56 K56
   refine pwp_seq_cond rfl fun K57 hK57 => ⟨fun hb58 => ?_, fun hb58 => ?_⟩
   ·have hb58R := hb58; try simp only [zz] at hb58
    refine pwp_exit (exit_seq ?_)
    clear hK57 K57
    refine exit_here (seq_norm (hK54 _ ?_)); clear hK54 K54
    refine pwp_plain rfl fun K59 hK59 => p_e rfl (e_adL rfl rfl) (p_mS rfl (p_end (hK59 _ ?_))); clear hK59 K59
    exact loop_again ((i + 1, bg, bs)) (by show _ < _; simp only; omega) ⟨rfl, rfl, rfl, rfl, rfl, rfl, rfl, rfl, rfl, rfl, rfl, rfl, rfl, rfl, trivial⟩ ⟨rfl, trivial⟩ (by exact ⟨by show _ + 1 ≤ _; simp only [List.length_map] at *; omega, by (dsimp only; first | exact BI.tr hgk hbi (by assumption) | exact BI.late hgk hbi (by omega) | exact BI.keep hgk hbi (by omega) (by omega) | exact BI.take hgk hbi (by omega) (by assumption) (by omega) (.inl (by omega)) | exact BI.take hgk hbi (by omega) (by assumption) (by omega) (.inr (by omega))), by (dsimp only; omega), by (show NP _ 154 2 Sp.enc _ _; refine hnp2.keep ?_; intro g; repeat (first | refine (hset_ne (key_ne rfl)).trans ?_ | rfl)), ((hset_ne (key_ne rfl)).trans ((hset_ne (key_ne rfl)).trans hihj50_0)), ((hset_ne (key_ne rfl)).trans ((hset_ne (key_ne rfl)).trans hihj50_1)), ((hset_ne (key_ne rfl)).trans ((hset_ne (key_ne rfl)).trans hihj50_2)), ((hset_ne (key_ne rfl)).trans ((hset_ne (key_ne rfl)).trans hihj50_3)), ((hset_ne (key_ne rfl)).trans ((hset_ne (key_ne rfl)).trans hihj50_4))⟩)
   have hb58R := hb58; try simp only [zz] at hb58
   refine pwp_skip (seq_norm (hK57 _ ?_)); clear hK57 K57
   obtain ⟨u, hu⟩ : ∃ u, vs[(i : Int).toNat]? = some u := ⟨_, List.getElem?_eq_getElem (by rw [hnp2.len, bsT_len, Int.toNat_natCast]; omega)⟩
   have hul : SliceAt _ 154 u 2 ((bsG xs D (i : Int)).map Sp.enc) := hnp2.get hu (by rw [Int.toNat_natCast]; exact bsT_get (by omega))
   have hvl : vs.length = c.gangs.length := by rw [hnp2.len, bsT_len]
   refine pwp_seq_gops rfl fun K60 hK60 => s_begin (s_e rfl (e_move (v := .sc _) rfl) (s_e rfl (e_faQ pl4 rfl) (s_step [20] (by simp) rfl rfl rfl rfl (e_lH (v := .sc _) rfl (hset_self _ _ _) rfl) trivial (s_e rfl (e_max rfl rfl) (s_e rfl (e_faQ pl6 rfl) (s_step [13] (by simp) rfl rfl rfl rfl (e_lH (v := .sc _) rfl ((hset_ne (key_ne rfl)).trans ((hset_ne (key_ne rfl)).trans hihj50_3)) rfl) trivial ?_))))))
   refine s_e rfl (e_move (v := .ref _ _ _ _) rfl) (s_e rfl (e_move (v := .sc _) rfl) (s_e rfl (e_ixaR0 rfl rfl (by kernel_rfl) (by kernel_rfl) (by omega)) (s_step [41] (by simp) rfl rfl rfl rfl (e_loadV (v := u) rfl ((hset_ne (key_ne rfl)).trans ((hset_ne (key_ne rfl)).trans hihj50_2)) (by kernel_rfl) (by kernel_rfl) (by kernel_rfl) hu) trivial (s_e rfl (e_move (v := .lit _ _ _) rfl) (s_new [] (by simp) rfl rfl rfl rfl (e_bslice (rows := [cv u, cv (.lit false 2 ((clL c.closed x.place).map Sp.enc))]) (zs := [.nil]) (sz := 1) (by kernel_rfl) (by kernel_rfl) rfl (by kernel_rfl) (by decide) rfl rfl (by exact ⟨by decide, sl_pl hul, sl_pc hul, by decide, rfl, rfl, trivial⟩) (by show [pcells u, _] = _; rw [sl_pcells hul]; rfl)) trivial (s_callX2 (args := [.ref _ _ _ _]) [104, 154] (concatX (l1 := bsG xs D (i : Int)) (l2 := clL c.closed x.place) (hset_self _ _ _) (hul.keep fun _ => (hset_ne (key_ne rfl)).trans ((hset_ne (key_ne rfl)).trans ((hset_ne (key_ne rfl)).trans (rfl))))) rfl rfl rfl rfl (concat2 (by omega) (by omega)) (s_call (args := [.sc _, .sc _, .lit _ _ _]) [] (by intro k hk; simp [keysOf, Go.Pv.keyOf] at hk; try (subst hk; simp)) rfl rfl rfl rfl (.cons inn_sc (.cons inn_sc (.cons inn_lit .nil))) (earliestG hgk (by omega) (by omega) (by omega)) ?_)))))))
   refine s_e rfl (e_assign (v := .sc _) rfl) (s_end (ds := []) (by kernel_rfl) (by kernel_rfl) (hK60 _ ?_)); clear hK60 K60
   refine pwp_seq_gops rfl fun K61 hK61 => g_begin (g_mS rfl rfl (g_e rfl (e_faQ pl6 rfl) (g_e rfl (e_lH (v := .sc _) rfl ((hset_ne (key_ne rfl)).trans ((hset_ne (key_ne rfl)).trans ((hset_ne (key_ne rfl)).trans hihj50_3))) rfl) (g_e rfl (e_adL rfl rfl) (g_e rfl (e_faQ pl4 rfl) (g_e rfl (e_lH (v := .sc _) rfl ((hset_ne (key_ne rfl)).trans (hset_self _ _ _)) rfl) ?_))))))
   refine g_e rfl (e_le rfl rfl) (g_mS rfl rfl ?_)
   refine g_cases (fun hb62 => ?_) (fun hb62 => ?_)
   ·have hb62R := hb62; try simp only [zz] at hb62
    refine g_e rfl (e_faQ pl3 rfl) (g_e rfl (e_lH (v := .sc _) rfl ((hset_ne (key_ne rfl)).trans ((hset_ne (key_ne rfl)).trans ((hset_ne (key_ne rfl)).trans hihj50_4))) rfl) (g_e rfl (e_lt rfl rfl) (g_mS rfl rfl ?_)))
    refine g_cases (fun hb63 => ?_) (fun hb63 => ?_)
    ·have hb63R := hb63; try simp only [zz] at hb63
     iterate 4 refine g_skip rfl rfl rfl ?_
     refine g_pT rfl rfl rfl (g_pT rfl rfl rfl (g_end (ds := [115, 116, 117, 118, 119, 120, 121, 122, 123]) rfl rfl (hK61 _ ?_))); clear hK61 K61
     refine pwp_cond (t := true) rfl (fun _ => ?_) nofun
     refine pwp_plain rfl fun K64 hK64 => p_mS rfl (p_mS rfl (p_e rfl (e_faQ pl3 rfl) (p_store rfl (e_store1 rfl ((hset_ne (key_ne rfl)).trans ((hset_ne (key_ne rfl)).trans ((hset_ne (key_ne rfl)).trans hihj50_4))) rfl rfl rfl (by decide) (by kernel_rfl) rfl (by kernel_rfl)) trivial (p_e rfl (e_faQ pl3 rfl) (p_store rfl (e_store1 rfl (hset_self _ _ _) rfl rfl rfl (by decide) (by kernel_rfl) rfl (by kernel_rfl)) trivial (p_end (hK64 _ ?_))))))); clear hK64 K64
     refine block_norm (seq_norm (hK54 _ ?_)); clear hK54 K54
     refine pwp_plain rfl fun K65 hK65 => p_e rfl (e_adL rfl rfl) (p_mS rfl (p_end (hK65 _ ?_))); clear hK65 K65
     exact loop_again ((i + 1, (i : Int), (eG xs c D x g f (i : Int)))) (by show _ < _; simp only; omega) ⟨rfl, rfl, rfl, rfl, rfl, rfl, rfl, rfl, rfl, rfl, rfl, rfl, rfl, rfl, trivial⟩ ⟨rfl, trivial⟩ (by exact ⟨by show _ + 1 ≤ _; simp only [List.length_map] at *; omega, by (dsimp only; first | exact BI.tr hgk hbi (by assumption) | exact BI.late hgk hbi (by omega) | exact BI.keep hgk hbi (by omega) (by omega) | exact BI.take hgk hbi (by omega) (by assumption) (by omega) (.inl (by omega)) | exact BI.take hgk hbi (by omega) (by assumption) (by omega) (.inr (by omega))), by (dsimp only; omega), by (show NP _ 154 2 Sp.enc _ _; refine hnp2.keep ?_; intro g; repeat (first | refine (hset_ne (key_ne rfl)).trans ?_ | rfl)), ((hset_ne (key_ne rfl)).trans ((hset_ne (key_ne rfl)).trans ((hset_ne (key_ne rfl)).trans ((hset_ne (key_ne rfl)).trans ((hset_ne (key_ne rfl)).trans hihj50_0))))), ((hset_ne (key_ne rfl)).trans ((hset_ne (key_ne rfl)).trans ((hset_ne (key_ne rfl)).trans ((hset_ne (key_ne rfl)).trans ((hset_ne (key_ne rfl)).trans hihj50_1))))), ((hset_ne (key_ne rfl)).trans ((hset_ne (key_ne rfl)).trans ((hset_ne (key_ne rfl)).trans ((hset_ne (key_ne rfl)).trans ((hset_ne (key_ne rfl)).trans hihj50_2))))), ((hset_ne (key_ne rfl)).trans ((hset_ne (key_ne rfl)).trans ((hset_ne (key_ne rfl)).trans ((hset_ne (key_ne rfl)).trans ((hset_ne (key_ne rfl)).trans hihj50_3))))), (hset_self _ _ _)⟩)
    have hb63R := hb63; try simp only [zz] at hb63
    refine g_mS rfl rfl (g_e rfl (e_faQ pl3 rfl) (g_e rfl (e_lH (v := .sc _) rfl ((hset_ne (key_ne rfl)).trans ((hset_ne (key_ne rfl)).trans ((hset_ne (key_ne rfl)).trans hihj50_4))) rfl) (g_e rfl (e_lt rfl rfl) (g_pF rfl rfl rfl (g_pT rfl rfl rfl (g_end (ds := [115, 116, 117, 118, 119, 120, 121, 122, 123]) rfl rfl (hK61 _ ?_))))))); clear hK61 K61
    refine pwp_cond rfl (fun hb66 => ?_) (fun hb66 => ?_)
    ·have hb66R := hb66; try simp only [zz] at hb66
     refine pwp_plain rfl fun K67 hK67 => p_mS rfl (p_mS rfl (p_e rfl (e_faQ pl3 rfl) (p_store rfl (e_store1 rfl ((hset_ne (key_ne rfl)).trans ((hset_ne (key_ne rfl)).trans ((hset_ne (key_ne rfl)).trans hihj50_4))) rfl rfl rfl (by decide) (by kernel_rfl) rfl (by kernel_rfl)) trivial (p_e rfl (e_faQ pl3 rfl) (p_store rfl (e_store1 rfl (hset_self _ _ _) rfl rfl rfl (by decide) (by kernel_rfl) rfl (by kernel_rfl)) trivial (p_end (hK67 _ ?_))))))); clear hK67 K67
     refine block_norm (seq_norm (hK54 _ ?_)); clear hK54 K54
     refine pwp_plain rfl fun K68 hK68 => p_e rfl (e_adL rfl rfl) (p_mS rfl (p_end (hK68 _ ?_))); clear hK68 K68
     exact loop_again ((i + 1, (i : Int), (eG xs c D x g f (i : Int)))) (by show _ < _; simp only; omega) ⟨rfl, rfl, rfl, rfl, rfl, rfl, rfl, rfl, rfl, rfl, rfl, rfl, rfl, rfl, trivial⟩ ⟨rfl, trivial⟩ (by exact ⟨by show _ + 1 ≤ _; simp only [List.length_map] at *; omega, by (dsimp only; first | exact BI.tr hgk hbi (by assumption) | exact BI.late hgk hbi (by omega) | exact BI.keep hgk hbi (by omega) (by omega) | exact BI.take hgk hbi (by omega) (by assumption) (by omega) (.inl (by omega)) | exact BI.take hgk hbi (by omega) (by assumption) (by omega) (.inr (by omega))), by (dsimp only; omega), by (show NP _ 154 2 Sp.enc _ _; refine hnp2.keep ?_; intro g; repeat (first | refine (hset_ne (key_ne rfl)).trans ?_ | rfl)), ((hset_ne (key_ne rfl)).trans ((hset_ne (key_ne rfl)).trans ((hset_ne (key_ne rfl)).trans ((hset_ne (key_ne rfl)).trans ((hset_ne (key_ne rfl)).trans hihj50_0))))), ((hset_ne (key_ne rfl)).trans ((hset_ne (key_ne rfl)).trans ((hset_ne (key_ne rfl)).trans ((hset_ne (key_ne rfl)).trans ((hset_ne (key_ne rfl)).trans hihj50_1))))), ((hset_ne (key_ne rfl)).trans ((hset_ne (key_ne rfl)).trans ((hset_ne (key_ne rfl)).trans ((hset_ne (key_ne rfl)).trans ((hset_ne (key_ne rfl)).trans hihj50_2))))), ((hset_ne (key_ne rfl)).trans ((hset_ne (key_ne rfl)).trans ((hset_ne (key_ne rfl)).trans ((hset_ne (key_ne rfl)).trans ((hset_ne (key_ne rfl)).trans hihj50_3))))), (hset_self _ _ _)⟩)
    have hb66R := hb66; try simp only [zz] at hb66
    refine pwp_skip (block_norm (seq_norm (hK54 _ ?_))); clear hK54 K54
    refine pwp_plain rfl fun K69 hK69 => p_e rfl (e_adL rfl rfl) (p_mS rfl (p_end (hK69 _ ?_))); clear hK69 K69
    exact loop_again ((i + 1, bg, bs)) (by show _ < _; simp only; omega) ⟨rfl, rfl, rfl, rfl, rfl, rfl, rfl, rfl, rfl, rfl, rfl, rfl, rfl, rfl, trivial⟩ ⟨rfl, trivial⟩ (by exact ⟨by show _ + 1 ≤ _; simp only [List.length_map] at *; omega, by (dsimp only; first | exact BI.tr hgk hbi (by assumption) | exact BI.late hgk hbi (by omega) | exact BI.keep hgk hbi (by omega) (by omega) | exact BI.take hgk hbi (by omega) (by assumption) (by omega) (.inl (by omega)) | exact BI.take hgk hbi (by omega) (by assumption) (by omega) (.inr (by omega))), by (dsimp only; omega), by (show NP _ 154 2 Sp.enc _ _; refine hnp2.keep ?_; intro g; repeat (first | refine (hset_ne (key_ne rfl)).trans ?_ | rfl)), ((hset_ne (key_ne rfl)).trans ((hset_ne (key_ne rfl)).trans ((hset_ne (key_ne rfl)).trans hihj50_0))), ((hset_ne (key_ne rfl)).trans ((hset_ne (key_ne rfl)).trans ((hset_ne (key_ne rfl)).trans hihj50_1))), ((hset_ne (key_ne rfl)).trans ((hset_ne (key_ne rfl)).trans ((hset_ne (key_ne rfl)).trans hihj50_2))), ((hset_ne (key_ne rfl)).trans ((hset_ne (key_ne rfl)).trans ((hset_ne (key_ne rfl)).trans hihj50_3))), ((hset_ne (key_ne rfl)).trans ((hset_ne (key_ne rfl)).trans ((hset_ne (key_ne rfl)).trans hihj50_4)))⟩)
   have hb62R := hb62; try simp only [zz] at hb62
   iterate 9 refine g_skip rfl rfl rfl ?_
   refine g_pF rfl rfl rfl (g_end (ds := [115, 116, 117, 118, 119, 120, 121, 122, 123]) rfl rfl (hK61 _ ?_)); clear hK61 K61
   refine pwp_cond (t := false) rfl nofun (fun _ => ?_)
   refine pwp_skip (block_norm (seq_norm (hK54 _ ?_))); clear hK54 K54
   refine pwp_plain rfl fun K70 hK70 => p_e rfl (e_adL rfl rfl) (p_mS rfl (p_end (hK70 _ ?_))); clear hK70 K70
   exact loop_again ((i + 1, bg, bs)) (by show _ < _; simp only; omega) ⟨rfl, rfl, rfl, rfl, rfl, rfl, rfl, rfl, rfl, rfl, rfl, rfl, rfl, rfl, trivial⟩ ⟨rfl, trivial⟩ (by exact ⟨by show _ + 1 ≤ _; simp only [List.length_map] at *; omega, by (dsimp only; first | exact BI.tr hgk hbi (by assumption) | exact BI.late hgk hbi (by omega) | exact BI.keep hgk hbi (by omega) (by omega) | exact BI.take hgk hbi (by omega) (by assumption) (by omega) (.inl (by omega)) | exact BI.take hgk hbi (by omega) (by assumption) (by omega) (.inr (by omega))), by (dsimp only; omega), by (show NP _ 154 2 Sp.enc _ _; refine hnp2.keep ?_; intro g; repeat (first | refine (hset_ne (key_ne rfl)).trans ?_ | rfl)), ((hset_ne (key_ne rfl)).trans ((hset_ne (key_ne rfl)).trans ((hset_ne (key_ne rfl)).trans hihj50_0))), ((hset_ne (key_ne rfl)).trans ((hset_ne (key_ne rfl)).trans ((hset_ne (key_ne rfl)).trans hihj50_1))), ((hset_ne (key_ne rfl)).trans ((hset_ne (key_ne rfl)).trans ((hset_ne (key_ne rfl)).trans hihj50_2))), ((hset_ne (key_ne rfl)).trans ((hset_ne (key_ne rfl)).trans ((hset_ne (key_ne rfl)).trans hihj50_3))), ((hset_ne (key_ne rfl)).trans ((hset_ne (key_ne rfl)).trans ((hset_ne (key_ne rfl)).trans hihj50_4)))⟩)
  have hb53R := hb53; try simp only [zz] at hb53
  obtain rfl : i = c.gangs.length := by simp only [List.length_map] at *; omega
  refine pwp_exit (exit_seq ?_)
  clear hK52 K52
  refine exit_loop (exit_here (seq_norm (hK45 _ ?_))); clear hK45 K45
  refine pwp_seq_seq (pwp_seq_plain rfl fun K71 hK71 => p_e rfl (e_faQ pl3 rfl) (p_e rfl (e_lH (v := .sc _) rfl hihj50_4 rfl) (p_e rfl (e_lt rfl rfl) (p_end (hK71 _ ?_))))); clear hK71 K71
  refine pwp_seq_cond rfl fun K72 hK72 => ⟨fun hb73 => ?_, fun hb73 => ?_⟩
  ·have hb73R := hb73; try simp only [zz] at hb73
   refine pwp_seq_plain rfl fun K74 hK74 => p_e rfl (e_assign (v := .nil) rfl) (p_aS rfl (p_end (hK74 _ ?_))); clear hK74 K74
   refine pwp_ret (ret_seq (ret_block (ret_seq (ret_loop (ret_block (ret_seq (end2 (v := .nil) (w := .sc _) rfl rfl ?_)))))))
   exact schP_out3 hp hc0 (go_none hdr hgo (by rw [hxd, ← hfe]; exact pk_none (hbi.noF (by assumption))))
  have hb73R := hb73; try simp only [zz] at hb73
  refine pwp_skip (seq_norm (hK72 _ ?_)); clear hK72 K72
  have hb1 : ¬ bg < 0 := by omega
  obtain ⟨hb0, hpk⟩ := hbi.yesF hb1
  have hgo3 := go_some hdr hgo (by rw [hxd, ← hfe]; exact pk_some hpk)
  have hok3 := pk_ok hpk hx (by omega) (by omega) hco.2.1
  have hdi3 := hdi.snoc hkO hpk.task hok3
  have hst : (SLx xs.length D).set (at0 (ordR (ndX xs)) k).toNat ⟨(at0 (ordR (ndX xs)) k), bg, bs⟩ = SLx xs.length (D ++ [⟨(at0 (ordR (ndX xs)) k), bg, bs⟩]) := SLx_snoc (x := ⟨(at0 (ordR (ndX xs)) k), bg, bs⟩) (by dsimp only; omega) hTn
  refine pwp_seq_plain rfl fun K75 hK75 => p_e rfl (e_move (v := .ref _ _ _ _) rfl) (p_mS rfl (p_e rfl (e_loadHA (cs := Slot.enc ((⟨(at0 (ordR (ndX xs)) k), bg, bs⟩ : Slot))) (n := 3) rfl hihj50_4 (by kernel_rfl) (by kernel_rfl) (by kernel_rfl) (by exact Nat.zero_lt_one) (by decide) rfl) (p_e rfl (e_ixaR0 rfl rfl (by kernel_rfl) (by kernel_rfl) (by first | omega | (simp only [List.length_map]; omega))) (p_store rfl (e_storeR (xs := (SLx xs.length D)) (a := (⟨(at0 (ordR (ndX xs)) k), bg, bs⟩ : Slot)) rfl hihj50_1 rfl (by (rw [SLx_len]; omega)) (fun _ => rfl) (by kernel_rfl) rfl (by kernel_rfl)) trivial (p_end (hK75 _ ?_)))))); clear hK75 K75
  obtain ⟨u, hu⟩ : ∃ u, vs[bg.toNat]? = some u := ⟨_, List.getElem?_eq_getElem (by rw [hnp2.len, bsT_len]; omega)⟩
  have hbr : 0 ≤ bg ∧ bg ≤ (c.gangs.length : Int) - 1 := by omega
  have hul := hnp2.get hu (bsT_getI hbr)
  have hgl := bsG_len (xs := xs) (d := D) (g := bg)
  have hvl : vs.length = c.gangs.length := by rw [hnp2.len, bsT_len]
  refine pwp_gopsK rfl fun hkn K76 hK76 => ?_
  have hfs := hkn.fresh 154
  refine s_begin (s_e rfl (e_move (v := .ref _ _ _ _) rfl) (s_e rfl (e_faQ pl3 rfl) (s_step [17] (by simp) rfl rfl rfl rfl (e_lH (v := .sc _) rfl ((hset_ne (key_ne rfl)).trans hihj50_4) rfl) trivial (s_e rfl (e_move (v := .ref _ _ _ _) rfl) (s_e rfl (e_faQ pl3 rfl) (s_step [17] (by simp) rfl rfl rfl rfl (e_lH (v := .sc _) rfl ((hset_ne (key_ne rfl)).trans hihj50_4) rfl) trivial (s_e rfl (e_ixaR0 rfl rfl (by kernel_rfl) (by kernel_rfl) (by omega)) ?_)))))))
  refine s_step [41] (by simp) rfl rfl rfl rfl (e_loadV (v := u) rfl ((hset_ne (key_ne rfl)).trans hihj50_2) (by kernel_rfl) (by kernel_rfl) (by kernel_rfl) hu) trivial (s_e rfl (e_faQ pl3 rfl) (s_step [17] (by simp) rfl rfl rfl rfl (e_lH (v := .sc _) rfl ((hset_ne (key_ne rfl)).trans hihj50_4) rfl) trivial (s_e rfl (e_faQ pl3 rfl) (s_step [17] (by simp) rfl rfl rfl rfl (e_lH (v := .sc _) rfl ((hset_ne (key_ne rfl)).trans hihj50_4) rfl) trivial (s_e rfl (e_faQ pl6 rfl) (s_step [13] (by simp) rfl rfl rfl rfl (e_lH (v := .sc _) rfl ((hset_ne (key_ne rfl)).trans hihj50_3) rfl) trivial (s_e rfl (e_adL rfl rfl) ?_)))))))
  refine s_e rfl (e_build (cs := Sp.enc (⟨(⟨(at0 (ordR (ndX xs)) k), bg, bs⟩ : Slot).start, ((⟨(at0 (ordR (ndX xs)) k), bg, bs⟩ : Slot).start + x.minutes)⟩ : Sp)) (zs := [.int 0, .int 0]) (pl := [(0, 1, false), (1, 1, false)]) (by kernel_rfl) (by kernel_rfl) (by kernel_rfl) rfl rfl (by exact ⟨by decide, rfl, Nat.le_of_ble_eq_true rfl, rfl, ⟨by decide, rfl, Nat.le_of_ble_eq_true rfl, rfl, trivial⟩⟩) rfl) (s_new [] (by simp) rfl rfl rfl rfl (e_bslice (rows := [Sp.enc ⟨bs, bs + x.minutes⟩]) (zs := [.int 0, .int 0]) (sz := 2) (by kernel_rfl) (by kernel_rfl) rfl (by kernel_rfl) (by decide) rfl rfl (by exact ⟨by decide, rfl, rfl, trivial⟩) rfl) trivial (s_appK (u := u) (sz := 2) (d1 := 154) (rows := (bsG xs D bg).map Sp.enc) (rows2 := [Sp.enc ⟨bs, bs + x.minutes⟩]) (ds := [153]) [154, 153] [154] (by simp) (by simp) (by simp) rfl rfl rfl (hul.keep fun _ => (hset_ne (key_ne rfl)).trans ((hset_ne (key_ne rfl)).trans (rfl))) (SrcAt.ref (hset_self _ _ _) rfl) rfl (by kernel_rfl) (by simp only [List.length_map, List.length_cons, List.length_nil]; omega) (by simp) fun h1 hr1 hf1 => ?_))
  have hsp : spY xs (⟨(at0 (ordR (ndX xs)) k), bg, bs⟩ : Slot) = ⟨bs, bs + x.minutes⟩ := by rw [spY, tsk_at hx]
  have hnp3 := (hnp2.keep (fun g => (hset_ne (key_ne rfl)).trans ((hset_ne (key_ne rfl)).trans (rfl)))).app (Fresh.keep (d := 154) hfs (fun g => hset_ne (key_ne rfl)) rfl) (l' := bsG xs D bg ++ [spY xs ⟨(at0 (ordR (ndX xs)) k), bg, bs⟩]) (v' := .ref (154, _) 2 0 (((bsG xs D bg).map Sp.enc).length + [Sp.enc ⟨bs, bs + x.minutes⟩].length)) hu (bsT_getI hbr) (congrArg (PV.ref _ 2 0) (by simp only [List.length_map, List.length_append, List.length_cons, List.length_nil])) (hr1.trans (by rw [List.map_append, hsp]; rfl)) (fun k' q1 q2 => hf1 k' q1 (fun g e => q2 g (by rw [e, List.length_map])))
  rw [show (bsT xs D c.gangs.length).set bg.toNat (bsG xs D bg ++ [spY xs ⟨(at0 (ordR (ndX xs)) k), bg, bs⟩]) = bsT xs (D ++ [⟨(at0 (ordR (ndX xs)) k), bg, bs⟩]) c.gangs.length from bsT_stepI (x := ⟨(at0 (ordR (ndX xs)) k), bg, bs⟩) hbr] at hnp3
  have ho77 := (hf1 (3, _) (key_ne rfl) (fun _ _ => key_ne rfl)).trans ((hset_ne (key_ne rfl)).trans ((hset_ne (key_ne rfl)).trans hihj50_0))
  have ho78 := (hf1 (37, _) (key_ne rfl) (fun _ _ => key_ne rfl)).trans ((hset_ne (key_ne rfl)).trans (hset_self _ _ _))
  have ho79 := (hf1 (41, _) (key_ne rfl) (fun _ _ => key_ne rfl)).trans ((hset_ne (key_ne rfl)).trans ((hset_ne (key_ne rfl)).trans hihj50_2))
  have ho80 := (hf1 (13, _) (key_ne rfl) (fun _ _ => key_ne rfl)).trans ((hset_ne (key_ne rfl)).trans ((hset_ne (key_ne rfl)).trans hihj50_3))
  have ho81 := (hf1 (17, _) (key_ne rfl) (fun _ _ => key_ne rfl)).trans ((hset_ne (key_ne rfl)).trans ((hset_ne (key_ne rfl)).trans hihj50_4))
  have ho82 := (hf1 (153, _) (key_ne rfl) (fun _ _ => key_ne rfl)).trans (hset_self _ _ _)
  refine s_e rfl (e_ixaR0 rfl rfl (by kernel_rfl) (by kernel_rfl) (by omega)) (s_store [41] (by simp) rfl rfl (e_storeV rfl ho79 rfl rfl rfl (by rw [hnp2.len, bsT_len]; omega) (by kernel_rfl) (by kernel_rfl)) trivial (s_end (ds := []) (by kernel_rfl) (by kernel_rfl) (hK76 _ ?_))); clear hK76 K76
  refine block_norm (seq_norm (hK24 _ ?_)); clear hK24 K24
  refine pwp_plain rfl fun K83 hK83 => p_e rfl (e_adL rfl rfl) (p_mS rfl (p_end (hK83 _ ?_))); clear hK83 K83
  exact loop_again ((k + 1, D ++ [⟨(at0 (ordR (ndX xs)) k), bg, bs⟩], _)) (by show _ < _; simp only; omega) ⟨rfl, rfl, rfl, rfl, rfl, rfl, trivial⟩ ⟨rfl, trivial⟩ (by exact ⟨by show _ + 1 ≤ _; simp only [List.length_map] at *; omega, by exact hgo3, by exact hdi3, by (show NP _ 154 2 Sp.enc _ _; refine hnp3.keep ?_; intro g; exact hset_ne (key_ne rfl)), ((hset_ne (key_ne rfl)).trans ho77), (((hset_ne (key_ne rfl)).trans ho78).trans (by (rw [hst]))), (hset_self _ _ _)⟩)
 have hb23R := hb23; try simp only [zz] at hb23
 have hge : schO xs c = some D := go_end hgo (by simp only [List.length_map] at *; omega)
 refine pwp_exit (exit_seq ?_)
 clear hK22 K22
 refine exit_loop (exit_here (seq_norm (hK15 _ ?_))); clear hK15 K15
 refine pwp_seq_plain rfl fun K84 hK84 => p_e rfl (e_move (v := .ref _ _ _ _) rfl) (p_e rfl (e_assign (v := .ref _ _ _ _) rfl) (p_aS rfl (p_end (hK84 _ ?_)))); clear hK84 K84
 refine pwp_ret (end2 (v := .ref _ _ _ _) (w := .sc _) rfl rfl ?_)
 exact schP_out4 hp hc0 hge hihj20_1

end Go.Proofs.Ytjmjiegplnfiiaa

/- ErectionSchedules at P level. No conditions. -/
set_option linter.unusedSimpArgs false
set_option linter.unusedVariables false
set_option maxRecDepth 100000
namespace Go.Proofs.Ytjmjiegplnfiiaa
open Go Go.Pv
section
variable {xs : List Task} {c : Crew}
end

end Go.Proofs.Ytjmjiegplnfiiaa
