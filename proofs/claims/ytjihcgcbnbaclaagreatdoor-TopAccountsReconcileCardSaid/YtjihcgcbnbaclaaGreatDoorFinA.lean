import Derived.Test.YtjihcgcbnbaclaaGreatDoorRMov17
import Derived.Test.YtjihcgcbnbaclaaGreatDoorPvGh
import Derived.Test.YtjihcgcbnbaclaaGreatDoorRMovC
import Derived.Test.YtjihcgcbnbaclaaGreatDoorRMov18
import Derived.Test.YtjihcgcbnbaclaaGreatDoorEDmvA
import Derived.Test.YtjihcgcbnbaclaaGreatDoorESto6
set_option linter.unusedSimpArgs false
set_option linter.unusedVariables false
set_option maxRecDepth 100000
set_option maxHeartbeats 4000000
namespace Go.Proofs.YtjihcgcbnbaclaaGreatDoor.Y9
open Go Go.Pv Go.Proofs.YtjihcgcbnbaclaaGreatDoor
section
variable {P : Program} {ρ : Operand → PV} {h : Heap} {key : Key} {x y : Operand} {t t' : TypeId} {k : IntKind} {a b : Int}
theorem e_neF (hx : ρ x = .sc (.int k a)) (hy : ρ y = .sc (.int k b)) (hb : ¬ a ≠ b) : eff P ρ h key (.binOp .neq t x y t') = ⟨True, .bool false, [], [], false⟩ := by rw [e_ne hx hy, decide_eq_false hb]
end
structure RentX where
 terms : List Term
 moves : List Move
def RentX.enc (x : RentX) : List PV := [.lit true 4 (x.terms.map Term.enc), .lit true 4 (x.moves.map Move.enc)]
theorem RentX.pure (x : RentX) : ∀ p ∈ x.enc, Pure p := fun p hp => by
 simp only [RentX.enc, List.mem_cons, List.not_mem_nil, or_false] at hp;rcases hp with rfl | rfl
 · exact .lit _ _ _ fun row hr => pure_map Term.pure row hr
 · exact .lit _ _ _ fun row hr => pure_map Move.pure row hr
structure WeeksX where
 rent : RentX
 fro : Int
 til : Int
def fineB (x : RentX) : Bool := decide ((x.terms.length : Int) ≤ 6) && (decide ((x.moves.length : Int) ≤ 24) && decide (tmE x.terms x.moves = 0))
theorem fine_all {x : RentX} (h : fineB x = true) : x.terms.length ≤ 6 ∧ x.moves.length ≤ 24 ∧ tmE x.terms x.moves = 0 := by
 unfold fineB at h;simp only [Bool.and_eq_true, decide_eq_true_eq] at h;exact ⟨by omega, by omega, h.2.2⟩
theorem fr6 : (inFrame Tryz.f6.ntmps (Tryz.f6.body.getD .skip) && Tryz.f6.results.toList.all (resScope Tryz.f6.ntmps)) = true := by kernel_rfl
theorem fine (x : RentX) (hlt : x.terms.length ≤ 9223372036854775807) (hlm : x.moves.length ≤ 9223372036854775807) : PCalls Tryz.prog 6 [.agg x.enc] (.bool (fineB x)) := by
 refine PCalls.of_code Tryz.func6 rfl rfl (by kernel_rfl) mixed fr6 (by show _ ≤ 21; simp) (.sc _) (pwp_seq_plain rfl fun K1 hK1 => p_new rfl (e_box (n := 2) rfl rfl) ⟨rfl, by decide⟩ (p_aS rfl (p_end (hK1 _ ?_)))); clear hK1 K1;refine pwp_seq_cutG [] [(2, .bool (((decide (((((x.terms).map Term.enc).length : Nat) : Int) ≤ (6))) && (decide (((((x.moves).map Move.enc).length : Nat) : Int) ≤ (24)))) && (decide ((tmE x.terms x.moves) = (0)))))] (fun K2 hK2 => ?_) (fun r3 => ?_)
 ·skip
  refine pwp_gops rfl fun K4 hK4 => g_begin (g_e rfl (e_faQ pl2 rfl) (g_e rfl (e_lH (v := .lit _ _ _) rfl (hset_self _ _ _) rfl) (g_e rfl (e_len rfl (by kernel_rfl)) (g_e rfl (e_le rfl rfl) (g_mS rfl rfl ?_)))));refine g_cases (fun hb5 => ?_) (fun hb5 => ?_)
  ·have hb5R := hb5; try simp only [zz] at hb5
   refine g_e rfl (e_faQ pl2 rfl) (g_e rfl (e_lH (v := .lit _ _ _) rfl (hset_self _ _ _) rfl) (g_e rfl (e_len rfl (by kernel_rfl)) (g_e rfl (e_le rfl rfl) (g_pT rfl rfl rfl (g_mS rfl rfl ?_)))));refine g_cases (fun hb6 => ?_) (fun hb6 => ?_)
   ·have hb6R := hb6; try simp only [zz] at hb6
    refine g_e rfl (e_faQ pl2 rfl) (g_e rfl (e_lH (v := .lit _ _ _) rfl (hset_self _ _ _) rfl) (g_e rfl (e_faQ pl2 rfl) (g_e rfl (e_lH (v := .lit _ _ _) rfl (hset_self _ _ _) rfl) (g_call rfl rfl rfl rfl (.cons inn_lit (.cons inn_lit .nil)) (CheckR x.terms x.moves (by first | omega | (simp only [lM] at *; omega)) (by first | omega | (simp only [lM] at *; omega))) (g_e rfl (e_eq rfl rfl) (g_pT rfl rfl rfl (g_aS rfl rfl ?_)))))));refine g_end (ds := [8, 9, 10, 11, 14, 15, 16, 17, 18, 19]) rfl rfl (hK4 _ ?_); clear hK4 K4;exact seq_norm (hK2 _ trivial ⟨(congrArg PV.bool (show ((decide ((tmE x.terms x.moves) = (0))) : Bool) = (((decide (((((x.terms).map Term.enc).length : Nat) : Int) ≤ (6))) && (decide (((((x.moves).map Move.enc).length : Nat) : Int) ≤ (24)))) && (decide ((tmE x.terms x.moves) = (0)))) by first | rfl | ((try rw [hb6R]) <;> (try rw [hb5R]) <;> (first | rfl | (simp only [Bool.and_true, Bool.and_false, Bool.true_and, Bool.false_and, Bool.or_true, Bool.or_false, Bool.true_or, Bool.false_or, Bool.not_true, Bool.not_false, if_true, if_false, Bool.false_eq_true, reduceIte] <;> rfl))) | ((try rw [hb5R]) <;> (try rw [hb6R]) <;> (first | rfl | (simp only [Bool.and_true, Bool.and_false, Bool.true_and, Bool.false_and, Bool.or_true, Bool.or_false, Bool.true_or, Bool.false_or, Bool.not_true, Bool.not_false, if_true, if_false, Bool.false_eq_true, reduceIte] <;> rfl))) | (simp only [hb5R, hb6R, Bool.and_true, Bool.and_false, Bool.true_and, Bool.false_and, Bool.or_true, Bool.or_false, Bool.true_or, Bool.false_or, Bool.not_true, Bool.not_false, if_true, if_false, Bool.false_eq_true, reduceIte] <;> rfl))), trivial⟩)
   ·have hb6R := hb6; try simp only [zz] at hb6
    iterate 4 refine g_skip rfl rfl rfl ?_
    refine g_nocall rfl rfl rfl (g_skip rfl rfl rfl (g_pF rfl rfl rfl (g_aS rfl rfl (g_end (ds := [8, 9, 10, 11, 14, 15, 16, 17, 18, 19]) rfl rfl (hK4 _ ?_))))); clear hK4 K4;exact seq_norm (hK2 _ trivial ⟨(congrArg PV.bool (show (false : Bool) = (((decide (((((x.terms).map Term.enc).length : Nat) : Int) ≤ (6))) && (decide (((((x.moves).map Move.enc).length : Nat) : Int) ≤ (24)))) && (decide ((tmE x.terms x.moves) = (0)))) by first | rfl | ((try rw [hb6R]) <;> (try rw [hb5R]) <;> (first | rfl | (simp only [Bool.and_true, Bool.and_false, Bool.true_and, Bool.false_and, Bool.or_true, Bool.or_false, Bool.true_or, Bool.false_or, Bool.not_true, Bool.not_false, if_true, if_false, Bool.false_eq_true, reduceIte] <;> rfl))) | ((try rw [hb5R]) <;> (try rw [hb6R]) <;> (first | rfl | (simp only [Bool.and_true, Bool.and_false, Bool.true_and, Bool.false_and, Bool.or_true, Bool.or_false, Bool.true_or, Bool.false_or, Bool.not_true, Bool.not_false, if_true, if_false, Bool.false_eq_true, reduceIte] <;> rfl))) | (simp only [hb5R, hb6R, Bool.and_true, Bool.and_false, Bool.true_and, Bool.false_and, Bool.or_true, Bool.or_false, Bool.true_or, Bool.false_or, Bool.not_true, Bool.not_false, if_true, if_false, Bool.false_eq_true, reduceIte] <;> rfl))), trivial⟩)
  ·have hb5R := hb5; try simp only [zz] at hb5
   iterate 4 refine g_skip rfl rfl rfl ?_
   refine g_pF rfl rfl rfl (g_mS rfl rfl ?_);iterate 4 refine g_skip rfl rfl rfl ?_
   refine g_nocall rfl rfl rfl (g_skip rfl rfl rfl (g_pF rfl rfl rfl (g_aS rfl rfl (g_end (ds := [8, 9, 10, 11, 14, 15, 16, 17, 18, 19]) rfl rfl (hK4 _ ?_))))); clear hK4 K4;exact seq_norm (hK2 _ trivial ⟨(congrArg PV.bool (show (false : Bool) = (((decide (((((x.terms).map Term.enc).length : Nat) : Int) ≤ (6))) && (decide (((((x.moves).map Move.enc).length : Nat) : Int) ≤ (24)))) && (decide ((tmE x.terms x.moves) = (0)))) by rw [hb5R]; rfl)), trivial⟩)
 ·skip
  refine pwp_ret (end1 (v := .sc _) rfl ?_)
  first
    | exact out_b (by simp only [lM, fineB, Bool.and_assoc])
    | exact out_b (fine_1 (by simp only [lM] at *; omega))
    | exact out_b (fine_2 (by simp only [lM] at *; omega))
    | exact out_b (fine_3 (by simp only [lM] at *; omega) (by simp only [lM] at *; omega))
end Go.Proofs.YtjihcgcbnbaclaaGreatDoor.Y9

set_option linter.unusedSimpArgs false
set_option linter.unusedVariables false
namespace Go.Proofs.YtjihcgcbnbaclaaGreatDoor.Y9
open Go Go.Pv
open Go.Proofs.YtjihcgcbnbaclaaGreatDoor.Y8 (Stock Movement stockE moveR cntS totC keyS Kx lack extF extT listS sumS getS putS putF settS)
theorem nm_same (s : ByteArray) : Y8.isNm s = isNm s := rfl
def nK (p : ByteArray) (l : List Move) (j : Nat) : Int := (cntL p l).getD j 0
theorem nK_nil (p : ByteArray) (j : Nat) : nK p [] j = 0 := by
 unfold nK cntL
 match j with
 | 0 => rfl
 | 1 => rfl
 | 2 => rfl
 | j + 3 => rfl
theorem nK_snoc {p : ByteArray} {l : List Move} {m : Move} (hm : okM m) {j : Nat} (hj : j < 3) : nK p (l ++ [m]) j = nK p l j + if m.part = p ∧ m.kind = (j : Int) then m.count else 0 := by
 have hc : cntL p (l ++ [m]) = cntStep p (cntL p l) m := by rw [cntL, List.foldl_append]; rfl
 have h3 := cntL_len p l;unfold nK;rw [hc];unfold cntStep;by_cases hp : m.part = p
 · rw [if_pos hp]
   match hq : cntL p l, h3 with
   | [a, b, c], _ =>
     have hk : m.kind = 0 ∨ m.kind = 1 ∨ m.kind = 2 := by have := hm.1; omega
     match j, hj with
     | 0, _ => rcases hk with e | e | e <;> simp [e, hp]
     | 1, _ => rcases hk with e | e | e <;> simp [e, hp]
     | 2, _ => rcases hk with e | e | e <;> simp [e, hp]
 · rw [if_neg hp, if_neg (fun q => hp q.1)]; omega
theorem nK_mono {p : ByteArray} {j : Nat} (hj : j < 3) : ∀ (b a : List Move), (∀ m ∈ b, okM m) → nK p a j ≤ nK p (a ++ b) j
 | [], a, _ => by rw [List.append_nil]; exact Int.le_refl _
 | m :: b, a, h => by
   have hm := h m (List.mem_cons_self ..);have h1 := nK_mono (p := p) hj b (a ++ [m]) fun x hx => h x (List.mem_cons_of_mem _ hx);have h2 := nK_snoc (p := p) (l := a) hm hj;rw [show a ++ m :: b = (a ++ [m]) ++ b by simp];have := hm.2;split at h2 <;> omega
theorem nK_0 {p : ByteArray} {j : Nat} (hj : j < 3) {l : List Move} (h : ∀ m ∈ l, okM m) : 0 ≤ nK p l j := by
 have := nK_mono (p := p) hj l [] h;rw [nK_nil, List.nil_append] at this; exact this
theorem nK_none {p : ByteArray} {j : Nat} (hj : j < 3) : ∀ (b a : List Move), (∀ m ∈ b, okM m ∧ ¬ m.part = p) → nK p (a ++ b) j = nK p a j
 | [], a, _ => by rw [List.append_nil]
 | m :: b, a, h => by
   have hm := h m (List.mem_cons_self ..);rw [show a ++ m :: b = (a ++ [m]) ++ b by simp, nK_none (p := p) hj b (a ++ [m]) fun x hx => h x (List.mem_cons_of_mem _ hx), nK_snoc hm.1 hj, if_neg (fun q => hm.2 q.1)]; omega
theorem stk_nK (l : List Move) (p : ByteArray) : stkL l p = nK p l 0 - nK p l 1 - nK p l 2 := rfl
theorem goM_at {ts : List Term} {m : Move} {b : List Move} : ∀ (a pre : List Move) (last : Int), goM ts pre last (a ++ m :: b) = 0 → ¬ m.kind = 0 → m.count ≤ stkL (pre ++ a) m.part
 | [], pre, last, h, hk => by
   rw [List.nil_append, goM] at h;rw [List.append_nil];by_cases e : mvE ts pre last m = 0
   · unfold mvE at e;split at e
     · cases e
     · split at e
       · cases e
       · split at e
         · cases e
         · split at e
           · cases e
           · rename_i q; exact Int.not_lt.1 fun q2 => q ⟨hk, q2⟩
   · rw [if_neg e] at h; exact absurd h e
 | y :: a, pre, last, h, hk => by
   rw [List.cons_append, goM] at h;by_cases e : mvE ts pre last y = 0
   · rw [if_pos e] at h;have := goM_at a (pre ++ [y]) y.day h hk
     rwa [List.append_assoc, List.singleton_append] at this
   · rw [if_neg e] at h; exact absurd h e
theorem goT_nm : ∀ (l pre : List Term), goT pre l = 0 → ∀ t ∈ l, isNm t.part = true
 | [], _, _, t, ht => absurd ht List.not_mem_nil
 | a :: l, pre, h, t, ht => by
   unfold goT at h;split at h
   · cases h
   · rename_i h1;split at h
     · cases h
     · split at h
       · cases h
       · rcases List.mem_cons.1 ht with rfl | ht
         · simpa using h1
         · exact goT_nm l _ h t ht
theorem terms_nm {ts : List Term} (h : termsE ts = 0) : ∀ t ∈ ts, isNm t.part = true := by
 unfold termsE at h;split at h
 · cases h
 · exact goT_nm ts [] h
def mvw (m : Move) : Movement := ⟨m.part, if m.kind = 0 then 0 else 1, if m.kind = 0 then 1 else if m.kind = 2 then 2 else 0, 0, 0, m.count⟩
def tgS (ms l : List Move) (q : Kx) : Int := if q.state = 0 then (if q.place = 0 then nK q.part ms 0 - nK q.part l 0 + nK q.part l 1 else if q.place = 1 then stkL l q.part else if q.place = 2 then nK q.part l 2 else 0) else 0
def st0 (ms : List Move) (ts : List Term) : List Stock := ts.flatMap fun t => if 0 < nK t.part ms 0 then [⟨t.part, 0, 0, nK t.part ms 0⟩] else []
structure PrI (ts : List Term) (ms l : List Move) (xs : List Stock) : Prop where
 ok : stockE xs = 0
 cnt : ∀ q : Kx, cntS q xs = tgS ms l q
 tot : ∀ p, totC p xs = nK p ms 0
 len : xs.length ≤ 6 + 2 * l.length
 stk : ∀ p, 0 ≤ stkL l p
theorem st0_len {ms : List Move} : ∀ {ts : List Term}, (st0 ms ts).length ≤ ts.length
 | [] => Nat.le_refl _
 | t :: ts => by
   have := st0_len (ms := ms) (ts := ts);unfold st0 at this ⊢;rw [List.flatMap_cons, List.length_append, List.length_cons];split <;> simp only [List.length_cons, List.length_nil] <;> omega
theorem st0_mem {ms : List Move} {ts : List Term} : ∀ x ∈ st0 ms ts, ∃ t ∈ ts, x = ⟨t.part, 0, 0, nK t.part ms 0⟩ ∧ 0 < nK t.part ms 0 := fun x hx => by
 obtain ⟨t, ht, hx⟩ := List.mem_flatMap.1 hx;split at hx
 · rw [List.mem_singleton] at hx; exact ⟨t, ht, hx, by assumption⟩
 · exact absurd hx List.not_mem_nil
open Classical in
theorem st0_cnt {ms : List Move} (q : Kx) (h0 : 0 ≤ nK q.part ms 0) : ∀ {ts : List Term}, (ts.map fun t : Term => t.part).Nodup → cntS q (st0 ms ts) = if q.place = 0 ∧ q.state = 0 ∧ q.part ∈ ts.map (fun t : Term => t.part) then nK q.part ms 0 else 0
 | [], _ => by simp [st0, cntS]
 | t :: ts, hn => by
   rw [List.map_cons, List.nodup_cons] at hn;have ih := st0_cnt q h0 hn.2;have e : st0 ms (t :: ts) = (if 0 < nK t.part ms 0 then [⟨t.part, 0, 0, nK t.part ms 0⟩] else []) ++ st0 ms ts := by unfold st0; rw [List.flatMap_cons]
   rw [e, Y8.cntS_app, ih, List.map_cons, List.mem_cons];obtain ⟨qp, ql, qs⟩ := q;simp only at h0 ⊢
   have e1 : cntS ⟨qp, ql, qs⟩ (if 0 < nK t.part ms 0 then [(⟨t.part, 0, 0, nK t.part ms 0⟩ : Stock)] else []) = if t.part = qp ∧ ql = 0 ∧ qs = 0 then nK qp ms 0 else 0 := by
     by_cases hp : t.part = qp
     · subst hp;split
       · simp only [cntS, keyS, Y8.Shelf.mk.injEq, true_and, Int.add_zero];by_cases h : ql = 0 ∧ qs = 0
         · rw [if_pos h, if_pos ⟨h.1.symm, h.2.symm⟩]
         · rw [if_neg h, if_neg fun q => h ⟨q.1.symm, q.2.symm⟩]
       · have : nK t.part ms 0 = 0 := by omega
         rw [this]; simp [cntS]
     · have hn2 : ¬ (t.part = qp ∧ ql = 0 ∧ qs = 0) := fun q => hp q.1;rw [if_neg hn2];by_cases h1 : 0 < nK t.part ms 0
       · rw [if_pos h1]; simp [cntS, keyS, hp]
       · rw [if_neg h1]; rfl
   rw [e1];by_cases hp : t.part = qp
   · subst hp;simp only [true_and, true_or, and_true];rw [if_neg (fun q : ql = 0 ∧ qs = 0 ∧ _ => hn.1 q.2.2)]; omega
   · have hp' : ¬ qp = t.part := fun q => hp q.symm;simp only [hp, hp', false_and, false_or, if_false, Int.zero_add]
open Classical in
theorem st0_tot {ms : List Move} (p : ByteArray) (h0 : 0 ≤ nK p ms 0) : ∀ {ts : List Term}, (ts.map fun t : Term => t.part).Nodup → totC p (st0 ms ts) = if p ∈ ts.map (fun t : Term => t.part) then nK p ms 0 else 0
 | [], _ => by simp [st0, totC]
 | t :: ts, hn => by
   rw [List.map_cons, List.nodup_cons] at hn;have ih := st0_tot p h0 hn.2;have e : st0 ms (t :: ts) = (if 0 < nK t.part ms 0 then [⟨t.part, 0, 0, nK t.part ms 0⟩] else []) ++ st0 ms ts := by unfold st0; rw [List.flatMap_cons]
   rw [e, Y8.totC_app, ih, List.map_cons, List.mem_cons]
   have e1 : totC p (if 0 < nK t.part ms 0 then [(⟨t.part, 0, 0, nK t.part ms 0⟩ : Stock)] else []) = if t.part = p then nK p ms 0 else 0 := by
     by_cases hp : t.part = p
     · subst hp;split
       · simp [totC]
       · have : nK t.part ms 0 = 0 := by omega
         rw [this]; simp [totC]
     · rw [if_neg hp];split
       · simp [totC, hp]
       · rfl
   rw [e1];by_cases hp : t.part = p
   · subst hp;simp only [true_or, if_true];rw [if_neg hn.1]; omega
   · have hp' : ¬ p = t.part := fun q => hp q.symm;simp only [hp, hp', false_or, if_false, Int.zero_add]
section
variable {ts : List Term} {ms l : List Move} {xs : List Stock} {m : Move}
theorem part_in (h : tmE ts ms = 0) : ∀ m ∈ ms, ∃ t ∈ ts, t.part = m.part := fun m hm => by
 obtain ⟨t, h1, h2⟩ := ix_part (tm_go h m hm).2;exact ⟨t, List.mem_of_getElem? h1, h2⟩
theorem nK_out (h : tmE ts ms = 0) {p : ByteArray} (hp : ¬ p ∈ ts.map (fun t : Term => t.part)) : nK p ms 0 = 0 := by
 have := nK_none (p := p) (j := 0) (by decide) ms [] fun m hm => ⟨(tm_go h m hm).1, fun e => by
   obtain ⟨t, ht, h2⟩ := part_in h m hm;exact hp (List.mem_map.2 ⟨t, ht, h2.trans e⟩)⟩
 rw [List.nil_append, nK_nil] at this; exact this
theorem PrI.start (h : tmE ts ms = 0) (hl : ts.length ≤ 6) (hN : ∀ t ∈ ts, nK t.part ms 0 ≤ 1000000) : PrI ts ms [] (st0 ms ts) := by
 have hok : ∀ m ∈ ms, okM m := fun m hm => (tm_go h m hm).1;have hn := terms_nodup (tm_parts h).1;have hlen := st0_len (ms := ms) (ts := ts);refine ⟨?_, fun q => ?_, fun p => ?_, by rw [List.length_nil]; omega, fun p => ?_⟩
 · rw [Y8.stockE_le (by omega)];refine Y8.goS_of fun x hx => ?_;obtain ⟨t, ht, rfl, h0⟩ := st0_mem x hx;have := hN t ht;refine ⟨(nm_same _).trans (terms_nm (tm_parts h).1 t ht), ?_⟩;unfold Y8.badS; simp only; omega
 · rw [st0_cnt q (nK_0 (by decide) hok) hn];unfold tgS;simp only [stk_nK, nK_nil];by_cases hp : q.part ∈ ts.map (fun t : Term => t.part)
   · by_cases h1 : q.state = 0
     · by_cases h2 : q.place = 0
       · rw [if_pos ⟨h2, h1, hp⟩, if_pos h1, if_pos h2]; omega
       · rw [if_neg (fun q => h2 q.1), if_pos h1, if_neg h2]; simp
     · rw [if_neg (fun q => h1 q.2.1), if_neg h1]
   · rw [if_neg (fun q => hp q.2.2), nK_out h hp]; simp
 · rw [st0_tot p (nK_0 (by decide) hok) hn];by_cases hp : p ∈ ts.map (fun t : Term => t.part)
   · rw [if_pos hp]
   · rw [if_neg hp, nK_out h hp]
 · simp only [stk_nK, nK_nil]; decide
theorem mvw_ok (hm : ¬ badM m) (hn : isNm m.part = true) : Y8.mvE (mvw m) = 0 := by
 unfold badM at hm;rw [Y8.mvE, show (mvw m).part = m.part from rfl, nm_same, hn, if_neg (by decide)]
 rw [if_neg (fun q => q (by
   unfold Y8.rngQ mvw; simp only;refine ⟨?_, ?_, ?_, ?_, ?_⟩
   · split <;> omega
   · split
     · omega
     · split <;> omega
   · omega
   · omega
   · omega)), Y8.permP, decide_eq_true (by
   unfold Y8.permQ mvw; simp only;have hk : m.kind = 0 ∨ m.kind = 1 ∨ m.kind = 2 := by omega
   rcases hk with e | e | e <;> simp [e])]; rfl
theorem putS_len (x : Stock) : ∀ l : List Stock, (putS x l).length ≤ l.length + 1
 | [] => Nat.le_refl _
 | y :: l => by
   have := putS_len x l;unfold putS;cases Y8.befS y x <;> cases Y8.befS x y <;> simp only [cond_true, cond_false, List.length_cons] <;> omega
theorem putF_len : ∀ (l out : List Stock), (putF out l).length ≤ out.length + l.length
 | [], out => Nat.le_refl _
 | x :: l, out => by
   have h1 := putS_len x out;have h2 := putF_len l (putS x out);unfold putF;rw [List.length_cons]; omega
theorem ext_len (v : Movement) : (extF v ++ extT v).length ≤ 2 := by
 rw [List.length_append]; unfold extF extT;split <;> split <;> simp
theorem list_fine {k : Y8.Sto} (hk : k.length ≤ 200) (hc : ∀ q, getS q k ≤ 1000000) : (listS k).1 = 0 := by
 have h1 : ∀ (ks : List Kx) (acc : List Stock), (Y8.lstG k acc ks).1 = 0 ∧ (Y8.lstG k acc ks).2.length ≤ acc.length + ks.length := fun ks => by
   induction ks with
   | nil => intro acc; exact ⟨rfl, Nat.le_refl _⟩
   | cons q ks ih =>
     intro acc;rw [Y8.lstG, if_neg (by have := hc q; omega)];split
     · have := ih (acc ++ [⟨q.part, q.place, q.state, getS q k⟩]);exact ⟨this.1, by have h2 := this.2; rw [List.length_append, List.length_singleton] at h2; rw [List.length_cons]; omega⟩
     · have := ih acc;exact ⟨this.1, by rw [List.length_cons]; have := this.2; omega⟩
 have e : (Y8.keysS k).length = k.length := by
   unfold Y8.keysS;rw [lM, (sortSh_perm _).length_eq, lM]
 have h2 := h1 (Y8.keysS k) [];unfold listS;simp only [h2.1, if_true];rw [if_neg (by have := h2.2; rw [List.length_nil, e] at this; omega)];exact h2.1
theorem mvw_cnt (hk : okM m) (q : Kx) : cntS q (extF (mvw m) ++ extT (mvw m)) = if q.part = m.part ∧ q.state = 0 then (if q.place = 0 then (if m.kind = 0 then 0 - m.count else if m.kind = 1 then m.count else 0) else if q.place = 1 then (if m.kind = 0 then m.count else 0 - m.count) else if q.place = 2 then (if m.kind = 2 then m.count else 0) else 0) else 0 := by
 have hk3 : m.kind = 0 ∨ m.kind = 1 ∨ m.kind = 2 := by have := hk.1; omega
 obtain ⟨qp, ql, qs⟩ := q;rw [Y8.cntS_app, Y8.cnt_F, Y8.cnt_T];unfold mvw;simp only [Y8.Shelf.mk.injEq];by_cases hp : m.part = qp
 · subst hp;by_cases hs : qs = 0
   · subst hs;simp only [true_and, and_true, if_true];rcases hk3 with e | e | e <;> rw [e] <;> by_cases a : ql = 0 <;> by_cases b : ql = 1 <;> by_cases c : ql = 2 <;> simp_all <;> omega
   · have hs' : ¬ 0 = qs := fun q => hs q.symm;simp [hs, hs']
 · have hp' : ¬ qp = m.part := fun q => hp q.symm;simp [hp, hp']
theorem tg_snoc (hk : okM m) (q : Kx) : tgS ms (l ++ [m]) q = tgS ms l q + cntS q (extF (mvw m) ++ extT (mvw m)) := by
 have hk3 : m.kind = 0 ∨ m.kind = 1 ∨ m.kind = 2 := by have := hk.1; omega
 rw [mvw_cnt hk];unfold tgS;simp only [stk_nK, nK_snoc hk (show 0 < 3 by decide), nK_snoc hk (show 1 < 3 by decide), nK_snoc hk (show 2 < 3 by decide)];by_cases hp : m.part = q.part
 · have hp' : q.part = m.part := hp.symm;by_cases hs : q.state = 0
   · rw [hs, hp'];simp only [true_and, and_true, if_true];rcases hk3 with e | e | e <;> rw [e] <;> by_cases a : q.place = 0 <;> by_cases b : q.place = 1 <;> by_cases c : q.place = 2 <;> simp_all <;> omega
   · simp [hs]
 · have hp' : ¬ q.part = m.part := fun q => hp q.symm;simp [hp, hp']
theorem PrI.step (h : PrI ts ms l xs) (htm : tmE ts ms = 0) (hN : ∀ t ∈ ts, nK t.part ms 0 ≤ 1000000) {rest : List Move} (hl : ms = l ++ m :: rest) (hlen : l.length ≤ 24) : (moveR xs (mvw m)).1 = 0 ∧ PrI ts ms (l ++ [m]) (moveR xs (mvw m)).2 := by
 have hok : ∀ m ∈ ms, okM m := fun m hm => (tm_go htm m hm).1;have hmm : m ∈ ms := by rw [hl]; exact List.mem_append.2 (.inr (List.mem_cons_self ..))
 have hgo := (tm_parts htm).2.2.2;have hb := (goM_all ms [] 0 hgo m hmm).1;have hmo := hok m hmm;obtain ⟨t, ht, hpt⟩ := part_in htm m hmm;have hnm : isNm m.part = true := by rw [← hpt]; exact terms_nm (tm_parts htm).1 t ht
 have hmv := mvw_ok hb hnm
 have hN' : ∀ p, nK p ms 0 ≤ 1000000 := fun p => by
   by_cases hp : p ∈ ts.map (fun t : Term => t.part)
   · obtain ⟨t, ht, rfl⟩ := List.mem_map.1 hp; exact hN t ht
   · rw [nK_out htm hp]; decide
 have hol : ∀ x ∈ l ++ [m], okM x := fun x hx => hok x (by
   rw [hl];rcases List.mem_append.1 hx with hx | hx
   · exact List.mem_append.2 (.inl hx)
   · rw [List.mem_singleton] at hx; subst hx; exact List.mem_append.2 (.inr (List.mem_cons_self ..)))
 have hrest : ∀ x ∈ rest, okM x := fun x hx => hok x (by rw [hl]; exact List.mem_append.2 (.inr (List.mem_cons_of_mem _ hx)));have hms : ms = (l ++ [m]) ++ rest := by rw [hl]; simp
 have hA : ∀ p, nK p (l ++ [m]) 0 ≤ nK p ms 0 := fun p => by
   have := nK_mono (p := p) (j := 0) (by decide) rest (l ++ [m]) hrest;rw [← hms] at this; exact this
 have hstk : ∀ p, 0 ≤ stkL (l ++ [m]) p := fun p => by
   rw [stk_snoc hmo p];have h0 := h.stk p;split
   · rename_i hp;split
     · have := hmo.2; omega
     · rename_i hk;have := goM_at (m := m) (b := rest) l [] 0 (by rw [← hl]; exact hgo) hk;rw [List.nil_append, hp] at this; omega
   · exact h0
 have hlack : ¬ lack xs (mvw m) := by
   rintro ⟨h1, h2⟩
   rw [h.cnt] at h2;unfold tgS mvw at h2;simp only [if_true] at h2;by_cases hk : m.kind = 0
   · simp only [hk, if_true] at h2;have h3 := hA m.part;rw [nK_snoc hmo (by decide), if_pos ⟨rfl, by simpa using hk⟩] at h3;have h4 := nK_0 (p := m.part) (j := 1) (by decide) (l := l) fun x hx => hol x (List.mem_append.2 (.inl hx));omega
   · simp only [hk, if_false] at h2;have := goM_at (m := m) (b := rest) l [] 0 (by rw [← hl]; exact hgo) hk;rw [List.nil_append] at this;simp at h2; omega
 have hle : ∀ q, cntS q (xs ++ (extF (mvw m) ++ extT (mvw m))) ≤ 1000000 := fun q => by
   rw [Y8.cntS_app, h.cnt, ← tg_snoc hmo];unfold tgS;have a0 := hA q.part;have a1 := hN' q.part;have b1 := nK_0 (p := q.part) (j := 1) (by decide) hol;have b2 := nK_0 (p := q.part) (j := 2) (by decide) hol;have b3 := hstk q.part;have e := stk_nK (l ++ [m]) q.part;split
   · split
     · omega
     · split
       · omega
       · split <;> omega
   · decide
 have h0 : (moveR xs (mvw m)).1 = 0 := by
   rw [moveR, if_neg (fun q => q h.ok), if_neg (fun q => q hmv), if_neg hlack];refine list_fine ?_ fun q => ?_
   · have h1 := Y8.sumS_len (xs ++ (extF (mvw m) ++ extT (mvw m))) [];have h2 := ext_len (mvw m);have h3 := h.len;rw [List.length_append, List.length_nil] at h1; omega
   · rw [Y8.getS_sum0]; exact hle q
 refine ⟨h0, Y8.moveR_ok, fun q => ?_, fun p => ?_, ?_, hstk⟩
 · rw [Y8.cnt_move h.ok h0, h.cnt, tg_snoc hmo]
 · have ht := Y8.tot_move (p := p) h.ok h0;rw [Y8.totW, Y8.totW, if_pos Y8.moveR_ok, if_pos h.ok, Y8.totS_eq, Y8.totS_eq, Int.zero_add, Int.zero_add, h.tot] at ht;rw [ht, Y8.mq_0]
   · omega
   · rintro ⟨_, q⟩; unfold mvw at q; simp only at q; split at q <;> omega
   · rintro ⟨_, q⟩; unfold mvw at q; simp only at q
     split at q
     · omega
     · split at q <;> omega
 · obtain ⟨h3, h4, h5⟩ := Y8.move_parts h.ok h0;rw [h5] at h0 ⊢;rw [Y8.settS_filter h0];have h1 := List.length_filter_le (fun y : Stock => decide (y.count ≠ 0)) (putF [] (xs ++ (extF (mvw m) ++ extT (mvw m))));have h2 := putF_len (xs ++ (extF (mvw m) ++ extT (mvw m))) [];have h6 := ext_len (mvw m);have h7 := h.len;rw [List.length_append, List.length_nil] at h2;rw [List.length_append, List.length_singleton]; omega
end
end Go.Proofs.YtjihcgcbnbaclaaGreatDoor.Y9
