import Derived.Test.YtjihcgcbnbaclaaDoorRMov18
import Derived.Test.YtjihcgcbnbaclaaDoorRMov12
import Derived.Test.YtjihcgcbnbaclaaDoorEDmvA
import Derived.Test.YtjihcgcbnbaclaaDoorESto6
set_option linter.unusedSimpArgs false
set_option linter.unusedVariables false
set_option maxRecDepth 100000
namespace Go.Proofs.YtjihcgcbnbaclaaDoor.Y9
open Go Go.Pv Go.Proofs.YtjihcgcbnbaclaaDoor
open Go.Proofs.YtjihcgcbnbaclaaDoor.Y8 (Stock Movement stockE moveR cntS totC keyS Kx lack extF extT listS sumS getS)
abbrev stdB : ByteArray := ⟨#[115, 116, 100]⟩
abbrev tm0 : Term := ⟨stdB, 100, 2, 5000⟩
abbrev K0 : Kx := ⟨stdB, 0, 0⟩
abbrev K1 : Kx := ⟨stdB, 1, 0⟩
def way (k c : Int) : Movement := if k = 1 then ⟨stdB, 1, 0, 0, 0, c⟩ else if k = 2 then ⟨stdB, 1, -1, 0, 0, c⟩ else ⟨stdB, 0, 1, 0, 0, c⟩
theorem way_1 {k c : Int} (h : k = 1) : (⟨stdB, 1, 0, 0, 0, c⟩ : Movement) = way k c := by rw [way, if_pos h]
theorem way_2 {k c : Int} (h : k = 2) : (⟨stdB, 1, -1, 0, 0, c⟩ : Movement) = way k c := by rw [way, if_neg (by omega), if_pos h]
theorem way_0 {k c : Int} (h : ¬ k = 1) (h2 : ¬ k = 2) : (⟨stdB, 0, 1, 0, 0, c⟩ : Movement) = way k c := by rw [way, if_neg h, if_neg h2]
theorem way_part {k c : Int} : (way k c).part = stdB := by unfold way; split; rfl; split <;> rfl
theorem way_cnt {k c : Int} : (way k c).count = c := by unfold way; split; rfl; split <;> rfl
theorem way_mv {k c : Int} (hc : 1 ≤ c ∧ c ≤ 100000) : Y8.mvE (way k c) = 0 := by
 have hn : Y8.isNm stdB = true := by decide +kernel
 have h : ∀ m : Movement, m.part = stdB → Y8.rngQ m → Y8.permQ m → Y8.mvE m = 0 := fun m h1 h2 h3 => by
   rw [Y8.mvE, h1, hn, if_neg (by decide), if_neg (fun q => q h2), Y8.permP, decide_eq_true h3]; rfl
 unfold way;split
 · refine h _ rfl ?_ ?_
   · unfold Y8.rngQ; simp only; omega
   · simp [Y8.permQ]
 · split
   · refine h _ rfl ?_ ?_
     · unfold Y8.rngQ; simp only; omega
     · simp [Y8.permQ]
   · refine h _ rfl ?_ ?_
     · unfold Y8.rngQ; simp only; omega
     · simp [Y8.permQ]
theorem K01 : ¬ K0 = K1 := fun q => by have := congrArg Y8.Shelf.place q; exact absurd this (by decide)
theorem way_ext {k c : Int} : ∀ x ∈ extF (way k c) ++ extT (way k c), x.part = stdB ∧ (keyS x = K0 ∨ keyS x = K1) := fun x hx => by
 unfold way at hx;split at hx
 · simp [extF, extT] at hx; rcases hx with rfl | rfl
   · exact ⟨rfl, .inr rfl⟩
   · exact ⟨rfl, .inl rfl⟩
 · split at hx
   · simp [extF, extT] at hx; subst hx; exact ⟨rfl, .inr rfl⟩
   · simp [extF, extT] at hx; rcases hx with rfl | rfl
     · exact ⟨rfl, .inl rfl⟩
     · exact ⟨rfl, .inr rfl⟩
theorem way_cntS {k c : Int} : cntS K0 (extF (way k c) ++ extT (way k c)) = (if k = 1 then c else if k = 2 then 0 else 0 - c) ∧ cntS K1 (extF (way k c) ++ extT (way k c)) = (if k = 1 then 0 - c else if k = 2 then 0 - c else c) := by
 have hne := K01;unfold way;split
 · simp [extF, extT, cntS, keyS, K0, K1]
 · split
   · simp [extF, extT, cntS, keyS, K0, K1]
   · simp [extF, extT, cntS, keyS, K0, K1]
theorem two_tot : ∀ {xs : List Stock}, (∀ y ∈ xs, y.part = stdB ∧ (keyS y = K0 ∨ keyS y = K1)) → totC stdB xs = cntS K0 xs + cntS K1 xs
 | [], _ => rfl
 | y :: l, h => by
   have h1 := two_tot (xs := l) fun z hz => h z (List.mem_cons_of_mem _ hz);have h2 := h y (List.mem_cons_self ..);rw [totC, cntS, cntS, if_pos h2.1, h1];rcases h2.2 with e | e
   · rw [if_pos e, if_neg (by rw [e]; exact K01)]; omega
   · rw [if_neg (by rw [e]; exact fun q => K01 q.symm), if_pos e]; omega
theorem two_len {l : List Kx} (hn : l.Nodup) (h : ∀ k ∈ l, k = K0 ∨ k = K1) : l.length ≤ 2 := by
 match l, hn, h with
 | [], _, _ => simp
 | [_], _, _ => simp
 | [_, _], _, _ => simp
 | a :: b :: c :: r, hn, h =>
   have h1 := h a (by simp); have h2 := h b (by simp); have h3 := h c (by simp);simp only [List.nodup_cons, List.mem_cons, not_or] at hn;rcases h1 with rfl | rfl <;> rcases h2 with rfl | rfl <;> rcases h3 with rfl | rfl <;> simp_all
theorem list_ok {m : Y8.Sto} (hn : ANodup m) (hk : ∀ k ∈ m.map (·.1), k = K0 ∨ k = K1) (hc : ∀ k, getS k m ≤ 1000000) : (listS m).1 = 0 := by
 have h1 : ∀ (ks : List Kx) (acc : List Stock), (Y8.lstG m acc ks).1 = 0 ∧ (Y8.lstG m acc ks).2.length ≤ acc.length + ks.length := fun ks => by
   induction ks with
   | nil => intro acc; exact ⟨rfl, Nat.le_refl _⟩
   | cons k ks ih =>
     intro acc;rw [Y8.lstG, if_neg (by have := hc k; omega)];split
     · have := ih (acc ++ [⟨k.part, k.place, k.state, getS k m⟩]);exact ⟨this.1, by have h2 := this.2; rw [List.length_append, List.length_singleton] at h2; rw [List.length_cons]; omega⟩
     · have := ih acc;exact ⟨this.1, by rw [List.length_cons]; have := this.2; omega⟩
 have hkl : (Y8.keysS m).length ≤ 2 := by
   have e : (Y8.keysS m).length = (m.map (·.1)).length := by
     unfold Y8.keysS;rw [lM, (sortSh_perm _).length_eq, lM, lM]
   rw [e]; exact two_len hn hk
 have h2 := h1 (Y8.keysS m) [];unfold listS;simp only [h2.1, if_true];rw [if_neg (by have := h2.2; rw [List.length_nil] at this; omega)];exact h2.1
structure PcI (N : Int) (xs : List Stock) (ms : List Move) (day : Int) (k : Nat) : Prop where
 n : 0 ≤ N ∧ N ≤ 1000000
 ok : stockE xs = 0
 prt : ∀ y ∈ xs, y.part = stdB ∧ (keyS y = K0 ∨ keyS y = K1)
 site : cntS K1 xs = stkL ms stdB
 tot : totC stdB xs = N - (cntL stdB ms).getD 2 0
 lost : 0 ≤ (cntL stdB ms).getD 2 0
 go : goM [tm0] [] 0 ms = 0
 last : ∀ m ∈ ms, m.day ≤ day
 mok : ∀ m ∈ ms, okM m ∧ m.part = stdB
 day : 0 ≤ day ∧ day ≤ 20000
 len : ms.length ≤ k
theorem terms0 : termsE [tm0] = 0 := by decide +kernel
theorem ix0 : termIx [tm0] stdB = 0 := by decide +kernel
theorem std_nm : Y8.isNm stdB = true := by decide +kernel
theorem PcI.start {N : Int} (h : 0 ≤ N ∧ N ≤ 1000000) : PcI N [⟨stdB, 0, 0, N⟩] [] 0 0 := by
 refine ⟨h, ?_, fun y hy => ?_, ?_, ?_, Int.le_refl _, rfl, fun m hm => absurd hm List.not_mem_nil, fun m hm => absurd hm List.not_mem_nil, by decide, Nat.le_refl _⟩
 · rw [stockE, if_neg (by simp)];rw [Y8.goS, std_nm, if_neg (by decide), if_neg (by unfold Y8.badS; simp only; omega)]; rfl
 · rw [List.mem_singleton] at hy; subst hy; exact ⟨rfl, .inl rfl⟩
 · rw [cntS, cntS];have : ¬ keyS (⟨stdB, 0, 0, N⟩ : Stock) = K1 := K01;rw [if_neg this]; rfl
 · rw [totC, totC, if_pos rfl];show N + 0 = N - 0;omega
section
variable {N day : Int} {xs : List Stock} {ms : List Move} {k : Nat} {y : Move}
theorem PcI.skip (h : PcI N xs ms day k) : PcI N xs ms day (k + 1) := { h with len := Nat.le_succ_of_le h.len }
theorem PcI.nn (h : PcI N xs ms day k) : (0 ≤ cntS K0 xs ∧ 0 ≤ cntS K1 xs) ∧ cntS K0 xs + cntS K1 xs ≤ 1000000 := by
 have h0 : ∀ x ∈ xs, 0 ≤ x.count := fun x hx => ((Y8.stockE_ok h.ok).2 x hx).2.2.1;have h1 := two_tot h.prt;have h2 := h.tot; have h3 := h.lost; have h4 := h.n;exact ⟨⟨Y8.cntS_0 h0, Y8.cntS_0 h0⟩, by omega⟩
theorem PcI.err (h : PcI N xs ms day k) {kd c : Int} (hc : 1 ≤ c ∧ c ≤ 100000) : (moveR xs (way kd c)).1 = 0 ∨ (moveR xs (way kd c)).1 = 22 := by
 rw [moveR, if_neg (fun q => q h.ok), if_neg (fun q => q (way_mv hc))];by_cases hl : lack xs (way kd c)
 · rw [if_pos hl]; exact .inr rfl
 · rw [if_neg hl];refine .inl (list_ok (Y8.sum_nodup _) (fun kk hk => ?_) fun kk => ?_)
   · rcases (Y8.sumS_keys kk _ _).1 hk with q | q
     · exact absurd q (by simp)
     · obtain ⟨x, hx, rfl⟩ := List.mem_map.1 q;rcases List.mem_append.1 hx with hx | hx
       · exact (h.prt x hx).2
       · exact (way_ext x hx).2
   · rw [Y8.getS_sum0];have hnn := h.nn;have hw := way_cntS (k := kd) (c := c);by_cases e0 : kk = K0
     · subst e0;rw [Y8.cntS_app, hw.1]
       have hl1 : (way kd c).fro = 1 → c ≤ cntS K1 xs := fun q => by
         have hb : (way kd c).before = 0 := by unfold way; split; rfl; split <;> rfl
         refine Classical.byContradiction fun q2 => hl ⟨by omega, ?_⟩;rw [way_part, q, hb, way_cnt]; exact Int.not_le.1 q2
       by_cases e1 : kd = 1
       · have := hl1 (by rw [way, if_pos e1]); rw [if_pos e1]; omega
       · rw [if_neg e1]; split <;> omega
     · by_cases e1 : kk = K1
       · subst e1;rw [Y8.cntS_app, hw.2]
         have hl0 : (way kd c).fro = 0 → c ≤ cntS K0 xs := fun q => by
           have hb : (way kd c).before = 0 := by unfold way; split; rfl; split <;> rfl
           refine Classical.byContradiction fun q2 => hl ⟨by omega, ?_⟩;rw [way_part, q, hb, way_cnt]; exact Int.not_le.1 q2
         by_cases f1 : kd = 1
         · rw [if_pos f1]; omega
         · by_cases f2 : kd = 2
           · rw [if_neg f1, if_pos f2]; omega
           · have := hl0 (by rw [way, if_neg f1, if_neg f2]); rw [if_neg f1, if_neg f2]; omega
       · have hz : ∀ l : List Stock, (∀ x ∈ l, keyS x = K0 ∨ keyS x = K1) → cntS kk l = 0 := fun l => by
           induction l with
           | nil => intro _; rfl
           | cons x l ih =>
             intro hx
             rw [cntS, if_neg (fun q => by
               rcases hx x (List.mem_cons_self ..) with e | e
               · exact e0 (q.symm.trans e)
               · exact e1 (q.symm.trans e)), ih fun z hz => hx z (List.mem_cons_of_mem _ hz)]; rfl
         rw [hz _ fun x hx => by
           rcases List.mem_append.1 hx with hx | hx
           · exact (h.prt x hx).2
           · exact (way_ext x hx).2]; decide
theorem mvE_low {ts : List Term} {pre : List Move} {m : Move} {last : Int} (h : mvE ts pre 0 m = 0) (hl : last ≤ m.day) : mvE ts pre last m = 0 := by
 unfold mvE at h ⊢;split at h
 · cases h
 · rename_i hb;rw [if_neg hb, if_neg (by omega)];split at h
   · cases h
   · exact h
theorem goM_snoc {ts : List Term} {m : Move} : ∀ (l pre : List Move) (last : Int), goM ts pre last l = 0 → last ≤ m.day → (∀ y ∈ l, y.day ≤ m.day) → mvE ts (pre ++ l) 0 m = 0 → goM ts pre last (l ++ [m]) = 0
 | [], pre, last, _, h1, _, h3 => by
   rw [List.append_nil] at h3;show goM ts pre last [m] = 0;rw [goM, if_pos (mvE_low h3 h1)]; rfl
 | y :: l, pre, last, h0, h1, h2, h3 => by
   rw [goM] at h0;by_cases e : mvE ts pre last y = 0
   · rw [if_pos e] at h0;rw [List.cons_append, goM, if_pos e];exact goM_snoc l (pre ++ [y]) y.day h0 (h2 y (List.mem_cons_self ..)) (fun z hz => h2 z (List.mem_cons_of_mem _ hz)) (by rw [List.append_assoc]; exact h3)
   · rw [if_neg e] at h0; exact absurd h0 e
theorem cnt_snoc {ms : List Move} {m : Move} (hm : m.part = stdB) : cntL stdB (ms ++ [m]) = (cntL stdB ms).set m.kind.toNat ((cntL stdB ms).getD m.kind.toNat 0 + m.count) := by
 rw [cntL, List.foldl_append];show cntStep stdB (cntL stdB ms) m = _;rw [cntStep, if_pos hm]
theorem cnt3 (ms : List Move) : ∃ a b c : Int, cntL stdB ms = [a, b, c] := by
 have h := cntL_len stdB ms
 match hq : cntL stdB ms, h with
 | [a, b, c], _ => exact ⟨a, b, c, rfl⟩
theorem PcI.step (h : PcI N xs ms day k) {w : Movement} (hw : w = way y.kind y.count) (hk : 0 ≤ y.kind ∧ y.kind ≤ 2) (hd : day ≤ y.day ∧ y.day ≤ 20000) (hc : 1 ≤ y.count ∧ y.count ≤ 100000) (h0 : (moveR xs w).1 = 0) : PcI N (moveR xs w).2 (ms ++ [{ y with part := stdB }]) y.day (k + 1) := by
 subst hw;have hmv := Y8.move_parts h.ok h0;have hc1 := Y8.cnt_move h.ok h0 K1;rw [way_cntS.2] at hc1;have ht := Y8.tot_move (p := stdB) h.ok h0;have htw : ∀ l : List Stock, stockE l = 0 → Y8.totW l stdB = totC stdB l := fun l hl => by rw [Y8.totW, if_pos hl, Y8.totS_eq, Int.zero_add]
 rw [htw _ Y8.moveR_ok, htw _ h.ok] at ht
 have hmq : Y8.moreQ (way y.kind y.count) stdB = if y.kind = 2 then 0 - y.count else 0 := by
   unfold way;by_cases e1 : y.kind = 1
   · rw [if_pos e1, if_neg (by omega)]; rfl
   · by_cases e2 : y.kind = 2
     · rw [if_neg e1, if_pos e2, if_pos e2]; rfl
     · rw [if_neg e1, if_neg e2, if_neg e2]; rfl
 rw [hmq] at ht;have hsn := cnt_snoc (ms := ms) (m := { y with part := stdB }) rfl;obtain ⟨a, b, c, hq⟩ := cnt3 ms;have hst : stkL ms stdB = a - b - c := by rw [stkL, hq]; rfl
 have hlo : (cntL stdB ms).getD 2 0 = c := by rw [hq]; rfl
 have hsite := h.site; have htot := h.tot; have hlost := h.lost;rw [hst] at hsite; rw [hlo] at htot hlost
 have hlk : ¬ y.kind = 0 → y.count ≤ cntS K1 xs := fun q => by
   refine Classical.byContradiction fun q2 => hmv.2.1 ?_;have hf : (way y.kind y.count).fro = 1 := by unfold way; split; rfl; split; rfl; omega
   have hb : (way y.kind y.count).before = 0 := by unfold way; split; rfl; split <;> rfl
   refine ⟨by omega, ?_⟩;rw [way_part, hf, hb, way_cnt]; exact Int.not_le.1 q2
 have hkinds : y.kind = 0 ∨ y.kind = 1 ∨ y.kind = 2 := by omega
 have hnew : stkL (ms ++ [{ y with part := stdB }]) stdB = (if y.kind = 0 then a + y.count - b - c else a - b - c - y.count) ∧ (cntL stdB (ms ++ [{ y with part := stdB }])).getD 2 0 = if y.kind = 2 then c + y.count else c := by
   rw [stkL, hsn, hq];rcases hkinds with e | e | e
   · simp only [e, Int.toNat_zero];refine ⟨?_, ?_⟩
     · show (a + y.count) - b - c = _; simp
     · show c = _; simp
   · simp only [e];refine ⟨?_, ?_⟩
     · show a - (b + y.count) - c = _; simp; omega
     · show c = _; simp
   · simp only [e];refine ⟨?_, ?_⟩
     · show a - b - (c + y.count) = _; simp; omega
     · show c + y.count = _; simp
 refine ⟨h.n, Y8.moveR_ok, fun e he => ?_, ?_, ?_, ?_, ?_, fun m hm => ?_, fun m hm => ?_, ⟨by have := h.day; omega, hd.2⟩, ?_⟩
 · obtain ⟨_, ⟨x, hx, hke⟩, _⟩ := Y8.moveR_mem e he
   have hx2 : x.part = stdB ∧ (keyS x = K0 ∨ keyS x = K1) := by
     rcases List.mem_append.1 hx with hx | hx
     · exact h.prt x hx
     · exact way_ext x hx
   exact ⟨(Y8.keyS_part hke).1.trans hx2.1, by rw [hke]; exact hx2.2⟩
 · rw [hc1, hnew.1, hsite];rcases hkinds with e | e | e <;> simp [e] <;> omega
 · rw [ht, hnew.2, htot];rcases hkinds with e | e | e <;> simp [e] <;> omega
 · rw [hnew.2]; split <;> omega
 · refine goM_snoc ms [] 0 h.go (by show 0 ≤ y.day; have := h.day; omega) (fun z hz => by show z.day ≤ y.day; have := h.last z hz; omega) ?_;rw [List.nil_append];refine mvE_0 ?_ ?_ ?_ ?_
   · unfold badM; simp only; have := h.day; omega
   · show ¬ y.day < 0; have := h.day; omega
   · show ¬ termIx [tm0] stdB < 0; rw [ix0]; decide
   · rintro ⟨q1, q2⟩
     have q3 := hlk q1;have q4 : stkL ms stdB < y.count := q2;rw [hst] at q4; omega
 · rcases List.mem_append.1 hm with hm | hm
   · have := h.last m hm; omega
   · rw [List.mem_singleton] at hm; subst hm; exact Int.le_refl _
 · rcases List.mem_append.1 hm with hm | hm
   · exact h.mok m hm
   · rw [List.mem_singleton] at hm; subst hm; exact ⟨⟨hk, by show 0 ≤ y.count ∧ y.count ≤ 100000; omega⟩, rfl⟩
 · rw [List.length_append, List.length_singleton]; have := h.len; omega
theorem PcI.tm (h : PcI N xs ms day k) (hk : k ≤ 20) : tmE [tm0] ms = 0 := tm_mk terms0 (by have := h.len; omega) h.go
theorem PcI.td (h : PcI N xs ms day k) (hk : k ≤ 20) : tdE [tm0] ms 20000 = 0 := (td_0 (h.tm hk) (by decide)).symm
theorem PcI.bal (h : PcI N xs ms day k) (hk : k ≤ 20) : balP [tm0] ms 20000 = [bal4 stdB ms] := by
 rw [balP_0 (h.td hk), ← upM_all fun m hm => by have := h.last m hm; have := h.day; omega]; rfl
theorem PcI.fin (h : PcI N xs ms day k) (hk : k ≤ 20) : Y8.cntW xs stdB ⟨1, 0⟩ = (bal4 stdB ms).d ∧ Y8.totW xs stdB + (bal4 stdB ms).c = N ∧ (bal4 stdB ms).a = (bal4 stdB ms).b + (bal4 stdB ms).c + (bal4 stdB ms).d ∧ sumC stdB (lotsP [tm0] ms) = (bal4 stdB ms).a := by
 refine ⟨?_, ?_, ?_, ?_⟩
 · rw [Y8.cntW, if_pos h.ok]; exact h.site
 · rw [Y8.totW, if_pos h.ok, Y8.totS_eq, Int.zero_add, h.tot];show N - (cntL stdB ms).getD 2 0 + (cntL stdB ms).getD 2 0 = N;omega
 · show (cntL stdB ms).getD 0 0 = (cntL stdB ms).getD 1 0 + (cntL stdB ms).getD 2 0 + ((cntL stdB ms).getD 0 0 - (cntL stdB ms).getD 1 0 - (cntL stdB ms).getD 2 0)
   omega
 · rw [lotsP_0 (h.tm hk)]; exact lots_sum (t := tm0) (h.tm hk) (List.mem_singleton_self _)
end
end Go.Proofs.YtjihcgcbnbaclaaDoor.Y9
