import Derived.Test.YtmlhhdiomijpfaaGreatDoorEPr
set_option linter.unusedSimpArgs false
set_option linter.unusedVariables false
namespace Go.Proofs.YtmlhhdiomijpfaaGreatDoor
open Go Go.Pv Go.Tx
open E7
structure TaskG (t : Task) : Prop where
 nm : t.name.size ≤ 12 ∧ ∀ b ∈ ls t.name, b ≠ 32 ∧ b ≠ 10
 tr : t.trade.size ≤ 12 ∧ ∀ b ∈ ls t.trade, b ≠ 32 ∧ b ≠ 10
 rng : (-1 ≤ t.member ∧ t.member ≤ 3999) ∧ (0 ≤ t.place ∧ t.place ≤ 999) ∧ (0 ≤ t.minutes ∧ t.minutes ≤ 10000)
 nd : ∀ z ∈ t.needs, 0 ≤ z ∧ z < 4000
theorem nm_chars {s : ByteArray} (h : isNm s = true) : s.size ≤ 12 ∧ ∀ b ∈ ls s, b ≠ 32 ∧ b ≠ 10 := by
 simp only [isNm, decide_eq_true_eq] at h;refine ⟨h.2.1, fun b hb => ?_⟩;obtain ⟨i, hi, he⟩ := List.getElem_of_mem hb;have hi' : i < s.size := by rw [← ls_len]; exact hi
 have h1 := h.2.2 i hi'
 have h2 : byteAt s i = (b.toNat : Int) := by
   unfold byteAt
   have : s.data.toList.getD i 0 = b := by
     rw [List.getD_eq_getElem?_getD];have : (ls s)[i]? = some b := by rw [List.getElem?_eq_getElem hi, he]
     show ((ls s)[i]?).getD 0 = b;rw [this]; rfl
   rw [this]
 rw [h2] at h1;unfold chOk at h1;constructor
 · intro e; subst e;have e1 : (((32 : UInt8).toNat : Nat) : Int) = 32 := rfl;rw [e1] at h1; omega
 · intro e; subst e;have e1 : (((10 : UInt8).toNat : Nat) : Int) = 10 := rfl;rw [e1] at h1; omega
theorem plan_good {l : List Task} (h : planE l = 0) : l.length ≤ 4000 ∧ ∀ t ∈ l, TaskG t := by
 unfold planE at h;split at h
 · cases h
 · rename_i hl;split at h
   · rename_i h2; exact absurd h h2
   · rename_i h2;refine ⟨by omega, fun t ht => ?_⟩;obtain ⟨i, hi⟩ := List.getElem?_of_mem ht;have h3 : tasksF l 0 l = 0 := Classical.not_not.1 h2;have h4 := tasks_ok h3 i t hi;unfold taskE at h4;split at h4
     · cases h4
     · rename_i hn;split at h4
       · cases h4
       · split at h4
         · cases h4
         · rename_i hr;have h5 : rngT t := Classical.not_not.1 hr;have h6 := listE_ok h4;have n1 : isNm t.name = true := by cases hq : isNm t.name with | true => rfl | false => exact absurd (.inl hq) hn
           have n2 : isNm t.trade = true := by cases hq : isNm t.trade with | true => rfl | false => exact absurd (.inr hq) hn
           exact ⟨nm_chars n1, nm_chars n2, h5, fun z hz => by have := h6.1 z hz; omega⟩
def nums (t : Task) : List Int := t.member :: t.place :: t.minutes :: t.needs
def numsL (ns : List Int) : List UInt8 := ns.flatMap fun n => 32 :: Lib.itoa n
def headL (t : Task) : List UInt8 := ls t.name ++ 32 :: ls t.trade
def bodyL (t : Task) : List UInt8 := headL t ++ numsL (nums t)
def prtL (l : List Task) : List UInt8 := l.flatMap fun t => bodyL t ++ [10]
theorem itoa_chars {n : Int} (h : -1 ≤ n ∧ n < 10000000) : ∀ b ∈ Lib.itoa n, b ≠ 32 ∧ b ≠ 10 := fun b hb => by
 by_cases h0 : 0 ≤ n
 · obtain ⟨v, rfl⟩ := Int.eq_ofNat_of_zero_le h0;rw [itoa_nat] at hb;have := dd_chars 6 v (by omega) b hb;constructor <;> intro e <;> subst e <;> revert this <;> decide
 · have : n = -1 := by omega
   subst this;have e : Lib.itoa (-1) = [45, 49] := by decide +kernel
   rw [e] at hb;simp only [List.mem_cons, List.not_mem_nil, or_false] at hb;rcases hb with rfl | rfl <;> decide
theorem nums_rng {t : Task} (h : TaskG t) : ∀ n ∈ nums t, -1 ≤ n ∧ n < 10000000 := fun n hn => by
 simp only [nums, List.mem_cons] at hn;have := h.rng;rcases hn with rfl | rfl | rfl | hn
 · omega
 · omega
 · omega
 · have := h.nd n hn; omega
theorem body_no10 {t : Task} (h : TaskG t) : ¬ (10 : UInt8) ∈ bodyL t := fun hm => by
 simp only [bodyL, headL, numsL, List.mem_append, List.mem_cons, List.mem_flatMap] at hm;rcases hm with (hm | hm | hm) | ⟨n, hn, hm | hm⟩
 · exact (h.nm.2 10 hm).2 rfl
 · exact absurd hm (by decide)
 · exact (h.tr.2 10 hm).2 rfl
 · exact absurd hm (by decide)
 · exact (itoa_chars (nums_rng h n hn) 10 hm).2 rfl
theorem cut_nums : ∀ (ns : List Int) (p : List UInt8), (∀ n ∈ ns, -1 ≤ n ∧ n < 10000000) → ¬ (32 : UInt8) ∈ p → cutL 32 (p ++ numsL ns) = p :: ns.map Lib.itoa
 | [], p, _, hp => by simp only [numsL, List.flatMap_nil, List.append_nil, List.map_nil]; exact cutL_none hp
 | n :: ns, p, h, hp => by
   have e : p ++ numsL (n :: ns) = p ++ 32 :: (Lib.itoa n ++ numsL ns) := by simp [numsL]
   rw [e, cutL_app hp, List.map_cons];congr 1;exact cut_nums ns _ (fun m hm => h m (List.mem_cons_of_mem _ hm)) (fun q => (itoa_chars (h n (List.mem_cons_self ..)) 32 q).1 rfl)
theorem cut_body {t : Task} (h : TaskG t) : cutL 32 (bodyL t) = ls t.name :: ls t.trade :: (nums t).map Lib.itoa := by
 have e : bodyL t = ls t.name ++ 32 :: (ls t.trade ++ numsL (nums t)) := by simp [bodyL, headL]
 rw [e, cutL_app (fun q => (h.nm.2 32 q).1 rfl), cut_nums _ _ (nums_rng h) (fun q => (h.tr.2 32 q).1 rfl)]
theorem val_nat {n : Int} {f : Bool} (h : 0 ≤ n ∧ n < 10000000) : val7 f (Lib.itoa n) = some n := by
 obtain ⟨v, rfl⟩ := Int.eq_ofNat_of_zero_le h.1;rw [itoa_nat];have := num7_yes (v := v) (by omega);unfold val7;rw [if_pos this.1, this.2]
theorem val_one {n : Int} (h : -1 ≤ n ∧ n < 10000000) : val7 true (Lib.itoa n) = some n := by
 by_cases h0 : 0 ≤ n
 · exact val_nat ⟨h0, h.2⟩
 · have : n = -1 := by omega
   subst this;have e : Lib.itoa (-1) = [45, 49] := by decide +kernel
   unfold val7;rw [e, if_neg (by rw [num7_neg]; decide), if_pos ⟨rfl, rfl⟩]
theorem vals_nat : ∀ (ns : List Int), (∀ n ∈ ns, 0 ≤ n ∧ n < 10000000) → vals7 false (ns.map Lib.itoa) = some ns
 | [], _ => rfl
 | n :: ns, h => by
   rw [List.map_cons];unfold vals7;rw [val_nat (h n (List.mem_cons_self ..)), vals_nat ns fun m hm => h m (List.mem_cons_of_mem _ hm)]
theorem vals_nums {t : Task} (h : TaskG t) : vals7 true ((nums t).map Lib.itoa) = some (nums t) := by
 unfold nums;rw [List.map_cons];unfold vals7;have hr := h.rng
 rw [val_one (by omega), vals_nat _ fun n hn => by
   simp only [List.mem_cons] at hn;rcases hn with rfl | rfl | hn
   · omega
   · omega
   · have := h.nd n hn; omega]
theorem task_body {t : Task} (h : TaskG t) : taskP (bs (bodyL t)) = some t := by
 have hc : cutB 32 (bs (bodyL t)) = t.name :: t.trade :: ((nums t).map Lib.itoa).map bs := by
   unfold cutB;rw [ls_bs, cut_body h, List.map_cons, List.map_cons]; rfl
 have hw : wds (bs (bodyL t)) = (nums t).map Lib.itoa := by
   unfold wds;rw [hc];simp only [List.drop_succ_cons, List.drop_zero, List.map_map];rfl
 unfold taskP;rw [if_neg (by rw [hc]; simp [nums]), hw, vals_nums h, hc];cases t; rfl
theorem par_lines : ∀ (l : List Task) (k : Nat), (∀ t ∈ l, TaskG t) → parT (cutB 10 (bs (prtL l))) k = .ok l
 | [], k, _ => rfl
 | t :: l, k, h => by
   have ht := h t (List.mem_cons_self ..);have e : prtL (t :: l) = bodyL t ++ 10 :: prtL l := by simp [prtL]
   have hc : cutB 10 (bs (prtL (t :: l))) = bs (bodyL t) :: cutB 10 (bs (prtL l)) := by
     unfold cutB;rw [ls_bs, e, cutL_app (body_no10 ht), ls_bs]; rfl
   have ih := par_lines l (k + 1) fun u hu => h u (List.mem_cons_of_mem _ hu);rw [hc];cases hq : cutB 10 (bs (prtL l)) with
   | nil => exact absurd hq (cutB_ne _ _)
   | cons y r =>
     rw [hq] at ih;rw [parT, task_body ht, ih]
theorem ln_lines : ∀ (l : List Task) (m : Nat), (∀ t ∈ l, TaskG t) → (∀ t ∈ l, (bodyL t).length ≤ m) → (∀ x ∈ cutB 10 (bs (prtL l)), x.size ≤ m) ∧ (cutB 10 (bs (prtL l))).length = l.length + 1
 | [], m, _, _ => ⟨fun x hx => by
     have : cutB 10 (bs (prtL [])) = [⟨#[]⟩] := rfl;rw [this] at hx; simp at hx; subst hx; exact Nat.zero_le _, rfl⟩
 | t :: l, m, h, hm => by
   have ht := h t (List.mem_cons_self ..);have e : prtL (t :: l) = bodyL t ++ 10 :: prtL l := by simp [prtL]
   have hc : cutB 10 (bs (prtL (t :: l))) = bs (bodyL t) :: cutB 10 (bs (prtL l)) := by
     unfold cutB;rw [ls_bs, e, cutL_app (body_no10 ht), ls_bs]; rfl
   have ih := ln_lines l m (fun u hu => h u (List.mem_cons_of_mem _ hu)) fun u hu => hm u (List.mem_cons_of_mem _ hu);rw [hc];refine ⟨fun x hx => ?_, by rw [List.length_cons, ih.2, List.length_cons]⟩;rcases List.mem_cons.1 hx with rfl | hx
   · rw [bs_size]; exact hm t (List.mem_cons_self ..)
   · exact ih.1 x hx
theorem itoa_le {n : Int} (h : -1 ≤ n ∧ n < 10000000) : (Lib.itoa n).length ≤ 7 := by
 by_cases h0 : 0 ≤ n
 · obtain ⟨v, rfl⟩ := Int.eq_ofNat_of_zero_le h0;rw [itoa_nat]; exact dd_len 6 v (by omega)
 · have : n = -1 := by omega
   subst this; decide +kernel
theorem nums_len : ∀ (ns : List Int), (∀ n ∈ ns, -1 ≤ n ∧ n < 10000000) → (numsL ns).length ≤ ns.length * 8
 | [], _ => Nat.le_refl _
 | n :: ns, h => by
   have := nums_len ns fun m hm => h m (List.mem_cons_of_mem _ hm);have h1 := itoa_le (h n (List.mem_cons_self ..));have e : numsL (n :: ns) = 32 :: (Lib.itoa n ++ numsL ns) := by simp [numsL]
   rw [e, List.length_cons, List.length_append, List.length_cons]; omega
theorem body_len {t : Task} (h : TaskG t) (hn : t.needs.length ≤ 30) : (bodyL t).length ≤ 300 := by
 have h1 := nums_len _ (nums_rng h);have h2 : (nums t).length = t.needs.length + 3 := rfl
 have h3 : (headL t).length = t.name.size + 1 + t.trade.size := by
   unfold headL;rw [List.length_append, List.length_cons, ls_len, ls_len]; omega
 have h4 := h.nm.1;have h5 := h.tr.1;unfold bodyL;rw [List.length_append]; omega
theorem prt_len : ∀ (l : List Task), (∀ t ∈ l, (bodyL t).length ≤ 300) → (prtL l).length ≤ l.length * 301
 | [], _ => Nat.le_refl _
 | t :: l, h => by
   have := prt_len l fun u hu => h u (List.mem_cons_of_mem _ hu);have h1 := h t (List.mem_cons_self ..);have e : prtL (t :: l) = bodyL t ++ 10 :: prtL l := by simp [prtL]
   rw [e, List.length_append, List.length_cons, List.length_cons]; omega
theorem prs_back {l : List Task} (h : planE l = 0) (hl : l.length ≤ 15) (hn : ∀ t ∈ l, t.needs.length ≤ 30) : prsX (bs (prtL l)) = (l, 0, 0) ∧ (bs (prtL l)).size ≤ 5000 ∧ LnOK (bs (prtL l)) ∧ (cutB 10 (bs (prtL l))).length ≤ 20 := by
 have hg := (plan_good h).2;have hb : ∀ t ∈ l, (bodyL t).length ≤ 300 := fun t ht => body_len (hg t ht) (hn t ht);have hz := prt_len l hb;have hln := ln_lines l 300 hg hb;have hs : (bs (prtL l)).size ≤ 5000 := by rw [bs_size]; omega
 exact ⟨prs_0 (by omega) (par_lines l 0 hg) h, hs, fun x hx => by have := hln.1 x hx; omega, by rw [hln.2]; omega⟩
end Go.Proofs.YtmlhhdiomijpfaaGreatDoor
