import Derived.Test.YtjihcgcbnbaclaaDoorRMov8
import Derived.Test.YtjihcgcbnbaclaaDoorRMov4
import Derived.Test.YtjihcgcbnbaclaaDoorRMov9
import Derived.Test.YtjihcgcbnbaclaaDoorRMovA
import Derived.Test.YtjihcgcbnbaclaaDoorRDayA
set_option linter.unusedSimpArgs false
set_option linter.unusedVariables false
namespace Go.Proofs.YtjihcgcbnbaclaaDoor.Y9
open Go Go.Pv Go.Proofs.YtjihcgcbnbaclaaDoor
def camR (p : ByteArray) : Int → List Move → Int
 | c, [] => c
 | c, m :: l => if m.part = p ∧ m.kind = 0 then camR p (c + m.count) l else camR p c l
def dsGo (p : ByteArray) (ms : List Move) (W : Int) : Int → List Move → List Da
 | _, [] => []
 | c, m :: l => if m.part = p ∧ m.kind = 0 then ⟨m.day, max 0 (c + m.count - max c W), goneR p c (c + m.count) m.day 0 ms⟩ :: dsGo p ms W (c + m.count) l else dsGo p ms W c l
def daStep (p : ByteArray) (ds : List Da) (m : Move) : List Da := if m.part = p then stepD m ds else ds
def daL (p : ByteArray) (ms : List Move) : List Da := ms.foldl (daStep p) []
theorem daL_snoc (p : ByteArray) (pre : List Move) (m : Move) : daL p (pre ++ [m]) = daStep p (daL p pre) m := by unfold daL; rw [List.foldl_append]; rfl
def okS (p : ByteArray) : Int → Int → List Move → Prop
 | _, _, [] => True
 | W, C, m :: l => 0 ≤ m.count ∧ (if m.part = p then (if m.kind = 0 then okS p W (C + m.count) l else W + m.count ≤ C ∧ okS p (W + m.count) C l) else okS p W C l)
section
variable {p : ByteArray} {m : Move}
theorem went_snoc (p : ByteArray) (m : Move) : ∀ (l : List Move) (w : Int), wentR p w (l ++ [m]) = if m.part = p ∧ ¬ m.kind = 0 then wentR p w l + m.count else wentR p w l
 | [], w => by simp only [List.nil_append, wentR]
 | a :: l, w => by
   rw [List.cons_append, wentR, wentR];split
   · exact went_snoc p m l _
   · exact went_snoc p m l _
theorem cam_snoc (p : ByteArray) (m : Move) : ∀ (l : List Move) (w : Int), camR p w (l ++ [m]) = if m.part = p ∧ m.kind = 0 then camR p w l + m.count else camR p w l
 | [], w => by simp only [List.nil_append, camR]
 | a :: l, w => by
   rw [List.cons_append, camR, camR];split
   · exact cam_snoc p m l _
   · exact cam_snoc p m l _
theorem gone_snoc (p : ByteArray) (m : Move) (f e d : Int) : ∀ (l : List Move) (w : Int), goneR p f e d w (l ++ [m]) = goneR p f e d w l ++ if m.part = p ∧ ¬ m.kind = 0 then (if 0 < min e (wentR p w l + m.count) - max f (wentR p w l) then [⟨p, min e (wentR p w l + m.count) - max f (wentR p w l), d, m.day, m.kind⟩] else []) else []
 | [], w => by
   rw [List.nil_append, goneR, goneR, goneR, List.nil_append];split
   · rw [List.append_nil]; rfl
   · rfl
 | a :: l, w => by
   rw [List.cons_append, goneR, goneR];by_cases h : a.part = p ∧ ¬ a.kind = 0
   · rw [if_pos h, if_pos h, gone_snoc p m f e d l, List.append_assoc, wentR, if_pos h]
   · rw [if_neg h, if_neg h, gone_snoc p m f e d l, wentR, if_neg h]
theorem went_ge (p : ByteArray) : ∀ (l : List Move) (w : Int), (∀ m ∈ l, 0 ≤ m.count) → w ≤ wentR p w l
 | [], w, _ => Int.le_refl _
 | a :: l, w, h => by
   have h0 := h a (by simp);have h1 := fun w => went_ge p l w fun m hm => h m (by simp [hm]);rw [wentR];split
   · have := h1 (w + a.count); omega
   · exact h1 w
theorem gone_none (p : ByteArray) (f e d : Int) : ∀ (l : List Move) (w : Int), (∀ m ∈ l, 0 ≤ m.count) → wentR p w l ≤ f → goneR p f e d w l = []
 | [], w, _, _ => rfl
 | a :: l, w, h, hw => by
   have h2 := fun m (hm : m ∈ l) => h m (by simp [hm]);rw [goneR];rw [wentR] at hw;split
   · rename_i hc;rw [if_pos hc] at hw;have := went_ge p l (w + a.count) h2;rw [if_neg (by omega), List.nil_append];exact gone_none p f e d l _ h2 hw
   · rename_i hc;rw [if_neg hc] at hw;exact gone_none p f e d l _ h2 hw
theorem dsGo_same (ms : List Move) (W : Int) (hm : ¬ (m.part = p ∧ ¬ m.kind = 0)) : ∀ (l : List Move) (c : Int), dsGo p (ms ++ [m]) W c l = dsGo p ms W c l
 | [], _ => rfl
 | a :: l, c => by rw [dsGo, dsGo, gone_snoc, if_neg hm, List.append_nil, dsGo_same ms W hm l, dsGo_same ms W hm l]
theorem dsGo_snoc (ms : List Move) (W : Int) : ∀ (l : List Move) (c : Int), dsGo p ms W c (l ++ [m]) = dsGo p ms W c l ++ if m.part = p ∧ m.kind = 0 then [⟨m.day, max 0 (camR p c l + m.count - max (camR p c l) W), goneR p (camR p c l) (camR p c l + m.count) m.day 0 ms⟩] else []
 | [], c => by
   rw [List.nil_append, dsGo, dsGo, dsGo, List.nil_append]; rfl
 | a :: l, c => by
   rw [List.cons_append, dsGo, dsGo];by_cases h : a.part = p ∧ a.kind = 0
   · rw [if_pos h, if_pos h, dsGo_snoc ms W l, List.cons_append, camR, if_pos h]
   · rw [if_neg h, if_neg h, dsGo_snoc ms W l, camR, if_neg h]
theorem dsGo_take (ms : List Move) (hm : m.part = p ∧ ¬ m.kind = 0) (ht : 0 ≤ m.count) : ∀ (l : List Move) (c : Int), (∀ a ∈ l, 0 ≤ a.count) →
   takeL m (max 0 (wentR p 0 ms + m.count - max c (wentR p 0 ms))) (dsGo p ms (wentR p 0 ms) c l) = dsGo p (ms ++ [m]) (wentR p 0 ms + m.count) c l
 | [], _, _ => rfl
 | a :: l, c, h => by
   have h0 := h a (by simp);have hl : ∀ b ∈ l, 0 ≤ b.count := fun b hb => h b (by simp [hb]);rw [dsGo, dsGo];by_cases hc : a.part = p ∧ a.kind = 0
   · rw [if_pos hc, if_pos hc, gone_snoc, if_pos hm, takeL];generalize hW : wentR p 0 ms = W;have ih := fun c => dsGo_take ms hm ht l c hl;rw [hW] at ih;by_cases hk : 0 < min (max 0 (W + m.count - max c W)) (max 0 (c + a.count - max c W))
     · have e1 : min (max 0 (W + m.count - max c W)) (max 0 (c + a.count - max c W)) = min (c + a.count) (W + m.count) - max c W := by omega
       have e2 : max 0 (c + a.count - max c W) - (min (c + a.count) (W + m.count) - max c W) = max 0 (c + a.count - max c (W + m.count)) := by omega
       have e3 : max 0 (W + m.count - max c W) - (min (c + a.count) (W + m.count) - max c W) = max 0 (W + m.count - max (c + a.count) W) := by omega
       rw [if_pos hk, e1, e2, e3, ih, if_pos (by omega), hm.1]
     · have e2 : max 0 (c + a.count - max c W) = max 0 (c + a.count - max c (W + m.count)) := by omega
       have e3 : max 0 (W + m.count - max c W) = max 0 (W + m.count - max (c + a.count) W) := by omega
       rw [if_neg hk, if_neg (by omega), List.append_nil, e2, e3, ih]
   · rw [if_neg hc, if_neg hc]; exact dsGo_take ms hm ht l c hl
theorem da_go : ∀ (l pre : List Move), daL p pre = dsGo p pre (wentR p 0 pre) 0 pre → okS p (wentR p 0 pre) (camR p 0 pre) l → wentR p 0 pre ≤ camR p 0 pre → (∀ a ∈ pre, 0 ≤ a.count) → daL p (pre ++ l) = dsGo p (pre ++ l) (wentR p 0 (pre ++ l)) 0 (pre ++ l)
 | [], pre, h, _, _, _ => by simpa using h
 | m :: l, pre, h, hs, hwc, hc => by
   have hs' := hs;unfold okS at hs';obtain ⟨hm0, hs'⟩ := hs'
   have hcm : ∀ a ∈ pre ++ [m], 0 ≤ a.count := fun a ha => by
     rcases List.mem_append.1 ha with ha | ha
     · exact hc a ha
     · simp at ha; rw [ha]; exact hm0
   rw [show pre ++ m :: l = (pre ++ [m]) ++ l by simp];by_cases hp : m.part = p
   · rw [if_pos hp] at hs';by_cases hk : m.kind = 0
     · rw [if_pos hk] at hs';have e1 : wentR p 0 (pre ++ [m]) = wentR p 0 pre := by rw [went_snoc, if_neg (by simp [hk])]
       have e2 : camR p 0 (pre ++ [m]) = camR p 0 pre + m.count := by rw [cam_snoc, if_pos ⟨hp, hk⟩]
       refine da_go l (pre ++ [m]) ?_ (by rw [e1, e2]; exact hs') (by rw [e1, e2]; omega) hcm;rw [e1, daL_snoc, daStep, if_pos hp, stepD, if_pos hk, dsGo_same pre _ (by simp [hk]), dsGo_snoc, if_pos ⟨hp, hk⟩, h, gone_none p _ _ _ pre 0 hc hwc];congr 4;omega
     · rw [if_neg hk] at hs';have e1 : wentR p 0 (pre ++ [m]) = wentR p 0 pre + m.count := by rw [went_snoc, if_pos ⟨hp, hk⟩]
       have e2 : camR p 0 (pre ++ [m]) = camR p 0 pre := by rw [cam_snoc, if_neg (by simp [hk])]
       refine da_go l (pre ++ [m]) ?_ (by rw [e1, e2]; exact hs'.2) (by rw [e1, e2]; exact hs'.1) hcm;have hw0 := went_ge p pre 0 hc;rw [e1, daL_snoc, daStep, if_pos hp, stepD, if_neg hk, dsGo_snoc, if_neg (by simp [hk]), List.append_nil, h, ← dsGo_take pre ⟨hp, hk⟩ hm0 pre 0 hc];congr 1;omega
   · rw [if_neg hp] at hs';have e1 : wentR p 0 (pre ++ [m]) = wentR p 0 pre := by rw [went_snoc, if_neg (by simp [hp])]
     have e2 : camR p 0 (pre ++ [m]) = camR p 0 pre := by rw [cam_snoc, if_neg (by simp [hp])]
     refine da_go l (pre ++ [m]) ?_ (by rw [e1, e2]; exact hs') (by rw [e1, e2]; exact hwc) hcm;rw [e1, daL_snoc, daStep, if_neg hp, dsGo_same pre _ (by simp [hp]), dsGo_snoc, if_neg (by simp [hp]), List.append_nil, h]
theorem out_go (ms : List Move) : ∀ (l : List Move) (c : Int), (dsGo p ms (wentR p 0 ms) c l).flatMap (outD p) = lotsGo p ms c l
 | [], _ => rfl
 | a :: l, c => by
   rw [dsGo, lotsGo];split
   · rw [List.flatMap_cons, out_go ms l];congr 1;unfold outD leftR;by_cases h : 0 < c + a.count - max c (wentR p 0 ms)
     · rw [if_pos h, if_pos (show 0 < max 0 (c + a.count - max c (wentR p 0 ms)) by omega)];congr 3;dsimp only;omega
     · rw [if_neg h, if_neg (show ¬ 0 < max 0 (c + a.count - max c (wentR p 0 ms)) by omega)]
   · exact out_go ms l c
theorem da_out {ms : List Move} (hs : okS p 0 0 ms) : (daL p ms).flatMap (outD p) = lotsR p ms := by
 have := da_go (p := p) ms [] rfl hs (Int.le_refl _) (by simp);rw [List.nil_append] at this;rw [this];exact out_go ms ms 0
end
theorem snoc_ind {α : Type} {Q : List α → Prop} (h0 : Q []) (hs : ∀ l a, Q l → Q (l ++ [a])) (l : List α) : Q l := by
 have : ∀ r : List α, Q r.reverse := by
   intro r;induction r with
   | nil => exact h0
   | cons a r ih => rw [List.reverse_cons]; exact hs _ _ ih
 have h := this l.reverse
 rwa [List.reverse_reverse] at h
theorem cnt_went {p : ByteArray} (l : List Move) : (∀ m ∈ l, okM m) → wentR p 0 l = (cntL p l).getD 1 0 + (cntL p l).getD 2 0 ∧ camR p 0 l = (cntL p l).getD 0 0 := by
 refine snoc_ind (Q := fun l => (∀ m ∈ l, okM m) → wentR p 0 l = (cntL p l).getD 1 0 + (cntL p l).getD 2 0 ∧ camR p 0 l = (cntL p l).getD 0 0) (fun _ => ⟨rfl, rfl⟩) (fun l m ih hok => ?_) l;have ih := ih fun x hx => hok x (by simp [hx]);have hm := (hok m (by simp)).1;have hs : cntL p (l ++ [m]) = cntStep p (cntL p l) m := by unfold cntL; rw [List.foldl_append]; rfl
 have h3 := cntL_len p l;rw [went_snoc, cam_snoc, hs];generalize cntL p l = L at h3 ih
 match L, h3 with
 | [a, b, c], _ =>
   simp only [List.getD_cons_zero, List.getD_cons_succ] at ih;unfold cntStep;by_cases hp : m.part = p
   · have hk : m.kind = 0 ∨ m.kind = 1 ∨ m.kind = 2 := by omega
     rcases hk with hk | hk | hk <;> simp [hp, hk] <;> omega
   · simp [hp]; omega
theorem goM_all {ts : List Term} : ∀ (l pre : List Move) (last : Int), goM ts pre last l = 0 → ∀ m ∈ l, ¬ badM m ∧ 0 ≤ termIx ts m.part
 | [], _, _, _, m, hm => by simp at hm
 | a :: l, pre, last, h, m, hm => by
   unfold goM at h;split at h
   · rename_i h0;rcases List.mem_cons.1 hm with rfl | hm
     · unfold mvE at h0;split at h0
       · cases h0
       · rename_i hb;split at h0
         · cases h0
         · split at h0
           · cases h0
           · rename_i h2;exact ⟨hb, by omega⟩
     · exact goM_all l _ _ h m hm
   · rename_i h0; exact absurd h h0
theorem goM_okS {ts : List Term} (p : ByteArray) : ∀ (l pre : List Move) (last : Int), goM ts pre last l = 0 → (∀ m ∈ pre, okM m) → okS p (wentR p 0 pre) (camR p 0 pre) l
 | [], _, _, _, _ => trivial
 | a :: l, pre, last, h, hok => by
   have hall := goM_all (a :: l) pre last h a (by simp);have hoka : okM a := by have := hall.1; unfold badM at this; unfold okM; omega
   have hok2 : ∀ m ∈ pre ++ [a], okM m := fun m hm => by
     rcases List.mem_append.1 hm with hm | hm
     · exact hok m hm
     · simp at hm; rw [hm]; exact hoka
   unfold goM at h;split at h
   · rename_i h0;have ih := goM_okS p l _ _ h hok2;rw [went_snoc, cam_snoc] at ih;refine ⟨hoka.2.1, ?_⟩;by_cases hp : a.part = p
     · rw [if_pos hp];by_cases hk : a.kind = 0
       · rw [if_pos hk]; rw [if_neg (by simp [hk]), if_pos ⟨hp, hk⟩] at ih; exact ih
       · rw [if_neg hk]; rw [if_pos ⟨hp, hk⟩, if_neg (by simp [hk])] at ih;refine ⟨?_, ih⟩;have hc := cnt_went (p := p) pre hok;unfold mvE at h0;split at h0
         · cases h0
         · split at h0
           · cases h0
           · split at h0
             · cases h0
             · split at h0
               · cases h0
               · rename_i h4;have : ¬ stkL pre a.part < a.count := fun h5 => h4 ⟨hk, h5⟩;unfold stkL at this;rw [hp] at this;omega
     · rw [if_neg hp]; rw [if_neg (by simp [hp]), if_neg (by simp [hp])] at ih; exact ih
   · rename_i h0; exact absurd h h0
theorem came_da {ts : List Term} (ht : termsE ts = 0) (ms : List Move) : (∀ m ∈ ms, 0 ≤ termIx ts m.part) → cameL ts ms = ts.map fun t => daL t.part ms := by
 refine snoc_ind (Q := fun ms => (∀ m ∈ ms, 0 ≤ termIx ts m.part) → cameL ts ms = ts.map fun t => daL t.part ms) (fun _ => ?_) (fun l m ih hok => ?_) ms
 · apply List.ext_getElem?;intro j;rw [List.getElem?_map];unfold cameL daL;rw [List.foldl_nil, List.getElem?_replicate];split
   · rename_i h; rw [List.getElem?_eq_getElem h]; rfl
   · rename_i h; rw [List.getElem?_eq_none (by omega)]; rfl
 · have ih := ih fun x hx => hok x (by simp [hx]);have h0 := hok m (by simp);obtain ⟨s, hs1, hs2⟩ := ix_part h0;rw [cameL_snoc, stepC, ih];apply List.ext_getElem?;intro j;rw [List.getElem?_map];cases hj : ts[j]? with
   | none =>
     rw [List.getElem?_eq_none]
     · rfl
     · have := List.getElem?_eq_none_iff.1 hj; simpa using this
   | some t =>
     have hix := terms_ix ht hj;rw [Option.map_some, daL_snoc, daStep];by_cases hp : m.part = t.part
     · have e : (termIx ts m.part).toNat = j := by rw [hp, hix]; omega
       have hlt := (List.getElem?_eq_some_iff.1 hj).1;rw [if_pos hp, e, List.getElem?_set_self (by simpa using hlt), List.getD_eq_getElem?_getD, List.getElem?_map, hj]; rfl
     · rw [if_neg hp, List.getElem?_set_ne, List.getElem?_map, hj]
       · rfl
       · intro e;rw [e, hj] at hs1; cases hs1;exact hp hs2.symm
theorem zip_map_self {α β : Type} (f : α → β) : ∀ l : List α, l.zip (l.map f) = l.map fun a => (a, f a)
 | [] => rfl
 | a :: l => by rw [List.map_cons, List.zip_cons_cons, zip_map_self f l]; rfl
theorem lots_eq {ts : List Term} {ms : List Move} {last : Int} (ht : termsE ts = 0) (hm : goM ts [] last ms = 0) : outL ts (cameL ts ms) = lotsT ts ms := by
 rw [came_da ht ms fun m h => (goM_all ms [] last hm m h).2];unfold outL lotsT;rw [zip_map_self, List.flatMap_map];congr 1;funext t;exact da_out (goM_okS t.part ms [] last hm (by simp))
end Go.Proofs.YtjihcgcbnbaclaaDoor.Y9

set_option linter.unusedSimpArgs false
set_option linter.unusedVariables false
namespace Go.Proofs.YtjihcgcbnbaclaaDoor.Y9
open Go Go.Pv Go.Proofs.YtjihcgcbnbaclaaDoor
theorem tm_a {ts : List Term} {ms : List Move} (h : termsE ts = 0) : tmE ts ms = movE ts ms := by rw [tmE, if_neg (by simpa using h)]
theorem tm_b {ts : List Term} {ms : List Move} (h : ¬ termsE ts = 0) : tmE ts ms = termsE ts := (tmE_1 h).symm
theorem tm_parts {ts : List Term} {ms : List Move} (h : tmE ts ms = 0) : termsE ts = 0 ∧ movE ts ms = 0 ∧ ms.length ≤ 300 ∧ goM ts [] 0 ms = 0 := by
 by_cases h0 : termsE ts = 0
 · have h1 := tm_a (ms := ms) h0;rw [h] at h1;refine ⟨h0, h1.symm, ?_⟩;unfold movE at h1;split at h1
   · cases h1
   · exact ⟨by omega, h1.symm⟩
 · exact absurd (h ▸ tm_b h0).symm h0
theorem badM_ok {m : Move} (h : ¬ badM m) : okM m := by unfold badM at h; unfold okM; omega
theorem tm_go {ts : List Term} {ms : List Move} (h : tmE ts ms = 0) : ∀ m ∈ ms, okM m ∧ 0 ≤ termIx ts m.part := fun m hm => by
 have := goM_all ms [] 0 (tm_parts h).2.2.2 m hm;exact ⟨badM_ok this.1, this.2⟩
theorem tm_lots {ts : List Term} {ms : List Move} (h : tmE ts ms = 0) : outL ts (cameL ts ms) = lotsT ts ms := lots_eq (tm_parts h).1 (tm_parts h).2.2.2
def lotsP (ts : List Term) (ms : List Move) : List Lot := if tmE ts ms = 0 then lotsT ts ms else []
theorem lotsP_0 {ts : List Term} {ms : List Move} (h : tmE ts ms = 0) : lotsP ts ms = lotsT ts ms := by rw [lotsP, if_pos h]
theorem lotsP_1 {ts : List Term} {ms : List Move} (h : ¬ tmE ts ms = 0) : lotsP ts ms = [] := by rw [lotsP, if_neg h]
def sumC (p : ByteArray) (l : List Lot) : Int := (l.map fun x => if x.part = p then x.count else 0).sum
theorem sumC_app (p : ByteArray) (a b : List Lot) : sumC p (a ++ b) = sumC p a + sumC p b := by unfold sumC; rw [List.map_append, List.sum_append]
theorem sumC_one (p : ByteArray) (x : Lot) : sumC p [x] = if x.part = p then x.count else 0 := by simp [sumC]
theorem sumC_nil (p : ByteArray) : sumC p [] = 0 := rfl
theorem gone_sum {p : ByteArray} {f e d : Int} (hfe : f ≤ e) : ∀ (l : List Move) (w : Int), (∀ m ∈ l, 0 ≤ m.count) → sumC p (goneR p f e d w l) = max 0 (min e (wentR p w l) - max f w)
 | [], w, _ => by rw [goneR, wentR, sumC_nil]; omega
 | a :: l, w, h => by
   have h0 := h a (by simp);have h2 := fun m (hm : m ∈ l) => h m (by simp [hm]);rw [goneR, wentR];by_cases hc : a.part = p ∧ ¬ a.kind = 0
   · rw [if_pos hc, if_pos hc, sumC_app, gone_sum hfe l _ h2];have := went_ge p l (w + a.count) h2;by_cases hk : 0 < min e (w + a.count) - max f w
     · rw [if_pos hk, sumC_one, if_pos rfl]; dsimp only; omega
     · rw [if_neg hk, sumC_nil]; omega
   · rw [if_neg hc, if_neg hc]; exact gone_sum hfe l w h2
theorem lotsGo_sum {p : ByteArray} {ms : List Move} (hms : ∀ m ∈ ms, 0 ≤ m.count) : ∀ (l : List Move) (c : Int), (∀ m ∈ l, 0 ≤ m.count) → 0 ≤ c → sumC p (lotsGo p ms c l) = camR p c l - c
 | [], c, _, _ => by rw [lotsGo, camR, sumC_nil]; omega
 | a :: l, c, h, hc => by
   have h0 := h a (by simp);have h2 := fun m (hm : m ∈ l) => h m (by simp [hm]);rw [lotsGo, camR];by_cases hk : a.part = p ∧ a.kind = 0
   · rw [if_pos hk, if_pos hk, sumC_app, sumC_app, lotsGo_sum hms l _ h2 (by omega), gone_sum (by omega) ms 0 hms];have hw := went_ge p ms 0 hms;unfold leftR;by_cases hz : 0 < c + a.count - max c (wentR p 0 ms)
     · rw [if_pos hz, sumC_one, if_pos rfl]; dsimp only; omega
     · rw [if_neg hz, sumC_nil]; omega
   · rw [if_neg hk, if_neg hk]; exact lotsGo_sum hms l c h2 hc
def okL (p : ByteArray) (x : Lot) : Prop := x.part = p ∧ 0 < x.count ∧ x.count ≤ 100000
theorem gone_okL {p : ByteArray} {f e d : Int} (he : e - f ≤ 100000) : ∀ (l : List Move) (w : Int), ∀ x ∈ goneR p f e d w l, okL p x
 | [], _, x, hx => by simp [goneR] at hx
 | a :: l, w, x, hx => by
   rw [goneR] at hx;split at hx
   · rcases List.mem_append.1 hx with hx | hx
     · split at hx
       · simp at hx; subst hx; refine ⟨rfl, ?_, ?_⟩ <;> dsimp only <;> omega
       · simp at hx
     · exact gone_okL he l _ x hx
   · exact gone_okL he l _ x hx
theorem lotsGo_okL {p : ByteArray} {ms : List Move} : ∀ (l : List Move) (c : Int), (∀ m ∈ l, okM m) → ∀ x ∈ lotsGo p ms c l, okL p x
 | [], _, _, x, hx => by simp [lotsGo] at hx
 | a :: l, c, h, x, hx => by
   have h0 := (h a (by simp)).2;have h2 := fun m (hm : m ∈ l) => h m (by simp [hm]);rw [lotsGo] at hx;split at hx
   · rcases List.mem_append.1 hx with hx | hx
     · rcases List.mem_append.1 hx with hx | hx
       · exact gone_okL (by omega) ms 0 x hx
       · unfold leftR at hx;split at hx
         · simp at hx; subst hx; refine ⟨rfl, ?_, ?_⟩ <;> dsimp only <;> omega
         · simp at hx
     · exact lotsGo_okL l _ h2 x hx
   · exact lotsGo_okL l _ h2 x hx
theorem lotsT_okL {ts : List Term} {ms : List Move} (h : ∀ m ∈ ms, okM m) : ∀ x ∈ lotsT ts ms, ∃ t ∈ ts, okL t.part x := fun x hx => by
 obtain ⟨t, ht, hx⟩ := List.mem_flatMap.1 hx;exact ⟨t, ht, lotsGo_okL ms 0 h x hx⟩
theorem sumC_other {p q : ByteArray} {l : List Lot} (h : ∀ x ∈ l, x.part = q) (hn : ¬ q = p) : sumC p l = 0 := by
 induction l with
 | nil => rfl
 | cons a l ih =>
   rw [show a :: l = [a] ++ l from rfl, sumC_app, sumC_one, if_neg (by rw [h a (by simp)]; exact hn), ih fun x hx => h x (by simp [hx])]; rfl
theorem lots_sum {ts : List Term} {ms : List Move} {t : Term} (h : tmE ts ms = 0) (ht : t ∈ ts) : sumC t.part (lotsT ts ms) = (cntL t.part ms).getD 0 0 := by
 have hok : ∀ m ∈ ms, okM m := fun m hm => (tm_go h m hm).1;have hc0 : ∀ m ∈ ms, 0 ≤ m.count := fun m hm => (hok m hm).2.1;have hn := terms_nodup (tm_parts h).1;rw [← (cnt_went (p := t.part) ms hok).2]
 have hR : sumC t.part (lotsR t.part ms) = camR t.part 0 ms := by
   have := lotsGo_sum (p := t.part) hc0 ms 0 hc0 (Int.le_refl _);unfold lotsR; rw [this]; omega
 have : ∀ l : List Term, (l.map (fun a : Term => a.part)).Nodup → (t.part ∈ l.map (fun a : Term => a.part) → sumC t.part (lotsT l ms) = camR t.part 0 ms) ∧ (¬ t.part ∈ l.map (fun a : Term => a.part) → sumC t.part (lotsT l ms) = 0) := by
   intro l;induction l with
   | nil => intro _; exact ⟨fun h => by simp at h, fun _ => by simp [lotsT, sumC_nil]⟩
   | cons a l ih =>
     intro hn;rw [List.map_cons, List.nodup_cons] at hn;have e : lotsT (a :: l) ms = lotsR a.part ms ++ lotsT l ms := by unfold lotsT; rw [List.flatMap_cons]
     have ih := ih hn.2;rw [e, sumC_app, List.map_cons, List.mem_cons];by_cases hp : a.part = t.part
     · rw [hp] at hn ⊢;rw [hR, ih.2 hn.1];exact ⟨fun _ => by omega, fun h => absurd (.inl rfl) h⟩
     · rw [sumC_other (l := lotsR a.part ms) (fun x hx => (lotsGo_okL ms 0 hok x hx).1) hp];refine ⟨fun h => ?_, fun h => ?_⟩
       · rw [ih.1 (h.elim (fun h => absurd h.symm hp) id)]; omega
       · rw [ih.2 (fun h2 => h (.inr h2))]; rfl
 exact (this ts hn).1 (List.mem_map.2 ⟨t, ht, rfl⟩)
theorem sum_next {p : ByteArray} {l : List Lot} {j : Nat} {x : Lot} (h : l.take (j + 1) = l.take j ++ [x]) : sumC p (l.take (j + 1)) = if x.part = p then sumC p (l.take j) + x.count else sumC p (l.take j) := by
 rw [h, sumC_app, sumC_one]; split <;> omega
end Go.Proofs.YtjihcgcbnbaclaaDoor.Y9

set_option linter.unusedSimpArgs false
set_option linter.unusedVariables false
namespace Go.Proofs.YtjihcgcbnbaclaaDoor.Y9
open Go Go.Pv Go.Proofs.YtjihcgcbnbaclaaDoor
def upM (day : Int) (ms : List Move) : List Move := ms.takeWhile fun m => decide (m.day ≤ day)
theorem upM_all {day : Int} {ms : List Move} (h : ∀ m ∈ ms, m.day ≤ day) : ms = upM day ms := by
 unfold upM;induction ms with
 | nil => rfl
 | cons a l ih => rw [List.takeWhile_cons, decide_eq_true (h a (by simp)), if_pos rfl, ← ih fun m hm => h m (by simp [hm])]
theorem upM_stop {day : Int} : ∀ {ms : List Move} {k : Nat} {x : Move}, (∀ m ∈ ms.take k, m.day ≤ day) → ms[k]? = some x → day < x.day → ms.take k = upM day ms
 | [], k, x, _, hx, _ => by simp at hx
 | a :: l, 0, x, _, hx, hd => by
   simp at hx; subst hx;unfold upM; rw [List.takeWhile_cons, decide_eq_false (by omega)]; rfl
 | a :: l, k + 1, x, h, hx, hd => by
   have := upM_stop (ms := l) (k := k) (x := x) (fun m hm => h m (by simp [hm])) (by simpa using hx) hd;unfold upM at this ⊢;rw [List.takeWhile_cons, decide_eq_true (h a (by simp)), if_pos rfl, List.take_succ_cons, this]
theorem upM_pre (day : Int) (ms : List Move) : ∃ l, ms = upM day ms ++ l := ⟨ms.dropWhile _, (List.takeWhile_append_dropWhile).symm⟩
theorem upM_len (day : Int) (ms : List Move) : (upM day ms).length ≤ ms.length := by
 obtain ⟨l, h⟩ := upM_pre day ms;have := congrArg List.length h;rw [List.length_append] at this; omega
theorem upM_mem {day : Int} {ms : List Move} {m : Move} (h : m ∈ upM day ms) : m ∈ ms := by
 obtain ⟨l, hl⟩ := upM_pre day ms;rw [hl]; exact List.mem_append.2 (.inl h)
theorem tm_mk {ts : List Term} {ms : List Move} (h1 : termsE ts = 0) (h2 : ms.length ≤ 300) (h3 : goM ts [] 0 ms = 0) : tmE ts ms = 0 := by
 rw [tm_a h1, movE, if_neg (by omega), h3]
structure okLot (ts : List Term) (D : Int) (x : Lot) : Prop where
 part : ∃ t ∈ ts, x.part = t.part
 cnt : 0 < x.count ∧ x.count ≤ 100000
 inn : 0 ≤ x.inn ∧ x.inn ≤ D
 out : (x.out = -1 ∧ x.day = -1) ∨ ((x.out = 1 ∨ x.out = 2) ∧ x.inn ≤ x.day ∧ x.day ≤ D)
end Go.Proofs.YtjihcgcbnbaclaaDoor.Y9

set_option linter.unusedSimpArgs false
set_option linter.unusedVariables false
set_option maxRecDepth 100000
namespace Go.Proofs.YtjihcgcbnbaclaaDoor.Y9
open Go Go.Pv Go.Proofs.YtjihcgcbnbaclaaDoor
theorem lots2 (ts : List Term) (ms : List Move) (h : tmE ts ms = 0) (hlt : ts.length ≤ 65) : PCalls Tryd.prog 28 [.lit true 4 (ts.map Term.enc), .lit true 4 (ms.map Move.enc)] (.lit false 5 ((lotsT ts ms).map Lot.enc)) :=
 tm_lots h ▸ lots ts ms hlt (by have := (tm_parts h).2.2.1; omega) (tm_go h)
def tdE (ts : List Term) (ms : List Move) (day : Int) : Int := if tmE ts ms ≠ 0 then tmE ts ms else if 0 ≤ day ∧ day ≤ 20000 then 0 else 2
theorem td_1 {ts : List Term} {ms : List Move} {day : Int} (h : ¬ tmE ts ms = 0) : tmE ts ms = tdE ts ms day := by rw [tdE, if_pos h]
theorem td_2 {ts : List Term} {ms : List Move} {day : Int} (h : tmE ts ms = 0) (h2 : ¬ (0 ≤ day ∧ day ≤ 20000)) : 2 = tdE ts ms day := by rw [tdE, if_neg (by simpa using h), if_neg h2]
theorem td_0 {ts : List Term} {ms : List Move} {day : Int} (h : tmE ts ms = 0) (h2 : 0 ≤ day ∧ day ≤ 20000) : 0 = tdE ts ms day := by rw [tdE, if_neg (by simpa using h), if_pos h2]
theorem td_parts {ts : List Term} {ms : List Move} {day : Int} (h : tdE ts ms day = 0) : tmE ts ms = 0 ∧ 0 ≤ day ∧ day ≤ 20000 := by
 unfold tdE at h;split at h
 · rename_i h1; exact absurd h h1
 · rename_i h1;split at h
   · rename_i h2; exact ⟨by simpa using h1, h2⟩
   · cases h
theorem frH25 : (inFrame Tryd.f25.ntmps (Tryd.f25.body.getD .skip) && Tryd.f25.results.toList.all (resScope Tryd.f25.ntmps)) = true := by kernel_rfl
theorem upTo (ms : List Move) (day : Int) (h0 : Heap) (c0 : Nat → Nat) (hl : ms.length ≤ 305) : HCallsR Tryd.prog 25 [.lit true 4 (ms.map Move.enc), .int day] h0 c0 (fun v h _ => v = .lit true 4 ((upM day ms).map Move.enc) ∧ ∀ q : Key, q.1 ≠ 6 → h q = h0 q) := by
 refine HCallsR.of_code Tryd.func25 rfl rfl (by kernel_rfl) mixed frH25 (by show _ ≤ 23; simp) (pwp_seq_plain rfl fun K1 hK1 => p_step rfl (e_assign (v := .nil) rfl) trivial (p_end (hK1 _ ?_))); clear hK1 K1;refine pwp_seq_seq (pwp_seq_plain rfl fun K2 hK2 => p_step rfl (e_move (v := .lit _ _ _) rfl) trivial (p_step rfl (e_len rfl (by kernel_rfl)) trivial (p_step rfl (e_move (v := .sc _) rfl) trivial (p_end (hK2 _ ?_))))); clear hK2 K2;refine pwp_seq_block fun K3 hK3 => pwp_loopR (α := Nat) [0, 1, 7, 8] (fun (k : Nat) => [(9, .int (k))]) (fun (k : Nat) (h : Heap) (_ : Nat → Nat) => ((k) ≤ ms.length) ∧ (∀ m ∈ ms.take (k), m.day ≤ day) ∧ (∀ q : Key, q.1 ≠ 6 → h q = h0 q)) (fun (k : Nat) => ms.length - (k)) (0) (by exact ⟨rfl, trivial⟩) (by exact ⟨by exact Nat.zero_le _, by simp, by exact fun _ _ => rfl⟩) fun k r4 h5 c6 hj7 => ?_;obtain ⟨hk, hs, hf⟩ := hj7;try dsimp only at hk
 try dsimp only at hs
 try dsimp only at hf
 show pwp _ _ (loopQ _ _ _) ⟨sets (mix _ _ _) [(9, .int k)], _, _⟩;refine pwp_seq_plain rfl fun K8 hK8 => p_step rfl (e_lt rfl rfl) trivial (p_end (hK8 _ ?_)); clear hK8 K8;refine pwp_seq_cond rfl fun K9 hK9 => ⟨fun hb10 => ?_, fun hb10 => ?_⟩
 ·have hb10R := hb10; try simp only [z1, z2, z3, z4, z5, z6, ne_eq, z7, z8, z9, z10, z11, z12] at hb10
  obtain ⟨x, hx, hd, ht⟩ := get_lt (xs := ms) (i := k) (by omega);refine pwp_skip (seq_norm (hK9 _ ?_)); clear hK9 K9;refine pwp_seq_block fun K11 hK11 => pwp_seq_plain rfl fun K12 hK12 => p_step rfl (e_move (v := .sc _) rfl) trivial (p_step rfl (e_ixa rfl rfl (by kernel_rfl) (by kernel_rfl) (by simp only [lM]; omega)) trivial (p_step rfl (e_loadA (n := 4) rfl (by kernel_rfl) (by kernel_rfl) (by kernel_rfl) (by simp only [lM]; omega) (by decide) (by first | exact agg_map hx rfl)) trivial (p_new rfl (e_alloc (cs := [.int 0, .int 0, .str ByteArray.empty, .int 0]) (n := 4) (by kernel_rfl) rfl (by decide)) (ob_alloc (by decide)) (p_step rfl (e_assign (v := .sc _) rfl) trivial (p_store rfl (e_storeA rfl (hset_self _ _ _) rfl rfl rfl (by kernel_rfl) rfl (by kernel_rfl)) trivial ?_)))));refine p_end (hK12 _ ?_); clear hK12 K12;refine pwp_seq_plain rfl fun K13 hK13 => p_step rfl (e_faP (pl := [(0, 1, false), (1, 1, false), (2, 1, false), (3, 1, false)]) rfl (by kernel_rfl) (by kernel_rfl) (by decide) rfl) trivial (p_step rfl (e_loadH (v := .sc _) rfl (hset_self _ _ _) (by kernel_rfl) (by kernel_rfl) (by kernel_rfl) (by exact Nat.zero_lt_one) (by decide) rfl) trivial (p_step rfl (e_move (v := .sc _) rfl) trivial (p_step rfl (e_gt rfl rfl) trivial (p_end (hK13 _ ?_))))); clear hK13 K13;refine pwp_cond rfl (fun hb14 => ?_) (fun hb14 => ?_)
  ·have hb14R := hb14; try simp only [z1, z2, z3, z4, z5, z6, ne_eq, z7, z8, z9, z10, z11, z12] at hb14
   refine pwp_seq_plain rfl fun K15 hK15 => p_step rfl (e_move (v := .lit _ _ _) rfl) trivial (p_step rfl (e_move (v := .sc _) rfl) trivial (p_step rfl (e_upto (n := k) rfl rfl rfl (by omega) (by kernel_rfl) (by kernel_rfl)) trivial (p_step rfl (e_assign (v := .lit _ _ _) rfl) trivial (p_end (hK15 _ ?_))))); clear hK15 K15;refine pwp_ret (ret_block (ret_seq (ret_loop (ret_block (ret_seq (end1 (v := .lit _ _ _) rfl ?_))))))
   first
     | exact ⟨by rw [upM_stop hs hx (by omega)], fun q hq => (hset_ne fun e => hq (by rw [e])).trans ((hset_ne fun e => hq (by rw [e])).trans (hf q hq))⟩
     | exact ⟨by rw [← upM_all hs], hf⟩
  ·have hb14R := hb14; try simp only [z1, z2, z3, z4, z5, z6, ne_eq, z7, z8, z9, z10, z11, z12] at hb14
   refine pwp_skip (block_norm (seq_norm (hK11 _ ?_))); clear hK11 K11;refine pwp_plain rfl fun K16 hK16 => p_step rfl (e_add rfl rfl (by omega)) trivial (p_step rfl (e_move (v := .sc _) rfl) trivial (p_end (hK16 _ ?_))); clear hK16 K16;exact loop_again (k + 1) (by show _ < _; omega) ⟨rfl, rfl, rfl, rfl, trivial⟩ ⟨rfl, trivial⟩ (by exact ⟨by show _ + 1 ≤ _; omega, by (intro m hm; rw [ht] at hm; rcases List.mem_append.1 hm with hm | hm; exact hs m hm; simp at hm; subst hm; omega), by exact fun q hq => (hset_ne fun e => hq (by rw [e])).trans ((hset_ne fun e => hq (by rw [e])).trans (hf q hq))⟩)
 ·have hb10R := hb10; try simp only [z1, z2, z3, z4, z5, z6, ne_eq, z7, z8, z9, z10, z11, z12] at hb10
  obtain rfl : k = ms.length := by omega
  rw [List.take_length] at hs;refine pwp_exit (exit_seq ?_);clear hK9 K9;refine exit_loop (exit_here (seq_norm (hK3 _ ?_))); clear hK3 K3;refine pwp_seq_plain rfl fun K17 hK17 => p_step rfl (e_move (v := .lit _ _ _) rfl) trivial (p_step rfl (e_assign (v := .lit _ _ _) rfl) trivial (p_end (hK17 _ ?_))); clear hK17 K17;refine pwp_ret (end1 (v := .lit _ _ _) rfl ?_)
  first
    | exact ⟨by rw [upM_stop hs hx (by omega)], fun q hq => (hset_ne fun e => hq (by rw [e])).trans ((hset_ne fun e => hq (by rw [e])).trans (hf q hq))⟩
    | exact ⟨by rw [← upM_all hs], hf⟩
theorem fr24 : (inFrame Tryd.f24.ntmps (Tryd.f24.body.getD .skip) && Tryd.f24.results.toList.all (resScope Tryd.f24.ntmps)) = true := by kernel_rfl
theorem checkDay (ts : List Term) (ms : List Move) (day : Int) (hlt : ts.length ≤ 65) (hl : ms.length ≤ 305) : PCalls Tryd.prog 24 [.lit true 4 (ts.map Term.enc), .lit true 4 (ms.map Move.enc), .int day] (.int (tdE ts ms day)) := by
 refine PCalls.of_code Tryd.func24 rfl rfl (by kernel_rfl) mixed fr24 (by show _ ≤ 17; simp) (.sc _) (pwp_seq_plain rfl fun K1 hK1 => p_step rfl (e_assign (v := .sc _) rfl) trivial (p_end (hK1 _ ?_))); clear hK1 K1;refine pwp_seq_seq (pwp_seq_plain rfl fun K2 hK2 => p_step rfl (e_move (v := .lit _ _ _) rfl) trivial (p_step rfl (e_move (v := .lit _ _ _) rfl) trivial (p_call rfl (.cons inn_lit (.cons inn_lit .nil)) (CheckMoves _ _ (by omega) (by omega)) (p_step rfl (e_assign (v := .sc _) rfl) trivial (p_end (hK2 _ ?_)))))); clear hK2 K2;refine pwp_seq_seq (pwp_seq_plain rfl fun K3 hK3 => p_step rfl (e_move (v := .sc _) rfl) trivial (p_step rfl (e_ne rfl rfl) trivial (p_end (hK3 _ ?_)))); clear hK3 K3;refine pwp_seq_cond rfl fun K4 hK4 => ⟨fun hb5 => ?_, fun hb5 => ?_⟩
 ·have hb5R := hb5; try simp only [z1, z2, z3, z4, z5, z6, ne_eq, z7, z8, z9, z10, z11, z12] at hb5
  refine pwp_seq_plain rfl fun K6 hK6 => p_step rfl (e_move (v := .sc _) rfl) trivial (p_step rfl (e_assign (v := .sc _) rfl) trivial (p_end (hK6 _ ?_))); clear hK6 K6;refine pwp_ret (ret_seq (end1 (v := .sc _) rfl ?_))
  first
    | exact out_i (td_1 (by assumption))
    | exact out_i (td_2 (by assumption) (by omega))
    | exact out_i (td_0 (by assumption) (by omega))
 ·have hb5R := hb5; try simp only [z1, z2, z3, z4, z5, z6, ne_eq, z7, z8, z9, z10, z11, z12] at hb5
  refine pwp_skip (seq_norm (hK4 _ ?_)); clear hK4 K4;refine pwp_seq_seq (pwp_seq_plain rfl fun K7 hK7 => p_step rfl (e_move (v := .sc _) rfl) trivial (p_call rfl (.cons inn_sc .nil) (isDay _) (p_step rfl (e_not rfl) trivial (p_end (hK7 _ ?_))))); clear hK7 K7;refine pwp_seq_cond rfl fun K8 hK8 => ⟨fun hb9 => ?_, fun hb9 => ?_⟩
  ·have hb9R := hb9; try simp only [z1, z2, z3, z4, z5, z6, ne_eq, z7, z8, z9, z10, z11, z12] at hb9
   refine pwp_seq_plain rfl fun K10 hK10 => p_step rfl (e_assign (v := .sc _) rfl) trivial (p_end (hK10 _ ?_)); clear hK10 K10;refine pwp_ret (ret_seq (end1 (v := .sc _) rfl ?_))
   first
     | exact out_i (td_1 (by assumption))
     | exact out_i (td_2 (by assumption) (by omega))
     | exact out_i (td_0 (by assumption) (by omega))
  ·have hb9R := hb9; try simp only [z1, z2, z3, z4, z5, z6, ne_eq, z7, z8, z9, z10, z11, z12] at hb9
   refine pwp_skip (seq_norm (hK8 _ ?_)); clear hK8 K8;refine pwp_seq_plain rfl fun K11 hK11 => p_step rfl (e_assign (v := .sc _) rfl) trivial (p_end (hK11 _ ?_)); clear hK11 K11;refine pwp_ret (end1 (v := .sc _) rfl ?_)
   first
     | exact out_i (td_1 (by assumption))
     | exact out_i (td_2 (by assumption) (by omega))
     | exact out_i (td_0 (by assumption) (by omega))
theorem fr9 : (inFrame Tryd.f9.ntmps (Tryd.f9.body.getD .skip) && Tryd.f9.results.toList.all (resScope Tryd.f9.ntmps)) = true := by kernel_rfl
theorem Lots (ts : List Term) (ms : List Move) (hlt : ts.length ≤ 65) (hl : ms.length ≤ 305) : PCalls Tryd.prog 9 [.lit true 4 (ts.map Term.enc), .lit true 4 (ms.map Move.enc)] (.tup [.lit false 5 ((lotsP ts ms).map Lot.enc), .int (tmE ts ms)]) := by
 refine PCalls.of_code Tryd.func9 rfl rfl (by kernel_rfl) mixed fr9 (by show _ ≤ 16; simp) (pure_2 (.lit _ _ _ fun row hr => pure_map Lot.pure row hr) (.sc _)) (pwp_seq_plain rfl fun K1 hK1 => p_step rfl (e_assign (v := .nil) rfl) trivial (p_step rfl (e_assign (v := .sc _) rfl) trivial (p_end (hK1 _ ?_)))); clear hK1 K1;refine pwp_seq_seq (pwp_seq_plain rfl fun K2 hK2 => p_step rfl (e_move (v := .lit _ _ _) rfl) trivial (p_step rfl (e_move (v := .lit _ _ _) rfl) trivial (p_call rfl (.cons inn_lit (.cons inn_lit .nil)) (CheckMoves _ _ (by omega) (by omega)) (p_step rfl (e_assign (v := .sc _) rfl) trivial (p_end (hK2 _ ?_)))))); clear hK2 K2;refine pwp_seq_seq (pwp_seq_plain rfl fun K3 hK3 => p_step rfl (e_move (v := .sc _) rfl) trivial (p_step rfl (e_ne rfl rfl) trivial (p_end (hK3 _ ?_)))); clear hK3 K3;refine pwp_seq_cond rfl fun K4 hK4 => ⟨fun hb5 => ?_, fun hb5 => ?_⟩
 ·have hb5R := hb5; (try simp only [z1, z2, z3, z4, z5, z6, ne_eq, z7, z8, z9, z10, z11, z12] at hb5); (try (have htm2 : tmE ts ms = 0 := hb5));refine pwp_seq_plain rfl fun K6 hK6 => p_step rfl (e_move (v := .sc _) rfl) trivial (p_step rfl (e_assign (v := .nil) rfl) trivial (p_step rfl (e_assign (v := .sc _) rfl) trivial (p_end (hK6 _ ?_)))); clear hK6 K6;refine pwp_ret (ret_seq (end2 (v := .nil) (w := .sc _) rfl rfl ?_))
  first
    | exact out_2 (by rw [lotsP_1 (by assumption)]; exact out_nil) (out_i rfl)
    | exact out_2 (out_clean (by rw [lotsP_0 (by assumption)]) (clean_rows fun a p hp => (lot_clean a p hp).1)) (out_i (by omega))
 ·have hb5R := hb5; (try simp only [z1, z2, z3, z4, z5, z6, ne_eq, z7, z8, z9, z10, z11, z12] at hb5); (try (have htm2 : tmE ts ms = 0 := hb5));refine pwp_skip (seq_norm (hK4 _ ?_)); clear hK4 K4;refine pwp_seq_plain rfl fun K7 hK7 => p_step rfl (e_move (v := .lit _ _ _) rfl) trivial (p_step rfl (e_move (v := .lit _ _ _) rfl) trivial (p_call rfl (.cons inn_lit (.cons inn_lit .nil)) (lots2 _ _ htm2 (by omega)) (p_step rfl (e_assign (v := .lit _ _ _) rfl) trivial (p_step rfl (e_assign (v := .sc _) rfl) trivial (p_end (hK7 _ ?_)))))); clear hK7 K7;refine pwp_ret (end2 (v := .lit _ _ _) (w := .sc _) rfl rfl ?_)
  first
    | exact out_2 (by rw [lotsP_1 (by assumption)]; exact out_nil) (out_i rfl)
    | exact out_2 (out_clean (by rw [lotsP_0 (by assumption)]) (clean_rows fun a p hp => (lot_clean a p hp).1)) (out_i (by omega))
end Go.Proofs.YtjihcgcbnbaclaaDoor.Y9
