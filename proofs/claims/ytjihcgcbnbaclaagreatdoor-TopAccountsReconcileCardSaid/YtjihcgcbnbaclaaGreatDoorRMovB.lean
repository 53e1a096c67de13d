import Derived.Test.YtjihcgcbnbaclaaGreatDoorRMov8
import Derived.Test.YtjihcgcbnbaclaaGreatDoorRMov4
import Derived.Test.YtjihcgcbnbaclaaGreatDoorRMov9
import Derived.Test.YtjihcgcbnbaclaaGreatDoorRMovA
import Derived.Test.YtjihcgcbnbaclaaGreatDoorRDayA
set_option linter.unusedSimpArgs false
set_option linter.unusedVariables false
namespace Go.Proofs.YtjihcgcbnbaclaaGreatDoor.Y9
open Go Go.Pv Go.Proofs.YtjihcgcbnbaclaaGreatDoor
def camR (p : ByteArray) : Int → List Move → Int
 | c, [] => c
 | c, m :: l => if m.part = p ∧ m.kind = 0 then camR p (c + m.count) l else camR p c l
def dsGo (p : ByteArray) (ms : List Move) (W : Int) : Int → List Move → List Da
 | _, [] => []
 | c, m :: l => if m.part = p ∧ m.kind = 0 then ⟨m.day, max 0 (c + m.count - max c W), goneR p c (c + m.count) m.day 0 ms⟩ :: dsGo p ms W (c + m.count) l else dsGo p ms W c l
def daStep (p : ByteArray) (ds : List Da) (m : Move) : List Da := if m.part = p then stepD m ds else ds
def daL (p : ByteArray) (ms : List Move) : List Da := ms.foldl (daStep p) []
theorem daL_snoc (p : ByteArray) (pre : List Move) (m : Move) : daL p (pre ++ [m]) = daStep p (daL p pre) m := by unfold daL; rw [List.foldl_append]; rfl
def okS (p : ByteArray) : Int → Int → List Move → Prop
 | _, _, [] => True
 | W, C, m :: l => 0 ≤ m.count ∧ (if m.part = p then (if m.kind = 0 then okS p W (C + m.count) l else W + m.count ≤ C ∧ okS p (W + m.count) C l) else okS p W C l)
section
variable {p : ByteArray} {m : Move}
theorem went_snoc (p : ByteArray) (m : Move) : ∀ (l : List Move) (w : Int), wentR p w (l ++ [m]) = if m.part = p ∧ ¬ m.kind = 0 then wentR p w l + m.count else wentR p w l
 | [], w => by simp only [List.nil_append, wentR]
 | a :: l, w => by
   rw [List.cons_append, wentR, wentR];split
   · exact went_snoc p m l _
   · exact went_snoc p m l _
theorem cam_snoc (p : ByteArray) (m : Move) : ∀ (l : List Move) (w : Int), camR p w (l ++ [m]) = if m.part = p ∧ m.kind = 0 then camR p w l + m.count else camR p w l
 | [], w => by simp only [List.nil_append, camR]
 | a :: l, w => by
   rw [List.cons_append, camR, camR];split
   · exact cam_snoc p m l _
   · exact cam_snoc p m l _
theorem gone_snoc (p : ByteArray) (m : Move) (f e d : Int) : ∀ (l : List Move) (w : Int), goneR p f e d w (l ++ [m]) = goneR p f e d w l ++ if m.part = p ∧ ¬ m.kind = 0 then (if 0 < min e (wentR p w l + m.count) - max f (wentR p w l) then [⟨p, min e (wentR p w l + m.count) - max f (wentR p w l), d, m.day, m.kind⟩] else []) else []
 | [], w => by
   rw [List.nil_append, goneR, goneR, goneR, List.nil_append];split
   · rw [List.append_nil]; rfl
   · rfl
 | a :: l, w => by
   rw [List.cons_append, goneR, goneR];by_cases h : a.part = p ∧ ¬ a.kind = 0
   · rw [if_pos h, if_pos h, gone_snoc p m f e d l, List.append_assoc, wentR, if_pos h]
   · rw [if_neg h, if_neg h, gone_snoc p m f e d l, wentR, if_neg h]
theorem went_ge (p : ByteArray) : ∀ (l : List Move) (w : Int), (∀ m ∈ l, 0 ≤ m.count) → w ≤ wentR p w l
 | [], w, _ => Int.le_refl _
 | a :: l, w, h => by
   have h0 := h a (by simp);have h1 := fun w => went_ge p l w fun m hm => h m (by simp [hm]);rw [wentR];split
   · have := h1 (w + a.count); omega
   · exact h1 w
theorem gone_none (p : ByteArray) (f e d : Int) : ∀ (l : List Move) (w : Int), (∀ m ∈ l, 0 ≤ m.count) → wentR p w l ≤ f → goneR p f e d w l = []
 | [], w, _, _ => rfl
 | a :: l, w, h, hw => by
   have h2 := fun m (hm : m ∈ l) => h m (by simp [hm]);rw [goneR];rw [wentR] at hw;split
   · rename_i hc;rw [if_pos hc] at hw;have := went_ge p l (w + a.count) h2;rw [if_neg (by omega), List.nil_append];exact gone_none p f e d l _ h2 hw
   · rename_i hc;rw [if_neg hc] at hw;exact gone_none p f e d l _ h2 hw
theorem dsGo_same (ms : List Move) (W : Int) (hm : ¬ (m.part = p ∧ ¬ m.kind = 0)) : ∀ (l : List Move) (c : Int), dsGo p (ms ++ [m]) W c l = dsGo p ms W c l
 | [], _ => rfl
 | a :: l, c => by rw [dsGo, dsGo, gone_snoc, if_neg hm, List.append_nil, dsGo_same ms W hm l, dsGo_same ms W hm l]
theorem dsGo_snoc (ms : List Move) (W : Int) : ∀ (l : List Move) (c : Int), dsGo p ms W c (l ++ [m]) = dsGo p ms W c l ++ if m.part = p ∧ m.kind = 0 then [⟨m.day, max 0 (camR p c l + m.count - max (camR p c l) W), goneR p (camR p c l) (camR p c l + m.count) m.day 0 ms⟩] else []
 | [], c => by
   rw [List.nil_append, dsGo, dsGo, dsGo, List.nil_append]; rfl
 | a :: l, c => by
   rw [List.cons_append, dsGo, dsGo];by_cases h : a.part = p ∧ a.kind = 0
   · rw [if_pos h, if_pos h, dsGo_snoc ms W l, List.cons_append, camR, if_pos h]
   · rw [if_neg h, if_neg h, dsGo_snoc ms W l, camR, if_neg h]
theorem dsGo_take (ms : List Move) (hm : m.part = p ∧ ¬ m.kind = 0) (ht : 0 ≤ m.count) : ∀ (l : List Move) (c : Int), (∀ a ∈ l, 0 ≤ a.count) →
   takeL m (max 0 (wentR p 0 ms + m.count - max c (wentR p 0 ms))) (dsGo p ms (wentR p 0 ms) c l) = dsGo p (ms ++ [m]) (wentR p 0 ms + m.count) c l
 | [], _, _ => rfl
 | a :: l, c, h => by
   have h0 := h a (by simp);have hl : ∀ b ∈ l, 0 ≤ b.count := fun b hb => h b (by simp [hb]);rw [dsGo, dsGo];by_cases hc : a.part = p ∧ a.kind = 0
   · rw [if_pos hc, if_pos hc, gone_snoc, if_pos hm, takeL];generalize hW : wentR p 0 ms = W;have ih := fun c => dsGo_take ms hm ht l c hl;rw [hW] at ih;by_cases hk : 0 < min (max 0 (W + m.count - max c W)) (max 0 (c + a.count - max c W))
     · have e1 : min (max 0 (W + m.count - max c W)) (max 0 (c + a.count - max c W)) = min (c + a.count) (W + m.count) - max c W := by omega
       have e2 : max 0 (c + a.count - max c W) - (min (c + a.count) (W + m.count) - max c W) = max 0 (c + a.count - max c (W + m.count)) := by omega
       have e3 : max 0 (W + m.count - max c W) - (min (c + a.count) (W + m.count) - max c W) = max 0 (W + m.count - max (c + a.count) W) := by omega
       rw [if_pos hk, e1, e2, e3, ih, if_pos (by omega), hm.1]
     · have e2 : max 0 (c + a.count - max c W) = max 0 (c + a.count - max c (W + m.count)) := by omega
       have e3 : max 0 (W + m.count - max c W) = max 0 (W + m.count - max (c + a.count) W) := by omega
       rw [if_neg hk, if_neg (by omega), List.append_nil, e2, e3, ih]
   · rw [if_neg hc, if_neg hc]; exact dsGo_take ms hm ht l c hl
theorem da_go : ∀ (l pre : List Move), daL p pre = dsGo p pre (wentR p 0 pre) 0 pre → okS p (wentR p 0 pre) (camR p 0 pre) l → wentR p 0 pre ≤ camR p 0 pre → (∀ a ∈ pre, 0 ≤ a.count) → daL p (pre ++ l) = dsGo p (pre ++ l) (wentR p 0 (pre ++ l)) 0 (pre ++ l)
 | [], pre, h, _, _, _ => by simpa using h
 | m :: l, pre, h, hs, hwc, hc => by
   have hs' := hs;unfold okS at hs';obtain ⟨hm0, hs'⟩ := hs'
   have hcm : ∀ a ∈ pre ++ [m], 0 ≤ a.count := fun a ha => by
     rcases List.mem_append.1 ha with ha | ha
     · exact hc a ha
     · simp at ha; rw [ha]; exact hm0
   rw [show pre ++ m :: l = (pre ++ [m]) ++ l by simp];by_cases hp : m.part = p
   · rw [if_pos hp] at hs';by_cases hk : m.kind = 0
     · rw [if_pos hk] at hs';have e1 : wentR p 0 (pre ++ [m]) = wentR p 0 pre := by rw [went_snoc, if_neg (by simp [hk])]
       have e2 : camR p 0 (pre ++ [m]) = camR p 0 pre + m.count := by rw [cam_snoc, if_pos ⟨hp, hk⟩]
       refine da_go l (pre ++ [m]) ?_ (by rw [e1, e2]; exact hs') (by rw [e1, e2]; omega) hcm;rw [e1, daL_snoc, daStep, if_pos hp, stepD, if_pos hk, dsGo_same pre _ (by simp [hk]), dsGo_snoc, if_pos ⟨hp, hk⟩, h, gone_none p _ _ _ pre 0 hc hwc];congr 4;omega
     · rw [if_neg hk] at hs';have e1 : wentR p 0 (pre ++ [m]) = wentR p 0 pre + m.count := by rw [went_snoc, if_pos ⟨hp, hk⟩]
       have e2 : camR p 0 (pre ++ [m]) = camR p 0 pre := by rw [cam_snoc, if_neg (by simp [hk])]
       refine da_go l (pre ++ [m]) ?_ (by rw [e1, e2]; exact hs'.2) (by rw [e1, e2]; exact hs'.1) hcm;have hw0 := went_ge p pre 0 hc;rw [e1, daL_snoc, daStep, if_pos hp, stepD, if_neg hk, dsGo_snoc, if_neg (by simp [hk]), List.append_nil, h, ← dsGo_take pre ⟨hp, hk⟩ hm0 pre 0 hc];congr 1;omega
   · rw [if_neg hp] at hs';have e1 : wentR p 0 (pre ++ [m]) = wentR p 0 pre := by rw [went_snoc, if_neg (by simp [hp])]
     have e2 : camR p 0 (pre ++ [m]) = camR p 0 pre := by rw [cam_snoc, if_neg (by simp [hp])]
     refine da_go l (pre ++ [m]) ?_ (by rw [e1, e2]; exact hs') (by rw [e1, e2]; exact hwc) hcm;rw [e1, daL_snoc, daStep, if_neg hp, dsGo_same pre _ (by simp [hp]), dsGo_snoc, if_neg (by simp [hp]), List.append_nil, h]
theorem out_go (ms : List Move) : ∀ (l : List Move) (c : Int), (dsGo p ms (wentR p 0 ms) c l).flatMap (outD p) = lotsGo p ms c l
 | [], _ => rfl
 | a :: l, c => by
   rw [dsGo, lotsGo];split
   · rw [List.flatMap_cons, out_go ms l];congr 1;unfold outD leftR;by_cases h : 0 < c + a.count - max c (wentR p 0 ms)
     · rw [if_pos h, if_pos (show 0 < max 0 (c + a.count - max c (wentR p 0 ms)) by omega)];congr 3;dsimp only;omega
     · rw [if_neg h, if_neg (show ¬ 0 < max 0 (c + a.count - max c (wentR p 0 ms)) by omega)]
   · exact out_go ms l c
theorem da_out {ms : List Move} (hs : okS p 0 0 ms) : (daL p ms).flatMap (outD p) = lotsR p ms := by
 have := da_go (p := p) ms [] rfl hs (Int.le_refl _) (by simp);rw [List.nil_append] at this;rw [this];exact out_go ms ms 0
end
theorem snoc_ind {α : Type} {Q : List α → Prop} (h0 : Q []) (hs : ∀ l a, Q l → Q (l ++ [a])) (l : List α) : Q l := by
 have : ∀ r : List α, Q r.reverse := by
   intro r;induction r with
   | nil => exact h0
   | cons a r ih => rw [List.reverse_cons]; exact hs _ _ ih
 have h := this l.reverse
 rwa [List.reverse_reverse] at h
theorem cnt_went {p : ByteArray} (l : List Move) : (∀ m ∈ l, okM m) → wentR p 0 l = (cntL p l).getD 1 0 + (cntL p l).getD 2 0 ∧ camR p 0 l = (cntL p l).getD 0 0 := by
 refine snoc_ind (Q := fun l => (∀ m ∈ l, okM m) → wentR p 0 l = (cntL p l).getD 1 0 + (cntL p l).getD 2 0 ∧ camR p 0 l = (cntL p l).getD 0 0) (fun _ => ⟨rfl, rfl⟩) (fun l m ih hok => ?_) l;have ih := ih fun x hx => hok x (by simp [hx]);have hm := (hok m (by simp)).1;have hs : cntL p (l ++ [m]) = cntStep p (cntL p l) m := by unfold cntL; rw [List.foldl_append]; rfl
 have h3 := cntL_len p l;rw [went_snoc, cam_snoc, hs];generalize cntL p l = L at h3 ih
 match L, h3 with
 | [a, b, c], _ =>
   simp only [List.getD_cons_zero, List.getD_cons_succ] at ih;unfold cntStep;by_cases hp : m.part = p
   · have hk : m.kind = 0 ∨ m.kind = 1 ∨ m.kind = 2 := by omega
     rcases hk with hk | hk | hk <;> simp [hp, hk] <;> omega
   · simp [hp]; omega
theorem goM_all {ts : List Term} : ∀ (l pre : List Move) (last : Int), goM ts pre last l = 0 → ∀ m ∈ l, ¬ badM m ∧ 0 ≤ termIx ts m.part
 | [], _, _, _, m, hm => by simp at hm
 | a :: l, pre, last, h, m, hm => by
   unfold goM at h;split at h
   · rename_i h0;rcases List.mem_cons.1 hm with rfl | hm
     · unfold mvE at h0;split at h0
       · cases h0
       · rename_i hb;split at h0
         · cases h0
         · split at h0
           · cases h0
           · rename_i h2;exact ⟨hb, by omega⟩
     · exact goM_all l _ _ h m hm
   · rename_i h0; exact absurd h h0
theorem goM_okS {ts : List Term} (p : ByteArray) : ∀ (l pre : List Move) (last : Int), goM ts pre last l = 0 → (∀ m ∈ pre, okM m) → okS p (wentR p 0 pre) (camR p 0 pre) l
 | [], _, _, _, _ => trivial
 | a :: l, pre, last, h, hok => by
   have hall := goM_all (a :: l) pre last h a (by simp);have hoka : okM a := by have := hall.1; unfold badM at this; unfold okM; omega
   have hok2 : ∀ m ∈ pre ++ [a], okM m := fun m hm => by
     rcases List.mem_append.1 hm with hm | hm
     · exact hok m hm
     · simp at hm; rw [hm]; exact hoka
   unfold goM at h;split at h
   · rename_i h0;have ih := goM_okS p l _ _ h hok2;rw [went_snoc, cam_snoc] at ih;refine ⟨hoka.2.1, ?_⟩;by_cases hp : a.part = p
     · rw [if_pos hp];by_cases hk : a.kind = 0
       · rw [if_pos hk]; rw [if_neg (by simp [hk]), if_pos ⟨hp, hk⟩] at ih; exact ih
       · rw [if_neg hk]; rw [if_pos ⟨hp, hk⟩, if_neg (by simp [hk])] at ih;refine ⟨?_, ih⟩;have hc := cnt_went (p := p) pre hok;unfold mvE at h0;split at h0
         · cases h0
         · split at h0
           · cases h0
           · split at h0
             · cases h0
             · split at h0
               · cases h0
               · rename_i h4;have : ¬ stkL pre a.part < a.count := fun h5 => h4 ⟨hk, h5⟩;unfold stkL at this;rw [hp] at this;omega
     · rw [if_neg hp]; rw [if_neg (by simp [hp]), if_neg (by simp [hp])] at ih; exact ih
   · rename_i h0; exact absurd h h0
theorem came_da {ts : List Term} (ht : termsE ts = 0) (ms : List Move) : (∀ m ∈ ms, 0 ≤ termIx ts m.part) → cameL ts ms = ts.map fun t => daL t.part ms := by
 refine snoc_ind (Q := fun ms => (∀ m ∈ ms, 0 ≤ termIx ts m.part) → cameL ts ms = ts.map fun t => daL t.part ms) (fun _ => ?_) (fun l m ih hok => ?_) ms
 · apply List.ext_getElem?;intro j;rw [List.getElem?_map];unfold cameL daL;rw [List.foldl_nil, List.getElem?_replicate];split
   · rename_i h; rw [List.getElem?_eq_getElem h]; rfl
   · rename_i h; rw [List.getElem?_eq_none (by omega)]; rfl
 · have ih := ih fun x hx => hok x (by simp [hx]);have h0 := hok m (by simp);obtain ⟨s, hs1, hs2⟩ := ix_part h0;rw [cameL_snoc, stepC, ih];apply List.ext_getElem?;intro j;rw [List.getElem?_map];cases hj : ts[j]? with
   | none =>
     rw [List.getElem?_eq_none]
     · rfl
     · have := List.getElem?_eq_none_iff.1 hj; simpa using this
   | some t =>
     have hix := terms_ix ht hj;rw [Option.map_some, daL_snoc, daStep];by_cases hp : m.part = t.part
     · have e : (termIx ts m.part).toNat = j := by rw [hp, hix]; omega
       have hlt := (List.getElem?_eq_some_iff.1 hj).1;rw [if_pos hp, e, List.getElem?_set_self (by simpa using hlt), List.getD_eq_getElem?_getD, List.getElem?_map, hj]; rfl
     · rw [if_neg hp, List.getElem?_set_ne, List.getElem?_map, hj]
       · rfl
       · intro e;rw [e, hj] at hs1; cases hs1;exact hp hs2.symm
theorem zip_map_self {α β : Type} (f : α → β) : ∀ l : List α, l.zip (l.map f) = l.map fun a => (a, f a)
 | [] => rfl
 | a :: l => by rw [List.map_cons, List.zip_cons_cons, zip_map_self f l]; rfl
theorem lots_eq {ts : List Term} {ms : List Move} {last : Int} (ht : termsE ts = 0) (hm : goM ts [] last ms = 0) : outL ts (cameL ts ms) = lotsT ts ms := by
 rw [came_da ht ms fun m h => (goM_all ms [] last hm m h).2];unfold outL lotsT;rw [zip_map_self, List.flatMap_map];congr 1;funext t;exact da_out (goM_okS t.part ms [] last hm (by simp))
end Go.Proofs.YtjihcgcbnbaclaaGreatDoor.Y9

set_option linter.unusedSimpArgs false
set_option linter.unusedVariables false
namespace Go.Proofs.YtjihcgcbnbaclaaGreatDoor.Y9
open Go Go.Pv Go.Proofs.YtjihcgcbnbaclaaGreatDoor
theorem tm_a {ts : List Term} {ms : List Move} (h : termsE ts = 0) : tmE ts ms = movE ts ms := by rw [tmE, if_neg (by simpa using h)]
theorem tm_b {ts : List Term} {ms : List Move} (h : ¬ termsE ts = 0) : tmE ts ms = termsE ts := (tmE_1 h).symm
theorem tm_parts {ts : List Term} {ms : List Move} (h : tmE ts ms = 0) : termsE ts = 0 ∧ movE ts ms = 0 ∧ ms.length ≤ 300 ∧ goM ts [] 0 ms = 0 := by
 by_cases h0 : termsE ts = 0
 · have h1 := tm_a (ms := ms) h0;rw [h] at h1;refine ⟨h0, h1.symm, ?_⟩;unfold movE at h1;split at h1
   · cases h1
   · exact ⟨by omega, h1.symm⟩
 · exact absurd (h ▸ tm_b h0).symm h0
theorem badM_ok {m : Move} (h : ¬ badM m) : okM m := by unfold badM at h; unfold okM; omega
theorem tm_go {ts : List Term} {ms : List Move} (h : tmE ts ms = 0) : ∀ m ∈ ms, okM m ∧ 0 ≤ termIx ts m.part := fun m hm => by
 have := goM_all ms [] 0 (tm_parts h).2.2.2 m hm;exact ⟨badM_ok this.1, this.2⟩
theorem tm_lots {ts : List Term} {ms : List Move} (h : tmE ts ms = 0) : outL ts (cameL ts ms) = lotsT ts ms := lots_eq (tm_parts h).1 (tm_parts h).2.2.2
def sumC (p : ByteArray) (l : List Lot) : Int := (l.map fun x => if x.part = p then x.count else 0).sum
theorem sumC_app (p : ByteArray) (a b : List Lot) : sumC p (a ++ b) = sumC p a + sumC p b := by unfold sumC; rw [List.map_append, List.sum_append]
theorem sumC_one (p : ByteArray) (x : Lot) : sumC p [x] = if x.part = p then x.count else 0 := by simp [sumC]
theorem sumC_nil (p : ByteArray) : sumC p [] = 0 := rfl
theorem gone_sum {p : ByteArray} {f e d : Int} (hfe : f ≤ e) : ∀ (l : List Move) (w : Int), (∀ m ∈ l, 0 ≤ m.count) → sumC p (goneR p f e d w l) = max 0 (min e (wentR p w l) - max f w)
 | [], w, _ => by rw [goneR, wentR, sumC_nil]; omega
 | a :: l, w, h => by
   have h0 := h a (by simp);have h2 := fun m (hm : m ∈ l) => h m (by simp [hm]);rw [goneR, wentR];by_cases hc : a.part = p ∧ ¬ a.kind = 0
   · rw [if_pos hc, if_pos hc, sumC_app, gone_sum hfe l _ h2];have := went_ge p l (w + a.count) h2;by_cases hk : 0 < min e (w + a.count) - max f w
     · rw [if_pos hk, sumC_one, if_pos rfl]; dsimp only; omega
     · rw [if_neg hk, sumC_nil]; omega
   · rw [if_neg hc, if_neg hc]; exact gone_sum hfe l w h2
theorem lotsGo_sum {p : ByteArray} {ms : List Move} (hms : ∀ m ∈ ms, 0 ≤ m.count) : ∀ (l : List Move) (c : Int), (∀ m ∈ l, 0 ≤ m.count) → 0 ≤ c → sumC p (lotsGo p ms c l) = camR p c l - c
 | [], c, _, _ => by rw [lotsGo, camR, sumC_nil]; omega
 | a :: l, c, h, hc => by
   have h0 := h a (by simp);have h2 := fun m (hm : m ∈ l) => h m (by simp [hm]);rw [lotsGo, camR];by_cases hk : a.part = p ∧ a.kind = 0
   · rw [if_pos hk, if_pos hk, sumC_app, sumC_app, lotsGo_sum hms l _ h2 (by omega), gone_sum (by omega) ms 0 hms];have hw := went_ge p ms 0 hms;unfold leftR;by_cases hz : 0 < c + a.count - max c (wentR p 0 ms)
     · rw [if_pos hz, sumC_one, if_pos rfl]; dsimp only; omega
     · rw [if_neg hz, sumC_nil]; omega
   · rw [if_neg hk, if_neg hk]; exact lotsGo_sum hms l c h2 hc
def okL (p : ByteArray) (x : Lot) : Prop := x.part = p ∧ 0 < x.count ∧ x.count ≤ 100000
theorem gone_okL {p : ByteArray} {f e d : Int} (he : e - f ≤ 100000) : ∀ (l : List Move) (w : Int), ∀ x ∈ goneR p f e d w l, okL p x
 | [], _, x, hx => by simp [goneR] at hx
 | a :: l, w, x, hx => by
   rw [goneR] at hx;split at hx
   · rcases List.mem_append.1 hx with hx | hx
     · split at hx
       · simp at hx; subst hx; refine ⟨rfl, ?_, ?_⟩ <;> dsimp only <;> omega
       · simp at hx
     · exact gone_okL he l _ x hx
   · exact gone_okL he l _ x hx
theorem lotsGo_okL {p : ByteArray} {ms : List Move} : ∀ (l : List Move) (c : Int), (∀ m ∈ l, okM m) → ∀ x ∈ lotsGo p ms c l, okL p x
 | [], _, _, x, hx => by simp [lotsGo] at hx
 | a :: l, c, h, x, hx => by
   have h0 := (h a (by simp)).2;have h2 := fun m (hm : m ∈ l) => h m (by simp [hm]);rw [lotsGo] at hx;split at hx
   · rcases List.mem_append.1 hx with hx | hx
     · rcases List.mem_append.1 hx with hx | hx
       · exact gone_okL (by omega) ms 0 x hx
       · unfold leftR at hx;split at hx
         · simp at hx; subst hx; refine ⟨rfl, ?_, ?_⟩ <;> dsimp only <;> omega
         · simp at hx
     · exact lotsGo_okL l _ h2 x hx
   · exact lotsGo_okL l _ h2 x hx
theorem sumC_other {p q : ByteArray} {l : List Lot} (h : ∀ x ∈ l, x.part = q) (hn : ¬ q = p) : sumC p l = 0 := by
 induction l with
 | nil => rfl
 | cons a l ih =>
   rw [show a :: l = [a] ++ l from rfl, sumC_app, sumC_one, if_neg (by rw [h a (by simp)]; exact hn), ih fun x hx => h x (by simp [hx])]; rfl
theorem lots_sum {ts : List Term} {ms : List Move} {t : Term} (h : tmE ts ms = 0) (ht : t ∈ ts) : sumC t.part (lotsT ts ms) = (cntL t.part ms).getD 0 0 := by
 have hok : ∀ m ∈ ms, okM m := fun m hm => (tm_go h m hm).1;have hc0 : ∀ m ∈ ms, 0 ≤ m.count := fun m hm => (hok m hm).2.1;have hn := terms_nodup (tm_parts h).1;rw [← (cnt_went (p := t.part) ms hok).2]
 have hR : sumC t.part (lotsR t.part ms) = camR t.part 0 ms := by
   have := lotsGo_sum (p := t.part) hc0 ms 0 hc0 (Int.le_refl _);unfold lotsR; rw [this]; omega
 have : ∀ l : List Term, (l.map (fun a : Term => a.part)).Nodup → (t.part ∈ l.map (fun a : Term => a.part) → sumC t.part (lotsT l ms) = camR t.part 0 ms) ∧ (¬ t.part ∈ l.map (fun a : Term => a.part) → sumC t.part (lotsT l ms) = 0) := by
   intro l;induction l with
   | nil => intro _; exact ⟨fun h => by simp at h, fun _ => by simp [lotsT, sumC_nil]⟩
   | cons a l ih =>
     intro hn;rw [List.map_cons, List.nodup_cons] at hn;have e : lotsT (a :: l) ms = lotsR a.part ms ++ lotsT l ms := by unfold lotsT; rw [List.flatMap_cons]
     have ih := ih hn.2;rw [e, sumC_app, List.map_cons, List.mem_cons];by_cases hp : a.part = t.part
     · rw [hp] at hn ⊢;rw [hR, ih.2 hn.1];exact ⟨fun _ => by omega, fun h => absurd (.inl rfl) h⟩
     · rw [sumC_other (l := lotsR a.part ms) (fun x hx => (lotsGo_okL ms 0 hok x hx).1) hp];refine ⟨fun h => ?_, fun h => ?_⟩
       · rw [ih.1 (h.elim (fun h => absurd h.symm hp) id)]; omega
       · rw [ih.2 (fun h2 => h (.inr h2))]; rfl
 exact (this ts hn).1 (List.mem_map.2 ⟨t, ht, rfl⟩)
end Go.Proofs.YtjihcgcbnbaclaaGreatDoor.Y9

set_option linter.unusedSimpArgs false
set_option linter.unusedVariables false
namespace Go.Proofs.YtjihcgcbnbaclaaGreatDoor.Y9
open Go Go.Pv Go.Proofs.YtjihcgcbnbaclaaGreatDoor
def upM (day : Int) (ms : List Move) : List Move := ms.takeWhile fun m => decide (m.day ≤ day)
theorem upM_all {day : Int} {ms : List Move} (h : ∀ m ∈ ms, m.day ≤ day) : ms = upM day ms := by
 unfold upM;induction ms with
 | nil => rfl
 | cons a l ih => rw [List.takeWhile_cons, decide_eq_true (h a (by simp)), if_pos rfl, ← ih fun m hm => h m (by simp [hm])]
theorem upM_stop {day : Int} : ∀ {ms : List Move} {k : Nat} {x : Move}, (∀ m ∈ ms.take k, m.day ≤ day) → ms[k]? = some x → day < x.day → ms.take k = upM day ms
 | [], k, x, _, hx, _ => by simp at hx
 | a :: l, 0, x, _, hx, hd => by
   simp at hx; subst hx;unfold upM; rw [List.takeWhile_cons, decide_eq_false (by omega)]; rfl
 | a :: l, k + 1, x, h, hx, hd => by
   have := upM_stop (ms := l) (k := k) (x := x) (fun m hm => h m (by simp [hm])) (by simpa using hx) hd;unfold upM at this ⊢;rw [List.takeWhile_cons, decide_eq_true (h a (by simp)), if_pos rfl, List.take_succ_cons, this]
theorem upM_pre (day : Int) (ms : List Move) : ∃ l, ms = upM day ms ++ l := ⟨ms.dropWhile _, (List.takeWhile_append_dropWhile).symm⟩
theorem upM_le {day : Int} {ms : List Move} : ∀ m ∈ upM day ms, m.day ≤ day := by
 unfold upM;induction ms with
 | nil => simp
 | cons a l ih =>
   rw [List.takeWhile_cons];by_cases h : a.day ≤ day
   · rw [decide_eq_true h, if_pos rfl];intro m hm;rcases List.mem_cons.1 hm with rfl | hm
     · exact h
     · exact ih m hm
   · rw [decide_eq_false h]; simp
theorem upM_len (day : Int) (ms : List Move) : (upM day ms).length ≤ ms.length := by
 obtain ⟨l, h⟩ := upM_pre day ms;have := congrArg List.length h;rw [List.length_append] at this; omega
theorem upM_mem {day : Int} {ms : List Move} {m : Move} (h : m ∈ upM day ms) : m ∈ ms := by
 obtain ⟨l, hl⟩ := upM_pre day ms;rw [hl]; exact List.mem_append.2 (.inl h)
def upF (day : Int) (ms : List Move) : List Move := ms.filter fun m => decide (m.day ≤ day)
theorem upF_len (day : Int) (ms : List Move) : (upF day ms).length ≤ ms.length := List.length_filter_le _ _
theorem upF_eq {day : Int} : ∀ {ms : List Move}, (ms.Pairwise fun a b => a.day ≤ b.day) → upF day ms = upM day ms
 | [], _ => rfl
 | a :: l, h => by
   rw [List.pairwise_cons] at h;unfold upF upM;rw [List.filter_cons, List.takeWhile_cons];by_cases hd : a.day ≤ day
   · rw [decide_eq_true hd, if_pos rfl, if_pos rfl];congr 1;exact upF_eq h.2
   · rw [decide_eq_false hd];simp only [Bool.false_eq_true, if_false];rw [List.filter_eq_nil_iff];intro m hm;have := h.1 m hm;simp; omega
theorem goM_sorted {ts : List Term} : ∀ (l pre : List Move) (last : Int), goM ts pre last l = 0 → (l.Pairwise fun a b => a.day ≤ b.day) ∧ ∀ m ∈ l, last ≤ m.day
 | [], _, _, _ => ⟨.nil, by simp⟩
 | a :: l, pre, last, h => by
   unfold goM at h;split at h
   · rename_i h0;have ih := goM_sorted l _ _ h
     have hl : last ≤ a.day := by
       unfold mvE at h0;split at h0
       · cases h0
       · split at h0
         · cases h0
         · omega
     refine ⟨List.pairwise_cons.2 ⟨ih.2, ih.1⟩, fun m hm => ?_⟩;rcases List.mem_cons.1 hm with rfl | hm
     · exact hl
     · have := ih.2 m hm; omega
   · rename_i h0; exact absurd h h0
theorem goM_pre {ts : List Term} : ∀ (a b pre : List Move) (last : Int), goM ts pre last (a ++ b) = 0 → goM ts pre last a = 0
 | [], _, _, _, _ => rfl
 | x :: a, b, pre, last, h => by
   rw [List.cons_append] at h;unfold goM at h ⊢;split at h
   · rename_i h0; rw [if_pos h0]; exact goM_pre a b _ _ h
   · rename_i h0; exact absurd h h0
theorem tm_mk {ts : List Term} {ms : List Move} (h1 : termsE ts = 0) (h2 : ms.length ≤ 300) (h3 : goM ts [] 0 ms = 0) : tmE ts ms = 0 := by
 rw [tm_a h1, movE, if_neg (by omega), h3]
theorem tm_up {ts : List Term} {ms : List Move} (h : tmE ts ms = 0) (day : Int) : tmE ts (upM day ms) = 0 := by
 obtain ⟨h1, h2, h3, h4⟩ := tm_parts h;obtain ⟨l, hl⟩ := upM_pre day ms;have := upM_len day ms;exact tm_mk h1 (by omega) (goM_pre (upM day ms) l [] 0 (hl ▸ h4))
theorem tm_upF {ts : List Term} {ms : List Move} (h : tmE ts ms = 0) (day : Int) : upF day ms = upM day ms := upF_eq (goM_sorted ms [] 0 (tm_parts h).2.2.2).1
def okDa (D : Int) (d : Da) : Prop := (0 ≤ d.day ∧ d.day ≤ D) ∧ ∀ g ∈ d.gone, g.inn = d.day ∧ d.day ≤ g.day ∧ g.day ≤ D ∧ (g.out = 1 ∨ g.out = 2)
theorem okDa_mono {D E : Int} (h : D ≤ E) {d : Da} (hd : okDa D d) : okDa E d := ⟨⟨hd.1.1, by have := hd.1.2; omega⟩, fun g hg => by have := hd.2 g hg; exact ⟨this.1, this.2.1, by omega, this.2.2.2⟩⟩
theorem takeL_da {m : Move} {last : Int} (hl : last ≤ m.day) (hk : m.kind = 1 ∨ m.kind = 2) : ∀ (l : List Da) (n : Int), (∀ d ∈ l, okDa last d) → ∀ d ∈ takeL m n l, okDa m.day d
 | [], _, _ => by intro d hd; simp [takeL] at hd
 | a :: l, n, h => by
   have h0 := h a (by simp);have ih := fun n => takeL_da hl hk l n fun d hd => h d (by simp [hd]);unfold takeL;split
   · intro d hd;rcases List.mem_cons.1 hd with rfl | hd
     · have h1 := okDa_mono hl h0;refine ⟨h1.1, fun g hg => ?_⟩;rcases List.mem_append.1 hg with hg | hg
       · exact h1.2 g hg
       · simp at hg; subst hg;exact ⟨rfl, h1.1.2, Int.le_refl _, hk⟩
     · exact ih _ d hd
   · intro d hd;rcases List.mem_cons.1 hd with rfl | hd
     · exact okDa_mono hl h0
     · exact ih _ d hd
theorem da_days {ts : List Term} {p : ByteArray} {D : Int} : ∀ (l pre : List Move) (last : Int), goM ts pre last l = 0 → 0 ≤ last → last ≤ D → (∀ m ∈ l, m.day ≤ D) → (∀ d ∈ daL p pre, okDa last d) → ∀ d ∈ daL p (pre ++ l), okDa D d
 | [], pre, last, _, _, hD, _, h => by intro d hd; rw [List.append_nil] at hd; exact okDa_mono hD (h d hd)
 | a :: l, pre, last, hg, h0, hD, hm, h => by
   have hall := goM_all (a :: l) pre last hg a (by simp);have hs := (goM_sorted (a :: l) pre last hg).2 a (by simp);unfold goM at hg;split at hg
   · rw [show pre ++ a :: l = (pre ++ [a]) ++ l by simp];refine da_days l (pre ++ [a]) a.day hg (by omega) (hm a (by simp)) (fun m hm' => hm m (by simp [hm'])) ?_;rw [daL_snoc, daStep];split
     · rw [stepD];split
       · intro d hd;rcases List.mem_append.1 hd with hd | hd
         · exact okDa_mono hs (h d hd)
         · simp at hd; subst hd;exact ⟨⟨by dsimp only; omega, Int.le_refl _⟩, by simp⟩
       · exact takeL_da hs (by have := hall.1; unfold badM at this; omega) _ _ h
     · exact fun d hd => okDa_mono hs (h d hd)
   · rename_i hc; exact absurd hg hc
structure okLot (ts : List Term) (D : Int) (x : Lot) : Prop where
 part : ∃ t ∈ ts, x.part = t.part
 cnt : 0 < x.count ∧ x.count ≤ 100000
 inn : 0 ≤ x.inn ∧ x.inn ≤ D
 out : (x.out = -1 ∧ x.day = -1) ∨ ((x.out = 1 ∨ x.out = 2) ∧ x.inn ≤ x.day ∧ x.day ≤ D)
theorem lots_ok {ts : List Term} {ms : List Move} {D : Int} (h : tmE ts ms = 0) (h0 : 0 ≤ D) (hD : ∀ m ∈ ms, m.day ≤ D) : ∀ x ∈ lotsT ts ms, okLot ts D x := fun x hx => by
 have hgo := (tm_parts h).2.2.2;obtain ⟨t, ht, hx⟩ := List.mem_flatMap.1 hx;have ho := lotsGo_okL ms 0 (fun m hm => (tm_go h m hm).1) x hx;rw [← da_out (goM_okS t.part ms [] 0 hgo (by simp))] at hx;obtain ⟨d, hd, hx⟩ := List.mem_flatMap.1 hx;have hda := da_days (p := t.part) (D := D) ms [] 0 hgo (Int.le_refl _) h0 hD (by intro d hd; simp [daL] at hd) d (by rw [List.nil_append]; exact hd);refine ⟨⟨t, ht, ho.1⟩, ho.2, ?_, ?_⟩
 · unfold outD at hx;rcases List.mem_append.1 hx with hx | hx
   · have := hda.2 x hx; rw [this.1]; exact hda.1
   · split at hx
     · simp at hx; subst hx; exact hda.1
     · simp at hx
 · unfold outD at hx;rcases List.mem_append.1 hx with hx | hx
   · have := hda.2 x hx;exact .inr ⟨this.2.2.2, by omega, this.2.2.1⟩
   · split at hx
     · simp at hx; subst hx; exact .inl ⟨rfl, rfl⟩
     · simp at hx
def lastP (day : Int) (x : Lot) : Int := if x.out < 0 then day else x.day
def weeksP (i o l : Int) : Int := max l ((o - i + 7) / 7)
def termAt (ts : List Term) (p : ByteArray) : Term := (ts[(termIx ts p).toNat]?).getD default
def chargeT (t : Term) (day : Int) (x : Lot) : Charge := ⟨x.part, x.count, weeksP x.inn (lastP day x) t.least, x.count * weeksP x.inn (lastP day x) t.least * t.week + if x.out = 2 then x.count * t.price else 0⟩
def chargeOf (ts : List Term) (day : Int) (x : Lot) : Charge := chargeT (termAt ts x.part) day x
def accT (ts : List Term) (ms : List Move) (day : Int) : List Charge := (lotsT ts (upM day ms)).map (chargeOf ts day)
theorem last_ok {ts : List Term} {day : Int} {x : Lot} (h : okLot ts day x) (hd : 0 ≤ day ∧ day ≤ 20000) : (0 ≤ lastP day x ∧ lastP day x ≤ 20000) ∧ x.inn ≤ lastP day x ∧ (0 ≤ x.inn ∧ x.inn ≤ 20000) := by
 have h1 := h.inn;have h2 := h.out;unfold lastP;split <;> omega
theorem mul_bnd {a b A B : Int} (ha : 0 ≤ a ∧ a ≤ A) (hb : 0 ≤ b ∧ b ≤ B) : 0 ≤ a * b ∧ a * b ≤ A * B := ⟨Int.mul_nonneg ha.1 hb.1, Int.mul_le_mul ha.2 hb.2 hb.1 (by omega)⟩
theorem weeks_bnd {i o l : Int} (h1 : 0 ≤ i ∧ i ≤ 20000) (h2 : 0 ≤ o ∧ o ≤ 20000) (h3 : i ≤ o) (h4 : 0 ≤ l ∧ l ≤ 520) : 0 ≤ weeksP i o l ∧ weeksP i o l ≤ 3000 := by unfold weeksP; omega
theorem goT_ok : ∀ (l pre : List Term), goT pre l = 0 → ∀ t ∈ l, ¬ badT t
 | [], _, _, t, ht => by simp at ht
 | a :: l, pre, h, t, ht => by
   unfold goT at h;split at h
   · cases h
   · split at h
     · cases h
     · split at h
       · cases h
       · rename_i h3;rcases List.mem_cons.1 ht with rfl | ht
         · exact h3
         · exact goT_ok l _ h t ht
theorem term_ok {ts : List Term} (h : termsE ts = 0) : ∀ t ∈ ts, (0 ≤ t.week ∧ t.week ≤ 1000000) ∧ (0 ≤ t.price ∧ t.price ≤ 1000000) ∧ (0 ≤ t.least ∧ t.least ≤ 520) := fun t ht => by
 unfold termsE at h;split at h
 · cases h
 · have := goT_ok ts [] h t ht;unfold badT at this; omega
theorem okLot.ix {ts : List Term} {D : Int} {x : Lot} (h : okLot ts D x) : 0 ≤ termIx ts x.part := by
 obtain ⟨t, ht, hp⟩ := h.part;by_cases hc : termIx ts x.part < 0
 · exact absurd hp.symm (ix_neg hc t ht)
 · omega
theorem acc_next {ts : List Term} {day : Int} {l : List Lot} {acc : List Charge} {k : Nat} {x : Lot} {t : Term} {c : Charge} (h : acc = (l.take k).map (chargeOf ts day)) (hx : l.take (k + 1) = l.take k ++ [x]) (ht : ts[(termIx ts x.part).toNat]? = some t) (hc : c = chargeT t day x) : acc ++ [c] = (l.take (k + 1)).map (chargeOf ts day) := by
 rw [h, hx, List.map_append, hc];simp [chargeOf, termAt, ht]
end Go.Proofs.YtjihcgcbnbaclaaGreatDoor.Y9

set_option linter.unusedSimpArgs false
set_option linter.unusedVariables false
set_option maxRecDepth 100000
namespace Go.Proofs.YtjihcgcbnbaclaaGreatDoor.Y9
open Go Go.Pv Go.Proofs.YtjihcgcbnbaclaaGreatDoor
theorem fil_inM {evs acc : List Move} {k : Nat} {x : Move} {f : Move → Bool} (hx : evs[k]? = some x) (ha : acc = (evs.take k).filter f) (h : f x = true) : acc ++ [x] = (evs.take (k + 1)).filter f := by
 rw [List.take_add_one, hx, List.filter_append, ← ha]; simp [h]
theorem fil_outM {evs acc : List Move} {k : Nat} {x : Move} {f : Move → Bool} (hx : evs[k]? = some x) (ha : acc = (evs.take k).filter f) (h : f x = false) : acc = (evs.take (k + 1)).filter f := by
 rw [List.take_add_one, hx, List.filter_append, ← ha]; simp [h]
theorem lots2 (ts : List Term) (ms : List Move) (h : tmE ts ms = 0) (hlt : ts.length ≤ 65) : PCalls Tryz.prog 23 [.lit true 4 (ts.map Term.enc), .lit true 4 (ms.map Move.enc)] (.lit false 5 ((lotsT ts ms).map Lot.enc)) :=
 tm_lots h ▸ lots ts ms hlt (by have := (tm_parts h).2.2.1; omega) (tm_go h)
theorem lastD (day : Int) (x : Lot) : (if (decide (x.out < 0)) = true then day else x.day) = lastP day x := by unfold lastP; simp
theorem charge_eq (t : Term) (day : Int) (x : Lot) : (⟨x.part, x.count, (weeksP x.inn (if (decide (x.out < 0)) = true then day else x.day) t.least), (if (decide (x.out = 2)) = true then (((x.count * (weeksP x.inn (if (decide (x.out < 0)) = true then day else x.day) t.least)) * t.week) + (x.count * t.price)) else ((x.count * (weeksP x.inn (if (decide (x.out < 0)) = true then day else x.day) t.least)) * t.week))⟩ : Charge) = chargeT t day x := by
 unfold chargeT;rw [lastD];by_cases h : x.out = 2 <;> simp [h]
theorem chg_clean (a : Charge) (q : PV) (hq : q ∈ a.enc) : Go.Pv.Clean q ∧ q.cell = true := by
 simp only [Charge.enc, List.mem_cons, List.not_mem_nil, or_false] at hq;rcases hq with rfl | rfl | rfl | rfl <;> exact ⟨.sc _, rfl⟩
def tdE (ts : List Term) (ms : List Move) (day : Int) : Int := if tmE ts ms ≠ 0 then tmE ts ms else if 0 ≤ day ∧ day ≤ 20000 then 0 else 2
theorem td_1 {ts : List Term} {ms : List Move} {day : Int} (h : ¬ tmE ts ms = 0) : tmE ts ms = tdE ts ms day := by rw [tdE, if_pos h]
theorem td_2 {ts : List Term} {ms : List Move} {day : Int} (h : tmE ts ms = 0) (h2 : ¬ (0 ≤ day ∧ day ≤ 20000)) : 2 = tdE ts ms day := by rw [tdE, if_neg (by simpa using h), if_neg h2]
theorem td_0 {ts : List Term} {ms : List Move} {day : Int} (h : tmE ts ms = 0) (h2 : 0 ≤ day ∧ day ≤ 20000) : 0 = tdE ts ms day := by rw [tdE, if_neg (by simpa using h), if_pos h2]
theorem td_parts {ts : List Term} {ms : List Move} {day : Int} (h : tdE ts ms day = 0) : tmE ts ms = 0 ∧ 0 ≤ day ∧ day ≤ 20000 := by
 unfold tdE at h;split at h
 · rename_i h1; exact absurd h h1
 · rename_i h1;split at h
   · rename_i h2; exact ⟨by simpa using h1, h2⟩
   · cases h
def accP (ts : List Term) (ms : List Move) (day : Int) : List Charge := if tdE ts ms day = 0 then accT ts ms day else []
theorem accP_0 {ts : List Term} {ms : List Move} {day : Int} (h : tdE ts ms day = 0) : accP ts ms day = accT ts ms day := by rw [accP, if_pos h]
theorem accP_1 {ts : List Term} {ms : List Move} {day : Int} (h : ¬ tdE ts ms day = 0) : accP ts ms day = [] := by rw [accP, if_neg h]
theorem weeks2 (i o l : Int) (h1 : 0 ≤ i ∧ i ≤ 20000) (h2 : 0 ≤ o ∧ o ≤ 20000) (h3 : i ≤ o) (h4 : 0 ≤ l ∧ l ≤ 520) : PCalls Tryz.prog 43 [.int i, .int o, .int l] (.int (weeksP i o l)) := weeks i o l h1 h2 h3 h4
theorem frH33 : (inFrame Tryz.f33.ntmps (Tryz.f33.body.getD .skip) && Tryz.f33.results.toList.all (resScope Tryz.f33.ntmps)) = true := by kernel_rfl
theorem upTo (ms : List Move) (day : Int) (h0 : Heap) (c0 : Nat → Nat) (hl : ms.length ≤ 305) : HCallsR Tryz.prog 33 [.lit true 4 (ms.map Move.enc), .int day] h0 c0 (fun v h _ => v = .lit true 4 ((upM day ms).map Move.enc) ∧ ∀ q : Key, q.1 ≠ 6 → h q = h0 q) := by
 refine HCallsR.of_code Tryz.func33 rfl rfl (by kernel_rfl) mixed frH33 (by show _ ≤ 23; simp) (pwp_seq_plain rfl fun K1 hK1 => p_step rfl (e_assign (v := .nil) rfl) trivial (p_end (hK1 _ ?_))); clear hK1 K1;refine pwp_seq_seq (pwp_seq_plain rfl fun K2 hK2 => p_step rfl (e_move (v := .lit _ _ _) rfl) trivial (p_step rfl (e_len rfl (by kernel_rfl)) trivial (p_step rfl (e_move (v := .sc _) rfl) trivial (p_end (hK2 _ ?_))))); clear hK2 K2;refine pwp_seq_block fun K3 hK3 => pwp_loopR (α := Nat) [0, 1, 7, 8] (fun (k : Nat) => [(9, .int (k))]) (fun (k : Nat) (h : Heap) (_ : Nat → Nat) => ((k) ≤ ms.length) ∧ (∀ m ∈ ms.take (k), m.day ≤ day) ∧ (∀ q : Key, q.1 ≠ 6 → h q = h0 q)) (fun (k : Nat) => ms.length - (k)) (0) (by exact ⟨rfl, trivial⟩) (by exact ⟨by exact Nat.zero_le _, by simp, by exact fun _ _ => rfl⟩) fun k r4 h5 c6 hj7 => ?_;obtain ⟨hk, hs, hf⟩ := hj7;try dsimp only at hk
 try dsimp only at hs
 try dsimp only at hf
 show pwp _ _ (loopQ _ _ _) ⟨sets (mix _ _ _) [(9, .int k)], _, _⟩;refine pwp_seq_plain rfl fun K8 hK8 => p_step rfl (e_lt rfl rfl) trivial (p_end (hK8 _ ?_)); clear hK8 K8;refine pwp_seq_cond rfl fun K9 hK9 => ⟨fun hb10 => ?_, fun hb10 => ?_⟩
 ·have hb10R := hb10; try simp only [z1, z2, z3, z4, z5, z6, ne_eq, z7, z8, z9, z10, z11, z12] at hb10
  obtain ⟨x, hx, hd, ht⟩ := get_lt (xs := ms) (i := k) (by omega);refine pwp_skip (seq_norm (hK9 _ ?_)); clear hK9 K9;refine pwp_seq_block fun K11 hK11 => pwp_seq_plain rfl fun K12 hK12 => p_step rfl (e_move (v := .sc _) rfl) trivial (p_step rfl (e_ixa rfl rfl (by kernel_rfl) (by kernel_rfl) (by simp only [lM]; omega)) trivial (p_step rfl (e_loadA (n := 4) rfl (by kernel_rfl) (by kernel_rfl) (by kernel_rfl) (by simp only [lM]; omega) (by decide) (by first | exact agg_map hx rfl)) trivial (p_new rfl (e_alloc (cs := [.int 0, .int 0, .str ByteArray.empty, .int 0]) (n := 4) (by kernel_rfl) rfl (by decide)) (ob_alloc (by decide)) (p_step rfl (e_assign (v := .sc _) rfl) trivial (p_store rfl (e_storeA rfl (hset_self _ _ _) rfl rfl rfl (by kernel_rfl) rfl (by kernel_rfl)) trivial ?_)))));refine p_end (hK12 _ ?_); clear hK12 K12;refine pwp_seq_plain rfl fun K13 hK13 => p_step rfl (e_faP (pl := [(0, 1, false), (1, 1, false), (2, 1, false), (3, 1, false)]) rfl (by kernel_rfl) (by kernel_rfl) (by decide) rfl) trivial (p_step rfl (e_loadH (v := .sc _) rfl (hset_self _ _ _) (by kernel_rfl) (by kernel_rfl) (by kernel_rfl) (by exact Nat.zero_lt_one) (by decide) rfl) trivial (p_step rfl (e_move (v := .sc _) rfl) trivial (p_step rfl (e_gt rfl rfl) trivial (p_end (hK13 _ ?_))))); clear hK13 K13;refine pwp_cond rfl (fun hb14 => ?_) (fun hb14 => ?_)
  ·have hb14R := hb14; try simp only [z1, z2, z3, z4, z5, z6, ne_eq, z7, z8, z9, z10, z11, z12] at hb14
   refine pwp_seq_plain rfl fun K15 hK15 => p_step rfl (e_move (v := .lit _ _ _) rfl) trivial (p_step rfl (e_move (v := .sc _) rfl) trivial (p_step rfl (e_upto (n := k) rfl rfl rfl (by omega) (by kernel_rfl) (by kernel_rfl)) trivial (p_step rfl (e_assign (v := .lit _ _ _) rfl) trivial (p_end (hK15 _ ?_))))); clear hK15 K15;refine pwp_ret (ret_block (ret_seq (ret_loop (ret_block (ret_seq (end1 (v := .lit _ _ _) rfl ?_))))));exact ⟨by rw [upM_stop hs hx (by omega)], fun q hq => (hset_ne fun e => hq (by rw [e])).trans ((hset_ne fun e => hq (by rw [e])).trans (hf q hq))⟩
  have hb14R := hb14; try simp only [z1, z2, z3, z4, z5, z6, ne_eq, z7, z8, z9, z10, z11, z12] at hb14
  refine pwp_skip (block_norm (seq_norm (hK11 _ ?_))); clear hK11 K11;refine pwp_plain rfl fun K16 hK16 => p_step rfl (e_add rfl rfl (by omega)) trivial (p_step rfl (e_move (v := .sc _) rfl) trivial (p_end (hK16 _ ?_))); clear hK16 K16;exact loop_again (k + 1) (by show _ < _; omega) ⟨rfl, rfl, rfl, rfl, trivial⟩ ⟨rfl, trivial⟩ (by exact ⟨by show _ + 1 ≤ _; omega, by (intro m hm; rw [ht] at hm; rcases List.mem_append.1 hm with hm | hm; exact hs m hm; simp at hm; subst hm; omega), by exact fun q hq => (hset_ne fun e => hq (by rw [e])).trans ((hset_ne fun e => hq (by rw [e])).trans (hf q hq))⟩)
 have hb10R := hb10; try simp only [z1, z2, z3, z4, z5, z6, ne_eq, z7, z8, z9, z10, z11, z12] at hb10
 obtain rfl : k = ms.length := by omega
 rw [List.take_length] at hs;refine pwp_exit (exit_seq ?_);clear hK9 K9;refine exit_loop (exit_here (seq_norm (hK3 _ ?_))); clear hK3 K3;refine pwp_seq_plain rfl fun K17 hK17 => p_step rfl (e_move (v := .lit _ _ _) rfl) trivial (p_step rfl (e_assign (v := .lit _ _ _) rfl) trivial (p_end (hK17 _ ?_))); clear hK17 K17;refine pwp_ret (end1 (v := .lit _ _ _) rfl ?_);exact ⟨by rw [← upM_all hs], hf⟩
theorem fr10 : (inFrame Tryz.f10.ntmps (Tryz.f10.body.getD .skip) && Tryz.f10.results.toList.all (resScope Tryz.f10.ntmps)) = true := by kernel_rfl
theorem MovesUpto (ms : List Move) (day : Int) (hl : ms.length ≤ 305) : PCalls Tryz.prog 10 [.lit true 4 (ms.map Move.enc), .int day] (.lit false 4 ((upF day ms).map Move.enc)) := by
 refine PCalls.of_code Tryz.func10 rfl rfl (by kernel_rfl) mixed fr10 (by show _ ≤ 28; simp) (.lit _ _ _ fun row hr => pure_map Move.pure row hr) (pwp_seq_plain rfl fun K1 hK1 => p_step rfl (e_assign (v := .nil) rfl) trivial (p_end (hK1 _ ?_))); clear hK1 K1;refine pwp_seq_plain rfl fun K2 hK2 => p_step rfl (e_assign (v := .nil) rfl) trivial (p_end (hK2 _ ?_)); clear hK2 K2;refine pwp_seq_seq (pwp_seq_plain rfl fun K3 hK3 => p_step rfl (e_assign (v := .sc _) rfl) trivial (p_end (hK3 _ ?_))); clear hK3 K3;refine pwp_seq_block fun K4 hK4 => pwp_loopR (α := Nat × (List Move) × PV) [0, 1] (fun (a5 : Nat × (List Move) × PV) => [(5, (a5.2.2)), (6, .int (a5.1))]) (fun (a5 : Nat × (List Move) × PV) (h : Heap) (_ : Nat → Nat) => ((a5.1) ≤ ms.length) ∧ ((a5.2.1) = (ms.take (a5.1)).filter fun e => decide (e.day ≤ day)) ∧ ((a5.2.1).length ≤ (a5.1)) ∧ (SliceAt h 26 (a5.2.2) 4 ((a5.2.1).map Move.enc))) (fun (a5 : Nat × (List Move) × PV) => ms.length - (a5.1)) (0, [], .nil) (by exact ⟨rfl, rfl, trivial⟩) (by exact ⟨by exact Nat.zero_le _, by exact rfl, by exact Nat.le_refl _, .nil⟩) fun a5 r6 h7 c8 hj9 => ?_;obtain ⟨k, acc, v⟩ := a5;obtain ⟨hk, hinv, hlen, hihj9_0⟩ := hj9;try dsimp only at hk
 try dsimp only at hinv
 try dsimp only at hlen
 try dsimp only at hihj9_0
 show pwp _ _ (loopQ _ _ _) ⟨sets (mix _ _ _) [(5, v), (6, .int k)], _, _⟩;refine pwp_seq_seq (pwp_seq_plain rfl fun K10 hK10 => p_step rfl (e_move (v := .sc _) rfl) trivial (p_step rfl (e_move (v := .lit _ _ _) rfl) trivial (p_step rfl (e_len rfl (by kernel_rfl)) trivial (p_step rfl (e_lt rfl rfl) trivial (p_end (hK10 _ ?_)))))); clear hK10 K10;refine pwp_seq_cond rfl fun K11 hK11 => ⟨fun hb12 => ?_, fun hb12 => ?_⟩
 ·have hb12R := hb12; try simp only [z1, z2, z3, z4, z5, z6, ne_eq, z7, z8, z9, z10, z11, z12] at hb12
  obtain ⟨x, hx, hd, ht⟩ := get_lt (xs := ms) (i := k) (by omega);refine pwp_skip (seq_norm (hK11 _ ?_)); clear hK11 K11;refine pwp_seq_block fun K13 hK13 => pwp_seq_plain rfl fun K14 hK14 => p_step rfl (e_move (v := .lit _ _ _) rfl) trivial (p_step rfl (e_move (v := .sc _) rfl) trivial (p_step rfl (e_ixa rfl rfl (by kernel_rfl) (by kernel_rfl) (by simp only [lM]; omega)) trivial (p_step rfl (e_fa (pl := [(0, 1, false), (1, 1, false), (2, 1, false), (3, 1, false)]) rfl (by kernel_rfl) (by kernel_rfl) (by decide) rfl) trivial (p_step rfl (e_load (v := .sc _) rfl (by kernel_rfl) (by kernel_rfl) (by kernel_rfl) (by simp only [lM]; omega) (by decide) ((cell_map hx _).trans rfl)) trivial (p_step rfl (e_move (v := .sc _) rfl) trivial ?_)))));refine p_step rfl (e_le rfl rfl) trivial (p_end (hK14 _ ?_)); clear hK14 K14;refine pwp_cond rfl (fun hb15 => ?_) (fun hb15 => ?_)
  ·have hb15R := hb15; try simp only [z1, z2, z3, z4, z5, z6, ne_eq, z7, z8, z9, z10, z11, z12] at hb15
   refine pwp_plain rfl fun K16 hK16 => p_step rfl (e_move (v := _) rfl) trivial (p_step rfl (e_move (v := .lit _ _ _) rfl) trivial (p_step rfl (e_move (v := .sc _) rfl) trivial (p_step rfl (e_ixa rfl rfl (by kernel_rfl) (by kernel_rfl) (by simp only [lM]; omega)) trivial (p_step rfl (e_loadA (n := 4) rfl (by kernel_rfl) (by kernel_rfl) (by kernel_rfl) (by simp only [lM]; omega) (by decide) (by first | exact agg_map hx rfl)) trivial (p_new rfl (e_bslice (rows := [Move.enc x]) (zs := [.int 0, .int 0, .str ByteArray.empty, .int 0]) (sz := 4) (by kernel_rfl) (by kernel_rfl) rfl (by kernel_rfl) (by decide) rfl rfl (by exact ⟨by decide, rfl, rfl, trivial⟩) rfl) trivial (p_app rfl rfl rfl (hihj9_0.keep fun _ => hzM rfl (rfl)) (src_ref (hset_self _ _ _) rfl) (by kernel_rfl) (by simp only [List.length_append, lM, List.length_nil, List.length_cons]; omega) fun v17 h18 c19 hs20 hf21 => ?_))))));have ho22 := (hf21 (25, _) (key_ne rfl) (fun _ _ => key_ne rfl)).trans (hset_self _ _ _);refine p_step rfl (e_assign (v := _) rfl) trivial (p_end (hK16 _ ?_)); clear hK16 K16;refine block_norm (seq_norm (hK13 _ ?_)); clear hK13 K13;refine pwp_plain rfl fun K23 hK23 => p_step rfl (e_move (v := .sc _) rfl) trivial (p_step rfl (e_add rfl rfl (by omega)) trivial (p_step rfl (e_assign (v := .sc _) rfl) trivial (p_end (hK23 _ ?_)))); clear hK23 K23;exact loop_again ((k + 1, (acc ++ [x]), v17)) (by show _ < _; simp only; omega) ⟨rfl, rfl, trivial⟩ ⟨rfl, rfl, trivial⟩ (by exact ⟨by show _ + 1 ≤ _; omega, by first | exact fil_inM hx hinv (decide_eq_true (by omega)) | exact fil_outM hx hinv (decide_eq_false (by omega)), by show List.length _ ≤ _ + 1; first | omega | (simp only [List.length_append, List.length_cons, List.length_nil]; omega), (SliceAt.to hs20 (by simp))⟩)
  have hb15R := hb15; try simp only [z1, z2, z3, z4, z5, z6, ne_eq, z7, z8, z9, z10, z11, z12] at hb15
  refine pwp_skip (block_norm (seq_norm (hK13 _ ?_))); clear hK13 K13;refine pwp_plain rfl fun K24 hK24 => p_step rfl (e_move (v := .sc _) rfl) trivial (p_step rfl (e_add rfl rfl (by omega)) trivial (p_step rfl (e_assign (v := .sc _) rfl) trivial (p_end (hK24 _ ?_)))); clear hK24 K24;exact loop_again ((k + 1, acc, v)) (by show _ < _; simp only; omega) ⟨rfl, rfl, trivial⟩ ⟨rfl, rfl, trivial⟩ (by exact ⟨by show _ + 1 ≤ _; omega, by first | exact fil_inM hx hinv (decide_eq_true (by omega)) | exact fil_outM hx hinv (decide_eq_false (by omega)), by show List.length _ ≤ _ + 1; first | omega | (simp only [List.length_append, List.length_cons, List.length_nil]; omega), (SliceAt.to hihj9_0 (by simp))⟩)
 have hb12R := hb12; try simp only [z1, z2, z3, z4, z5, z6, ne_eq, z7, z8, z9, z10, z11, z12] at hb12
 obtain rfl : k = ms.length := by omega
 rw [List.take_length] at hinv;refine pwp_exit (exit_seq ?_);clear hK11 K11;refine exit_loop (exit_here (seq_norm (hK4 _ ?_))); clear hK4 K4;refine pwp_seq_plain rfl fun K25 hK25 => p_step rfl (e_move (v := _) rfl) trivial (p_step rfl (e_assign (v := _) rfl) trivial (p_end (hK25 _ ?_))); clear hK25 K25;refine pwp_ret (end1 (v := _) rfl ?_);exact out_slice (by assumption) (by rw [upF, hinv]) (fun _ => rfl) move_clean
theorem fr26 : (inFrame Tryz.f26.ntmps (Tryz.f26.body.getD .skip) && Tryz.f26.results.toList.all (resScope Tryz.f26.ntmps)) = true := by kernel_rfl
theorem account (ts : List Term) (ms : List Move) (day : Int) (hlt : ts.length ≤ 65) (hl : ms.length ≤ 305) (htm : tmE ts ms = 0) (hday : 0 ≤ day ∧ day ≤ 20000) : PCalls Tryz.prog 26 [.lit true 4 (ts.map Term.enc), .lit true 4 (ms.map Move.enc), .int day] (.lit false 4 ((accT ts ms day).map Charge.enc)) := by
 refine PCalls.of_code Tryz.func26 rfl rfl (by kernel_rfl) mixed fr26 (by show _ ≤ 72; simp) (.lit _ _ _ fun row hr => pure_map Charge.pure row hr) ?_;have hLO := lots_ok (tm_up htm day) hday.1 upM_le
 have hll : (lotsT ts (upM day ms)).length ≤ 6066450 := by
   have h1 := lotsT_len ts (upM day ms) (Nat.le_trans (upM_len _ _) hl);have h2 : ts.length * 93330 ≤ 65 * 93330 := Nat.mul_le_mul_right _ hlt;omega
 refine pwp_seq_plain rfl fun K1 hK1 => p_step rfl (e_assign (v := .nil) rfl) trivial (p_end (hK1 _ ?_)); clear hK1 K1;refine pwp_seq_plain rfl fun K2 hK2 => p_step rfl (e_assign (v := .nil) rfl) trivial (p_end (hK2 _ ?_)); clear hK2 K2;refine pwp_seq_seq (pwp_seq_plain rfl fun K3 hK3 => p_step rfl (e_move (v := .lit _ _ _) rfl) trivial (p_step rfl (e_move (v := .lit _ _ _) rfl) trivial (p_step rfl (e_move (v := .sc _) rfl) trivial (p_hcall rfl (upTo ms day _ _ (by omega)) fun v4 h5 c6 hR7 => ?_))));obtain ⟨rfl, hf8⟩ := hR7;refine p_call rfl (.cons inn_lit (.cons inn_lit .nil)) (lots2 _ _ (tm_up htm day) hlt) (p_step rfl (e_len rfl (by kernel_rfl)) trivial (p_step rfl (e_move (v := .sc _) rfl) trivial (p_end (hK3 _ ?_)))); clear hK3 K3;refine pwp_seq_block fun K9 hK9 => pwp_loopR (α := Nat × (List Charge) × PV) [0, 2, 18, 19] (fun (a10 : Nat × (List Charge) × PV) => [(7, (a10.2.2)), (20, .int (a10.1))]) (fun (a10 : Nat × (List Charge) × PV) (h : Heap) (_ : Nat → Nat) => ((a10.1) ≤ (lotsT ts (upM day ms)).length) ∧ ((a10.2.1) = ((lotsT ts (upM day ms)).take (a10.1)).map (chargeOf ts day)) ∧ ((a10.2.1).length ≤ (a10.1)) ∧ (SliceAt h 69 (a10.2.2) 4 ((a10.2.1).map Charge.enc))) (fun (a10 : Nat × (List Charge) × PV) => (lotsT ts (upM day ms)).length - (a10.1)) (0, [], .nil) (by exact ⟨rfl, rfl, trivial⟩) (by exact ⟨by exact Nat.zero_le _, by exact rfl, by exact Nat.le_refl _, .nil⟩) fun a10 r11 h12 c13 hj14 => ?_;obtain ⟨k, acc, v⟩ := a10;obtain ⟨hk, hinv, hal, hihj14_0⟩ := hj14;try dsimp only at hk
 try dsimp only at hinv
 try dsimp only at hal
 try dsimp only at hihj14_0
 show pwp _ _ (loopQ _ _ _) ⟨sets (mix _ _ _) [(7, v), (20, .int k)], _, _⟩;refine pwp_seq_plain rfl fun K15 hK15 => p_step rfl (e_lt rfl rfl) trivial (p_end (hK15 _ ?_)); clear hK15 K15;refine pwp_seq_cond rfl fun K16 hK16 => ⟨fun hb17 => ?_, fun hb17 => ?_⟩
 ·have hb17R := hb17; try simp only [z1, z2, z3, z4, z5, z6, ne_eq, z7, z8, z9, z10, z11, z12] at hb17
  obtain ⟨x, hx, hd, ht⟩ := get_lt (xs := (lotsT ts (upM day ms))) (i := k) (by omega);have hok := hLO x (List.mem_of_getElem? hx);have hixp := hok.ix;have hixl := ix_lt hixp;obtain ⟨t, ht0, htp⟩ := ix_part hixp;have htk := term_ok (tm_parts htm).1 t (List.mem_of_getElem? ht0);have hla := last_ok hok hday;have hW := weeks_bnd hla.2.2 hla.1 hla.2.1 htk.2.2;rw [← lastD] at hW;have hcx := hok.cnt;have hm1 := mul_bnd (a := x.count) (A := 100000) ⟨by omega, hcx.2⟩ hW;have hm2 := mul_bnd hm1 htk.1;have hm3 := mul_bnd (a := x.count) (A := 100000) ⟨by omega, hcx.2⟩ htk.2.1;refine pwp_skip (seq_norm (hK16 _ ?_)); clear hK16 K16;refine pwp_seq_block fun K18 hK18 => pwp_seq_plain rfl fun K19 hK19 => p_step rfl (e_ixa rfl rfl (by kernel_rfl) (by kernel_rfl) (by simp only [lM]; omega)) trivial (p_step rfl (e_loadA (n := 5) rfl (by kernel_rfl) (by kernel_rfl) (by kernel_rfl) (by simp only [lM]; omega) (by decide) (by first | exact agg_map hx rfl)) trivial (p_new rfl (e_alloc (cs := [.str ByteArray.empty, .int 0, .int 0, .int 0, .int 0]) (n := 5) (by kernel_rfl) rfl (by decide)) (ob_alloc (by decide)) (p_store rfl (e_storeA rfl (hset_self _ _ _) rfl rfl rfl (by kernel_rfl) rfl (by kernel_rfl)) trivial (p_end (hK19 _ ?_))))); clear hK19 K19;refine pwp_seq_plain rfl fun K20 hK20 => p_step rfl (e_move (v := .lit _ _ _) rfl) trivial (p_step rfl (e_move (v := .lit _ _ _) rfl) trivial (p_step rfl (e_faP (pl := [(0, 1, false), (1, 1, false), (2, 1, false), (3, 1, false), (4, 1, false)]) rfl (by kernel_rfl) (by kernel_rfl) (by decide) rfl) trivial (p_step rfl (e_loadH (v := .sc _) rfl (hset_self _ _ _) (by kernel_rfl) (by kernel_rfl) (by kernel_rfl) (by exact Nat.zero_lt_one) (by decide) rfl) trivial (p_call rfl (.cons inn_lit (.cons inn_sc .nil)) (termOf _ _ hlt) (p_step rfl (e_ixa rfl rfl (by kernel_rfl) (by kernel_rfl) (by simp only [lM]; omega)) trivial (p_step rfl (e_loadA (n := 4) rfl (by kernel_rfl) (by kernel_rfl) (by kernel_rfl) (by simp only [lM]; omega) (by decide) (by first | exact agg_map ht0 rfl)) trivial ?_))))));refine p_new rfl (e_alloc (cs := [.str ByteArray.empty, .int 0, .int 0, .int 0]) (n := 4) (by kernel_rfl) rfl (by decide)) (ob_alloc (by decide)) (p_store rfl (e_storeA rfl (hset_self _ _ _) rfl rfl rfl (by kernel_rfl) rfl (by kernel_rfl)) trivial (p_end (hK20 _ ?_))); clear hK20 K20;refine pwp_seq_plain rfl fun K21 hK21 => p_step rfl (e_faP (pl := [(0, 1, false), (1, 1, false), (2, 1, false), (3, 1, false), (4, 1, false)]) rfl (by kernel_rfl) (by kernel_rfl) (by decide) rfl) trivial (p_step rfl (e_loadH (v := .sc _) rfl (hzM rfl (hzM rfl (hset_self _ _ _))) (by kernel_rfl) (by kernel_rfl) (by kernel_rfl) (by exact Nat.zero_lt_one) (by decide) rfl) trivial (p_step rfl (e_assign (v := .sc _) rfl) trivial (p_end (hK21 _ ?_)))); clear hK21 K21;refine pwp_seq_seq (pwp_seq_plain rfl fun K22 hK22 => p_step rfl (e_faP (pl := [(0, 1, false), (1, 1, false), (2, 1, false), (3, 1, false), (4, 1, false)]) rfl (by kernel_rfl) (by kernel_rfl) (by decide) rfl) trivial (p_step rfl (e_loadH (v := .sc _) rfl (hzM rfl (hzM rfl (hset_self _ _ _))) (by kernel_rfl) (by kernel_rfl) (by kernel_rfl) (by exact Nat.zero_lt_one) (by decide) rfl) trivial (p_step rfl (e_lt rfl rfl) trivial (p_end (hK22 _ ?_))))); clear hK22 K22;refine pwp_seq_cutG [0, 2, 7, 9, 10, 18, 19, 20] [(11, .int (if (decide (x.out < (0))) = true then day else x.day))] (fun K23 hK23 => ?_) (fun r24 => ?_)
  ·skip
   refine pwp_cond rfl (fun hb25 => ?_) (fun hb25 => ?_)
   ·have hb25R := hb25; try simp only [z1, z2, z3, z4, z5, z6, ne_eq, z7, z8, z9, z10, z11, z12] at hb25
    refine pwp_plain rfl fun K26 hK26 => p_step rfl (e_move (v := .sc _) rfl) trivial (p_step rfl (e_assign (v := .sc _) rfl) trivial (p_end (hK26 _ ?_))); clear hK26 K26;exact seq_norm (hK23 _ ⟨rfl, rfl, rfl, rfl, rfl, rfl, rfl, rfl, trivial⟩ ⟨(congrArg PV.int (show (day : Int) = (if (decide (x.out < (0))) = true then day else x.day) by rw [hb25R]; rfl)), trivial⟩)
   have hb25R := hb25; try simp only [z1, z2, z3, z4, z5, z6, ne_eq, z7, z8, z9, z10, z11, z12] at hb25
   refine pwp_skip ?_;exact seq_norm (hK23 _ ⟨rfl, rfl, rfl, rfl, rfl, rfl, rfl, rfl, trivial⟩ ⟨(congrArg PV.int (show (x.day : Int) = (if (decide (x.out < (0))) = true then day else x.day) by rw [hb25R]; rfl)), trivial⟩)
  refine pwp_seq_plain rfl fun K27 hK27 => p_step rfl (e_faP (pl := [(0, 1, false), (1, 1, false), (2, 1, false), (3, 1, false), (4, 1, false)]) rfl (by kernel_rfl) (by kernel_rfl) (by decide) rfl) trivial (p_step rfl (e_loadH (v := .sc _) rfl (hzM rfl (hzM rfl (hset_self _ _ _))) (by kernel_rfl) (by kernel_rfl) (by kernel_rfl) (by exact Nat.zero_lt_one) (by decide) rfl) trivial (p_step rfl (e_move (v := .sc _) rfl) trivial (p_step rfl (e_faP (pl := [(0, 1, false), (1, 1, false), (2, 1, false), (3, 1, false)]) rfl (by kernel_rfl) (by kernel_rfl) (by decide) rfl) trivial (p_step rfl (e_loadH (v := .sc _) rfl (hset_self _ _ _) (by kernel_rfl) (by kernel_rfl) (by kernel_rfl) (by exact Nat.zero_lt_one) (by decide) rfl) trivial (p_call rfl (.cons inn_sc (.cons inn_sc (.cons inn_sc .nil))) (weeks2 _ _ _ hla.2.2 (by first | exact hla.1 | (rw [lastD]; exact hla.1)) (by first | exact hla.2.1 | (rw [lastD]; exact hla.2.1)) htk.2.2) (p_step rfl (e_assign (v := .sc _) rfl) trivial ?_))))));refine p_end (hK27 _ ?_); clear hK27 K27;refine pwp_seq_plain rfl fun K28 hK28 => p_step rfl (e_faP (pl := [(0, 1, false), (1, 1, false), (2, 1, false), (3, 1, false), (4, 1, false)]) rfl (by kernel_rfl) (by kernel_rfl) (by decide) rfl) trivial (p_step rfl (e_loadH (v := .sc _) rfl (hzM rfl (hzM rfl (hset_self _ _ _))) (by kernel_rfl) (by kernel_rfl) (by kernel_rfl) (by exact Nat.zero_lt_one) (by decide) rfl) trivial (p_step rfl (e_move (v := .sc _) rfl) trivial (p_step rfl (e_mul rfl rfl (by omega)) trivial (p_step rfl (e_faP (pl := [(0, 1, false), (1, 1, false), (2, 1, false), (3, 1, false)]) rfl (by kernel_rfl) (by kernel_rfl) (by decide) rfl) trivial (p_step rfl (e_loadH (v := .sc _) rfl (hset_self _ _ _) (by kernel_rfl) (by kernel_rfl) (by kernel_rfl) (by exact Nat.zero_lt_one) (by decide) rfl) trivial (p_step rfl (e_mul rfl rfl (by omega)) trivial ?_))))));refine p_step rfl (e_assign (v := .sc _) rfl) trivial (p_end (hK28 _ ?_)); clear hK28 K28;refine pwp_seq_seq (pwp_seq_plain rfl fun K29 hK29 => p_step rfl (e_faP (pl := [(0, 1, false), (1, 1, false), (2, 1, false), (3, 1, false), (4, 1, false)]) rfl (by kernel_rfl) (by kernel_rfl) (by decide) rfl) trivial (p_step rfl (e_loadH (v := .sc _) rfl (hzM rfl (hzM rfl (hset_self _ _ _))) (by kernel_rfl) (by kernel_rfl) (by kernel_rfl) (by exact Nat.zero_lt_one) (by decide) rfl) trivial (p_step rfl (e_eq rfl rfl) trivial (p_end (hK29 _ ?_))))); clear hK29 K29;refine pwp_seq_cutG [0, 2, 7, 9, 12, 18, 19, 20] [(13, .int (if (decide (x.out = (2))) = true then (((x.count * (weeksP x.inn (if (decide (x.out < (0))) = true then day else x.day) t.least)) * t.week) + (x.count * t.price)) else ((x.count * (weeksP x.inn (if (decide (x.out < (0))) = true then day else x.day) t.least)) * t.week)))] (fun K30 hK30 => ?_) (fun r31 => ?_)
  ·skip
   refine pwp_cond rfl (fun hb32 => ?_) (fun hb32 => ?_)
   ·have hb32R := hb32; try simp only [z1, z2, z3, z4, z5, z6, ne_eq, z7, z8, z9, z10, z11, z12] at hb32
    refine pwp_plain rfl fun K33 hK33 => p_step rfl (e_move (v := .sc _) rfl) trivial (p_step rfl (e_faP (pl := [(0, 1, false), (1, 1, false), (2, 1, false), (3, 1, false), (4, 1, false)]) rfl (by kernel_rfl) (by kernel_rfl) (by decide) rfl) trivial (p_step rfl (e_loadH (v := .sc _) rfl (hzM rfl (hzM rfl (hset_self _ _ _))) (by kernel_rfl) (by kernel_rfl) (by kernel_rfl) (by exact Nat.zero_lt_one) (by decide) rfl) trivial (p_step rfl (e_faP (pl := [(0, 1, false), (1, 1, false), (2, 1, false), (3, 1, false)]) rfl (by kernel_rfl) (by kernel_rfl) (by decide) rfl) trivial (p_step rfl (e_loadH (v := .sc _) rfl (hset_self _ _ _) (by kernel_rfl) (by kernel_rfl) (by kernel_rfl) (by exact Nat.zero_lt_one) (by decide) rfl) trivial (p_step rfl (e_mul rfl rfl (by omega)) trivial (p_step rfl (e_add rfl rfl (by omega)) trivial ?_))))));refine p_step rfl (e_assign (v := .sc _) rfl) trivial (p_end (hK33 _ ?_)); clear hK33 K33;exact seq_norm (hK30 _ ⟨rfl, rfl, rfl, rfl, rfl, rfl, rfl, rfl, trivial⟩ ⟨(congrArg PV.int (show ((((x.count * (weeksP x.inn (if (decide (x.out < (0))) = true then day else x.day) t.least)) * t.week) + (x.count * t.price)) : Int) = (if (decide (x.out = (2))) = true then (((x.count * (weeksP x.inn (if (decide (x.out < (0))) = true then day else x.day) t.least)) * t.week) + (x.count * t.price)) else ((x.count * (weeksP x.inn (if (decide (x.out < (0))) = true then day else x.day) t.least)) * t.week)) by rw [hb32R]; rfl)), trivial⟩)
   have hb32R := hb32; try simp only [z1, z2, z3, z4, z5, z6, ne_eq, z7, z8, z9, z10, z11, z12] at hb32
   refine pwp_skip ?_;exact seq_norm (hK30 _ ⟨rfl, rfl, rfl, rfl, rfl, rfl, rfl, rfl, trivial⟩ ⟨(congrArg PV.int (show (((x.count * (weeksP x.inn (if (decide (x.out < (0))) = true then day else x.day) t.least)) * t.week) : Int) = (if (decide (x.out = (2))) = true then (((x.count * (weeksP x.inn (if (decide (x.out < (0))) = true then day else x.day) t.least)) * t.week) + (x.count * t.price)) else ((x.count * (weeksP x.inn (if (decide (x.out < (0))) = true then day else x.day) t.least)) * t.week)) by rw [hb32R]; rfl)), trivial⟩)
  refine pwp_plain rfl fun K34 hK34 => p_step rfl (e_move (v := _) rfl) trivial (p_step rfl (e_faP (pl := [(0, 1, false), (1, 1, false), (2, 1, false), (3, 1, false), (4, 1, false)]) rfl (by kernel_rfl) (by kernel_rfl) (by decide) rfl) trivial (p_step rfl (e_loadH (v := .sc _) rfl (hzM rfl (hzM rfl (hset_self _ _ _))) (by kernel_rfl) (by kernel_rfl) (by kernel_rfl) (by exact Nat.zero_lt_one) (by decide) rfl) trivial (p_step rfl (e_faP (pl := [(0, 1, false), (1, 1, false), (2, 1, false), (3, 1, false), (4, 1, false)]) rfl (by kernel_rfl) (by kernel_rfl) (by decide) rfl) trivial (p_step rfl (e_loadH (v := .sc _) rfl (hzM rfl (hzM rfl (hset_self _ _ _))) (by kernel_rfl) (by kernel_rfl) (by kernel_rfl) (by exact Nat.zero_lt_one) (by decide) rfl) trivial (p_step rfl (e_move (v := .sc _) rfl) trivial (p_step rfl (e_move (v := .sc _) rfl) trivial ?_))))));refine p_step rfl (e_build (zs := [.str ByteArray.empty, .int 0, .int 0, .int 0]) (pl := [(0, 1, false), (1, 1, false), (2, 1, false), (3, 1, false)]) (by kernel_rfl) (by kernel_rfl) (by kernel_rfl) rfl rfl (by exact ⟨by decide, rfl, Nat.le_of_ble_eq_true rfl, rfl, ⟨by decide, rfl, Nat.le_of_ble_eq_true rfl, rfl, ⟨by decide, rfl, Nat.le_of_ble_eq_true rfl, rfl, ⟨by decide, rfl, Nat.le_of_ble_eq_true rfl, rfl, trivial⟩⟩⟩⟩) rfl) trivial (p_new rfl (e_bslice (rows := [Charge.enc ⟨x.part, x.count, (weeksP x.inn (if (decide (x.out < 0)) = true then day else x.day) t.least), (if (decide (x.out = 2)) = true then (((x.count * (weeksP x.inn (if (decide (x.out < 0)) = true then day else x.day) t.least)) * t.week) + (x.count * t.price)) else ((x.count * (weeksP x.inn (if (decide (x.out < 0)) = true then day else x.day) t.least)) * t.week))⟩]) (zs := [.str ByteArray.empty, .int 0, .int 0, .int 0]) (sz := 4) (by kernel_rfl) (by kernel_rfl) rfl (by kernel_rfl) (by decide) rfl rfl (by exact ⟨by decide, rfl, rfl, trivial⟩) rfl) trivial (p_app rfl rfl rfl (hihj14_0.keep fun _ => hzM rfl (hzM rfl (hzM rfl (hzM rfl (hzM rfl (rfl)))))) (src_ref (hset_self _ _ _) rfl) (by kernel_rfl) (by simp only [List.length_append, lM, List.length_nil, List.length_cons]; omega) fun v35 h36 c37 hs38 hf39 => ?_));have ho40 := (hf39 (9, _) (key_ne rfl) (fun _ _ => key_ne rfl)).trans (hzM rfl (hzM rfl (hzM rfl (hset_self _ _ _))));have ho41 := (hf39 (68, _) (key_ne rfl) (fun _ _ => key_ne rfl)).trans (hset_self _ _ _);refine p_step rfl (e_assign (v := _) rfl) trivial (p_end (hK34 _ ?_)); clear hK34 K34;refine block_norm (seq_norm (hK18 _ ?_)); clear hK18 K18;refine pwp_plain rfl fun K42 hK42 => p_step rfl (e_add rfl rfl (by omega)) trivial (p_step rfl (e_move (v := .sc _) rfl) trivial (p_end (hK42 _ ?_))); clear hK42 K42;exact loop_again ((k + 1, (acc ++ [⟨x.part, x.count, (weeksP x.inn (if (decide (x.out < 0)) = true then day else x.day) t.least), (if (decide (x.out = 2)) = true then (((x.count * (weeksP x.inn (if (decide (x.out < 0)) = true then day else x.day) t.least)) * t.week) + (x.count * t.price)) else ((x.count * (weeksP x.inn (if (decide (x.out < 0)) = true then day else x.day) t.least)) * t.week))⟩]), v35)) (by show _ < _; simp only; omega) ⟨rfl, rfl, rfl, rfl, trivial⟩ ⟨rfl, rfl, trivial⟩ (by exact ⟨by show _ + 1 ≤ _; omega, by exact acc_next hinv ht ht0 (charge_eq t day x), by show List.length _ ≤ _ + 1; simp only [List.length_append, List.length_cons, List.length_nil]; omega, (SliceAt.to hs38 (by simp))⟩)
 have hb17R := hb17; try simp only [z1, z2, z3, z4, z5, z6, ne_eq, z7, z8, z9, z10, z11, z12] at hb17
 obtain rfl : k = (lotsT ts (upM day ms)).length := by omega
 rw [List.take_length] at hinv;refine pwp_exit (exit_seq ?_);clear hK16 K16;refine exit_loop (exit_here (seq_norm (hK9 _ ?_))); clear hK9 K9;refine pwp_seq_plain rfl fun K43 hK43 => p_step rfl (e_move (v := _) rfl) trivial (p_step rfl (e_assign (v := _) rfl) trivial (p_end (hK43 _ ?_))); clear hK43 K43;refine pwp_ret (end1 (v := _) rfl ?_);exact out_slice (by assumption) (by rw [accT, hinv]) (fun _ => rfl) chg_clean
theorem fr32 : (inFrame Tryz.f32.ntmps (Tryz.f32.body.getD .skip) && Tryz.f32.results.toList.all (resScope Tryz.f32.ntmps)) = true := by kernel_rfl
theorem checkDay (ts : List Term) (ms : List Move) (day : Int) (hlt : ts.length ≤ 65) (hl : ms.length ≤ 305) : PCalls Tryz.prog 32 [.lit true 4 (ts.map Term.enc), .lit true 4 (ms.map Move.enc), .int day] (.int (tdE ts ms day)) := by
 refine PCalls.of_code Tryz.func32 rfl rfl (by kernel_rfl) mixed fr32 (by show _ ≤ 17; simp) (.sc _) (pwp_seq_plain rfl fun K1 hK1 => p_step rfl (e_assign (v := .sc _) rfl) trivial (p_end (hK1 _ ?_))); clear hK1 K1;refine pwp_seq_seq (pwp_seq_plain rfl fun K2 hK2 => p_step rfl (e_move (v := .lit _ _ _) rfl) trivial (p_step rfl (e_move (v := .lit _ _ _) rfl) trivial (p_call rfl (.cons inn_lit (.cons inn_lit .nil)) (CheckMoves _ _ (by omega) (by omega)) (p_step rfl (e_assign (v := .sc _) rfl) trivial (p_end (hK2 _ ?_)))))); clear hK2 K2;refine pwp_seq_seq (pwp_seq_plain rfl fun K3 hK3 => p_step rfl (e_move (v := .sc _) rfl) trivial (p_step rfl (e_ne rfl rfl) trivial (p_end (hK3 _ ?_)))); clear hK3 K3;refine pwp_seq_cond rfl fun K4 hK4 => ⟨fun hb5 => ?_, fun hb5 => ?_⟩
 ·have hb5R := hb5; try simp only [z1, z2, z3, z4, z5, z6, ne_eq, z7, z8, z9, z10, z11, z12] at hb5
  refine pwp_seq_plain rfl fun K6 hK6 => p_step rfl (e_move (v := .sc _) rfl) trivial (p_step rfl (e_assign (v := .sc _) rfl) trivial (p_end (hK6 _ ?_))); clear hK6 K6;refine pwp_ret (ret_seq (end1 (v := .sc _) rfl ?_));exact out_i (td_1 (by assumption))
 have hb5R := hb5; try simp only [z1, z2, z3, z4, z5, z6, ne_eq, z7, z8, z9, z10, z11, z12] at hb5
 refine pwp_skip (seq_norm (hK4 _ ?_)); clear hK4 K4;refine pwp_seq_seq (pwp_seq_plain rfl fun K7 hK7 => p_step rfl (e_move (v := .sc _) rfl) trivial (p_call rfl (.cons inn_sc .nil) (isDay _) (p_step rfl (e_not rfl) trivial (p_end (hK7 _ ?_))))); clear hK7 K7;refine pwp_seq_cond rfl fun K8 hK8 => ⟨fun hb9 => ?_, fun hb9 => ?_⟩
 ·have hb9R := hb9; try simp only [z1, z2, z3, z4, z5, z6, ne_eq, z7, z8, z9, z10, z11, z12] at hb9
  refine pwp_seq_plain rfl fun K10 hK10 => p_step rfl (e_assign (v := .sc _) rfl) trivial (p_end (hK10 _ ?_)); clear hK10 K10;refine pwp_ret (ret_seq (end1 (v := .sc _) rfl ?_));exact out_i (td_2 (by assumption) (by omega))
 have hb9R := hb9; try simp only [z1, z2, z3, z4, z5, z6, ne_eq, z7, z8, z9, z10, z11, z12] at hb9
 refine pwp_skip (seq_norm (hK8 _ ?_)); clear hK8 K8;refine pwp_seq_plain rfl fun K11 hK11 => p_step rfl (e_assign (v := .sc _) rfl) trivial (p_end (hK11 _ ?_)); clear hK11 K11;refine pwp_ret (end1 (v := .sc _) rfl ?_);exact out_i (td_0 (by assumption) (by omega))
theorem fr17 : (inFrame Tryz.f17.ntmps (Tryz.f17.body.getD .skip) && Tryz.f17.results.toList.all (resScope Tryz.f17.ntmps)) = true := by kernel_rfl
theorem Account (ts : List Term) (ms : List Move) (day : Int) (hlt : ts.length ≤ 65) (hl : ms.length ≤ 305) : PCalls Tryz.prog 17 [.lit true 4 (ts.map Term.enc), .lit true 4 (ms.map Move.enc), .int day] (.tup [.lit false 4 ((accP ts ms day).map Charge.enc), .int (tdE ts ms day)]) := by
 refine PCalls.of_code Tryz.func17 rfl rfl (by kernel_rfl) mixed fr17 (by show _ ≤ 20; simp) (pure_2 (.lit _ _ _ fun row hr => pure_map Charge.pure row hr) (.sc _)) (pwp_seq_plain rfl fun K1 hK1 => p_step rfl (e_assign (v := .nil) rfl) trivial (p_step rfl (e_assign (v := .sc _) rfl) trivial (p_end (hK1 _ ?_)))); clear hK1 K1;refine pwp_seq_seq (pwp_seq_plain rfl fun K2 hK2 => p_step rfl (e_move (v := .lit _ _ _) rfl) trivial (p_step rfl (e_move (v := .lit _ _ _) rfl) trivial (p_step rfl (e_move (v := .sc _) rfl) trivial (p_call rfl (.cons inn_lit (.cons inn_lit (.cons inn_sc .nil))) (checkDay _ _ _ (by omega) (by omega)) (p_step rfl (e_assign (v := .sc _) rfl) trivial (p_end (hK2 _ ?_))))))); clear hK2 K2;refine pwp_seq_seq (pwp_seq_plain rfl fun K3 hK3 => p_step rfl (e_move (v := .sc _) rfl) trivial (p_step rfl (e_ne rfl rfl) trivial (p_end (hK3 _ ?_)))); clear hK3 K3;refine pwp_seq_cond rfl fun K4 hK4 => ⟨fun hb5 => ?_, fun hb5 => ?_⟩
 ·have hb5R := hb5; simp only [z1, z2, z3, z4, z5, z6, ne_eq, z7, z8, z9, z10, z11, z12] at hb5;refine pwp_seq_plain rfl fun K6 hK6 => p_step rfl (e_move (v := .sc _) rfl) trivial (p_step rfl (e_assign (v := .nil) rfl) trivial (p_step rfl (e_assign (v := .sc _) rfl) trivial (p_end (hK6 _ ?_)))); clear hK6 K6;refine pwp_ret (ret_seq (end2 (v := .nil) (w := .sc _) rfl rfl ?_));exact out_2 (by rw [accP_1 (by assumption)]; exact out_nil) (out_i rfl)
 have hb5R := hb5; simp only [z1, z2, z3, z4, z5, z6, ne_eq, z7, z8, z9, z10, z11, z12] at hb5; have htd := td_parts hb5;refine pwp_skip (seq_norm (hK4 _ ?_)); clear hK4 K4;refine pwp_seq_plain rfl fun K7 hK7 => p_step rfl (e_move (v := .lit _ _ _) rfl) trivial (p_step rfl (e_move (v := .lit _ _ _) rfl) trivial (p_step rfl (e_move (v := .sc _) rfl) trivial (p_call rfl (.cons inn_lit (.cons inn_lit (.cons inn_sc .nil))) (account _ _ _ hlt hl htd.1 htd.2) (p_step rfl (e_assign (v := .lit _ _ _) rfl) trivial (p_step rfl (e_assign (v := .sc _) rfl) trivial (p_end (hK7 _ ?_))))))); clear hK7 K7;refine pwp_ret (end2 (v := .lit _ _ _) (w := .sc _) rfl rfl ?_);exact out_2 (out_clean (by rw [accP_0 (by assumption)]) (clean_rows fun a p hp => (chg_clean a p hp).1)) (out_i (by omega))
theorem fr21 : (inFrame Tryz.f21.ntmps (Tryz.f21.body.getD .skip) && Tryz.f21.results.toList.all (resScope Tryz.f21.ntmps)) = true := by kernel_rfl
theorem CheckR (ts : List Term) (ms : List Move) (hlt : ts.length ≤ 65) (hl : ms.length ≤ 305) : PCalls Tryz.prog 21 [.lit true 4 (ts.map Term.enc), .lit true 4 (ms.map Move.enc)] (.int (tmE ts ms)) := by
 refine PCalls.of_code Tryz.func21 rfl rfl (by kernel_rfl) mixed fr21 (by show _ ≤ 14; simp) (.sc _) (pwp_seq_plain rfl fun K1 hK1 => p_step rfl (e_assign (v := .sc _) rfl) trivial (p_end (hK1 _ ?_))); clear hK1 K1;refine pwp_seq_seq (pwp_seq_plain rfl fun K2 hK2 => p_step rfl (e_move (v := .lit _ _ _) rfl) trivial (p_call rfl (.cons inn_lit .nil) (refCheckTerms _) (p_step rfl (e_assign (v := .sc _) rfl) trivial (p_end (hK2 _ ?_))))); clear hK2 K2;refine pwp_seq_seq (pwp_seq_plain rfl fun K3 hK3 => p_step rfl (e_move (v := .sc _) rfl) trivial (p_step rfl (e_ne rfl rfl) trivial (p_end (hK3 _ ?_)))); clear hK3 K3;refine pwp_seq_cond rfl fun K4 hK4 => ⟨fun hb5 => ?_, fun hb5 => ?_⟩
 ·have hb5R := hb5; try simp only [z1, z2, z3, z4, z5, z6, ne_eq, z7, z8, z9, z10, z11, z12] at hb5
  refine pwp_seq_plain rfl fun K6 hK6 => p_step rfl (e_move (v := .sc _) rfl) trivial (p_step rfl (e_assign (v := .sc _) rfl) trivial (p_end (hK6 _ ?_))); clear hK6 K6;refine pwp_ret (ret_seq (end1 (v := .sc _) rfl ?_));exact out_i (tm_b (by assumption)).symm
 have hb5R := hb5; try simp only [z1, z2, z3, z4, z5, z6, ne_eq, z7, z8, z9, z10, z11, z12] at hb5
 refine pwp_skip (seq_norm (hK4 _ ?_)); clear hK4 K4;refine pwp_seq_plain rfl fun K7 hK7 => p_step rfl (e_move (v := .lit _ _ _) rfl) trivial (p_step rfl (e_move (v := .lit _ _ _) rfl) trivial (p_call rfl (.cons inn_lit (.cons inn_lit .nil)) (refCheckMoves _ _ (by omega) (by omega)) (p_step rfl (e_assign (v := .sc _) rfl) trivial (p_end (hK7 _ ?_))))); clear hK7 K7;refine pwp_ret (end1 (v := .sc _) rfl ?_);exact out_i (tm_a (by assumption)).symm
end Go.Proofs.YtjihcgcbnbaclaaGreatDoor.Y9
