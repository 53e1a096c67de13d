import Derived.Test.YtjihcgcbnbaclaaGreatDoorRMov8
import Derived.Test.YtjihcgcbnbaclaaGreatDoorRMov4
set_option linter.unusedSimpArgs false
set_option linter.unusedVariables false
namespace Go.Proofs.YtjihcgcbnbaclaaGreatDoor.Y9
open Go Go.Pv Go.Proofs.YtjihcgcbnbaclaaGreatDoor
def camR (p : ByteArray) : Int → List Move → Int
 | c, [] => c
 | c, m :: l => if m.part = p ∧ m.kind = 0 then camR p (c + m.count) l else camR p c l
def dsGo (p : ByteArray) (ms : List Move) (W : Int) : Int → List Move → List Da
 | _, [] => []
 | c, m :: l => if m.part = p ∧ m.kind = 0 then ⟨m.day, max 0 (c + m.count - max c W), goneR p c (c + m.count) m.day 0 ms⟩ :: dsGo p ms W (c + m.count) l else dsGo p ms W c l
def daStep (p : ByteArray) (ds : List Da) (m : Move) : List Da := if m.part = p then stepD m ds else ds
def daL (p : ByteArray) (ms : List Move) : List Da := ms.foldl (daStep p) []
theorem daL_snoc (p : ByteArray) (pre : List Move) (m : Move) : daL p (pre ++ [m]) = daStep p (daL p pre) m := by unfold daL; rw [List.foldl_append]; rfl
def okS (p : ByteArray) : Int → Int → List Move → Prop
 | _, _, [] => True
 | W, C, m :: l => 0 ≤ m.count ∧ (if m.part = p then (if m.kind = 0 then okS p W (C + m.count) l else W + m.count ≤ C ∧ okS p (W + m.count) C l) else okS p W C l)
section
variable {p : ByteArray} {m : Move}
theorem went_snoc (p : ByteArray) (m : Move) : ∀ (l : List Move) (w : Int), wentR p w (l ++ [m]) = if m.part = p ∧ ¬ m.kind = 0 then wentR p w l + m.count else wentR p w l
 | [], w => by simp only [List.nil_append, wentR]
 | a :: l, w => by
   rw [List.cons_append, wentR, wentR];split
   · exact went_snoc p m l _
   · exact went_snoc p m l _
theorem cam_snoc (p : ByteArray) (m : Move) : ∀ (l : List Move) (w : Int), camR p w (l ++ [m]) = if m.part = p ∧ m.kind = 0 then camR p w l + m.count else camR p w l
 | [], w => by simp only [List.nil_append, camR]
 | a :: l, w => by
   rw [List.cons_append, camR, camR];split
   · exact cam_snoc p m l _
   · exact cam_snoc p m l _
theorem gone_snoc (p : ByteArray) (m : Move) (f e d : Int) : ∀ (l : List Move) (w : Int), goneR p f e d w (l ++ [m]) = goneR p f e d w l ++ if m.part = p ∧ ¬ m.kind = 0 then (if 0 < min e (wentR p w l + m.count) - max f (wentR p w l) then [⟨p, min e (wentR p w l + m.count) - max f (wentR p w l), d, m.day, m.kind⟩] else []) else []
 | [], w => by
   rw [List.nil_append, goneR, goneR, goneR, List.nil_append];split
   · rw [List.append_nil]; rfl
   · rfl
 | a :: l, w => by
   rw [List.cons_append, goneR, goneR];by_cases h : a.part = p ∧ ¬ a.kind = 0
   · rw [if_pos h, if_pos h, gone_snoc p m f e d l, List.append_assoc, wentR, if_pos h]
   · rw [if_neg h, if_neg h, gone_snoc p m f e d l, wentR, if_neg h]
theorem went_ge (p : ByteArray) : ∀ (l : List Move) (w : Int), (∀ m ∈ l, 0 ≤ m.count) → w ≤ wentR p w l
 | [], w, _ => Int.le_refl _
 | a :: l, w, h => by
   have h0 := h a (by simp);have h1 := fun w => went_ge p l w fun m hm => h m (by simp [hm]);rw [wentR];split
   · have := h1 (w + a.count); omega
   · exact h1 w
theorem gone_none (p : ByteArray) (f e d : Int) : ∀ (l : List Move) (w : Int), (∀ m ∈ l, 0 ≤ m.count) → wentR p w l ≤ f → goneR p f e d w l = []
 | [], w, _, _ => rfl
 | a :: l, w, h, hw => by
   have h2 := fun m (hm : m ∈ l) => h m (by simp [hm]);rw [goneR];rw [wentR] at hw;split
   · rename_i hc;rw [if_pos hc] at hw;have := went_ge p l (w + a.count) h2;rw [if_neg (by omega), List.nil_append];exact gone_none p f e d l _ h2 hw
   · rename_i hc;rw [if_neg hc] at hw;exact gone_none p f e d l _ h2 hw
theorem dsGo_same (ms : List Move) (W : Int) (hm : ¬ (m.part = p ∧ ¬ m.kind = 0)) : ∀ (l : List Move) (c : Int), dsGo p (ms ++ [m]) W c l = dsGo p ms W c l
 | [], _ => rfl
 | a :: l, c => by rw [dsGo, dsGo, gone_snoc, if_neg hm, List.append_nil, dsGo_same ms W hm l, dsGo_same ms W hm l]
theorem dsGo_snoc (ms : List Move) (W : Int) : ∀ (l : List Move) (c : Int), dsGo p ms W c (l ++ [m]) = dsGo p ms W c l ++ if m.part = p ∧ m.kind = 0 then [⟨m.day, max 0 (camR p c l + m.count - max (camR p c l) W), goneR p (camR p c l) (camR p c l + m.count) m.day 0 ms⟩] else []
 | [], c => by
   rw [List.nil_append, dsGo, dsGo, dsGo, List.nil_append]; rfl
 | a :: l, c => by
   rw [List.cons_append, dsGo, dsGo];by_cases h : a.part = p ∧ a.kind = 0
   · rw [if_pos h, if_pos h, dsGo_snoc ms W l, List.cons_append, camR, if_pos h]
   · rw [if_neg h, if_neg h, dsGo_snoc ms W l, camR, if_neg h]
theorem dsGo_take (ms : List Move) (hm : m.part = p ∧ ¬ m.kind = 0) (ht : 0 ≤ m.count) : ∀ (l : List Move) (c : Int), (∀ a ∈ l, 0 ≤ a.count) →
   takeL m (max 0 (wentR p 0 ms + m.count - max c (wentR p 0 ms))) (dsGo p ms (wentR p 0 ms) c l) = dsGo p (ms ++ [m]) (wentR p 0 ms + m.count) c l
 | [], _, _ => rfl
 | a :: l, c, h => by
   have h0 := h a (by simp);have hl : ∀ b ∈ l, 0 ≤ b.count := fun b hb => h b (by simp [hb]);rw [dsGo, dsGo];by_cases hc : a.part = p ∧ a.kind = 0
   · rw [if_pos hc, if_pos hc, gone_snoc, if_pos hm, takeL];generalize hW : wentR p 0 ms = W;have ih := fun c => dsGo_take ms hm ht l c hl;rw [hW] at ih;by_cases hk : 0 < min (max 0 (W + m.count - max c W)) (max 0 (c + a.count - max c W))
     · have e1 : min (max 0 (W + m.count - max c W)) (max 0 (c + a.count - max c W)) = min (c + a.count) (W + m.count) - max c W := by omega
       have e2 : max 0 (c + a.count - max c W) - (min (c + a.count) (W + m.count) - max c W) = max 0 (c + a.count - max c (W + m.count)) := by omega
       have e3 : max 0 (W + m.count - max c W) - (min (c + a.count) (W + m.count) - max c W) = max 0 (W + m.count - max (c + a.count) W) := by omega
       rw [if_pos hk, e1, e2, e3, ih, if_pos (by omega), hm.1]
     · have e2 : max 0 (c + a.count - max c W) = max 0 (c + a.count - max c (W + m.count)) := by omega
       have e3 : max 0 (W + m.count - max c W) = max 0 (W + m.count - max (c + a.count) W) := by omega
       rw [if_neg hk, if_neg (by omega), List.append_nil, e2, e3, ih]
   · rw [if_neg hc, if_neg hc]; exact dsGo_take ms hm ht l c hl
theorem da_go : ∀ (l pre : List Move), daL p pre = dsGo p pre (wentR p 0 pre) 0 pre → okS p (wentR p 0 pre) (camR p 0 pre) l → wentR p 0 pre ≤ camR p 0 pre → (∀ a ∈ pre, 0 ≤ a.count) → daL p (pre ++ l) = dsGo p (pre ++ l) (wentR p 0 (pre ++ l)) 0 (pre ++ l)
 | [], pre, h, _, _, _ => by simpa using h
 | m :: l, pre, h, hs, hwc, hc => by
   have hs' := hs;unfold okS at hs';obtain ⟨hm0, hs'⟩ := hs'
   have hcm : ∀ a ∈ pre ++ [m], 0 ≤ a.count := fun a ha => by
     rcases List.mem_append.1 ha with ha | ha
     · exact hc a ha
     · simp at ha; rw [ha]; exact hm0
   rw [show pre ++ m :: l = (pre ++ [m]) ++ l by simp];by_cases hp : m.part = p
   · rw [if_pos hp] at hs';by_cases hk : m.kind = 0
     · rw [if_pos hk] at hs';have e1 : wentR p 0 (pre ++ [m]) = wentR p 0 pre := by rw [went_snoc, if_neg (by simp [hk])]
       have e2 : camR p 0 (pre ++ [m]) = camR p 0 pre + m.count := by rw [cam_snoc, if_pos ⟨hp, hk⟩]
       refine da_go l (pre ++ [m]) ?_ (by rw [e1, e2]; exact hs') (by rw [e1, e2]; omega) hcm;rw [e1, daL_snoc, daStep, if_pos hp, stepD, if_pos hk, dsGo_same pre _ (by simp [hk]), dsGo_snoc, if_pos ⟨hp, hk⟩, h, gone_none p _ _ _ pre 0 hc hwc];congr 4;omega
     · rw [if_neg hk] at hs';have e1 : wentR p 0 (pre ++ [m]) = wentR p 0 pre + m.count := by rw [went_snoc, if_pos ⟨hp, hk⟩]
       have e2 : camR p 0 (pre ++ [m]) = camR p 0 pre := by rw [cam_snoc, if_neg (by simp [hk])]
       refine da_go l (pre ++ [m]) ?_ (by rw [e1, e2]; exact hs'.2) (by rw [e1, e2]; exact hs'.1) hcm;have hw0 := went_ge p pre 0 hc;rw [e1, daL_snoc, daStep, if_pos hp, stepD, if_neg hk, dsGo_snoc, if_neg (by simp [hk]), List.append_nil, h, ← dsGo_take pre ⟨hp, hk⟩ hm0 pre 0 hc];congr 1;omega
   · rw [if_neg hp] at hs';have e1 : wentR p 0 (pre ++ [m]) = wentR p 0 pre := by rw [went_snoc, if_neg (by simp [hp])]
     have e2 : camR p 0 (pre ++ [m]) = camR p 0 pre := by rw [cam_snoc, if_neg (by simp [hp])]
     refine da_go l (pre ++ [m]) ?_ (by rw [e1, e2]; exact hs') (by rw [e1, e2]; exact hwc) hcm;rw [e1, daL_snoc, daStep, if_neg hp, dsGo_same pre _ (by simp [hp]), dsGo_snoc, if_neg (by simp [hp]), List.append_nil, h]
theorem out_go (ms : List Move) : ∀ (l : List Move) (c : Int), (dsGo p ms (wentR p 0 ms) c l).flatMap (outD p) = lotsGo p ms c l
 | [], _ => rfl
 | a :: l, c => by
   rw [dsGo, lotsGo];split
   · rw [List.flatMap_cons, out_go ms l];congr 1;unfold outD leftR;by_cases h : 0 < c + a.count - max c (wentR p 0 ms)
     · rw [if_pos h, if_pos (show 0 < max 0 (c + a.count - max c (wentR p 0 ms)) by omega)];congr 3;dsimp only;omega
     · rw [if_neg h, if_neg (show ¬ 0 < max 0 (c + a.count - max c (wentR p 0 ms)) by omega)]
   · exact out_go ms l c
theorem da_out {ms : List Move} (hs : okS p 0 0 ms) : (daL p ms).flatMap (outD p) = lotsR p ms := by
 have := da_go (p := p) ms [] rfl hs (Int.le_refl _) (by simp);rw [List.nil_append] at this;rw [this];exact out_go ms ms 0
end
theorem snoc_ind {α : Type} {Q : List α → Prop} (h0 : Q []) (hs : ∀ l a, Q l → Q (l ++ [a])) (l : List α) : Q l := by
 have : ∀ r : List α, Q r.reverse := by
   intro r;induction r with
   | nil => exact h0
   | cons a r ih => rw [List.reverse_cons]; exact hs _ _ ih
 have h := this l.reverse
 rwa [List.reverse_reverse] at h
theorem cnt_went {p : ByteArray} (l : List Move) : (∀ m ∈ l, okM m) → wentR p 0 l = (cntL p l).getD 1 0 + (cntL p l).getD 2 0 ∧ camR p 0 l = (cntL p l).getD 0 0 := by
 refine snoc_ind (Q := fun l => (∀ m ∈ l, okM m) → wentR p 0 l = (cntL p l).getD 1 0 + (cntL p l).getD 2 0 ∧ camR p 0 l = (cntL p l).getD 0 0) (fun _ => ⟨rfl, rfl⟩) (fun l m ih hok => ?_) l;have ih := ih fun x hx => hok x (by simp [hx]);have hm := (hok m (by simp)).1;have hs : cntL p (l ++ [m]) = cntStep p (cntL p l) m := by unfold cntL; rw [List.foldl_append]; rfl
 have h3 := cntL_len p l;rw [went_snoc, cam_snoc, hs];generalize cntL p l = L at h3 ih
 match L, h3 with
 | [a, b, c], _ =>
   simp only [List.getD_cons_zero, List.getD_cons_succ] at ih;unfold cntStep;by_cases hp : m.part = p
   · have hk : m.kind = 0 ∨ m.kind = 1 ∨ m.kind = 2 := by omega
     rcases hk with hk | hk | hk <;> simp [hp, hk] <;> omega
   · simp [hp]; omega
theorem goM_all {ts : List Term} : ∀ (l pre : List Move) (last : Int), goM ts pre last l = 0 → ∀ m ∈ l, ¬ badM m ∧ 0 ≤ termIx ts m.part
 | [], _, _, _, m, hm => by simp at hm
 | a :: l, pre, last, h, m, hm => by
   unfold goM at h;split at h
   · rename_i h0;rcases List.mem_cons.1 hm with rfl | hm
     · unfold mvE at h0;split at h0
       · cases h0
       · rename_i hb;split at h0
         · cases h0
         · split at h0
           · cases h0
           · rename_i h2;exact ⟨hb, by omega⟩
     · exact goM_all l _ _ h m hm
   · rename_i h0; exact absurd h h0
theorem goM_okS {ts : List Term} (p : ByteArray) : ∀ (l pre : List Move) (last : Int), goM ts pre last l = 0 → (∀ m ∈ pre, okM m) → okS p (wentR p 0 pre) (camR p 0 pre) l
 | [], _, _, _, _ => trivial
 | a :: l, pre, last, h, hok => by
   have hall := goM_all (a :: l) pre last h a (by simp);have hoka : okM a := by have := hall.1; unfold badM at this; unfold okM; omega
   have hok2 : ∀ m ∈ pre ++ [a], okM m := fun m hm => by
     rcases List.mem_append.1 hm with hm | hm
     · exact hok m hm
     · simp at hm; rw [hm]; exact hoka
   unfold goM at h;split at h
   · rename_i h0;have ih := goM_okS p l _ _ h hok2;rw [went_snoc, cam_snoc] at ih;refine ⟨hoka.2.1, ?_⟩;by_cases hp : a.part = p
     · rw [if_pos hp];by_cases hk : a.kind = 0
       · rw [if_pos hk]; rw [if_neg (by simp [hk]), if_pos ⟨hp, hk⟩] at ih; exact ih
       · rw [if_neg hk]; rw [if_pos ⟨hp, hk⟩, if_neg (by simp [hk])] at ih;refine ⟨?_, ih⟩;have hc := cnt_went (p := p) pre hok;unfold mvE at h0;split at h0
         · cases h0
         · split at h0
           · cases h0
           · split at h0
             · cases h0
             · split at h0
               · cases h0
               · rename_i h4;have : ¬ stkL pre a.part < a.count := fun h5 => h4 ⟨hk, h5⟩;unfold stkL at this;rw [hp] at this;omega
     · rw [if_neg hp]; rw [if_neg (by simp [hp]), if_neg (by simp [hp])] at ih; exact ih
   · rename_i h0; exact absurd h h0
theorem came_da {ts : List Term} (ht : termsE ts = 0) (ms : List Move) : (∀ m ∈ ms, 0 ≤ termIx ts m.part) → cameL ts ms = ts.map fun t => daL t.part ms := by
 refine snoc_ind (Q := fun ms => (∀ m ∈ ms, 0 ≤ termIx ts m.part) → cameL ts ms = ts.map fun t => daL t.part ms) (fun _ => ?_) (fun l m ih hok => ?_) ms
 · apply List.ext_getElem?;intro j;rw [List.getElem?_map];unfold cameL daL;rw [List.foldl_nil, List.getElem?_replicate];split
   · rename_i h; rw [List.getElem?_eq_getElem h]; rfl
   · rename_i h; rw [List.getElem?_eq_none (by omega)]; rfl
 · have ih := ih fun x hx => hok x (by simp [hx]);have h0 := hok m (by simp);obtain ⟨s, hs1, hs2⟩ := ix_part h0;rw [cameL_snoc, stepC, ih];apply List.ext_getElem?;intro j;rw [List.getElem?_map];cases hj : ts[j]? with
   | none =>
     rw [List.getElem?_eq_none]
     · rfl
     · have := List.getElem?_eq_none_iff.1 hj; simpa using this
   | some t =>
     have hix := terms_ix ht hj;rw [Option.map_some, daL_snoc, daStep];by_cases hp : m.part = t.part
     · have e : (termIx ts m.part).toNat = j := by rw [hp, hix]; omega
       have hlt := (List.getElem?_eq_some_iff.1 hj).1;rw [if_pos hp, e, List.getElem?_set_self (by simpa using hlt), List.getD_eq_getElem?_getD, List.getElem?_map, hj]; rfl
     · rw [if_neg hp, List.getElem?_set_ne, List.getElem?_map, hj]
       · rfl
       · intro e;rw [e, hj] at hs1; cases hs1;exact hp hs2.symm
theorem zip_map_self {α β : Type} (f : α → β) : ∀ l : List α, l.zip (l.map f) = l.map fun a => (a, f a)
 | [] => rfl
 | a :: l => by rw [List.map_cons, List.zip_cons_cons, zip_map_self f l]; rfl
theorem lots_eq {ts : List Term} {ms : List Move} {last : Int} (ht : termsE ts = 0) (hm : goM ts [] last ms = 0) : outL ts (cameL ts ms) = lotsT ts ms := by
 rw [came_da ht ms fun m h => (goM_all ms [] last hm m h).2];unfold outL lotsT;rw [zip_map_self, List.flatMap_map];congr 1;funext t;exact da_out (goM_okS t.part ms [] last hm (by simp))
end Go.Proofs.YtjihcgcbnbaclaaGreatDoor.Y9
