import Derived.Test.YtjihcgcbnbaclaaGreatDoorRMov10
set_option linter.unusedSimpArgs false
set_option linter.unusedVariables false
namespace Go.Proofs.YtjihcgcbnbaclaaGreatDoor.Y9
open Go Go.Pv Go.Proofs.YtjihcgcbnbaclaaGreatDoor
theorem tm_a {ts : List Term} {ms : List Move} (h : termsE ts = 0) : tmE ts ms = movE ts ms := by rw [tmE, if_neg (by simpa using h)]
theorem tm_b {ts : List Term} {ms : List Move} (h : ¬ termsE ts = 0) : tmE ts ms = termsE ts := (tmE_1 h).symm
theorem tm_parts {ts : List Term} {ms : List Move} (h : tmE ts ms = 0) : termsE ts = 0 ∧ movE ts ms = 0 ∧ ms.length ≤ 300 ∧ goM ts [] 0 ms = 0 := by
 by_cases h0 : termsE ts = 0
 · have h1 := tm_a (ms := ms) h0;rw [h] at h1;refine ⟨h0, h1.symm, ?_⟩;unfold movE at h1;split at h1
   · cases h1
   · exact ⟨by omega, h1.symm⟩
 · exact absurd (h ▸ tm_b h0).symm h0
theorem badM_ok {m : Move} (h : ¬ badM m) : okM m := by unfold badM at h; unfold okM; omega
theorem tm_go {ts : List Term} {ms : List Move} (h : tmE ts ms = 0) : ∀ m ∈ ms, okM m ∧ 0 ≤ termIx ts m.part := fun m hm => by
 have := goM_all ms [] 0 (tm_parts h).2.2.2 m hm;exact ⟨badM_ok this.1, this.2⟩
theorem tm_lots {ts : List Term} {ms : List Move} (h : tmE ts ms = 0) : outL ts (cameL ts ms) = lotsT ts ms := lots_eq (tm_parts h).1 (tm_parts h).2.2.2
def lotsP (ts : List Term) (ms : List Move) : List Lot := if tmE ts ms = 0 then lotsT ts ms else []
theorem lotsP_0 {ts : List Term} {ms : List Move} (h : tmE ts ms = 0) : lotsP ts ms = lotsT ts ms := by rw [lotsP, if_pos h]
theorem lotsP_1 {ts : List Term} {ms : List Move} (h : ¬ tmE ts ms = 0) : lotsP ts ms = [] := by rw [lotsP, if_neg h]
def sumC (p : ByteArray) (l : List Lot) : Int := (l.map fun x => if x.part = p then x.count else 0).sum
theorem sumC_app (p : ByteArray) (a b : List Lot) : sumC p (a ++ b) = sumC p a + sumC p b := by unfold sumC; rw [List.map_append, List.sum_append]
theorem sumC_one (p : ByteArray) (x : Lot) : sumC p [x] = if x.part = p then x.count else 0 := by simp [sumC]
theorem sumC_nil (p : ByteArray) : sumC p [] = 0 := rfl
theorem gone_sum {p : ByteArray} {f e d : Int} (hfe : f ≤ e) : ∀ (l : List Move) (w : Int), (∀ m ∈ l, 0 ≤ m.count) → sumC p (goneR p f e d w l) = max 0 (min e (wentR p w l) - max f w)
 | [], w, _ => by rw [goneR, wentR, sumC_nil]; omega
 | a :: l, w, h => by
   have h0 := h a (by simp);have h2 := fun m (hm : m ∈ l) => h m (by simp [hm]);rw [goneR, wentR];by_cases hc : a.part = p ∧ ¬ a.kind = 0
   · rw [if_pos hc, if_pos hc, sumC_app, gone_sum hfe l _ h2];have := went_ge p l (w + a.count) h2;by_cases hk : 0 < min e (w + a.count) - max f w
     · rw [if_pos hk, sumC_one, if_pos rfl]; dsimp only; omega
     · rw [if_neg hk, sumC_nil]; omega
   · rw [if_neg hc, if_neg hc]; exact gone_sum hfe l w h2
theorem lotsGo_sum {p : ByteArray} {ms : List Move} (hms : ∀ m ∈ ms, 0 ≤ m.count) : ∀ (l : List Move) (c : Int), (∀ m ∈ l, 0 ≤ m.count) → 0 ≤ c → sumC p (lotsGo p ms c l) = camR p c l - c
 | [], c, _, _ => by rw [lotsGo, camR, sumC_nil]; omega
 | a :: l, c, h, hc => by
   have h0 := h a (by simp);have h2 := fun m (hm : m ∈ l) => h m (by simp [hm]);rw [lotsGo, camR];by_cases hk : a.part = p ∧ a.kind = 0
   · rw [if_pos hk, if_pos hk, sumC_app, sumC_app, lotsGo_sum hms l _ h2 (by omega), gone_sum (by omega) ms 0 hms];have hw := went_ge p ms 0 hms;unfold leftR;by_cases hz : 0 < c + a.count - max c (wentR p 0 ms)
     · rw [if_pos hz, sumC_one, if_pos rfl]; dsimp only; omega
     · rw [if_neg hz, sumC_nil]; omega
   · rw [if_neg hk, if_neg hk]; exact lotsGo_sum hms l c h2 hc
def okL (p : ByteArray) (x : Lot) : Prop := x.part = p ∧ 0 < x.count ∧ x.count ≤ 100000
theorem gone_okL {p : ByteArray} {f e d : Int} (he : e - f ≤ 100000) : ∀ (l : List Move) (w : Int), ∀ x ∈ goneR p f e d w l, okL p x
 | [], _, x, hx => by simp [goneR] at hx
 | a :: l, w, x, hx => by
   rw [goneR] at hx;split at hx
   · rcases List.mem_append.1 hx with hx | hx
     · split at hx
       · simp at hx; subst hx; refine ⟨rfl, ?_, ?_⟩ <;> dsimp only <;> omega
       · simp at hx
     · exact gone_okL he l _ x hx
   · exact gone_okL he l _ x hx
theorem lotsGo_okL {p : ByteArray} {ms : List Move} : ∀ (l : List Move) (c : Int), (∀ m ∈ l, okM m) → ∀ x ∈ lotsGo p ms c l, okL p x
 | [], _, _, x, hx => by simp [lotsGo] at hx
 | a :: l, c, h, x, hx => by
   have h0 := (h a (by simp)).2;have h2 := fun m (hm : m ∈ l) => h m (by simp [hm]);rw [lotsGo] at hx;split at hx
   · rcases List.mem_append.1 hx with hx | hx
     · rcases List.mem_append.1 hx with hx | hx
       · exact gone_okL (by omega) ms 0 x hx
       · unfold leftR at hx;split at hx
         · simp at hx; subst hx; refine ⟨rfl, ?_, ?_⟩ <;> dsimp only <;> omega
         · simp at hx
     · exact lotsGo_okL l _ h2 x hx
   · exact lotsGo_okL l _ h2 x hx
end Go.Proofs.YtjihcgcbnbaclaaGreatDoor.Y9
