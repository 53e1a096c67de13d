/- Ways in a network; what is pushed along them. No conditions. -/
import Derived.Test.YtigdmkhdmbbfiaaFd
set_option linter.unusedSimpArgs false
set_option linter.unusedVariables false
set_option maxRecDepth 100000
namespace Go.Proofs.Ytigdmkhdmbbfiaa
open Go Go.Pv
/-! ### Ways back to the start -/
def byN (bs : List Int) (v : Int) : Nat := (bs.getD v.toNat 0).toNat
def pdP (ps : List Pipe) (bs : List Int) (v : Int) : Int := froP ps (byN bs v)
def itP (f : Int → Int) : Nat → Int → Int
 | 0, x => x
 | i + 1, x => f (itP f i x)
section
variable {ps : List Pipe} {N : Nat} {s v w : Int} {bs ord : List Int}
theorem idx_of {l : List Int} {i : Nat} {a : Int} (hn : l.Nodup) (h : l[i]? = some a) : l.idxOf a = i := by
 obtain ⟨hi, h1⟩ := List.getElem?_eq_some_iff.1 h
 have h2 : a ∈ l := List.mem_of_getElem? h
 have h3 := List.idxOf_lt_length_of_mem h2
 have h4 : l[l.idxOf a] = a := List.getElem_idxOf h3
 exact (List.getElem_inj hn).1 (h4.trans h1.symm)
theorem Bfs.pred (hB : Bfs ps N s bs ord) (hv : v ∈ ord) (hs : v ≠ s) : byN bs v < ps.length ∧ bs.getD v.toNat 0 = (byN bs v : Int) ∧ tilP ps (byN bs v) = v ∧ 0 < roomP ps (byN bs v) ∧ pdP ps bs v ∈ ord ∧ ord.idxOf (pdP ps bs v) < ord.idxOf v := by
 obtain ⟨j, hj⟩ := List.mem_iff_getElem?.1 hv
 rcases hB.pr j v hj with h0 | ⟨k, h1, h2, h3, h4, i, h5, h6⟩
 · subst h0
   rw [hB.st] at hj; cases hj; exact absurd rfl hs
 · have e : byN bs v = k := by rw [byN, h2, Int.toNat_natCast]
   rw [pdP, e, idx_of hB.nd hj, idx_of hB.nd h6]
   exact ⟨h1, h2, h3, h4, List.mem_of_getElem? h6, h5⟩
end
/-- What is pushed along a way, from its end to a node of it. -/
structure Aug (af : List (Arc × Int)) (bs ord : List Int) (s e m at_ : Int) (af' : List (Arc × Int)) : Prop where
 ar : af'.map (·.1) = af.map (·.1)
 cap : ∀ q ∈ af', 0 ≤ q.2 ∧ q.2 ≤ q.1.cap
 ex : ∀ v : Int, SX (fun u => decide (u = v)) af' = SX (fun u => decide (u = v)) af + m * (bI (decide (at_ = v)) - bI (decide (e = v)))
 un : ∀ w ∈ ord, w ≠ s → ord.idxOf w ≤ ord.idxOf at_ → roomP (psOf af') (byN bs w) = roomP (psOf af) (byN bs w)
 mem : at_ ∈ ord
section
variable {t : Traffic} {af af' : List (Arc × Int)} {N : Nat} {s e m at_ n : Int} {bs ord : List Int} {fs : List (List Int)}
theorem Aug.zero (hcap : ∀ q ∈ af, 0 ≤ q.2 ∧ q.2 ≤ q.1.cap) (he : e ∈ ord) : Aug af bs ord s e m e af :=
 ⟨rfl, hcap, fun v => by rw [Int.sub_self, Int.mul_zero, Int.add_zero], fun _ _ _ _ => rfl, he⟩
theorem Aug.len (hA : Aug af bs ord s e m at_ af') : af'.length = af.length := by have := congrArg List.length hA.ar; simpa using this
/-- What stands at the pipe by which a node was reached. -/
theorem Aug.here (hA : Aug af bs ord s e m at_ af') (hB : Bfs (psOf af) N s bs ord) (hs : at_ ≠ s) : ∃ q, af'[byN bs at_ / 2]? = some q ∧ byN bs at_ < (psOf af').length ∧ bs.getD at_.toNat 0 = (byN bs at_ : Int) ∧ pT q (byN bs at_) = at_ ∧ pT q (opP (byN bs at_)) = pdP (psOf af) bs at_ ∧ pR q (byN bs at_) = roomP (psOf af) (byN bs at_) := by
 obtain ⟨h1, h2, h3, h4, h5, h6⟩ := hB.pred hA.mem hs
 rw [psOf_len] at h1
 have hl := hA.len
 have h7 : af'[byN bs at_ / 2]? = some (af'[byN bs at_ / 2]'(by omega)) := List.getElem?_eq_getElem (by omega)
 refine ⟨_, h7, by rw [psOf_len]; omega, h2, ?_, ?_, ?_⟩
 · rw [← tilP_of h7, tilP_arcs hA.ar]; exact h3
 · rw [← froP_of h7, froP, tilP_arcs hA.ar]; rfl
 · rw [← roomP_of h7]; exact hA.un _ hA.mem hs (Nat.le_refl _)
theorem Aug.step (hA : Aug af bs ord s e m at_ af') (hB : Bfs (psOf af) N s bs ord) (hs : at_ ≠ s) (hm : 0 < m) (hr : m ≤ roomP (psOf af) (byN bs at_)) {q : Arc × Int} (hq : af'[byN bs at_ / 2]? = some q) :
   Aug af bs ord s e m (pdP (psOf af) bs at_) (af'.set (byN bs at_ / 2) (push q (byN bs at_) m)) := by
 obtain ⟨h1, h2, h3, h4, h5, h6⟩ := hB.pred hA.mem hs
 obtain ⟨q', g1, g2, g3, g4, g5, g6⟩ := hA.here hB hs
 rw [hq] at g1; cases g1
 refine ⟨(push_map hq).trans hA.ar, fun y hy => ?_, fun v => ?_, fun w hw hws hwi => ?_, h5⟩
 · rcases List.mem_or_eq_of_mem_set hy with hy | rfl
   · exact hA.cap y hy
   · exact push_cap (hA.cap q (List.mem_of_getElem? hq)) hm (by rw [g6]; exact hr)
 · rw [SX_push hq, hA.ex, g4, g5, Int.add_assoc, ← Int.mul_add]
   congr 2; omega
 · obtain ⟨k1, k2, k3, k4, k5, k6⟩ := hB.pred hw hws
   rw [room_push hq (fun z => ?_) (fun z => ?_)]
   · exact hA.un w hw hws (by omega)
   · rw [z, h3] at k3
     rw [← k3] at hwi; omega
   · have e1 : w = pdP (psOf af) bs at_ := by rw [← k3, z]; rfl
     have e2 : pdP (psOf af) bs w = at_ := by
       rw [pdP, z, froP, op_op]; exact h3
     rw [e2] at k6; omega
theorem Aug.flow (hA : Aug af bs ord s e m s af') (hF : Flow t af n) (hs : s = ndS t) (he : e = ndE t) : Flow t af' (n + m) := by
 refine ⟨hA.ar.trans hF.ar, hA.cap, fun v => ?_⟩
 rw [hA.ex, hF.ex, hs, he, Int.add_mul]
theorem Aug.room (hA : Aug af bs ord s e m at_ af') (hT : TrOK t) (har : af.map (·.1) = arcs t) {q : Arc × Int} (hq : q ∈ af') (k : Nat) : 0 ≤ pR q k ∧ pR q k ≤ 42000000 := by
 have h1 := hA.cap q hq
 have h2 : q.1 ∈ arcs t := by rw [← har, ← hA.ar]; exact List.mem_map.2 ⟨q, hq, rfl⟩
 have h3 := ar_ends hT h2
 have h4 : allC t ≤ 40000000 := by
   have h5 : allC t ≤ sumL (fun _ => 1000000) t.supplies := sumL_le fun s hs => by have := hT.sp s hs; omega
   have h6 : ∀ l : List Supply, sumL (fun _ => (1000000 : Int)) l = 1000000 * (l.length : Int) := fun l => by
     induction l with
     | nil => rfl
     | cons x l ih => rw [sumL, ih, List.length_cons]; omega
   rw [h6] at h5
   have := hT.hs; omega
 rw [pR]; split <;> omega
/-! ### The pipes that leave a node -/
def adjF (al : List Arc) (u : Nat) : List Int := ((List.range (2 * al.length)).filter fun k => decide ((if k % 2 = 0 then (al.getD (k / 2) ⟨0, 0, 0, none⟩).a else (al.getD (k / 2) ⟨0, 0, 0, none⟩).b) = (u : Int))).map fun k : Nat => (k : Int)
theorem adj_s {al : List Arc} {x : Arc} {u : Nat} : adjF (al ++ [x]) u = adjF al u ++ ((if x.a = (u : Int) then [((2 * al.length : Nat) : Int)] else []) ++ (if x.b = (u : Int) then [((2 * al.length : Nat) : Int) + 1] else [])) := by
 rw [adjF, adjF, List.length_append, List.length_singleton, show 2 * (al.length + 1) = 2 * al.length + 1 + 1 by omega, List.range_succ, List.range_succ, List.append_assoc, List.filter_append, List.map_append]
 congr 1
 · congr 1
   refine List.filter_congr fun k hk => ?_
   rw [List.mem_range] at hk
   have : (al ++ [x]).getD (k / 2) ⟨0, 0, 0, none⟩ = al.getD (k / 2) ⟨0, 0, 0, none⟩ := by
     rw [List.getD_eq_getElem?_getD, List.getD_eq_getElem?_getD, List.getElem?_append_left (by omega)]
   rw [this]
 · have h1 : (al ++ [x]).getD (2 * al.length / 2) ⟨0, 0, 0, none⟩ = x := by
     rw [show 2 * al.length / 2 = al.length by omega, List.getD_eq_getElem?_getD, List.getElem?_append_right (Nat.le_refl _)]; simp
   have h2 : (al ++ [x]).getD ((2 * al.length + 1) / 2) ⟨0, 0, 0, none⟩ = x := by
     rw [show (2 * al.length + 1) / 2 = al.length by omega, List.getD_eq_getElem?_getD, List.getElem?_append_right (Nat.le_refl _)]; simp
   rw [List.singleton_append, List.filter_cons, List.filter_cons, h1, h2, if_pos (by omega : 2 * al.length % 2 = 0), if_neg (by omega : ¬ (2 * al.length + 1) % 2 = 0), List.filter_nil]
   by_cases e1 : x.a = (u : Int) <;> by_cases e2 : x.b = (u : Int) <;> simp [e1, e2]
theorem fro_al {al : List Arc} (har : af.map (·.1) = al) {k : Nat} (hk : k < 2 * al.length) : froP (psOf af) k = if k % 2 = 0 then (al.getD (k / 2) ⟨0, 0, 0, none⟩).a else (al.getD (k / 2) ⟨0, 0, 0, none⟩).b := by
 subst har
 rw [List.length_map] at hk
 have h1 : af[k / 2]? = some (af[k / 2]'(by omega)) := List.getElem?_eq_getElem (by omega)
 have h2 : (af.map (·.1)).getD (k / 2) ⟨0, 0, 0, none⟩ = (af[k / 2]'(by omega)).1 := by
   rw [List.getD_eq_getElem?_getD, List.getElem?_map, h1]; rfl
 rw [froP_of h1, h2, pT, opP]
 by_cases e : k % 2 = 0
 · rw [if_pos e, if_pos e, if_neg (by omega)]
 · rw [if_neg e, if_neg e, if_pos (by omega)]
theorem adj_mem {al : List Arc} (har : af.map (·.1) = al) {u : Nat} {k : Int} : k ∈ adjF al u ↔ ∃ j : Nat, k = (j : Int) ∧ j < (psOf af).length ∧ froP (psOf af) j = (u : Int) := by
 have hl : (psOf af).length = 2 * al.length := by rw [psOf_len, ← har, List.length_map]
 rw [adjF, List.mem_map, hl]
 constructor
 · rintro ⟨j, h1, rfl⟩
   rw [List.mem_filter, List.mem_range] at h1
   exact ⟨j, rfl, h1.1, by rw [fro_al har h1.1]; exact of_decide_eq_true h1.2⟩
 · rintro ⟨j, rfl, h1, h2⟩
   exact ⟨j, List.mem_filter.2 ⟨List.mem_range.2 h1, decide_eq_true (by rw [fro_al har h1] at h2; exact h2)⟩, rfl⟩
theorem adj_len (al : List Arc) (u : Nat) : (adjF al u).length ≤ 2 * al.length := by
 rw [adjF, List.length_map]
 refine Nat.le_trans (List.length_filter_le _ _) ?_
 rw [List.length_range]; exact Nat.le_refl _
theorem adj_ok (hT : TrOK t) (har : af.map (·.1) = arcs t) (hN : (N : Int) = ndE t + 1) : AdjOK (psOf af) N ((List.range N).map (adjF (arcs t))) := by
 have hr : ∀ k, k < (psOf af).length → (0 ≤ tilP (psOf af) k ∧ tilP (psOf af) k < (N : Int)) := fun k hk => by
   rw [psOf_len] at hk
   have h1 : af[k / 2]? = some (af[k / 2]'(by omega)) := List.getElem?_eq_getElem (by omega)
   have h2 := ar_ends hT (a := (af[k / 2]'(by omega)).1) (by rw [← har]; exact List.mem_map.2 ⟨_, List.getElem_mem _, rfl⟩)
   rw [tilP_of h1, pT]; split <;> omega
 have hg : ∀ u, u < N → ((List.range N).map (adjF (arcs t))).getD u [] = adjF (arcs t) u := fun u hu => by
   rw [List.getD_eq_getElem?_getD, mcell1 hu]; rfl
 refine ⟨by simp, hr, fun u hu k hk => ?_, fun j hj => ?_⟩
 · rw [hg u hu] at hk; exact (adj_mem har).1 hk
 · have h1 := hr (opP j) (by rw [psOf_len] at hj ⊢; exact op_lt hj)
   have h2 : 0 ≤ froP (psOf af) j ∧ froP (psOf af) j < (N : Int) := h1
   rw [hg _ (by omega)]
   exact (adj_mem har).2 ⟨j, rfl, hj, by omega⟩
/-- Where nothing more can be pushed there is a cut of that worth. -/
theorem Rch.cut (hR : Rch (psOf af) N s bs) (hT : TrOK t) (hF : Flow t af n) (hN : (N : Int) = ndE t + 1) (hs : s = ndS t) (he : bs.getD (ndE t).toNat 0 = -1) : cutV t (cutL t fun v => decide (bs.getD v.toNat 0 ≠ -1)) = (n, 0) := by
 have hA := hT.hA; have hB := hT.hB
 have hS0 : 0 ≤ ndS t := Int.mul_nonneg (by omega) (by omega)
 have h00 : ndE t = ndS t + 1 := rfl
 obtain ⟨ord, hO⟩ := hR.ex
 refine hF.cut hT ?_ ?_ ?_
 · exact decide_eq_true (by rw [← hs, hO.s2]; decide)
 · exact decide_eq_false (fun q => q he)
 · intro q hq
   obtain ⟨j, hj⟩ := List.mem_iff_getElem?.1 hq
   have hjl := (List.getElem?_eq_some_iff.1 hj).1
   have hc := hF.cap q hq
   have e0 : af[2 * j / 2]? = some q := by rw [show 2 * j / 2 = j by omega]; exact hj
   have e1 : af[(2 * j + 1) / 2]? = some q := by rw [show (2 * j + 1) / 2 = j by omega]; exact hj
   have o0 : opP (2 * j) = 2 * j + 1 := if_pos (by omega)
   have o1 : opP (2 * j + 1) = 2 * j := if_neg (by omega)
   have t0 : tilP (psOf af) (2 * j) = q.1.b := by rw [tilP_of e0, pT, if_pos (by omega)]
   have t1 : tilP (psOf af) (2 * j + 1) = q.1.a := by rw [tilP_of e1, pT, if_neg (by omega)]
   have f0 : froP (psOf af) (2 * j) = q.1.a := by rw [froP, o0, t1]
   have f1 : froP (psOf af) (2 * j + 1) = q.1.b := by rw [froP, o1, t0]
   have r0 : roomP (psOf af) (2 * j) = q.1.cap - q.2 := by rw [roomP_of e0, pR, if_pos (by omega)]
   have r1 : roomP (psOf af) (2 * j + 1) = q.2 := by rw [roomP_of e1, pR, if_neg (by omega)]
   have c0 := hR.cl (2 * j) (by rw [psOf_len]; omega)
   have c1 := hR.cl (2 * j + 1) (by rw [psOf_len]; omega)
   rw [f0, r0, t0] at c0
   rw [f1, r1, t1] at c1
   simp only [decide_eq_true_eq, decide_eq_false_iff_not, Decidable.not_not]
   refine ⟨fun ha hb => ?_, fun ha hb => ?_⟩
   · exact Classical.byContradiction fun z => c0 ha (by omega) hb
   · exact Classical.byContradiction fun z => c1 hb (by omega) ha
theorem flow0 (hT : TrOK t) : Flow t ((arcs t).map fun a => (a, 0)) 0 := by
 refine ⟨?_, fun q hq => ?_, fun v => ?_⟩
 · rw [List.map_map]; exact List.map_id _
 · obtain ⟨a, ha, rfl⟩ := List.mem_map.1 hq
   exact ⟨Int.le_refl _, (ar_ends hT ha).2.2.2.1⟩
 · rw [Int.zero_mul]
   exact sumL_z fun q hq => by
     obtain ⟨a, ha, rfl⟩ := List.mem_map.1 hq
     exact Int.zero_mul _
end

end Go.Proofs.Ytigdmkhdmbbfiaa
