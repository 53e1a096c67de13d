/- Pipes; which nodes are reached. No conditions. -/
import Derived.Test.YtigdmkhdmbbfiaaFc
set_option linter.unusedSimpArgs false
set_option linter.unusedVariables false
set_option maxRecDepth 100000
namespace Go.Proofs.Ytigdmkhdmbbfiaa
open Go Go.Pv
/-! ### Pipes -/
structure Pipe where
 til : Int
 room : Int
instance : Inhabited Pipe := ⟨⟨0, 0⟩⟩
def Pipe.enc (p : Pipe) : List PV := [.int p.til, .int p.room]
def opP (k : Nat) : Nat := if k % 2 = 0 then k + 1 else k - 1
def pT (q : Arc × Int) (k : Nat) : Int := if k % 2 = 0 then q.1.b else q.1.a
def pR (q : Arc × Int) (k : Nat) : Int := if k % 2 = 0 then q.1.cap - q.2 else q.2
def psOf : List (Arc × Int) → List Pipe
 | [] => []
 | q :: af => ⟨q.1.b, q.1.cap - q.2⟩ :: ⟨q.1.a, q.2⟩ :: psOf af
def push (q : Arc × Int) (k : Nat) (m : Int) : Arc × Int := (q.1, if k % 2 = 0 then q.2 + m else q.2 - m)
def tilP (ps : List Pipe) (k : Nat) : Int := (ps.getD k default).til
def roomP (ps : List Pipe) (k : Nat) : Int := (ps.getD k default).room
def froP (ps : List Pipe) (k : Nat) : Int := tilP ps (opP k)
section
variable {af : List (Arc × Int)} {q : Arc × Int} {k : Nat} {m : Int} {ps : List Pipe} {x : Pipe}
theorem psOf_len : (psOf af).length = 2 * af.length := by
 induction af with
 | nil => rfl
 | cons q af ih => rw [psOf, List.length_cons, List.length_cons, List.length_cons, ih]; omega
theorem psOf_app {bf : List (Arc × Int)} : psOf (af ++ bf) = psOf af ++ psOf bf := by
 induction af with
 | nil => rfl
 | cons q af ih => rw [List.cons_append, psOf, psOf, ih]; rfl
theorem psOf_at : ∀ {af : List (Arc × Int)} {k : Nat}, af[k / 2]? = some q → (psOf af)[k]? = some ⟨pT q k, pR q k⟩
 | [], _, h => by simp at h
 | y :: af, 0, h => by simp at h; subst h; rfl
 | y :: af, 1, h => by simp at h; subst h; rfl
 | y :: af, k + 2, h => by
   rw [show (k + 2) / 2 = k / 2 + 1 by omega, List.getElem?_cons_succ] at h
   have h1 := psOf_at h
   rw [psOf, List.getElem?_cons_succ, List.getElem?_cons_succ, h1, pT, pT, pR, pR, show (k + 2) % 2 = k % 2 by omega]
theorem op_lt {n : Nat} (h : k < 2 * n) : opP k < 2 * n := by rw [opP]; split <;> omega
theorem op_op : opP (opP k) = k := by
 rw [opP]; split
 · rename_i h; rw [opP] at h; split at h <;> (rw [opP]; split <;> omega)
 · rename_i h; rw [opP] at h; split at h <;> (rw [opP]; split <;> omega)
theorem op_div : opP k / 2 = k / 2 := by rw [opP]; split <;> omega
theorem op_ne : opP k ≠ k := by rw [opP]; split <;> omega
theorem psOf_op (h : af[k / 2]? = some q) : (psOf af)[opP k]? = some ⟨pT q (opP k), pR q (opP k)⟩ := psOf_at (by rw [op_div]; exact h)
theorem psOf_push : ∀ {af : List (Arc × Int)} {k : Nat}, af[k / 2]? = some q → ((psOf af).set k ⟨pT q k, pR q k - m⟩).set (opP k) ⟨pT q (opP k), pR q (opP k) + m⟩ = psOf (af.set (k / 2) (push q k m))
 | [], _, h => by simp at h
 | y :: af, 0, h => by
   simp at h; subst h
   simp [psOf, opP, pT, pR, push]; omega
 | y :: af, 1, h => by
   simp at h; subst h
   simp [psOf, opP, pT, pR, push]; omega
 | y :: af, k + 2, h => by
   rw [show (k + 2) / 2 = k / 2 + 1 by omega, List.getElem?_cons_succ] at h
   have h1 := psOf_push h
   have h2 : opP (k + 2) = opP k + 2 := by rw [opP, opP]; split <;> split <;> omega
   have h3 : pT q (k + 2) = pT q k := by rw [pT, pT, show (k + 2) % 2 = k % 2 by omega]
   have h4 : pR q (k + 2) = pR q k := by rw [pR, pR, show (k + 2) % 2 = k % 2 by omega]
   have h5 : pT q (opP k + 2) = pT q (opP k) := by rw [pT, pT, show (opP k + 2) % 2 = opP k % 2 by omega]
   have h6 : pR q (opP k + 2) = pR q (opP k) := by rw [pR, pR, show (opP k + 2) % 2 = opP k % 2 by omega]
   have h7 : push q (k + 2) m = push q k m := by rw [push, push, show (k + 2) % 2 = k % 2 by omega]
   rw [h2, h3, h4, h5, h6, h7, show (k + 2) / 2 = k / 2 + 1 by omega, List.set_cons_succ, psOf, psOf, ← h1]
   rfl
theorem tilP_at (h : ps[k]? = some x) : tilP ps k = x.til := by rw [tilP, List.getD_eq_getElem?_getD, h]; rfl
theorem roomP_at (h : ps[k]? = some x) : roomP ps k = x.room := by rw [roomP, List.getD_eq_getElem?_getD, h]; rfl
theorem tilP_of (h : af[k / 2]? = some q) : tilP (psOf af) k = pT q k := tilP_at (psOf_at h)
theorem roomP_of (h : af[k / 2]? = some q) : roomP (psOf af) k = pR q k := roomP_at (psOf_at h)
theorem froP_of (h : af[k / 2]? = some q) : froP (psOf af) k = pT q (opP k) := tilP_of (by rw [op_div]; exact h)
theorem tilP_arcs {bf : List (Arc × Int)} (h : af.map (·.1) = bf.map (·.1)) : tilP (psOf af) k = tilP (psOf bf) k := by
 have hl : af.length = bf.length := by have := congrArg List.length h; simpa using this
 by_cases hk : k / 2 < af.length
 · have h1 := List.getElem?_eq_getElem hk
   have h2 := List.getElem?_eq_getElem (hl ▸ hk : k / 2 < bf.length)
   rw [tilP_of h1, tilP_of h2]
   have h3 : (af.map (·.1))[k / 2]? = (bf.map (·.1))[k / 2]? := by rw [h]
   rw [List.getElem?_map, List.getElem?_map, h1, h2] at h3
   have h4 : af[k / 2].1 = bf[k / 2].1 := by simpa using h3
   rw [pT, pT, h4]
 · have e : ∀ cf : List (Arc × Int), cf.length ≤ k / 2 → tilP (psOf cf) k = 0 := fun cf hc => by
     rw [tilP, List.getD_eq_getElem?_getD, List.getElem?_eq_none (by rw [psOf_len]; omega)]; rfl
   rw [e af (by omega), e bf (by omega)]
theorem push_map (h : af[k / 2]? = some q) : (af.set (k / 2) (push q k m)).map (·.1) = af.map (·.1) := by
 rw [List.map_set]
 apply List.ext_getElem?
 intro i
 rw [List.getElem?_set]
 split
 · rename_i e; subst e
   split
   · rw [List.getElem?_map, h]; rfl
   · rename_i h2; rw [List.getElem?_eq_none (by simpa using h2)]
 · rfl
theorem room_push (h : af[k / 2]? = some q) {y : Nat} (h1 : y ≠ k) (h2 : y ≠ opP k) : roomP (psOf (af.set (k / 2) (push q k m))) y = roomP (psOf af) y := by
 rw [← psOf_push h, roomP, roomP, List.getD_eq_getElem?_getD, List.getD_eq_getElem?_getD, List.getElem?_set_ne (Ne.symm h2), List.getElem?_set_ne (Ne.symm h1)]
theorem sumL_set {α : Type} {f : α → Int} {y : α} : ∀ {l : List α} {i : Nat} {x : α}, l[i]? = some x → sumL f (l.set i y) = sumL f l - f x + f y
 | [], _, _, h => by simp at h
 | z :: l, 0, x, h => by simp at h; subst h; rw [List.set_cons_zero, sumL, sumL]; omega
 | z :: l, i + 1, x, h => by
   rw [List.getElem?_cons_succ] at h
   rw [List.set_cons_succ, sumL, sumL, sumL_set h]; omega
theorem SX_push (h : af[k / 2]? = some q) (X : Int → Bool) : SX X (af.set (k / 2) (push q k m)) = SX X af + m * (bI (X (pT q (opP k))) - bI (X (pT q k))) := by
 rw [SX, sumL_set h, ← SX]
 have h1 : (push q k m).1 = q.1 := rfl
 rw [h1, uX]
 rcases Nat.mod_two_eq_zero_or_one k with e | e
 · have e1 : pT q (opP k) = q.1.a := by rw [pT, if_neg (by rw [opP, if_pos e]; omega)]
   have e2 : pT q k = q.1.b := by rw [pT, if_pos e]
   have e3 : (push q k m).2 = q.2 + m := by rw [push, if_pos e]
   rw [e1, e2, e3, Int.add_mul]; omega
 · have e1 : pT q (opP k) = q.1.b := by rw [pT, if_pos (by rw [opP, if_neg (by omega)]; omega)]
   have e2 : pT q k = q.1.a := by rw [pT, if_neg (by omega)]
   have e3 : (push q k m).2 = q.2 - m := by rw [push, if_neg (by omega)]
   rw [e1, e2, e3, Int.sub_mul]
   have e4 : m * (bI (X q.1.b) - bI (X q.1.a)) = - (m * (bI (X q.1.a) - bI (X q.1.b))) := by rw [← Int.mul_neg]; congr 1; omega
   rw [e4]; omega
theorem push_cap (hc : 0 ≤ q.2 ∧ q.2 ≤ q.1.cap) (hm : 0 < m) (hr : m ≤ pR q k) : 0 ≤ (push q k m).2 ∧ (push q k m).2 ≤ (push q k m).1.cap := by
 rw [pR] at hr
 have h1 : (push q k m).1 = q.1 := rfl
 rw [h1, push]
 simp only []
 split at hr <;> (rename_i e; simp only [e, if_true, if_false]; first | omega | (rw [if_neg e]; omega))
end
/-! ### Which nodes are reached -/
structure Bfs (ps : List Pipe) (N : Nat) (s : Int) (bs ord : List Int) : Prop where
 len : bs.length = N
 nd : ord.Nodup
 rng : ∀ v ∈ ord, 0 ≤ v ∧ v < (N : Int)
 mem : ∀ v : Int, 0 ≤ v → v < (N : Int) → (bs.getD v.toNat 0 ≠ -1 ↔ v ∈ ord)
 st : ord[0]? = some s
 s2 : bs.getD s.toNat 0 = -2
 pr : ∀ (j : Nat) (v : Int), ord[j]? = some v → j = 0 ∨ ∃ k : Nat, k < ps.length ∧ bs.getD v.toNat 0 = (k : Int) ∧ tilP ps k = v ∧ 0 < roomP ps k ∧ ∃ i, i < j ∧ ord[i]? = some (froP ps k)
structure AdjOK (ps : List Pipe) (N : Nat) (fs : List (List Int)) : Prop where
 len : fs.length = N
 rng : ∀ k, k < ps.length → (0 ≤ tilP ps k ∧ tilP ps k < (N : Int))
 inn : ∀ u, u < N → ∀ k ∈ fs.getD u [], ∃ j : Nat, k = (j : Int) ∧ j < ps.length ∧ froP ps j = (u : Int)
 all : ∀ j, j < ps.length → (j : Int) ∈ fs.getD (froP ps j).toNat []
section
variable {ps : List Pipe} {N : Nat} {s v w : Int} {bs ord done : List Int} {fs : List (List Int)} {k : Nat}
theorem getD_set {l : List Int} {i j : Nat} {a : Int} (hi : i < l.length) : (l.set i a).getD j 0 = if j = i then a else l.getD j 0 := by
 rw [List.getD_eq_getElem?_getD, List.getElem?_set]
 by_cases e : i = j
 · subst e; rw [if_pos rfl, if_pos hi, if_pos rfl]; rfl
 · rw [if_neg e, if_neg (fun q => e q.symm), ← List.getD_eq_getElem?_getD]
theorem Bfs.zero (hs : 0 ≤ s ∧ s < (N : Int)) : Bfs ps N s ((List.replicate N (-1)).set s.toNat (-2)) [s] := by
 have hl : s.toNat < (List.replicate N (-1 : Int)).length := by rw [List.length_replicate]; omega
 refine ⟨by simp, by simp, fun v hv => by simp at hv; subst hv; exact hs, fun v h0 hN => ?_, rfl, by rw [getD_set hl, if_pos rfl], fun j v hj => ?_⟩
 · rw [getD_set hl, List.mem_singleton]
   by_cases e : v = s
   · subst e; rw [if_pos rfl]; exact ⟨fun _ => rfl, fun _ => by decide⟩
   · rw [if_neg (by omega), List.getD_eq_getElem?_getD, List.getElem?_replicate, if_pos (by omega)]
     exact ⟨fun q => absurd rfl q, fun q => absurd q e⟩
 · cases j with
   | zero => exact .inl rfl
   | succ j => simp at hj
theorem Bfs.step (hB : Bfs ps N s bs ord) (hk : k < ps.length) (hw : tilP ps k = w) (hr : 0 < roomP ps k) (h0 : 0 ≤ w ∧ w < (N : Int)) (hn : bs.getD w.toNat 0 = -1) (hf : froP ps k ∈ ord) : Bfs ps N s (bs.set w.toNat (k : Int)) (ord ++ [w]) := by
 have hl : w.toNat < bs.length := by rw [hB.len]; omega
 have hni : w ∉ ord := fun q => (hB.mem w h0.1 h0.2).2 q hn
 have hpos : 0 < ord.length := (List.getElem?_eq_some_iff.1 hB.st).1
 have hne : ∀ v ∈ ord, v.toNat ≠ w.toNat := fun v hv q => hni (by
   have := hB.rng v hv
   have e : v = w := by omega
   rw [← e]; exact hv)
 refine ⟨by rw [List.length_set]; exact hB.len, ?_, fun v hv => ?_, fun v g0 gN => ?_, ?_, ?_, fun j v hj => ?_⟩
 · rw [List.nodup_append]
   exact ⟨hB.nd, by simp, fun a ha b hb => by simp at hb; subst hb; exact fun q => hni (q ▸ ha)⟩
 · rcases List.mem_append.1 hv with hv | hv
   · exact hB.rng v hv
   · simp at hv; subst hv; exact h0
 · rw [getD_set hl, List.mem_append, List.mem_singleton]
   by_cases e : v = w
   · subst e; rw [if_pos rfl]; exact ⟨fun _ => .inr rfl, fun _ => by omega⟩
   · rw [if_neg (by omega), hB.mem v g0 gN]
     exact ⟨.inl, fun q => q.resolve_right e⟩
 · rw [List.getElem?_append_left hpos]; exact hB.st
 · rw [getD_set hl, if_neg (hne s (List.mem_of_getElem? hB.st))]; exact hB.s2
 · by_cases e : j < ord.length
   · rw [List.getElem?_append_left e] at hj
     rcases hB.pr j v hj with h1 | ⟨k', h1, h2, h3, h4, i, h5, h6⟩
     · exact .inl h1
     · refine .inr ⟨k', h1, ?_, h3, h4, i, h5, ?_⟩
       · rw [getD_set hl, if_neg (hne v (List.mem_of_getElem? hj))]; exact h2
       · rw [List.getElem?_append_left (by omega)]; exact h6
   · have hj2 : j = ord.length := by
       have := (List.getElem?_eq_some_iff.1 hj).1
       rw [List.length_append] at this; simp at this; omega
     subst hj2
     rw [List.getElem?_append_right (Nat.le_refl _), Nat.sub_self] at hj
     simp at hj; subst hj
     obtain ⟨i, hi⟩ := List.mem_iff_getElem?.1 hf
     have hil := (List.getElem?_eq_some_iff.1 hi).1
     refine .inr ⟨k, hk, by rw [getD_set hl, if_pos rfl], hw, hr, i, hil, ?_⟩
     rw [List.getElem?_append_left hil]; exact hi
theorem Bfs.len_le (hB : Bfs ps N s bs ord) : ord.length ≤ N := by
 have h1 : (ord.map Int.toNat).Nodup := by
   have := hB.nd
   rw [List.Nodup] at this ⊢
   rw [List.pairwise_map]
   refine List.Pairwise.imp_of_mem (fun {a b} ha hb hab => ?_) this
   have := hB.rng a ha; have := hB.rng b hb; omega
 have h2 : (ord.map Int.toNat).length ≤ (List.range N).length := List.Nodup.length_le_of_subset h1 fun x hx => by
   obtain ⟨v, hv, rfl⟩ := List.mem_map.1 hx
   have := hB.rng v hv
   exact List.mem_range.2 (by omega)
 rw [List.length_map, List.length_range] at h2
 exact h2
/-- What is reached from the nodes that are done is reached. -/
def ClOK (ps : List Pipe) (fs : List (List Int)) (bs done : List Int) : Prop := ∀ u ∈ done, ∀ k ∈ fs.getD u.toNat [], 0 < roomP ps k.toNat → bs.getD (tilP ps k.toNat).toNat 0 ≠ -1
theorem ClOK.mono (h : ClOK ps fs bs done) (hw : w.toNat < bs.length) (hn : (k : Int) ≠ -1) : ClOK ps fs (bs.set w.toNat (k : Int)) done := fun u hu k' hk' hr => by
 rw [getD_set hw]
 split
 · exact hn
 · exact h u hu k' hk' hr
structure Rch (ps : List Pipe) (N : Nat) (s : Int) (bs : List Int) : Prop where
 ex : ∃ ord, Bfs ps N s bs ord
 cl : ∀ k, k < ps.length → bs.getD (froP ps k).toNat 0 ≠ -1 → 0 < roomP ps k → bs.getD (tilP ps k).toNat 0 ≠ -1
theorem Bfs.rch (hB : Bfs ps N s bs ord) (hA : AdjOK ps N fs) (hp : ∀ k, k < ps.length → opP k < ps.length) (hc : ClOK ps fs bs ord) : Rch ps N s bs := by
 refine ⟨⟨ord, hB⟩, fun k hk hf hr => ?_⟩
 have h1 := hA.rng (opP k) (hp k hk)
 have h2 : froP ps k ∈ ord := (hB.mem _ h1.1 h1.2).1 hf
 have h3 := hc _ h2 (k : Int) (hA.all k hk)
 rw [Int.toNat_natCast] at h3
 exact h3 hr
end

end Go.Proofs.Ytigdmkhdmbbfiaa
