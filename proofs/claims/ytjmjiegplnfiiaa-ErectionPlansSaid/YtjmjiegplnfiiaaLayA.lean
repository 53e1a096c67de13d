import Derived.Test.YtjmjiegplnfiiaaTrnA
/- Tasks by their depths: plain laws. No conditions. -/
set_option linter.unusedSimpArgs false
set_option linter.unusedVariables false
namespace Go.Proofs.Ytjmjiegplnfiiaa
open Go Go.Pv

/-! ### Depths -/
def stp (x : Nat) (d : List Int) (z : Int) : List Int := d.set x (max (at0 d x) (at0 d z.toNat + 1))
def stepD (d : List Int) (x : Nat) (l : List Int) : List Int := l.foldl (stp x) d
def depP (nd : List (List Int)) (O : List Int) (k : Nat) : List Int := (O.take k).foldl (fun d x => stepD d x.toNat (nd_ nd x.toNat)) (List.replicate nd.length 0)
def depX (xs : List Task) : List Int := depP (ndX xs) (ordR (ndX xs)) (ordR (ndX xs)).length
theorem stp_len {x : Nat} {d : List Int} {z : Int} : (stp x d z).length = d.length := by simp [stp]
theorem stepD_len {x : Nat} : ∀ {l : List Int} {d : List Int}, (stepD d x l).length = d.length
  | [], d => rfl
  | z :: l, d => by
    show (stepD (stp x d z) x l).length = _
    rw [stepD_len, stp_len]
theorem stepD_succ {x : Nat} {d l : List Int} {j : Nat} (hj : j < l.length) : stepD d x (l.take (j + 1)) = stp x (stepD d x (l.take j)) (at0 l j) := by
  rw [stepD, ← List.take_append_getElem hj, List.foldl_append, at0_elem hj]; rfl
theorem depP_0 {nd : List (List Int)} {O : List Int} : depP nd O 0 = List.replicate nd.length 0 := rfl
theorem depP_succ {nd : List (List Int)} {O : List Int} {k : Nat} (hk : k < O.length) : depP nd O (k + 1) = stepD (depP nd O k) (at0 O k).toNat (nd_ nd (at0 O k).toNat) := by
  rw [depP, ← List.take_append_getElem hk, List.foldl_append, at0_elem hk]; rfl
theorem depP_len {nd : List (List Int)} {O : List Int} : ∀ {k : Nat}, k ≤ O.length → (depP nd O k).length = nd.length
  | 0, _ => by simp [depP]
  | k + 1, h => by rw [depP_succ (by omega), stepD_len, depP_len (by omega)]
def InB (b : Int) (d : List Int) : Prop := ∀ i, 0 ≤ at0 d i ∧ at0 d i ≤ b
theorem InB.zero {n : Nat} : InB 0 (List.replicate n 0) := fun i => by
  simp only [at0, List.getD_eq_getElem?_getD, List.getElem?_replicate]
  split <;> simp
theorem InB.le {a b : Int} {d : List Int} (h : InB a d) (hab : a ≤ b) : InB b d := fun i => by have := h i; omega
theorem InB.stp {b : Int} {d : List Int} {x : Nat} {z : Int} (h : InB b d) : InB (b + 1) (stp x d z) := fun i => by
  by_cases hx : x < d.length
  · rw [Go.Proofs.Ytjmjiegplnfiiaa.stp, at0_set hx]
    have h1 := h x; have h2 := h z.toNat; have h3 := h i
    split <;> omega
  · rw [Go.Proofs.Ytjmjiegplnfiiaa.stp, List.set_eq_of_length_le (by omega)]
    have h3 := h i; omega
theorem InB.stepD {x : Nat} : ∀ {l : List Int} {b : Int} {d : List Int}, InB b d → InB (b + l.length) (stepD d x l)
  | [], b, d, h => by simpa [Go.Proofs.Ytjmjiegplnfiiaa.stepD] using h
  | z :: l, b, d, h => by
    have := InB.stepD (x := x) (l := l) (h.stp (x := x) (z := z))
    rw [List.length_cons, show b + ((l.length + 1 : Nat) : Int) = b + 1 + (l.length : Int) by omega]
    exact this
theorem depP_b {nd : List (List Int)} {O : List Int} (hn : ∀ i, (nd_ nd i).length ≤ 1000) : ∀ {k : Nat}, k ≤ O.length → InB (k * 1000) (depP nd O k)
  | 0, _ => by rw [depP_0]; exact InB.zero.le (by omega)
  | k + 1, h => by
    rw [depP_succ (by omega)]
    have h1 := (depP_b (O := O) hn (k := k) (by omega)).stepD (x := (at0 O k).toNat) (l := nd_ nd (at0 O k).toNat)
    have h2 := hn (at0 O k).toNat
    exact h1.le (by omega)
theorem stepD_far {x : Nat} : ∀ {l d : List Int}, (∀ z ∈ l, z.toNat ≠ x) → x < d.length → (∀ y, y ≠ x → at0 (stepD d x l) y = at0 d y) ∧ (at0 (stepD d x l) x = at0 d x ∨ ∃ z ∈ l, at0 (stepD d x l) x = at0 d z.toNat + 1)
  | [], d, _, _ => ⟨fun _ _ => rfl, .inl rfl⟩
  | z :: l, d, h, hx => by
    have ih := stepD_far (l := l) (d := stp x d z) (fun w hw => h w (List.mem_cons_of_mem _ hw)) (by rw [stp_len]; exact hx)
    have hs : ∀ y, y ≠ x → at0 (stp x d z) y = at0 d y := fun y hy => by rw [stp, at0_set hx, if_neg (fun e => hy e.symm)]
    have hsx : at0 (stp x d z) x = max (at0 d x) (at0 d z.toNat + 1) := by rw [stp, at0_set hx, if_pos rfl]
    refine ⟨fun y hy => (ih.1 y hy).trans (hs y hy), ?_⟩
    show at0 (stepD (stp x d z) x l) x = at0 d x ∨ ∃ w ∈ z :: l, at0 (stepD (stp x d z) x l) x = at0 d w.toNat + 1
    rcases ih.2 with e | ⟨w, hw, e⟩
    · rw [e, hsx]
      by_cases hm : at0 d x ≤ at0 d z.toNat + 1
      · exact .inr ⟨z, by simp, by omega⟩
      · exact .inl (by omega)
    · exact .inr ⟨w, List.mem_cons_of_mem _ hw, by rw [e, hs _ (h w (List.mem_cons_of_mem _ hw))]⟩
theorem depP_gap {nd : List (List Int)} {O : List Int} (hO : AccOK nd O) : ∀ {k : Nat}, k ≤ O.length → ∀ x : Nat, x < nd.length → ((x : Int) ∉ O.take k → at0 (depP nd O k) x = 0) ∧ ((x : Int) ∈ O.take k → at0 (depP nd O k) x = 0 ∨ ∃ z ∈ nd_ nd x, at0 (depP nd O k) x = at0 (depP nd O k) z.toNat + 1)
  | 0, _ => fun x hx => ⟨fun _ => by rw [depP_0]; simp [at0, List.getElem?_replicate]; split <;> rfl, fun h => by simp at h⟩
  | k + 1, h => by
    have ih := depP_gap hO (k := k) (by omega)
    have hk : k < O.length := by omega
    have h1 := acE_iff.1 (hO k hk)
    have hlen := depP_len (nd := nd) (O := O) (k := k) (by omega)
    have hfar := stepD_far (x := (at0 O k).toNat) (l := nd_ nd (at0 O k).toNat) (d := depP nd O k) (fun z hz e => by
      have h2 := h1.2.2 z hz
      have h3 : z = at0 O k := by
        have := hO.rng z (List.mem_of_mem_take h2)
        omega
      exact h1.2.1 (h3 ▸ h2)) (by rw [hlen]; omega)
    rw [depP_succ hk]
    intro x hx
    have hsub : ∀ y : Int, y ∈ O.take k → y.toNat ≠ (at0 O k).toNat := fun y hy e => by
      have := hO.rng y (List.mem_of_mem_take hy)
      have h3 : y = at0 O k := by omega
      exact h1.2.1 (h3 ▸ hy)
    by_cases e : x = (at0 O k).toNat
    · subst e
      have h0 := (ih _ hx).1 (by rw [Int.toNat_of_nonneg h1.1.1]; exact h1.2.1)
      refine ⟨fun hn => absurd ((take_mem_succ hk).2 (.inr (Int.toNat_of_nonneg h1.1.1))) hn, fun _ => ?_⟩
      rcases hfar.2 with e2 | ⟨z, hz, e2⟩
      · exact .inl (by rw [e2, h0])
      · exact .inr ⟨z, hz, by rw [e2, hfar.1 _ (hsub z (h1.2.2 z hz))]⟩
    · rw [hfar.1 x e]
      have hm : (x : Int) ∈ O.take (k + 1) ↔ (x : Int) ∈ O.take k := by
        rw [take_mem_succ hk]
        exact ⟨fun q => q.resolve_right (fun q => e (by rw [← q]; rfl)), .inl⟩
      rw [hm]
      refine ⟨(ih x hx).1, fun hx2 => ?_⟩
      rcases (ih x hx).2 hx2 with e2 | ⟨z, hz, e2⟩
      · exact .inl e2
      · refine .inr ⟨z, hz, ?_⟩
        obtain ⟨p, hp, hp2, hp3⟩ := mem_take.1 hx2
        have h4 := (acE_iff.1 (hO p hp2)).2.2
        rw [hp3, Int.toNat_natCast] at h4
        have h5 : z ∈ O.take k := by
          obtain ⟨q, hq, hq2, hq3⟩ := mem_take.1 (h4 z hz)
          exact mem_take.2 ⟨q, by omega, hq2, hq3⟩
        rw [e2, hfar.1 _ (hsub z h5)]
/-- No depth is left out. -/
theorem dep_full {xs : List Task} (h : planE xs = 0) : ∀ (e x : Nat), x < xs.length → at0 (depX xs) x = (e : Int) → ∀ e' : Nat, e' ≤ e → ∃ y, y < xs.length ∧ at0 (depX xs) y = (e' : Int) := by
  have hO := ordF_acc (nd := ndX xs) (ndX xs).length .nil
  have hlen := planE_len h
  have hg := depP_gap (O := ordR (ndX xs)) hO (Nat.le_refl _)
  intro e
  induction e with
  | zero => intro x hx he e' h1; exact ⟨x, hx, by rw [he, show e' = 0 by omega]⟩
  | succ e ih =>
    intro x hx he e' h1
    by_cases e2 : e' = e + 1
    · exact ⟨x, hx, by rw [he, e2]⟩
    · have hxn : x < (ndX xs).length := by rw [ndX_len]; exact hx
      have hm : (x : Int) ∈ (ordR (ndX xs)).take (ordR (ndX xs)).length := by
        rw [List.take_length]; exact AccOK.all (D := ordR (ndX xs)) hO (by omega) hxn
      rcases (hg x hxn).2 hm with h2 | ⟨z, hz, h2⟩
      · have : at0 (depX xs) x = 0 := h2
        omega
      · have h3 : at0 (depX xs) x = at0 (depX xs) z.toNat + 1 := h2
        obtain ⟨t, ht⟩ : ∃ t, xs[x]? = some t := ⟨_, List.getElem?_eq_getElem hx⟩
        rw [ndX_at ht] at hz
        have h4 := (task_ok h ht).2.2.2.1 z hz
        exact ih z.toNat (by omega) (by omega) e' (by omega)

/-! ### Rows of tasks -/
def rowP (d : List Int) (e k : Nat) : List Int := ((List.range k).filter fun i => decide (at0 d i = (e : Int))).map fun i : Nat => (i : Int)
def layT (d : List Int) (k L : Nat) : List (List Int) := (List.range L).map fun e => rowP d e k
def mxK (d : List Int) : Nat → Nat
  | 0 => 0
  | k + 1 => max (mxK d k) ((at0 d k).toNat + 1)
theorem layT_len {d : List Int} {k L : Nat} : (layT d k L).length = L := by simp [layT]
theorem layT_get {d : List Int} {k L e : Nat} (h : e < L) : (layT d k L)[e]? = some (rowP d e k) := by
  simp [layT, List.getElem?_range h]
theorem rowP_t {d : List Int} {e k : Nat} (h : at0 d k = (e : Int)) : rowP d e k ++ [(k : Int)] = rowP d e (k + 1) := by
  simp only [rowP, List.range_succ, List.filter_append, List.map_append]
  rw [List.filter_cons_of_pos (by simp [h])]; rfl
theorem rowP_f {d : List Int} {e k : Nat} (h : at0 d k ≠ (e : Int)) : rowP d e k = rowP d e (k + 1) := by
  simp only [rowP, List.range_succ, List.filter_append, List.map_append]
  rw [List.filter_cons_of_neg (by simp [h])]; simp
theorem mxK_gt {d : List Int} : ∀ {k i : Nat}, i < k → (at0 d i).toNat < mxK d k
  | k + 1, i, h => by
    rw [mxK]
    by_cases e : i = k
    · subst e; omega
    · have := mxK_gt (d := d) (k := k) (i := i) (by omega); omega
theorem mxK_at {d : List Int} : ∀ {k : Nat}, 0 < k → ∃ i, i < k ∧ mxK d k = (at0 d i).toNat + 1
  | 0, h => absurd h (Nat.lt_irrefl _)
  | k + 1, _ => by
    rw [mxK]
    by_cases e : mxK d k ≤ (at0 d k).toNat + 1
    · exact ⟨k, by omega, by omega⟩
    · have hk : 0 < k := by
        rcases Nat.eq_zero_or_pos k with q | q
        · subst q; simp [mxK] at e
        · exact q
      obtain ⟨i, hi, h2⟩ := mxK_at (d := d) hk
      exact ⟨i, by omega, by omega⟩
theorem rowP_nil {d : List Int} {e k : Nat} (h : mxK d k ≤ e) (hd : ∀ i, 0 ≤ at0 d i) : rowP d e k = [] := by
  rw [rowP, List.filter_eq_nil_iff.2 fun i hi => ?_]
  · rfl
  · have h1 := mxK_gt (d := d) (List.mem_range.1 hi)
    have h2 := hd i
    simp only [decide_eq_true_eq]
    omega
theorem layT_snoc {d : List Int} {k L : Nat} (h : mxK d k ≤ L) (hd : ∀ i, 0 ≤ at0 d i) : layT d k L ++ [[]] = layT d k (L + 1) := by
  simp only [layT, List.range_succ, List.map_append, List.map_cons, List.map_nil]
  rw [rowP_nil h hd]
theorem layT_set {d : List Int} {k L e : Nat} (h : at0 d k = (e : Int)) (he : e < L) : (layT d k L).set e (rowP d e k ++ [(k : Int)]) = layT d (k + 1) L := by
  apply List.ext_getElem (by simp [layT])
  intro i h1 h2
  rw [List.getElem_set]
  simp only [layT, List.getElem_map, List.getElem_range]
  split
  · rename_i e2; subst e2; exact rowP_t h
  · rename_i e2
    exact rowP_f (by rw [h]; omega)
theorem layT_row {d : List Int} {n e : Nat} : layT d n e ++ [rowP d e n] = layT d n (e + 1) := by
  simp only [layT, List.range_succ, List.map_append]; rfl
def layX (xs : List Task) : List (List Int) × Int := if planE xs ≠ 0 then ([], planE xs) else (layT (depX xs) xs.length (mxK (depX xs) xs.length), 0)
theorem dep_nn {xs : List Task} (hq : Fair xs) : ∀ i, 0 ≤ at0 (depX xs) i := fun i =>
  ((depP_b (nd := ndX xs) (O := ordR (ndX xs)) (nd_len fun x hx => (hq x hx).1) (Nat.le_refl _)) i).1
theorem row_some {xs : List Task} (h : planE xs = 0) (hq : Fair xs) {e : Nat} (he : e < mxK (depX xs) xs.length) : rowP (depX xs) e xs.length ≠ [] := by
  have hn : 0 < xs.length := by
    rcases Nat.eq_zero_or_pos xs.length with q | q
    · rw [q] at he; simp [mxK] at he
    · exact q
  obtain ⟨i, hi, h1⟩ := mxK_at (d := depX xs) hn
  have h2 := dep_nn hq i
  obtain ⟨y, hy, h3⟩ := dep_full h (at0 (depX xs) i).toNat i hi (by omega) e (by omega)
  intro q
  have : (y : Int) ∈ rowP (depX xs) e xs.length := by
    simp only [rowP, List.mem_map, List.mem_filter, List.mem_range, decide_eq_true_eq]
    exact ⟨y, ⟨hy, h3⟩, rfl⟩
  rw [q] at this; cases this
theorem row_lt {xs : List Task} (hq : Fair xs) {e : Nat} (h : rowP (depX xs) e xs.length ≠ []) : e < mxK (depX xs) xs.length := by
  rcases Nat.lt_or_ge e (mxK (depX xs) xs.length) with q | q
  · exact q
  · exact absurd (rowP_nil q (dep_nn hq)) h
theorem rowP_le {d : List Int} {e k : Nat} : (rowP d e k).length ≤ k := by
  have h1 := List.length_filter_le (fun i => decide (at0 d i = (e : Int))) (List.range k)
  simp only [rowP, List.length_map]
  rw [List.length_range] at h1
  exact h1
theorem mxK_le {d : List Int} {b : Nat} (h : ∀ i, at0 d i ≤ (b : Int)) : ∀ k, mxK d k ≤ b + 1
  | 0 => by simp [mxK]
  | k + 1 => by
    have := mxK_le h k; have := h k
    rw [mxK]; omega
theorem out_npS {h : Heap} {d e : Nat} {v : PV} {vs : List PV} {ls : List (List Int)} (hn : NP h d 1 ci vs ls) (hs : SliceAt h e v 1 (vs.map cv)) : Out h v (.lit false 1 (ls.map clf)) := by
  rcases hs with ⟨h1, rfl⟩ | ⟨g, rfl, hg⟩
  · have h2 : vs = [] := by simpa using h1
    have h3 : ls = [] := List.eq_nil_of_length_eq_zero (by rw [← hn.len, h2]; rfl)
    subst h3; exact .nil 1
  · rw [List.length_map]; exact out_np hn hg hn.len.symm
end Go.Proofs.Ytjmjiegplnfiiaa

/- Tasks by their depths, as the program tells them. No conditions. -/
set_option linter.unusedSimpArgs false
set_option linter.unusedVariables false
set_option maxRecDepth 100000
namespace Go.Proofs.Ytjmjiegplnfiiaa
open Go Go.Pv
theorem mxK_succ {d : List Int} {k : Nat} : mxK d (k + 1) = max (mxK d k) ((at0 d k).toNat + 1) := rfl
theorem depX_len {xs : List Task} : (depX xs).length = xs.length := by rw [depX, depP_len (Nat.le_refl _), ndX_len]
theorem ordR_acc {nd : List (List Int)} : AccOK nd (ordR nd) := ordF_acc (nd := nd) nd.length .nil
theorem ordR_len {xs : List Task} (h : AccOK (ndX xs) (ordR (ndX xs))) : (ordR (ndX xs)).length ≤ xs.length := by
  have := h.len; rw [ndX_len] at this; exact this

theorem fr76 : (inFrame Try.f76.ntmps (Try.f76.body.getD .skip) && Try.f76.results.toList.all (resScope Try.f76.ntmps)) = true := by kernel_rfl
theorem depthsC (xs : List Task) (hl : xs.length ≤ 20) (hq : Fair xs) (hp : planE xs = 0) : PCalls Try.prog 76 [.lit true 6 (xs.map Task.enc)] (.lit false 1 ((depX xs).map ci)) := by
  refine PCalls.of_code Try.func76 rfl rfl (by kernel_rfl) mixed fr76 (by show _ ≤ 54; simp) (.lit _ _ _ fun row hr => pure_map ci_pure row hr) ?_
  have hO := ordR_acc (nd := (ndX xs))
  have hol0 := ordR_len hO
  refine pwp_seq_plain rfl fun K1 hK1 => ?_
  refine p_step rfl (e_assign (v := .nil) rfl) trivial ?_
  refine p_end (hK1 _ ?_); clear hK1 K1
  refine pwp_seq_plain rfl fun K2 hK2 => ?_
  refine p_step rfl (e_move (v := .lit _ _ _) rfl) trivial ?_
  refine p_step rfl (e_len rfl (by kernel_rfl)) trivial ?_
  refine p_new rfl (e_mkI (n := xs.length) rfl rfl (by rw [List.length_map]) (by kernel_rfl) (by kernel_rfl) (by kernel_rfl) (by decide +kernel) (by omega)) trivial ?_
  rw [show List.replicate xs.length (0 : Int) = depP (ndX xs) (ordR (ndX xs)) 0 by rw [depP_0, ndX_len]]
  refine p_step rfl (e_assign (v := .ref _ _ _ _) rfl) trivial ?_
  refine p_end (hK2 _ ?_); clear hK2 K2
  refine pwp_seq_plain rfl fun K3 hK3 => ?_
  refine p_step rfl (e_move (v := .lit _ _ _) rfl) trivial ?_
  refine p_call rfl (.cons inn_lit .nil) (refOrder _ (by omega) (fun x hx => (hq x hx).1) (tasks_nd (planE_ok hp))) ?_
  refine p_step rfl (e_assign (v := .lit _ _ _) rfl) trivial ?_
  refine p_end (hK3 _ ?_); clear hK3 K3
  refine pwp_seq_seq ?_
  refine pwp_seq_plain rfl fun K4 hK4 => ?_
  refine p_step rfl (e_assign (v := .sc _) rfl) trivial ?_
  refine p_end (hK4 _ ?_); clear hK4 K4
  refine pwp_seq_block fun K5 hK5 => ?_
  refine pwp_loopR (α := Nat) [0, 3, 4] (fun (k : Nat) => [(5, .int (k))]) (fun (k : Nat) (h : Heap) (_ : Nat → Nat) => ((k) ≤ (ordR (ndX xs)).length) ∧ (h (10, 0) = some (.rows 1 ((depP (ndX xs) (ordR (ndX xs)) (k)).map ci)))) (fun (k : Nat) => (ordR (ndX xs)).length - (k)) (0) (by exact ⟨rfl, trivial⟩) (by exact ⟨by exact Nat.zero_le _, (hset_self _ _ _)⟩) fun k r6 h7 c8 hj9 => ?_
  obtain ⟨hk, hihj9_0⟩ := hj9
  try dsimp only at hk
  try dsimp only at hihj9_0
  show pwp _ _ (loopQ _ _ _) ⟨sets (mix _ _ _) [(5, .int k)], _, _⟩
  refine pwp_seq_seq ?_
  refine pwp_seq_plain rfl fun K10 hK10 => ?_
  refine p_step rfl (e_move (v := .sc _) rfl) trivial ?_
  refine p_step rfl (e_move (v := .lit _ _ _) rfl) trivial ?_
  refine p_step rfl (e_len rfl (by kernel_rfl)) trivial ?_
  refine p_step rfl (e_lt rfl rfl) trivial ?_
  refine p_end (hK10 _ ?_); clear hK10 K10
  refine pwp_seq_cond rfl fun K11 hK11 => ⟨fun hb12 => ?_, fun hb12 => ?_⟩
  ·have hb12R := hb12; try simp only [z1, z2, z3, z4, z5, z6, ne_eq, z7, z8, z9, z10, z11, z12] at hb12
   have hkO : k < (ordR (ndX xs)).length := by simp only [List.length_map] at *; omega
   obtain ⟨hr0, hr1⟩ := AccOK.rng hO _ (at0_mem hkO)
   rw [ndX_len] at hr1
   obtain ⟨x, hx, _, _⟩ := get_lt (xs := xs) (i := (at0 (ordR (ndX xs)) k).toNat) (by omega)
   have hxr := (task_ok hp hx).2.2.2.1
   have hxl := (hq x (List.mem_of_getElem? hx)).1
   have hdl := depP_len (nd := (ndX xs)) (O := (ordR (ndX xs))) (k := k) (by omega)
   rw [ndX_len] at hdl
   have hdb := depP_b (nd := (ndX xs)) (O := (ordR (ndX xs))) (nd_len fun x hx => (hq x hx).1) (k := k) (by omega)
   refine pwp_skip ?_
   refine seq_norm (hK11 _ ?_); clear hK11 K11
   refine pwp_seq_block fun K13 hK13 => ?_
   refine pwp_seq_plain rfl fun K14 hK14 => ?_
   refine p_step rfl (e_move (v := .lit _ _ _) rfl) trivial ?_
   refine p_step rfl (e_move (v := .sc _) rfl) trivial ?_
   refine p_step rfl (e_ixa rfl rfl (by kernel_rfl) (by kernel_rfl) (by first | omega | (simp only [List.length_map]; omega))) trivial ?_
   refine p_step rfl (e_load (v := .sc _) rfl (by kernel_rfl) (by kernel_rfl) (by kernel_rfl) (by first | omega | (simp only [List.length_map]; omega)) (by decide) ((cell_map (at0_get (l := (ordR (ndX xs))) (i := k) hkO) _).trans rfl)) trivial ?_
   refine p_step rfl (e_assign (v := .sc _) rfl) trivial ?_
   refine p_end (hK14 _ ?_); clear hK14 K14
   refine pwp_seq_plain rfl fun K15 hK15 => ?_
   refine p_step rfl (e_assign (v := .sc _) rfl) trivial ?_
   refine p_end (hK15 _ ?_); clear hK15 K15
   refine pwp_block ?_
   refine pwp_loopR (α := Nat) [0, 3, 4, 5, 6] (fun (j : Nat) => [(7, .int (j))]) (fun (j : Nat) (h : Heap) (_ : Nat → Nat) => ((j) ≤ x.needs.length) ∧ (h (10, 0) = some (.rows 1 ((stepD (depP (ndX xs) (ordR (ndX xs)) k) (at0 (ordR (ndX xs)) k).toNat (x.needs.take (j))).map ci)))) (fun (j : Nat) => x.needs.length - (j)) (0) (by exact ⟨rfl, trivial⟩) (by exact ⟨by exact Nat.zero_le _, hihj9_0⟩) fun j r16 h17 c18 hj19 => ?_
   obtain ⟨hj, hihj19_0⟩ := hj19
   try dsimp only at hj
   try dsimp only at hihj19_0
   show pwp _ _ (loopQ _ _ _) ⟨sets (mix _ _ _) [(7, .int j)], _, _⟩
   refine pwp_seq_seq ?_
   refine pwp_seq_plain rfl fun K20 hK20 => ?_
   refine p_step rfl (e_move (v := .sc _) rfl) trivial ?_
   refine p_step rfl (e_move (v := .lit _ _ _) rfl) trivial ?_
   refine p_step rfl (e_move (v := .sc _) rfl) trivial ?_
   refine p_step rfl (e_ixa rfl rfl (by kernel_rfl) (by kernel_rfl) (by first | omega | (simp only [List.length_map]; omega))) trivial ?_
   refine p_step rfl (e_fa (pl := [(0, 1, false), (1, 1, false), (2, 1, false), (3, 1, false), (4, 1, false), (5, 1, false)]) rfl (by kernel_rfl) (by kernel_rfl) (by decide) rfl) trivial ?_
   refine p_step rfl (e_load (v := .lit _ _ _) rfl (by kernel_rfl) (by kernel_rfl) (by kernel_rfl) (by first | omega | (simp only [List.length_map]; omega)) (by decide) ((cell_map hx _).trans rfl)) trivial ?_
   refine p_step rfl (e_len rfl (by kernel_rfl)) trivial ?_
   refine p_step rfl (e_lt rfl rfl) trivial ?_
   refine p_end (hK20 _ ?_); clear hK20 K20
   refine pwp_seq_cond rfl fun K21 hK21 => ⟨fun hb22 => ?_, fun hb22 => ?_⟩
   ·have hb22R := hb22; try simp only [z1, z2, z3, z4, z5, z6, ne_eq, z7, z8, z9, z10, z11, z12] at hb22
    have hjn : j < x.needs.length := by simp only [List.length_map] at *; omega
    obtain ⟨hz0, hz1⟩ := hxr _ (at0_mem hjn)
    have hsb := hdb.stepD (x := (at0 (ordR (ndX xs)) k).toNat) (l := x.needs.take j)
    have hs1 := hsb (at0 (ordR (ndX xs)) k).toNat; have hs2 := hsb (at0 x.needs j).toNat
    have htl : (x.needs.take j).length = j := by rw [List.length_take]; omega
    have hol := ordR_len hO
    refine pwp_skip ?_
    refine seq_norm (hK21 _ ?_); clear hK21 K21
    refine pwp_seq_block fun K23 hK23 => ?_
    refine pwp_gops rfl fun K24 hK24 => ?_
    refine s_begin ?_
    refine s_step [] (by simp) rfl rfl rfl rfl (e_move (v := .ref _ _ _ _) rfl) trivial ?_
    refine s_step [] (by simp) rfl rfl rfl rfl (e_move (v := .sc _) rfl) trivial ?_
    refine s_step [] (by simp) rfl rfl rfl rfl (e_move (v := .ref _ _ _ _) rfl) trivial ?_
    refine s_step [] (by simp) rfl rfl rfl rfl (e_move (v := .sc _) rfl) trivial ?_
    refine s_step [] (by simp) rfl rfl rfl rfl (e_ixaR0 rfl rfl (by kernel_rfl) (by kernel_rfl) (by omega)) trivial ?_
    refine s_step [10] (by simp) rfl rfl rfl rfl (e_loadI (a := (at0 (stepD (depP (ndX xs) (ordR (ndX xs)) k) (at0 (ordR (ndX xs)) k).toNat (x.needs.take j)) (at0 (ordR (ndX xs)) k).toNat)) rfl hihj19_0 (by kernel_rfl) (by kernel_rfl) (by kernel_rfl) (at0_get (by rw [stepD_len, hdl]; omega))) trivial ?_
    refine s_step [] (by simp) rfl rfl rfl rfl (e_move (v := .ref _ _ _ _) rfl) trivial ?_
    refine s_step [] (by simp) rfl rfl rfl rfl (e_move (v := .lit _ _ _) rfl) trivial ?_
    refine s_step [] (by simp) rfl rfl rfl rfl (e_move (v := .sc _) rfl) trivial ?_
    refine s_step [] (by simp) rfl rfl rfl rfl (e_ixa rfl rfl (by kernel_rfl) (by kernel_rfl) (by first | omega | (simp only [List.length_map]; omega))) trivial ?_
    refine s_step [] (by simp) rfl rfl rfl rfl (e_fa (pl := [(0, 1, false), (1, 1, false), (2, 1, false), (3, 1, false), (4, 1, false), (5, 1, false)]) rfl (by kernel_rfl) (by kernel_rfl) (by decide) rfl) trivial ?_
    refine s_step [] (by simp) rfl rfl rfl rfl (e_load (v := .lit _ _ _) rfl (by kernel_rfl) (by kernel_rfl) (by kernel_rfl) (by first | omega | (simp only [List.length_map]; omega)) (by decide) ((cell_map hx _).trans rfl)) trivial ?_
    refine s_step [] (by simp) rfl rfl rfl rfl (e_move (v := .sc _) rfl) trivial ?_
    refine s_step [] (by simp) rfl rfl rfl rfl (e_ixa rfl rfl (by kernel_rfl) (by kernel_rfl) (by first | omega | (simp only [List.length_map]; omega))) trivial ?_
    refine s_step [] (by simp) rfl rfl rfl rfl (e_load (v := .sc _) rfl (by kernel_rfl) (by kernel_rfl) (by kernel_rfl) (by first | omega | (simp only [List.length_map]; omega)) (by decide) ((cell_map (at0_get (l := x.needs) (i := j) hjn) _).trans rfl)) trivial ?_
    refine s_step [] (by simp) rfl rfl rfl rfl (e_ixaR0 rfl rfl (by kernel_rfl) (by kernel_rfl) (by omega)) trivial ?_
    refine s_step [10] (by simp) rfl rfl rfl rfl (e_loadI (a := (at0 (stepD (depP (ndX xs) (ordR (ndX xs)) k) (at0 (ordR (ndX xs)) k).toNat (x.needs.take j)) (at0 x.needs j).toNat)) rfl hihj19_0 (by kernel_rfl) (by kernel_rfl) (by kernel_rfl) (at0_get (by rw [stepD_len, hdl]; omega))) trivial ?_
    refine s_step [] (by simp) rfl rfl rfl rfl (e_add rfl rfl (by first | omega | (simp only [List.length_map] at *; omega))) trivial ?_
    refine s_step [] (by simp) rfl rfl rfl rfl (e_max rfl rfl) trivial ?_
    refine s_step [] (by simp) rfl rfl rfl rfl (e_ixaR0 rfl rfl (by kernel_rfl) (by kernel_rfl) (by omega)) trivial ?_
    refine s_store [10] (by simp) rfl rfl (e_storeI (zs := (stepD (depP (ndX xs) (ordR (ndX xs)) k) (at0 (ordR (ndX xs)) k).toNat (x.needs.take j))) (a := (max (at0 (stepD (depP (ndX xs) (ordR (ndX xs)) k) (at0 (ordR (ndX xs)) k).toNat (x.needs.take j)) (at0 (ordR (ndX xs)) k).toNat) ((at0 (stepD (depP (ndX xs) (ordR (ndX xs)) k) (at0 (ordR (ndX xs)) k).toNat (x.needs.take j)) (at0 x.needs j).toNat) + (1)))) rfl hihj19_0 rfl (by (rw [stepD_len, hdl]; omega)) (by kernel_rfl) (by kernel_rfl)) trivial ?_
    refine s_end (ds := []) (by kernel_rfl) (by kernel_rfl) (hK24 _ ?_); clear hK24 K24
    refine block_norm ?_
    refine seq_norm (hK23 _ ?_); clear hK23 K23
    refine pwp_plain rfl fun K25 hK25 => ?_
    refine p_step rfl (e_move (v := .sc _) rfl) trivial ?_
    refine p_step rfl (e_add rfl rfl (by first | omega | (simp only [List.length_map] at *; omega))) trivial ?_
    refine p_step rfl (e_assign (v := .sc _) rfl) trivial ?_
    refine p_end (hK25 _ ?_); clear hK25 K25
    exact loop_again (j + 1) (by show _ < _; omega) ⟨rfl, rfl, rfl, rfl, rfl, trivial⟩ ⟨rfl, trivial⟩ (by exact ⟨by show _ + 1 ≤ _; omega, ((hset_self _ _ _).trans (by (rw [stepD_succ hjn]; rfl)))⟩)
   ·have hb22R := hb22; try simp only [z1, z2, z3, z4, z5, z6, ne_eq, z7, z8, z9, z10, z11, z12] at hb22
    have hjx : j = x.needs.length := by simp only [List.length_map] at *; omega
    refine pwp_exit ?_
    refine exit_seq ?_
    clear hK21 K21
    refine exit_loop ?_
    refine exit_here ?_
    refine block_norm ?_
    refine seq_norm (hK13 _ ?_); clear hK13 K13
    refine pwp_plain rfl fun K26 hK26 => ?_
    refine p_step rfl (e_move (v := .sc _) rfl) trivial ?_
    refine p_step rfl (e_add rfl rfl (by first | omega | (simp only [List.length_map] at *; omega))) trivial ?_
    refine p_step rfl (e_assign (v := .sc _) rfl) trivial ?_
    refine p_end (hK26 _ ?_); clear hK26 K26
    exact loop_again (k + 1) (by show _ < _; omega) ⟨rfl, rfl, rfl, trivial⟩ ⟨rfl, trivial⟩ (by exact ⟨by show _ + 1 ≤ _; omega, (hihj19_0.trans (by (rw [depP_succ hkO, ndX_at hx, hjx, List.take_length])))⟩)
  ·have hb12R := hb12; try simp only [z1, z2, z3, z4, z5, z6, ne_eq, z7, z8, z9, z10, z11, z12] at hb12
   have hkx : k = (ordR (ndX xs)).length := by simp only [List.length_map] at *; omega
   refine pwp_exit ?_
   refine exit_seq ?_
   clear hK11 K11
   refine exit_loop ?_
   refine exit_here ?_
   refine seq_norm (hK5 _ ?_); clear hK5 K5
   refine pwp_seq_plain rfl fun K27 hK27 => ?_
   refine p_step rfl (e_move (v := .ref _ _ _ _) rfl) trivial ?_
   refine p_step rfl (e_assign (v := .ref _ _ _ _) rfl) trivial ?_
   refine p_end (hK27 _ ?_); clear hK27 K27
   refine pwp_ret ?_
   refine end1 (v := .ref _ _ _ _) rfl ?_
   subst hkx
   exact out_slice (.ofRef (by assumption) (by show (List.map ci (depX xs)).length = _; rw [List.length_map, depX_len])) rfl (fun _ => rfl) fun a p hp => by simp [ci] at hp; subst hp; exact ⟨.sc _, rfl⟩

theorem ordX_p {xs : List Task} (h : (ordX xs).2 = 0) : planE xs = 0 := by
  by_cases hp : planE xs = 0
  · exact hp
  · rw [ordX, if_pos hp] at h; exact h
theorem lay_e {h : Heap} {xs : List Task} (hp : (ordX xs).2 ≠ 0) : Out h (.tup [.nil, .int (ordX xs).2]) (.tup [.lit false 1 ((layX xs).1.map clf), .int (layX xs).2]) := by
  by_cases hq : planE xs = 0
  · rw [ordX, if_neg (fun q => q hq)] at hp; exact absurd rfl hp
  · rw [layX, if_pos hq, ordX, if_pos hq]; exact out_2 (.nil 1) (out_i rfl)
theorem lay_0 {h : Heap} {xs : List Task} {v : PV} {vs : List PV} {k : Nat} (hp : planE xs = 0) (hk : k = xs.length) (hs : SliceAt h 69 v 1 (vs.map cv)) (hn : NP h 78 1 ci vs (layT (depX xs) k (mxK (depX xs) k))) : Out h (.tup [v, .int 0]) (.tup [.lit false 1 ((layX xs).1.map clf), .int (layX xs).2]) := by
  subst hk
  rw [layX, if_neg (fun q => q hp)]; exact out_2 (out_npS hn hs) (out_i rfl)

theorem fr25 : (inFrame Try.f25.ntmps (Try.f25.body.getD .skip) && Try.f25.results.toList.all (resScope Try.f25.ntmps)) = true := by kernel_rfl
theorem LayersC (xs : List Task) (hl : xs.length ≤ 20) (hq : Fair xs) : PCalls Try.prog 25 [.lit true 6 (xs.map Task.enc)] (.tup [.lit false 1 ((layX xs).1.map clf), .int (layX xs).2]) := by
  refine PCalls.of_code Try.func25 rfl rfl (by kernel_rfl) mixed fr25 (by show _ ≤ 82; simp) (pure_2 (.lit _ _ _ fun row hr => pure_map clf_pure row hr) (.sc _)) ?_
  have hO := ordR_acc (nd := (ndX xs))
  have hol0 := ordR_len hO
  refine pwp_seq_plain rfl fun K1 hK1 => ?_
  refine p_step rfl (e_assign (v := .nil) rfl) trivial ?_
  refine p_step rfl (e_assign (v := .sc _) rfl) trivial ?_
  refine p_end (hK1 _ ?_); clear hK1 K1
  refine pwp_seq_plain rfl fun K2 hK2 => ?_
  refine p_step rfl (e_move (v := .lit _ _ _) rfl) trivial ?_
  refine p_call rfl (.cons inn_lit .nil) (OrderC _ (by omega) hq) ?_
  refine p_step rfl (e_move (v := .tup _) rfl) trivial ?_
  refine p_step rfl (e_ext (v := .lit _ _ _) rfl (by simp) rfl) trivial ?_
  refine p_step rfl (e_ext (v := .sc _) rfl (by simp) rfl) trivial ?_
  refine p_step rfl (e_assign (v := .lit _ _ _) rfl) trivial ?_
  refine p_step rfl (e_assign (v := .sc _) rfl) trivial ?_
  refine p_end (hK2 _ ?_); clear hK2 K2
  refine pwp_seq_seq ?_
  refine pwp_seq_plain rfl fun K3 hK3 => ?_
  refine p_step rfl (e_move (v := .sc _) rfl) trivial ?_
  refine p_step rfl (e_ne rfl rfl) trivial ?_
  refine p_end (hK3 _ ?_); clear hK3 K3
  refine pwp_seq_cond rfl fun K4 hK4 => ⟨fun hb5 => ?_, fun hb5 => ?_⟩
  ·have hb5R := hb5; try simp only [z1, z2, z3, z4, z5, z6, ne_eq, z7, z8, z9, z10, z11, z12] at hb5
   refine pwp_seq_plain rfl fun K6 hK6 => ?_
   refine p_step rfl (e_move (v := .sc _) rfl) trivial ?_
   refine p_step rfl (e_assign (v := .nil) rfl) trivial ?_
   refine p_step rfl (e_assign (v := .sc _) rfl) trivial ?_
   refine p_end (hK6 _ ?_); clear hK6 K6
   refine pwp_ret ?_
   refine ret_seq ?_
   refine end2 (v := .nil) (w := .sc _) rfl rfl ?_
   first
     | exact lay_e (by assumption)
  ·have hb5R := hb5; try simp only [z1, z2, z3, z4, z5, z6, ne_eq, z7, z8, z9, z10, z11, z12] at hb5
   refine pwp_skip ?_
   refine seq_norm (hK4 _ ?_); clear hK4 K4
   have hp : planE xs = 0 := ordX_p (by assumption)
   have hx1 : (ordX xs).1 = (ordR (ndX xs)) := by rw [ordX, if_neg (fun q => q hp)]
   rw [hx1]
   refine pwp_seq_plain rfl fun K7 hK7 => ?_
   refine p_step rfl (e_move (v := .lit _ _ _) rfl) trivial ?_
   refine p_step rfl (e_len rfl (by kernel_rfl)) trivial ?_
   refine p_new rfl (e_mkI (n := xs.length) rfl rfl (by rw [List.length_map]) (by kernel_rfl) (by kernel_rfl) (by kernel_rfl) (by decide +kernel) (by omega)) trivial ?_
   rw [show List.replicate xs.length (0 : Int) = depP (ndX xs) (ordR (ndX xs)) 0 by rw [depP_0, ndX_len]]
   refine p_step rfl (e_assign (v := .ref _ _ _ _) rfl) trivial ?_
   refine p_end (hK7 _ ?_); clear hK7 K7
   refine pwp_seq_plain rfl fun K8 hK8 => ?_
   refine p_step rfl (e_assign (v := .nil) rfl) trivial ?_
   refine p_end (hK8 _ ?_); clear hK8 K8
   refine pwp_seq_seq ?_
   refine pwp_seq_plain rfl fun K9 hK9 => ?_
   refine p_step rfl (e_move (v := .lit _ _ _) rfl) trivial ?_
   refine p_step rfl (e_len rfl (by kernel_rfl)) trivial ?_
   refine p_step rfl (e_move (v := .sc _) rfl) trivial ?_
   refine p_end (hK9 _ ?_); clear hK9 K9
   refine pwp_seq_block fun K10 hK10 => ?_
   refine pwp_loopR (α := Nat) [0, 6, 7, 25, 26] (fun (k : Nat) => [(27, .int (k))]) (fun (k : Nat) (h : Heap) (_ : Nat → Nat) => ((k) ≤ (ordR (ndX xs)).length) ∧ (h (24, 0) = some (.rows 1 ((depP (ndX xs) (ordR (ndX xs)) (k)).map ci)))) (fun (k : Nat) => (ordR (ndX xs)).length - (k)) (0) (by exact ⟨rfl, trivial⟩) (by exact ⟨by exact Nat.zero_le _, (hset_self _ _ _)⟩) fun k r11 h12 c13 hj14 => ?_
   obtain ⟨hk, hihj14_0⟩ := hj14
   try dsimp only at hk
   try dsimp only at hihj14_0
   show pwp _ _ (loopQ _ _ _) ⟨sets (mix _ _ _) [(27, .int k)], _, _⟩
   refine pwp_seq_plain rfl fun K15 hK15 => ?_
   refine p_step rfl (e_lt rfl rfl) trivial ?_
   refine p_end (hK15 _ ?_); clear hK15 K15
   refine pwp_seq_cond rfl fun K16 hK16 => ⟨fun hb17 => ?_, fun hb17 => ?_⟩
   ·have hb17R := hb17; try simp only [z1, z2, z3, z4, z5, z6, ne_eq, z7, z8, z9, z10, z11, z12] at hb17
    have hkO : k < (ordR (ndX xs)).length := by simp only [List.length_map] at *; omega
    obtain ⟨hr0, hr1⟩ := AccOK.rng hO _ (at0_mem hkO)
    rw [ndX_len] at hr1
    obtain ⟨x, hx, _, _⟩ := get_lt (xs := xs) (i := (at0 (ordR (ndX xs)) k).toNat) (by omega)
    have hxr := (task_ok hp hx).2.2.2.1
    have hxl := (hq x (List.mem_of_getElem? hx)).1
    have hdl := depP_len (nd := (ndX xs)) (O := (ordR (ndX xs))) (k := k) (by omega)
    rw [ndX_len] at hdl
    have hdb := depP_b (nd := (ndX xs)) (O := (ordR (ndX xs))) (nd_len fun x hx => (hq x hx).1) (k := k) (by omega)
    refine pwp_skip ?_
    refine seq_norm (hK16 _ ?_); clear hK16 K16
    refine pwp_seq_block fun K18 hK18 => ?_
    refine pwp_seq_plain rfl fun K19 hK19 => ?_
    refine p_step rfl (e_ixa rfl rfl (by kernel_rfl) (by kernel_rfl) (by first | omega | (simp only [List.length_map]; omega))) trivial ?_
    refine p_step rfl (e_load (v := .sc _) rfl (by kernel_rfl) (by kernel_rfl) (by kernel_rfl) (by first | omega | (simp only [List.length_map]; omega)) (by decide) ((cell_map (at0_get (l := (ordR (ndX xs))) (i := k) hkO) _).trans rfl)) trivial ?_
    refine p_step rfl (e_assign (v := .sc _) rfl) trivial ?_
    refine p_end (hK19 _ ?_); clear hK19 K19
    refine pwp_seq_plain rfl fun K20 hK20 => ?_
    refine p_step rfl (e_move (v := .lit _ _ _) rfl) trivial ?_
    refine p_step rfl (e_move (v := .sc _) rfl) trivial ?_
    refine p_step rfl (e_ixa rfl rfl (by kernel_rfl) (by kernel_rfl) (by first | omega | (simp only [List.length_map]; omega))) trivial ?_
    refine p_step rfl (e_fa (pl := [(0, 1, false), (1, 1, false), (2, 1, false), (3, 1, false), (4, 1, false), (5, 1, false)]) rfl (by kernel_rfl) (by kernel_rfl) (by decide) rfl) trivial ?_
    refine p_step rfl (e_load (v := .lit _ _ _) rfl (by kernel_rfl) (by kernel_rfl) (by kernel_rfl) (by first | omega | (simp only [List.length_map]; omega)) (by decide) ((cell_map hx _).trans rfl)) trivial ?_
    refine p_step rfl (e_len rfl (by kernel_rfl)) trivial ?_
    refine p_step rfl (e_move (v := .sc _) rfl) trivial ?_
    refine p_end (hK20 _ ?_); clear hK20 K20
    refine pwp_block ?_
    refine pwp_loopR (α := Nat) [0, 6, 7, 9, 25, 26, 27, 35, 36] (fun (j : Nat) => [(37, .int (j))]) (fun (j : Nat) (h : Heap) (_ : Nat → Nat) => ((j) ≤ x.needs.length) ∧ (h (24, 0) = some (.rows 1 ((stepD (depP (ndX xs) (ordR (ndX xs)) k) (at0 (ordR (ndX xs)) k).toNat (x.needs.take (j))).map ci)))) (fun (j : Nat) => x.needs.length - (j)) (0) (by exact ⟨rfl, trivial⟩) (by exact ⟨by exact Nat.zero_le _, hihj14_0⟩) fun j r21 h22 c23 hj24 => ?_
    obtain ⟨hj, hihj24_0⟩ := hj24
    try dsimp only at hj
    try dsimp only at hihj24_0
    show pwp _ _ (loopQ _ _ _) ⟨sets (mix _ _ _) [(37, .int j)], _, _⟩
    refine pwp_seq_plain rfl fun K25 hK25 => ?_
    refine p_step rfl (e_lt rfl rfl) trivial ?_
    refine p_end (hK25 _ ?_); clear hK25 K25
    refine pwp_seq_cond rfl fun K26 hK26 => ⟨fun hb27 => ?_, fun hb27 => ?_⟩
    ·have hb27R := hb27; try simp only [z1, z2, z3, z4, z5, z6, ne_eq, z7, z8, z9, z10, z11, z12] at hb27
     have hjn : j < x.needs.length := by simp only [List.length_map] at *; omega
     obtain ⟨hz0, hz1⟩ := hxr _ (at0_mem hjn)
     have hsb := hdb.stepD (x := (at0 (ordR (ndX xs)) k).toNat) (l := x.needs.take j)
     have hs1 := hsb (at0 (ordR (ndX xs)) k).toNat; have hs2 := hsb (at0 x.needs j).toNat
     have htl : (x.needs.take j).length = j := by rw [List.length_take]; omega
     have hol := ordR_len hO
     refine pwp_skip ?_
     refine seq_norm (hK26 _ ?_); clear hK26 K26
     refine pwp_seq_block fun K28 hK28 => ?_
     refine pwp_seq_plain rfl fun K29 hK29 => ?_
     refine p_step rfl (e_ixa rfl rfl (by kernel_rfl) (by kernel_rfl) (by first | omega | (simp only [List.length_map]; omega))) trivial ?_
     refine p_step rfl (e_load (v := .sc _) rfl (by kernel_rfl) (by kernel_rfl) (by kernel_rfl) (by first | omega | (simp only [List.length_map]; omega)) (by decide) ((cell_map (at0_get (l := x.needs) (i := j) hjn) _).trans rfl)) trivial ?_
     refine p_step rfl (e_assign (v := .sc _) rfl) trivial ?_
     refine p_end (hK29 _ ?_); clear hK29 K29
     refine pwp_gops rfl fun K30 hK30 => ?_
     refine s_begin ?_
     refine s_step [] (by simp) rfl rfl rfl rfl (e_move (v := .ref _ _ _ _) rfl) trivial ?_
     refine s_step [] (by simp) rfl rfl rfl rfl (e_move (v := .sc _) rfl) trivial ?_
     refine s_step [] (by simp) rfl rfl rfl rfl (e_move (v := .ref _ _ _ _) rfl) trivial ?_
     refine s_step [] (by simp) rfl rfl rfl rfl (e_move (v := .sc _) rfl) trivial ?_
     refine s_step [] (by simp) rfl rfl rfl rfl (e_ixaR0 rfl rfl (by kernel_rfl) (by kernel_rfl) (by omega)) trivial ?_
     refine s_step [24] (by simp) rfl rfl rfl rfl (e_loadI (a := (at0 (stepD (depP (ndX xs) (ordR (ndX xs)) k) (at0 (ordR (ndX xs)) k).toNat (x.needs.take j)) (at0 (ordR (ndX xs)) k).toNat)) rfl hihj24_0 (by kernel_rfl) (by kernel_rfl) (by kernel_rfl) (at0_get (by rw [stepD_len, hdl]; omega))) trivial ?_
     refine s_step [] (by simp) rfl rfl rfl rfl (e_move (v := .ref _ _ _ _) rfl) trivial ?_
     refine s_step [] (by simp) rfl rfl rfl rfl (e_move (v := .sc _) rfl) trivial ?_
     refine s_step [] (by simp) rfl rfl rfl rfl (e_ixaR0 rfl rfl (by kernel_rfl) (by kernel_rfl) (by omega)) trivial ?_
     refine s_step [24] (by simp) rfl rfl rfl rfl (e_loadI (a := (at0 (stepD (depP (ndX xs) (ordR (ndX xs)) k) (at0 (ordR (ndX xs)) k).toNat (x.needs.take j)) (at0 x.needs j).toNat)) rfl hihj24_0 (by kernel_rfl) (by kernel_rfl) (by kernel_rfl) (at0_get (by rw [stepD_len, hdl]; omega))) trivial ?_
     refine s_step [] (by simp) rfl rfl rfl rfl (e_add rfl rfl (by first | omega | (simp only [List.length_map] at *; omega))) trivial ?_
     refine s_step [] (by simp) rfl rfl rfl rfl (e_max rfl rfl) trivial ?_
     refine s_step [] (by simp) rfl rfl rfl rfl (e_ixaR0 rfl rfl (by kernel_rfl) (by kernel_rfl) (by omega)) trivial ?_
     refine s_store [24] (by simp) rfl rfl (e_storeI (zs := (stepD (depP (ndX xs) (ordR (ndX xs)) k) (at0 (ordR (ndX xs)) k).toNat (x.needs.take j))) (a := (max (at0 (stepD (depP (ndX xs) (ordR (ndX xs)) k) (at0 (ordR (ndX xs)) k).toNat (x.needs.take j)) (at0 (ordR (ndX xs)) k).toNat) ((at0 (stepD (depP (ndX xs) (ordR (ndX xs)) k) (at0 (ordR (ndX xs)) k).toNat (x.needs.take j)) (at0 x.needs j).toNat) + (1)))) rfl hihj24_0 rfl (by (rw [stepD_len, hdl]; omega)) (by kernel_rfl) (by kernel_rfl)) trivial ?_
     refine s_end (ds := []) (by kernel_rfl) (by kernel_rfl) (hK30 _ ?_); clear hK30 K30
     refine block_norm ?_
     refine seq_norm (hK28 _ ?_); clear hK28 K28
     refine pwp_plain rfl fun K31 hK31 => ?_
     refine p_step rfl (e_add rfl rfl (by first | omega | (simp only [List.length_map] at *; omega))) trivial ?_
     refine p_step rfl (e_move (v := .sc _) rfl) trivial ?_
     refine p_end (hK31 _ ?_); clear hK31 K31
     exact loop_again (j + 1) (by show _ < _; omega) ⟨rfl, rfl, rfl, rfl, rfl, rfl, rfl, rfl, rfl, trivial⟩ ⟨rfl, trivial⟩ (by exact ⟨by show _ + 1 ≤ _; omega, ((hset_self _ _ _).trans (by (rw [stepD_succ hjn]; rfl)))⟩)
    ·have hb27R := hb27; try simp only [z1, z2, z3, z4, z5, z6, ne_eq, z7, z8, z9, z10, z11, z12] at hb27
     have hjx : j = x.needs.length := by simp only [List.length_map] at *; omega
     refine pwp_exit ?_
     refine exit_seq ?_
     clear hK26 K26
     refine exit_loop ?_
     refine exit_here ?_
     refine block_norm ?_
     refine seq_norm (hK18 _ ?_); clear hK18 K18
     refine pwp_plain rfl fun K32 hK32 => ?_
     refine p_step rfl (e_add rfl rfl (by first | omega | (simp only [List.length_map] at *; omega))) trivial ?_
     refine p_step rfl (e_move (v := .sc _) rfl) trivial ?_
     refine p_end (hK32 _ ?_); clear hK32 K32
     exact loop_again (k + 1) (by show _ < _; omega) ⟨rfl, rfl, rfl, rfl, rfl, trivial⟩ ⟨rfl, trivial⟩ (by exact ⟨by show _ + 1 ≤ _; omega, (hihj24_0.trans (by (rw [depP_succ hkO, ndX_at hx, hjx, List.take_length])))⟩)
   ·have hb17R := hb17; try simp only [z1, z2, z3, z4, z5, z6, ne_eq, z7, z8, z9, z10, z11, z12] at hb17
    have hkx : k = (ordR (ndX xs)).length := by simp only [List.length_map] at *; omega
    refine pwp_exit ?_
    refine exit_seq ?_
    clear hK16 K16
    refine exit_loop ?_
    refine exit_here ?_
    refine seq_norm (hK10 _ ?_); clear hK10 K10
    refine pwp_seq_seq ?_
    subst hkx
    have hnn := dep_nn hq
    have hdX := depX_len (xs := xs)
    have hdbX : ∀ i, at0 (depX xs) i ≤ ((20000 : Nat) : Int) := fun i => by have := (depP_b (nd := (ndX xs)) (O := (ordR (ndX xs))) (nd_len fun x hx => (hq x hx).1) (Nat.le_refl _)) i; have e : at0 (depX xs) i = at0 (depP (ndX xs) (ordR (ndX xs)) (ordR (ndX xs)).length) i := rfl; omega
    refine pwp_seq_plain rfl fun K33 hK33 => ?_
    refine p_step rfl (e_move (v := .ref _ _ _ _) rfl) trivial ?_
    refine p_step rfl (e_lenR rfl (by kernel_rfl)) trivial ?_
    refine p_step rfl (e_move (v := .sc _) rfl) trivial ?_
    refine p_end (hK33 _ ?_); clear hK33 K33
    refine pwp_seq_block fun K34 hK34 => ?_
    refine pwp_loopR (α := Nat × PV × (List PV)) [56, 57] (fun (a35 : Nat × PV × (List PV)) => [(7, (a35.2.1)), (58, .int (a35.1))]) (fun (a35 : Nat × PV × (List PV)) (h : Heap) (_ : Nat → Nat) => ((a35.1) ≤ xs.length) ∧ (NP h 78 1 ci (a35.2.2) (layT (depX xs) (a35.1) (mxK (depX xs) (a35.1)))) ∧ ((a35.2.2).length = mxK (depX xs) (a35.1)) ∧ (SliceAt h 69 (a35.2.1) 1 (((a35.2.2).map cv))) ∧ (h (24, 0) = some (.rows 1 ((depX xs).map ci)))) (fun (a35 : Nat × PV × (List PV)) => xs.length - (a35.1)) (0, .nil, []) (by exact ⟨rfl, rfl, trivial⟩) (by exact ⟨by exact Nat.zero_le _, by exact NP.nils 0, by exact rfl, .nil, hihj14_0⟩) fun a35 r36 h37 c38 hj39 => ?_
    obtain ⟨k, v, vs⟩ := a35
    obtain ⟨hk, hnp, hvl, hihj39_0, hihj39_1⟩ := hj39
    try dsimp only at hk
    try dsimp only at hnp
    try dsimp only at hvl
    try dsimp only at hihj39_0
    try dsimp only at hihj39_1
    show pwp _ _ (loopQ _ _ _) ⟨sets (mix _ _ _) [(7, v), (58, .int k)], _, _⟩
    refine pwp_seq_plain rfl fun K40 hK40 => ?_
    refine p_step rfl (e_lt rfl rfl) trivial ?_
    refine p_end (hK40 _ ?_); clear hK40 K40
    refine pwp_seq_cond rfl fun K41 hK41 => ⟨fun hb42 => ?_, fun hb42 => ?_⟩
    ·have hb42R := hb42; try simp only [z1, z2, z3, z4, z5, z6, ne_eq, z7, z8, z9, z10, z11, z12] at hb42
     have hkl : k < xs.length := by rw [← hdX]; simp only [List.length_map] at *; omega
     have hnk := hnn k; have hbk := hdbX k
     have hmx := mxK_le hdbX k
     refine pwp_skip ?_
     refine seq_norm (hK41 _ ?_); clear hK41 K41
     refine pwp_seq_block fun K43 hK43 => ?_
     refine pwp_seq_plain rfl fun K44 hK44 => ?_
     refine p_step rfl (e_move (v := .sc _) rfl) trivial ?_
     refine p_step rfl (e_ixaR0 rfl rfl (by kernel_rfl) (by kernel_rfl) (by omega)) trivial ?_
     refine p_step rfl (e_loadI (a := (at0 (depX xs) k)) rfl hihj39_1 (by kernel_rfl) (by kernel_rfl) (by kernel_rfl) (at0_get (by rw [hdX]; omega))) trivial ?_
     refine p_step rfl (e_assign (v := .sc _) rfl) trivial ?_
     refine p_step rfl (e_assign (v := .sc _) rfl) trivial ?_
     refine p_end (hK44 _ ?_); clear hK44 K44
     refine pwp_seq_block fun K45 hK45 => ?_
     refine pwp_loopR (α := PV × (List PV)) [12, 13, 56, 57, 58] (fun (a46 : PV × (List PV)) => [(7, (a46.1))]) (fun (a46 : PV × (List PV)) (h : Heap) (_ : Nat → Nat) => (mxK (depX xs) k ≤ (a46.2).length ∧ (a46.2).length ≤ mxK (depX xs) (k + 1)) ∧ (NP h 78 1 ci (a46.2) (layT (depX xs) k (a46.2).length)) ∧ (SliceAt h 69 (a46.1) 1 (((a46.2).map cv))) ∧ (h (24, 0) = some (.rows 1 ((depX xs).map ci)))) (fun (a46 : PV × (List PV)) => (at0 (depX xs) k).toNat + 1 - (a46.2).length) (v, vs) (by exact ⟨rfl, trivial⟩) (by exact ⟨by (show mxK (depX xs) k ≤ vs.length ∧ vs.length ≤ mxK (depX xs) (k + 1); rw [mxK_succ]; omega), by (show NP _ 78 1 ci vs (layT (depX xs) k vs.length); rw [hvl]; exact hnp), hihj39_0, hihj39_1⟩) fun a46 r47 h48 c49 hj50 => ?_
     obtain ⟨v, vs⟩ := a46
     obtain ⟨hvm, hnp, hihj50_0, hihj50_1⟩ := hj50
     try dsimp only at hvm
     try dsimp only at hnp
     try dsimp only at hihj50_0
     try dsimp only at hihj50_1
     show pwp _ _ (loopQ _ _ _) ⟨sets (mix _ _ _) [(7, v)], _, _⟩
     refine pwp_seq_seq ?_
     refine pwp_seq_plain rfl fun K51 hK51 => ?_
     refine p_step rfl (e_move (v := _) rfl) trivial ?_
     refine p_step rfl (SliceAt.len hihj50_0 rfl (by kernel_rfl)) trivial ?_
     refine p_step rfl (e_move (v := .sc _) rfl) trivial ?_
     refine p_step rfl (e_le rfl rfl) trivial ?_
     refine p_end (hK51 _ ?_); clear hK51 K51
     refine pwp_seq_cond rfl fun K52 hK52 => ⟨fun hb53 => ?_, fun hb53 => ?_⟩
     ·have hb53R := hb53; try simp only [z1, z2, z3, z4, z5, z6, ne_eq, z7, z8, z9, z10, z11, z12] at hb53
      have hvle : vs.length ≤ (at0 (depX xs) k).toNat := by simp only [List.length_map] at *; omega
      refine pwp_skip ?_
      refine seq_norm (hK52 _ ?_); clear hK52 K52
      refine pwp_block ?_
      refine pwp_plain rfl fun K54 hK54 => ?_
      refine p_step rfl (e_move (v := v) rfl) trivial ?_
      refine p_new rfl (e_bslice (rows := [cv .nil]) (zs := [.nil]) (sz := 1) (by kernel_rfl) (by kernel_rfl) rfl (by kernel_rfl) (by decide) rfl rfl (by exact ⟨by decide, rfl, rfl, trivial⟩) rfl) trivial ?_
      refine p_app (d1 := 69) rfl rfl rfl (hihj50_0.keep fun g => hset_ne (key_ne rfl)) (src_ref (hset_self _ _ _) rfl) (by kernel_rfl) (by simp only [List.length_map, List.length_cons, List.length_nil]; omega) fun v2 h2 c2 hs2 hf2 => ?_
      replace hs2 := hs2.to (show _ = (vs ++ [PV.nil]).map cv by rw [List.map_append]; rfl)
      have hnp2 := (NP.snocNil hnp).keep fun g => (hf2 (78, g) (key_ne rfl) (fun _ _ => key_ne rfl)).trans (hset_ne (key_ne rfl))
      have ho2 := (hf2 (24, 0) (key_ne rfl) (fun _ _ => key_ne rfl)).trans ((hset_ne (key_ne rfl)).trans hihj50_1)
      refine p_step rfl (e_assign (v := v2) rfl) trivial ?_
      refine p_end (hK54 _ ?_); clear hK54 K54
      refine block_norm ?_
      exact loop_again ((v2, vs ++ [.nil])) (by show _ < _; simp only [List.length_append, List.length_cons, List.length_nil]; omega) ⟨rfl, rfl, rfl, rfl, rfl, trivial⟩ ⟨rfl, trivial⟩ (by exact ⟨by (show mxK (depX xs) k ≤ (vs ++ [PV.nil]).length ∧ (vs ++ [PV.nil]).length ≤ mxK (depX xs) (k + 1); rw [mxK_succ] at *; rw [List.length_append, List.length_singleton]; omega), by (show NP _ 78 1 ci _ _; rw [List.length_append, show vs.length + [PV.nil].length = vs.length + 1 from rfl, ← layT_snoc hvm.1 hnn]; exact hnp2), (SliceAt.to hs2 (by rfl)), ho2⟩)
     ·have hb53R := hb53; try simp only [z1, z2, z3, z4, z5, z6, ne_eq, z7, z8, z9, z10, z11, z12] at hb53
      have hvgt : (at0 (depX xs) k).toNat < vs.length := by simp only [List.length_map] at *; omega
      have hvl2 : vs.length = mxK (depX xs) (k + 1) := by rw [mxK_succ] at *; omega
      refine pwp_exit ?_
      refine exit_seq ?_
      clear hK52 K52
      refine exit_loop ?_
      refine exit_here ?_
      refine seq_norm (hK45 _ ?_); clear hK45 K45
      obtain ⟨g, rfl, hg⟩ := SliceAt.isRef hihj50_0 (by intro q; have q2 := congrArg List.length q; simp only [List.length_map, List.length_nil] at q2; omega)
      obtain ⟨e, he⟩ : ∃ e : Nat, (at0 (depX xs) k) = (e : Int) := ⟨(at0 (depX xs) k).toNat, by omega⟩
      rw [he] at hvgt; rw [Int.toNat_natCast] at hvgt
      obtain ⟨u, hu⟩ : ∃ u, vs[e]? = some u := ⟨_, List.getElem?_eq_getElem hvgt⟩
      refine pwp_plainK rfl fun hkn K55 hK55 => ?_
      have hfs := hkn.fresh 78
      have hrl := rowP_le (d := depX xs) (e := e) (k := k)
      refine p_step rfl (e_move (v := .ref _ _ _ _) rfl) trivial ?_
      refine p_step rfl (e_move (v := .sc _) rfl) trivial ?_
      refine p_step rfl (e_move (v := .ref _ _ _ _) rfl) trivial ?_
      refine p_step rfl (e_move (v := .sc _) rfl) trivial ?_
      rw [he]
      refine p_step rfl (e_ixaR0 (i := (e : Int)) rfl rfl (by kernel_rfl) (by kernel_rfl) (by simp only [List.length_map]; omega)) trivial ?_
      refine p_step rfl (e_loadV (v := u) rfl hg (by kernel_rfl) (by kernel_rfl) (by kernel_rfl) hu) trivial ?_
      refine p_step rfl (e_move (v := .sc _) rfl) trivial ?_
      refine p_new rfl (e_bslice (rows := [ci (k : Int)]) (zs := [.int 0]) (sz := 1) (by kernel_rfl) (by kernel_rfl) rfl (by kernel_rfl) (by decide) rfl rfl (by exact ⟨by decide, rfl, rfl, trivial⟩) rfl) trivial ?_
      have hul := hnp.get hu (layT_get hvgt)
      refine p_appK (u := u) (sz := 1) (d1 := 78) (rows := (rowP (depX xs) e k).map ci) (rows2 := [ci (k : Int)]) rfl rfl rfl (hul.keep fun g => hset_ne (key_ne rfl)) (src_ref (hset_self _ _ _) rfl) (by kernel_rfl) (by simp only [List.length_map, List.length_cons, List.length_nil]; omega) (by simp) fun h1 hr1 hf1 => ?_
      have hg1 := (hf1 (69, _) (key_ne rfl) (fun _ _ => key_ne rfl)).trans ((hset_ne (key_ne rfl)).trans hg)
      have ho1 := (hf1 (24, 0) (key_ne rfl) (fun _ _ => key_ne rfl)).trans ((hset_ne (key_ne rfl)).trans hihj50_1)
      refine p_step rfl (e_ixaR0 (i := (e : Int)) rfl rfl (by kernel_rfl) (by kernel_rfl) (by simp only [List.length_map]; omega)) trivial ?_
      refine p_store rfl (e_storeV rfl hg1 rfl rfl rfl hvgt (by kernel_rfl) (by kernel_rfl)) trivial ?_
      have hnp2 := (hnp.keep (fun g => hset_ne (key_ne rfl))).app (Fresh.keep (d := 78) hfs (fun g => hset_ne (key_ne rfl)) rfl) (l' := rowP (depX xs) e k ++ [(k : Int)]) (v' := .ref (78, _) 1 0 (((rowP (depX xs) e k).map ci).length + [ci (k : Int)].length)) hu (layT_get hvgt) (congrArg (PV.ref _ 1 0) (by simp only [List.length_map, List.length_append, List.length_cons, List.length_nil])) (hr1.trans (by rw [List.map_append]; rfl)) (fun k' q1 q2 => hf1 k' q1 (fun g e => q2 g (by rw [e, List.length_map])))
      rw [layT_set he hvgt, hvl2] at hnp2
      refine p_end (hK55 _ ?_); clear hK55 K55
      refine block_norm ?_
      refine seq_norm (hK43 _ ?_); clear hK43 K43
      refine pwp_plain rfl fun K56 hK56 => ?_
      refine p_step rfl (e_add rfl rfl (by first | omega | (simp only [List.length_map] at *; omega))) trivial ?_
      refine p_step rfl (e_move (v := .sc _) rfl) trivial ?_
      refine p_end (hK56 _ ?_); clear hK56 K56
      exact loop_again ((k + 1, _, _)) (by show _ < _; simp only; omega) ⟨rfl, rfl, trivial⟩ ⟨rfl, rfl, trivial⟩ (by exact ⟨by show _ + 1 ≤ _; omega, by (show NP _ 78 1 ci _ _; refine hnp2.keep ?_; intro g; exact hset_ne (key_ne rfl)), by exact (List.length_set ..).trans hvl2, (SliceAt.to (.inr ⟨g, by simp only [List.length_map, List.length_set], hset_self _ _ _⟩) (by rfl)), ((hset_ne (key_ne rfl)).trans ho1)⟩)
    ·have hb42R := hb42; try simp only [z1, z2, z3, z4, z5, z6, ne_eq, z7, z8, z9, z10, z11, z12] at hb42
     have hkn : k = xs.length := by rw [← hdX] at hk ⊢; simp only [List.length_map] at *; omega
     refine pwp_exit ?_
     refine exit_seq ?_
     clear hK41 K41
     refine exit_loop ?_
     refine exit_here ?_
     refine seq_norm (hK34 _ ?_); clear hK34 K34
     refine pwp_seq_plain rfl fun K57 hK57 => ?_
     refine p_step rfl (e_move (v := _) rfl) trivial ?_
     refine p_step rfl (e_assign (v := _) rfl) trivial ?_
     refine p_step rfl (e_assign (v := .sc _) rfl) trivial ?_
     refine p_end (hK57 _ ?_); clear hK57 K57
     refine pwp_ret ?_
     refine end2 (v := _) (w := .sc _) rfl rfl ?_
     first
       | exact lay_e (by assumption)
       | exact lay_0 hp hkn hihj39_0 hnp

end Go.Proofs.Ytjmjiegplnfiiaa

/- Plans: orders, the reverse, the layers. No conditions. -/
set_option linter.unusedSimpArgs false
set_option linter.unusedVariables false
set_option maxRecDepth 100000
namespace Go.Proofs.Ytjmjiegplnfiiaa
open Go Go.Pv
theorem lay_stop {xs : List Task} (hp : planE xs = 0) (hq : Fair xs) {e : Nat} (he : e ≤ mxK (depX xs) xs.length) (h : rowP (depX xs) e xs.length = []) : e = mxK (depX xs) xs.length := by
  rcases Nat.lt_or_ge e (mxK (depX xs) xs.length) with q | q
  · exact absurd h (row_some hp hq q)
  · omega
theorem NP.front {α : Type} {h : Heap} {d sz : Nat} {f : α → List PV} {vs : List PV} {ls : List (List α)} {w : PV} {l : List α} (hn : NP h d sz f (vs ++ [w]) (ls ++ [l])) : NP h d sz f vs ls := by
  have h1 := hn.len
  simp only [List.length_append, List.length_cons, List.length_nil] at h1
  have hg : ∀ (i : Nat) (v : PV), vs[i]? = some v → (vs ++ [w])[i]? = some v := fun i v hi => by
    rw [List.getElem?_append_left (List.getElem?_eq_some_iff.1 hi).1]; exact hi
  refine ⟨by omega, fun i v l' h2 h3 => hn.at_ i v l' (hg i v h2) (by rw [List.getElem?_append_left (List.getElem?_eq_some_iff.1 h3).1]; exact h3), fun i j v h2 h3 => hn.one i j v (hg i v h2) (hg j v h3)⟩

theorem fr31 : (inFrame Try.f31.ntmps (Try.f31.body.getD .skip) && Try.f31.results.toList.all (resScope Try.f31.ntmps)) = true := by kernel_rfl
theorem refLayersC (xs : List Task) (hl : xs.length ≤ 20) (hq : Fair xs) (hp : planE xs = 0) : PCalls Try.prog 31 [.lit true 6 (xs.map Task.enc)] (.lit false 1 ((layT (depX xs) xs.length (mxK (depX xs) xs.length)).map clf)) := by
  refine PCalls.of_code Try.func31 rfl rfl (by kernel_rfl) mixed fr31 (by show _ ≤ 36; simp) (.lit _ _ _ fun row hr => pure_map clf_pure row hr) ?_
  have hdX := depX_len (xs := xs)
  refine pwp_seq_plain rfl fun K1 hK1 => ?_
  refine p_step rfl (e_assign (v := .nil) rfl) trivial ?_
  refine p_end (hK1 _ ?_); clear hK1 K1
  refine pwp_seq_plain rfl fun K2 hK2 => ?_
  refine p_step rfl (e_move (v := .lit _ _ _) rfl) trivial ?_
  refine p_call rfl (.cons inn_lit .nil) (depthsC _ hl hq hp) ?_
  refine p_step rfl (e_assign (v := .lit _ _ _) rfl) trivial ?_
  refine p_end (hK2 _ ?_); clear hK2 K2
  refine pwp_seq_plain rfl fun K3 hK3 => ?_
  refine p_step rfl (e_assign (v := .nil) rfl) trivial ?_
  refine p_end (hK3 _ ?_); clear hK3 K3
  refine pwp_seq_plain rfl fun K4 hK4 => ?_
  refine p_step rfl (e_assign (v := .sc _) rfl) trivial ?_
  refine p_end (hK4 _ ?_); clear hK4 K4
  refine pwp_block ?_
  refine pwp_loopR (α := Nat × PV × (List PV)) [0, 3] (fun (a5 : Nat × PV × (List PV)) => [(4, (a5.2.1)), (5, .int (a5.1))]) (fun (a5 : Nat × PV × (List PV)) (h : Heap) (_ : Nat → Nat) => ((a5.1) ≤ mxK (depX xs) xs.length) ∧ (NP h 27 1 ci (a5.2.2) (layT (depX xs) xs.length (a5.1))) ∧ (SliceAt h 35 (a5.2.1) 1 (((a5.2.2).map cv)))) (fun (a5 : Nat × PV × (List PV)) => mxK (depX xs) xs.length - (a5.1)) (0, .nil, []) (by exact ⟨rfl, rfl, trivial⟩) (by exact ⟨by exact Nat.zero_le _, by exact NP.nils 0, .nil⟩) fun a5 r6 h7 c8 hj9 => ?_
  obtain ⟨e, v, vs⟩ := a5
  obtain ⟨hem, hnp, hihj9_0⟩ := hj9
  try dsimp only at hem
  try dsimp only at hnp
  try dsimp only at hihj9_0
  show pwp _ _ (loopQ _ _ _) ⟨sets (mix _ _ _) [(4, v), (5, .int e)], _, _⟩
  refine pwp_seq_block fun K10 hK10 => ?_
  refine pwp_seq_plain rfl fun K11 hK11 => ?_
  refine p_step rfl (e_assign (v := .nil) rfl) trivial ?_
  refine p_end (hK11 _ ?_); clear hK11 K11
  refine pwp_seq_seq ?_
  refine pwp_seq_plain rfl fun K12 hK12 => ?_
  refine p_step rfl (e_assign (v := .sc _) rfl) trivial ?_
  refine p_end (hK12 _ ?_); clear hK12 K12
  refine pwp_seq_block fun K13 hK13 => ?_
  refine pwp_loopR (α := Nat × PV) [0, 3, 4, 5] (fun (a14 : Nat × PV) => [(6, (a14.2)), (7, .int (a14.1))]) (fun (a14 : Nat × PV) (h : Heap) (_ : Nat → Nat) => ((a14.1) ≤ xs.length) ∧ (NP h 27 1 ci (vs ++ [(a14.2)]) (layT (depX xs) xs.length e ++ [rowP (depX xs) e (a14.1)])) ∧ (SliceAt h 35 v 1 ((vs.map cv)))) (fun (a14 : Nat × PV) => xs.length - (a14.1)) (0, .nil) (by exact ⟨rfl, rfl, trivial⟩) (by exact ⟨by exact Nat.zero_le _, by exact (NP.snocNil hnp).keep fun g => rfl, hihj9_0⟩) fun a14 r15 h16 c17 hj18 => ?_
  obtain ⟨k, w⟩ := a14
  obtain ⟨hk, hnp, hihj18_0⟩ := hj18
  try dsimp only at hk
  try dsimp only at hnp
  try dsimp only at hihj18_0
  show pwp _ _ (loopQ _ _ _) ⟨sets (mix _ _ _) [(6, w), (7, .int k)], _, _⟩
  refine pwp_seq_seq ?_
  refine pwp_seq_plain rfl fun K19 hK19 => ?_
  refine p_step rfl (e_move (v := .sc _) rfl) trivial ?_
  refine p_step rfl (e_move (v := .lit _ _ _) rfl) trivial ?_
  refine p_step rfl (e_len rfl (by kernel_rfl)) trivial ?_
  refine p_step rfl (e_lt rfl rfl) trivial ?_
  refine p_end (hK19 _ ?_); clear hK19 K19
  refine pwp_seq_cond rfl fun K20 hK20 => ⟨fun hb21 => ?_, fun hb21 => ?_⟩
  ·have hb21R := hb21; try simp only [z1, z2, z3, z4, z5, z6, ne_eq, z7, z8, z9, z10, z11, z12] at hb21
   have hkl : k < xs.length := by simp only [List.length_map] at *; omega
   refine pwp_skip ?_
   refine seq_norm (hK20 _ ?_); clear hK20 K20
   refine pwp_seq_block fun K22 hK22 => ?_
   refine pwp_seq_plain rfl fun K23 hK23 => ?_
   refine p_step rfl (e_move (v := .lit _ _ _) rfl) trivial ?_
   refine p_step rfl (e_move (v := .sc _) rfl) trivial ?_
   refine p_step rfl (e_ixa rfl rfl (by kernel_rfl) (by kernel_rfl) (by first | omega | (simp only [List.length_map]; omega))) trivial ?_
   refine p_step rfl (e_load (v := .sc _) rfl (by kernel_rfl) (by kernel_rfl) (by kernel_rfl) (by first | omega | (simp only [List.length_map]; omega)) (by decide) ((cell_map (at0_get (by rw [depX_len]; omega)) _).trans rfl)) trivial ?_
   refine p_step rfl (e_move (v := .sc _) rfl) trivial ?_
   refine p_step rfl (e_eq rfl rfl) trivial ?_
   refine p_end (hK23 _ ?_); clear hK23 K23
   refine pwp_cond rfl (fun hb24 => ?_) (fun hb24 => ?_)
   ·have hb24R := hb24; try simp only [z1, z2, z3, z4, z5, z6, ne_eq, z7, z8, z9, z10, z11, z12] at hb24
    refine pwp_plainK rfl fun hkn K25 hK25 => ?_
    have hfs := hkn.fresh 27
    have hpl := rowP_le (d := (depX xs)) (e := e) (k := k)
    have hvl : vs.length = e := by have := hnp.len; simp only [List.length_append, layT_len, List.length_cons, List.length_nil] at this; omega
    refine p_step rfl (e_move (v := w) rfl) trivial ?_
    refine p_step rfl (e_move (v := .sc _) rfl) trivial ?_
    refine p_new rfl (e_bslice (rows := [ci (k : Int)]) (zs := [.int 0]) (sz := 1) (by kernel_rfl) (by kernel_rfl) rfl (by kernel_rfl) (by decide) rfl rfl (by exact ⟨by decide, rfl, rfl, trivial⟩) rfl) trivial ?_
    have hul := NP.last hnp
    refine p_appK (u := w) (sz := 1) (d1 := 27) (rows := (rowP (depX xs) e k).map ci) (rows2 := [ci (k : Int)]) rfl rfl rfl (hul.keep fun g => hset_ne (key_ne rfl)) (src_ref (hset_self _ _ _) rfl) (by kernel_rfl) (by simp only [List.length_map, List.length_cons, List.length_nil]; omega) (by simp) fun h1 hr1 hf1 => ?_
    have hv1 := (hihj18_0.keep fun g => (hf1 (35, g) (key_ne rfl) (fun _ _ => key_ne rfl)).trans (hset_ne (key_ne rfl)))
    have hnp2 := (hnp.keep (fun g => hset_ne (key_ne rfl))).app (Fresh.keep (d := 27) hfs (fun g => hset_ne (key_ne rfl)) rfl) (i := vs.length) (l' := rowP (depX xs) e k ++ [(k : Int)]) (v' := .ref (27, _) 1 0 (((rowP (depX xs) e k).map ci).length + [ci (k : Int)].length)) (get_last rfl) (get_last (by rw [layT_len]; exact hvl)) (congrArg (PV.ref _ 1 0) (by simp only [List.length_map, List.length_append, List.length_cons, List.length_nil])) (hr1.trans (by rw [List.map_append]; rfl)) (fun k' q1 q2 => hf1 k' q1 (fun g e => q2 g (by rw [e, List.length_map])))
    rw [set_last rfl, set_last (by rw [layT_len]; exact hvl), rowP_t (by assumption)] at hnp2
    refine p_step rfl (e_assign (v := .ref _ _ _ _) rfl) trivial ?_
    refine p_end (hK25 _ ?_); clear hK25 K25
    refine block_norm ?_
    refine seq_norm (hK22 _ ?_); clear hK22 K22
    refine pwp_plain rfl fun K26 hK26 => ?_
    refine p_step rfl (e_move (v := .sc _) rfl) trivial ?_
    refine p_step rfl (e_add rfl rfl (by first | omega | (simp only [List.length_map] at *; omega))) trivial ?_
    refine p_step rfl (e_assign (v := .sc _) rfl) trivial ?_
    refine p_end (hK26 _ ?_); clear hK26 K26
    exact loop_again ((k + 1, _)) (by show _ < _; simp only; omega) ⟨rfl, rfl, rfl, rfl, trivial⟩ ⟨rfl, rfl, trivial⟩ (by exact ⟨by show _ + 1 ≤ _; omega, by first | exact hnp2 | (show NP _ 27 1 ci _ _; rw [← rowP_f (by assumption)]; exact hnp), hv1⟩)
   ·have hb24R := hb24; try simp only [z1, z2, z3, z4, z5, z6, ne_eq, z7, z8, z9, z10, z11, z12] at hb24
    refine pwp_skip ?_
    refine block_norm ?_
    refine seq_norm (hK22 _ ?_); clear hK22 K22
    refine pwp_plain rfl fun K27 hK27 => ?_
    refine p_step rfl (e_move (v := .sc _) rfl) trivial ?_
    refine p_step rfl (e_add rfl rfl (by first | omega | (simp only [List.length_map] at *; omega))) trivial ?_
    refine p_step rfl (e_assign (v := .sc _) rfl) trivial ?_
    refine p_end (hK27 _ ?_); clear hK27 K27
    exact loop_again ((k + 1, _)) (by show _ < _; simp only; omega) ⟨rfl, rfl, rfl, rfl, trivial⟩ ⟨rfl, rfl, trivial⟩ (by exact ⟨by show _ + 1 ≤ _; omega, by first | exact hnp2 | (show NP _ 27 1 ci _ _; rw [← rowP_f (by assumption)]; exact hnp), hihj18_0⟩)
  ·have hb21R := hb21; try simp only [z1, z2, z3, z4, z5, z6, ne_eq, z7, z8, z9, z10, z11, z12] at hb21
   have hkn : k = xs.length := by simp only [List.length_map] at *; omega
   refine pwp_exit ?_
   refine exit_seq ?_
   clear hK20 K20
   refine exit_loop ?_
   refine exit_here ?_
   refine seq_norm (hK13 _ ?_); clear hK13 K13
   refine pwp_seq_seq ?_
   refine pwp_seq_plain rfl fun K28 hK28 => ?_
   refine p_step rfl (e_move (v := w) rfl) trivial ?_
   refine p_step rfl (SliceAt.len (NP.last hnp) rfl (by kernel_rfl)) trivial ?_
   refine p_step rfl (e_eq rfl rfl) trivial ?_
   refine p_end (hK28 _ ?_); clear hK28 K28
   refine pwp_seq_cond rfl fun K29 hK29 => ⟨fun hb30 => ?_, fun hb30 => ?_⟩
   ·have hb30R := hb30; try simp only [z1, z2, z3, z4, z5, z6, ne_eq, z7, z8, z9, z10, z11, z12] at hb30
    refine pwp_seq_plain rfl fun K31 hK31 => ?_
    refine p_step rfl (e_move (v := _) rfl) trivial ?_
    refine p_step rfl (e_assign (v := _) rfl) trivial ?_
    refine p_end (hK31 _ ?_); clear hK31 K31
    refine pwp_ret ?_
    refine ret_seq ?_
    refine ret_block ?_
    refine ret_seq ?_
    refine ret_loop ?_
    refine ret_block ?_
    refine end1 (v := _) rfl ?_
    subst hkn
    have hrn : rowP (depX xs) e xs.length = [] := List.eq_nil_of_length_eq_zero (by simp only [List.length_map] at *; omega)
    have hee := lay_stop hp hq hem hrn
    rw [← hee]
    exact out_npS (NP.front hnp) hihj18_0
   ·have hb30R := hb30; try simp only [z1, z2, z3, z4, z5, z6, ne_eq, z7, z8, z9, z10, z11, z12] at hb30
    refine pwp_skip ?_
    refine seq_norm (hK29 _ ?_); clear hK29 K29
    have hwc := SliceAt.cell (NP.last hnp)
    have hwp : pcells w = [w] := by rcases NP.last hnp with ⟨_, q⟩ | ⟨g, q, _⟩ <;> rw [q] <;> rfl
    subst hkn
    have hne : rowP (depX xs) e xs.length ≠ [] := fun q => by have q2 := congrArg List.length q; simp only [List.length_nil, List.length_map] at *; omega
    have hel := row_lt hq hne
    have hvl : vs.length = e := by have := hnp.len; simp only [List.length_append, layT_len, List.length_cons, List.length_nil] at this; omega
    have hmx := mxK_le (d := depX xs) (b := 20000) (fun i => by have := (depP_b (nd := (ndX xs)) (O := (ordR (ndX xs))) (nd_len fun x hx => (hq x hx).1) (Nat.le_refl _)) i; have e2 : at0 (depX xs) i = at0 (depP (ndX xs) (ordR (ndX xs)) (ordR (ndX xs)).length) i := rfl; have := ordR_len (ordR_acc (nd := (ndX xs))); omega) xs.length
    refine pwp_plain rfl fun K32 hK32 => ?_
    refine p_step rfl (e_move (v := v) rfl) trivial ?_
    refine p_step rfl (e_move (v := w) rfl) trivial ?_
    refine p_new rfl (e_bslice (rows := [cv w]) (zs := [.nil]) (sz := 1) (by kernel_rfl) (by kernel_rfl) rfl (by kernel_rfl) (by decide) rfl rfl (by exact ⟨by decide, by show (pcells w).length = 1; rw [hwp]; rfl, by show (pcells w).all PV.cell = true; rw [hwp]; simp only [List.all_cons, List.all_nil, hwc]; rfl, trivial⟩) (by show [pcells w] = [cv w]; rw [hwp]; rfl)) trivial ?_
    refine p_app (d1 := 35) rfl rfl rfl (hihj18_0.keep fun g => hset_ne (key_ne rfl)) (src_ref (hset_self _ _ _) rfl) (by kernel_rfl) (by simp only [List.length_map, List.length_cons, List.length_nil]; omega) fun v2 h2 c2 hs2 hf2 => ?_
    replace hs2 := hs2.to (show _ = (vs ++ [w]).map cv by rw [List.map_append]; rfl)
    have hnp3 := hnp.keep fun g => (hf2 (27, g) (key_ne rfl) (fun _ _ => key_ne rfl)).trans (hset_ne (key_ne rfl))
    refine p_step rfl (e_assign (v := v2) rfl) trivial ?_
    refine p_end (hK32 _ ?_); clear hK32 K32
    refine block_norm ?_
    refine seq_norm (hK10 _ ?_); clear hK10 K10
    refine pwp_plain rfl fun K33 hK33 => ?_
    refine p_step rfl (e_move (v := .sc _) rfl) trivial ?_
    refine p_step rfl (e_add rfl rfl (by first | omega | (simp only [List.length_map] at *; omega))) trivial ?_
    refine p_step rfl (e_assign (v := .sc _) rfl) trivial ?_
    refine p_end (hK33 _ ?_); clear hK33 K33
    exact loop_again ((e + 1, v2, vs ++ [w])) (by show _ < _; simp only; omega) ⟨rfl, rfl, trivial⟩ ⟨rfl, rfl, trivial⟩ (by exact ⟨by show _ + 1 ≤ _; omega, by (show NP _ 27 1 ci _ _; rw [← layT_row]; exact hnp3), (SliceAt.to hs2 (by rfl))⟩)

theorem lists_no {ls ms : List (List Int)} {k : Nat} {x y : List Int} (hx : ls[k]? = some x) (hy : ms[k]? = some y) (h : x ≠ y) : ¬ ls = ms := fun e => h (by
  rw [e, hy] at hx; exact (Option.some.inj hx).symm)
theorem lists_yes {ls ms : List (List Int)} {k : Nat} (hl : ls.length = ms.length) (h : ls.take k = ms.take k) (hk : ls.length ≤ k) : ls = ms := by
  rw [List.take_of_length_le hk, List.take_of_length_le (by omega)] at h; exact h

theorem fr30 : (inFrame Try.f30.ntmps (Try.f30.body.getD .skip) && Try.f30.results.toList.all (resScope Try.f30.ntmps)) = true := by kernel_rfl
theorem ListsC (ls ms : List (List Int)) (hl : ls.length ≤ 1000000) (hn : ∀ x ∈ ls, x.length ≤ 1000000) : PCalls Try.prog 30 [.lit true 1 (ls.map clf), .lit true 1 (ms.map clf)] (.bool (decide (ls = ms))) := by
  refine PCalls.of_code Try.func30 rfl rfl (by kernel_rfl) mixed fr30 (by show _ ≤ 27; simp) (.sc _) ?_
  refine pwp_seq_plain rfl fun K1 hK1 => ?_
  refine p_step rfl (e_assign (v := .sc _) rfl) trivial ?_
  refine p_end (hK1 _ ?_); clear hK1 K1
  refine pwp_seq_seq ?_
  refine pwp_seq_plain rfl fun K2 hK2 => ?_
  refine p_step rfl (e_move (v := .lit _ _ _) rfl) trivial ?_
  refine p_step rfl (e_len rfl (by kernel_rfl)) trivial ?_
  refine p_step rfl (e_move (v := .lit _ _ _) rfl) trivial ?_
  refine p_step rfl (e_len rfl (by kernel_rfl)) trivial ?_
  refine p_step rfl (e_ne rfl rfl) trivial ?_
  refine p_end (hK2 _ ?_); clear hK2 K2
  refine pwp_seq_cond rfl fun K3 hK3 => ⟨fun hb4 => ?_, fun hb4 => ?_⟩
  ·have hb4R := hb4; try simp only [z1, z2, z3, z4, z5, z6, ne_eq, z7, z8, z9, z10, z11, z12] at hb4
   refine pwp_seq_plain rfl fun K5 hK5 => ?_
   refine p_step rfl (e_assign (v := .sc _) rfl) trivial ?_
   refine p_end (hK5 _ ?_); clear hK5 K5
   refine pwp_ret ?_
   refine ret_seq ?_
   refine end1 (v := .sc _) rfl ?_
   first
     | exact out_b (decide_eq_false (by first | (intro hc; subst hc; omega) | exact lists_no hx hy (by first | assumption | exact of_decide_eq_false (by assumption)))).symm
     | exact out_b (decide_eq_true (lists_yes (by omega) he (by omega))).symm
  ·have hb4R := hb4; try simp only [z1, z2, z3, z4, z5, z6, ne_eq, z7, z8, z9, z10, z11, z12] at hb4
   refine pwp_skip ?_
   refine seq_norm (hK3 _ ?_); clear hK3 K3
   refine pwp_seq_seq ?_
   refine pwp_seq_plain rfl fun K6 hK6 => ?_
   refine p_step rfl (e_assign (v := .sc _) rfl) trivial ?_
   refine p_end (hK6 _ ?_); clear hK6 K6
   refine pwp_seq_block fun K7 hK7 => ?_
   refine pwp_loopR (α := Nat) [0, 1] (fun (k : Nat) => [(5, .int (k))]) (fun (k : Nat) (h : Heap) (_ : Nat → Nat) => ((k) ≤ ls.length) ∧ (ls.take (k) = ms.take (k))) (fun (k : Nat) => ls.length - (k)) (0) (by exact ⟨rfl, trivial⟩) (by exact ⟨by exact Nat.zero_le _, by exact rfl⟩) fun k r8 h9 c10 hj11 => ?_
   obtain ⟨hk, he⟩ := hj11
   try dsimp only at hk
   try dsimp only at he
   show pwp _ _ (loopQ _ _ _) ⟨sets (mix _ _ _) [(5, .int k)], _, _⟩
   refine pwp_seq_seq ?_
   refine pwp_seq_plain rfl fun K12 hK12 => ?_
   refine p_step rfl (e_move (v := .sc _) rfl) trivial ?_
   refine p_step rfl (e_move (v := .lit _ _ _) rfl) trivial ?_
   refine p_step rfl (e_len rfl (by kernel_rfl)) trivial ?_
   refine p_step rfl (e_lt rfl rfl) trivial ?_
   refine p_end (hK12 _ ?_); clear hK12 K12
   refine pwp_seq_cond rfl fun K13 hK13 => ⟨fun hb14 => ?_, fun hb14 => ?_⟩
   ·have hb14R := hb14; try simp only [z1, z2, z3, z4, z5, z6, ne_eq, z7, z8, z9, z10, z11, z12] at hb14
    obtain ⟨x, hx, hd, ht⟩ := get_lt (xs := ls) (i := k) (by omega)
    obtain ⟨y, hy, hdy, hty⟩ := get_lt (xs := ms) (i := k) (by omega)
    refine pwp_skip ?_
    refine seq_norm (hK13 _ ?_); clear hK13 K13
    refine pwp_seq_block fun K15 hK15 => ?_
    refine pwp_seq_gops rfl fun K16 hK16 => ?_
    refine g_begin ?_
    refine g_step rfl rfl rfl rfl (e_move (v := .lit _ _ _) rfl) trivial ?_
    refine g_step rfl rfl rfl rfl (e_move (v := .sc _) rfl) trivial ?_
    refine g_step rfl rfl rfl rfl (e_ixa rfl rfl (by kernel_rfl) (by kernel_rfl) (by first | omega | (simp only [List.length_map]; omega))) trivial ?_
    refine g_step rfl rfl rfl rfl (e_load (v := .lit _ _ _) rfl (by kernel_rfl) (by kernel_rfl) (by kernel_rfl) (by first | omega | (simp only [List.length_map]; omega)) (by decide) ((cell_map hx _).trans rfl)) trivial ?_
    refine g_step rfl rfl rfl rfl (e_move (v := .lit _ _ _) rfl) trivial ?_
    refine g_step rfl rfl rfl rfl (e_move (v := .sc _) rfl) trivial ?_
    refine g_step rfl rfl rfl rfl (e_ixa rfl rfl (by kernel_rfl) (by kernel_rfl) (by first | omega | (simp only [List.length_map]; omega))) trivial ?_
    refine g_step rfl rfl rfl rfl (e_load (v := .lit _ _ _) rfl (by kernel_rfl) (by kernel_rfl) (by kernel_rfl) (by first | omega | (simp only [List.length_map]; omega)) (by decide) ((cell_map hy _).trans rfl)) trivial ?_
    refine g_call rfl rfl rfl rfl (.cons inn_lit (.cons inn_lit .nil)) (IntsC _ _ (hn _ (List.mem_of_getElem? hx))) ?_
    refine g_step rfl rfl rfl rfl (e_not rfl) trivial ?_
    refine g_end (ds := []) (by kernel_rfl) rfl (hK16 _ ?_); clear hK16 K16
    refine pwp_cond rfl (fun hb17 => ?_) (fun hb17 => ?_)
    ·have hb17R := hb17; try simp only [z1, z2, z3, z4, z5, z6, ne_eq, z7, z8, z9, z10, z11, z12] at hb17
     refine pwp_seq_plain rfl fun K18 hK18 => ?_
     refine p_step rfl (e_assign (v := .sc _) rfl) trivial ?_
     refine p_end (hK18 _ ?_); clear hK18 K18
     refine pwp_ret ?_
     refine ret_block ?_
     refine ret_seq ?_
     refine ret_loop ?_
     refine ret_block ?_
     refine ret_seq ?_
     refine end1 (v := .sc _) rfl ?_
     first
       | exact out_b (decide_eq_false (by first | (intro hc; subst hc; omega) | exact lists_no hx hy (by first | assumption | exact of_decide_eq_false (by assumption)))).symm
       | exact out_b (decide_eq_true (lists_yes (by omega) he (by omega))).symm
    ·have hb17R := hb17; try simp only [z1, z2, z3, z4, z5, z6, ne_eq, z7, z8, z9, z10, z11, z12] at hb17
     refine pwp_skip ?_
     refine block_norm ?_
     refine seq_norm (hK15 _ ?_); clear hK15 K15
     refine pwp_plain rfl fun K19 hK19 => ?_
     refine p_step rfl (e_move (v := .sc _) rfl) trivial ?_
     refine p_step rfl (e_add rfl rfl (by first | omega | (simp only [List.length_map] at *; omega))) trivial ?_
     refine p_step rfl (e_assign (v := .sc _) rfl) trivial ?_
     refine p_end (hK19 _ ?_); clear hK19 K19
     exact loop_again (k + 1) (by show _ < _; omega) ⟨rfl, rfl, trivial⟩ ⟨rfl, trivial⟩ (by exact ⟨by show _ + 1 ≤ _; omega, by (have e : x = y := (by first | assumption | exact of_decide_eq_true (by assumption)); rw [ht, hty, he, e])⟩)
   ·have hb14R := hb14; try simp only [z1, z2, z3, z4, z5, z6, ne_eq, z7, z8, z9, z10, z11, z12] at hb14
    obtain rfl : k = ls.length := by simp only [List.length_map] at *; omega
    refine pwp_exit ?_
    refine exit_seq ?_
    clear hK13 K13
    refine exit_loop ?_
    refine exit_here ?_
    refine seq_norm (hK7 _ ?_); clear hK7 K7
    refine pwp_seq_plain rfl fun K20 hK20 => ?_
    refine p_step rfl (e_assign (v := .sc _) rfl) trivial ?_
    refine p_end (hK20 _ ?_); clear hK20 K20
    refine pwp_ret ?_
    refine end1 (v := .sc _) rfl ?_
    first
      | exact out_b (decide_eq_false (by first | (intro hc; subst hc; omega) | exact lists_no hx hy (by first | assumption | exact of_decide_eq_false (by assumption)))).symm
      | exact out_b (decide_eq_true (lists_yes (by omega) he (by omega))).symm

theorem sameRev {xs : List Task} (hp : planE xs = 0) (hl : xs.length ≤ 1000) (hq : Fair xs) : PCalls Try.prog 28 [.lit true 6 ((revE xs).1.map Task.encF), .lit true 6 ((revX xs).map Task.encF)] (.bool true) := by
  rw [revE_0 hp]
  have h := PCalls.raise (SameTasksC (revX xs) (revX xs) (by rw [revX_len]; exact hl) (fun x hx => by have := (fair_rev hl hq x hx).1; omega)) (args := [.lit true 6 ((revX xs).map Task.encF), .lit true 6 ((revX xs).map Task.encF)]) (by
    cases raiseF1 (xs := revX xs) with
    | cons h _ => exact .cons h (.cons h .nil))
  rw [decide_eq_true rfl] at h; exact h
theorem listsLay {xs : List Task} (hp : planE xs = 0) (hl : xs.length ≤ 20) (hq : Fair xs) : PCalls Try.prog 30 [.lit true 1 ((layX xs).1.map clf), .lit true 1 ((layT (depX xs) xs.length (mxK (depX xs) xs.length)).map clf)] (.bool true) := by
  have e : layX xs = (layT (depX xs) xs.length (mxK (depX xs) xs.length), 0) := if_neg (fun q => q hp)
  rw [e]
  have hmx := mxK_le (d := depX xs) (b := 20000) (fun i => by have := (depP_b (nd := ndX xs) (O := ordR (ndX xs)) (nd_len fun x hx => (hq x hx).1) (Nat.le_refl _)) i; have e2 : at0 (depX xs) i = at0 (depP (ndX xs) (ordR (ndX xs)) (ordR (ndX xs)).length) i := rfl; have := ordR_len (ordR_acc (nd := ndX xs)); omega) xs.length
  have h := ListsC (layT (depX xs) xs.length (mxK (depX xs) xs.length)) (layT (depX xs) xs.length (mxK (depX xs) xs.length)) (by rw [layT_len]; omega) (fun x hx => by
    obtain ⟨i, _, rfl⟩ := List.mem_map.1 hx
    have := rowP_le (d := depX xs) (e := i) (k := xs.length); omega)
  rw [decide_eq_true rfl] at h; exact h
theorem intsOrd {xs : List Task} (hp : planE xs = 0) (hl : xs.length ≤ 20) : PCalls Try.prog 20 [.lit true 1 ((ordX xs).1.map ci), .lit true 1 ((ordR (ndX xs)).map ci)] (.bool true) := by
  have e : ordX xs = (ordR (ndX xs), 0) := if_neg (fun q => q hp)
  rw [e]
  have h := IntsC (ordR (ndX xs)) (ordR (ndX xs)) (by have := ordR_len (ordR_acc (nd := ndX xs)); omega)
  rw [decide_eq_true rfl] at h; exact h

theorem fr5 : (inFrame Try.f5.ntmps (Try.f5.body.getD .skip) && Try.f5.results.toList.all (resScope Try.f5.ntmps)) = true := by kernel_rfl
theorem hPlans (xs : List Task) (hl : xs.length ≤ 9223372036854775807) : PCalls Try.prog 5 [.lit true 6 (xs.map Task.enc)] (.bool true) := by
  refine PCalls.of_code Try.func5 rfl rfl (by kernel_rfl) mixed fr5 (by show _ ≤ 90; simp) (.sc _) ?_
  refine pwp_seq_plain rfl fun K1 hK1 => ?_
  refine p_step rfl (e_assign (v := .sc _) rfl) trivial ?_
  refine p_end (hK1 _ ?_); clear hK1 K1
  refine pwp_seq_seq ?_
  refine pwp_seq_plain rfl fun K2 hK2 => ?_
  refine p_call rfl .nil (awake) ?_
  refine p_step rfl (e_not rfl) trivial ?_
  refine p_end (hK2 _ ?_); clear hK2 K2
  refine pwp_seq_cond (t := false) rfl fun K3 hK3 => ⟨nofun, fun _ => ?_⟩
  refine pwp_skip ?_
  refine seq_norm (hK3 _ ?_); clear hK3 K3
  refine pwp_seq_seq ?_
  refine pwp_seq_plain rfl fun K4 hK4 => ?_
  refine p_step rfl (e_move (v := .lit _ _ _) rfl) trivial ?_
  refine p_call rfl (.cons inn_lit (.cons inn_sc .nil)) (FewC _ _ (by omega)) ?_
  refine p_step rfl (e_not rfl) trivial ?_
  refine p_end (hK4 _ ?_); clear hK4 K4
  refine pwp_seq_cond rfl fun K5 hK5 => ⟨fun hb6 => ?_, fun hb6 => ?_⟩
  ·have hb6R := hb6; (try simp only [z1, z2, z3, z4, z5, z6, ne_eq, z7, z8, z9, z10, z11, z12] at hb6); (try (have hfw := few_fair hb6))
   refine pwp_seq_plain rfl fun K7 hK7 => ?_
   refine p_step rfl (e_assign (v := .sc _) rfl) trivial ?_
   refine p_end (hK7 _ ?_); clear hK7 K7
   refine pwp_ret ?_
   refine ret_seq ?_
   refine end1 (v := .sc _) rfl ?_
   first
     | exact out_b rfl
     | exact out_b (by first | (simp_all; done) | fail)
  ·have hb6R := hb6; (try simp only [z1, z2, z3, z4, z5, z6, ne_eq, z7, z8, z9, z10, z11, z12] at hb6); (try (have hfw := few_fair hb6))
   refine pwp_skip ?_
   refine seq_norm (hK5 _ ?_); clear hK5 K5
   refine pwp_seq_plain rfl fun K8 hK8 => ?_
   refine p_step rfl (e_move (v := .lit _ _ _) rfl) trivial ?_
   refine p_call rfl (.cons inn_lit .nil) (OrderC _ (by omega) hfw.2) ?_
   refine p_step rfl (e_move (v := .tup _) rfl) trivial ?_
   refine p_step rfl (e_ext (v := .lit _ _ _) rfl (by simp) rfl) trivial ?_
   refine p_step rfl (e_ext (v := .sc _) rfl (by simp) rfl) trivial ?_
   refine p_step rfl (e_assign (v := .lit _ _ _) rfl) trivial ?_
   refine p_step rfl (e_assign (v := .sc _) rfl) trivial ?_
   refine p_end (hK8 _ ?_); clear hK8 K8
   refine pwp_seq_plain rfl fun K9 hK9 => ?_
   refine p_step rfl (e_move (v := .lit _ _ _) rfl) trivial ?_
   refine p_call rfl (.cons inn_lit .nil) (ReverseC _ (by omega) hfw.2) ?_
   refine p_step rfl (e_move (v := .tup _) rfl) trivial ?_
   refine p_step rfl (e_ext (v := .lit _ _ _) rfl (by simp) rfl) trivial ?_
   refine p_step rfl (e_ext (v := .sc _) rfl (by simp) rfl) trivial ?_
   refine p_step rfl (e_assign (v := .lit _ _ _) rfl) trivial ?_
   refine p_step rfl (e_assign (v := .sc _) rfl) trivial ?_
   refine p_end (hK9 _ ?_); clear hK9 K9
   refine pwp_seq_plain rfl fun K10 hK10 => ?_
   refine p_step rfl (e_move (v := .lit _ _ _) rfl) trivial ?_
   refine p_call rfl (.cons inn_lit .nil) (LayersC _ (by omega) hfw.2) ?_
   refine p_step rfl (e_move (v := .tup _) rfl) trivial ?_
   refine p_step rfl (e_ext (v := .lit _ _ _) rfl (by simp) rfl) trivial ?_
   refine p_step rfl (e_ext (v := .sc _) rfl (by simp) rfl) trivial ?_
   refine p_step rfl (e_assign (v := .lit _ _ _) rfl) trivial ?_
   refine p_step rfl (e_assign (v := .sc _) rfl) trivial ?_
   refine p_end (hK10 _ ?_); clear hK10 K10
   refine pwp_seq_plain rfl fun K11 hK11 => ?_
   refine p_step rfl (e_move (v := .lit _ _ _) rfl) trivial ?_
   refine p_call rfl (.cons inn_lit .nil) (refCheckC _ (by omega) hfw.2) ?_
   refine p_step rfl (e_assign (v := .sc _) rfl) trivial ?_
   refine p_end (hK11 _ ?_); clear hK11 K11
   refine pwp_seq_seq ?_
   refine pwp_seq_plain rfl fun K12 hK12 => ?_
   refine p_step rfl (e_move (v := .lit _ _ _) rfl) trivial ?_
   refine p_call rfl (.cons inn_lit .nil) (CheckC _ (by omega) hfw.2) ?_
   refine p_step rfl (e_move (v := .sc _) rfl) trivial ?_
   refine p_step rfl (e_ne rfl rfl) trivial ?_
   refine p_end (hK12 _ ?_); clear hK12 K12
   refine pwp_seq_cond rfl fun K13 hK13 => ⟨fun hb14 => ?_, fun hb14 => ?_⟩
   ·have hb14R := hb14; (try simp only [z1, z2, z3, z4, z5, z6, ne_eq, z7, z8, z9, z10, z11, z12] at hb14); (try (have hfw := few_fair hb14))
    refine pwp_seq_plain rfl fun K15 hK15 => ?_
    refine p_step rfl (e_assign (v := .sc _) rfl) trivial ?_
    refine p_end (hK15 _ ?_); clear hK15 K15
    refine pwp_ret ?_
    refine ret_seq ?_
    refine end1 (v := .sc _) rfl ?_
    first
      | exact out_b rfl
      | exact out_b (by first | (simp_all; done) | fail)
   ·have hb14R := hb14; (try simp only [z1, z2, z3, z4, z5, z6, ne_eq, z7, z8, z9, z10, z11, z12] at hb14); (try (have hfw := few_fair hb14))
    refine pwp_skip ?_
    refine seq_norm (hK13 _ ?_); clear hK13 K13
    refine pwp_seq_seq ?_
    refine pwp_seq_plain rfl fun K16 hK16 => ?_
    refine p_step rfl (e_move (v := .sc _) rfl) trivial ?_
    refine p_step rfl (e_ne rfl rfl) trivial ?_
    refine p_end (hK16 _ ?_); clear hK16 K16
    refine pwp_seq_cond rfl fun K17 hK17 => ⟨fun hb18 => ?_, fun hb18 => ?_⟩
    ·have hb18R := hb18; (try simp only [z1, z2, z3, z4, z5, z6, ne_eq, z7, z8, z9, z10, z11, z12] at hb18); (try (have hfw := few_fair hb18))
     have hpe : planE xs ≠ 0 := (by assumption)
     have e11 := congrArg Prod.fst (show ordX xs = ([], planE xs) from if_pos hpe); have e12 := congrArg Prod.snd (show ordX xs = ([], planE xs) from if_pos hpe); try dsimp only at e11 e12
     have e21 := congrArg Prod.fst (revE_e hpe); have e22 := congrArg Prod.snd (revE_e hpe); try dsimp only at e21 e22
     have e31 := congrArg Prod.fst (show layX xs = ([], planE xs) from if_pos hpe); have e32 := congrArg Prod.snd (show layX xs = ([], planE xs) from if_pos hpe); try dsimp only at e31 e32
     refine pwp_seq_gops rfl fun K19 hK19 => ?_
     refine g_begin ?_
     refine g_step rfl rfl rfl rfl (e_move (v := .sc _) rfl) trivial ?_
     refine g_step rfl rfl rfl rfl (e_move (v := .sc _) rfl) trivial ?_
     refine g_step rfl rfl rfl rfl (e_eq rfl rfl) trivial ?_
     refine g_step rfl rfl rfl rfl (e_move (v := .sc _) rfl) trivial ?_
     refine g_cases (fun hb20 => ?_) (fun hb20 => ?_)
     ·have hb20R := hb20; (try simp only [z1, z2, z3, z4, z5, z6, ne_eq, z7, z8, z9, z10, z11, z12] at hb20); (try (have hfw := few_fair hb20))
      refine g_step rfl rfl rfl rfl (e_move (v := .sc _) rfl) trivial ?_
      refine g_step rfl rfl rfl rfl (e_move (v := .sc _) rfl) trivial ?_
      refine g_step rfl rfl rfl rfl (e_eq rfl rfl) trivial ?_
      refine g_step rfl rfl rfl rfl (e_pickT (v := .sc _) rfl rfl) trivial ?_
      refine g_step rfl rfl rfl rfl (e_move (v := .sc _) rfl) trivial ?_
      refine g_cases (fun hb21 => ?_) (fun hb21 => ?_)
      ·have hb21R := hb21; (try simp only [z1, z2, z3, z4, z5, z6, ne_eq, z7, z8, z9, z10, z11, z12] at hb21); (try (have hfw := few_fair hb21))
       refine g_step rfl rfl rfl rfl (e_move (v := .sc _) rfl) trivial ?_
       refine g_step rfl rfl rfl rfl (e_move (v := .sc _) rfl) trivial ?_
       refine g_step rfl rfl rfl rfl (e_eq rfl rfl) trivial ?_
       refine g_step rfl rfl rfl rfl (e_pickT (v := .sc _) rfl rfl) trivial ?_
       refine g_step rfl rfl rfl rfl (e_move (v := .sc _) rfl) trivial ?_
       refine g_cases (fun hb22 => ?_) (fun hb22 => ?_)
       ·have hb22R := hb22; (try simp only [z1, z2, z3, z4, z5, z6, ne_eq, z7, z8, z9, z10, z11, z12] at hb22); (try (have hfw := few_fair hb22))
        refine g_step rfl rfl rfl rfl (e_move (v := .lit _ _ _) rfl) trivial ?_
        refine g_step rfl rfl rfl rfl (e_len rfl (by kernel_rfl)) trivial ?_
        refine g_step rfl rfl rfl rfl (e_move (v := .lit _ _ _) rfl) trivial ?_
        refine g_step rfl rfl rfl rfl (e_len rfl (by kernel_rfl)) trivial ?_
        refine g_step rfl rfl rfl rfl (e_add rfl rfl (by first | omega | (rw [e11, e21, e31]; simp; done) | (rw [e11, e21]; simp; done) | (simp only [List.length_map] at *; omega))) trivial ?_
        refine g_step rfl rfl rfl rfl (e_move (v := .lit _ _ _) rfl) trivial ?_
        refine g_step rfl rfl rfl rfl (e_len rfl (by kernel_rfl)) trivial ?_
        refine g_step rfl rfl rfl rfl (e_add rfl rfl (by first | omega | (rw [e11, e21, e31]; simp; done) | (rw [e11, e21]; simp; done) | (simp only [List.length_map] at *; omega))) trivial ?_
        refine g_step rfl rfl rfl rfl (e_eq rfl rfl) trivial ?_
        refine g_step rfl rfl rfl rfl (e_pickT (v := .sc _) rfl rfl) trivial ?_
        refine g_step rfl rfl rfl rfl (e_assign (v := .sc _) rfl) trivial ?_
        refine g_end (ds := [42, 43, 44, 47, 48, 49, 52, 53, 54, 55, 56, 57, 58, 59, 60]) rfl rfl (hK19 _ ?_); clear hK19 K19
        refine pwp_ret ?_
        refine ret_seq ?_
        refine end1 (v := .sc _) rfl ?_
        first
          | exact out_b rfl
          | exact out_b (by first | (simp_all; done) | fail)
       ·have hb22R := hb22; (try simp only [z1, z2, z3, z4, z5, z6, ne_eq, z7, z8, z9, z10, z11, z12] at hb22); (try (have hfw := few_fair hb22))
        refine g_skip rfl rfl rfl ?_
        refine g_skip rfl rfl rfl ?_
        refine g_skip rfl rfl rfl ?_
        refine g_skip rfl rfl rfl ?_
        refine g_skip rfl rfl rfl ?_
        refine g_skip rfl rfl rfl ?_
        refine g_skip rfl rfl rfl ?_
        refine g_skip rfl rfl rfl ?_
        refine g_skip rfl rfl rfl ?_
        refine g_step rfl rfl rfl rfl (e_pickF (v := .sc _) rfl rfl) trivial ?_
        refine g_step rfl rfl rfl rfl (e_assign (v := .sc _) rfl) trivial ?_
        refine g_end (ds := [42, 43, 44, 47, 48, 49, 52, 53, 54, 55, 56, 57, 58, 59, 60]) rfl rfl (hK19 _ ?_); clear hK19 K19
        refine pwp_ret ?_
        refine ret_seq ?_
        refine end1 (v := .sc _) rfl ?_
        first
          | exact out_b rfl
          | exact out_b (by first | (simp_all; done) | fail)
      ·have hb21R := hb21; (try simp only [z1, z2, z3, z4, z5, z6, ne_eq, z7, z8, z9, z10, z11, z12] at hb21); (try (have hfw := few_fair hb21))
       refine g_skip rfl rfl rfl ?_
       refine g_skip rfl rfl rfl ?_
       refine g_skip rfl rfl rfl ?_
       refine g_step rfl rfl rfl rfl (e_pickF (v := .sc _) rfl rfl) trivial ?_
       refine g_step rfl rfl rfl rfl (e_move (v := .sc _) rfl) trivial ?_
       refine g_skip rfl rfl rfl ?_
       refine g_skip rfl rfl rfl ?_
       refine g_skip rfl rfl rfl ?_
       refine g_skip rfl rfl rfl ?_
       refine g_skip rfl rfl rfl ?_
       refine g_skip rfl rfl rfl ?_
       refine g_skip rfl rfl rfl ?_
       refine g_skip rfl rfl rfl ?_
       refine g_skip rfl rfl rfl ?_
       refine g_step rfl rfl rfl rfl (e_pickF (v := .sc _) rfl rfl) trivial ?_
       refine g_step rfl rfl rfl rfl (e_assign (v := .sc _) rfl) trivial ?_
       refine g_end (ds := [42, 43, 44, 47, 48, 49, 52, 53, 54, 55, 56, 57, 58, 59, 60]) rfl rfl (hK19 _ ?_); clear hK19 K19
       refine pwp_ret ?_
       refine ret_seq ?_
       refine end1 (v := .sc _) rfl ?_
       first
         | exact out_b rfl
         | exact out_b (by first | (simp_all; done) | fail)
     ·have hb20R := hb20; (try simp only [z1, z2, z3, z4, z5, z6, ne_eq, z7, z8, z9, z10, z11, z12] at hb20); (try (have hfw := few_fair hb20))
      refine g_skip rfl rfl rfl ?_
      refine g_skip rfl rfl rfl ?_
      refine g_skip rfl rfl rfl ?_
      refine g_step rfl rfl rfl rfl (e_pickF (v := .sc _) rfl rfl) trivial ?_
      refine g_step rfl rfl rfl rfl (e_move (v := .sc _) rfl) trivial ?_
      refine g_skip rfl rfl rfl ?_
      refine g_skip rfl rfl rfl ?_
      refine g_skip rfl rfl rfl ?_
      refine g_step rfl rfl rfl rfl (e_pickF (v := .sc _) rfl rfl) trivial ?_
      refine g_step rfl rfl rfl rfl (e_move (v := .sc _) rfl) trivial ?_
      refine g_skip rfl rfl rfl ?_
      refine g_skip rfl rfl rfl ?_
      refine g_skip rfl rfl rfl ?_
      refine g_skip rfl rfl rfl ?_
      refine g_skip rfl rfl rfl ?_
      refine g_skip rfl rfl rfl ?_
      refine g_skip rfl rfl rfl ?_
      refine g_skip rfl rfl rfl ?_
      refine g_skip rfl rfl rfl ?_
      refine g_step rfl rfl rfl rfl (e_pickF (v := .sc _) rfl rfl) trivial ?_
      refine g_step rfl rfl rfl rfl (e_assign (v := .sc _) rfl) trivial ?_
      refine g_end (ds := [42, 43, 44, 47, 48, 49, 52, 53, 54, 55, 56, 57, 58, 59, 60]) rfl rfl (hK19 _ ?_); clear hK19 K19
      refine pwp_ret ?_
      refine ret_seq ?_
      refine end1 (v := .sc _) rfl ?_
      first
        | exact out_b rfl
        | exact out_b (by first | (simp_all; done) | fail)
    ·have hb18R := hb18; (try simp only [z1, z2, z3, z4, z5, z6, ne_eq, z7, z8, z9, z10, z11, z12] at hb18); (try (have hfw := few_fair hb18))
     refine pwp_skip ?_
     refine seq_norm (hK17 _ ?_); clear hK17 K17
     have hp : planE xs = 0 := (by assumption)
     have e11 := congrArg Prod.fst (show ordX xs = (ordR (ndX xs), 0) from if_neg (fun q => q hp)); have e12 := congrArg Prod.snd (show ordX xs = (ordR (ndX xs), 0) from if_neg (fun q => q hp)); try dsimp only at e11 e12
     have e21 := congrArg Prod.fst (revE_0 hp); have e22 := congrArg Prod.snd (revE_0 hp); try dsimp only at e21 e22
     have e31 := congrArg Prod.fst (show layX xs = (layT (depX xs) xs.length (mxK (depX xs) xs.length), 0) from if_neg (fun q => q hp)); have e32 := congrArg Prod.snd (show layX xs = (layT (depX xs) xs.length (mxK (depX xs) xs.length), 0) from if_neg (fun q => q hp)); try dsimp only at e31 e32
     refine pwp_seq_gops rfl fun K23 hK23 => ?_
     refine g_begin ?_
     refine g_step rfl rfl rfl rfl (e_move (v := .sc _) rfl) trivial ?_
     refine g_step rfl rfl rfl rfl (e_eq rfl rfl) trivial ?_
     refine g_step rfl rfl rfl rfl (e_move (v := .sc _) rfl) trivial ?_
     refine g_cases (fun hb24 => ?_) (fun hb24 => ?_)
     ·have hb24R := hb24; (try simp only [z1, z2, z3, z4, z5, z6, ne_eq, z7, z8, z9, z10, z11, z12] at hb24); (try (have hfw := few_fair hb24))
      refine g_step rfl rfl rfl rfl (e_move (v := .sc _) rfl) trivial ?_
      refine g_step rfl rfl rfl rfl (e_eq rfl rfl) trivial ?_
      refine g_step rfl rfl rfl rfl (e_pickT (v := .sc _) rfl rfl) trivial ?_
      refine g_step rfl rfl rfl rfl (e_move (v := .sc _) rfl) trivial ?_
      refine g_cases (fun hb25 => ?_) (fun hb25 => ?_)
      ·have hb25R := hb25; (try simp only [z1, z2, z3, z4, z5, z6, ne_eq, z7, z8, z9, z10, z11, z12] at hb25); (try (have hfw := few_fair hb25))
       refine g_step rfl rfl rfl rfl (e_move (v := .sc _) rfl) trivial ?_
       refine g_step rfl rfl rfl rfl (e_eq rfl rfl) trivial ?_
       refine g_step rfl rfl rfl rfl (e_pickT (v := .sc _) rfl rfl) trivial ?_
       refine g_step rfl rfl rfl rfl (e_move (v := .sc _) rfl) trivial ?_
       refine g_cases (fun hb26 => ?_) (fun hb26 => ?_)
       ·have hb26R := hb26; (try simp only [z1, z2, z3, z4, z5, z6, ne_eq, z7, z8, z9, z10, z11, z12] at hb26); (try (have hfw := few_fair hb26))
        refine g_step rfl rfl rfl rfl (e_move (v := .lit _ _ _) rfl) trivial ?_
        refine g_step rfl rfl rfl rfl (e_move (v := .lit _ _ _) rfl) trivial ?_
        refine g_call rfl rfl rfl rfl (.cons inn_lit .nil) (refOrder _ (by omega) (fun x hx => (hfw.2 x hx).1) (tasks_nd (planE_ok hp))) ?_
        refine g_call rfl rfl rfl rfl (.cons inn_lit (.cons inn_lit .nil)) (intsOrd hp (by omega)) ?_
        refine g_step rfl rfl rfl rfl (e_pickT (v := .sc _) rfl rfl) trivial ?_
        refine g_step rfl rfl rfl rfl (e_move (v := .sc _) rfl) trivial ?_
        refine g_step rfl rfl rfl rfl (e_move (v := .lit _ _ _) rfl) trivial ?_
        refine g_step rfl rfl rfl rfl (e_move (v := .lit _ _ _) rfl) trivial ?_
        refine g_call rfl rfl rfl rfl (.cons inn_lit .nil) (refReverseC _ (by omega) (fun x hx => by have := (hfw.2 x hx).1; omega)) ?_
        refine g_call rfl rfl rfl rfl (.cons inn_lit (.cons inn_lit .nil)) (sameRev hp (by omega) hfw.2) ?_
        refine g_step rfl rfl rfl rfl (e_pickT (v := .sc _) rfl rfl) trivial ?_
        refine g_step rfl rfl rfl rfl (e_move (v := .sc _) rfl) trivial ?_
        refine g_step rfl rfl rfl rfl (e_move (v := .lit _ _ _) rfl) trivial ?_
        refine g_step rfl rfl rfl rfl (e_move (v := .lit _ _ _) rfl) trivial ?_
        refine g_call rfl rfl rfl rfl (.cons inn_lit .nil) (refLayersC _ (by omega) hfw.2 hp) ?_
        refine g_call rfl rfl rfl rfl (.cons inn_lit (.cons inn_lit .nil)) (listsLay hp (by omega) hfw.2) ?_
        refine g_step rfl rfl rfl rfl (e_pickT (v := .sc _) rfl rfl) trivial ?_
        refine g_step rfl rfl rfl rfl (e_assign (v := .sc _) rfl) trivial ?_
        refine g_end (ds := [65, 66, 69, 70, 73, 74, 75, 76, 79, 80, 81, 82, 85, 86, 87, 88]) rfl rfl (hK23 _ ?_); clear hK23 K23
        refine pwp_ret ?_
        refine end1 (v := .sc _) rfl ?_
        first
          | exact out_b rfl
          | exact out_b (by first | (simp_all; done) | fail)
       ·have hb26R := hb26; (try simp only [z1, z2, z3, z4, z5, z6, ne_eq, z7, z8, z9, z10, z11, z12] at hb26); (try (have hfw := few_fair hb26))
        refine g_skip rfl rfl rfl ?_
        refine g_skip rfl rfl rfl ?_
        refine g_nocall rfl rfl rfl ?_
        refine g_nocall rfl rfl rfl ?_
        refine g_step rfl rfl rfl rfl (e_pickF (v := .sc _) rfl rfl) trivial ?_
        refine g_step rfl rfl rfl rfl (e_move (v := .sc _) rfl) trivial ?_
        refine g_skip rfl rfl rfl ?_
        refine g_skip rfl rfl rfl ?_
        refine g_nocall rfl rfl rfl ?_
        refine g_nocall rfl rfl rfl ?_
        refine g_step rfl rfl rfl rfl (e_pickF (v := .sc _) rfl rfl) trivial ?_
        refine g_step rfl rfl rfl rfl (e_move (v := .sc _) rfl) trivial ?_
        refine g_skip rfl rfl rfl ?_
        refine g_skip rfl rfl rfl ?_
        refine g_nocall rfl rfl rfl ?_
        refine g_nocall rfl rfl rfl ?_
        refine g_step rfl rfl rfl rfl (e_pickF (v := .sc _) rfl rfl) trivial ?_
        refine g_step rfl rfl rfl rfl (e_assign (v := .sc _) rfl) trivial ?_
        refine g_end (ds := [65, 66, 69, 70, 73, 74, 75, 76, 79, 80, 81, 82, 85, 86, 87, 88]) rfl rfl (hK23 _ ?_); clear hK23 K23
        refine pwp_ret ?_
        refine end1 (v := .sc _) rfl ?_
        first
          | exact out_b rfl
          | exact out_b (by first | (simp_all; done) | fail)
      ·have hb25R := hb25; (try simp only [z1, z2, z3, z4, z5, z6, ne_eq, z7, z8, z9, z10, z11, z12] at hb25); (try (have hfw := few_fair hb25))
       refine g_skip rfl rfl rfl ?_
       refine g_skip rfl rfl rfl ?_
       refine g_step rfl rfl rfl rfl (e_pickF (v := .sc _) rfl rfl) trivial ?_
       refine g_step rfl rfl rfl rfl (e_move (v := .sc _) rfl) trivial ?_
       refine g_skip rfl rfl rfl ?_
       refine g_skip rfl rfl rfl ?_
       refine g_nocall rfl rfl rfl ?_
       refine g_nocall rfl rfl rfl ?_
       refine g_step rfl rfl rfl rfl (e_pickF (v := .sc _) rfl rfl) trivial ?_
       refine g_step rfl rfl rfl rfl (e_move (v := .sc _) rfl) trivial ?_
       refine g_skip rfl rfl rfl ?_
       refine g_skip rfl rfl rfl ?_
       refine g_nocall rfl rfl rfl ?_
       refine g_nocall rfl rfl rfl ?_
       refine g_step rfl rfl rfl rfl (e_pickF (v := .sc _) rfl rfl) trivial ?_
       refine g_step rfl rfl rfl rfl (e_move (v := .sc _) rfl) trivial ?_
       refine g_skip rfl rfl rfl ?_
       refine g_skip rfl rfl rfl ?_
       refine g_nocall rfl rfl rfl ?_
       refine g_nocall rfl rfl rfl ?_
       refine g_step rfl rfl rfl rfl (e_pickF (v := .sc _) rfl rfl) trivial ?_
       refine g_step rfl rfl rfl rfl (e_assign (v := .sc _) rfl) trivial ?_
       refine g_end (ds := [65, 66, 69, 70, 73, 74, 75, 76, 79, 80, 81, 82, 85, 86, 87, 88]) rfl rfl (hK23 _ ?_); clear hK23 K23
       refine pwp_ret ?_
       refine end1 (v := .sc _) rfl ?_
       first
         | exact out_b rfl
         | exact out_b (by first | (simp_all; done) | fail)
     ·have hb24R := hb24; (try simp only [z1, z2, z3, z4, z5, z6, ne_eq, z7, z8, z9, z10, z11, z12] at hb24); (try (have hfw := few_fair hb24))
      refine g_skip rfl rfl rfl ?_
      refine g_skip rfl rfl rfl ?_
      refine g_step rfl rfl rfl rfl (e_pickF (v := .sc _) rfl rfl) trivial ?_
      refine g_step rfl rfl rfl rfl (e_move (v := .sc _) rfl) trivial ?_
      refine g_skip rfl rfl rfl ?_
      refine g_skip rfl rfl rfl ?_
      refine g_step rfl rfl rfl rfl (e_pickF (v := .sc _) rfl rfl) trivial ?_
      refine g_step rfl rfl rfl rfl (e_move (v := .sc _) rfl) trivial ?_
      refine g_skip rfl rfl rfl ?_
      refine g_skip rfl rfl rfl ?_
      refine g_nocall rfl rfl rfl ?_
      refine g_nocall rfl rfl rfl ?_
      refine g_step rfl rfl rfl rfl (e_pickF (v := .sc _) rfl rfl) trivial ?_
      refine g_step rfl rfl rfl rfl (e_move (v := .sc _) rfl) trivial ?_
      refine g_skip rfl rfl rfl ?_
      refine g_skip rfl rfl rfl ?_
      refine g_nocall rfl rfl rfl ?_
      refine g_nocall rfl rfl rfl ?_
      refine g_step rfl rfl rfl rfl (e_pickF (v := .sc _) rfl rfl) trivial ?_
      refine g_step rfl rfl rfl rfl (e_move (v := .sc _) rfl) trivial ?_
      refine g_skip rfl rfl rfl ?_
      refine g_skip rfl rfl rfl ?_
      refine g_nocall rfl rfl rfl ?_
      refine g_nocall rfl rfl rfl ?_
      refine g_step rfl rfl rfl rfl (e_pickF (v := .sc _) rfl rfl) trivial ?_
      refine g_step rfl rfl rfl rfl (e_assign (v := .sc _) rfl) trivial ?_
      refine g_end (ds := [65, 66, 69, 70, 73, 74, 75, 76, 79, 80, 81, 82, 85, 86, 87, 88]) rfl rfl (hK23 _ ?_); clear hK23 K23
      refine pwp_ret ?_
      refine end1 (v := .sc _) rfl ?_
      first
        | exact out_b rfl
        | exact out_b (by first | (simp_all; done) | fail)

end Go.Proofs.Ytjmjiegplnfiiaa
