/- The reverse of a plan, as the reference makes it. No conditions. -/
import Derived.Test.YtjmjiegplnfiiaaRev
set_option linter.unusedSimpArgs false
set_option linter.unusedVariables false
set_option maxRecDepth 100000
namespace Go.Proofs.Ytjmjiegplnfiiaa
open Go Go.Pv
/-! ### The reverse plan of the reference -/
def rowV (x : Task) (w : PV) : List PV := [.str x.name, .str x.trade, .int x.member, .int x.place, .int x.minutes, w]
def rowsR (xs : List Task) (vs : List PV) : Pv.Rows := List.zipWith (fun w x => rowV x w) vs xs
def usF (nd : List (List Int)) (k : Nat) : List (List Int) := (List.range k).map fun i : Nat => usR nd (i : Int)
theorem usF_len {nd : List (List Int)} {k : Nat} : (usF nd k).length = k := by simp [usF]
theorem usF_succ {nd : List (List Int)} {k : Nat} : usF nd (k + 1) = usF nd k ++ [usR nd (k : Int)] := by
  simp only [usF, List.range_succ, List.map_append]; rfl
theorem usP_all {nd : List (List Int)} {k j : Nat} (hj : j = nd.length) : usP nd j k = usR nd (k : Int) := by subst hj; rfl
theorem rowsR_snoc {xs : List Task} {vs : List PV} {x : Task} {w : PV} (hx : xs[vs.length]? = some x) : rowsR xs (vs ++ [w]) = rowsR xs vs ++ [rowV x w] := by
  obtain ⟨hl, he⟩ := List.getElem?_eq_some_iff.1 hx
  apply List.ext_getElem?
  intro i
  simp only [rowsR, List.getElem?_zipWith, List.getElem?_append, List.length_zipWith]
  rcases Nat.lt_trichotomy i vs.length with h | h | h
  · rw [if_pos h, if_pos (by omega)]
  · subst h
    rw [if_neg (Nat.lt_irrefl _), if_neg (by omega), hx, show vs.length - min vs.length xs.length = 0 by omega, Nat.sub_self]; rfl
  · rw [if_neg (by omega), if_neg (by omega)]
    have e1 : ([w] : List PV)[i - vs.length]? = none := List.getElem?_eq_none (by simp; omega)
    have e2 : ([rowV x w] : Pv.Rows)[i - min vs.length xs.length]? = none := List.getElem?_eq_none (by simp; omega)
    rw [e1, e2]
theorem set_last {α : Type} {l : List α} {a b : α} {n : Nat} (h : n = l.length) : (l ++ [a]).set n b = l ++ [b] := by
  subst h
  rw [List.set_append_right _ _ (Nat.le_refl _), Nat.sub_self]; rfl
theorem get_last {α : Type} {l : List α} {a : α} {n : Nat} (h : n = l.length) : (l ++ [a])[n]? = some a := by
  subst h; simp
theorem NP.snocNil {α : Type} {h : Heap} {d sz : Nat} {f : α → List PV} {vs : List PV} {ls : List (List α)} (hn : NP h d sz f vs ls) : NP h d sz f (vs ++ [.nil]) (ls ++ [[]]) := by
  refine ⟨by simp [hn.len], fun i v l h1 h2 => ?_, fun i j v h1 h2 h3 => ?_⟩
  · rw [List.getElem?_append] at h1 h2
    rw [hn.len] at h1
    split at h1
    · rename_i hi
      rw [if_pos hi] at h2
      exact hn.at_ i v l h1 h2
    · rename_i hi
      rw [if_neg hi] at h2
      cases e : i - ls.length with
      | zero => rw [e] at h1 h2; cases h1; cases h2; exact .nil
      | succ n => rw [e] at h1; simp at h1
  · have hlt : ∀ i : Nat, (vs ++ [PV.nil])[i]? = some v → vs[i]? = some v := fun i hi => by
      rw [List.getElem?_append] at hi
      split at hi
      · exact hi
      · cases e : i - vs.length with
        | zero => rw [e] at hi; cases hi; exact absurd rfl h3
        | succ n => rw [e] at hi; simp at hi
    exact hn.one i j v (hlt i h1) (hlt j h2) h3
theorem NP.last {α : Type} {h : Heap} {d sz : Nat} {f : α → List PV} {vs : List PV} {ls : List (List α)} {w : PV} {l : List α} (hn : NP h d sz f (vs ++ [w]) (ls ++ [l])) : SliceAt h d w sz (l.map f) := by
  have h1 := hn.len
  simp only [List.length_append, List.length_cons, List.length_nil] at h1
  exact hn.at_ vs.length w l (get_last rfl) (get_last (by omega))
theorem out_rev {h : Heap} {v : PV} {xs : List Task} {vs : List PV} (hl : vs.length = xs.length) (hs : SliceAt h 40 v 6 (rowsR xs vs)) (hn : NP h 35 1 ci vs (usF (ndX xs) xs.length)) : Out h v (.lit false 6 ((revX xs).map Task.encF)) := by
  have hrl : (rowsR xs vs).length = xs.length := by simp only [rowsR, List.length_zipWith]; omega
  rcases hs with ⟨h1, rfl⟩ | ⟨g, rfl, hg⟩
  · have : xs = [] := List.eq_nil_of_length_eq_zero (by rw [← hrl, h1]; rfl)
    subst this; exact .nil 6
  · refine .ref hg (by omega) (by rw [List.length_map, revX_len, hrl]) (fun row hr => by obtain ⟨l, _, rfl⟩ := List.mem_map.1 hr; rfl) (fun i j row row' p p' h1 h2 h3 h4 => ?_) fun row hr p hp => by obtain ⟨l, _, rfl⟩ := List.mem_map.1 hr; exact (cleanF _ p hp).2
    rw [Nat.zero_add] at h1
    simp only [rowsR, List.getElem?_zipWith] at h1
    cases hx : xs[i]? with
    | none => cases hv : vs[i]? <;> (rw [hx, hv] at h1; cases h1)
    | some x =>
      cases hv : vs[i]? with
      | none => rw [hx, hv] at h1; cases h1
      | some w =>
        rw [hx, hv] at h1; cases h1
        have hi := (List.getElem?_eq_some_iff.1 hx).1
        have hr2 : row' = Task.encF (revT xs i) := by
          rw [List.getElem?_map, revX, List.getElem?_map, List.getElem?_range hi] at h2
          exact (Option.some.inj h2).symm
        have hrt : revT xs i = { x with needs := usR (ndX xs) (i : Int) } := by
          rw [revT, List.getD_eq_getElem?_getD, hx]; rfl
        have hu : (usF (ndX xs) xs.length)[i]? = some (usR (ndX xs) (i : Int)) := by simp [usF, List.getElem?_range hi]
        subst hr2
        rw [hrt] at h4
        match j with
        | 0 => cases h3; cases h4; exact .clean (.sc _)
        | 1 => cases h3; cases h4; exact .clean (.sc _)
        | 2 => cases h3; cases h4; exact .clean (.sc _)
        | 3 => cases h3; cases h4; exact .clean (.sc _)
        | 4 => cases h3; cases h4; exact .clean (.sc _)
        | 5 => cases h3; cases h4; exact out_slice (hn.at_ i _ _ hv hu) rfl (fun _ => rfl) fun a p hp => by simp [ci] at hp; subst hp; exact ⟨.sc _, rfl⟩
        | j + 6 => simp [rowV] at h3
theorem usP_t {nd : List (List Int)} {j k : Nat} (h : hasI (nd_ nd j) (k : Int) = true) : usP nd j k ++ [(j : Int)] = usP nd (j + 1) k := by
  rw [usP_succ, if_pos (of_decide_eq_true h)]
theorem usP_f {nd : List (List Int)} {j k : Nat} (h : hasI (nd_ nd j) (k : Int) = false) : usP nd j k = usP nd (j + 1) k := by
  rw [usP_succ, if_neg (of_decide_eq_false h), List.append_nil]
theorem usP_le {nd : List (List Int)} {j k : Nat} : (usP nd j k).length ≤ j := by
  have h1 := List.length_filter_le (fun i => decide ((k : Int) ∈ nd_ nd i)) (List.range j)
  simp only [usP, List.length_map]
  rw [List.length_range] at h1
  exact h1

theorem fr29 : (inFrame Try.f29.ntmps (Try.f29.body.getD .skip) && Try.f29.results.toList.all (resScope Try.f29.ntmps)) = true := by kernel_rfl
theorem refReverseC (xs : List Task) (hl : xs.length ≤ 1000) (hn : ∀ x ∈ xs, x.needs.length ≤ 1000000) : PCalls Try.prog 29 [.lit true 6 (xs.map Task.enc)] (.lit false 6 ((revX xs).map Task.encF)) := by
  refine PCalls.of_code Try.func29 rfl rfl (by kernel_rfl) mixed fr29 (by show _ ≤ 42; simp) (.lit _ _ _ fun row hr => pure_map Task.pureF row hr) ?_
  refine pwp_seq_plain rfl fun K1 hK1 => ?_
  refine p_step rfl (e_assign (v := .nil) rfl) trivial ?_
  refine p_end (hK1 _ ?_); clear hK1 K1
  refine pwp_seq_plain rfl fun K2 hK2 => ?_
  refine p_step rfl (e_assign (v := .nil) rfl) trivial ?_
  refine p_end (hK2 _ ?_); clear hK2 K2
  refine pwp_seq_seq ?_
  refine pwp_seq_plain rfl fun K3 hK3 => ?_
  refine p_step rfl (e_assign (v := .sc _) rfl) trivial ?_
  refine p_end (hK3 _ ?_); clear hK3 K3
  refine pwp_seq_block fun K4 hK4 => ?_
  refine pwp_loopR (α := Nat × PV × (List PV)) [0] (fun (a5 : Nat × PV × (List PV)) => [(3, (a5.2.1)), (4, .int (a5.1))]) (fun (a5 : Nat × PV × (List PV)) (h : Heap) (_ : Nat → Nat) => ((a5.1) ≤ xs.length) ∧ ((a5.1) = (a5.2.2).length) ∧ (NP h 35 1 ci (a5.2.2) (usF (ndX xs) (a5.1))) ∧ (SliceAt h 40 (a5.2.1) 6 ((rowsR xs (a5.2.2))))) (fun (a5 : Nat × PV × (List PV)) => xs.length - (a5.1)) (0, .nil, []) (by exact ⟨rfl, rfl, trivial⟩) (by exact ⟨by exact Nat.zero_le _, by exact rfl, by exact NP.nils 0, .nil⟩) fun a5 r6 h7 c8 hj9 => ?_
  obtain ⟨k, v, vs⟩ := a5
  obtain ⟨hk, hvl, hnp, hihj9_0⟩ := hj9
  try dsimp only at hk
  try dsimp only at hvl
  try dsimp only at hnp
  try dsimp only at hihj9_0
  show pwp _ _ (loopQ _ _ _) ⟨sets (mix _ _ _) [(3, v), (4, .int k)], _, _⟩
  refine pwp_seq_seq ?_
  refine pwp_seq_plain rfl fun K10 hK10 => ?_
  refine p_step rfl (e_move (v := .sc _) rfl) trivial ?_
  refine p_step rfl (e_move (v := .lit _ _ _) rfl) trivial ?_
  refine p_step rfl (e_len rfl (by kernel_rfl)) trivial ?_
  refine p_step rfl (e_lt rfl rfl) trivial ?_
  refine p_end (hK10 _ ?_); clear hK10 K10
  refine pwp_seq_cond rfl fun K11 hK11 => ⟨fun hb12 => ?_, fun hb12 => ?_⟩
  ·have hb12R := hb12; try simp only [z1, z2, z3, z4, z5, z6, ne_eq, z7, z8, z9, z10, z11, z12] at hb12
   obtain ⟨x, hx, hd, ht⟩ := get_lt (xs := xs) (i := k) (by omega)
   refine pwp_skip ?_
   refine seq_norm (hK11 _ ?_); clear hK11 K11
   refine pwp_seq_block fun K13 hK13 => ?_
   refine pwp_seq_plain rfl fun K14 hK14 => ?_
   refine p_step rfl (e_move (v := .lit _ _ _) rfl) trivial ?_
   refine p_step rfl (e_move (v := .sc _) rfl) trivial ?_
   refine p_step rfl (e_ixa rfl rfl (by kernel_rfl) (by kernel_rfl) (by first | omega | (simp only [List.length_map]; omega))) trivial ?_
   refine p_step rfl (e_loadA (n := 6) rfl (by kernel_rfl) (by kernel_rfl) (by kernel_rfl) (by first | omega | (simp only [List.length_map]; omega)) (by decide) (by first | exact agg_map hx rfl)) trivial ?_
   refine p_new rfl (e_alloc (cs := [.str ByteArray.empty, .str ByteArray.empty, .int 0, .int 0, .int 0, .nil]) (n := 6) (by kernel_rfl) rfl (by decide)) (ob_alloc (by decide)) ?_
   refine p_store rfl (e_storeA rfl (hset_self _ _ _) rfl rfl rfl (by kernel_rfl) rfl (by kernel_rfl)) trivial ?_
   refine p_end (hK14 _ ?_); clear hK14 K14
   refine pwp_seq_plain rfl fun K15 hK15 => ?_
   refine p_step rfl (e_faP (pl := [(0, 1, false), (1, 1, false), (2, 1, false), (3, 1, false), (4, 1, false), (5, 1, false)]) rfl (by kernel_rfl) (by kernel_rfl) (by decide) rfl) trivial ?_
   refine p_store rfl (e_store1 (v := .nil) rfl (hset_self _ _ _) rfl rfl rfl (by decide) (by kernel_rfl) rfl (by kernel_rfl)) trivial ?_
   refine p_end (hK15 _ ?_); clear hK15 K15
   refine pwp_seq_seq ?_
   refine pwp_seq_plain rfl fun K16 hK16 => ?_
   refine p_step rfl (e_assign (v := .sc _) rfl) trivial ?_
   refine p_end (hK16 _ ?_); clear hK16 K16
   refine pwp_seq_block fun K17 hK17 => ?_
   refine pwp_loopR (α := Nat × PV) [0, 3, 4, 5] (fun (a18 : Nat × PV) => [(6, .int (a18.1))]) (fun (a18 : Nat × PV) (h : Heap) (_ : Nat → Nat) => ((a18.1) ≤ xs.length) ∧ (NP h 35 1 ci (vs ++ [(a18.2)]) (usF (ndX xs) k ++ [usP (ndX xs) (a18.1) k])) ∧ (SliceAt h 40 v 6 ((rowsR xs vs))) ∧ (h (5, c8 5) = some (.rows 6 [rowV x (a18.2)]))) (fun (a18 : Nat × PV) => xs.length - (a18.1)) (0, .nil) (by exact ⟨rfl, trivial⟩) (by exact ⟨by exact Nat.zero_le _, by exact (NP.snocNil hnp).keep fun g => (hset_ne (key_ne rfl)).trans ((hset_ne (key_ne rfl)).trans ((hset_ne (key_ne rfl)).trans (rfl))), (hihj9_0.keep fun _ => (hset_ne (key_ne rfl)).trans ((hset_ne (key_ne rfl)).trans ((hset_ne (key_ne rfl)).trans (rfl)))), (hset_self _ _ _)⟩) fun a18 r19 h20 c21 hj22 => ?_
   obtain ⟨j, w⟩ := a18
   obtain ⟨hj, hnp, hihj22_0, hihj22_1⟩ := hj22
   try dsimp only at hj
   try dsimp only at hnp
   try dsimp only at hihj22_0
   try dsimp only at hihj22_1
   show pwp _ _ (loopQ _ _ _) ⟨sets (mix _ _ _) [(6, .int j)], _, _⟩
   refine pwp_seq_seq ?_
   refine pwp_seq_plain rfl fun K23 hK23 => ?_
   refine p_step rfl (e_move (v := .sc _) rfl) trivial ?_
   refine p_step rfl (e_move (v := .lit _ _ _) rfl) trivial ?_
   refine p_step rfl (e_len rfl (by kernel_rfl)) trivial ?_
   refine p_step rfl (e_lt rfl rfl) trivial ?_
   refine p_end (hK23 _ ?_); clear hK23 K23
   refine pwp_seq_cond rfl fun K24 hK24 => ⟨fun hb25 => ?_, fun hb25 => ?_⟩
   ·have hb25R := hb25; try simp only [z1, z2, z3, z4, z5, z6, ne_eq, z7, z8, z9, z10, z11, z12] at hb25
    obtain ⟨y, hy, hdy, hty⟩ := get_lt (xs := xs) (i := j) (by omega)
    have hyl := hn y (List.mem_of_getElem? hy)
    refine pwp_skip ?_
    refine seq_norm (hK24 _ ?_); clear hK24 K24
    refine pwp_seq_block fun K26 hK26 => ?_
    refine pwp_seq_plain rfl fun K27 hK27 => ?_
    refine p_step rfl (e_move (v := .lit _ _ _) rfl) trivial ?_
    refine p_step rfl (e_move (v := .sc _) rfl) trivial ?_
    refine p_step rfl (e_ixa rfl rfl (by kernel_rfl) (by kernel_rfl) (by first | omega | (simp only [List.length_map]; omega))) trivial ?_
    refine p_step rfl (e_fa (pl := [(0, 1, false), (1, 1, false), (2, 1, false), (3, 1, false), (4, 1, false), (5, 1, false)]) rfl (by kernel_rfl) (by kernel_rfl) (by decide) rfl) trivial ?_
    refine p_step rfl (e_load (v := .lit _ _ _) rfl (by kernel_rfl) (by kernel_rfl) (by kernel_rfl) (by first | omega | (simp only [List.length_map]; omega)) (by decide) ((cell_map hy _).trans rfl)) trivial ?_
    refine p_step rfl (e_move (v := .sc _) rfl) trivial ?_
    refine p_call rfl (.cons inn_lit (.cons inn_sc .nil)) (HasC _ _ (by omega)) ?_
    refine p_end (hK27 _ ?_); clear hK27 K27
    refine pwp_cond rfl (fun hb28 => ?_) (fun hb28 => ?_)
    ·have hb28R := hb28; try simp only [z1, z2, z3, z4, z5, z6, ne_eq, z7, z8, z9, z10, z11, z12] at hb28
     refine pwp_plainK rfl fun hkn K29 hK29 => ?_
     have hfs := hkn.fresh 35
     have hpl := usP_le (nd := (ndX xs)) (j := j) (k := k)
     refine p_step rfl (e_faP (pl := [(0, 1, false), (1, 1, false), (2, 1, false), (3, 1, false), (4, 1, false), (5, 1, false)]) rfl (by kernel_rfl) (by kernel_rfl) (by decide) rfl) trivial ?_
     refine p_step rfl (e_loadH (v := w) rfl hihj22_1 (by kernel_rfl) (by kernel_rfl) (by kernel_rfl) (by exact Nat.zero_lt_one) (by decide) rfl) trivial ?_
     refine p_step rfl (e_move (v := .sc _) rfl) trivial ?_
     refine p_new rfl (e_bslice (rows := [ci (j : Int)]) (zs := [.int 0]) (sz := 1) (by kernel_rfl) (by kernel_rfl) rfl (by kernel_rfl) (by decide) rfl rfl (by exact ⟨by decide, rfl, rfl, trivial⟩) rfl) trivial ?_
     have hul := NP.last hnp
     refine p_appK (u := w) (sz := 1) (d1 := 35) (rows := (usP (ndX xs) j k).map ci) (rows2 := [ci (j : Int)]) rfl rfl rfl (hul.keep fun g => hset_ne (key_ne rfl)) (src_ref (hset_self _ _ _) rfl) (by kernel_rfl) (by simp only [List.length_map, List.length_cons, List.length_nil]; omega) (by simp) fun h1 hr1 hf1 => ?_
     have ho1 := (hf1 (5, _) (key_ne rfl) (fun _ _ => key_ne rfl)).trans ((hset_ne (key_ne rfl)).trans hihj22_1)
     have hv1 := (hihj22_0.keep fun g => (hf1 (40, g) (key_ne rfl) (fun _ _ => key_ne rfl)).trans (hset_ne (key_ne rfl)))
     refine p_step rfl (e_faP (pl := [(0, 1, false), (1, 1, false), (2, 1, false), (3, 1, false), (4, 1, false), (5, 1, false)]) rfl (by kernel_rfl) (by kernel_rfl) (by decide) rfl) trivial ?_
     refine p_store rfl (e_store1 rfl ho1 rfl rfl rfl (by decide) (by kernel_rfl) rfl (by kernel_rfl)) trivial ?_
     have hnp2 := (hnp.keep (fun g => hset_ne (key_ne rfl))).app (Fresh.keep (d := 35) hfs (fun g => hset_ne (key_ne rfl)) rfl) (i := vs.length) (l' := usP (ndX xs) j k ++ [(j : Int)]) (v' := .ref (35, _) 1 0 (((usP (ndX xs) j k).map ci).length + [ci (j : Int)].length)) (get_last rfl) (get_last (by rw [usF_len]; exact hvl.symm)) (congrArg (PV.ref _ 1 0) (by simp only [List.length_map, List.length_append, List.length_cons, List.length_nil])) (hr1.trans (by rw [List.map_append]; rfl)) (fun k' q1 q2 => hf1 k' q1 (fun g e => q2 g (by rw [e, List.length_map])))
     rw [set_last rfl, set_last (by rw [usF_len]; exact hvl.symm), usP_t (by rw [ndX_at hy]; assumption)] at hnp2
     refine p_end (hK29 _ ?_); clear hK29 K29
     refine block_norm ?_
     refine seq_norm (hK26 _ ?_); clear hK26 K26
     refine pwp_plain rfl fun K30 hK30 => ?_
     refine p_step rfl (e_move (v := .sc _) rfl) trivial ?_
     refine p_step rfl (e_add rfl rfl (by first | omega | (simp only [List.length_map] at *; omega))) trivial ?_
     refine p_step rfl (e_assign (v := .sc _) rfl) trivial ?_
     refine p_end (hK30 _ ?_); clear hK30 K30
     exact loop_again ((j + 1, _)) (by show _ < _; simp only; omega) ⟨rfl, rfl, rfl, rfl, trivial⟩ ⟨rfl, trivial⟩ (by exact ⟨by show _ + 1 ≤ _; simp only [List.length_map] at *; omega, by first | exact hnp2.keep fun g => hset_ne (key_ne rfl) | (show NP _ 35 1 ci _ _; rw [← usP_f (by rw [ndX_at hy]; assumption)]; exact hnp), (hv1.keep fun _ => (hset_ne (key_ne rfl)).trans (rfl)), (hset_self _ _ _)⟩)
    ·have hb28R := hb28; try simp only [z1, z2, z3, z4, z5, z6, ne_eq, z7, z8, z9, z10, z11, z12] at hb28
     refine pwp_skip ?_
     refine block_norm ?_
     refine seq_norm (hK26 _ ?_); clear hK26 K26
     refine pwp_plain rfl fun K31 hK31 => ?_
     refine p_step rfl (e_move (v := .sc _) rfl) trivial ?_
     refine p_step rfl (e_add rfl rfl (by first | omega | (simp only [List.length_map] at *; omega))) trivial ?_
     refine p_step rfl (e_assign (v := .sc _) rfl) trivial ?_
     refine p_end (hK31 _ ?_); clear hK31 K31
     exact loop_again ((j + 1, _)) (by show _ < _; simp only; omega) ⟨rfl, rfl, rfl, rfl, trivial⟩ ⟨rfl, trivial⟩ (by exact ⟨by show _ + 1 ≤ _; simp only [List.length_map] at *; omega, by first | exact hnp2.keep fun g => hset_ne (key_ne rfl) | (show NP _ 35 1 ci _ _; rw [← usP_f (by rw [ndX_at hy]; assumption)]; exact hnp), hihj22_0, hihj22_1⟩)
   ·have hb25R := hb25; try simp only [z1, z2, z3, z4, z5, z6, ne_eq, z7, z8, z9, z10, z11, z12] at hb25
    have hjx : j = xs.length := by simp only [List.length_map] at *; omega
    refine pwp_exit ?_
    refine exit_seq ?_
    clear hK24 K24
    refine exit_loop ?_
    refine exit_here ?_
    refine seq_norm (hK17 _ ?_); clear hK17 K17
    have hwc := SliceAt.cell (NP.last hnp)
    refine pwp_plain rfl fun K32 hK32 => ?_
    refine p_step rfl (e_move (v := v) rfl) trivial ?_
    refine p_step rfl (e_loadHA (n := 6) (cs := rowV x w) rfl hihj22_1 (by kernel_rfl) (by kernel_rfl) (by kernel_rfl) (by exact Nat.zero_lt_one) (by decide) rfl) trivial ?_
    refine p_new rfl (e_bslice (rows := [rowV x w]) (zs := [.str ByteArray.empty, .str ByteArray.empty, .int 0, .int 0, .int 0, .nil]) (sz := 6) (by kernel_rfl) (by kernel_rfl) rfl (by kernel_rfl) (by decide) rfl rfl (by exact ⟨by decide, rfl, by show (rowV x w).all PV.cell = true; simp only [rowV, List.all_cons, List.all_nil, hwc]; rfl, trivial⟩) rfl) trivial ?_
    refine p_app (d1 := 40) rfl rfl rfl (hihj22_0.keep fun g => hset_ne (key_ne rfl)) (src_ref (hset_self _ _ _) rfl) (by kernel_rfl) (by simp only [rowsR, List.length_zipWith, List.length_cons, List.length_nil]; omega) fun v2 h2 c2 hs2 hf2 => ?_
    rw [← rowsR_snoc (hvl ▸ hx)] at hs2
    have hnp3 := hnp.keep fun g => (hf2 (35, g) (key_ne rfl) (fun _ _ => key_ne rfl)).trans (hset_ne (key_ne rfl))
    refine p_step rfl (e_assign (v := v2) rfl) trivial ?_
    refine p_end (hK32 _ ?_); clear hK32 K32
    refine block_norm ?_
    refine seq_norm (hK13 _ ?_); clear hK13 K13
    refine pwp_plain rfl fun K33 hK33 => ?_
    refine p_step rfl (e_move (v := .sc _) rfl) trivial ?_
    refine p_step rfl (e_add rfl rfl (by first | omega | (simp only [List.length_map] at *; omega))) trivial ?_
    refine p_step rfl (e_assign (v := .sc _) rfl) trivial ?_
    refine p_end (hK33 _ ?_); clear hK33 K33
    exact loop_again ((k + 1, v2, vs ++ [w])) (by show _ < _; simp only; omega) ⟨rfl, trivial⟩ ⟨rfl, rfl, trivial⟩ (by exact ⟨by show _ + 1 ≤ _; simp only [List.length_map] at *; omega, by simp [hvl], by (show NP _ 35 1 ci _ _; rw [usF_succ, ← usP_all (k := k) (j := j) (hjx.trans ndX_len.symm)]; exact hnp3), (SliceAt.to hs2 (by rfl))⟩)
  ·have hb12R := hb12; try simp only [z1, z2, z3, z4, z5, z6, ne_eq, z7, z8, z9, z10, z11, z12] at hb12
   have hkx : k = xs.length := by simp only [List.length_map] at *; omega
   refine pwp_exit ?_
   refine exit_seq ?_
   clear hK11 K11
   refine exit_loop ?_
   refine exit_here ?_
   refine seq_norm (hK4 _ ?_); clear hK4 K4
   refine pwp_seq_plain rfl fun K34 hK34 => ?_
   refine p_step rfl (e_move (v := _) rfl) trivial ?_
   refine p_step rfl (e_assign (v := _) rfl) trivial ?_
   refine p_end (hK34 _ ?_); clear hK34 K34
   refine pwp_ret ?_
   refine end1 (v := _) rfl ?_
   exact out_rev (by omega) hihj9_0 (hkx ▸ hnp)

end Go.Proofs.Ytjmjiegplnfiiaa
