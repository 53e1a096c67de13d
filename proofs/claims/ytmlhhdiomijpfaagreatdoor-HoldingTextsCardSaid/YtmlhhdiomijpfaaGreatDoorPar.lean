/- Ties read. No conditions. -/
import Derived.Test.YtmlhhdiomijpfaaGreatDoorPrt
import Derived.Test.YtmlhhdiomijpfaaGreatDoorNbr
import Derived.Test.YtmlhhdiomijpfaaGreatDoorCut
set_option linter.unusedSimpArgs false
set_option linter.unusedVariables false
set_option maxRecDepth 100000
namespace Go.Proofs.YtmlhhdiomijpfaaGreatDoor
open Go Go.Pv Go.Tx
/-! ### Ties read -/
def tieOf (p : Nat × Nat) : Tie := ⟨(p.1 : Int), (p.2 : Int)⟩
def parX (s : ByteArray) : List Tie × Int :=
 if 60000 < s.size then ([], 8) else if s = ⟨#[]⟩ then ([], 0) else if 1800 < (cutB 32 s).length then ([], 7) else match pairsP (cutL 32 (ls s)) with
   | some ps => (ps.map tieOf, 0)
   | none => ([], 7)
theorem par_8 {s : ByteArray} (h : 60000 < s.size) : parX s = ([], 8) := by unfold parX; rw [if_pos h]
theorem par_0 {s : ByteArray} (h : ¬ 60000 < s.size) (h2 : s = ⟨#[]⟩) : parX s = ([], 0) := by unfold parX; rw [if_neg h, if_pos h2]
theorem par_7 {s : ByteArray} (h : ¬ 60000 < s.size) (h2 : ¬ s = ⟨#[]⟩) (h3 : 1800 < (cutB 32 s).length) : parX s = ([], 7) := by unfold parX; rw [if_neg h, if_neg h2, if_pos h3]
theorem par_n {s : ByteArray} (h : ¬ 60000 < s.size) (h2 : ¬ s = ⟨#[]⟩) (h3 : ¬ 1800 < (cutB 32 s).length) (h4 : pairsP (cutL 32 (ls s)) = none) : parX s = ([], 7) := by unfold parX; rw [if_neg h, if_neg h2, if_neg h3, h4]
def ParTo (s : ByteArray) (k : Nat) (ts : List Tie) : Prop := ∃ ps, pairsP ((cutL 32 (ls s)).take k) = some ps ∧ ts = ps.map tieOf
theorem ParTo.start {s : ByteArray} : ParTo s 0 [] := ⟨[], rfl, rfl⟩
theorem cutB_get {c : UInt8} {s x : ByteArray} {k : Nat} (hx : (cutB c s)[k]? = some x) : (cutL c (ls s))[k]? = some (ls x) := by
 unfold cutB at hx
 rw [List.getElem?_map, Option.map_eq_some_iff] at hx
 obtain ⟨w, hw, rfl⟩ := hx
 exact hw
theorem cutB_le {c : UInt8} {s x : ByteArray} {k : Nat} (hx : (cutB c s)[k]? = some x) : x.size ≤ s.size := by
 have := (cutL_mem (List.mem_of_getElem? (cutB_get hx))).1
 rwa [ls_len, ls_len] at this
theorem ParTo.step {s x : ByteArray} {k : Nat} {ts : List Tie} {p : Nat × Nat} (h : ParTo s k ts) (hx : (cutB 32 s)[k]? = some x) (hp : pairP (ls x) = some p) : ParTo s (k + 1) (ts ++ [tieOf p]) := by
 obtain ⟨ps, h1, rfl⟩ := h
 refine ⟨ps ++ [p], ?_, by rw [List.map_append]; rfl⟩
 rw [List.take_add_one, cutB_get hx]
 exact pairs_app _ _ _ _ h1 hp
theorem ParTo.done {s : ByteArray} {k : Nat} {ts : List Tie} (h : ParTo s k ts) (hk : (cutB 32 s).length ≤ k) (h1 : ¬ 60000 < s.size) (h2 : ¬ s = ⟨#[]⟩) (h3 : ¬ 1800 < (cutB 32 s).length) : parX s = (ts, 0) := by
 obtain ⟨ps, h4, rfl⟩ := h
 unfold cutB at hk
 rw [List.length_map] at hk
 rw [List.take_of_length_le hk] at h4
 unfold parX; rw [if_neg h1, if_neg h2, if_neg h3, h4]
def cutA (x : ByteArray) : ByteArray := bs (Lib.cut (ls x) [46]).1
def cutR (x : ByteArray) : ByteArray := bs (Lib.cut (ls x) [46]).2.1
def cutF (x : ByteArray) : Bool := (Lib.cut (ls x) [46]).2.2
theorem cutA_le (x : ByteArray) : (cutA x).size ≤ x.size ∧ (cutR x).size ≤ x.size := by
 unfold cutA cutR
 rw [bs_size, bs_size, ← ls_len x]
 by_cases h : (46 : UInt8) ∈ ls x
 · obtain ⟨p, r, hp, e⟩ := mem_cut h
   rw [e, cut_hit hp]; simp; omega
 · rw [cut_miss h]; simp
theorem ParTo.next {s x : ByteArray} {k : Nat} {ts : List Tie} (h : ParTo s k ts) (hx : (cutB 32 s)[k]? = some x) (h1 : numB (ls (cutA x)) = true) (h2 : numB (ls (cutR x)) = true) : ParTo s (k + 1) (ts ++ [⟨numN (ls (cutA x)), numN (ls (cutR x))⟩]) := by
 cases hp : pairP (ls x) with
 | none =>
   rcases code_no hp with q | q
   · exact absurd (q.symm.trans h1) (by decide)
   · exact absurd (q.symm.trans h2) (by decide)
 | some p =>
   obtain ⟨i, j⟩ := p
   have hy := code_yes hp
   have := h.step hx hp
   have e1 : numN (ls (cutA x)) = (i : Int) := hy.1.2
   have e2 : numN (ls (cutR x)) = (j : Int) := hy.2.2
   rw [e1, e2]; exact this
theorem par_bad {s x : ByteArray} {k : Nat} (hx : (cutB 32 s)[k]? = some x) (h : numB (ls (cutA x)) = false ∨ numB (ls (cutR x)) = false) : pairsP (cutL 32 (ls s)) = none := by
 refine pairs_bad (List.mem_of_getElem? (cutB_get hx)) ?_
 cases hp : pairP (ls x) with
 | none => rfl
 | some p =>
   obtain ⟨i, j⟩ := p
   have hy := code_yes hp
   rcases h with q | q
   · exact absurd (q.symm.trans hy.1.1) (by decide)
   · exact absurd (q.symm.trans hy.2.1) (by decide)
theorem cut_two {x : ByteArray} (h : (cutB 46 x).length = 2) : ∃ a b, (cutB 46 x)[0]? = some a ∧ (cutB 46 x)[1]? = some b ∧ cutL 46 (ls x) = [ls a, ls b] ∧ a.size ≤ x.size ∧ b.size ≤ x.size := by
 have h0 : (cutB 46 x)[0]? = some ((cutB 46 x)[0]'(by omega)) := List.getElem?_eq_getElem _
 have h1 : (cutB 46 x)[1]? = some ((cutB 46 x)[1]'(by omega)) := List.getElem?_eq_getElem _
 refine ⟨_, _, h0, h1, ?_, cutB_le h0, cutB_le h1⟩
 have g0 := cutB_get h0
 have g1 := cutB_get h1
 have hl : (cutL 46 (ls x)).length = 2 := by unfold cutB at h; rwa [List.length_map] at h
 match hc : cutL 46 (ls x), hl with
 | [u, v], _ =>
   rw [hc] at g0 g1
   simp only [List.getElem?_cons_zero, List.getElem?_cons_succ, Option.some.injEq] at g0 g1
   rw [← g0, ← g1]
theorem ParTo.nextR {s x a b : ByteArray} {k : Nat} {ts : List Tie} (h : ParTo s k ts) (hx : (cutB 32 s)[k]? = some x) (hc : cutL 46 (ls x) = [ls a, ls b]) (h1 : (refNum 2 (ls a)).2 = true) (h2 : (refNum 2 (ls b)).2 = true) (h3 : ¬ (refNum 2 (ls a)).1 < 0) (h4 : ¬ (refNum 2 (ls b)).1 < 0) : ParTo s (k + 1) (ts ++ [⟨(refNum 2 (ls a)).1, (refNum 2 (ls b)).1⟩]) := by
 cases hp : pairP (ls x) with
 | none =>
   rcases pair_no hp hc with q | q
   · rcases ref_no q with q | q
     · exact absurd (q.symm.trans h1) (by decide)
     · exact absurd q h3
   · rcases ref_no q with q | q
     · exact absurd (q.symm.trans h2) (by decide)
     · exact absurd q h4
 | some p =>
   obtain ⟨a', b', e, n1, n2⟩ := pair_len hp
   rw [hc] at e
   injection e with e1 e2; injection e2 with e2 _
   rw [← e1] at n1; rw [← e2] at n2
   have := h.step hx hp
   rw [ref_yes n1, ref_yes n2]; exact this
theorem par_badR {s x a b : ByteArray} {k : Nat} (hx : (cutB 32 s)[k]? = some x) (hc : cutL 46 (ls x) = [ls a, ls b]) (h : (refNum 2 (ls a)).2 = false ∨ (refNum 2 (ls b)).2 = false ∨ (refNum 2 (ls a)).1 < 0 ∨ (refNum 2 (ls b)).1 < 0) : pairsP (cutL 32 (ls s)) = none := by
 refine pairs_bad (List.mem_of_getElem? (cutB_get hx)) ?_
 cases hp : pairP (ls x) with
 | none => rfl
 | some p =>
   obtain ⟨a', b', e, n1, n2⟩ := pair_len hp
   rw [hc] at e
   injection e with e1 e2; injection e2 with e2 _
   rw [← e1] at n1; rw [← e2] at n2
   rw [ref_yes n1, ref_yes n2] at h
   rcases h with q | q | q | q
   · cases q
   · cases q
   · simp only at q; omega
   · simp only at q; omega
theorem par_badL {s x : ByteArray} {k : Nat} (hx : (cutB 32 s)[k]? = some x) (h : ¬ (cutB 46 x).length = 2) : pairsP (cutL 32 (ls s)) = none := by
 refine pairs_bad (List.mem_of_getElem? (cutB_get hx)) ?_
 cases hp : pairP (ls x) with
 | none => rfl
 | some p =>
   obtain ⟨a', b', e, _, _⟩ := pair_len hp
   exact absurd (by unfold cutB; rw [e]; rfl) h
theorem tie_clean (a : Tie) : ∀ p ∈ a.enc, Go.Pv.Clean p ∧ p.cell = true := fun p hp => by
 simp only [Tie.enc, List.mem_cons, List.not_mem_nil, or_false] at hp
 rcases hp with rfl | rfl <;> exact ⟨.sc _, rfl⟩
theorem par_oe {h : Heap} {e : Int} {x : List Tie × Int} (hx : x = ([], e)) : Out h (.tup [.nil, .int e]) (.tup [.lit false 2 (x.1.map Tie.enc), .int x.2]) := by
 subst hx; exact out_2 (.nil 2) (out_i rfl)
theorem par_o {h : Heap} {v : PV} {d : Nat} {x : List Tie × Int} {l : List Tie} (hv : SliceAt h d v 2 (l.map Tie.enc)) (hx : x = (l, 0)) : Out h (.tup [v, .int 0]) (.tup [.lit false 2 (x.1.map Tie.enc), .int x.2]) := by
 subst hx; exact out_2 (out_slice hv rfl (fun _ => rfl) tie_clean) (out_i rfl)
theorem splitC (s : ByteArray) (hs : s.size ≤ 1000000) : PCalls Tryz.prog 30 [.str s, .str ⟨#[32]⟩] (.lit false 1 ((cutB 32 s).map cb)) := splitP s 32 (by omega)
theorem cutC (x : ByteArray) (hs : x.size ≤ 1000000) : PCalls Tryz.prog 31 [.str x, .str ⟨#[46]⟩] (.tup [.str (cutA x), .str (cutR x), .bool (cutF x)]) := cutP x 46 (by omega)

theorem fr8 : (inFrame Tryz.f8.ntmps (Tryz.f8.body.getD .skip) && Tryz.f8.results.toList.all (resScope Tryz.f8.ntmps)) = true := by kernel_rfl
theorem ParseC (s : ByteArray) (hs : s.size ≤ 1000000) : PCalls Tryz.prog 8 [.str s] (.tup [.lit false 2 ((parX s).1.map Tie.enc), .int (parX s).2]) := by
 refine PCalls.of_code Tryz.func8 rfl rfl (by kernel_rfl) mixed fr8 (by show _ ≤ 61; simp) (pure_2 (.lit _ _ _ fun row hr => pure_map Tie.pure row hr) (.sc _)) ?_
 refine pwp_seq_plain rfl fun K1 hK1 => ?_
 refine p_e rfl (e_assign (v := .nil) rfl) ?_
 refine p_aS rfl ?_
 refine p_end (hK1 _ ?_); clear hK1 K1
 refine pwp_seq_seq ?_
 refine pwp_seq_plain rfl fun K2 hK2 => ?_
 refine p_mS rfl ?_
 refine p_e rfl (e_lenS rfl (by kernel_rfl)) ?_
 refine p_e rfl (e_gt rfl rfl) ?_
 refine p_end (hK2 _ ?_); clear hK2 K2
 refine pwp_seq_cond rfl fun K3 hK3 => ⟨fun hb4 => ?_, fun hb4 => ?_⟩
 ·have hb4R := hb4; try simp only [zz] at hb4
  refine pwp_seq_plain rfl fun K5 hK5 => ?_
  refine p_e rfl (e_assign (v := .nil) rfl) ?_
  refine p_aS rfl ?_
  refine p_end (hK5 _ ?_); clear hK5 K5
  refine pwp_ret ?_
  refine ret_seq ?_
  refine end2 (v := .nil) (w := .sc _) rfl rfl ?_
  first
    | exact par_oe (par_8 (by omega))
    | exact par_oe (par_0 (by omega) (by assumption))
    | exact par_oe (par_7 (by omega) (by assumption) (by first | omega | (simp only [List.length_map] at *; omega)))
    | exact par_oe (par_n (by omega) (by assumption) (by first | omega | (simp only [List.length_map] at *; omega)) (par_bad hx (.inl (by assumption))))
    | exact par_oe (par_n (by omega) (by assumption) (by first | omega | (simp only [List.length_map] at *; omega)) (par_bad hx (.inr (by assumption))))
 ·have hb4R := hb4; try simp only [zz] at hb4
  refine pwp_skip ?_
  refine seq_norm (hK3 _ ?_); clear hK3 K3
  refine pwp_seq_seq ?_
  refine pwp_seq_plain rfl fun K6 hK6 => ?_
  refine p_mS rfl ?_
  refine p_e rfl (e_seq rfl rfl) ?_
  refine p_end (hK6 _ ?_); clear hK6 K6
  refine pwp_seq_cond rfl fun K7 hK7 => ⟨fun hb8 => ?_, fun hb8 => ?_⟩
  ·have hb8R := hb8; try simp only [zz] at hb8
   refine pwp_seq_plain rfl fun K9 hK9 => ?_
   refine p_e rfl (e_assign (v := .nil) rfl) ?_
   refine p_aS rfl ?_
   refine p_end (hK9 _ ?_); clear hK9 K9
   refine pwp_ret ?_
   refine ret_seq ?_
   refine end2 (v := .nil) (w := .sc _) rfl rfl ?_
   first
     | exact par_oe (par_8 (by omega))
     | exact par_oe (par_0 (by omega) (by assumption))
     | exact par_oe (par_7 (by omega) (by assumption) (by first | omega | (simp only [List.length_map] at *; omega)))
     | exact par_oe (par_n (by omega) (by assumption) (by first | omega | (simp only [List.length_map] at *; omega)) (par_bad hx (.inl (by assumption))))
     | exact par_oe (par_n (by omega) (by assumption) (by first | omega | (simp only [List.length_map] at *; omega)) (par_bad hx (.inr (by assumption))))
  ·have hb8R := hb8; try simp only [zz] at hb8
   refine pwp_skip ?_
   refine seq_norm (hK7 _ ?_); clear hK7 K7
   refine pwp_seq_plain rfl fun K10 hK10 => ?_
   refine p_mS rfl ?_
   refine p_call rfl (.cons inn_sc (.cons inn_sc .nil)) (splitC s (by omega)) ?_
   refine p_e rfl (e_assign (v := .lit _ _ _) rfl) ?_
   refine p_end (hK10 _ ?_); clear hK10 K10
   refine pwp_seq_seq ?_
   refine pwp_seq_plain rfl fun K11 hK11 => ?_
   refine p_e rfl (e_move (v := .lit _ _ _) rfl) ?_
   refine p_e rfl (e_len rfl (by kernel_rfl)) ?_
   refine p_e rfl (e_gt rfl rfl) ?_
   refine p_end (hK11 _ ?_); clear hK11 K11
   refine pwp_seq_cond rfl fun K12 hK12 => ⟨fun hb13 => ?_, fun hb13 => ?_⟩
   ·have hb13R := hb13; try simp only [zz] at hb13
    refine pwp_seq_plain rfl fun K14 hK14 => ?_
    refine p_e rfl (e_assign (v := .nil) rfl) ?_
    refine p_aS rfl ?_
    refine p_end (hK14 _ ?_); clear hK14 K14
    refine pwp_ret ?_
    refine ret_seq ?_
    refine end2 (v := .nil) (w := .sc _) rfl rfl ?_
    first
      | exact par_oe (par_8 (by omega))
      | exact par_oe (par_0 (by omega) (by assumption))
      | exact par_oe (par_7 (by omega) (by assumption) (by first | omega | (simp only [List.length_map] at *; omega)))
      | exact par_oe (par_n (by omega) (by assumption) (by first | omega | (simp only [List.length_map] at *; omega)) (par_bad hx (.inl (by assumption))))
      | exact par_oe (par_n (by omega) (by assumption) (by first | omega | (simp only [List.length_map] at *; omega)) (par_bad hx (.inr (by assumption))))
   ·have hb13R := hb13; try simp only [zz] at hb13
    refine pwp_skip ?_
    refine seq_norm (hK12 _ ?_); clear hK12 K12
    refine pwp_seq_plain rfl fun K15 hK15 => ?_
    refine p_e rfl (e_assign (v := .nil) rfl) ?_
    refine p_end (hK15 _ ?_); clear hK15 K15
    refine pwp_seq_seq ?_
    refine pwp_seq_plain rfl fun K16 hK16 => ?_
    refine p_e rfl (e_move (v := .lit _ _ _) rfl) ?_
    refine p_e rfl (e_len rfl (by kernel_rfl)) ?_
    refine p_mS rfl ?_
    refine p_end (hK16 _ ?_); clear hK16 K16
    refine pwp_seq_block fun K17 hK17 => ?_
    refine pwp_loopR (α := Nat × (List Tie) × PV) [25, 26] (fun (a18 : Nat × (List Tie) × PV) => [(5, (a18.2.2)), (27, .int (a18.1))]) (fun (a18 : Nat × (List Tie) × PV) (h : Heap) (_ : Nat → Nat) => ((a18.1) ≤ (cutB 32 s).length) ∧ ((a18.2.1).length = (a18.1)) ∧ (ParTo s (a18.1) (a18.2.1)) ∧ (SliceAt h 58 (a18.2.2) 2 ((a18.2.1).map Tie.enc))) (fun (a18 : Nat × (List Tie) × PV) => (cutB 32 s).length - (a18.1)) (0, [], .nil) (by exact ⟨rfl, rfl, trivial⟩) (by exact ⟨by exact Nat.zero_le _, by exact rfl, by exact ParTo.start, .nil⟩) fun a18 r19 h20 c21 hj22 => ?_
    obtain ⟨k, ts, v⟩ := a18
    obtain ⟨hk, htl, hpt, hihj22_0⟩ := hj22
    try dsimp only at hk
    try dsimp only at htl
    try dsimp only at hpt
    try dsimp only at hihj22_0
    show pwp _ _ (loopQ _ _ _) ⟨sets (mix _ _ _) [(5, v), (27, .int k)], _, _⟩
    refine pwp_seq_plain rfl fun K23 hK23 => ?_
    refine p_e rfl (e_lt rfl rfl) ?_
    refine p_end (hK23 _ ?_); clear hK23 K23
    refine pwp_seq_cond rfl fun K24 hK24 => ⟨fun hb25 => ?_, fun hb25 => ?_⟩
    ·have hb25R := hb25; try simp only [zz] at hb25
     obtain ⟨x, hx⟩ : ∃ x, (cutB 32 s)[k]? = some x := ⟨_, List.getElem?_eq_getElem (by first | omega | (simp only [List.length_map] at *; omega))⟩
     have hxs := cutB_le hx
     have hca := cutA_le x
     refine pwp_skip ?_
     refine seq_norm (hK24 _ ?_); clear hK24 K24
     refine pwp_seq_block fun K26 hK26 => ?_
     refine pwp_seq_plain rfl fun K27 hK27 => ?_
     refine p_e rfl (e_ixL rfl rfl) ?_
     refine p_e rfl (e_load (v := .sc _) rfl (by kernel_rfl) (by kernel_rfl) (by kernel_rfl) (by first | omega | (simp only [List.length_map]; omega)) (by decide) ((cell_map hx _).trans rfl)) ?_
     refine p_aS rfl ?_
     refine p_end (hK27 _ ?_); clear hK27 K27
     refine pwp_seq_plain rfl fun K28 hK28 => ?_
     refine p_mS rfl ?_
     refine p_call rfl (.cons inn_sc (.cons inn_sc .nil)) (cutC x (by omega)) ?_
     refine p_e rfl (e_move (v := .tup _) rfl) ?_
     refine p_e rfl (e_ext (v := .sc _) rfl (by simp) rfl) ?_
     refine p_e rfl (e_ext (v := .sc _) rfl (by simp) rfl) ?_
     refine p_e rfl (e_ext (v := .sc _) rfl (by simp) rfl) ?_
     refine p_aS rfl ?_
     refine p_aS rfl ?_
     refine p_aS rfl ?_
     refine p_end (hK28 _ ?_); clear hK28 K28
     refine pwp_seq_plain rfl fun K29 hK29 => ?_
     refine p_mS rfl ?_
     refine p_call rfl (.cons inn_sc .nil) (numberC _ (by omega)) ?_
     refine p_e rfl (e_move (v := .tup _) rfl) ?_
     refine p_e rfl (e_ext (v := .sc _) rfl (by simp) rfl) ?_
     refine p_e rfl (e_ext (v := .sc _) rfl (by simp) rfl) ?_
     refine p_aS rfl ?_
     refine p_aS rfl ?_
     refine p_end (hK29 _ ?_); clear hK29 K29
     refine pwp_seq_plain rfl fun K30 hK30 => ?_
     refine p_mS rfl ?_
     refine p_call rfl (.cons inn_sc .nil) (numberC _ (by omega)) ?_
     refine p_e rfl (e_move (v := .tup _) rfl) ?_
     refine p_e rfl (e_ext (v := .sc _) rfl (by simp) rfl) ?_
     refine p_e rfl (e_ext (v := .sc _) rfl (by simp) rfl) ?_
     refine p_aS rfl ?_
     refine p_aS rfl ?_
     refine p_end (hK30 _ ?_); clear hK30 K30
     refine pwp_seq_seq ?_
     refine pwp_seq_gops rfl fun K31 hK31 => ?_
     refine g_begin ?_
     refine g_mS rfl rfl ?_
     refine g_e rfl (e_not rfl) ?_
     refine g_mS rfl rfl ?_
     refine g_cases (fun hb32 => ?_) (fun hb32 => ?_)
     ·have hb32R := hb32; try simp only [zz] at hb32
      iterate 2 refine g_skip rfl rfl rfl ?_
      refine g_pT rfl rfl rfl ?_
      refine g_end (ds := [50, 51]) rfl rfl (hK31 _ ?_); clear hK31 K31
      refine pwp_seq_cond (t := true) rfl fun K33 hK33 => ⟨fun _ => ?_, nofun⟩
      refine pwp_seq_plain rfl fun K34 hK34 => ?_
      refine p_e rfl (e_assign (v := .nil) rfl) ?_
      refine p_aS rfl ?_
      refine p_end (hK34 _ ?_); clear hK34 K34
      refine pwp_ret ?_
      refine ret_seq ?_
      refine ret_block ?_
      refine ret_seq ?_
      refine ret_loop ?_
      refine ret_block ?_
      refine ret_seq ?_
      refine end2 (v := .nil) (w := .sc _) rfl rfl ?_
      first
        | exact par_oe (par_8 (by omega))
        | exact par_oe (par_0 (by omega) (by assumption))
        | exact par_oe (par_7 (by omega) (by assumption) (by first | omega | (simp only [List.length_map] at *; omega)))
        | exact par_oe (par_n (by omega) (by assumption) (by first | omega | (simp only [List.length_map] at *; omega)) (par_bad hx (.inl (by assumption))))
        | exact par_oe (par_n (by omega) (by assumption) (by first | omega | (simp only [List.length_map] at *; omega)) (par_bad hx (.inr (by assumption))))
        | exact par_o hihj22_0 (hpt.done hke (by omega) (by assumption) (by first | omega | (simp only [List.length_map] at *; omega)))
     ·have hb32R := hb32; try simp only [zz] at hb32
      refine g_mS rfl rfl ?_
      refine g_e rfl (e_not rfl) ?_
      refine g_pF rfl rfl rfl ?_
      refine g_end (ds := [50, 51]) rfl rfl (hK31 _ ?_); clear hK31 K31
      refine pwp_seq_cond rfl fun K35 hK35 => ⟨fun hb36 => ?_, fun hb36 => ?_⟩
      ·have hb36R := hb36; try simp only [zz] at hb36
       refine pwp_seq_plain rfl fun K37 hK37 => ?_
       refine p_e rfl (e_assign (v := .nil) rfl) ?_
       refine p_aS rfl ?_
       refine p_end (hK37 _ ?_); clear hK37 K37
       refine pwp_ret ?_
       refine ret_seq ?_
       refine ret_block ?_
       refine ret_seq ?_
       refine ret_loop ?_
       refine ret_block ?_
       refine ret_seq ?_
       refine end2 (v := .nil) (w := .sc _) rfl rfl ?_
       first
         | exact par_oe (par_8 (by omega))
         | exact par_oe (par_0 (by omega) (by assumption))
         | exact par_oe (par_7 (by omega) (by assumption) (by first | omega | (simp only [List.length_map] at *; omega)))
         | exact par_oe (par_n (by omega) (by assumption) (by first | omega | (simp only [List.length_map] at *; omega)) (par_bad hx (.inl (by assumption))))
         | exact par_oe (par_n (by omega) (by assumption) (by first | omega | (simp only [List.length_map] at *; omega)) (par_bad hx (.inr (by assumption))))
         | exact par_o hihj22_0 (hpt.done hke (by omega) (by assumption) (by first | omega | (simp only [List.length_map] at *; omega)))
      ·have hb36R := hb36; try simp only [zz] at hb36
       refine pwp_skip ?_
       refine seq_norm (hK35 _ ?_); clear hK35 K35
       refine pwp_plain rfl fun K38 hK38 => ?_
       refine p_e rfl (e_move (v := _) rfl) ?_
       refine p_mS rfl ?_
       refine p_mS rfl ?_
       refine p_e rfl (e_build (cs := Tie.enc (⟨(numN (ls (cutA x))), (numN (ls (cutR x)))⟩ : Tie)) (zs := [.int 0, .int 0]) (pl := [(0, 1, false), (1, 1, false)]) (by kernel_rfl) (by kernel_rfl) (by kernel_rfl) rfl rfl (by exact ⟨by decide, rfl, Nat.le_of_ble_eq_true rfl, rfl, ⟨by decide, rfl, Nat.le_of_ble_eq_true rfl, rfl, trivial⟩⟩) rfl) ?_
       refine p_new rfl (e_bslice (rows := [Tie.enc ⟨numN (ls (cutA x)), numN (ls (cutR x))⟩]) (zs := [.int 0, .int 0]) (sz := 2) (by kernel_rfl) (by kernel_rfl) rfl (by kernel_rfl) (by decide) rfl rfl (by exact ⟨by decide, rfl, rfl, trivial⟩) rfl) trivial ?_
       refine p_app rfl rfl rfl (hihj22_0.keep fun _ => (hset_ne (key_ne rfl)).trans (rfl)) (src_ref (hset_self _ _ _) rfl) (by kernel_rfl) (by simp only [List.length_append, List.length_map, List.length_nil, List.length_cons]; omega) fun v39 h40 c41 hs42 hf43 => ?_
       have ho44 := (hf43 (57, _) (key_ne rfl) (fun _ _ => key_ne rfl)).trans (hset_self _ _ _)
       refine p_e rfl (e_assign (v := _) rfl) ?_
       refine p_end (hK38 _ ?_); clear hK38 K38
       refine block_norm ?_
       refine seq_norm (hK26 _ ?_); clear hK26 K26
       refine pwp_plain rfl fun K45 hK45 => ?_
       refine p_e rfl (e_adL rfl rfl) ?_
       refine p_mS rfl ?_
       refine p_end (hK45 _ ?_); clear hK45 K45
       exact loop_again ((k + 1, ts ++ [⟨numN (ls (cutA x)), numN (ls (cutR x))⟩], v39)) (by show _ < _; simp only; omega) ⟨rfl, rfl, trivial⟩ ⟨rfl, rfl, trivial⟩ (by exact ⟨by show _ + 1 ≤ _; first | omega | (simp only [List.length_map] at *; omega), by (simp only [List.length_append, List.length_cons, List.length_nil]; omega), by exact hpt.next hx (by first | assumption | simp_all) (by first | assumption | simp_all), (SliceAt.to hs42 (by first | rfl | (simp only [List.map_append, List.map_cons, List.map_nil] <;> rfl)))⟩)
    ·have hb25R := hb25; try simp only [zz] at hb25
     have hke : (cutB 32 s).length ≤ k := by first | omega | (simp only [List.length_map] at *; omega)
     refine pwp_exit ?_
     refine exit_seq ?_
     clear hK24 K24
     refine exit_loop ?_
     refine exit_here ?_
     refine seq_norm (hK17 _ ?_); clear hK17 K17
     refine pwp_seq_plain rfl fun K46 hK46 => ?_
     refine p_e rfl (e_move (v := _) rfl) ?_
     refine p_e rfl (e_assign (v := _) rfl) ?_
     refine p_aS rfl ?_
     refine p_end (hK46 _ ?_); clear hK46 K46
     refine pwp_ret ?_
     refine end2 (v := _) (w := .sc _) rfl rfl ?_
     first
       | exact par_oe (par_8 (by omega))
       | exact par_oe (par_0 (by omega) (by assumption))
       | exact par_oe (par_7 (by omega) (by assumption) (by first | omega | (simp only [List.length_map] at *; omega)))
       | exact par_oe (par_n (by omega) (by assumption) (by first | omega | (simp only [List.length_map] at *; omega)) (par_bad hx (.inl (by assumption))))
       | exact par_oe (par_n (by omega) (by assumption) (by first | omega | (simp only [List.length_map] at *; omega)) (par_bad hx (.inr (by assumption))))
       | exact par_o hihj22_0 (hpt.done hke (by omega) (by assumption) (by first | omega | (simp only [List.length_map] at *; omega)))

end Go.Proofs.YtmlhhdiomijpfaaGreatDoor
