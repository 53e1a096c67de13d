import Derived.Test.YtigdmkhdmbbfiaaBun3
import Derived.Test.YtigdmkhdmbbfiaaBund
/- The reference: places of parts, errors, masses. No conditions. -/
set_option linter.unusedSimpArgs false
set_option linter.unusedVariables false
set_option maxRecDepth 100000
namespace Go.Proofs.Ytigdmkhdmbbfiaa
open Go Go.Pv

/-! ### The reference: places of names, wants and parts -/
/-- The place of the first part with a name, told on from k; or -1. -/
def fidx (nm : ByteArray) : List Part → Int → Int
  | [], _ => -1
  | p :: l, k => if p.name = nm then k else fidx nm l (k + 1)
def findP (ps : List Part) (nm : ByteArray) : Int := fidx nm ps 0
/-- The first part with a name. -/
def getP (nm : ByteArray) : List Part → Option Part
  | [] => none
  | p :: l => if p.name = nm then some p else getP nm l
theorem fidx_spec (nm : ByteArray) : ∀ (l : List Part) (k : Nat), (fidx nm l k = -1 ∧ getP nm l = none) ∨ ∃ j : Nat, fidx nm l k = ((k + j : Nat) : Int) ∧ l[j]? = getP nm l ∧ j < l.length
  | [], k => .inl ⟨rfl, rfl⟩
  | p :: l, k => by
    unfold fidx getP
    by_cases h : p.name = nm
    · rw [if_pos h, if_pos h]; exact .inr ⟨0, rfl, rfl, by simp⟩
    · rw [if_neg h, if_neg h]
      rcases fidx_spec nm l (k + 1) with ⟨h1, h2⟩ | ⟨j, h1, h2, h3⟩
      · exact .inl ⟨by rw [← h1]; rfl, h2⟩
      · refine .inr ⟨j + 1, ?_, ?_, by simp only [List.length_cons]; omega⟩
        · have : ((k : Int) + 1) = ((k + 1 : Nat) : Int) := rfl
          rw [this, h1]; congr 1; omega
        · rw [List.getElem?_cons_succ]; exact h2
theorem findP_spec (ps : List Part) (nm : ByteArray) : (findP ps nm = -1 ∧ getP nm ps = none) ∨ ∃ j : Nat, findP ps nm = (j : Int) ∧ ps[j]? = getP nm ps ∧ j < ps.length := by
  rcases fidx_spec nm ps 0 with h | ⟨j, h1, h2, h3⟩
  · exact .inl h
  · exact .inr ⟨j, by rw [Nat.zero_add] at h1; exact h1, h2, h3⟩
theorem getP_app (nm : ByteArray) (p : Part) : ∀ l : List Part, getP nm (l ++ [p]) = match getP nm l with | some q => some q | none => if p.name = nm then some p else none
  | [] => by simp only [List.nil_append, getP]
  | q :: l => by
    simp only [List.cons_append, getP]
    by_cases h : q.name = nm
    · simp only [if_pos h]
    · simp only [if_neg h]; exact getP_app nm p l
theorem getP_iff {ps : List Part} {nm : ByteArray} : (getP nm ps).isSome = decide (0 ≤ findP ps nm) := by
  rcases findP_spec ps nm with ⟨h1, h2⟩ | ⟨j, h1, h2, h3⟩
  · rw [h1, h2]; rfl
  · rw [h1, ← h2, List.getElem?_eq_getElem h3]
    simp only [Option.isSome_some]
    symm; rw [decide_eq_true_eq]; omega
/-- The map of the parts before says what the first part of a name says. -/
def Agr (m : Ents) (l : List Part) : Prop := ∀ nm, aGet nm m = getP nm l
theorem Agr.nil : Agr [] [] := fun _ => rfl
theorem Agr.snoc {m : Ents} {l : List Part} {p : Part} (h : Agr m l) (hn : (aGet p.name m).isSome = false) : Agr (aSet p.name p m) (l ++ [p]) := fun nm => by
  rw [aGet_aSet, getP_app, ← h nm]
  by_cases e : nm = p.name
  · subst e
    rw [if_pos rfl, if_pos rfl]
    cases hq : aGet p.name m with
    | none => rfl
    | some q => rw [hq] at hn; cases hn
  · rw [if_neg e, if_neg (fun h2 => e h2.symm)]
    cases aGet nm m <;> rfl
theorem Agr.iff {m : Ents} {l : List Part} (h : Agr m l) (nm : ByteArray) : (aGet nm m).isSome = decide (0 ≤ findP l nm) := by rw [h nm, getP_iff]
theorem goP_agr : ∀ {l : List Part} {m m' : Ents} {pre : List Part}, Agr m pre → goP m l = (0, m') → Agr m' (pre ++ l)
  | [], m, m', pre, ha, h => by
    simp only [goP, Prod.mk.injEq, true_and] at h; subst h
    rw [List.append_nil]; exact ha
  | p :: l, m, m', pre, ha, h => by
    unfold goP at h
    split at h
    · cases h
    · split at h
      · cases h
      · rename_i h2
        split at h
        · cases h
        · have := goP_agr (ha.snoc (p := p) (by simpa using h2)) h
          rw [List.append_assoc] at this; exact this
theorem parts_agr {ps : List Part} (h : partsE ps = 0) : Agr (partsM ps) ps := goP_agr Agr.nil (partsE_go h)
/-- The first error of parts behind those in pre, as the reference finds it. -/
def refP (pre : List Part) : List Part → Int
  | [] => 0
  | p :: l => if isNm p.name = false then 4 else if 0 ≤ findP pre p.name then 5 else if badP p then 2 else refP (pre ++ [p]) l
theorem refP_goP : ∀ {l pre : List Part} {m : Ents}, Agr m pre → refP pre l = (goP m l).1
  | [], pre, m, _ => rfl
  | p :: l, pre, m, ha => by
    unfold refP goP
    rw [ha.iff]
    by_cases h1 : isNm p.name = false
    · rw [if_pos h1, if_pos h1]
    · rw [if_neg h1, if_neg h1]
      by_cases h2 : 0 ≤ findP pre p.name
      · rw [if_pos h2, if_pos (show decide (0 ≤ findP pre p.name) = true by simpa using h2)]
      · rw [if_neg h2, if_neg (show ¬ decide (0 ≤ findP pre p.name) = true by simpa using h2)]
        by_cases h3 : badP p
        · rw [if_pos h3, if_pos h3]
        · rw [if_neg h3, if_neg h3]
          exact refP_goP (ha.snoc (by rw [ha.iff]; simpa using h2))
theorem refP_eq {ps : List Part} (h : ps.length ≤ 60) : refP [] ps = partsE ps := by
  rw [refP_goP Agr.nil, partsE, if_neg (by omega)]
/-- The first error of wants among parts. -/
def goM (ps : List Part) : List Want → Int
  | [] => 0
  | w :: l => if findP ps w.part < 0 then 6 else goM ps l
theorem goF_goM {m : Ents} {ps : List Part} (ha : Agr m ps) : ∀ {l : List Want} {acc : List Part}, (goF m acc l).1 = goM ps l
  | [], acc => rfl
  | w :: l, acc => by
    unfold goF goM
    rw [ha.iff]
    by_cases h : 0 ≤ findP ps w.part
    · rw [if_pos (by simpa using h), if_neg (by omega)]; exact goF_goM ha
    · rw [if_neg (by simpa using h), if_pos (by omega)]
theorem goF_all {m : Ents} : ∀ {l : List Want} {acc : List Part}, (goF m acc l).1 = 0 → (goF m acc l).2 = acc ++ l.map (fun w => (aGet w.part m).getD Part0) ∧ ∀ w ∈ l, (aGet w.part m).isSome = true
  | [], acc, _ => ⟨by simp [goF], by simp⟩
  | v :: l, acc, h => by
    unfold goF at h ⊢
    split at h
    · rename_i hs
      rw [if_pos hs]
      obtain ⟨h1, h2⟩ := goF_all h
      exact ⟨by rw [h1]; simp, fun w hw => by rcases List.mem_cons.1 hw with rfl | hw <;> first | exact hs | exact h2 w hw⟩
    · cases h
/-- The error of wants and parts, as the reference finds it. -/
theorem wantR_1 {ws : List Want} {ps : List Part} : (wantR ws ps).1 = if 60 < ws.length then 11 else if wantsE 0 ws ≠ 0 then wantsE 0 ws else if partsE ps ≠ 0 then partsE ps else goM ps ws := by
  unfold wantR
  split
  · rfl
  · split
    · rfl
    · split
      · rfl
      · rename_i h; exact goF_goM (parts_agr (by simpa using h))
theorem want_at {ws : List Want} {ps : List Part} (h : (wantR ws ps).1 = 0) {k : Nat} {w : Want} (hw : ws[k]? = some w) : ∃ j : Nat, findP ps w.part = (j : Int) ∧ j < ps.length ∧ ps[j]? = (wantR ws ps).2[k]? := by
  obtain ⟨_, h2, h3⟩ := wantR_ok h
  have ha := parts_agr h2
  rw [h3] at h ⊢
  obtain ⟨h4, h5⟩ := goF_all h
  have hs := h5 w (List.mem_of_getElem? hw)
  rcases findP_spec ps w.part with ⟨_, h6⟩ | ⟨j, h6, h7, h8⟩
  · rw [ha w.part, h6] at hs; cases hs
  · refine ⟨j, h6, h8, ?_⟩
    rw [h4, List.nil_append, List.getElem?_map, hw, h7, Option.map_some, ha w.part]
    rw [ha w.part] at hs
    cases hq : getP w.part ps with
    | none => rw [hq] at hs; cases hs
    | some q => rfl

theorem fr85 : (inFrame Try.f85.ntmps (Try.f85.body.getD .skip) && Try.f85.results.toList.all (resScope Try.f85.ntmps)) = true := by kernel_rfl
theorem find (ps : List Part) (nm : ByteArray) (hl : ps.length ≤ 70) : PCalls Try.prog 85 [.lit true 7 (ps.map Part.enc), .str nm] (.int (findP ps nm)) := by
  refine PCalls.of_code Try.func85 rfl rfl (by kernel_rfl) mixed fr85 (by show _ ≤ 20; simp) (.sc _) ?_
  refine pwp_seq_plain rfl fun K1 hK1 => ?_
  refine p_step rfl (e_assign (v := .sc _) rfl) trivial ?_
  refine p_end (hK1 _ ?_); clear hK1 K1
  refine pwp_seq_seq ?_
  refine pwp_seq_plain rfl fun K2 hK2 => ?_
  refine p_step rfl (e_assign (v := .sc _) rfl) trivial ?_
  refine p_end (hK2 _ ?_); clear hK2 K2
  refine pwp_seq_block fun K3 hK3 => ?_
  refine pwp_loopR (α := Nat) [0, 1] (fun (k : Nat) => [(5, .int (k))]) (fun (k : Nat) (h : Heap) (_ : Nat → Nat) => ((k) ≤ ps.length) ∧ (fidx nm ps 0 = fidx nm (ps.drop (k)) ((k) : Int))) (fun (k : Nat) => ps.length - (k)) (0) (by exact ⟨rfl, trivial⟩) (by exact ⟨by exact Nat.zero_le _, by exact rfl⟩) fun k r4 h5 c6 hj7 => ?_
  obtain ⟨hk, hinv⟩ := hj7
  try dsimp only at hk
  try dsimp only at hinv
  show pwp _ _ (loopQ _ _ _) ⟨sets (mix _ _ _) [(5, .int k)], _, _⟩
  refine pwp_seq_seq ?_
  refine pwp_seq_plain rfl fun K8 hK8 => ?_
  refine p_step rfl (e_move (v := .sc _) rfl) trivial ?_
  refine p_step rfl (e_move (v := .lit _ _ _) rfl) trivial ?_
  refine p_step rfl (e_len rfl (by kernel_rfl)) trivial ?_
  refine p_step rfl (e_lt rfl rfl) trivial ?_
  refine p_end (hK8 _ ?_); clear hK8 K8
  refine pwp_seq_cond rfl fun K9 hK9 => ⟨fun hb10 => ?_, fun hb10 => ?_⟩
  ·have hb10R := hb10; try simp only [z1, z2, z3, z4, z5, z6, ne_eq, z7, z8, z9, z10, z11, z12] at hb10
   obtain ⟨x, hx, hd, ht⟩ := get_lt (xs := ps) (i := k) (by omega)
   rw [hd] at hinv; simp only [fidx] at hinv
   refine pwp_skip ?_
   refine seq_norm (hK9 _ ?_); clear hK9 K9
   refine pwp_seq_block fun K11 hK11 => ?_
   refine pwp_seq_plain rfl fun K12 hK12 => ?_
   refine p_step rfl (e_move (v := .lit _ _ _) rfl) trivial ?_
   refine p_step rfl (e_move (v := .sc _) rfl) trivial ?_
   refine p_step rfl (e_ixa rfl rfl (by kernel_rfl) (by kernel_rfl) (by simp only [List.length_map]; omega)) trivial ?_
   refine p_step rfl (e_fa (pl := [(0, 1, false), (1, 1, false), (2, 1, false), (3, 1, false), (4, 1, false), (5, 2, true)]) rfl (by kernel_rfl) (by kernel_rfl) (by decide) rfl) trivial ?_
   refine p_step rfl (e_load (v := .sc _) rfl (by kernel_rfl) (by kernel_rfl) (by kernel_rfl) (by simp only [List.length_map]; omega) (by decide) ((cell_map hx _).trans rfl)) trivial ?_
   refine p_step rfl (e_move (v := .sc _) rfl) trivial ?_
   refine p_step rfl (e_seq rfl rfl) trivial ?_
   refine p_end (hK12 _ ?_); clear hK12 K12
   refine pwp_cond rfl (fun hb13 => ?_) (fun hb13 => ?_)
   ·have hb13R := hb13; try simp only [z1, z2, z3, z4, z5, z6, ne_eq, z7, z8, z9, z10, z11, z12] at hb13
    refine pwp_seq_plain rfl fun K14 hK14 => ?_
    refine p_step rfl (e_move (v := .sc _) rfl) trivial ?_
    refine p_step rfl (e_assign (v := .sc _) rfl) trivial ?_
    refine p_end (hK14 _ ?_); clear hK14 K14
    refine pwp_ret ?_
    refine ret_block ?_
    refine ret_seq ?_
    refine ret_loop ?_
    refine ret_block ?_
    refine ret_seq ?_
    refine end1 (v := .sc _) rfl ?_
    first
      | exact out_i (by unfold findP; rw [hinv, if_pos (by assumption)])
      | exact out_i (by unfold findP; rw [hinv])
   ·have hb13R := hb13; try simp only [z1, z2, z3, z4, z5, z6, ne_eq, z7, z8, z9, z10, z11, z12] at hb13
    refine pwp_skip ?_
    refine block_norm ?_
    refine seq_norm (hK11 _ ?_); clear hK11 K11
    refine pwp_plain rfl fun K15 hK15 => ?_
    refine p_step rfl (e_move (v := .sc _) rfl) trivial ?_
    refine p_step rfl (e_add rfl rfl (by omega)) trivial ?_
    refine p_step rfl (e_assign (v := .sc _) rfl) trivial ?_
    refine p_end (hK15 _ ?_); clear hK15 K15
    rw [if_neg (by assumption)] at hinv
    exact loop_again (k + 1) (by show _ < _; omega) ⟨rfl, rfl, trivial⟩ ⟨rfl, trivial⟩ (by exact ⟨by show _ + 1 ≤ _; omega, by exact hinv⟩)
  ·have hb10R := hb10; try simp only [z1, z2, z3, z4, z5, z6, ne_eq, z7, z8, z9, z10, z11, z12] at hb10
   obtain rfl : k = ps.length := by omega
   rw [List.drop_length] at hinv; simp only [fidx] at hinv
   refine pwp_exit ?_
   refine exit_seq ?_
   clear hK9 K9
   refine exit_loop ?_
   refine exit_here ?_
   refine seq_norm (hK3 _ ?_); clear hK3 K3
   refine pwp_seq_plain rfl fun K16 hK16 => ?_
   refine p_step rfl (e_assign (v := .sc _) rfl) trivial ?_
   refine p_end (hK16 _ ?_); clear hK16 K16
   refine pwp_ret ?_
   refine end1 (v := .sc _) rfl ?_
   first
     | exact out_i (by unfold findP; rw [hinv, if_pos (by assumption)])
     | exact out_i (by unfold findP; rw [hinv])

theorem cp_8 {ps : List Part} (h : 60 < ps.length) : (8 : Int) = partsE ps := (if_pos h).symm

theorem fr84 : (inFrame Try.f84.ntmps (Try.f84.body.getD .skip) && Try.f84.results.toList.all (resScope Try.f84.ntmps)) = true := by kernel_rfl
theorem refParts (ps : List Part) (hl : ps.length ≤ 70) (hs : ∀ x ∈ ps, x.name.size ≤ 30) : PCalls Try.prog 84 [.lit true 7 (ps.map Part.enc)] (.int (partsE ps)) := by
  refine PCalls.of_code Try.func84 rfl rfl (by kernel_rfl) mixed fr84 (by show _ ≤ 46; simp) (.sc _) ?_
  refine pwp_seq_plain rfl fun K1 hK1 => ?_
  refine p_step rfl (e_assign (v := .sc _) rfl) trivial ?_
  refine p_end (hK1 _ ?_); clear hK1 K1
  refine pwp_seq_seq ?_
  refine pwp_seq_plain rfl fun K2 hK2 => ?_
  refine p_step rfl (e_move (v := .lit _ _ _) rfl) trivial ?_
  refine p_step rfl (e_len rfl (by kernel_rfl)) trivial ?_
  refine p_step rfl (e_gt rfl rfl) trivial ?_
  refine p_end (hK2 _ ?_); clear hK2 K2
  refine pwp_seq_cond rfl fun K3 hK3 => ⟨fun hb4 => ?_, fun hb4 => ?_⟩
  ·have hb4R := hb4; try simp only [z1, z2, z3, z4, z5, z6, ne_eq, z7, z8, z9, z10, z11, z12] at hb4
   refine pwp_seq_plain rfl fun K5 hK5 => ?_
   refine p_step rfl (e_assign (v := .sc _) rfl) trivial ?_
   refine p_end (hK5 _ ?_); clear hK5 K5
   refine pwp_ret ?_
   refine ret_seq ?_
   refine end1 (v := .sc _) rfl ?_
   first
     | exact out_i (cp_8 (by omega))
     | exact out_i (by rw [← refP_eq (by omega), hinv, if_pos (by assumption)])
     | exact out_i (by rw [← refP_eq (by omega), hinv, if_neg (by rw [Bool.not_eq_false]; assumption), if_pos (by assumption)])
     | exact out_i (by rw [← refP_eq (by omega), hinv, if_neg (by rw [Bool.not_eq_false]; assumption), if_neg (by omega), if_pos (by unfold badP; omega)])
     | exact out_i (by rw [← refP_eq (by omega), hinv])
  ·have hb4R := hb4; try simp only [z1, z2, z3, z4, z5, z6, ne_eq, z7, z8, z9, z10, z11, z12] at hb4
   refine pwp_skip ?_
   refine seq_norm (hK3 _ ?_); clear hK3 K3
   refine pwp_seq_seq ?_
   refine pwp_seq_plain rfl fun K6 hK6 => ?_
   refine p_step rfl (e_assign (v := .sc _) rfl) trivial ?_
   refine p_end (hK6 _ ?_); clear hK6 K6
   refine pwp_seq_block fun K7 hK7 => ?_
   refine pwp_loopR (α := Nat) [0] (fun (k : Nat) => [(3, .int (k))]) (fun (k : Nat) (h : Heap) (_ : Nat → Nat) => ((k) ≤ ps.length) ∧ (refP [] ps = refP (ps.take (k)) (ps.drop (k)))) (fun (k : Nat) => ps.length - (k)) (0) (by exact ⟨rfl, trivial⟩) (by exact ⟨by exact Nat.zero_le _, by exact rfl⟩) fun k r8 h9 c10 hj11 => ?_
   obtain ⟨hk, hinv⟩ := hj11
   try dsimp only at hk
   try dsimp only at hinv
   show pwp _ _ (loopQ _ _ _) ⟨sets (mix _ _ _) [(3, .int k)], _, _⟩
   refine pwp_seq_seq ?_
   refine pwp_seq_plain rfl fun K12 hK12 => ?_
   refine p_step rfl (e_move (v := .sc _) rfl) trivial ?_
   refine p_step rfl (e_move (v := .lit _ _ _) rfl) trivial ?_
   refine p_step rfl (e_len rfl (by kernel_rfl)) trivial ?_
   refine p_step rfl (e_lt rfl rfl) trivial ?_
   refine p_end (hK12 _ ?_); clear hK12 K12
   refine pwp_seq_cond rfl fun K13 hK13 => ⟨fun hb14 => ?_, fun hb14 => ?_⟩
   ·have hb14R := hb14; try simp only [z1, z2, z3, z4, z5, z6, ne_eq, z7, z8, z9, z10, z11, z12] at hb14
    obtain ⟨x, hx, hd, ht⟩ := get_lt (xs := ps) (i := k) (by omega)
    rw [hd] at hinv; simp only [refP] at hinv
    have hsz := psz hs hx
    refine pwp_skip ?_
    refine seq_norm (hK13 _ ?_); clear hK13 K13
    refine pwp_seq_block fun K15 hK15 => ?_
    refine pwp_seq_seq ?_
    refine pwp_seq_plain rfl fun K16 hK16 => ?_
    refine p_step rfl (e_move (v := .lit _ _ _) rfl) trivial ?_
    refine p_step rfl (e_move (v := .sc _) rfl) trivial ?_
    refine p_step rfl (e_ixa rfl rfl (by kernel_rfl) (by kernel_rfl) (by simp only [List.length_map]; omega)) trivial ?_
    refine p_step rfl (e_fa (pl := [(0, 1, false), (1, 1, false), (2, 1, false), (3, 1, false), (4, 1, false), (5, 2, true)]) rfl (by kernel_rfl) (by kernel_rfl) (by decide) rfl) trivial ?_
    refine p_step rfl (e_load (v := .sc _) rfl (by kernel_rfl) (by kernel_rfl) (by kernel_rfl) (by simp only [List.length_map]; omega) (by decide) ((cell_map hx _).trans rfl)) trivial ?_
    refine p_call rfl (.cons inn_sc .nil) (IsName _) ?_
    refine p_step rfl (e_not rfl) trivial ?_
    refine p_end (hK16 _ ?_); clear hK16 K16
    refine pwp_seq_cond rfl fun K17 hK17 => ⟨fun hb18 => ?_, fun hb18 => ?_⟩
    ·have hb18R := hb18; try simp only [z1, z2, z3, z4, z5, z6, ne_eq, z7, z8, z9, z10, z11, z12] at hb18
     refine pwp_seq_plain rfl fun K19 hK19 => ?_
     refine p_step rfl (e_assign (v := .sc _) rfl) trivial ?_
     refine p_end (hK19 _ ?_); clear hK19 K19
     refine pwp_ret ?_
     refine ret_seq ?_
     refine ret_block ?_
     refine ret_seq ?_
     refine ret_loop ?_
     refine ret_block ?_
     refine ret_seq ?_
     refine end1 (v := .sc _) rfl ?_
     first
       | exact out_i (cp_8 (by omega))
       | exact out_i (by rw [← refP_eq (by omega), hinv, if_pos (by assumption)])
       | exact out_i (by rw [← refP_eq (by omega), hinv, if_neg (by rw [Bool.not_eq_false]; assumption), if_pos (by assumption)])
       | exact out_i (by rw [← refP_eq (by omega), hinv, if_neg (by rw [Bool.not_eq_false]; assumption), if_neg (by omega), if_pos (by unfold badP; omega)])
       | exact out_i (by rw [← refP_eq (by omega), hinv])
    ·have hb18R := hb18; try simp only [z1, z2, z3, z4, z5, z6, ne_eq, z7, z8, z9, z10, z11, z12] at hb18
     refine pwp_skip ?_
     refine seq_norm (hK17 _ ?_); clear hK17 K17
     refine pwp_seq_seq ?_
     refine pwp_seq_gops rfl fun K20 hK20 => ?_
     refine g_begin ?_
     refine g_step rfl rfl rfl rfl (e_move (v := .lit _ _ _) rfl) trivial ?_
     refine g_step rfl rfl rfl rfl (e_move (v := .sc _) rfl) trivial ?_
     refine g_step rfl rfl rfl rfl (e_upto (n := k) rfl rfl rfl (by omega) (by kernel_rfl) (by kernel_rfl)) trivial ?_
     refine g_step rfl rfl rfl rfl (e_move (v := .lit _ _ _) rfl) trivial ?_
     refine g_step rfl rfl rfl rfl (e_move (v := .sc _) rfl) trivial ?_
     refine g_step rfl rfl rfl rfl (e_ixa rfl rfl (by kernel_rfl) (by kernel_rfl) (by simp only [List.length_map]; omega)) trivial ?_
     refine g_step rfl rfl rfl rfl (e_fa (pl := [(0, 1, false), (1, 1, false), (2, 1, false), (3, 1, false), (4, 1, false), (5, 2, true)]) rfl (by kernel_rfl) (by kernel_rfl) (by decide) rfl) trivial ?_
     refine g_step rfl rfl rfl rfl (e_load (v := .sc _) rfl (by kernel_rfl) (by kernel_rfl) (by kernel_rfl) (by simp only [List.length_map]; omega) (by decide) ((cell_map hx _).trans rfl)) trivial ?_
     refine g_call rfl rfl rfl rfl (.cons inn_lit (.cons inn_sc .nil)) (find _ _ (by first | omega | (simp only [List.length_take]; omega))) ?_
     refine g_step rfl rfl rfl rfl (e_ge rfl rfl) trivial ?_
     refine g_end (ds := []) (by kernel_rfl) rfl (hK20 _ ?_); clear hK20 K20
     refine pwp_seq_cond rfl fun K21 hK21 => ⟨fun hb22 => ?_, fun hb22 => ?_⟩
     ·have hb22R := hb22; try simp only [z1, z2, z3, z4, z5, z6, ne_eq, z7, z8, z9, z10, z11, z12] at hb22
      refine pwp_seq_plain rfl fun K23 hK23 => ?_
      refine p_step rfl (e_assign (v := .sc _) rfl) trivial ?_
      refine p_end (hK23 _ ?_); clear hK23 K23
      refine pwp_ret ?_
      refine ret_seq ?_
      refine ret_block ?_
      refine ret_seq ?_
      refine ret_loop ?_
      refine ret_block ?_
      refine ret_seq ?_
      refine end1 (v := .sc _) rfl ?_
      first
        | exact out_i (cp_8 (by omega))
        | exact out_i (by rw [← refP_eq (by omega), hinv, if_pos (by assumption)])
        | exact out_i (by rw [← refP_eq (by omega), hinv, if_neg (by rw [Bool.not_eq_false]; assumption), if_pos (by assumption)])
        | exact out_i (by rw [← refP_eq (by omega), hinv, if_neg (by rw [Bool.not_eq_false]; assumption), if_neg (by omega), if_pos (by unfold badP; omega)])
        | exact out_i (by rw [← refP_eq (by omega), hinv])
     ·have hb22R := hb22; try simp only [z1, z2, z3, z4, z5, z6, ne_eq, z7, z8, z9, z10, z11, z12] at hb22
      refine pwp_skip ?_
      refine seq_norm (hK21 _ ?_); clear hK21 K21
      refine pwp_seq_cutG [0, 3] [(45, .bool ((!(decide ((0) ≤ x.square ∧ x.square ≤ (20000000000000)))) || (!(decide ((0) ≤ x.mass ∧ x.mass ≤ (1000000))))))] (fun K24 hK24 => ?_) (fun r25 => ?_)
      ·skip
       refine pwp_gops rfl fun K26 hK26 => ?_
       refine g_begin ?_
       refine g_step rfl rfl rfl rfl (e_move (v := .lit _ _ _) rfl) trivial ?_
       refine g_step rfl rfl rfl rfl (e_move (v := .sc _) rfl) trivial ?_
       refine g_step rfl rfl rfl rfl (e_ixa rfl rfl (by kernel_rfl) (by kernel_rfl) (by simp only [List.length_map]; omega)) trivial ?_
       refine g_step rfl rfl rfl rfl (e_fa (pl := [(0, 1, false), (1, 1, false), (2, 1, false), (3, 1, false), (4, 1, false), (5, 2, true)]) rfl (by kernel_rfl) (by kernel_rfl) (by decide) rfl) trivial ?_
       refine g_step rfl rfl rfl rfl (e_load (v := .sc _) rfl (by kernel_rfl) (by kernel_rfl) (by kernel_rfl) (by simp only [List.length_map]; omega) (by decide) ((cell_map hx _).trans rfl)) trivial ?_
       refine g_call rfl rfl rfl rfl (.cons inn_sc (.cons inn_sc (.cons inn_sc .nil))) (Within _ _ _) ?_
       refine g_step rfl rfl rfl rfl (e_not rfl) trivial ?_
       refine g_step rfl rfl rfl rfl (e_move (v := .sc _) rfl) trivial ?_
       refine g_cases (fun hb27 => ?_) (fun hb27 => ?_)
       ·have hb27R := hb27; try simp only [z1, z2, z3, z4, z5, z6, ne_eq, z7, z8, z9, z10, z11, z12] at hb27
        refine g_skip rfl rfl rfl ?_
        refine g_skip rfl rfl rfl ?_
        refine g_skip rfl rfl rfl ?_
        refine g_skip rfl rfl rfl ?_
        refine g_skip rfl rfl rfl ?_
        refine g_nocall rfl rfl rfl ?_
        refine g_skip rfl rfl rfl ?_
        refine g_step rfl rfl rfl rfl (e_pickT (v := .sc _) rfl rfl) trivial ?_
        refine g_end (ds := [38, 39, 40, 41, 42, 43, 44]) rfl rfl (hK26 _ ?_); clear hK26 K26
        exact seq_norm (hK24 _ ⟨rfl, rfl, trivial⟩ ⟨(congrArg PV.bool (show (true : Bool) = ((!(decide ((0) ≤ x.square ∧ x.square ≤ (20000000000000)))) || (!(decide ((0) ≤ x.mass ∧ x.mass ≤ (1000000))))) by first | rfl | ((try rw [hb27R]) <;> (first | rfl | (simp only [Bool.and_true, Bool.and_false, Bool.true_and, Bool.false_and, Bool.or_true, Bool.or_false, Bool.true_or, Bool.false_or, Bool.not_true, Bool.not_false, if_true, if_false, Bool.false_eq_true, reduceIte] <;> rfl))) | (simp only [hb27R, Bool.and_true, Bool.and_false, Bool.true_and, Bool.false_and, Bool.or_true, Bool.or_false, Bool.true_or, Bool.false_or, Bool.not_true, Bool.not_false, if_true, if_false, Bool.false_eq_true, reduceIte] <;> rfl))), trivial⟩)
       ·have hb27R := hb27; try simp only [z1, z2, z3, z4, z5, z6, ne_eq, z7, z8, z9, z10, z11, z12] at hb27
        refine g_step rfl rfl rfl rfl (e_move (v := .lit _ _ _) rfl) trivial ?_
        refine g_step rfl rfl rfl rfl (e_move (v := .sc _) rfl) trivial ?_
        refine g_step rfl rfl rfl rfl (e_ixa rfl rfl (by kernel_rfl) (by kernel_rfl) (by simp only [List.length_map]; omega)) trivial ?_
        refine g_step rfl rfl rfl rfl (e_fa (pl := [(0, 1, false), (1, 1, false), (2, 1, false), (3, 1, false), (4, 1, false), (5, 2, true)]) rfl (by kernel_rfl) (by kernel_rfl) (by decide) rfl) trivial ?_
        refine g_step rfl rfl rfl rfl (e_load (v := .sc _) rfl (by kernel_rfl) (by kernel_rfl) (by kernel_rfl) (by simp only [List.length_map]; omega) (by decide) ((cell_map hx _).trans rfl)) trivial ?_
        refine g_call rfl rfl rfl rfl (.cons inn_sc (.cons inn_sc (.cons inn_sc .nil))) (Within _ _ _) ?_
        refine g_step rfl rfl rfl rfl (e_not rfl) trivial ?_
        refine g_step rfl rfl rfl rfl (e_pickF (v := .sc _) rfl rfl) trivial ?_
        refine g_end (ds := [38, 39, 40, 41, 42, 43, 44]) rfl rfl (hK26 _ ?_); clear hK26 K26
        exact seq_norm (hK24 _ ⟨rfl, rfl, trivial⟩ ⟨(congrArg PV.bool (show ((!(decide ((0) ≤ x.mass ∧ x.mass ≤ (1000000)))) : Bool) = ((!(decide ((0) ≤ x.square ∧ x.square ≤ (20000000000000)))) || (!(decide ((0) ≤ x.mass ∧ x.mass ≤ (1000000))))) by first | rfl | ((try rw [hb27R]) <;> (first | rfl | (simp only [Bool.and_true, Bool.and_false, Bool.true_and, Bool.false_and, Bool.or_true, Bool.or_false, Bool.true_or, Bool.false_or, Bool.not_true, Bool.not_false, if_true, if_false, Bool.false_eq_true, reduceIte] <;> rfl))) | (simp only [hb27R, Bool.and_true, Bool.and_false, Bool.true_and, Bool.false_and, Bool.or_true, Bool.or_false, Bool.true_or, Bool.false_or, Bool.not_true, Bool.not_false, if_true, if_false, Bool.false_eq_true, reduceIte] <;> rfl))), trivial⟩)
      ·skip
       refine pwp_cond rfl (fun hb28 => ?_) (fun hb28 => ?_)
       ·have hb28R := hb28; try simp only [z1, z2, z3, z4, z5, z6, ne_eq, z7, z8, z9, z10, z11, z12] at hb28
        refine pwp_seq_plain rfl fun K29 hK29 => ?_
        refine p_step rfl (e_assign (v := .sc _) rfl) trivial ?_
        refine p_end (hK29 _ ?_); clear hK29 K29
        refine pwp_ret ?_
        refine ret_block ?_
        refine ret_seq ?_
        refine ret_loop ?_
        refine ret_block ?_
        refine ret_seq ?_
        refine end1 (v := .sc _) rfl ?_
        first
          | exact out_i (cp_8 (by omega))
          | exact out_i (by rw [← refP_eq (by omega), hinv, if_pos (by assumption)])
          | exact out_i (by rw [← refP_eq (by omega), hinv, if_neg (by rw [Bool.not_eq_false]; assumption), if_pos (by assumption)])
          | exact out_i (by rw [← refP_eq (by omega), hinv, if_neg (by rw [Bool.not_eq_false]; assumption), if_neg (by omega), if_pos (by unfold badP; omega)])
          | exact out_i (by rw [← refP_eq (by omega), hinv])
       ·have hb28R := hb28; try simp only [z1, z2, z3, z4, z5, z6, ne_eq, z7, z8, z9, z10, z11, z12] at hb28
        refine pwp_skip ?_
        refine block_norm ?_
        refine seq_norm (hK15 _ ?_); clear hK15 K15
        refine pwp_plain rfl fun K30 hK30 => ?_
        refine p_step rfl (e_move (v := .sc _) rfl) trivial ?_
        refine p_step rfl (e_add rfl rfl (by omega)) trivial ?_
        refine p_step rfl (e_assign (v := .sc _) rfl) trivial ?_
        refine p_end (hK30 _ ?_); clear hK30 K30
        rw [if_neg (by rw [Bool.not_eq_false]; assumption), if_neg (by omega), if_neg (by unfold badP; omega)] at hinv
        exact loop_again (k + 1) (by show _ < _; omega) ⟨rfl, trivial⟩ ⟨rfl, trivial⟩ (by exact ⟨by show _ + 1 ≤ _; omega, by rw [ht]; exact hinv⟩)
   ·have hb14R := hb14; try simp only [z1, z2, z3, z4, z5, z6, ne_eq, z7, z8, z9, z10, z11, z12] at hb14
    obtain rfl : k = ps.length := by omega
    rw [List.drop_length] at hinv; simp only [refP] at hinv
    refine pwp_exit ?_
    refine exit_seq ?_
    clear hK13 K13
    refine exit_loop ?_
    refine exit_here ?_
    refine seq_norm (hK7 _ ?_); clear hK7 K7
    refine pwp_seq_plain rfl fun K31 hK31 => ?_
    refine p_step rfl (e_assign (v := .sc _) rfl) trivial ?_
    refine p_end (hK31 _ ?_); clear hK31 K31
    refine pwp_ret ?_
    refine end1 (v := .sc _) rfl ?_
    first
      | exact out_i (cp_8 (by omega))
      | exact out_i (by rw [← refP_eq (by omega), hinv, if_pos (by assumption)])
      | exact out_i (by rw [← refP_eq (by omega), hinv, if_neg (by rw [Bool.not_eq_false]; assumption), if_pos (by assumption)])
      | exact out_i (by rw [← refP_eq (by omega), hinv, if_neg (by rw [Bool.not_eq_false]; assumption), if_neg (by omega), if_pos (by unfold badP; omega)])
      | exact out_i (by rw [← refP_eq (by omega), hinv])

theorem rw_1 {ws : List Want} {ps : List Part} (h : 60 < ws.length) : (11 : Int) = (wantR ws ps).1 := by rw [wantR_1, if_pos h]
theorem rw_2 {ws : List Want} {ps : List Part} {z : Int} (h1 : ws.length ≤ 60) (h : z = wantsE 0 ws) (h2 : z ≠ 0) : z = (wantR ws ps).1 := by rw [wantR_1, if_neg (by omega), if_pos (by rw [← h]; exact h2), h]
theorem rw_3 {ws : List Want} {ps : List Part} (h1 : ws.length ≤ 60) (h : wantsE 0 ws = 0) (h2 : ¬ partsE ps = 0) : partsE ps = (wantR ws ps).1 := by rw [wantR_1, if_neg (by omega), if_neg (by simpa using h), if_pos h2]
theorem rw_4 {ws : List Want} {ps : List Part} {z : Int} (h1 : ws.length ≤ 60) (h : wantsE 0 ws = 0) (h2 : partsE ps = 0) (h3 : z = goM ps ws) : z = (wantR ws ps).1 := by rw [wantR_1, if_neg (by omega), if_neg (by simpa using h), if_neg (by simpa using h2), h3]

theorem fr48 : (inFrame Try.f48.ntmps (Try.f48.body.getD .skip) && Try.f48.results.toList.all (resScope Try.f48.ntmps)) = true := by kernel_rfl
theorem refWants (ws : List Want) (ps : List Part) (hl : ws.length ≤ 70) (hl2 : ps.length ≤ 70) (hs : ∀ x ∈ ws, x.part.size ≤ 30) (hps : ∀ x ∈ ps, x.name.size ≤ 30) : PCalls Try.prog 48 [.lit true 2 (ws.map Want.enc), .lit true 7 (ps.map Part.enc)] (.int (wantR ws ps).1) := by
  refine PCalls.of_code Try.func48 rfl rfl (by kernel_rfl) mixed fr48 (by show _ ≤ 50; simp) (.sc _) ?_
  refine pwp_seq_plain rfl fun K1 hK1 => ?_
  refine p_step rfl (e_assign (v := .sc _) rfl) trivial ?_
  refine p_end (hK1 _ ?_); clear hK1 K1
  refine pwp_seq_seq ?_
  refine pwp_seq_plain rfl fun K2 hK2 => ?_
  refine p_step rfl (e_move (v := .lit _ _ _) rfl) trivial ?_
  refine p_step rfl (e_len rfl (by kernel_rfl)) trivial ?_
  refine p_step rfl (e_gt rfl rfl) trivial ?_
  refine p_end (hK2 _ ?_); clear hK2 K2
  refine pwp_seq_cond rfl fun K3 hK3 => ⟨fun hb4 => ?_, fun hb4 => ?_⟩
  ·have hb4R := hb4; try simp only [z1, z2, z3, z4, z5, z6, ne_eq, z7, z8, z9, z10, z11, z12] at hb4
   refine pwp_seq_plain rfl fun K5 hK5 => ?_
   refine p_step rfl (e_assign (v := .sc _) rfl) trivial ?_
   refine p_end (hK5 _ ?_); clear hK5 K5
   refine pwp_ret ?_
   refine ret_seq ?_
   refine end1 (v := .sc _) rfl ?_
   first
     | exact out_i (rw_1 (by omega))
     | exact out_i (rw_2 (by omega) (by rw [hinv, if_pos (by assumption)]) (by decide))
     | exact out_i (rw_2 (by omega) (by rw [hinv, if_neg (by rw [Bool.not_eq_false]; assumption), if_pos (by omega)]) (by decide))
     | exact out_i (rw_3 (by omega) hwe (by assumption))
     | exact out_i (rw_4 (by omega) hwe (by assumption) (by rw [hinv, if_pos (by omega)]))
     | exact out_i (rw_4 (by omega) hwe (by assumption) hinv.symm)
  ·have hb4R := hb4; try simp only [z1, z2, z3, z4, z5, z6, ne_eq, z7, z8, z9, z10, z11, z12] at hb4
   refine pwp_skip ?_
   refine seq_norm (hK3 _ ?_); clear hK3 K3
   refine pwp_seq_seq ?_
   refine pwp_seq_plain rfl fun K6 hK6 => ?_
   refine p_step rfl (e_assign (v := .sc _) rfl) trivial ?_
   refine p_end (hK6 _ ?_); clear hK6 K6
   refine pwp_seq_block fun K7 hK7 => ?_
   refine pwp_loopR (α := Nat) [0, 1] (fun (k : Nat) => [(5, .int (k))]) (fun (k : Nat) (h : Heap) (_ : Nat → Nat) => ((k) ≤ ws.length) ∧ (wantsE 0 ws = wantsE 0 (ws.drop (k)))) (fun (k : Nat) => ws.length - (k)) (0) (by exact ⟨rfl, trivial⟩) (by exact ⟨by exact Nat.zero_le _, by exact rfl⟩) fun k r8 h9 c10 hj11 => ?_
   obtain ⟨hk, hinv⟩ := hj11
   try dsimp only at hk
   try dsimp only at hinv
   show pwp _ _ (loopQ _ _ _) ⟨sets (mix _ _ _) [(5, .int k)], _, _⟩
   refine pwp_seq_seq ?_
   refine pwp_seq_plain rfl fun K12 hK12 => ?_
   refine p_step rfl (e_move (v := .sc _) rfl) trivial ?_
   refine p_step rfl (e_move (v := .lit _ _ _) rfl) trivial ?_
   refine p_step rfl (e_len rfl (by kernel_rfl)) trivial ?_
   refine p_step rfl (e_lt rfl rfl) trivial ?_
   refine p_end (hK12 _ ?_); clear hK12 K12
   refine pwp_seq_cond rfl fun K13 hK13 => ⟨fun hb14 => ?_, fun hb14 => ?_⟩
   ·have hb14R := hb14; try simp only [z1, z2, z3, z4, z5, z6, ne_eq, z7, z8, z9, z10, z11, z12] at hb14
    obtain ⟨x, hx, hd, ht⟩ := get_lt (xs := ws) (i := k) (by omega)
    rw [hd] at hinv; simp only [wantsE] at hinv
    have hsz := wsz hs hx
    refine pwp_skip ?_
    refine seq_norm (hK13 _ ?_); clear hK13 K13
    refine pwp_seq_block fun K15 hK15 => ?_
    refine pwp_seq_seq ?_
    refine pwp_seq_plain rfl fun K16 hK16 => ?_
    refine p_step rfl (e_move (v := .lit _ _ _) rfl) trivial ?_
    refine p_step rfl (e_move (v := .sc _) rfl) trivial ?_
    refine p_step rfl (e_ixa rfl rfl (by kernel_rfl) (by kernel_rfl) (by simp only [List.length_map]; omega)) trivial ?_
    refine p_step rfl (e_fa (pl := [(0, 1, false), (1, 1, false)]) rfl (by kernel_rfl) (by kernel_rfl) (by decide) rfl) trivial ?_
    refine p_step rfl (e_load (v := .sc _) rfl (by kernel_rfl) (by kernel_rfl) (by kernel_rfl) (by simp only [List.length_map]; omega) (by decide) ((cell_map hx _).trans rfl)) trivial ?_
    refine p_call rfl (.cons inn_sc .nil) (IsName _) ?_
    refine p_step rfl (e_not rfl) trivial ?_
    refine p_end (hK16 _ ?_); clear hK16 K16
    refine pwp_seq_cond rfl fun K17 hK17 => ⟨fun hb18 => ?_, fun hb18 => ?_⟩
    ·have hb18R := hb18; try simp only [z1, z2, z3, z4, z5, z6, ne_eq, z7, z8, z9, z10, z11, z12] at hb18
     refine pwp_seq_plain rfl fun K19 hK19 => ?_
     refine p_step rfl (e_assign (v := .sc _) rfl) trivial ?_
     refine p_end (hK19 _ ?_); clear hK19 K19
     refine pwp_ret ?_
     refine ret_seq ?_
     refine ret_block ?_
     refine ret_seq ?_
     refine ret_loop ?_
     refine ret_block ?_
     refine ret_seq ?_
     refine end1 (v := .sc _) rfl ?_
     first
       | exact out_i (rw_1 (by omega))
       | exact out_i (rw_2 (by omega) (by rw [hinv, if_pos (by assumption)]) (by decide))
       | exact out_i (rw_2 (by omega) (by rw [hinv, if_neg (by rw [Bool.not_eq_false]; assumption), if_pos (by omega)]) (by decide))
       | exact out_i (rw_3 (by omega) hwe (by assumption))
       | exact out_i (rw_4 (by omega) hwe (by assumption) (by rw [hinv, if_pos (by omega)]))
       | exact out_i (rw_4 (by omega) hwe (by assumption) hinv.symm)
    ·have hb18R := hb18; try simp only [z1, z2, z3, z4, z5, z6, ne_eq, z7, z8, z9, z10, z11, z12] at hb18
     refine pwp_skip ?_
     refine seq_norm (hK17 _ ?_); clear hK17 K17
     refine pwp_seq_plain rfl fun K20 hK20 => ?_
     refine p_step rfl (e_move (v := .lit _ _ _) rfl) trivial ?_
     refine p_step rfl (e_move (v := .sc _) rfl) trivial ?_
     refine p_step rfl (e_ixa rfl rfl (by kernel_rfl) (by kernel_rfl) (by simp only [List.length_map]; omega)) trivial ?_
     refine p_step rfl (e_fa (pl := [(0, 1, false), (1, 1, false)]) rfl (by kernel_rfl) (by kernel_rfl) (by decide) rfl) trivial ?_
     refine p_step rfl (e_load (v := .sc _) rfl (by kernel_rfl) (by kernel_rfl) (by kernel_rfl) (by simp only [List.length_map]; omega) (by decide) ((cell_map hx _).trans rfl)) trivial ?_
     refine p_call rfl (.cons inn_sc (.cons inn_sc (.cons inn_sc .nil))) (Within _ _ _) ?_
     refine p_step rfl (e_not rfl) trivial ?_
     refine p_end (hK20 _ ?_); clear hK20 K20
     refine pwp_cond rfl (fun hb21 => ?_) (fun hb21 => ?_)
     ·have hb21R := hb21; try simp only [z1, z2, z3, z4, z5, z6, ne_eq, z7, z8, z9, z10, z11, z12] at hb21
      refine pwp_seq_plain rfl fun K22 hK22 => ?_
      refine p_step rfl (e_assign (v := .sc _) rfl) trivial ?_
      refine p_end (hK22 _ ?_); clear hK22 K22
      refine pwp_ret ?_
      refine ret_block ?_
      refine ret_seq ?_
      refine ret_loop ?_
      refine ret_block ?_
      refine ret_seq ?_
      refine end1 (v := .sc _) rfl ?_
      first
        | exact out_i (rw_1 (by omega))
        | exact out_i (rw_2 (by omega) (by rw [hinv, if_pos (by assumption)]) (by decide))
        | exact out_i (rw_2 (by omega) (by rw [hinv, if_neg (by rw [Bool.not_eq_false]; assumption), if_pos (by omega)]) (by decide))
        | exact out_i (rw_3 (by omega) hwe (by assumption))
        | exact out_i (rw_4 (by omega) hwe (by assumption) (by rw [hinv, if_pos (by omega)]))
        | exact out_i (rw_4 (by omega) hwe (by assumption) hinv.symm)
     ·have hb21R := hb21; try simp only [z1, z2, z3, z4, z5, z6, ne_eq, z7, z8, z9, z10, z11, z12] at hb21
      refine pwp_skip ?_
      refine block_norm ?_
      refine seq_norm (hK15 _ ?_); clear hK15 K15
      refine pwp_plain rfl fun K23 hK23 => ?_
      refine p_step rfl (e_move (v := .sc _) rfl) trivial ?_
      refine p_step rfl (e_add rfl rfl (by omega)) trivial ?_
      refine p_step rfl (e_assign (v := .sc _) rfl) trivial ?_
      refine p_end (hK23 _ ?_); clear hK23 K23
      rw [if_neg (by rw [Bool.not_eq_false]; assumption), if_neg (by omega)] at hinv
      exact loop_again (k + 1) (by show _ < _; omega) ⟨rfl, rfl, trivial⟩ ⟨rfl, trivial⟩ (by exact ⟨by show _ + 1 ≤ _; omega, by exact hinv⟩)
   ·have hb14R := hb14; try simp only [z1, z2, z3, z4, z5, z6, ne_eq, z7, z8, z9, z10, z11, z12] at hb14
    obtain rfl : k = ws.length := by omega
    rw [List.drop_length] at hinv; simp only [wantsE] at hinv
    have hwe := hinv; clear hinv
    refine pwp_exit ?_
    refine exit_seq ?_
    clear hK13 K13
    refine exit_loop ?_
    refine exit_here ?_
    refine seq_norm (hK7 _ ?_); clear hK7 K7
    refine pwp_seq_seq ?_
    refine pwp_seq_plain rfl fun K24 hK24 => ?_
    refine p_step rfl (e_move (v := .lit _ _ _) rfl) trivial ?_
    refine p_call rfl (.cons inn_lit .nil) (refParts _ (by omega) (by assumption)) ?_
    refine p_step rfl (e_assign (v := .sc _) rfl) trivial ?_
    refine p_end (hK24 _ ?_); clear hK24 K24
    refine pwp_seq_seq ?_
    refine pwp_seq_plain rfl fun K25 hK25 => ?_
    refine p_step rfl (e_move (v := .sc _) rfl) trivial ?_
    refine p_step rfl (e_ne rfl rfl) trivial ?_
    refine p_end (hK25 _ ?_); clear hK25 K25
    refine pwp_seq_cond rfl fun K26 hK26 => ⟨fun hb27 => ?_, fun hb27 => ?_⟩
    ·have hb27R := hb27; try simp only [z1, z2, z3, z4, z5, z6, ne_eq, z7, z8, z9, z10, z11, z12] at hb27
     refine pwp_seq_plain rfl fun K28 hK28 => ?_
     refine p_step rfl (e_move (v := .sc _) rfl) trivial ?_
     refine p_step rfl (e_assign (v := .sc _) rfl) trivial ?_
     refine p_end (hK28 _ ?_); clear hK28 K28
     refine pwp_ret ?_
     refine ret_seq ?_
     refine end1 (v := .sc _) rfl ?_
     first
       | exact out_i (rw_1 (by omega))
       | exact out_i (rw_2 (by omega) (by rw [hinv, if_pos (by assumption)]) (by decide))
       | exact out_i (rw_2 (by omega) (by rw [hinv, if_neg (by rw [Bool.not_eq_false]; assumption), if_pos (by omega)]) (by decide))
       | exact out_i (rw_3 (by omega) hwe (by assumption))
       | exact out_i (rw_4 (by omega) hwe (by assumption) (by rw [hinv, if_pos (by omega)]))
       | exact out_i (rw_4 (by omega) hwe (by assumption) hinv.symm)
    ·have hb27R := hb27; try simp only [z1, z2, z3, z4, z5, z6, ne_eq, z7, z8, z9, z10, z11, z12] at hb27
     refine pwp_skip ?_
     refine seq_norm (hK26 _ ?_); clear hK26 K26
     refine pwp_seq_seq ?_
     refine pwp_seq_plain rfl fun K29 hK29 => ?_
     refine p_step rfl (e_assign (v := .sc _) rfl) trivial ?_
     refine p_end (hK29 _ ?_); clear hK29 K29
     refine pwp_seq_block fun K30 hK30 => ?_
     refine pwp_loopR (α := Nat) [0, 1] (fun (k : Nat) => [(7, .int (k))]) (fun (k : Nat) (h : Heap) (_ : Nat → Nat) => ((k) ≤ ws.length) ∧ (goM ps ws = goM ps (ws.drop (k)))) (fun (k : Nat) => ws.length - (k)) (0) (by exact ⟨rfl, trivial⟩) (by exact ⟨by exact Nat.zero_le _, by exact rfl⟩) fun k r31 h32 c33 hj34 => ?_
     obtain ⟨hk, hinv⟩ := hj34
     try dsimp only at hk
     try dsimp only at hinv
     show pwp _ _ (loopQ _ _ _) ⟨sets (mix _ _ _) [(7, .int k)], _, _⟩
     refine pwp_seq_seq ?_
     refine pwp_seq_plain rfl fun K35 hK35 => ?_
     refine p_step rfl (e_move (v := .sc _) rfl) trivial ?_
     refine p_step rfl (e_move (v := .lit _ _ _) rfl) trivial ?_
     refine p_step rfl (e_len rfl (by kernel_rfl)) trivial ?_
     refine p_step rfl (e_lt rfl rfl) trivial ?_
     refine p_end (hK35 _ ?_); clear hK35 K35
     refine pwp_seq_cond rfl fun K36 hK36 => ⟨fun hb37 => ?_, fun hb37 => ?_⟩
     ·have hb37R := hb37; try simp only [z1, z2, z3, z4, z5, z6, ne_eq, z7, z8, z9, z10, z11, z12] at hb37
      obtain ⟨x, hx, hd, ht⟩ := get_lt (xs := ws) (i := k) (by omega)
      rw [hd] at hinv; simp only [goM] at hinv
      refine pwp_skip ?_
      refine seq_norm (hK36 _ ?_); clear hK36 K36
      refine pwp_seq_block fun K38 hK38 => ?_
      refine pwp_seq_plain rfl fun K39 hK39 => ?_
      refine p_step rfl (e_move (v := .lit _ _ _) rfl) trivial ?_
      refine p_step rfl (e_move (v := .lit _ _ _) rfl) trivial ?_
      refine p_step rfl (e_move (v := .sc _) rfl) trivial ?_
      refine p_step rfl (e_ixa rfl rfl (by kernel_rfl) (by kernel_rfl) (by simp only [List.length_map]; omega)) trivial ?_
      refine p_step rfl (e_fa (pl := [(0, 1, false), (1, 1, false)]) rfl (by kernel_rfl) (by kernel_rfl) (by decide) rfl) trivial ?_
      refine p_step rfl (e_load (v := .sc _) rfl (by kernel_rfl) (by kernel_rfl) (by kernel_rfl) (by simp only [List.length_map]; omega) (by decide) ((cell_map hx _).trans rfl)) trivial ?_
      refine p_call rfl (.cons inn_lit (.cons inn_sc .nil)) (find _ _ (by first | omega | (simp only [List.length_take]; omega))) ?_
      refine p_step rfl (e_lt rfl rfl) trivial ?_
      refine p_end (hK39 _ ?_); clear hK39 K39
      refine pwp_cond rfl (fun hb40 => ?_) (fun hb40 => ?_)
      ·have hb40R := hb40; try simp only [z1, z2, z3, z4, z5, z6, ne_eq, z7, z8, z9, z10, z11, z12] at hb40
       refine pwp_seq_plain rfl fun K41 hK41 => ?_
       refine p_step rfl (e_assign (v := .sc _) rfl) trivial ?_
       refine p_end (hK41 _ ?_); clear hK41 K41
       refine pwp_ret ?_
       refine ret_block ?_
       refine ret_seq ?_
       refine ret_loop ?_
       refine ret_block ?_
       refine ret_seq ?_
       refine end1 (v := .sc _) rfl ?_
       first
         | exact out_i (rw_1 (by omega))
         | exact out_i (rw_2 (by omega) (by rw [hinv, if_pos (by assumption)]) (by decide))
         | exact out_i (rw_2 (by omega) (by rw [hinv, if_neg (by rw [Bool.not_eq_false]; assumption), if_pos (by omega)]) (by decide))
         | exact out_i (rw_3 (by omega) hwe (by assumption))
         | exact out_i (rw_4 (by omega) hwe (by assumption) (by rw [hinv, if_pos (by omega)]))
         | exact out_i (rw_4 (by omega) hwe (by assumption) hinv.symm)
      ·have hb40R := hb40; try simp only [z1, z2, z3, z4, z5, z6, ne_eq, z7, z8, z9, z10, z11, z12] at hb40
       refine pwp_skip ?_
       refine block_norm ?_
       refine seq_norm (hK38 _ ?_); clear hK38 K38
       refine pwp_plain rfl fun K42 hK42 => ?_
       refine p_step rfl (e_move (v := .sc _) rfl) trivial ?_
       refine p_step rfl (e_add rfl rfl (by omega)) trivial ?_
       refine p_step rfl (e_assign (v := .sc _) rfl) trivial ?_
       refine p_end (hK42 _ ?_); clear hK42 K42
       rw [if_neg (by omega)] at hinv
       exact loop_again (k + 1) (by show _ < _; omega) ⟨rfl, rfl, trivial⟩ ⟨rfl, trivial⟩ (by exact ⟨by show _ + 1 ≤ _; omega, by exact hinv⟩)
     ·have hb37R := hb37; try simp only [z1, z2, z3, z4, z5, z6, ne_eq, z7, z8, z9, z10, z11, z12] at hb37
      obtain rfl : k = ws.length := by omega
      rw [List.drop_length] at hinv; simp only [goM] at hinv
      refine pwp_exit ?_
      refine exit_seq ?_
      clear hK36 K36
      refine exit_loop ?_
      refine exit_here ?_
      refine seq_norm (hK30 _ ?_); clear hK30 K30
      refine pwp_seq_plain rfl fun K43 hK43 => ?_
      refine p_step rfl (e_assign (v := .sc _) rfl) trivial ?_
      refine p_end (hK43 _ ?_); clear hK43 K43
      refine pwp_ret ?_
      refine end1 (v := .sc _) rfl ?_
      first
        | exact out_i (rw_1 (by omega))
        | exact out_i (rw_2 (by omega) (by rw [hinv, if_pos (by assumption)]) (by decide))
        | exact out_i (rw_2 (by omega) (by rw [hinv, if_neg (by rw [Bool.not_eq_false]; assumption), if_pos (by omega)]) (by decide))
        | exact out_i (rw_3 (by omega) hwe (by assumption))
        | exact out_i (rw_4 (by omega) hwe (by assumption) (by rw [hinv, if_pos (by omega)]))
        | exact out_i (rw_4 (by omega) hwe (by assumption) hinv.symm)

theorem fr49 : (inFrame Try.f49.ntmps (Try.f49.body.getD .skip) && Try.f49.results.toList.all (resScope Try.f49.ntmps)) = true := by kernel_rfl
theorem refMass (ws : List Want) (ps : List Part) (hl : ws.length ≤ 70) (hl2 : ps.length ≤ 70) (h0 : (wantR ws ps).1 = 0) : PCalls Try.prog 49 [.lit true 2 (ws.map Want.enc), .lit true 7 (ps.map Part.enc)] (.int (massW ws ps)) := by
  refine PCalls.of_code Try.func49 rfl rfl (by kernel_rfl) mixed fr49 (by show _ ≤ 33; simp) (.sc _) ?_
  have hlen := wantR_len h0
  refine pwp_seq_plain rfl fun K1 hK1 => ?_
  refine p_step rfl (e_assign (v := .sc _) rfl) trivial ?_
  refine p_end (hK1 _ ?_); clear hK1 K1
  refine pwp_seq_plain rfl fun K2 hK2 => ?_
  refine p_step rfl (e_assign (v := .sc _) rfl) trivial ?_
  refine p_end (hK2 _ ?_); clear hK2 K2
  refine pwp_seq_seq ?_
  refine pwp_seq_plain rfl fun K3 hK3 => ?_
  refine p_step rfl (e_assign (v := .sc _) rfl) trivial ?_
  refine p_end (hK3 _ ?_); clear hK3 K3
  refine pwp_seq_block fun K4 hK4 => ?_
  refine pwp_loopR (α := Nat × Int) [0, 1] (fun (a5 : Nat × Int) => [(5, .int (a5.2)), (6, .int (a5.1))]) (fun (a5 : Nat × Int) (h : Heap) (_ : Nat → Nat) => ((a5.1) ≤ ws.length) ∧ (massS 0 ws (wantR ws ps).2 = massS (a5.2) (ws.drop (a5.1)) ((wantR ws ps).2.drop (a5.1))) ∧ (0 ≤ (a5.2) ∧ (a5.2) ≤ 1000000000000 * ((a5.1) : Int))) (fun (a5 : Nat × Int) => ws.length - (a5.1)) (0, 0) (by exact ⟨rfl, rfl, trivial⟩) (by exact ⟨by exact Nat.zero_le _, by exact rfl, by exact ⟨Int.le_refl _, by simp⟩⟩) fun a5 r6 h7 c8 hj9 => ?_
  obtain ⟨k, s⟩ := a5
  obtain ⟨hk, hinv, hb⟩ := hj9
  try dsimp only at hk
  try dsimp only at hinv
  try dsimp only at hb
  show pwp _ _ (loopQ _ _ _) ⟨sets (mix _ _ _) [(5, .int s), (6, .int k)], _, _⟩
  refine pwp_seq_seq ?_
  refine pwp_seq_plain rfl fun K10 hK10 => ?_
  refine p_step rfl (e_move (v := .sc _) rfl) trivial ?_
  refine p_step rfl (e_move (v := .lit _ _ _) rfl) trivial ?_
  refine p_step rfl (e_len rfl (by kernel_rfl)) trivial ?_
  refine p_step rfl (e_lt rfl rfl) trivial ?_
  refine p_end (hK10 _ ?_); clear hK10 K10
  refine pwp_seq_cond rfl fun K11 hK11 => ⟨fun hb12 => ?_, fun hb12 => ?_⟩
  ·have hb12R := hb12; try simp only [z1, z2, z3, z4, z5, z6, ne_eq, z7, z8, z9, z10, z11, z12] at hb12
   obtain ⟨w, hw, hdw, htw⟩ := get_lt (xs := ws) (i := k) (by omega)
   obtain ⟨x, hx, hd, ht⟩ := get_lt (xs := (wantR ws ps).2) (i := k) (by omega)
   have hpx := wantR_parts (ws := ws) (ps := ps) h0 x (List.mem_of_getElem? hx)
   have hcw := wantR_counts (ws := ws) (ps := ps) h0 w (List.mem_of_getElem? hw)
   obtain ⟨j, hj1, hj2, hj3⟩ := want_at h0 hw
   have hy : ps[(findP ps w.part).toNat]? = some x := by rw [hj1, Int.toNat_natCast, hj3]; exact hx
   have hfi : 0 ≤ findP ps w.part ∧ findP ps w.part < (ps.length : Int) := by omega
   have hmul := mul_small hcw hpx.2.2.2
   rw [hdw, hd] at hinv; simp only [massS] at hinv
   refine pwp_skip ?_
   refine seq_norm (hK11 _ ?_); clear hK11 K11
   refine pwp_seq_block fun K13 hK13 => ?_
   refine pwp_gops rfl fun K14 hK14 => ?_
   refine g_begin ?_
   refine g_step rfl rfl rfl rfl (e_move (v := .sc _) rfl) trivial ?_
   refine g_step rfl rfl rfl rfl (e_move (v := .lit _ _ _) rfl) trivial ?_
   refine g_step rfl rfl rfl rfl (e_move (v := .sc _) rfl) trivial ?_
   refine g_step rfl rfl rfl rfl (e_ixa rfl rfl (by kernel_rfl) (by kernel_rfl) (by simp only [List.length_map]; omega)) trivial ?_
   refine g_step rfl rfl rfl rfl (e_fa (pl := [(0, 1, false), (1, 1, false)]) rfl (by kernel_rfl) (by kernel_rfl) (by decide) rfl) trivial ?_
   refine g_step rfl rfl rfl rfl (e_load (v := .sc _) rfl (by kernel_rfl) (by kernel_rfl) (by kernel_rfl) (by simp only [List.length_map]; omega) (by decide) ((cell_map hw _).trans rfl)) trivial ?_
   refine g_step rfl rfl rfl rfl (e_move (v := .lit _ _ _) rfl) trivial ?_
   refine g_step rfl rfl rfl rfl (e_move (v := .lit _ _ _) rfl) trivial ?_
   refine g_step rfl rfl rfl rfl (e_move (v := .lit _ _ _) rfl) trivial ?_
   refine g_step rfl rfl rfl rfl (e_move (v := .sc _) rfl) trivial ?_
   refine g_step rfl rfl rfl rfl (e_ixa rfl rfl (by kernel_rfl) (by kernel_rfl) (by simp only [List.length_map]; omega)) trivial ?_
   refine g_step rfl rfl rfl rfl (e_fa (pl := [(0, 1, false), (1, 1, false)]) rfl (by kernel_rfl) (by kernel_rfl) (by decide) rfl) trivial ?_
   refine g_step rfl rfl rfl rfl (e_load (v := .sc _) rfl (by kernel_rfl) (by kernel_rfl) (by kernel_rfl) (by simp only [List.length_map]; omega) (by decide) ((cell_map hw _).trans rfl)) trivial ?_
   refine g_call rfl rfl rfl rfl (.cons inn_lit (.cons inn_sc .nil)) (find _ _ (by first | omega | (simp only [List.length_take]; omega))) ?_
   refine g_step rfl rfl rfl rfl (e_ixa rfl rfl (by kernel_rfl) (by kernel_rfl) (by simp only [List.length_map]; omega)) trivial ?_
   refine g_step rfl rfl rfl rfl (e_fa (pl := [(0, 1, false), (1, 1, false), (2, 1, false), (3, 1, false), (4, 1, false), (5, 2, true)]) rfl (by kernel_rfl) (by kernel_rfl) (by decide) rfl) trivial ?_
   refine g_step rfl rfl rfl rfl (e_load (v := .sc _) rfl (by kernel_rfl) (by kernel_rfl) (by kernel_rfl) (by simp only [List.length_map]; omega) (by decide) ((cell_map hy _).trans rfl)) trivial ?_
   refine g_step rfl rfl rfl rfl (e_mul rfl rfl (by first | omega | (simp only [List.length_map]; omega))) trivial ?_
   refine g_step rfl rfl rfl rfl (e_add rfl rfl (by first | omega | (simp only [List.length_map]; omega))) trivial ?_
   refine g_step rfl rfl rfl rfl (e_assign (v := .sc _) rfl) trivial ?_
   refine g_end (ds := []) (by kernel_rfl) rfl (hK14 _ ?_); clear hK14 K14
   refine block_norm ?_
   refine seq_norm (hK13 _ ?_); clear hK13 K13
   refine pwp_plain rfl fun K15 hK15 => ?_
   refine p_step rfl (e_move (v := .sc _) rfl) trivial ?_
   refine p_step rfl (e_add rfl rfl (by first | omega | (simp only [List.length_map]; omega))) trivial ?_
   refine p_step rfl (e_assign (v := .sc _) rfl) trivial ?_
   refine p_end (hK15 _ ?_); clear hK15 K15
   exact loop_again ((k + 1, (s + (w.count * x.mass)))) (by show _ < _; simp only; omega) ⟨rfl, rfl, trivial⟩ ⟨rfl, rfl, trivial⟩ (by exact ⟨by show _ + 1 ≤ _; omega, by exact hinv, by show 0 ≤ _ ∧ _ ≤ _; omega⟩)
  ·have hb12R := hb12; try simp only [z1, z2, z3, z4, z5, z6, ne_eq, z7, z8, z9, z10, z11, z12] at hb12
   obtain rfl : k = ws.length := by omega
   rw [List.drop_length] at hinv; simp only [massS] at hinv
   refine pwp_exit ?_
   refine exit_seq ?_
   clear hK11 K11
   refine exit_loop ?_
   refine exit_here ?_
   refine seq_norm (hK4 _ ?_); clear hK4 K4
   refine pwp_seq_plain rfl fun K16 hK16 => ?_
   refine p_step rfl (e_move (v := .sc _) rfl) trivial ?_
   refine p_step rfl (e_assign (v := .sc _) rfl) trivial ?_
   refine p_end (hK16 _ ?_); clear hK16 K16
   refine pwp_ret ?_
   refine end1 (v := .sc _) rfl ?_
   exact out_i (by rw [mass_2 h0, hinv])

theorem fr86 : (inFrame Try.f86.ntmps (Try.f86.body.getD .skip) && Try.f86.results.toList.all (resScope Try.f86.ntmps)) = true := by kernel_rfl
theorem refLength (q : Int) (hq : 0 ≤ q ∧ q ≤ 20000000000000) : PCalls Try.prog 86 [.int q] (.int (lenY q)) := by
  refine PCalls.of_code Try.func86 rfl rfl (by kernel_rfl) mixed fr86 (by show _ ≤ 22; simp) (.sc _) ?_
  refine pwp_seq_plain rfl fun K1 hK1 => ?_
  refine p_step rfl (e_assign (v := .sc _) rfl) trivial ?_
  refine p_end (hK1 _ ?_); clear hK1 K1
  refine pwp_seq_plain rfl fun K2 hK2 => ?_
  refine p_step rfl (e_assign (v := .sc _) rfl) trivial ?_
  refine p_step rfl (e_assign (v := .sc _) rfl) trivial ?_
  refine p_end (hK2 _ ?_); clear hK2 K2
  refine pwp_seq_block fun K3 hK3 => ?_
  refine pwp_loopR (α := Int × Int) [0] (fun (a4 : Int × Int) => [(3, .int (a4.1)), (4, .int (a4.2))]) (fun (a4 : Int × Int) (h : Heap) (_ : Nat → Nat) => (0 ≤ (a4.1) ∧ (a4.1) ≤ (a4.2) ∧ (a4.2) ≤ 10000000) ∧ (q ≤ (a4.2) * (a4.2)) ∧ (∀ i : Nat, (i : Int) < (a4.1) → (i : Int) * i < q)) (fun (a4 : Int × Int) => ((a4.2) - (a4.1)).toNat) (0, 10000000) (by exact ⟨rfl, rfl, trivial⟩) (by exact ⟨by omega, by (show q ≤ 10000000 * 10000000); omega, by exact fun i hi => absurd hi (by omega)⟩) fun a4 r5 h6 c7 hj8 => ?_
  obtain ⟨n, high⟩ := a4
  obtain ⟨hh, hge, hbl⟩ := hj8
  try dsimp only at hh
  try dsimp only at hge
  try dsimp only at hbl
  show pwp _ _ (loopQ _ _ _) ⟨sets (mix _ _ _) [(3, .int n), (4, .int high)], _, _⟩
  refine pwp_seq_seq ?_
  refine pwp_seq_plain rfl fun K9 hK9 => ?_
  refine p_step rfl (e_move (v := .sc _) rfl) trivial ?_
  refine p_step rfl (e_move (v := .sc _) rfl) trivial ?_
  refine p_step rfl (e_lt rfl rfl) trivial ?_
  refine p_end (hK9 _ ?_); clear hK9 K9
  refine pwp_seq_cond rfl fun K10 hK10 => ⟨fun hb11 => ?_, fun hb11 => ?_⟩
  ·have hb11R := hb11; try simp only [z1, z2, z3, z4, z5, z6, ne_eq, z7, z8, z9, z10, z11, z12] at hb11
   have hmm := sq_le (h := (n + high) / (2)) (by omega) (by omega)
   refine pwp_skip ?_
   refine seq_norm (hK10 _ ?_); clear hK10 K10
   refine pwp_block ?_
   refine pwp_seq_plain rfl fun K12 hK12 => ?_
   refine p_step rfl (e_move (v := .sc _) rfl) trivial ?_
   refine p_step rfl (e_move (v := .sc _) rfl) trivial ?_
   refine p_step rfl (e_add rfl rfl (by omega)) trivial ?_
   refine p_step rfl (e_quo rfl rfl (by omega) (by omega) (by omega)) trivial ?_
   refine p_step rfl (e_assign (v := .sc _) rfl) trivial ?_
   refine p_end (hK12 _ ?_); clear hK12 K12
   refine pwp_seq_plain rfl fun K13 hK13 => ?_
   refine p_step rfl (e_move (v := .sc _) rfl) trivial ?_
   refine p_step rfl (e_move (v := .sc _) rfl) trivial ?_
   refine p_step rfl (e_mul rfl rfl (by omega)) trivial ?_
   refine p_step rfl (e_move (v := .sc _) rfl) trivial ?_
   refine p_step rfl (e_ge rfl rfl) trivial ?_
   refine p_end (hK13 _ ?_); clear hK13 K13
   refine pwp_cond rfl (fun hb14 => ?_) (fun hb14 => ?_)
   ·have hb14R := hb14; try simp only [z1, z2, z3, z4, z5, z6, ne_eq, z7, z8, z9, z10, z11, z12] at hb14
    refine pwp_plain rfl fun K15 hK15 => ?_
    refine p_step rfl (e_move (v := .sc _) rfl) trivial ?_
    refine p_step rfl (e_assign (v := .sc _) rfl) trivial ?_
    refine p_end (hK15 _ ?_); clear hK15 K15
    refine block_norm ?_
    exact loop_again ((n, ((n + high) / (2)))) (by show _ < _; simp only; omega) ⟨rfl, trivial⟩ ⟨rfl, rfl, trivial⟩ (by exact ⟨by show 0 ≤ _ ∧ _ ≤ _ ∧ _ ≤ _; omega, by first | assumption | omega, by first | assumption | exact all_below hbl (by omega) (by omega)⟩)
   ·have hb14R := hb14; try simp only [z1, z2, z3, z4, z5, z6, ne_eq, z7, z8, z9, z10, z11, z12] at hb14
    refine pwp_plain rfl fun K16 hK16 => ?_
    refine p_step rfl (e_move (v := .sc _) rfl) trivial ?_
    refine p_step rfl (e_add rfl rfl (by omega)) trivial ?_
    refine p_step rfl (e_assign (v := .sc _) rfl) trivial ?_
    refine p_end (hK16 _ ?_); clear hK16 K16
    refine block_norm ?_
    exact loop_again (((((n + high) / (2)) + (1)), high)) (by show _ < _; simp only; omega) ⟨rfl, trivial⟩ ⟨rfl, rfl, trivial⟩ (by exact ⟨by show 0 ≤ _ ∧ _ ≤ _ ∧ _ ≤ _; omega, by first | assumption | omega, by first | assumption | exact all_below hbl (by omega) (by omega)⟩)
  ·have hb11R := hb11; try simp only [z1, z2, z3, z4, z5, z6, ne_eq, z7, z8, z9, z10, z11, z12] at hb11
   obtain rfl : n = high := by omega
   refine pwp_exit ?_
   refine exit_seq ?_
   clear hK10 K10
   refine exit_loop ?_
   refine exit_here ?_
   refine seq_norm (hK3 _ ?_); clear hK3 K3
   refine pwp_seq_plain rfl fun K17 hK17 => ?_
   refine p_step rfl (e_move (v := .sc _) rfl) trivial ?_
   refine p_step rfl (e_assign (v := .sc _) rfl) trivial ?_
   refine p_end (hK17 _ ?_); clear hK17 K17
   refine pwp_ret ?_
   refine end1 (v := .sc _) rfl ?_
   exact out_i (lenY_eq (by omega) hge hbl)

end Go.Proofs.Ytigdmkhdmbbfiaa

/- The bundles of the reference. No conditions. -/
set_option linter.unusedSimpArgs false
set_option linter.unusedVariables false
set_option maxRecDepth 100000
namespace Go.Proofs.Ytigdmkhdmbbfiaa
open Go Go.Pv

theorem bun_min {p : Part} {size left : Int} {f : Nat} {out : List Item} (h : 0 < left) : bun p size f (left - size) out = bun p size f (left - min left size) out := by
  by_cases h1 : left ≤ size
  · rw [bun_0 (by omega), bun_0 (by omega)]
  · rw [show min left size = size by omega]
theorem n_eq {w : Want} {x : Part} {most left : Int} (h : left ≤ w.count) : (if (decide (0 < x.mass)) = true then (min left (most / x.mass)) else left) = min left (sizeB w x most) := by
  unfold sizeB
  by_cases hq : decide (0 < x.mass) = true
  · rw [if_pos hq, if_pos hq]
  · rw [if_neg hq, if_neg hq]; omega
theorem eqOk_Item (a b : Item) : eqOk Try.prog 6 95 (.agg a.enc) (.agg b.enc) = true := by kernel_rfl
theorem eqV_Item (a b : Item) : eqV Try.prog 6 95 (.agg a.enc) (.agg b.enc) = decide (a = b) := by
  have h : eqV Try.prog 6 95 (.agg a.enc) (.agg b.enc) = (decide (a.name = b.name) && ((a.mass == b.mass) && ((a.length == b.length) && true))) := by kernel_rfl
  rw [h]
  cases a; cases b
  simp only [Item.mk.injEq]
  rw [Bool.eq_iff_iff]
  simp
theorem same_endL {α : Type} {xs ys : List α} (hl : xs.length = ys.length) (h : xs.take xs.length = ys.take xs.length) : xs = ys := by
  rw [List.take_length] at h
  rw [h, hl, List.take_length]
theorem same_badL {α : Type} {xs ys : List α} {k : Nat} {x y : α} (hx : xs[k]? = some x) (hy : ys[k]? = some y) (hn : ¬ x = y) : ¬ xs = ys := fun h => by subst h; rw [hx] at hy; cases hy; exact hn rfl
theorem take_snoc2 {α : Type} {xs ys : List α} {k : Nat} {x y : α} (hx : xs.take (k + 1) = xs.take k ++ [x]) (hy : ys.take (k + 1) = ys.take k ++ [y]) (he : xs.take k = ys.take k) (h : x = y) : xs.take (k + 1) = ys.take (k + 1) := by rw [hx, hy, he, h]

theorem fr52 : (inFrame Try.f52.ntmps (Try.f52.body.getD .skip) && Try.f52.results.toList.all (resScope Try.f52.ntmps)) = true := by kernel_rfl
theorem sameItems (xs ys : List Item) (hl : xs.length ≤ 10000000) : PCalls Try.prog 52 [.lit true 3 (xs.map Item.enc), .lit true 3 (ys.map Item.enc)] (.bool (decide (xs = ys))) := by
  refine PCalls.of_code Try.func52 rfl rfl (by kernel_rfl) mixed fr52 (by show _ ≤ 26; simp) (.sc _) ?_
  refine pwp_seq_plain rfl fun K1 hK1 => ?_
  refine p_step rfl (e_assign (v := .sc _) rfl) trivial ?_
  refine p_end (hK1 _ ?_); clear hK1 K1
  refine pwp_seq_seq ?_
  refine pwp_seq_plain rfl fun K2 hK2 => ?_
  refine p_step rfl (e_move (v := .lit _ _ _) rfl) trivial ?_
  refine p_step rfl (e_len rfl (by kernel_rfl)) trivial ?_
  refine p_step rfl (e_move (v := .lit _ _ _) rfl) trivial ?_
  refine p_step rfl (e_len rfl (by kernel_rfl)) trivial ?_
  refine p_step rfl (e_ne rfl rfl) trivial ?_
  refine p_end (hK2 _ ?_); clear hK2 K2
  refine pwp_seq_cond rfl fun K3 hK3 => ⟨fun hb4 => ?_, fun hb4 => ?_⟩
  ·have hb4R := hb4; try simp only [z1, z2, z3, z4, z5, z6, ne_eq, z7, z8, z9, z10, z11, z12] at hb4
   refine pwp_seq_plain rfl fun K5 hK5 => ?_
   refine p_step rfl (e_assign (v := .sc _) rfl) trivial ?_
   refine p_end (hK5 _ ?_); clear hK5 K5
   refine pwp_ret ?_
   refine ret_seq ?_
   refine end1 (v := .sc _) rfl ?_
   first
     | exact out_b (decide_eq_false (by first | (intro hc; subst hc; omega) | exact same_badL hx hy (by assumption))).symm
     | exact out_b (decide_eq_true (same_endL (by omega) he)).symm
  ·have hb4R := hb4; try simp only [z1, z2, z3, z4, z5, z6, ne_eq, z7, z8, z9, z10, z11, z12] at hb4
   refine pwp_skip ?_
   refine seq_norm (hK3 _ ?_); clear hK3 K3
   refine pwp_seq_seq ?_
   refine pwp_seq_plain rfl fun K6 hK6 => ?_
   refine p_step rfl (e_assign (v := .sc _) rfl) trivial ?_
   refine p_end (hK6 _ ?_); clear hK6 K6
   refine pwp_seq_block fun K7 hK7 => ?_
   refine pwp_loopR (α := Nat) [0, 1] (fun (k : Nat) => [(5, .int (k))]) (fun (k : Nat) (h : Heap) (_ : Nat → Nat) => ((k) ≤ xs.length) ∧ (xs.take (k) = ys.take (k))) (fun (k : Nat) => xs.length - (k)) (0) (by exact ⟨rfl, trivial⟩) (by exact ⟨by exact Nat.zero_le _, by exact rfl⟩) fun k r8 h9 c10 hj11 => ?_
   obtain ⟨hk, he⟩ := hj11
   try dsimp only at hk
   try dsimp only at he
   show pwp _ _ (loopQ _ _ _) ⟨sets (mix _ _ _) [(5, .int k)], _, _⟩
   refine pwp_seq_seq ?_
   refine pwp_seq_plain rfl fun K12 hK12 => ?_
   refine p_step rfl (e_move (v := .sc _) rfl) trivial ?_
   refine p_step rfl (e_move (v := .lit _ _ _) rfl) trivial ?_
   refine p_step rfl (e_len rfl (by kernel_rfl)) trivial ?_
   refine p_step rfl (e_lt rfl rfl) trivial ?_
   refine p_end (hK12 _ ?_); clear hK12 K12
   refine pwp_seq_cond rfl fun K13 hK13 => ⟨fun hb14 => ?_, fun hb14 => ?_⟩
   ·have hb14R := hb14; try simp only [z1, z2, z3, z4, z5, z6, ne_eq, z7, z8, z9, z10, z11, z12] at hb14
    obtain ⟨x, hx, hd, ht⟩ := get_lt (xs := xs) (i := k) (by omega)
    obtain ⟨y, hy, hdy, hty⟩ := get_lt (xs := ys) (i := k) (by omega)
    refine pwp_skip ?_
    refine seq_norm (hK13 _ ?_); clear hK13 K13
    refine pwp_seq_block fun K15 hK15 => ?_
    refine pwp_seq_gops rfl fun K16 hK16 => ?_
    refine g_begin ?_
    refine g_step rfl rfl rfl rfl (e_move (v := .lit _ _ _) rfl) trivial ?_
    refine g_step rfl rfl rfl rfl (e_move (v := .sc _) rfl) trivial ?_
    refine g_step rfl rfl rfl rfl (e_ixa rfl rfl (by kernel_rfl) (by kernel_rfl) (by simp only [List.length_map]; omega)) trivial ?_
    refine g_step rfl rfl rfl rfl (e_loadA (n := 3) rfl (by kernel_rfl) (by kernel_rfl) (by kernel_rfl) (by simp only [List.length_map]; omega) (by decide) (by first | exact agg_map hx rfl)) trivial ?_
    refine g_step rfl rfl rfl rfl (e_move (v := .lit _ _ _) rfl) trivial ?_
    refine g_step rfl rfl rfl rfl (e_move (v := .sc _) rfl) trivial ?_
    refine g_step rfl rfl rfl rfl (e_ixa rfl rfl (by kernel_rfl) (by kernel_rfl) (by simp only [List.length_map]; omega)) trivial ?_
    refine g_step rfl rfl rfl rfl (e_loadA (n := 3) rfl (by kernel_rfl) (by kernel_rfl) (by kernel_rfl) (by simp only [List.length_map]; omega) (by decide) (by first | exact agg_map hy rfl)) trivial ?_
    refine g_step rfl rfl rfl rfl (e_ane rfl rfl (by kernel_rfl) (eqOk_Item (x) (y)) (eqV_Item (x) (y))) trivial ?_
    refine g_end (ds := []) (by kernel_rfl) rfl (hK16 _ ?_); clear hK16 K16
    refine pwp_cond rfl (fun hb17 => ?_) (fun hb17 => ?_)
    ·have hb17R := hb17; try simp only [z1, z2, z3, z4, z5, z6, ne_eq, z7, z8, z9, z10, z11, z12] at hb17
     refine pwp_seq_plain rfl fun K18 hK18 => ?_
     refine p_step rfl (e_assign (v := .sc _) rfl) trivial ?_
     refine p_end (hK18 _ ?_); clear hK18 K18
     refine pwp_ret ?_
     refine ret_block ?_
     refine ret_seq ?_
     refine ret_loop ?_
     refine ret_block ?_
     refine ret_seq ?_
     refine end1 (v := .sc _) rfl ?_
     first
       | exact out_b (decide_eq_false (by first | (intro hc; subst hc; omega) | exact same_badL hx hy (by assumption))).symm
       | exact out_b (decide_eq_true (same_endL (by omega) he)).symm
    ·have hb17R := hb17; try simp only [z1, z2, z3, z4, z5, z6, ne_eq, z7, z8, z9, z10, z11, z12] at hb17
     refine pwp_skip ?_
     refine block_norm ?_
     refine seq_norm (hK15 _ ?_); clear hK15 K15
     refine pwp_plain rfl fun K19 hK19 => ?_
     refine p_step rfl (e_move (v := .sc _) rfl) trivial ?_
     refine p_step rfl (e_add rfl rfl (by omega)) trivial ?_
     refine p_step rfl (e_assign (v := .sc _) rfl) trivial ?_
     refine p_end (hK19 _ ?_); clear hK19 K19
     exact loop_again (k + 1) (by show _ < _; omega) ⟨rfl, rfl, trivial⟩ ⟨rfl, trivial⟩ (by exact ⟨by show _ + 1 ≤ _; omega, by exact take_snoc2 ht hty he (by assumption)⟩)
   ·have hb14R := hb14; try simp only [z1, z2, z3, z4, z5, z6, ne_eq, z7, z8, z9, z10, z11, z12] at hb14
    obtain rfl : k = xs.length := by omega
    refine pwp_exit ?_
    refine exit_seq ?_
    clear hK13 K13
    refine exit_loop ?_
    refine exit_here ?_
    refine seq_norm (hK7 _ ?_); clear hK7 K7
    refine pwp_seq_plain rfl fun K20 hK20 => ?_
    refine p_step rfl (e_assign (v := .sc _) rfl) trivial ?_
    refine p_end (hK20 _ ?_); clear hK20 K20
    refine pwp_ret ?_
    refine end1 (v := .sc _) rfl ?_
    first
      | exact out_b (decide_eq_false (by first | (intro hc; subst hc; omega) | exact same_badL hx hy (by assumption))).symm
      | exact out_b (decide_eq_true (same_endL (by omega) he)).symm

theorem fr51 : (inFrame Try.f51.ntmps (Try.f51.body.getD .skip) && Try.f51.results.toList.all (resScope Try.f51.ntmps)) = true := by kernel_rfl
theorem refBundles (ws : List Want) (ps : List Part) (most : Int) (hl : ws.length ≤ 70) (hl2 : ps.length ≤ 70) (h0 : (wantR ws ps).1 = 0) (hm : 1 ≤ most ∧ most ≤ 100000000) : PCalls Try.prog 51 [.lit true 2 (ws.map Want.enc), .lit true 7 (ps.map Part.enc), .int most] (.tup [.lit false 3 ((bunR ws ps most).2.map Item.enc), .int (bunR ws ps most).1]) := by
  refine PCalls.of_code Try.func51 rfl rfl (by kernel_rfl) mixed fr51 (by show _ ≤ 96; simp) (pure_2 (.lit _ _ _ fun row hr => pure_map Item.pure row hr) (.sc _)) ?_
  have hlen := wantR_len h0
  refine pwp_seq_plain rfl fun K1 hK1 => ?_
  refine p_step rfl (e_assign (v := .nil) rfl) trivial ?_
  refine p_step rfl (e_assign (v := .sc _) rfl) trivial ?_
  refine p_end (hK1 _ ?_); clear hK1 K1
  refine pwp_seq_plain rfl fun K2 hK2 => ?_
  refine p_step rfl (e_assign (v := .nil) rfl) trivial ?_
  refine p_end (hK2 _ ?_); clear hK2 K2
  refine pwp_seq_seq ?_
  refine pwp_seq_plain rfl fun K3 hK3 => ?_
  refine p_step rfl (e_assign (v := .sc _) rfl) trivial ?_
  refine p_end (hK3 _ ?_); clear hK3 K3
  refine pwp_seq_block fun K4 hK4 => ?_
  refine pwp_loopR (α := Nat) [0, 1, 2, 8] (fun (k : Nat) => [(9, .int (k))]) (fun (k : Nat) (h : Heap) (_ : Nat → Nat) => ((k) ≤ ws.length) ∧ (heavyB most ws (wantR ws ps).2 = heavyB most (ws.drop (k)) ((wantR ws ps).2.drop (k)))) (fun (k : Nat) => ws.length - (k)) (0) (by exact ⟨rfl, trivial⟩) (by exact ⟨by exact Nat.zero_le _, by exact rfl⟩) fun k r5 h6 c7 hj8 => ?_
  obtain ⟨hk, hinv⟩ := hj8
  try dsimp only at hk
  try dsimp only at hinv
  show pwp _ _ (loopQ _ _ _) ⟨sets (mix _ _ _) [(9, .int k)], _, _⟩
  refine pwp_seq_seq ?_
  refine pwp_seq_plain rfl fun K9 hK9 => ?_
  refine p_step rfl (e_move (v := .sc _) rfl) trivial ?_
  refine p_step rfl (e_move (v := .lit _ _ _) rfl) trivial ?_
  refine p_step rfl (e_len rfl (by kernel_rfl)) trivial ?_
  refine p_step rfl (e_lt rfl rfl) trivial ?_
  refine p_end (hK9 _ ?_); clear hK9 K9
  refine pwp_seq_cond rfl fun K10 hK10 => ⟨fun hb11 => ?_, fun hb11 => ?_⟩
  ·have hb11R := hb11; (try simp only [z1, z2, z3, z4, z5, z6, ne_eq, z7, z8, z9, z10, z11, z12] at hb11); (try simp only [List.map_append, List.length_append, List.length_map, List.length_cons, List.length_nil] at hb11)
   obtain ⟨w, hw, hdw, htw⟩ := get_lt (xs := ws) (i := k) (by omega)
   obtain ⟨x, hx, hd, ht⟩ := get_lt (xs := (wantR ws ps).2) (i := k) (by omega)
   have hpx := wantR_parts (ws := ws) (ps := ps) h0 x (List.mem_of_getElem? hx)
   have hcw := wantR_counts (ws := ws) (ps := ps) h0 w (List.mem_of_getElem? hw)
   obtain ⟨j, hj1, hj2, hj3⟩ := want_at h0 hw
   have hy : ps[(findP ps w.part).toNat]? = some x := by rw [hj1, Int.toNat_natCast, hj3]; exact hx
   have hfi : 0 ≤ findP ps w.part ∧ findP ps w.part < (ps.length : Int) := by omega
   rw [hdw, hd] at hinv; simp only [heavyB] at hinv
   refine pwp_skip ?_
   refine seq_norm (hK10 _ ?_); clear hK10 K10
   refine pwp_seq_block fun K12 hK12 => ?_
   refine pwp_seq_plain rfl fun K13 hK13 => ?_
   refine p_step rfl (e_move (v := .lit _ _ _) rfl) trivial ?_
   refine p_step rfl (e_move (v := .lit _ _ _) rfl) trivial ?_
   refine p_step rfl (e_move (v := .lit _ _ _) rfl) trivial ?_
   refine p_step rfl (e_move (v := .sc _) rfl) trivial ?_
   refine p_step rfl (e_ixa rfl rfl (by kernel_rfl) (by kernel_rfl) (by simp only [List.length_map]; omega)) trivial ?_
   refine p_step rfl (e_fa (pl := [(0, 1, false), (1, 1, false)]) rfl (by kernel_rfl) (by kernel_rfl) (by decide) rfl) trivial ?_
   refine p_step rfl (e_load (v := .sc _) rfl (by kernel_rfl) (by kernel_rfl) (by kernel_rfl) (by simp only [List.length_map]; omega) (by decide) ((cell_map hw _).trans rfl)) trivial ?_
   refine p_call rfl (.cons inn_lit (.cons inn_sc .nil)) (find _ _ (by first | omega | (simp only [List.length_take]; omega))) ?_
   refine p_step rfl (e_ixa rfl rfl (by kernel_rfl) (by kernel_rfl) (by simp only [List.length_map]; omega)) trivial ?_
   refine p_step rfl (e_loadA (n := 7) rfl (by kernel_rfl) (by kernel_rfl) (by kernel_rfl) (by simp only [List.length_map]; omega) (by decide) (by first | exact agg_map hy rfl)) trivial ?_
   refine p_new rfl (e_alloc (cs := [.str ByteArray.empty, .int 0, .int 0, .int 0, .int 0, .int 0, .int 0]) (n := 7) (by kernel_rfl) rfl (by decide)) (ob_alloc (by decide)) ?_
   refine p_store rfl (e_storeA rfl (hset_self _ _ _) rfl rfl rfl (by kernel_rfl) rfl (by kernel_rfl)) trivial ?_
   refine p_end (hK13 _ ?_); clear hK13 K13
   refine pwp_seq_cutG [0, 1, 2, 8, 9] [(42, .bool ((decide ((0) < w.count)) && (decide (most < x.mass))))] (fun K14 hK14 => ?_) (fun r15 => ?_)
   ·skip
    refine pwp_gops rfl fun K16 hK16 => ?_
    refine g_begin ?_
    refine g_step rfl rfl rfl rfl (e_move (v := .lit _ _ _) rfl) trivial ?_
    refine g_step rfl rfl rfl rfl (e_move (v := .sc _) rfl) trivial ?_
    refine g_step rfl rfl rfl rfl (e_ixa rfl rfl (by kernel_rfl) (by kernel_rfl) (by simp only [List.length_map]; omega)) trivial ?_
    refine g_step rfl rfl rfl rfl (e_fa (pl := [(0, 1, false), (1, 1, false)]) rfl (by kernel_rfl) (by kernel_rfl) (by decide) rfl) trivial ?_
    refine g_step rfl rfl rfl rfl (e_load (v := .sc _) rfl (by kernel_rfl) (by kernel_rfl) (by kernel_rfl) (by simp only [List.length_map]; omega) (by decide) ((cell_map hw _).trans rfl)) trivial ?_
    refine g_step rfl rfl rfl rfl (e_gt rfl rfl) trivial ?_
    refine g_step rfl rfl rfl rfl (e_move (v := .sc _) rfl) trivial ?_
    refine g_cases (fun hb17 => ?_) (fun hb17 => ?_)
    ·have hb17R := hb17; (try simp only [z1, z2, z3, z4, z5, z6, ne_eq, z7, z8, z9, z10, z11, z12] at hb17); (try simp only [List.map_append, List.length_append, List.length_map, List.length_cons, List.length_nil] at hb17)
     refine g_step rfl rfl rfl rfl (e_faP (pl := [(0, 1, false), (1, 1, false), (2, 1, false), (3, 1, false), (4, 1, false), (5, 2, true)]) rfl (by kernel_rfl) (by kernel_rfl) (by decide) rfl) trivial ?_
     refine g_step rfl rfl rfl rfl (e_loadH (v := .sc _) rfl (hset_self _ _ _) (by kernel_rfl) (by kernel_rfl) (by kernel_rfl) (by exact Nat.zero_lt_one) (by decide) rfl) trivial ?_
     refine g_step rfl rfl rfl rfl (e_move (v := .sc _) rfl) trivial ?_
     refine g_step rfl rfl rfl rfl (e_gt rfl rfl) trivial ?_
     refine g_step rfl rfl rfl rfl (e_pickT (v := .sc _) rfl rfl) trivial ?_
     refine g_end (ds := [38, 39, 40, 41]) rfl rfl (hK16 _ ?_); clear hK16 K16
     exact seq_norm (hK14 _ ⟨rfl, rfl, rfl, rfl, rfl, trivial⟩ ⟨(congrArg PV.bool (show ((decide (most < x.mass)) : Bool) = ((decide ((0) < w.count)) && (decide (most < x.mass))) by first | rfl | ((try rw [hb17R]) <;> (first | rfl | (simp only [Bool.and_true, Bool.and_false, Bool.true_and, Bool.false_and, Bool.or_true, Bool.or_false, Bool.true_or, Bool.false_or, Bool.not_true, Bool.not_false, if_true, if_false, Bool.false_eq_true, reduceIte] <;> rfl))) | (simp only [hb17R, Bool.and_true, Bool.and_false, Bool.true_and, Bool.false_and, Bool.or_true, Bool.or_false, Bool.true_or, Bool.false_or, Bool.not_true, Bool.not_false, if_true, if_false, Bool.false_eq_true, reduceIte] <;> rfl))), trivial⟩)
    ·have hb17R := hb17; (try simp only [z1, z2, z3, z4, z5, z6, ne_eq, z7, z8, z9, z10, z11, z12] at hb17); (try simp only [List.map_append, List.length_append, List.length_map, List.length_cons, List.length_nil] at hb17)
     refine g_skip rfl rfl rfl ?_
     refine g_skip rfl rfl rfl ?_
     refine g_skip rfl rfl rfl ?_
     refine g_skip rfl rfl rfl ?_
     refine g_step rfl rfl rfl rfl (e_pickF (v := .sc _) rfl rfl) trivial ?_
     refine g_end (ds := [38, 39, 40, 41]) rfl rfl (hK16 _ ?_); clear hK16 K16
     exact seq_norm (hK14 _ ⟨rfl, rfl, rfl, rfl, rfl, trivial⟩ ⟨(congrArg PV.bool (show (false : Bool) = ((decide ((0) < w.count)) && (decide (most < x.mass))) by first | rfl | ((try rw [hb17R]) <;> (first | rfl | (simp only [Bool.and_true, Bool.and_false, Bool.true_and, Bool.false_and, Bool.or_true, Bool.or_false, Bool.true_or, Bool.false_or, Bool.not_true, Bool.not_false, if_true, if_false, Bool.false_eq_true, reduceIte] <;> rfl))) | (simp only [hb17R, Bool.and_true, Bool.and_false, Bool.true_and, Bool.false_and, Bool.or_true, Bool.or_false, Bool.true_or, Bool.false_or, Bool.not_true, Bool.not_false, if_true, if_false, Bool.false_eq_true, reduceIte] <;> rfl))), trivial⟩)
   ·skip
    refine pwp_cond rfl (fun hb18 => ?_) (fun hb18 => ?_)
    ·have hb18R := hb18; (try simp only [z1, z2, z3, z4, z5, z6, ne_eq, z7, z8, z9, z10, z11, z12] at hb18); (try simp only [List.map_append, List.length_append, List.length_map, List.length_cons, List.length_nil] at hb18)
     refine pwp_seq_plain rfl fun K19 hK19 => ?_
     refine p_step rfl (e_assign (v := .nil) rfl) trivial ?_
     refine p_step rfl (e_assign (v := .sc _) rfl) trivial ?_
     refine p_end (hK19 _ ?_); clear hK19 K19
     refine pwp_ret ?_
     refine ret_block ?_
     refine ret_seq ?_
     refine ret_loop ?_
     refine ret_block ?_
     refine ret_seq ?_
     refine end2 (v := .nil) (w := .sc _) rfl rfl ?_
     first
       | exact br_out0 (br_3 h0 hm (hv_t hinv (by omega) (by omega)))
       | exact br_out0 (br_4 h0 hm hhv (by rw [hinv, bun_1 hpos (by omega)]; rfl))
    ·have hb18R := hb18; (try simp only [z1, z2, z3, z4, z5, z6, ne_eq, z7, z8, z9, z10, z11, z12] at hb18); (try simp only [List.map_append, List.length_append, List.length_map, List.length_cons, List.length_nil] at hb18)
     refine pwp_skip ?_
     refine block_norm ?_
     refine seq_norm (hK12 _ ?_); clear hK12 K12
     refine pwp_plain rfl fun K20 hK20 => ?_
     refine p_step rfl (e_move (v := .sc _) rfl) trivial ?_
     refine p_step rfl (e_add rfl rfl (by first | omega | (simp only [List.length_map]; omega))) trivial ?_
     refine p_step rfl (e_assign (v := .sc _) rfl) trivial ?_
     refine p_end (hK20 _ ?_); clear hK20 K20
     exact loop_again (k + 1) (by show _ < _; omega) ⟨rfl, rfl, rfl, rfl, trivial⟩ ⟨rfl, trivial⟩ (by exact ⟨by show _ + 1 ≤ _; omega, by exact hv_f hinv (by omega)⟩)
  ·have hb11R := hb11; (try simp only [z1, z2, z3, z4, z5, z6, ne_eq, z7, z8, z9, z10, z11, z12] at hb11); (try simp only [List.map_append, List.length_append, List.length_map, List.length_cons, List.length_nil] at hb11)
   obtain rfl : k = ws.length := by omega
   rw [List.drop_length] at hinv; simp only [heavyB] at hinv
   have hhv := hinv; clear hinv
   refine pwp_exit ?_
   refine exit_seq ?_
   clear hK10 K10
   refine exit_loop ?_
   refine exit_here ?_
   refine seq_norm (hK4 _ ?_); clear hK4 K4
   refine pwp_seq_seq ?_
   refine pwp_seq_plain rfl fun K21 hK21 => ?_
   refine p_step rfl (e_assign (v := .sc _) rfl) trivial ?_
   refine p_end (hK21 _ ?_); clear hK21 K21
   refine pwp_seq_block fun K22 hK22 => ?_
   refine pwp_loopR (α := Nat × (List Item) × PV) [0, 1, 2] (fun (a23 : Nat × (List Item) × PV) => [(8, (a23.2.2)), (11, .int (a23.1))]) (fun (a23 : Nat × (List Item) × PV) (h : Heap) (_ : Nat → Nat) => ((a23.1) ≤ ws.length) ∧ (bunG most ws (wantR ws ps).2 [] = bunG most (ws.drop (a23.1)) ((wantR ws ps).2.drop (a23.1)) (a23.2.1)) ∧ ((a23.2.1).length ≤ 200) ∧ (SliceAt h 88 (a23.2.2) 3 ((a23.2.1).map Item.enc))) (fun (a23 : Nat × (List Item) × PV) => ws.length - (a23.1)) (0, [], _) (by exact ⟨rfl, rfl, trivial⟩) (by exact ⟨by exact Nat.zero_le _, by exact rfl, by exact Nat.zero_le _, .nil⟩) fun a23 r24 h25 c26 hj27 => ?_
   obtain ⟨k, acc, v⟩ := a23
   obtain ⟨hk, hinv, hal, hihj27_0⟩ := hj27
   try dsimp only at hk
   try dsimp only at hinv
   try dsimp only at hal
   try dsimp only at hihj27_0
   show pwp _ _ (loopQ _ _ _) ⟨sets (mix _ _ _) [(8, v), (11, .int k)], _, _⟩
   refine pwp_seq_seq ?_
   refine pwp_seq_plain rfl fun K28 hK28 => ?_
   refine p_step rfl (e_move (v := .sc _) rfl) trivial ?_
   refine p_step rfl (e_move (v := .lit _ _ _) rfl) trivial ?_
   refine p_step rfl (e_len rfl (by kernel_rfl)) trivial ?_
   refine p_step rfl (e_lt rfl rfl) trivial ?_
   refine p_end (hK28 _ ?_); clear hK28 K28
   refine pwp_seq_cond rfl fun K29 hK29 => ⟨fun hb30 => ?_, fun hb30 => ?_⟩
   ·have hb30R := hb30; (try simp only [z1, z2, z3, z4, z5, z6, ne_eq, z7, z8, z9, z10, z11, z12] at hb30); (try simp only [List.map_append, List.length_append, List.length_map, List.length_cons, List.length_nil] at hb30)
    obtain ⟨w, hw, hdw, htw⟩ := get_lt (xs := ws) (i := k) (by omega)
    obtain ⟨x, hx, hd, ht⟩ := get_lt (xs := (wantR ws ps).2) (i := k) (by omega)
    have hpx := wantR_parts (ws := ws) (ps := ps) h0 x (List.mem_of_getElem? hx)
    have hcw := wantR_counts (ws := ws) (ps := ps) h0 w (List.mem_of_getElem? hw)
    obtain ⟨j, hj1, hj2, hj3⟩ := want_at h0 hw
    have hy : ps[(findP ps w.part).toNat]? = some x := by rw [hj1, Int.toNat_natCast, hj3]; exact hx
    have hfi : 0 ≤ findP ps w.part ∧ findP ps w.part < (ps.length : Int) := by omega
    rw [hdw, hd] at hinv; simp only [bunG] at hinv
    have hso := size_ok (most := most) hcw hpx.2.2.2.1 (by omega) (heavy_get hhv hw hx)
    refine pwp_skip ?_
    refine seq_norm (hK29 _ ?_); clear hK29 K29
    refine pwp_seq_block fun K31 hK31 => ?_
    refine pwp_seq_plain rfl fun K32 hK32 => ?_
    refine p_step rfl (e_move (v := .lit _ _ _) rfl) trivial ?_
    refine p_step rfl (e_move (v := .lit _ _ _) rfl) trivial ?_
    refine p_step rfl (e_move (v := .lit _ _ _) rfl) trivial ?_
    refine p_step rfl (e_move (v := .sc _) rfl) trivial ?_
    refine p_step rfl (e_ixa rfl rfl (by kernel_rfl) (by kernel_rfl) (by simp only [List.length_map]; omega)) trivial ?_
    refine p_step rfl (e_fa (pl := [(0, 1, false), (1, 1, false)]) rfl (by kernel_rfl) (by kernel_rfl) (by decide) rfl) trivial ?_
    refine p_step rfl (e_load (v := .sc _) rfl (by kernel_rfl) (by kernel_rfl) (by kernel_rfl) (by simp only [List.length_map]; omega) (by decide) ((cell_map hw _).trans rfl)) trivial ?_
    refine p_call rfl (.cons inn_lit (.cons inn_sc .nil)) (find _ _ (by first | omega | (simp only [List.length_take]; omega))) ?_
    refine p_step rfl (e_ixa rfl rfl (by kernel_rfl) (by kernel_rfl) (by simp only [List.length_map]; omega)) trivial ?_
    refine p_step rfl (e_loadA (n := 7) rfl (by kernel_rfl) (by kernel_rfl) (by kernel_rfl) (by simp only [List.length_map]; omega) (by decide) (by first | exact agg_map hy rfl)) trivial ?_
    refine p_new rfl (e_alloc (cs := [.str ByteArray.empty, .int 0, .int 0, .int 0, .int 0, .int 0, .int 0]) (n := 7) (by kernel_rfl) rfl (by decide)) (ob_alloc (by decide)) ?_
    refine p_store rfl (e_storeA rfl (hset_self _ _ _) rfl rfl rfl (by kernel_rfl) rfl (by kernel_rfl)) trivial ?_
    refine p_end (hK32 _ ?_); clear hK32 K32
    refine pwp_seq_plain rfl fun K33 hK33 => ?_
    refine p_step rfl (e_move (v := .lit _ _ _) rfl) trivial ?_
    refine p_step rfl (e_move (v := .sc _) rfl) trivial ?_
    refine p_step rfl (e_ixa rfl rfl (by kernel_rfl) (by kernel_rfl) (by simp only [List.length_map]; omega)) trivial ?_
    refine p_step rfl (e_fa (pl := [(0, 1, false), (1, 1, false)]) rfl (by kernel_rfl) (by kernel_rfl) (by decide) rfl) trivial ?_
    refine p_step rfl (e_load (v := .sc _) rfl (by kernel_rfl) (by kernel_rfl) (by kernel_rfl) (by simp only [List.length_map]; omega) (by decide) ((cell_map hw _).trans rfl)) trivial ?_
    refine p_step rfl (e_assign (v := .sc _) rfl) trivial ?_
    refine p_end (hK33 _ ?_); clear hK33 K33
    refine pwp_block ?_
    refine pwp_loopR (α := Int × Nat × (List Item) × PV) [0, 1, 2, 11, 12] (fun (a34 : Int × Nat × (List Item) × PV) => [(8, (a34.2.2.2)), (13, .int (a34.1))]) (fun (a34 : Int × Nat × (List Item) × PV) (h : Heap) (_ : Nat → Nat) => ((a34.1) ≤ ((a34.2.1) : Int) ∧ (a34.1) ≤ w.count ∧ 0 ≤ (a34.1)) ∧ (bunG most ws (wantR ws ps).2 [] = bunK (bun x (sizeB w x most) (a34.2.1) (a34.1) (a34.2.2.1)) (fun o => bunG most (ws.drop (k + 1)) ((wantR ws ps).2.drop (k + 1)) o)) ∧ ((a34.2.2.1).length ≤ 200) ∧ (SliceAt h 88 (a34.2.2.2) 3 ((a34.2.2.1).map Item.enc)) ∧ (h (12, c26 12) = some (.rows 7 [Part.enc x]))) (fun (a34 : Int × Nat × (List Item) × PV) => (a34.2.1)) (w.count, w.count.toNat, acc, _) (by exact ⟨rfl, rfl, trivial⟩) (by exact ⟨by show w.count ≤ ((w.count.toNat : Nat) : Int) ∧ w.count ≤ w.count ∧ 0 ≤ w.count; omega, by exact hinv, by exact hal, (hihj27_0.keep fun _ => (hset_ne (key_ne rfl)).trans ((hset_ne (key_ne rfl)).trans (rfl))), (hset_self _ _ _)⟩) fun a34 r35 h36 c37 hj38 => ?_
    obtain ⟨left, f, acc, v⟩ := a34
    obtain ⟨hlf, hinv, hal, hihj38_0, hihj38_1⟩ := hj38
    try dsimp only at hlf
    try dsimp only at hinv
    try dsimp only at hal
    try dsimp only at hihj38_0
    try dsimp only at hihj38_1
    show pwp _ _ (loopQ _ _ _) ⟨sets (mix _ _ _) [(8, v), (13, .int left)], _, _⟩
    refine pwp_seq_seq ?_
    refine pwp_seq_plain rfl fun K39 hK39 => ?_
    refine p_step rfl (e_move (v := .sc _) rfl) trivial ?_
    refine p_step rfl (e_gt rfl rfl) trivial ?_
    refine p_end (hK39 _ ?_); clear hK39 K39
    refine pwp_seq_cond rfl fun K40 hK40 => ⟨fun hb41 => ?_, fun hb41 => ?_⟩
    ·have hb41R := hb41; (try simp only [z1, z2, z3, z4, z5, z6, ne_eq, z7, z8, z9, z10, z11, z12] at hb41); (try simp only [List.map_append, List.length_append, List.length_map, List.length_cons, List.length_nil] at hb41)
     obtain ⟨f, rfl⟩ : ∃ g, f = g + 1 := ⟨f - 1, by omega⟩
     have hpos : 0 < left := hb41
     have hs1 : 1 ≤ sizeB w x most := hso.2.2.2 (by omega)
     have hN : (if (decide (0 < x.mass)) = true then (min left (most / x.mass)) else left) = min left (sizeB w x most) := n_eq (by omega)
     have hprod : 0 ≤ (if (decide (0 < x.mass)) = true then (min left (most / x.mass)) else left) * x.mass ∧ (if (decide (0 < x.mass)) = true then (min left (most / x.mass)) else left) * x.mass ≤ most := by rw [hN]; exact prod_ok hpos hs1 hpx.2.2.2.1 hso.2.2.1
     have hn1 : 1 ≤ (if (decide (0 < x.mass)) = true then (min left (most / x.mass)) else left) ∧ (if (decide (0 < x.mass)) = true then (min left (most / x.mass)) else left) ≤ left := by rw [hN]; omega
     refine pwp_skip ?_
     refine seq_norm (hK40 _ ?_); clear hK40 K40
     refine pwp_block ?_
     refine pwp_seq_plain rfl fun K42 hK42 => ?_
     refine p_step rfl (e_move (v := .sc _) rfl) trivial ?_
     refine p_step rfl (e_assign (v := .sc _) rfl) trivial ?_
     refine p_end (hK42 _ ?_); clear hK42 K42
     refine pwp_seq_seq ?_
     refine pwp_seq_plain rfl fun K43 hK43 => ?_
     refine p_step rfl (e_faP (pl := [(0, 1, false), (1, 1, false), (2, 1, false), (3, 1, false), (4, 1, false), (5, 2, true)]) rfl (by kernel_rfl) (by kernel_rfl) (by decide) rfl) trivial ?_
     refine p_step rfl (e_loadH (v := .sc _) rfl hihj38_1 (by kernel_rfl) (by kernel_rfl) (by kernel_rfl) (by exact Nat.zero_lt_one) (by decide) rfl) trivial ?_
     refine p_step rfl (e_gt rfl rfl) trivial ?_
     refine p_end (hK43 _ ?_); clear hK43 K43
     refine pwp_seq_cutG [0, 1, 2, 8, 11, 12, 13] [(14, .int (if (decide ((0) < x.mass)) = true then (min left (most / x.mass)) else left))] (fun K44 hK44 => ?_) (fun r45 => ?_)
     ·skip
      refine pwp_cond rfl (fun hb46 => ?_) (fun hb46 => ?_)
      ·have hb46R := hb46; (try simp only [z1, z2, z3, z4, z5, z6, ne_eq, z7, z8, z9, z10, z11, z12] at hb46); (try simp only [List.map_append, List.length_append, List.length_map, List.length_cons, List.length_nil] at hb46)
       refine pwp_plain rfl fun K47 hK47 => ?_
       refine p_step rfl (e_move (v := .sc _) rfl) trivial ?_
       refine p_step rfl (e_move (v := .sc _) rfl) trivial ?_
       refine p_step rfl (e_faP (pl := [(0, 1, false), (1, 1, false), (2, 1, false), (3, 1, false), (4, 1, false), (5, 2, true)]) rfl (by kernel_rfl) (by kernel_rfl) (by decide) rfl) trivial ?_
       refine p_step rfl (e_loadH (v := .sc _) rfl hihj38_1 (by kernel_rfl) (by kernel_rfl) (by kernel_rfl) (by exact Nat.zero_lt_one) (by decide) rfl) trivial ?_
       refine p_step rfl (e_quo rfl rfl (by omega) (by omega) (by omega)) trivial ?_
       refine p_step rfl (e_min rfl rfl) trivial ?_
       refine p_step rfl (e_assign (v := .sc _) rfl) trivial ?_
       refine p_end (hK47 _ ?_); clear hK47 K47
       exact seq_norm (hK44 _ ⟨rfl, rfl, rfl, rfl, rfl, rfl, rfl, trivial⟩ ⟨(congrArg PV.int (show ((min left (most / x.mass)) : Int) = (if (decide ((0) < x.mass)) = true then (min left (most / x.mass)) else left) by first | rfl | ((try rw [hb46R]) <;> (first | rfl | (simp only [Bool.and_true, Bool.and_false, Bool.true_and, Bool.false_and, Bool.or_true, Bool.or_false, Bool.true_or, Bool.false_or, Bool.not_true, Bool.not_false, if_true, if_false, Bool.false_eq_true, reduceIte] <;> rfl))) | (simp only [hb46R, Bool.and_true, Bool.and_false, Bool.true_and, Bool.false_and, Bool.or_true, Bool.or_false, Bool.true_or, Bool.false_or, Bool.not_true, Bool.not_false, if_true, if_false, Bool.false_eq_true, reduceIte] <;> rfl))), trivial⟩)
      ·have hb46R := hb46; (try simp only [z1, z2, z3, z4, z5, z6, ne_eq, z7, z8, z9, z10, z11, z12] at hb46); (try simp only [List.map_append, List.length_append, List.length_map, List.length_cons, List.length_nil] at hb46)
       refine pwp_skip ?_
       exact seq_norm (hK44 _ ⟨rfl, rfl, rfl, rfl, rfl, rfl, rfl, trivial⟩ ⟨(congrArg PV.int (show (left : Int) = (if (decide ((0) < x.mass)) = true then (min left (most / x.mass)) else left) by first | rfl | ((try rw [hb46R]) <;> (first | rfl | (simp only [Bool.and_true, Bool.and_false, Bool.true_and, Bool.false_and, Bool.or_true, Bool.or_false, Bool.true_or, Bool.false_or, Bool.not_true, Bool.not_false, if_true, if_false, Bool.false_eq_true, reduceIte] <;> rfl))) | (simp only [hb46R, Bool.and_true, Bool.and_false, Bool.true_and, Bool.false_and, Bool.or_true, Bool.or_false, Bool.true_or, Bool.false_or, Bool.not_true, Bool.not_false, if_true, if_false, Bool.false_eq_true, reduceIte] <;> rfl))), trivial⟩)
     ·skip
      refine pwp_seq_gops rfl fun K48 hK48 => ?_
      refine s_begin ?_
      refine s_step [] (by simp) rfl rfl rfl rfl (e_move (v := _) rfl) trivial ?_
      refine s_step [] (by simp) rfl rfl rfl rfl (e_faP (pl := [(0, 1, false), (1, 1, false), (2, 1, false), (3, 1, false), (4, 1, false), (5, 2, true)]) rfl (by kernel_rfl) (by kernel_rfl) (by decide) rfl) trivial ?_
      refine s_step [12] (by simp) rfl rfl rfl rfl (e_loadH (v := .sc _) rfl hihj38_1 (by kernel_rfl) (by kernel_rfl) (by kernel_rfl) (by exact Nat.zero_lt_one) (by decide) rfl) trivial ?_
      refine s_step [] (by simp) rfl rfl rfl rfl (e_move (v := .sc _) rfl) trivial ?_
      refine s_step [] (by simp) rfl rfl rfl rfl (e_faP (pl := [(0, 1, false), (1, 1, false), (2, 1, false), (3, 1, false), (4, 1, false), (5, 2, true)]) rfl (by kernel_rfl) (by kernel_rfl) (by decide) rfl) trivial ?_
      refine s_step [12] (by simp) rfl rfl rfl rfl (e_loadH (v := .sc _) rfl hihj38_1 (by kernel_rfl) (by kernel_rfl) (by kernel_rfl) (by exact Nat.zero_lt_one) (by decide) rfl) trivial ?_
      refine s_step [] (by simp) rfl rfl rfl rfl (e_mul rfl rfl (by first | omega | (simp only [List.length_map]; omega))) trivial ?_
      refine s_step [] (by simp) rfl rfl rfl rfl (e_faP (pl := [(0, 1, false), (1, 1, false), (2, 1, false), (3, 1, false), (4, 1, false), (5, 2, true)]) rfl (by kernel_rfl) (by kernel_rfl) (by decide) rfl) trivial ?_
      refine s_step [12] (by simp) rfl rfl rfl rfl (e_loadH (v := .sc _) rfl hihj38_1 (by kernel_rfl) (by kernel_rfl) (by kernel_rfl) (by exact Nat.zero_lt_one) (by decide) rfl) trivial ?_
      refine s_call (args := [.sc _]) [] (by intro k hk; simp [keysOf, Go.Pv.keyOf] at hk; try (subst hk; simp)) rfl rfl rfl rfl (.cons inn_sc .nil) (refLength _ (by omega)) ?_
      refine s_step [] (by simp) rfl rfl rfl rfl (e_build (zs := [.str ByteArray.empty, .int 0, .int 0]) (pl := [(0, 1, false), (1, 1, false), (2, 1, false)]) (by kernel_rfl) (by kernel_rfl) (by kernel_rfl) rfl rfl (by exact ⟨by decide, rfl, Nat.le_of_ble_eq_true rfl, rfl, ⟨by decide, rfl, Nat.le_of_ble_eq_true rfl, rfl, ⟨by decide, rfl, Nat.le_of_ble_eq_true rfl, rfl, trivial⟩⟩⟩) rfl) trivial ?_
      refine s_new [] (by simp) rfl rfl rfl rfl (e_bslice (rows := [Item.enc ⟨x.name, (if (decide (0 < x.mass)) = true then (min left (most / x.mass)) else left) * x.mass, lenY x.square⟩]) (zs := [.str ByteArray.empty, .int 0, .int 0]) (sz := 3) (by kernel_rfl) (by kernel_rfl) rfl (by kernel_rfl) (by decide) rfl rfl (by exact ⟨by decide, rfl, rfl, trivial⟩) rfl) trivial ?_
      refine s_app [88, 87] [88, 88] (by simp) (by simp) (by simp) rfl rfl rfl (hihj38_0.keep fun _ => (hset_ne (key_ne rfl)).trans (rfl)) (SrcAt.ref (hset_self _ _ _) rfl) rfl (by kernel_rfl) (by simp only [List.length_append, List.length_map, List.length_nil, List.length_cons]; omega) fun v49 h50 c51 hs52 hf53 => ?_
      have ho54 := (hf53 (12, _) (key_ne rfl) (fun _ _ => key_ne rfl)).trans ((hset_ne (key_ne rfl)).trans hihj38_1)
      have ho55 := (hf53 (87, _) (key_ne rfl) (fun _ _ => key_ne rfl)).trans (hset_self _ _ _)
      refine s_step [] (by simp) rfl rfl rfl rfl (e_assign (v := _) rfl) trivial ?_
      refine s_end (ds := []) (by kernel_rfl) (by kernel_rfl) (hK48 _ ?_); clear hK48 K48
      refine pwp_seq_plain rfl fun K56 hK56 => ?_
      refine p_step rfl (e_move (v := .sc _) rfl) trivial ?_
      refine p_step rfl (e_move (v := .sc _) rfl) trivial ?_
      refine p_step rfl (e_sub rfl rfl (by first | omega | (simp only [List.length_map]; omega))) trivial ?_
      refine p_step rfl (e_assign (v := .sc _) rfl) trivial ?_
      refine p_end (hK56 _ ?_); clear hK56 K56
      refine pwp_seq_plain rfl fun K57 hK57 => ?_
      refine p_step rfl (e_move (v := _) rfl) trivial ?_
      refine p_step rfl (SliceAt.len hs52 rfl (by kernel_rfl)) trivial ?_
      refine p_step rfl (e_gt rfl rfl) trivial ?_
      refine p_end (hK57 _ ?_); clear hK57 K57
      refine pwp_cond rfl (fun hb58 => ?_) (fun hb58 => ?_)
      ·have hb58R := hb58; (try simp only [z1, z2, z3, z4, z5, z6, ne_eq, z7, z8, z9, z10, z11, z12] at hb58); (try simp only [List.map_append, List.length_append, List.length_map, List.length_cons, List.length_nil] at hb58)
       refine pwp_seq_plain rfl fun K59 hK59 => ?_
       refine p_step rfl (e_assign (v := .nil) rfl) trivial ?_
       refine p_step rfl (e_assign (v := .sc _) rfl) trivial ?_
       refine p_end (hK59 _ ?_); clear hK59 K59
       refine pwp_ret ?_
       refine ret_block ?_
       refine ret_loop ?_
       refine ret_block ?_
       refine ret_block ?_
       refine ret_seq ?_
       refine ret_loop ?_
       refine ret_block ?_
       refine ret_seq ?_
       refine end2 (v := .nil) (w := .sc _) rfl rfl ?_
       first
         | exact br_out0 (br_3 h0 hm (hv_t hinv (by omega) (by omega)))
         | exact br_out0 (br_4 h0 hm hhv (by rw [hinv, bun_1 hpos (by omega)]; rfl))
         | exact br_out (br_4 h0 hm hhv hinv) hs52
      ·have hb58R := hb58; (try simp only [z1, z2, z3, z4, z5, z6, ne_eq, z7, z8, z9, z10, z11, z12] at hb58); (try simp only [List.map_append, List.length_append, List.length_map, List.length_cons, List.length_nil] at hb58)
       refine pwp_skip ?_
       refine block_norm ?_
       rw [bun_2 hpos (by omega), bun_min hpos, ← hN] at hinv
       exact loop_again ((left - (if (decide (0 < x.mass)) = true then (min left (most / x.mass)) else left), f, acc ++ [itemB x (if (decide (0 < x.mass)) = true then (min left (most / x.mass)) else left)], v49)) (by show _ < _; simp only; omega) ⟨rfl, rfl, rfl, rfl, rfl, trivial⟩ ⟨rfl, rfl, trivial⟩ (by exact ⟨by show left - (if (decide (0 < x.mass)) = true then (min left (most / x.mass)) else left) ≤ (f : Int) ∧ left - (if (decide (0 < x.mass)) = true then (min left (most / x.mass)) else left) ≤ w.count ∧ 0 ≤ left - (if (decide (0 < x.mass)) = true then (min left (most / x.mass)) else left); omega, by exact hinv, by show (acc ++ [_]).length ≤ 200; simp only [List.length_append, List.length_cons, List.length_nil]; omega, (SliceAt.to hs52 (by (simp only [List.map_append, List.map_cons, List.map_nil]; rfl))), ho54⟩)
    ·have hb41R := hb41; (try simp only [z1, z2, z3, z4, z5, z6, ne_eq, z7, z8, z9, z10, z11, z12] at hb41); (try simp only [List.map_append, List.length_append, List.length_map, List.length_cons, List.length_nil] at hb41)
     rw [bun_0 (by omega)] at hinv; simp only [bunK, if_true] at hinv
     refine pwp_exit ?_
     refine exit_seq ?_
     clear hK40 K40
     refine exit_loop ?_
     refine exit_here ?_
     refine block_norm ?_
     refine seq_norm (hK31 _ ?_); clear hK31 K31
     refine pwp_plain rfl fun K60 hK60 => ?_
     refine p_step rfl (e_move (v := .sc _) rfl) trivial ?_
     refine p_step rfl (e_add rfl rfl (by first | omega | (simp only [List.length_map]; omega))) trivial ?_
     refine p_step rfl (e_assign (v := .sc _) rfl) trivial ?_
     refine p_end (hK60 _ ?_); clear hK60 K60
     exact loop_again ((k + 1, acc, _)) (by show _ < _; simp only; omega) ⟨rfl, rfl, rfl, trivial⟩ ⟨rfl, rfl, trivial⟩ (by exact ⟨by show _ + 1 ≤ _; omega, by exact hinv, by exact hal, (SliceAt.to hihj38_0 (by simp))⟩)
   ·have hb30R := hb30; (try simp only [z1, z2, z3, z4, z5, z6, ne_eq, z7, z8, z9, z10, z11, z12] at hb30); (try simp only [List.map_append, List.length_append, List.length_map, List.length_cons, List.length_nil] at hb30)
    obtain rfl : k = ws.length := by omega
    rw [List.drop_length] at hinv; simp only [bunG] at hinv
    refine pwp_exit ?_
    refine exit_seq ?_
    clear hK29 K29
    refine exit_loop ?_
    refine exit_here ?_
    refine seq_norm (hK22 _ ?_); clear hK22 K22
    refine pwp_seq_plain rfl fun K61 hK61 => ?_
    refine p_step rfl (e_move (v := _) rfl) trivial ?_
    refine p_step rfl (e_assign (v := _) rfl) trivial ?_
    refine p_step rfl (e_assign (v := .sc _) rfl) trivial ?_
    refine p_end (hK61 _ ?_); clear hK61 K61
    refine pwp_ret ?_
    refine end2 (v := _) (w := .sc _) rfl rfl ?_
    first
      | exact br_out0 (br_3 h0 hm (hv_t hinv (by omega) (by omega)))
      | exact br_out0 (br_4 h0 hm hhv (by rw [hinv, bun_1 hpos (by omega)]; rfl))
      | exact br_out (br_4 h0 hm hhv hinv) hihj27_0

end Go.Proofs.Ytigdmkhdmbbfiaa

/- The law of masses. No conditions. -/
set_option linter.unusedSimpArgs false
set_option linter.unusedVariables false
set_option maxRecDepth 100000
namespace Go.Proofs.Ytigdmkhdmbbfiaa
open Go Go.Pv

theorem bunR_len (ws : List Want) (ps : List Part) (most : Int) : (bunR ws ps most).2.length ≤ 200 := by
  by_cases h : (bunR ws ps most).1 = 0
  · exact (bunR_law h).2.2.2.1
  · rw [bunR_err h]; exact Nat.zero_le _

theorem fr9 : (inFrame Try.f9.ntmps (Try.f9.body.getD .skip) && Try.f9.results.toList.all (resScope Try.f9.ntmps)) = true := by kernel_rfl
theorem hmass (ws : List Want) (ps : List Part) (most : Int) : PCalls Try.prog 9 [.lit true 2 (ws.map Want.enc), .lit true 7 (ps.map Part.enc), .int most] (.bool true) := by
  refine PCalls.of_code Try.func9 rfl rfl (by kernel_rfl) mixed fr9 (by show _ ≤ 89; simp) (.sc _) ?_
  refine pwp_seq_plain rfl fun K1 hK1 => ?_
  refine p_step rfl (e_assign (v := .sc _) rfl) trivial ?_
  refine p_end (hK1 _ ?_); clear hK1 K1
  refine pwp_seq_seq ?_
  refine pwp_seq_plain rfl fun K2 hK2 => ?_
  refine p_call rfl .nil (awake) ?_
  refine p_step rfl (e_not rfl) trivial ?_
  refine p_end (hK2 _ ?_); clear hK2 K2
  refine pwp_seq_cond (t := false) rfl fun K3 hK3 => ⟨nofun, fun _ => ?_⟩
  refine pwp_skip ?_
  refine seq_norm (hK3 _ ?_); clear hK3 K3
  refine pwp_seq_seq ?_
  refine pwp_seq_plain rfl fun K4 hK4 => ?_
  refine p_step rfl (e_move (v := .lit _ _ _) rfl) trivial ?_
  refine p_step rfl (e_move (v := .lit _ _ _) rfl) trivial ?_
  refine p_call rfl (.cons inn_lit (.cons inn_lit .nil)) (thin _ _) ?_
  refine p_step rfl (e_not rfl) trivial ?_
  refine p_end (hK4 _ ?_); clear hK4 K4
  refine pwp_seq_cond rfl fun K5 hK5 => ⟨fun hb6 => ?_, fun hb6 => ?_⟩
  ·have hb6R := hb6; (try simp only [z1, z2, z3, z4, z5, z6, ne_eq, z7, z8, z9, z10, z11, z12] at hb6); (try (have htn := thinB_iff hb6)); (try (have hbe := br_1 (most := most) hb6)); (try (have hme := mass_1 hb6)); (try (have hb2 := br_2 (most := most) (ws := ws) (ps := ps) (by assumption) (by omega)))
   refine pwp_seq_plain rfl fun K7 hK7 => ?_
   refine p_step rfl (e_assign (v := .sc _) rfl) trivial ?_
   refine p_end (hK7 _ ?_); clear hK7 K7
   refine pwp_ret ?_
   refine ret_seq ?_
   refine end1 (v := .sc _) rfl ?_
   first
     | exact out_b rfl
     | (exfalso; omega)
     | (refine out_b ?_; simp; done)
     | (refine out_b ?_; simp [hbe, hme]; done)
     | (refine out_b ?_; simp [hb2]; done)
     | (exfalso; rw [hbe] at *; omega)
     | (exfalso; simp_all; done)
  ·have hb6R := hb6; (try simp only [z1, z2, z3, z4, z5, z6, ne_eq, z7, z8, z9, z10, z11, z12] at hb6); (try (have htn := thinB_iff hb6)); (try (have hbe := br_1 (most := most) hb6)); (try (have hme := mass_1 hb6)); (try (have hb2 := br_2 (most := most) (ws := ws) (ps := ps) (by assumption) (by omega)))
   refine pwp_skip ?_
   refine seq_norm (hK5 _ ?_); clear hK5 K5
   refine pwp_seq_plain rfl fun K8 hK8 => ?_
   refine p_step rfl (e_move (v := .lit _ _ _) rfl) trivial ?_
   refine p_step rfl (e_move (v := .lit _ _ _) rfl) trivial ?_
   refine p_call rfl (.cons inn_lit (.cons inn_lit .nil)) (Mass _ _ (by omega) (by omega) htn.2.2.1 htn.2.2.2) ?_
   refine p_step rfl (e_move (v := .tup _) rfl) trivial ?_
   refine p_step rfl (e_ext (v := .sc _) rfl (by simp) rfl) trivial ?_
   refine p_step rfl (e_ext (v := .sc _) rfl (by simp) rfl) trivial ?_
   refine p_step rfl (e_assign (v := .sc _) rfl) trivial ?_
   refine p_step rfl (e_assign (v := .sc _) rfl) trivial ?_
   refine p_end (hK8 _ ?_); clear hK8 K8
   refine pwp_seq_plain rfl fun K9 hK9 => ?_
   refine p_step rfl (e_move (v := .lit _ _ _) rfl) trivial ?_
   refine p_step rfl (e_move (v := .lit _ _ _) rfl) trivial ?_
   refine p_step rfl (e_move (v := .sc _) rfl) trivial ?_
   refine p_call rfl (.cons inn_lit (.cons inn_lit (.cons inn_sc .nil))) (Bundles _ _ _ (by omega) (by omega) htn.2.2.1 htn.2.2.2) ?_
   refine p_step rfl (e_move (v := .tup _) rfl) trivial ?_
   refine p_step rfl (e_ext (v := .lit _ _ _) rfl (by simp) rfl) trivial ?_
   refine p_step rfl (e_ext (v := .sc _) rfl (by simp) rfl) trivial ?_
   refine p_step rfl (e_assign (v := .lit _ _ _) rfl) trivial ?_
   refine p_step rfl (e_assign (v := .sc _) rfl) trivial ?_
   refine p_end (hK9 _ ?_); clear hK9 K9
   refine pwp_seq_seq ?_
   refine pwp_seq_plain rfl fun K10 hK10 => ?_
   refine p_step rfl (e_move (v := .lit _ _ _) rfl) trivial ?_
   refine p_step rfl (e_move (v := .lit _ _ _) rfl) trivial ?_
   refine p_call rfl (.cons inn_lit (.cons inn_lit .nil)) (refWants _ _ (by omega) (by omega) htn.2.2.1 htn.2.2.2) ?_
   refine p_step rfl (e_assign (v := .sc _) rfl) trivial ?_
   refine p_end (hK10 _ ?_); clear hK10 K10
   refine pwp_seq_seq ?_
   refine pwp_seq_plain rfl fun K11 hK11 => ?_
   refine p_step rfl (e_move (v := .sc _) rfl) trivial ?_
   refine p_step rfl (e_ne rfl rfl) trivial ?_
   refine p_end (hK11 _ ?_); clear hK11 K11
   refine pwp_seq_cond rfl fun K12 hK12 => ⟨fun hb13 => ?_, fun hb13 => ?_⟩
   ·have hb13R := hb13; (try simp only [z1, z2, z3, z4, z5, z6, ne_eq, z7, z8, z9, z10, z11, z12] at hb13); (try (have htn := thinB_iff hb13)); (try (have hbe := br_1 (most := most) hb13)); (try (have hme := mass_1 hb13)); (try (have hb2 := br_2 (most := most) (ws := ws) (ps := ps) (by assumption) (by omega)))
    refine pwp_seq_gops rfl fun K14 hK14 => ?_
    refine g_begin ?_
    refine g_step rfl rfl rfl rfl (e_move (v := .sc _) rfl) trivial ?_
    refine g_step rfl rfl rfl rfl (e_move (v := .sc _) rfl) trivial ?_
    refine g_step rfl rfl rfl rfl (e_eq rfl rfl) trivial ?_
    refine g_step rfl rfl rfl rfl (e_move (v := .sc _) rfl) trivial ?_
    refine g_cases (fun hb15 => ?_) (fun hb15 => ?_)
    ·have hb15R := hb15; (try simp only [z1, z2, z3, z4, z5, z6, ne_eq, z7, z8, z9, z10, z11, z12] at hb15); (try (have htn := thinB_iff hb15)); (try (have hbe := br_1 (most := most) hb15)); (try (have hme := mass_1 hb15)); (try (have hb2 := br_2 (most := most) (ws := ws) (ps := ps) (by assumption) (by omega)))
     refine g_step rfl rfl rfl rfl (e_move (v := .sc _) rfl) trivial ?_
     refine g_step rfl rfl rfl rfl (e_move (v := .sc _) rfl) trivial ?_
     refine g_step rfl rfl rfl rfl (e_eq rfl rfl) trivial ?_
     refine g_step rfl rfl rfl rfl (e_pickT (v := .sc _) rfl rfl) trivial ?_
     refine g_step rfl rfl rfl rfl (e_move (v := .sc _) rfl) trivial ?_
     refine g_cases (fun hb16 => ?_) (fun hb16 => ?_)
     ·have hb16R := hb16; (try simp only [z1, z2, z3, z4, z5, z6, ne_eq, z7, z8, z9, z10, z11, z12] at hb16); (try (have htn := thinB_iff hb16)); (try (have hbe := br_1 (most := most) hb16)); (try (have hme := mass_1 hb16)); (try (have hb2 := br_2 (most := most) (ws := ws) (ps := ps) (by assumption) (by omega)))
      refine g_step rfl rfl rfl rfl (e_move (v := .sc _) rfl) trivial ?_
      refine g_step rfl rfl rfl rfl (e_eq rfl rfl) trivial ?_
      refine g_step rfl rfl rfl rfl (e_pickT (v := .sc _) rfl rfl) trivial ?_
      refine g_step rfl rfl rfl rfl (e_move (v := .sc _) rfl) trivial ?_
      refine g_cases (fun hb17 => ?_) (fun hb17 => ?_)
      ·have hb17R := hb17; (try simp only [z1, z2, z3, z4, z5, z6, ne_eq, z7, z8, z9, z10, z11, z12] at hb17); (try (have htn := thinB_iff hb17)); (try (have hbe := br_1 (most := most) hb17)); (try (have hme := mass_1 hb17)); (try (have hb2 := br_2 (most := most) (ws := ws) (ps := ps) (by assumption) (by omega)))
       refine g_step rfl rfl rfl rfl (e_move (v := .lit _ _ _) rfl) trivial ?_
       refine g_step rfl rfl rfl rfl (e_len rfl (by kernel_rfl)) trivial ?_
       refine g_step rfl rfl rfl rfl (e_eq rfl rfl) trivial ?_
       refine g_step rfl rfl rfl rfl (e_pickT (v := .sc _) rfl rfl) trivial ?_
       refine g_step rfl rfl rfl rfl (e_assign (v := .sc _) rfl) trivial ?_
       refine g_end (ds := [42, 43, 44, 47, 48, 51, 52, 53]) rfl rfl (hK14 _ ?_); clear hK14 K14
       refine pwp_ret ?_
       refine ret_seq ?_
       refine end1 (v := .sc _) rfl ?_
       first
         | exact out_b rfl
         | (exfalso; omega)
         | (refine out_b ?_; simp; done)
         | (refine out_b ?_; simp [hbe, hme]; done)
         | (refine out_b ?_; simp [hb2]; done)
         | (exfalso; rw [hbe] at *; omega)
         | (exfalso; simp_all; done)
      ·have hb17R := hb17; (try simp only [z1, z2, z3, z4, z5, z6, ne_eq, z7, z8, z9, z10, z11, z12] at hb17); (try (have htn := thinB_iff hb17)); (try (have hbe := br_1 (most := most) hb17)); (try (have hme := mass_1 hb17)); (try (have hb2 := br_2 (most := most) (ws := ws) (ps := ps) (by assumption) (by omega)))
       refine g_skip rfl rfl rfl ?_
       refine g_skip rfl rfl rfl ?_
       refine g_skip rfl rfl rfl ?_
       refine g_step rfl rfl rfl rfl (e_pickF (v := .sc _) rfl rfl) trivial ?_
       refine g_step rfl rfl rfl rfl (e_assign (v := .sc _) rfl) trivial ?_
       refine g_end (ds := [42, 43, 44, 47, 48, 51, 52, 53]) rfl rfl (hK14 _ ?_); clear hK14 K14
       refine pwp_ret ?_
       refine ret_seq ?_
       refine end1 (v := .sc _) rfl ?_
       first
         | exact out_b rfl
         | (exfalso; omega)
         | (refine out_b ?_; simp; done)
         | (refine out_b ?_; simp [hbe, hme]; done)
         | (refine out_b ?_; simp [hb2]; done)
         | (exfalso; rw [hbe] at *; omega)
         | (exfalso; simp_all; done)
     ·have hb16R := hb16; (try simp only [z1, z2, z3, z4, z5, z6, ne_eq, z7, z8, z9, z10, z11, z12] at hb16); (try (have htn := thinB_iff hb16)); (try (have hbe := br_1 (most := most) hb16)); (try (have hme := mass_1 hb16)); (try (have hb2 := br_2 (most := most) (ws := ws) (ps := ps) (by assumption) (by omega)))
      refine g_skip rfl rfl rfl ?_
      refine g_skip rfl rfl rfl ?_
      refine g_step rfl rfl rfl rfl (e_pickF (v := .sc _) rfl rfl) trivial ?_
      refine g_step rfl rfl rfl rfl (e_move (v := .sc _) rfl) trivial ?_
      refine g_skip rfl rfl rfl ?_
      refine g_skip rfl rfl rfl ?_
      refine g_skip rfl rfl rfl ?_
      refine g_step rfl rfl rfl rfl (e_pickF (v := .sc _) rfl rfl) trivial ?_
      refine g_step rfl rfl rfl rfl (e_assign (v := .sc _) rfl) trivial ?_
      refine g_end (ds := [42, 43, 44, 47, 48, 51, 52, 53]) rfl rfl (hK14 _ ?_); clear hK14 K14
      refine pwp_ret ?_
      refine ret_seq ?_
      refine end1 (v := .sc _) rfl ?_
      first
        | exact out_b rfl
        | (exfalso; omega)
        | (refine out_b ?_; simp; done)
        | (refine out_b ?_; simp [hbe, hme]; done)
        | (refine out_b ?_; simp [hb2]; done)
        | (exfalso; rw [hbe] at *; omega)
        | (exfalso; simp_all; done)
    ·have hb15R := hb15; (try simp only [z1, z2, z3, z4, z5, z6, ne_eq, z7, z8, z9, z10, z11, z12] at hb15); (try (have htn := thinB_iff hb15)); (try (have hbe := br_1 (most := most) hb15)); (try (have hme := mass_1 hb15)); (try (have hb2 := br_2 (most := most) (ws := ws) (ps := ps) (by assumption) (by omega)))
     refine g_skip rfl rfl rfl ?_
     refine g_skip rfl rfl rfl ?_
     refine g_skip rfl rfl rfl ?_
     refine g_step rfl rfl rfl rfl (e_pickF (v := .sc _) rfl rfl) trivial ?_
     refine g_step rfl rfl rfl rfl (e_move (v := .sc _) rfl) trivial ?_
     refine g_skip rfl rfl rfl ?_
     refine g_skip rfl rfl rfl ?_
     refine g_step rfl rfl rfl rfl (e_pickF (v := .sc _) rfl rfl) trivial ?_
     refine g_step rfl rfl rfl rfl (e_move (v := .sc _) rfl) trivial ?_
     refine g_skip rfl rfl rfl ?_
     refine g_skip rfl rfl rfl ?_
     refine g_skip rfl rfl rfl ?_
     refine g_step rfl rfl rfl rfl (e_pickF (v := .sc _) rfl rfl) trivial ?_
     refine g_step rfl rfl rfl rfl (e_assign (v := .sc _) rfl) trivial ?_
     refine g_end (ds := [42, 43, 44, 47, 48, 51, 52, 53]) rfl rfl (hK14 _ ?_); clear hK14 K14
     refine pwp_ret ?_
     refine ret_seq ?_
     refine end1 (v := .sc _) rfl ?_
     first
       | exact out_b rfl
       | (exfalso; omega)
       | (refine out_b ?_; simp; done)
       | (refine out_b ?_; simp [hbe, hme]; done)
       | (refine out_b ?_; simp [hb2]; done)
       | (exfalso; rw [hbe] at *; omega)
       | (exfalso; simp_all; done)
   ·have hb13R := hb13; (try simp only [z1, z2, z3, z4, z5, z6, ne_eq, z7, z8, z9, z10, z11, z12] at hb13); (try (have htn := thinB_iff hb13)); (try (have hbe := br_1 (most := most) hb13)); (try (have hme := mass_1 hb13)); (try (have hb2 := br_2 (most := most) (ws := ws) (ps := ps) (by assumption) (by omega)))
    refine pwp_skip ?_
    refine seq_norm (hK12 _ ?_); clear hK12 K12
    refine pwp_seq_seq ?_
    refine pwp_seq_gops rfl fun K18 hK18 => ?_
    refine g_begin ?_
    refine g_step rfl rfl rfl rfl (e_move (v := .sc _) rfl) trivial ?_
    refine g_step rfl rfl rfl rfl (e_ne rfl rfl) trivial ?_
    refine g_step rfl rfl rfl rfl (e_move (v := .sc _) rfl) trivial ?_
    refine g_cases (fun hb19 => ?_) (fun hb19 => ?_)
    ·have hb19R := hb19; (try simp only [z1, z2, z3, z4, z5, z6, ne_eq, z7, z8, z9, z10, z11, z12] at hb19); (try (have htn := thinB_iff hb19)); (try (have hbe := br_1 (most := most) hb19)); (try (have hme := mass_1 hb19)); (try (have hb2 := br_2 (most := most) (ws := ws) (ps := ps) (by assumption) (by omega)))
     refine g_skip rfl rfl rfl ?_
     refine g_skip rfl rfl rfl ?_
     refine g_skip rfl rfl rfl ?_
     refine g_nocall rfl rfl rfl ?_
     refine g_skip rfl rfl rfl ?_
     refine g_step rfl rfl rfl rfl (e_pickT (v := .sc _) rfl rfl) trivial ?_
     refine g_end (ds := [58, 59, 60, 61, 62]) rfl rfl (hK18 _ ?_); clear hK18 K18
     refine pwp_seq_cond (t := true) rfl fun K20 hK20 => ⟨fun _ => ?_, nofun⟩
     refine pwp_seq_plain rfl fun K21 hK21 => ?_
     refine p_step rfl (e_assign (v := .sc _) rfl) trivial ?_
     refine p_end (hK21 _ ?_); clear hK21 K21
     refine pwp_ret ?_
     refine ret_seq ?_
     refine end1 (v := .sc _) rfl ?_
     first
       | exact out_b rfl
       | (exfalso; omega)
       | (refine out_b ?_; simp; done)
       | (refine out_b ?_; simp [hbe, hme]; done)
       | (refine out_b ?_; simp [hb2]; done)
       | (exfalso; rw [hbe] at *; omega)
       | (exfalso; simp_all; done)
    ·have hb19R := hb19; (try simp only [z1, z2, z3, z4, z5, z6, ne_eq, z7, z8, z9, z10, z11, z12] at hb19); (try (have htn := thinB_iff hb19)); (try (have hbe := br_1 (most := most) hb19)); (try (have hme := mass_1 hb19)); (try (have hb2 := br_2 (most := most) (ws := ws) (ps := ps) (by assumption) (by omega)))
     refine g_step rfl rfl rfl rfl (e_move (v := .sc _) rfl) trivial ?_
     refine g_step rfl rfl rfl rfl (e_move (v := .lit _ _ _) rfl) trivial ?_
     refine g_step rfl rfl rfl rfl (e_move (v := .lit _ _ _) rfl) trivial ?_
     refine g_call rfl rfl rfl rfl (.cons inn_lit (.cons inn_lit .nil)) (refMass _ _ (by omega) (by omega) (by assumption)) ?_
     refine g_step rfl rfl rfl rfl (e_ne rfl rfl) trivial ?_
     refine g_step rfl rfl rfl rfl (e_pickF (v := .sc _) rfl rfl) trivial ?_
     refine g_end (ds := [58, 59, 60, 61, 62]) rfl rfl (hK18 _ ?_); clear hK18 K18
     refine pwp_seq_cond rfl fun K22 hK22 => ⟨fun hb23 => ?_, fun hb23 => ?_⟩
     ·have hb23R := hb23; (try simp only [z1, z2, z3, z4, z5, z6, ne_eq, z7, z8, z9, z10, z11, z12] at hb23); (try (have htn := thinB_iff hb23)); (try (have hbe := br_1 (most := most) hb23)); (try (have hme := mass_1 hb23)); (try (have hb2 := br_2 (most := most) (ws := ws) (ps := ps) (by assumption) (by omega)))
      refine pwp_seq_plain rfl fun K24 hK24 => ?_
      refine p_step rfl (e_assign (v := .sc _) rfl) trivial ?_
      refine p_end (hK24 _ ?_); clear hK24 K24
      refine pwp_ret ?_
      refine ret_seq ?_
      refine end1 (v := .sc _) rfl ?_
      first
        | exact out_b rfl
        | (exfalso; omega)
        | (refine out_b ?_; simp; done)
        | (refine out_b ?_; simp [hbe, hme]; done)
        | (refine out_b ?_; simp [hb2]; done)
        | (exfalso; rw [hbe] at *; omega)
        | (exfalso; simp_all; done)
     ·have hb23R := hb23; (try simp only [z1, z2, z3, z4, z5, z6, ne_eq, z7, z8, z9, z10, z11, z12] at hb23); (try (have htn := thinB_iff hb23)); (try (have hbe := br_1 (most := most) hb23)); (try (have hme := mass_1 hb23)); (try (have hb2 := br_2 (most := most) (ws := ws) (ps := ps) (by assumption) (by omega)))
      refine pwp_skip ?_
      refine seq_norm (hK22 _ ?_); clear hK22 K22
      refine pwp_seq_seq ?_
      refine pwp_seq_plain rfl fun K25 hK25 => ?_
      refine p_step rfl (e_move (v := .sc _) rfl) trivial ?_
      refine p_call rfl (.cons inn_sc (.cons inn_sc (.cons inn_sc .nil))) (Within _ _ _) ?_
      refine p_step rfl (e_not rfl) trivial ?_
      refine p_end (hK25 _ ?_); clear hK25 K25
      refine pwp_seq_cond rfl fun K26 hK26 => ⟨fun hb27 => ?_, fun hb27 => ?_⟩
      ·have hb27R := hb27; (try simp only [z1, z2, z3, z4, z5, z6, ne_eq, z7, z8, z9, z10, z11, z12] at hb27); (try (have htn := thinB_iff hb27)); (try (have hbe := br_1 (most := most) hb27)); (try (have hme := mass_1 hb27)); (try (have hb2 := br_2 (most := most) (ws := ws) (ps := ps) (by assumption) (by omega)))
       refine pwp_seq_gops rfl fun K28 hK28 => ?_
       refine g_begin ?_
       refine g_step rfl rfl rfl rfl (e_move (v := .sc _) rfl) trivial ?_
       refine g_step rfl rfl rfl rfl (e_eq rfl rfl) trivial ?_
       refine g_step rfl rfl rfl rfl (e_move (v := .sc _) rfl) trivial ?_
       refine g_cases (fun hb29 => ?_) (fun hb29 => ?_)
       ·have hb29R := hb29; (try simp only [z1, z2, z3, z4, z5, z6, ne_eq, z7, z8, z9, z10, z11, z12] at hb29); (try (have htn := thinB_iff hb29)); (try (have hbe := br_1 (most := most) hb29)); (try (have hme := mass_1 hb29)); (try (have hb2 := br_2 (most := most) (ws := ws) (ps := ps) (by assumption) (by omega)))
        refine g_step rfl rfl rfl rfl (e_move (v := .lit _ _ _) rfl) trivial ?_
        refine g_step rfl rfl rfl rfl (e_len rfl (by kernel_rfl)) trivial ?_
        refine g_step rfl rfl rfl rfl (e_eq rfl rfl) trivial ?_
        refine g_step rfl rfl rfl rfl (e_pickT (v := .sc _) rfl rfl) trivial ?_
        refine g_step rfl rfl rfl rfl (e_assign (v := .sc _) rfl) trivial ?_
        refine g_end (ds := [70, 71, 72]) rfl rfl (hK28 _ ?_); clear hK28 K28
        refine pwp_ret ?_
        refine ret_seq ?_
        refine end1 (v := .sc _) rfl ?_
        first
          | exact out_b rfl
          | (exfalso; omega)
          | (refine out_b ?_; simp; done)
          | (refine out_b ?_; simp [hbe, hme]; done)
          | (refine out_b ?_; simp [hb2]; done)
          | (exfalso; rw [hbe] at *; omega)
          | (exfalso; simp_all; done)
       ·have hb29R := hb29; (try simp only [z1, z2, z3, z4, z5, z6, ne_eq, z7, z8, z9, z10, z11, z12] at hb29); (try (have htn := thinB_iff hb29)); (try (have hbe := br_1 (most := most) hb29)); (try (have hme := mass_1 hb29)); (try (have hb2 := br_2 (most := most) (ws := ws) (ps := ps) (by assumption) (by omega)))
        refine g_skip rfl rfl rfl ?_
        refine g_skip rfl rfl rfl ?_
        refine g_skip rfl rfl rfl ?_
        refine g_step rfl rfl rfl rfl (e_pickF (v := .sc _) rfl rfl) trivial ?_
        refine g_step rfl rfl rfl rfl (e_assign (v := .sc _) rfl) trivial ?_
        refine g_end (ds := [70, 71, 72]) rfl rfl (hK28 _ ?_); clear hK28 K28
        refine pwp_ret ?_
        refine ret_seq ?_
        refine end1 (v := .sc _) rfl ?_
        first
          | exact out_b rfl
          | (exfalso; omega)
          | (refine out_b ?_; simp; done)
          | (refine out_b ?_; simp [hbe, hme]; done)
          | (refine out_b ?_; simp [hb2]; done)
          | (exfalso; rw [hbe] at *; omega)
          | (exfalso; simp_all; done)
      ·have hb27R := hb27; (try simp only [z1, z2, z3, z4, z5, z6, ne_eq, z7, z8, z9, z10, z11, z12] at hb27); (try (have htn := thinB_iff hb27)); (try (have hbe := br_1 (most := most) hb27)); (try (have hme := mass_1 hb27)); (try (have hb2 := br_2 (most := most) (ws := ws) (ps := ps) (by assumption) (by omega)))
       refine pwp_skip ?_
       refine seq_norm (hK26 _ ?_); clear hK26 K26
       refine pwp_seq_plain rfl fun K30 hK30 => ?_
       refine p_step rfl (e_move (v := .lit _ _ _) rfl) trivial ?_
       refine p_step rfl (e_move (v := .lit _ _ _) rfl) trivial ?_
       refine p_step rfl (e_move (v := .sc _) rfl) trivial ?_
       refine p_call rfl (.cons inn_lit (.cons inn_lit (.cons inn_sc .nil))) (refBundles _ _ _ (by omega) (by omega) (by assumption) (by omega)) ?_
       refine p_step rfl (e_move (v := .tup _) rfl) trivial ?_
       refine p_step rfl (e_ext (v := .lit _ _ _) rfl (by simp) rfl) trivial ?_
       refine p_step rfl (e_ext (v := .sc _) rfl (by simp) rfl) trivial ?_
       refine p_step rfl (e_assign (v := .lit _ _ _) rfl) trivial ?_
       refine p_step rfl (e_assign (v := .sc _) rfl) trivial ?_
       refine p_end (hK30 _ ?_); clear hK30 K30
       refine pwp_seq_gops rfl fun K31 hK31 => ?_
       refine g_begin ?_
       refine g_step rfl rfl rfl rfl (e_move (v := .sc _) rfl) trivial ?_
       refine g_step rfl rfl rfl rfl (e_move (v := .sc _) rfl) trivial ?_
       refine g_step rfl rfl rfl rfl (e_eq rfl rfl) trivial ?_
       refine g_step rfl rfl rfl rfl (e_move (v := .sc _) rfl) trivial ?_
       refine g_cases (fun hb32 => ?_) (fun hb32 => ?_)
       ·have hb32R := hb32; (try simp only [z1, z2, z3, z4, z5, z6, ne_eq, z7, z8, z9, z10, z11, z12] at hb32); (try (have htn := thinB_iff hb32)); (try (have hbe := br_1 (most := most) hb32)); (try (have hme := mass_1 hb32)); (try (have hb2 := br_2 (most := most) (ws := ws) (ps := ps) (by assumption) (by omega)))
        refine g_step rfl rfl rfl rfl (e_move (v := .lit _ _ _) rfl) trivial ?_
        refine g_step rfl rfl rfl rfl (e_move (v := .lit _ _ _) rfl) trivial ?_
        refine g_call rfl rfl rfl rfl (.cons inn_lit (.cons inn_lit .nil)) (sameItems _ _ (Nat.le_trans (bunR_len _ _ _) (by decide))) ?_
        refine g_step rfl rfl rfl rfl (e_pickT (v := .sc _) rfl rfl) trivial ?_
        refine g_step rfl rfl rfl rfl (e_assign (v := .sc _) rfl) trivial ?_
        refine g_end (ds := [85, 86, 87]) rfl rfl (hK31 _ ?_); clear hK31 K31
        refine pwp_ret ?_
        refine end1 (v := .sc _) rfl ?_
        first
          | exact out_b rfl
          | (exfalso; omega)
          | (refine out_b ?_; simp; done)
          | (refine out_b ?_; simp [hbe, hme]; done)
          | (refine out_b ?_; simp [hb2]; done)
          | (exfalso; rw [hbe] at *; omega)
          | (exfalso; simp_all; done)
       ·have hb32R := hb32; (try simp only [z1, z2, z3, z4, z5, z6, ne_eq, z7, z8, z9, z10, z11, z12] at hb32); (try (have htn := thinB_iff hb32)); (try (have hbe := br_1 (most := most) hb32)); (try (have hme := mass_1 hb32)); (try (have hb2 := br_2 (most := most) (ws := ws) (ps := ps) (by assumption) (by omega)))
        refine g_skip rfl rfl rfl ?_
        refine g_skip rfl rfl rfl ?_
        refine g_nocall rfl rfl rfl ?_
        refine g_step rfl rfl rfl rfl (e_pickF (v := .sc _) rfl rfl) trivial ?_
        refine g_step rfl rfl rfl rfl (e_assign (v := .sc _) rfl) trivial ?_
        refine g_end (ds := [85, 86, 87]) rfl rfl (hK31 _ ?_); clear hK31 K31
        refine pwp_ret ?_
        refine end1 (v := .sc _) rfl ?_
        first
          | exact out_b rfl
          | (exfalso; omega)
          | (refine out_b ?_; simp; done)
          | (refine out_b ?_; simp [hbe, hme]; done)
          | (refine out_b ?_; simp [hb2]; done)
          | (exfalso; rw [hbe] at *; omega)
          | (exfalso; simp_all; done)

end Go.Proofs.Ytigdmkhdmbbfiaa
