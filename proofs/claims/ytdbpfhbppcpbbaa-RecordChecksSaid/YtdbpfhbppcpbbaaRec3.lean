/- Records: their errors, as the program tells them, as contracts on pure values. No conditions. -/
import Derived.Test.YtdbpfhbppcpbbaaRec2
set_option linter.unusedSimpArgs false
set_option linter.unusedVariables false
set_option maxRecDepth 100000
namespace Go.Proofs.Ytdbpfhbppcpbbaa
open Go Go.Pv

/-- A key of the map of open defects. -/
def kpv (k : ByteArray × Int) : PV := .agg [.str k.1, .int k.2]
theorem kpv_eq (a b : ByteArray × Int) : keyEq (kpv a) (kpv b) = decide (a = b) := by
  cases a; cases b
  simp only [kpv, keyEq, scsEq, scEq, Prod.mk.injEq]
  rw [Bool.eq_iff_iff]; simp
theorem kpv_ok (a : ByteArray × Int) : keyOk Try.prog 159 (kpv a) := by
  show keyAgg Try.prog 159 [.str a.1, .int a.2] = true
  kernel_rfl
abbrev Opn := List ((ByteArray × Int) × Bool)
def opStep (l : Opn) (e : Ev) : Opn := if e.kind = 4 then aSet (e.platform, e.number) true l else if e.kind = 5 then aDel (e.platform, e.number) l else l
/-- The map holds what is open. -/
def OpOk (l : Opn) (pre : List Ev) : Prop := ANodup l ∧ ∀ p n, (aGet (p, n) l).getD false = hasI (openL p false true pre) n
theorem openL_snoc (p : ByteArray) (n : Int) (e : Ev) : ∀ l, hasI (openL p false true (l ++ [e])) n = if e.platform = p ∧ e.number = n then (if e.kind = 4 then true else if e.kind = 5 then false else hasI (openL p false true l) n) else hasI (openL p false true l) n
  | [] => by
    simp only [List.nil_append, openL, List.not_mem_nil, false_implies, implies_true, and_true]
    by_cases hpn : e.platform = p ∧ e.number = n
    · rw [if_pos hpn]
      by_cases h4 : e.kind = 4
      · rw [if_pos ⟨⟨h4, hpn.1⟩, .inl rfl⟩, if_pos h4]; simp [hasI, hpn.2]
      · rw [if_neg (fun hc : selE p false true e => h4 hc.1.1), if_neg h4]; simp [hasI]
    · rw [if_neg hpn]
      by_cases hs : selE p false true e
      · rw [if_pos hs]; simp only [hasI, List.mem_singleton, List.not_mem_nil, decide_eq_decide, iff_false]
        exact fun h => hpn ⟨hs.1.2, h.symm⟩
      · rw [if_neg hs]
  | a :: l => by
    have ih := openL_snoc p n e l
    have key : ∀ b : Bool, hasI (if selE p false true a ∧ b = true then a.number :: openL p false true l else openL p false true l) n = ((decide (selE p false true a) && b && decide (n = a.number)) || hasI (openL p false true l) n) := fun b => by
      by_cases hs : selE p false true a <;> cases b <;> simp [hs, hasI]
    have key2 : ∀ b : Bool, hasI (if selE p false true a ∧ b = true then a.number :: openL p false true (l ++ [e]) else openL p false true (l ++ [e])) n = ((decide (selE p false true a) && b && decide (n = a.number)) || hasI (openL p false true (l ++ [e])) n) := fun b => by
      by_cases hs : selE p false true a <;> cases b <;> simp [hs, hasI]
    have e1 : hasI (openL p false true (a :: l)) n = ((decide (selE p false true a) && decide (∀ y ∈ l, ¬ clears p a y) && decide (n = a.number)) || hasI (openL p false true l) n) := by
      have := key (decide (∀ y ∈ l, ¬ clears p a y))
      simp only [decide_eq_true_eq] at this
      rw [openL]; exact this
    have e2 : hasI (openL p false true (a :: (l ++ [e]))) n = ((decide (selE p false true a) && decide (∀ y ∈ l ++ [e], ¬ clears p a y) && decide (n = a.number)) || hasI (openL p false true (l ++ [e])) n) := by
      have := key2 (decide (∀ y ∈ l ++ [e], ¬ clears p a y))
      simp only [decide_eq_true_eq] at this
      rw [openL]; exact this
    rw [List.cons_append, e2, e1, ih]
    have hall : decide (∀ y ∈ l ++ [e], ¬ clears p a y) = (decide (∀ y ∈ l, ¬ clears p a y) && !decide (clears p a e)) := by
      rw [Bool.eq_iff_iff]
      simp only [decide_eq_true_eq, Bool.and_eq_true, Bool.not_eq_true', decide_eq_false_iff_not, List.mem_append, List.mem_singleton]
      constructor
      · exact fun h => ⟨fun y hy => h y (.inl hy), h e (.inr rfl)⟩
      · rintro ⟨h1, h2⟩ y (hy | rfl)
        · exact h1 y hy
        · exact h2
    rw [hall]
    by_cases hpn : e.platform = p ∧ e.number = n
    · rw [if_pos hpn, if_pos hpn]
      by_cases h4 : e.kind = 4
      · simp [h4]
      · rw [if_neg h4, if_neg h4]
        by_cases h5 : e.kind = 5
        · simp only [if_pos h5, Bool.or_false]
          by_cases hn : n = a.number
          · have : clears p a e := ⟨⟨h5, hpn.1⟩, hpn.2.trans hn⟩
            simp [this]
          · simp [hn]
        · have : ¬ clears p a e := fun hc => h5 hc.1.1
          simp [if_neg h5, this]
    · rw [if_neg hpn, if_neg hpn]
      by_cases hn : n = a.number
      · have : ¬ clears p a e := fun hc => hpn ⟨hc.1.2, hc.2.trans hn.symm⟩
        simp [this]
      · simp [hn]
theorem OpOk.step {l : Opn} {pre : List Ev} (h : OpOk l pre) (e : Ev) : OpOk (opStep l e) (pre ++ [e]) := by
  refine ⟨?_, fun p n => ?_⟩
  · unfold opStep; split
    · exact h.1.aSet
    · split
      · exact h.1.aDel
      · exact h.1
  · rw [openL_snoc, ← h.2 p n]
    unfold opStep
    by_cases hpn : e.platform = p ∧ e.number = n
    · obtain ⟨rfl, rfl⟩ := hpn
      by_cases h4 : e.kind = 4
      · simp [h4, aGet_aSet]
      · by_cases h5 : e.kind = 5
        · simp [h5, aGet_aDel _ _ _ h.1]
        · simp [h4, h5]
    · have hne : ¬ (p, n) = (e.platform, e.number) := fun hc => hpn (by cases hc; exact ⟨rfl, rfl⟩)
      rw [if_neg hpn]
      by_cases h4 : e.kind = 4
      · simp [h4, aGet_aSet, hne]
      · by_cases h5 : e.kind = 5
        · simp [h5, aGet_aDel _ _ _ h.1, hne]
        · simp [h4, h5]
theorem OpOk.nil : OpOk [] [] := ⟨by simp [ANodup], fun p n => by simp [aGet, openL, hasI]⟩
theorem OpOk.at {l : Opn} {pre : List Ev} (h : OpOk l pre) (e : Ev) : (aGet (e.platform, e.number) l).getD false = openE pre e := h.2 _ _
theorem plain_bare (x : Ev) : decide (bareEv x = ⟨x.day, x.kind, x.platform, 0, false, false⟩) = plainE x := by
  obtain ⟨day, kind, platform, number, passed, grave⟩ := x
  unfold plainE bareEv
  simp only
  by_cases h0 : kind = 0
  · subst h0; simp
  by_cases h5 : kind = 5
  · subst h5; simp
  by_cases h1 : kind = 1
  · subst h1; simp; cases grave <;> by_cases hn : number = 0 <;> simp [hn]
  by_cases h2 : kind = 2
  · subst h2; simp; cases grave <;> by_cases hn : number = 0 <;> simp [hn]
  by_cases h4 : kind = 4
  · subst h4; simp
  · simp [h0, h1, h2, h4, h5]
    cases grave <;> cases passed <;> by_cases hn : number = 0 <;> simp [hn]
theorem nm_bad2 {x : Ev} (h : (x.kind = 3 ∧ ¬ x.platform = ⟨#[]⟩) ∨ (¬ x.kind = 3 ∧ isNm x.platform = false)) : badNm x = true := by
  unfold badNm
  rcases h with ⟨h1, h2⟩ | ⟨h1, h2⟩
  · rw [if_pos h1]; simp [h2]
  · rw [if_neg h1, h2]; rfl
theorem nm_good2 {x : Ev} (h : (¬ x.kind = 3 ∨ x.platform = ⟨#[]⟩) ∧ (x.kind = 3 ∨ isNm x.platform = true)) : badNm x = false := by
  unfold badNm
  by_cases h3 : x.kind = 3
  · rw [if_pos h3]; rcases h.1 with h | h
    · exact absurd h3 h
    · simp [h]
  · rw [if_neg h3]; rcases h.2 with h | h
    · exact absurd h h3
    · simp [h]
theorem fm_bad {x : Ev} (h : ¬ bareEv x = ⟨x.day, x.kind, x.platform, 0, false, false⟩) : plainE x = false := by
  rw [← plain_bare]; simpa using h
theorem fm_good {x : Ev} (h : bareEv x = ⟨x.day, x.kind, x.platform, 0, false, false⟩) : plainE x = true := by
  rw [← plain_bare]; simpa using h


def evR (x : Ev) (last : Int) (st : Opn) (h0 : Heap) (v : PV) (h : Heap) : Prop :=
  v = .int (evE x last ((aGet (x.platform, x.number) st).getD false)) ∧ (evE x last ((aGet (x.platform, x.number) st).getD false) = 0 → MapAt h (11, 0) (entsOf kpv PV.bool (opStep st x))) ∧
  ∀ a b, Nat.beq a 3 = false → Nat.beq a 8 = false → Nat.beq a 11 = false → h (a, b) = h0 (a, b)
theorem evR_bad {x : Ev} {last z : Int} {st : Opn} {h0 h : Heap} (hz : z ≠ 0) (hE : evE x last ((aGet (x.platform, x.number) st).getD false) = z) (hf : ∀ a b, Nat.beq a 3 = false → Nat.beq a 8 = false → Nat.beq a 11 = false → h (a, b) = h0 (a, b)) : evR x last st h0 (.int z) h :=
  ⟨by rw [hE], fun h => absurd (hE.symm.trans h) hz, hf⟩
theorem evR_good {x : Ev} {last : Int} {st : Opn} {h0 h : Heap} (hE : evE x last ((aGet (x.platform, x.number) st).getD false) = 0) (hm : MapAt h (11, 0) (entsOf kpv PV.bool (opStep st x))) (hf : ∀ a b, Nat.beq a 3 = false → Nat.beq a 8 = false → Nat.beq a 11 = false → h (a, b) = h0 (a, b)) : evR x last st h0 (.int 0) h :=
  ⟨by rw [hE], fun _ => hm, hf⟩

theorem frH103 : (inFrame Try.f103.ntmps (Try.f103.body.getD .skip) && Try.f103.results.toList.all (resScope Try.f103.ntmps)) = true := by kernel_rfl
theorem checkEvent (x : Ev) (last : Int) (st : Opn) (h0 : Heap) (c0 : Nat → Nat) (hm : MapAt h0 (11, 0) (entsOf kpv PV.bool st)) : HCallsR Try.prog 103 [.agg x.enc, .int last, .map (11, 0)] h0 c0 (fun v h _ => evR x last st h0 v h) := by
  refine HCallsR.of_code Try.func103 rfl rfl (by kernel_rfl) mixed frH103 (by show _ ≤ 108; simp) ?_
  refine pwp_seq_plain rfl fun K1 hK1 => ?_
  refine p_new rfl (e_box (n := 6) rfl rfl) ⟨rfl, by decide⟩ ?_
  refine p_step rfl (e_assign (v := .sc _) rfl) trivial ?_
  refine p_end (hK1 _ ?_); clear hK1 K1
  refine pwp_seq_plain rfl fun K2 hK2 => ?_
  refine p_step rfl (e_faP (pl := [(0, 1, false), (1, 1, false), (2, 1, false), (3, 1, false), (4, 1, false), (5, 1, false)]) rfl (by kernel_rfl) (by kernel_rfl) (by decide) rfl) trivial ?_
  refine p_step rfl (e_loadH (v := .sc _) rfl (hset_self _ _ _) (by kernel_rfl) (by kernel_rfl) (by kernel_rfl) (by exact Nat.zero_lt_one) (by decide) rfl) trivial ?_
  refine p_step rfl (e_eq rfl rfl) trivial ?_
  refine p_step rfl (e_assign (v := .sc _) rfl) trivial ?_
  refine p_end (hK2 _ ?_); clear hK2 K2
  refine pwp_seq_plain rfl fun K3 hK3 => ?_
  refine p_step rfl (e_faP (pl := [(0, 1, false), (1, 1, false), (2, 1, false), (3, 1, false), (4, 1, false), (5, 1, false)]) rfl (by kernel_rfl) (by kernel_rfl) (by decide) rfl) trivial ?_
  refine p_step rfl (e_loadH (v := .sc _) rfl (hset_self _ _ _) (by kernel_rfl) (by kernel_rfl) (by kernel_rfl) (by exact Nat.zero_lt_one) (by decide) rfl) trivial ?_
  refine p_step rfl (e_faP (pl := [(0, 1, false), (1, 1, false), (2, 1, false), (3, 1, false), (4, 1, false), (5, 1, false)]) rfl (by kernel_rfl) (by kernel_rfl) (by decide) rfl) trivial ?_
  refine p_step rfl (e_loadH (v := .sc _) rfl (hset_self _ _ _) (by kernel_rfl) (by kernel_rfl) (by kernel_rfl) (by exact Nat.zero_lt_one) (by decide) rfl) trivial ?_
  refine p_step rfl (e_build (zs := [.str ByteArray.empty, .int 0]) (pl := [(0, 1, false), (1, 1, false)]) (by kernel_rfl) (by kernel_rfl) (by kernel_rfl) rfl rfl (by exact ⟨by decide, rfl, Nat.le_of_ble_eq_true rfl, rfl, ⟨by decide, rfl, Nat.le_of_ble_eq_true rfl, rfl, trivial⟩⟩) rfl) trivial ?_
  refine p_new rfl (e_alloc (cs := [.str ByteArray.empty, .int 0]) (n := 2) (by kernel_rfl) rfl (by decide)) (ob_alloc (by decide)) ?_
  refine p_store rfl (e_storeA rfl (hset_self _ _ _) rfl rfl rfl (by kernel_rfl) rfl (by kernel_rfl)) trivial ?_
  refine p_end (hK3 _ ?_); clear hK3 K3
  refine pwp_seq_block fun K4 hK4 => ?_
  refine pwp_seq_cutG [1, 2, 3, 7, 8] [(17, .bool ((((((decide (x.day < (0))) || (decide ((20000) < x.day))) || (decide (x.kind < (0)))) || (decide ((6) < x.kind))) || (decide (x.number < (0)))) || (decide ((9999) < x.number))))] (fun K5 hK5 => ?_) (fun r6 => ?_)
  ·skip
   refine pwp_gops rfl fun K7 hK7 => ?_
   refine g_begin ?_
   refine g_step rfl rfl rfl rfl (e_faP (pl := [(0, 1, false), (1, 1, false), (2, 1, false), (3, 1, false), (4, 1, false), (5, 1, false)]) rfl (by kernel_rfl) (by kernel_rfl) (by decide) rfl) trivial ?_
   refine g_step rfl rfl rfl rfl (e_loadH (v := .sc _) rfl ((hset_ne (key_ne rfl)).trans ((hset_ne (key_ne rfl)).trans (hset_self _ _ _))) (by kernel_rfl) (by kernel_rfl) (by kernel_rfl) (by exact Nat.zero_lt_one) (by decide) rfl) trivial ?_
   refine g_step rfl rfl rfl rfl (e_lt rfl rfl) trivial ?_
   refine g_step rfl rfl rfl rfl (e_move (v := .sc _) rfl) trivial ?_
   refine g_cases (fun hb8 => ?_) (fun hb8 => ?_)
   ·have hb8R := hb8; try simp only [z1, z2, z3, z4, z5, z6, ne_eq, z7, z8, z9, z10, z11, z12] at hb8
    refine g_skip rfl rfl rfl ?_
    refine g_skip rfl rfl rfl ?_
    refine g_skip rfl rfl rfl ?_
    refine g_step rfl rfl rfl rfl (e_pickT (v := .sc _) rfl rfl) trivial ?_
    refine g_step rfl rfl rfl rfl (e_move (v := .sc _) rfl) trivial ?_
    refine g_skip rfl rfl rfl ?_
    refine g_skip rfl rfl rfl ?_
    refine g_skip rfl rfl rfl ?_
    refine g_step rfl rfl rfl rfl (e_pickT (v := .sc _) rfl rfl) trivial ?_
    refine g_step rfl rfl rfl rfl (e_move (v := .sc _) rfl) trivial ?_
    refine g_skip rfl rfl rfl ?_
    refine g_skip rfl rfl rfl ?_
    refine g_skip rfl rfl rfl ?_
    refine g_step rfl rfl rfl rfl (e_pickT (v := .sc _) rfl rfl) trivial ?_
    refine g_step rfl rfl rfl rfl (e_move (v := .sc _) rfl) trivial ?_
    refine g_skip rfl rfl rfl ?_
    refine g_skip rfl rfl rfl ?_
    refine g_skip rfl rfl rfl ?_
    refine g_step rfl rfl rfl rfl (e_pickT (v := .sc _) rfl rfl) trivial ?_
    refine g_step rfl rfl rfl rfl (e_move (v := .sc _) rfl) trivial ?_
    refine g_skip rfl rfl rfl ?_
    refine g_skip rfl rfl rfl ?_
    refine g_skip rfl rfl rfl ?_
    refine g_step rfl rfl rfl rfl (e_pickT (v := .sc _) rfl rfl) trivial ?_
    refine g_step rfl rfl rfl rfl (e_assign (v := .sc _) rfl) trivial ?_
    refine g_end (ds := [22, 23, 24, 27, 28, 29, 32, 33, 34, 37, 38, 39, 42, 43, 44]) rfl rfl (hK7 _ ?_); clear hK7 K7
    exact seq_norm (hK5 _ ⟨rfl, rfl, rfl, rfl, rfl, trivial⟩ ⟨(congrArg PV.bool (show (true : Bool) = ((((((decide (x.day < (0))) || (decide ((20000) < x.day))) || (decide (x.kind < (0)))) || (decide ((6) < x.kind))) || (decide (x.number < (0)))) || (decide ((9999) < x.number))) by first | rfl | ((try rw [hb8R]) <;> (first | rfl | (simp only [Bool.and_true, Bool.and_false, Bool.true_and, Bool.false_and, Bool.or_true, Bool.or_false, Bool.true_or, Bool.false_or, Bool.not_true, Bool.not_false, if_true, if_false, Bool.false_eq_true, reduceIte] <;> rfl))) | (simp only [hb8R, Bool.and_true, Bool.and_false, Bool.true_and, Bool.false_and, Bool.or_true, Bool.or_false, Bool.true_or, Bool.false_or, Bool.not_true, Bool.not_false, if_true, if_false, Bool.false_eq_true, reduceIte] <;> rfl))), trivial⟩)
   ·have hb8R := hb8; try simp only [z1, z2, z3, z4, z5, z6, ne_eq, z7, z8, z9, z10, z11, z12] at hb8
    refine g_step rfl rfl rfl rfl (e_faP (pl := [(0, 1, false), (1, 1, false), (2, 1, false), (3, 1, false), (4, 1, false), (5, 1, false)]) rfl (by kernel_rfl) (by kernel_rfl) (by decide) rfl) trivial ?_
    refine g_step rfl rfl rfl rfl (e_loadH (v := .sc _) rfl ((hset_ne (key_ne rfl)).trans ((hset_ne (key_ne rfl)).trans (hset_self _ _ _))) (by kernel_rfl) (by kernel_rfl) (by kernel_rfl) (by exact Nat.zero_lt_one) (by decide) rfl) trivial ?_
    refine g_step rfl rfl rfl rfl (e_gt rfl rfl) trivial ?_
    refine g_step rfl rfl rfl rfl (e_pickF (v := .sc _) rfl rfl) trivial ?_
    refine g_step rfl rfl rfl rfl (e_move (v := .sc _) rfl) trivial ?_
    refine g_cases (fun hb9 => ?_) (fun hb9 => ?_)
    ·have hb9R := hb9; try simp only [z1, z2, z3, z4, z5, z6, ne_eq, z7, z8, z9, z10, z11, z12] at hb9
     refine g_skip rfl rfl rfl ?_
     refine g_skip rfl rfl rfl ?_
     refine g_skip rfl rfl rfl ?_
     refine g_step rfl rfl rfl rfl (e_pickT (v := .sc _) rfl rfl) trivial ?_
     refine g_step rfl rfl rfl rfl (e_move (v := .sc _) rfl) trivial ?_
     refine g_skip rfl rfl rfl ?_
     refine g_skip rfl rfl rfl ?_
     refine g_skip rfl rfl rfl ?_
     refine g_step rfl rfl rfl rfl (e_pickT (v := .sc _) rfl rfl) trivial ?_
     refine g_step rfl rfl rfl rfl (e_move (v := .sc _) rfl) trivial ?_
     refine g_skip rfl rfl rfl ?_
     refine g_skip rfl rfl rfl ?_
     refine g_skip rfl rfl rfl ?_
     refine g_step rfl rfl rfl rfl (e_pickT (v := .sc _) rfl rfl) trivial ?_
     refine g_step rfl rfl rfl rfl (e_move (v := .sc _) rfl) trivial ?_
     refine g_skip rfl rfl rfl ?_
     refine g_skip rfl rfl rfl ?_
     refine g_skip rfl rfl rfl ?_
     refine g_step rfl rfl rfl rfl (e_pickT (v := .sc _) rfl rfl) trivial ?_
     refine g_step rfl rfl rfl rfl (e_assign (v := .sc _) rfl) trivial ?_
     refine g_end (ds := [22, 23, 24, 27, 28, 29, 32, 33, 34, 37, 38, 39, 42, 43, 44]) rfl rfl (hK7 _ ?_); clear hK7 K7
     exact seq_norm (hK5 _ ⟨rfl, rfl, rfl, rfl, rfl, trivial⟩ ⟨(congrArg PV.bool (show (true : Bool) = ((((((decide (x.day < (0))) || (decide ((20000) < x.day))) || (decide (x.kind < (0)))) || (decide ((6) < x.kind))) || (decide (x.number < (0)))) || (decide ((9999) < x.number))) by first | rfl | ((try rw [hb9R]) <;> (try rw [hb8R]) <;> (first | rfl | (simp only [Bool.and_true, Bool.and_false, Bool.true_and, Bool.false_and, Bool.or_true, Bool.or_false, Bool.true_or, Bool.false_or, Bool.not_true, Bool.not_false, if_true, if_false, Bool.false_eq_true, reduceIte] <;> rfl))) | (simp only [hb8R, hb9R, Bool.and_true, Bool.and_false, Bool.true_and, Bool.false_and, Bool.or_true, Bool.or_false, Bool.true_or, Bool.false_or, Bool.not_true, Bool.not_false, if_true, if_false, Bool.false_eq_true, reduceIte] <;> rfl))), trivial⟩)
    ·have hb9R := hb9; try simp only [z1, z2, z3, z4, z5, z6, ne_eq, z7, z8, z9, z10, z11, z12] at hb9
     refine g_step rfl rfl rfl rfl (e_faP (pl := [(0, 1, false), (1, 1, false), (2, 1, false), (3, 1, false), (4, 1, false), (5, 1, false)]) rfl (by kernel_rfl) (by kernel_rfl) (by decide) rfl) trivial ?_
     refine g_step rfl rfl rfl rfl (e_loadH (v := .sc _) rfl ((hset_ne (key_ne rfl)).trans ((hset_ne (key_ne rfl)).trans (hset_self _ _ _))) (by kernel_rfl) (by kernel_rfl) (by kernel_rfl) (by exact Nat.zero_lt_one) (by decide) rfl) trivial ?_
     refine g_step rfl rfl rfl rfl (e_lt rfl rfl) trivial ?_
     refine g_step rfl rfl rfl rfl (e_pickF (v := .sc _) rfl rfl) trivial ?_
     refine g_step rfl rfl rfl rfl (e_move (v := .sc _) rfl) trivial ?_
     refine g_cases (fun hb10 => ?_) (fun hb10 => ?_)
     ·have hb10R := hb10; try simp only [z1, z2, z3, z4, z5, z6, ne_eq, z7, z8, z9, z10, z11, z12] at hb10
      refine g_skip rfl rfl rfl ?_
      refine g_skip rfl rfl rfl ?_
      refine g_skip rfl rfl rfl ?_
      refine g_step rfl rfl rfl rfl (e_pickT (v := .sc _) rfl rfl) trivial ?_
      refine g_step rfl rfl rfl rfl (e_move (v := .sc _) rfl) trivial ?_
      refine g_skip rfl rfl rfl ?_
      refine g_skip rfl rfl rfl ?_
      refine g_skip rfl rfl rfl ?_
      refine g_step rfl rfl rfl rfl (e_pickT (v := .sc _) rfl rfl) trivial ?_
      refine g_step rfl rfl rfl rfl (e_move (v := .sc _) rfl) trivial ?_
      refine g_skip rfl rfl rfl ?_
      refine g_skip rfl rfl rfl ?_
      refine g_skip rfl rfl rfl ?_
      refine g_step rfl rfl rfl rfl (e_pickT (v := .sc _) rfl rfl) trivial ?_
      refine g_step rfl rfl rfl rfl (e_assign (v := .sc _) rfl) trivial ?_
      refine g_end (ds := [22, 23, 24, 27, 28, 29, 32, 33, 34, 37, 38, 39, 42, 43, 44]) rfl rfl (hK7 _ ?_); clear hK7 K7
      exact seq_norm (hK5 _ ⟨rfl, rfl, rfl, rfl, rfl, trivial⟩ ⟨(congrArg PV.bool (show (true : Bool) = ((((((decide (x.day < (0))) || (decide ((20000) < x.day))) || (decide (x.kind < (0)))) || (decide ((6) < x.kind))) || (decide (x.number < (0)))) || (decide ((9999) < x.number))) by first | rfl | ((try rw [hb10R]) <;> (try rw [hb9R]) <;> (try rw [hb8R]) <;> (first | rfl | (simp only [Bool.and_true, Bool.and_false, Bool.true_and, Bool.false_and, Bool.or_true, Bool.or_false, Bool.true_or, Bool.false_or, Bool.not_true, Bool.not_false, if_true, if_false, Bool.false_eq_true, reduceIte] <;> rfl))) | (simp only [hb8R, hb9R, hb10R, Bool.and_true, Bool.and_false, Bool.true_and, Bool.false_and, Bool.or_true, Bool.or_false, Bool.true_or, Bool.false_or, Bool.not_true, Bool.not_false, if_true, if_false, Bool.false_eq_true, reduceIte] <;> rfl))), trivial⟩)
     ·have hb10R := hb10; try simp only [z1, z2, z3, z4, z5, z6, ne_eq, z7, z8, z9, z10, z11, z12] at hb10
      refine g_step rfl rfl rfl rfl (e_faP (pl := [(0, 1, false), (1, 1, false), (2, 1, false), (3, 1, false), (4, 1, false), (5, 1, false)]) rfl (by kernel_rfl) (by kernel_rfl) (by decide) rfl) trivial ?_
      refine g_step rfl rfl rfl rfl (e_loadH (v := .sc _) rfl ((hset_ne (key_ne rfl)).trans ((hset_ne (key_ne rfl)).trans (hset_self _ _ _))) (by kernel_rfl) (by kernel_rfl) (by kernel_rfl) (by exact Nat.zero_lt_one) (by decide) rfl) trivial ?_
      refine g_step rfl rfl rfl rfl (e_gt rfl rfl) trivial ?_
      refine g_step rfl rfl rfl rfl (e_pickF (v := .sc _) rfl rfl) trivial ?_
      refine g_step rfl rfl rfl rfl (e_move (v := .sc _) rfl) trivial ?_
      refine g_cases (fun hb11 => ?_) (fun hb11 => ?_)
      ·have hb11R := hb11; try simp only [z1, z2, z3, z4, z5, z6, ne_eq, z7, z8, z9, z10, z11, z12] at hb11
       refine g_skip rfl rfl rfl ?_
       refine g_skip rfl rfl rfl ?_
       refine g_skip rfl rfl rfl ?_
       refine g_step rfl rfl rfl rfl (e_pickT (v := .sc _) rfl rfl) trivial ?_
       refine g_step rfl rfl rfl rfl (e_move (v := .sc _) rfl) trivial ?_
       refine g_skip rfl rfl rfl ?_
       refine g_skip rfl rfl rfl ?_
       refine g_skip rfl rfl rfl ?_
       refine g_step rfl rfl rfl rfl (e_pickT (v := .sc _) rfl rfl) trivial ?_
       refine g_step rfl rfl rfl rfl (e_assign (v := .sc _) rfl) trivial ?_
       refine g_end (ds := [22, 23, 24, 27, 28, 29, 32, 33, 34, 37, 38, 39, 42, 43, 44]) rfl rfl (hK7 _ ?_); clear hK7 K7
       exact seq_norm (hK5 _ ⟨rfl, rfl, rfl, rfl, rfl, trivial⟩ ⟨(congrArg PV.bool (show (true : Bool) = ((((((decide (x.day < (0))) || (decide ((20000) < x.day))) || (decide (x.kind < (0)))) || (decide ((6) < x.kind))) || (decide (x.number < (0)))) || (decide ((9999) < x.number))) by first | rfl | ((try rw [hb11R]) <;> (try rw [hb10R]) <;> (try rw [hb9R]) <;> (try rw [hb8R]) <;> (first | rfl | (simp only [Bool.and_true, Bool.and_false, Bool.true_and, Bool.false_and, Bool.or_true, Bool.or_false, Bool.true_or, Bool.false_or, Bool.not_true, Bool.not_false, if_true, if_false, Bool.false_eq_true, reduceIte] <;> rfl))) | (simp only [hb8R, hb9R, hb10R, hb11R, Bool.and_true, Bool.and_false, Bool.true_and, Bool.false_and, Bool.or_true, Bool.or_false, Bool.true_or, Bool.false_or, Bool.not_true, Bool.not_false, if_true, if_false, Bool.false_eq_true, reduceIte] <;> rfl))), trivial⟩)
      ·have hb11R := hb11; try simp only [z1, z2, z3, z4, z5, z6, ne_eq, z7, z8, z9, z10, z11, z12] at hb11
       refine g_step rfl rfl rfl rfl (e_faP (pl := [(0, 1, false), (1, 1, false), (2, 1, false), (3, 1, false), (4, 1, false), (5, 1, false)]) rfl (by kernel_rfl) (by kernel_rfl) (by decide) rfl) trivial ?_
       refine g_step rfl rfl rfl rfl (e_loadH (v := .sc _) rfl ((hset_ne (key_ne rfl)).trans ((hset_ne (key_ne rfl)).trans (hset_self _ _ _))) (by kernel_rfl) (by kernel_rfl) (by kernel_rfl) (by exact Nat.zero_lt_one) (by decide) rfl) trivial ?_
       refine g_step rfl rfl rfl rfl (e_lt rfl rfl) trivial ?_
       refine g_step rfl rfl rfl rfl (e_pickF (v := .sc _) rfl rfl) trivial ?_
       refine g_step rfl rfl rfl rfl (e_move (v := .sc _) rfl) trivial ?_
       refine g_cases (fun hb12 => ?_) (fun hb12 => ?_)
       ·have hb12R := hb12; try simp only [z1, z2, z3, z4, z5, z6, ne_eq, z7, z8, z9, z10, z11, z12] at hb12
        refine g_skip rfl rfl rfl ?_
        refine g_skip rfl rfl rfl ?_
        refine g_skip rfl rfl rfl ?_
        refine g_step rfl rfl rfl rfl (e_pickT (v := .sc _) rfl rfl) trivial ?_
        refine g_step rfl rfl rfl rfl (e_assign (v := .sc _) rfl) trivial ?_
        refine g_end (ds := [22, 23, 24, 27, 28, 29, 32, 33, 34, 37, 38, 39, 42, 43, 44]) rfl rfl (hK7 _ ?_); clear hK7 K7
        exact seq_norm (hK5 _ ⟨rfl, rfl, rfl, rfl, rfl, trivial⟩ ⟨(congrArg PV.bool (show (true : Bool) = ((((((decide (x.day < (0))) || (decide ((20000) < x.day))) || (decide (x.kind < (0)))) || (decide ((6) < x.kind))) || (decide (x.number < (0)))) || (decide ((9999) < x.number))) by first | rfl | ((try rw [hb12R]) <;> (try rw [hb11R]) <;> (try rw [hb10R]) <;> (try rw [hb9R]) <;> (try rw [hb8R]) <;> (first | rfl | (simp only [Bool.and_true, Bool.and_false, Bool.true_and, Bool.false_and, Bool.or_true, Bool.or_false, Bool.true_or, Bool.false_or, Bool.not_true, Bool.not_false, if_true, if_false, Bool.false_eq_true, reduceIte] <;> rfl))) | (simp only [hb8R, hb9R, hb10R, hb11R, hb12R, Bool.and_true, Bool.and_false, Bool.true_and, Bool.false_and, Bool.or_true, Bool.or_false, Bool.true_or, Bool.false_or, Bool.not_true, Bool.not_false, if_true, if_false, Bool.false_eq_true, reduceIte] <;> rfl))), trivial⟩)
       ·have hb12R := hb12; try simp only [z1, z2, z3, z4, z5, z6, ne_eq, z7, z8, z9, z10, z11, z12] at hb12
        refine g_step rfl rfl rfl rfl (e_faP (pl := [(0, 1, false), (1, 1, false), (2, 1, false), (3, 1, false), (4, 1, false), (5, 1, false)]) rfl (by kernel_rfl) (by kernel_rfl) (by decide) rfl) trivial ?_
        refine g_step rfl rfl rfl rfl (e_loadH (v := .sc _) rfl ((hset_ne (key_ne rfl)).trans ((hset_ne (key_ne rfl)).trans (hset_self _ _ _))) (by kernel_rfl) (by kernel_rfl) (by kernel_rfl) (by exact Nat.zero_lt_one) (by decide) rfl) trivial ?_
        refine g_step rfl rfl rfl rfl (e_gt rfl rfl) trivial ?_
        refine g_step rfl rfl rfl rfl (e_pickF (v := .sc _) rfl rfl) trivial ?_
        refine g_step rfl rfl rfl rfl (e_assign (v := .sc _) rfl) trivial ?_
        refine g_end (ds := [22, 23, 24, 27, 28, 29, 32, 33, 34, 37, 38, 39, 42, 43, 44]) rfl rfl (hK7 _ ?_); clear hK7 K7
        exact seq_norm (hK5 _ ⟨rfl, rfl, rfl, rfl, rfl, trivial⟩ ⟨(congrArg PV.bool (show ((decide ((9999) < x.number)) : Bool) = ((((((decide (x.day < (0))) || (decide ((20000) < x.day))) || (decide (x.kind < (0)))) || (decide ((6) < x.kind))) || (decide (x.number < (0)))) || (decide ((9999) < x.number))) by first | rfl | ((try rw [hb12R]) <;> (try rw [hb11R]) <;> (try rw [hb10R]) <;> (try rw [hb9R]) <;> (try rw [hb8R]) <;> (first | rfl | (simp only [Bool.and_true, Bool.and_false, Bool.true_and, Bool.false_and, Bool.or_true, Bool.or_false, Bool.true_or, Bool.false_or, Bool.not_true, Bool.not_false, if_true, if_false, Bool.false_eq_true, reduceIte] <;> rfl))) | (simp only [hb8R, hb9R, hb10R, hb11R, hb12R, Bool.and_true, Bool.and_false, Bool.true_and, Bool.false_and, Bool.or_true, Bool.or_false, Bool.true_or, Bool.false_or, Bool.not_true, Bool.not_false, if_true, if_false, Bool.false_eq_true, reduceIte] <;> rfl))), trivial⟩)
  ·skip
   refine pwp_cond rfl (fun hb13 => ?_) (fun hb13 => ?_)
   ·have hb13R := hb13; try simp only [z1, z2, z3, z4, z5, z6, ne_eq, z7, z8, z9, z10, z11, z12] at hb13
    refine pwp_seq_plain rfl fun K14 hK14 => ?_
    refine p_step rfl (e_assign (v := .sc _) rfl) trivial ?_
    refine p_end (hK14 _ ?_); clear hK14 K14
    refine pwp_ret ?_
    refine ret_block ?_
    refine ret_seq ?_
    refine end1 (v := .sc _) rfl ?_
    first
      | exact evR_bad (by decide) (evE_2 (by unfold badEv; omega)) (fun a b h3 h8 h11 => by simp only [hset_ne (key_ne h3), hset_ne (key_ne h8), hset_ne (key_ne h11)])
      | exact evR_bad (by decide) (evE_10 (by unfold badEv; omega) (by omega)) (fun a b h3 h8 h11 => by simp only [hset_ne (key_ne h3), hset_ne (key_ne h8), hset_ne (key_ne h11)])
      | exact evR_bad (by decide) (evE_4 (by unfold badEv; omega) (by omega) (nm_bad2 (by assumption))) (fun a b h3 h8 h11 => by simp only [hset_ne (key_ne h3), hset_ne (key_ne h8), hset_ne (key_ne h11)])
      | exact evR_bad (by decide) (evE_3 (by unfold badEv; omega) (by omega) (nm_good2 (by assumption)) (fm_bad (by assumption))) (fun a b h3 h8 h11 => by simp only [hset_ne (key_ne h3), hset_ne (key_ne h8), hset_ne (key_ne h11)])
      | exact evR_bad (by decide) (evE_5 (by unfold badEv; omega) (by omega) (nm_good2 (by assumption)) (fm_good (by assumption)) (by assumption)) (fun a b h3 h8 h11 => by simp only [hset_ne (key_ne h3), hset_ne (key_ne h8), hset_ne (key_ne h11)])
      | exact evR_bad (by decide) (evE_6 (by unfold badEv; omega) (by omega) (nm_good2 (by assumption)) (fm_good (by assumption)) (by assumption)) (fun a b h3 h8 h11 => by simp only [hset_ne (key_ne h3), hset_ne (key_ne h8), hset_ne (key_ne h11)])
      | exact evR_good (evE_0 (by unfold badEv; omega) (by omega) (nm_good2 (by assumption)) (fm_good (by assumption)) (by first | assumption | omega) (by first | assumption | omega)) (by rw [opStep, if_pos (by omega)]; exact (MapAt.keep hm ((hset_ne (key_ne rfl)).trans ((hset_ne (key_ne rfl)).trans ((hset_ne (key_ne rfl)).trans (rfl)))))) (fun a b h3 h8 h11 => by simp only [hset_ne (key_ne h3), hset_ne (key_ne h8), hset_ne (key_ne h11)])
      | exact evR_good (evE_0 (by unfold badEv; omega) (by omega) (nm_good2 (by assumption)) (fm_good (by assumption)) (by first | assumption | omega) (by first | assumption | omega)) (by rw [opStep, if_neg (by omega), if_pos (by omega)]; exact (MapAt.keep hm ((hset_ne (key_ne rfl)).trans ((hset_ne (key_ne rfl)).trans ((hset_ne (key_ne rfl)).trans (rfl)))))) (fun a b h3 h8 h11 => by simp only [hset_ne (key_ne h3), hset_ne (key_ne h8), hset_ne (key_ne h11)])
      | exact evR_good (evE_0 (by unfold badEv; omega) (by omega) (nm_good2 (by assumption)) (fm_good (by assumption)) (by first | assumption | omega) (by first | assumption | omega)) (by rw [opStep, if_neg (by omega), if_neg (by omega)]; exact (MapAt.keep hm ((hset_ne (key_ne rfl)).trans ((hset_ne (key_ne rfl)).trans ((hset_ne (key_ne rfl)).trans (rfl)))))) (fun a b h3 h8 h11 => by simp only [hset_ne (key_ne h3), hset_ne (key_ne h8), hset_ne (key_ne h11)])
   ·have hb13R := hb13; try simp only [z1, z2, z3, z4, z5, z6, ne_eq, z7, z8, z9, z10, z11, z12] at hb13
    refine pwp_seq_plain rfl fun K15 hK15 => ?_
    refine p_step rfl (e_faP (pl := [(0, 1, false), (1, 1, false), (2, 1, false), (3, 1, false), (4, 1, false), (5, 1, false)]) rfl (by kernel_rfl) (by kernel_rfl) (by decide) rfl) trivial ?_
    refine p_step rfl (e_loadH (v := .sc _) rfl ((hset_ne (key_ne rfl)).trans ((hset_ne (key_ne rfl)).trans (hset_self _ _ _))) (by kernel_rfl) (by kernel_rfl) (by kernel_rfl) (by exact Nat.zero_lt_one) (by decide) rfl) trivial ?_
    refine p_step rfl (e_move (v := .sc _) rfl) trivial ?_
    refine p_step rfl (e_lt rfl rfl) trivial ?_
    refine p_step rfl (e_assign (v := .sc _) rfl) trivial ?_
    refine p_end (hK15 _ ?_); clear hK15 K15
    refine pwp_cond rfl (fun hb16 => ?_) (fun hb16 => ?_)
    ·have hb16R := hb16; try simp only [z1, z2, z3, z4, z5, z6, ne_eq, z7, z8, z9, z10, z11, z12] at hb16
     refine pwp_seq_plain rfl fun K17 hK17 => ?_
     refine p_step rfl (e_assign (v := .sc _) rfl) trivial ?_
     refine p_end (hK17 _ ?_); clear hK17 K17
     refine pwp_ret ?_
     refine ret_block ?_
     refine ret_seq ?_
     refine end1 (v := .sc _) rfl ?_
     first
       | exact evR_bad (by decide) (evE_2 (by unfold badEv; omega)) (fun a b h3 h8 h11 => by simp only [hset_ne (key_ne h3), hset_ne (key_ne h8), hset_ne (key_ne h11)])
       | exact evR_bad (by decide) (evE_10 (by unfold badEv; omega) (by omega)) (fun a b h3 h8 h11 => by simp only [hset_ne (key_ne h3), hset_ne (key_ne h8), hset_ne (key_ne h11)])
       | exact evR_bad (by decide) (evE_4 (by unfold badEv; omega) (by omega) (nm_bad2 (by assumption))) (fun a b h3 h8 h11 => by simp only [hset_ne (key_ne h3), hset_ne (key_ne h8), hset_ne (key_ne h11)])
       | exact evR_bad (by decide) (evE_3 (by unfold badEv; omega) (by omega) (nm_good2 (by assumption)) (fm_bad (by assumption))) (fun a b h3 h8 h11 => by simp only [hset_ne (key_ne h3), hset_ne (key_ne h8), hset_ne (key_ne h11)])
       | exact evR_bad (by decide) (evE_5 (by unfold badEv; omega) (by omega) (nm_good2 (by assumption)) (fm_good (by assumption)) (by assumption)) (fun a b h3 h8 h11 => by simp only [hset_ne (key_ne h3), hset_ne (key_ne h8), hset_ne (key_ne h11)])
       | exact evR_bad (by decide) (evE_6 (by unfold badEv; omega) (by omega) (nm_good2 (by assumption)) (fm_good (by assumption)) (by assumption)) (fun a b h3 h8 h11 => by simp only [hset_ne (key_ne h3), hset_ne (key_ne h8), hset_ne (key_ne h11)])
       | exact evR_good (evE_0 (by unfold badEv; omega) (by omega) (nm_good2 (by assumption)) (fm_good (by assumption)) (by first | assumption | omega) (by first | assumption | omega)) (by rw [opStep, if_pos (by omega)]; exact (MapAt.keep hm ((hset_ne (key_ne rfl)).trans ((hset_ne (key_ne rfl)).trans ((hset_ne (key_ne rfl)).trans (rfl)))))) (fun a b h3 h8 h11 => by simp only [hset_ne (key_ne h3), hset_ne (key_ne h8), hset_ne (key_ne h11)])
       | exact evR_good (evE_0 (by unfold badEv; omega) (by omega) (nm_good2 (by assumption)) (fm_good (by assumption)) (by first | assumption | omega) (by first | assumption | omega)) (by rw [opStep, if_neg (by omega), if_pos (by omega)]; exact (MapAt.keep hm ((hset_ne (key_ne rfl)).trans ((hset_ne (key_ne rfl)).trans ((hset_ne (key_ne rfl)).trans (rfl)))))) (fun a b h3 h8 h11 => by simp only [hset_ne (key_ne h3), hset_ne (key_ne h8), hset_ne (key_ne h11)])
       | exact evR_good (evE_0 (by unfold badEv; omega) (by omega) (nm_good2 (by assumption)) (fm_good (by assumption)) (by first | assumption | omega) (by first | assumption | omega)) (by rw [opStep, if_neg (by omega), if_neg (by omega)]; exact (MapAt.keep hm ((hset_ne (key_ne rfl)).trans ((hset_ne (key_ne rfl)).trans ((hset_ne (key_ne rfl)).trans (rfl)))))) (fun a b h3 h8 h11 => by simp only [hset_ne (key_ne h3), hset_ne (key_ne h8), hset_ne (key_ne h11)])
    ·have hb16R := hb16; try simp only [z1, z2, z3, z4, z5, z6, ne_eq, z7, z8, z9, z10, z11, z12] at hb16
     refine pwp_seq_cutG [2, 3, 8] [(51, .bool (((decide (x.kind = (3))) && (decide (x.platform ≠ (⟨#[]⟩ : ByteArray)))) || ((!(decide (x.kind = (3)))) && (!(isNm x.platform)))))] (fun K18 hK18 => ?_) (fun r19 => ?_)
     ·skip
      refine pwp_gops rfl fun K20 hK20 => ?_
      refine g_begin ?_
      refine g_step rfl rfl rfl rfl (e_move (v := .sc _) rfl) trivial ?_
      refine g_step rfl rfl rfl rfl (e_move (v := .sc _) rfl) trivial ?_
      refine g_cases (fun hb21 => ?_) (fun hb21 => ?_)
      ·have hb21R := hb21; try simp only [z1, z2, z3, z4, z5, z6, ne_eq, z7, z8, z9, z10, z11, z12] at hb21
       refine g_step rfl rfl rfl rfl (e_faP (pl := [(0, 1, false), (1, 1, false), (2, 1, false), (3, 1, false), (4, 1, false), (5, 1, false)]) rfl (by kernel_rfl) (by kernel_rfl) (by decide) rfl) trivial ?_
       refine g_step rfl rfl rfl rfl (e_loadH (v := .sc _) rfl ((hset_ne (key_ne rfl)).trans ((hset_ne (key_ne rfl)).trans (hset_self _ _ _))) (by kernel_rfl) (by kernel_rfl) (by kernel_rfl) (by exact Nat.zero_lt_one) (by decide) rfl) trivial ?_
       refine g_step rfl rfl rfl rfl (e_sne rfl rfl) trivial ?_
       refine g_step rfl rfl rfl rfl (e_pickT (v := .sc _) rfl rfl) trivial ?_
       refine g_step rfl rfl rfl rfl (e_move (v := .sc _) rfl) trivial ?_
       refine g_cases (fun hb22 => ?_) (fun hb22 => ?_)
       ·have hb22R := hb22; try simp only [z1, z2, z3, z4, z5, z6, ne_eq, z7, z8, z9, z10, z11, z12] at hb22
        refine g_skip rfl rfl rfl ?_
        refine g_skip rfl rfl rfl ?_
        refine g_skip rfl rfl rfl ?_
        refine g_skip rfl rfl rfl ?_
        refine g_skip rfl rfl rfl ?_
        refine g_nocall rfl rfl rfl ?_
        refine g_skip rfl rfl rfl ?_
        refine g_skip rfl rfl rfl ?_
        refine g_step rfl rfl rfl rfl (e_pickT (v := .sc _) rfl rfl) trivial ?_
        refine g_step rfl rfl rfl rfl (e_assign (v := .sc _) rfl) trivial ?_
        refine g_end (ds := [54, 55, 56, 59, 60, 61, 62, 63, 64, 65, 66]) rfl rfl (hK20 _ ?_); clear hK20 K20
        exact seq_norm (hK18 _ ⟨rfl, rfl, rfl, trivial⟩ ⟨(congrArg PV.bool (show (true : Bool) = (((decide (x.kind = (3))) && (decide (x.platform ≠ (⟨#[]⟩ : ByteArray)))) || ((!(decide (x.kind = (3)))) && (!(isNm x.platform)))) by first | rfl | ((try rw [hb22R]) <;> (try rw [hb21R]) <;> (first | rfl | (simp only [Bool.and_true, Bool.and_false, Bool.true_and, Bool.false_and, Bool.or_true, Bool.or_false, Bool.true_or, Bool.false_or, Bool.not_true, Bool.not_false, if_true, if_false, Bool.false_eq_true, reduceIte] <;> rfl))) | (simp only [hb21R, hb22R, Bool.and_true, Bool.and_false, Bool.true_and, Bool.false_and, Bool.or_true, Bool.or_false, Bool.true_or, Bool.false_or, Bool.not_true, Bool.not_false, if_true, if_false, Bool.false_eq_true, reduceIte] <;> rfl))), trivial⟩)
       ·have hb22R := hb22; try simp only [z1, z2, z3, z4, z5, z6, ne_eq, z7, z8, z9, z10, z11, z12] at hb22
        refine g_step rfl rfl rfl rfl (e_move (v := .sc _) rfl) trivial ?_
        refine g_step rfl rfl rfl rfl (e_not rfl) trivial ?_
        refine g_step rfl rfl rfl rfl (e_move (v := .sc _) rfl) trivial ?_
        refine g_cases (fun hb23 => ?_) (fun hb23 => ?_)
        ·have hb23R := hb23; try simp only [z1, z2, z3, z4, z5, z6, ne_eq, z7, z8, z9, z10, z11, z12] at hb23
         refine g_step rfl rfl rfl rfl (e_faP (pl := [(0, 1, false), (1, 1, false), (2, 1, false), (3, 1, false), (4, 1, false), (5, 1, false)]) rfl (by kernel_rfl) (by kernel_rfl) (by decide) rfl) trivial ?_
         refine g_step rfl rfl rfl rfl (e_loadH (v := .sc _) rfl ((hset_ne (key_ne rfl)).trans ((hset_ne (key_ne rfl)).trans (hset_self _ _ _))) (by kernel_rfl) (by kernel_rfl) (by kernel_rfl) (by exact Nat.zero_lt_one) (by decide) rfl) trivial ?_
         refine g_call rfl rfl rfl rfl (.cons inn_sc .nil) (isName _) ?_
         refine g_step rfl rfl rfl rfl (e_not rfl) trivial ?_
         refine g_step rfl rfl rfl rfl (e_pickT (v := .sc _) rfl rfl) trivial ?_
         refine g_step rfl rfl rfl rfl (e_pickF (v := .sc _) rfl rfl) trivial ?_
         refine g_step rfl rfl rfl rfl (e_assign (v := .sc _) rfl) trivial ?_
         refine g_end (ds := [54, 55, 56, 59, 60, 61, 62, 63, 64, 65, 66]) rfl rfl (hK20 _ ?_); clear hK20 K20
         exact seq_norm (hK18 _ ⟨rfl, rfl, rfl, trivial⟩ ⟨(congrArg PV.bool (show ((!(isNm x.platform)) : Bool) = (((decide (x.kind = (3))) && (decide (x.platform ≠ (⟨#[]⟩ : ByteArray)))) || ((!(decide (x.kind = (3)))) && (!(isNm x.platform)))) by first | rfl | ((try rw [hb23R]) <;> (try rw [hb22R]) <;> (try rw [hb21R]) <;> (first | rfl | (simp only [Bool.and_true, Bool.and_false, Bool.true_and, Bool.false_and, Bool.or_true, Bool.or_false, Bool.true_or, Bool.false_or, Bool.not_true, Bool.not_false, if_true, if_false, Bool.false_eq_true, reduceIte] <;> rfl))) | (simp only [hb21R, hb22R, hb23R, Bool.and_true, Bool.and_false, Bool.true_and, Bool.false_and, Bool.or_true, Bool.or_false, Bool.true_or, Bool.false_or, Bool.not_true, Bool.not_false, if_true, if_false, Bool.false_eq_true, reduceIte] <;> rfl))), trivial⟩)
        ·have hb23R := hb23; try simp only [z1, z2, z3, z4, z5, z6, ne_eq, z7, z8, z9, z10, z11, z12] at hb23
         refine g_skip rfl rfl rfl ?_
         refine g_skip rfl rfl rfl ?_
         refine g_nocall rfl rfl rfl ?_
         refine g_skip rfl rfl rfl ?_
         refine g_step rfl rfl rfl rfl (e_pickF (v := .sc _) rfl rfl) trivial ?_
         refine g_step rfl rfl rfl rfl (e_pickF (v := .sc _) rfl rfl) trivial ?_
         refine g_step rfl rfl rfl rfl (e_assign (v := .sc _) rfl) trivial ?_
         refine g_end (ds := [54, 55, 56, 59, 60, 61, 62, 63, 64, 65, 66]) rfl rfl (hK20 _ ?_); clear hK20 K20
         exact seq_norm (hK18 _ ⟨rfl, rfl, rfl, trivial⟩ ⟨(congrArg PV.bool (show (false : Bool) = (((decide (x.kind = (3))) && (decide (x.platform ≠ (⟨#[]⟩ : ByteArray)))) || ((!(decide (x.kind = (3)))) && (!(isNm x.platform)))) by first | rfl | ((try rw [hb23R]) <;> (try rw [hb22R]) <;> (try rw [hb21R]) <;> (first | rfl | (simp only [Bool.and_true, Bool.and_false, Bool.true_and, Bool.false_and, Bool.or_true, Bool.or_false, Bool.true_or, Bool.false_or, Bool.not_true, Bool.not_false, if_true, if_false, Bool.false_eq_true, reduceIte] <;> rfl))) | (simp only [hb21R, hb22R, hb23R, Bool.and_true, Bool.and_false, Bool.true_and, Bool.false_and, Bool.or_true, Bool.or_false, Bool.true_or, Bool.false_or, Bool.not_true, Bool.not_false, if_true, if_false, Bool.false_eq_true, reduceIte] <;> rfl))), trivial⟩)
      ·have hb21R := hb21; try simp only [z1, z2, z3, z4, z5, z6, ne_eq, z7, z8, z9, z10, z11, z12] at hb21
       refine g_skip rfl rfl rfl ?_
       refine g_skip rfl rfl rfl ?_
       refine g_skip rfl rfl rfl ?_
       refine g_step rfl rfl rfl rfl (e_pickF (v := .sc _) rfl rfl) trivial ?_
       refine g_step rfl rfl rfl rfl (e_move (v := .sc _) rfl) trivial ?_
       refine g_step rfl rfl rfl rfl (e_move (v := .sc _) rfl) trivial ?_
       refine g_step rfl rfl rfl rfl (e_not rfl) trivial ?_
       refine g_step rfl rfl rfl rfl (e_move (v := .sc _) rfl) trivial ?_
       refine g_cases (fun hb24 => ?_) (fun hb24 => ?_)
       ·have hb24R := hb24; try simp only [z1, z2, z3, z4, z5, z6, ne_eq, z7, z8, z9, z10, z11, z12] at hb24
        refine g_step rfl rfl rfl rfl (e_faP (pl := [(0, 1, false), (1, 1, false), (2, 1, false), (3, 1, false), (4, 1, false), (5, 1, false)]) rfl (by kernel_rfl) (by kernel_rfl) (by decide) rfl) trivial ?_
        refine g_step rfl rfl rfl rfl (e_loadH (v := .sc _) rfl ((hset_ne (key_ne rfl)).trans ((hset_ne (key_ne rfl)).trans (hset_self _ _ _))) (by kernel_rfl) (by kernel_rfl) (by kernel_rfl) (by exact Nat.zero_lt_one) (by decide) rfl) trivial ?_
        refine g_call rfl rfl rfl rfl (.cons inn_sc .nil) (isName _) ?_
        refine g_step rfl rfl rfl rfl (e_not rfl) trivial ?_
        refine g_step rfl rfl rfl rfl (e_pickT (v := .sc _) rfl rfl) trivial ?_
        refine g_step rfl rfl rfl rfl (e_pickF (v := .sc _) rfl rfl) trivial ?_
        refine g_step rfl rfl rfl rfl (e_assign (v := .sc _) rfl) trivial ?_
        refine g_end (ds := [54, 55, 56, 59, 60, 61, 62, 63, 64, 65, 66]) rfl rfl (hK20 _ ?_); clear hK20 K20
        exact seq_norm (hK18 _ ⟨rfl, rfl, rfl, trivial⟩ ⟨(congrArg PV.bool (show ((!(isNm x.platform)) : Bool) = (((decide (x.kind = (3))) && (decide (x.platform ≠ (⟨#[]⟩ : ByteArray)))) || ((!(decide (x.kind = (3)))) && (!(isNm x.platform)))) by first | rfl | ((try rw [hb24R]) <;> (try rw [hb21R]) <;> (first | rfl | (simp only [Bool.and_true, Bool.and_false, Bool.true_and, Bool.false_and, Bool.or_true, Bool.or_false, Bool.true_or, Bool.false_or, Bool.not_true, Bool.not_false, if_true, if_false, Bool.false_eq_true, reduceIte] <;> rfl))) | (simp only [hb21R, hb24R, Bool.and_true, Bool.and_false, Bool.true_and, Bool.false_and, Bool.or_true, Bool.or_false, Bool.true_or, Bool.false_or, Bool.not_true, Bool.not_false, if_true, if_false, Bool.false_eq_true, reduceIte] <;> rfl))), trivial⟩)
       ·have hb24R := hb24; try simp only [z1, z2, z3, z4, z5, z6, ne_eq, z7, z8, z9, z10, z11, z12] at hb24
        refine g_skip rfl rfl rfl ?_
        refine g_skip rfl rfl rfl ?_
        refine g_nocall rfl rfl rfl ?_
        refine g_skip rfl rfl rfl ?_
        refine g_step rfl rfl rfl rfl (e_pickF (v := .sc _) rfl rfl) trivial ?_
        refine g_step rfl rfl rfl rfl (e_pickF (v := .sc _) rfl rfl) trivial ?_
        refine g_step rfl rfl rfl rfl (e_assign (v := .sc _) rfl) trivial ?_
        refine g_end (ds := [54, 55, 56, 59, 60, 61, 62, 63, 64, 65, 66]) rfl rfl (hK20 _ ?_); clear hK20 K20
        exact seq_norm (hK18 _ ⟨rfl, rfl, rfl, trivial⟩ ⟨(congrArg PV.bool (show (false : Bool) = (((decide (x.kind = (3))) && (decide (x.platform ≠ (⟨#[]⟩ : ByteArray)))) || ((!(decide (x.kind = (3)))) && (!(isNm x.platform)))) by first | rfl | ((try rw [hb24R]) <;> (try rw [hb21R]) <;> (first | rfl | (simp only [Bool.and_true, Bool.and_false, Bool.true_and, Bool.false_and, Bool.or_true, Bool.or_false, Bool.true_or, Bool.false_or, Bool.not_true, Bool.not_false, if_true, if_false, Bool.false_eq_true, reduceIte] <;> rfl))) | (simp only [hb21R, hb24R, Bool.and_true, Bool.and_false, Bool.true_and, Bool.false_and, Bool.or_true, Bool.or_false, Bool.true_or, Bool.false_or, Bool.not_true, Bool.not_false, if_true, if_false, Bool.false_eq_true, reduceIte] <;> rfl))), trivial⟩)
     ·skip
      refine pwp_cond rfl (fun hb25 => ?_) (fun hb25 => ?_)
      ·have hb25R := hb25; try simp only [z1, z2, z3, z4, z5, z6, ne_eq, z7, z8, z9, z10, z11, z12] at hb25
       refine pwp_seq_plain rfl fun K26 hK26 => ?_
       refine p_step rfl (e_assign (v := .sc _) rfl) trivial ?_
       refine p_end (hK26 _ ?_); clear hK26 K26
       refine pwp_ret ?_
       refine ret_block ?_
       refine ret_seq ?_
       refine end1 (v := .sc _) rfl ?_
       first
         | exact evR_bad (by decide) (evE_2 (by unfold badEv; omega)) (fun a b h3 h8 h11 => by simp only [hset_ne (key_ne h3), hset_ne (key_ne h8), hset_ne (key_ne h11)])
         | exact evR_bad (by decide) (evE_10 (by unfold badEv; omega) (by omega)) (fun a b h3 h8 h11 => by simp only [hset_ne (key_ne h3), hset_ne (key_ne h8), hset_ne (key_ne h11)])
         | exact evR_bad (by decide) (evE_4 (by unfold badEv; omega) (by omega) (nm_bad2 (by assumption))) (fun a b h3 h8 h11 => by simp only [hset_ne (key_ne h3), hset_ne (key_ne h8), hset_ne (key_ne h11)])
         | exact evR_bad (by decide) (evE_3 (by unfold badEv; omega) (by omega) (nm_good2 (by assumption)) (fm_bad (by assumption))) (fun a b h3 h8 h11 => by simp only [hset_ne (key_ne h3), hset_ne (key_ne h8), hset_ne (key_ne h11)])
         | exact evR_bad (by decide) (evE_5 (by unfold badEv; omega) (by omega) (nm_good2 (by assumption)) (fm_good (by assumption)) (by assumption)) (fun a b h3 h8 h11 => by simp only [hset_ne (key_ne h3), hset_ne (key_ne h8), hset_ne (key_ne h11)])
         | exact evR_bad (by decide) (evE_6 (by unfold badEv; omega) (by omega) (nm_good2 (by assumption)) (fm_good (by assumption)) (by assumption)) (fun a b h3 h8 h11 => by simp only [hset_ne (key_ne h3), hset_ne (key_ne h8), hset_ne (key_ne h11)])
         | exact evR_good (evE_0 (by unfold badEv; omega) (by omega) (nm_good2 (by assumption)) (fm_good (by assumption)) (by first | assumption | omega) (by first | assumption | omega)) (by rw [opStep, if_pos (by omega)]; exact (MapAt.keep hm ((hset_ne (key_ne rfl)).trans ((hset_ne (key_ne rfl)).trans ((hset_ne (key_ne rfl)).trans (rfl)))))) (fun a b h3 h8 h11 => by simp only [hset_ne (key_ne h3), hset_ne (key_ne h8), hset_ne (key_ne h11)])
         | exact evR_good (evE_0 (by unfold badEv; omega) (by omega) (nm_good2 (by assumption)) (fm_good (by assumption)) (by first | assumption | omega) (by first | assumption | omega)) (by rw [opStep, if_neg (by omega), if_pos (by omega)]; exact (MapAt.keep hm ((hset_ne (key_ne rfl)).trans ((hset_ne (key_ne rfl)).trans ((hset_ne (key_ne rfl)).trans (rfl)))))) (fun a b h3 h8 h11 => by simp only [hset_ne (key_ne h3), hset_ne (key_ne h8), hset_ne (key_ne h11)])
         | exact evR_good (evE_0 (by unfold badEv; omega) (by omega) (nm_good2 (by assumption)) (fm_good (by assumption)) (by first | assumption | omega) (by first | assumption | omega)) (by rw [opStep, if_neg (by omega), if_neg (by omega)]; exact (MapAt.keep hm ((hset_ne (key_ne rfl)).trans ((hset_ne (key_ne rfl)).trans ((hset_ne (key_ne rfl)).trans (rfl)))))) (fun a b h3 h8 h11 => by simp only [hset_ne (key_ne h3), hset_ne (key_ne h8), hset_ne (key_ne h11)])
      ·have hb25R := hb25; try simp only [z1, z2, z3, z4, z5, z6, ne_eq, z7, z8, z9, z10, z11, z12] at hb25
       refine pwp_seq_gops rfl fun K27 hK27 => ?_
       refine g_begin ?_
       refine g_step rfl rfl rfl rfl (e_loadHA (n := 6) rfl ((hset_ne (key_ne rfl)).trans ((hset_ne (key_ne rfl)).trans (hset_self _ _ _))) (by kernel_rfl) (by kernel_rfl) (by kernel_rfl) (by exact Nat.zero_lt_one) (by decide) rfl) trivial ?_
       refine g_call rfl rfl rfl rfl (.cons (inn_agg (Ev.pure _)) .nil) (bare _) ?_
       refine g_step rfl rfl rfl rfl (e_faP (pl := [(0, 1, false), (1, 1, false), (2, 1, false), (3, 1, false), (4, 1, false), (5, 1, false)]) rfl (by kernel_rfl) (by kernel_rfl) (by decide) rfl) trivial ?_
       refine g_step rfl rfl rfl rfl (e_loadH (v := .sc _) rfl ((hset_ne (key_ne rfl)).trans ((hset_ne (key_ne rfl)).trans (hset_self _ _ _))) (by kernel_rfl) (by kernel_rfl) (by kernel_rfl) (by exact Nat.zero_lt_one) (by decide) rfl) trivial ?_
       refine g_step rfl rfl rfl rfl (e_faP (pl := [(0, 1, false), (1, 1, false), (2, 1, false), (3, 1, false), (4, 1, false), (5, 1, false)]) rfl (by kernel_rfl) (by kernel_rfl) (by decide) rfl) trivial ?_
       refine g_step rfl rfl rfl rfl (e_loadH (v := .sc _) rfl ((hset_ne (key_ne rfl)).trans ((hset_ne (key_ne rfl)).trans (hset_self _ _ _))) (by kernel_rfl) (by kernel_rfl) (by kernel_rfl) (by exact Nat.zero_lt_one) (by decide) rfl) trivial ?_
       refine g_step rfl rfl rfl rfl (e_faP (pl := [(0, 1, false), (1, 1, false), (2, 1, false), (3, 1, false), (4, 1, false), (5, 1, false)]) rfl (by kernel_rfl) (by kernel_rfl) (by decide) rfl) trivial ?_
       refine g_step rfl rfl rfl rfl (e_loadH (v := .sc _) rfl ((hset_ne (key_ne rfl)).trans ((hset_ne (key_ne rfl)).trans (hset_self _ _ _))) (by kernel_rfl) (by kernel_rfl) (by kernel_rfl) (by exact Nat.zero_lt_one) (by decide) rfl) trivial ?_
       refine g_step rfl rfl rfl rfl (e_build (zs := [.int 0, .int 0, .str ByteArray.empty, .int 0, .bool false, .bool false]) (pl := [(0, 1, false), (1, 1, false), (2, 1, false), (3, 1, false), (4, 1, false), (5, 1, false)]) (by kernel_rfl) (by kernel_rfl) (by kernel_rfl) rfl rfl (by exact ⟨by decide, rfl, Nat.le_of_ble_eq_true rfl, rfl, ⟨by decide, rfl, Nat.le_of_ble_eq_true rfl, rfl, ⟨by decide, rfl, Nat.le_of_ble_eq_true rfl, rfl, trivial⟩⟩⟩) rfl) trivial ?_
       refine g_step rfl rfl rfl rfl (e_ane rfl rfl (by kernel_rfl) (eqOk_Ev ((bareEv x)) ((⟨x.day, x.kind, x.platform, 0, false, false⟩ : Ev))) (eqV_Ev ((bareEv x)) ((⟨x.day, x.kind, x.platform, 0, false, false⟩ : Ev)))) trivial ?_
       refine g_step rfl rfl rfl rfl (e_assign (v := .sc _) rfl) trivial ?_
       refine g_end (ds := []) (by kernel_rfl) rfl (hK27 _ ?_); clear hK27 K27
       refine pwp_cond rfl (fun hb28 => ?_) (fun hb28 => ?_)
       ·have hb28R := hb28; try simp only [z1, z2, z3, z4, z5, z6, ne_eq, z7, z8, z9, z10, z11, z12] at hb28
        refine pwp_seq_plain rfl fun K29 hK29 => ?_
        refine p_step rfl (e_assign (v := .sc _) rfl) trivial ?_
        refine p_end (hK29 _ ?_); clear hK29 K29
        refine pwp_ret ?_
        refine ret_block ?_
        refine ret_seq ?_
        refine end1 (v := .sc _) rfl ?_
        first
          | exact evR_bad (by decide) (evE_2 (by unfold badEv; omega)) (fun a b h3 h8 h11 => by simp only [hset_ne (key_ne h3), hset_ne (key_ne h8), hset_ne (key_ne h11)])
          | exact evR_bad (by decide) (evE_10 (by unfold badEv; omega) (by omega)) (fun a b h3 h8 h11 => by simp only [hset_ne (key_ne h3), hset_ne (key_ne h8), hset_ne (key_ne h11)])
          | exact evR_bad (by decide) (evE_4 (by unfold badEv; omega) (by omega) (nm_bad2 (by assumption))) (fun a b h3 h8 h11 => by simp only [hset_ne (key_ne h3), hset_ne (key_ne h8), hset_ne (key_ne h11)])
          | exact evR_bad (by decide) (evE_3 (by unfold badEv; omega) (by omega) (nm_good2 (by assumption)) (fm_bad (by assumption))) (fun a b h3 h8 h11 => by simp only [hset_ne (key_ne h3), hset_ne (key_ne h8), hset_ne (key_ne h11)])
          | exact evR_bad (by decide) (evE_5 (by unfold badEv; omega) (by omega) (nm_good2 (by assumption)) (fm_good (by assumption)) (by assumption)) (fun a b h3 h8 h11 => by simp only [hset_ne (key_ne h3), hset_ne (key_ne h8), hset_ne (key_ne h11)])
          | exact evR_bad (by decide) (evE_6 (by unfold badEv; omega) (by omega) (nm_good2 (by assumption)) (fm_good (by assumption)) (by assumption)) (fun a b h3 h8 h11 => by simp only [hset_ne (key_ne h3), hset_ne (key_ne h8), hset_ne (key_ne h11)])
          | exact evR_good (evE_0 (by unfold badEv; omega) (by omega) (nm_good2 (by assumption)) (fm_good (by assumption)) (by first | assumption | omega) (by first | assumption | omega)) (by rw [opStep, if_pos (by omega)]; exact (MapAt.keep hm ((hset_ne (key_ne rfl)).trans ((hset_ne (key_ne rfl)).trans ((hset_ne (key_ne rfl)).trans (rfl)))))) (fun a b h3 h8 h11 => by simp only [hset_ne (key_ne h3), hset_ne (key_ne h8), hset_ne (key_ne h11)])
          | exact evR_good (evE_0 (by unfold badEv; omega) (by omega) (nm_good2 (by assumption)) (fm_good (by assumption)) (by first | assumption | omega) (by first | assumption | omega)) (by rw [opStep, if_neg (by omega), if_pos (by omega)]; exact (MapAt.keep hm ((hset_ne (key_ne rfl)).trans ((hset_ne (key_ne rfl)).trans ((hset_ne (key_ne rfl)).trans (rfl)))))) (fun a b h3 h8 h11 => by simp only [hset_ne (key_ne h3), hset_ne (key_ne h8), hset_ne (key_ne h11)])
          | exact evR_good (evE_0 (by unfold badEv; omega) (by omega) (nm_good2 (by assumption)) (fm_good (by assumption)) (by first | assumption | omega) (by first | assumption | omega)) (by rw [opStep, if_neg (by omega), if_neg (by omega)]; exact (MapAt.keep hm ((hset_ne (key_ne rfl)).trans ((hset_ne (key_ne rfl)).trans ((hset_ne (key_ne rfl)).trans (rfl)))))) (fun a b h3 h8 h11 => by simp only [hset_ne (key_ne h3), hset_ne (key_ne h8), hset_ne (key_ne h11)])
       ·have hb28R := hb28; try simp only [z1, z2, z3, z4, z5, z6, ne_eq, z7, z8, z9, z10, z11, z12] at hb28
        refine pwp_seq_cutG [2, 3, 8] [(79, .bool ((decide (x.kind = (4))) && ((aGet (x.platform, x.number) st).getD false)))] (fun K30 hK30 => ?_) (fun r31 => ?_)
        ·skip
         refine pwp_gops rfl fun K32 hK32 => ?_
         refine g_begin ?_
         refine g_step rfl rfl rfl rfl (e_faP (pl := [(0, 1, false), (1, 1, false), (2, 1, false), (3, 1, false), (4, 1, false), (5, 1, false)]) rfl (by kernel_rfl) (by kernel_rfl) (by decide) rfl) trivial ?_
         refine g_step rfl rfl rfl rfl (e_loadH (v := .sc _) rfl ((hset_ne (key_ne rfl)).trans ((hset_ne (key_ne rfl)).trans (hset_self _ _ _))) (by kernel_rfl) (by kernel_rfl) (by kernel_rfl) (by exact Nat.zero_lt_one) (by decide) rfl) trivial ?_
         refine g_step rfl rfl rfl rfl (e_eq rfl rfl) trivial ?_
         refine g_step rfl rfl rfl rfl (e_move (v := .sc _) rfl) trivial ?_
         refine g_cases (fun hb33 => ?_) (fun hb33 => ?_)
         ·have hb33R := hb33; try simp only [z1, z2, z3, z4, z5, z6, ne_eq, z7, z8, z9, z10, z11, z12] at hb33
          refine g_step rfl rfl rfl rfl (e_move (v := .map _) rfl) trivial ?_
          refine g_step rfl rfl rfl rfl (e_loadHA (n := 2) rfl (hset_self _ _ _) (by kernel_rfl) (by kernel_rfl) (by kernel_rfl) (by exact Nat.zero_lt_one) (by decide) rfl) trivial ?_
          refine g_step rfl rfl rfl rfl (e_look (kt := 159) (et := 4) (f := kpv) (g := PV.bool) (a := (x.platform, x.number)) (l := st) (z := false) kpv_eq kpv_ok rfl rfl (MapAt.keep hm ((hset_ne (key_ne rfl)).trans ((hset_ne (key_ne rfl)).trans ((hset_ne (key_ne rfl)).trans (rfl))))) (by kernel_rfl) (by kernel_rfl) (by first | rfl | kernel_rfl)) trivial ?_
          refine g_step rfl rfl rfl rfl (e_pickT (v := .sc _) rfl rfl) trivial ?_
          refine g_step rfl rfl rfl rfl (e_assign (v := .sc _) rfl) trivial ?_
          refine g_end (ds := [84, 85, 86]) rfl rfl (hK32 _ ?_); clear hK32 K32
          exact seq_norm (hK30 _ ⟨rfl, rfl, rfl, trivial⟩ ⟨(congrArg PV.bool (show (((aGet (x.platform, x.number) st).getD false) : Bool) = ((decide (x.kind = (4))) && ((aGet (x.platform, x.number) st).getD false)) by first | rfl | ((try rw [hb33R]) <;> (first | rfl | (simp only [Bool.and_true, Bool.and_false, Bool.true_and, Bool.false_and, Bool.or_true, Bool.or_false, Bool.true_or, Bool.false_or, Bool.not_true, Bool.not_false, if_true, if_false, Bool.false_eq_true, reduceIte] <;> rfl))) | (simp only [hb33R, Bool.and_true, Bool.and_false, Bool.true_and, Bool.false_and, Bool.or_true, Bool.or_false, Bool.true_or, Bool.false_or, Bool.not_true, Bool.not_false, if_true, if_false, Bool.false_eq_true, reduceIte] <;> rfl))), trivial⟩)
         ·have hb33R := hb33; try simp only [z1, z2, z3, z4, z5, z6, ne_eq, z7, z8, z9, z10, z11, z12] at hb33
          refine g_skip rfl rfl rfl ?_
          refine g_skip rfl rfl rfl ?_
          refine g_skip rfl rfl rfl ?_
          refine g_step rfl rfl rfl rfl (e_pickF (v := .sc _) rfl rfl) trivial ?_
          refine g_step rfl rfl rfl rfl (e_assign (v := .sc _) rfl) trivial ?_
          refine g_end (ds := [84, 85, 86]) rfl rfl (hK32 _ ?_); clear hK32 K32
          exact seq_norm (hK30 _ ⟨rfl, rfl, rfl, trivial⟩ ⟨(congrArg PV.bool (show (false : Bool) = ((decide (x.kind = (4))) && ((aGet (x.platform, x.number) st).getD false)) by first | rfl | ((try rw [hb33R]) <;> (first | rfl | (simp only [Bool.and_true, Bool.and_false, Bool.true_and, Bool.false_and, Bool.or_true, Bool.or_false, Bool.true_or, Bool.false_or, Bool.not_true, Bool.not_false, if_true, if_false, Bool.false_eq_true, reduceIte] <;> rfl))) | (simp only [hb33R, Bool.and_true, Bool.and_false, Bool.true_and, Bool.false_and, Bool.or_true, Bool.or_false, Bool.true_or, Bool.false_or, Bool.not_true, Bool.not_false, if_true, if_false, Bool.false_eq_true, reduceIte] <;> rfl))), trivial⟩)
        ·skip
         refine pwp_cond rfl (fun hb34 => ?_) (fun hb34 => ?_)
         ·have hb34R := hb34; try simp only [z1, z2, z3, z4, z5, z6, ne_eq, z7, z8, z9, z10, z11, z12] at hb34
          refine pwp_seq_plain rfl fun K35 hK35 => ?_
          refine p_step rfl (e_assign (v := .sc _) rfl) trivial ?_
          refine p_end (hK35 _ ?_); clear hK35 K35
          refine pwp_ret ?_
          refine ret_block ?_
          refine ret_seq ?_
          refine end1 (v := .sc _) rfl ?_
          first
            | exact evR_bad (by decide) (evE_2 (by unfold badEv; omega)) (fun a b h3 h8 h11 => by simp only [hset_ne (key_ne h3), hset_ne (key_ne h8), hset_ne (key_ne h11)])
            | exact evR_bad (by decide) (evE_10 (by unfold badEv; omega) (by omega)) (fun a b h3 h8 h11 => by simp only [hset_ne (key_ne h3), hset_ne (key_ne h8), hset_ne (key_ne h11)])
            | exact evR_bad (by decide) (evE_4 (by unfold badEv; omega) (by omega) (nm_bad2 (by assumption))) (fun a b h3 h8 h11 => by simp only [hset_ne (key_ne h3), hset_ne (key_ne h8), hset_ne (key_ne h11)])
            | exact evR_bad (by decide) (evE_3 (by unfold badEv; omega) (by omega) (nm_good2 (by assumption)) (fm_bad (by assumption))) (fun a b h3 h8 h11 => by simp only [hset_ne (key_ne h3), hset_ne (key_ne h8), hset_ne (key_ne h11)])
            | exact evR_bad (by decide) (evE_5 (by unfold badEv; omega) (by omega) (nm_good2 (by assumption)) (fm_good (by assumption)) (by assumption)) (fun a b h3 h8 h11 => by simp only [hset_ne (key_ne h3), hset_ne (key_ne h8), hset_ne (key_ne h11)])
            | exact evR_bad (by decide) (evE_6 (by unfold badEv; omega) (by omega) (nm_good2 (by assumption)) (fm_good (by assumption)) (by assumption)) (fun a b h3 h8 h11 => by simp only [hset_ne (key_ne h3), hset_ne (key_ne h8), hset_ne (key_ne h11)])
            | exact evR_good (evE_0 (by unfold badEv; omega) (by omega) (nm_good2 (by assumption)) (fm_good (by assumption)) (by first | assumption | omega) (by first | assumption | omega)) (by rw [opStep, if_pos (by omega)]; exact (MapAt.keep hm ((hset_ne (key_ne rfl)).trans ((hset_ne (key_ne rfl)).trans ((hset_ne (key_ne rfl)).trans (rfl)))))) (fun a b h3 h8 h11 => by simp only [hset_ne (key_ne h3), hset_ne (key_ne h8), hset_ne (key_ne h11)])
            | exact evR_good (evE_0 (by unfold badEv; omega) (by omega) (nm_good2 (by assumption)) (fm_good (by assumption)) (by first | assumption | omega) (by first | assumption | omega)) (by rw [opStep, if_neg (by omega), if_pos (by omega)]; exact (MapAt.keep hm ((hset_ne (key_ne rfl)).trans ((hset_ne (key_ne rfl)).trans ((hset_ne (key_ne rfl)).trans (rfl)))))) (fun a b h3 h8 h11 => by simp only [hset_ne (key_ne h3), hset_ne (key_ne h8), hset_ne (key_ne h11)])
            | exact evR_good (evE_0 (by unfold badEv; omega) (by omega) (nm_good2 (by assumption)) (fm_good (by assumption)) (by first | assumption | omega) (by first | assumption | omega)) (by rw [opStep, if_neg (by omega), if_neg (by omega)]; exact (MapAt.keep hm ((hset_ne (key_ne rfl)).trans ((hset_ne (key_ne rfl)).trans ((hset_ne (key_ne rfl)).trans (rfl)))))) (fun a b h3 h8 h11 => by simp only [hset_ne (key_ne h3), hset_ne (key_ne h8), hset_ne (key_ne h11)])
         ·have hb34R := hb34; try simp only [z1, z2, z3, z4, z5, z6, ne_eq, z7, z8, z9, z10, z11, z12] at hb34
          refine pwp_seq_cutG [2, 3, 8] [(88, .bool ((decide (x.kind = (5))) && (!((aGet (x.platform, x.number) st).getD false))))] (fun K36 hK36 => ?_) (fun r37 => ?_)
          ·skip
           refine pwp_gops rfl fun K38 hK38 => ?_
           refine g_begin ?_
           refine g_step rfl rfl rfl rfl (e_faP (pl := [(0, 1, false), (1, 1, false), (2, 1, false), (3, 1, false), (4, 1, false), (5, 1, false)]) rfl (by kernel_rfl) (by kernel_rfl) (by decide) rfl) trivial ?_
           refine g_step rfl rfl rfl rfl (e_loadH (v := .sc _) rfl ((hset_ne (key_ne rfl)).trans ((hset_ne (key_ne rfl)).trans (hset_self _ _ _))) (by kernel_rfl) (by kernel_rfl) (by kernel_rfl) (by exact Nat.zero_lt_one) (by decide) rfl) trivial ?_
           refine g_step rfl rfl rfl rfl (e_eq rfl rfl) trivial ?_
           refine g_step rfl rfl rfl rfl (e_move (v := .sc _) rfl) trivial ?_
           refine g_cases (fun hb39 => ?_) (fun hb39 => ?_)
           ·have hb39R := hb39; try simp only [z1, z2, z3, z4, z5, z6, ne_eq, z7, z8, z9, z10, z11, z12] at hb39
            refine g_step rfl rfl rfl rfl (e_move (v := .map _) rfl) trivial ?_
            refine g_step rfl rfl rfl rfl (e_loadHA (n := 2) rfl (hset_self _ _ _) (by kernel_rfl) (by kernel_rfl) (by kernel_rfl) (by exact Nat.zero_lt_one) (by decide) rfl) trivial ?_
            refine g_step rfl rfl rfl rfl (e_look (kt := 159) (et := 4) (f := kpv) (g := PV.bool) (a := (x.platform, x.number)) (l := st) (z := false) kpv_eq kpv_ok rfl rfl (MapAt.keep hm ((hset_ne (key_ne rfl)).trans ((hset_ne (key_ne rfl)).trans ((hset_ne (key_ne rfl)).trans (rfl))))) (by kernel_rfl) (by kernel_rfl) (by first | rfl | kernel_rfl)) trivial ?_
            refine g_step rfl rfl rfl rfl (e_not rfl) trivial ?_
            refine g_step rfl rfl rfl rfl (e_pickT (v := .sc _) rfl rfl) trivial ?_
            refine g_step rfl rfl rfl rfl (e_assign (v := .sc _) rfl) trivial ?_
            refine g_end (ds := [93, 94, 95, 96]) rfl rfl (hK38 _ ?_); clear hK38 K38
            exact seq_norm (hK36 _ ⟨rfl, rfl, rfl, trivial⟩ ⟨(congrArg PV.bool (show ((!((aGet (x.platform, x.number) st).getD false)) : Bool) = ((decide (x.kind = (5))) && (!((aGet (x.platform, x.number) st).getD false))) by first | rfl | ((try rw [hb39R]) <;> (first | rfl | (simp only [Bool.and_true, Bool.and_false, Bool.true_and, Bool.false_and, Bool.or_true, Bool.or_false, Bool.true_or, Bool.false_or, Bool.not_true, Bool.not_false, if_true, if_false, Bool.false_eq_true, reduceIte] <;> rfl))) | (simp only [hb39R, Bool.and_true, Bool.and_false, Bool.true_and, Bool.false_and, Bool.or_true, Bool.or_false, Bool.true_or, Bool.false_or, Bool.not_true, Bool.not_false, if_true, if_false, Bool.false_eq_true, reduceIte] <;> rfl))), trivial⟩)
           ·have hb39R := hb39; try simp only [z1, z2, z3, z4, z5, z6, ne_eq, z7, z8, z9, z10, z11, z12] at hb39
            refine g_skip rfl rfl rfl ?_
            refine g_skip rfl rfl rfl ?_
            refine g_skip rfl rfl rfl ?_
            refine g_skip rfl rfl rfl ?_
            refine g_step rfl rfl rfl rfl (e_pickF (v := .sc _) rfl rfl) trivial ?_
            refine g_step rfl rfl rfl rfl (e_assign (v := .sc _) rfl) trivial ?_
            refine g_end (ds := [93, 94, 95, 96]) rfl rfl (hK38 _ ?_); clear hK38 K38
            exact seq_norm (hK36 _ ⟨rfl, rfl, rfl, trivial⟩ ⟨(congrArg PV.bool (show (false : Bool) = ((decide (x.kind = (5))) && (!((aGet (x.platform, x.number) st).getD false))) by first | rfl | ((try rw [hb39R]) <;> (first | rfl | (simp only [Bool.and_true, Bool.and_false, Bool.true_and, Bool.false_and, Bool.or_true, Bool.or_false, Bool.true_or, Bool.false_or, Bool.not_true, Bool.not_false, if_true, if_false, Bool.false_eq_true, reduceIte] <;> rfl))) | (simp only [hb39R, Bool.and_true, Bool.and_false, Bool.true_and, Bool.false_and, Bool.or_true, Bool.or_false, Bool.true_or, Bool.false_or, Bool.not_true, Bool.not_false, if_true, if_false, Bool.false_eq_true, reduceIte] <;> rfl))), trivial⟩)
          ·skip
           refine pwp_cond rfl (fun hb40 => ?_) (fun hb40 => ?_)
           ·have hb40R := hb40; try simp only [z1, z2, z3, z4, z5, z6, ne_eq, z7, z8, z9, z10, z11, z12] at hb40
            refine pwp_seq_plain rfl fun K41 hK41 => ?_
            refine p_step rfl (e_assign (v := .sc _) rfl) trivial ?_
            refine p_end (hK41 _ ?_); clear hK41 K41
            refine pwp_ret ?_
            refine ret_block ?_
            refine ret_seq ?_
            refine end1 (v := .sc _) rfl ?_
            first
              | exact evR_bad (by decide) (evE_2 (by unfold badEv; omega)) (fun a b h3 h8 h11 => by simp only [hset_ne (key_ne h3), hset_ne (key_ne h8), hset_ne (key_ne h11)])
              | exact evR_bad (by decide) (evE_10 (by unfold badEv; omega) (by omega)) (fun a b h3 h8 h11 => by simp only [hset_ne (key_ne h3), hset_ne (key_ne h8), hset_ne (key_ne h11)])
              | exact evR_bad (by decide) (evE_4 (by unfold badEv; omega) (by omega) (nm_bad2 (by assumption))) (fun a b h3 h8 h11 => by simp only [hset_ne (key_ne h3), hset_ne (key_ne h8), hset_ne (key_ne h11)])
              | exact evR_bad (by decide) (evE_3 (by unfold badEv; omega) (by omega) (nm_good2 (by assumption)) (fm_bad (by assumption))) (fun a b h3 h8 h11 => by simp only [hset_ne (key_ne h3), hset_ne (key_ne h8), hset_ne (key_ne h11)])
              | exact evR_bad (by decide) (evE_5 (by unfold badEv; omega) (by omega) (nm_good2 (by assumption)) (fm_good (by assumption)) (by assumption)) (fun a b h3 h8 h11 => by simp only [hset_ne (key_ne h3), hset_ne (key_ne h8), hset_ne (key_ne h11)])
              | exact evR_bad (by decide) (evE_6 (by unfold badEv; omega) (by omega) (nm_good2 (by assumption)) (fm_good (by assumption)) (by assumption)) (fun a b h3 h8 h11 => by simp only [hset_ne (key_ne h3), hset_ne (key_ne h8), hset_ne (key_ne h11)])
              | exact evR_good (evE_0 (by unfold badEv; omega) (by omega) (nm_good2 (by assumption)) (fm_good (by assumption)) (by first | assumption | omega) (by first | assumption | omega)) (by rw [opStep, if_pos (by omega)]; exact (MapAt.keep hm ((hset_ne (key_ne rfl)).trans ((hset_ne (key_ne rfl)).trans ((hset_ne (key_ne rfl)).trans (rfl)))))) (fun a b h3 h8 h11 => by simp only [hset_ne (key_ne h3), hset_ne (key_ne h8), hset_ne (key_ne h11)])
              | exact evR_good (evE_0 (by unfold badEv; omega) (by omega) (nm_good2 (by assumption)) (fm_good (by assumption)) (by first | assumption | omega) (by first | assumption | omega)) (by rw [opStep, if_neg (by omega), if_pos (by omega)]; exact (MapAt.keep hm ((hset_ne (key_ne rfl)).trans ((hset_ne (key_ne rfl)).trans ((hset_ne (key_ne rfl)).trans (rfl)))))) (fun a b h3 h8 h11 => by simp only [hset_ne (key_ne h3), hset_ne (key_ne h8), hset_ne (key_ne h11)])
              | exact evR_good (evE_0 (by unfold badEv; omega) (by omega) (nm_good2 (by assumption)) (fm_good (by assumption)) (by first | assumption | omega) (by first | assumption | omega)) (by rw [opStep, if_neg (by omega), if_neg (by omega)]; exact (MapAt.keep hm ((hset_ne (key_ne rfl)).trans ((hset_ne (key_ne rfl)).trans ((hset_ne (key_ne rfl)).trans (rfl)))))) (fun a b h3 h8 h11 => by simp only [hset_ne (key_ne h3), hset_ne (key_ne h8), hset_ne (key_ne h11)])
           ·have hb40R := hb40; try simp only [z1, z2, z3, z4, z5, z6, ne_eq, z7, z8, z9, z10, z11, z12] at hb40
            refine pwp_skip ?_
            refine block_norm ?_
            refine seq_norm (hK4 _ ?_); clear hK4 K4
            refine pwp_seq_seq ?_
            refine pwp_seq_plain rfl fun K42 hK42 => ?_
            refine p_step rfl (e_faP (pl := [(0, 1, false), (1, 1, false), (2, 1, false), (3, 1, false), (4, 1, false), (5, 1, false)]) rfl (by kernel_rfl) (by kernel_rfl) (by decide) rfl) trivial ?_
            refine p_step rfl (e_loadH (v := .sc _) rfl ((hset_ne (key_ne rfl)).trans ((hset_ne (key_ne rfl)).trans (hset_self _ _ _))) (by kernel_rfl) (by kernel_rfl) (by kernel_rfl) (by exact Nat.zero_lt_one) (by decide) rfl) trivial ?_
            refine p_end (hK42 _ ?_); clear hK42 K42
            refine pwp_seq_block fun K43 hK43 => ?_
            refine pwp_seq_plain rfl fun K44 hK44 => ?_
            refine p_step rfl (e_eq rfl rfl) trivial ?_
            refine p_step rfl (e_assign (v := .sc _) rfl) trivial ?_
            refine p_end (hK44 _ ?_); clear hK44 K44
            refine pwp_cond rfl (fun hb45 => ?_) (fun hb45 => ?_)
            ·have hb45R := hb45; try simp only [z1, z2, z3, z4, z5, z6, ne_eq, z7, z8, z9, z10, z11, z12] at hb45
             refine pwp_plain rfl fun K46 hK46 => ?_
             refine p_step rfl (e_move (v := .map _) rfl) trivial ?_
             refine p_step rfl (e_loadHA (n := 2) rfl (hset_self _ _ _) (by kernel_rfl) (by kernel_rfl) (by kernel_rfl) (by exact Nat.zero_lt_one) (by decide) rfl) trivial ?_
             refine p_store rfl (e_mset (kt := 159) (et := 4) (f := kpv) (g := PV.bool) (a := (x.platform, x.number)) (b := true) (l := st) kpv_eq kpv_ok rfl rfl rfl rfl (MapAt.keep hm ((hset_ne (key_ne rfl)).trans ((hset_ne (key_ne rfl)).trans ((hset_ne (key_ne rfl)).trans (rfl))))) (by kernel_rfl)) trivial ?_
             refine p_end (hK46 _ ?_); clear hK46 K46
             refine block_norm ?_
             refine seq_norm (hK43 _ ?_); clear hK43 K43
             refine pwp_seq_plain rfl fun K47 hK47 => ?_
             refine p_step rfl (e_assign (v := .sc _) rfl) trivial ?_
             refine p_end (hK47 _ ?_); clear hK47 K47
             refine pwp_ret ?_
             refine end1 (v := .sc _) rfl ?_
             first
               | exact evR_bad (by decide) (evE_2 (by unfold badEv; omega)) (fun a b h3 h8 h11 => by simp only [hset_ne (key_ne h3), hset_ne (key_ne h8), hset_ne (key_ne h11)])
               | exact evR_bad (by decide) (evE_10 (by unfold badEv; omega) (by omega)) (fun a b h3 h8 h11 => by simp only [hset_ne (key_ne h3), hset_ne (key_ne h8), hset_ne (key_ne h11)])
               | exact evR_bad (by decide) (evE_4 (by unfold badEv; omega) (by omega) (nm_bad2 (by assumption))) (fun a b h3 h8 h11 => by simp only [hset_ne (key_ne h3), hset_ne (key_ne h8), hset_ne (key_ne h11)])
               | exact evR_bad (by decide) (evE_3 (by unfold badEv; omega) (by omega) (nm_good2 (by assumption)) (fm_bad (by assumption))) (fun a b h3 h8 h11 => by simp only [hset_ne (key_ne h3), hset_ne (key_ne h8), hset_ne (key_ne h11)])
               | exact evR_bad (by decide) (evE_5 (by unfold badEv; omega) (by omega) (nm_good2 (by assumption)) (fm_good (by assumption)) (by assumption)) (fun a b h3 h8 h11 => by simp only [hset_ne (key_ne h3), hset_ne (key_ne h8), hset_ne (key_ne h11)])
               | exact evR_bad (by decide) (evE_6 (by unfold badEv; omega) (by omega) (nm_good2 (by assumption)) (fm_good (by assumption)) (by assumption)) (fun a b h3 h8 h11 => by simp only [hset_ne (key_ne h3), hset_ne (key_ne h8), hset_ne (key_ne h11)])
               | exact evR_good (evE_0 (by unfold badEv; omega) (by omega) (nm_good2 (by assumption)) (fm_good (by assumption)) (by first | assumption | omega) (by first | assumption | omega)) (by rw [opStep, if_pos (by omega)]; exact (MapAt.set kpv_eq (MapAt.keep hm ((hset_ne (key_ne rfl)).trans ((hset_ne (key_ne rfl)).trans ((hset_ne (key_ne rfl)).trans (rfl))))) (x.platform, x.number) true)) (fun a b h3 h8 h11 => by simp only [hset_ne (key_ne h3), hset_ne (key_ne h8), hset_ne (key_ne h11)])
               | exact evR_good (evE_0 (by unfold badEv; omega) (by omega) (nm_good2 (by assumption)) (fm_good (by assumption)) (by first | assumption | omega) (by first | assumption | omega)) (by rw [opStep, if_neg (by omega), if_pos (by omega)]; exact (MapAt.set kpv_eq (MapAt.keep hm ((hset_ne (key_ne rfl)).trans ((hset_ne (key_ne rfl)).trans ((hset_ne (key_ne rfl)).trans (rfl))))) (x.platform, x.number) true)) (fun a b h3 h8 h11 => by simp only [hset_ne (key_ne h3), hset_ne (key_ne h8), hset_ne (key_ne h11)])
               | exact evR_good (evE_0 (by unfold badEv; omega) (by omega) (nm_good2 (by assumption)) (fm_good (by assumption)) (by first | assumption | omega) (by first | assumption | omega)) (by rw [opStep, if_neg (by omega), if_neg (by omega)]; exact (MapAt.set kpv_eq (MapAt.keep hm ((hset_ne (key_ne rfl)).trans ((hset_ne (key_ne rfl)).trans ((hset_ne (key_ne rfl)).trans (rfl))))) (x.platform, x.number) true)) (fun a b h3 h8 h11 => by simp only [hset_ne (key_ne h3), hset_ne (key_ne h8), hset_ne (key_ne h11)])
            ·have hb45R := hb45; try simp only [z1, z2, z3, z4, z5, z6, ne_eq, z7, z8, z9, z10, z11, z12] at hb45
             refine pwp_seq_plain rfl fun K48 hK48 => ?_
             refine p_step rfl (e_eq rfl rfl) trivial ?_
             refine p_step rfl (e_assign (v := .sc _) rfl) trivial ?_
             refine p_end (hK48 _ ?_); clear hK48 K48
             refine pwp_cond rfl (fun hb49 => ?_) (fun hb49 => ?_)
             ·have hb49R := hb49; try simp only [z1, z2, z3, z4, z5, z6, ne_eq, z7, z8, z9, z10, z11, z12] at hb49
              refine pwp_plain rfl fun K50 hK50 => ?_
              refine p_step rfl (e_move (v := .map _) rfl) trivial ?_
              refine p_step rfl (e_loadHA (n := 2) rfl (hset_self _ _ _) (by kernel_rfl) (by kernel_rfl) (by kernel_rfl) (by exact Nat.zero_lt_one) (by decide) rfl) trivial ?_
              refine p_store rfl (e_mdel (kt := 159) (et := 4) (f := kpv) (g := PV.bool) (a := (x.platform, x.number)) (l := st) kpv_eq kpv_ok rfl rfl (MapAt.keep hm ((hset_ne (key_ne rfl)).trans ((hset_ne (key_ne rfl)).trans ((hset_ne (key_ne rfl)).trans (rfl))))) (by kernel_rfl) rfl) trivial ?_
              refine p_end (hK50 _ ?_); clear hK50 K50
              refine block_norm ?_
              refine seq_norm (hK43 _ ?_); clear hK43 K43
              refine pwp_seq_plain rfl fun K51 hK51 => ?_
              refine p_step rfl (e_assign (v := .sc _) rfl) trivial ?_
              refine p_end (hK51 _ ?_); clear hK51 K51
              refine pwp_ret ?_
              refine end1 (v := .sc _) rfl ?_
              first
                | exact evR_bad (by decide) (evE_2 (by unfold badEv; omega)) (fun a b h3 h8 h11 => by simp only [hset_ne (key_ne h3), hset_ne (key_ne h8), hset_ne (key_ne h11)])
                | exact evR_bad (by decide) (evE_10 (by unfold badEv; omega) (by omega)) (fun a b h3 h8 h11 => by simp only [hset_ne (key_ne h3), hset_ne (key_ne h8), hset_ne (key_ne h11)])
                | exact evR_bad (by decide) (evE_4 (by unfold badEv; omega) (by omega) (nm_bad2 (by assumption))) (fun a b h3 h8 h11 => by simp only [hset_ne (key_ne h3), hset_ne (key_ne h8), hset_ne (key_ne h11)])
                | exact evR_bad (by decide) (evE_3 (by unfold badEv; omega) (by omega) (nm_good2 (by assumption)) (fm_bad (by assumption))) (fun a b h3 h8 h11 => by simp only [hset_ne (key_ne h3), hset_ne (key_ne h8), hset_ne (key_ne h11)])
                | exact evR_bad (by decide) (evE_5 (by unfold badEv; omega) (by omega) (nm_good2 (by assumption)) (fm_good (by assumption)) (by assumption)) (fun a b h3 h8 h11 => by simp only [hset_ne (key_ne h3), hset_ne (key_ne h8), hset_ne (key_ne h11)])
                | exact evR_bad (by decide) (evE_6 (by unfold badEv; omega) (by omega) (nm_good2 (by assumption)) (fm_good (by assumption)) (by assumption)) (fun a b h3 h8 h11 => by simp only [hset_ne (key_ne h3), hset_ne (key_ne h8), hset_ne (key_ne h11)])
                | exact evR_good (evE_0 (by unfold badEv; omega) (by omega) (nm_good2 (by assumption)) (fm_good (by assumption)) (by first | assumption | omega) (by first | assumption | omega)) (by rw [opStep, if_pos (by omega)]; exact (MapAt.del kpv_eq (MapAt.keep hm ((hset_ne (key_ne rfl)).trans ((hset_ne (key_ne rfl)).trans ((hset_ne (key_ne rfl)).trans (rfl))))) (x.platform, x.number))) (fun a b h3 h8 h11 => by simp only [hset_ne (key_ne h3), hset_ne (key_ne h8), hset_ne (key_ne h11)])
                | exact evR_good (evE_0 (by unfold badEv; omega) (by omega) (nm_good2 (by assumption)) (fm_good (by assumption)) (by first | assumption | omega) (by first | assumption | omega)) (by rw [opStep, if_neg (by omega), if_pos (by omega)]; exact (MapAt.del kpv_eq (MapAt.keep hm ((hset_ne (key_ne rfl)).trans ((hset_ne (key_ne rfl)).trans ((hset_ne (key_ne rfl)).trans (rfl))))) (x.platform, x.number))) (fun a b h3 h8 h11 => by simp only [hset_ne (key_ne h3), hset_ne (key_ne h8), hset_ne (key_ne h11)])
                | exact evR_good (evE_0 (by unfold badEv; omega) (by omega) (nm_good2 (by assumption)) (fm_good (by assumption)) (by first | assumption | omega) (by first | assumption | omega)) (by rw [opStep, if_neg (by omega), if_neg (by omega)]; exact (MapAt.del kpv_eq (MapAt.keep hm ((hset_ne (key_ne rfl)).trans ((hset_ne (key_ne rfl)).trans ((hset_ne (key_ne rfl)).trans (rfl))))) (x.platform, x.number))) (fun a b h3 h8 h11 => by simp only [hset_ne (key_ne h3), hset_ne (key_ne h8), hset_ne (key_ne h11)])
             ·have hb49R := hb49; try simp only [z1, z2, z3, z4, z5, z6, ne_eq, z7, z8, z9, z10, z11, z12] at hb49
              refine pwp_skip ?_
              refine block_norm ?_
              refine seq_norm (hK43 _ ?_); clear hK43 K43
              refine pwp_seq_plain rfl fun K52 hK52 => ?_
              refine p_step rfl (e_assign (v := .sc _) rfl) trivial ?_
              refine p_end (hK52 _ ?_); clear hK52 K52
              refine pwp_ret ?_
              refine end1 (v := .sc _) rfl ?_
              first
                | exact evR_bad (by decide) (evE_2 (by unfold badEv; omega)) (fun a b h3 h8 h11 => by simp only [hset_ne (key_ne h3), hset_ne (key_ne h8), hset_ne (key_ne h11)])
                | exact evR_bad (by decide) (evE_10 (by unfold badEv; omega) (by omega)) (fun a b h3 h8 h11 => by simp only [hset_ne (key_ne h3), hset_ne (key_ne h8), hset_ne (key_ne h11)])
                | exact evR_bad (by decide) (evE_4 (by unfold badEv; omega) (by omega) (nm_bad2 (by assumption))) (fun a b h3 h8 h11 => by simp only [hset_ne (key_ne h3), hset_ne (key_ne h8), hset_ne (key_ne h11)])
                | exact evR_bad (by decide) (evE_3 (by unfold badEv; omega) (by omega) (nm_good2 (by assumption)) (fm_bad (by assumption))) (fun a b h3 h8 h11 => by simp only [hset_ne (key_ne h3), hset_ne (key_ne h8), hset_ne (key_ne h11)])
                | exact evR_bad (by decide) (evE_5 (by unfold badEv; omega) (by omega) (nm_good2 (by assumption)) (fm_good (by assumption)) (by assumption)) (fun a b h3 h8 h11 => by simp only [hset_ne (key_ne h3), hset_ne (key_ne h8), hset_ne (key_ne h11)])
                | exact evR_bad (by decide) (evE_6 (by unfold badEv; omega) (by omega) (nm_good2 (by assumption)) (fm_good (by assumption)) (by assumption)) (fun a b h3 h8 h11 => by simp only [hset_ne (key_ne h3), hset_ne (key_ne h8), hset_ne (key_ne h11)])
                | exact evR_good (evE_0 (by unfold badEv; omega) (by omega) (nm_good2 (by assumption)) (fm_good (by assumption)) (by first | assumption | omega) (by first | assumption | omega)) (by rw [opStep, if_pos (by omega)]; exact (MapAt.keep hm ((hset_ne (key_ne rfl)).trans ((hset_ne (key_ne rfl)).trans ((hset_ne (key_ne rfl)).trans (rfl)))))) (fun a b h3 h8 h11 => by simp only [hset_ne (key_ne h3), hset_ne (key_ne h8), hset_ne (key_ne h11)])
                | exact evR_good (evE_0 (by unfold badEv; omega) (by omega) (nm_good2 (by assumption)) (fm_good (by assumption)) (by first | assumption | omega) (by first | assumption | omega)) (by rw [opStep, if_neg (by omega), if_pos (by omega)]; exact (MapAt.keep hm ((hset_ne (key_ne rfl)).trans ((hset_ne (key_ne rfl)).trans ((hset_ne (key_ne rfl)).trans (rfl)))))) (fun a b h3 h8 h11 => by simp only [hset_ne (key_ne h3), hset_ne (key_ne h8), hset_ne (key_ne h11)])
                | exact evR_good (evE_0 (by unfold badEv; omega) (by omega) (nm_good2 (by assumption)) (fm_good (by assumption)) (by first | assumption | omega) (by first | assumption | omega)) (by rw [opStep, if_neg (by omega), if_neg (by omega)]; exact (MapAt.keep hm ((hset_ne (key_ne rfl)).trans ((hset_ne (key_ne rfl)).trans ((hset_ne (key_ne rfl)).trans (rfl)))))) (fun a b h3 h8 h11 => by simp only [hset_ne (key_ne h3), hset_ne (key_ne h8), hset_ne (key_ne h11)])

end Go.Proofs.Ytdbpfhbppcpbbaa
