/- Whether terms and moves are right, as the program tells it. No conditions. -/
import Derived.Test.YtdbpfhbppcpbbaaMov3
set_option linter.unusedSimpArgs false
set_option linter.unusedVariables false
set_option maxRecDepth 100000
namespace Go.Proofs.Ytdbpfhbppcpbbaa
open Go Go.Pv
/-! ### What is on hire -/
theorem ix_spec (p : ByteArray) : ∀ (l : List Term) (k : Nat), (ixFrom p l k = -1 ∧ ∀ t ∈ l, ¬ t.part = p) ∨ ∃ (i : Nat) (t : Term), ixFrom p l k = ((k + i : Nat) : Int) ∧ l[i]? = some t ∧ t.part = p
  | [], _ => .inl ⟨rfl, by simp⟩
  | a :: l, k => by
    unfold ixFrom
    by_cases ha : a.part = p
    · rw [if_pos ha]; exact .inr ⟨0, a, by simp, rfl, ha⟩
    · rw [if_neg ha]
      rcases ix_spec p l (k + 1) with ⟨h1, h2⟩ | ⟨i, t, h1, h2, h3⟩
      · refine .inl ⟨by rw [← h1]; rfl, fun t ht => ?_⟩
        rcases List.mem_cons.1 ht with rfl | ht
        · exact ha
        · exact h2 t ht
      · refine .inr ⟨i + 1, t, ?_, by simpa using h2, h3⟩
        have h4 : ixFrom p l ((k : Int) + 1) = ((k + 1 + i : Nat) : Int) := h1
        rw [h4]; omega
theorem ix_part {ts : List Term} {p : ByteArray} (h : 0 ≤ termIx ts p) : ∃ t, ts[(termIx ts p).toNat]? = some t ∧ t.part = p := by
  unfold termIx at h ⊢
  rcases ix_spec p ts 0 with ⟨h1, _⟩ | ⟨i, t, h1, h2, h3⟩
  · have h1' : ixFrom p ts 0 = -1 := h1
    omega
  · have h1' : ixFrom p ts 0 = ((0 + i : Nat) : Int) := h1
    rw [h1']
    exact ⟨t, by simpa using h2, h3⟩
theorem ix_lt {ts : List Term} {p : ByteArray} (h : 0 ≤ termIx ts p) : termIx ts p < ts.length := by
  obtain ⟨t, h1, _⟩ := ix_part h
  have := (List.getElem?_eq_some_iff.1 h1).1
  omega
theorem ix_neg {ts : List Term} {p : ByteArray} (h : termIx ts p < 0) : ∀ t ∈ ts, ¬ t.part = p := by
  unfold termIx at h
  rcases ix_spec p ts 0 with ⟨_, h2⟩ | ⟨i, t, h1, _⟩
  · exact h2
  · have h1' : ixFrom p ts 0 = ((0 + i : Nat) : Int) := h1
    omega
theorem goT_nodup : ∀ (l pre : List Term), goT pre l = 0 → (pre.map (·.part)).Nodup → ((pre ++ l).map (·.part)).Nodup
  | [], pre, _, hn => by simpa using hn
  | t :: l, pre, h, hn => by
    unfold goT at h
    split at h
    · cases h
    · split at h
      · cases h
      · split at h
        · cases h
        · rename_i h1 h2 h3
          have h4 := goT_nodup l (pre ++ [t]) h (by
            rw [List.map_append, List.nodup_append]
            refine ⟨hn, by simp, fun a ha b hb => ?_⟩
            obtain ⟨s, hs, rfl⟩ := List.mem_map.1 ha
            simp at hb; subst hb
            exact ix_neg (by omega) s hs)
          rw [List.append_assoc] at h4
          exact h4
theorem terms_nodup {ts : List Term} (h : termsE ts = 0) : (ts.map (·.part)).Nodup := by
  unfold termsE at h
  split at h
  · cases h
  · exact goT_nodup ts [] h (by simp)
theorem terms_ix {ts : List Term} (h : termsE ts = 0) {j : Nat} {t : Term} (ht : ts[j]? = some t) : termIx ts t.part = (j : Int) := by
  have hn := terms_nodup h
  have h0 : 0 ≤ termIx ts t.part := by
    by_cases hc : termIx ts t.part < 0
    · exact absurd rfl (ix_neg hc t (List.mem_of_getElem? ht))
    · omega
  obtain ⟨s, h1, h2⟩ := ix_part h0
  have h3 := (List.getElem?_eq_some_iff.1 h1).1
  have h4 := (List.getElem?_eq_some_iff.1 ht).1
  have h5 : (ts.map (·.part))[(termIx ts t.part).toNat]? = (ts.map (·.part))[j]? := by
    rw [List.getElem?_map, List.getElem?_map, h1, ht]; simp [h2]
  have h6 := (List.getElem?_inj (by simpa using h3) hn).1 h5
  omega
theorem stk_snoc {pre : List Move} {m : Move} (hm : okM m) (p : ByteArray) : stkL (pre ++ [m]) p = if m.part = p then (if m.kind = 0 then stkL pre p + m.count else stkL pre p - m.count) else stkL pre p := by
  have h3 := cntL_len p pre
  have hs : cntL p (pre ++ [m]) = cntStep p (cntL p pre) m := by unfold cntL; rw [List.foldl_append]; rfl
  unfold stkL
  rw [hs]
  generalize cntL p pre = L at h3
  match L, h3 with
  | [a, b, c], _ =>
    unfold cntStep
    by_cases hp : m.part = p
    · rw [if_pos hp, if_pos hp]
      have hk : m.kind = 0 ∨ m.kind = 1 ∨ m.kind = 2 := by have := hm.1; omega
      rcases hk with hk | hk | hk <;> rw [hk] <;> simp <;> omega
    · rw [if_neg hp, if_neg hp]
/-- What is on hire of each term's part. -/
structure Hire (ts : List Term) (zs : List Int) (pre : List Move) : Prop where
  len : zs.length = ts.length
  at_ : ∀ (j : Nat) (t : Term), ts[j]? = some t → zs[j]? = some (stkL pre t.part)
theorem hire_0 (ts : List Term) : Hire ts (List.replicate ts.length 0) [] := by
  refine ⟨by simp, fun j t ht => ?_⟩
  have := (List.getElem?_eq_some_iff.1 ht).1
  rw [List.getElem?_replicate, if_pos this]
  rfl
theorem hire_get {ts : List Term} {zs : List Int} {pre : List Move} {p : ByteArray} (H : Hire ts zs pre) (h : 0 ≤ termIx ts p) : ∃ a, zs[(termIx ts p).toNat]? = some a ∧ a = (cntL p pre).getD 0 0 - (cntL p pre).getD 1 0 - (cntL p pre).getD 2 0 := by
  obtain ⟨t, h1, h2⟩ := ix_part h
  refine ⟨_, H.at_ _ t h1, ?_⟩
  rw [h2]; rfl
theorem hire_step {ts : List Term} {zs : List Int} {pre : List Move} {m : Move} {a b : Int} (ht : termsE ts = 0) (H : Hire ts zs pre) (hm : okM m) (h : 0 ≤ termIx ts m.part) (ha : zs[(termIx ts m.part).toNat]? = some a) (hb : b = if m.kind = 0 then a + m.count else a - m.count) : Hire ts (zs.set (termIx ts m.part).toNat b) (pre ++ [m]) := by
  obtain ⟨s, h1, h2⟩ := ix_part h
  have hae : a = stkL pre m.part := by
    have := H.at_ _ s h1
    rw [ha, h2] at this
    exact Option.some.inj this
  have hlt := (List.getElem?_eq_some_iff.1 ha).1
  refine ⟨by rw [List.length_set]; exact H.len, fun j t htj => ?_⟩
  rw [stk_snoc hm]
  have hj := terms_ix ht htj
  by_cases hp : m.part = t.part
  · rw [if_pos hp]
    have : (termIx ts m.part).toNat = j := by rw [hp, hj]; omega
    rw [this] at hlt ⊢
    rw [List.getElem?_set_self hlt, hb, hae, hp]
  · rw [if_neg hp, List.getElem?_set_ne, H.at_ j t htj]
    intro hc
    have h5 : ts[j]? = some s := by rw [← hc]; exact h1
    rw [htj] at h5; cases h5
    exact hp h2.symm
/-- The first error of terms and moves, or 0. -/
def tmE (ts : List Term) (ms : List Move) : Int := if termsE ts ≠ 0 then termsE ts else movE ts ms
theorem tmE_1 {ts : List Term} {ms : List Move} (h : ¬ termsE ts = 0) : termsE ts = tmE ts ms := by rw [tmE, if_pos h]
theorem tmE_2 {ts : List Term} {ms : List Move} {z : Int} (h : termsE ts = 0) (h2 : z = movE ts ms) : z = tmE ts ms := by rw [tmE, if_neg (by simpa using h)]; exact h2

theorem fr38 : (inFrame Try.f38.ntmps (Try.f38.body.getD .skip) && Try.f38.results.toList.all (resScope Try.f38.ntmps)) = true := by kernel_rfl
theorem CheckMoves (ts : List Term) (ms : List Move) (hlt : ts.length ≤ 65) (hl : ms.length ≤ 305) : PCalls Try.prog 38 [.lit true 4 (ts.map Term.enc), .lit true 4 (ms.map Move.enc)] (.int (tmE ts ms)) := by
  refine PCalls.of_code Try.func38 rfl rfl (by kernel_rfl) mixed fr38 (by show _ ≤ 104; simp) (.sc _) ?_
  refine pwp_seq_plain rfl fun K1 hK1 => ?_
  refine p_step rfl (e_assign (v := .sc _) rfl) trivial ?_
  refine p_end (hK1 _ ?_); clear hK1 K1
  refine pwp_seq_seq ?_
  refine pwp_seq_plain rfl fun K2 hK2 => ?_
  refine p_step rfl (e_move (v := .lit _ _ _) rfl) trivial ?_
  refine p_call rfl (.cons inn_lit .nil) (CheckTerms _) ?_
  refine p_step rfl (e_assign (v := .sc _) rfl) trivial ?_
  refine p_end (hK2 _ ?_); clear hK2 K2
  refine pwp_seq_seq ?_
  refine pwp_seq_plain rfl fun K3 hK3 => ?_
  refine p_step rfl (e_move (v := .sc _) rfl) trivial ?_
  refine p_step rfl (e_ne rfl rfl) trivial ?_
  refine p_end (hK3 _ ?_); clear hK3 K3
  refine pwp_seq_cond rfl fun K4 hK4 => ⟨fun hb5 => ?_, fun hb5 => ?_⟩
  ·have hb5R := hb5; (try simp only [z1, z2, z3, z4, z5, z6, ne_eq, z7, z8, z9, z10, z11, z12] at hb5); (try (have hts : termsE ts = 0 := hb5)); (try (have hyy := hire_get hH (p := x.part) hb5; obtain ⟨a, ha, hae⟩ := hyy; have hil := ix_lt (ts := ts) (p := x.part) hb5))
   refine pwp_seq_plain rfl fun K6 hK6 => ?_
   refine p_step rfl (e_move (v := .sc _) rfl) trivial ?_
   refine p_step rfl (e_assign (v := .sc _) rfl) trivial ?_
   refine p_end (hK6 _ ?_); clear hK6 K6
   refine pwp_ret ?_
   refine ret_seq ?_
   refine end1 (v := .sc _) rfl ?_
   first
     | exact out_i (tmE_1 (by assumption))
     | exact out_i (tmE_2 hts (movE_big (by omega)))
     | exact out_i (tmE_2 hts (movE_go (by omega) hinv))
     | exact out_i (tmE_2 hts (movE_go (by omega) (goM_stop hinv (by decide) (mvE_2 (by unfold badM; omega)))))
     | exact out_i (tmE_2 hts (movE_go (by omega) (goM_stop hinv (by decide) (mvE_10 (by unfold badM; omega) (by omega)))))
     | exact out_i (tmE_2 hts (movE_go (by omega) (goM_stop hinv (by decide) (mvE_6 (by unfold badM; omega) (by omega) (by omega)))))
     | exact out_i (tmE_2 hts (movE_go (by omega) (goM_stop hinv (by decide) (mvE_22 (by unfold badM; omega) (by omega) (by omega) (by unfold stkL; omega)))))
  ·have hb5R := hb5; (try simp only [z1, z2, z3, z4, z5, z6, ne_eq, z7, z8, z9, z10, z11, z12] at hb5); (try (have hts : termsE ts = 0 := hb5)); (try (have hyy := hire_get hH (p := x.part) hb5; obtain ⟨a, ha, hae⟩ := hyy; have hil := ix_lt (ts := ts) (p := x.part) hb5))
   refine pwp_skip ?_
   refine seq_norm (hK4 _ ?_); clear hK4 K4
   refine pwp_seq_seq ?_
   refine pwp_seq_plain rfl fun K7 hK7 => ?_
   refine p_step rfl (e_move (v := .lit _ _ _) rfl) trivial ?_
   refine p_step rfl (e_len rfl (by kernel_rfl)) trivial ?_
   refine p_step rfl (e_gt rfl rfl) trivial ?_
   refine p_end (hK7 _ ?_); clear hK7 K7
   refine pwp_seq_cond rfl fun K8 hK8 => ⟨fun hb9 => ?_, fun hb9 => ?_⟩
   ·have hb9R := hb9; (try simp only [z1, z2, z3, z4, z5, z6, ne_eq, z7, z8, z9, z10, z11, z12] at hb9); (try (have hts : termsE ts = 0 := hb9)); (try (have hyy := hire_get hH (p := x.part) hb9; obtain ⟨a, ha, hae⟩ := hyy; have hil := ix_lt (ts := ts) (p := x.part) hb9))
    refine pwp_seq_plain rfl fun K10 hK10 => ?_
    refine p_step rfl (e_assign (v := .sc _) rfl) trivial ?_
    refine p_end (hK10 _ ?_); clear hK10 K10
    refine pwp_ret ?_
    refine ret_seq ?_
    refine end1 (v := .sc _) rfl ?_
    first
      | exact out_i (tmE_1 (by assumption))
      | exact out_i (tmE_2 hts (movE_big (by omega)))
      | exact out_i (tmE_2 hts (movE_go (by omega) hinv))
      | exact out_i (tmE_2 hts (movE_go (by omega) (goM_stop hinv (by decide) (mvE_2 (by unfold badM; omega)))))
      | exact out_i (tmE_2 hts (movE_go (by omega) (goM_stop hinv (by decide) (mvE_10 (by unfold badM; omega) (by omega)))))
      | exact out_i (tmE_2 hts (movE_go (by omega) (goM_stop hinv (by decide) (mvE_6 (by unfold badM; omega) (by omega) (by omega)))))
      | exact out_i (tmE_2 hts (movE_go (by omega) (goM_stop hinv (by decide) (mvE_22 (by unfold badM; omega) (by omega) (by omega) (by unfold stkL; omega)))))
   ·have hb9R := hb9; (try simp only [z1, z2, z3, z4, z5, z6, ne_eq, z7, z8, z9, z10, z11, z12] at hb9); (try (have hts : termsE ts = 0 := hb9)); (try (have hyy := hire_get hH (p := x.part) hb9; obtain ⟨a, ha, hae⟩ := hyy; have hil := ix_lt (ts := ts) (p := x.part) hb9))
    refine pwp_skip ?_
    refine seq_norm (hK8 _ ?_); clear hK8 K8
    refine pwp_seq_plain rfl fun K11 hK11 => ?_
    refine p_step rfl (e_move (v := .lit _ _ _) rfl) trivial ?_
    refine p_step rfl (e_len rfl (by kernel_rfl)) trivial ?_
    refine p_new rfl (e_mkI (n := ts.length) rfl rfl (by simp) (by kernel_rfl) (by kernel_rfl) (by kernel_rfl) (by decide +kernel) (by omega)) trivial ?_
    refine p_step rfl (e_assign (v := .ref _ _ _ _) rfl) trivial ?_
    refine p_end (hK11 _ ?_); clear hK11 K11
    refine pwp_seq_plain rfl fun K12 hK12 => ?_
    refine p_step rfl (e_assign (v := .sc _) rfl) trivial ?_
    refine p_end (hK12 _ ?_); clear hK12 K12
    refine pwp_seq_seq ?_
    refine pwp_seq_plain rfl fun K13 hK13 => ?_
    refine p_step rfl (e_move (v := .lit _ _ _) rfl) trivial ?_
    refine p_step rfl (e_len rfl (by kernel_rfl)) trivial ?_
    refine p_step rfl (e_move (v := .sc _) rfl) trivial ?_
    refine p_end (hK13 _ ?_); clear hK13 K13
    refine pwp_seq_block fun K14 hK14 => ?_
    refine pwp_loopR (α := Nat × Int × (List Int)) [0, 6, 22, 23] (fun (a15 : Nat × Int × (List Int)) => [(7, .int (a15.2.1)), (24, .int (a15.1))]) (fun (a15 : Nat × Int × (List Int)) (h : Heap) (_ : Nat → Nat) => ((a15.1) ≤ ms.length) ∧ (goM ts [] 0 ms = goM ts (ms.take (a15.1)) (a15.2.1) (ms.drop (a15.1))) ∧ (∀ m ∈ ms.take (a15.1), okM m) ∧ (Hire ts (a15.2.2) (ms.take (a15.1))) ∧ (h (21, 0) = some (.rows 1 ((a15.2.2).map ci)))) (fun (a15 : Nat × Int × (List Int)) => ms.length - (a15.1)) (0, 0, _) (by exact ⟨rfl, rfl, trivial⟩) (by exact ⟨by exact Nat.zero_le _, by exact rfl, by (intro y hy; simp at hy), by exact hire_0 ts, (hset_self _ _ _)⟩) fun a15 r16 h17 c18 hj19 => ?_
    obtain ⟨k, last, zs⟩ := a15
    obtain ⟨hk, hinv, hokk, hH, hihj19_0⟩ := hj19
    try dsimp only at hk
    try dsimp only at hinv
    try dsimp only at hokk
    try dsimp only at hH
    try dsimp only at hihj19_0
    show pwp _ _ (loopQ _ _ _) ⟨sets (mix _ _ _) [(7, .int last), (24, .int k)], _, _⟩
    refine pwp_seq_plain rfl fun K20 hK20 => ?_
    refine p_step rfl (e_lt rfl rfl) trivial ?_
    refine p_end (hK20 _ ?_); clear hK20 K20
    refine pwp_seq_cond rfl fun K21 hK21 => ⟨fun hb22 => ?_, fun hb22 => ?_⟩
    ·have hb22R := hb22; (try simp only [z1, z2, z3, z4, z5, z6, ne_eq, z7, z8, z9, z10, z11, z12] at hb22); (try (have hts : termsE ts = 0 := hb22)); (try (have hyy := hire_get hH (p := x.part) hb22; obtain ⟨a, ha, hae⟩ := hyy; have hil := ix_lt (ts := ts) (p := x.part) hb22))
     obtain ⟨x, hx, hd, ht⟩ := get_lt (xs := ms) (i := k) (by omega)
     rw [hd] at hinv
     have q0 := cnt_bnd (p := x.part) hokk (by simp only [List.length_take]; omega) 0
     have q1 := cnt_bnd (p := x.part) hokk (by simp only [List.length_take]; omega) 1
     have q2 := cnt_bnd (p := x.part) hokk (by simp only [List.length_take]; omega) 2
     have hzl := hH.len
     refine pwp_skip ?_
     refine seq_norm (hK21 _ ?_); clear hK21 K21
     refine pwp_seq_block fun K23 hK23 => ?_
     refine pwp_seq_plain rfl fun K24 hK24 => ?_
     refine p_step rfl (e_ixa rfl rfl (by kernel_rfl) (by kernel_rfl) (by simp only [List.length_map]; omega)) trivial ?_
     refine p_step rfl (e_loadA (n := 4) rfl (by kernel_rfl) (by kernel_rfl) (by kernel_rfl) (by simp only [List.length_map]; omega) (by decide) (by first | exact agg_map hx rfl)) trivial ?_
     refine p_new rfl (e_alloc (cs := [.int 0, .int 0, .str ByteArray.empty, .int 0]) (n := 4) (by kernel_rfl) rfl (by decide)) (ob_alloc (by decide)) ?_
     refine p_store rfl (e_storeA rfl (hset_self _ _ _) rfl rfl rfl (by kernel_rfl) rfl (by kernel_rfl)) trivial ?_
     refine p_end (hK24 _ ?_); clear hK24 K24
     refine pwp_seq_plain rfl fun K25 hK25 => ?_
     refine p_step rfl (e_move (v := .lit _ _ _) rfl) trivial ?_
     refine p_step rfl (e_faP (pl := [(0, 1, false), (1, 1, false), (2, 1, false), (3, 1, false)]) rfl (by kernel_rfl) (by kernel_rfl) (by decide) rfl) trivial ?_
     refine p_step rfl (e_loadH (v := .sc _) rfl (hset_self _ _ _) (by kernel_rfl) (by kernel_rfl) (by kernel_rfl) (by exact Nat.zero_lt_one) (by decide) rfl) trivial ?_
     refine p_call rfl (.cons inn_lit (.cons inn_sc .nil)) (termOf _ _ hlt) ?_
     refine p_step rfl (e_assign (v := .sc _) rfl) trivial ?_
     refine p_end (hK25 _ ?_); clear hK25 K25
     refine pwp_seq_block fun K26 hK26 => ?_
     refine pwp_seq_gops rfl fun K27 hK27 => ?_
     refine g_begin ?_
     refine g_step rfl rfl rfl rfl (e_faP (pl := [(0, 1, false), (1, 1, false), (2, 1, false), (3, 1, false)]) rfl (by kernel_rfl) (by kernel_rfl) (by decide) rfl) trivial ?_
     refine g_step rfl rfl rfl rfl (e_loadH (v := .sc _) rfl (hset_self _ _ _) (by kernel_rfl) (by kernel_rfl) (by kernel_rfl) (by exact Nat.zero_lt_one) (by decide) rfl) trivial ?_
     refine g_step rfl rfl rfl rfl (e_lt rfl rfl) trivial ?_
     refine g_step rfl rfl rfl rfl (e_move (v := .sc _) rfl) trivial ?_
     refine g_cases (fun hb28 => ?_) (fun hb28 => ?_)
     ·have hb28R := hb28; (try simp only [z1, z2, z3, z4, z5, z6, ne_eq, z7, z8, z9, z10, z11, z12] at hb28); (try (have hts : termsE ts = 0 := hb28)); (try (have hyy := hire_get hH (p := x.part) hb28; obtain ⟨a, ha, hae⟩ := hyy; have hil := ix_lt (ts := ts) (p := x.part) hb28))
      refine g_skip rfl rfl rfl ?_
      refine g_skip rfl rfl rfl ?_
      refine g_skip rfl rfl rfl ?_
      refine g_step rfl rfl rfl rfl (e_pickT (v := .sc _) rfl rfl) trivial ?_
      refine g_step rfl rfl rfl rfl (e_move (v := .sc _) rfl) trivial ?_
      refine g_skip rfl rfl rfl ?_
      refine g_skip rfl rfl rfl ?_
      refine g_skip rfl rfl rfl ?_
      refine g_step rfl rfl rfl rfl (e_pickT (v := .sc _) rfl rfl) trivial ?_
      refine g_step rfl rfl rfl rfl (e_move (v := .sc _) rfl) trivial ?_
      refine g_skip rfl rfl rfl ?_
      refine g_skip rfl rfl rfl ?_
      refine g_skip rfl rfl rfl ?_
      refine g_step rfl rfl rfl rfl (e_pickT (v := .sc _) rfl rfl) trivial ?_
      refine g_step rfl rfl rfl rfl (e_move (v := .sc _) rfl) trivial ?_
      refine g_skip rfl rfl rfl ?_
      refine g_skip rfl rfl rfl ?_
      refine g_skip rfl rfl rfl ?_
      refine g_step rfl rfl rfl rfl (e_pickT (v := .sc _) rfl rfl) trivial ?_
      refine g_step rfl rfl rfl rfl (e_move (v := .sc _) rfl) trivial ?_
      refine g_skip rfl rfl rfl ?_
      refine g_skip rfl rfl rfl ?_
      refine g_skip rfl rfl rfl ?_
      refine g_step rfl rfl rfl rfl (e_pickT (v := .sc _) rfl rfl) trivial ?_
      refine g_step rfl rfl rfl rfl (e_assign (v := .sc _) rfl) trivial ?_
      refine g_end (ds := [37, 38, 39, 42, 43, 44, 47, 48, 49, 52, 53, 54, 57, 58, 59]) rfl rfl (hK27 _ ?_); clear hK27 K27
      refine pwp_cond (t := true) rfl (fun _ => ?_) nofun
      refine pwp_seq_plain rfl fun K29 hK29 => ?_
      refine p_step rfl (e_assign (v := .sc _) rfl) trivial ?_
      refine p_end (hK29 _ ?_); clear hK29 K29
      refine pwp_ret ?_
      refine ret_block ?_
      refine ret_seq ?_
      refine ret_block ?_
      refine ret_seq ?_
      refine ret_loop ?_
      refine ret_block ?_
      refine ret_seq ?_
      refine end1 (v := .sc _) rfl ?_
      first
        | exact out_i (tmE_1 (by assumption))
        | exact out_i (tmE_2 hts (movE_big (by omega)))
        | exact out_i (tmE_2 hts (movE_go (by omega) hinv))
        | exact out_i (tmE_2 hts (movE_go (by omega) (goM_stop hinv (by decide) (mvE_2 (by unfold badM; omega)))))
        | exact out_i (tmE_2 hts (movE_go (by omega) (goM_stop hinv (by decide) (mvE_10 (by unfold badM; omega) (by omega)))))
        | exact out_i (tmE_2 hts (movE_go (by omega) (goM_stop hinv (by decide) (mvE_6 (by unfold badM; omega) (by omega) (by omega)))))
        | exact out_i (tmE_2 hts (movE_go (by omega) (goM_stop hinv (by decide) (mvE_22 (by unfold badM; omega) (by omega) (by omega) (by unfold stkL; omega)))))
     ·have hb28R := hb28; (try simp only [z1, z2, z3, z4, z5, z6, ne_eq, z7, z8, z9, z10, z11, z12] at hb28); (try (have hts : termsE ts = 0 := hb28)); (try (have hyy := hire_get hH (p := x.part) hb28; obtain ⟨a, ha, hae⟩ := hyy; have hil := ix_lt (ts := ts) (p := x.part) hb28))
      refine g_step rfl rfl rfl rfl (e_faP (pl := [(0, 1, false), (1, 1, false), (2, 1, false), (3, 1, false)]) rfl (by kernel_rfl) (by kernel_rfl) (by decide) rfl) trivial ?_
      refine g_step rfl rfl rfl rfl (e_loadH (v := .sc _) rfl (hset_self _ _ _) (by kernel_rfl) (by kernel_rfl) (by kernel_rfl) (by exact Nat.zero_lt_one) (by decide) rfl) trivial ?_
      refine g_step rfl rfl rfl rfl (e_gt rfl rfl) trivial ?_
      refine g_step rfl rfl rfl rfl (e_pickF (v := .sc _) rfl rfl) trivial ?_
      refine g_step rfl rfl rfl rfl (e_move (v := .sc _) rfl) trivial ?_
      refine g_cases (fun hb30 => ?_) (fun hb30 => ?_)
      ·have hb30R := hb30; (try simp only [z1, z2, z3, z4, z5, z6, ne_eq, z7, z8, z9, z10, z11, z12] at hb30); (try (have hts : termsE ts = 0 := hb30)); (try (have hyy := hire_get hH (p := x.part) hb30; obtain ⟨a, ha, hae⟩ := hyy; have hil := ix_lt (ts := ts) (p := x.part) hb30))
       refine g_skip rfl rfl rfl ?_
       refine g_skip rfl rfl rfl ?_
       refine g_skip rfl rfl rfl ?_
       refine g_step rfl rfl rfl rfl (e_pickT (v := .sc _) rfl rfl) trivial ?_
       refine g_step rfl rfl rfl rfl (e_move (v := .sc _) rfl) trivial ?_
       refine g_skip rfl rfl rfl ?_
       refine g_skip rfl rfl rfl ?_
       refine g_skip rfl rfl rfl ?_
       refine g_step rfl rfl rfl rfl (e_pickT (v := .sc _) rfl rfl) trivial ?_
       refine g_step rfl rfl rfl rfl (e_move (v := .sc _) rfl) trivial ?_
       refine g_skip rfl rfl rfl ?_
       refine g_skip rfl rfl rfl ?_
       refine g_skip rfl rfl rfl ?_
       refine g_step rfl rfl rfl rfl (e_pickT (v := .sc _) rfl rfl) trivial ?_
       refine g_step rfl rfl rfl rfl (e_move (v := .sc _) rfl) trivial ?_
       refine g_skip rfl rfl rfl ?_
       refine g_skip rfl rfl rfl ?_
       refine g_skip rfl rfl rfl ?_
       refine g_step rfl rfl rfl rfl (e_pickT (v := .sc _) rfl rfl) trivial ?_
       refine g_step rfl rfl rfl rfl (e_assign (v := .sc _) rfl) trivial ?_
       refine g_end (ds := [37, 38, 39, 42, 43, 44, 47, 48, 49, 52, 53, 54, 57, 58, 59]) rfl rfl (hK27 _ ?_); clear hK27 K27
       refine pwp_cond (t := true) rfl (fun _ => ?_) nofun
       refine pwp_seq_plain rfl fun K31 hK31 => ?_
       refine p_step rfl (e_assign (v := .sc _) rfl) trivial ?_
       refine p_end (hK31 _ ?_); clear hK31 K31
       refine pwp_ret ?_
       refine ret_block ?_
       refine ret_seq ?_
       refine ret_block ?_
       refine ret_seq ?_
       refine ret_loop ?_
       refine ret_block ?_
       refine ret_seq ?_
       refine end1 (v := .sc _) rfl ?_
       first
         | exact out_i (tmE_1 (by assumption))
         | exact out_i (tmE_2 hts (movE_big (by omega)))
         | exact out_i (tmE_2 hts (movE_go (by omega) hinv))
         | exact out_i (tmE_2 hts (movE_go (by omega) (goM_stop hinv (by decide) (mvE_2 (by unfold badM; omega)))))
         | exact out_i (tmE_2 hts (movE_go (by omega) (goM_stop hinv (by decide) (mvE_10 (by unfold badM; omega) (by omega)))))
         | exact out_i (tmE_2 hts (movE_go (by omega) (goM_stop hinv (by decide) (mvE_6 (by unfold badM; omega) (by omega) (by omega)))))
         | exact out_i (tmE_2 hts (movE_go (by omega) (goM_stop hinv (by decide) (mvE_22 (by unfold badM; omega) (by omega) (by omega) (by unfold stkL; omega)))))
      ·have hb30R := hb30; (try simp only [z1, z2, z3, z4, z5, z6, ne_eq, z7, z8, z9, z10, z11, z12] at hb30); (try (have hts : termsE ts = 0 := hb30)); (try (have hyy := hire_get hH (p := x.part) hb30; obtain ⟨a, ha, hae⟩ := hyy; have hil := ix_lt (ts := ts) (p := x.part) hb30))
       refine g_step rfl rfl rfl rfl (e_faP (pl := [(0, 1, false), (1, 1, false), (2, 1, false), (3, 1, false)]) rfl (by kernel_rfl) (by kernel_rfl) (by decide) rfl) trivial ?_
       refine g_step rfl rfl rfl rfl (e_loadH (v := .sc _) rfl (hset_self _ _ _) (by kernel_rfl) (by kernel_rfl) (by kernel_rfl) (by exact Nat.zero_lt_one) (by decide) rfl) trivial ?_
       refine g_step rfl rfl rfl rfl (e_lt rfl rfl) trivial ?_
       refine g_step rfl rfl rfl rfl (e_pickF (v := .sc _) rfl rfl) trivial ?_
       refine g_step rfl rfl rfl rfl (e_move (v := .sc _) rfl) trivial ?_
       refine g_cases (fun hb32 => ?_) (fun hb32 => ?_)
       ·have hb32R := hb32; (try simp only [z1, z2, z3, z4, z5, z6, ne_eq, z7, z8, z9, z10, z11, z12] at hb32); (try (have hts : termsE ts = 0 := hb32)); (try (have hyy := hire_get hH (p := x.part) hb32; obtain ⟨a, ha, hae⟩ := hyy; have hil := ix_lt (ts := ts) (p := x.part) hb32))
        refine g_skip rfl rfl rfl ?_
        refine g_skip rfl rfl rfl ?_
        refine g_skip rfl rfl rfl ?_
        refine g_step rfl rfl rfl rfl (e_pickT (v := .sc _) rfl rfl) trivial ?_
        refine g_step rfl rfl rfl rfl (e_move (v := .sc _) rfl) trivial ?_
        refine g_skip rfl rfl rfl ?_
        refine g_skip rfl rfl rfl ?_
        refine g_skip rfl rfl rfl ?_
        refine g_step rfl rfl rfl rfl (e_pickT (v := .sc _) rfl rfl) trivial ?_
        refine g_step rfl rfl rfl rfl (e_move (v := .sc _) rfl) trivial ?_
        refine g_skip rfl rfl rfl ?_
        refine g_skip rfl rfl rfl ?_
        refine g_skip rfl rfl rfl ?_
        refine g_step rfl rfl rfl rfl (e_pickT (v := .sc _) rfl rfl) trivial ?_
        refine g_step rfl rfl rfl rfl (e_assign (v := .sc _) rfl) trivial ?_
        refine g_end (ds := [37, 38, 39, 42, 43, 44, 47, 48, 49, 52, 53, 54, 57, 58, 59]) rfl rfl (hK27 _ ?_); clear hK27 K27
        refine pwp_cond (t := true) rfl (fun _ => ?_) nofun
        refine pwp_seq_plain rfl fun K33 hK33 => ?_
        refine p_step rfl (e_assign (v := .sc _) rfl) trivial ?_
        refine p_end (hK33 _ ?_); clear hK33 K33
        refine pwp_ret ?_
        refine ret_block ?_
        refine ret_seq ?_
        refine ret_block ?_
        refine ret_seq ?_
        refine ret_loop ?_
        refine ret_block ?_
        refine ret_seq ?_
        refine end1 (v := .sc _) rfl ?_
        first
          | exact out_i (tmE_1 (by assumption))
          | exact out_i (tmE_2 hts (movE_big (by omega)))
          | exact out_i (tmE_2 hts (movE_go (by omega) hinv))
          | exact out_i (tmE_2 hts (movE_go (by omega) (goM_stop hinv (by decide) (mvE_2 (by unfold badM; omega)))))
          | exact out_i (tmE_2 hts (movE_go (by omega) (goM_stop hinv (by decide) (mvE_10 (by unfold badM; omega) (by omega)))))
          | exact out_i (tmE_2 hts (movE_go (by omega) (goM_stop hinv (by decide) (mvE_6 (by unfold badM; omega) (by omega) (by omega)))))
          | exact out_i (tmE_2 hts (movE_go (by omega) (goM_stop hinv (by decide) (mvE_22 (by unfold badM; omega) (by omega) (by omega) (by unfold stkL; omega)))))
       ·have hb32R := hb32; (try simp only [z1, z2, z3, z4, z5, z6, ne_eq, z7, z8, z9, z10, z11, z12] at hb32); (try (have hts : termsE ts = 0 := hb32)); (try (have hyy := hire_get hH (p := x.part) hb32; obtain ⟨a, ha, hae⟩ := hyy; have hil := ix_lt (ts := ts) (p := x.part) hb32))
        refine g_step rfl rfl rfl rfl (e_faP (pl := [(0, 1, false), (1, 1, false), (2, 1, false), (3, 1, false)]) rfl (by kernel_rfl) (by kernel_rfl) (by decide) rfl) trivial ?_
        refine g_step rfl rfl rfl rfl (e_loadH (v := .sc _) rfl (hset_self _ _ _) (by kernel_rfl) (by kernel_rfl) (by kernel_rfl) (by exact Nat.zero_lt_one) (by decide) rfl) trivial ?_
        refine g_step rfl rfl rfl rfl (e_gt rfl rfl) trivial ?_
        refine g_step rfl rfl rfl rfl (e_pickF (v := .sc _) rfl rfl) trivial ?_
        refine g_step rfl rfl rfl rfl (e_move (v := .sc _) rfl) trivial ?_
        refine g_cases (fun hb34 => ?_) (fun hb34 => ?_)
        ·have hb34R := hb34; (try simp only [z1, z2, z3, z4, z5, z6, ne_eq, z7, z8, z9, z10, z11, z12] at hb34); (try (have hts : termsE ts = 0 := hb34)); (try (have hyy := hire_get hH (p := x.part) hb34; obtain ⟨a, ha, hae⟩ := hyy; have hil := ix_lt (ts := ts) (p := x.part) hb34))
         refine g_skip rfl rfl rfl ?_
         refine g_skip rfl rfl rfl ?_
         refine g_skip rfl rfl rfl ?_
         refine g_step rfl rfl rfl rfl (e_pickT (v := .sc _) rfl rfl) trivial ?_
         refine g_step rfl rfl rfl rfl (e_move (v := .sc _) rfl) trivial ?_
         refine g_skip rfl rfl rfl ?_
         refine g_skip rfl rfl rfl ?_
         refine g_skip rfl rfl rfl ?_
         refine g_step rfl rfl rfl rfl (e_pickT (v := .sc _) rfl rfl) trivial ?_
         refine g_step rfl rfl rfl rfl (e_assign (v := .sc _) rfl) trivial ?_
         refine g_end (ds := [37, 38, 39, 42, 43, 44, 47, 48, 49, 52, 53, 54, 57, 58, 59]) rfl rfl (hK27 _ ?_); clear hK27 K27
         refine pwp_cond (t := true) rfl (fun _ => ?_) nofun
         refine pwp_seq_plain rfl fun K35 hK35 => ?_
         refine p_step rfl (e_assign (v := .sc _) rfl) trivial ?_
         refine p_end (hK35 _ ?_); clear hK35 K35
         refine pwp_ret ?_
         refine ret_block ?_
         refine ret_seq ?_
         refine ret_block ?_
         refine ret_seq ?_
         refine ret_loop ?_
         refine ret_block ?_
         refine ret_seq ?_
         refine end1 (v := .sc _) rfl ?_
         first
           | exact out_i (tmE_1 (by assumption))
           | exact out_i (tmE_2 hts (movE_big (by omega)))
           | exact out_i (tmE_2 hts (movE_go (by omega) hinv))
           | exact out_i (tmE_2 hts (movE_go (by omega) (goM_stop hinv (by decide) (mvE_2 (by unfold badM; omega)))))
           | exact out_i (tmE_2 hts (movE_go (by omega) (goM_stop hinv (by decide) (mvE_10 (by unfold badM; omega) (by omega)))))
           | exact out_i (tmE_2 hts (movE_go (by omega) (goM_stop hinv (by decide) (mvE_6 (by unfold badM; omega) (by omega) (by omega)))))
           | exact out_i (tmE_2 hts (movE_go (by omega) (goM_stop hinv (by decide) (mvE_22 (by unfold badM; omega) (by omega) (by omega) (by unfold stkL; omega)))))
        ·have hb34R := hb34; (try simp only [z1, z2, z3, z4, z5, z6, ne_eq, z7, z8, z9, z10, z11, z12] at hb34); (try (have hts : termsE ts = 0 := hb34)); (try (have hyy := hire_get hH (p := x.part) hb34; obtain ⟨a, ha, hae⟩ := hyy; have hil := ix_lt (ts := ts) (p := x.part) hb34))
         refine g_step rfl rfl rfl rfl (e_faP (pl := [(0, 1, false), (1, 1, false), (2, 1, false), (3, 1, false)]) rfl (by kernel_rfl) (by kernel_rfl) (by decide) rfl) trivial ?_
         refine g_step rfl rfl rfl rfl (e_loadH (v := .sc _) rfl (hset_self _ _ _) (by kernel_rfl) (by kernel_rfl) (by kernel_rfl) (by exact Nat.zero_lt_one) (by decide) rfl) trivial ?_
         refine g_step rfl rfl rfl rfl (e_lt rfl rfl) trivial ?_
         refine g_step rfl rfl rfl rfl (e_pickF (v := .sc _) rfl rfl) trivial ?_
         refine g_step rfl rfl rfl rfl (e_move (v := .sc _) rfl) trivial ?_
         refine g_cases (fun hb36 => ?_) (fun hb36 => ?_)
         ·have hb36R := hb36; (try simp only [z1, z2, z3, z4, z5, z6, ne_eq, z7, z8, z9, z10, z11, z12] at hb36); (try (have hts : termsE ts = 0 := hb36)); (try (have hyy := hire_get hH (p := x.part) hb36; obtain ⟨a, ha, hae⟩ := hyy; have hil := ix_lt (ts := ts) (p := x.part) hb36))
          refine g_skip rfl rfl rfl ?_
          refine g_skip rfl rfl rfl ?_
          refine g_skip rfl rfl rfl ?_
          refine g_step rfl rfl rfl rfl (e_pickT (v := .sc _) rfl rfl) trivial ?_
          refine g_step rfl rfl rfl rfl (e_assign (v := .sc _) rfl) trivial ?_
          refine g_end (ds := [37, 38, 39, 42, 43, 44, 47, 48, 49, 52, 53, 54, 57, 58, 59]) rfl rfl (hK27 _ ?_); clear hK27 K27
          refine pwp_cond (t := true) rfl (fun _ => ?_) nofun
          refine pwp_seq_plain rfl fun K37 hK37 => ?_
          refine p_step rfl (e_assign (v := .sc _) rfl) trivial ?_
          refine p_end (hK37 _ ?_); clear hK37 K37
          refine pwp_ret ?_
          refine ret_block ?_
          refine ret_seq ?_
          refine ret_block ?_
          refine ret_seq ?_
          refine ret_loop ?_
          refine ret_block ?_
          refine ret_seq ?_
          refine end1 (v := .sc _) rfl ?_
          first
            | exact out_i (tmE_1 (by assumption))
            | exact out_i (tmE_2 hts (movE_big (by omega)))
            | exact out_i (tmE_2 hts (movE_go (by omega) hinv))
            | exact out_i (tmE_2 hts (movE_go (by omega) (goM_stop hinv (by decide) (mvE_2 (by unfold badM; omega)))))
            | exact out_i (tmE_2 hts (movE_go (by omega) (goM_stop hinv (by decide) (mvE_10 (by unfold badM; omega) (by omega)))))
            | exact out_i (tmE_2 hts (movE_go (by omega) (goM_stop hinv (by decide) (mvE_6 (by unfold badM; omega) (by omega) (by omega)))))
            | exact out_i (tmE_2 hts (movE_go (by omega) (goM_stop hinv (by decide) (mvE_22 (by unfold badM; omega) (by omega) (by omega) (by unfold stkL; omega)))))
         ·have hb36R := hb36; (try simp only [z1, z2, z3, z4, z5, z6, ne_eq, z7, z8, z9, z10, z11, z12] at hb36); (try (have hts : termsE ts = 0 := hb36)); (try (have hyy := hire_get hH (p := x.part) hb36; obtain ⟨a, ha, hae⟩ := hyy; have hil := ix_lt (ts := ts) (p := x.part) hb36))
          refine g_step rfl rfl rfl rfl (e_faP (pl := [(0, 1, false), (1, 1, false), (2, 1, false), (3, 1, false)]) rfl (by kernel_rfl) (by kernel_rfl) (by decide) rfl) trivial ?_
          refine g_step rfl rfl rfl rfl (e_loadH (v := .sc _) rfl (hset_self _ _ _) (by kernel_rfl) (by kernel_rfl) (by kernel_rfl) (by exact Nat.zero_lt_one) (by decide) rfl) trivial ?_
          refine g_step rfl rfl rfl rfl (e_gt rfl rfl) trivial ?_
          refine g_step rfl rfl rfl rfl (e_pickF (v := .sc _) rfl rfl) trivial ?_
          refine g_step rfl rfl rfl rfl (e_assign (v := .sc _) rfl) trivial ?_
          refine g_end (ds := [37, 38, 39, 42, 43, 44, 47, 48, 49, 52, 53, 54, 57, 58, 59]) rfl rfl (hK27 _ ?_); clear hK27 K27
          refine pwp_cond rfl (fun hb38 => ?_) (fun hb38 => ?_)
          ·have hb38R := hb38; (try simp only [z1, z2, z3, z4, z5, z6, ne_eq, z7, z8, z9, z10, z11, z12] at hb38); (try (have hts : termsE ts = 0 := hb38)); (try (have hyy := hire_get hH (p := x.part) hb38; obtain ⟨a, ha, hae⟩ := hyy; have hil := ix_lt (ts := ts) (p := x.part) hb38))
           refine pwp_seq_plain rfl fun K39 hK39 => ?_
           refine p_step rfl (e_assign (v := .sc _) rfl) trivial ?_
           refine p_end (hK39 _ ?_); clear hK39 K39
           refine pwp_ret ?_
           refine ret_block ?_
           refine ret_seq ?_
           refine ret_block ?_
           refine ret_seq ?_
           refine ret_loop ?_
           refine ret_block ?_
           refine ret_seq ?_
           refine end1 (v := .sc _) rfl ?_
           first
             | exact out_i (tmE_1 (by assumption))
             | exact out_i (tmE_2 hts (movE_big (by omega)))
             | exact out_i (tmE_2 hts (movE_go (by omega) hinv))
             | exact out_i (tmE_2 hts (movE_go (by omega) (goM_stop hinv (by decide) (mvE_2 (by unfold badM; omega)))))
             | exact out_i (tmE_2 hts (movE_go (by omega) (goM_stop hinv (by decide) (mvE_10 (by unfold badM; omega) (by omega)))))
             | exact out_i (tmE_2 hts (movE_go (by omega) (goM_stop hinv (by decide) (mvE_6 (by unfold badM; omega) (by omega) (by omega)))))
             | exact out_i (tmE_2 hts (movE_go (by omega) (goM_stop hinv (by decide) (mvE_22 (by unfold badM; omega) (by omega) (by omega) (by unfold stkL; omega)))))
          ·have hb38R := hb38; (try simp only [z1, z2, z3, z4, z5, z6, ne_eq, z7, z8, z9, z10, z11, z12] at hb38); (try (have hts : termsE ts = 0 := hb38)); (try (have hyy := hire_get hH (p := x.part) hb38; obtain ⟨a, ha, hae⟩ := hyy; have hil := ix_lt (ts := ts) (p := x.part) hb38))
           refine pwp_seq_plain rfl fun K40 hK40 => ?_
           refine p_step rfl (e_faP (pl := [(0, 1, false), (1, 1, false), (2, 1, false), (3, 1, false)]) rfl (by kernel_rfl) (by kernel_rfl) (by decide) rfl) trivial ?_
           refine p_step rfl (e_loadH (v := .sc _) rfl (hset_self _ _ _) (by kernel_rfl) (by kernel_rfl) (by kernel_rfl) (by exact Nat.zero_lt_one) (by decide) rfl) trivial ?_
           refine p_step rfl (e_move (v := .sc _) rfl) trivial ?_
           refine p_step rfl (e_lt rfl rfl) trivial ?_
           refine p_step rfl (e_assign (v := .sc _) rfl) trivial ?_
           refine p_end (hK40 _ ?_); clear hK40 K40
           refine pwp_cond rfl (fun hb41 => ?_) (fun hb41 => ?_)
           ·have hb41R := hb41; (try simp only [z1, z2, z3, z4, z5, z6, ne_eq, z7, z8, z9, z10, z11, z12] at hb41); (try (have hts : termsE ts = 0 := hb41)); (try (have hyy := hire_get hH (p := x.part) hb41; obtain ⟨a, ha, hae⟩ := hyy; have hil := ix_lt (ts := ts) (p := x.part) hb41))
            refine pwp_seq_plain rfl fun K42 hK42 => ?_
            refine p_step rfl (e_assign (v := .sc _) rfl) trivial ?_
            refine p_end (hK42 _ ?_); clear hK42 K42
            refine pwp_ret ?_
            refine ret_block ?_
            refine ret_seq ?_
            refine ret_block ?_
            refine ret_seq ?_
            refine ret_loop ?_
            refine ret_block ?_
            refine ret_seq ?_
            refine end1 (v := .sc _) rfl ?_
            first
              | exact out_i (tmE_1 (by assumption))
              | exact out_i (tmE_2 hts (movE_big (by omega)))
              | exact out_i (tmE_2 hts (movE_go (by omega) hinv))
              | exact out_i (tmE_2 hts (movE_go (by omega) (goM_stop hinv (by decide) (mvE_2 (by unfold badM; omega)))))
              | exact out_i (tmE_2 hts (movE_go (by omega) (goM_stop hinv (by decide) (mvE_10 (by unfold badM; omega) (by omega)))))
              | exact out_i (tmE_2 hts (movE_go (by omega) (goM_stop hinv (by decide) (mvE_6 (by unfold badM; omega) (by omega) (by omega)))))
              | exact out_i (tmE_2 hts (movE_go (by omega) (goM_stop hinv (by decide) (mvE_22 (by unfold badM; omega) (by omega) (by omega) (by unfold stkL; omega)))))
           ·have hb41R := hb41; (try simp only [z1, z2, z3, z4, z5, z6, ne_eq, z7, z8, z9, z10, z11, z12] at hb41); (try (have hts : termsE ts = 0 := hb41)); (try (have hyy := hire_get hH (p := x.part) hb41; obtain ⟨a, ha, hae⟩ := hyy; have hil := ix_lt (ts := ts) (p := x.part) hb41))
            refine pwp_seq_plain rfl fun K43 hK43 => ?_
            refine p_step rfl (e_move (v := .sc _) rfl) trivial ?_
            refine p_step rfl (e_lt rfl rfl) trivial ?_
            refine p_step rfl (e_assign (v := .sc _) rfl) trivial ?_
            refine p_end (hK43 _ ?_); clear hK43 K43
            refine pwp_cond rfl (fun hb44 => ?_) (fun hb44 => ?_)
            ·have hb44R := hb44; (try simp only [z1, z2, z3, z4, z5, z6, ne_eq, z7, z8, z9, z10, z11, z12] at hb44); (try (have hts : termsE ts = 0 := hb44)); (try (have hyy := hire_get hH (p := x.part) hb44; obtain ⟨a, ha, hae⟩ := hyy; have hil := ix_lt (ts := ts) (p := x.part) hb44))
             refine pwp_seq_plain rfl fun K45 hK45 => ?_
             refine p_step rfl (e_assign (v := .sc _) rfl) trivial ?_
             refine p_end (hK45 _ ?_); clear hK45 K45
             refine pwp_ret ?_
             refine ret_block ?_
             refine ret_seq ?_
             refine ret_block ?_
             refine ret_seq ?_
             refine ret_loop ?_
             refine ret_block ?_
             refine ret_seq ?_
             refine end1 (v := .sc _) rfl ?_
             first
               | exact out_i (tmE_1 (by assumption))
               | exact out_i (tmE_2 hts (movE_big (by omega)))
               | exact out_i (tmE_2 hts (movE_go (by omega) hinv))
               | exact out_i (tmE_2 hts (movE_go (by omega) (goM_stop hinv (by decide) (mvE_2 (by unfold badM; omega)))))
               | exact out_i (tmE_2 hts (movE_go (by omega) (goM_stop hinv (by decide) (mvE_10 (by unfold badM; omega) (by omega)))))
               | exact out_i (tmE_2 hts (movE_go (by omega) (goM_stop hinv (by decide) (mvE_6 (by unfold badM; omega) (by omega) (by omega)))))
               | exact out_i (tmE_2 hts (movE_go (by omega) (goM_stop hinv (by decide) (mvE_22 (by unfold badM; omega) (by omega) (by omega) (by unfold stkL; omega)))))
            ·have hb44R := hb44; (try simp only [z1, z2, z3, z4, z5, z6, ne_eq, z7, z8, z9, z10, z11, z12] at hb44); (try (have hts : termsE ts = 0 := hb44)); (try (have hyy := hire_get hH (p := x.part) hb44; obtain ⟨a, ha, hae⟩ := hyy; have hil := ix_lt (ts := ts) (p := x.part) hb44))
             refine pwp_seq_gops rfl fun K46 hK46 => ?_
             refine g_begin ?_
             refine g_step rfl rfl rfl rfl (e_faP (pl := [(0, 1, false), (1, 1, false), (2, 1, false), (3, 1, false)]) rfl (by kernel_rfl) (by kernel_rfl) (by decide) rfl) trivial ?_
             refine g_step rfl rfl rfl rfl (e_loadH (v := .sc _) rfl (hset_self _ _ _) (by kernel_rfl) (by kernel_rfl) (by kernel_rfl) (by exact Nat.zero_lt_one) (by decide) rfl) trivial ?_
             refine g_step rfl rfl rfl rfl (e_ne rfl rfl) trivial ?_
             refine g_step rfl rfl rfl rfl (e_move (v := .sc _) rfl) trivial ?_
             refine g_cases (fun hb47 => ?_) (fun hb47 => ?_)
             ·have hb47R := hb47; (try simp only [z1, z2, z3, z4, z5, z6, ne_eq, z7, z8, z9, z10, z11, z12] at hb47); (try (have hts : termsE ts = 0 := hb47)); (try (have hyy := hire_get hH (p := x.part) hb47; obtain ⟨a, ha, hae⟩ := hyy; have hil := ix_lt (ts := ts) (p := x.part) hb47))
              refine g_step rfl rfl rfl rfl (e_move (v := .ref _ _ _ _) rfl) trivial ?_
              refine g_step rfl rfl rfl rfl (e_move (v := .sc _) rfl) trivial ?_
              refine g_step rfl rfl rfl rfl (e_ixaR0 rfl rfl (by kernel_rfl) (by kernel_rfl) (by omega)) trivial ?_
              refine g_step rfl rfl rfl rfl (e_loadI (a := a) rfl ((hset_ne (key_ne rfl)).trans ((hset_ne (key_ne rfl)).trans hihj19_0)) (by kernel_rfl) (by kernel_rfl) (by kernel_rfl) ha) trivial ?_
              refine g_step rfl rfl rfl rfl (e_faP (pl := [(0, 1, false), (1, 1, false), (2, 1, false), (3, 1, false)]) rfl (by kernel_rfl) (by kernel_rfl) (by decide) rfl) trivial ?_
              refine g_step rfl rfl rfl rfl (e_loadH (v := .sc _) rfl (hset_self _ _ _) (by kernel_rfl) (by kernel_rfl) (by kernel_rfl) (by exact Nat.zero_lt_one) (by decide) rfl) trivial ?_
              refine g_step rfl rfl rfl rfl (e_lt rfl rfl) trivial ?_
              refine g_step rfl rfl rfl rfl (e_pickT (v := .sc _) rfl rfl) trivial ?_
              refine g_step rfl rfl rfl rfl (e_assign (v := .sc _) rfl) trivial ?_
              refine g_end (ds := [74, 75, 76, 77, 78, 79, 80]) (by kernel_rfl) rfl (hK46 _ ?_); clear hK46 K46
              refine pwp_cond rfl (fun hb48 => ?_) (fun hb48 => ?_)
              ·have hb48R := hb48; (try simp only [z1, z2, z3, z4, z5, z6, ne_eq, z7, z8, z9, z10, z11, z12] at hb48); (try (have hts : termsE ts = 0 := hb48)); (try (have hyy := hire_get hH (p := x.part) hb48; obtain ⟨a, ha, hae⟩ := hyy; have hil := ix_lt (ts := ts) (p := x.part) hb48))
               refine pwp_seq_plain rfl fun K49 hK49 => ?_
               refine p_step rfl (e_assign (v := .sc _) rfl) trivial ?_
               refine p_end (hK49 _ ?_); clear hK49 K49
               refine pwp_ret ?_
               refine ret_block ?_
               refine ret_seq ?_
               refine ret_block ?_
               refine ret_seq ?_
               refine ret_loop ?_
               refine ret_block ?_
               refine ret_seq ?_
               refine end1 (v := .sc _) rfl ?_
               first
                 | exact out_i (tmE_1 (by assumption))
                 | exact out_i (tmE_2 hts (movE_big (by omega)))
                 | exact out_i (tmE_2 hts (movE_go (by omega) hinv))
                 | exact out_i (tmE_2 hts (movE_go (by omega) (goM_stop hinv (by decide) (mvE_2 (by unfold badM; omega)))))
                 | exact out_i (tmE_2 hts (movE_go (by omega) (goM_stop hinv (by decide) (mvE_10 (by unfold badM; omega) (by omega)))))
                 | exact out_i (tmE_2 hts (movE_go (by omega) (goM_stop hinv (by decide) (mvE_6 (by unfold badM; omega) (by omega) (by omega)))))
                 | exact out_i (tmE_2 hts (movE_go (by omega) (goM_stop hinv (by decide) (mvE_22 (by unfold badM; omega) (by omega) (by omega) (by unfold stkL; omega)))))
              ·have hb48R := hb48; (try simp only [z1, z2, z3, z4, z5, z6, ne_eq, z7, z8, z9, z10, z11, z12] at hb48); (try (have hts : termsE ts = 0 := hb48)); (try (have hyy := hire_get hH (p := x.part) hb48; obtain ⟨a, ha, hae⟩ := hyy; have hil := ix_lt (ts := ts) (p := x.part) hb48))
               refine pwp_skip ?_
               refine block_norm ?_
               refine seq_norm (hK26 _ ?_); clear hK26 K26
               refine pwp_seq_plain rfl fun K50 hK50 => ?_
               refine p_step rfl (e_faP (pl := [(0, 1, false), (1, 1, false), (2, 1, false), (3, 1, false)]) rfl (by kernel_rfl) (by kernel_rfl) (by decide) rfl) trivial ?_
               refine p_step rfl (e_loadH (v := .sc _) rfl (hset_self _ _ _) (by kernel_rfl) (by kernel_rfl) (by kernel_rfl) (by exact Nat.zero_lt_one) (by decide) rfl) trivial ?_
               refine p_step rfl (e_assign (v := .sc _) rfl) trivial ?_
               refine p_end (hK50 _ ?_); clear hK50 K50
               refine pwp_seq_plain rfl fun K51 hK51 => ?_
               refine p_step rfl (e_faP (pl := [(0, 1, false), (1, 1, false), (2, 1, false), (3, 1, false)]) rfl (by kernel_rfl) (by kernel_rfl) (by decide) rfl) trivial ?_
               refine p_step rfl (e_loadH (v := .sc _) rfl (hset_self _ _ _) (by kernel_rfl) (by kernel_rfl) (by kernel_rfl) (by exact Nat.zero_lt_one) (by decide) rfl) trivial ?_
               refine p_step rfl (e_eq rfl rfl) trivial ?_
               refine p_end (hK51 _ ?_); clear hK51 K51
               refine pwp_cond rfl (fun hb52 => ?_) (fun hb52 => ?_)
               ·have hb52R := hb52; (try simp only [z1, z2, z3, z4, z5, z6, ne_eq, z7, z8, z9, z10, z11, z12] at hb52); (try (have hts : termsE ts = 0 := hb52)); (try (have hyy := hire_get hH (p := x.part) hb52; obtain ⟨a, ha, hae⟩ := hyy; have hil := ix_lt (ts := ts) (p := x.part) hb52))
                refine pwp_gops rfl fun K53 hK53 => ?_
                refine s_begin ?_
                refine s_step [] (by simp) rfl rfl rfl rfl (e_move (v := .ref _ _ _ _) rfl) trivial ?_
                refine s_step [] (by simp) rfl rfl rfl rfl (e_move (v := .sc _) rfl) trivial ?_
                refine s_step [] (by simp) rfl rfl rfl rfl (e_ixaR0 rfl rfl (by kernel_rfl) (by kernel_rfl) (by omega)) trivial ?_
                refine s_step [21] (by simp) rfl rfl rfl rfl (e_loadI (a := a) rfl ((hset_ne (key_ne rfl)).trans ((hset_ne (key_ne rfl)).trans hihj19_0)) (by kernel_rfl) (by kernel_rfl) (by kernel_rfl) ha) trivial ?_
                refine s_step [] (by simp) rfl rfl rfl rfl (e_faP (pl := [(0, 1, false), (1, 1, false), (2, 1, false), (3, 1, false)]) rfl (by kernel_rfl) (by kernel_rfl) (by decide) rfl) trivial ?_
                refine s_step [9] (by simp) rfl rfl rfl rfl (e_loadH (v := .sc _) rfl (hset_self _ _ _) (by kernel_rfl) (by kernel_rfl) (by kernel_rfl) (by exact Nat.zero_lt_one) (by decide) rfl) trivial ?_
                refine s_step [] (by simp) rfl rfl rfl rfl (e_add rfl rfl (by omega)) trivial ?_
                refine s_step [] (by simp) rfl rfl rfl rfl (e_ixaR0 rfl rfl (by kernel_rfl) (by kernel_rfl) (by omega)) trivial ?_
                refine s_store [21] (by simp) rfl rfl (e_storeI (zs := zs) (a := (a + x.count)) rfl ((hset_ne (key_ne rfl)).trans ((hset_ne (key_ne rfl)).trans hihj19_0)) rfl (by omega) (by kernel_rfl) (by kernel_rfl)) trivial ?_
                refine s_end (ds := []) (by kernel_rfl) (by kernel_rfl) (hK53 _ ?_); clear hK53 K53
                refine block_norm ?_
                refine seq_norm (hK23 _ ?_); clear hK23 K23
                refine pwp_plain rfl fun K54 hK54 => ?_
                refine p_step rfl (e_add rfl rfl (by omega)) trivial ?_
                refine p_step rfl (e_move (v := .sc _) rfl) trivial ?_
                refine p_end (hK54 _ ?_); clear hK54 K54
                exact loop_again ((k + 1, x.day, ((zs).set ((termIx (ts) x.part)).toNat (a + x.count)))) (by show _ < _; simp only; omega) ⟨rfl, rfl, rfl, rfl, trivial⟩ ⟨rfl, rfl, trivial⟩ (by exact ⟨by show _ + 1 ≤ _; omega, by (rw [ht]; exact goM_next hinv (mvE_0 (by unfold badM; omega) (by omega) (by omega) (by unfold stkL; omega))), by exact ok_next hokk hx (by unfold badM; omega), by (rw [ht]; first | (exfalso; omega) | exact hire_step hts hH (ok_next hokk hx (by unfold badM; omega) x (by rw [ht]; simp)) (by omega) ha (by rw [if_pos (by omega)]) | exact hire_step hts hH (ok_next hokk hx (by unfold badM; omega) x (by rw [ht]; simp)) (by omega) ha (by rw [if_neg (by omega)])), (hset_self _ _ _)⟩)
               ·have hb52R := hb52; (try simp only [z1, z2, z3, z4, z5, z6, ne_eq, z7, z8, z9, z10, z11, z12] at hb52); (try (have hts : termsE ts = 0 := hb52)); (try (have hyy := hire_get hH (p := x.part) hb52; obtain ⟨a, ha, hae⟩ := hyy; have hil := ix_lt (ts := ts) (p := x.part) hb52))
                refine pwp_gops rfl fun K55 hK55 => ?_
                refine s_begin ?_
                refine s_step [] (by simp) rfl rfl rfl rfl (e_move (v := .ref _ _ _ _) rfl) trivial ?_
                refine s_step [] (by simp) rfl rfl rfl rfl (e_move (v := .sc _) rfl) trivial ?_
                refine s_step [] (by simp) rfl rfl rfl rfl (e_ixaR0 rfl rfl (by kernel_rfl) (by kernel_rfl) (by omega)) trivial ?_
                refine s_step [21] (by simp) rfl rfl rfl rfl (e_loadI (a := a) rfl ((hset_ne (key_ne rfl)).trans ((hset_ne (key_ne rfl)).trans hihj19_0)) (by kernel_rfl) (by kernel_rfl) (by kernel_rfl) ha) trivial ?_
                refine s_step [] (by simp) rfl rfl rfl rfl (e_faP (pl := [(0, 1, false), (1, 1, false), (2, 1, false), (3, 1, false)]) rfl (by kernel_rfl) (by kernel_rfl) (by decide) rfl) trivial ?_
                refine s_step [9] (by simp) rfl rfl rfl rfl (e_loadH (v := .sc _) rfl (hset_self _ _ _) (by kernel_rfl) (by kernel_rfl) (by kernel_rfl) (by exact Nat.zero_lt_one) (by decide) rfl) trivial ?_
                refine s_step [] (by simp) rfl rfl rfl rfl (e_sub rfl rfl (by omega)) trivial ?_
                refine s_step [] (by simp) rfl rfl rfl rfl (e_ixaR0 rfl rfl (by kernel_rfl) (by kernel_rfl) (by omega)) trivial ?_
                refine s_store [21] (by simp) rfl rfl (e_storeI (zs := zs) (a := (a - x.count)) rfl ((hset_ne (key_ne rfl)).trans ((hset_ne (key_ne rfl)).trans hihj19_0)) rfl (by omega) (by kernel_rfl) (by kernel_rfl)) trivial ?_
                refine s_end (ds := []) (by kernel_rfl) (by kernel_rfl) (hK55 _ ?_); clear hK55 K55
                refine block_norm ?_
                refine seq_norm (hK23 _ ?_); clear hK23 K23
                refine pwp_plain rfl fun K56 hK56 => ?_
                refine p_step rfl (e_add rfl rfl (by omega)) trivial ?_
                refine p_step rfl (e_move (v := .sc _) rfl) trivial ?_
                refine p_end (hK56 _ ?_); clear hK56 K56
                exact loop_again ((k + 1, x.day, ((zs).set ((termIx (ts) x.part)).toNat (a - x.count)))) (by show _ < _; simp only; omega) ⟨rfl, rfl, rfl, rfl, trivial⟩ ⟨rfl, rfl, trivial⟩ (by exact ⟨by show _ + 1 ≤ _; omega, by (rw [ht]; exact goM_next hinv (mvE_0 (by unfold badM; omega) (by omega) (by omega) (by unfold stkL; omega))), by exact ok_next hokk hx (by unfold badM; omega), by (rw [ht]; first | (exfalso; omega) | exact hire_step hts hH (ok_next hokk hx (by unfold badM; omega) x (by rw [ht]; simp)) (by omega) ha (by rw [if_pos (by omega)]) | exact hire_step hts hH (ok_next hokk hx (by unfold badM; omega) x (by rw [ht]; simp)) (by omega) ha (by rw [if_neg (by omega)])), (hset_self _ _ _)⟩)
             ·have hb47R := hb47; (try simp only [z1, z2, z3, z4, z5, z6, ne_eq, z7, z8, z9, z10, z11, z12] at hb47); (try (have hts : termsE ts = 0 := hb47)); (try (have hyy := hire_get hH (p := x.part) hb47; obtain ⟨a, ha, hae⟩ := hyy; have hil := ix_lt (ts := ts) (p := x.part) hb47))
              refine g_skip rfl rfl rfl ?_
              refine g_skip rfl rfl rfl ?_
              refine g_skip rfl rfl rfl ?_
              refine g_skip rfl rfl rfl ?_
              refine g_skip rfl rfl rfl ?_
              refine g_skip rfl rfl rfl ?_
              refine g_skip rfl rfl rfl ?_
              refine g_step rfl rfl rfl rfl (e_pickF (v := .sc _) rfl rfl) trivial ?_
              refine g_step rfl rfl rfl rfl (e_assign (v := .sc _) rfl) trivial ?_
              refine g_end (ds := [74, 75, 76, 77, 78, 79, 80]) (by kernel_rfl) rfl (hK46 _ ?_); clear hK46 K46
              refine pwp_cond (t := false) rfl nofun (fun _ => ?_)
              refine pwp_skip ?_
              refine block_norm ?_
              refine seq_norm (hK26 _ ?_); clear hK26 K26
              refine pwp_seq_plain rfl fun K57 hK57 => ?_
              refine p_step rfl (e_faP (pl := [(0, 1, false), (1, 1, false), (2, 1, false), (3, 1, false)]) rfl (by kernel_rfl) (by kernel_rfl) (by decide) rfl) trivial ?_
              refine p_step rfl (e_loadH (v := .sc _) rfl (hset_self _ _ _) (by kernel_rfl) (by kernel_rfl) (by kernel_rfl) (by exact Nat.zero_lt_one) (by decide) rfl) trivial ?_
              refine p_step rfl (e_assign (v := .sc _) rfl) trivial ?_
              refine p_end (hK57 _ ?_); clear hK57 K57
              refine pwp_seq_plain rfl fun K58 hK58 => ?_
              refine p_step rfl (e_faP (pl := [(0, 1, false), (1, 1, false), (2, 1, false), (3, 1, false)]) rfl (by kernel_rfl) (by kernel_rfl) (by decide) rfl) trivial ?_
              refine p_step rfl (e_loadH (v := .sc _) rfl (hset_self _ _ _) (by kernel_rfl) (by kernel_rfl) (by kernel_rfl) (by exact Nat.zero_lt_one) (by decide) rfl) trivial ?_
              refine p_step rfl (e_eq rfl rfl) trivial ?_
              refine p_end (hK58 _ ?_); clear hK58 K58
              refine pwp_cond rfl (fun hb59 => ?_) (fun hb59 => ?_)
              ·have hb59R := hb59; (try simp only [z1, z2, z3, z4, z5, z6, ne_eq, z7, z8, z9, z10, z11, z12] at hb59); (try (have hts : termsE ts = 0 := hb59)); (try (have hyy := hire_get hH (p := x.part) hb59; obtain ⟨a, ha, hae⟩ := hyy; have hil := ix_lt (ts := ts) (p := x.part) hb59))
               refine pwp_gops rfl fun K60 hK60 => ?_
               refine s_begin ?_
               refine s_step [] (by simp) rfl rfl rfl rfl (e_move (v := .ref _ _ _ _) rfl) trivial ?_
               refine s_step [] (by simp) rfl rfl rfl rfl (e_move (v := .sc _) rfl) trivial ?_
               refine s_step [] (by simp) rfl rfl rfl rfl (e_ixaR0 rfl rfl (by kernel_rfl) (by kernel_rfl) (by omega)) trivial ?_
               refine s_step [21] (by simp) rfl rfl rfl rfl (e_loadI (a := a) rfl ((hset_ne (key_ne rfl)).trans ((hset_ne (key_ne rfl)).trans hihj19_0)) (by kernel_rfl) (by kernel_rfl) (by kernel_rfl) ha) trivial ?_
               refine s_step [] (by simp) rfl rfl rfl rfl (e_faP (pl := [(0, 1, false), (1, 1, false), (2, 1, false), (3, 1, false)]) rfl (by kernel_rfl) (by kernel_rfl) (by decide) rfl) trivial ?_
               refine s_step [9] (by simp) rfl rfl rfl rfl (e_loadH (v := .sc _) rfl (hset_self _ _ _) (by kernel_rfl) (by kernel_rfl) (by kernel_rfl) (by exact Nat.zero_lt_one) (by decide) rfl) trivial ?_
               refine s_step [] (by simp) rfl rfl rfl rfl (e_add rfl rfl (by omega)) trivial ?_
               refine s_step [] (by simp) rfl rfl rfl rfl (e_ixaR0 rfl rfl (by kernel_rfl) (by kernel_rfl) (by omega)) trivial ?_
               refine s_store [21] (by simp) rfl rfl (e_storeI (zs := zs) (a := (a + x.count)) rfl ((hset_ne (key_ne rfl)).trans ((hset_ne (key_ne rfl)).trans hihj19_0)) rfl (by omega) (by kernel_rfl) (by kernel_rfl)) trivial ?_
               refine s_end (ds := []) (by kernel_rfl) (by kernel_rfl) (hK60 _ ?_); clear hK60 K60
               refine block_norm ?_
               refine seq_norm (hK23 _ ?_); clear hK23 K23
               refine pwp_plain rfl fun K61 hK61 => ?_
               refine p_step rfl (e_add rfl rfl (by omega)) trivial ?_
               refine p_step rfl (e_move (v := .sc _) rfl) trivial ?_
               refine p_end (hK61 _ ?_); clear hK61 K61
               exact loop_again ((k + 1, x.day, ((zs).set ((termIx (ts) x.part)).toNat (a + x.count)))) (by show _ < _; simp only; omega) ⟨rfl, rfl, rfl, rfl, trivial⟩ ⟨rfl, rfl, trivial⟩ (by exact ⟨by show _ + 1 ≤ _; omega, by (rw [ht]; exact goM_next hinv (mvE_0 (by unfold badM; omega) (by omega) (by omega) (by unfold stkL; omega))), by exact ok_next hokk hx (by unfold badM; omega), by (rw [ht]; first | (exfalso; omega) | exact hire_step hts hH (ok_next hokk hx (by unfold badM; omega) x (by rw [ht]; simp)) (by omega) ha (by rw [if_pos (by omega)]) | exact hire_step hts hH (ok_next hokk hx (by unfold badM; omega) x (by rw [ht]; simp)) (by omega) ha (by rw [if_neg (by omega)])), (hset_self _ _ _)⟩)
              ·have hb59R := hb59; (try simp only [z1, z2, z3, z4, z5, z6, ne_eq, z7, z8, z9, z10, z11, z12] at hb59); (try (have hts : termsE ts = 0 := hb59)); (try (have hyy := hire_get hH (p := x.part) hb59; obtain ⟨a, ha, hae⟩ := hyy; have hil := ix_lt (ts := ts) (p := x.part) hb59))
               refine pwp_gops rfl fun K62 hK62 => ?_
               refine s_begin ?_
               refine s_step [] (by simp) rfl rfl rfl rfl (e_move (v := .ref _ _ _ _) rfl) trivial ?_
               refine s_step [] (by simp) rfl rfl rfl rfl (e_move (v := .sc _) rfl) trivial ?_
               refine s_step [] (by simp) rfl rfl rfl rfl (e_ixaR0 rfl rfl (by kernel_rfl) (by kernel_rfl) (by omega)) trivial ?_
               refine s_step [21] (by simp) rfl rfl rfl rfl (e_loadI (a := a) rfl ((hset_ne (key_ne rfl)).trans ((hset_ne (key_ne rfl)).trans hihj19_0)) (by kernel_rfl) (by kernel_rfl) (by kernel_rfl) ha) trivial ?_
               refine s_step [] (by simp) rfl rfl rfl rfl (e_faP (pl := [(0, 1, false), (1, 1, false), (2, 1, false), (3, 1, false)]) rfl (by kernel_rfl) (by kernel_rfl) (by decide) rfl) trivial ?_
               refine s_step [9] (by simp) rfl rfl rfl rfl (e_loadH (v := .sc _) rfl (hset_self _ _ _) (by kernel_rfl) (by kernel_rfl) (by kernel_rfl) (by exact Nat.zero_lt_one) (by decide) rfl) trivial ?_
               refine s_step [] (by simp) rfl rfl rfl rfl (e_sub rfl rfl (by omega)) trivial ?_
               refine s_step [] (by simp) rfl rfl rfl rfl (e_ixaR0 rfl rfl (by kernel_rfl) (by kernel_rfl) (by omega)) trivial ?_
               refine s_store [21] (by simp) rfl rfl (e_storeI (zs := zs) (a := (a - x.count)) rfl ((hset_ne (key_ne rfl)).trans ((hset_ne (key_ne rfl)).trans hihj19_0)) rfl (by omega) (by kernel_rfl) (by kernel_rfl)) trivial ?_
               refine s_end (ds := []) (by kernel_rfl) (by kernel_rfl) (hK62 _ ?_); clear hK62 K62
               refine block_norm ?_
               refine seq_norm (hK23 _ ?_); clear hK23 K23
               refine pwp_plain rfl fun K63 hK63 => ?_
               refine p_step rfl (e_add rfl rfl (by omega)) trivial ?_
               refine p_step rfl (e_move (v := .sc _) rfl) trivial ?_
               refine p_end (hK63 _ ?_); clear hK63 K63
               exact loop_again ((k + 1, x.day, ((zs).set ((termIx (ts) x.part)).toNat (a - x.count)))) (by show _ < _; simp only; omega) ⟨rfl, rfl, rfl, rfl, trivial⟩ ⟨rfl, rfl, trivial⟩ (by exact ⟨by show _ + 1 ≤ _; omega, by (rw [ht]; exact goM_next hinv (mvE_0 (by unfold badM; omega) (by omega) (by omega) (by unfold stkL; omega))), by exact ok_next hokk hx (by unfold badM; omega), by (rw [ht]; first | (exfalso; omega) | exact hire_step hts hH (ok_next hokk hx (by unfold badM; omega) x (by rw [ht]; simp)) (by omega) ha (by rw [if_pos (by omega)]) | exact hire_step hts hH (ok_next hokk hx (by unfold badM; omega) x (by rw [ht]; simp)) (by omega) ha (by rw [if_neg (by omega)])), (hset_self _ _ _)⟩)
    ·have hb22R := hb22; (try simp only [z1, z2, z3, z4, z5, z6, ne_eq, z7, z8, z9, z10, z11, z12] at hb22); (try (have hts : termsE ts = 0 := hb22)); (try (have hyy := hire_get hH (p := x.part) hb22; obtain ⟨a, ha, hae⟩ := hyy; have hil := ix_lt (ts := ts) (p := x.part) hb22))
     obtain rfl : k = ms.length := by omega
     rw [List.drop_length] at hinv; simp only [goM] at hinv
     refine pwp_exit ?_
     refine exit_seq ?_
     clear hK21 K21
     refine exit_loop ?_
     refine exit_here ?_
     refine seq_norm (hK14 _ ?_); clear hK14 K14
     refine pwp_seq_plain rfl fun K64 hK64 => ?_
     refine p_step rfl (e_assign (v := .sc _) rfl) trivial ?_
     refine p_end (hK64 _ ?_); clear hK64 K64
     refine pwp_ret ?_
     refine end1 (v := .sc _) rfl ?_
     first
       | exact out_i (tmE_1 (by assumption))
       | exact out_i (tmE_2 hts (movE_big (by omega)))
       | exact out_i (tmE_2 hts (movE_go (by omega) hinv))
       | exact out_i (tmE_2 hts (movE_go (by omega) (goM_stop hinv (by decide) (mvE_2 (by unfold badM; omega)))))
       | exact out_i (tmE_2 hts (movE_go (by omega) (goM_stop hinv (by decide) (mvE_10 (by unfold badM; omega) (by omega)))))
       | exact out_i (tmE_2 hts (movE_go (by omega) (goM_stop hinv (by decide) (mvE_6 (by unfold badM; omega) (by omega) (by omega)))))
       | exact out_i (tmE_2 hts (movE_go (by omega) (goM_stop hinv (by decide) (mvE_22 (by unfold badM; omega) (by omega) (by omega) (by unfold stkL; omega)))))

end Go.Proofs.Ytdbpfhbppcpbbaa
