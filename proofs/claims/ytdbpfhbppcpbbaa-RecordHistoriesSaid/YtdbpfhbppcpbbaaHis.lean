/- RecordHistories, as a contract on pure values. No conditions. -/
import Derived.Test.YtdbpfhbppcpbbaaRef4
import Derived.Test.YtdbpfhbppcpbbaaCor1
set_option linter.unusedSimpArgs false
set_option linter.unusedVariables false
set_option maxRecDepth 100000
namespace Go.Proofs.Ytdbpfhbppcpbbaa
open Go Go.Pv

/-! ### What the law asks of a history -/
def hisZ (evs : List Ev) (x : Days) : Int := (if ((decide ((if ((decide ((if ((decide ((recE (evs)) = (0))) && ((!(decide (0 ≤ x.fro ∧ x.fro ≤ 20000))) || (!(decide (0 ≤ x.til ∧ x.til ≤ 20000))))) = true then (2) else (recE (evs))) = (0))) && (decide (x.til < x.fro))) = true then (10) else (if ((decide ((recE (evs)) = (0))) && ((!(decide (0 ≤ x.fro ∧ x.fro ≤ 20000))) || (!(decide (0 ≤ x.til ∧ x.til ≤ 20000))))) = true then (2) else (recE (evs)))) = (0))) && (!(hasS (platE (evs)) x.platform))) = true then (6) else (if ((decide ((if ((decide ((recE (evs)) = (0))) && ((!(decide (0 ≤ x.fro ∧ x.fro ≤ 20000))) || (!(decide (0 ≤ x.til ∧ x.til ≤ 20000))))) = true then (2) else (recE (evs))) = (0))) && (decide (x.til < x.fro))) = true then (10) else (if ((decide ((recE (evs)) = (0))) && ((!(decide (0 ≤ x.fro ∧ x.fro ≤ 20000))) || (!(decide (0 ≤ x.til ∧ x.til ≤ 20000))))) = true then (2) else (recE (evs)))))
theorem hisZ_eq (evs : List Ev) (x : Days) : hisZ evs x = if recE evs ≠ 0 then recE evs else if chdE x.fro x.til ≠ 0 then chdE x.fro x.til else if hasS (platE evs) x.platform = false then 6 else 0 := by
  unfold hisZ chdE
  by_cases h0 : recE evs = 0
  · rw [h0]
    by_cases h1 : 0 ≤ x.fro ∧ x.fro ≤ 20000
    · by_cases h2 : 0 ≤ x.til ∧ x.til ≤ 20000
      · by_cases h3 : x.til < x.fro
        · simp [h1, h2, h3]
        · cases hp : hasS (platE evs) x.platform <;> simp [h1, h2, h3]
      · simp [h1, h2]
    · simp [h1]
  · simp [h0]
theorem his_zero' {evs : List Ev} {x : Days} (h : hisZ evs x = 0) : recE evs = 0 ∧ chdE x.fro x.til = 0 ∧ hasS (platE evs) x.platform = true ∧ (0 ≤ x.fro ∧ x.til ≤ 20000 ∧ x.fro ≤ x.til) := by
  rw [hisZ_eq] at h
  split at h
  · rename_i h1; exact absurd h h1
  · rename_i h1
    have h1' : recE evs = 0 := by simpa using h1
    split at h
    · rename_i h2; exact absurd h h2
    · rename_i h2
      have h2' : chdE x.fro x.til = 0 := by simpa using h2
      have h4 := chd_inv h2'
      split at h
      · cases h
      · rename_i h3
        exact ⟨h1', h2', by simpa using h3, by omega, by omega, by omega⟩
theorem his_zero {evs : List Ev} {x : Days} (h : decide ((if ((decide ((if ((decide ((if ((decide ((recE (evs)) = (0))) && ((!(decide (0 ≤ x.fro ∧ x.fro ≤ 20000))) || (!(decide (0 ≤ x.til ∧ x.til ≤ 20000))))) = true then (2) else (recE (evs))) = (0))) && (decide (x.til < x.fro))) = true then (10) else (if ((decide ((recE (evs)) = (0))) && ((!(decide (0 ≤ x.fro ∧ x.fro ≤ 20000))) || (!(decide (0 ≤ x.til ∧ x.til ≤ 20000))))) = true then (2) else (recE (evs)))) = (0))) && (!(hasS (platE (evs)) x.platform))) = true then (6) else (if ((decide ((if ((decide ((recE (evs)) = (0))) && ((!(decide (0 ≤ x.fro ∧ x.fro ≤ 20000))) || (!(decide (0 ≤ x.til ∧ x.til ≤ 20000))))) = true then (2) else (recE (evs))) = (0))) && (decide (x.til < x.fro))) = true then (10) else (if ((decide ((recE (evs)) = (0))) && ((!(decide (0 ≤ x.fro ∧ x.fro ≤ 20000))) || (!(decide (0 ≤ x.til ∧ x.til ≤ 20000))))) = true then (2) else (recE (evs))))) ≠ (0)) = false) : recE evs = 0 ∧ chdE x.fro x.til = 0 ∧ hasS (platE evs) x.platform = true ∧ (0 ≤ x.fro ∧ x.til ≤ 20000 ∧ x.fro ≤ x.til) := his_zero' (by have h2 := of_decide_eq_false h; exact Decidable.not_not.1 h2)
theorem ask_of {evs : List Ev} {p : ByteArray} {d : Int} (h0 : recE evs = 0) (hd : 0 ≤ d ∧ d ≤ 20000) : askE evs p d = if hasS (platE evs) p = false then 6 else 0 := by
  rw [askE, if_neg (by simpa using h0), if_neg (by simpa using hd)]
theorem hisErr_eq (evs : List Ev) (x : Days) : hisErr evs x.platform x.fro x.til = hisZ evs x := by
  rw [hisZ_eq]
  unfold hisErr
  by_cases h0 : recE evs = 0
  · by_cases h1 : chdE x.fro x.til = 0
    · have h2 := ask_of (p := x.platform) h0 (chd_inv h1).1
      simp only [h0, h1, h2, ne_eq, not_true_eq_false, if_false]
    · simp only [h0, h1, ne_eq, not_true_eq_false, not_false_eq_true, if_false, if_true]
  · simp only [h0, ne_eq, not_false_eq_true, if_true]
theorem hisT_nil {evs : List Ev} {x : Days} (h : ¬ hisZ evs x = 0) : hisT evs x.platform x.fro x.til = [] := by
  rw [hisT, if_neg]
  rintro ⟨h0, h1, h2⟩
  rw [ask_of h0 (chd_inv h1).1] at h2
  rw [hisZ_eq, if_neg (by simpa using h0), if_neg (by simpa using h1)] at h
  exact h h2
theorem his_fin {evs : List Ev} {x : Days} (hz : recE evs = 0 ∧ chdE x.fro x.til = 0 ∧ hasS (platE evs) x.platform = true ∧ (0 ≤ x.fro ∧ x.til ≤ 20000 ∧ x.fro ≤ x.til)) : hisErr evs x.platform x.fro x.til = 0 ∧ hisT evs x.platform x.fro x.til = hisE (tgR x.platform evs) x.fro x.til := by
  obtain ⟨h0, h1, h2, _⟩ := hz
  have hp : x.platform ≠ ⟨#[]⟩ := (plat_mem.1 (hasS_iff.1 h2)).1
  have ha : askE evs x.platform x.fro = 0 := by rw [ask_of h0 (chd_inv h1).1, h2]; rfl
  refine ⟨by rw [hisErr, if_neg (by simpa using h0), if_neg (by simpa using h1), ha], ?_⟩
  rw [hisT, if_pos ⟨h0, h1, ha⟩]
  exact hisGo_congr (fun d => (tg_agree h0 hp).symm) _ _ _
theorem hisStep_len (t d : Int) (acc : List Span) : (hisStep t d acc).length ≤ acc.length + 1 := by
  unfold hisStep
  split
  · split <;> simp
  · simp
theorem hisGo_len (f : Int → Int) : ∀ (n : Nat) (d : Int) (acc : List Span), (hisGo f n d acc).length ≤ acc.length + n
  | 0, _, acc => by simp [hisGo]
  | n + 1, d, acc => by
    have h1 := hisGo_len f n (d + 1) (hisStep (f d) d acc)
    have h2 := hisStep_len (f d) d acc
    unfold hisGo; omega
theorem his_len {f : Int → Int} {a b : Int} (h : 0 ≤ a ∧ b ≤ 20000 ∧ a ≤ b) : (hisE f a b).length ≤ 1000000 := by
  have := hisGo_len f (b + 1 - a).toNat a []
  unfold hisE
  simp at this; omega
theorem his_bad {evs : List Ev} {x : Days} {b : Bool} (hl : evs.length ≤ 405) (h : decide ((if ((decide ((if ((decide ((if ((decide ((recE (evs)) = (0))) && ((!(decide (0 ≤ x.fro ∧ x.fro ≤ 20000))) || (!(decide (0 ≤ x.til ∧ x.til ≤ 20000))))) = true then (2) else (recE (evs))) = (0))) && (decide (x.til < x.fro))) = true then (10) else (if ((decide ((recE (evs)) = (0))) && ((!(decide (0 ≤ x.fro ∧ x.fro ≤ 20000))) || (!(decide (0 ≤ x.til ∧ x.til ≤ 20000))))) = true then (2) else (recE (evs)))) = (0))) && (!(hasS (platE (evs)) x.platform))) = true then (6) else (if ((decide ((if ((decide ((recE (evs)) = (0))) && ((!(decide (0 ≤ x.fro ∧ x.fro ≤ 20000))) || (!(decide (0 ≤ x.til ∧ x.til ≤ 20000))))) = true then (2) else (recE (evs))) = (0))) && (decide (x.til < x.fro))) = true then (10) else (if ((decide ((recE (evs)) = (0))) && ((!(decide (0 ≤ x.fro ∧ x.fro ≤ 20000))) || (!(decide (0 ≤ x.til ∧ x.til ≤ 20000))))) = true then (2) else (recE (evs))))) ≠ (0)) = true) (hb : ((decide ((hisErr (evs) x.platform x.fro x.til) = (if ((decide ((if ((decide ((if ((decide ((recE (evs)) = (0))) && ((!(decide (0 ≤ x.fro ∧ x.fro ≤ 20000))) || (!(decide (0 ≤ x.til ∧ x.til ≤ 20000))))) = true then (2) else (recE (evs))) = (0))) && (decide (x.til < x.fro))) = true then (10) else (if ((decide ((recE (evs)) = (0))) && ((!(decide (0 ≤ x.fro ∧ x.fro ≤ 20000))) || (!(decide (0 ≤ x.til ∧ x.til ≤ 20000))))) = true then (2) else (recE (evs)))) = (0))) && (!(hasS (platE (evs)) x.platform))) = true then (6) else (if ((decide ((if ((decide ((recE (evs)) = (0))) && ((!(decide (0 ≤ x.fro ∧ x.fro ≤ 20000))) || (!(decide (0 ≤ x.til ∧ x.til ≤ 20000))))) = true then (2) else (recE (evs))) = (0))) && (decide (x.til < x.fro))) = true then (10) else (if ((decide ((recE (evs)) = (0))) && ((!(decide (0 ≤ x.fro ∧ x.fro ≤ 20000))) || (!(decide (0 ≤ x.til ∧ x.til ≤ 20000))))) = true then (2) else (recE (evs))))))) && (decide (((((hisT (evs) x.platform x.fro x.til).map Span.enc).length : Nat) : Int) = (0)))) = b) : b = true := by
  have h' : ¬ hisZ evs x = 0 := of_decide_eq_true h
  have e : hisErr evs x.platform x.fro x.til = (if ((decide ((if ((decide ((if ((decide ((recE (evs)) = (0))) && ((!(decide (0 ≤ x.fro ∧ x.fro ≤ 20000))) || (!(decide (0 ≤ x.til ∧ x.til ≤ 20000))))) = true then (2) else (recE (evs))) = (0))) && (decide (x.til < x.fro))) = true then (10) else (if ((decide ((recE (evs)) = (0))) && ((!(decide (0 ≤ x.fro ∧ x.fro ≤ 20000))) || (!(decide (0 ≤ x.til ∧ x.til ≤ 20000))))) = true then (2) else (recE (evs)))) = (0))) && (!(hasS (platE (evs)) x.platform))) = true then (6) else (if ((decide ((if ((decide ((recE (evs)) = (0))) && ((!(decide (0 ≤ x.fro ∧ x.fro ≤ 20000))) || (!(decide (0 ≤ x.til ∧ x.til ≤ 20000))))) = true then (2) else (recE (evs))) = (0))) && (decide (x.til < x.fro))) = true then (10) else (if ((decide ((recE (evs)) = (0))) && ((!(decide (0 ≤ x.fro ∧ x.fro ≤ 20000))) || (!(decide (0 ≤ x.til ∧ x.til ≤ 20000))))) = true then (2) else (recE (evs))))) := hisErr_eq evs x
  rw [← hb, decide_eq_true e, hisT_nil h']
  rfl
theorem his_good {evs : List Ev} {x : Days} {b : Bool} (hz : recE evs = 0 ∧ chdE x.fro x.til = 0 ∧ hasS (platE evs) x.platform = true ∧ (0 ≤ x.fro ∧ x.til ≤ 20000 ∧ x.fro ≤ x.til)) (hb : ((decide ((hisErr (evs) x.platform x.fro x.til) = (0))) && (decide ((hisT (evs) x.platform x.fro x.til) = (hisE (tgR x.platform (evs)) x.fro x.til)))) = b) : b = true := by
  rw [← hb, decide_eq_true (his_fin hz).1, decide_eq_true (his_fin hz).2]
  rfl

theorem fr3 : (inFrame Try.f3.ntmps (Try.f3.body.getD .skip) && Try.f3.results.toList.all (resScope Try.f3.ntmps)) = true := by kernel_rfl
theorem histories (evs : List Ev) (x : Days) : PCalls Try.prog 3 [.lit true 6 (evs.map Ev.enc), .agg x.enc] (.bool true) := by
  refine PCalls.of_code Try.func3 rfl rfl (by kernel_rfl) mixed fr3 (by show _ ≤ 108; simp) (.sc _) ?_
  refine pwp_seq_plain rfl fun K1 hK1 => ?_
  refine p_new rfl (e_box (n := 3) rfl rfl) ⟨rfl, by decide⟩ ?_
  refine p_step rfl (e_assign (v := .sc _) rfl) trivial ?_
  refine p_end (hK1 _ ?_); clear hK1 K1
  refine pwp_seq_seq ?_
  refine pwp_seq_plain rfl fun K2 hK2 => ?_
  refine p_call rfl .nil (awake) ?_
  refine p_step rfl (e_not rfl) trivial ?_
  refine p_end (hK2 _ ?_); clear hK2 K2
  refine pwp_seq_cond (t := false) rfl fun K3 hK3 => ⟨nofun, fun _ => ?_⟩
  refine pwp_skip ?_
  refine seq_norm (hK3 _ ?_); clear hK3 K3
  refine pwp_seq_seq ?_
  refine pwp_seq_cutG [0, 3] [(36, .bool (((!(shortB (evs))) || (decide ((30) < ((x.platform).size : Int)))) || (((decide (0 ≤ x.fro ∧ x.fro ≤ 20000)) && (decide (0 ≤ x.til ∧ x.til ≤ 20000))) && (decide ((60) < (x.til - x.fro))))))] (fun K4 hK4 => ?_) (fun r5 => ?_)
  · skip
    refine pwp_gops rfl fun K6 hK6 => ?_
    refine g_begin ?_
    refine g_step rfl rfl rfl rfl (e_move (v := .lit _ _ _) rfl) trivial ?_
    refine g_call rfl rfl rfl rfl (.cons inn_lit .nil) (short _) ?_
    refine g_step rfl rfl rfl rfl (e_not rfl) trivial ?_
    refine g_step rfl rfl rfl rfl (e_move (v := .sc _) rfl) trivial ?_
    refine g_cases (fun hb7 => ?_) (fun hb7 => ?_)
    · have hb7R := hb7; (try simp only [z1, z2, z3, z4, z5, z6, ne_eq, z7, z8, z9, z10, z11, z12] at hb7); (try (have hlen405 := short_len hb7.1.1)); (try (have hz := his_zero hb7R))
      refine g_skip rfl rfl rfl ?_
      refine g_skip rfl rfl rfl ?_
      refine g_skip rfl rfl rfl ?_
      refine g_skip rfl rfl rfl ?_
      refine g_step rfl rfl rfl rfl (e_pickT (v := .sc _) rfl rfl) trivial ?_
      refine g_step rfl rfl rfl rfl (e_move (v := .sc _) rfl) trivial ?_
      refine g_skip rfl rfl rfl ?_
      refine g_skip rfl rfl rfl ?_
      refine g_nocall rfl rfl rfl ?_
      refine g_skip rfl rfl rfl ?_
      refine g_skip rfl rfl rfl ?_
      refine g_skip rfl rfl rfl ?_
      refine g_nocall rfl rfl rfl ?_
      refine g_skip rfl rfl rfl ?_
      refine g_skip rfl rfl rfl ?_
      refine g_skip rfl rfl rfl ?_
      refine g_skip rfl rfl rfl ?_
      refine g_skip rfl rfl rfl ?_
      refine g_skip rfl rfl rfl ?_
      refine g_skip rfl rfl rfl ?_
      refine g_skip rfl rfl rfl ?_
      refine g_skip rfl rfl rfl ?_
      refine g_step rfl rfl rfl rfl (e_pickT (v := .sc _) rfl rfl) trivial ?_
      refine g_end (ds := [14, 15, 16, 17, 20, 21, 22, 23, 24, 25, 26, 27, 28, 29, 30, 31, 32, 33, 34, 35]) rfl rfl (hK6 _ ?_); clear hK6 K6
      exact seq_norm (hK4 _ ⟨rfl, rfl, trivial⟩ ⟨(congrArg PV.bool (show (true : Bool) = (((!(shortB (evs))) || (decide ((30) < ((x.platform).size : Int)))) || (((decide (0 ≤ x.fro ∧ x.fro ≤ 20000)) && (decide (0 ≤ x.til ∧ x.til ≤ 20000))) && (decide ((60) < (x.til - x.fro))))) by first | rfl | ((try rw [hb7R]) <;> (first | rfl | (simp only [Bool.and_true, Bool.and_false, Bool.true_and, Bool.false_and, Bool.or_true, Bool.or_false, Bool.true_or, Bool.false_or, Bool.not_true, Bool.not_false, if_true, if_false, Bool.false_eq_true, reduceIte] <;> rfl))) | (simp only [hb7R, Bool.and_true, Bool.and_false, Bool.true_and, Bool.false_and, Bool.or_true, Bool.or_false, Bool.true_or, Bool.false_or, Bool.not_true, Bool.not_false, if_true, if_false, Bool.false_eq_true, reduceIte] <;> rfl))), trivial⟩)
    · have hb7R := hb7; (try simp only [z1, z2, z3, z4, z5, z6, ne_eq, z7, z8, z9, z10, z11, z12] at hb7); (try (have hlen405 := short_len hb7.1.1)); (try (have hz := his_zero hb7R))
      refine g_step rfl rfl rfl rfl (e_faP (pl := [(0, 1, false), (1, 1, false), (2, 1, false)]) rfl (by kernel_rfl) (by kernel_rfl) (by decide) rfl) trivial ?_
      refine g_step rfl rfl rfl rfl (e_loadH (v := .sc _) rfl (hset_self _ _ _) (by kernel_rfl) (by kernel_rfl) (by kernel_rfl) (by exact Nat.zero_lt_one) (by decide) rfl) trivial ?_
      refine g_step rfl rfl rfl rfl (e_lenS rfl (by kernel_rfl)) trivial ?_
      refine g_step rfl rfl rfl rfl (e_gt rfl rfl) trivial ?_
      refine g_step rfl rfl rfl rfl (e_pickF (v := .sc _) rfl rfl) trivial ?_
      refine g_step rfl rfl rfl rfl (e_move (v := .sc _) rfl) trivial ?_
      refine g_cases (fun hb8 => ?_) (fun hb8 => ?_)
      · have hb8R := hb8; (try simp only [z1, z2, z3, z4, z5, z6, ne_eq, z7, z8, z9, z10, z11, z12] at hb8); (try (have hlen405 := short_len hb8.1.1)); (try (have hz := his_zero hb8R))
        refine g_skip rfl rfl rfl ?_
        refine g_skip rfl rfl rfl ?_
        refine g_nocall rfl rfl rfl ?_
        refine g_skip rfl rfl rfl ?_
        refine g_skip rfl rfl rfl ?_
        refine g_skip rfl rfl rfl ?_
        refine g_nocall rfl rfl rfl ?_
        refine g_skip rfl rfl rfl ?_
        refine g_skip rfl rfl rfl ?_
        refine g_skip rfl rfl rfl ?_
        refine g_skip rfl rfl rfl ?_
        refine g_skip rfl rfl rfl ?_
        refine g_skip rfl rfl rfl ?_
        refine g_skip rfl rfl rfl ?_
        refine g_skip rfl rfl rfl ?_
        refine g_skip rfl rfl rfl ?_
        refine g_step rfl rfl rfl rfl (e_pickT (v := .sc _) rfl rfl) trivial ?_
        refine g_end (ds := [14, 15, 16, 17, 20, 21, 22, 23, 24, 25, 26, 27, 28, 29, 30, 31, 32, 33, 34, 35]) rfl rfl (hK6 _ ?_); clear hK6 K6
        exact seq_norm (hK4 _ ⟨rfl, rfl, trivial⟩ ⟨(congrArg PV.bool (show (true : Bool) = (((!(shortB (evs))) || (decide ((30) < ((x.platform).size : Int)))) || (((decide (0 ≤ x.fro ∧ x.fro ≤ 20000)) && (decide (0 ≤ x.til ∧ x.til ≤ 20000))) && (decide ((60) < (x.til - x.fro))))) by first | rfl | ((try rw [hb8R]) <;> (try rw [hb7R]) <;> (first | rfl | (simp only [Bool.and_true, Bool.and_false, Bool.true_and, Bool.false_and, Bool.or_true, Bool.or_false, Bool.true_or, Bool.false_or, Bool.not_true, Bool.not_false, if_true, if_false, Bool.false_eq_true, reduceIte] <;> rfl))) | (simp only [hb7R, hb8R, Bool.and_true, Bool.and_false, Bool.true_and, Bool.false_and, Bool.or_true, Bool.or_false, Bool.true_or, Bool.false_or, Bool.not_true, Bool.not_false, if_true, if_false, Bool.false_eq_true, reduceIte] <;> rfl))), trivial⟩)
      · have hb8R := hb8; (try simp only [z1, z2, z3, z4, z5, z6, ne_eq, z7, z8, z9, z10, z11, z12] at hb8); (try (have hlen405 := short_len hb8.1.1)); (try (have hz := his_zero hb8R))
        refine g_step rfl rfl rfl rfl (e_faP (pl := [(0, 1, false), (1, 1, false), (2, 1, false)]) rfl (by kernel_rfl) (by kernel_rfl) (by decide) rfl) trivial ?_
        refine g_step rfl rfl rfl rfl (e_loadH (v := .sc _) rfl (hset_self _ _ _) (by kernel_rfl) (by kernel_rfl) (by kernel_rfl) (by exact Nat.zero_lt_one) (by decide) rfl) trivial ?_
        refine g_call rfl rfl rfl rfl (.cons inn_sc .nil) (IsDay _) ?_
        refine g_step rfl rfl rfl rfl (e_move (v := .sc _) rfl) trivial ?_
        refine g_cases (fun hb9 => ?_) (fun hb9 => ?_)
        · have hb9R := hb9; (try simp only [z1, z2, z3, z4, z5, z6, ne_eq, z7, z8, z9, z10, z11, z12] at hb9); (try (have hlen405 := short_len hb9.1.1)); (try (have hz := his_zero hb9R))
          refine g_step rfl rfl rfl rfl (e_faP (pl := [(0, 1, false), (1, 1, false), (2, 1, false)]) rfl (by kernel_rfl) (by kernel_rfl) (by decide) rfl) trivial ?_
          refine g_step rfl rfl rfl rfl (e_loadH (v := .sc _) rfl (hset_self _ _ _) (by kernel_rfl) (by kernel_rfl) (by kernel_rfl) (by exact Nat.zero_lt_one) (by decide) rfl) trivial ?_
          refine g_call rfl rfl rfl rfl (.cons inn_sc .nil) (IsDay _) ?_
          refine g_step rfl rfl rfl rfl (e_pickT (v := .sc _) rfl rfl) trivial ?_
          refine g_step rfl rfl rfl rfl (e_move (v := .sc _) rfl) trivial ?_
          refine g_cases (fun hb10 => ?_) (fun hb10 => ?_)
          · have hb10R := hb10; (try simp only [z1, z2, z3, z4, z5, z6, ne_eq, z7, z8, z9, z10, z11, z12] at hb10); (try (have hlen405 := short_len hb10.1.1)); (try (have hz := his_zero hb10R))
            refine g_step rfl rfl rfl rfl (e_faP (pl := [(0, 1, false), (1, 1, false), (2, 1, false)]) rfl (by kernel_rfl) (by kernel_rfl) (by decide) rfl) trivial ?_
            refine g_step rfl rfl rfl rfl (e_loadH (v := .sc _) rfl (hset_self _ _ _) (by kernel_rfl) (by kernel_rfl) (by kernel_rfl) (by exact Nat.zero_lt_one) (by decide) rfl) trivial ?_
            refine g_step rfl rfl rfl rfl (e_faP (pl := [(0, 1, false), (1, 1, false), (2, 1, false)]) rfl (by kernel_rfl) (by kernel_rfl) (by decide) rfl) trivial ?_
            refine g_step rfl rfl rfl rfl (e_loadH (v := .sc _) rfl (hset_self _ _ _) (by kernel_rfl) (by kernel_rfl) (by kernel_rfl) (by exact Nat.zero_lt_one) (by decide) rfl) trivial ?_
            refine g_step rfl rfl rfl rfl (e_sub rfl rfl (by omega)) trivial ?_
            refine g_step rfl rfl rfl rfl (e_gt rfl rfl) trivial ?_
            refine g_step rfl rfl rfl rfl (e_pickT (v := .sc _) rfl rfl) trivial ?_
            refine g_step rfl rfl rfl rfl (e_pickF (v := .sc _) rfl rfl) trivial ?_
            refine g_end (ds := [14, 15, 16, 17, 20, 21, 22, 23, 24, 25, 26, 27, 28, 29, 30, 31, 32, 33, 34, 35]) rfl rfl (hK6 _ ?_); clear hK6 K6
            exact seq_norm (hK4 _ ⟨rfl, rfl, trivial⟩ ⟨(congrArg PV.bool (show ((decide ((60) < (x.til - x.fro))) : Bool) = (((!(shortB (evs))) || (decide ((30) < ((x.platform).size : Int)))) || (((decide (0 ≤ x.fro ∧ x.fro ≤ 20000)) && (decide (0 ≤ x.til ∧ x.til ≤ 20000))) && (decide ((60) < (x.til - x.fro))))) by first | rfl | ((try rw [hb10R]) <;> (try rw [hb9R]) <;> (try rw [hb8R]) <;> (try rw [hb7R]) <;> (first | rfl | (simp only [Bool.and_true, Bool.and_false, Bool.true_and, Bool.false_and, Bool.or_true, Bool.or_false, Bool.true_or, Bool.false_or, Bool.not_true, Bool.not_false, if_true, if_false, Bool.false_eq_true, reduceIte] <;> rfl))) | (simp only [hb7R, hb8R, hb9R, hb10R, Bool.and_true, Bool.and_false, Bool.true_and, Bool.false_and, Bool.or_true, Bool.or_false, Bool.true_or, Bool.false_or, Bool.not_true, Bool.not_false, if_true, if_false, Bool.false_eq_true, reduceIte] <;> rfl))), trivial⟩)
          · have hb10R := hb10; (try simp only [z1, z2, z3, z4, z5, z6, ne_eq, z7, z8, z9, z10, z11, z12] at hb10); (try (have hlen405 := short_len hb10.1.1)); (try (have hz := his_zero hb10R))
            refine g_skip rfl rfl rfl ?_
            refine g_skip rfl rfl rfl ?_
            refine g_skip rfl rfl rfl ?_
            refine g_skip rfl rfl rfl ?_
            refine g_skip rfl rfl rfl ?_
            refine g_skip rfl rfl rfl ?_
            refine g_step rfl rfl rfl rfl (e_pickF (v := .sc _) rfl rfl) trivial ?_
            refine g_step rfl rfl rfl rfl (e_pickF (v := .sc _) rfl rfl) trivial ?_
            refine g_end (ds := [14, 15, 16, 17, 20, 21, 22, 23, 24, 25, 26, 27, 28, 29, 30, 31, 32, 33, 34, 35]) rfl rfl (hK6 _ ?_); clear hK6 K6
            exact seq_norm (hK4 _ ⟨rfl, rfl, trivial⟩ ⟨(congrArg PV.bool (show (false : Bool) = (((!(shortB (evs))) || (decide ((30) < ((x.platform).size : Int)))) || (((decide (0 ≤ x.fro ∧ x.fro ≤ 20000)) && (decide (0 ≤ x.til ∧ x.til ≤ 20000))) && (decide ((60) < (x.til - x.fro))))) by first | rfl | ((try rw [hb10R]) <;> (try rw [hb9R]) <;> (try rw [hb8R]) <;> (try rw [hb7R]) <;> (first | rfl | (simp only [Bool.and_true, Bool.and_false, Bool.true_and, Bool.false_and, Bool.or_true, Bool.or_false, Bool.true_or, Bool.false_or, Bool.not_true, Bool.not_false, if_true, if_false, Bool.false_eq_true, reduceIte] <;> rfl))) | (simp only [hb7R, hb8R, hb9R, hb10R, Bool.and_true, Bool.and_false, Bool.true_and, Bool.false_and, Bool.or_true, Bool.or_false, Bool.true_or, Bool.false_or, Bool.not_true, Bool.not_false, if_true, if_false, Bool.false_eq_true, reduceIte] <;> rfl))), trivial⟩)
        · have hb9R := hb9; (try simp only [z1, z2, z3, z4, z5, z6, ne_eq, z7, z8, z9, z10, z11, z12] at hb9); (try (have hlen405 := short_len hb9.1.1)); (try (have hz := his_zero hb9R))
          refine g_skip rfl rfl rfl ?_
          refine g_skip rfl rfl rfl ?_
          refine g_nocall rfl rfl rfl ?_
          refine g_step rfl rfl rfl rfl (e_pickF (v := .sc _) rfl rfl) trivial ?_
          refine g_step rfl rfl rfl rfl (e_move (v := .sc _) rfl) trivial ?_
          refine g_skip rfl rfl rfl ?_
          refine g_skip rfl rfl rfl ?_
          refine g_skip rfl rfl rfl ?_
          refine g_skip rfl rfl rfl ?_
          refine g_skip rfl rfl rfl ?_
          refine g_skip rfl rfl rfl ?_
          refine g_step rfl rfl rfl rfl (e_pickF (v := .sc _) rfl rfl) trivial ?_
          refine g_step rfl rfl rfl rfl (e_pickF (v := .sc _) rfl rfl) trivial ?_
          refine g_end (ds := [14, 15, 16, 17, 20, 21, 22, 23, 24, 25, 26, 27, 28, 29, 30, 31, 32, 33, 34, 35]) rfl rfl (hK6 _ ?_); clear hK6 K6
          exact seq_norm (hK4 _ ⟨rfl, rfl, trivial⟩ ⟨(congrArg PV.bool (show (false : Bool) = (((!(shortB (evs))) || (decide ((30) < ((x.platform).size : Int)))) || (((decide (0 ≤ x.fro ∧ x.fro ≤ 20000)) && (decide (0 ≤ x.til ∧ x.til ≤ 20000))) && (decide ((60) < (x.til - x.fro))))) by first | rfl | ((try rw [hb9R]) <;> (try rw [hb8R]) <;> (try rw [hb7R]) <;> (first | rfl | (simp only [Bool.and_true, Bool.and_false, Bool.true_and, Bool.false_and, Bool.or_true, Bool.or_false, Bool.true_or, Bool.false_or, Bool.not_true, Bool.not_false, if_true, if_false, Bool.false_eq_true, reduceIte] <;> rfl))) | (simp only [hb7R, hb8R, hb9R, Bool.and_true, Bool.and_false, Bool.true_and, Bool.false_and, Bool.or_true, Bool.or_false, Bool.true_or, Bool.false_or, Bool.not_true, Bool.not_false, if_true, if_false, Bool.false_eq_true, reduceIte] <;> rfl))), trivial⟩)
  · skip
    refine pwp_seq_cond rfl fun K11 hK11 => ⟨fun hb12 => ?_, fun hb12 => ?_⟩
    · have hb12R := hb12; (try simp only [z1, z2, z3, z4, z5, z6, ne_eq, z7, z8, z9, z10, z11, z12] at hb12); (try (have hlen405 := short_len hb12.1.1)); (try (have hz := his_zero hb12R))
      refine pwp_seq_plain rfl fun K13 hK13 => ?_
      refine p_step rfl (e_assign (v := .sc _) rfl) trivial ?_
      refine p_end (hK13 _ ?_); clear hK13 K13
      refine pwp_ret ?_
      refine ret_seq ?_
      refine end1 (v := .sc _) rfl ?_
      first
        | exact out_b rfl
        | exact out_b (his_bad hlen405 (by assumption) rfl)
        | exact out_b (his_good hz rfl)
    · have hb12R := hb12; (try simp only [z1, z2, z3, z4, z5, z6, ne_eq, z7, z8, z9, z10, z11, z12] at hb12); (try (have hlen405 := short_len hb12.1.1)); (try (have hz := his_zero hb12R))
      refine pwp_skip ?_
      refine seq_norm (hK11 _ ?_); clear hK11 K11
      refine pwp_seq_gops rfl fun K14 hK14 => ?_
      refine g_begin ?_
      refine g_step rfl rfl rfl rfl (e_move (v := .lit _ _ _) rfl) trivial ?_
      refine g_call rfl rfl rfl rfl (.cons inn_lit .nil) (copied _ hlen405) ?_
      refine g_step rfl rfl rfl rfl (e_faP (pl := [(0, 1, false), (1, 1, false), (2, 1, false)]) rfl (by kernel_rfl) (by kernel_rfl) (by decide) rfl) trivial ?_
      refine g_step rfl rfl rfl rfl (e_loadH (v := .sc _) rfl (hset_self _ _ _) (by kernel_rfl) (by kernel_rfl) (by kernel_rfl) (by exact Nat.zero_lt_one) (by decide) rfl) trivial ?_
      refine g_step rfl rfl rfl rfl (e_faP (pl := [(0, 1, false), (1, 1, false), (2, 1, false)]) rfl (by kernel_rfl) (by kernel_rfl) (by decide) rfl) trivial ?_
      refine g_step rfl rfl rfl rfl (e_loadH (v := .sc _) rfl (hset_self _ _ _) (by kernel_rfl) (by kernel_rfl) (by kernel_rfl) (by exact Nat.zero_lt_one) (by decide) rfl) trivial ?_
      refine g_step rfl rfl rfl rfl (e_faP (pl := [(0, 1, false), (1, 1, false), (2, 1, false)]) rfl (by kernel_rfl) (by kernel_rfl) (by decide) rfl) trivial ?_
      refine g_step rfl rfl rfl rfl (e_loadH (v := .sc _) rfl (hset_self _ _ _) (by kernel_rfl) (by kernel_rfl) (by kernel_rfl) (by exact Nat.zero_lt_one) (by decide) rfl) trivial ?_
      refine g_call rfl rfl rfl rfl (.cons inn_lit (.cons inn_sc (.cons inn_sc (.cons inn_sc .nil)))) (History _ _ _ _ hlen405) ?_
      refine g_step rfl rfl rfl rfl (e_move (v := .tup _) rfl) trivial ?_
      refine g_step rfl rfl rfl rfl (e_ext (v := .lit _ _ _) rfl (by simp) rfl) trivial ?_
      refine g_step rfl rfl rfl rfl (e_ext (v := .sc _) rfl (by simp) rfl) trivial ?_
      refine g_step rfl rfl rfl rfl (e_assign (v := .lit _ _ _) rfl) trivial ?_
      refine g_step rfl rfl rfl rfl (e_assign (v := .sc _) rfl) trivial ?_
      refine g_end (ds := []) (by kernel_rfl) rfl (hK14 _ ?_); clear hK14 K14
      refine pwp_seq_plain rfl fun K15 hK15 => ?_
      refine p_step rfl (e_move (v := .lit _ _ _) rfl) trivial ?_
      refine p_call rfl (.cons inn_lit .nil) (refCheckRecord _ hlen405) ?_
      refine p_step rfl (e_assign (v := .sc _) rfl) trivial ?_
      refine p_end (hK15 _ ?_); clear hK15 K15
      refine pwp_seq_seq ?_
      refine pwp_seq_cutG [0, 3, 5, 6, 7] [(64, .bool ((decide ((recE (evs)) = (0))) && ((!(decide (0 ≤ x.fro ∧ x.fro ≤ 20000))) || (!(decide (0 ≤ x.til ∧ x.til ≤ 20000))))))] (fun K16 hK16 => ?_) (fun r17 => ?_)
      · skip
        refine pwp_gops rfl fun K18 hK18 => ?_
        refine g_begin ?_
        refine g_step rfl rfl rfl rfl (e_move (v := .sc _) rfl) trivial ?_
        refine g_step rfl rfl rfl rfl (e_eq rfl rfl) trivial ?_
        refine g_step rfl rfl rfl rfl (e_move (v := .sc _) rfl) trivial ?_
        refine g_cases (fun hb19 => ?_) (fun hb19 => ?_)
        · have hb19R := hb19; (try simp only [z1, z2, z3, z4, z5, z6, ne_eq, z7, z8, z9, z10, z11, z12] at hb19); (try (have hlen405 := short_len hb19.1.1)); (try (have hz := his_zero hb19R))
          refine g_step rfl rfl rfl rfl (e_faP (pl := [(0, 1, false), (1, 1, false), (2, 1, false)]) rfl (by kernel_rfl) (by kernel_rfl) (by decide) rfl) trivial ?_
          refine g_step rfl rfl rfl rfl (e_loadH (v := .sc _) rfl (hset_self _ _ _) (by kernel_rfl) (by kernel_rfl) (by kernel_rfl) (by exact Nat.zero_lt_one) (by decide) rfl) trivial ?_
          refine g_call rfl rfl rfl rfl (.cons inn_sc .nil) (IsDay _) ?_
          refine g_step rfl rfl rfl rfl (e_not rfl) trivial ?_
          refine g_step rfl rfl rfl rfl (e_move (v := .sc _) rfl) trivial ?_
          refine g_cases (fun hb20 => ?_) (fun hb20 => ?_)
          · have hb20R := hb20; (try simp only [z1, z2, z3, z4, z5, z6, ne_eq, z7, z8, z9, z10, z11, z12] at hb20); (try (have hlen405 := short_len hb20.1.1)); (try (have hz := his_zero hb20R))
            refine g_skip rfl rfl rfl ?_
            refine g_skip rfl rfl rfl ?_
            refine g_nocall rfl rfl rfl ?_
            refine g_skip rfl rfl rfl ?_
            refine g_step rfl rfl rfl rfl (e_pickT (v := .sc _) rfl rfl) trivial ?_
            refine g_step rfl rfl rfl rfl (e_pickT (v := .sc _) rfl rfl) trivial ?_
            refine g_end (ds := [54, 55, 56, 57, 58, 59, 60, 61, 62, 63]) rfl rfl (hK18 _ ?_); clear hK18 K18
            exact seq_norm (hK16 _ ⟨rfl, rfl, rfl, rfl, rfl, trivial⟩ ⟨(congrArg PV.bool (show (true : Bool) = ((decide ((recE (evs)) = (0))) && ((!(decide (0 ≤ x.fro ∧ x.fro ≤ 20000))) || (!(decide (0 ≤ x.til ∧ x.til ≤ 20000))))) by first | rfl | ((try rw [hb20R]) <;> (try rw [hb19R]) <;> (first | rfl | (simp only [Bool.and_true, Bool.and_false, Bool.true_and, Bool.false_and, Bool.or_true, Bool.or_false, Bool.true_or, Bool.false_or, Bool.not_true, Bool.not_false, if_true, if_false, Bool.false_eq_true, reduceIte] <;> rfl))) | (simp only [hb19R, hb20R, Bool.and_true, Bool.and_false, Bool.true_and, Bool.false_and, Bool.or_true, Bool.or_false, Bool.true_or, Bool.false_or, Bool.not_true, Bool.not_false, if_true, if_false, Bool.false_eq_true, reduceIte] <;> rfl))), trivial⟩)
          · have hb20R := hb20; (try simp only [z1, z2, z3, z4, z5, z6, ne_eq, z7, z8, z9, z10, z11, z12] at hb20); (try (have hlen405 := short_len hb20.1.1)); (try (have hz := his_zero hb20R))
            refine g_step rfl rfl rfl rfl (e_faP (pl := [(0, 1, false), (1, 1, false), (2, 1, false)]) rfl (by kernel_rfl) (by kernel_rfl) (by decide) rfl) trivial ?_
            refine g_step rfl rfl rfl rfl (e_loadH (v := .sc _) rfl (hset_self _ _ _) (by kernel_rfl) (by kernel_rfl) (by kernel_rfl) (by exact Nat.zero_lt_one) (by decide) rfl) trivial ?_
            refine g_call rfl rfl rfl rfl (.cons inn_sc .nil) (IsDay _) ?_
            refine g_step rfl rfl rfl rfl (e_not rfl) trivial ?_
            refine g_step rfl rfl rfl rfl (e_pickF (v := .sc _) rfl rfl) trivial ?_
            refine g_step rfl rfl rfl rfl (e_pickT (v := .sc _) rfl rfl) trivial ?_
            refine g_end (ds := [54, 55, 56, 57, 58, 59, 60, 61, 62, 63]) rfl rfl (hK18 _ ?_); clear hK18 K18
            exact seq_norm (hK16 _ ⟨rfl, rfl, rfl, rfl, rfl, trivial⟩ ⟨(congrArg PV.bool (show ((!(decide (0 ≤ x.til ∧ x.til ≤ 20000))) : Bool) = ((decide ((recE (evs)) = (0))) && ((!(decide (0 ≤ x.fro ∧ x.fro ≤ 20000))) || (!(decide (0 ≤ x.til ∧ x.til ≤ 20000))))) by first | rfl | ((try rw [hb20R]) <;> (try rw [hb19R]) <;> (first | rfl | (simp only [Bool.and_true, Bool.and_false, Bool.true_and, Bool.false_and, Bool.or_true, Bool.or_false, Bool.true_or, Bool.false_or, Bool.not_true, Bool.not_false, if_true, if_false, Bool.false_eq_true, reduceIte] <;> rfl))) | (simp only [hb19R, hb20R, Bool.and_true, Bool.and_false, Bool.true_and, Bool.false_and, Bool.or_true, Bool.or_false, Bool.true_or, Bool.false_or, Bool.not_true, Bool.not_false, if_true, if_false, Bool.false_eq_true, reduceIte] <;> rfl))), trivial⟩)
        · have hb19R := hb19; (try simp only [z1, z2, z3, z4, z5, z6, ne_eq, z7, z8, z9, z10, z11, z12] at hb19); (try (have hlen405 := short_len hb19.1.1)); (try (have hz := his_zero hb19R))
          refine g_skip rfl rfl rfl ?_
          refine g_skip rfl rfl rfl ?_
          refine g_nocall rfl rfl rfl ?_
          refine g_skip rfl rfl rfl ?_
          refine g_skip rfl rfl rfl ?_
          refine g_skip rfl rfl rfl ?_
          refine g_skip rfl rfl rfl ?_
          refine g_nocall rfl rfl rfl ?_
          refine g_skip rfl rfl rfl ?_
          refine g_skip rfl rfl rfl ?_
          refine g_step rfl rfl rfl rfl (e_pickF (v := .sc _) rfl rfl) trivial ?_
          refine g_end (ds := [54, 55, 56, 57, 58, 59, 60, 61, 62, 63]) rfl rfl (hK18 _ ?_); clear hK18 K18
          exact seq_norm (hK16 _ ⟨rfl, rfl, rfl, rfl, rfl, trivial⟩ ⟨(congrArg PV.bool (show (false : Bool) = ((decide ((recE (evs)) = (0))) && ((!(decide (0 ≤ x.fro ∧ x.fro ≤ 20000))) || (!(decide (0 ≤ x.til ∧ x.til ≤ 20000))))) by first | rfl | ((try rw [hb19R]) <;> (first | rfl | (simp only [Bool.and_true, Bool.and_false, Bool.true_and, Bool.false_and, Bool.or_true, Bool.or_false, Bool.true_or, Bool.false_or, Bool.not_true, Bool.not_false, if_true, if_false, Bool.false_eq_true, reduceIte] <;> rfl))) | (simp only [hb19R, Bool.and_true, Bool.and_false, Bool.true_and, Bool.false_and, Bool.or_true, Bool.or_false, Bool.true_or, Bool.false_or, Bool.not_true, Bool.not_false, if_true, if_false, Bool.false_eq_true, reduceIte] <;> rfl))), trivial⟩)
      · skip
        refine pwp_seq_cutG [0, 3, 5, 6] [(7, .int (if ((decide ((recE (evs)) = (0))) && ((!(decide (0 ≤ x.fro ∧ x.fro ≤ 20000))) || (!(decide (0 ≤ x.til ∧ x.til ≤ 20000))))) = true then (2) else (recE (evs))))] (fun K21 hK21 => ?_) (fun r22 => ?_)
        · skip
          refine pwp_cond rfl (fun hb23 => ?_) (fun hb23 => ?_)
          · have hb23R := hb23; (try simp only [z1, z2, z3, z4, z5, z6, ne_eq, z7, z8, z9, z10, z11, z12] at hb23); (try (have hlen405 := short_len hb23.1.1)); (try (have hz := his_zero hb23R))
            refine pwp_plain rfl fun K24 hK24 => ?_
            refine p_step rfl (e_assign (v := .sc _) rfl) trivial ?_
            refine p_end (hK24 _ ?_); clear hK24 K24
            exact seq_norm (hK21 _ ⟨rfl, rfl, rfl, rfl, trivial⟩ ⟨(congrArg PV.int (show ((2) : Int) = (if ((decide ((recE (evs)) = (0))) && ((!(decide (0 ≤ x.fro ∧ x.fro ≤ 20000))) || (!(decide (0 ≤ x.til ∧ x.til ≤ 20000))))) = true then (2) else (recE (evs))) by first | rfl | ((try rw [hb23R]) <;> (first | rfl | (simp only [Bool.and_true, Bool.and_false, Bool.true_and, Bool.false_and, Bool.or_true, Bool.or_false, Bool.true_or, Bool.false_or, Bool.not_true, Bool.not_false, if_true, if_false, Bool.false_eq_true, reduceIte] <;> rfl))) | (simp only [hb23R, Bool.and_true, Bool.and_false, Bool.true_and, Bool.false_and, Bool.or_true, Bool.or_false, Bool.true_or, Bool.false_or, Bool.not_true, Bool.not_false, if_true, if_false, Bool.false_eq_true, reduceIte] <;> rfl))), trivial⟩)
          · have hb23R := hb23; (try simp only [z1, z2, z3, z4, z5, z6, ne_eq, z7, z8, z9, z10, z11, z12] at hb23); (try (have hlen405 := short_len hb23.1.1)); (try (have hz := his_zero hb23R))
            refine pwp_skip ?_
            exact seq_norm (hK21 _ ⟨rfl, rfl, rfl, rfl, trivial⟩ ⟨(congrArg PV.int (show ((recE (evs)) : Int) = (if ((decide ((recE (evs)) = (0))) && ((!(decide (0 ≤ x.fro ∧ x.fro ≤ 20000))) || (!(decide (0 ≤ x.til ∧ x.til ≤ 20000))))) = true then (2) else (recE (evs))) by first | rfl | ((try rw [hb23R]) <;> (first | rfl | (simp only [Bool.and_true, Bool.and_false, Bool.true_and, Bool.false_and, Bool.or_true, Bool.or_false, Bool.true_or, Bool.false_or, Bool.not_true, Bool.not_false, if_true, if_false, Bool.false_eq_true, reduceIte] <;> rfl))) | (simp only [hb23R, Bool.and_true, Bool.and_false, Bool.true_and, Bool.false_and, Bool.or_true, Bool.or_false, Bool.true_or, Bool.false_or, Bool.not_true, Bool.not_false, if_true, if_false, Bool.false_eq_true, reduceIte] <;> rfl))), trivial⟩)
        · skip
          refine pwp_seq_seq ?_
          refine pwp_seq_cutG [0, 3, 5, 6, 7] [(73, .bool ((decide ((if ((decide ((recE (evs)) = (0))) && ((!(decide (0 ≤ x.fro ∧ x.fro ≤ 20000))) || (!(decide (0 ≤ x.til ∧ x.til ≤ 20000))))) = true then (2) else (recE (evs))) = (0))) && (decide (x.til < x.fro))))] (fun K25 hK25 => ?_) (fun r26 => ?_)
          · skip
            refine pwp_gops rfl fun K27 hK27 => ?_
            refine g_begin ?_
            refine g_step rfl rfl rfl rfl (e_move (v := .sc _) rfl) trivial ?_
            refine g_step rfl rfl rfl rfl (e_eq rfl rfl) trivial ?_
            refine g_step rfl rfl rfl rfl (e_move (v := .sc _) rfl) trivial ?_
            refine g_cases (fun hb28 => ?_) (fun hb28 => ?_)
            · have hb28R := hb28; (try simp only [z1, z2, z3, z4, z5, z6, ne_eq, z7, z8, z9, z10, z11, z12] at hb28); (try (have hlen405 := short_len hb28.1.1)); (try (have hz := his_zero hb28R))
              refine g_step rfl rfl rfl rfl (e_faP (pl := [(0, 1, false), (1, 1, false), (2, 1, false)]) rfl (by kernel_rfl) (by kernel_rfl) (by decide) rfl) trivial ?_
              refine g_step rfl rfl rfl rfl (e_loadH (v := .sc _) rfl (hset_self _ _ _) (by kernel_rfl) (by kernel_rfl) (by kernel_rfl) (by exact Nat.zero_lt_one) (by decide) rfl) trivial ?_
              refine g_step rfl rfl rfl rfl (e_faP (pl := [(0, 1, false), (1, 1, false), (2, 1, false)]) rfl (by kernel_rfl) (by kernel_rfl) (by decide) rfl) trivial ?_
              refine g_step rfl rfl rfl rfl (e_loadH (v := .sc _) rfl (hset_self _ _ _) (by kernel_rfl) (by kernel_rfl) (by kernel_rfl) (by exact Nat.zero_lt_one) (by decide) rfl) trivial ?_
              refine g_step rfl rfl rfl rfl (e_lt rfl rfl) trivial ?_
              refine g_step rfl rfl rfl rfl (e_pickT (v := .sc _) rfl rfl) trivial ?_
              refine g_end (ds := [68, 69, 70, 71, 72]) rfl rfl (hK27 _ ?_); clear hK27 K27
              exact seq_norm (hK25 _ ⟨rfl, rfl, rfl, rfl, rfl, trivial⟩ ⟨(congrArg PV.bool (show ((decide (x.til < x.fro)) : Bool) = ((decide ((if ((decide ((recE (evs)) = (0))) && ((!(decide (0 ≤ x.fro ∧ x.fro ≤ 20000))) || (!(decide (0 ≤ x.til ∧ x.til ≤ 20000))))) = true then (2) else (recE (evs))) = (0))) && (decide (x.til < x.fro))) by first | rfl | ((try rw [hb28R]) <;> (first | rfl | (simp only [Bool.and_true, Bool.and_false, Bool.true_and, Bool.false_and, Bool.or_true, Bool.or_false, Bool.true_or, Bool.false_or, Bool.not_true, Bool.not_false, if_true, if_false, Bool.false_eq_true, reduceIte] <;> rfl))) | (simp only [hb28R, Bool.and_true, Bool.and_false, Bool.true_and, Bool.false_and, Bool.or_true, Bool.or_false, Bool.true_or, Bool.false_or, Bool.not_true, Bool.not_false, if_true, if_false, Bool.false_eq_true, reduceIte] <;> rfl))), trivial⟩)
            · have hb28R := hb28; (try simp only [z1, z2, z3, z4, z5, z6, ne_eq, z7, z8, z9, z10, z11, z12] at hb28); (try (have hlen405 := short_len hb28.1.1)); (try (have hz := his_zero hb28R))
              refine g_skip rfl rfl rfl ?_
              refine g_skip rfl rfl rfl ?_
              refine g_skip rfl rfl rfl ?_
              refine g_skip rfl rfl rfl ?_
              refine g_skip rfl rfl rfl ?_
              refine g_step rfl rfl rfl rfl (e_pickF (v := .sc _) rfl rfl) trivial ?_
              refine g_end (ds := [68, 69, 70, 71, 72]) rfl rfl (hK27 _ ?_); clear hK27 K27
              exact seq_norm (hK25 _ ⟨rfl, rfl, rfl, rfl, rfl, trivial⟩ ⟨(congrArg PV.bool (show (false : Bool) = ((decide ((if ((decide ((recE (evs)) = (0))) && ((!(decide (0 ≤ x.fro ∧ x.fro ≤ 20000))) || (!(decide (0 ≤ x.til ∧ x.til ≤ 20000))))) = true then (2) else (recE (evs))) = (0))) && (decide (x.til < x.fro))) by first | rfl | ((try rw [hb28R]) <;> (first | rfl | (simp only [Bool.and_true, Bool.and_false, Bool.true_and, Bool.false_and, Bool.or_true, Bool.or_false, Bool.true_or, Bool.false_or, Bool.not_true, Bool.not_false, if_true, if_false, Bool.false_eq_true, reduceIte] <;> rfl))) | (simp only [hb28R, Bool.and_true, Bool.and_false, Bool.true_and, Bool.false_and, Bool.or_true, Bool.or_false, Bool.true_or, Bool.false_or, Bool.not_true, Bool.not_false, if_true, if_false, Bool.false_eq_true, reduceIte] <;> rfl))), trivial⟩)
          · skip
            refine pwp_seq_cutG [0, 3, 5, 6] [(7, .int (if ((decide ((if ((decide ((recE (evs)) = (0))) && ((!(decide (0 ≤ x.fro ∧ x.fro ≤ 20000))) || (!(decide (0 ≤ x.til ∧ x.til ≤ 20000))))) = true then (2) else (recE (evs))) = (0))) && (decide (x.til < x.fro))) = true then (10) else (if ((decide ((recE (evs)) = (0))) && ((!(decide (0 ≤ x.fro ∧ x.fro ≤ 20000))) || (!(decide (0 ≤ x.til ∧ x.til ≤ 20000))))) = true then (2) else (recE (evs)))))] (fun K29 hK29 => ?_) (fun r30 => ?_)
            · skip
              refine pwp_cond rfl (fun hb31 => ?_) (fun hb31 => ?_)
              · have hb31R := hb31; (try simp only [z1, z2, z3, z4, z5, z6, ne_eq, z7, z8, z9, z10, z11, z12] at hb31); (try (have hlen405 := short_len hb31.1.1)); (try (have hz := his_zero hb31R))
                refine pwp_plain rfl fun K32 hK32 => ?_
                refine p_step rfl (e_assign (v := .sc _) rfl) trivial ?_
                refine p_end (hK32 _ ?_); clear hK32 K32
                exact seq_norm (hK29 _ ⟨rfl, rfl, rfl, rfl, trivial⟩ ⟨(congrArg PV.int (show ((10) : Int) = (if ((decide ((if ((decide ((recE (evs)) = (0))) && ((!(decide (0 ≤ x.fro ∧ x.fro ≤ 20000))) || (!(decide (0 ≤ x.til ∧ x.til ≤ 20000))))) = true then (2) else (recE (evs))) = (0))) && (decide (x.til < x.fro))) = true then (10) else (if ((decide ((recE (evs)) = (0))) && ((!(decide (0 ≤ x.fro ∧ x.fro ≤ 20000))) || (!(decide (0 ≤ x.til ∧ x.til ≤ 20000))))) = true then (2) else (recE (evs)))) by first | rfl | ((try rw [hb31R]) <;> (first | rfl | (simp only [Bool.and_true, Bool.and_false, Bool.true_and, Bool.false_and, Bool.or_true, Bool.or_false, Bool.true_or, Bool.false_or, Bool.not_true, Bool.not_false, if_true, if_false, Bool.false_eq_true, reduceIte] <;> rfl))) | (simp only [hb31R, Bool.and_true, Bool.and_false, Bool.true_and, Bool.false_and, Bool.or_true, Bool.or_false, Bool.true_or, Bool.false_or, Bool.not_true, Bool.not_false, if_true, if_false, Bool.false_eq_true, reduceIte] <;> rfl))), trivial⟩)
              · have hb31R := hb31; (try simp only [z1, z2, z3, z4, z5, z6, ne_eq, z7, z8, z9, z10, z11, z12] at hb31); (try (have hlen405 := short_len hb31.1.1)); (try (have hz := his_zero hb31R))
                refine pwp_skip ?_
                exact seq_norm (hK29 _ ⟨rfl, rfl, rfl, rfl, trivial⟩ ⟨(congrArg PV.int (show ((if ((decide ((recE (evs)) = (0))) && ((!(decide (0 ≤ x.fro ∧ x.fro ≤ 20000))) || (!(decide (0 ≤ x.til ∧ x.til ≤ 20000))))) = true then (2) else (recE (evs))) : Int) = (if ((decide ((if ((decide ((recE (evs)) = (0))) && ((!(decide (0 ≤ x.fro ∧ x.fro ≤ 20000))) || (!(decide (0 ≤ x.til ∧ x.til ≤ 20000))))) = true then (2) else (recE (evs))) = (0))) && (decide (x.til < x.fro))) = true then (10) else (if ((decide ((recE (evs)) = (0))) && ((!(decide (0 ≤ x.fro ∧ x.fro ≤ 20000))) || (!(decide (0 ≤ x.til ∧ x.til ≤ 20000))))) = true then (2) else (recE (evs)))) by first | rfl | ((try rw [hb31R]) <;> (first | rfl | (simp only [Bool.and_true, Bool.and_false, Bool.true_and, Bool.false_and, Bool.or_true, Bool.or_false, Bool.true_or, Bool.false_or, Bool.not_true, Bool.not_false, if_true, if_false, Bool.false_eq_true, reduceIte] <;> rfl))) | (simp only [hb31R, Bool.and_true, Bool.and_false, Bool.true_and, Bool.false_and, Bool.or_true, Bool.or_false, Bool.true_or, Bool.false_or, Bool.not_true, Bool.not_false, if_true, if_false, Bool.false_eq_true, reduceIte] <;> rfl))), trivial⟩)
            · skip
              refine pwp_seq_seq ?_
              refine pwp_seq_cutG [0, 3, 5, 6, 7] [(83, .bool ((decide ((if ((decide ((if ((decide ((recE (evs)) = (0))) && ((!(decide (0 ≤ x.fro ∧ x.fro ≤ 20000))) || (!(decide (0 ≤ x.til ∧ x.til ≤ 20000))))) = true then (2) else (recE (evs))) = (0))) && (decide (x.til < x.fro))) = true then (10) else (if ((decide ((recE (evs)) = (0))) && ((!(decide (0 ≤ x.fro ∧ x.fro ≤ 20000))) || (!(decide (0 ≤ x.til ∧ x.til ≤ 20000))))) = true then (2) else (recE (evs)))) = (0))) && (!(hasS (platE (evs)) x.platform))))] (fun K33 hK33 => ?_) (fun r34 => ?_)
              · skip
                refine pwp_gops rfl fun K35 hK35 => ?_
                refine g_begin ?_
                refine g_step rfl rfl rfl rfl (e_move (v := .sc _) rfl) trivial ?_
                refine g_step rfl rfl rfl rfl (e_eq rfl rfl) trivial ?_
                refine g_step rfl rfl rfl rfl (e_move (v := .sc _) rfl) trivial ?_
                refine g_cases (fun hb36 => ?_) (fun hb36 => ?_)
                · have hb36R := hb36; (try simp only [z1, z2, z3, z4, z5, z6, ne_eq, z7, z8, z9, z10, z11, z12] at hb36); (try (have hlen405 := short_len hb36.1.1)); (try (have hz := his_zero hb36R))
                  refine g_step rfl rfl rfl rfl (e_move (v := .lit _ _ _) rfl) trivial ?_
                  refine g_call rfl rfl rfl rfl (.cons inn_lit .nil) (Platforms _ hlen405) ?_
                  refine g_step rfl rfl rfl rfl (e_faP (pl := [(0, 1, false), (1, 1, false), (2, 1, false)]) rfl (by kernel_rfl) (by kernel_rfl) (by decide) rfl) trivial ?_
                  refine g_step rfl rfl rfl rfl (e_loadH (v := .sc _) rfl (hset_self _ _ _) (by kernel_rfl) (by kernel_rfl) (by kernel_rfl) (by exact Nat.zero_lt_one) (by decide) rfl) trivial ?_
                  refine g_call rfl rfl rfl rfl (.cons inn_lit (.cons inn_sc .nil)) (HasText _ _ (plat_len _ hlen405)) ?_
                  refine g_step rfl rfl rfl rfl (e_not rfl) trivial ?_
                  refine g_step rfl rfl rfl rfl (e_pickT (v := .sc _) rfl rfl) trivial ?_
                  refine g_end (ds := [77, 78, 79, 80, 81, 82]) (by kernel_rfl) rfl (hK35 _ ?_); clear hK35 K35
                  exact seq_norm (hK33 _ ⟨rfl, rfl, rfl, rfl, rfl, trivial⟩ ⟨(congrArg PV.bool (show ((!(hasS (platE (evs)) x.platform)) : Bool) = ((decide ((if ((decide ((if ((decide ((recE (evs)) = (0))) && ((!(decide (0 ≤ x.fro ∧ x.fro ≤ 20000))) || (!(decide (0 ≤ x.til ∧ x.til ≤ 20000))))) = true then (2) else (recE (evs))) = (0))) && (decide (x.til < x.fro))) = true then (10) else (if ((decide ((recE (evs)) = (0))) && ((!(decide (0 ≤ x.fro ∧ x.fro ≤ 20000))) || (!(decide (0 ≤ x.til ∧ x.til ≤ 20000))))) = true then (2) else (recE (evs)))) = (0))) && (!(hasS (platE (evs)) x.platform))) by first | rfl | ((try rw [hb36R]) <;> (first | rfl | (simp only [Bool.and_true, Bool.and_false, Bool.true_and, Bool.false_and, Bool.or_true, Bool.or_false, Bool.true_or, Bool.false_or, Bool.not_true, Bool.not_false, if_true, if_false, Bool.false_eq_true, reduceIte] <;> rfl))) | (simp only [hb36R, Bool.and_true, Bool.and_false, Bool.true_and, Bool.false_and, Bool.or_true, Bool.or_false, Bool.true_or, Bool.false_or, Bool.not_true, Bool.not_false, if_true, if_false, Bool.false_eq_true, reduceIte] <;> rfl))), trivial⟩)
                · have hb36R := hb36; (try simp only [z1, z2, z3, z4, z5, z6, ne_eq, z7, z8, z9, z10, z11, z12] at hb36); (try (have hlen405 := short_len hb36.1.1)); (try (have hz := his_zero hb36R))
                  refine g_skip rfl rfl rfl ?_
                  refine g_nocall rfl rfl rfl ?_
                  refine g_skip rfl rfl rfl ?_
                  refine g_skip rfl rfl rfl ?_
                  refine g_nocall rfl rfl rfl ?_
                  refine g_skip rfl rfl rfl ?_
                  refine g_step rfl rfl rfl rfl (e_pickF (v := .sc _) rfl rfl) trivial ?_
                  refine g_end (ds := [77, 78, 79, 80, 81, 82]) (by kernel_rfl) rfl (hK35 _ ?_); clear hK35 K35
                  exact seq_norm (hK33 _ ⟨rfl, rfl, rfl, rfl, rfl, trivial⟩ ⟨(congrArg PV.bool (show (false : Bool) = ((decide ((if ((decide ((if ((decide ((recE (evs)) = (0))) && ((!(decide (0 ≤ x.fro ∧ x.fro ≤ 20000))) || (!(decide (0 ≤ x.til ∧ x.til ≤ 20000))))) = true then (2) else (recE (evs))) = (0))) && (decide (x.til < x.fro))) = true then (10) else (if ((decide ((recE (evs)) = (0))) && ((!(decide (0 ≤ x.fro ∧ x.fro ≤ 20000))) || (!(decide (0 ≤ x.til ∧ x.til ≤ 20000))))) = true then (2) else (recE (evs)))) = (0))) && (!(hasS (platE (evs)) x.platform))) by first | rfl | ((try rw [hb36R]) <;> (first | rfl | (simp only [Bool.and_true, Bool.and_false, Bool.true_and, Bool.false_and, Bool.or_true, Bool.or_false, Bool.true_or, Bool.false_or, Bool.not_true, Bool.not_false, if_true, if_false, Bool.false_eq_true, reduceIte] <;> rfl))) | (simp only [hb36R, Bool.and_true, Bool.and_false, Bool.true_and, Bool.false_and, Bool.or_true, Bool.or_false, Bool.true_or, Bool.false_or, Bool.not_true, Bool.not_false, if_true, if_false, Bool.false_eq_true, reduceIte] <;> rfl))), trivial⟩)
              · skip
                refine pwp_seq_cutG [0, 3, 5, 6] [(7, .int (if ((decide ((if ((decide ((if ((decide ((recE (evs)) = (0))) && ((!(decide (0 ≤ x.fro ∧ x.fro ≤ 20000))) || (!(decide (0 ≤ x.til ∧ x.til ≤ 20000))))) = true then (2) else (recE (evs))) = (0))) && (decide (x.til < x.fro))) = true then (10) else (if ((decide ((recE (evs)) = (0))) && ((!(decide (0 ≤ x.fro ∧ x.fro ≤ 20000))) || (!(decide (0 ≤ x.til ∧ x.til ≤ 20000))))) = true then (2) else (recE (evs)))) = (0))) && (!(hasS (platE (evs)) x.platform))) = true then (6) else (if ((decide ((if ((decide ((recE (evs)) = (0))) && ((!(decide (0 ≤ x.fro ∧ x.fro ≤ 20000))) || (!(decide (0 ≤ x.til ∧ x.til ≤ 20000))))) = true then (2) else (recE (evs))) = (0))) && (decide (x.til < x.fro))) = true then (10) else (if ((decide ((recE (evs)) = (0))) && ((!(decide (0 ≤ x.fro ∧ x.fro ≤ 20000))) || (!(decide (0 ≤ x.til ∧ x.til ≤ 20000))))) = true then (2) else (recE (evs))))))] (fun K37 hK37 => ?_) (fun r38 => ?_)
                · skip
                  refine pwp_cond rfl (fun hb39 => ?_) (fun hb39 => ?_)
                  · have hb39R := hb39; (try simp only [z1, z2, z3, z4, z5, z6, ne_eq, z7, z8, z9, z10, z11, z12] at hb39); (try (have hlen405 := short_len hb39.1.1)); (try (have hz := his_zero hb39R))
                    refine pwp_plain rfl fun K40 hK40 => ?_
                    refine p_step rfl (e_assign (v := .sc _) rfl) trivial ?_
                    refine p_end (hK40 _ ?_); clear hK40 K40
                    exact seq_norm (hK37 _ ⟨rfl, rfl, rfl, rfl, trivial⟩ ⟨(congrArg PV.int (show ((6) : Int) = (if ((decide ((if ((decide ((if ((decide ((recE (evs)) = (0))) && ((!(decide (0 ≤ x.fro ∧ x.fro ≤ 20000))) || (!(decide (0 ≤ x.til ∧ x.til ≤ 20000))))) = true then (2) else (recE (evs))) = (0))) && (decide (x.til < x.fro))) = true then (10) else (if ((decide ((recE (evs)) = (0))) && ((!(decide (0 ≤ x.fro ∧ x.fro ≤ 20000))) || (!(decide (0 ≤ x.til ∧ x.til ≤ 20000))))) = true then (2) else (recE (evs)))) = (0))) && (!(hasS (platE (evs)) x.platform))) = true then (6) else (if ((decide ((if ((decide ((recE (evs)) = (0))) && ((!(decide (0 ≤ x.fro ∧ x.fro ≤ 20000))) || (!(decide (0 ≤ x.til ∧ x.til ≤ 20000))))) = true then (2) else (recE (evs))) = (0))) && (decide (x.til < x.fro))) = true then (10) else (if ((decide ((recE (evs)) = (0))) && ((!(decide (0 ≤ x.fro ∧ x.fro ≤ 20000))) || (!(decide (0 ≤ x.til ∧ x.til ≤ 20000))))) = true then (2) else (recE (evs))))) by first | rfl | ((try rw [hb39R]) <;> (first | rfl | (simp only [Bool.and_true, Bool.and_false, Bool.true_and, Bool.false_and, Bool.or_true, Bool.or_false, Bool.true_or, Bool.false_or, Bool.not_true, Bool.not_false, if_true, if_false, Bool.false_eq_true, reduceIte] <;> rfl))) | (simp only [hb39R, Bool.and_true, Bool.and_false, Bool.true_and, Bool.false_and, Bool.or_true, Bool.or_false, Bool.true_or, Bool.false_or, Bool.not_true, Bool.not_false, if_true, if_false, Bool.false_eq_true, reduceIte] <;> rfl))), trivial⟩)
                  · have hb39R := hb39; (try simp only [z1, z2, z3, z4, z5, z6, ne_eq, z7, z8, z9, z10, z11, z12] at hb39); (try (have hlen405 := short_len hb39.1.1)); (try (have hz := his_zero hb39R))
                    refine pwp_skip ?_
                    exact seq_norm (hK37 _ ⟨rfl, rfl, rfl, rfl, trivial⟩ ⟨(congrArg PV.int (show ((if ((decide ((if ((decide ((recE (evs)) = (0))) && ((!(decide (0 ≤ x.fro ∧ x.fro ≤ 20000))) || (!(decide (0 ≤ x.til ∧ x.til ≤ 20000))))) = true then (2) else (recE (evs))) = (0))) && (decide (x.til < x.fro))) = true then (10) else (if ((decide ((recE (evs)) = (0))) && ((!(decide (0 ≤ x.fro ∧ x.fro ≤ 20000))) || (!(decide (0 ≤ x.til ∧ x.til ≤ 20000))))) = true then (2) else (recE (evs)))) : Int) = (if ((decide ((if ((decide ((if ((decide ((recE (evs)) = (0))) && ((!(decide (0 ≤ x.fro ∧ x.fro ≤ 20000))) || (!(decide (0 ≤ x.til ∧ x.til ≤ 20000))))) = true then (2) else (recE (evs))) = (0))) && (decide (x.til < x.fro))) = true then (10) else (if ((decide ((recE (evs)) = (0))) && ((!(decide (0 ≤ x.fro ∧ x.fro ≤ 20000))) || (!(decide (0 ≤ x.til ∧ x.til ≤ 20000))))) = true then (2) else (recE (evs)))) = (0))) && (!(hasS (platE (evs)) x.platform))) = true then (6) else (if ((decide ((if ((decide ((recE (evs)) = (0))) && ((!(decide (0 ≤ x.fro ∧ x.fro ≤ 20000))) || (!(decide (0 ≤ x.til ∧ x.til ≤ 20000))))) = true then (2) else (recE (evs))) = (0))) && (decide (x.til < x.fro))) = true then (10) else (if ((decide ((recE (evs)) = (0))) && ((!(decide (0 ≤ x.fro ∧ x.fro ≤ 20000))) || (!(decide (0 ≤ x.til ∧ x.til ≤ 20000))))) = true then (2) else (recE (evs))))) by first | rfl | ((try rw [hb39R]) <;> (first | rfl | (simp only [Bool.and_true, Bool.and_false, Bool.true_and, Bool.false_and, Bool.or_true, Bool.or_false, Bool.true_or, Bool.false_or, Bool.not_true, Bool.not_false, if_true, if_false, Bool.false_eq_true, reduceIte] <;> rfl))) | (simp only [hb39R, Bool.and_true, Bool.and_false, Bool.true_and, Bool.false_and, Bool.or_true, Bool.or_false, Bool.true_or, Bool.false_or, Bool.not_true, Bool.not_false, if_true, if_false, Bool.false_eq_true, reduceIte] <;> rfl))), trivial⟩)
                · skip
                  refine pwp_seq_seq ?_
                  refine pwp_seq_plain rfl fun K41 hK41 => ?_
                  refine p_step rfl (e_move (v := .sc _) rfl) trivial ?_
                  refine p_step rfl (e_ne rfl rfl) trivial ?_
                  refine p_end (hK41 _ ?_); clear hK41 K41
                  refine pwp_seq_cond rfl fun K42 hK42 => ⟨fun hb43 => ?_, fun hb43 => ?_⟩
                  · have hb43R := hb43; (try simp only [z1, z2, z3, z4, z5, z6, ne_eq, z7, z8, z9, z10, z11, z12] at hb43); (try (have hlen405 := short_len hb43.1.1)); (try (have hz := his_zero hb43R))
                    refine pwp_seq_cutG [] [(4, .bool ((decide ((hisErr (evs) x.platform x.fro x.til) = (if ((decide ((if ((decide ((if ((decide ((recE (evs)) = (0))) && ((!(decide (0 ≤ x.fro ∧ x.fro ≤ 20000))) || (!(decide (0 ≤ x.til ∧ x.til ≤ 20000))))) = true then (2) else (recE (evs))) = (0))) && (decide (x.til < x.fro))) = true then (10) else (if ((decide ((recE (evs)) = (0))) && ((!(decide (0 ≤ x.fro ∧ x.fro ≤ 20000))) || (!(decide (0 ≤ x.til ∧ x.til ≤ 20000))))) = true then (2) else (recE (evs)))) = (0))) && (!(hasS (platE (evs)) x.platform))) = true then (6) else (if ((decide ((if ((decide ((recE (evs)) = (0))) && ((!(decide (0 ≤ x.fro ∧ x.fro ≤ 20000))) || (!(decide (0 ≤ x.til ∧ x.til ≤ 20000))))) = true then (2) else (recE (evs))) = (0))) && (decide (x.til < x.fro))) = true then (10) else (if ((decide ((recE (evs)) = (0))) && ((!(decide (0 ≤ x.fro ∧ x.fro ≤ 20000))) || (!(decide (0 ≤ x.til ∧ x.til ≤ 20000))))) = true then (2) else (recE (evs))))))) && (decide (((((hisT (evs) x.platform x.fro x.til).map Span.enc).length : Nat) : Int) = (0)))))] (fun K44 hK44 => ?_) (fun r45 => ?_)
                    · skip
                      refine pwp_gops rfl fun K46 hK46 => ?_
                      refine g_begin ?_
                      refine g_step rfl rfl rfl rfl (e_move (v := .sc _) rfl) trivial ?_
                      refine g_step rfl rfl rfl rfl (e_move (v := .sc _) rfl) trivial ?_
                      refine g_step rfl rfl rfl rfl (e_eq rfl rfl) trivial ?_
                      refine g_step rfl rfl rfl rfl (e_move (v := .sc _) rfl) trivial ?_
                      refine g_cases (fun hb47 => ?_) (fun hb47 => ?_)
                      · have hb47R := hb47; (try simp only [z1, z2, z3, z4, z5, z6, ne_eq, z7, z8, z9, z10, z11, z12] at hb47); (try (have hlen405 := short_len hb47.1.1)); (try (have hz := his_zero hb47R))
                        refine g_step rfl rfl rfl rfl (e_move (v := .lit _ _ _) rfl) trivial ?_
                        refine g_step rfl rfl rfl rfl (e_len rfl (by kernel_rfl)) trivial ?_
                        refine g_step rfl rfl rfl rfl (e_eq rfl rfl) trivial ?_
                        refine g_step rfl rfl rfl rfl (e_pickT (v := .sc _) rfl rfl) trivial ?_
                        refine g_step rfl rfl rfl rfl (e_assign (v := .sc _) rfl) trivial ?_
                        refine g_end (ds := [90, 91, 92]) rfl rfl (hK46 _ ?_); clear hK46 K46
                        exact seq_norm (hK44 _ trivial ⟨(congrArg PV.bool (show ((decide (((((hisT (evs) x.platform x.fro x.til).map Span.enc).length : Nat) : Int) = (0))) : Bool) = ((decide ((hisErr (evs) x.platform x.fro x.til) = (if ((decide ((if ((decide ((if ((decide ((recE (evs)) = (0))) && ((!(decide (0 ≤ x.fro ∧ x.fro ≤ 20000))) || (!(decide (0 ≤ x.til ∧ x.til ≤ 20000))))) = true then (2) else (recE (evs))) = (0))) && (decide (x.til < x.fro))) = true then (10) else (if ((decide ((recE (evs)) = (0))) && ((!(decide (0 ≤ x.fro ∧ x.fro ≤ 20000))) || (!(decide (0 ≤ x.til ∧ x.til ≤ 20000))))) = true then (2) else (recE (evs)))) = (0))) && (!(hasS (platE (evs)) x.platform))) = true then (6) else (if ((decide ((if ((decide ((recE (evs)) = (0))) && ((!(decide (0 ≤ x.fro ∧ x.fro ≤ 20000))) || (!(decide (0 ≤ x.til ∧ x.til ≤ 20000))))) = true then (2) else (recE (evs))) = (0))) && (decide (x.til < x.fro))) = true then (10) else (if ((decide ((recE (evs)) = (0))) && ((!(decide (0 ≤ x.fro ∧ x.fro ≤ 20000))) || (!(decide (0 ≤ x.til ∧ x.til ≤ 20000))))) = true then (2) else (recE (evs))))))) && (decide (((((hisT (evs) x.platform x.fro x.til).map Span.enc).length : Nat) : Int) = (0)))) by first | rfl | ((try rw [hb47R]) <;> (first | rfl | (simp only [Bool.and_true, Bool.and_false, Bool.true_and, Bool.false_and, Bool.or_true, Bool.or_false, Bool.true_or, Bool.false_or, Bool.not_true, Bool.not_false, if_true, if_false, Bool.false_eq_true, reduceIte] <;> rfl))) | (simp only [hb47R, Bool.and_true, Bool.and_false, Bool.true_and, Bool.false_and, Bool.or_true, Bool.or_false, Bool.true_or, Bool.false_or, Bool.not_true, Bool.not_false, if_true, if_false, Bool.false_eq_true, reduceIte] <;> rfl))), trivial⟩)
                      · have hb47R := hb47; (try simp only [z1, z2, z3, z4, z5, z6, ne_eq, z7, z8, z9, z10, z11, z12] at hb47); (try (have hlen405 := short_len hb47.1.1)); (try (have hz := his_zero hb47R))
                        refine g_skip rfl rfl rfl ?_
                        refine g_skip rfl rfl rfl ?_
                        refine g_skip rfl rfl rfl ?_
                        refine g_step rfl rfl rfl rfl (e_pickF (v := .sc _) rfl rfl) trivial ?_
                        refine g_step rfl rfl rfl rfl (e_assign (v := .sc _) rfl) trivial ?_
                        refine g_end (ds := [90, 91, 92]) rfl rfl (hK46 _ ?_); clear hK46 K46
                        exact seq_norm (hK44 _ trivial ⟨(congrArg PV.bool (show (false : Bool) = ((decide ((hisErr (evs) x.platform x.fro x.til) = (if ((decide ((if ((decide ((if ((decide ((recE (evs)) = (0))) && ((!(decide (0 ≤ x.fro ∧ x.fro ≤ 20000))) || (!(decide (0 ≤ x.til ∧ x.til ≤ 20000))))) = true then (2) else (recE (evs))) = (0))) && (decide (x.til < x.fro))) = true then (10) else (if ((decide ((recE (evs)) = (0))) && ((!(decide (0 ≤ x.fro ∧ x.fro ≤ 20000))) || (!(decide (0 ≤ x.til ∧ x.til ≤ 20000))))) = true then (2) else (recE (evs)))) = (0))) && (!(hasS (platE (evs)) x.platform))) = true then (6) else (if ((decide ((if ((decide ((recE (evs)) = (0))) && ((!(decide (0 ≤ x.fro ∧ x.fro ≤ 20000))) || (!(decide (0 ≤ x.til ∧ x.til ≤ 20000))))) = true then (2) else (recE (evs))) = (0))) && (decide (x.til < x.fro))) = true then (10) else (if ((decide ((recE (evs)) = (0))) && ((!(decide (0 ≤ x.fro ∧ x.fro ≤ 20000))) || (!(decide (0 ≤ x.til ∧ x.til ≤ 20000))))) = true then (2) else (recE (evs))))))) && (decide (((((hisT (evs) x.platform x.fro x.til).map Span.enc).length : Nat) : Int) = (0)))) by first | rfl | ((try rw [hb47R]) <;> (first | rfl | (simp only [Bool.and_true, Bool.and_false, Bool.true_and, Bool.false_and, Bool.or_true, Bool.or_false, Bool.true_or, Bool.false_or, Bool.not_true, Bool.not_false, if_true, if_false, Bool.false_eq_true, reduceIte] <;> rfl))) | (simp only [hb47R, Bool.and_true, Bool.and_false, Bool.true_and, Bool.false_and, Bool.or_true, Bool.or_false, Bool.true_or, Bool.false_or, Bool.not_true, Bool.not_false, if_true, if_false, Bool.false_eq_true, reduceIte] <;> rfl))), trivial⟩)
                    · skip
                      refine pwp_ret ?_
                      refine ret_seq ?_
                      refine end1 (v := .sc _) rfl ?_
                      first
                        | exact out_b rfl
                        | exact out_b (his_bad hlen405 (by assumption) rfl)
                        | exact out_b (his_good hz rfl)
                  · have hb43R := hb43; (try simp only [z1, z2, z3, z4, z5, z6, ne_eq, z7, z8, z9, z10, z11, z12] at hb43); (try (have hlen405 := short_len hb43.1.1)); (try (have hz := his_zero hb43R))
                    refine pwp_skip ?_
                    refine seq_norm (hK42 _ ?_); clear hK42 K42
                    refine pwp_seq_cutG [] [(4, .bool ((decide ((hisErr (evs) x.platform x.fro x.til) = (0))) && (decide ((hisT (evs) x.platform x.fro x.til) = (hisE (tgR x.platform (evs)) x.fro x.til)))))] (fun K48 hK48 => ?_) (fun r49 => ?_)
                    · skip
                      refine pwp_gops rfl fun K50 hK50 => ?_
                      refine g_begin ?_
                      refine g_step rfl rfl rfl rfl (e_move (v := .sc _) rfl) trivial ?_
                      refine g_step rfl rfl rfl rfl (e_eq rfl rfl) trivial ?_
                      refine g_step rfl rfl rfl rfl (e_move (v := .sc _) rfl) trivial ?_
                      refine g_cases (fun hb51 => ?_) (fun hb51 => ?_)
                      · have hb51R := hb51; (try simp only [z1, z2, z3, z4, z5, z6, ne_eq, z7, z8, z9, z10, z11, z12] at hb51); (try (have hlen405 := short_len hb51.1.1)); (try (have hz := his_zero hb51R))
                        refine g_step rfl rfl rfl rfl (e_move (v := .lit _ _ _) rfl) trivial ?_
                        refine g_step rfl rfl rfl rfl (e_move (v := .lit _ _ _) rfl) trivial ?_
                        refine g_step rfl rfl rfl rfl (e_faP (pl := [(0, 1, false), (1, 1, false), (2, 1, false)]) rfl (by kernel_rfl) (by kernel_rfl) (by decide) rfl) trivial ?_
                        refine g_step rfl rfl rfl rfl (e_loadH (v := .sc _) rfl (hset_self _ _ _) (by kernel_rfl) (by kernel_rfl) (by kernel_rfl) (by exact Nat.zero_lt_one) (by decide) rfl) trivial ?_
                        refine g_step rfl rfl rfl rfl (e_faP (pl := [(0, 1, false), (1, 1, false), (2, 1, false)]) rfl (by kernel_rfl) (by kernel_rfl) (by decide) rfl) trivial ?_
                        refine g_step rfl rfl rfl rfl (e_loadH (v := .sc _) rfl (hset_self _ _ _) (by kernel_rfl) (by kernel_rfl) (by kernel_rfl) (by exact Nat.zero_lt_one) (by decide) rfl) trivial ?_
                        refine g_step rfl rfl rfl rfl (e_faP (pl := [(0, 1, false), (1, 1, false), (2, 1, false)]) rfl (by kernel_rfl) (by kernel_rfl) (by decide) rfl) trivial ?_
                        refine g_step rfl rfl rfl rfl (e_loadH (v := .sc _) rfl (hset_self _ _ _) (by kernel_rfl) (by kernel_rfl) (by kernel_rfl) (by exact Nat.zero_lt_one) (by decide) rfl) trivial ?_
                        refine g_call rfl rfl rfl rfl (.cons inn_lit (.cons inn_sc (.cons inn_sc (.cons inn_sc .nil)))) (HistoryR _ _ _ _ hlen405 (rec_ok hz.1).day hz.2.2.2) ?_
                        refine g_call rfl rfl rfl rfl (.cons inn_lit (.cons inn_lit .nil)) (spans _ _ (by rw [(his_fin hz).2]; exact his_len hz.2.2.2)) ?_
                        refine g_step rfl rfl rfl rfl (e_pickT (v := .sc _) rfl rfl) trivial ?_
                        refine g_step rfl rfl rfl rfl (e_assign (v := .sc _) rfl) trivial ?_
                        refine g_end (ds := [97, 98, 99, 100, 101, 102, 103, 104, 105, 106]) rfl rfl (hK50 _ ?_); clear hK50 K50
                        exact seq_norm (hK48 _ trivial ⟨(congrArg PV.bool (show ((decide ((hisT (evs) x.platform x.fro x.til) = (hisE (tgR x.platform (evs)) x.fro x.til))) : Bool) = ((decide ((hisErr (evs) x.platform x.fro x.til) = (0))) && (decide ((hisT (evs) x.platform x.fro x.til) = (hisE (tgR x.platform (evs)) x.fro x.til)))) by first | rfl | ((try rw [hb51R]) <;> (first | rfl | (simp only [Bool.and_true, Bool.and_false, Bool.true_and, Bool.false_and, Bool.or_true, Bool.or_false, Bool.true_or, Bool.false_or, Bool.not_true, Bool.not_false, if_true, if_false, Bool.false_eq_true, reduceIte] <;> rfl))) | (simp only [hb51R, Bool.and_true, Bool.and_false, Bool.true_and, Bool.false_and, Bool.or_true, Bool.or_false, Bool.true_or, Bool.false_or, Bool.not_true, Bool.not_false, if_true, if_false, Bool.false_eq_true, reduceIte] <;> rfl))), trivial⟩)
                      · have hb51R := hb51; (try simp only [z1, z2, z3, z4, z5, z6, ne_eq, z7, z8, z9, z10, z11, z12] at hb51); (try (have hlen405 := short_len hb51.1.1)); (try (have hz := his_zero hb51R))
                        refine g_skip rfl rfl rfl ?_
                        refine g_skip rfl rfl rfl ?_
                        refine g_skip rfl rfl rfl ?_
                        refine g_skip rfl rfl rfl ?_
                        refine g_skip rfl rfl rfl ?_
                        refine g_skip rfl rfl rfl ?_
                        refine g_skip rfl rfl rfl ?_
                        refine g_skip rfl rfl rfl ?_
                        refine g_nocall rfl rfl rfl ?_
                        refine g_nocall rfl rfl rfl ?_
                        refine g_step rfl rfl rfl rfl (e_pickF (v := .sc _) rfl rfl) trivial ?_
                        refine g_step rfl rfl rfl rfl (e_assign (v := .sc _) rfl) trivial ?_
                        refine g_end (ds := [97, 98, 99, 100, 101, 102, 103, 104, 105, 106]) rfl rfl (hK50 _ ?_); clear hK50 K50
                        exact seq_norm (hK48 _ trivial ⟨(congrArg PV.bool (show (false : Bool) = ((decide ((hisErr (evs) x.platform x.fro x.til) = (0))) && (decide ((hisT (evs) x.platform x.fro x.til) = (hisE (tgR x.platform (evs)) x.fro x.til)))) by first | rfl | ((try rw [hb51R]) <;> (first | rfl | (simp only [Bool.and_true, Bool.and_false, Bool.true_and, Bool.false_and, Bool.or_true, Bool.or_false, Bool.true_or, Bool.false_or, Bool.not_true, Bool.not_false, if_true, if_false, Bool.false_eq_true, reduceIte] <;> rfl))) | (simp only [hb51R, Bool.and_true, Bool.and_false, Bool.true_and, Bool.false_and, Bool.or_true, Bool.or_false, Bool.true_or, Bool.false_or, Bool.not_true, Bool.not_false, if_true, if_false, Bool.false_eq_true, reduceIte] <;> rfl))), trivial⟩)
                    · skip
                      refine pwp_ret ?_
                      refine end1 (v := .sc _) rfl ?_
                      first
                        | exact out_b rfl
                        | exact out_b (his_bad hlen405 (by assumption) rfl)
                        | exact out_b (his_good hz rfl)

end Go.Proofs.Ytdbpfhbppcpbbaa
