/- What a cut is worth, as the document tells it. No conditions. -/
import Derived.Test.YtigdmkhdmbbfiaaCu2
import Derived.Test.YtigdmkhdmbbfiaaMa1
set_option linter.unusedSimpArgs false
set_option linter.unusedVariables false
set_option maxRecDepth 100000
namespace Go.Proofs.Ytigdmkhdmbbfiaa
open Go Go.Pv
/-! ### The table of a cut -/
def cB (l : List At) (i j : Nat) : Bool := decide ((⟨(i : Int), (j : Int)⟩ : At) ∈ l)
def gpQ (l : List At) (i d : Nat) : Bool := cB l i d && !cB l i (d + 1)
section
variable {t : Traffic} {l : List At} {k p d : Nat} {x : At} {a b : Int}
theorem cB_0 (i j : Nat) : (fun _ _ => false : Nat → Nat → Bool) i j = cB (l.take 0) i j := by simp [cB]
theorem cB_eq (h : 0 ≤ a) (h2 : 0 ≤ b) : cB l a.toNat b.toNat = decide ((⟨a, b⟩ : At) ∈ l) := by
 rw [cB, Int.toNat_of_nonneg h, Int.toNat_of_nonneg h2]
theorem cB_s (hx : l[k]? = some x) (h : 0 ≤ x.a0) (h2 : 0 ≤ x.a1) (i j : Nat) : upd (cB (l.take k)) x.a0.toNat x.a1.toNat true i j = cB (l.take (k + 1)) i j := by
 have h1 : l.take (k + 1) = l.take k ++ [x] := by rw [List.take_add_one, hx]; rfl
 rw [upd, h1]
 by_cases e : i = x.a0.toNat ∧ j = x.a1.toNat
 · have h3 : (⟨(i : Int), (j : Int)⟩ : At) = x := by
     cases x; simp only at e h h2 ⊢; congr 1 <;> omega
   rw [if_pos e, cB, h3]; simp
 · have h3 : (⟨(i : Int), (j : Int)⟩ : At) ≠ x := fun q => e (by
     cases x; simp only [At.mk.injEq] at q h h2 ⊢; omega)
   rw [if_neg e, cB, cB]; simp [h3]
theorem gq_f (h : cB l (p : Int).toNat (d : Int).toNat = false) : gpQ l p d = false := by
 simp only [Int.toNat_natCast] at h; rw [gpQ, h]; rfl
theorem gq_g (h : cB l (p : Int).toNat ((d : Int) + 1).toNat = true) : gpQ l p d = false := by
 rw [Int.toNat_natCast, show ((d : Int) + 1).toNat = d + 1 by omega] at h; rw [gpQ, h]; simp
theorem gq_s (hin : ∀ i, i < d → (i : Int) + 1 < t.days → gpQ l p i = false) (h : gpQ l p d = false) : ∀ i, i < d + 1 → (i : Int) + 1 < t.days → gpQ l p i = false := fun i hi => by
 by_cases e : i = d
 · subst e; exact fun _ => h
 · exact hin i (by omega)
theorem gr_s (hin : ∀ i, i < p → ∀ e : Nat, (e : Int) + 1 < t.days → gpQ l i e = false) (h : ∀ i, i < d → (i : Int) + 1 < t.days → gpQ l p i = false) (hd : ¬ (d : Int) + 1 < t.days) : ∀ i, i < p + 1 → ∀ e : Nat, (e : Int) + 1 < t.days → gpQ l i e = false := fun i hi => by
 by_cases q : i = p
 · subst q; exact fun e he => h e (by omega) he
 · exact hin i (by omega)
theorem gap_end (hce : cutE t l = 0) (hin : ∀ i, i < p → ∀ e : Nat, (e : Int) + 1 < t.days → gpQ l i e = false) (hp : t.places ≤ (p : Int)) : l.any (gapB t l) = false := by
 rw [List.any_eq_false]
 intro x hx hg
 have h1 := ct_in hce hx
 have h2 := h1.1; have h3 := h1.2
 rw [gapB] at hg
 simp only [Bool.and_eq_true, decide_eq_true_eq, Bool.not_eq_true', decide_eq_false_iff_not] at hg
 have h4 := hin x.a0.toNat (by omega) x.a1.toNat (by omega)
 rw [gpQ, cB_eq h2.1 h3.1, show x.a1.toNat + 1 = (x.a1 + 1).toNat by omega, cB_eq h2.1 (by omega)] at h4
 rw [decide_eq_true (by cases x; exact hx), decide_eq_false hg.2] at h4
 cases h4
theorem gap_hit (hd : (d : Int) + 1 < t.days) (h1 : cB l (p : Int).toNat (d : Int).toNat = true) (h2 : cB l (p : Int).toNat ((d : Int) + 1).toNat = false) : l.any (gapB t l) = true := by
 rw [cB_eq (by omega) (by omega)] at h1 h2
 simp only [decide_eq_true_eq, decide_eq_false_iff_not] at h1 h2
 refine List.any_eq_true.2 ⟨_, h1, ?_⟩
 rw [gapB, decide_eq_true hd, decide_eq_false h2]; rfl
theorem nlt_b {y : At} (h : x.a0 < y.a0 ∨ (x.a0 = y.a0 ∧ x.a1 ≤ y.a1)) : ¬ atLt y x := fun q => by unfold atLt at q; omega
theorem lt_b {y : At} (h : ¬ (x.a0 < y.a0 ∨ (x.a0 = y.a0 ∧ x.a1 ≤ y.a1))) : atLt y x := by unfold atLt; omega
end

theorem fr35 : (inFrame Try.f35.ntmps (Try.f35.body.getD .skip) && Try.f35.results.toList.all (resScope Try.f35.ntmps)) = true := by kernel_rfl
theorem refCutC (t : Traffic) (l : List At) (htz : trafE t = 0) (hl : l.length ≤ 1000000) : PCalls Try.prog 35 [.agg t.enc, .lit true 2 (l.map At.enc)] (.tup [.int (cutV t l).1, .int (cutV t l).2]) := by
 refine PCalls.of_code Try.func35 rfl rfl (by kernel_rfl) mixed fr35 (by show _ ≤ 262; simp) (pure_2 (.sc _) (.sc _)) ?_
 have hT := trafE_inv htz
 have q1 := hT.hA
 have q2 := hT.hB
 have q3 := hT.hr
 have q4 := hT.hs
 have q5 := hT.hn
 refine pwp_seq_plain rfl fun K1 hK1 => ?_
 refine p_new rfl (e_box (n := 5) rfl rfl) ⟨rfl, by decide⟩ ?_
 refine p_aS rfl ?_
 refine p_aS rfl ?_
 refine p_end (hK1 _ ?_); clear hK1 K1
 refine pwp_seq_plain rfl fun K2 hK2 => ?_
 refine p_e rfl (e_faQ pl5 rfl) ?_
 refine p_e rfl (e_lH (v := .sc _) rfl (hset_self _ _ _) rfl) ?_
 refine p_new rfl (e_mkV (n := t.places.toNat) rfl rfl (by omega) (by kernel_rfl) (by kernel_rfl) (by kernel_rfl) (by decide +kernel) (by omega)) trivial ?_
 refine p_e rfl (e_assign (v := .ref _ _ _ _) rfl) ?_
 refine p_end (hK2 _ ?_); clear hK2 K2
 refine pwp_seq_seq ?_
 refine pwp_seq_plain rfl fun K3 hK3 => ?_
 refine p_aS rfl ?_
 refine p_end (hK3 _ ?_); clear hK3 K3
 refine pwp_seq_block fun K4 hK4 => ?_
 refine pwp_loopR (α := Nat × (List Nat)) [1, 2, 6] (fun (a5 : Nat × (List Nat)) => [(7, .int (a5.1))]) (fun (a5 : Nat × (List Nat)) (h : Heap) (_ : Nat → Nat) => ((a5.1) ≤ t.places.toNat) ∧ ((a5.2).length = (a5.1)) ∧ (Mat h (19, 0) 30 t.places.toNat t.days.toNat cbo (a5.2) ((fun _ _ => false))) ∧ (h (2, 0) = some (.rows 5 [Traffic.enc t]))) (fun (a5 : Nat × (List Nat)) => t.places.toNat - (a5.1)) (0, []) (by exact ⟨rfl, trivial⟩) (by exact ⟨by exact Nat.zero_le _, by exact rfl, by exact Mat.new, ((hset_ne (key_ne rfl)).trans (hset_self _ _ _))⟩) fun a5 r6 h7 c8 hj9 => ?_
 obtain ⟨k, gs⟩ := a5
 obtain ⟨hk, hgk, hM, hihj9_0⟩ := hj9
 try dsimp only at hk
 try dsimp only at hgk
 try dsimp only at hM
 try dsimp only at hihj9_0
 show pwp _ _ (loopQ _ _ _) ⟨sets (mix _ _ _) [(7, .int k)], _, _⟩
 refine pwp_seq_seq ?_
 refine pwp_seq_plain rfl fun K10 hK10 => ?_
 refine p_mS rfl ?_
 refine p_e rfl (e_faQ pl5 rfl) ?_
 refine p_e rfl (e_lH (v := .sc _) rfl hihj9_0 rfl) ?_
 refine p_e rfl (e_lt rfl rfl) ?_
 refine p_end (hK10 _ ?_); clear hK10 K10
 refine pwp_seq_cond rfl fun K11 hK11 => ⟨fun hb12 => ?_, fun hb12 => ?_⟩
 ·have hb12R := hb12; try simp only [zz] at hb12
  refine pwp_skip ?_
  refine seq_norm (hK11 _ ?_); clear hK11 K11
  refine pwp_seq_block fun K13 hK13 => ?_
  refine pwp_plainK rfl fun hkn K14 hK14 => ?_
  refine p_e rfl (e_move (v := .ref _ _ _ _) rfl) ?_
  refine p_mS rfl ?_
  refine p_e rfl (e_faQ pl5 rfl) ?_
  refine p_e rfl (e_lH (v := .sc _) rfl hihj9_0 rfl) ?_
  refine p_new rfl (e_mkB (n := t.days.toNat) rfl rfl (by omega) (by kernel_rfl) (by kernel_rfl) (by kernel_rfl) (by decide +kernel) (by omega)) trivial ?_
  refine p_e rfl (e_ixaR0 rfl rfl (by kernel_rfl) (by kernel_rfl) (by omega)) ?_
  refine p_store rfl (e_storeV rfl ((hset_ne (key_ne rfl)).trans hM.out) rfl rfl rfl (by rw [mrows_len hM.le]; omega) (by kernel_rfl) (by kernel_rfl)) trivial ?_
  refine p_end (hK14 _ ?_); clear hK14 K14
  refine block_norm ?_
  refine seq_norm (hK13 _ ?_); clear hK13 K13
  refine pwp_plain rfl fun K15 hK15 => ?_
  refine p_mS rfl ?_
  refine p_e rfl (e_adL rfl rfl) ?_
  refine p_aS rfl ?_
  refine p_end (hK15 _ ?_); clear hK15 K15
  exact loop_again ((k + 1, (gs ++ [c8 30]))) (by show _ < _; simp only; omega) ⟨rfl, rfl, rfl, trivial⟩ ⟨rfl, trivial⟩ (by exact ⟨by show _ + 1 ≤ _; omega, by simp only [List.length_append, List.length_cons, List.length_nil]; omega, by exact (Mat.add rfl hM (fun g' o' hh => hkn.fresh 30 g' o' hh) (by omega) (by omega)), ((hset_ne (key_ne rfl)).trans ((hset_ne (key_ne rfl)).trans hihj9_0))⟩)
 have hb12R := hb12; try simp only [zz] at hb12
 have hgl : gs.length = t.places.toNat := by omega
 refine pwp_exit ?_
 refine exit_seq ?_
 clear hK11 K11
 refine exit_loop ?_
 refine exit_here ?_
 refine seq_norm (hK4 _ ?_); clear hK4 K4
 refine pwp_seq_seq ?_
 refine pwp_seq_plain rfl fun K16 hK16 => ?_
 refine p_aS rfl ?_
 refine p_end (hK16 _ ?_); clear hK16 K16
 refine pwp_seq_block fun K17 hK17 => ?_
 refine pwp_loopR (α := Nat) [1, 2, 6] (fun (k : Nat) => [(8, .int (k))]) (fun (k : Nat) (h : Heap) (_ : Nat → Nat) => ((k) ≤ l.length) ∧ (∀ i, i < (k) → ctF t l i = 0) ∧ (Mat h (19, 0) 30 t.places.toNat t.days.toNat cbo gs (cB (l.take (k)))) ∧ (h (2, 0) = some (.rows 5 [Traffic.enc t]))) (fun (k : Nat) => l.length - (k)) (0) (by exact ⟨rfl, trivial⟩) (by exact ⟨by exact Nat.zero_le _, by exact fun i h => absurd h (Nat.not_lt_zero _), by exact Mat.congr hM (fun i j _ _ => cB_0 i j), hihj9_0⟩) fun k r18 h19 c20 hj21 => ?_
 obtain ⟨hk, hin, hM, hihj21_0⟩ := hj21
 try dsimp only at hk
 try dsimp only at hin
 try dsimp only at hM
 try dsimp only at hihj21_0
 show pwp _ _ (loopQ _ _ _) ⟨sets (mix _ _ _) [(8, .int k)], _, _⟩
 refine pwp_seq_seq ?_
 refine pwp_seq_plain rfl fun K22 hK22 => ?_
 refine p_mS rfl ?_
 refine p_e rfl (e_move (v := .lit _ _ _) rfl) ?_
 refine p_e rfl (e_len rfl (by kernel_rfl)) ?_
 refine p_e rfl (e_lt rfl rfl) ?_
 refine p_end (hK22 _ ?_); clear hK22 K22
 refine pwp_seq_cond rfl fun K23 hK23 => ⟨fun hb24 => ?_, fun hb24 => ?_⟩
 ·have hb24R := hb24; try simp only [zz] at hb24
  obtain ⟨x, hx, hd, ht⟩ := get_lt (xs := l) (i := k) (by omega)
  obtain ⟨y, hy⟩ := prev_ex l k (by omega)
  refine pwp_skip ?_
  refine seq_norm (hK23 _ ?_); clear hK23 K23
  refine pwp_seq_block fun K25 hK25 => ?_
  refine pwp_seq_seq ?_
  refine pwp_seq_gops rfl fun K26 hK26 => ?_
  refine g_begin ?_
  refine g_e rfl (e_move (v := .lit _ _ _) rfl) ?_
  refine g_mS rfl rfl ?_
  refine g_e rfl (e_ixL rfl rfl) ?_
  refine g_e rfl (e_ixaLA (n := 2) (e := 3) rfl rfl (by kernel_rfl) (by kernel_rfl) (by decide)) ?_
  refine g_e rfl (e_load (v := .int (x).a0) rfl (by kernel_rfl) (by kernel_rfl) (by kernel_rfl) (by first | omega | (simp only [List.length_map]; omega)) (by decide) ((cell_map hx _).trans rfl)) ?_
  refine g_e rfl (e_faQ pl5 rfl) ?_
  refine g_e rfl (e_lH (v := .sc _) rfl hihj21_0 rfl) ?_
  refine g_e rfl (e_sub rfl rfl (by first | omega | (simp only [List.length_map] at *; omega))) ?_
  refine g_call rfl rfl rfl rfl (.cons inn_sc (.cons inn_sc (.cons inn_sc .nil))) (Within _ _ _) ?_
  refine g_e rfl (e_not rfl) ?_
  refine g_mS rfl rfl ?_
  refine g_cases (fun hb27 => ?_) (fun hb27 => ?_)
  ·have hb27R := hb27; try simp only [zz] at hb27
   iterate 8 refine g_skip rfl rfl rfl ?_
   refine g_nocall rfl rfl rfl ?_
   refine g_skip rfl rfl rfl ?_
   refine g_pT rfl rfl rfl ?_
   refine g_end (ds := [49, 50, 51, 52, 53, 54, 55, 56, 57, 58]) (by kernel_rfl) rfl (hK26 _ ?_); clear hK26 K26
   refine pwp_seq_cond (t := true) rfl fun K28 hK28 => ⟨fun _ => ?_, nofun⟩
   refine pwp_seq_plain rfl fun K29 hK29 => ?_
   refine p_aS rfl ?_
   refine p_aS rfl ?_
   refine p_end (hK29 _ ?_); clear hK29 K29
   refine pwp_ret ?_
   refine ret_seq ?_
   refine ret_block ?_
   refine ret_seq ?_
   refine ret_loop ?_
   refine ret_block ?_
   refine ret_seq ?_
   refine end2 (v := .sc _) (w := .sc _) rfl rfl ?_
   exact out_p (cv_hit hin hx (ct_6 hx (fun q => by have q1 := q.1; have q2 := q.2; omega)) (by decide))
  have hb27R := hb27; try simp only [zz] at hb27
  refine g_e rfl (e_move (v := .lit _ _ _) rfl) ?_
  refine g_mS rfl rfl ?_
  refine g_e rfl (e_ixL rfl rfl) ?_
  refine g_e rfl (e_ixaLA (n := 2) (e := 3) rfl rfl (by kernel_rfl) (by kernel_rfl) (by decide)) ?_
  refine g_e rfl (e_load (v := .int (x).a1) rfl (by kernel_rfl) (by kernel_rfl) (by kernel_rfl) (by first | omega | (simp only [List.length_map]; omega)) (by decide) ((cell_map hx _).trans rfl)) ?_
  refine g_e rfl (e_faQ pl5 rfl) ?_
  refine g_e rfl (e_lH (v := .sc _) rfl hihj21_0 rfl) ?_
  refine g_e rfl (e_sub rfl rfl (by first | omega | (simp only [List.length_map] at *; omega))) ?_
  refine g_call rfl rfl rfl rfl (.cons inn_sc (.cons inn_sc (.cons inn_sc .nil))) (Within _ _ _) ?_
  refine g_e rfl (e_not rfl) ?_
  refine g_pF rfl rfl rfl ?_
  refine g_end (ds := [49, 50, 51, 52, 53, 54, 55, 56, 57, 58]) (by kernel_rfl) rfl (hK26 _ ?_); clear hK26 K26
  refine pwp_seq_cond rfl fun K30 hK30 => ⟨fun hb31 => ?_, fun hb31 => ?_⟩
  ·have hb31R := hb31; try simp only [zz] at hb31
   refine pwp_seq_plain rfl fun K32 hK32 => ?_
   refine p_aS rfl ?_
   refine p_aS rfl ?_
   refine p_end (hK32 _ ?_); clear hK32 K32
   refine pwp_ret ?_
   refine ret_seq ?_
   refine ret_block ?_
   refine ret_seq ?_
   refine ret_loop ?_
   refine ret_block ?_
   refine ret_seq ?_
   refine end2 (v := .sc _) (w := .sc _) rfl rfl ?_
   exact out_p (cv_hit hin hx (ct_6 hx (fun q => by have q1 := q.1; have q2 := q.2; omega)) (by decide))
  have hb31R := hb31; try simp only [zz] at hb31
  refine pwp_skip ?_
  refine seq_norm (hK30 _ ?_); clear hK30 K30
  refine pwp_seq_seq ?_
  refine pwp_seq_gops rfl fun K33 hK33 => ?_
  refine g_begin ?_
  refine g_mS rfl rfl ?_
  refine g_e rfl (e_gt rfl rfl) ?_
  refine g_mS rfl rfl ?_
  refine g_cases (fun hb34 => ?_) (fun hb34 => ?_)
  ·have hb34R := hb34; try simp only [zz] at hb34
   refine g_e rfl (e_move (v := .lit _ _ _) rfl) ?_
   refine g_mS rfl rfl ?_
   refine g_e rfl (e_ixL rfl rfl) ?_
   refine g_e rfl (e_ixaLA (n := 2) (e := 3) rfl rfl (by kernel_rfl) (by kernel_rfl) (by decide)) ?_
   refine g_e rfl (e_load (v := .int (x).a0) rfl (by kernel_rfl) (by kernel_rfl) (by kernel_rfl) (by first | omega | (simp only [List.length_map]; omega)) (by decide) ((cell_map hx _).trans rfl)) ?_
   refine g_e rfl (e_move (v := .lit _ _ _) rfl) ?_
   refine g_mS rfl rfl ?_
   refine g_e rfl (e_sub rfl rfl (by first | omega | (simp only [List.length_map] at *; omega))) ?_
   refine g_e rfl (e_ixL rfl rfl) ?_
   refine g_e rfl (e_ixaLA (n := 2) (e := 3) rfl rfl (by kernel_rfl) (by kernel_rfl) (by decide)) ?_
   refine g_e rfl (e_load (v := .int (y).a0) rfl (by kernel_rfl) (by kernel_rfl) (by kernel_rfl) (by first | omega | (simp only [List.length_map]; omega)) (by decide) ((cell_map (hy (by omega)) _).trans rfl)) ?_
   refine g_e rfl (e_lt rfl rfl) ?_
   refine g_mS rfl rfl ?_
   refine g_cases (fun hb35 => ?_) (fun hb35 => ?_)
   ·have hb35R := hb35; try simp only [zz] at hb35
    iterate 26 refine g_skip rfl rfl rfl ?_
    refine g_pT rfl rfl rfl ?_
    refine g_pT rfl rfl rfl ?_
    refine g_endR (ds := [63, 64, 65, 66, 67, 68, 69, 70, 71, 72, 73, 74, 75, 76, 77, 78, 79, 80, 81, 82, 83, 84, 85, 86, 87, 88, 89, 90, 91, 92, 93, 94, 95, 96, 97, 98, 99, 100, 101, 102]) [0, 1, 3, 7, 7, 31, 63, 127, 7, 7, 519, 1799, 3847, 7943, 16383, 32767, 65535, 65535, 262143, 524287, 1048575, 65535, 65535, 4259839, 14745599, 31522815, 65077247, 134217727, 268435455, 536870911, 536870911, 2147483647, 4294967295, 8589934591, 536870911, 536870911, 34896609279, 120795955199, 258234908671, 533112815615, 1099511627775, 2199023255551, 4398046511103, 8796093022207] (by kernel_rfl) rfl (hK33 _ ?_); clear hK33 K33
    refine pwp_seq_cond (t := true) rfl fun K36 hK36 => ⟨fun _ => ?_, nofun⟩
    refine pwp_seq_plain rfl fun K37 hK37 => ?_
    refine p_aS rfl ?_
    refine p_aS rfl ?_
    refine p_end (hK37 _ ?_); clear hK37 K37
    refine pwp_ret ?_
    refine ret_seq ?_
    refine ret_block ?_
    refine ret_seq ?_
    refine ret_loop ?_
    refine ret_block ?_
    refine ret_seq ?_
    refine end2 (v := .sc _) (w := .sc _) rfl rfl ?_
    exact out_p (cv_hit hin hx (ct_10 hx ⟨by omega, by omega⟩ (by omega) (hy (by omega)) (nlt_b (by omega))) (by decide))
   have hb35R := hb35; try simp only [zz] at hb35
   refine g_e rfl (e_move (v := .lit _ _ _) rfl) ?_
   refine g_mS rfl rfl ?_
   refine g_e rfl (e_ixL rfl rfl) ?_
   refine g_e rfl (e_ixaLA (n := 2) (e := 3) rfl rfl (by kernel_rfl) (by kernel_rfl) (by decide)) ?_
   refine g_e rfl (e_load (v := .int (x).a0) rfl (by kernel_rfl) (by kernel_rfl) (by kernel_rfl) (by first | omega | (simp only [List.length_map]; omega)) (by decide) ((cell_map hx _).trans rfl)) ?_
   refine g_e rfl (e_move (v := .lit _ _ _) rfl) ?_
   refine g_mS rfl rfl ?_
   refine g_e rfl (e_sub rfl rfl (by first | omega | (simp only [List.length_map] at *; omega))) ?_
   refine g_e rfl (e_ixL rfl rfl) ?_
   refine g_e rfl (e_ixaLA (n := 2) (e := 3) rfl rfl (by kernel_rfl) (by kernel_rfl) (by decide)) ?_
   refine g_e rfl (e_load (v := .int (y).a0) rfl (by kernel_rfl) (by kernel_rfl) (by kernel_rfl) (by first | omega | (simp only [List.length_map]; omega)) (by decide) ((cell_map (hy (by omega)) _).trans rfl)) ?_
   refine g_e rfl (e_eq rfl rfl) ?_
   refine g_mS rfl rfl ?_
   refine g_cases (fun hb38 => ?_) (fun hb38 => ?_)
   ·have hb38R := hb38; try simp only [zz] at hb38
    refine g_e rfl (e_move (v := .lit _ _ _) rfl) ?_
    refine g_mS rfl rfl ?_
    refine g_e rfl (e_ixL rfl rfl) ?_
    refine g_e rfl (e_ixaLA (n := 2) (e := 3) rfl rfl (by kernel_rfl) (by kernel_rfl) (by decide)) ?_
    refine g_e rfl (e_load (v := .int (x).a1) rfl (by kernel_rfl) (by kernel_rfl) (by kernel_rfl) (by first | omega | (simp only [List.length_map]; omega)) (by decide) ((cell_map hx _).trans rfl)) ?_
    refine g_e rfl (e_move (v := .lit _ _ _) rfl) ?_
    refine g_mS rfl rfl ?_
    refine g_e rfl (e_sub rfl rfl (by first | omega | (simp only [List.length_map] at *; omega))) ?_
    refine g_e rfl (e_ixL rfl rfl) ?_
    refine g_e rfl (e_ixaLA (n := 2) (e := 3) rfl rfl (by kernel_rfl) (by kernel_rfl) (by decide)) ?_
    refine g_e rfl (e_load (v := .int (y).a1) rfl (by kernel_rfl) (by kernel_rfl) (by kernel_rfl) (by first | omega | (simp only [List.length_map]; omega)) (by decide) ((cell_map (hy (by omega)) _).trans rfl)) ?_
    refine g_e rfl (e_le rfl rfl) ?_
    refine g_pT rfl rfl rfl ?_
    refine g_pF rfl rfl rfl ?_
    refine g_pT rfl rfl rfl ?_
    refine g_endR (ds := [63, 64, 65, 66, 67, 68, 69, 70, 71, 72, 73, 74, 75, 76, 77, 78, 79, 80, 81, 82, 83, 84, 85, 86, 87, 88, 89, 90, 91, 92, 93, 94, 95, 96, 97, 98, 99, 100, 101, 102]) [0, 1, 3, 7, 7, 31, 63, 127, 7, 7, 519, 1799, 3847, 7943, 16383, 32767, 65535, 65535, 262143, 524287, 1048575, 65535, 65535, 4259839, 14745599, 31522815, 65077247, 134217727, 268435455, 536870911, 536870911, 2147483647, 4294967295, 8589934591, 536870911, 536870911, 34896609279, 120795955199, 258234908671, 533112815615, 1099511627775, 2199023255551, 4398046511103, 8796093022207] (by kernel_rfl) rfl (hK33 _ ?_); clear hK33 K33
    refine pwp_seq_cond rfl fun K39 hK39 => ⟨fun hb40 => ?_, fun hb40 => ?_⟩
    ·have hb40R := hb40; try simp only [zz] at hb40
     refine pwp_seq_plain rfl fun K41 hK41 => ?_
     refine p_aS rfl ?_
     refine p_aS rfl ?_
     refine p_end (hK41 _ ?_); clear hK41 K41
     refine pwp_ret ?_
     refine ret_seq ?_
     refine ret_block ?_
     refine ret_seq ?_
     refine ret_loop ?_
     refine ret_block ?_
     refine ret_seq ?_
     refine end2 (v := .sc _) (w := .sc _) rfl rfl ?_
     exact out_p (cv_hit hin hx (ct_10 hx ⟨by omega, by omega⟩ (by omega) (hy (by omega)) (nlt_b (by omega))) (by decide))
    have hb40R := hb40; try simp only [zz] at hb40
    refine pwp_skip ?_
    refine seq_norm (hK39 _ ?_); clear hK39 K39
    refine pwp_gops rfl fun K42 hK42 => ?_
    refine s_begin ?_
    refine s_e rfl (e_move (v := .ref _ _ _ _) rfl) ?_
    refine s_e rfl (e_move (v := .lit _ _ _) rfl) ?_
    refine s_e rfl (e_move (v := .sc _) rfl) ?_
    refine s_e rfl (e_ixL rfl rfl) ?_
    refine s_e rfl (e_ixaLA (n := 2) (e := 3) rfl rfl (by kernel_rfl) (by kernel_rfl) (by decide)) ?_
    refine s_e rfl (e_load (v := .int (x).a0) rfl (by kernel_rfl) (by kernel_rfl) (by kernel_rfl) (by first | omega | (simp only [List.length_map]; omega)) (by decide) ((cell_map hx _).trans rfl)) ?_
    refine s_e rfl (e_ixaR0 rfl rfl (by kernel_rfl) (by kernel_rfl) (by omega)) ?_
    refine s_step [19] (by simp) rfl rfl rfl rfl (e_loadV (v := .ref (30, gs.getD ((x).a0).toNat 0) 1 0 t.days.toNat) rfl hM.out (by kernel_rfl) (by kernel_rfl) (by kernel_rfl) (hM.row (by omega))) trivial ?_
    refine s_e rfl (e_move (v := .lit _ _ _) rfl) ?_
    refine s_e rfl (e_move (v := .sc _) rfl) ?_
    refine s_e rfl (e_ixL rfl rfl) ?_
    refine s_e rfl (e_ixaLA (n := 2) (e := 3) rfl rfl (by kernel_rfl) (by kernel_rfl) (by decide)) ?_
    refine s_e rfl (e_load (v := .int (x).a1) rfl (by kernel_rfl) (by kernel_rfl) (by kernel_rfl) (by first | omega | (simp only [List.length_map]; omega)) (by decide) ((cell_map hx _).trans rfl)) ?_
    refine s_e rfl (e_ixaR0 rfl rfl (by kernel_rfl) (by kernel_rfl) (by omega)) ?_
    refine s_store [30] (by simp) rfl rfl (e_storeB (a := true) rfl (hM.at (by omega)) rfl (by simp only [List.length_map, List.length_range]; omega) (by kernel_rfl) (by kernel_rfl)) trivial ?_
    refine s_end (ds := []) (by kernel_rfl) (by kernel_rfl) (hK42 _ ?_); clear hK42 K42
    refine block_norm ?_
    refine seq_norm (hK25 _ ?_); clear hK25 K25
    refine pwp_plain rfl fun K43 hK43 => ?_
    refine p_mS rfl ?_
    refine p_e rfl (e_adL rfl rfl) ?_
    refine p_aS rfl ?_
    refine p_end (hK43 _ ?_); clear hK43 K43
    exact loop_again (k + 1) (by show _ < _; omega) ⟨rfl, rfl, rfl, trivial⟩ ⟨rfl, trivial⟩ (by exact ⟨by show _ + 1 ≤ _; simp only [List.length_map] at *; omega, by first | exact ct_s hin (ct_z hx ⟨by omega, by omega⟩ (by omega)) | exact ct_s hin (ct_0 hx ⟨by omega, by omega⟩ (by omega) (hy (by omega)) (lt_b (by omega))), by exact Mat.congr (Mat.upd rfl hM (by omega) (by omega)) (fun i j _ _ => cB_s hx (by omega) (by omega) i j), ((hset_ne (key_ne rfl)).trans hihj21_0)⟩)
   have hb38R := hb38; try simp only [zz] at hb38
   iterate 12 refine g_skip rfl rfl rfl ?_
   refine g_pF rfl rfl rfl ?_
   refine g_pF rfl rfl rfl ?_
   refine g_pT rfl rfl rfl ?_
   refine g_endR (ds := [63, 64, 65, 66, 67, 68, 69, 70, 71, 72, 73, 74, 75, 76, 77, 78, 79, 80, 81, 82, 83, 84, 85, 86, 87, 88, 89, 90, 91, 92, 93, 94, 95, 96, 97, 98, 99, 100, 101, 102]) [0, 1, 3, 7, 7, 31, 63, 127, 7, 7, 519, 1799, 3847, 7943, 16383, 32767, 65535, 65535, 262143, 524287, 1048575, 65535, 65535, 4259839, 14745599, 31522815, 65077247, 134217727, 268435455, 536870911, 536870911, 2147483647, 4294967295, 8589934591, 536870911, 536870911, 34896609279, 120795955199, 258234908671, 533112815615, 1099511627775, 2199023255551, 4398046511103, 8796093022207] (by kernel_rfl) rfl (hK33 _ ?_); clear hK33 K33
   refine pwp_seq_cond (t := false) rfl fun K44 hK44 => ⟨nofun, fun _ => ?_⟩
   refine pwp_skip ?_
   refine seq_norm (hK44 _ ?_); clear hK44 K44
   refine pwp_gops rfl fun K45 hK45 => ?_
   refine s_begin ?_
   refine s_e rfl (e_move (v := .ref _ _ _ _) rfl) ?_
   refine s_e rfl (e_move (v := .lit _ _ _) rfl) ?_
   refine s_e rfl (e_move (v := .sc _) rfl) ?_
   refine s_e rfl (e_ixL rfl rfl) ?_
   refine s_e rfl (e_ixaLA (n := 2) (e := 3) rfl rfl (by kernel_rfl) (by kernel_rfl) (by decide)) ?_
   refine s_e rfl (e_load (v := .int (x).a0) rfl (by kernel_rfl) (by kernel_rfl) (by kernel_rfl) (by first | omega | (simp only [List.length_map]; omega)) (by decide) ((cell_map hx _).trans rfl)) ?_
   refine s_e rfl (e_ixaR0 rfl rfl (by kernel_rfl) (by kernel_rfl) (by omega)) ?_
   refine s_step [19] (by simp) rfl rfl rfl rfl (e_loadV (v := .ref (30, gs.getD ((x).a0).toNat 0) 1 0 t.days.toNat) rfl hM.out (by kernel_rfl) (by kernel_rfl) (by kernel_rfl) (hM.row (by omega))) trivial ?_
   refine s_e rfl (e_move (v := .lit _ _ _) rfl) ?_
   refine s_e rfl (e_move (v := .sc _) rfl) ?_
   refine s_e rfl (e_ixL rfl rfl) ?_
   refine s_e rfl (e_ixaLA (n := 2) (e := 3) rfl rfl (by kernel_rfl) (by kernel_rfl) (by decide)) ?_
   refine s_e rfl (e_load (v := .int (x).a1) rfl (by kernel_rfl) (by kernel_rfl) (by kernel_rfl) (by first | omega | (simp only [List.length_map]; omega)) (by decide) ((cell_map hx _).trans rfl)) ?_
   refine s_e rfl (e_ixaR0 rfl rfl (by kernel_rfl) (by kernel_rfl) (by omega)) ?_
   refine s_store [30] (by simp) rfl rfl (e_storeB (a := true) rfl (hM.at (by omega)) rfl (by simp only [List.length_map, List.length_range]; omega) (by kernel_rfl) (by kernel_rfl)) trivial ?_
   refine s_end (ds := []) (by kernel_rfl) (by kernel_rfl) (hK45 _ ?_); clear hK45 K45
   refine block_norm ?_
   refine seq_norm (hK25 _ ?_); clear hK25 K25
   refine pwp_plain rfl fun K46 hK46 => ?_
   refine p_mS rfl ?_
   refine p_e rfl (e_adL rfl rfl) ?_
   refine p_aS rfl ?_
   refine p_end (hK46 _ ?_); clear hK46 K46
   exact loop_again (k + 1) (by show _ < _; omega) ⟨rfl, rfl, rfl, trivial⟩ ⟨rfl, trivial⟩ (by exact ⟨by show _ + 1 ≤ _; simp only [List.length_map] at *; omega, by first | exact ct_s hin (ct_z hx ⟨by omega, by omega⟩ (by omega)) | exact ct_s hin (ct_0 hx ⟨by omega, by omega⟩ (by omega) (hy (by omega)) (lt_b (by omega))), by exact Mat.congr (Mat.upd rfl hM (by omega) (by omega)) (fun i j _ _ => cB_s hx (by omega) (by omega) i j), ((hset_ne (key_ne rfl)).trans hihj21_0)⟩)
  have hb34R := hb34; try simp only [zz] at hb34
  iterate 40 refine g_skip rfl rfl rfl ?_
  refine g_pF rfl rfl rfl ?_
  refine g_endR (ds := [63, 64, 65, 66, 67, 68, 69, 70, 71, 72, 73, 74, 75, 76, 77, 78, 79, 80, 81, 82, 83, 84, 85, 86, 87, 88, 89, 90, 91, 92, 93, 94, 95, 96, 97, 98, 99, 100, 101, 102]) [0, 1, 3, 7, 7, 31, 63, 127, 7, 7, 519, 1799, 3847, 7943, 16383, 32767, 65535, 65535, 262143, 524287, 1048575, 65535, 65535, 4259839, 14745599, 31522815, 65077247, 134217727, 268435455, 536870911, 536870911, 2147483647, 4294967295, 8589934591, 536870911, 536870911, 34896609279, 120795955199, 258234908671, 533112815615, 1099511627775, 2199023255551, 4398046511103, 8796093022207] (by kernel_rfl) rfl (hK33 _ ?_); clear hK33 K33
  refine pwp_seq_cond (t := false) rfl fun K47 hK47 => ⟨nofun, fun _ => ?_⟩
  refine pwp_skip ?_
  refine seq_norm (hK47 _ ?_); clear hK47 K47
  refine pwp_gops rfl fun K48 hK48 => ?_
  refine s_begin ?_
  refine s_e rfl (e_move (v := .ref _ _ _ _) rfl) ?_
  refine s_e rfl (e_move (v := .lit _ _ _) rfl) ?_
  refine s_e rfl (e_move (v := .sc _) rfl) ?_
  refine s_e rfl (e_ixL rfl rfl) ?_
  refine s_e rfl (e_ixaLA (n := 2) (e := 3) rfl rfl (by kernel_rfl) (by kernel_rfl) (by decide)) ?_
  refine s_e rfl (e_load (v := .int (x).a0) rfl (by kernel_rfl) (by kernel_rfl) (by kernel_rfl) (by first | omega | (simp only [List.length_map]; omega)) (by decide) ((cell_map hx _).trans rfl)) ?_
  refine s_e rfl (e_ixaR0 rfl rfl (by kernel_rfl) (by kernel_rfl) (by omega)) ?_
  refine s_step [19] (by simp) rfl rfl rfl rfl (e_loadV (v := .ref (30, gs.getD ((x).a0).toNat 0) 1 0 t.days.toNat) rfl hM.out (by kernel_rfl) (by kernel_rfl) (by kernel_rfl) (hM.row (by omega))) trivial ?_
  refine s_e rfl (e_move (v := .lit _ _ _) rfl) ?_
  refine s_e rfl (e_move (v := .sc _) rfl) ?_
  refine s_e rfl (e_ixL rfl rfl) ?_
  refine s_e rfl (e_ixaLA (n := 2) (e := 3) rfl rfl (by kernel_rfl) (by kernel_rfl) (by decide)) ?_
  refine s_e rfl (e_load (v := .int (x).a1) rfl (by kernel_rfl) (by kernel_rfl) (by kernel_rfl) (by first | omega | (simp only [List.length_map]; omega)) (by decide) ((cell_map hx _).trans rfl)) ?_
  refine s_e rfl (e_ixaR0 rfl rfl (by kernel_rfl) (by kernel_rfl) (by omega)) ?_
  refine s_store [30] (by simp) rfl rfl (e_storeB (a := true) rfl (hM.at (by omega)) rfl (by simp only [List.length_map, List.length_range]; omega) (by kernel_rfl) (by kernel_rfl)) trivial ?_
  refine s_end (ds := []) (by kernel_rfl) (by kernel_rfl) (hK48 _ ?_); clear hK48 K48
  refine block_norm ?_
  refine seq_norm (hK25 _ ?_); clear hK25 K25
  refine pwp_plain rfl fun K49 hK49 => ?_
  refine p_mS rfl ?_
  refine p_e rfl (e_adL rfl rfl) ?_
  refine p_aS rfl ?_
  refine p_end (hK49 _ ?_); clear hK49 K49
  exact loop_again (k + 1) (by show _ < _; omega) ⟨rfl, rfl, rfl, trivial⟩ ⟨rfl, trivial⟩ (by exact ⟨by show _ + 1 ≤ _; simp only [List.length_map] at *; omega, by first | exact ct_s hin (ct_z hx ⟨by omega, by omega⟩ (by omega)) | exact ct_s hin (ct_0 hx ⟨by omega, by omega⟩ (by omega) (hy (by omega)) (lt_b (by omega))), by exact Mat.congr (Mat.upd rfl hM (by omega) (by omega)) (fun i j _ _ => cB_s hx (by omega) (by omega) i j), ((hset_ne (key_ne rfl)).trans hihj21_0)⟩)
 have hb24R := hb24; try simp only [zz] at hb24
 have hce : cutE t l = 0 := ct_no hin (by simp only [List.length_map] at *; omega)
 rw [List.take_of_length_le (by simp only [List.length_map] at *; omega)] at hM
 refine pwp_exit ?_
 refine exit_seq ?_
 clear hK23 K23
 refine exit_loop ?_
 refine exit_here ?_
 refine seq_norm (hK17 _ ?_); clear hK17 K17
 refine pwp_seq_seq ?_
 refine pwp_seq_plain rfl fun K50 hK50 => ?_
 refine p_aS rfl ?_
 refine p_end (hK50 _ ?_); clear hK50 K50
 refine pwp_seq_block fun K51 hK51 => ?_
 refine pwp_loopR (α := Nat) [2, 6] (fun (p : Nat) => [(9, .int (p))]) (fun (p : Nat) (h : Heap) (_ : Nat → Nat) => (((p) : Int) ≤ t.places) ∧ (∀ i, i < (p) → ∀ e : Nat, (e : Int) + 1 < t.days → gpQ l i e = false) ∧ (Mat h (19, 0) 30 t.places.toNat t.days.toNat cbo gs (cB l)) ∧ (h (2, 0) = some (.rows 5 [Traffic.enc t]))) (fun (p : Nat) => t.places.toNat - (p)) (0) (by exact ⟨rfl, trivial⟩) (by exact ⟨by show (0 : Int) ≤ _; omega, by exact fun i h => absurd h (Nat.not_lt_zero _), by exact hM, hihj21_0⟩) fun p r52 h53 c54 hj55 => ?_
 obtain ⟨hp, hgi, hM, hihj55_0⟩ := hj55
 try dsimp only at hp
 try dsimp only at hgi
 try dsimp only at hM
 try dsimp only at hihj55_0
 show pwp _ _ (loopQ _ _ _) ⟨sets (mix _ _ _) [(9, .int p)], _, _⟩
 refine pwp_seq_seq ?_
 refine pwp_seq_plain rfl fun K56 hK56 => ?_
 refine p_mS rfl ?_
 refine p_e rfl (e_faQ pl5 rfl) ?_
 refine p_e rfl (e_lH (v := .sc _) rfl hihj55_0 rfl) ?_
 refine p_e rfl (e_lt rfl rfl) ?_
 refine p_end (hK56 _ ?_); clear hK56 K56
 refine pwp_seq_cond rfl fun K57 hK57 => ⟨fun hb58 => ?_, fun hb58 => ?_⟩
 ·have hb58R := hb58; try simp only [zz] at hb58
  refine pwp_skip ?_
  refine seq_norm (hK57 _ ?_); clear hK57 K57
  refine pwp_seq_block fun K59 hK59 => ?_
  refine pwp_seq_plain rfl fun K60 hK60 => ?_
  refine p_aS rfl ?_
  refine p_end (hK60 _ ?_); clear hK60 K60
  refine pwp_block ?_
  refine pwp_loopR (α := Nat) [2, 6, 9] (fun (d : Nat) => [(10, .int (d))]) (fun (d : Nat) (h : Heap) (_ : Nat → Nat) => (((d) : Int) ≤ t.days) ∧ (∀ i, i < (d) → (i : Int) + 1 < t.days → gpQ l p i = false) ∧ (Mat h (19, 0) 30 t.places.toNat t.days.toNat cbo gs (cB l)) ∧ (h (2, 0) = some (.rows 5 [Traffic.enc t]))) (fun (d : Nat) => 20 - (d)) (0) (by exact ⟨rfl, trivial⟩) (by exact ⟨by show (0 : Int) ≤ _; omega, by exact fun i h => absurd h (Nat.not_lt_zero _), by exact hM, hihj55_0⟩) fun d r61 h62 c63 hj64 => ?_
  obtain ⟨hd, hgd, hM, hihj64_0⟩ := hj64
  try dsimp only at hd
  try dsimp only at hgd
  try dsimp only at hM
  try dsimp only at hihj64_0
  show pwp _ _ (loopQ _ _ _) ⟨sets (mix _ _ _) [(10, .int d)], _, _⟩
  refine pwp_seq_seq ?_
  refine pwp_seq_plain rfl fun K65 hK65 => ?_
  refine p_mS rfl ?_
  refine p_e rfl (e_adL rfl rfl) ?_
  refine p_e rfl (e_faQ pl5 rfl) ?_
  refine p_e rfl (e_lH (v := .sc _) rfl hihj64_0 rfl) ?_
  refine p_e rfl (e_lt rfl rfl) ?_
  refine p_end (hK65 _ ?_); clear hK65 K65
  refine pwp_seq_cond rfl fun K66 hK66 => ⟨fun hb67 => ?_, fun hb67 => ?_⟩
  ·have hb67R := hb67; try simp only [zz] at hb67
   refine pwp_skip ?_
   refine seq_norm (hK66 _ ?_); clear hK66 K66
   refine pwp_seq_block fun K68 hK68 => ?_
   refine pwp_seq_gops rfl fun K69 hK69 => ?_
   refine s_begin ?_
   refine s_e rfl (e_move (v := .ref _ _ _ _) rfl) ?_
   refine s_e rfl (e_move (v := .sc _) rfl) ?_
   refine s_e rfl (e_ixaR0 rfl rfl (by kernel_rfl) (by kernel_rfl) (by omega)) ?_
   refine s_step [19] (by simp) rfl rfl rfl rfl (e_loadV (v := .ref (30, gs.getD ((p : Int)).toNat 0) 1 0 t.days.toNat) rfl hM.out (by kernel_rfl) (by kernel_rfl) (by kernel_rfl) (hM.row (by omega))) trivial ?_
   refine s_e rfl (e_move (v := .sc _) rfl) ?_
   refine s_e rfl (e_ixaR0 rfl rfl (by kernel_rfl) (by kernel_rfl) (by omega)) ?_
   refine s_step [30] (by simp) rfl rfl rfl rfl (e_loadH (v := .bool (cB l ((p : Int)).toNat ((d : Int)).toNat)) rfl (hM.at (by omega)) (by kernel_rfl) (by kernel_rfl) (by kernel_rfl) (by simp only [List.length_map, List.length_range]; omega) (by decide) ((cell_map (mcell (by omega)) _).trans rfl)) trivial ?_
   refine s_e rfl (e_move (v := .sc _) rfl) ?_
   refine s_cases (fun hb70 => ?_) (fun hb70 => ?_)
   ·have hb70R := hb70; try simp only [zz] at hb70
    refine s_e rfl (e_move (v := .ref _ _ _ _) rfl) ?_
    refine s_e rfl (e_move (v := .sc _) rfl) ?_
    refine s_e rfl (e_ixaR0 rfl rfl (by kernel_rfl) (by kernel_rfl) (by omega)) ?_
    refine s_step [19] (by simp) rfl rfl rfl rfl (e_loadV (v := .ref (30, gs.getD ((p : Int)).toNat 0) 1 0 t.days.toNat) rfl hM.out (by kernel_rfl) (by kernel_rfl) (by kernel_rfl) (hM.row (by omega))) trivial ?_
    refine s_e rfl (e_move (v := .sc _) rfl) ?_
    refine s_e rfl (e_adL rfl rfl) ?_
    refine s_e rfl (e_ixaR0 rfl rfl (by kernel_rfl) (by kernel_rfl) (by omega)) ?_
    refine s_step [30] (by simp) rfl rfl rfl rfl (e_loadH (v := .bool (cB l ((p : Int)).toNat (((d : Int) + (1))).toNat)) rfl (hM.at (by omega)) (by kernel_rfl) (by kernel_rfl) (by kernel_rfl) (by simp only [List.length_map, List.length_range]; omega) (by decide) ((cell_map (mcell (by omega)) _).trans rfl)) trivial ?_
    refine s_e rfl (e_not rfl) ?_
    refine s_e rfl (e_pickT (v := .sc _) rfl rfl) ?_
    refine s_end (ds := [139, 140, 141, 142, 143, 144, 145, 146, 147]) (by kernel_rfl) (by kernel_rfl) (hK69 _ ?_); clear hK69 K69
    refine pwp_cond rfl (fun hb71 => ?_) (fun hb71 => ?_)
    ·have hb71R := hb71; try simp only [zz] at hb71
     refine pwp_seq_plain rfl fun K72 hK72 => ?_
     refine p_aS rfl ?_
     refine p_aS rfl ?_
     refine p_end (hK72 _ ?_); clear hK72 K72
     refine pwp_ret ?_
     refine ret_block ?_
     refine ret_seq ?_
     refine ret_loop ?_
     refine ret_block ?_
     refine ret_block ?_
     refine ret_seq ?_
     refine ret_loop ?_
     refine ret_block ?_
     refine ret_seq ?_
     refine end2 (v := .sc _) (w := .sc _) rfl rfl ?_
     exact out_p (cv_25 hce (gap_hit (by omega) (by assumption) (by assumption))).symm
    have hb71R := hb71; try simp only [zz] at hb71
    refine pwp_skip ?_
    refine block_norm ?_
    refine seq_norm (hK68 _ ?_); clear hK68 K68
    refine pwp_plain rfl fun K73 hK73 => ?_
    refine p_mS rfl ?_
    refine p_e rfl (e_adL rfl rfl) ?_
    refine p_aS rfl ?_
    refine p_end (hK73 _ ?_); clear hK73 K73
    exact loop_again (d + 1) (by show _ < _; omega) ⟨rfl, rfl, rfl, trivial⟩ ⟨rfl, trivial⟩ (by exact ⟨by show ((_ + 1 : Nat) : Int) ≤ _; omega, by first | exact gq_s hgd (gq_f (by assumption)) | exact gq_s hgd (gq_g (by assumption)), by exact hM, hihj64_0⟩)
   have hb70R := hb70; try simp only [zz] at hb70
   refine s_skip rfl rfl rfl ?_
   refine s_skip rfl rfl rfl ?_
   refine s_skip rfl rfl rfl ?_
   refine s_skip rfl rfl rfl ?_
   refine s_skip rfl rfl rfl ?_
   refine s_skip rfl rfl rfl ?_
   refine s_skip rfl rfl rfl ?_
   refine s_skip rfl rfl rfl ?_
   refine s_skip rfl rfl rfl ?_
   refine s_e rfl (e_pickF (v := .sc _) rfl rfl) ?_
   refine s_end (ds := [139, 140, 141, 142, 143, 144, 145, 146, 147]) (by kernel_rfl) (by kernel_rfl) (hK69 _ ?_); clear hK69 K69
   refine pwp_cond (t := false) rfl nofun (fun _ => ?_)
   refine pwp_skip ?_
   refine block_norm ?_
   refine seq_norm (hK68 _ ?_); clear hK68 K68
   refine pwp_plain rfl fun K74 hK74 => ?_
   refine p_mS rfl ?_
   refine p_e rfl (e_adL rfl rfl) ?_
   refine p_aS rfl ?_
   refine p_end (hK74 _ ?_); clear hK74 K74
   exact loop_again (d + 1) (by show _ < _; omega) ⟨rfl, rfl, rfl, trivial⟩ ⟨rfl, trivial⟩ (by exact ⟨by show ((_ + 1 : Nat) : Int) ≤ _; omega, by first | exact gq_s hgd (gq_f (by assumption)) | exact gq_s hgd (gq_g (by assumption)), by exact hM, hihj64_0⟩)
  have hb67R := hb67; try simp only [zz] at hb67
  refine pwp_exit ?_
  refine exit_seq ?_
  clear hK66 K66
  refine exit_loop ?_
  refine exit_here ?_
  refine block_norm ?_
  refine seq_norm (hK59 _ ?_); clear hK59 K59
  refine pwp_plain rfl fun K75 hK75 => ?_
  refine p_mS rfl ?_
  refine p_e rfl (e_adL rfl rfl) ?_
  refine p_aS rfl ?_
  refine p_end (hK75 _ ?_); clear hK75 K75
  exact loop_again (p + 1) (by show _ < _; omega) ⟨rfl, rfl, trivial⟩ ⟨rfl, trivial⟩ (by exact ⟨by show ((_ + 1 : Nat) : Int) ≤ _; omega, by exact gr_s hgi hgd (by omega), by exact hM, hihj64_0⟩)
 have hb58R := hb58; try simp only [zz] at hb58
 have hgp := gap_end hce hgi (by omega)
 refine pwp_exit ?_
 refine exit_seq ?_
 clear hK57 K57
 refine exit_loop ?_
 refine exit_here ?_
 refine seq_norm (hK51 _ ?_); clear hK51 K51
 refine pwp_seq_plain rfl fun K76 hK76 => ?_
 refine p_aS rfl ?_
 refine p_end (hK76 _ ?_); clear hK76 K76
 refine pwp_seq_seq ?_
 refine pwp_seq_plain rfl fun K77 hK77 => ?_
 refine p_aS rfl ?_
 refine p_end (hK77 _ ?_); clear hK77 K77
 refine pwp_seq_block fun K78 hK78 => ?_
 refine pwp_loopR (α := Nat × Int) [2, 6] (fun (a79 : Nat × Int) => [(11, .int (a79.2)), (12, .int (a79.1))]) (fun (a79 : Nat × Int) (h : Heap) (_ : Nat → Nat) => ((a79.1) ≤ (t.supplies).length) ∧ ((a79.2) = capS (supC l) t.supplies (a79.1)) ∧ (Mat h (19, 0) 30 t.places.toNat t.days.toNat cbo gs (cB l)) ∧ (h (2, 0) = some (.rows 5 [Traffic.enc t]))) (fun (a79 : Nat × Int) => (t.supplies).length - (a79.1)) (0, 0) (by exact ⟨rfl, rfl, trivial⟩) (by exact ⟨by exact Nat.zero_le _, by exact rfl, by exact hM, hihj55_0⟩) fun a79 r80 h81 c82 hj83 => ?_
 obtain ⟨k, a⟩ := a79
 obtain ⟨hk, ha, hM, hihj83_0⟩ := hj83
 try dsimp only at hk
 try dsimp only at ha
 try dsimp only at hM
 try dsimp only at hihj83_0
 show pwp _ _ (loopQ _ _ _) ⟨sets (mix _ _ _) [(11, .int a), (12, .int k)], _, _⟩
 refine pwp_seq_seq ?_
 refine pwp_seq_plain rfl fun K84 hK84 => ?_
 refine p_mS rfl ?_
 refine p_e rfl (e_faQ pl5 rfl) ?_
 refine p_e rfl (e_lH (v := .lit _ _ _) rfl hihj83_0 rfl) ?_
 refine p_e rfl (e_len rfl (by kernel_rfl)) ?_
 refine p_e rfl (e_lt rfl rfl) ?_
 refine p_end (hK84 _ ?_); clear hK84 K84
 refine pwp_seq_cond rfl fun K85 hK85 => ⟨fun hb86 => ?_, fun hb86 => ?_⟩
 ·have hb86R := hb86; try simp only [zz] at hb86
  obtain ⟨x, hx, hd, ht⟩ := get_lt (xs := t.supplies) (i := k) (by omega)
  have hxs := hT.sp x (List.mem_of_getElem? hx)
  have hb1 := (capS_b (f := supC l) (l := t.supplies) (m := 1000000) (fun y hy => supC_b (hT.sp y hy).2.2) (k := k) (by omega))
  refine pwp_skip ?_
  refine seq_norm (hK85 _ ?_); clear hK85 K85
  refine pwp_seq_block fun K87 hK87 => ?_
  refine pwp_seq_gops rfl fun K88 hK88 => ?_
  refine s_begin ?_
  refine s_e rfl (e_move (v := .ref _ _ _ _) rfl) ?_
  refine s_e rfl (e_faQ pl5 rfl) ?_
  refine s_step [2] (by simp) rfl rfl rfl rfl (e_lH (v := .lit _ _ _) rfl hihj83_0 rfl) trivial ?_
  refine s_e rfl (e_move (v := .sc _) rfl) ?_
  refine s_e rfl (e_ixL rfl rfl) ?_
  refine s_e rfl (e_fb pl3 rfl) ?_
  refine s_e rfl (e_load (v := .sc _) rfl (by kernel_rfl) (by kernel_rfl) (by kernel_rfl) (by first | omega | (simp only [List.length_map]; omega)) (by decide) ((cell_map hx _).trans rfl)) ?_
  refine s_e rfl (e_ixaR0 rfl rfl (by kernel_rfl) (by kernel_rfl) (by omega)) ?_
  refine s_step [19] (by simp) rfl rfl rfl rfl (e_loadV (v := .ref (30, gs.getD (x.place).toNat 0) 1 0 t.days.toNat) rfl hM.out (by kernel_rfl) (by kernel_rfl) (by kernel_rfl) (hM.row (by omega))) trivial ?_
  refine s_e rfl (e_faQ pl5 rfl) ?_
  refine s_step [2] (by simp) rfl rfl rfl rfl (e_lH (v := .lit _ _ _) rfl hihj83_0 rfl) trivial ?_
  refine s_e rfl (e_move (v := .sc _) rfl) ?_
  refine s_e rfl (e_ixL rfl rfl) ?_
  refine s_e rfl (e_fb pl3 rfl) ?_
  refine s_e rfl (e_load (v := .sc _) rfl (by kernel_rfl) (by kernel_rfl) (by kernel_rfl) (by first | omega | (simp only [List.length_map]; omega)) (by decide) ((cell_map hx _).trans rfl)) ?_
  refine s_e rfl (e_ixaR0 rfl rfl (by kernel_rfl) (by kernel_rfl) (by omega)) ?_
  refine s_step [30] (by simp) rfl rfl rfl rfl (e_loadH (v := .bool (cB l (x.place).toNat (x.day).toNat)) rfl (hM.at (by omega)) (by kernel_rfl) (by kernel_rfl) (by kernel_rfl) (by simp only [List.length_map, List.length_range]; omega) (by decide) ((cell_map (mcell (by omega)) _).trans rfl)) trivial ?_
  refine s_e rfl (e_not rfl) ?_
  refine s_end (ds := []) (by kernel_rfl) (by kernel_rfl) (hK88 _ ?_); clear hK88 K88
  refine pwp_cond rfl (fun hb89 => ?_) (fun hb89 => ?_)
  ·have hb89R := hb89; try simp only [zz] at hb89
   refine pwp_plain rfl fun K90 hK90 => ?_
   refine p_mS rfl ?_
   refine p_e rfl (e_faQ pl5 rfl) ?_
   refine p_e rfl (e_lH (v := .lit _ _ _) rfl hihj83_0 rfl) ?_
   refine p_mS rfl ?_
   refine p_e rfl (e_ixL rfl rfl) ?_
   refine p_e rfl (e_fb pl3 rfl) ?_
   refine p_e rfl (e_load (v := .sc _) rfl (by kernel_rfl) (by kernel_rfl) (by kernel_rfl) (by first | omega | (simp only [List.length_map]; omega)) (by decide) ((cell_map hx _).trans rfl)) ?_
   refine p_e rfl (e_adL rfl rfl) ?_
   refine p_aS rfl ?_
   refine p_end (hK90 _ ?_); clear hK90 K90
   refine block_norm ?_
   refine seq_norm (hK87 _ ?_); clear hK87 K87
   refine pwp_plain rfl fun K91 hK91 => ?_
   refine p_mS rfl ?_
   refine p_e rfl (e_adL rfl rfl) ?_
   refine p_aS rfl ?_
   refine p_end (hK91 _ ?_); clear hK91 K91
   exact loop_again ((k + 1, (a + x.count))) (by show _ < _; simp only; omega) ⟨rfl, rfl, trivial⟩ ⟨rfl, rfl, trivial⟩ (by exact ⟨by show _ + 1 ≤ _; simp only [List.length_map] at *; omega, by rw [capS_s hx]; first | (rw [supC_t (by rw [← cB_eq (by omega) (by omega)]; assumption)]; omega) | (rw [supC_f (by rw [← cB_eq (by omega) (by omega)]; assumption)]; omega), by exact hM, hihj83_0⟩)
  have hb89R := hb89; try simp only [zz] at hb89
  refine pwp_skip ?_
  refine block_norm ?_
  refine seq_norm (hK87 _ ?_); clear hK87 K87
  refine pwp_plain rfl fun K92 hK92 => ?_
  refine p_mS rfl ?_
  refine p_e rfl (e_adL rfl rfl) ?_
  refine p_aS rfl ?_
  refine p_end (hK92 _ ?_); clear hK92 K92
  exact loop_again ((k + 1, a)) (by show _ < _; simp only; omega) ⟨rfl, rfl, trivial⟩ ⟨rfl, rfl, trivial⟩ (by exact ⟨by show _ + 1 ≤ _; simp only [List.length_map] at *; omega, by rw [capS_s hx]; first | (rw [supC_t (by rw [← cB_eq (by omega) (by omega)]; assumption)]; omega) | (rw [supC_f (by rw [← cB_eq (by omega) (by omega)]; assumption)]; omega), by exact hM, hihj83_0⟩)
 have hb86R := hb86; try simp only [zz] at hb86
 have hs1 : a = capS (supC l) t.supplies t.supplies.length := ha.trans (capS_n (by simp only [List.length_map] at *; omega) (Nat.le_refl _))
 have hbs1 := (capS_b (f := supC l) (l := t.supplies) (m := 1000000) (fun y hy => supC_b (hT.sp y hy).2.2) (k := t.supplies.length) (by omega))
 refine pwp_exit ?_
 refine exit_seq ?_
 clear hK85 K85
 refine exit_loop ?_
 refine exit_here ?_
 refine seq_norm (hK78 _ ?_); clear hK78 K78
 refine pwp_seq_seq ?_
 refine pwp_seq_plain rfl fun K93 hK93 => ?_
 refine p_aS rfl ?_
 refine p_end (hK93 _ ?_); clear hK93 K93
 refine pwp_seq_block fun K94 hK94 => ?_
 refine pwp_loopR (α := Nat × Int) [2, 6] (fun (a95 : Nat × Int) => [(11, .int (a95.2)), (13, .int (a95.1))]) (fun (a95 : Nat × Int) (h : Heap) (_ : Nat → Nat) => ((a95.1) ≤ (t.needs).length) ∧ ((a95.2) = capS (supC l) t.supplies t.supplies.length + capS (needC l) t.needs (a95.1)) ∧ (Mat h (19, 0) 30 t.places.toNat t.days.toNat cbo gs (cB l)) ∧ (h (2, 0) = some (.rows 5 [Traffic.enc t]))) (fun (a95 : Nat × Int) => (t.needs).length - (a95.1)) (0, a) (by exact ⟨rfl, rfl, trivial⟩) (by exact ⟨by exact Nat.zero_le _, by rw [capS_0]; omega, by exact hM, hihj83_0⟩) fun a95 r96 h97 c98 hj99 => ?_
 obtain ⟨k, a⟩ := a95
 obtain ⟨hk, ha, hM, hihj99_0⟩ := hj99
 try dsimp only at hk
 try dsimp only at ha
 try dsimp only at hM
 try dsimp only at hihj99_0
 show pwp _ _ (loopQ _ _ _) ⟨sets (mix _ _ _) [(11, .int a), (13, .int k)], _, _⟩
 refine pwp_seq_seq ?_
 refine pwp_seq_plain rfl fun K100 hK100 => ?_
 refine p_mS rfl ?_
 refine p_e rfl (e_faQ pl5 rfl) ?_
 refine p_e rfl (e_lH (v := .lit _ _ _) rfl hihj99_0 rfl) ?_
 refine p_e rfl (e_len rfl (by kernel_rfl)) ?_
 refine p_e rfl (e_lt rfl rfl) ?_
 refine p_end (hK100 _ ?_); clear hK100 K100
 refine pwp_seq_cond rfl fun K101 hK101 => ⟨fun hb102 => ?_, fun hb102 => ?_⟩
 ·have hb102R := hb102; try simp only [zz] at hb102
  obtain ⟨x, hx, hd, ht⟩ := get_lt (xs := t.needs) (i := k) (by omega)
  have hxs := hT.nd x (List.mem_of_getElem? hx)
  have hb1 := (capS_b (f := needC l) (l := t.needs) (m := 1000000) (fun y hy => needC_b (hT.nd y hy).2.2) (k := k) (by omega))
  refine pwp_skip ?_
  refine seq_norm (hK101 _ ?_); clear hK101 K101
  refine pwp_seq_block fun K103 hK103 => ?_
  refine pwp_seq_gops rfl fun K104 hK104 => ?_
  refine s_begin ?_
  refine s_e rfl (e_move (v := .ref _ _ _ _) rfl) ?_
  refine s_e rfl (e_faQ pl5 rfl) ?_
  refine s_step [2] (by simp) rfl rfl rfl rfl (e_lH (v := .lit _ _ _) rfl hihj99_0 rfl) trivial ?_
  refine s_e rfl (e_move (v := .sc _) rfl) ?_
  refine s_e rfl (e_ixL rfl rfl) ?_
  refine s_e rfl (e_fb pl3 rfl) ?_
  refine s_e rfl (e_load (v := .sc _) rfl (by kernel_rfl) (by kernel_rfl) (by kernel_rfl) (by first | omega | (simp only [List.length_map]; omega)) (by decide) ((cell_map hx _).trans rfl)) ?_
  refine s_e rfl (e_ixaR0 rfl rfl (by kernel_rfl) (by kernel_rfl) (by omega)) ?_
  refine s_step [19] (by simp) rfl rfl rfl rfl (e_loadV (v := .ref (30, gs.getD (x.place).toNat 0) 1 0 t.days.toNat) rfl hM.out (by kernel_rfl) (by kernel_rfl) (by kernel_rfl) (hM.row (by omega))) trivial ?_
  refine s_e rfl (e_faQ pl5 rfl) ?_
  refine s_step [2] (by simp) rfl rfl rfl rfl (e_lH (v := .lit _ _ _) rfl hihj99_0 rfl) trivial ?_
  refine s_e rfl (e_move (v := .sc _) rfl) ?_
  refine s_e rfl (e_ixL rfl rfl) ?_
  refine s_e rfl (e_fb pl3 rfl) ?_
  refine s_e rfl (e_load (v := .sc _) rfl (by kernel_rfl) (by kernel_rfl) (by kernel_rfl) (by first | omega | (simp only [List.length_map]; omega)) (by decide) ((cell_map hx _).trans rfl)) ?_
  refine s_e rfl (e_ixaR0 rfl rfl (by kernel_rfl) (by kernel_rfl) (by omega)) ?_
  refine s_step [30] (by simp) rfl rfl rfl rfl (e_loadH (v := .bool (cB l (x.place).toNat (x.day).toNat)) rfl (hM.at (by omega)) (by kernel_rfl) (by kernel_rfl) (by kernel_rfl) (by simp only [List.length_map, List.length_range]; omega) (by decide) ((cell_map (mcell (by omega)) _).trans rfl)) trivial ?_
  refine s_end (ds := []) (by kernel_rfl) (by kernel_rfl) (hK104 _ ?_); clear hK104 K104
  refine pwp_cond rfl (fun hb105 => ?_) (fun hb105 => ?_)
  ·have hb105R := hb105; try simp only [zz] at hb105
   refine pwp_plain rfl fun K106 hK106 => ?_
   refine p_mS rfl ?_
   refine p_e rfl (e_faQ pl5 rfl) ?_
   refine p_e rfl (e_lH (v := .lit _ _ _) rfl hihj99_0 rfl) ?_
   refine p_mS rfl ?_
   refine p_e rfl (e_ixL rfl rfl) ?_
   refine p_e rfl (e_fb pl3 rfl) ?_
   refine p_e rfl (e_load (v := .sc _) rfl (by kernel_rfl) (by kernel_rfl) (by kernel_rfl) (by first | omega | (simp only [List.length_map]; omega)) (by decide) ((cell_map hx _).trans rfl)) ?_
   refine p_e rfl (e_adL rfl rfl) ?_
   refine p_aS rfl ?_
   refine p_end (hK106 _ ?_); clear hK106 K106
   refine block_norm ?_
   refine seq_norm (hK103 _ ?_); clear hK103 K103
   refine pwp_plain rfl fun K107 hK107 => ?_
   refine p_mS rfl ?_
   refine p_e rfl (e_adL rfl rfl) ?_
   refine p_aS rfl ?_
   refine p_end (hK107 _ ?_); clear hK107 K107
   exact loop_again ((k + 1, (a + x.count))) (by show _ < _; simp only; omega) ⟨rfl, rfl, trivial⟩ ⟨rfl, rfl, trivial⟩ (by exact ⟨by show _ + 1 ≤ _; simp only [List.length_map] at *; omega, by rw [capS_s hx]; first | (rw [needC_t (by rw [← cB_eq (by omega) (by omega)]; assumption)]; omega) | (rw [needC_f (by rw [← cB_eq (by omega) (by omega)]; assumption)]; omega), by exact hM, hihj99_0⟩)
  have hb105R := hb105; try simp only [zz] at hb105
  refine pwp_skip ?_
  refine block_norm ?_
  refine seq_norm (hK103 _ ?_); clear hK103 K103
  refine pwp_plain rfl fun K108 hK108 => ?_
  refine p_mS rfl ?_
  refine p_e rfl (e_adL rfl rfl) ?_
  refine p_aS rfl ?_
  refine p_end (hK108 _ ?_); clear hK108 K108
  exact loop_again ((k + 1, a)) (by show _ < _; simp only; omega) ⟨rfl, rfl, trivial⟩ ⟨rfl, rfl, trivial⟩ (by exact ⟨by show _ + 1 ≤ _; simp only [List.length_map] at *; omega, by rw [capS_s hx]; first | (rw [needC_t (by rw [← cB_eq (by omega) (by omega)]; assumption)]; omega) | (rw [needC_f (by rw [← cB_eq (by omega) (by omega)]; assumption)]; omega), by exact hM, hihj99_0⟩)
 have hb102R := hb102; try simp only [zz] at hb102
 have hs2 : a = capS (supC l) t.supplies t.supplies.length + capS (needC l) t.needs t.needs.length := ha.trans (congrArg (fun z => capS (supC l) t.supplies t.supplies.length + z) (capS_n (by simp only [List.length_map] at *; omega) (Nat.le_refl _)))
 have hbs2 := (capS_b (f := needC l) (l := t.needs) (m := 1000000) (fun y hy => needC_b (hT.nd y hy).2.2) (k := t.needs.length) (by omega))
 refine pwp_exit ?_
 refine exit_seq ?_
 clear hK101 K101
 refine exit_loop ?_
 refine exit_here ?_
 refine seq_norm (hK94 _ ?_); clear hK94 K94
 refine pwp_seq_seq ?_
 refine pwp_seq_plain rfl fun K109 hK109 => ?_
 refine p_aS rfl ?_
 refine p_end (hK109 _ ?_); clear hK109 K109
 refine pwp_seq_block fun K110 hK110 => ?_
 refine pwp_loopR (α := Nat × Int) [2, 6] (fun (a111 : Nat × Int) => [(11, .int (a111.2)), (14, .int (a111.1))]) (fun (a111 : Nat × Int) (h : Heap) (_ : Nat → Nat) => ((a111.1) ≤ (t.routes).length) ∧ ((a111.2) = capS (supC l) t.supplies t.supplies.length + capS (needC l) t.needs t.needs.length + capS (rtC t l) t.routes (a111.1)) ∧ (Mat h (19, 0) 30 t.places.toNat t.days.toNat cbo gs (cB l)) ∧ (h (2, 0) = some (.rows 5 [Traffic.enc t]))) (fun (a111 : Nat × Int) => (t.routes).length - (a111.1)) (0, a) (by exact ⟨rfl, rfl, trivial⟩) (by exact ⟨by exact Nat.zero_le _, by rw [capS_0]; omega, by exact hM, hihj99_0⟩) fun a111 r112 h113 c114 hj115 => ?_
 obtain ⟨k, a⟩ := a111
 obtain ⟨hk, ha, hM, hihj115_0⟩ := hj115
 try dsimp only at hk
 try dsimp only at ha
 try dsimp only at hM
 try dsimp only at hihj115_0
 show pwp _ _ (loopQ _ _ _) ⟨sets (mix _ _ _) [(11, .int a), (14, .int k)], _, _⟩
 refine pwp_seq_seq ?_
 refine pwp_seq_plain rfl fun K116 hK116 => ?_
 refine p_mS rfl ?_
 refine p_e rfl (e_faQ pl5 rfl) ?_
 refine p_e rfl (e_lH (v := .lit _ _ _) rfl hihj115_0 rfl) ?_
 refine p_e rfl (e_len rfl (by kernel_rfl)) ?_
 refine p_e rfl (e_lt rfl rfl) ?_
 refine p_end (hK116 _ ?_); clear hK116 K116
 refine pwp_seq_cond rfl fun K117 hK117 => ⟨fun hb118 => ?_, fun hb118 => ?_⟩
 ·have hb118R := hb118; try simp only [zz] at hb118
  obtain ⟨x, hx, hd, ht⟩ := get_lt (xs := t.routes) (i := k) (by omega)
  have hxs := hT.rt x (List.mem_of_getElem? hx)
  have hb1 := (capS_b (f := rtC t l) (l := t.routes) (m := 20000000) (fun y hy => rtC_b (hT.rt y hy).2.2.2.2 hT.hB.2 (hT.rt y hy).2.2.2.1.1) (k := k) (by omega))
  refine pwp_skip ?_
  refine seq_norm (hK117 _ ?_); clear hK117 K117
  refine pwp_seq_block fun K119 hK119 => ?_
  refine pwp_seq_plain rfl fun K120 hK120 => ?_
  refine p_e rfl (e_faQ pl5 rfl) ?_
  refine p_e rfl (e_lH (v := .lit _ _ _) rfl hihj115_0 rfl) ?_
  refine p_mS rfl ?_
  refine p_e rfl (e_ixL rfl rfl) ?_
  refine p_e rfl (e_loadA (n := 4) rfl (by kernel_rfl) (by kernel_rfl) (by kernel_rfl) (by first | omega | (simp only [List.length_map]; omega)) (by decide) (by first | exact agg_map hx rfl)) ?_
  refine p_new rfl (e_alloc (cs := [.int 0, .int 0, .int 0, .int 0]) (n := 4) (by kernel_rfl) rfl (by decide)) (ob_alloc (by decide)) ?_
  refine p_store rfl (e_storeA rfl (hset_self _ _ _) rfl rfl rfl (by kernel_rfl) rfl (by kernel_rfl)) trivial ?_
  refine p_end (hK120 _ ?_); clear hK120 K120
  refine pwp_seq_plain rfl fun K121 hK121 => ?_
  refine p_aS rfl ?_
  refine p_end (hK121 _ ?_); clear hK121 K121
  refine pwp_block ?_
  refine pwp_loopR (α := Nat × Int) [2, 6, 14, 15] (fun (a122 : Nat × Int) => [(11, .int (a122.2)), (16, .int (a122.1))]) (fun (a122 : Nat × Int) (h : Heap) (_ : Nat → Nat) => ((a122.1) = 0 ∨ ((a122.1) : Int) - 1 + x.days < t.days) ∧ ((a122.2) = capS (supC l) t.supplies t.supplies.length + capS (needC l) t.needs t.needs.length + capS (rtC t l) t.routes k + rtN l x (a122.1)) ∧ (Mat h (19, 0) 30 t.places.toNat t.days.toNat cbo gs (cB l)) ∧ (h (2, 0) = some (.rows 5 [Traffic.enc t])) ∧ (h (15, c114 15) = some (.rows 4 [Route.enc x]))) (fun (a122 : Nat × Int) => 20 - (a122.1)) (0, a) (by exact ⟨rfl, rfl, trivial⟩) (by exact ⟨by exact .inl rfl, by rw [rtN]; omega, by exact (Mat.set rfl rfl (Mat.set rfl rfl hM)), ((hset_ne (key_ne rfl)).trans ((hset_ne (key_ne rfl)).trans hihj115_0)), (hset_self _ _ _)⟩) fun a122 r123 h124 c125 hj126 => ?_
  obtain ⟨j, b⟩ := a122
  obtain ⟨hj, hb, hM, hihj126_0, hihj126_1⟩ := hj126
  try dsimp only at hj
  try dsimp only at hb
  try dsimp only at hM
  try dsimp only at hihj126_0
  try dsimp only at hihj126_1
  show pwp _ _ (loopQ _ _ _) ⟨sets (mix _ _ _) [(11, .int b), (16, .int j)], _, _⟩
  refine pwp_seq_seq ?_
  refine pwp_seq_plain rfl fun K127 hK127 => ?_
  refine p_mS rfl ?_
  refine p_e rfl (e_faQ pl4 rfl) ?_
  refine p_e rfl (e_lH (v := .sc _) rfl hihj126_1 rfl) ?_
  refine p_e rfl (e_adL rfl rfl) ?_
  refine p_e rfl (e_faQ pl5 rfl) ?_
  refine p_e rfl (e_lH (v := .sc _) rfl hihj126_0 rfl) ?_
  refine p_e rfl (e_lt rfl rfl) ?_
  refine p_end (hK127 _ ?_); clear hK127 K127
  refine pwp_seq_cond rfl fun K128 hK128 => ⟨fun hb129 => ?_, fun hb129 => ?_⟩
  ·have hb129R := hb129; try simp only [zz] at hb129
   have hb2 := rtN_b (l := l) (r := x) hxs.2.2.2.2 (n := j)
   refine pwp_skip ?_
   refine seq_norm (hK128 _ ?_); clear hK128 K128
   refine pwp_seq_block fun K130 hK130 => ?_
   refine pwp_seq_gops rfl fun K131 hK131 => ?_
   refine s_begin ?_
   refine s_e rfl (e_move (v := .ref _ _ _ _) rfl) ?_
   refine s_e rfl (e_faQ pl4 rfl) ?_
   refine s_step [15] (by simp) rfl rfl rfl rfl (e_lH (v := .sc _) rfl hihj126_1 rfl) trivial ?_
   refine s_e rfl (e_ixaR0 rfl rfl (by kernel_rfl) (by kernel_rfl) (by omega)) ?_
   refine s_step [19] (by simp) rfl rfl rfl rfl (e_loadV (v := .ref (30, gs.getD (x.fro).toNat 0) 1 0 t.days.toNat) rfl hM.out (by kernel_rfl) (by kernel_rfl) (by kernel_rfl) (hM.row (by omega))) trivial ?_
   refine s_e rfl (e_move (v := .sc _) rfl) ?_
   refine s_e rfl (e_ixaR0 rfl rfl (by kernel_rfl) (by kernel_rfl) (by omega)) ?_
   refine s_step [30] (by simp) rfl rfl rfl rfl (e_loadH (v := .bool (cB l (x.fro).toNat ((j : Int)).toNat)) rfl (hM.at (by omega)) (by kernel_rfl) (by kernel_rfl) (by kernel_rfl) (by simp only [List.length_map, List.length_range]; omega) (by decide) ((cell_map (mcell (by omega)) _).trans rfl)) trivial ?_
   refine s_e rfl (e_move (v := .sc _) rfl) ?_
   refine s_cases (fun hb132 => ?_) (fun hb132 => ?_)
   ·have hb132R := hb132; try simp only [zz] at hb132
    refine s_e rfl (e_move (v := .ref _ _ _ _) rfl) ?_
    refine s_e rfl (e_faQ pl4 rfl) ?_
    refine s_step [15] (by simp) rfl rfl rfl rfl (e_lH (v := .sc _) rfl hihj126_1 rfl) trivial ?_
    refine s_e rfl (e_ixaR0 rfl rfl (by kernel_rfl) (by kernel_rfl) (by omega)) ?_
    refine s_step [19] (by simp) rfl rfl rfl rfl (e_loadV (v := .ref (30, gs.getD (x.til).toNat 0) 1 0 t.days.toNat) rfl hM.out (by kernel_rfl) (by kernel_rfl) (by kernel_rfl) (hM.row (by omega))) trivial ?_
    refine s_e rfl (e_move (v := .sc _) rfl) ?_
    refine s_e rfl (e_faQ pl4 rfl) ?_
    refine s_step [15] (by simp) rfl rfl rfl rfl (e_lH (v := .sc _) rfl hihj126_1 rfl) trivial ?_
    refine s_e rfl (e_adL rfl rfl) ?_
    refine s_e rfl (e_ixaR0 rfl rfl (by kernel_rfl) (by kernel_rfl) (by omega)) ?_
    refine s_step [30] (by simp) rfl rfl rfl rfl (e_loadH (v := .bool (cB l (x.til).toNat (((j : Int) + x.days)).toNat)) rfl (hM.at (by omega)) (by kernel_rfl) (by kernel_rfl) (by kernel_rfl) (by simp only [List.length_map, List.length_range]; omega) (by decide) ((cell_map (mcell (by omega)) _).trans rfl)) trivial ?_
    refine s_e rfl (e_not rfl) ?_
    refine s_e rfl (e_pickT (v := .sc _) rfl rfl) ?_
    refine s_end (ds := [244, 245, 246, 247, 248, 249, 250, 251, 252, 253, 254, 255]) (by kernel_rfl) (by kernel_rfl) (hK131 _ ?_); clear hK131 K131
    refine pwp_cond rfl (fun hb133 => ?_) (fun hb133 => ?_)
    ·have hb133R := hb133; try simp only [zz] at hb133
     refine pwp_plain rfl fun K134 hK134 => ?_
     refine p_mS rfl ?_
     refine p_e rfl (e_faQ pl4 rfl) ?_
     refine p_e rfl (e_lH (v := .sc _) rfl hihj126_1 rfl) ?_
     refine p_e rfl (e_adL rfl rfl) ?_
     refine p_aS rfl ?_
     refine p_end (hK134 _ ?_); clear hK134 K134
     refine block_norm ?_
     refine seq_norm (hK130 _ ?_); clear hK130 K130
     refine pwp_plain rfl fun K135 hK135 => ?_
     refine p_mS rfl ?_
     refine p_e rfl (e_adL rfl rfl) ?_
     refine p_aS rfl ?_
     refine p_end (hK135 _ ?_); clear hK135 K135
     exact loop_again ((j + 1, (b + x.most))) (by show _ < _; simp only; omega) ⟨rfl, rfl, rfl, rfl, trivial⟩ ⟨rfl, rfl, trivial⟩ (by exact ⟨by right; omega, by rw [rtN_s]; first | (rw [dayC_f (by rw [← cB_eq (by omega) (by omega)]; assumption)]; omega) | (rw [dayC_g (by rw [← cB_eq (by omega) (by omega)]; assumption)]; omega) | (rw [dayC_t (by rw [← cB_eq (by omega) (by omega)]; assumption) (by rw [← cB_eq (by omega) (by omega)]; assumption)]; omega), by exact hM, hihj126_0, hihj126_1⟩)
    have hb133R := hb133; try simp only [zz] at hb133
    refine pwp_skip ?_
    refine block_norm ?_
    refine seq_norm (hK130 _ ?_); clear hK130 K130
    refine pwp_plain rfl fun K136 hK136 => ?_
    refine p_mS rfl ?_
    refine p_e rfl (e_adL rfl rfl) ?_
    refine p_aS rfl ?_
    refine p_end (hK136 _ ?_); clear hK136 K136
    exact loop_again ((j + 1, b)) (by show _ < _; simp only; omega) ⟨rfl, rfl, rfl, rfl, trivial⟩ ⟨rfl, rfl, trivial⟩ (by exact ⟨by right; omega, by rw [rtN_s]; first | (rw [dayC_f (by rw [← cB_eq (by omega) (by omega)]; assumption)]; omega) | (rw [dayC_g (by rw [← cB_eq (by omega) (by omega)]; assumption)]; omega) | (rw [dayC_t (by rw [← cB_eq (by omega) (by omega)]; assumption) (by rw [← cB_eq (by omega) (by omega)]; assumption)]; omega), by exact hM, hihj126_0, hihj126_1⟩)
   have hb132R := hb132; try simp only [zz] at hb132
   refine s_skip rfl rfl rfl ?_
   refine s_skip rfl rfl rfl ?_
   refine s_skip rfl rfl rfl ?_
   refine s_skip rfl rfl rfl ?_
   refine s_skip rfl rfl rfl ?_
   refine s_skip rfl rfl rfl ?_
   refine s_skip rfl rfl rfl ?_
   refine s_skip rfl rfl rfl ?_
   refine s_skip rfl rfl rfl ?_
   refine s_skip rfl rfl rfl ?_
   refine s_skip rfl rfl rfl ?_
   refine s_skip rfl rfl rfl ?_
   refine s_e rfl (e_pickF (v := .sc _) rfl rfl) ?_
   refine s_end (ds := [244, 245, 246, 247, 248, 249, 250, 251, 252, 253, 254, 255]) (by kernel_rfl) (by kernel_rfl) (hK131 _ ?_); clear hK131 K131
   refine pwp_cond (t := false) rfl nofun (fun _ => ?_)
   refine pwp_skip ?_
   refine block_norm ?_
   refine seq_norm (hK130 _ ?_); clear hK130 K130
   refine pwp_plain rfl fun K137 hK137 => ?_
   refine p_mS rfl ?_
   refine p_e rfl (e_adL rfl rfl) ?_
   refine p_aS rfl ?_
   refine p_end (hK137 _ ?_); clear hK137 K137
   exact loop_again ((j + 1, b)) (by show _ < _; simp only; omega) ⟨rfl, rfl, rfl, rfl, trivial⟩ ⟨rfl, rfl, trivial⟩ (by exact ⟨by right; omega, by rw [rtN_s]; first | (rw [dayC_f (by rw [← cB_eq (by omega) (by omega)]; assumption)]; omega) | (rw [dayC_g (by rw [← cB_eq (by omega) (by omega)]; assumption)]; omega) | (rw [dayC_t (by rw [← cB_eq (by omega) (by omega)]; assumption) (by rw [← cB_eq (by omega) (by omega)]; assumption)]; omega), by exact hM, hihj126_0, hihj126_1⟩)
  have hb129R := hb129; try simp only [zz] at hb129
  have hb2 := rtN_b (l := l) (r := x) hxs.2.2.2.2 (n := j)
  refine pwp_exit ?_
  refine exit_seq ?_
  clear hK128 K128
  refine exit_loop ?_
  refine exit_here ?_
  refine block_norm ?_
  refine seq_norm (hK119 _ ?_); clear hK119 K119
  refine pwp_plain rfl fun K138 hK138 => ?_
  refine p_mS rfl ?_
  refine p_e rfl (e_adL rfl rfl) ?_
  refine p_aS rfl ?_
  refine p_end (hK138 _ ?_); clear hK138 K138
  exact loop_again ((k + 1, b)) (by show _ < _; simp only; omega) ⟨rfl, rfl, trivial⟩ ⟨rfl, rfl, trivial⟩ (by exact ⟨by show _ + 1 ≤ _; simp only [List.length_map] at *; omega, by rw [capS_s hx, ← rtN_end (k := j) (by omega) hj]; omega, by exact hM, hihj126_0⟩)
 have hb118R := hb118; try simp only [zz] at hb118
 have hs3 : a = cutS t l := ha.trans (congrArg (fun z => capS (supC l) t.supplies t.supplies.length + capS (needC l) t.needs t.needs.length + z) (capS_n (by simp only [List.length_map] at *; omega) (Nat.le_refl _)))
 refine pwp_exit ?_
 refine exit_seq ?_
 clear hK117 K117
 refine exit_loop ?_
 refine exit_here ?_
 refine seq_norm (hK110 _ ?_); clear hK110 K110
 refine pwp_seq_plain rfl fun K139 hK139 => ?_
 refine p_mS rfl ?_
 refine p_aS rfl ?_
 refine p_aS rfl ?_
 refine p_end (hK139 _ ?_); clear hK139 K139
 refine pwp_ret ?_
 refine end2 (v := .sc _) (w := .sc _) rfl rfl ?_
 exact out_p (by rw [hs3]; exact (cv_0 hce hgp).symm)

end Go.Proofs.Ytigdmkhdmbbfiaa
