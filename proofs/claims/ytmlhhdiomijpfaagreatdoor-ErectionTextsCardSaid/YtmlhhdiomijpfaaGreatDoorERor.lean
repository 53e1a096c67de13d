import Derived.Test.YtmlhhdiomijpfaaGreatDoorESrt
set_option linter.unusedSimpArgs false
set_option linter.unusedVariables false
set_option maxRecDepth 100000
namespace Go.Proofs.YtmlhhdiomijpfaaGreatDoor.E7
open Go Go.Pv Go.Proofs.YtmlhhdiomijpfaaGreatDoor
def doneB (n : Nat) (D : List Int) : List Bool := (List.range n).map fun i : Nat => decide ((i : Int) ∈ D)
theorem doneB_len {n : Nat} {D : List Int} : (doneB n D).length = n := by simp [doneB]
theorem doneB_nil {n : Nat} : doneB n [] = List.replicate n false := by
 rw [doneB, List.map_congr_left (g := fun _ => false) (fun x _ => by simp), List.map_const', List.length_range]
theorem doneB_get {n : Nat} {D : List Int} {i : Nat} (h : i < n) : (doneB n D)[i]? = some (decide ((i : Int) ∈ D)) := by
 simp [doneB, List.getElem?_range, h]
theorem doneB_getD {n : Nat} {D : List Int} {z : Int} (h : 0 ≤ z ∧ z < n) : (doneB n D).getD z.toNat false = decide (z ∈ D) := by
 rw [List.getD_eq_getElem?_getD, doneB_get (by omega), Option.getD_some, Int.toNat_of_nonneg h.1]
theorem doneB_set {n : Nat} {D : List Int} {x : Nat} (h : x < n) : (doneB n D).set x true = doneB n (D ++ [(x : Int)]) := by
 apply List.ext_getElem (by simp [doneB]);intro i h1 h2;rw [List.getElem_set];simp only [doneB, List.getElem_map, List.getElem_range];by_cases e : x = i
 · subst e; simp
 · rw [if_neg e];have : (i : Int) ≠ (x : Int) := by omega
   simp [this]
theorem has_done {n : Nat} {D l : List Int} (h : ∀ z ∈ l, 0 ≤ z ∧ z < n) : hasB (doneB n D) l = l.all fun z => decide (z ∈ D) := by
 rw [Bool.eq_iff_iff, hasB, List.all_eq_true, List.all_eq_true];exact ⟨fun h1 z hz => by rw [← doneB_getD (h z hz)]; exact h1 z hz, fun h1 z hz => by rw [doneB_getD (h z hz)]; exact h1 z hz⟩
theorem rdy_has {xs : List Task} {D : List Int} {z : Int} {x : Task} (hz : 0 ≤ z) (hx : xs[z.toNat]? = some x) (h : ∀ z ∈ x.needs, 0 ≤ z ∧ z < xs.length) : rdyB (ndX xs) D z.toNat = (!decide (((z.toNat : Nat) : Int) ∈ D) && hasB (doneB xs.length D) x.needs) := by
 rw [has_done h, rdyB, ndX_at hx]; simp
def NxI (nd : List (List Int)) (D : List Int) (z nx : Int) : Prop := (nx = -1 ∧ ∀ j : Nat, z < j → j < nd.length → rdyB nd D j = false) ∨ ∃ x : Nat, nx = x ∧ x < nd.length ∧ rdyB nd D x = true ∧ ∀ j : Nat, z < j → j < nd.length → rdyB nd D j = true → x ≤ j
theorem NxI.start {nd : List (List Int)} {D : List Int} : NxI nd D ((nd.length : Int) - 1) (-1) := .inl ⟨rfl, fun j h1 h2 => by omega⟩
theorem NxI.yes {nd : List (List Int)} {D : List Int} {z nx : Int} (h : NxI nd D z nx) (hz : 0 ≤ z ∧ z < nd.length) (hr : rdyB nd D z.toNat = true) : NxI nd D (z - 1) z :=
 .inr ⟨z.toNat, by omega, by omega, hr, fun j h1 _ _ => by omega⟩
theorem NxI.no {nd : List (List Int)} {D : List Int} {z nx : Int} (h : NxI nd D z nx) (hz : 0 ≤ z) (hr : rdyB nd D z.toNat = false) : NxI nd D (z - 1) nx := by
 have hs : ∀ j : Nat, z - 1 < j → rdyB nd D j = true → z < j := fun j h1 h2 => by
   by_cases e : z.toNat = j
   · subst e; rw [hr] at h2; cases h2
   · omega
 rcases h with ⟨h1, h2⟩ | ⟨x, h1, h2, h3, h4⟩
 · exact .inl ⟨h1, fun j h5 h6 => by
     cases e : rdyB nd D j with
     | false => rfl
     | true => rw [h2 j (hs j h5 e) h6] at e; cases e⟩
 · exact .inr ⟨x, h1, h2, h3, fun j h5 h6 h7 => h4 j (hs j h5 h7) h6 h7⟩
theorem NxI.stop {nd : List (List Int)} {D : List Int} {z nx : Int} (h : NxI nd D z nx) (hz : z < 0) (ho : OrdAt nd D) (hn : nx < 0) : D = ordR nd := by
 rcases h with ⟨_, h2⟩ | ⟨x, h1, _⟩
 · exact ho.stop fun j hj => h2 j (by omega) hj
 · omega
theorem NxI.go {nd : List (List Int)} {D : List Int} {z nx : Int} (h : NxI nd D z nx) (hz : z < 0) (ho : OrdAt nd D) (hn : ¬ nx < 0) : ∃ x : Nat, nx = (x : Int) ∧ x < nd.length ∧ OrdAt nd (D ++ [(x : Int)]) ∧ leftR nd (D ++ [(x : Int)]) < leftR nd D := by
 rcases h with ⟨h1, _⟩ | ⟨x, h1, h2, h3, h4⟩
 · omega
 · have := left_step h2 (rdyB_iff.1 h3).1;exact ⟨x, h1, h2, ho.step h2 h3 fun j hj hr => h4 j (by omega) hj hr, by omega⟩
theorem fr48 : (inFrame Tryz.f48.ntmps (Tryz.f48.body.getD .skip) && Tryz.f48.results.toList.all (resScope Tryz.f48.ntmps)) = true := by kernel_rfl
theorem refOrder (xs : List Task) (hl : xs.length ≤ 10000) (hnl : ∀ x ∈ xs, x.needs.length ≤ 1000) (hok : NdOK (ndX xs)) : PCalls Tryz.prog 48 [.lit true 6 (xs.map Task.enc)] (.lit false 1 ((ordR (ndX xs)).map ci)) := by
 refine PCalls.of_code Tryz.func48 rfl rfl (by kernel_rfl) mixed fr48 (by show _ ≤ 42; simp) (.lit _ _ _ fun row hr => pure_map ci_pure row hr) ?_;have hndl := ndX_len (xs := xs);refine pwp_seq_plain rfl fun K1 hK1 => p_e rfl (e_assign (v := .nil) rfl) (p_end (hK1 _ ?_)); clear hK1 K1;refine pwp_seq_plain rfl fun K2 hK2 => p_e rfl (e_move (v := .lit _ _ _) rfl) (p_e rfl (e_len rfl (by kernel_rfl)) (p_new rfl (e_mkB (n := xs.length) rfl rfl (by rw [lM]) (by kernel_rfl) (by kernel_rfl) (by kernel_rfl) (by decide +kernel) (by omega)) trivial ?_));rw [← doneB_nil (n := xs.length)];refine p_e rfl (e_assign (v := .ref _ _ _ _) rfl) (p_end (hK2 _ ?_)); clear hK2 K2;refine pwp_seq_plain rfl fun K3 hK3 => p_e rfl (e_assign (v := .nil) rfl) (p_end (hK3 _ ?_)); clear hK3 K3;refine pwp_block (pwp_loopR (α := (List Int) × PV) [0, 3] (fun (a4 : (List Int) × PV) => [(4, (a4.2))]) (fun (a4 : (List Int) × PV) (h : Heap) (_ : Nat → Nat) => (OrdAt (ndX xs) (a4.1)) ∧ (SliceAt h 41 (a4.2) 1 ((a4.1).map ci)) ∧ (h (9, 0) = some (.rows 1 ((doneB xs.length (a4.1)).map cbo)))) (fun (a4 : (List Int) × PV) => leftR (ndX xs) (a4.1)) ([], .nil) (by exact ⟨rfl, trivial⟩) (by exact ⟨by exact OrdAt.nil, .nil, (hset_self _ _ _)⟩) fun a4 r5 h6 c7 hj8 => ?_);obtain ⟨D, w⟩ := a4;obtain ⟨ho, hihj8_0, hihj8_1⟩ := hj8;try dsimp only at ho
 try dsimp only at hihj8_0
 try dsimp only at hihj8_1
 show pwp _ _ (loopQ _ _ _) ⟨sets (mix _ _ _) [(4, w)], _, _⟩;refine pwp_block (pwp_seq_plain rfl fun K9 hK9 => p_aS rfl (p_end (hK9 _ ?_))); clear hK9 K9;refine pwp_seq_seq (pwp_seq_plain rfl fun K10 hK10 => p_e rfl (e_move (v := .lit _ _ _) rfl) (p_e rfl (e_len rfl (by kernel_rfl)) (p_e rfl (e_sub rfl rfl (by first | omega | (simp only [lM]; omega))) (p_aS rfl (p_end (hK10 _ ?_)))))); clear hK10 K10;refine pwp_seq_block fun K11 hK11 => pwp_loopR (α := Int × Int) [0, 3, 4] (fun (a12 : Int × Int) => [(5, .int (a12.2)), (6, .int (a12.1))]) (fun (a12 : Int × Int) (h : Heap) (_ : Nat → Nat) => (-1 ≤ (a12.1) ∧ (a12.1) < xs.length) ∧ (NxI (ndX xs) D (a12.1) (a12.2)) ∧ (SliceAt h 41 w 1 (D.map ci)) ∧ (h (9, 0) = some (.rows 1 ((doneB xs.length D).map cbo)))) (fun (a12 : Int × Int) => ((a12.1) + 1).toNat) (((xs.map Task.enc).length : Int) - 1, -1) (by exact ⟨rfl, rfl, trivial⟩) (by exact ⟨by (simp only [lM]; omega), by rw [lM, ← ndX_len]; exact NxI.start, hihj8_0, hihj8_1⟩) fun a12 r13 h14 c15 hj16 => ?_;obtain ⟨z, nx⟩ := a12;obtain ⟨hz, hnx, hihj16_0, hihj16_1⟩ := hj16;try dsimp only at hz
 try dsimp only at hnx
 try dsimp only at hihj16_0
 try dsimp only at hihj16_1
 show pwp _ _ (loopQ _ _ _) ⟨sets (mix _ _ _) [(5, .int nx), (6, .int z)], _, _⟩;refine pwp_seq_seq (pwp_seq_plain rfl fun K17 hK17 => p_mS rfl (p_e rfl (e_ge rfl rfl) (p_end (hK17 _ ?_)))); clear hK17 K17;refine pwp_seq_cond rfl fun K18 hK18 => ⟨fun hb19 => ?_, fun hb19 => ?_⟩
 ·have hb19R := hb19; try simp only [zz] at hb19
  have hdb := doneB_len (n := xs.length) (D := D);obtain ⟨x, hx, hd, ht⟩ := get_lt (xs := xs) (i := z.toNat) (by omega);have hxn := hnl x (List.mem_of_getElem? hx);have hxr := hok.rng z.toNat; rw [ndX_at hx, ndX_len] at hxr;have hrd := rdy_has (D := D) (by omega) hx hxr;refine pwp_skip (seq_norm (hK18 _ ?_)); clear hK18 K18;refine pwp_seq_block fun K20 hK20 => pwp_seq_gops rfl fun K21 hK21 => g_begin (g_e rfl (e_move (v := .ref _ _ _ _) rfl) (g_mS rfl rfl (g_e rfl (e_ixR rfl rfl) (g_e rfl (e_loadH (v := .sc _) rfl hihj16_1 (by kernel_rfl) (by kernel_rfl) (by kernel_rfl) (by simp only [lM, doneB_len]; omega) (by decide) ((cell_map (doneB_get (by omega)) _).trans rfl)) (g_e rfl (e_not rfl) ?_)))));refine g_mS rfl rfl ?_;refine g_cases (fun hb22 => ?_) (fun hb22 => ?_)
  ·have hb22R := hb22; try simp only [zz] at hb22
   refine g_e rfl (e_move (v := .ref _ _ _ _) rfl) (g_e rfl (e_move (v := .lit _ _ _) rfl) (g_mS rfl rfl (g_e rfl (e_ixL rfl rfl) (g_e rfl (e_fb pl6 rfl) (g_e rfl (e_lL (v := .lit _ _ _) rfl ((cell_map hx _).trans rfl)) (g_call rfl rfl rfl rfl (.cons (inn_ref (rows := ((doneB xs.length D)).map cbo) hihj16_1 (by first | (simp; done) | (simp only [lM]; omega)) rfl (by exact pure_map cbo_pure)) (.cons inn_lit .nil)) (hasC _ _ (by omega) (by rw [doneB_len]; assumption)) (g_pT rfl rfl rfl ?_)))))));refine g_end (ds := [23, 24, 25, 26, 27, 28, 29]) rfl rfl (hK21 _ ?_); clear hK21 K21;refine pwp_cond rfl (fun hb23 => ?_) (fun hb23 => ?_)
   ·have hb23R := hb23; try simp only [zz] at hb23
    refine pwp_plain rfl fun K24 hK24 => p_mS rfl (p_aS rfl (p_end (hK24 _ ?_))); clear hK24 K24;refine block_norm (seq_norm (hK20 _ ?_)); clear hK20 K20;refine pwp_plain rfl fun K25 hK25 => p_mS rfl (p_e rfl (e_sub rfl rfl (by first | omega | (simp only [lM]; omega))) (p_aS rfl (p_end (hK25 _ ?_)))); clear hK25 K25;exact loop_again ((z - 1, z)) (by show _ < _; simp only; omega) ⟨rfl, rfl, rfl, trivial⟩ ⟨rfl, rfl, trivial⟩ (by exact ⟨by (show -1 ≤ z - 1 ∧ z - 1 < (xs.length : Int); omega), by first | exact hnx.yes (by omega) (by rw [hrd]; simp_all) | exact hnx.no (by omega) (by rw [hrd]; simp_all), hihj16_0, hihj16_1⟩)
   have hb23R := hb23; try simp only [zz] at hb23
   refine pwp_skip (block_norm (seq_norm (hK20 _ ?_))); clear hK20 K20;refine pwp_plain rfl fun K26 hK26 => p_mS rfl (p_e rfl (e_sub rfl rfl (by first | omega | (simp only [lM]; omega))) (p_aS rfl (p_end (hK26 _ ?_)))); clear hK26 K26;exact loop_again ((z - 1, nx)) (by show _ < _; simp only; omega) ⟨rfl, rfl, rfl, trivial⟩ ⟨rfl, rfl, trivial⟩ (by exact ⟨by (show -1 ≤ z - 1 ∧ z - 1 < (xs.length : Int); omega), by first | exact hnx.yes (by omega) (by rw [hrd]; simp_all) | exact hnx.no (by omega) (by rw [hrd]; simp_all), hihj16_0, hihj16_1⟩)
  have hb22R := hb22; try simp only [zz] at hb22
  iterate 6 refine g_skip rfl rfl rfl ?_
  refine g_nocall rfl rfl rfl (g_pF rfl rfl rfl (g_end (ds := [23, 24, 25, 26, 27, 28, 29]) rfl rfl (hK21 _ ?_))); clear hK21 K21;refine pwp_cond (t := false) rfl nofun (fun _ => ?_);refine pwp_skip (block_norm (seq_norm (hK20 _ ?_))); clear hK20 K20;refine pwp_plain rfl fun K27 hK27 => p_mS rfl (p_e rfl (e_sub rfl rfl (by first | omega | (simp only [lM]; omega))) (p_aS rfl (p_end (hK27 _ ?_)))); clear hK27 K27;exact loop_again ((z - 1, nx)) (by show _ < _; simp only; omega) ⟨rfl, rfl, rfl, trivial⟩ ⟨rfl, rfl, trivial⟩ (by exact ⟨by (show -1 ≤ z - 1 ∧ z - 1 < (xs.length : Int); omega), by first | exact hnx.yes (by omega) (by rw [hrd]; simp_all) | exact hnx.no (by omega) (by rw [hrd]; simp_all), hihj16_0, hihj16_1⟩)
 have hb19R := hb19; try simp only [zz] at hb19
 refine pwp_exit (exit_seq ?_);clear hK18 K18;refine exit_loop (exit_here (seq_norm (hK11 _ ?_))); clear hK11 K11;refine pwp_seq_seq (pwp_seq_plain rfl fun K28 hK28 => p_mS rfl (p_e rfl (e_lt rfl rfl) (p_end (hK28 _ ?_)))); clear hK28 K28;refine pwp_seq_cond rfl fun K29 hK29 => ⟨fun hb30 => ?_, fun hb30 => ?_⟩
 ·have hb30R := hb30; try simp only [zz] at hb30
  have hD := hnx.stop (by omega) ho (by assumption);refine pwp_seq_plain rfl fun K31 hK31 => p_e rfl (e_move (v := _) rfl) (p_e rfl (e_assign (v := _) rfl) (p_end (hK31 _ ?_))); clear hK31 K31;refine pwp_ret (ret_seq (ret_block (ret_loop (ret_block (end1 (v := _) rfl ?_)))));exact out_slice hihj16_0 (by rw [← hD]) (fun _ => rfl) fun a p hp => by simp [ci] at hp; subst hp; exact ⟨.sc _, rfl⟩
 have hb30R := hb30; try simp only [zz] at hb30
 refine pwp_skip (seq_norm (hK29 _ ?_)); clear hK29 K29;obtain ⟨x, rfl, hxl, ho2, hleft⟩ := hnx.go (by omega) ho (by omega);rw [ndX_len] at hxl;have hdl := ord_len ho;refine pwp_seq_plain rfl fun K32 hK32 => p_e rfl (e_move (v := .ref _ _ _ _) rfl) (p_mS rfl (p_e rfl (e_ixR rfl rfl) (p_store rfl (e_storeB (zs := (doneB xs.length D)) (a := true) rfl hihj16_1 rfl (by (rw [doneB_len]; omega)) (by kernel_rfl) (by kernel_rfl)) trivial (p_end (hK32 _ ?_))))); clear hK32 K32;refine pwp_plain rfl fun K33 hK33 => p_e rfl (e_move (v := _) rfl) (p_mS rfl (p_new rfl (e_bslice (rows := [ci (x : Int)]) (zs := [.int 0]) (sz := 1) (by kernel_rfl) (by kernel_rfl) rfl (by kernel_rfl) (by decide) rfl rfl (by exact ⟨by decide, rfl, rfl, trivial⟩) rfl) trivial (p_app rfl rfl rfl (hihj16_0.keep fun _ => hzM rfl (hzM rfl (rfl))) (src_ref (hset_self _ _ _) rfl) (by kernel_rfl) (by simp only [List.length_append, lM, List.length_nil, List.length_cons]; omega) fun v34 h35 c36 hs37 hf38 => ?_)));have ho39 := (hf38 (9, _) (key_ne rfl) (fun _ _ => key_ne rfl)).trans (hzM rfl (hset_self _ _ _));have ho40 := (hf38 (40, _) (key_ne rfl) (fun _ _ => key_ne rfl)).trans (hset_self _ _ _);refine p_e rfl (e_assign (v := _) rfl) (p_end (hK33 _ ?_)); clear hK33 K33;refine block_norm ?_;exact loop_again ((D ++ [(x : Int)], v34)) (by show _ < _; simp only; exact hleft) ⟨rfl, rfl, trivial⟩ ⟨rfl, trivial⟩ (by exact ⟨by exact ho2, (SliceAt.to hs37 (by (simp only [List.map_append, List.map_cons, List.map_nil] <;> rfl))), (ho39.trans (by (rw [← doneB_set hxl]; rfl)))⟩)
end Go.Proofs.YtmlhhdiomijpfaaGreatDoor.E7
