/- Ties written. No conditions. -/
import Derived.Test.YtmlhhdiomijpfaaGreatDoorRpr
import Derived.Test.YtmlhhdiomijpfaaGreatDoorNum
import Derived.Test.YtmlhhdiomijpfaaGreatDoorOrc
set_option linter.unusedSimpArgs false
set_option linter.unusedVariables false
set_option maxRecDepth 100000
namespace Go.Proofs.YtmlhhdiomijpfaaGreatDoor
open Go Go.Pv Go.Tx
theorem itoaT (n : Int) (h : 0 ≤ n ∧ n ≤ 99) : PCalls Tryz.prog 26 [.int n] (.str (bs (Lib.itoa n))) := itoaP n (by omega)
theorem joinZ (sep : ByteArray) : PCalls Tryz.prog 27 [.lit true 1 [], .str sep] (.str ⟨#[]⟩) := by
 refine ⟨.sc _, by kernel_rfl, fun w M vs hM hgw hsz hrep => ?_⟩
 obtain ⟨v0, v1, rfl⟩ := arr2' hsz
 have h0 := hrep 0 v0 _ rfl rfl
 have h1 := (hrep 1 v1 _ rfl rfl).sc_inv
 subst h1
 cases h0 with
 | litE => exact (Tryz.strings_Join_none _ _ sep w).mono fun e w' ⟨h1, h2⟩ => by subst h2; exact ⟨_, h1, .sc rfl, RowKit.Below.refl _ _⟩
 | lit hm hc hr => exact (Tryz.strings_Join_none _ _ sep w).mono fun e w' ⟨h1, h2⟩ => by subst h2; exact ⟨_, h1, .sc rfl, RowKit.Below.refl _ _⟩
theorem joinC (xs : List ByteArray) (h : xs.length ≤ 1800) (hm : ∀ x ∈ xs, x.size ≤ 41) : PCalls Tryz.prog 27 [.lit true 1 (xs.map cb), .str ⟨#[32]⟩] (.str (bs (Lib.join (xs.map ls) [32]))) := by
 by_cases hne : xs = []
 · subst hne; exact joinZ _
 have hl := join_len (xs.map ls) 41 fun w hw => by
   obtain ⟨x, hx, rfl⟩ := List.mem_map.1 hw
   rw [ls_len]; exact hm x hx
 rw [List.length_map] at hl
 have h2 : xs.length * (41 + 1) ≤ 1800 * 42 := Nat.mul_le_mul_right _ h
 have hj : (Lib.join (xs.map ls) [32]).length ≤ 140737488355328 := by omega
 exact joinP xs ⟨#[32]⟩ hne (by omega) hj
theorem words_next {l : List Tie} {k : Nat} {t : Tie} (hx : l[k]? = some t) : ((l.take k).map wordB ++ [bs (Lib.itoa t.standard) ++ ⟨#[46]⟩ ++ bs (Lib.itoa t.level)]).map cb = ((l.take (k + 1)).map wordB).map cb := by
 rw [List.take_add_one, hx, Option.toList_some, List.map_append, List.map_append, List.map_append]; rfl
theorem words_all {l : List Tie} {k : Nat} (hk : l.length ≤ k) : ((l.take k).map wordB).map ls = l.map fun t => ls (wordB t) := by
 rw [List.take_of_length_le hk, List.map_map]; rfl
theorem words_len {l : List Tie} {k : Nat} (ho : OkTo l k) : ∀ x ∈ (l.take k).map wordB, x.size ≤ 41 := fun x hx => by
 obtain ⟨t, ht, rfl⟩ := List.mem_map.1 hx
 exact word_len (ho t ht)

theorem fr6 : (inFrame Tryz.f6.ntmps (Tryz.f6.body.getD .skip) && Tryz.f6.results.toList.all (resScope Tryz.f6.ntmps)) = true := by kernel_rfl
theorem PrintC (l : List Tie) (hl : l.length ≤ 1000000) : PCalls Tryz.prog 6 [.lit true 2 (l.map Tie.enc)] (.tup [.str (prtX l).1, .int (prtX l).2]) := by
 refine PCalls.of_code Tryz.func6 rfl rfl (by kernel_rfl) mixed fr6 (by show _ ≤ 40; simp) (pure_2 (.sc _) (.sc _)) ?_
 refine pwp_seq_plain rfl fun K1 hK1 => ?_
 refine p_aS rfl ?_
 refine p_aS rfl ?_
 refine p_end (hK1 _ ?_); clear hK1 K1
 refine pwp_seq_seq ?_
 refine pwp_seq_plain rfl fun K2 hK2 => ?_
 refine p_e rfl (e_move (v := .lit _ _ _) rfl) ?_
 refine p_e rfl (e_len rfl (by kernel_rfl)) ?_
 refine p_e rfl (e_gt rfl rfl) ?_
 refine p_end (hK2 _ ?_); clear hK2 K2
 refine pwp_seq_cond rfl fun K3 hK3 => ⟨fun hb4 => ?_, fun hb4 => ?_⟩
 ·have hb4R := hb4; try simp only [zz] at hb4
  refine pwp_seq_plain rfl fun K5 hK5 => ?_
  refine p_aS rfl ?_
  refine p_aS rfl ?_
  refine p_end (hK5 _ ?_); clear hK5 K5
  refine pwp_ret ?_
  refine ret_seq ?_
  refine end2 (v := .sc _) (w := .sc _) rfl rfl ?_
  first
    | exact prt_o (prt_8 (by first | omega | (simp only [List.length_map] at *; omega)))
    | exact prt_o (prt_2 (by first | omega | (simp only [List.length_map] at *; omega)) hx (by unfold In99; omega))
    | exact prt_o ((prt_0 (by first | omega | (simp only [List.length_map] at *; omega)) hke hok).trans (by rw [words_all hke]))
 ·have hb4R := hb4; try simp only [zz] at hb4
  refine pwp_skip ?_
  refine seq_norm (hK3 _ ?_); clear hK3 K3
  refine pwp_seq_plain rfl fun K6 hK6 => ?_
  refine p_e rfl (e_assign (v := .nil) rfl) ?_
  refine p_end (hK6 _ ?_); clear hK6 K6
  refine pwp_seq_seq ?_
  refine pwp_seq_plain rfl fun K7 hK7 => ?_
  refine p_e rfl (e_move (v := .lit _ _ _) rfl) ?_
  refine p_e rfl (e_len rfl (by kernel_rfl)) ?_
  refine p_mS rfl ?_
  refine p_end (hK7 _ ?_); clear hK7 K7
  refine pwp_seq_block fun K8 hK8 => ?_
  refine pwp_loopR (α := Nat × PV) [10, 11] (fun (a9 : Nat × PV) => [(4, (a9.2)), (12, .int (a9.1))]) (fun (a9 : Nat × PV) (h : Heap) (_ : Nat → Nat) => ((a9.1) ≤ l.length) ∧ (OkTo l (a9.1)) ∧ (SliceAt h 36 (a9.2) 1 (((l.take (a9.1)).map wordB).map cb))) (fun (a9 : Nat × PV) => l.length - (a9.1)) (0, .nil) (by exact ⟨rfl, rfl, trivial⟩) (by exact ⟨by exact Nat.zero_le _, by exact OkTo.start, .nil⟩) fun a9 r10 h11 c12 hj13 => ?_
  obtain ⟨k, v⟩ := a9
  obtain ⟨hk, hok, hihj13_0⟩ := hj13
  try dsimp only at hk
  try dsimp only at hok
  try dsimp only at hihj13_0
  show pwp _ _ (loopQ _ _ _) ⟨sets (mix _ _ _) [(4, v), (12, .int k)], _, _⟩
  refine pwp_seq_plain rfl fun K14 hK14 => ?_
  refine p_e rfl (e_lt rfl rfl) ?_
  refine p_end (hK14 _ ?_); clear hK14 K14
  refine pwp_seq_cond rfl fun K15 hK15 => ⟨fun hb16 => ?_, fun hb16 => ?_⟩
  ·have hb16R := hb16; try simp only [zz] at hb16
   obtain ⟨x, hx, hd, ht⟩ := get_lt (xs := l) (i := k) (by omega)
   refine pwp_skip ?_
   refine seq_norm (hK15 _ ?_); clear hK15 K15
   refine pwp_seq_block fun K17 hK17 => ?_
   refine pwp_seq_plain rfl fun K18 hK18 => ?_
   refine p_e rfl (e_ixL rfl rfl) ?_
   refine p_e rfl (e_loadA (n := 2) rfl (by kernel_rfl) (by kernel_rfl) (by kernel_rfl) (by first | omega | (simp only [List.length_map]; omega)) (by decide) (by first | exact agg_map hx rfl)) ?_
   refine p_new rfl (e_alloc (cs := [.int 0, .int 0]) (n := 2) (by kernel_rfl) rfl (by decide)) (ob_alloc (by decide)) ?_
   refine p_store rfl (e_storeA rfl (hset_self _ _ _) rfl rfl rfl (by kernel_rfl) rfl (by kernel_rfl)) trivial ?_
   refine p_end (hK18 _ ?_); clear hK18 K18
   refine pwp_seq_seq ?_
   refine pwp_seq_gops rfl fun K19 hK19 => ?_
   refine g_begin ?_
   refine g_e rfl (e_faQ pl2 rfl) ?_
   refine g_e rfl (e_lH (v := .sc _) rfl (hset_self _ _ _) rfl) ?_
   refine g_call rfl rfl rfl rfl (.cons inn_sc (.cons inn_sc (.cons inn_sc .nil))) (within _ _ _) ?_
   refine g_e rfl (e_not rfl) ?_
   refine g_mS rfl rfl ?_
   refine g_cases (fun hb20 => ?_) (fun hb20 => ?_)
   ·have hb20R := hb20; try simp only [zz] at hb20
    iterate 2 refine g_skip rfl rfl rfl ?_
    refine g_nocall rfl rfl rfl ?_
    refine g_skip rfl rfl rfl ?_
    refine g_pT rfl rfl rfl ?_
    refine g_end (ds := [21, 22, 23, 24]) rfl rfl (hK19 _ ?_); clear hK19 K19
    refine pwp_seq_cond (t := true) rfl fun K21 hK21 => ⟨fun _ => ?_, nofun⟩
    refine pwp_seq_plain rfl fun K22 hK22 => ?_
    refine p_aS rfl ?_
    refine p_aS rfl ?_
    refine p_end (hK22 _ ?_); clear hK22 K22
    refine pwp_ret ?_
    refine ret_seq ?_
    refine ret_block ?_
    refine ret_seq ?_
    refine ret_loop ?_
    refine ret_block ?_
    refine ret_seq ?_
    refine end2 (v := .sc _) (w := .sc _) rfl rfl ?_
    first
      | exact prt_o (prt_8 (by first | omega | (simp only [List.length_map] at *; omega)))
      | exact prt_o (prt_2 (by first | omega | (simp only [List.length_map] at *; omega)) hx (by unfold In99; omega))
      | exact prt_o ((prt_0 (by first | omega | (simp only [List.length_map] at *; omega)) hke hok).trans (by rw [words_all hke]))
   ·have hb20R := hb20; try simp only [zz] at hb20
    refine g_e rfl (e_faQ pl2 rfl) ?_
    refine g_e rfl (e_lH (v := .sc _) rfl (hset_self _ _ _) rfl) ?_
    refine g_call rfl rfl rfl rfl (.cons inn_sc (.cons inn_sc (.cons inn_sc .nil))) (within _ _ _) ?_
    refine g_e rfl (e_not rfl) ?_
    refine g_pF rfl rfl rfl ?_
    refine g_end (ds := [21, 22, 23, 24]) rfl rfl (hK19 _ ?_); clear hK19 K19
    refine pwp_seq_cond rfl fun K23 hK23 => ⟨fun hb24 => ?_, fun hb24 => ?_⟩
    ·have hb24R := hb24; try simp only [zz] at hb24
     refine pwp_seq_plain rfl fun K25 hK25 => ?_
     refine p_aS rfl ?_
     refine p_aS rfl ?_
     refine p_end (hK25 _ ?_); clear hK25 K25
     refine pwp_ret ?_
     refine ret_seq ?_
     refine ret_block ?_
     refine ret_seq ?_
     refine ret_loop ?_
     refine ret_block ?_
     refine ret_seq ?_
     refine end2 (v := .sc _) (w := .sc _) rfl rfl ?_
     first
       | exact prt_o (prt_8 (by first | omega | (simp only [List.length_map] at *; omega)))
       | exact prt_o (prt_2 (by first | omega | (simp only [List.length_map] at *; omega)) hx (by unfold In99; omega))
       | exact prt_o ((prt_0 (by first | omega | (simp only [List.length_map] at *; omega)) hke hok).trans (by rw [words_all hke]))
    ·have hb24R := hb24; try simp only [zz] at hb24
     refine pwp_skip ?_
     refine seq_norm (hK23 _ ?_); clear hK23 K23
     have hi1 := itoa_len (n := x.standard) (by omega)
     have hi2 := itoa_len (n := x.level) (by omega)
     refine pwp_gops rfl fun K26 hK26 => ?_
     refine s_begin ?_
     refine s_e rfl (e_move (v := _) rfl) ?_
     refine s_e rfl (e_faQ pl2 rfl) ?_
     refine s_step [6] (by simp) rfl rfl rfl rfl (e_lH (v := .sc _) rfl (hset_self _ _ _) rfl) trivial ?_
     refine s_call (args := [.sc _]) [] (by intro k hk; simp [keysOf, Go.Pv.keyOf] at hk; try (first | (subst hk; simp; done) | (rcases hk with rfl | rfl <;> simp; done))) rfl rfl rfl rfl (.cons inn_sc .nil) (itoaT _ (by omega)) ?_
     refine s_e rfl (e_sadd rfl rfl (by first | omega | (simp only [szs, sz_one, sz_nil]; omega))) ?_
     refine s_e rfl (e_faQ pl2 rfl) ?_
     refine s_step [6] (by simp) rfl rfl rfl rfl (e_lH (v := .sc _) rfl (hset_self _ _ _) rfl) trivial ?_
     refine s_call (args := [.sc _]) [] (by intro k hk; simp [keysOf, Go.Pv.keyOf] at hk; try (first | (subst hk; simp; done) | (rcases hk with rfl | rfl <;> simp; done))) rfl rfl rfl rfl (.cons inn_sc .nil) (itoaT _ (by omega)) ?_
     refine s_e rfl (e_sadd rfl rfl (by first | omega | (simp only [szs, sz_one, sz_nil]; omega))) ?_
     refine s_new [] (by simp) rfl rfl rfl rfl (e_bslice (rows := [cb (bs (Lib.itoa x.standard) ++ ⟨#[46]⟩ ++ bs (Lib.itoa x.level))]) (zs := [.str ByteArray.empty]) (sz := 1) (by kernel_rfl) (by kernel_rfl) rfl (by kernel_rfl) (by decide) rfl rfl (by exact ⟨by decide, rfl, rfl, trivial⟩) rfl) trivial ?_
     refine s_app [36, 35] [36, 36] (by simp) (by simp) (by simp) rfl rfl rfl (hihj13_0.keep fun _ => (hset_ne (key_ne rfl)).trans ((hset_ne (key_ne rfl)).trans ((hset_ne (key_ne rfl)).trans (rfl)))) (SrcAt.ref (hset_self _ _ _) rfl) rfl (by kernel_rfl) (by simp only [List.length_append, List.length_map, List.length_take, List.length_nil, List.length_cons]; omega) fun v27 h28 c29 hs30 hf31 => ?_
     have ho32 := (hf31 (6, _) (key_ne rfl) (fun _ _ => key_ne rfl)).trans ((hset_ne (key_ne rfl)).trans (hset_self _ _ _))
     have ho33 := (hf31 (35, _) (key_ne rfl) (fun _ _ => key_ne rfl)).trans (hset_self _ _ _)
     refine s_e rfl (e_assign (v := _) rfl) ?_
     refine s_end (ds := []) (by kernel_rfl) (by kernel_rfl) (hK26 _ ?_); clear hK26 K26
     refine block_norm ?_
     refine seq_norm (hK17 _ ?_); clear hK17 K17
     refine pwp_plain rfl fun K34 hK34 => ?_
     refine p_e rfl (e_adL rfl rfl) ?_
     refine p_mS rfl ?_
     refine p_end (hK34 _ ?_); clear hK34 K34
     exact loop_again ((k + 1, v27)) (by show _ < _; simp only; omega) ⟨rfl, rfl, trivial⟩ ⟨rfl, rfl, trivial⟩ (by exact ⟨by show _ + 1 ≤ _; first | omega | (simp only [List.length_map] at *; omega), by exact hok.next hx (by unfold In99; omega), (SliceAt.to hs30 (by (first | rw [← words_next hx, List.map_append]; rfl | rfl)))⟩)
  ·have hb16R := hb16; try simp only [zz] at hb16
   have hke : l.length ≤ k := by first | omega | (simp only [List.length_map] at *; omega)
   refine pwp_exit ?_
   refine exit_seq ?_
   clear hK15 K15
   refine exit_loop ?_
   refine exit_here ?_
   refine seq_norm (hK8 _ ?_); clear hK8 K8
   refine pwp_seq_plain rfl fun K35 hK35 => ?_
   refine p_e rfl (e_move (v := _) rfl) ?_
   refine p_call rfl (.cons (SliceAt.inn (rows' := (((l.take k).map wordB)).map cb) hihj13_0 (by simp) (by first | exact pure_map cb_pure | (simp only [← List.map_append, List.nil_append]; exact pure_map cb_pure))) (.cons inn_sc .nil)) (joinC _ (by rw [List.length_map, List.length_take]; omega) (words_len hok)) ?_
   refine p_aS rfl ?_
   refine p_aS rfl ?_
   refine p_end (hK35 _ ?_); clear hK35 K35
   refine pwp_ret ?_
   refine end2 (v := .sc _) (w := .sc _) rfl rfl ?_
   first
     | exact prt_o (prt_8 (by first | omega | (simp only [List.length_map] at *; omega)))
     | exact prt_o (prt_2 (by first | omega | (simp only [List.length_map] at *; omega)) hx (by unfold In99; omega))
     | exact prt_o ((prt_0 (by first | omega | (simp only [List.length_map] at *; omega)) hke hok).trans (by rw [words_all hke]))

end Go.Proofs.YtmlhhdiomijpfaaGreatDoor
