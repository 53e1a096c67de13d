import Derived.Test.YtmlhhdiomijpfaaGreatDoorTsk
set_option linter.unusedSimpArgs false
set_option linter.unusedVariables false
set_option maxRecDepth 100000
namespace Go.Proofs.YtmlhhdiomijpfaaGreatDoor
open Go Go.Pv Go.Tx
theorem num7_neg : numB7 [45, 49] = false := by decide +kernel
theorem rv_yes {w : ByteArray} {f : Bool} (h : (refNum 7 (ls w)).2 = true) (h2 : 0 ≤ (refNum 7 (ls w)).1 ∨ (f = true ∧ -1 ≤ (refNum 7 (ls w)).1)) : val7 f (ls w) = some (refNum 7 (ls w)).1 := by
 rcases ref7_no h with ⟨v, hv, hw, he⟩ | ⟨hw, he⟩ | ⟨h3, _, _⟩
 · have := num7_yes hv;unfold val7;rw [hw] at he ⊢;rw [if_pos this.1, this.2, he]
 · unfold val7;rw [he] at h2 ⊢;rcases h2 with h2 | ⟨rfl, _⟩
   · omega
   · rw [hw, if_neg (by rw [num7_neg]; decide), if_pos ⟨rfl, rfl⟩]
 · exfalso; rcases h2 with h2 | ⟨_, h2⟩ <;> omega
theorem rv_no {w : ByteArray} {f : Bool} (h : (refNum 7 (ls w)).2 = false ∨ ((refNum 7 (ls w)).1 < 0 ∧ (f = false ∨ (refNum 7 (ls w)).1 < -1))) : val7 f (ls w) = none := by
 unfold val7;by_cases hb : numB7 (ls w) = true
 · obtain ⟨v, hv, hw, _⟩ := num7_no hb;rw [hw, ref7_yes hv] at h;rcases h with h | ⟨h, _⟩
   · cases h
   · simp only at h; omega
 · rw [if_neg hb, if_neg]
   rintro ⟨rfl, hw⟩
   rw [hw, ref7_one] at h;rcases h with h | ⟨_, h | h⟩
   · cases h
   · cases h
   · simp only at h; omega
def rowZ (a b : ByteArray) : List PV := [.str a, .str b, .int 0, .int 0, .int 0, .nil]
theorem vals3 {vs : List Int} (h : 3 ≤ vs.length) : ∃ p q t r, vs = p :: q :: t :: r := by
 match vs, h with
 | p :: q :: t :: r, _ => exact ⟨p, q, t, r, rfl⟩
theorem out_line {h : Heap} {a b : ByteArray} {vs : List Int} {k : Key} {n : Nat} (hk : h k = some (.rows 1 (vs.map ci))) (hn : n = vs.length - 3) (hl : 3 ≤ vs.length) :
   Out h (.agg [.str a, .str b, .int (vs.getD 0 0), .int (vs.getD 1 0), .int (vs.getD 2 0), .ref k 1 3 n]) (.agg (mkT a b vs).encF) := by
 obtain ⟨p, q, t, r, rfl⟩ := vals3 hl;refine .agg rfl fun i x y h1 h2 => ?_
 match i with
 | 0 => cases h1; cases h2; exact out_s rfl
 | 1 => cases h1; cases h2; exact out_s rfl
 | 2 => cases h1; cases h2; exact out_i rfl
 | 3 => cases h1; cases h2; exact out_i rfl
 | 4 => cases h1; cases h2; exact out_i rfl
 | 5 =>
   cases h1; cases h2;refine .ref hk (by simp only [lM, List.length_cons] at *; omega) (by simp only [mkT, List.drop_succ_cons, List.drop_zero, lM, List.length_cons] at *; omega) (fun row hr => by obtain ⟨z, _, rfl⟩ := List.mem_map.1 hr; rfl) (fun i j row row' x y h1 h2 h3 h4 => ?_) fun row hr x hx => by obtain ⟨z, _, rfl⟩ := List.mem_map.1 hr; simp [ci] at hx; subst hx; rfl
   have e1 : ((p :: q :: t :: r).map ci)[3 + i]? = (r.map ci)[i]? := by
     rw [show 3 + i = i + 1 + 1 + 1 by omega]; rfl
   rw [e1] at h1;have h2' : (r.map ci)[i]? = some row' := h2;rw [h1] at h2'; cases h2';rw [h3] at h4; cases h4;obtain ⟨z, _, rfl⟩ := List.mem_map.1 (List.mem_of_getElem? h1);have := List.mem_of_getElem? h3;simp [ci] at this; subst this; exact .clean (.sc _)
 | i + 6 => cases h1
theorem lin_oy {h : Heap} {x a b : ByteArray} {vs : List Int} {k : Key} {n : Nat} (ht : taskP x = some (mkT a b vs)) (hk : h k = some (.rows 1 (vs.map ci))) (hn : n = vs.length - 3) (hl : 3 ≤ vs.length) :
   Out h (.tup [.agg [.str a, .str b, .int (vs.getD 0 0), .int (vs.getD 1 0), .int (vs.getD 2 0), .ref k 1 3 n], .bool true]) (.tup [.agg (tskR x).1.encF, .bool (tskR x).2]) := by
 rw [tsk_yes ht]; exact out_2 (out_line hk hn hl) (out_b rfl)
theorem v_at {vs : List Int} {i : Nat} (h : i < vs.length) : vs[i]? = some (vs.getD i 0) := by
 rw [List.getD_eq_getElem?_getD, List.getElem?_eq_getElem h]; rfl
theorem fr46 : (inFrame Tryz.f46.ntmps (Tryz.f46.body.getD .skip) && Tryz.f46.results.toList.all (resScope Tryz.f46.ntmps)) = true := by kernel_rfl
theorem lineC (x : ByteArray) (hs : x.size ≤ 1000000) : PCalls Tryz.prog 46 [.str x] (.tup [.agg (tskR x).1.encF, .bool (tskR x).2]) := by
 refine PCalls.of_code Tryz.func46 rfl rfl (by kernel_rfl) mixed fr46 (by show _ ≤ 72; simp) (tsk_pure x) (pwp_seq_plain rfl fun K1 hK1 => p_new rfl (e_alloc (cs := [.str ByteArray.empty, .str ByteArray.empty, .int 0, .int 0, .int 0, .nil]) (n := 6) (by kernel_rfl) rfl (by decide)) (ob_alloc (by decide)) (p_aS rfl (p_end (hK1 _ ?_)))); clear hK1 K1;refine pwp_seq_plain rfl fun K2 hK2 => p_mS rfl (p_call rfl (.cons inn_sc (.cons inn_sc .nil)) (CutC _ 32 (by omega)) (p_e rfl (e_assign (v := .lit _ _ _) rfl) (p_end (hK2 _ ?_)))); clear hK2 K2;refine pwp_seq_seq (pwp_seq_plain rfl fun K3 hK3 => p_e rfl (e_move (v := .lit _ _ _) rfl) (p_e rfl (e_len rfl (by kernel_rfl)) (p_e rfl (e_lt rfl rfl) (p_end (hK3 _ ?_))))); clear hK3 K3;refine pwp_seq_cond rfl fun K4 hK4 => ⟨fun hb5 => ?_, fun hb5 => ?_⟩
 ·have hb5R := hb5; try simp only [zz] at hb5
  refine pwp_seq_plain rfl fun K6 hK6 => p_e rfl (e_build (zs := [.str ByteArray.empty, .str ByteArray.empty, .int 0, .int 0, .int 0, .nil]) (pl := [(0, 1, false), (1, 1, false), (2, 1, false), (3, 1, false), (4, 1, false), (5, 1, false)]) (by kernel_rfl) (by kernel_rfl) (by kernel_rfl) rfl rfl (by exact trivial) rfl) (p_store rfl (e_storeA rfl (hset_self _ _ _) rfl rfl rfl (by kernel_rfl) rfl (by kernel_rfl)) trivial (p_aS rfl (p_end (hK6 _ ?_)))); clear hK6 K6;refine pwp_ret (ret_seq (endCT rfl (hset_self _ _ _) (by kernel_rfl) (by kernel_rfl) (by kernel_rfl) rfl rfl ?_))
  first
    | exact tsk_on (tsk_few (by first | omega | (simp only [lM] at *; omega)))
    | exact tsk_on (ValTo.bad hq (rv_no (by first | (left; first | assumption | simp_all; done) | (right; exact ⟨by omega, by first | (left; exact decide_eq_false (by omega)) | (right; omega)⟩))))
 ·have hb5R := hb5; try simp only [zz] at hb5
  refine pwp_skip (seq_norm (hK4 _ ?_)); clear hK4 K4;obtain ⟨a, ha, hae⟩ := wd_get (x := x) (i := 0) (by first | omega | (simp only [lM] at *; omega));obtain ⟨b, hb, hbe⟩ := wd_get (x := x) (i := 1) (by first | omega | (simp only [lM] at *; omega));refine pwp_seq_gops rfl fun K7 hK7 => s_begin (s_e rfl (e_move (v := .lit _ _ _) rfl) (s_e rfl (e_ixL rfl rfl) (s_e rfl (e_lL (v := .sc _) rfl ((cell_map ha _).trans rfl)) (s_e rfl (e_move (v := .lit _ _ _) rfl) (s_e rfl (e_ixL rfl rfl) (s_e rfl (e_lL (v := .sc _) rfl ((cell_map hb _).trans rfl)) ?_))))));refine s_e rfl (e_build (zs := [.str ByteArray.empty, .str ByteArray.empty, .int 0, .int 0, .int 0, .nil]) (pl := [(0, 1, false), (1, 1, false), (2, 1, false), (3, 1, false), (4, 1, false), (5, 1, false)]) (by kernel_rfl) (by kernel_rfl) (by kernel_rfl) rfl rfl (by exact ⟨by decide, rfl, Nat.le_of_ble_eq_true rfl, rfl, ⟨by decide, rfl, Nat.le_of_ble_eq_true rfl, rfl, trivial⟩⟩) rfl) (s_new [] (by simp) rfl rfl rfl rfl (e_alloc (cs := [.str ByteArray.empty, .str ByteArray.empty, .int 0, .int 0, .int 0, .nil]) (n := 6) (by kernel_rfl) rfl (by decide)) (ob_alloc (by decide)) (s_store [5] (by simp) rfl rfl (e_storeA rfl (hset_self _ _ _) rfl rfl rfl (by kernel_rfl) rfl (by kernel_rfl)) trivial (s_end (ds := []) (by kernel_rfl) (by kernel_rfl) (hK7 _ ?_)))); clear hK7 K7;refine pwp_seq_plain rfl fun K8 hK8 => p_e rfl (e_assign (v := .nil) rfl) (p_end (hK8 _ ?_)); clear hK8 K8;refine pwp_seq_seq (pwp_seq_plain rfl fun K9 hK9 => p_aS rfl (p_end (hK9 _ ?_))); clear hK9 K9;refine pwp_seq_block fun K10 hK10 => pwp_loopR (α := Nat × (List Int) × PV) [2, 4, 5] (fun (a11 : Nat × (List Int) × PV) => [(6, (a11.2.2)), (7, .int (((a11.1) : Int) + 2))]) (fun (a11 : Nat × (List Int) × PV) (h : Heap) (_ : Nat → Nat) => ((a11.1) + 2 ≤ (cutB 32 x).length) ∧ (ValTo x (a11.1) (a11.2.1)) ∧ (SliceAt h 55 (a11.2.2) 1 ((a11.2.1).map ci)) ∧ (h (2, 0) = some (.rows 6 [zC])) ∧ (h (5, 0) = some (.rows 6 [rowZ a b]))) (fun (a11 : Nat × (List Int) × PV) => (cutB 32 x).length - (a11.1)) (0, [], .nil) (by exact ⟨rfl, rfl, trivial⟩) (by exact ⟨by show 0 + 2 ≤ _; first | omega | (simp only [lM] at *; omega), by exact ValTo.start, .nil, (hzM rfl (hzM rfl (hset_self _ _ _))), (hset_self _ _ _)⟩) fun a11 r12 h13 c14 hj15 => ?_;obtain ⟨i, vs, w⟩ := a11;obtain ⟨hi, hvt, hihj15_0, hihj15_1, hihj15_2⟩ := hj15;try dsimp only at hi
  try dsimp only at hvt
  try dsimp only at hihj15_0
  try dsimp only at hihj15_1
  try dsimp only at hihj15_2
  show pwp _ _ (loopQ _ _ _) ⟨sets (mix _ _ _) [(6, w), (7, .int ((i : Int) + 2))], _, _⟩;refine pwp_seq_seq (pwp_seq_plain rfl fun K16 hK16 => p_mS rfl (p_e rfl (e_move (v := .lit _ _ _) rfl) (p_e rfl (e_len rfl (by kernel_rfl)) (p_e rfl (e_lt rfl rfl) (p_end (hK16 _ ?_)))))); clear hK16 K16;refine pwp_seq_cond rfl fun K17 hK17 => ⟨fun hb18 => ?_, fun hb18 => ?_⟩
  ·have hb18R := hb18; try simp only [zz] at hb18
   have hcl := cutB_len 32 x;obtain ⟨q, hq⟩ : ∃ q, (cutB 32 x)[i + 2]? = some q := ⟨_, List.getElem?_eq_getElem (by first | omega | (simp only [lM] at *; omega))⟩
   have hqs := cutB_le hq;have hvl := hvt.2;refine pwp_skip (seq_norm (hK17 _ ?_)); clear hK17 K17;refine pwp_seq_block fun K19 hK19 => pwp_seq_plain rfl fun K20 hK20 => p_e rfl (e_move (v := .lit _ _ _) rfl) (p_mS rfl (p_e rfl (e_ixL rfl rfl) (p_e rfl (e_lL (v := .sc _) rfl ((cell_map hq _).trans rfl)) (p_call rfl (.cons inn_sc (.cons inn_sc .nil)) (NumberC _ 7 (by omega) (by decide)) (p_e rfl (e_move (v := .tup _) rfl) ?_)))));refine p_e rfl (e_ext (v := .sc _) rfl (by simp) rfl) (p_e rfl (e_ext (v := .sc _) rfl (by simp) rfl) (p_aS rfl (p_aS rfl (p_end (hK20 _ ?_))))); clear hK20 K20;refine pwp_seq_seq (pwp_seq_gops rfl fun K21 hK21 => g_begin (g_mS rfl rfl (g_e rfl (e_not rfl) (g_mS rfl rfl ?_))));refine g_cases (fun hb22 => ?_) (fun hb22 => ?_)
   ·have hb22R := hb22; try simp only [zz] at hb22
    iterate 10 refine g_skip rfl rfl rfl ?_
    refine g_pT rfl rfl rfl (g_end (ds := [40, 41, 42, 43, 44, 45, 46, 47, 48, 49]) rfl rfl (hK21 _ ?_)); clear hK21 K21;refine pwp_seq_cond (t := true) rfl fun K23 hK23 => ⟨fun _ => ?_, nofun⟩
    refine pwp_seq_plain rfl fun K24 hK24 => p_e rfl (e_build (zs := [.str ByteArray.empty, .str ByteArray.empty, .int 0, .int 0, .int 0, .nil]) (pl := [(0, 1, false), (1, 1, false), (2, 1, false), (3, 1, false), (4, 1, false), (5, 1, false)]) (by kernel_rfl) (by kernel_rfl) (by kernel_rfl) rfl rfl (by exact trivial) rfl) (p_store rfl (e_storeA rfl hihj15_1 rfl rfl rfl (by kernel_rfl) rfl (by kernel_rfl)) trivial (p_aS rfl (p_end (hK24 _ ?_)))); clear hK24 K24;refine pwp_ret (ret_seq (ret_block (ret_seq (ret_loop (ret_block (ret_seq (endCT rfl (hset_self _ _ _) (by kernel_rfl) (by kernel_rfl) (by kernel_rfl) rfl rfl ?_)))))))
    first
      | exact tsk_on (tsk_few (by first | omega | (simp only [lM] at *; omega)))
      | exact tsk_on (ValTo.bad hq (rv_no (by first | (left; first | assumption | simp_all; done) | (right; exact ⟨by omega, by first | (left; exact decide_eq_false (by omega)) | (right; omega)⟩))))
   ·have hb22R := hb22; try simp only [zz] at hb22
    refine g_mS rfl rfl (g_e rfl (e_lt rfl rfl) (g_mS rfl rfl ?_));refine g_cases (fun hb25 => ?_) (fun hb25 => ?_)
    ·have hb25R := hb25; try simp only [zz] at hb25
     refine g_mS rfl rfl (g_e rfl (e_gt rfl rfl) (g_mS rfl rfl ?_));refine g_cases (fun hb26 => ?_) (fun hb26 => ?_)
     ·have hb26R := hb26; try simp only [zz] at hb26
      iterate 2 refine g_skip rfl rfl rfl ?_
      refine g_pT rfl rfl rfl (g_pT rfl rfl rfl (g_pF rfl rfl rfl (g_end (ds := [40, 41, 42, 43, 44, 45, 46, 47, 48, 49]) rfl rfl (hK21 _ ?_)))); clear hK21 K21;refine pwp_seq_cond (t := true) rfl fun K27 hK27 => ⟨fun _ => ?_, nofun⟩
      refine pwp_seq_plain rfl fun K28 hK28 => p_e rfl (e_build (zs := [.str ByteArray.empty, .str ByteArray.empty, .int 0, .int 0, .int 0, .nil]) (pl := [(0, 1, false), (1, 1, false), (2, 1, false), (3, 1, false), (4, 1, false), (5, 1, false)]) (by kernel_rfl) (by kernel_rfl) (by kernel_rfl) rfl rfl (by exact trivial) rfl) (p_store rfl (e_storeA rfl hihj15_1 rfl rfl rfl (by kernel_rfl) rfl (by kernel_rfl)) trivial (p_aS rfl (p_end (hK28 _ ?_)))); clear hK28 K28;refine pwp_ret (ret_seq (ret_block (ret_seq (ret_loop (ret_block (ret_seq (endCT rfl (hset_self _ _ _) (by kernel_rfl) (by kernel_rfl) (by kernel_rfl) rfl rfl ?_)))))))
      first
        | exact tsk_on (tsk_few (by first | omega | (simp only [lM] at *; omega)))
        | exact tsk_on (ValTo.bad hq (rv_no (by first | (left; first | assumption | simp_all; done) | (right; exact ⟨by omega, by first | (left; exact decide_eq_false (by omega)) | (right; omega)⟩))))
     ·have hb26R := hb26; try simp only [zz] at hb26
      refine g_mS rfl rfl (g_e rfl (e_lt rfl rfl) (g_pF rfl rfl rfl (g_pT rfl rfl rfl (g_pF rfl rfl rfl (g_end (ds := [40, 41, 42, 43, 44, 45, 46, 47, 48, 49]) rfl rfl (hK21 _ ?_)))))); clear hK21 K21;refine pwp_seq_cond rfl fun K29 hK29 => ⟨fun hb30 => ?_, fun hb30 => ?_⟩
      ·have hb30R := hb30; try simp only [zz] at hb30
       refine pwp_seq_plain rfl fun K31 hK31 => p_e rfl (e_build (zs := [.str ByteArray.empty, .str ByteArray.empty, .int 0, .int 0, .int 0, .nil]) (pl := [(0, 1, false), (1, 1, false), (2, 1, false), (3, 1, false), (4, 1, false), (5, 1, false)]) (by kernel_rfl) (by kernel_rfl) (by kernel_rfl) rfl rfl (by exact trivial) rfl) (p_store rfl (e_storeA rfl hihj15_1 rfl rfl rfl (by kernel_rfl) rfl (by kernel_rfl)) trivial (p_aS rfl (p_end (hK31 _ ?_)))); clear hK31 K31;refine pwp_ret (ret_seq (ret_block (ret_seq (ret_loop (ret_block (ret_seq (endCT rfl (hset_self _ _ _) (by kernel_rfl) (by kernel_rfl) (by kernel_rfl) rfl rfl ?_)))))))
       first
         | exact tsk_on (tsk_few (by first | omega | (simp only [lM] at *; omega)))
         | exact tsk_on (ValTo.bad hq (rv_no (by first | (left; first | assumption | simp_all; done) | (right; exact ⟨by omega, by first | (left; exact decide_eq_false (by omega)) | (right; omega)⟩))))
      ·have hb30R := hb30; try simp only [zz] at hb30
       refine pwp_skip (seq_norm (hK29 _ ?_)); clear hK29 K29;refine pwp_plain rfl fun K32 hK32 => p_e rfl (e_move (v := _) rfl) (p_mS rfl (p_new rfl (e_bslice (rows := [ci (refNum 7 (ls q)).1]) (zs := [.int 0]) (sz := 1) (by kernel_rfl) (by kernel_rfl) rfl (by kernel_rfl) (by decide) rfl rfl (by exact ⟨by decide, rfl, rfl, trivial⟩) rfl) trivial (p_app rfl rfl rfl (hihj15_0.keep fun _ => hzM rfl (rfl)) (src_ref (hset_self _ _ _) rfl) (by kernel_rfl) (by simp only [List.length_append, lM, List.length_nil, List.length_cons]; omega) fun v33 h34 c35 hs36 hf37 => ?_)));have ho38 := (hf37 (2, _) (key_ne rfl) (fun _ _ => key_ne rfl)).trans (hzM rfl hihj15_1);have ho39 := (hf37 (5, _) (key_ne rfl) (fun _ _ => key_ne rfl)).trans (hzM rfl hihj15_2);have ho40 := (hf37 (54, _) (key_ne rfl) (fun _ _ => key_ne rfl)).trans (hset_self _ _ _);refine p_e rfl (e_assign (v := _) rfl) (p_end (hK32 _ ?_)); clear hK32 K32;refine block_norm (seq_norm (hK19 _ ?_)); clear hK19 K19;refine pwp_plain rfl fun K41 hK41 => p_mS rfl (p_e rfl (e_adL rfl rfl) (p_aS rfl (p_end (hK41 _ ?_)))); clear hK41 K41;exact loop_again ((i + 1, vs ++ [(refNum 7 (ls q)).1], v33)) (by show _ < _; simp only; omega) ⟨rfl, rfl, rfl, trivial⟩ ⟨rfl, rfl, trivial⟩ (by exact ⟨by show _ + 1 + 2 ≤ _; first | omega | (simp only [lM] at *; omega), by exact hvt.next hq (rv_yes (by first | assumption | simp_all) (by first | (left; omega) | (right; exact ⟨decide_eq_true (by omega), by omega⟩))), (SliceAt.to hs36 (by first | rfl | (simp only [List.map_append, List.map_cons, List.map_nil] <;> rfl))), ho38, ho39⟩)
    ·have hb25R := hb25; try simp only [zz] at hb25
     iterate 6 refine g_skip rfl rfl rfl ?_
     refine g_pF rfl rfl rfl (g_pF rfl rfl rfl (g_end (ds := [40, 41, 42, 43, 44, 45, 46, 47, 48, 49]) rfl rfl (hK21 _ ?_))); clear hK21 K21;refine pwp_seq_cond (t := false) rfl fun K42 hK42 => ⟨nofun, fun _ => ?_⟩
     refine pwp_skip (seq_norm (hK42 _ ?_)); clear hK42 K42;refine pwp_plain rfl fun K43 hK43 => p_e rfl (e_move (v := _) rfl) (p_mS rfl (p_new rfl (e_bslice (rows := [ci (refNum 7 (ls q)).1]) (zs := [.int 0]) (sz := 1) (by kernel_rfl) (by kernel_rfl) rfl (by kernel_rfl) (by decide) rfl rfl (by exact ⟨by decide, rfl, rfl, trivial⟩) rfl) trivial (p_app rfl rfl rfl (hihj15_0.keep fun _ => hzM rfl (rfl)) (src_ref (hset_self _ _ _) rfl) (by kernel_rfl) (by simp only [List.length_append, lM, List.length_nil, List.length_cons]; omega) fun v44 h45 c46 hs47 hf48 => ?_)));have ho49 := (hf48 (2, _) (key_ne rfl) (fun _ _ => key_ne rfl)).trans (hzM rfl hihj15_1);have ho50 := (hf48 (5, _) (key_ne rfl) (fun _ _ => key_ne rfl)).trans (hzM rfl hihj15_2);have ho51 := (hf48 (54, _) (key_ne rfl) (fun _ _ => key_ne rfl)).trans (hset_self _ _ _);refine p_e rfl (e_assign (v := _) rfl) (p_end (hK43 _ ?_)); clear hK43 K43;refine block_norm (seq_norm (hK19 _ ?_)); clear hK19 K19;refine pwp_plain rfl fun K52 hK52 => p_mS rfl (p_e rfl (e_adL rfl rfl) (p_aS rfl (p_end (hK52 _ ?_)))); clear hK52 K52;exact loop_again ((i + 1, vs ++ [(refNum 7 (ls q)).1], v44)) (by show _ < _; simp only; omega) ⟨rfl, rfl, rfl, trivial⟩ ⟨rfl, rfl, trivial⟩ (by exact ⟨by show _ + 1 + 2 ≤ _; first | omega | (simp only [lM] at *; omega), by exact hvt.next hq (rv_yes (by first | assumption | simp_all) (by first | (left; omega) | (right; exact ⟨decide_eq_true (by omega), by omega⟩))), (SliceAt.to hs47 (by first | rfl | (simp only [List.map_append, List.map_cons, List.map_nil] <;> rfl))), ho49, ho50⟩)
  ·have hb18R := hb18; try simp only [zz] at hb18
   have hvl := hvt.2;have hie : (cutB 32 x).length ≤ i + 2 := by first | omega | (simp only [lM] at *; omega)
   refine pwp_exit (exit_seq ?_);clear hK17 K17;refine exit_loop (exit_here (seq_norm (hK10 _ ?_))); clear hK10 K10;have hv3 : 3 ≤ vs.length := by first | omega | (simp only [lM] at *; omega)
   have hv0 := v_at (vs := vs) (i := 0) (by omega);have hv1 := v_at (vs := vs) (i := 1) (by omega);have hv2 := v_at (vs := vs) (i := 2) (by omega);obtain ⟨g53, ev55, hg54⟩ := SliceAt.isRef hihj15_0 (by simp only [ne_eq, List.map_eq_nil_iff]; intro e; subst e; simp at hv3);subst ev55;refine pwp_seq_gops rfl fun K56 hK56 => s_begin (s_e rfl (e_move (v := .ref _ _ _ _) rfl) (s_e rfl (e_ixaR0 rfl rfl (by kernel_rfl) (by kernel_rfl) (by simp; omega)) (s_eR [55] rfl (e_loadI (a := (vs.getD 0 0)) rfl hg54 (by kernel_rfl) (by kernel_rfl) (by kernel_rfl) hv0) (s_e rfl (e_move (v := .ref _ _ _ _) rfl) (s_e rfl (e_ixaR0 rfl rfl (by kernel_rfl) (by kernel_rfl) (by simp; omega)) (s_eR [55] rfl (e_loadI (a := (vs.getD 1 0)) rfl hg54 (by kernel_rfl) (by kernel_rfl) (by kernel_rfl) hv1) ?_))))));refine s_e rfl (e_move (v := .ref _ _ _ _) rfl) (s_e rfl (e_ixaR0 rfl rfl (by kernel_rfl) (by kernel_rfl) (by simp; omega)) (s_eR [55] rfl (e_loadI (a := (vs.getD 2 0)) rfl hg54 (by kernel_rfl) (by kernel_rfl) (by kernel_rfl) hv2) (s_e rfl (e_move (v := .ref _ _ _ _) rfl) (s_e rfl (e_subFrom (.ofRef hg54 rfl) rfl rfl (by simp only [lM]; omega) (by kernel_rfl) (by kernel_rfl)) (s_e rfl (e_faQ pl6 rfl) (s_store [5] (by simp) rfl rfl (e_store1 rfl hihj15_2 rfl rfl rfl (by decide) (by kernel_rfl) rfl (by kernel_rfl)) trivial (s_e rfl (e_faQ pl6 rfl) ?_)))))));refine s_store [5] (by simp) rfl rfl (e_store1 rfl (hset_self _ _ _) rfl rfl rfl (by decide) (by kernel_rfl) rfl (by kernel_rfl)) trivial (s_e rfl (e_faQ pl6 rfl) (s_store [5] (by simp) rfl rfl (e_store1 rfl (hset_self _ _ _) rfl rfl rfl (by decide) (by kernel_rfl) rfl (by kernel_rfl)) trivial (s_e rfl (e_faQ pl6 rfl) (s_store [5] (by simp) rfl rfl (e_store1 rfl (hset_self _ _ _) rfl rfl rfl (by decide) (by kernel_rfl) rfl (by kernel_rfl)) trivial (s_end (ds := []) (by kernel_rfl) (by kernel_rfl) (hK56 _ ?_)))))); clear hK56 K56;refine pwp_seq_plain rfl fun K57 hK57 => p_e rfl (e_lA (n := 6) rfl (hset_self _ _ _)) (p_store rfl (e_storeA rfl (hzM rfl (hzM rfl (hzM rfl (hzM rfl hihj15_1)))) rfl rfl rfl (by kernel_rfl) rfl (by kernel_rfl)) trivial (p_aS rfl (p_end (hK57 _ ?_)))); clear hK57 K57;refine pwp_ret (endCT rfl (hset_self _ _ _) (by kernel_rfl) (by kernel_rfl) (by kernel_rfl) rfl rfl ?_)
   first
     | exact tsk_on (tsk_few (by first | omega | (simp only [lM] at *; omega)))
     | exact tsk_on (ValTo.bad hq (rv_no (by first | (left; first | assumption | simp_all; done) | (right; exact ⟨by omega, by first | (left; exact decide_eq_false (by omega)) | (right; omega)⟩))))
     | exact lin_oy ((hvt.done (by first | omega | (simp only [lM] at *; omega)) hie).trans (by rw [hae, hbe])) (hzM rfl (hzM rfl (hzM rfl (hzM rfl (hzM rfl hg54))))) (by simp only [lM]) (by first | omega | (simp only [lM] at *; omega))
end Go.Proofs.YtmlhhdiomijpfaaGreatDoor
