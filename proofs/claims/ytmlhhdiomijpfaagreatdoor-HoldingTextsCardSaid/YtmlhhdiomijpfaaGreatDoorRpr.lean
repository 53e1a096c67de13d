/- Ties written: the reference. No conditions. -/
import Derived.Test.YtmlhhdiomijpfaaGreatDoorDec
import Derived.Test.YtmlhhdiomijpfaaGreatDoorWit
set_option linter.unusedSimpArgs false
set_option linter.unusedVariables false
set_option maxRecDepth 100000
namespace Go.Proofs.YtmlhhdiomijpfaaGreatDoor
open Go Go.Pv Go.Tx
/-! ### Ties written -/
theorem sz_one (c : UInt8) : (⟨#[c]⟩ : ByteArray).size = 1 := rfl
theorem sz_nil : (⟨#[]⟩ : ByteArray).size = 0 := rfl
def wordB (t : Tie) : ByteArray := bs (Lib.itoa t.standard) ++ ⟨#[46]⟩ ++ bs (Lib.itoa t.level)
def In99 (t : Tie) : Prop := (0 ≤ t.standard ∧ t.standard ≤ 99) ∧ (0 ≤ t.level ∧ t.level ≤ 99)
instance (t : Tie) : Decidable (In99 t) := by unfold In99; infer_instance
def prtX (l : List Tie) : ByteArray × Int :=
 if 1800 < l.length then (⟨#[]⟩, 8) else if ∀ t ∈ l, In99 t then (bs (Lib.join (l.map fun t => ls (wordB t)) [32]), 0) else (⟨#[]⟩, 2)
def OkTo (l : List Tie) (k : Nat) : Prop := ∀ t ∈ l.take k, In99 t
theorem OkTo.start {l : List Tie} : OkTo l 0 := fun t h => by simp at h
theorem OkTo.next {l : List Tie} {k : Nat} {t : Tie} (h : OkTo l k) (hx : l[k]? = some t) (ht : In99 t) : OkTo l (k + 1) := fun u hu => by
 rw [List.take_add_one, hx] at hu
 rcases List.mem_append.1 hu with h1 | h1
 · exact h u h1
 · simp at h1; subst h1; exact ht
theorem prt_8 {l : List Tie} (h : 1800 < l.length) : prtX l = (⟨#[]⟩, 8) := by unfold prtX; rw [if_pos h]
theorem prt_2 {l : List Tie} {k : Nat} {t : Tie} (h : ¬ 1800 < l.length) (hx : l[k]? = some t) (ht : ¬ In99 t) : prtX l = (⟨#[]⟩, 2) := by
 unfold prtX; rw [if_neg h, if_neg (fun q => ht (q t (List.mem_of_getElem? hx)))]
theorem prt_0 {l : List Tie} {k : Nat} (h : ¬ 1800 < l.length) (hk : l.length ≤ k) (ho : OkTo l k) : prtX l = (bs (Lib.join (l.map fun t => ls (wordB t)) [32]), 0) := by
 unfold prtX; rw [if_neg h, if_pos]
 intro t ht; exact ho t (by rw [List.take_of_length_le hk]; exact ht)
theorem word_len {t : Tie} (h : In99 t) : (wordB t).size ≤ 41 := by
 unfold wordB
 rw [szs, szs]
 have h1 := itoa_len (n := t.standard) (by have := h.1; omega)
 have h2 := itoa_len (n := t.level) (by have := h.2; omega)
 show _ + 1 + _ ≤ _
 omega
theorem join_len : ∀ (ws : List (List UInt8)) (m : Nat), (∀ w ∈ ws, w.length ≤ m) → (Lib.join ws [32]).length ≤ ws.length * (m + 1)
 | [], m, _ => by simp [Lib.join]
 | [w], m, h => by rw [Lib.join_one]; have := h w (List.mem_cons_self ..); simp only [List.length_cons, List.length_nil]; omega
 | w :: v :: r, m, h => by
   have ih := join_len (v :: r) m fun x hx => h x (List.mem_cons_of_mem _ hx)
   have e : Lib.join (w :: v :: r) [32] = w ++ 32 :: Lib.join (v :: r) [32] := by
     rw [Lib.join_cons, Lib.join_cons]; simp [Lib.joinTail]
   have := h w (List.mem_cons_self ..)
   rw [e, List.length_append, List.length_cons, List.length_cons, Nat.succ_mul]
   omega
/-- What the reference has written. -/
def wrTo (l : List Tie) (k : Nat) : ByteArray := bs (Lib.join ((l.take k).map fun t => ls (wordB t)) [32])
theorem wr_0 {l : List Tie} : (⟨#[]⟩ : ByteArray) = wrTo l 0 := by unfold wrTo; simp [Lib.join]; rfl
theorem wr_1 {l : List Tie} {t : Tie} (hx : l[0]? = some t) : wrTo l 0 ++ bs (Lib.itoa t.standard) ++ ⟨#[46]⟩ ++ bs (Lib.itoa t.level) = wrTo l 1 := by
 apply ls_ext
 unfold wrTo
 rw [List.take_add_one, hx]
 simp only [ls_app, ls_bs, List.take_zero, List.nil_append, Option.toList_some, List.map_cons, List.map_nil, Lib.join_one, wordB, List.append_assoc]
 simp [Lib.join]
theorem wr_s {l : List Tie} {k : Nat} {t : Tie} (hx : l[k]? = some t) (hk : 0 < k) : wrTo l k ++ ⟨#[32]⟩ ++ bs (Lib.itoa t.standard) ++ ⟨#[46]⟩ ++ bs (Lib.itoa t.level) = wrTo l (k + 1) := by
 apply ls_ext
 unfold wrTo
 rw [List.take_add_one, hx, Option.toList_some, List.map_append, List.map_cons, List.map_nil, ls_bs, join_snoc _ _ (fun e => by
   have hl : k < l.length := (List.getElem?_eq_some_iff.1 hx).1
   have := congrArg List.length e
   rw [List.length_map, List.length_take, List.length_nil] at this; omega)]
 simp only [ls_app, ls_bs, wordB, List.append_assoc]
 rfl
theorem wr_end {l : List Tie} {k : Nat} (hk : l.length ≤ k) : wrTo l k = bs (Lib.join (l.map fun t => ls (wordB t)) [32]) := by
 unfold wrTo; rw [List.take_of_length_le hk]
theorem wr_len {l : List Tie} {k : Nat} (h : OkTo l k) (hk : k ≤ 1800) : (wrTo l k).size ≤ 100000 := by
 unfold wrTo
 rw [bs_size]
 have := join_len ((l.take k).map fun t => ls (wordB t)) 41 fun w hw => by
   obtain ⟨t, ht, rfl⟩ := List.mem_map.1 hw
   rw [ls_len]; exact word_len (h t ht)
 rw [List.length_map, List.length_take] at this
 have : min k l.length * (41 + 1) ≤ 1800 * 42 := Nat.mul_le_mul_right _ (by omega)
 omega
theorem prt_o {h : Heap} {a : ByteArray} {b : Int} {x : ByteArray × Int} (hx : x = (a, b)) : Out h (.tup [.str a, .int b]) (.tup [.str x.1, .int x.2]) := by
 subst hx; exact out_2 (out_s rfl) (out_i rfl)

theorem fr7 : (inFrame Tryz.f7.ntmps (Tryz.f7.body.getD .skip) && Tryz.f7.results.toList.all (resScope Tryz.f7.ntmps)) = true := by kernel_rfl
theorem refPrintC (l : List Tie) (hl : l.length ≤ 1000000) : PCalls Tryz.prog 7 [.lit true 2 (l.map Tie.enc)] (.tup [.str (prtX l).1, .int (prtX l).2]) := by
 refine PCalls.of_code Tryz.func7 rfl rfl (by kernel_rfl) mixed fr7 (by show _ ≤ 52; simp) (pure_2 (.sc _) (.sc _)) ?_
 refine pwp_seq_plain rfl fun K1 hK1 => ?_
 refine p_aS rfl ?_
 refine p_aS rfl ?_
 refine p_end (hK1 _ ?_); clear hK1 K1
 refine pwp_seq_seq ?_
 refine pwp_seq_plain rfl fun K2 hK2 => ?_
 refine p_e rfl (e_move (v := .lit _ _ _) rfl) ?_
 refine p_e rfl (e_len rfl (by kernel_rfl)) ?_
 refine p_e rfl (e_gt rfl rfl) ?_
 refine p_end (hK2 _ ?_); clear hK2 K2
 refine pwp_seq_cond rfl fun K3 hK3 => ⟨fun hb4 => ?_, fun hb4 => ?_⟩
 ·have hb4R := hb4; try simp only [zz] at hb4
  refine pwp_seq_plain rfl fun K5 hK5 => ?_
  refine p_aS rfl ?_
  refine p_aS rfl ?_
  refine p_end (hK5 _ ?_); clear hK5 K5
  refine pwp_ret ?_
  refine ret_seq ?_
  refine end2 (v := .sc _) (w := .sc _) rfl rfl ?_
  first
    | exact prt_o (prt_8 (by first | omega | (simp only [List.length_map] at *; omega)))
    | exact prt_o (prt_2 (by first | omega | (simp only [List.length_map] at *; omega)) hx (by unfold In99; omega))
    | exact prt_o ((prt_0 (by first | omega | (simp only [List.length_map] at *; omega)) hke hok).trans (by rw [hw, wr_end hke]))
 ·have hb4R := hb4; try simp only [zz] at hb4
  refine pwp_skip ?_
  refine seq_norm (hK3 _ ?_); clear hK3 K3
  refine pwp_seq_plain rfl fun K6 hK6 => ?_
  refine p_aS rfl ?_
  refine p_end (hK6 _ ?_); clear hK6 K6
  refine pwp_seq_seq ?_
  refine pwp_seq_plain rfl fun K7 hK7 => ?_
  refine p_aS rfl ?_
  refine p_end (hK7 _ ?_); clear hK7 K7
  refine pwp_seq_block fun K8 hK8 => ?_
  refine pwp_loopR (α := Nat × ByteArray) [0] (fun (a9 : Nat × ByteArray) => [(4, .str (a9.2)), (5, .int (a9.1))]) (fun (a9 : Nat × ByteArray) (h : Heap) (_ : Nat → Nat) => ((a9.1) ≤ l.length) ∧ (OkTo l (a9.1)) ∧ ((a9.2) = wrTo l (a9.1))) (fun (a9 : Nat × ByteArray) => l.length - (a9.1)) (0, ⟨#[]⟩) (by exact ⟨rfl, rfl, trivial⟩) (by exact ⟨by exact Nat.zero_le _, by exact OkTo.start, by exact wr_0⟩) fun a9 r10 h11 c12 hj13 => ?_
  obtain ⟨k, w⟩ := a9
  obtain ⟨hk, hok, hw⟩ := hj13
  try dsimp only at hk
  try dsimp only at hok
  try dsimp only at hw
  show pwp _ _ (loopQ _ _ _) ⟨sets (mix _ _ _) [(4, .str w), (5, .int k)], _, _⟩
  refine pwp_seq_seq ?_
  refine pwp_seq_plain rfl fun K14 hK14 => ?_
  refine p_mS rfl ?_
  refine p_e rfl (e_move (v := .lit _ _ _) rfl) ?_
  refine p_e rfl (e_len rfl (by kernel_rfl)) ?_
  refine p_e rfl (e_lt rfl rfl) ?_
  refine p_end (hK14 _ ?_); clear hK14 K14
  refine pwp_seq_cond rfl fun K15 hK15 => ⟨fun hb16 => ?_, fun hb16 => ?_⟩
  ·have hb16R := hb16; try simp only [zz] at hb16
   obtain ⟨x, hx, hd, ht⟩ := get_lt (xs := l) (i := k) (by omega)
   have hwl : w.size ≤ 100000 := by rw [hw]; exact wr_len hok (by first | omega | (simp only [List.length_map] at *; omega))
   refine pwp_skip ?_
   refine seq_norm (hK15 _ ?_); clear hK15 K15
   refine pwp_seq_block fun K17 hK17 => ?_
   refine pwp_seq_seq ?_
   refine pwp_seq_gops rfl fun K18 hK18 => ?_
   refine g_begin ?_
   refine g_e rfl (e_move (v := .lit _ _ _) rfl) ?_
   refine g_mS rfl rfl ?_
   refine g_e rfl (e_ixL rfl rfl) ?_
   refine g_e rfl (e_fb pl2 rfl) ?_
   refine g_e rfl (e_load (v := .sc _) rfl (by kernel_rfl) (by kernel_rfl) (by kernel_rfl) (by first | omega | (simp only [List.length_map]; omega)) (by decide) ((cell_map hx _).trans rfl)) ?_
   refine g_call rfl rfl rfl rfl (.cons inn_sc (.cons inn_sc (.cons inn_sc .nil))) (Within _ _ _) ?_
   refine g_e rfl (e_not rfl) ?_
   refine g_mS rfl rfl ?_
   refine g_cases (fun hb19 => ?_) (fun hb19 => ?_)
   ·have hb19R := hb19; try simp only [zz] at hb19
    iterate 5 refine g_skip rfl rfl rfl ?_
    refine g_nocall rfl rfl rfl ?_
    refine g_skip rfl rfl rfl ?_
    refine g_pT rfl rfl rfl ?_
    refine g_end (ds := [23, 24, 25, 26, 27, 28, 29]) rfl rfl (hK18 _ ?_); clear hK18 K18
    refine pwp_seq_cond (t := true) rfl fun K20 hK20 => ⟨fun _ => ?_, nofun⟩
    refine pwp_seq_plain rfl fun K21 hK21 => ?_
    refine p_aS rfl ?_
    refine p_aS rfl ?_
    refine p_end (hK21 _ ?_); clear hK21 K21
    refine pwp_ret ?_
    refine ret_seq ?_
    refine ret_block ?_
    refine ret_seq ?_
    refine ret_loop ?_
    refine ret_block ?_
    refine ret_seq ?_
    refine end2 (v := .sc _) (w := .sc _) rfl rfl ?_
    first
      | exact prt_o (prt_8 (by first | omega | (simp only [List.length_map] at *; omega)))
      | exact prt_o (prt_2 (by first | omega | (simp only [List.length_map] at *; omega)) hx (by unfold In99; omega))
      | exact prt_o ((prt_0 (by first | omega | (simp only [List.length_map] at *; omega)) hke hok).trans (by rw [hw, wr_end hke]))
   ·have hb19R := hb19; try simp only [zz] at hb19
    refine g_e rfl (e_move (v := .lit _ _ _) rfl) ?_
    refine g_mS rfl rfl ?_
    refine g_e rfl (e_ixL rfl rfl) ?_
    refine g_e rfl (e_fb pl2 rfl) ?_
    refine g_e rfl (e_load (v := .sc _) rfl (by kernel_rfl) (by kernel_rfl) (by kernel_rfl) (by first | omega | (simp only [List.length_map]; omega)) (by decide) ((cell_map hx _).trans rfl)) ?_
    refine g_call rfl rfl rfl rfl (.cons inn_sc (.cons inn_sc (.cons inn_sc .nil))) (Within _ _ _) ?_
    refine g_e rfl (e_not rfl) ?_
    refine g_pF rfl rfl rfl ?_
    refine g_end (ds := [23, 24, 25, 26, 27, 28, 29]) rfl rfl (hK18 _ ?_); clear hK18 K18
    refine pwp_seq_cond rfl fun K22 hK22 => ⟨fun hb23 => ?_, fun hb23 => ?_⟩
    ·have hb23R := hb23; try simp only [zz] at hb23
     refine pwp_seq_plain rfl fun K24 hK24 => ?_
     refine p_aS rfl ?_
     refine p_aS rfl ?_
     refine p_end (hK24 _ ?_); clear hK24 K24
     refine pwp_ret ?_
     refine ret_seq ?_
     refine ret_block ?_
     refine ret_seq ?_
     refine ret_loop ?_
     refine ret_block ?_
     refine ret_seq ?_
     refine end2 (v := .sc _) (w := .sc _) rfl rfl ?_
     first
       | exact prt_o (prt_8 (by first | omega | (simp only [List.length_map] at *; omega)))
       | exact prt_o (prt_2 (by first | omega | (simp only [List.length_map] at *; omega)) hx (by unfold In99; omega))
       | exact prt_o ((prt_0 (by first | omega | (simp only [List.length_map] at *; omega)) hke hok).trans (by rw [hw, wr_end hke]))
    ·have hb23R := hb23; try simp only [zz] at hb23
     refine pwp_skip ?_
     refine seq_norm (hK22 _ ?_); clear hK22 K22
     refine pwp_seq_seq ?_
     refine pwp_seq_plain rfl fun K25 hK25 => ?_
     refine p_mS rfl ?_
     refine p_e rfl (e_gt rfl rfl) ?_
     refine p_end (hK25 _ ?_); clear hK25 K25
     refine pwp_seq_cond rfl fun K26 hK26 => ⟨fun hb27 => ?_, fun hb27 => ?_⟩
     ·have hb27R := hb27; try simp only [zz] at hb27
      refine pwp_plain rfl fun K28 hK28 => ?_
      refine p_mS rfl ?_
      refine p_e rfl (e_sadd rfl rfl (by first | omega | (simp only [szs, sz_one, sz_nil]; omega))) ?_
      refine p_aS rfl ?_
      refine p_end (hK28 _ ?_); clear hK28 K28
      refine seq_norm (hK26 _ ?_); clear hK26 K26
      have hi1 := itoa_len (n := x.standard) (by omega)
      have hi2 := itoa_len (n := x.level) (by omega)
      refine pwp_gops rfl fun K29 hK29 => ?_
      refine g_begin ?_
      refine g_mS rfl rfl ?_
      refine g_e rfl (e_move (v := .lit _ _ _) rfl) ?_
      refine g_mS rfl rfl ?_
      refine g_e rfl (e_ixL rfl rfl) ?_
      refine g_e rfl (e_fb pl2 rfl) ?_
      refine g_e rfl (e_load (v := .sc _) rfl (by kernel_rfl) (by kernel_rfl) (by kernel_rfl) (by first | omega | (simp only [List.length_map]; omega)) (by decide) ((cell_map hx _).trans rfl)) ?_
      refine g_call rfl rfl rfl rfl (.cons inn_sc .nil) (DecimalC _ (by omega)) ?_
      refine g_e rfl (e_sadd rfl rfl (by first | omega | (simp only [szs, sz_one, sz_nil]; omega))) ?_
      refine g_e rfl (e_sadd rfl rfl (by first | omega | (simp only [szs, sz_one, sz_nil]; omega))) ?_
      refine g_e rfl (e_move (v := .lit _ _ _) rfl) ?_
      refine g_mS rfl rfl ?_
      refine g_e rfl (e_ixL rfl rfl) ?_
      refine g_e rfl (e_fb pl2 rfl) ?_
      refine g_e rfl (e_load (v := .sc _) rfl (by kernel_rfl) (by kernel_rfl) (by kernel_rfl) (by first | omega | (simp only [List.length_map]; omega)) (by decide) ((cell_map hx _).trans rfl)) ?_
      refine g_call rfl rfl rfl rfl (.cons inn_sc .nil) (DecimalC _ (by omega)) ?_
      refine g_e rfl (e_sadd rfl rfl (by first | omega | (simp only [szs, sz_one, sz_nil]; omega))) ?_
      refine g_aS rfl rfl ?_
      refine g_end (ds := []) (by kernel_rfl) rfl (hK29 _ ?_); clear hK29 K29
      refine block_norm ?_
      refine seq_norm (hK17 _ ?_); clear hK17 K17
      refine pwp_plain rfl fun K30 hK30 => ?_
      refine p_mS rfl ?_
      refine p_e rfl (e_adL rfl rfl) ?_
      refine p_aS rfl ?_
      refine p_end (hK30 _ ?_); clear hK30 K30
      exact loop_again ((k + 1, ((((w ++ (⟨#[32]⟩ : ByteArray)) ++ (bs (Lib.itoa x.standard))) ++ (⟨#[46]⟩ : ByteArray)) ++ (bs (Lib.itoa x.level))))) (by show _ < _; simp only; omega) ⟨rfl, trivial⟩ ⟨rfl, rfl, trivial⟩ (by exact ⟨by show _ + 1 ≤ _; first | omega | (simp only [List.length_map] at *; omega), by exact hok.next hx (by unfold In99; omega), by rw [hw]; first | exact wr_s hx (by omega) | (have e0 : k = 0 := by omega); subst e0; exact wr_1 hx⟩)
     ·have hb27R := hb27; try simp only [zz] at hb27
      refine pwp_skip ?_
      refine seq_norm (hK26 _ ?_); clear hK26 K26
      have hi1 := itoa_len (n := x.standard) (by omega)
      have hi2 := itoa_len (n := x.level) (by omega)
      refine pwp_gops rfl fun K31 hK31 => ?_
      refine g_begin ?_
      refine g_mS rfl rfl ?_
      refine g_e rfl (e_move (v := .lit _ _ _) rfl) ?_
      refine g_mS rfl rfl ?_
      refine g_e rfl (e_ixL rfl rfl) ?_
      refine g_e rfl (e_fb pl2 rfl) ?_
      refine g_e rfl (e_load (v := .sc _) rfl (by kernel_rfl) (by kernel_rfl) (by kernel_rfl) (by first | omega | (simp only [List.length_map]; omega)) (by decide) ((cell_map hx _).trans rfl)) ?_
      refine g_call rfl rfl rfl rfl (.cons inn_sc .nil) (DecimalC _ (by omega)) ?_
      refine g_e rfl (e_sadd rfl rfl (by first | omega | (simp only [szs, sz_one, sz_nil]; omega))) ?_
      refine g_e rfl (e_sadd rfl rfl (by first | omega | (simp only [szs, sz_one, sz_nil]; omega))) ?_
      refine g_e rfl (e_move (v := .lit _ _ _) rfl) ?_
      refine g_mS rfl rfl ?_
      refine g_e rfl (e_ixL rfl rfl) ?_
      refine g_e rfl (e_fb pl2 rfl) ?_
      refine g_e rfl (e_load (v := .sc _) rfl (by kernel_rfl) (by kernel_rfl) (by kernel_rfl) (by first | omega | (simp only [List.length_map]; omega)) (by decide) ((cell_map hx _).trans rfl)) ?_
      refine g_call rfl rfl rfl rfl (.cons inn_sc .nil) (DecimalC _ (by omega)) ?_
      refine g_e rfl (e_sadd rfl rfl (by first | omega | (simp only [szs, sz_one, sz_nil]; omega))) ?_
      refine g_aS rfl rfl ?_
      refine g_end (ds := []) (by kernel_rfl) rfl (hK31 _ ?_); clear hK31 K31
      refine block_norm ?_
      refine seq_norm (hK17 _ ?_); clear hK17 K17
      refine pwp_plain rfl fun K32 hK32 => ?_
      refine p_mS rfl ?_
      refine p_e rfl (e_adL rfl rfl) ?_
      refine p_aS rfl ?_
      refine p_end (hK32 _ ?_); clear hK32 K32
      exact loop_again ((k + 1, (((w ++ (bs (Lib.itoa x.standard))) ++ (⟨#[46]⟩ : ByteArray)) ++ (bs (Lib.itoa x.level))))) (by show _ < _; simp only; omega) ⟨rfl, trivial⟩ ⟨rfl, rfl, trivial⟩ (by exact ⟨by show _ + 1 ≤ _; first | omega | (simp only [List.length_map] at *; omega), by exact hok.next hx (by unfold In99; omega), by rw [hw]; first | exact wr_s hx (by omega) | (have e0 : k = 0 := by omega); subst e0; exact wr_1 hx⟩)
  ·have hb16R := hb16; try simp only [zz] at hb16
   have hke : l.length ≤ k := by first | omega | (simp only [List.length_map] at *; omega)
   have hwl : w.size ≤ 100000 := by rw [hw]; exact wr_len hok (by first | omega | (simp only [List.length_map] at *; omega))
   refine pwp_exit ?_
   refine exit_seq ?_
   clear hK15 K15
   refine exit_loop ?_
   refine exit_here ?_
   refine seq_norm (hK8 _ ?_); clear hK8 K8
   refine pwp_seq_plain rfl fun K33 hK33 => ?_
   refine p_mS rfl ?_
   refine p_aS rfl ?_
   refine p_aS rfl ?_
   refine p_end (hK33 _ ?_); clear hK33 K33
   refine pwp_ret ?_
   refine end2 (v := .sc _) (w := .sc _) rfl rfl ?_
   first
     | exact prt_o (prt_8 (by first | omega | (simp only [List.length_map] at *; omega)))
     | exact prt_o (prt_2 (by first | omega | (simp only [List.length_map] at *; omega)) hx (by unfold In99; omega))
     | exact prt_o ((prt_0 (by first | omega | (simp only [List.length_map] at *; omega)) hke hok).trans (by rw [hw, wr_end hke]))

end Go.Proofs.YtmlhhdiomijpfaaGreatDoor
