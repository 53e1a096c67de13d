/- The reasons against a platform, as the program tells them. No conditions. -/
import Derived.Test.YtdbpfhbppcpbbaaSta
set_option linter.unusedSimpArgs false
set_option linter.unusedVariables false
set_option maxRecDepth 100000
namespace Go.Proofs.Ytdbpfhbppcpbbaa
open Go Go.Pv

/-- The numbers of what is said. -/
def rsn : Int → List Bool → List Int
  | _, [] => []
  | i, b :: l => if b = true then i :: rsn (i + 1) l else rsn (i + 1) l
theorem rsn_snoc (b : Bool) : ∀ (l : List Bool) (i : Int), rsn i (l ++ [b]) = rsn i l ++ (if b = true then [i + (l.length : Int)] else [])
  | [], i => by simp [rsn]
  | a :: l, i => by
    have ih := rsn_snoc b l (i + 1)
    simp only [List.cons_append, rsn, ih, List.length_cons]
    have : i + 1 + (l.length : Int) = i + ((l.length + 1 : Nat) : Int) := by omega
    rw [this]
    split <;> simp
theorem rsn_yes {l : List Bool} {k : Nat} {acc : List Int} (hk : k < l.length) (ha : acc = rsn 0 (l.take k)) (h : l.getD k false = true) : acc ++ [(k : Int)] = rsn 0 (l.take (k + 1)) := by
  have h1 : l.take (k + 1) = l.take k ++ [true] := by
    rw [List.take_add_one, List.getElem?_eq_getElem hk]
    rw [List.getD_eq_getElem?_getD, List.getElem?_eq_getElem hk] at h
    simp at h; simp [h]
  rw [h1, rsn_snoc, if_pos rfl, ha, List.length_take, Nat.min_eq_left (Nat.le_of_lt hk), Int.zero_add]
theorem rsn_no {l : List Bool} {k : Nat} {acc : List Int} (hk : k < l.length) (ha : acc = rsn 0 (l.take k)) (h : l.getD k false = false) : acc = rsn 0 (l.take (k + 1)) := by
  have h1 : l.take (k + 1) = l.take k ++ [false] := by
    rw [List.take_add_one, List.getElem?_eq_getElem hk]
    rw [List.getD_eq_getElem?_getD, List.getElem?_eq_getElem hk] at h
    simp at h; simp [h]
  rw [h1, rsn_snoc, if_neg (by decide), ha, List.append_nil]
theorem rsn_len : ∀ (l : List Bool) (i : Int), (rsn i l).length ≤ l.length
  | [], _ => Nat.le_refl _
  | b :: l, i => by
    have := rsn_len l (i + 1)
    unfold rsn; split <;> simp <;> omega
def bsE (st : St) (day : Int) (gr sl : Bool) : List Bool := [!st.valid, !st.handed, decide (st.inspected < 0) || decide (7 < day - st.inspected), gr, sl]
def reaE (st : St) (day : Int) : List Int := rsn 0 (bsE st day (st.defs.any fun e => e.2) (st.defs.any fun e => !e.2))
theorem any_start {rem : List ((Int × Bool) × Nat)} {l : List (Int × Bool)} (f : Int × Bool → Bool) (h : rem.map (·.1) = l) : ((rem.any fun q => f q.1) || false) = l.any f := by
  subst h; rw [List.any_map, Bool.or_false]; rfl
theorem any_step {rem l1 l2 : List ((Int × Bool) × Nat)} {x : (Int × Bool) × Nat} (f : Int × Bool → Bool) {b w : Bool} (hr : rem = l1 ++ x :: l2) (h : ((rem.any fun q => f q.1) || b) = w) : (((l1 ++ l2).any fun q => f q.1) || (b || f x.1)) = w := by
  subst hr; subst h
  simp only [List.any_append, List.any_cons]
  generalize (l1.any fun q => f q.1) = a1
  generalize (l2.any fun q => f q.1) = a2
  generalize f x.1 = c
  cases a1 <;> cases a2 <;> cases b <;> cases c <;> rfl
theorem any_end {rem : List ((Int × Bool) × Nat)} {b w : Bool} (f : Int × Bool → Bool) (hr : rem = []) (h : ((rem.any fun q => f q.1) || b) = w) : b = w := by
  subst hr; simpa using h

theorem frH105 : (inFrame Try.f105.ntmps (Try.f105.body.getD .skip) && Try.f105.results.toList.all (resScope Try.f105.ntmps)) = true := by kernel_rfl
theorem stReasons (st : St) (day : Int) (g : Nat) (h0 : Heap) (c0 : Nat → Nat) (hp : h0 (7, g) = some (.rows 5 [St.enc st (10, 0)])) (hm : MapAt h0 (10, 0) (entsOf kpi PV.bool st.defs)) (hi : st.inspected ≤ 20000) (hd : 0 ≤ day ∧ day ≤ 20000) : HCallsR Try.prog 105 [.ptr (7, g) 5 0 0, .int day] h0 c0 (fun v h _ => SliceAt h 65 v 1 ((reaE st day).map ci)) := by
  refine HCallsR.of_code Try.func105 rfl rfl (by kernel_rfl) mixed frH105 (by show _ ≤ 68; simp) ?_
  refine pwp_seq_plain rfl fun K1 hK1 => ?_
  refine p_step rfl (e_assign (v := .nil) rfl) trivial ?_
  refine p_end (hK1 _ ?_); clear hK1 K1
  refine pwp_seq_plain rfl fun K2 hK2 => ?_
  refine p_step rfl (e_assign (v := .sc _) rfl) trivial ?_
  refine p_step rfl (e_assign (v := .sc _) rfl) trivial ?_
  refine p_end (hK2 _ ?_); clear hK2 K2
  refine pwp_seq_seq ?_
  refine pwp_seq_plain rfl fun K3 hK3 => ?_
  refine p_step rfl (e_move (v := .ptr _ _ _ _) rfl) trivial ?_
  refine p_step rfl (e_nilc rfl) trivial ?_
  refine p_step rfl (e_faP (pl := [(0, 1, false), (1, 1, false), (2, 1, false), (3, 1, false), (4, 1, false)]) rfl (by kernel_rfl) (by kernel_rfl) (by decide) rfl) trivial ?_
  refine p_step rfl (e_loadH (v := .map _) rfl hp (by kernel_rfl) (by kernel_rfl) (by kernel_rfl) (by exact Nat.zero_lt_one) (by decide) rfl) trivial ?_
  refine p_new rfl (e_range rfl hm (by kernel_rfl)) trivial ?_
  obtain ⟨rem0, hit0, hrem0⟩ := IterT.start (kit := (16, c0 16)) (key_ne rfl) hm
  refine p_end (hK3 _ ?_); clear hK3 K3
  refine pwp_seq_block fun K4 hK4 => ?_
  refine pwp_loopR (α := (List ((Int × Bool) × Nat)) × Bool × Bool) [0, 1, 16] (fun (a5 : (List ((Int × Bool) × Nat)) × Bool × Bool) => [(5, .bool (a5.2.1)), (6, .bool (a5.2.2))]) (fun (a5 : (List ((Int × Bool) × Nat)) × Bool × Bool) (h : Heap) (_ : Nat → Nat) => (IterT kpi PV.bool h (16, c0 16) (10, 0) st.defs (a5.1) none) ∧ ((((a5.1).any fun q => (fun e : Int × Bool => e.2) q.1) || (a5.2.1)) = st.defs.any fun e => e.2) ∧ ((((a5.1).any fun q => (fun e : Int × Bool => !e.2) q.1) || (a5.2.2)) = st.defs.any fun e => !e.2) ∧ (h (7, g) = some (.rows 5 [St.enc st (10, 0)])) ∧ (MapAt h (10, 0) (entsOf kpi PV.bool st.defs))) (fun (a5 : (List ((Int × Bool) × Nat)) × Bool × Bool) => (a5.1).length) (rem0, false, false) (by exact ⟨rfl, rfl, trivial⟩) (by exact ⟨by exact hit0, by exact any_start (fun e => e.2) hrem0, by exact any_start (fun e => !e.2) hrem0, ((hset_ne (key_ne rfl)).trans hp), (MapAt.keep hm ((hset_ne (key_ne rfl)).trans (rfl)))⟩) fun a5 r6 h7 c8 hj9 => ?_
  obtain ⟨rem, gr, sl⟩ := a5
  obtain ⟨hit, hg, hs, hihj9_0, hihj9_1⟩ := hj9
  try dsimp only at hit
  try dsimp only at hg
  try dsimp only at hs
  try dsimp only at hihj9_0
  try dsimp only at hihj9_1
  show pwp _ _ (loopQ _ _ _) ⟨sets (mix _ _ _) [(5, .bool gr), (6, .bool sl)], _, _⟩
  refine pwp_seq_plain rfl fun K10 hK10 => ?_
  by_cases hre : rem = []
  ·rw [hre] at hit
   have hgr := any_end (fun e => e.2) hre hg
   have hsl := any_end (fun e => !e.2) hre hs
   refine p_step rfl (e_nextT0 rfl hit) trivial ?_
   refine p_step rfl (e_ext (v := .sc _) rfl (by simp) rfl) trivial ?_
   refine p_end (hK10 _ ?_); clear hK10 K10
   refine pwp_seq_cond (t := false) rfl fun K11 hK11 => ⟨nofun, fun _ => ?_⟩
   refine pwp_exit ?_
   refine exit_seq ?_
   clear hK11 K11
   refine exit_loop ?_
   refine exit_here ?_
   refine seq_norm (hK4 _ ?_); clear hK4 K4
   refine pwp_seq_plain rfl fun K12 hK12 => ?_
   refine p_step rfl (e_assign (v := .nil) rfl) trivial ?_
   refine p_end (hK12 _ ?_); clear hK12 K12
   refine pwp_seq_seq ?_
   refine pwp_seq_cutG [9] [(56, .agg (([(!st.valid), (!st.handed), ((decide (st.inspected < (0))) || (decide ((7) < (day - st.inspected)))), gr, sl]).map PV.bool)), (57, .int (0))] (fun K13 hK13 => ?_) (fun r14 => ?_)
   ·skip
    refine pwp_gops rfl fun K15 hK15 => ?_
    refine g_begin ?_
    refine g_step rfl rfl rfl rfl (e_move (v := .ptr _ _ _ _) rfl) trivial ?_
    refine g_step rfl rfl rfl rfl (e_nilc rfl) trivial ?_
    refine g_step rfl rfl rfl rfl (e_faP (pl := [(0, 1, false), (1, 1, false), (2, 1, false), (3, 1, false), (4, 1, false)]) rfl (by kernel_rfl) (by kernel_rfl) (by decide) rfl) trivial ?_
    refine g_step rfl rfl rfl rfl (e_loadH (v := .sc _) rfl hihj9_0 (by kernel_rfl) (by kernel_rfl) (by kernel_rfl) (by exact Nat.zero_lt_one) (by decide) rfl) trivial ?_
    refine g_step rfl rfl rfl rfl (e_not rfl) trivial ?_
    refine g_step rfl rfl rfl rfl (e_move (v := .ptr _ _ _ _) rfl) trivial ?_
    refine g_step rfl rfl rfl rfl (e_nilc rfl) trivial ?_
    refine g_step rfl rfl rfl rfl (e_faP (pl := [(0, 1, false), (1, 1, false), (2, 1, false), (3, 1, false), (4, 1, false)]) rfl (by kernel_rfl) (by kernel_rfl) (by decide) rfl) trivial ?_
    refine g_step rfl rfl rfl rfl (e_loadH (v := .sc _) rfl hihj9_0 (by kernel_rfl) (by kernel_rfl) (by kernel_rfl) (by exact Nat.zero_lt_one) (by decide) rfl) trivial ?_
    refine g_step rfl rfl rfl rfl (e_not rfl) trivial ?_
    refine g_step rfl rfl rfl rfl (e_move (v := .ptr _ _ _ _) rfl) trivial ?_
    refine g_step rfl rfl rfl rfl (e_nilc rfl) trivial ?_
    refine g_step rfl rfl rfl rfl (e_faP (pl := [(0, 1, false), (1, 1, false), (2, 1, false), (3, 1, false), (4, 1, false)]) rfl (by kernel_rfl) (by kernel_rfl) (by decide) rfl) trivial ?_
    refine g_step rfl rfl rfl rfl (e_loadH (v := .sc _) rfl hihj9_0 (by kernel_rfl) (by kernel_rfl) (by kernel_rfl) (by exact Nat.zero_lt_one) (by decide) rfl) trivial ?_
    refine g_step rfl rfl rfl rfl (e_lt rfl rfl) trivial ?_
    refine g_step rfl rfl rfl rfl (e_move (v := .sc _) rfl) trivial ?_
    refine g_cases (fun hb16 => ?_) (fun hb16 => ?_)
    ·have hb16R := hb16; try simp only [z1, z2, z3, z4, z5, z6, ne_eq, z7, z8, z9, z10, z11, z12] at hb16
     refine g_skip rfl rfl rfl ?_
     refine g_skip rfl rfl rfl ?_
     refine g_skip rfl rfl rfl ?_
     refine g_skip rfl rfl rfl ?_
     refine g_skip rfl rfl rfl ?_
     refine g_skip rfl rfl rfl ?_
     refine g_skip rfl rfl rfl ?_
     refine g_step rfl rfl rfl rfl (e_pickT (v := .sc _) rfl rfl) trivial ?_
     refine g_step rfl rfl rfl rfl (e_move (v := .sc _) rfl) trivial ?_
     refine g_step rfl rfl rfl rfl (e_move (v := .sc _) rfl) trivial ?_
     refine g_step rfl rfl rfl rfl (e_buildA (zs := [.bool false, .bool false, .bool false, .bool false, .bool false]) (pl := [(0, 1, false), (1, 1, false), (2, 1, false), (3, 1, false), (4, 1, false)]) (by kernel_rfl) (by kernel_rfl) (by kernel_rfl) rfl rfl (by exact ⟨by decide, rfl, Nat.le_of_ble_eq_true rfl, rfl, ⟨by decide, rfl, Nat.le_of_ble_eq_true rfl, rfl, ⟨by decide, rfl, Nat.le_of_ble_eq_true rfl, rfl, ⟨by decide, rfl, Nat.le_of_ble_eq_true rfl, rfl, ⟨by decide, rfl, Nat.le_of_ble_eq_true rfl, rfl, trivial⟩⟩⟩⟩⟩) rfl) trivial ?_
     refine g_step rfl rfl rfl rfl (e_move (v := .sc _) rfl) trivial ?_
     refine g_end (ds := [46, 47, 48, 49, 50, 51, 52]) (by kernel_rfl) rfl (hK15 _ ?_); clear hK15 K15
     exact seq_norm (hK13 _ ⟨rfl, trivial⟩ ⟨(congrArg (fun bs => PV.agg (List.map PV.bool bs)) (show ([(!st.valid), (!st.handed), true, gr, sl] : List Bool) = [(!st.valid), (!st.handed), ((decide (st.inspected < (0))) || (decide ((7) < (day - st.inspected)))), gr, sl] by first | rfl | ((try rw [hb16R]) <;> (first | rfl | (simp only [Bool.and_true, Bool.and_false, Bool.true_and, Bool.false_and, Bool.or_true, Bool.or_false, Bool.true_or, Bool.false_or, Bool.not_true, Bool.not_false, if_true, if_false, Bool.false_eq_true, reduceIte] <;> rfl))) | (simp only [hb16R, Bool.and_true, Bool.and_false, Bool.true_and, Bool.false_and, Bool.or_true, Bool.or_false, Bool.true_or, Bool.false_or, Bool.not_true, Bool.not_false, if_true, if_false, Bool.false_eq_true, reduceIte] <;> rfl))), rfl, trivial⟩)
    ·have hb16R := hb16; try simp only [z1, z2, z3, z4, z5, z6, ne_eq, z7, z8, z9, z10, z11, z12] at hb16
     refine g_step rfl rfl rfl rfl (e_move (v := .sc _) rfl) trivial ?_
     refine g_step rfl rfl rfl rfl (e_move (v := .ptr _ _ _ _) rfl) trivial ?_
     refine g_step rfl rfl rfl rfl (e_nilc rfl) trivial ?_
     refine g_step rfl rfl rfl rfl (e_faP (pl := [(0, 1, false), (1, 1, false), (2, 1, false), (3, 1, false), (4, 1, false)]) rfl (by kernel_rfl) (by kernel_rfl) (by decide) rfl) trivial ?_
     refine g_step rfl rfl rfl rfl (e_loadH (v := .sc _) rfl hihj9_0 (by kernel_rfl) (by kernel_rfl) (by kernel_rfl) (by exact Nat.zero_lt_one) (by decide) rfl) trivial ?_
     refine g_step rfl rfl rfl rfl (e_sub rfl rfl (by omega)) trivial ?_
     refine g_step rfl rfl rfl rfl (e_gt rfl rfl) trivial ?_
     refine g_step rfl rfl rfl rfl (e_pickF (v := .sc _) rfl rfl) trivial ?_
     refine g_step rfl rfl rfl rfl (e_move (v := .sc _) rfl) trivial ?_
     refine g_step rfl rfl rfl rfl (e_move (v := .sc _) rfl) trivial ?_
     refine g_step rfl rfl rfl rfl (e_buildA (zs := [.bool false, .bool false, .bool false, .bool false, .bool false]) (pl := [(0, 1, false), (1, 1, false), (2, 1, false), (3, 1, false), (4, 1, false)]) (by kernel_rfl) (by kernel_rfl) (by kernel_rfl) rfl rfl (by exact ⟨by decide, rfl, Nat.le_of_ble_eq_true rfl, rfl, ⟨by decide, rfl, Nat.le_of_ble_eq_true rfl, rfl, ⟨by decide, rfl, Nat.le_of_ble_eq_true rfl, rfl, ⟨by decide, rfl, Nat.le_of_ble_eq_true rfl, rfl, ⟨by decide, rfl, Nat.le_of_ble_eq_true rfl, rfl, trivial⟩⟩⟩⟩⟩) rfl) trivial ?_
     refine g_step rfl rfl rfl rfl (e_move (v := .sc _) rfl) trivial ?_
     refine g_end (ds := [46, 47, 48, 49, 50, 51, 52]) (by kernel_rfl) rfl (hK15 _ ?_); clear hK15 K15
     exact seq_norm (hK13 _ ⟨rfl, trivial⟩ ⟨(congrArg (fun bs => PV.agg (List.map PV.bool bs)) (show ([(!st.valid), (!st.handed), (decide ((7) < (day - st.inspected))), gr, sl] : List Bool) = [(!st.valid), (!st.handed), ((decide (st.inspected < (0))) || (decide ((7) < (day - st.inspected)))), gr, sl] by first | rfl | ((try rw [hb16R]) <;> (first | rfl | (simp only [Bool.and_true, Bool.and_false, Bool.true_and, Bool.false_and, Bool.or_true, Bool.or_false, Bool.true_or, Bool.false_or, Bool.not_true, Bool.not_false, if_true, if_false, Bool.false_eq_true, reduceIte] <;> rfl))) | (simp only [hb16R, Bool.and_true, Bool.and_false, Bool.true_and, Bool.false_and, Bool.or_true, Bool.or_false, Bool.true_or, Bool.false_or, Bool.not_true, Bool.not_false, if_true, if_false, Bool.false_eq_true, reduceIte] <;> rfl))), rfl, trivial⟩)
   ·skip
    refine pwp_seq_block fun K17 hK17 => ?_
    refine pwp_loopR (α := Nat × (List Int) × PV) [56] (fun (a18 : Nat × (List Int) × PV) => [(9, (a18.2.2)), (57, .int (a18.1))]) (fun (a18 : Nat × (List Int) × PV) (h : Heap) (_ : Nat → Nat) => ((a18.1) ≤ 5) ∧ ((a18.2.1) = rsn 0 (([(!st.valid), (!st.handed), ((decide (st.inspected < (0))) || (decide ((7) < (day - st.inspected)))), gr, sl]).take (a18.1))) ∧ ((a18.2.1).length ≤ (a18.1)) ∧ (SliceAt h 65 (a18.2.2) 1 ((a18.2.1).map ci))) (fun (a18 : Nat × (List Int) × PV) => 5 - (a18.1)) (0, [], .nil) (by exact ⟨rfl, rfl, trivial⟩) (by exact ⟨by exact Nat.zero_le _, by exact rfl, by exact Nat.le_refl _, .nil⟩) fun a18 r19 h20 c21 hj22 => ?_
    obtain ⟨k, acc, v⟩ := a18
    obtain ⟨hk, hacc, hlen, hihj22_0⟩ := hj22
    try dsimp only at hk
    try dsimp only at hacc
    try dsimp only at hlen
    try dsimp only at hihj22_0
    show pwp _ _ (loopQ _ _ _) ⟨sets (mix _ _ _) [(9, v), (57, .int k)], _, _⟩
    refine pwp_seq_plain rfl fun K23 hK23 => ?_
    refine p_step rfl (e_lt rfl rfl) trivial ?_
    refine p_end (hK23 _ ?_); clear hK23 K23
    refine pwp_seq_cond rfl fun K24 hK24 => ⟨fun hb25 => ?_, fun hb25 => ?_⟩
    ·have hb25R := hb25; try simp only [z1, z2, z3, z4, z5, z6, ne_eq, z7, z8, z9, z10, z11, z12] at hb25
     refine pwp_skip ?_
     refine seq_norm (hK24 _ ?_); clear hK24 K24
     refine pwp_seq_block fun K26 hK26 => ?_
     refine pwp_seq_plain rfl fun K27 hK27 => ?_
     refine p_step rfl (e_move (v := .sc _) rfl) trivial ?_
     refine p_step rfl (e_indexB (bs := [(!st.valid), (!st.handed), ((decide (st.inspected < (0))) || (decide ((7) < (day - st.inspected)))), gr, sl]) (n := 5) (k := k) (e := 4) rfl rfl (by kernel_rfl) (by kernel_rfl) (by kernel_rfl) (by omega) rfl) trivial ?_
     refine p_step rfl (e_assign (v := .sc _) rfl) trivial ?_
     refine p_step rfl (e_assign (v := .sc _) rfl) trivial ?_
     refine p_end (hK27 _ ?_); clear hK27 K27
     refine pwp_seq_plain rfl fun K28 hK28 => ?_
     refine p_step rfl (e_move (v := .sc _) rfl) trivial ?_
     refine p_end (hK28 _ ?_); clear hK28 K28
     refine pwp_cond rfl (fun hb29 => ?_) (fun hb29 => ?_)
     ·have hb29R := hb29; try simp only [z1, z2, z3, z4, z5, z6, ne_eq, z7, z8, z9, z10, z11, z12] at hb29
      refine pwp_plain rfl fun K30 hK30 => ?_
      refine p_step rfl (e_move (v := _) rfl) trivial ?_
      refine p_step rfl (e_move (v := .sc _) rfl) trivial ?_
      refine p_new rfl (e_bslice (rows := [ci (k : Int)]) (zs := [.int 0]) (sz := 1) (by kernel_rfl) (by kernel_rfl) rfl (by kernel_rfl) (by decide) rfl rfl (by exact ⟨by decide, rfl, rfl, trivial⟩) rfl) trivial ?_
      refine p_app rfl rfl rfl (hihj22_0.keep fun _ => (hset_ne (key_ne rfl)).trans (rfl)) (src_ref (hset_self _ _ _) rfl) (by kernel_rfl) (by simp only [List.length_append, List.length_map, List.length_nil, List.length_cons]; omega) fun v31 h32 c33 hs34 hf35 => ?_
      have ho36 := (hf35 (64, _) (key_ne rfl) (fun _ _ => key_ne rfl)).trans (hset_self _ _ _)
      refine p_step rfl (e_assign (v := _) rfl) trivial ?_
      refine p_end (hK30 _ ?_); clear hK30 K30
      refine block_norm ?_
      refine seq_norm (hK26 _ ?_); clear hK26 K26
      refine pwp_plain rfl fun K37 hK37 => ?_
      refine p_step rfl (e_add rfl rfl (by omega)) trivial ?_
      refine p_step rfl (e_move (v := .sc _) rfl) trivial ?_
      refine p_end (hK37 _ ?_); clear hK37 K37
      exact loop_again ((k + 1, (acc ++ [(k : Int)]), v31)) (by show _ < _; simp only; omega) ⟨rfl, trivial⟩ ⟨rfl, rfl, trivial⟩ (by exact ⟨by show _ + 1 ≤ _; omega, by first | exact rsn_yes (by show _ < 5; omega) hacc (by assumption) | exact rsn_no (by show _ < 5; omega) hacc (by simpa using (by assumption)), by show List.length _ ≤ _ + 1; first | (simp only [List.length_append, List.length_cons, List.length_nil]; omega) | omega, (SliceAt.to hs34 (by simp [ci]))⟩)
     ·have hb29R := hb29; try simp only [z1, z2, z3, z4, z5, z6, ne_eq, z7, z8, z9, z10, z11, z12] at hb29
      refine pwp_skip ?_
      refine block_norm ?_
      refine seq_norm (hK26 _ ?_); clear hK26 K26
      refine pwp_plain rfl fun K38 hK38 => ?_
      refine p_step rfl (e_add rfl rfl (by omega)) trivial ?_
      refine p_step rfl (e_move (v := .sc _) rfl) trivial ?_
      refine p_end (hK38 _ ?_); clear hK38 K38
      exact loop_again ((k + 1, acc, v)) (by show _ < _; simp only; omega) ⟨rfl, trivial⟩ ⟨rfl, rfl, trivial⟩ (by exact ⟨by show _ + 1 ≤ _; omega, by first | exact rsn_yes (by show _ < 5; omega) hacc (by assumption) | exact rsn_no (by show _ < 5; omega) hacc (by simpa using (by assumption)), by show List.length _ ≤ _ + 1; first | (simp only [List.length_append, List.length_cons, List.length_nil]; omega) | omega, (SliceAt.to hihj22_0 (by simp [ci]))⟩)
    ·have hb25R := hb25; try simp only [z1, z2, z3, z4, z5, z6, ne_eq, z7, z8, z9, z10, z11, z12] at hb25
     obtain rfl : k = 5 := by omega
     refine pwp_exit ?_
     refine exit_seq ?_
     clear hK24 K24
     refine exit_loop ?_
     refine exit_here ?_
     refine seq_norm (hK17 _ ?_); clear hK17 K17
     refine pwp_seq_plain rfl fun K39 hK39 => ?_
     refine p_step rfl (e_move (v := _) rfl) trivial ?_
     refine p_step rfl (e_assign (v := _) rfl) trivial ?_
     refine p_end (hK39 _ ?_); clear hK39 K39
     refine pwp_ret ?_
     refine end1 (v := _) rfl ?_
     have he : acc = reaE st day := by rw [hacc, hgr, hsl]; rfl
     rw [← he]; assumption
  ·obtain ⟨_, _, _, _, hi1, hi2, hi3, hi4, hi5⟩ := IterT.step (key_ne rfl) hit hre
   refine p_next rfl hi1 hi2 hi3 hi4 fun p hp => ?_
   obtain ⟨l1, x, l2, hrl, rfl, hit2⟩ := hi5 p hp
   refine p_step rfl (e_ext (v := .sc _) rfl (by simp) rfl) trivial ?_
   refine p_end (hK10 _ ?_); clear hK10 K10
   refine pwp_seq_cond (t := true) rfl fun K40 hK40 => ⟨fun _ => ?_, nofun⟩
   refine pwp_skip ?_
   refine seq_norm (hK40 _ ?_); clear hK40 K40
   refine pwp_block ?_
   refine pwp_seq_plain rfl fun K41 hK41 => ?_
   refine p_step rfl (e_entryT (e := x.1) rfl hit2) trivial ?_
   refine p_step rfl (e_ext (v := .sc _) rfl (by simp) rfl) trivial ?_
   refine p_step rfl (e_assign (v := .sc _) rfl) trivial ?_
   refine p_end (hK41 _ ?_); clear hK41 K41
   refine pwp_gops rfl fun K42 hK42 => ?_
   refine g_begin ?_
   refine g_step rfl rfl rfl rfl (e_move (v := .sc _) rfl) trivial ?_
   refine g_step rfl rfl rfl rfl (e_move (v := .sc _) rfl) trivial ?_
   refine g_cases (fun hb43 => ?_) (fun hb43 => ?_)
   ·have hb43R := hb43; try simp only [z1, z2, z3, z4, z5, z6, ne_eq, z7, z8, z9, z10, z11, z12] at hb43
    refine g_skip rfl rfl rfl ?_
    refine g_step rfl rfl rfl rfl (e_pickT (v := .sc _) rfl rfl) trivial ?_
    refine g_step rfl rfl rfl rfl (e_move (v := .sc _) rfl) trivial ?_
    refine g_step rfl rfl rfl rfl (e_move (v := .sc _) rfl) trivial ?_
    refine g_cases (fun hb44 => ?_) (fun hb44 => ?_)
    ·have hb44R := hb44; try simp only [z1, z2, z3, z4, z5, z6, ne_eq, z7, z8, z9, z10, z11, z12] at hb44
     refine g_skip rfl rfl rfl ?_
     refine g_skip rfl rfl rfl ?_
     refine g_step rfl rfl rfl rfl (e_pickT (v := .sc _) rfl rfl) trivial ?_
     refine g_step rfl rfl rfl rfl (e_assign (v := .sc _) rfl) trivial ?_
     refine g_step rfl rfl rfl rfl (e_assign (v := .sc _) rfl) trivial ?_
     refine g_end (ds := [23, 27, 28]) rfl rfl (hK42 _ ?_); clear hK42 K42
     refine block_norm ?_
     exact loop_again ((l1 ++ l2, true, true)) (by show _ < _; rw [hrl]; simp) ⟨rfl, rfl, rfl, trivial⟩ ⟨rfl, rfl, trivial⟩ (by exact ⟨by exact IterAt.keep hit2 rfl rfl (.inl rfl), by first | exact any_step (fun e => e.2) hrl hg | (have hz := any_step (fun e => e.2) hrl hg; rw [‹gr = true›] at hz; exact hz) | (have hz := any_step (fun e => e.2) hrl hg; rw [‹gr = false›] at hz; exact hz), by first | exact any_step (fun e => !e.2) hrl hs | (have hz := any_step (fun e => !e.2) hrl hs; rw [‹sl = true›] at hz; exact hz) | (have hz := any_step (fun e => !e.2) hrl hs; rw [‹sl = false›] at hz; exact hz), ((hset_ne (key_ne rfl)).trans hihj9_0), (MapAt.keep hihj9_1 ((hset_ne (key_ne rfl)).trans (rfl)))⟩)
    ·have hb44R := hb44; try simp only [z1, z2, z3, z4, z5, z6, ne_eq, z7, z8, z9, z10, z11, z12] at hb44
     refine g_step rfl rfl rfl rfl (e_move (v := .sc _) rfl) trivial ?_
     refine g_step rfl rfl rfl rfl (e_not rfl) trivial ?_
     refine g_step rfl rfl rfl rfl (e_pickF (v := .sc _) rfl rfl) trivial ?_
     refine g_step rfl rfl rfl rfl (e_assign (v := .sc _) rfl) trivial ?_
     refine g_step rfl rfl rfl rfl (e_assign (v := .sc _) rfl) trivial ?_
     refine g_end (ds := [23, 27, 28]) rfl rfl (hK42 _ ?_); clear hK42 K42
     refine block_norm ?_
     exact loop_again ((l1 ++ l2, true, (!x.1.2))) (by show _ < _; rw [hrl]; simp) ⟨rfl, rfl, rfl, trivial⟩ ⟨rfl, rfl, trivial⟩ (by exact ⟨by exact IterAt.keep hit2 rfl rfl (.inl rfl), by first | exact any_step (fun e => e.2) hrl hg | (have hz := any_step (fun e => e.2) hrl hg; rw [‹gr = true›] at hz; exact hz) | (have hz := any_step (fun e => e.2) hrl hg; rw [‹gr = false›] at hz; exact hz), by first | exact any_step (fun e => !e.2) hrl hs | (have hz := any_step (fun e => !e.2) hrl hs; rw [‹sl = true›] at hz; exact hz) | (have hz := any_step (fun e => !e.2) hrl hs; rw [‹sl = false›] at hz; exact hz), ((hset_ne (key_ne rfl)).trans hihj9_0), (MapAt.keep hihj9_1 ((hset_ne (key_ne rfl)).trans (rfl)))⟩)
   ·have hb43R := hb43; try simp only [z1, z2, z3, z4, z5, z6, ne_eq, z7, z8, z9, z10, z11, z12] at hb43
    refine g_step rfl rfl rfl rfl (e_move (v := .sc _) rfl) trivial ?_
    refine g_step rfl rfl rfl rfl (e_pickF (v := .sc _) rfl rfl) trivial ?_
    refine g_step rfl rfl rfl rfl (e_move (v := .sc _) rfl) trivial ?_
    refine g_step rfl rfl rfl rfl (e_move (v := .sc _) rfl) trivial ?_
    refine g_cases (fun hb45 => ?_) (fun hb45 => ?_)
    ·have hb45R := hb45; try simp only [z1, z2, z3, z4, z5, z6, ne_eq, z7, z8, z9, z10, z11, z12] at hb45
     refine g_skip rfl rfl rfl ?_
     refine g_skip rfl rfl rfl ?_
     refine g_step rfl rfl rfl rfl (e_pickT (v := .sc _) rfl rfl) trivial ?_
     refine g_step rfl rfl rfl rfl (e_assign (v := .sc _) rfl) trivial ?_
     refine g_step rfl rfl rfl rfl (e_assign (v := .sc _) rfl) trivial ?_
     refine g_end (ds := [23, 27, 28]) rfl rfl (hK42 _ ?_); clear hK42 K42
     refine block_norm ?_
     exact loop_again ((l1 ++ l2, x.1.2, true)) (by show _ < _; rw [hrl]; simp) ⟨rfl, rfl, rfl, trivial⟩ ⟨rfl, rfl, trivial⟩ (by exact ⟨by exact IterAt.keep hit2 rfl rfl (.inl rfl), by first | exact any_step (fun e => e.2) hrl hg | (have hz := any_step (fun e => e.2) hrl hg; rw [‹gr = true›] at hz; exact hz) | (have hz := any_step (fun e => e.2) hrl hg; rw [‹gr = false›] at hz; exact hz), by first | exact any_step (fun e => !e.2) hrl hs | (have hz := any_step (fun e => !e.2) hrl hs; rw [‹sl = true›] at hz; exact hz) | (have hz := any_step (fun e => !e.2) hrl hs; rw [‹sl = false›] at hz; exact hz), ((hset_ne (key_ne rfl)).trans hihj9_0), (MapAt.keep hihj9_1 ((hset_ne (key_ne rfl)).trans (rfl)))⟩)
    ·have hb45R := hb45; try simp only [z1, z2, z3, z4, z5, z6, ne_eq, z7, z8, z9, z10, z11, z12] at hb45
     refine g_step rfl rfl rfl rfl (e_move (v := .sc _) rfl) trivial ?_
     refine g_step rfl rfl rfl rfl (e_not rfl) trivial ?_
     refine g_step rfl rfl rfl rfl (e_pickF (v := .sc _) rfl rfl) trivial ?_
     refine g_step rfl rfl rfl rfl (e_assign (v := .sc _) rfl) trivial ?_
     refine g_step rfl rfl rfl rfl (e_assign (v := .sc _) rfl) trivial ?_
     refine g_end (ds := [23, 27, 28]) rfl rfl (hK42 _ ?_); clear hK42 K42
     refine block_norm ?_
     exact loop_again ((l1 ++ l2, x.1.2, (!x.1.2))) (by show _ < _; rw [hrl]; simp) ⟨rfl, rfl, rfl, trivial⟩ ⟨rfl, rfl, trivial⟩ (by exact ⟨by exact IterAt.keep hit2 rfl rfl (.inl rfl), by first | exact any_step (fun e => e.2) hrl hg | (have hz := any_step (fun e => e.2) hrl hg; rw [‹gr = true›] at hz; exact hz) | (have hz := any_step (fun e => e.2) hrl hg; rw [‹gr = false›] at hz; exact hz), by first | exact any_step (fun e => !e.2) hrl hs | (have hz := any_step (fun e => !e.2) hrl hs; rw [‹sl = true›] at hz; exact hz) | (have hz := any_step (fun e => !e.2) hrl hs; rw [‹sl = false›] at hz; exact hz), ((hset_ne (key_ne rfl)).trans hihj9_0), (MapAt.keep hihj9_1 ((hset_ne (key_ne rfl)).trans (rfl)))⟩)

end Go.Proofs.Ytdbpfhbppcpbbaa
