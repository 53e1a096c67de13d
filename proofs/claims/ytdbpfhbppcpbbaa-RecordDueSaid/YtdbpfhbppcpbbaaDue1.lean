/- Platforms as own memory; what is told of reasons. No conditions. -/
import Derived.Test.YtdbpfhbppcpbbaaRef3
import Derived.Test.YtdbpfhbppcpbbaaRef4
import Derived.Test.YtdbpfhbppcpbbaaPvZ7
set_option linter.unusedSimpArgs false
set_option linter.unusedVariables false
set_option maxRecDepth 100000
namespace Go.Proofs.Ytdbpfhbppcpbbaa
open Go Go.Pv
/-! ### Texts of a map, sorted, as own memory -/
theorem sortedPO {h : Heap} {c : Nat → Nat} {kb km : Key} {n : Nms} (hkb : h kb = some (.rows 1 [[.map km]])) (hm : MapAt h km (entsOf kps PV.bool n)) (hs : ∀ e ∈ n, e.1.size ≤ 1000000) (hl : n.length ≤ 1000000) :
    HCallsR Try.prog 116 [.func (.func 128) [] [.ptr kb 1 0 0]] h c fun v h' _ => SliceAt h' 18 v 1 ((sortB n).map cb) ∧ ∀ k' : Key, k' ≠ (18, c 18) → h' k' = h k' := by
  obtain ⟨bs, clk, hm, _⟩ := hm
  refine sorted_coreO (kt := 9) (by kernel_rfl) (by kernel_rfl) sortedKeys hkb ⟨bs, clk, hm⟩ (strsOf_kps n hs) (by simpa [entsOf] using hl) fun v h' c' h1 h2 => ⟨?_, h2⟩
  have e : (sortB n).map cb = strRows (sortS (n.map fun e => e.1.data.toList)) := by
    simp only [strRows, sortB, List.map_map]; rfl
  rw [e]; exact h1
def mkRG (km : Key) (h0 : Heap) (c0 : Nat → Nat) (v : PV) (h : Heap) : Prop := v = .func (.func 128) [] [.ptr (1, c0 1) 1 0 0] ∧ h (1, c0 1) = some (.rows 1 [[.map km]]) ∧ ∀ a b, Nat.beq a 1 = false → h (a, b) = h0 (a, b)
theorem old_ne {a b g : Nat} {n : Nat} (hc : n ≤ g) (h5 : a = 5 → b < n) : ((a, b) : Key) ≠ (5, g) := fun e => by
  cases e
  have := h5 rfl; omega

theorem frH117G : (inFrame Try.f117.ntmps (Try.f117.body.getD .skip) && Try.f117.results.toList.all (resScope Try.f117.ntmps)) = true := by kernel_rfl
theorem mapsKeysG (km : Key) (h0 : Heap) (c0 : Nat → Nat) : HCallsR Try.prog 117 [.map km] h0 c0 (fun v h _ => mkRG km h0 c0 v h) := by
  refine HCallsR.of_code Try.func117 rfl rfl (by kernel_rfl) mixed frH117G (by show _ ≤ 4; simp) ?_
  refine pwp_seq_plain rfl fun K1 hK1 => ?_
  refine p_new rfl (e_box1 rfl rfl) ⟨rfl, by decide⟩ ?_
  refine p_step rfl (e_assign (v := .sc _) rfl) trivial ?_
  refine p_end (hK1 _ ?_); clear hK1 K1
  refine pwp_seq_plain rfl fun K2 hK2 => ?_
  refine p_step rfl (e_mkf rfl) trivial ?_
  refine p_step rfl (e_assign (v := .func _ _ _) rfl) trivial ?_
  refine p_end (hK2 _ ?_); clear hK2 K2
  refine pwp_ret ?_
  refine end1 (v := .func _ _ _) rfl ?_
  exact ⟨rfl, (hset_self _ _ _), fun a b h1 => by simp only [hset_ne (key_ne h1)]⟩

theorem frH101 : (inFrame Try.f101.ntmps (Try.f101.body.getD .skip) && Try.f101.results.toList.all (resScope Try.f101.ntmps)) = true := by kernel_rfl
theorem platformsO (evs : List Ev) (h0 : Heap) (c0 : Nat → Nat) (hl : evs.length ≤ 405) (hs : ∀ e ∈ evs, e.platform.size ≤ 12) : HCallsR Try.prog 101 [.lit true 6 (evs.map Ev.enc)] h0 c0 (fun v h _ => SliceAt h 18 v 1 ((platE evs).map cb) ∧ ∀ a b, Nat.beq a 6 = false → Nat.beq a 1 = false → Nat.beq a 18 = false → (a = 5 → b < c0 5) → h (a, b) = h0 (a, b)) := by
  refine HCallsR.of_code Try.func101 rfl rfl (by kernel_rfl) mixed frH101 (by show _ ≤ 23; simp) ?_
  refine pwp_seq_plain rfl fun K1 hK1 => ?_
  refine p_step rfl (e_assign (v := .nil) rfl) trivial ?_
  refine p_end (hK1 _ ?_); clear hK1 K1
  refine pwp_seq_plain rfl fun K2 hK2 => ?_
  refine p_new rfl (e_mkmap) trivial ?_
  refine p_step rfl (e_assign (v := .map _) rfl) trivial ?_
  refine p_end (hK2 _ ?_); clear hK2 K2
  refine pwp_seq_seq ?_
  refine pwp_seq_plain rfl fun K3 hK3 => ?_
  refine p_step rfl (e_move (v := .lit _ _ _) rfl) trivial ?_
  refine p_step rfl (e_len rfl (by kernel_rfl)) trivial ?_
  refine p_step rfl (e_move (v := .sc _) rfl) trivial ?_
  refine p_end (hK3 _ ?_); clear hK3 K3
  refine pwp_seq_block fun K4 hK4 => ?_
  refine pwp_loopR (α := Nat × Nms) [3, 7, 8] (fun (a5 : Nat × Nms) => [(9, .int (a5.1))]) (fun (a5 : Nat × Nms) (h : Heap) (c : Nat → Nat) => ((a5.1) ≤ evs.length) ∧ (platN [] evs = platN (a5.2) (evs.drop (a5.1))) ∧ (c0 5 ≤ c 5) ∧ (∀ a b, Nat.beq a 6 = false → (a = 5 → b < c0 5) → h (a, b) = h0 (a, b)) ∧ (MapAt h (6, c0 6) (entsOf kps PV.bool (a5.2)))) (fun (a5 : Nat × Nms) => evs.length - (a5.1)) (0, []) (by exact ⟨rfl, trivial⟩) (by exact ⟨by exact Nat.zero_le _, by exact rfl, by (simp [cset]), by exact fun a b h6 _ => hset_ne (key_ne h6), MapAt.new⟩) fun a5 r6 h7 c8 hj9 => ?_
  obtain ⟨k, nm⟩ := a5
  obtain ⟨hk, hinv, hcc, hfr, hihj9_0⟩ := hj9
  try dsimp only at hk
  try dsimp only at hinv
  try dsimp only at hcc
  try dsimp only at hfr
  try dsimp only at hihj9_0
  show pwp _ _ (loopQ _ _ _) ⟨sets (mix _ _ _) [(9, .int k)], _, _⟩
  refine pwp_seq_plain rfl fun K10 hK10 => ?_
  refine p_step rfl (e_lt rfl rfl) trivial ?_
  refine p_end (hK10 _ ?_); clear hK10 K10
  refine pwp_seq_cond rfl fun K11 hK11 => ⟨fun hb12 => ?_, fun hb12 => ?_⟩
  ·have hb12R := hb12; try simp only [z1, z2, z3, z4, z5, z6, ne_eq, z7, z8, z9, z10, z11, z12] at hb12
   obtain ⟨x, hx, hd, ht⟩ := get_lt (xs := evs) (i := k) (by omega)
   rw [hd] at hinv; simp only [platN] at hinv
   refine pwp_skip ?_
   refine seq_norm (hK11 _ ?_); clear hK11 K11
   refine pwp_seq_block fun K13 hK13 => ?_
   refine pwp_seq_plain rfl fun K14 hK14 => ?_
   refine p_step rfl (e_ixa rfl rfl (by kernel_rfl) (by kernel_rfl) (by simp only [List.length_map]; omega)) trivial ?_
   refine p_step rfl (e_loadA (n := 6) rfl (by kernel_rfl) (by kernel_rfl) (by kernel_rfl) (by simp only [List.length_map]; omega) (by decide) (by first | exact agg_map hx rfl)) trivial ?_
   refine p_new rfl (e_alloc (cs := [.int 0, .int 0, .str ByteArray.empty, .int 0, .bool false, .bool false]) (n := 6) (by kernel_rfl) rfl (by decide)) (ob_alloc (by decide)) ?_
   refine p_store rfl (e_storeA rfl (hset_self _ _ _) rfl rfl rfl (by kernel_rfl) rfl (by kernel_rfl)) trivial ?_
   refine p_end (hK14 _ ?_); clear hK14 K14
   refine pwp_seq_plain rfl fun K15 hK15 => ?_
   refine p_step rfl (e_faP (pl := [(0, 1, false), (1, 1, false), (2, 1, false), (3, 1, false), (4, 1, false), (5, 1, false)]) rfl (by kernel_rfl) (by kernel_rfl) (by decide) rfl) trivial ?_
   refine p_step rfl (e_loadH (v := .sc _) rfl (hset_self _ _ _) (by kernel_rfl) (by kernel_rfl) (by kernel_rfl) (by exact Nat.zero_lt_one) (by decide) rfl) trivial ?_
   refine p_step rfl (e_sne rfl rfl) trivial ?_
   refine p_end (hK15 _ ?_); clear hK15 K15
   refine pwp_cond rfl (fun hb16 => ?_) (fun hb16 => ?_)
   ·have hb16R := hb16; try simp only [z1, z2, z3, z4, z5, z6, ne_eq, z7, z8, z9, z10, z11, z12] at hb16
    refine pwp_plain rfl fun K17 hK17 => ?_
    refine p_step rfl (e_move (v := .map _) rfl) trivial ?_
    refine p_step rfl (e_faP (pl := [(0, 1, false), (1, 1, false), (2, 1, false), (3, 1, false), (4, 1, false), (5, 1, false)]) rfl (by kernel_rfl) (by kernel_rfl) (by decide) rfl) trivial ?_
    refine p_step rfl (e_loadH (v := .sc _) rfl (hset_self _ _ _) (by kernel_rfl) (by kernel_rfl) (by kernel_rfl) (by exact Nat.zero_lt_one) (by decide) rfl) trivial ?_
    refine p_store rfl (e_mset (kt := 9) (et := 4) (f := kps) (g := PV.bool) (a := x.platform) (b := true) (l := nm) kps_eq kps_ok rfl rfl rfl rfl (MapAt.keep hihj9_0 ((hset_ne (key_ne rfl)).trans ((hset_ne (key_ne rfl)).trans (rfl)))) (by kernel_rfl)) trivial ?_
    refine p_end (hK17 _ ?_); clear hK17 K17
    refine block_norm ?_
    refine seq_norm (hK13 _ ?_); clear hK13 K13
    refine pwp_plain rfl fun K18 hK18 => ?_
    refine p_step rfl (e_add rfl rfl (by omega)) trivial ?_
    refine p_step rfl (e_move (v := .sc _) rfl) trivial ?_
    refine p_end (hK18 _ ?_); clear hK18 K18
    exact loop_again ((k + 1, (aSet x.platform true nm))) (by show _ < _; simp only; omega) ⟨rfl, rfl, rfl, trivial⟩ ⟨rfl, trivial⟩ (by exact ⟨by show _ + 1 ≤ _; omega, by first | (rw [if_pos (by assumption)] at hinv; exact hinv) | (rw [if_neg (by simpa using (by assumption))] at hinv; exact hinv), by (first | (simp [cset]; done) | (simp [cset]; omega)), by first | exact fun a b h6 h5 => (hset_ne (key_ne h6)).trans ((hset_ne (old_ne hcc h5)).trans ((hset_ne (old_ne hcc h5)).trans (hfr a b h6 h5))) | exact fun a b h6 h5 => (hset_ne (old_ne hcc h5)).trans ((hset_ne (old_ne hcc h5)).trans (hfr a b h6 h5)), (MapAt.set kps_eq (MapAt.keep hihj9_0 ((hset_ne (key_ne rfl)).trans ((hset_ne (key_ne rfl)).trans (rfl)))) x.platform true)⟩)
   ·have hb16R := hb16; try simp only [z1, z2, z3, z4, z5, z6, ne_eq, z7, z8, z9, z10, z11, z12] at hb16
    refine pwp_skip ?_
    refine block_norm ?_
    refine seq_norm (hK13 _ ?_); clear hK13 K13
    refine pwp_plain rfl fun K19 hK19 => ?_
    refine p_step rfl (e_add rfl rfl (by omega)) trivial ?_
    refine p_step rfl (e_move (v := .sc _) rfl) trivial ?_
    refine p_end (hK19 _ ?_); clear hK19 K19
    exact loop_again ((k + 1, nm)) (by show _ < _; simp only; omega) ⟨rfl, rfl, rfl, trivial⟩ ⟨rfl, trivial⟩ (by exact ⟨by show _ + 1 ≤ _; omega, by first | (rw [if_pos (by assumption)] at hinv; exact hinv) | (rw [if_neg (by simpa using (by assumption))] at hinv; exact hinv), by (first | (simp [cset]; done) | (simp [cset]; omega)), by first | exact fun a b h6 h5 => (hset_ne (key_ne h6)).trans ((hset_ne (old_ne hcc h5)).trans ((hset_ne (old_ne hcc h5)).trans (hfr a b h6 h5))) | exact fun a b h6 h5 => (hset_ne (old_ne hcc h5)).trans ((hset_ne (old_ne hcc h5)).trans (hfr a b h6 h5)), (MapAt.keep hihj9_0 ((hset_ne (key_ne rfl)).trans ((hset_ne (key_ne rfl)).trans (rfl))))⟩)
  ·have hb12R := hb12; try simp only [z1, z2, z3, z4, z5, z6, ne_eq, z7, z8, z9, z10, z11, z12] at hb12
   obtain rfl : k = evs.length := by omega
   rw [List.drop_length] at hinv; simp only [platN] at hinv
   have hsz := plat_size hs; rw [hinv] at hsz
   have hlz : nm.length ≤ 1000000 := by have := platN_len evs []; rw [hinv] at this; simp at this; omega
   refine pwp_exit ?_
   refine exit_seq ?_
   clear hK11 K11
   refine exit_loop ?_
   refine exit_here ?_
   refine seq_norm (hK4 _ ?_); clear hK4 K4
   refine pwp_seq_plain rfl fun K20 hK20 => ?_
   refine p_step rfl (e_move (v := .map _) rfl) trivial ?_
   refine p_hcall rfl (mapsKeysG _ _ _) fun v21 h22 c23 hR24 => ?_
   obtain ⟨rfl, hb25, hf26⟩ := hR24
   refine p_hcall rfl (sortedPO hb25 (MapAt.keep hihj9_0 (hf26 6 _ rfl)) hsz hlz) fun v27 h28 c29 hR30 => ?_
   obtain ⟨hs31, hf32⟩ := hR30
   refine p_step rfl (e_assign (v := _) rfl) trivial ?_
   refine p_end (hK20 _ ?_); clear hK20 K20
   refine pwp_ret ?_
   refine end1 (v := _) rfl ?_
   rw [platE, hinv]
   exact ⟨hs31, fun a b h6 h1 h18 h5 => (hf32 _ (key_ne h18)).trans ((hf26 a b h1).trans (hfr a b h6 h5))⟩

/-! ### What is told of reasons -/
def idxZ (n : Int) : Nat → List Int → Int
  | _, [] => -1
  | k, a :: l => if n = a then (k : Int) else idxZ n (k + 1) l
theorem idxZ_mem (n : Int) : ∀ (l : List Int) (k : Nat), decide (0 ≤ idxZ n k l) = hasI l n
  | [], _ => by simp [idxZ, hasI]
  | a :: l, k => by
    unfold idxZ
    by_cases h : n = a
    · rw [if_pos h]; simp [hasI, h]
    · rw [if_neg h, idxZ_mem n l (k + 1)]; simp [hasI, h]
theorem idxZ_hit {S : Int} {n x : Int} {k : Nat} {l : List Int} (h : S = if n = x then (k : Int) else idxZ n (k + 1) l) (hp : n = x) : (k : Int) = S := by rw [h, if_pos hp]
theorem idxZ_miss {S : Int} {n x : Int} {k : Nat} {l : List Int} (h : S = if n = x then (k : Int) else idxZ n (k + 1) l) (hp : ¬ n = x) : S = idxZ n (k + 1) l := by rw [h, if_neg hp]
/-- Reasons that an inspection would mend. -/
def dueP : List Int → Bool
  | [] => false
  | a :: l => decide (a = 2) && !hasI (a :: l) 3
theorem dueP_nil {l : List Int} (h : ¬ (0 : Int) < ((l.length : Nat) : Int)) : false = dueP l := by
  cases l with
  | nil => rfl
  | cons a l => first | (simp at h; done) | (simp at h; omega)
theorem dueP_no {l : List Int} {x : Int} (hx : l[0]? = some x) (h : ¬ x = 2) : false = dueP l := by
  cases l with
  | nil => cases hx
  | cons a l => cases hx; simp [dueP, h]
theorem dueP_yes {l : List Int} {x : Int} (hx : l[0]? = some x) (h : x = 2) : (!hasI l 3) = dueP l := by
  cases l with
  | nil => cases hx
  | cons a l => cases hx; simp [dueP, h]
theorem head_pos {l : List Int} (h : (0 : Int) < ((l.length : Nat) : Int)) : ∃ x, l[0]? = some x := ⟨_, List.getElem?_eq_getElem (by omega)⟩
def relP (l : List Int) : Bool := decide (((((l.map ci).length : Nat) : Int)) = 0)
/-- The same, as the reference tells it. -/
def dueR (l : List Int) : Bool := decide (((l.filter fun n => decide (¬ n = 2)).length : Int) < (l.length : Int)) && decide (0 < tagR (l.filter fun n => decide (¬ n = 2)))
theorem dueR_no {l acc : List Int} (ha : acc = l.filter fun n => decide (¬ n = 2)) (h : ¬ ((acc.length : Nat) : Int) < ((l.length : Nat) : Int)) : false = dueR l := by
  unfold dueR; rw [← ha, decide_eq_false h]; rfl
theorem dueR_yes {l acc : List Int} (ha : acc = l.filter fun n => decide (¬ n = 2)) (h : ((acc.length : Nat) : Int) < ((l.length : Nat) : Int)) : decide (0 < tagR acc) = dueR l := by
  unfold dueR; rw [← ha, decide_eq_true h]; rfl
theorem due_same (b0 b1 b2 b3 b4 : Bool) : dueP (rsn 0 [b0, b1, b2, b3, b4]) = dueR (rsn 0 [b0, b1, b2, b3, b4]) := by
  cases b0 <;> cases b1 <;> cases b2 <;> cases b3 <;> cases b4 <;> decide
theorem rel_same (b0 b1 b2 b3 b4 : Bool) : relP (rsn 0 [b0, b1, b2, b3, b4]) = decide (tagR (rsn 0 [b0, b1, b2, b3, b4]) = 2) := by
  cases b0 <;> cases b1 <;> cases b2 <;> cases b3 <;> cases b4 <;> decide
theorem rea5 (st : St) (day : Int) : (reaE st day).length ≤ 5 := by
  have : ∀ (l : List Bool) (i : Int), (rsn i l).length ≤ l.length := by
    intro l
    induction l with
    | nil => intro i; exact Nat.le_refl _
    | cons b l ih =>
      intro i
      have := ih (i + 1)
      unfold rsn
      split
      · rw [List.length_cons, List.length_cons]; omega
      · rw [List.length_cons]; omega
  exact this _ _
theorem fil_in' {α : Type} {xs acc : List α} {k : Nat} {x : α} {f : α → Bool} (hx : xs[k]? = some x) (ha : acc = (xs.take k).filter f) (h : f x = true) : acc ++ [x] = (xs.take (k + 1)).filter f := by
  rw [List.take_add_one, hx, List.filter_append, ← ha]; simp [h]
theorem fil_out' {α : Type} {xs acc : List α} {k : Nat} {x : α} {f : α → Bool} (hx : xs[k]? = some x) (ha : acc = (xs.take k).filter f) (h : f x = false) : acc = (xs.take (k + 1)).filter f := by
  rw [List.take_add_one, hx, List.filter_append, ← ha]; simp [h]

theorem fr115 : (inFrame Try.f115.ntmps (Try.f115.body.getD .skip) && Try.f115.results.toList.all (resScope Try.f115.ntmps)) = true := by kernel_rfl
theorem IndexZ (l : List Int) (n : Int) (hl : l.length ≤ 1000000) : PCalls Try.prog 115 [.lit true 1 (l.map ci), .int n] (.int (idxZ n 0 l)) := by
  refine PCalls.of_code Try.func115 rfl rfl (by kernel_rfl) mixed fr115 (by show _ ≤ 19; simp) (.sc _) ?_
  refine pwp_seq_plain rfl fun K1 hK1 => ?_
  refine p_step rfl (e_assign (v := .sc _) rfl) trivial ?_
  refine p_end (hK1 _ ?_); clear hK1 K1
  refine pwp_seq_seq ?_
  refine pwp_seq_plain rfl fun K2 hK2 => ?_
  refine p_step rfl (e_move (v := .lit _ _ _) rfl) trivial ?_
  refine p_step rfl (e_len rfl (by kernel_rfl)) trivial ?_
  refine p_step rfl (e_move (v := .sc _) rfl) trivial ?_
  refine p_end (hK2 _ ?_); clear hK2 K2
  refine pwp_seq_block fun K3 hK3 => ?_
  refine pwp_loopR (α := Nat) [0, 1, 7] (fun (k : Nat) => [(8, .int (k))]) (fun (k : Nat) (h : Heap) (_ : Nat → Nat) => ((k) ≤ l.length) ∧ (idxZ n 0 l = idxZ n (k) (l.drop (k)))) (fun (k : Nat) => l.length - (k)) (0) (by exact ⟨rfl, trivial⟩) (by exact ⟨by exact Nat.zero_le _, by exact rfl⟩) fun k r4 h5 c6 hj7 => ?_
  obtain ⟨hk, hinv⟩ := hj7
  try dsimp only at hk
  try dsimp only at hinv
  show pwp _ _ (loopQ _ _ _) ⟨sets (mix _ _ _) [(8, .int k)], _, _⟩
  refine pwp_seq_plain rfl fun K8 hK8 => ?_
  refine p_step rfl (e_lt rfl rfl) trivial ?_
  refine p_end (hK8 _ ?_); clear hK8 K8
  refine pwp_seq_cond rfl fun K9 hK9 => ⟨fun hb10 => ?_, fun hb10 => ?_⟩
  ·have hb10R := hb10; try simp only [z1, z2, z3, z4, z5, z6, ne_eq, z7, z8, z9, z10, z11, z12] at hb10
   obtain ⟨x, hx, hd, ht⟩ := get_lt (xs := l) (i := k) (by omega)
   rw [hd] at hinv; simp only [idxZ] at hinv
   refine pwp_skip ?_
   refine seq_norm (hK9 _ ?_); clear hK9 K9
   refine pwp_seq_block fun K11 hK11 => ?_
   refine pwp_seq_plain rfl fun K12 hK12 => ?_
   refine p_step rfl (e_move (v := .sc _) rfl) trivial ?_
   refine p_step rfl (e_assign (v := .sc _) rfl) trivial ?_
   refine p_end (hK12 _ ?_); clear hK12 K12
   refine pwp_seq_plain rfl fun K13 hK13 => ?_
   refine p_step rfl (e_move (v := .sc _) rfl) trivial ?_
   refine p_step rfl (e_move (v := .lit _ _ _) rfl) trivial ?_
   refine p_step rfl (e_move (v := .sc _) rfl) trivial ?_
   refine p_step rfl (e_ixa rfl rfl (by kernel_rfl) (by kernel_rfl) (by simp only [List.length_map]; omega)) trivial ?_
   refine p_step rfl (e_load (v := .sc _) rfl (by kernel_rfl) (by kernel_rfl) (by kernel_rfl) (by simp only [List.length_map]; omega) (by decide) ((cell_map hx _).trans rfl)) trivial ?_
   refine p_step rfl (e_eq rfl rfl) trivial ?_
   refine p_end (hK13 _ ?_); clear hK13 K13
   refine pwp_cond rfl (fun hb14 => ?_) (fun hb14 => ?_)
   ·have hb14R := hb14; try simp only [z1, z2, z3, z4, z5, z6, ne_eq, z7, z8, z9, z10, z11, z12] at hb14
    refine pwp_seq_plain rfl fun K15 hK15 => ?_
    refine p_step rfl (e_move (v := .sc _) rfl) trivial ?_
    refine p_step rfl (e_assign (v := .sc _) rfl) trivial ?_
    refine p_end (hK15 _ ?_); clear hK15 K15
    refine pwp_ret ?_
    refine ret_block ?_
    refine ret_seq ?_
    refine ret_loop ?_
    refine ret_block ?_
    refine ret_seq ?_
    refine end1 (v := .sc _) rfl ?_
    first
      | exact out_i (idxZ_hit hinv (by assumption))
      | exact out_i hinv.symm
   ·have hb14R := hb14; try simp only [z1, z2, z3, z4, z5, z6, ne_eq, z7, z8, z9, z10, z11, z12] at hb14
    refine pwp_skip ?_
    refine block_norm ?_
    refine seq_norm (hK11 _ ?_); clear hK11 K11
    refine pwp_plain rfl fun K16 hK16 => ?_
    refine p_step rfl (e_add rfl rfl (by omega)) trivial ?_
    refine p_step rfl (e_move (v := .sc _) rfl) trivial ?_
    refine p_end (hK16 _ ?_); clear hK16 K16
    exact loop_again (k + 1) (by show _ < _; omega) ⟨rfl, rfl, rfl, trivial⟩ ⟨rfl, trivial⟩ (by exact ⟨by show _ + 1 ≤ _; omega, by exact idxZ_miss hinv (by assumption)⟩)
  ·have hb10R := hb10; try simp only [z1, z2, z3, z4, z5, z6, ne_eq, z7, z8, z9, z10, z11, z12] at hb10
   obtain rfl : k = l.length := by omega
   rw [List.drop_length] at hinv; simp only [idxZ] at hinv
   refine pwp_exit ?_
   refine exit_seq ?_
   clear hK9 K9
   refine exit_loop ?_
   refine exit_here ?_
   refine seq_norm (hK3 _ ?_); clear hK3 K3
   refine pwp_seq_plain rfl fun K17 hK17 => ?_
   refine p_step rfl (e_assign (v := .sc _) rfl) trivial ?_
   refine p_end (hK17 _ ?_); clear hK17 K17
   refine pwp_ret ?_
   refine end1 (v := .sc _) rfl ?_
   first
     | exact out_i (idxZ_hit hinv (by assumption))
     | exact out_i hinv.symm

theorem fr97 : (inFrame Try.f97.ntmps (Try.f97.body.getD .skip) && Try.f97.results.toList.all (resScope Try.f97.ntmps)) = true := by kernel_rfl
theorem ContainsZ (l : List Int) (n : Int) (hl : l.length ≤ 1000000) : PCalls Try.prog 97 [.lit true 1 (l.map ci), .int n] (.bool (hasI l n)) := by
  refine PCalls.of_code Try.func97 rfl rfl (by kernel_rfl) mixed fr97 (by show _ ≤ 9; simp) (.sc _) ?_
  refine pwp_seq_plain rfl fun K1 hK1 => ?_
  refine p_step rfl (e_assign (v := .sc _) rfl) trivial ?_
  refine p_end (hK1 _ ?_); clear hK1 K1
  refine pwp_seq_plain rfl fun K2 hK2 => ?_
  refine p_step rfl (e_move (v := .lit _ _ _) rfl) trivial ?_
  refine p_step rfl (e_move (v := .sc _) rfl) trivial ?_
  refine p_call rfl (.cons inn_lit (.cons inn_sc .nil)) (IndexZ _ _ (by omega)) ?_
  refine p_step rfl (e_ge rfl rfl) trivial ?_
  refine p_step rfl (e_assign (v := .sc _) rfl) trivial ?_
  refine p_end (hK2 _ ?_); clear hK2 K2
  refine pwp_ret ?_
  refine end1 (v := .sc _) rfl ?_
  exact out_b (idxZ_mem n l 0)

theorem fr96 : (inFrame Try.f96.ntmps (Try.f96.body.getD .skip) && Try.f96.results.toList.all (resScope Try.f96.ntmps)) = true := by kernel_rfl
theorem due1 (l : List Int) (hl : l.length ≤ 5) : PCalls Try.prog 96 [.lit true 1 (l.map ci)] (.bool (dueP l)) := by
  refine PCalls.of_code Try.func96 rfl rfl (by kernel_rfl) mixed fr96 (by show _ ≤ 17; simp) (.sc _) ?_
  refine pwp_seq_plain rfl fun K1 hK1 => ?_
  refine p_step rfl (e_assign (v := .sc _) rfl) trivial ?_
  refine p_end (hK1 _ ?_); clear hK1 K1
  refine pwp_seq_gops rfl fun K2 hK2 => ?_
  refine g_begin ?_
  refine g_step rfl rfl rfl rfl (e_move (v := .lit _ _ _) rfl) trivial ?_
  refine g_step rfl rfl rfl rfl (e_len rfl (by kernel_rfl)) trivial ?_
  refine g_step rfl rfl rfl rfl (e_gt rfl rfl) trivial ?_
  refine g_step rfl rfl rfl rfl (e_move (v := .sc _) rfl) trivial ?_
  refine g_cases (fun hb3 => ?_) (fun hb3 => ?_)
  ·have hb3R := hb3; (try simp only [z1, z2, z3, z4, z5, z6, ne_eq, z7, z8, z9, z10, z11, z12] at hb3); (try (have hz := head_pos (l := l) hb3; obtain ⟨x, hx⟩ := hz))
   refine g_step rfl rfl rfl rfl (e_move (v := .lit _ _ _) rfl) trivial ?_
   refine g_step rfl rfl rfl rfl (e_ixa rfl rfl (by kernel_rfl) (by kernel_rfl) (by (simp only [List.length_map]; omega))) trivial ?_
   refine g_step rfl rfl rfl rfl (e_load (v := .sc _) rfl (by kernel_rfl) (by kernel_rfl) (by kernel_rfl) (by (simp only [List.length_map]; omega)) (by decide) ((cell_map hx _).trans rfl)) trivial ?_
   refine g_step rfl rfl rfl rfl (e_eq rfl rfl) trivial ?_
   refine g_step rfl rfl rfl rfl (e_pickT (v := .sc _) rfl rfl) trivial ?_
   refine g_step rfl rfl rfl rfl (e_move (v := .sc _) rfl) trivial ?_
   refine g_cases (fun hb4 => ?_) (fun hb4 => ?_)
   ·have hb4R := hb4; (try simp only [z1, z2, z3, z4, z5, z6, ne_eq, z7, z8, z9, z10, z11, z12] at hb4); (try (have hz := head_pos (l := l) hb4; obtain ⟨x, hx⟩ := hz))
    refine g_step rfl rfl rfl rfl (e_move (v := .lit _ _ _) rfl) trivial ?_
    refine g_call rfl rfl rfl rfl (.cons inn_lit (.cons inn_sc .nil)) (ContainsZ _ _ (by omega)) ?_
    refine g_step rfl rfl rfl rfl (e_not rfl) trivial ?_
    refine g_step rfl rfl rfl rfl (e_pickT (v := .sc _) rfl rfl) trivial ?_
    refine g_step rfl rfl rfl rfl (e_assign (v := .sc _) rfl) trivial ?_
    refine g_end (ds := [7, 8, 9, 10, 13, 14, 15]) rfl rfl (hK2 _ ?_); clear hK2 K2
    refine pwp_ret ?_
    refine end1 (v := .sc _) rfl ?_
    first
      | exact out_b (dueP_nil (by omega))
      | exact out_b (dueP_no hx (by assumption))
      | exact out_b (dueP_yes hx (by assumption))
   ·have hb4R := hb4; (try simp only [z1, z2, z3, z4, z5, z6, ne_eq, z7, z8, z9, z10, z11, z12] at hb4); (try (have hz := head_pos (l := l) hb4; obtain ⟨x, hx⟩ := hz))
    refine g_skip rfl rfl rfl ?_
    refine g_nocall rfl rfl rfl ?_
    refine g_skip rfl rfl rfl ?_
    refine g_step rfl rfl rfl rfl (e_pickF (v := .sc _) rfl rfl) trivial ?_
    refine g_step rfl rfl rfl rfl (e_assign (v := .sc _) rfl) trivial ?_
    refine g_end (ds := [7, 8, 9, 10, 13, 14, 15]) rfl rfl (hK2 _ ?_); clear hK2 K2
    refine pwp_ret ?_
    refine end1 (v := .sc _) rfl ?_
    first
      | exact out_b (dueP_nil (by omega))
      | exact out_b (dueP_no hx (by assumption))
      | exact out_b (dueP_yes hx (by assumption))
  ·have hb3R := hb3; (try simp only [z1, z2, z3, z4, z5, z6, ne_eq, z7, z8, z9, z10, z11, z12] at hb3); (try (have hz := head_pos (l := l) hb3; obtain ⟨x, hx⟩ := hz))
   refine g_skip rfl rfl rfl ?_
   refine g_skip rfl rfl rfl ?_
   refine g_skip rfl rfl rfl ?_
   refine g_skip rfl rfl rfl ?_
   refine g_step rfl rfl rfl rfl (e_pickF (v := .sc _) rfl rfl) trivial ?_
   refine g_step rfl rfl rfl rfl (e_move (v := .sc _) rfl) trivial ?_
   refine g_skip rfl rfl rfl ?_
   refine g_nocall rfl rfl rfl ?_
   refine g_skip rfl rfl rfl ?_
   refine g_step rfl rfl rfl rfl (e_pickF (v := .sc _) rfl rfl) trivial ?_
   refine g_step rfl rfl rfl rfl (e_assign (v := .sc _) rfl) trivial ?_
   refine g_end (ds := [7, 8, 9, 10, 13, 14, 15]) rfl rfl (hK2 _ ?_); clear hK2 K2
   refine pwp_ret ?_
   refine end1 (v := .sc _) rfl ?_
   first
     | exact out_b (dueP_nil (by omega))
     | exact out_b (dueP_no hx (by assumption))
     | exact out_b (dueP_yes hx (by assumption))

theorem fr98 : (inFrame Try.f98.ntmps (Try.f98.body.getD .skip) && Try.f98.results.toList.all (resScope Try.f98.ntmps)) = true := by kernel_rfl
theorem released1 (l : List Int) (hl : l.length ≤ 5) : PCalls Try.prog 98 [.lit true 1 (l.map ci)] (.bool (relP l)) := by
  refine PCalls.of_code Try.func98 rfl rfl (by kernel_rfl) mixed fr98 (by show _ ≤ 6; simp) (.sc _) ?_
  refine pwp_seq_plain rfl fun K1 hK1 => ?_
  refine p_step rfl (e_assign (v := .sc _) rfl) trivial ?_
  refine p_end (hK1 _ ?_); clear hK1 K1
  refine pwp_seq_plain rfl fun K2 hK2 => ?_
  refine p_step rfl (e_move (v := .lit _ _ _) rfl) trivial ?_
  refine p_step rfl (e_len rfl (by kernel_rfl)) trivial ?_
  refine p_step rfl (e_eq rfl rfl) trivial ?_
  refine p_step rfl (e_assign (v := .sc _) rfl) trivial ?_
  refine p_end (hK2 _ ?_); clear hK2 K2
  refine pwp_ret ?_
  refine end1 (v := .sc _) rfl ?_
  exact out_b rfl

theorem fr99 : (inFrame Try.f99.ntmps (Try.f99.body.getD .skip) && Try.f99.results.toList.all (resScope Try.f99.ntmps)) = true := by kernel_rfl
theorem dueRef (l : List Int) (hl : l.length ≤ 5) : PCalls Try.prog 99 [.lit true 1 (l.map ci)] (.bool (dueR l)) := by
  refine PCalls.of_code Try.func99 rfl rfl (by kernel_rfl) mixed fr99 (by show _ ≤ 33; simp) (.sc _) ?_
  refine pwp_seq_plain rfl fun K1 hK1 => ?_
  refine p_step rfl (e_assign (v := .sc _) rfl) trivial ?_
  refine p_end (hK1 _ ?_); clear hK1 K1
  refine pwp_seq_plain rfl fun K2 hK2 => ?_
  refine p_step rfl (e_assign (v := .nil) rfl) trivial ?_
  refine p_end (hK2 _ ?_); clear hK2 K2
  refine pwp_seq_seq ?_
  refine pwp_seq_plain rfl fun K3 hK3 => ?_
  refine p_step rfl (e_assign (v := .sc _) rfl) trivial ?_
  refine p_end (hK3 _ ?_); clear hK3 K3
  refine pwp_seq_block fun K4 hK4 => ?_
  refine pwp_loopR (α := Nat × (List Int) × PV) [0] (fun (a5 : Nat × (List Int) × PV) => [(3, (a5.2.2)), (4, .int (a5.1))]) (fun (a5 : Nat × (List Int) × PV) (h : Heap) (_ : Nat → Nat) => ((a5.1) ≤ l.length) ∧ ((a5.2.1) = (l.take (a5.1)).filter fun n => decide (¬ n = 2)) ∧ ((a5.2.1).length ≤ (a5.1)) ∧ (SliceAt h 22 (a5.2.2) 1 ((a5.2.1).map ci))) (fun (a5 : Nat × (List Int) × PV) => l.length - (a5.1)) (0, [], .nil) (by exact ⟨rfl, rfl, trivial⟩) (by exact ⟨by exact Nat.zero_le _, by exact rfl, by exact Nat.le_refl _, .nil⟩) fun a5 r6 h7 c8 hj9 => ?_
  obtain ⟨k, acc, v⟩ := a5
  obtain ⟨hk, hinv, hlen, hihj9_0⟩ := hj9
  try dsimp only at hk
  try dsimp only at hinv
  try dsimp only at hlen
  try dsimp only at hihj9_0
  show pwp _ _ (loopQ _ _ _) ⟨sets (mix _ _ _) [(3, v), (4, .int k)], _, _⟩
  refine pwp_seq_seq ?_
  refine pwp_seq_plain rfl fun K10 hK10 => ?_
  refine p_step rfl (e_move (v := .sc _) rfl) trivial ?_
  refine p_step rfl (e_move (v := .lit _ _ _) rfl) trivial ?_
  refine p_step rfl (e_len rfl (by kernel_rfl)) trivial ?_
  refine p_step rfl (e_lt rfl rfl) trivial ?_
  refine p_end (hK10 _ ?_); clear hK10 K10
  refine pwp_seq_cond rfl fun K11 hK11 => ⟨fun hb12 => ?_, fun hb12 => ?_⟩
  ·have hb12R := hb12; try simp only [z1, z2, z3, z4, z5, z6, ne_eq, z7, z8, z9, z10, z11, z12] at hb12
   obtain ⟨x, hx, hd, ht⟩ := get_lt (xs := l) (i := k) (by omega)
   refine pwp_skip ?_
   refine seq_norm (hK11 _ ?_); clear hK11 K11
   refine pwp_seq_block fun K13 hK13 => ?_
   refine pwp_seq_plain rfl fun K14 hK14 => ?_
   refine p_step rfl (e_move (v := .lit _ _ _) rfl) trivial ?_
   refine p_step rfl (e_move (v := .sc _) rfl) trivial ?_
   refine p_step rfl (e_ixa rfl rfl (by kernel_rfl) (by kernel_rfl) (by simp only [List.length_map]; omega)) trivial ?_
   refine p_step rfl (e_load (v := .sc _) rfl (by kernel_rfl) (by kernel_rfl) (by kernel_rfl) (by simp only [List.length_map]; omega) (by decide) ((cell_map hx _).trans rfl)) trivial ?_
   refine p_step rfl (e_ne rfl rfl) trivial ?_
   refine p_end (hK14 _ ?_); clear hK14 K14
   refine pwp_cond rfl (fun hb15 => ?_) (fun hb15 => ?_)
   ·have hb15R := hb15; try simp only [z1, z2, z3, z4, z5, z6, ne_eq, z7, z8, z9, z10, z11, z12] at hb15
    refine pwp_plain rfl fun K16 hK16 => ?_
    refine p_step rfl (e_move (v := _) rfl) trivial ?_
    refine p_step rfl (e_move (v := .lit _ _ _) rfl) trivial ?_
    refine p_step rfl (e_move (v := .sc _) rfl) trivial ?_
    refine p_step rfl (e_ixa rfl rfl (by kernel_rfl) (by kernel_rfl) (by simp only [List.length_map]; omega)) trivial ?_
    refine p_step rfl (e_load (v := .sc _) rfl (by kernel_rfl) (by kernel_rfl) (by kernel_rfl) (by simp only [List.length_map]; omega) (by decide) ((cell_map hx _).trans rfl)) trivial ?_
    refine p_new rfl (e_bslice (rows := [ci x]) (zs := [.int 0]) (sz := 1) (by kernel_rfl) (by kernel_rfl) rfl (by kernel_rfl) (by decide) rfl rfl (by exact ⟨by decide, rfl, rfl, trivial⟩) rfl) trivial ?_
    refine p_app rfl rfl rfl (hihj9_0.keep fun _ => (hset_ne (key_ne rfl)).trans (rfl)) (src_ref (hset_self _ _ _) rfl) (by kernel_rfl) (by simp only [List.length_append, List.length_map, List.length_nil, List.length_cons]; omega) fun v17 h18 c19 hs20 hf21 => ?_
    have ho22 := (hf21 (21, _) (key_ne rfl) (fun _ _ => key_ne rfl)).trans (hset_self _ _ _)
    refine p_step rfl (e_assign (v := _) rfl) trivial ?_
    refine p_end (hK16 _ ?_); clear hK16 K16
    refine block_norm ?_
    refine seq_norm (hK13 _ ?_); clear hK13 K13
    refine pwp_plain rfl fun K23 hK23 => ?_
    refine p_step rfl (e_move (v := .sc _) rfl) trivial ?_
    refine p_step rfl (e_add rfl rfl (by omega)) trivial ?_
    refine p_step rfl (e_assign (v := .sc _) rfl) trivial ?_
    refine p_end (hK23 _ ?_); clear hK23 K23
    exact loop_again ((k + 1, (acc ++ [x]), v17)) (by show _ < _; simp only; omega) ⟨rfl, trivial⟩ ⟨rfl, rfl, trivial⟩ (by exact ⟨by show _ + 1 ≤ _; omega, by first | exact fil_in' hx hinv (decide_eq_true (by assumption)) | exact fil_out' hx hinv (decide_eq_false (by simpa using (by assumption))), by show List.length _ ≤ _ + 1; first | omega | (simp only [List.length_append, List.length_cons, List.length_nil]; omega), (SliceAt.to hs20 (by simp [ci]))⟩)
   ·have hb15R := hb15; try simp only [z1, z2, z3, z4, z5, z6, ne_eq, z7, z8, z9, z10, z11, z12] at hb15
    refine pwp_skip ?_
    refine block_norm ?_
    refine seq_norm (hK13 _ ?_); clear hK13 K13
    refine pwp_plain rfl fun K24 hK24 => ?_
    refine p_step rfl (e_move (v := .sc _) rfl) trivial ?_
    refine p_step rfl (e_add rfl rfl (by omega)) trivial ?_
    refine p_step rfl (e_assign (v := .sc _) rfl) trivial ?_
    refine p_end (hK24 _ ?_); clear hK24 K24
    exact loop_again ((k + 1, acc, v)) (by show _ < _; simp only; omega) ⟨rfl, trivial⟩ ⟨rfl, rfl, trivial⟩ (by exact ⟨by show _ + 1 ≤ _; omega, by first | exact fil_in' hx hinv (decide_eq_true (by assumption)) | exact fil_out' hx hinv (decide_eq_false (by simpa using (by assumption))), by show List.length _ ≤ _ + 1; first | omega | (simp only [List.length_append, List.length_cons, List.length_nil]; omega), (SliceAt.to hihj9_0 (by simp [ci]))⟩)
  ·have hb12R := hb12; try simp only [z1, z2, z3, z4, z5, z6, ne_eq, z7, z8, z9, z10, z11, z12] at hb12
   obtain rfl : k = l.length := by omega
   rw [List.take_length] at hinv
   refine pwp_exit ?_
   refine exit_seq ?_
   clear hK11 K11
   refine exit_loop ?_
   refine exit_here ?_
   refine seq_norm (hK4 _ ?_); clear hK4 K4
   refine pwp_seq_gops rfl fun K25 hK25 => ?_
   refine g_begin ?_
   refine g_step rfl rfl rfl rfl (e_move (v := _) rfl) trivial ?_
   refine g_step rfl rfl rfl rfl (SliceAt.len hihj9_0 rfl (by kernel_rfl)) trivial ?_
   refine g_step rfl rfl rfl rfl (e_move (v := .lit _ _ _) rfl) trivial ?_
   refine g_step rfl rfl rfl rfl (e_len rfl (by kernel_rfl)) trivial ?_
   refine g_step rfl rfl rfl rfl (e_lt rfl rfl) trivial ?_
   refine g_step rfl rfl rfl rfl (e_move (v := .sc _) rfl) trivial ?_
   refine g_cases (fun hb26 => ?_) (fun hb26 => ?_)
   ·have hb26R := hb26; try simp only [z1, z2, z3, z4, z5, z6, ne_eq, z7, z8, z9, z10, z11, z12] at hb26
    refine g_step rfl rfl rfl rfl (e_move (v := _) rfl) trivial ?_
    refine g_call rfl rfl rfl rfl (.cons (SliceAt.inn (rows' := (acc).map ci) hihj9_0 (by simp) (by first | exact pure_map ci_pure | (simp only [← List.map_append, List.nil_append]; exact pure_map ci_pure))) .nil) (TagR _) ?_
    refine g_step rfl rfl rfl rfl (e_gt rfl rfl) trivial ?_
    refine g_step rfl rfl rfl rfl (e_pickT (v := .sc _) rfl rfl) trivial ?_
    refine g_step rfl rfl rfl rfl (e_assign (v := .sc _) rfl) trivial ?_
    refine g_end (ds := [29, 30, 31]) rfl rfl (hK25 _ ?_); clear hK25 K25
    refine pwp_ret ?_
    refine end1 (v := .sc _) rfl ?_
    first
      | exact out_b (dueR_no hinv (by omega))
      | exact out_b (dueR_yes hinv (by assumption))
   ·have hb26R := hb26; try simp only [z1, z2, z3, z4, z5, z6, ne_eq, z7, z8, z9, z10, z11, z12] at hb26
    refine g_skip rfl rfl rfl ?_
    refine g_nocall rfl rfl rfl ?_
    refine g_skip rfl rfl rfl ?_
    refine g_step rfl rfl rfl rfl (e_pickF (v := .sc _) rfl rfl) trivial ?_
    refine g_step rfl rfl rfl rfl (e_assign (v := .sc _) rfl) trivial ?_
    refine g_end (ds := [29, 30, 31]) rfl rfl (hK25 _ ?_); clear hK25 K25
    refine pwp_ret ?_
    refine end1 (v := .sc _) rfl ?_
    first
      | exact out_b (dueR_no hinv (by omega))
      | exact out_b (dueR_yes hinv (by assumption))

/-! ### Taking out of a list what is not wanted -/
def ixK (K : ByteArray → Bool) : Nat → List ByteArray → Int
  | _, [] => -1
  | k, a :: l => if K a = false then (k : Int) else ixK K (k + 1) l
theorem ixK_hit {K : ByteArray → Bool} {S : Int} {x : ByteArray} {k : Nat} {l : List ByteArray} (h : S = if K x = false then (k : Int) else ixK K (k + 1) l) (hp : K x = false) : (k : Int) = S := by rw [h, if_pos hp]
theorem ixK_miss {K : ByteArray → Bool} {S : Int} {x : ByteArray} {k : Nat} {l : List ByteArray} (h : S = if K x = false then (k : Int) else ixK K (k + 1) l) (hp : K x = true) : S = ixK K (k + 1) l := by rw [h, if_neg (by rw [hp]; decide)]
theorem ixK_spec (K : ByteArray → Bool) : ∀ (l : List ByteArray) (k : Nat), (ixK K k l = -1 ∧ ∀ x ∈ l, K x = true) ∨ ∃ (i : Nat) (y : ByteArray), ixK K k l = ((k + i : Nat) : Int) ∧ l[i]? = some y ∧ K y = false ∧ ∀ x ∈ l.take i, K x = true
  | [], _ => .inl ⟨rfl, by simp⟩
  | a :: l, k => by
    unfold ixK
    cases ha : K a with
    | false => exact .inr ⟨0, a, by simp, rfl, ha, by simp⟩
    | true =>
      simp only [Bool.true_eq_false, if_false]
      rcases ixK_spec K l (k + 1) with ⟨h1, h2⟩ | ⟨i, y, h1, h2, h3, h4⟩
      · refine .inl ⟨h1, fun x hx => ?_⟩
        rcases List.mem_cons.1 hx with rfl | hx
        · exact ha
        · exact h2 x hx
      · refine .inr ⟨i + 1, y, by rw [h1]; congr 1; omega, by simpa using h2, h3, fun x hx => ?_⟩
        rw [List.take_succ_cons] at hx
        rcases List.mem_cons.1 hx with rfl | hx
        · exact ha
        · exact h4 x hx
theorem ixK_none {K : ByteArray → Bool} {l : List ByteArray} (h : ixK K 0 l = -1) : l = l.filter K := by
  rcases ixK_spec K l 0 with ⟨_, h2⟩ | ⟨i, y, h1, _⟩
  · exact (List.filter_eq_self.2 h2).symm
  · omega
theorem ixK_nat {K : ByteArray → Bool} {l : List ByteArray} (h : ¬ ixK K 0 l = -1) : ∃ i : Nat, ixK K 0 l = (i : Int) ∧ i < l.length ∧ l.take i = (l.take (i + 1)).filter K := by
  rcases ixK_spec K l 0 with ⟨h1, _⟩ | ⟨i, y, h1, h2, h3, h4⟩
  · exact absurd h1 h
  · refine ⟨i, by rw [h1]; simp, (List.getElem?_eq_some_iff.1 h2).1, ?_⟩
    rw [List.take_add_one, h2, List.filter_append, List.filter_eq_self.2 h4]
    simp [h3]
theorem ixK_bnd {K : ByteArray → Bool} {l : List ByteArray} : -1 ≤ ixK K 0 l ∧ ixK K 0 l ≤ l.length := by
  rcases ixK_spec K l 0 with ⟨h1, _⟩ | ⟨i, y, h1, h2, _⟩
  · rw [h1]; omega
  · have := (List.getElem?_eq_some_iff.1 h2).1
    rw [h1]; omega
section
variable {K : ByteArray → Bool} {l m : List ByteArray} {i j : Nat} {x : ByteArray}
theorem del_get (hd : m.drop j = l.drop j) (hx : m[j]? = some x) : l[j]? = some x := by
  have h1 := congrArg (fun q => q[0]?) hd
  simp only [List.getElem?_drop, Nat.add_zero] at h1
  rw [← h1]; exact hx
theorem del_tail (hd : m.drop j = l.drop j) : m.drop (j + 1) = l.drop (j + 1) := by
  have h1 := congrArg (fun q => q.drop 1) hd
  simp only [List.drop_drop] at h1
  exact h1
theorem del_keep (hlen : m.length = l.length) (hij : i < j ∧ j ≤ l.length) (ht : m.take i = (l.take j).filter K) (hd : m.drop j = l.drop j) (hx : m[j]? = some x) (hk : K x = true) :
    (m.set i x).take (i + 1) = (l.take (j + 1)).filter K ∧ (m.set i x).drop (j + 1) = l.drop (j + 1) := by
  have hjl := (List.getElem?_eq_some_iff.1 hx).1
  constructor
  · rw [List.take_add_one, List.take_add_one, del_get hd hx, List.filter_append, ← ht, List.take_set, List.set_eq_of_length_le (by rw [List.length_take]; omega), List.getElem?_set_self (by omega)]
    simp [hk]
  · rw [List.drop_set_of_lt (by omega)]; exact del_tail hd
theorem del_not (ht : m.take i = (l.take j).filter K) (hd : m.drop j = l.drop j) (hx : m[j]? = some x) (hk : K x = false) :
    m.take i = (l.take (j + 1)).filter K ∧ m.drop (j + 1) = l.drop (j + 1) := by
  refine ⟨?_, del_tail hd⟩
  rw [List.take_add_one, del_get hd hx, List.filter_append, ← ht]
  simp [hk]
theorem cut_at {h : Heap} {g : Nat} {L : List ByteArray} (hk : h (18, g) = some (.rows 1 ((m.map cb).take i))) (he : m.take i = L) (hi : i ≤ m.length) : SliceAt h 18 (.ref (18, g) 1 0 i) 1 (L.map cb) := by
  subst he
  have h1 : (m.map cb).take i = (m.take i).map cb := by rw [List.map_take]
  rw [h1] at hk
  have h2 : ((m.take i).map cb).length = i := by rw [List.length_map, List.length_take]; omega
  exact .inr ⟨g, by rw [h2], hk⟩
end
abbrev thK (aw : List Int → Bool) (evs : List Ev) (day : Int) : ByteArray → Bool := fun p => aw (reaE (stateE p day evs) day)
/-- What is told of the platforms of a day. -/
def thoE (evs : List Ev) (day : Int) : Int := if recE evs ≠ 0 then recE evs else if ¬ (0 ≤ day ∧ day ≤ 20000) then 2 else 0
def thoT (aw : List Int → Bool) (evs : List Ev) (day : Int) : List ByteArray := if thoE evs day = 0 then (platE evs).filter (thK aw evs day) else []
theorem tho_1 {aw : List Int → Bool} {evs : List Ev} {day : Int} (h : ¬ recE evs = 0) : thoE evs day = recE evs ∧ thoT aw evs day = [] := by
  have h1 : thoE evs day = recE evs := by rw [thoE, if_pos h]
  exact ⟨h1, by rw [thoT, h1, if_neg h]⟩
theorem tho_2 {aw : List Int → Bool} {evs : List Ev} {day : Int} (h : recE evs = 0) (h2 : ¬ (0 ≤ day ∧ day ≤ 20000)) : thoE evs day = 2 ∧ thoT aw evs day = [] := by
  have h1 : thoE evs day = 2 := by rw [thoE, if_neg (by simpa using h), if_pos h2]
  exact ⟨h1, by rw [thoT, h1]; rfl⟩
theorem tho_3 {aw : List Int → Bool} {evs : List Ev} {day : Int} (h : recE evs = 0) (h2 : 0 ≤ day ∧ day ≤ 20000) : thoE evs day = 0 ∧ thoT aw evs day = (platE evs).filter (thK aw evs day) := by
  have h1 : thoE evs day = 0 := by rw [thoE, if_neg (by simpa using h), if_neg (by simpa using h2)]
  exact ⟨h1, by rw [thoT, h1, if_pos rfl]⟩
theorem tho_out0 {h : Heap} {e : Int} {aw : List Int → Bool} {evs : List Ev} {day : Int} (q : thoE evs day = e ∧ thoT aw evs day = []) : Out h (.tup [.nil, .int e]) (.tup [.lit false 1 ((thoT aw evs day).map cb), .int (thoE evs day)]) := by
  rw [q.1, q.2]; exact out_2 out_nil (out_i rfl)
theorem tho_out {h : Heap} {v : PV} {aw : List Int → Bool} {evs : List Ev} {day : Int} (q : thoE evs day = 0 ∧ thoT aw evs day = (platE evs).filter (thK aw evs day)) (hs : SliceAt h 18 v 1 (((platE evs).filter (thK aw evs day)).map cb)) :
    Out h (.tup [v, .int 0]) (.tup [.lit false 1 ((thoT aw evs day).map cb), .int (thoE evs day)]) := by
  rw [q.1, q.2]; exact out_2 (out_slice hs rfl (fun _ => rfl) cb_clean) (out_i rfl)
theorem tup_tx (l : List ByteArray) (b : Int) : Pure (.tup [.lit false 1 (l.map cb), .int b]) := .tup _ fun p hp => by
  simp at hp
  rcases hp with rfl | rfl
  · exact .lit _ _ _ fun row hr => pure_map cb_pure row hr
  · exact .sc _

theorem fr114 : (inFrame Try.f114.ntmps (Try.f114.body.getD .skip) && Try.f114.results.toList.all (resScope Try.f114.ntmps)) = true := by kernel_rfl
theorem those1 (fv : FuncId) (aw : List Int → Bool) (hfv : ∀ l : List Int, l.length ≤ 5 → PCalls Try.prog fv [.lit true 1 (l.map ci)] (.bool (aw l))) (p : ByteArray) (evs : List Ev) (day : Int) (hl : evs.length ≤ 405) (hev : ∀ e ∈ evs, 0 ≤ e.day ∧ e.day ≤ 20000) (hday : 0 ≤ day ∧ day ≤ 20000) : PCalls Try.prog 114 [.str p, .lptr true 1 [[.func (.func fv) [] []]] 0 0, .lptr true 1 [[.lit true 6 (evs.map Ev.enc)]] 0 0, .lptr true 1 [[.int day]] 0 0] (.bool (!(thK aw evs day p))) := by
  refine PCalls.of_code Try.func114 rfl rfl (by kernel_rfl) mixed fr114 (by show _ ≤ 13; simp) (.sc _) ?_
  refine pwp_seq_plain rfl fun K1 hK1 => ?_
  refine p_step rfl (e_assign (v := .sc _) rfl) trivial ?_
  refine p_end (hK1 _ ?_); clear hK1 K1
  refine pwp_seq_gops rfl fun K2 hK2 => ?_
  refine g_begin ?_
  refine g_step rfl rfl rfl rfl (e_load (v := .func _ _ _) rfl (by kernel_rfl) (by kernel_rfl) (by kernel_rfl) (by exact Nat.zero_lt_one) (by decide) rfl) trivial ?_
  refine g_step rfl rfl rfl rfl (e_load (v := .lit _ _ _) rfl (by kernel_rfl) (by kernel_rfl) (by kernel_rfl) (by exact Nat.zero_lt_one) (by decide) rfl) trivial ?_
  refine g_step rfl rfl rfl rfl (e_move (v := .sc _) rfl) trivial ?_
  refine g_step rfl rfl rfl rfl (e_load (v := .sc _) rfl (by kernel_rfl) (by kernel_rfl) (by kernel_rfl) (by exact Nat.zero_lt_one) (by decide) rfl) trivial ?_
  refine g_call rfl rfl rfl rfl (.cons inn_lit (.cons inn_sc (.cons inn_sc .nil))) (reasonsOf _ _ _ hl hev hday) ?_
  refine g_call rfl rfl rfl rfl (.cons inn_lit .nil) (hfv _ (rea5 _ _)) ?_
  refine g_step rfl rfl rfl rfl (e_not rfl) trivial ?_
  refine g_step rfl rfl rfl rfl (e_assign (v := .sc _) rfl) trivial ?_
  refine g_end (ds := []) (by kernel_rfl) rfl (hK2 _ ?_); clear hK2 K2
  refine pwp_ret ?_
  refine end1 (v := .sc _) rfl ?_
  exact out_b rfl

theorem fr125 : (inFrame Try.f125.ntmps (Try.f125.body.getD .skip) && Try.f125.results.toList.all (resScope Try.f125.ntmps)) = true := by kernel_rfl
theorem IndexFS (fv : FuncId) (aw : List Int → Bool) (hfv : ∀ l : List Int, l.length ≤ 5 → PCalls Try.prog fv [.lit true 1 (l.map ci)] (.bool (aw l))) (l : List ByteArray) (evs : List Ev) (day : Int) (hl : evs.length ≤ 405) (hev : ∀ e ∈ evs, 0 ≤ e.day ∧ e.day ≤ 20000) (hday : 0 ≤ day ∧ day ≤ 20000) (hll : l.length ≤ 1000000) : PCalls Try.prog 125 [.lit true 1 (l.map cb), .func (.func 114) [] [.lptr true 1 [[.func (.func fv) [] []]] 0 0, .lptr true 1 [[.lit true 6 (evs.map Ev.enc)]] 0 0, .lptr true 1 [[.int day]] 0 0]] (.int (ixK (thK aw evs day) 0 l)) := by
  refine PCalls.of_code Try.func125 rfl rfl (by kernel_rfl) mixed fr125 (by show _ ≤ 19; simp) (.sc _) ?_
  refine pwp_seq_plain rfl fun K1 hK1 => ?_
  refine p_step rfl (e_assign (v := .sc _) rfl) trivial ?_
  refine p_end (hK1 _ ?_); clear hK1 K1
  refine pwp_seq_seq ?_
  refine pwp_seq_plain rfl fun K2 hK2 => ?_
  refine p_step rfl (e_move (v := .lit _ _ _) rfl) trivial ?_
  refine p_step rfl (e_len rfl (by kernel_rfl)) trivial ?_
  refine p_step rfl (e_move (v := .sc _) rfl) trivial ?_
  refine p_end (hK2 _ ?_); clear hK2 K2
  refine pwp_seq_block fun K3 hK3 => ?_
  refine pwp_loopR (α := Nat) [0, 1, 7] (fun (k : Nat) => [(8, .int (k))]) (fun (k : Nat) (h : Heap) (_ : Nat → Nat) => ((k) ≤ l.length) ∧ (ixK (thK aw evs day) 0 l = ixK (thK aw evs day) (k) (l.drop (k)))) (fun (k : Nat) => l.length - (k)) (0) (by exact ⟨rfl, trivial⟩) (by exact ⟨by exact Nat.zero_le _, by exact rfl⟩) fun k r4 h5 c6 hj7 => ?_
  obtain ⟨hk, hinv⟩ := hj7
  try dsimp only at hk
  try dsimp only at hinv
  show pwp _ _ (loopQ _ _ _) ⟨sets (mix _ _ _) [(8, .int k)], _, _⟩
  refine pwp_seq_plain rfl fun K8 hK8 => ?_
  refine p_step rfl (e_lt rfl rfl) trivial ?_
  refine p_end (hK8 _ ?_); clear hK8 K8
  refine pwp_seq_cond rfl fun K9 hK9 => ⟨fun hb10 => ?_, fun hb10 => ?_⟩
  ·have hb10R := hb10; try simp only [z1, z2, z3, z4, z5, z6, ne_eq, z7, z8, z9, z10, z11, z12] at hb10
   obtain ⟨x, hx, hd, ht⟩ := get_lt (xs := l) (i := k) (by omega)
   rw [hd] at hinv; simp only [ixK] at hinv
   refine pwp_skip ?_
   refine seq_norm (hK9 _ ?_); clear hK9 K9
   refine pwp_seq_block fun K11 hK11 => ?_
   refine pwp_seq_plain rfl fun K12 hK12 => ?_
   refine p_step rfl (e_move (v := .sc _) rfl) trivial ?_
   refine p_step rfl (e_assign (v := .sc _) rfl) trivial ?_
   refine p_end (hK12 _ ?_); clear hK12 K12
   refine pwp_seq_plain rfl fun K13 hK13 => ?_
   refine p_step rfl (e_move (v := .func _ _ _) rfl) trivial ?_
   refine p_step rfl (e_move (v := .lit _ _ _) rfl) trivial ?_
   refine p_step rfl (e_move (v := .sc _) rfl) trivial ?_
   refine p_step rfl (e_ixa rfl rfl (by kernel_rfl) (by kernel_rfl) (by simp only [List.length_map]; omega)) trivial ?_
   refine p_step rfl (e_load (v := .sc _) rfl (by kernel_rfl) (by kernel_rfl) (by kernel_rfl) (by simp only [List.length_map]; omega) (by decide) ((cell_map hx _).trans rfl)) trivial ?_
   refine p_call rfl (.cons inn_sc (.cons inn_lptr (.cons inn_lptr (.cons inn_lptr .nil)))) (those1 fv aw hfv _ _ _ hl hev hday) ?_
   refine p_end (hK13 _ ?_); clear hK13 K13
   refine pwp_cond rfl (fun hb14 => ?_) (fun hb14 => ?_)
   ·have hb14R := hb14; try simp only [z1, z2, z3, z4, z5, z6, ne_eq, z7, z8, z9, z10, z11, z12] at hb14
    refine pwp_seq_plain rfl fun K15 hK15 => ?_
    refine p_step rfl (e_move (v := .sc _) rfl) trivial ?_
    refine p_step rfl (e_assign (v := .sc _) rfl) trivial ?_
    refine p_end (hK15 _ ?_); clear hK15 K15
    refine pwp_ret ?_
    refine ret_block ?_
    refine ret_seq ?_
    refine ret_loop ?_
    refine ret_block ?_
    refine ret_seq ?_
    refine end1 (v := .sc _) rfl ?_
    first
      | exact out_i (ixK_hit (K := (thK aw evs day)) hinv (by assumption))
      | exact out_i hinv.symm
   ·have hb14R := hb14; try simp only [z1, z2, z3, z4, z5, z6, ne_eq, z7, z8, z9, z10, z11, z12] at hb14
    refine pwp_skip ?_
    refine block_norm ?_
    refine seq_norm (hK11 _ ?_); clear hK11 K11
    refine pwp_plain rfl fun K16 hK16 => ?_
    refine p_step rfl (e_add rfl rfl (by omega)) trivial ?_
    refine p_step rfl (e_move (v := .sc _) rfl) trivial ?_
    refine p_end (hK16 _ ?_); clear hK16 K16
    exact loop_again (k + 1) (by show _ < _; omega) ⟨rfl, rfl, rfl, trivial⟩ ⟨rfl, trivial⟩ (by exact ⟨by show _ + 1 ≤ _; omega, by exact ixK_miss (K := (thK aw evs day)) hinv (by assumption)⟩)
  ·have hb10R := hb10; try simp only [z1, z2, z3, z4, z5, z6, ne_eq, z7, z8, z9, z10, z11, z12] at hb10
   obtain rfl : k = l.length := by omega
   rw [List.drop_length] at hinv; simp only [ixK] at hinv
   refine pwp_exit ?_
   refine exit_seq ?_
   clear hK9 K9
   refine exit_loop ?_
   refine exit_here ?_
   refine seq_norm (hK3 _ ?_); clear hK3 K3
   refine pwp_seq_plain rfl fun K17 hK17 => ?_
   refine p_step rfl (e_assign (v := .sc _) rfl) trivial ?_
   refine p_end (hK17 _ ?_); clear hK17 K17
   refine pwp_ret ?_
   refine end1 (v := .sc _) rfl ?_
   first
     | exact out_i (ixK_hit (K := (thK aw evs day)) hinv (by assumption))
     | exact out_i hinv.symm

theorem frH113 : (inFrame Try.f113.ntmps (Try.f113.body.getD .skip) && Try.f113.results.toList.all (resScope Try.f113.ntmps)) = true := by kernel_rfl
theorem DeleteFS (fv : FuncId) (aw : List Int → Bool) (hfv : ∀ l : List Int, l.length ≤ 5 → PCalls Try.prog fv [.lit true 1 (l.map ci)] (.bool (aw l))) (l : List ByteArray) (evs : List Ev) (day : Int) (u : PV) (g3 g4 g5 : Nat) (h0 : Heap) (c0 : Nat → Nat) (hl : evs.length ≤ 405) (hev : ∀ e ∈ evs, 0 ≤ e.day ∧ e.day ≤ 20000) (hday : 0 ≤ day ∧ day ≤ 20000) (hll : l.length ≤ 1000000) (hs : SliceAt h0 18 u 1 (l.map cb)) (h5 : h0 (5, g5) = some (.rows 1 [[.func (.func fv) [] []]])) (h3 : h0 (3, g3) = some (.rows 1 [[.lit true 6 (evs.map Ev.enc)]])) (h4 : h0 (4, g4) = some (.rows 1 [[.int day]])) : HCallsR Try.prog 113 [u, .func (.func 114) [] [.ptr (5, g5) 1 0 0, .ptr (3, g3) 1 0 0, .ptr (4, g4) 1 0 0]] h0 c0 (fun v h _ => SliceAt h 18 v 1 ((l.filter (thK aw evs day)).map cb)) := by
  refine HCallsR.of_code Try.func113 rfl rfl (by kernel_rfl) mixed frH113 (by show _ ≤ 42; simp) ?_
  have hbd := ixK_bnd (K := (thK aw evs day)) (l := l)
  refine pwp_seq_plain rfl fun K1 hK1 => ?_
  refine p_step rfl (e_assign (v := .nil) rfl) trivial ?_
  refine p_end (hK1 _ ?_); clear hK1 K1
  refine pwp_seq_plain rfl fun K2 hK2 => ?_
  refine p_step rfl (e_move (v := _) rfl) trivial ?_
  refine p_step rfl (e_move (v := .func _ _ _) rfl) trivial ?_
  refine p_call rfl (.cons (SliceAt.inn (rows' := (l).map cb) hs (by simp) (by first | exact pure_map cb_pure | (simp only [← List.map_append, List.nil_append]; exact pure_map cb_pure))) (.cons (inn_clos3 (inn_ptr h5 (pure_one (.func _ _ _ (by simp) (by simp)))) (inn_ptr h3 (pure_one (ev_lit_pure _))) (inn_ptr h4 (pure_one (.sc _)))) .nil)) (IndexFS fv aw hfv _ evs day hl hev hday hll) ?_
  refine p_step rfl (e_assign (v := .sc _) rfl) trivial ?_
  refine p_end (hK2 _ ?_); clear hK2 K2
  refine pwp_seq_seq ?_
  refine pwp_seq_plain rfl fun K3 hK3 => ?_
  refine p_step rfl (e_move (v := .sc _) rfl) trivial ?_
  refine p_step rfl (e_eq rfl rfl) trivial ?_
  refine p_end (hK3 _ ?_); clear hK3 K3
  refine pwp_seq_cond rfl fun K4 hK4 => ⟨fun hb5 => ?_, fun hb5 => ?_⟩
  ·have hb5R := hb5; (try simp only [z1, z2, z3, z4, z5, z6, ne_eq, z7, z8, z9, z10, z11, z12] at hb5); (try (have hne : ¬ ixK (thK aw evs day) 0 l = -1 := hb5; obtain ⟨i0, hi0, hi1, hi2⟩ := ixK_nat hb5; rw [hi0]))
   refine pwp_seq_plain rfl fun K6 hK6 => ?_
   refine p_step rfl (e_move (v := _) rfl) trivial ?_
   refine p_step rfl (e_assign (v := _) rfl) trivial ?_
   refine p_end (hK6 _ ?_); clear hK6 K6
   refine pwp_ret ?_
   refine ret_seq ?_
   refine end1 (v := _) rfl ?_
   rw [← ixK_none (K := (thK aw evs day)) (by assumption)]
   exact hs
  ·have hb5R := hb5; (try simp only [z1, z2, z3, z4, z5, z6, ne_eq, z7, z8, z9, z10, z11, z12] at hb5); (try (have hne : ¬ ixK (thK aw evs day) 0 l = -1 := hb5; obtain ⟨i0, hi0, hi1, hi2⟩ := ixK_nat hb5; rw [hi0]))
   refine pwp_skip ?_
   refine seq_norm (hK4 _ ?_); clear hK4 K4
   refine pwp_seq_seq ?_
   obtain ⟨g7, ev9, hg8⟩ := SliceAt.isRef hs (by intro hq; rw [List.map_eq_nil_iff] at hq; subst hq; first | (simp at *; done) | (simp at *; omega))
   subst ev9
   refine pwp_seq_plain rfl fun K10 hK10 => ?_
   refine p_step rfl (e_move (v := .sc _) rfl) trivial ?_
   refine p_step rfl (e_add rfl rfl (by omega)) trivial ?_
   refine p_step rfl (e_assign (v := .sc _) rfl) trivial ?_
   refine p_end (hK10 _ ?_); clear hK10 K10
   refine pwp_seq_block fun K11 hK11 => ?_
   refine pwp_loopR (α := Nat × Nat × (List ByteArray) × PV) [0, 1] (fun (a12 : Nat × Nat × (List ByteArray) × PV) => [(5, .int (a12.1)), (6, .int (a12.2.1)), (7, (a12.2.2.2))]) (fun (a12 : Nat × Nat × (List ByteArray) × PV) (h : Heap) (_ : Nat → Nat) => ((a12.1) < (a12.2.1) ∧ (a12.2.1) ≤ l.length) ∧ ((a12.2.2.1).length = l.length) ∧ ((a12.2.2.1).take (a12.1) = (l.take (a12.2.1)).filter (thK aw evs day)) ∧ ((a12.2.2.1).drop (a12.2.1) = l.drop (a12.2.1)) ∧ (h (18, g7) = some (.rows 1 ((a12.2.2.1).map cb))) ∧ (h (5, g5) = some (.rows 1 [[.func (.func fv) [] []]])) ∧ (h (3, g3) = some (.rows 1 [[.lit true 6 (evs.map Ev.enc)]])) ∧ (h (4, g4) = some (.rows 1 [[.int day]]))) (fun (a12 : Nat × Nat × (List ByteArray) × PV) => l.length - (a12.2.1)) (i0, i0 + 1, l, _) (by exact ⟨rfl, rfl, rfl, trivial⟩) (by exact ⟨by exact (show i0 < i0 + 1 ∧ i0 + 1 ≤ l.length from ⟨by omega, by omega⟩), by exact rfl, by exact hi2, by exact rfl, hg8, h5, h3, h4⟩) fun a12 r13 h14 c15 hj16 => ?_
   obtain ⟨i, j, m, w⟩ := a12
   obtain ⟨hij, hlm, htk, hdr, hihj16_0, hihj16_1, hihj16_2, hihj16_3⟩ := hj16
   try dsimp only at hij
   try dsimp only at hlm
   try dsimp only at htk
   try dsimp only at hdr
   try dsimp only at hihj16_0
   try dsimp only at hihj16_1
   try dsimp only at hihj16_2
   try dsimp only at hihj16_3
   show pwp _ _ (loopQ _ _ _) ⟨sets (mix _ _ _) [(5, .int i), (6, .int j), (7, w)], _, _⟩
   refine pwp_seq_seq ?_
   refine pwp_seq_plain rfl fun K17 hK17 => ?_
   refine p_step rfl (e_move (v := .sc _) rfl) trivial ?_
   refine p_step rfl (e_move (v := .ref _ _ _ _) rfl) trivial ?_
   refine p_step rfl (e_lenR rfl (by kernel_rfl)) trivial ?_
   refine p_step rfl (e_lt rfl rfl) trivial ?_
   refine p_end (hK17 _ ?_); clear hK17 K17
   refine pwp_seq_cond rfl fun K18 hK18 => ⟨fun hb19 => ?_, fun hb19 => ?_⟩
   ·have hb19R := hb19; (try simp only [z1, z2, z3, z4, z5, z6, ne_eq, z7, z8, z9, z10, z11, z12] at hb19); (try (have hne : ¬ ixK (thK aw evs day) 0 l = -1 := hb19; obtain ⟨i0, hi0, hi1, hi2⟩ := ixK_nat hb19; rw [hi0]))
    obtain ⟨x, hx, hdx, htx⟩ := get_lt (xs := m) (i := j) (by omega)
    refine pwp_skip ?_
    refine seq_norm (hK18 _ ?_); clear hK18 K18
    refine pwp_seq_block fun K20 hK20 => ?_
    refine pwp_seq_plain rfl fun K21 hK21 => ?_
    refine p_step rfl (e_move (v := .ref _ _ _ _) rfl) trivial ?_
    refine p_step rfl (e_move (v := .sc _) rfl) trivial ?_
    refine p_step rfl (e_ixaR0 rfl rfl (by kernel_rfl) (by kernel_rfl) (by simp only [List.length_map]; omega)) trivial ?_
    refine p_step rfl (e_loadH (v := .sc _) rfl hihj16_0 (by kernel_rfl) (by kernel_rfl) (by kernel_rfl) (by simp only [List.length_map]; omega) (by decide) ((cell_map hx _).trans rfl)) trivial ?_
    refine p_step rfl (e_assign (v := .sc _) rfl) trivial ?_
    refine p_end (hK21 _ ?_); clear hK21 K21
    refine pwp_seq_plain rfl fun K22 hK22 => ?_
    refine p_step rfl (e_move (v := .func _ _ _) rfl) trivial ?_
    refine p_step rfl (e_move (v := .sc _) rfl) trivial ?_
    refine p_call rfl (.cons inn_sc (.cons (.base (inn_ptr hihj16_1 (pure_one (.func _ _ _ (by simp) (by simp))))) (.cons (.base (inn_ptr hihj16_2 (pure_one (ev_lit_pure _)))) (.cons (.base (inn_ptr hihj16_3 (pure_one (.sc _)))) .nil)))) (those1 fv aw hfv _ _ _ hl hev hday) ?_
    refine p_step rfl (e_not rfl) trivial ?_
    refine p_end (hK22 _ ?_); clear hK22 K22
    refine pwp_cond rfl (fun hb23 => ?_) (fun hb23 => ?_)
    ·have hb23R := hb23; (try simp only [z1, z2, z3, z4, z5, z6, ne_eq, z7, z8, z9, z10, z11, z12] at hb23); (try (have hne : ¬ ixK (thK aw evs day) 0 l = -1 := hb23; obtain ⟨i0, hi0, hi1, hi2⟩ := ixK_nat hb23; rw [hi0]))
     refine pwp_seq_plain rfl fun K24 hK24 => ?_
     refine p_step rfl (e_move (v := .ref _ _ _ _) rfl) trivial ?_
     refine p_step rfl (e_move (v := .sc _) rfl) trivial ?_
     refine p_step rfl (e_move (v := .sc _) rfl) trivial ?_
     refine p_step rfl (e_ixaR0 rfl rfl (by kernel_rfl) (by kernel_rfl) (by simp only [List.length_map]; omega)) trivial ?_
     refine p_store rfl (e_storeS (zs := m) (a := x) rfl hihj16_0 rfl (by omega) (by kernel_rfl) (by kernel_rfl)) trivial ?_
     refine p_end (hK24 _ ?_); clear hK24 K24
     refine pwp_plain rfl fun K25 hK25 => ?_
     refine p_step rfl (e_move (v := .sc _) rfl) trivial ?_
     refine p_step rfl (e_add rfl rfl (by omega)) trivial ?_
     refine p_step rfl (e_assign (v := .sc _) rfl) trivial ?_
     refine p_end (hK25 _ ?_); clear hK25 K25
     refine block_norm ?_
     refine seq_norm (hK20 _ ?_); clear hK20 K20
     refine pwp_plain rfl fun K26 hK26 => ?_
     refine p_step rfl (e_move (v := .sc _) rfl) trivial ?_
     refine p_step rfl (e_add rfl rfl (by omega)) trivial ?_
     refine p_step rfl (e_assign (v := .sc _) rfl) trivial ?_
     refine p_end (hK26 _ ?_); clear hK26 K26
     exact loop_again ((i + 1, j + 1, ((m).set ((i : Int)).toNat x), _)) (by show _ < _; simp only; omega) ⟨rfl, rfl, trivial⟩ ⟨rfl, rfl, rfl, trivial⟩ (by exact ⟨by show _ < _ + 1 ∧ _ + 1 ≤ _; omega, by first | exact hlm | (show (List.set _ _ _).length = _; rw [List.length_set]; exact hlm), by first | exact (del_keep (K := (thK aw evs day)) hlm hij htk hdr hx (by assumption)).1 | exact (del_not (K := (thK aw evs day)) htk hdr hx (by assumption)).1, by first | exact (del_keep (K := (thK aw evs day)) hlm hij htk hdr hx (by assumption)).2 | exact (del_not (K := (thK aw evs day)) htk hdr hx (by assumption)).2, (hset_self _ _ _), ((hset_ne (key_ne rfl)).trans hihj16_1), ((hset_ne (key_ne rfl)).trans hihj16_2), ((hset_ne (key_ne rfl)).trans hihj16_3)⟩)
    ·have hb23R := hb23; (try simp only [z1, z2, z3, z4, z5, z6, ne_eq, z7, z8, z9, z10, z11, z12] at hb23); (try (have hne : ¬ ixK (thK aw evs day) 0 l = -1 := hb23; obtain ⟨i0, hi0, hi1, hi2⟩ := ixK_nat hb23; rw [hi0]))
     refine pwp_skip ?_
     refine block_norm ?_
     refine seq_norm (hK20 _ ?_); clear hK20 K20
     refine pwp_plain rfl fun K27 hK27 => ?_
     refine p_step rfl (e_move (v := .sc _) rfl) trivial ?_
     refine p_step rfl (e_add rfl rfl (by omega)) trivial ?_
     refine p_step rfl (e_assign (v := .sc _) rfl) trivial ?_
     refine p_end (hK27 _ ?_); clear hK27 K27
     exact loop_again ((i, j + 1, m, _)) (by show _ < _; simp only; omega) ⟨rfl, rfl, trivial⟩ ⟨rfl, rfl, rfl, trivial⟩ (by exact ⟨by show _ < _ + 1 ∧ _ + 1 ≤ _; omega, by first | exact hlm | (show (List.set _ _ _).length = _; rw [List.length_set]; exact hlm), by first | exact (del_keep (K := (thK aw evs day)) hlm hij htk hdr hx (by assumption)).1 | exact (del_not (K := (thK aw evs day)) htk hdr hx (by assumption)).1, by first | exact (del_keep (K := (thK aw evs day)) hlm hij htk hdr hx (by assumption)).2 | exact (del_not (K := (thK aw evs day)) htk hdr hx (by assumption)).2, hihj16_0, hihj16_1, hihj16_2, hihj16_3⟩)
   ·have hb19R := hb19; (try simp only [z1, z2, z3, z4, z5, z6, ne_eq, z7, z8, z9, z10, z11, z12] at hb19); (try (have hne : ¬ ixK (thK aw evs day) 0 l = -1 := hb19; obtain ⟨i0, hi0, hi1, hi2⟩ := ixK_nat hb19; rw [hi0]))
    obtain rfl : j = l.length := by omega
    rw [List.take_length] at htk
    refine pwp_exit ?_
    refine exit_seq ?_
    clear hK18 K18
    refine exit_loop ?_
    refine exit_here ?_
    refine seq_norm (hK11 _ ?_); clear hK11 K11
    refine pwp_seq_plain rfl fun K28 hK28 => ?_
    refine p_step rfl (e_move (v := .ref _ _ _ _) rfl) trivial ?_
    refine p_step rfl (e_move (v := .sc _) rfl) trivial ?_
    refine p_step rfl (e_cutL rfl rfl (by simp only [List.length_map]; omega) (by kernel_rfl) (by kernel_rfl)) trivial ?_
    refine p_store rfl (e_clear (z := [.str ByteArray.empty]) rfl rfl hihj16_0 (by kernel_rfl) (by kernel_rfl) (by kernel_rfl) (by decide) rfl (by simp only [List.length_map]; omega)) trivial ?_
    refine p_end (hK28 _ ?_); clear hK28 K28
    refine pwp_seq_plain rfl fun K29 hK29 => ?_
    refine p_step rfl (e_move (v := .ref _ _ _ _) rfl) trivial ?_
    refine p_step rfl (e_move (v := .sc _) rfl) trivial ?_
    refine p_step rfl (e_cutR rfl rfl (by simp only [List.length_map]; omega) (by kernel_rfl) (by kernel_rfl)) trivial ?_
    refine p_step rfl (e_assign (v := .ref _ _ _ _) rfl) trivial ?_
    refine p_end (hK29 _ ?_); clear hK29 K29
    refine pwp_ret ?_
    refine end1 (v := .ref _ _ _ _) rfl ?_
    exact cut_at (hset_self _ _ _) htk (by omega)

theorem fr95 : (inFrame Try.f95.ntmps (Try.f95.body.getD .skip) && Try.f95.results.toList.all (resScope Try.f95.ntmps)) = true := by kernel_rfl
theorem those (fv : FuncId) (aw : List Int → Bool) (hfv : ∀ l : List Int, l.length ≤ 5 → PCalls Try.prog fv [.lit true 1 (l.map ci)] (.bool (aw l))) (evs : List Ev) (day : Int) (hl : evs.length ≤ 405) : PCalls Try.prog 95 [.lit true 6 (evs.map Ev.enc), .int day, .func (.func fv) [] []] (.tup [.lit false 1 ((thoT aw evs day).map cb), .int (thoE evs day)]) := by
  refine PCalls.of_code Try.func95 rfl rfl (by kernel_rfl) mixed fr95 (by show _ ≤ 21; simp) (tup_tx _ _) ?_
  refine pwp_seq_plain rfl fun K1 hK1 => ?_
  refine p_new rfl (e_box1 rfl rfl) ⟨rfl, by decide⟩ ?_
  refine p_new rfl (e_box1 rfl rfl) ⟨rfl, by decide⟩ ?_
  refine p_new rfl (e_box1 rfl rfl) ⟨rfl, by decide⟩ ?_
  refine p_step rfl (e_assign (v := .nil) rfl) trivial ?_
  refine p_step rfl (e_assign (v := .sc _) rfl) trivial ?_
  refine p_end (hK1 _ ?_); clear hK1 K1
  refine pwp_seq_seq ?_
  refine pwp_seq_plain rfl fun K2 hK2 => ?_
  refine p_step rfl (e_loadH (v := .lit _ _ _) rfl ((hset_ne (key_ne rfl)).trans ((hset_ne (key_ne rfl)).trans (hset_self _ _ _))) (by kernel_rfl) (by kernel_rfl) (by kernel_rfl) (by exact Nat.zero_lt_one) (by decide) rfl) trivial ?_
  refine p_call rfl (.cons inn_lit .nil) (CheckRecord _ hl) ?_
  refine p_step rfl (e_assign (v := .sc _) rfl) trivial ?_
  refine p_end (hK2 _ ?_); clear hK2 K2
  refine pwp_seq_seq ?_
  refine pwp_seq_plain rfl fun K3 hK3 => ?_
  refine p_step rfl (e_move (v := .sc _) rfl) trivial ?_
  refine p_step rfl (e_ne rfl rfl) trivial ?_
  refine p_end (hK3 _ ?_); clear hK3 K3
  refine pwp_seq_cond rfl fun K4 hK4 => ⟨fun hb5 => ?_, fun hb5 => ?_⟩
  ·have hb5R := hb5; (try simp only [z1, z2, z3, z4, z5, z6, ne_eq, z7, z8, z9, z10, z11, z12] at hb5); (try (have hrec : recE evs = 0 := hb5))
   refine pwp_seq_plain rfl fun K6 hK6 => ?_
   refine p_step rfl (e_move (v := .sc _) rfl) trivial ?_
   refine p_step rfl (e_assign (v := .nil) rfl) trivial ?_
   refine p_step rfl (e_assign (v := .sc _) rfl) trivial ?_
   refine p_end (hK6 _ ?_); clear hK6 K6
   refine pwp_ret ?_
   refine ret_seq ?_
   refine end2 (v := .nil) (w := .sc _) rfl rfl ?_
   first
     | exact tho_out0 (tho_1 (by assumption))
     | exact tho_out0 (tho_2 hrec (by assumption))
     | exact tho_out0 (tho_2 hrec (by omega))
     | exact tho_out (tho_3 hrec (by omega)) (by assumption)
  ·have hb5R := hb5; (try simp only [z1, z2, z3, z4, z5, z6, ne_eq, z7, z8, z9, z10, z11, z12] at hb5); (try (have hrec : recE evs = 0 := hb5))
   refine pwp_skip ?_
   refine seq_norm (hK4 _ ?_); clear hK4 K4
   refine pwp_seq_seq ?_
   refine pwp_seq_plain rfl fun K7 hK7 => ?_
   refine p_step rfl (e_loadH (v := .sc _) rfl ((hset_ne (key_ne rfl)).trans (hset_self _ _ _)) (by kernel_rfl) (by kernel_rfl) (by kernel_rfl) (by exact Nat.zero_lt_one) (by decide) rfl) trivial ?_
   refine p_call rfl (.cons inn_sc .nil) (isDay _) ?_
   refine p_step rfl (e_not rfl) trivial ?_
   refine p_end (hK7 _ ?_); clear hK7 K7
   refine pwp_seq_cond rfl fun K8 hK8 => ⟨fun hb9 => ?_, fun hb9 => ?_⟩
   ·have hb9R := hb9; (try simp only [z1, z2, z3, z4, z5, z6, ne_eq, z7, z8, z9, z10, z11, z12] at hb9); (try (have hrec : recE evs = 0 := hb9))
    refine pwp_seq_plain rfl fun K10 hK10 => ?_
    refine p_step rfl (e_assign (v := .nil) rfl) trivial ?_
    refine p_step rfl (e_assign (v := .sc _) rfl) trivial ?_
    refine p_end (hK10 _ ?_); clear hK10 K10
    refine pwp_ret ?_
    refine ret_seq ?_
    refine end2 (v := .nil) (w := .sc _) rfl rfl ?_
    first
      | exact tho_out0 (tho_1 (by assumption))
      | exact tho_out0 (tho_2 hrec (by assumption))
      | exact tho_out0 (tho_2 hrec (by omega))
      | exact tho_out (tho_3 hrec (by omega)) (by assumption)
   ·have hb9R := hb9; (try simp only [z1, z2, z3, z4, z5, z6, ne_eq, z7, z8, z9, z10, z11, z12] at hb9); (try (have hrec : recE evs = 0 := hb9))
    refine pwp_skip ?_
    refine seq_norm (hK8 _ ?_); clear hK8 K8
    refine pwp_seq_plain rfl fun K11 hK11 => ?_
    refine p_step rfl (e_loadH (v := .lit _ _ _) rfl ((hset_ne (key_ne rfl)).trans ((hset_ne (key_ne rfl)).trans (hset_self _ _ _))) (by kernel_rfl) (by kernel_rfl) (by kernel_rfl) (by exact Nat.zero_lt_one) (by decide) rfl) trivial ?_
    refine p_hcall rfl (platformsO evs _ _ hl (rec_ok hrec).size) fun v12 h13 c14 hR15 => ?_
    obtain ⟨hs16, hf17⟩ := hR15
    have ho18 := (hf17 3 _ rfl rfl rfl (fun _ => by decide)).trans ((hset_ne (key_ne rfl)).trans ((hset_ne (key_ne rfl)).trans (hset_self _ _ _)))
    have ho19 := (hf17 4 _ rfl rfl rfl (fun _ => by decide)).trans ((hset_ne (key_ne rfl)).trans (hset_self _ _ _))
    have ho20 := (hf17 5 _ rfl rfl rfl (fun _ => by decide)).trans (hset_self _ _ _)
    refine p_step rfl (e_mkf rfl) trivial ?_
    refine p_hcall rfl (DeleteFS fv aw hfv _ evs day _ _ _ _ _ _ hl (rec_ok hrec).day (by omega) (plat_len _ hl) hs16 ho20 ho18 ho19) fun v21 h22 c23 hR24 => ?_
    refine p_step rfl (e_assign (v := _) rfl) trivial ?_
    refine p_step rfl (e_assign (v := .sc _) rfl) trivial ?_
    refine p_end (hK11 _ ?_); clear hK11 K11
    refine pwp_ret ?_
    refine end2 (v := _) (w := .sc _) rfl rfl ?_
    first
      | exact tho_out0 (tho_1 (by assumption))
      | exact tho_out0 (tho_2 hrec (by assumption))
      | exact tho_out0 (tho_2 hrec (by omega))
      | exact tho_out (tho_3 hrec (by omega)) (by assumption)

theorem fr58 : (inFrame Try.f58.ntmps (Try.f58.body.getD .skip) && Try.f58.results.toList.all (resScope Try.f58.ntmps)) = true := by kernel_rfl
theorem Due (evs : List Ev) (day : Int) (hl : evs.length ≤ 405) : PCalls Try.prog 58 [.lit true 6 (evs.map Ev.enc), .int day] (.tup [.lit false 1 ((thoT dueP evs day).map cb), .int (thoE evs day)]) := by
  refine PCalls.of_code Try.func58 rfl rfl (by kernel_rfl) mixed fr58 (by show _ ≤ 11; simp) (tup_tx _ _) ?_
  refine pwp_seq_plain rfl fun K1 hK1 => ?_
  refine p_step rfl (e_assign (v := .nil) rfl) trivial ?_
  refine p_step rfl (e_assign (v := .sc _) rfl) trivial ?_
  refine p_end (hK1 _ ?_); clear hK1 K1
  refine pwp_seq_plain rfl fun K2 hK2 => ?_
  refine p_step rfl (e_move (v := .lit _ _ _) rfl) trivial ?_
  refine p_step rfl (e_move (v := .sc _) rfl) trivial ?_
  refine p_call rfl (.cons inn_lit (.cons inn_sc (.cons inn_func0 .nil))) (those 96 dueP (fun l h => due1 l h) _ _ (by omega)) ?_
  refine p_step rfl (e_ext (v := .lit _ _ _) rfl (by simp) rfl) trivial ?_
  refine p_step rfl (e_ext (v := .sc _) rfl (by simp) rfl) trivial ?_
  refine p_step rfl (e_assign (v := .lit _ _ _) rfl) trivial ?_
  refine p_step rfl (e_assign (v := .sc _) rfl) trivial ?_
  refine p_end (hK2 _ ?_); clear hK2 K2
  refine pwp_ret ?_
  refine end2 (v := .lit _ _ _) (w := .sc _) rfl rfl ?_
  exact out_2 (.clean (clean_rows fun a p hp => (cb_clean a p hp).1)) (out_i rfl)

theorem fr59 : (inFrame Try.f59.ntmps (Try.f59.body.getD .skip) && Try.f59.results.toList.all (resScope Try.f59.ntmps)) = true := by kernel_rfl
theorem Released (evs : List Ev) (day : Int) (hl : evs.length ≤ 405) : PCalls Try.prog 59 [.lit true 6 (evs.map Ev.enc), .int day] (.tup [.lit false 1 ((thoT relP evs day).map cb), .int (thoE evs day)]) := by
  refine PCalls.of_code Try.func59 rfl rfl (by kernel_rfl) mixed fr59 (by show _ ≤ 11; simp) (tup_tx _ _) ?_
  refine pwp_seq_plain rfl fun K1 hK1 => ?_
  refine p_step rfl (e_assign (v := .nil) rfl) trivial ?_
  refine p_step rfl (e_assign (v := .sc _) rfl) trivial ?_
  refine p_end (hK1 _ ?_); clear hK1 K1
  refine pwp_seq_plain rfl fun K2 hK2 => ?_
  refine p_step rfl (e_move (v := .lit _ _ _) rfl) trivial ?_
  refine p_step rfl (e_move (v := .sc _) rfl) trivial ?_
  refine p_call rfl (.cons inn_lit (.cons inn_sc (.cons inn_func0 .nil))) (those 98 relP (fun l h => released1 l h) _ _ (by omega)) ?_
  refine p_step rfl (e_ext (v := .lit _ _ _) rfl (by simp) rfl) trivial ?_
  refine p_step rfl (e_ext (v := .sc _) rfl (by simp) rfl) trivial ?_
  refine p_step rfl (e_assign (v := .lit _ _ _) rfl) trivial ?_
  refine p_step rfl (e_assign (v := .sc _) rfl) trivial ?_
  refine p_end (hK2 _ ?_); clear hK2 K2
  refine pwp_ret ?_
  refine end2 (v := .lit _ _ _) (w := .sc _) rfl rfl ?_
  exact out_2 (.clean (clean_rows fun a p hp => (cb_clean a p hp).1)) (out_i rfl)

end Go.Proofs.Ytdbpfhbppcpbbaa
