/- Counts and lots of the reference. No conditions. -/
import Derived.Test.YtdbpfhbppcpbbaaMov1
set_option linter.unusedSimpArgs false
set_option linter.unusedVariables false
set_option maxRecDepth 100000
namespace Go.Proofs.Ytdbpfhbppcpbbaa
open Go Go.Pv
/-! ### What the reference counts -/
def okM (m : Move) : Prop := (0 ≤ m.kind ∧ m.kind ≤ 2) ∧ 0 ≤ m.count ∧ m.count ≤ 100000
def cntStep (p : ByteArray) (cs : List Int) (m : Move) : List Int := if m.part = p then cs.set m.kind.toNat (cs.getD m.kind.toNat 0 + m.count) else cs
/-- How many pieces of a part were moved by each kind of moves. -/
def cntL (p : ByteArray) (ms : List Move) : List Int := ms.foldl (cntStep p) [0, 0, 0]
theorem cntStep_len (p : ByteArray) (cs : List Int) (m : Move) : (cntStep p cs m).length = cs.length := by unfold cntStep; split <;> simp
theorem cntL_len (p : ByteArray) (ms : List Move) : (cntL p ms).length = 3 := by
  have : ∀ (l : List Move) (cs : List Int), (l.foldl (cntStep p) cs).length = cs.length := by
    intro l
    induction l with
    | nil => intro cs; rfl
    | cons m l ih => intro cs; rw [List.foldl_cons, ih, cntStep_len]
  exact this ms _
section
variable {p : ByteArray} {cs : List Int} {x : Move} {k : Nat}
theorem cs_get (hc : cs.length = 3) (hx : okM x) : cellAt [cs.map PV.int] 0 (0 + x.kind.toNat) = .int (cs.getD x.kind.toNat 0) := by
  have h := hx.1
  have h2 : x.kind.toNat < cs.length := by omega
  simp [cellAt, List.getD_eq_getElem?_getD, List.getElem?_eq_getElem h2]
theorem cs_bnd (hb : ∀ c ∈ cs, 0 ≤ c ∧ c ≤ 100000 * (k : Int)) (hc : cs.length = 3) (hx : okM x) : 0 ≤ cs.getD x.kind.toNat 0 ∧ cs.getD x.kind.toNat 0 ≤ 100000 * (k : Int) := by
  have h := hx.1
  have h2 : x.kind.toNat < cs.length := by omega
  rw [List.getD_eq_getElem?_getD, List.getElem?_eq_getElem h2]
  exact hb _ (List.getElem_mem h2)
theorem cs_next (hb : ∀ c ∈ cs, 0 ≤ c ∧ c ≤ 100000 * (k : Int)) (hc : cs.length = 3) (hx : okM x) : ∀ c ∈ cntStep p cs x, 0 ≤ c ∧ c ≤ 100000 * ((k + 1 : Nat) : Int) := by
  have h0 := cs_bnd hb hc hx
  have h1 := hx.2
  intro c hcm
  unfold cntStep at hcm
  split at hcm
  · rcases List.mem_or_eq_of_mem_set hcm with h | h
    · have := hb c h; omega
    · rw [h]; omega
  · have := hb c hcm; omega
theorem agg_whole {zs : List PV} {n : Nat} (h : zs.length = n) : aggAt [zs] 0 0 n = zs := by subst h; simp [aggAt]
theorem all_ints (cs : List Int) : (cs.map PV.int).all PV.cell = true := by rw [List.all_map]; exact List.all_eq_true.2 fun _ _ => rfl
theorem cs_yes (h : x.part = p) : some (PObj.rows 3 [(cs.map PV.int).set (0 + x.kind.toNat) (.int (cs.getD x.kind.toNat 0 + x.count))]) = some (PObj.rows 3 [(cntStep p cs x).map PV.int]) := by
  unfold cntStep; rw [if_pos h, List.map_set, Nat.zero_add]
theorem cs_no (h : ¬ x.part = p) : some (PObj.rows 3 [cs.map PV.int]) = some (PObj.rows 3 [(cntStep p cs x).map PV.int]) := by
  unfold cntStep; rw [if_neg h]
end

theorem fr41 : (inFrame Try.f41.ntmps (Try.f41.body.getD .skip) && Try.f41.results.toList.all (resScope Try.f41.ntmps)) = true := by kernel_rfl
theorem Counts (ms : List Move) (p : ByteArray) (hl : ms.length ≤ 305) (hok : ∀ m ∈ ms, okM m) : PCalls Try.prog 41 [.lit true 4 (ms.map Move.enc), .str p] (.agg ((cntL p ms).map PV.int)) := by
  refine PCalls.of_code Try.func41 rfl rfl (by kernel_rfl) mixed fr41 (by show _ ≤ 40; simp) (.agg _ fun q hq => by obtain ⟨z, _, rfl⟩ := List.mem_map.1 hq; exact .sc _) ?_
  refine pwp_seq_plain rfl fun K1 hK1 => ?_
  refine p_new rfl (e_alloc (cs := [.int 0, .int 0, .int 0]) (n := 3) (by kernel_rfl) rfl (by decide)) (ob_alloc (by decide)) ?_
  refine p_end (hK1 _ ?_); clear hK1 K1
  refine pwp_seq_plain rfl fun K2 hK2 => ?_
  refine p_new rfl (e_alloc (cs := [.int 0, .int 0, .int 0]) (n := 3) (by kernel_rfl) rfl (by decide)) (ob_alloc (by decide)) ?_
  refine p_end (hK2 _ ?_); clear hK2 K2
  refine pwp_seq_seq ?_
  refine pwp_seq_plain rfl fun K3 hK3 => ?_
  refine p_step rfl (e_assign (v := .sc _) rfl) trivial ?_
  refine p_end (hK3 _ ?_); clear hK3 K3
  refine pwp_seq_block fun K4 hK4 => ?_
  refine pwp_loopR (α := Nat × (List Int)) [0, 1, 4, 5] (fun (a5 : Nat × (List Int)) => [(6, .int (a5.1))]) (fun (a5 : Nat × (List Int)) (h : Heap) (_ : Nat → Nat) => ((a5.1) ≤ ms.length) ∧ ((a5.2).length = 3) ∧ (cntL p ms = (ms.drop (a5.1)).foldl (cntStep p) (a5.2)) ∧ (∀ c ∈ (a5.2), 0 ≤ c ∧ c ≤ 100000 * ((a5.1) : Int)) ∧ (h (4, 0) = some (.rows 3 [[.int 0, .int 0, .int 0]])) ∧ (h (5, 0) = some (.rows 3 [(a5.2).map PV.int]))) (fun (a5 : Nat × (List Int)) => ms.length - (a5.1)) (0, [0, 0, 0]) (by exact ⟨rfl, trivial⟩) (by exact ⟨by exact Nat.zero_le _, by exact rfl, by exact rfl, by (intro c hc; simp at hc; omega), ((hset_ne (key_ne rfl)).trans (hset_self _ _ _)), (hset_self _ _ _)⟩) fun a5 r6 h7 c8 hj9 => ?_
  obtain ⟨k, cs⟩ := a5
  obtain ⟨hk, hc, hinv, hb, hihj9_0, hihj9_1⟩ := hj9
  try dsimp only at hk
  try dsimp only at hc
  try dsimp only at hinv
  try dsimp only at hb
  try dsimp only at hihj9_0
  try dsimp only at hihj9_1
  show pwp _ _ (loopQ _ _ _) ⟨sets (mix _ _ _) [(6, .int k)], _, _⟩
  refine pwp_seq_seq ?_
  refine pwp_seq_plain rfl fun K10 hK10 => ?_
  refine p_step rfl (e_move (v := .sc _) rfl) trivial ?_
  refine p_step rfl (e_move (v := .lit _ _ _) rfl) trivial ?_
  refine p_step rfl (e_len rfl (by kernel_rfl)) trivial ?_
  refine p_step rfl (e_lt rfl rfl) trivial ?_
  refine p_end (hK10 _ ?_); clear hK10 K10
  refine pwp_seq_cond rfl fun K11 hK11 => ⟨fun hb12 => ?_, fun hb12 => ?_⟩
  ·have hb12R := hb12; try simp only [z1, z2, z3, z4, z5, z6, ne_eq, z7, z8, z9, z10, z11, z12] at hb12
   obtain ⟨x, hx, hd, ht⟩ := get_lt (xs := ms) (i := k) (by omega)
   rw [hd] at hinv; simp only [List.foldl_cons] at hinv
   have hxm := hok x (List.mem_of_getElem? hx)
   have hbx := cs_bnd hb hc hxm
   have hk2 := hxm.1; have hk3 := hxm.2
   refine pwp_skip ?_
   refine seq_norm (hK11 _ ?_); clear hK11 K11
   refine pwp_seq_block fun K13 hK13 => ?_
   refine pwp_seq_plain rfl fun K14 hK14 => ?_
   refine p_step rfl (e_move (v := .lit _ _ _) rfl) trivial ?_
   refine p_step rfl (e_move (v := .sc _) rfl) trivial ?_
   refine p_step rfl (e_ixa rfl rfl (by kernel_rfl) (by kernel_rfl) (by simp only [List.length_map]; omega)) trivial ?_
   refine p_step rfl (e_fa (pl := [(0, 1, false), (1, 1, false), (2, 1, false), (3, 1, false)]) rfl (by kernel_rfl) (by kernel_rfl) (by decide) rfl) trivial ?_
   refine p_step rfl (e_load (v := .sc _) rfl (by kernel_rfl) (by kernel_rfl) (by kernel_rfl) (by simp only [List.length_map]; omega) (by decide) ((cell_map hx _).trans rfl)) trivial ?_
   refine p_step rfl (e_move (v := .sc _) rfl) trivial ?_
   refine p_step rfl (e_seq rfl rfl) trivial ?_
   refine p_end (hK14 _ ?_); clear hK14 K14
   refine pwp_cond rfl (fun hb15 => ?_) (fun hb15 => ?_)
   ·have hb15R := hb15; try simp only [z1, z2, z3, z4, z5, z6, ne_eq, z7, z8, z9, z10, z11, z12] at hb15
    refine pwp_gops rfl fun K16 hK16 => ?_
    refine s_begin ?_
    refine s_step [] (by simp) rfl rfl rfl rfl (e_move (v := .lit _ _ _) rfl) trivial ?_
    refine s_step [] (by simp) rfl rfl rfl rfl (e_move (v := .sc _) rfl) trivial ?_
    refine s_step [] (by simp) rfl rfl rfl rfl (e_ixa rfl rfl (by kernel_rfl) (by kernel_rfl) (by simp only [List.length_map]; omega)) trivial ?_
    refine s_step [] (by simp) rfl rfl rfl rfl (e_fa (pl := [(0, 1, false), (1, 1, false), (2, 1, false), (3, 1, false)]) rfl (by kernel_rfl) (by kernel_rfl) (by decide) rfl) trivial ?_
    refine s_step [] (by simp) rfl rfl rfl rfl (e_load (v := .sc _) rfl (by kernel_rfl) (by kernel_rfl) (by kernel_rfl) (by simp only [List.length_map]; omega) (by decide) ((cell_map hx _).trans rfl)) trivial ?_
    refine s_step [] (by simp) rfl rfl rfl rfl (e_move (v := .lit _ _ _) rfl) trivial ?_
    refine s_step [] (by simp) rfl rfl rfl rfl (e_move (v := .sc _) rfl) trivial ?_
    refine s_step [] (by simp) rfl rfl rfl rfl (e_ixa rfl rfl (by kernel_rfl) (by kernel_rfl) (by simp only [List.length_map]; omega)) trivial ?_
    refine s_step [] (by simp) rfl rfl rfl rfl (e_fa (pl := [(0, 1, false), (1, 1, false), (2, 1, false), (3, 1, false)]) rfl (by kernel_rfl) (by kernel_rfl) (by decide) rfl) trivial ?_
    refine s_step [] (by simp) rfl rfl rfl rfl (e_load (v := .sc _) rfl (by kernel_rfl) (by kernel_rfl) (by kernel_rfl) (by simp only [List.length_map]; omega) (by decide) ((cell_map hx _).trans rfl)) trivial ?_
    refine s_step [] (by simp) rfl rfl rfl rfl (e_ixaP (n := 3) (e := 3) rfl rfl (by kernel_rfl) (by kernel_rfl) (by omega)) trivial ?_
    refine s_step [5] (by simp) rfl rfl rfl rfl (e_loadH (v := .sc _) rfl hihj9_1 (by kernel_rfl) (by kernel_rfl) (by kernel_rfl) (by exact Nat.zero_lt_one) (by omega) (cs_get hc hxm)) trivial ?_
    refine s_step [] (by simp) rfl rfl rfl rfl (e_move (v := .lit _ _ _) rfl) trivial ?_
    refine s_step [] (by simp) rfl rfl rfl rfl (e_move (v := .sc _) rfl) trivial ?_
    refine s_step [] (by simp) rfl rfl rfl rfl (e_ixa rfl rfl (by kernel_rfl) (by kernel_rfl) (by simp only [List.length_map]; omega)) trivial ?_
    refine s_step [] (by simp) rfl rfl rfl rfl (e_fa (pl := [(0, 1, false), (1, 1, false), (2, 1, false), (3, 1, false)]) rfl (by kernel_rfl) (by kernel_rfl) (by decide) rfl) trivial ?_
    refine s_step [] (by simp) rfl rfl rfl rfl (e_load (v := .sc _) rfl (by kernel_rfl) (by kernel_rfl) (by kernel_rfl) (by simp only [List.length_map]; omega) (by decide) ((cell_map hx _).trans rfl)) trivial ?_
    refine s_step [] (by simp) rfl rfl rfl rfl (e_add rfl rfl (by omega)) trivial ?_
    refine s_step [] (by simp) rfl rfl rfl rfl (e_ixaP (n := 3) (e := 3) rfl rfl (by kernel_rfl) (by kernel_rfl) (by omega)) trivial ?_
    refine s_store [5] (by simp) rfl rfl (e_storeC rfl hihj9_1 rfl rfl (by simp [hc]) (by omega) (by kernel_rfl) rfl (by kernel_rfl)) trivial ?_
    refine s_end (ds := []) (by kernel_rfl) (by kernel_rfl) (hK16 _ ?_); clear hK16 K16
    refine block_norm ?_
    refine seq_norm (hK13 _ ?_); clear hK13 K13
    refine pwp_plain rfl fun K17 hK17 => ?_
    refine p_step rfl (e_move (v := .sc _) rfl) trivial ?_
    refine p_step rfl (e_add rfl rfl (by omega)) trivial ?_
    refine p_step rfl (e_assign (v := .sc _) rfl) trivial ?_
    refine p_end (hK17 _ ?_); clear hK17 K17
    exact loop_again ((k + 1, cntStep p cs x)) (by show _ < _; simp only; omega) ⟨rfl, rfl, rfl, rfl, trivial⟩ ⟨rfl, trivial⟩ (by exact ⟨by show _ + 1 ≤ _; omega, by exact (cntStep_len p cs x).trans hc, by exact hinv, by exact cs_next hb hc hxm, ((hset_ne (key_ne rfl)).trans hihj9_0), ((hset_self _ _ _).trans (by first | exact cs_yes (by assumption) | exact cs_no (by assumption)))⟩)
   ·have hb15R := hb15; try simp only [z1, z2, z3, z4, z5, z6, ne_eq, z7, z8, z9, z10, z11, z12] at hb15
    refine pwp_skip ?_
    refine block_norm ?_
    refine seq_norm (hK13 _ ?_); clear hK13 K13
    refine pwp_plain rfl fun K18 hK18 => ?_
    refine p_step rfl (e_move (v := .sc _) rfl) trivial ?_
    refine p_step rfl (e_add rfl rfl (by omega)) trivial ?_
    refine p_step rfl (e_assign (v := .sc _) rfl) trivial ?_
    refine p_end (hK18 _ ?_); clear hK18 K18
    exact loop_again ((k + 1, cntStep p cs x)) (by show _ < _; simp only; omega) ⟨rfl, rfl, rfl, rfl, trivial⟩ ⟨rfl, trivial⟩ (by exact ⟨by show _ + 1 ≤ _; omega, by exact (cntStep_len p cs x).trans hc, by exact hinv, by exact cs_next hb hc hxm, hihj9_0, (hihj9_1.trans (by first | exact cs_yes (by assumption) | exact cs_no (by assumption)))⟩)
  ·have hb12R := hb12; try simp only [z1, z2, z3, z4, z5, z6, ne_eq, z7, z8, z9, z10, z11, z12] at hb12
   obtain rfl : k = ms.length := by omega
   rw [List.drop_length] at hinv; simp only [List.foldl_nil] at hinv
   refine pwp_exit ?_
   refine exit_seq ?_
   clear hK11 K11
   refine exit_loop ?_
   refine exit_here ?_
   refine seq_norm (hK4 _ ?_); clear hK4 K4
   refine pwp_seq_plain rfl fun K19 hK19 => ?_
   refine p_step rfl (e_loadHA (n := 3) rfl hihj9_1 (by kernel_rfl) (by kernel_rfl) (by kernel_rfl) (by exact Nat.zero_lt_one) (by decide) (agg_whole (by simp [hc]))) trivial ?_
   refine p_store rfl (e_storeA rfl hihj9_0 rfl rfl (by simp [hc]) (by kernel_rfl) (all_ints cs) (by kernel_rfl)) trivial ?_
   refine p_end (hK19 _ ?_); clear hK19 K19
   refine pwp_ret ?_
   refine endC rfl (hset_self _ _ _) (by kernel_rfl) (by kernel_rfl) (by kernel_rfl) (by simp [hc]) ?_
   rw [hinv]
   exact .clean (.agg _ fun q hq => by obtain ⟨z, _, rfl⟩ := List.mem_map.1 hq; exact .sc _)

end Go.Proofs.Ytdbpfhbppcpbbaa
