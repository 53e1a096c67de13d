/- RecordDue, as a contract on pure values. No conditions. -/
import Derived.Test.YtdbpfhbppcpbbaaDue1
import Derived.Test.YtdbpfhbppcpbbaaTxt
import Derived.Test.YtdbpfhbppcpbbaaCor1
set_option linter.unusedSimpArgs false
set_option linter.unusedVariables false
set_option maxRecDepth 100000
namespace Go.Proofs.Ytdbpfhbppcpbbaa
open Go Go.Pv

theorem reaR5 (p : ByteArray) (day : Int) (U : List Ev) : (reaR p day U).length ≤ 5 := by
  unfold reaR
  have : ∀ (l : List Bool) (i : Int), (rsn i l).length ≤ l.length := by
    intro l
    induction l with
    | nil => intro i; exact Nat.le_refl _
    | cons b l ih =>
      intro i
      have := ih (i + 1)
      unfold rsn
      split
      · rw [List.length_cons, List.length_cons]; omega
      · rw [List.length_cons]; omega
  exact this _ _
abbrev dueQ (evs : List Ev) (day : Int) : ByteArray → Bool := fun p => dueR (reaR p day (uptoE evs day))
abbrev relQ (evs : List Ev) (day : Int) : ByteArray → Bool := fun p => decide (tagR (reaR p day (uptoE evs day)) = 2)

theorem fr61 : (inFrame Try.f61.ntmps (Try.f61.body.getD .skip) && Try.f61.results.toList.all (resScope Try.f61.ntmps)) = true := by kernel_rfl
theorem DueRef (evs : List Ev) (day : Int) (hl : evs.length ≤ 405) (hev : ∀ e ∈ evs, 0 ≤ e.day ∧ e.day ≤ 20000) (hday : 0 ≤ day ∧ day ≤ 20000) : PCalls Try.prog 61 [.lit true 6 (evs.map Ev.enc), .int day] (.lit false 1 (((platE evs).filter (dueQ evs day)).map cb)) := by
  refine PCalls.of_code Try.func61 rfl rfl (by kernel_rfl) mixed fr61 (by show _ ≤ 32; simp) (.lit _ _ _ fun row hr => pure_map cb_pure row hr) ?_
  have hpl := plat_len evs hl
  refine pwp_seq_plain rfl fun K1 hK1 => ?_
  refine p_step rfl (e_assign (v := .nil) rfl) trivial ?_
  refine p_end (hK1 _ ?_); clear hK1 K1
  refine pwp_seq_plain rfl fun K2 hK2 => ?_
  refine p_step rfl (e_move (v := .lit _ _ _) rfl) trivial ?_
  refine p_call rfl (.cons inn_lit .nil) (Platforms _ hl) ?_
  refine p_step rfl (e_assign (v := .lit _ _ _) rfl) trivial ?_
  refine p_end (hK2 _ ?_); clear hK2 K2
  refine pwp_seq_plain rfl fun K3 hK3 => ?_
  refine p_step rfl (e_assign (v := .nil) rfl) trivial ?_
  refine p_end (hK3 _ ?_); clear hK3 K3
  refine pwp_seq_seq ?_
  refine pwp_seq_plain rfl fun K4 hK4 => ?_
  refine p_step rfl (e_assign (v := .sc _) rfl) trivial ?_
  refine p_end (hK4 _ ?_); clear hK4 K4
  refine pwp_seq_block fun K5 hK5 => ?_
  refine pwp_loopR (α := Nat × (List ByteArray) × PV) [0, 1, 5] (fun (a6 : Nat × (List ByteArray) × PV) => [(6, (a6.2.2)), (7, .int (a6.1))]) (fun (a6 : Nat × (List ByteArray) × PV) (h : Heap) (_ : Nat → Nat) => ((a6.1) ≤ (platE evs).length) ∧ ((a6.2.1) = ((platE evs).take (a6.1)).filter (dueQ evs day)) ∧ ((a6.2.1).length ≤ (a6.1)) ∧ (SliceAt h 30 (a6.2.2) 1 ((a6.2.1).map cb))) (fun (a6 : Nat × (List ByteArray) × PV) => (platE evs).length - (a6.1)) (0, [], .nil) (by exact ⟨rfl, rfl, trivial⟩) (by exact ⟨by exact Nat.zero_le _, by exact rfl, by exact Nat.le_refl _, .nil⟩) fun a6 r7 h8 c9 hj10 => ?_
  obtain ⟨k, acc, v⟩ := a6
  obtain ⟨hk, hinv, hlen, hihj10_0⟩ := hj10
  try dsimp only at hk
  try dsimp only at hinv
  try dsimp only at hlen
  try dsimp only at hihj10_0
  show pwp _ _ (loopQ _ _ _) ⟨sets (mix _ _ _) [(6, v), (7, .int k)], _, _⟩
  refine pwp_seq_seq ?_
  refine pwp_seq_plain rfl fun K11 hK11 => ?_
  refine p_step rfl (e_move (v := .sc _) rfl) trivial ?_
  refine p_step rfl (e_move (v := .lit _ _ _) rfl) trivial ?_
  refine p_step rfl (e_len rfl (by kernel_rfl)) trivial ?_
  refine p_step rfl (e_lt rfl rfl) trivial ?_
  refine p_end (hK11 _ ?_); clear hK11 K11
  refine pwp_seq_cond rfl fun K12 hK12 => ⟨fun hb13 => ?_, fun hb13 => ?_⟩
  ·have hb13R := hb13; try simp only [z1, z2, z3, z4, z5, z6, ne_eq, z7, z8, z9, z10, z11, z12] at hb13
   obtain ⟨x, hx, hd, ht⟩ := get_lt (xs := platE evs) (i := k) (by omega)
   refine pwp_skip ?_
   refine seq_norm (hK12 _ ?_); clear hK12 K12
   refine pwp_seq_block fun K14 hK14 => ?_
   refine pwp_seq_plain rfl fun K15 hK15 => ?_
   refine p_step rfl (e_move (v := .lit _ _ _) rfl) trivial ?_
   refine p_step rfl (e_move (v := .lit _ _ _) rfl) trivial ?_
   refine p_step rfl (e_move (v := .sc _) rfl) trivial ?_
   refine p_step rfl (e_ixa rfl rfl (by kernel_rfl) (by kernel_rfl) (by simp only [List.length_map]; omega)) trivial ?_
   refine p_step rfl (e_load (v := .sc _) rfl (by kernel_rfl) (by kernel_rfl) (by kernel_rfl) (by simp only [List.length_map]; omega) (by decide) ((cell_map hx _).trans rfl)) trivial ?_
   refine p_step rfl (e_move (v := .sc _) rfl) trivial ?_
   refine p_call rfl (.cons inn_lit (.cons inn_sc (.cons inn_sc .nil))) (ReasonsR _ _ _ hl hev hday) ?_
   refine p_call rfl (.cons inn_lit .nil) (dueRef _ (reaR5 _ _ _)) ?_
   refine p_end (hK15 _ ?_); clear hK15 K15
   refine pwp_cond rfl (fun hb16 => ?_) (fun hb16 => ?_)
   ·have hb16R := hb16; try simp only [z1, z2, z3, z4, z5, z6, ne_eq, z7, z8, z9, z10, z11, z12] at hb16
    refine pwp_plain rfl fun K17 hK17 => ?_
    refine p_step rfl (e_move (v := _) rfl) trivial ?_
    refine p_step rfl (e_move (v := .lit _ _ _) rfl) trivial ?_
    refine p_step rfl (e_move (v := .sc _) rfl) trivial ?_
    refine p_step rfl (e_ixa rfl rfl (by kernel_rfl) (by kernel_rfl) (by simp only [List.length_map]; omega)) trivial ?_
    refine p_step rfl (e_load (v := .sc _) rfl (by kernel_rfl) (by kernel_rfl) (by kernel_rfl) (by simp only [List.length_map]; omega) (by decide) ((cell_map hx _).trans rfl)) trivial ?_
    refine p_new rfl (e_bslice (rows := [cb x]) (zs := [.str ByteArray.empty]) (sz := 1) (by kernel_rfl) (by kernel_rfl) rfl (by kernel_rfl) (by decide) rfl rfl (by exact ⟨by decide, rfl, rfl, trivial⟩) rfl) trivial ?_
    refine p_app rfl rfl rfl (hihj10_0.keep fun _ => (hset_ne (key_ne rfl)).trans (rfl)) (src_ref (hset_self _ _ _) rfl) (by kernel_rfl) (by simp only [List.length_append, List.length_map, List.length_nil, List.length_cons]; omega) fun v18 h19 c20 hs21 hf22 => ?_
    have ho23 := (hf22 (29, _) (key_ne rfl) (fun _ _ => key_ne rfl)).trans (hset_self _ _ _)
    refine p_step rfl (e_assign (v := _) rfl) trivial ?_
    refine p_end (hK17 _ ?_); clear hK17 K17
    refine block_norm ?_
    refine seq_norm (hK14 _ ?_); clear hK14 K14
    refine pwp_plain rfl fun K24 hK24 => ?_
    refine p_step rfl (e_move (v := .sc _) rfl) trivial ?_
    refine p_step rfl (e_add rfl rfl (by omega)) trivial ?_
    refine p_step rfl (e_assign (v := .sc _) rfl) trivial ?_
    refine p_end (hK24 _ ?_); clear hK24 K24
    exact loop_again ((k + 1, (acc ++ [x]), v18)) (by show _ < _; simp only; omega) ⟨rfl, rfl, rfl, trivial⟩ ⟨rfl, rfl, trivial⟩ (by exact ⟨by show _ + 1 ≤ _; omega, by first | exact fil_in' (f := dueQ evs day) hx hinv (by assumption) | exact fil_out' (f := dueQ evs day) hx hinv (by assumption) | exact fil_in' (f := dueQ evs day) hx hinv (decide_eq_true (by assumption)) | exact fil_out' (f := dueQ evs day) hx hinv (decide_eq_false (by assumption)), by show List.length _ ≤ _ + 1; first | omega | (simp only [List.length_append, List.length_cons, List.length_nil]; omega), (SliceAt.to hs21 (by simp [cb]))⟩)
   ·have hb16R := hb16; try simp only [z1, z2, z3, z4, z5, z6, ne_eq, z7, z8, z9, z10, z11, z12] at hb16
    refine pwp_skip ?_
    refine block_norm ?_
    refine seq_norm (hK14 _ ?_); clear hK14 K14
    refine pwp_plain rfl fun K25 hK25 => ?_
    refine p_step rfl (e_move (v := .sc _) rfl) trivial ?_
    refine p_step rfl (e_add rfl rfl (by omega)) trivial ?_
    refine p_step rfl (e_assign (v := .sc _) rfl) trivial ?_
    refine p_end (hK25 _ ?_); clear hK25 K25
    exact loop_again ((k + 1, acc, v)) (by show _ < _; simp only; omega) ⟨rfl, rfl, rfl, trivial⟩ ⟨rfl, rfl, trivial⟩ (by exact ⟨by show _ + 1 ≤ _; omega, by first | exact fil_in' (f := dueQ evs day) hx hinv (by assumption) | exact fil_out' (f := dueQ evs day) hx hinv (by assumption) | exact fil_in' (f := dueQ evs day) hx hinv (decide_eq_true (by assumption)) | exact fil_out' (f := dueQ evs day) hx hinv (decide_eq_false (by assumption)), by show List.length _ ≤ _ + 1; first | omega | (simp only [List.length_append, List.length_cons, List.length_nil]; omega), (SliceAt.to hihj10_0 (by simp [cb]))⟩)
  ·have hb13R := hb13; try simp only [z1, z2, z3, z4, z5, z6, ne_eq, z7, z8, z9, z10, z11, z12] at hb13
   obtain rfl : k = (platE evs).length := by omega
   rw [List.take_length] at hinv
   refine pwp_exit ?_
   refine exit_seq ?_
   clear hK12 K12
   refine exit_loop ?_
   refine exit_here ?_
   refine seq_norm (hK5 _ ?_); clear hK5 K5
   refine pwp_seq_plain rfl fun K26 hK26 => ?_
   refine p_step rfl (e_move (v := _) rfl) trivial ?_
   refine p_step rfl (e_assign (v := _) rfl) trivial ?_
   refine p_end (hK26 _ ?_); clear hK26 K26
   refine pwp_ret ?_
   refine end1 (v := _) rfl ?_
   rw [← hinv]
   exact out_slice (by assumption) rfl (fun _ => rfl) cb_clean

theorem fr62 : (inFrame Try.f62.ntmps (Try.f62.body.getD .skip) && Try.f62.results.toList.all (resScope Try.f62.ntmps)) = true := by kernel_rfl
theorem ReleasedRef (evs : List Ev) (day : Int) (hl : evs.length ≤ 405) (hev : ∀ e ∈ evs, 0 ≤ e.day ∧ e.day ≤ 20000) (hday : 0 ≤ day ∧ day ≤ 20000) : PCalls Try.prog 62 [.lit true 6 (evs.map Ev.enc), .int day] (.lit false 1 (((platE evs).filter (relQ evs day)).map cb)) := by
  refine PCalls.of_code Try.func62 rfl rfl (by kernel_rfl) mixed fr62 (by show _ ≤ 33; simp) (.lit _ _ _ fun row hr => pure_map cb_pure row hr) ?_
  have hpl := plat_len evs hl
  refine pwp_seq_plain rfl fun K1 hK1 => ?_
  refine p_step rfl (e_assign (v := .nil) rfl) trivial ?_
  refine p_end (hK1 _ ?_); clear hK1 K1
  refine pwp_seq_plain rfl fun K2 hK2 => ?_
  refine p_step rfl (e_move (v := .lit _ _ _) rfl) trivial ?_
  refine p_call rfl (.cons inn_lit .nil) (Platforms _ hl) ?_
  refine p_step rfl (e_assign (v := .lit _ _ _) rfl) trivial ?_
  refine p_end (hK2 _ ?_); clear hK2 K2
  refine pwp_seq_plain rfl fun K3 hK3 => ?_
  refine p_step rfl (e_assign (v := .nil) rfl) trivial ?_
  refine p_end (hK3 _ ?_); clear hK3 K3
  refine pwp_seq_seq ?_
  refine pwp_seq_plain rfl fun K4 hK4 => ?_
  refine p_step rfl (e_assign (v := .sc _) rfl) trivial ?_
  refine p_end (hK4 _ ?_); clear hK4 K4
  refine pwp_seq_block fun K5 hK5 => ?_
  refine pwp_loopR (α := Nat × (List ByteArray) × PV) [0, 1, 5] (fun (a6 : Nat × (List ByteArray) × PV) => [(6, (a6.2.2)), (7, .int (a6.1))]) (fun (a6 : Nat × (List ByteArray) × PV) (h : Heap) (_ : Nat → Nat) => ((a6.1) ≤ (platE evs).length) ∧ ((a6.2.1) = ((platE evs).take (a6.1)).filter (relQ evs day)) ∧ ((a6.2.1).length ≤ (a6.1)) ∧ (SliceAt h 31 (a6.2.2) 1 ((a6.2.1).map cb))) (fun (a6 : Nat × (List ByteArray) × PV) => (platE evs).length - (a6.1)) (0, [], .nil) (by exact ⟨rfl, rfl, trivial⟩) (by exact ⟨by exact Nat.zero_le _, by exact rfl, by exact Nat.le_refl _, .nil⟩) fun a6 r7 h8 c9 hj10 => ?_
  obtain ⟨k, acc, v⟩ := a6
  obtain ⟨hk, hinv, hlen, hihj10_0⟩ := hj10
  try dsimp only at hk
  try dsimp only at hinv
  try dsimp only at hlen
  try dsimp only at hihj10_0
  show pwp _ _ (loopQ _ _ _) ⟨sets (mix _ _ _) [(6, v), (7, .int k)], _, _⟩
  refine pwp_seq_seq ?_
  refine pwp_seq_plain rfl fun K11 hK11 => ?_
  refine p_step rfl (e_move (v := .sc _) rfl) trivial ?_
  refine p_step rfl (e_move (v := .lit _ _ _) rfl) trivial ?_
  refine p_step rfl (e_len rfl (by kernel_rfl)) trivial ?_
  refine p_step rfl (e_lt rfl rfl) trivial ?_
  refine p_end (hK11 _ ?_); clear hK11 K11
  refine pwp_seq_cond rfl fun K12 hK12 => ⟨fun hb13 => ?_, fun hb13 => ?_⟩
  ·have hb13R := hb13; try simp only [z1, z2, z3, z4, z5, z6, ne_eq, z7, z8, z9, z10, z11, z12] at hb13
   obtain ⟨x, hx, hd, ht⟩ := get_lt (xs := platE evs) (i := k) (by omega)
   refine pwp_skip ?_
   refine seq_norm (hK12 _ ?_); clear hK12 K12
   refine pwp_seq_block fun K14 hK14 => ?_
   refine pwp_seq_plain rfl fun K15 hK15 => ?_
   refine p_step rfl (e_move (v := .lit _ _ _) rfl) trivial ?_
   refine p_step rfl (e_move (v := .lit _ _ _) rfl) trivial ?_
   refine p_step rfl (e_move (v := .sc _) rfl) trivial ?_
   refine p_step rfl (e_ixa rfl rfl (by kernel_rfl) (by kernel_rfl) (by simp only [List.length_map]; omega)) trivial ?_
   refine p_step rfl (e_load (v := .sc _) rfl (by kernel_rfl) (by kernel_rfl) (by kernel_rfl) (by simp only [List.length_map]; omega) (by decide) ((cell_map hx _).trans rfl)) trivial ?_
   refine p_step rfl (e_move (v := .sc _) rfl) trivial ?_
   refine p_call rfl (.cons inn_lit (.cons inn_sc (.cons inn_sc .nil))) (ReasonsR _ _ _ hl hev hday) ?_
   refine p_call rfl (.cons inn_lit .nil) (TagR _) ?_
   refine p_step rfl (e_eq rfl rfl) trivial ?_
   refine p_end (hK15 _ ?_); clear hK15 K15
   refine pwp_cond rfl (fun hb16 => ?_) (fun hb16 => ?_)
   ·have hb16R := hb16; try simp only [z1, z2, z3, z4, z5, z6, ne_eq, z7, z8, z9, z10, z11, z12] at hb16
    refine pwp_plain rfl fun K17 hK17 => ?_
    refine p_step rfl (e_move (v := _) rfl) trivial ?_
    refine p_step rfl (e_move (v := .lit _ _ _) rfl) trivial ?_
    refine p_step rfl (e_move (v := .sc _) rfl) trivial ?_
    refine p_step rfl (e_ixa rfl rfl (by kernel_rfl) (by kernel_rfl) (by simp only [List.length_map]; omega)) trivial ?_
    refine p_step rfl (e_load (v := .sc _) rfl (by kernel_rfl) (by kernel_rfl) (by kernel_rfl) (by simp only [List.length_map]; omega) (by decide) ((cell_map hx _).trans rfl)) trivial ?_
    refine p_new rfl (e_bslice (rows := [cb x]) (zs := [.str ByteArray.empty]) (sz := 1) (by kernel_rfl) (by kernel_rfl) rfl (by kernel_rfl) (by decide) rfl rfl (by exact ⟨by decide, rfl, rfl, trivial⟩) rfl) trivial ?_
    refine p_app rfl rfl rfl (hihj10_0.keep fun _ => (hset_ne (key_ne rfl)).trans (rfl)) (src_ref (hset_self _ _ _) rfl) (by kernel_rfl) (by simp only [List.length_append, List.length_map, List.length_nil, List.length_cons]; omega) fun v18 h19 c20 hs21 hf22 => ?_
    have ho23 := (hf22 (30, _) (key_ne rfl) (fun _ _ => key_ne rfl)).trans (hset_self _ _ _)
    refine p_step rfl (e_assign (v := _) rfl) trivial ?_
    refine p_end (hK17 _ ?_); clear hK17 K17
    refine block_norm ?_
    refine seq_norm (hK14 _ ?_); clear hK14 K14
    refine pwp_plain rfl fun K24 hK24 => ?_
    refine p_step rfl (e_move (v := .sc _) rfl) trivial ?_
    refine p_step rfl (e_add rfl rfl (by omega)) trivial ?_
    refine p_step rfl (e_assign (v := .sc _) rfl) trivial ?_
    refine p_end (hK24 _ ?_); clear hK24 K24
    exact loop_again ((k + 1, (acc ++ [x]), v18)) (by show _ < _; simp only; omega) ⟨rfl, rfl, rfl, trivial⟩ ⟨rfl, rfl, trivial⟩ (by exact ⟨by show _ + 1 ≤ _; omega, by first | exact fil_in' (f := relQ evs day) hx hinv (by assumption) | exact fil_out' (f := relQ evs day) hx hinv (by assumption) | exact fil_in' (f := relQ evs day) hx hinv (decide_eq_true (by assumption)) | exact fil_out' (f := relQ evs day) hx hinv (decide_eq_false (by assumption)), by show List.length _ ≤ _ + 1; first | omega | (simp only [List.length_append, List.length_cons, List.length_nil]; omega), (SliceAt.to hs21 (by simp [cb]))⟩)
   ·have hb16R := hb16; try simp only [z1, z2, z3, z4, z5, z6, ne_eq, z7, z8, z9, z10, z11, z12] at hb16
    refine pwp_skip ?_
    refine block_norm ?_
    refine seq_norm (hK14 _ ?_); clear hK14 K14
    refine pwp_plain rfl fun K25 hK25 => ?_
    refine p_step rfl (e_move (v := .sc _) rfl) trivial ?_
    refine p_step rfl (e_add rfl rfl (by omega)) trivial ?_
    refine p_step rfl (e_assign (v := .sc _) rfl) trivial ?_
    refine p_end (hK25 _ ?_); clear hK25 K25
    exact loop_again ((k + 1, acc, v)) (by show _ < _; simp only; omega) ⟨rfl, rfl, rfl, trivial⟩ ⟨rfl, rfl, trivial⟩ (by exact ⟨by show _ + 1 ≤ _; omega, by first | exact fil_in' (f := relQ evs day) hx hinv (by assumption) | exact fil_out' (f := relQ evs day) hx hinv (by assumption) | exact fil_in' (f := relQ evs day) hx hinv (decide_eq_true (by assumption)) | exact fil_out' (f := relQ evs day) hx hinv (decide_eq_false (by assumption)), by show List.length _ ≤ _ + 1; first | omega | (simp only [List.length_append, List.length_cons, List.length_nil]; omega), (SliceAt.to hihj10_0 (by simp [cb]))⟩)
  ·have hb13R := hb13; try simp only [z1, z2, z3, z4, z5, z6, ne_eq, z7, z8, z9, z10, z11, z12] at hb13
   obtain rfl : k = (platE evs).length := by omega
   rw [List.take_length] at hinv
   refine pwp_exit ?_
   refine exit_seq ?_
   clear hK12 K12
   refine exit_loop ?_
   refine exit_here ?_
   refine seq_norm (hK5 _ ?_); clear hK5 K5
   refine pwp_seq_plain rfl fun K26 hK26 => ?_
   refine p_step rfl (e_move (v := _) rfl) trivial ?_
   refine p_step rfl (e_assign (v := _) rfl) trivial ?_
   refine p_end (hK26 _ ?_); clear hK26 K26
   refine pwp_ret ?_
   refine end1 (v := _) rfl ?_
   rw [← hinv]
   exact out_slice (by assumption) rfl (fun _ => rfl) cb_clean


theorem thoZ {evs : List Ev} {day : Int} : (if ((decide ((recE (evs)) = (0))) && (!(decide (0 ≤ day ∧ day ≤ 20000)))) = true then (2) else (recE (evs))) = thoE evs day := by
  unfold thoE
  by_cases h0 : recE evs = 0
  · by_cases h1 : 0 ≤ day ∧ day ≤ 20000
    · simp [h0, h1]
    · simp [h0, h1]
  · simp [h0]
theorem tho_z {evs : List Ev} {day : Int} (h : decide ((if ((decide ((recE (evs)) = (0))) && (!(decide (0 ≤ day ∧ day ≤ 20000)))) = true then (2) else (recE (evs))) ≠ (0)) = false) : recE evs = 0 ∧ (0 ≤ day ∧ day ≤ 20000) := by
  rw [thoZ] at h
  have h2 : thoE evs day = 0 := Decidable.not_not.1 (of_decide_eq_false h)
  unfold thoE at h2
  split at h2
  · rename_i h3; exact absurd h2 h3
  · rename_i h3
    split at h2
    · cases h2
    · rename_i h4; exact ⟨by simpa using h3, by simpa using h4⟩
theorem thoT_len {aw : List Int → Bool} {evs : List Ev} {day : Int} (hl : evs.length ≤ 405) : (thoT aw evs day).length ≤ 1000000 := by
  unfold thoT
  split
  · exact Nat.le_trans (List.length_filter_le _ _) (plat_len evs hl)
  · exact Nat.zero_le _
theorem due_bad {evs : List Ev} {day : Int} {b : Bool} (h : decide ((if ((decide ((recE (evs)) = (0))) && (!(decide (0 ≤ day ∧ day ≤ 20000)))) = true then (2) else (recE (evs))) ≠ (0)) = true) (hb : ((((decide ((thoE (evs) day) = (if ((decide ((recE (evs)) = (0))) && (!(decide (0 ≤ day ∧ day ≤ 20000)))) = true then (2) else (recE (evs))))) && (decide ((thoE (evs) day) = (if ((decide ((recE (evs)) = (0))) && (!(decide (0 ≤ day ∧ day ≤ 20000)))) = true then (2) else (recE (evs)))))) && (decide (((((thoT dueP (evs) day).map cb).length : Nat) : Int) = (0)))) && (decide (((((thoT relP (evs) day).map cb).length : Nat) : Int) = (0)))) = b) : b = true := by
  rw [thoZ] at h
  have h1 : ¬ thoE evs day = 0 := of_decide_eq_true h
  have e1 : thoT dueP evs day = [] := by rw [thoT, if_neg h1]
  have e2 : thoT relP evs day = [] := by rw [thoT, if_neg h1]
  rw [← hb, thoZ, e1, e2, decide_eq_true (rfl : thoE evs day = thoE evs day)]
  rfl
theorem due_good {evs : List Ev} {day : Int} {b : Bool} (hz : recE evs = 0 ∧ (0 ≤ day ∧ day ≤ 20000)) (hb : ((((decide ((thoE (evs) day) = (0))) && (decide ((thoE (evs) day) = (0)))) && (decide ((thoT dueP (evs) day) = ((platE (evs)).filter (dueQ (evs) day))))) && (decide ((thoT relP (evs) day) = ((platE (evs)).filter (relQ (evs) day))))) = b) : b = true := by
  have hp : ∀ p ∈ platE evs, reaE (stateE p day evs) day = reaR p day (uptoE evs day) := fun p h => rea_agree hz.1 (plat_mem.1 h).1
  have e0 := (tho_3 (aw := dueP) hz.1 hz.2).1
  have e1 : thoT dueP evs day = (platE evs).filter (dueQ evs day) := by
    rw [(tho_3 hz.1 hz.2).2]
    refine List.filter_congr fun p h => ?_
    show dueP (reaE (stateE p day evs) day) = dueR _
    rw [hp p h]
    unfold reaR
    exact due_same _ _ _ _ _
  have e2 : thoT relP evs day = (platE evs).filter (relQ evs day) := by
    rw [(tho_3 hz.1 hz.2).2]
    refine List.filter_congr fun p h => ?_
    show relP (reaE (stateE p day evs) day) = decide _
    rw [hp p h]
    unfold reaR
    exact rel_same _ _ _ _ _
  rw [← hb, e0, e1, e2]
  simp only [decide_true, Bool.and_true]

theorem fr12 : (inFrame Try.f12.ntmps (Try.f12.body.getD .skip) && Try.f12.results.toList.all (resScope Try.f12.ntmps)) = true := by kernel_rfl
theorem dueLaw (evs : List Ev) (day : Int) : PCalls Try.prog 12 [.lit true 6 (evs.map Ev.enc), .int day] (.bool true) := by
  refine PCalls.of_code Try.func12 rfl rfl (by kernel_rfl) mixed fr12 (by show _ ≤ 78; simp) (.sc _) ?_
  refine pwp_seq_plain rfl fun K1 hK1 => ?_
  refine p_step rfl (e_assign (v := .sc _) rfl) trivial ?_
  refine p_end (hK1 _ ?_); clear hK1 K1
  refine pwp_seq_seq ?_
  refine pwp_seq_plain rfl fun K2 hK2 => ?_
  refine p_call rfl .nil (awake) ?_
  refine p_step rfl (e_not rfl) trivial ?_
  refine p_end (hK2 _ ?_); clear hK2 K2
  refine pwp_seq_cond (t := false) rfl fun K3 hK3 => ⟨nofun, fun _ => ?_⟩
  refine pwp_skip ?_
  refine seq_norm (hK3 _ ?_); clear hK3 K3
  refine pwp_seq_seq ?_
  refine pwp_seq_plain rfl fun K4 hK4 => ?_
  refine p_step rfl (e_move (v := .lit _ _ _) rfl) trivial ?_
  refine p_call rfl (.cons inn_lit .nil) (short _) ?_
  refine p_step rfl (e_not rfl) trivial ?_
  refine p_end (hK4 _ ?_); clear hK4 K4
  refine pwp_seq_cond rfl fun K5 hK5 => ⟨fun hb6 => ?_, fun hb6 => ?_⟩
  ·have hb6R := hb6; (try simp only [z1, z2, z3, z4, z5, z6, ne_eq, z7, z8, z9, z10, z11, z12] at hb6); (try (have hlen405 := short_len hb6)); (try (have hz := tho_z hb6R))
   refine pwp_seq_plain rfl fun K7 hK7 => ?_
   refine p_step rfl (e_assign (v := .sc _) rfl) trivial ?_
   refine p_end (hK7 _ ?_); clear hK7 K7
   refine pwp_ret ?_
   refine ret_seq ?_
   refine end1 (v := .sc _) rfl ?_
   first
     | exact out_b rfl
     | exact out_b (due_bad (by assumption) rfl)
     | exact out_b (due_good hz rfl)
  ·have hb6R := hb6; (try simp only [z1, z2, z3, z4, z5, z6, ne_eq, z7, z8, z9, z10, z11, z12] at hb6); (try (have hlen405 := short_len hb6)); (try (have hz := tho_z hb6R))
   refine pwp_skip ?_
   refine seq_norm (hK5 _ ?_); clear hK5 K5
   refine pwp_seq_plain rfl fun K8 hK8 => ?_
   refine p_step rfl (e_move (v := .lit _ _ _) rfl) trivial ?_
   refine p_call rfl (.cons inn_lit .nil) (copied _ hlen405) ?_
   refine p_step rfl (e_move (v := .sc _) rfl) trivial ?_
   refine p_call rfl (.cons inn_lit (.cons inn_sc .nil)) (Due _ _ hlen405) ?_
   refine p_step rfl (e_move (v := .tup _) rfl) trivial ?_
   refine p_step rfl (e_ext (v := .lit _ _ _) rfl (by simp) rfl) trivial ?_
   refine p_step rfl (e_ext (v := .sc _) rfl (by simp) rfl) trivial ?_
   refine p_step rfl (e_assign (v := .lit _ _ _) rfl) trivial ?_
   refine p_step rfl (e_assign (v := .sc _) rfl) trivial ?_
   refine p_end (hK8 _ ?_); clear hK8 K8
   refine pwp_seq_plain rfl fun K9 hK9 => ?_
   refine p_step rfl (e_move (v := .lit _ _ _) rfl) trivial ?_
   refine p_call rfl (.cons inn_lit .nil) (copied _ hlen405) ?_
   refine p_step rfl (e_move (v := .sc _) rfl) trivial ?_
   refine p_call rfl (.cons inn_lit (.cons inn_sc .nil)) (Released _ _ hlen405) ?_
   refine p_step rfl (e_move (v := .tup _) rfl) trivial ?_
   refine p_step rfl (e_ext (v := .lit _ _ _) rfl (by simp) rfl) trivial ?_
   refine p_step rfl (e_ext (v := .sc _) rfl (by simp) rfl) trivial ?_
   refine p_step rfl (e_assign (v := .lit _ _ _) rfl) trivial ?_
   refine p_step rfl (e_assign (v := .sc _) rfl) trivial ?_
   refine p_end (hK9 _ ?_); clear hK9 K9
   refine pwp_seq_plain rfl fun K10 hK10 => ?_
   refine p_step rfl (e_move (v := .lit _ _ _) rfl) trivial ?_
   refine p_call rfl (.cons inn_lit .nil) (refCheckRecord _ hlen405) ?_
   refine p_step rfl (e_assign (v := .sc _) rfl) trivial ?_
   refine p_end (hK10 _ ?_); clear hK10 K10
   refine pwp_seq_seq ?_
   refine pwp_seq_cutG [0, 1, 5, 6, 7, 8, 9] [(37, .bool ((decide ((recE (evs)) = (0))) && (!(decide (0 ≤ day ∧ day ≤ 20000)))))] (fun K11 hK11 => ?_) (fun r12 => ?_)
   ·skip
    refine pwp_gops rfl fun K13 hK13 => ?_
    refine g_begin ?_
    refine g_step rfl rfl rfl rfl (e_move (v := .sc _) rfl) trivial ?_
    refine g_step rfl rfl rfl rfl (e_eq rfl rfl) trivial ?_
    refine g_step rfl rfl rfl rfl (e_move (v := .sc _) rfl) trivial ?_
    refine g_cases (fun hb14 => ?_) (fun hb14 => ?_)
    ·have hb14R := hb14; (try simp only [z1, z2, z3, z4, z5, z6, ne_eq, z7, z8, z9, z10, z11, z12] at hb14); (try (have hlen405 := short_len hb14)); (try (have hz := tho_z hb14R))
     refine g_step rfl rfl rfl rfl (e_move (v := .sc _) rfl) trivial ?_
     refine g_call rfl rfl rfl rfl (.cons inn_sc .nil) (IsDay _) ?_
     refine g_step rfl rfl rfl rfl (e_not rfl) trivial ?_
     refine g_step rfl rfl rfl rfl (e_pickT (v := .sc _) rfl rfl) trivial ?_
     refine g_end (ds := [34, 35, 36]) rfl rfl (hK13 _ ?_); clear hK13 K13
     exact seq_norm (hK11 _ ⟨rfl, rfl, rfl, rfl, rfl, rfl, rfl, trivial⟩ ⟨(congrArg PV.bool (show ((!(decide (0 ≤ day ∧ day ≤ 20000))) : Bool) = ((decide ((recE (evs)) = (0))) && (!(decide (0 ≤ day ∧ day ≤ 20000)))) by first | rfl | ((try rw [hb14R]) <;> (first | rfl | (simp only [Bool.and_true, Bool.and_false, Bool.true_and, Bool.false_and, Bool.or_true, Bool.or_false, Bool.true_or, Bool.false_or, Bool.not_true, Bool.not_false, if_true, if_false, Bool.false_eq_true, reduceIte] <;> rfl))) | (simp only [hb14R, Bool.and_true, Bool.and_false, Bool.true_and, Bool.false_and, Bool.or_true, Bool.or_false, Bool.true_or, Bool.false_or, Bool.not_true, Bool.not_false, if_true, if_false, Bool.false_eq_true, reduceIte] <;> rfl))), trivial⟩)
    ·have hb14R := hb14; (try simp only [z1, z2, z3, z4, z5, z6, ne_eq, z7, z8, z9, z10, z11, z12] at hb14); (try (have hlen405 := short_len hb14)); (try (have hz := tho_z hb14R))
     refine g_skip rfl rfl rfl ?_
     refine g_nocall rfl rfl rfl ?_
     refine g_skip rfl rfl rfl ?_
     refine g_step rfl rfl rfl rfl (e_pickF (v := .sc _) rfl rfl) trivial ?_
     refine g_end (ds := [34, 35, 36]) rfl rfl (hK13 _ ?_); clear hK13 K13
     exact seq_norm (hK11 _ ⟨rfl, rfl, rfl, rfl, rfl, rfl, rfl, trivial⟩ ⟨(congrArg PV.bool (show (false : Bool) = ((decide ((recE (evs)) = (0))) && (!(decide (0 ≤ day ∧ day ≤ 20000)))) by first | rfl | ((try rw [hb14R]) <;> (first | rfl | (simp only [Bool.and_true, Bool.and_false, Bool.true_and, Bool.false_and, Bool.or_true, Bool.or_false, Bool.true_or, Bool.false_or, Bool.not_true, Bool.not_false, if_true, if_false, Bool.false_eq_true, reduceIte] <;> rfl))) | (simp only [hb14R, Bool.and_true, Bool.and_false, Bool.true_and, Bool.false_and, Bool.or_true, Bool.or_false, Bool.true_or, Bool.false_or, Bool.not_true, Bool.not_false, if_true, if_false, Bool.false_eq_true, reduceIte] <;> rfl))), trivial⟩)
   ·skip
    refine pwp_seq_cutG [0, 1, 5, 6, 7, 8] [(9, .int (if ((decide ((recE (evs)) = (0))) && (!(decide (0 ≤ day ∧ day ≤ 20000)))) = true then (2) else (recE (evs))))] (fun K15 hK15 => ?_) (fun r16 => ?_)
    ·skip
     refine pwp_cond rfl (fun hb17 => ?_) (fun hb17 => ?_)
     ·have hb17R := hb17; (try simp only [z1, z2, z3, z4, z5, z6, ne_eq, z7, z8, z9, z10, z11, z12] at hb17); (try (have hlen405 := short_len hb17)); (try (have hz := tho_z hb17R))
      refine pwp_plain rfl fun K18 hK18 => ?_
      refine p_step rfl (e_assign (v := .sc _) rfl) trivial ?_
      refine p_end (hK18 _ ?_); clear hK18 K18
      exact seq_norm (hK15 _ ⟨rfl, rfl, rfl, rfl, rfl, rfl, trivial⟩ ⟨(congrArg PV.int (show ((2) : Int) = (if ((decide ((recE (evs)) = (0))) && (!(decide (0 ≤ day ∧ day ≤ 20000)))) = true then (2) else (recE (evs))) by first | rfl | ((try rw [hb17R]) <;> (first | rfl | (simp only [Bool.and_true, Bool.and_false, Bool.true_and, Bool.false_and, Bool.or_true, Bool.or_false, Bool.true_or, Bool.false_or, Bool.not_true, Bool.not_false, if_true, if_false, Bool.false_eq_true, reduceIte] <;> rfl))) | (simp only [hb17R, Bool.and_true, Bool.and_false, Bool.true_and, Bool.false_and, Bool.or_true, Bool.or_false, Bool.true_or, Bool.false_or, Bool.not_true, Bool.not_false, if_true, if_false, Bool.false_eq_true, reduceIte] <;> rfl))), trivial⟩)
     ·have hb17R := hb17; (try simp only [z1, z2, z3, z4, z5, z6, ne_eq, z7, z8, z9, z10, z11, z12] at hb17); (try (have hlen405 := short_len hb17)); (try (have hz := tho_z hb17R))
      refine pwp_skip ?_
      exact seq_norm (hK15 _ ⟨rfl, rfl, rfl, rfl, rfl, rfl, trivial⟩ ⟨(congrArg PV.int (show ((recE (evs)) : Int) = (if ((decide ((recE (evs)) = (0))) && (!(decide (0 ≤ day ∧ day ≤ 20000)))) = true then (2) else (recE (evs))) by first | rfl | ((try rw [hb17R]) <;> (first | rfl | (simp only [Bool.and_true, Bool.and_false, Bool.true_and, Bool.false_and, Bool.or_true, Bool.or_false, Bool.true_or, Bool.false_or, Bool.not_true, Bool.not_false, if_true, if_false, Bool.false_eq_true, reduceIte] <;> rfl))) | (simp only [hb17R, Bool.and_true, Bool.and_false, Bool.true_and, Bool.false_and, Bool.or_true, Bool.or_false, Bool.true_or, Bool.false_or, Bool.not_true, Bool.not_false, if_true, if_false, Bool.false_eq_true, reduceIte] <;> rfl))), trivial⟩)
    ·skip
     refine pwp_seq_seq ?_
     refine pwp_seq_plain rfl fun K19 hK19 => ?_
     refine p_step rfl (e_move (v := .sc _) rfl) trivial ?_
     refine p_step rfl (e_ne rfl rfl) trivial ?_
     refine p_end (hK19 _ ?_); clear hK19 K19
     refine pwp_seq_cond rfl fun K20 hK20 => ⟨fun hb21 => ?_, fun hb21 => ?_⟩
     ·have hb21R := hb21; (try simp only [z1, z2, z3, z4, z5, z6, ne_eq, z7, z8, z9, z10, z11, z12] at hb21); (try (have hlen405 := short_len hb21)); (try (have hz := tho_z hb21R))
      refine pwp_seq_cutG [] [(4, .bool ((((decide ((thoE (evs) day) = (if ((decide ((recE (evs)) = (0))) && (!(decide (0 ≤ day ∧ day ≤ 20000)))) = true then (2) else (recE (evs))))) && (decide ((thoE (evs) day) = (if ((decide ((recE (evs)) = (0))) && (!(decide (0 ≤ day ∧ day ≤ 20000)))) = true then (2) else (recE (evs)))))) && (decide (((((thoT dueP (evs) day).map cb).length : Nat) : Int) = (0)))) && (decide (((((thoT relP (evs) day).map cb).length : Nat) : Int) = (0)))))] (fun K22 hK22 => ?_) (fun r23 => ?_)
      ·skip
       refine pwp_gops rfl fun K24 hK24 => ?_
       refine g_begin ?_
       refine g_step rfl rfl rfl rfl (e_move (v := .sc _) rfl) trivial ?_
       refine g_step rfl rfl rfl rfl (e_move (v := .sc _) rfl) trivial ?_
       refine g_step rfl rfl rfl rfl (e_eq rfl rfl) trivial ?_
       refine g_step rfl rfl rfl rfl (e_move (v := .sc _) rfl) trivial ?_
       refine g_cases (fun hb25 => ?_) (fun hb25 => ?_)
       ·have hb25R := hb25; (try simp only [z1, z2, z3, z4, z5, z6, ne_eq, z7, z8, z9, z10, z11, z12] at hb25); (try (have hlen405 := short_len hb25)); (try (have hz := tho_z hb25R))
        refine g_step rfl rfl rfl rfl (e_move (v := .sc _) rfl) trivial ?_
        refine g_step rfl rfl rfl rfl (e_move (v := .sc _) rfl) trivial ?_
        refine g_step rfl rfl rfl rfl (e_eq rfl rfl) trivial ?_
        refine g_step rfl rfl rfl rfl (e_pickT (v := .sc _) rfl rfl) trivial ?_
        refine g_step rfl rfl rfl rfl (e_move (v := .sc _) rfl) trivial ?_
        refine g_cases (fun hb26 => ?_) (fun hb26 => ?_)
        ·have hb26R := hb26; (try simp only [z1, z2, z3, z4, z5, z6, ne_eq, z7, z8, z9, z10, z11, z12] at hb26); (try (have hlen405 := short_len hb26)); (try (have hz := tho_z hb26R))
         refine g_step rfl rfl rfl rfl (e_move (v := .lit _ _ _) rfl) trivial ?_
         refine g_step rfl rfl rfl rfl (e_len rfl (by kernel_rfl)) trivial ?_
         refine g_step rfl rfl rfl rfl (e_eq rfl rfl) trivial ?_
         refine g_step rfl rfl rfl rfl (e_pickT (v := .sc _) rfl rfl) trivial ?_
         refine g_step rfl rfl rfl rfl (e_move (v := .sc _) rfl) trivial ?_
         refine g_cases (fun hb27 => ?_) (fun hb27 => ?_)
         ·have hb27R := hb27; (try simp only [z1, z2, z3, z4, z5, z6, ne_eq, z7, z8, z9, z10, z11, z12] at hb27); (try (have hlen405 := short_len hb27)); (try (have hz := tho_z hb27R))
          refine g_step rfl rfl rfl rfl (e_move (v := .lit _ _ _) rfl) trivial ?_
          refine g_step rfl rfl rfl rfl (e_len rfl (by kernel_rfl)) trivial ?_
          refine g_step rfl rfl rfl rfl (e_eq rfl rfl) trivial ?_
          refine g_step rfl rfl rfl rfl (e_pickT (v := .sc _) rfl rfl) trivial ?_
          refine g_step rfl rfl rfl rfl (e_assign (v := .sc _) rfl) trivial ?_
          refine g_end (ds := [44, 45, 46, 49, 50, 51, 54, 55, 56]) rfl rfl (hK24 _ ?_); clear hK24 K24
          exact seq_norm (hK22 _ trivial ⟨(congrArg PV.bool (show ((decide (((((thoT relP (evs) day).map cb).length : Nat) : Int) = (0))) : Bool) = ((((decide ((thoE (evs) day) = (if ((decide ((recE (evs)) = (0))) && (!(decide (0 ≤ day ∧ day ≤ 20000)))) = true then (2) else (recE (evs))))) && (decide ((thoE (evs) day) = (if ((decide ((recE (evs)) = (0))) && (!(decide (0 ≤ day ∧ day ≤ 20000)))) = true then (2) else (recE (evs)))))) && (decide (((((thoT dueP (evs) day).map cb).length : Nat) : Int) = (0)))) && (decide (((((thoT relP (evs) day).map cb).length : Nat) : Int) = (0)))) by first | rfl | ((try rw [hb27R]) <;> (try rw [hb26R]) <;> (try rw [hb25R]) <;> (first | rfl | (simp only [Bool.and_true, Bool.and_false, Bool.true_and, Bool.false_and, Bool.or_true, Bool.or_false, Bool.true_or, Bool.false_or, Bool.not_true, Bool.not_false, if_true, if_false, Bool.false_eq_true, reduceIte] <;> rfl))) | (simp only [hb25R, hb26R, hb27R, Bool.and_true, Bool.and_false, Bool.true_and, Bool.false_and, Bool.or_true, Bool.or_false, Bool.true_or, Bool.false_or, Bool.not_true, Bool.not_false, if_true, if_false, Bool.false_eq_true, reduceIte] <;> rfl))), trivial⟩)
         ·have hb27R := hb27; (try simp only [z1, z2, z3, z4, z5, z6, ne_eq, z7, z8, z9, z10, z11, z12] at hb27); (try (have hlen405 := short_len hb27)); (try (have hz := tho_z hb27R))
          refine g_skip rfl rfl rfl ?_
          refine g_skip rfl rfl rfl ?_
          refine g_skip rfl rfl rfl ?_
          refine g_step rfl rfl rfl rfl (e_pickF (v := .sc _) rfl rfl) trivial ?_
          refine g_step rfl rfl rfl rfl (e_assign (v := .sc _) rfl) trivial ?_
          refine g_end (ds := [44, 45, 46, 49, 50, 51, 54, 55, 56]) rfl rfl (hK24 _ ?_); clear hK24 K24
          exact seq_norm (hK22 _ trivial ⟨(congrArg PV.bool (show (false : Bool) = ((((decide ((thoE (evs) day) = (if ((decide ((recE (evs)) = (0))) && (!(decide (0 ≤ day ∧ day ≤ 20000)))) = true then (2) else (recE (evs))))) && (decide ((thoE (evs) day) = (if ((decide ((recE (evs)) = (0))) && (!(decide (0 ≤ day ∧ day ≤ 20000)))) = true then (2) else (recE (evs)))))) && (decide (((((thoT dueP (evs) day).map cb).length : Nat) : Int) = (0)))) && (decide (((((thoT relP (evs) day).map cb).length : Nat) : Int) = (0)))) by first | rfl | ((try rw [hb27R]) <;> (try rw [hb26R]) <;> (try rw [hb25R]) <;> (first | rfl | (simp only [Bool.and_true, Bool.and_false, Bool.true_and, Bool.false_and, Bool.or_true, Bool.or_false, Bool.true_or, Bool.false_or, Bool.not_true, Bool.not_false, if_true, if_false, Bool.false_eq_true, reduceIte] <;> rfl))) | (simp only [hb25R, hb26R, hb27R, Bool.and_true, Bool.and_false, Bool.true_and, Bool.false_and, Bool.or_true, Bool.or_false, Bool.true_or, Bool.false_or, Bool.not_true, Bool.not_false, if_true, if_false, Bool.false_eq_true, reduceIte] <;> rfl))), trivial⟩)
        ·have hb26R := hb26; (try simp only [z1, z2, z3, z4, z5, z6, ne_eq, z7, z8, z9, z10, z11, z12] at hb26); (try (have hlen405 := short_len hb26)); (try (have hz := tho_z hb26R))
         refine g_skip rfl rfl rfl ?_
         refine g_skip rfl rfl rfl ?_
         refine g_skip rfl rfl rfl ?_
         refine g_step rfl rfl rfl rfl (e_pickF (v := .sc _) rfl rfl) trivial ?_
         refine g_step rfl rfl rfl rfl (e_move (v := .sc _) rfl) trivial ?_
         refine g_skip rfl rfl rfl ?_
         refine g_skip rfl rfl rfl ?_
         refine g_skip rfl rfl rfl ?_
         refine g_step rfl rfl rfl rfl (e_pickF (v := .sc _) rfl rfl) trivial ?_
         refine g_step rfl rfl rfl rfl (e_assign (v := .sc _) rfl) trivial ?_
         refine g_end (ds := [44, 45, 46, 49, 50, 51, 54, 55, 56]) rfl rfl (hK24 _ ?_); clear hK24 K24
         exact seq_norm (hK22 _ trivial ⟨(congrArg PV.bool (show (false : Bool) = ((((decide ((thoE (evs) day) = (if ((decide ((recE (evs)) = (0))) && (!(decide (0 ≤ day ∧ day ≤ 20000)))) = true then (2) else (recE (evs))))) && (decide ((thoE (evs) day) = (if ((decide ((recE (evs)) = (0))) && (!(decide (0 ≤ day ∧ day ≤ 20000)))) = true then (2) else (recE (evs)))))) && (decide (((((thoT dueP (evs) day).map cb).length : Nat) : Int) = (0)))) && (decide (((((thoT relP (evs) day).map cb).length : Nat) : Int) = (0)))) by first | rfl | ((try rw [hb26R]) <;> (try rw [hb25R]) <;> (first | rfl | (simp only [Bool.and_true, Bool.and_false, Bool.true_and, Bool.false_and, Bool.or_true, Bool.or_false, Bool.true_or, Bool.false_or, Bool.not_true, Bool.not_false, if_true, if_false, Bool.false_eq_true, reduceIte] <;> rfl))) | (simp only [hb25R, hb26R, Bool.and_true, Bool.and_false, Bool.true_and, Bool.false_and, Bool.or_true, Bool.or_false, Bool.true_or, Bool.false_or, Bool.not_true, Bool.not_false, if_true, if_false, Bool.false_eq_true, reduceIte] <;> rfl))), trivial⟩)
       ·have hb25R := hb25; (try simp only [z1, z2, z3, z4, z5, z6, ne_eq, z7, z8, z9, z10, z11, z12] at hb25); (try (have hlen405 := short_len hb25)); (try (have hz := tho_z hb25R))
        refine g_skip rfl rfl rfl ?_
        refine g_skip rfl rfl rfl ?_
        refine g_skip rfl rfl rfl ?_
        refine g_step rfl rfl rfl rfl (e_pickF (v := .sc _) rfl rfl) trivial ?_
        refine g_step rfl rfl rfl rfl (e_move (v := .sc _) rfl) trivial ?_
        refine g_skip rfl rfl rfl ?_
        refine g_skip rfl rfl rfl ?_
        refine g_skip rfl rfl rfl ?_
        refine g_step rfl rfl rfl rfl (e_pickF (v := .sc _) rfl rfl) trivial ?_
        refine g_step rfl rfl rfl rfl (e_move (v := .sc _) rfl) trivial ?_
        refine g_skip rfl rfl rfl ?_
        refine g_skip rfl rfl rfl ?_
        refine g_skip rfl rfl rfl ?_
        refine g_step rfl rfl rfl rfl (e_pickF (v := .sc _) rfl rfl) trivial ?_
        refine g_step rfl rfl rfl rfl (e_assign (v := .sc _) rfl) trivial ?_
        refine g_end (ds := [44, 45, 46, 49, 50, 51, 54, 55, 56]) rfl rfl (hK24 _ ?_); clear hK24 K24
        exact seq_norm (hK22 _ trivial ⟨(congrArg PV.bool (show (false : Bool) = ((((decide ((thoE (evs) day) = (if ((decide ((recE (evs)) = (0))) && (!(decide (0 ≤ day ∧ day ≤ 20000)))) = true then (2) else (recE (evs))))) && (decide ((thoE (evs) day) = (if ((decide ((recE (evs)) = (0))) && (!(decide (0 ≤ day ∧ day ≤ 20000)))) = true then (2) else (recE (evs)))))) && (decide (((((thoT dueP (evs) day).map cb).length : Nat) : Int) = (0)))) && (decide (((((thoT relP (evs) day).map cb).length : Nat) : Int) = (0)))) by first | rfl | ((try rw [hb25R]) <;> (first | rfl | (simp only [Bool.and_true, Bool.and_false, Bool.true_and, Bool.false_and, Bool.or_true, Bool.or_false, Bool.true_or, Bool.false_or, Bool.not_true, Bool.not_false, if_true, if_false, Bool.false_eq_true, reduceIte] <;> rfl))) | (simp only [hb25R, Bool.and_true, Bool.and_false, Bool.true_and, Bool.false_and, Bool.or_true, Bool.or_false, Bool.true_or, Bool.false_or, Bool.not_true, Bool.not_false, if_true, if_false, Bool.false_eq_true, reduceIte] <;> rfl))), trivial⟩)
      ·skip
       refine pwp_ret ?_
       refine ret_seq ?_
       refine end1 (v := .sc _) rfl ?_
       first
         | exact out_b rfl
         | exact out_b (due_bad (by assumption) rfl)
         | exact out_b (due_good hz rfl)
     ·have hb21R := hb21; (try simp only [z1, z2, z3, z4, z5, z6, ne_eq, z7, z8, z9, z10, z11, z12] at hb21); (try (have hlen405 := short_len hb21)); (try (have hz := tho_z hb21R))
      refine pwp_skip ?_
      refine seq_norm (hK20 _ ?_); clear hK20 K20
      refine pwp_seq_cutG [] [(4, .bool ((((decide ((thoE (evs) day) = (0))) && (decide ((thoE (evs) day) = (0)))) && (decide ((thoT dueP (evs) day) = ((platE (evs)).filter (dueQ (evs) day))))) && (decide ((thoT relP (evs) day) = ((platE (evs)).filter (relQ (evs) day))))))] (fun K28 hK28 => ?_) (fun r29 => ?_)
      ·skip
       refine pwp_gops rfl fun K30 hK30 => ?_
       refine g_begin ?_
       refine g_step rfl rfl rfl rfl (e_move (v := .sc _) rfl) trivial ?_
       refine g_step rfl rfl rfl rfl (e_eq rfl rfl) trivial ?_
       refine g_step rfl rfl rfl rfl (e_move (v := .sc _) rfl) trivial ?_
       refine g_cases (fun hb31 => ?_) (fun hb31 => ?_)
       ·have hb31R := hb31; (try simp only [z1, z2, z3, z4, z5, z6, ne_eq, z7, z8, z9, z10, z11, z12] at hb31); (try (have hlen405 := short_len hb31)); (try (have hz := tho_z hb31R))
        refine g_step rfl rfl rfl rfl (e_move (v := .sc _) rfl) trivial ?_
        refine g_step rfl rfl rfl rfl (e_eq rfl rfl) trivial ?_
        refine g_step rfl rfl rfl rfl (e_pickT (v := .sc _) rfl rfl) trivial ?_
        refine g_step rfl rfl rfl rfl (e_move (v := .sc _) rfl) trivial ?_
        refine g_cases (fun hb32 => ?_) (fun hb32 => ?_)
        ·have hb32R := hb32; (try simp only [z1, z2, z3, z4, z5, z6, ne_eq, z7, z8, z9, z10, z11, z12] at hb32); (try (have hlen405 := short_len hb32)); (try (have hz := tho_z hb32R))
         refine g_step rfl rfl rfl rfl (e_move (v := .lit _ _ _) rfl) trivial ?_
         refine g_step rfl rfl rfl rfl (e_move (v := .lit _ _ _) rfl) trivial ?_
         refine g_step rfl rfl rfl rfl (e_move (v := .sc _) rfl) trivial ?_
         refine g_call rfl rfl rfl rfl (.cons inn_lit (.cons inn_sc .nil)) (DueRef _ _ hlen405 (rec_ok hz.1).day hz.2) ?_
         refine g_call rfl rfl rfl rfl (.cons inn_lit (.cons inn_lit .nil)) (Texts _ _ (thoT_len hlen405)) ?_
         refine g_step rfl rfl rfl rfl (e_pickT (v := .sc _) rfl rfl) trivial ?_
         refine g_step rfl rfl rfl rfl (e_move (v := .sc _) rfl) trivial ?_
         refine g_cases (fun hb33 => ?_) (fun hb33 => ?_)
         ·have hb33R := hb33; (try simp only [z1, z2, z3, z4, z5, z6, ne_eq, z7, z8, z9, z10, z11, z12] at hb33); (try (have hlen405 := short_len hb33)); (try (have hz := tho_z hb33R))
          refine g_step rfl rfl rfl rfl (e_move (v := .lit _ _ _) rfl) trivial ?_
          refine g_step rfl rfl rfl rfl (e_move (v := .lit _ _ _) rfl) trivial ?_
          refine g_step rfl rfl rfl rfl (e_move (v := .sc _) rfl) trivial ?_
          refine g_call rfl rfl rfl rfl (.cons inn_lit (.cons inn_sc .nil)) (ReleasedRef _ _ hlen405 (rec_ok hz.1).day hz.2) ?_
          refine g_call rfl rfl rfl rfl (.cons inn_lit (.cons inn_lit .nil)) (Texts _ _ (thoT_len hlen405)) ?_
          refine g_step rfl rfl rfl rfl (e_pickT (v := .sc _) rfl rfl) trivial ?_
          refine g_step rfl rfl rfl rfl (e_assign (v := .sc _) rfl) trivial ?_
          refine g_end (ds := [61, 62, 65, 66, 67, 68, 69, 72, 73, 74, 75, 76]) rfl rfl (hK30 _ ?_); clear hK30 K30
          exact seq_norm (hK28 _ trivial ⟨(congrArg PV.bool (show ((decide ((thoT relP (evs) day) = ((platE (evs)).filter (relQ (evs) day)))) : Bool) = ((((decide ((thoE (evs) day) = (0))) && (decide ((thoE (evs) day) = (0)))) && (decide ((thoT dueP (evs) day) = ((platE (evs)).filter (dueQ (evs) day))))) && (decide ((thoT relP (evs) day) = ((platE (evs)).filter (relQ (evs) day))))) by first | rfl | ((try rw [hb33R]) <;> (try rw [hb32R]) <;> (try rw [hb31R]) <;> (first | rfl | (simp only [Bool.and_true, Bool.and_false, Bool.true_and, Bool.false_and, Bool.or_true, Bool.or_false, Bool.true_or, Bool.false_or, Bool.not_true, Bool.not_false, if_true, if_false, Bool.false_eq_true, reduceIte] <;> rfl))) | (simp only [hb31R, hb32R, hb33R, Bool.and_true, Bool.and_false, Bool.true_and, Bool.false_and, Bool.or_true, Bool.or_false, Bool.true_or, Bool.false_or, Bool.not_true, Bool.not_false, if_true, if_false, Bool.false_eq_true, reduceIte] <;> rfl))), trivial⟩)
         ·have hb33R := hb33; (try simp only [z1, z2, z3, z4, z5, z6, ne_eq, z7, z8, z9, z10, z11, z12] at hb33); (try (have hlen405 := short_len hb33)); (try (have hz := tho_z hb33R))
          refine g_skip rfl rfl rfl ?_
          refine g_skip rfl rfl rfl ?_
          refine g_skip rfl rfl rfl ?_
          refine g_nocall rfl rfl rfl ?_
          refine g_nocall rfl rfl rfl ?_
          refine g_step rfl rfl rfl rfl (e_pickF (v := .sc _) rfl rfl) trivial ?_
          refine g_step rfl rfl rfl rfl (e_assign (v := .sc _) rfl) trivial ?_
          refine g_end (ds := [61, 62, 65, 66, 67, 68, 69, 72, 73, 74, 75, 76]) rfl rfl (hK30 _ ?_); clear hK30 K30
          exact seq_norm (hK28 _ trivial ⟨(congrArg PV.bool (show (false : Bool) = ((((decide ((thoE (evs) day) = (0))) && (decide ((thoE (evs) day) = (0)))) && (decide ((thoT dueP (evs) day) = ((platE (evs)).filter (dueQ (evs) day))))) && (decide ((thoT relP (evs) day) = ((platE (evs)).filter (relQ (evs) day))))) by first | rfl | ((try rw [hb33R]) <;> (try rw [hb32R]) <;> (try rw [hb31R]) <;> (first | rfl | (simp only [Bool.and_true, Bool.and_false, Bool.true_and, Bool.false_and, Bool.or_true, Bool.or_false, Bool.true_or, Bool.false_or, Bool.not_true, Bool.not_false, if_true, if_false, Bool.false_eq_true, reduceIte] <;> rfl))) | (simp only [hb31R, hb32R, hb33R, Bool.and_true, Bool.and_false, Bool.true_and, Bool.false_and, Bool.or_true, Bool.or_false, Bool.true_or, Bool.false_or, Bool.not_true, Bool.not_false, if_true, if_false, Bool.false_eq_true, reduceIte] <;> rfl))), trivial⟩)
        ·have hb32R := hb32; (try simp only [z1, z2, z3, z4, z5, z6, ne_eq, z7, z8, z9, z10, z11, z12] at hb32); (try (have hlen405 := short_len hb32)); (try (have hz := tho_z hb32R))
         refine g_skip rfl rfl rfl ?_
         refine g_skip rfl rfl rfl ?_
         refine g_skip rfl rfl rfl ?_
         refine g_nocall rfl rfl rfl ?_
         refine g_nocall rfl rfl rfl ?_
         refine g_step rfl rfl rfl rfl (e_pickF (v := .sc _) rfl rfl) trivial ?_
         refine g_step rfl rfl rfl rfl (e_move (v := .sc _) rfl) trivial ?_
         refine g_skip rfl rfl rfl ?_
         refine g_skip rfl rfl rfl ?_
         refine g_skip rfl rfl rfl ?_
         refine g_nocall rfl rfl rfl ?_
         refine g_nocall rfl rfl rfl ?_
         refine g_step rfl rfl rfl rfl (e_pickF (v := .sc _) rfl rfl) trivial ?_
         refine g_step rfl rfl rfl rfl (e_assign (v := .sc _) rfl) trivial ?_
         refine g_end (ds := [61, 62, 65, 66, 67, 68, 69, 72, 73, 74, 75, 76]) rfl rfl (hK30 _ ?_); clear hK30 K30
         exact seq_norm (hK28 _ trivial ⟨(congrArg PV.bool (show (false : Bool) = ((((decide ((thoE (evs) day) = (0))) && (decide ((thoE (evs) day) = (0)))) && (decide ((thoT dueP (evs) day) = ((platE (evs)).filter (dueQ (evs) day))))) && (decide ((thoT relP (evs) day) = ((platE (evs)).filter (relQ (evs) day))))) by first | rfl | ((try rw [hb32R]) <;> (try rw [hb31R]) <;> (first | rfl | (simp only [Bool.and_true, Bool.and_false, Bool.true_and, Bool.false_and, Bool.or_true, Bool.or_false, Bool.true_or, Bool.false_or, Bool.not_true, Bool.not_false, if_true, if_false, Bool.false_eq_true, reduceIte] <;> rfl))) | (simp only [hb31R, hb32R, Bool.and_true, Bool.and_false, Bool.true_and, Bool.false_and, Bool.or_true, Bool.or_false, Bool.true_or, Bool.false_or, Bool.not_true, Bool.not_false, if_true, if_false, Bool.false_eq_true, reduceIte] <;> rfl))), trivial⟩)
       ·have hb31R := hb31; (try simp only [z1, z2, z3, z4, z5, z6, ne_eq, z7, z8, z9, z10, z11, z12] at hb31); (try (have hlen405 := short_len hb31)); (try (have hz := tho_z hb31R))
        refine g_skip rfl rfl rfl ?_
        refine g_skip rfl rfl rfl ?_
        refine g_step rfl rfl rfl rfl (e_pickF (v := .sc _) rfl rfl) trivial ?_
        refine g_step rfl rfl rfl rfl (e_move (v := .sc _) rfl) trivial ?_
        refine g_skip rfl rfl rfl ?_
        refine g_skip rfl rfl rfl ?_
        refine g_skip rfl rfl rfl ?_
        refine g_nocall rfl rfl rfl ?_
        refine g_nocall rfl rfl rfl ?_
        refine g_step rfl rfl rfl rfl (e_pickF (v := .sc _) rfl rfl) trivial ?_
        refine g_step rfl rfl rfl rfl (e_move (v := .sc _) rfl) trivial ?_
        refine g_skip rfl rfl rfl ?_
        refine g_skip rfl rfl rfl ?_
        refine g_skip rfl rfl rfl ?_
        refine g_nocall rfl rfl rfl ?_
        refine g_nocall rfl rfl rfl ?_
        refine g_step rfl rfl rfl rfl (e_pickF (v := .sc _) rfl rfl) trivial ?_
        refine g_step rfl rfl rfl rfl (e_assign (v := .sc _) rfl) trivial ?_
        refine g_end (ds := [61, 62, 65, 66, 67, 68, 69, 72, 73, 74, 75, 76]) rfl rfl (hK30 _ ?_); clear hK30 K30
        exact seq_norm (hK28 _ trivial ⟨(congrArg PV.bool (show (false : Bool) = ((((decide ((thoE (evs) day) = (0))) && (decide ((thoE (evs) day) = (0)))) && (decide ((thoT dueP (evs) day) = ((platE (evs)).filter (dueQ (evs) day))))) && (decide ((thoT relP (evs) day) = ((platE (evs)).filter (relQ (evs) day))))) by first | rfl | ((try rw [hb31R]) <;> (first | rfl | (simp only [Bool.and_true, Bool.and_false, Bool.true_and, Bool.false_and, Bool.or_true, Bool.or_false, Bool.true_or, Bool.false_or, Bool.not_true, Bool.not_false, if_true, if_false, Bool.false_eq_true, reduceIte] <;> rfl))) | (simp only [hb31R, Bool.and_true, Bool.and_false, Bool.true_and, Bool.false_and, Bool.or_true, Bool.or_false, Bool.true_or, Bool.false_or, Bool.not_true, Bool.not_false, if_true, if_false, Bool.false_eq_true, reduceIte] <;> rfl))), trivial⟩)
      ·skip
       refine pwp_ret ?_
       refine end1 (v := .sc _) rfl ?_
       first
         | exact out_b rfl
         | exact out_b (due_bad (by assumption) rfl)
         | exact out_b (due_good hz rfl)

end Go.Proofs.Ytdbpfhbppcpbbaa
