import Derived.Test.YtdbpfhbppcpbbaaMovA
import Derived.Test.YtdbpfhbppcpbbaaPvZ8
/- Lots of the reference. No conditions. -/
set_option linter.unusedSimpArgs false
set_option linter.unusedVariables false
set_option maxRecDepth 100000
namespace Go.Proofs.Ytdbpfhbppcpbbaa
open Go Go.Pv
/-! ### Lots, by the numbers of the pieces -/
def goneR (p : ByteArray) (f e d : Int) : Int → List Move → List Lot
  | _, [] => []
  | w, m :: l => if m.part = p ∧ ¬ m.kind = 0 then (if 0 < min e (w + m.count) - max f w then [⟨p, min e (w + m.count) - max f w, d, m.day, m.kind⟩] else []) ++ goneR p f e d (w + m.count) l else goneR p f e d w l
def wentR (p : ByteArray) : Int → List Move → Int
  | w, [] => w
  | w, m :: l => if m.part = p ∧ ¬ m.kind = 0 then wentR p (w + m.count) l else wentR p w l
def leftR (p : ByteArray) (f e d w : Int) : List Lot := if 0 < e - max f w then [⟨p, e - max f w, d, -1, -1⟩] else []
def lotsGo (p : ByteArray) (ms : List Move) : Int → List Move → List Lot
  | _, [] => []
  | c, m :: l => if m.part = p ∧ m.kind = 0 then goneR p c (c + m.count) m.day 0 ms ++ leftR p c (c + m.count) m.day (wentR p 0 ms) ++ lotsGo p ms (c + m.count) l else lotsGo p ms c l
/-- The lots of a part. -/
def lotsR (p : ByteArray) (ms : List Move) : List Lot := lotsGo p ms 0 ms
section
variable {p : ByteArray} {ms l : List Move} {m : Move} {acc A B : List Lot} {f e d w c W : Int}
theorem gone_skip (h : A = acc ++ goneR p f e d w (m :: l)) (hn : ¬ (m.part = p ∧ ¬ m.kind = 0)) : A = acc ++ goneR p f e d w l := by rw [h, goneR, if_neg hn]
theorem gone_no (h : A = acc ++ goneR p f e d w (m :: l)) (h1 : m.part = p) (h2 : ¬ m.kind = 0) (h3 : ¬ 0 < min e (w + m.count) - max f w) : A = acc ++ goneR p f e d (w + m.count) l := by rw [h, goneR, if_pos ⟨h1, h2⟩, if_neg h3, List.nil_append]
theorem gone_yes (h : A = acc ++ goneR p f e d w (m :: l)) (h1 : m.part = p) (h2 : ¬ m.kind = 0) (h3 : 0 < min e (w + m.count) - max f w) : A = (acc ++ [⟨p, min e (w + m.count) - max f w, d, m.day, m.kind⟩]) ++ goneR p f e d (w + m.count) l := by rw [h, goneR, if_pos ⟨h1, h2⟩, if_pos h3, List.append_assoc]
theorem went_skip (h : W = wentR p w (m :: l)) (hn : ¬ (m.part = p ∧ ¬ m.kind = 0)) : W = wentR p w l := by rw [h, wentR, if_neg hn]
theorem went_on (h : W = wentR p w (m :: l)) (h1 : m.part = p) (h2 : ¬ m.kind = 0) : W = wentR p (w + m.count) l := by rw [h, wentR, if_pos ⟨h1, h2⟩]
theorem lots_skip (h : A = acc ++ lotsGo p ms c (m :: l)) (hn : ¬ (m.part = p ∧ m.kind = 0)) : A = acc ++ lotsGo p ms c l := by rw [h, lotsGo, if_neg hn]
theorem lots_no (h : A = acc ++ lotsGo p ms c (m :: l)) (h1 : m.part = p) (h2 : m.kind = 0) (hB : acc ++ goneR p c (c + m.count) m.day 0 ms = B) (hw : wentR p 0 ms = w) (h3 : ¬ 0 < c + m.count - max c w) : A = B ++ lotsGo p ms (c + m.count) l := by
  rw [h, lotsGo, if_pos ⟨h1, h2⟩, ← hB, leftR, hw, if_neg h3, List.append_nil, List.append_assoc]
theorem lots_yes (h : A = acc ++ lotsGo p ms c (m :: l)) (h1 : m.part = p) (h2 : m.kind = 0) (hB : acc ++ goneR p c (c + m.count) m.day 0 ms = B) (hw : wentR p 0 ms = w) (h3 : 0 < c + m.count - max c w) : A = (B ++ [⟨p, c + m.count - max c w, m.day, -1, -1⟩]) ++ lotsGo p ms (c + m.count) l := by
  rw [h, lotsGo, if_pos ⟨h1, h2⟩, ← hB, leftR, hw, if_pos h3]; simp only [List.append_assoc]
end
theorem gone_len (p : ByteArray) (f e d : Int) : ∀ (l : List Move) (w : Int), (goneR p f e d w l).length ≤ l.length
  | [], _ => Nat.le_refl _
  | m :: l, w => by
    have h1 := gone_len p f e d l (w + m.count)
    have h2 := gone_len p f e d l w
    unfold goneR
    split
    · split
      · rw [List.length_append, List.length_cons, List.length_cons, List.length_nil]; omega
      · rw [List.nil_append, List.length_cons]; omega
    · rw [List.length_cons]; omega
theorem lotsGo_len (p : ByteArray) (ms : List Move) : ∀ (l : List Move) (c : Int), (lotsGo p ms c l).length ≤ l.length * (ms.length + 1)
  | [], _ => Nat.zero_le _
  | m :: l, c => by
    have h1 := lotsGo_len p ms l (c + m.count)
    have h2 := lotsGo_len p ms l c
    have h3 := gone_len p c (c + m.count) m.day ms 0
    have h4 : (leftR p c (c + m.count) m.day (wentR p 0 ms)).length ≤ 1 := by unfold leftR; split <;> simp
    unfold lotsGo
    rw [List.length_cons, Nat.succ_mul]
    split
    · rw [List.length_append, List.length_append]; omega
    · omega
theorem lotsR_len (p : ByteArray) (ms : List Move) (h : ms.length ≤ 305) : (lotsR p ms).length ≤ 93330 := by
  have h1 := lotsGo_len p ms ms 0
  have h2 : ms.length * (ms.length + 1) ≤ 305 * 306 := Nat.mul_le_mul h (by omega)
  unfold lotsR; omega
/-- The lots of all parts. -/
def lotsT (ts : List Term) (ms : List Move) : List Lot := ts.flatMap fun t => lotsR t.part ms
theorem lotsT_len (ts : List Term) (ms : List Move) (h : ms.length ≤ 305) : (lotsT ts ms).length ≤ ts.length * 93330 := by
  unfold lotsT
  induction ts with
  | nil => simp
  | cons t ts ih =>
    have := lotsR_len t.part ms h
    rw [List.flatMap_cons, List.length_append, List.length_cons, Nat.succ_mul]; omega

theorem fr84 : (inFrame Try.f84.ntmps (Try.f84.body.getD .skip) && Try.f84.results.toList.all (resScope Try.f84.ntmps)) = true := by kernel_rfl
theorem lotsOf (ms : List Move) (p : ByteArray) (hl : ms.length ≤ 305) (hok : ∀ m ∈ ms, okM m) : PCalls Try.prog 84 [.lit true 4 (ms.map Move.enc), .str p] (.lit false 5 ((lotsR p ms).map Lot.enc)) := by
  refine PCalls.of_code Try.func84 rfl rfl (by kernel_rfl) mixed fr84 (by show _ ≤ 127; simp) (.lit _ _ _ fun row hr => pure_map Lot.pure row hr) ?_
  refine pwp_seq_plain rfl fun K1 hK1 => ?_
  refine p_step rfl (e_assign (v := .nil) rfl) trivial ?_
  refine p_end (hK1 _ ?_); clear hK1 K1
  refine pwp_seq_plain rfl fun K2 hK2 => ?_
  refine p_step rfl (e_assign (v := .nil) rfl) trivial ?_
  refine p_end (hK2 _ ?_); clear hK2 K2
  refine pwp_seq_plain rfl fun K3 hK3 => ?_
  refine p_step rfl (e_assign (v := .sc _) rfl) trivial ?_
  refine p_end (hK3 _ ?_); clear hK3 K3
  refine pwp_seq_seq ?_
  refine pwp_seq_plain rfl fun K4 hK4 => ?_
  refine p_step rfl (e_assign (v := .sc _) rfl) trivial ?_
  refine p_end (hK4 _ ?_); clear hK4 K4
  refine pwp_seq_block fun K5 hK5 => ?_
  refine pwp_loopR (α := Nat × Int × (List Lot) × PV) [0, 1] (fun (a6 : Nat × Int × (List Lot) × PV) => [(5, (a6.2.2.2)), (6, .int (a6.2.1)), (7, .int (a6.1))]) (fun (a6 : Nat × Int × (List Lot) × PV) (h : Heap) (_ : Nat → Nat) => ((a6.1) ≤ ms.length) ∧ (lotsR p ms = (a6.2.2.1) ++ lotsGo p ms (a6.2.1) (ms.drop (a6.1))) ∧ (0 ≤ (a6.2.1) ∧ (a6.2.1) ≤ 100000 * ((a6.1) : Int)) ∧ ((a6.2.2.1).length ≤ (a6.1) * 306) ∧ (SliceAt h 99 (a6.2.2.2) 5 ((a6.2.2.1).map Lot.enc))) (fun (a6 : Nat × Int × (List Lot) × PV) => ms.length - (a6.1)) (0, 0, [], .nil) (by exact ⟨rfl, rfl, rfl, trivial⟩) (by exact ⟨by exact Nat.zero_le _, by exact rfl, by (show (0 : Int) ≤ 0 ∧ (0 : Int) ≤ _; omega), by exact Nat.zero_le _, .nil⟩) fun a6 r7 h8 c9 hj10 => ?_
  obtain ⟨k, c, acc, v⟩ := a6
  obtain ⟨hk, hinv, hcb, hlen, hihj10_0⟩ := hj10
  try dsimp only at hk
  try dsimp only at hinv
  try dsimp only at hcb
  try dsimp only at hlen
  try dsimp only at hihj10_0
  show pwp _ _ (loopQ _ _ _) ⟨sets (mix _ _ _) [(5, v), (6, .int c), (7, .int k)], _, _⟩
  refine pwp_seq_seq ?_
  refine pwp_seq_plain rfl fun K11 hK11 => ?_
  refine p_step rfl (e_move (v := .sc _) rfl) trivial ?_
  refine p_step rfl (e_move (v := .lit _ _ _) rfl) trivial ?_
  refine p_step rfl (e_len rfl (by kernel_rfl)) trivial ?_
  refine p_step rfl (e_lt rfl rfl) trivial ?_
  refine p_end (hK11 _ ?_); clear hK11 K11
  refine pwp_seq_cond rfl fun K12 hK12 => ⟨fun hb13 => ?_, fun hb13 => ?_⟩
  ·have hb13R := hb13; try simp only [z1, z2, z3, z4, z5, z6, ne_eq, z7, z8, z9, z10, z11, z12] at hb13
   obtain ⟨x, hx, hd, ht⟩ := get_lt (xs := ms) (i := k) (by omega)
   rw [hd] at hinv
   have hxm := (hok x (List.mem_of_getElem? hx)).2
   refine pwp_skip ?_
   refine seq_norm (hK12 _ ?_); clear hK12 K12
   refine pwp_seq_block fun K14 hK14 => ?_
   refine pwp_seq_seq ?_
   refine pwp_seq_gops rfl fun K15 hK15 => ?_
   refine g_begin ?_
   refine g_step rfl rfl rfl rfl (e_move (v := .lit _ _ _) rfl) trivial ?_
   refine g_step rfl rfl rfl rfl (e_move (v := .sc _) rfl) trivial ?_
   refine g_step rfl rfl rfl rfl (e_ixa rfl rfl (by kernel_rfl) (by kernel_rfl) (by simp only [List.length_map]; omega)) trivial ?_
   refine g_step rfl rfl rfl rfl (e_fa (pl := [(0, 1, false), (1, 1, false), (2, 1, false), (3, 1, false)]) rfl (by kernel_rfl) (by kernel_rfl) (by decide) rfl) trivial ?_
   refine g_step rfl rfl rfl rfl (e_load (v := .sc _) rfl (by kernel_rfl) (by kernel_rfl) (by kernel_rfl) (by simp only [List.length_map]; omega) (by decide) ((cell_map hx _).trans rfl)) trivial ?_
   refine g_step rfl rfl rfl rfl (e_move (v := .sc _) rfl) trivial ?_
   refine g_step rfl rfl rfl rfl (e_sne rfl rfl) trivial ?_
   refine g_step rfl rfl rfl rfl (e_move (v := .sc _) rfl) trivial ?_
   refine g_cases (fun hb16 => ?_) (fun hb16 => ?_)
   ·have hb16R := hb16; try simp only [z1, z2, z3, z4, z5, z6, ne_eq, z7, z8, z9, z10, z11, z12] at hb16
    refine g_skip rfl rfl rfl ?_
    refine g_skip rfl rfl rfl ?_
    refine g_skip rfl rfl rfl ?_
    refine g_skip rfl rfl rfl ?_
    refine g_skip rfl rfl rfl ?_
    refine g_skip rfl rfl rfl ?_
    refine g_step rfl rfl rfl rfl (e_pickT (v := .sc _) rfl rfl) trivial ?_
    refine g_end (ds := [28, 29, 30, 31, 32, 33]) rfl rfl (hK15 _ ?_); clear hK15 K15
    refine pwp_seq_cond (t := true) rfl fun K17 hK17 => ⟨fun _ => ?_, nofun⟩
    refine pwp_exit ?_
    refine exit_seq ?_
    clear hK17 K17
    refine exit_here ?_
    refine seq_norm (hK14 _ ?_); clear hK14 K14
    refine pwp_plain rfl fun K18 hK18 => ?_
    refine p_step rfl (e_move (v := .sc _) rfl) trivial ?_
    refine p_step rfl (e_add rfl rfl (by omega)) trivial ?_
    refine p_step rfl (e_assign (v := .sc _) rfl) trivial ?_
    refine p_end (hK18 _ ?_); clear hK18 K18
    exact loop_again ((k + 1, c, acc, v)) (by show _ < _; simp only; omega) ⟨rfl, rfl, trivial⟩ ⟨rfl, rfl, rfl, trivial⟩ (by exact ⟨by show _ + 1 ≤ _; omega, by first | exact lots_skip hinv (by rintro ⟨q1, q2⟩; first | exact absurd q1 (by assumption) | omega) | exact lots_no hinv (by assumption) (by assumption) hB hW (by omega) | exact lots_yes hinv (by assumption) (by assumption) hB hW (by omega), by (dsimp only; omega), by (dsimp only; try simp only [List.length_append, List.length_cons, List.length_nil]); omega, (SliceAt.to hihj10_0 (by simp [Lot.enc]))⟩)
   ·have hb16R := hb16; try simp only [z1, z2, z3, z4, z5, z6, ne_eq, z7, z8, z9, z10, z11, z12] at hb16
    refine g_step rfl rfl rfl rfl (e_move (v := .lit _ _ _) rfl) trivial ?_
    refine g_step rfl rfl rfl rfl (e_move (v := .sc _) rfl) trivial ?_
    refine g_step rfl rfl rfl rfl (e_ixa rfl rfl (by kernel_rfl) (by kernel_rfl) (by simp only [List.length_map]; omega)) trivial ?_
    refine g_step rfl rfl rfl rfl (e_fa (pl := [(0, 1, false), (1, 1, false), (2, 1, false), (3, 1, false)]) rfl (by kernel_rfl) (by kernel_rfl) (by decide) rfl) trivial ?_
    refine g_step rfl rfl rfl rfl (e_load (v := .sc _) rfl (by kernel_rfl) (by kernel_rfl) (by kernel_rfl) (by simp only [List.length_map]; omega) (by decide) ((cell_map hx _).trans rfl)) trivial ?_
    refine g_step rfl rfl rfl rfl (e_ne rfl rfl) trivial ?_
    refine g_step rfl rfl rfl rfl (e_pickF (v := .sc _) rfl rfl) trivial ?_
    refine g_end (ds := [28, 29, 30, 31, 32, 33]) rfl rfl (hK15 _ ?_); clear hK15 K15
    refine pwp_seq_cond rfl fun K19 hK19 => ⟨fun hb20 => ?_, fun hb20 => ?_⟩
    ·have hb20R := hb20; try simp only [z1, z2, z3, z4, z5, z6, ne_eq, z7, z8, z9, z10, z11, z12] at hb20
     refine pwp_exit ?_
     refine exit_seq ?_
     clear hK19 K19
     refine exit_here ?_
     refine seq_norm (hK14 _ ?_); clear hK14 K14
     refine pwp_plain rfl fun K21 hK21 => ?_
     refine p_step rfl (e_move (v := .sc _) rfl) trivial ?_
     refine p_step rfl (e_add rfl rfl (by omega)) trivial ?_
     refine p_step rfl (e_assign (v := .sc _) rfl) trivial ?_
     refine p_end (hK21 _ ?_); clear hK21 K21
     exact loop_again ((k + 1, c, acc, v)) (by show _ < _; simp only; omega) ⟨rfl, rfl, trivial⟩ ⟨rfl, rfl, rfl, trivial⟩ (by exact ⟨by show _ + 1 ≤ _; omega, by first | exact lots_skip hinv (by rintro ⟨q1, q2⟩; first | exact absurd q1 (by assumption) | omega) | exact lots_no hinv (by assumption) (by assumption) hB hW (by omega) | exact lots_yes hinv (by assumption) (by assumption) hB hW (by omega), by (dsimp only; omega), by (dsimp only; try simp only [List.length_append, List.length_cons, List.length_nil]); omega, (SliceAt.to hihj10_0 (by simp [Lot.enc]))⟩)
    ·have hb20R := hb20; try simp only [z1, z2, z3, z4, z5, z6, ne_eq, z7, z8, z9, z10, z11, z12] at hb20
     refine pwp_skip ?_
     refine seq_norm (hK19 _ ?_); clear hK19 K19
     refine pwp_seq_gops rfl fun K22 hK22 => ?_
     refine g_begin ?_
     refine g_step rfl rfl rfl rfl (e_move (v := .sc _) rfl) trivial ?_
     refine g_step rfl rfl rfl rfl (e_move (v := .sc _) rfl) trivial ?_
     refine g_step rfl rfl rfl rfl (e_move (v := .lit _ _ _) rfl) trivial ?_
     refine g_step rfl rfl rfl rfl (e_move (v := .sc _) rfl) trivial ?_
     refine g_step rfl rfl rfl rfl (e_ixa rfl rfl (by kernel_rfl) (by kernel_rfl) (by simp only [List.length_map]; omega)) trivial ?_
     refine g_step rfl rfl rfl rfl (e_fa (pl := [(0, 1, false), (1, 1, false), (2, 1, false), (3, 1, false)]) rfl (by kernel_rfl) (by kernel_rfl) (by decide) rfl) trivial ?_
     refine g_step rfl rfl rfl rfl (e_load (v := .sc _) rfl (by kernel_rfl) (by kernel_rfl) (by kernel_rfl) (by simp only [List.length_map]; omega) (by decide) ((cell_map hx _).trans rfl)) trivial ?_
     refine g_step rfl rfl rfl rfl (e_add rfl rfl (by omega)) trivial ?_
     refine g_step rfl rfl rfl rfl (e_assign (v := .sc _) rfl) trivial ?_
     refine g_step rfl rfl rfl rfl (e_assign (v := .sc _) rfl) trivial ?_
     refine g_end (ds := []) (by kernel_rfl) rfl (hK22 _ ?_); clear hK22 K22
     refine pwp_seq_plain rfl fun K23 hK23 => ?_
     refine p_step rfl (e_assign (v := .sc _) rfl) trivial ?_
     refine p_end (hK23 _ ?_); clear hK23 K23
     refine pwp_seq_seq ?_
     refine pwp_seq_plain rfl fun K24 hK24 => ?_
     refine p_step rfl (e_assign (v := .sc _) rfl) trivial ?_
     refine p_end (hK24 _ ?_); clear hK24 K24
     refine pwp_seq_block fun K25 hK25 => ?_
     refine pwp_loopR (α := Nat × Int × (List Lot) × PV) [0, 1, 7, 8, 9] (fun (a26 : Nat × Int × (List Lot) × PV) => [(5, (a26.2.2.2)), (10, .int (a26.2.1)), (11, .int (a26.1))]) (fun (a26 : Nat × Int × (List Lot) × PV) (h : Heap) (_ : Nat → Nat) => ((a26.1) ≤ ms.length) ∧ (acc ++ goneR p c (c + x.count) x.day 0 ms = (a26.2.2.1) ++ goneR p c (c + x.count) x.day (a26.2.1) (ms.drop (a26.1))) ∧ (wentR p 0 ms = wentR p (a26.2.1) (ms.drop (a26.1))) ∧ (0 ≤ (a26.2.1) ∧ (a26.2.1) ≤ 100000 * ((a26.1) : Int)) ∧ ((a26.2.2.1).length ≤ acc.length + (a26.1)) ∧ (SliceAt h 99 (a26.2.2.2) 5 ((a26.2.2.1).map Lot.enc))) (fun (a26 : Nat × Int × (List Lot) × PV) => ms.length - (a26.1)) (0, 0, acc, _) (by exact ⟨rfl, rfl, rfl, trivial⟩) (by exact ⟨by exact Nat.zero_le _, by exact rfl, by exact rfl, by (show (0 : Int) ≤ 0 ∧ (0 : Int) ≤ _; omega), by exact Nat.le_refl _, hihj10_0⟩) fun a26 r27 h28 c29 hj30 => ?_
     obtain ⟨j, w, bcc, u⟩ := a26
     obtain ⟨hj, hB, hW, hwb, hbl, hihj30_0⟩ := hj30
     try dsimp only at hj
     try dsimp only at hB
     try dsimp only at hW
     try dsimp only at hwb
     try dsimp only at hbl
     try dsimp only at hihj30_0
     show pwp _ _ (loopQ _ _ _) ⟨sets (mix _ _ _) [(5, u), (10, .int w), (11, .int j)], _, _⟩
     refine pwp_seq_seq ?_
     refine pwp_seq_plain rfl fun K31 hK31 => ?_
     refine p_step rfl (e_move (v := .sc _) rfl) trivial ?_
     refine p_step rfl (e_move (v := .lit _ _ _) rfl) trivial ?_
     refine p_step rfl (e_len rfl (by kernel_rfl)) trivial ?_
     refine p_step rfl (e_lt rfl rfl) trivial ?_
     refine p_end (hK31 _ ?_); clear hK31 K31
     refine pwp_seq_cond rfl fun K32 hK32 => ⟨fun hb33 => ?_, fun hb33 => ?_⟩
     ·have hb33R := hb33; try simp only [z1, z2, z3, z4, z5, z6, ne_eq, z7, z8, z9, z10, z11, z12] at hb33
      obtain ⟨y, hy, hdy, hty⟩ := get_lt (xs := ms) (i := j) (by omega)
      rw [hdy] at hB hW
      have hym := (hok y (List.mem_of_getElem? hy)).2
      refine pwp_skip ?_
      refine seq_norm (hK32 _ ?_); clear hK32 K32
      refine pwp_seq_block fun K34 hK34 => ?_
      refine pwp_seq_seq ?_
      refine pwp_seq_gops rfl fun K35 hK35 => ?_
      refine g_begin ?_
      refine g_step rfl rfl rfl rfl (e_move (v := .lit _ _ _) rfl) trivial ?_
      refine g_step rfl rfl rfl rfl (e_move (v := .sc _) rfl) trivial ?_
      refine g_step rfl rfl rfl rfl (e_ixa rfl rfl (by kernel_rfl) (by kernel_rfl) (by simp only [List.length_map]; omega)) trivial ?_
      refine g_step rfl rfl rfl rfl (e_fa (pl := [(0, 1, false), (1, 1, false), (2, 1, false), (3, 1, false)]) rfl (by kernel_rfl) (by kernel_rfl) (by decide) rfl) trivial ?_
      refine g_step rfl rfl rfl rfl (e_load (v := .sc _) rfl (by kernel_rfl) (by kernel_rfl) (by kernel_rfl) (by simp only [List.length_map]; omega) (by decide) ((cell_map hy _).trans rfl)) trivial ?_
      refine g_step rfl rfl rfl rfl (e_move (v := .sc _) rfl) trivial ?_
      refine g_step rfl rfl rfl rfl (e_sne rfl rfl) trivial ?_
      refine g_step rfl rfl rfl rfl (e_move (v := .sc _) rfl) trivial ?_
      refine g_cases (fun hb36 => ?_) (fun hb36 => ?_)
      ·have hb36R := hb36; try simp only [z1, z2, z3, z4, z5, z6, ne_eq, z7, z8, z9, z10, z11, z12] at hb36
       refine g_skip rfl rfl rfl ?_
       refine g_skip rfl rfl rfl ?_
       refine g_skip rfl rfl rfl ?_
       refine g_skip rfl rfl rfl ?_
       refine g_skip rfl rfl rfl ?_
       refine g_skip rfl rfl rfl ?_
       refine g_step rfl rfl rfl rfl (e_pickT (v := .sc _) rfl rfl) trivial ?_
       refine g_end (ds := [57, 58, 59, 60, 61, 62]) rfl rfl (hK35 _ ?_); clear hK35 K35
       refine pwp_seq_cond (t := true) rfl fun K37 hK37 => ⟨fun _ => ?_, nofun⟩
       refine pwp_exit ?_
       refine exit_seq ?_
       clear hK37 K37
       refine exit_here ?_
       refine seq_norm (hK34 _ ?_); clear hK34 K34
       refine pwp_plain rfl fun K38 hK38 => ?_
       refine p_step rfl (e_move (v := .sc _) rfl) trivial ?_
       refine p_step rfl (e_add rfl rfl (by omega)) trivial ?_
       refine p_step rfl (e_assign (v := .sc _) rfl) trivial ?_
       refine p_end (hK38 _ ?_); clear hK38 K38
       exact loop_again ((j + 1, w, bcc, u)) (by show _ < _; simp only; omega) ⟨rfl, rfl, rfl, rfl, rfl, trivial⟩ ⟨rfl, rfl, rfl, trivial⟩ (by exact ⟨by show _ + 1 ≤ _; omega, by first | exact gone_skip hB (by rintro ⟨q1, q2⟩; first | exact absurd q1 (by assumption) | omega) | exact gone_no hB (by assumption) (by assumption) (by omega) | exact gone_yes hB (by assumption) (by assumption) (by omega), by first | exact went_skip hW (by rintro ⟨q1, q2⟩; first | exact absurd q1 (by assumption) | omega) | exact went_on hW (by assumption) (by assumption), by (dsimp only; omega), by (dsimp only; try simp only [List.length_append, List.length_cons, List.length_nil]); omega, (SliceAt.to hihj30_0 (by simp [Lot.enc]))⟩)
      ·have hb36R := hb36; try simp only [z1, z2, z3, z4, z5, z6, ne_eq, z7, z8, z9, z10, z11, z12] at hb36
       refine g_step rfl rfl rfl rfl (e_move (v := .lit _ _ _) rfl) trivial ?_
       refine g_step rfl rfl rfl rfl (e_move (v := .sc _) rfl) trivial ?_
       refine g_step rfl rfl rfl rfl (e_ixa rfl rfl (by kernel_rfl) (by kernel_rfl) (by simp only [List.length_map]; omega)) trivial ?_
       refine g_step rfl rfl rfl rfl (e_fa (pl := [(0, 1, false), (1, 1, false), (2, 1, false), (3, 1, false)]) rfl (by kernel_rfl) (by kernel_rfl) (by decide) rfl) trivial ?_
       refine g_step rfl rfl rfl rfl (e_load (v := .sc _) rfl (by kernel_rfl) (by kernel_rfl) (by kernel_rfl) (by simp only [List.length_map]; omega) (by decide) ((cell_map hy _).trans rfl)) trivial ?_
       refine g_step rfl rfl rfl rfl (e_eq rfl rfl) trivial ?_
       refine g_step rfl rfl rfl rfl (e_pickF (v := .sc _) rfl rfl) trivial ?_
       refine g_end (ds := [57, 58, 59, 60, 61, 62]) rfl rfl (hK35 _ ?_); clear hK35 K35
       refine pwp_seq_cond rfl fun K39 hK39 => ⟨fun hb40 => ?_, fun hb40 => ?_⟩
       ·have hb40R := hb40; try simp only [z1, z2, z3, z4, z5, z6, ne_eq, z7, z8, z9, z10, z11, z12] at hb40
        refine pwp_exit ?_
        refine exit_seq ?_
        clear hK39 K39
        refine exit_here ?_
        refine seq_norm (hK34 _ ?_); clear hK34 K34
        refine pwp_plain rfl fun K41 hK41 => ?_
        refine p_step rfl (e_move (v := .sc _) rfl) trivial ?_
        refine p_step rfl (e_add rfl rfl (by omega)) trivial ?_
        refine p_step rfl (e_assign (v := .sc _) rfl) trivial ?_
        refine p_end (hK41 _ ?_); clear hK41 K41
        exact loop_again ((j + 1, w, bcc, u)) (by show _ < _; simp only; omega) ⟨rfl, rfl, rfl, rfl, rfl, trivial⟩ ⟨rfl, rfl, rfl, trivial⟩ (by exact ⟨by show _ + 1 ≤ _; omega, by first | exact gone_skip hB (by rintro ⟨q1, q2⟩; first | exact absurd q1 (by assumption) | omega) | exact gone_no hB (by assumption) (by assumption) (by omega) | exact gone_yes hB (by assumption) (by assumption) (by omega), by first | exact went_skip hW (by rintro ⟨q1, q2⟩; first | exact absurd q1 (by assumption) | omega) | exact went_on hW (by assumption) (by assumption), by (dsimp only; omega), by (dsimp only; try simp only [List.length_append, List.length_cons, List.length_nil]); omega, (SliceAt.to hihj30_0 (by simp [Lot.enc]))⟩)
       ·have hb40R := hb40; try simp only [z1, z2, z3, z4, z5, z6, ne_eq, z7, z8, z9, z10, z11, z12] at hb40
        refine pwp_skip ?_
        refine seq_norm (hK39 _ ?_); clear hK39 K39
        refine pwp_seq_plain rfl fun K42 hK42 => ?_
        refine p_step rfl (e_move (v := .sc _) rfl) trivial ?_
        refine p_step rfl (e_move (v := .sc _) rfl) trivial ?_
        refine p_step rfl (e_move (v := .lit _ _ _) rfl) trivial ?_
        refine p_step rfl (e_move (v := .sc _) rfl) trivial ?_
        refine p_step rfl (e_ixa rfl rfl (by kernel_rfl) (by kernel_rfl) (by simp only [List.length_map]; omega)) trivial ?_
        refine p_step rfl (e_fa (pl := [(0, 1, false), (1, 1, false), (2, 1, false), (3, 1, false)]) rfl (by kernel_rfl) (by kernel_rfl) (by decide) rfl) trivial ?_
        refine p_step rfl (e_load (v := .sc _) rfl (by kernel_rfl) (by kernel_rfl) (by kernel_rfl) (by simp only [List.length_map]; omega) (by decide) ((cell_map hy _).trans rfl)) trivial ?_
        refine p_step rfl (e_add rfl rfl (by omega)) trivial ?_
        refine p_step rfl (e_min rfl rfl) trivial ?_
        refine p_step rfl (e_move (v := .sc _) rfl) trivial ?_
        refine p_step rfl (e_move (v := .sc _) rfl) trivial ?_
        refine p_step rfl (e_max rfl rfl) trivial ?_
        refine p_step rfl (e_sub rfl rfl (by omega)) trivial ?_
        refine p_step rfl (e_assign (v := .sc _) rfl) trivial ?_
        refine p_end (hK42 _ ?_); clear hK42 K42
        refine pwp_seq_seq ?_
        refine pwp_seq_plain rfl fun K43 hK43 => ?_
        refine p_step rfl (e_move (v := .sc _) rfl) trivial ?_
        refine p_step rfl (e_gt rfl rfl) trivial ?_
        refine p_end (hK43 _ ?_); clear hK43 K43
        refine pwp_seq_cond rfl fun K44 hK44 => ⟨fun hb45 => ?_, fun hb45 => ?_⟩
        ·have hb45R := hb45; try simp only [z1, z2, z3, z4, z5, z6, ne_eq, z7, z8, z9, z10, z11, z12] at hb45
         refine pwp_gops rfl fun K46 hK46 => ?_
         refine s_begin ?_
         refine s_step [] (by simp) rfl rfl rfl rfl (e_move (v := _) rfl) trivial ?_
         refine s_step [] (by simp) rfl rfl rfl rfl (e_move (v := .sc _) rfl) trivial ?_
         refine s_step [] (by simp) rfl rfl rfl rfl (e_move (v := .sc _) rfl) trivial ?_
         refine s_step [] (by simp) rfl rfl rfl rfl (e_move (v := .lit _ _ _) rfl) trivial ?_
         refine s_step [] (by simp) rfl rfl rfl rfl (e_move (v := .sc _) rfl) trivial ?_
         refine s_step [] (by simp) rfl rfl rfl rfl (e_ixa rfl rfl (by kernel_rfl) (by kernel_rfl) (by simp only [List.length_map]; omega)) trivial ?_
         refine s_step [] (by simp) rfl rfl rfl rfl (e_fa (pl := [(0, 1, false), (1, 1, false), (2, 1, false), (3, 1, false)]) rfl (by kernel_rfl) (by kernel_rfl) (by decide) rfl) trivial ?_
         refine s_step [] (by simp) rfl rfl rfl rfl (e_load (v := .sc _) rfl (by kernel_rfl) (by kernel_rfl) (by kernel_rfl) (by simp only [List.length_map]; omega) (by decide) ((cell_map hx _).trans rfl)) trivial ?_
         refine s_step [] (by simp) rfl rfl rfl rfl (e_move (v := .lit _ _ _) rfl) trivial ?_
         refine s_step [] (by simp) rfl rfl rfl rfl (e_move (v := .sc _) rfl) trivial ?_
         refine s_step [] (by simp) rfl rfl rfl rfl (e_ixa rfl rfl (by kernel_rfl) (by kernel_rfl) (by simp only [List.length_map]; omega)) trivial ?_
         refine s_step [] (by simp) rfl rfl rfl rfl (e_fa (pl := [(0, 1, false), (1, 1, false), (2, 1, false), (3, 1, false)]) rfl (by kernel_rfl) (by kernel_rfl) (by decide) rfl) trivial ?_
         refine s_step [] (by simp) rfl rfl rfl rfl (e_load (v := .sc _) rfl (by kernel_rfl) (by kernel_rfl) (by kernel_rfl) (by simp only [List.length_map]; omega) (by decide) ((cell_map hy _).trans rfl)) trivial ?_
         refine s_step [] (by simp) rfl rfl rfl rfl (e_move (v := .lit _ _ _) rfl) trivial ?_
         refine s_step [] (by simp) rfl rfl rfl rfl (e_move (v := .sc _) rfl) trivial ?_
         refine s_step [] (by simp) rfl rfl rfl rfl (e_ixa rfl rfl (by kernel_rfl) (by kernel_rfl) (by simp only [List.length_map]; omega)) trivial ?_
         refine s_step [] (by simp) rfl rfl rfl rfl (e_fa (pl := [(0, 1, false), (1, 1, false), (2, 1, false), (3, 1, false)]) rfl (by kernel_rfl) (by kernel_rfl) (by decide) rfl) trivial ?_
         refine s_step [] (by simp) rfl rfl rfl rfl (e_load (v := .sc _) rfl (by kernel_rfl) (by kernel_rfl) (by kernel_rfl) (by simp only [List.length_map]; omega) (by decide) ((cell_map hy _).trans rfl)) trivial ?_
         refine s_step [] (by simp) rfl rfl rfl rfl (e_build (zs := [.str ByteArray.empty, .int 0, .int 0, .int 0, .int 0]) (pl := [(0, 1, false), (1, 1, false), (2, 1, false), (3, 1, false), (4, 1, false)]) (by kernel_rfl) (by kernel_rfl) (by kernel_rfl) rfl rfl (by exact ⟨by decide, rfl, Nat.le_of_ble_eq_true rfl, rfl, ⟨by decide, rfl, Nat.le_of_ble_eq_true rfl, rfl, ⟨by decide, rfl, Nat.le_of_ble_eq_true rfl, rfl, ⟨by decide, rfl, Nat.le_of_ble_eq_true rfl, rfl, ⟨by decide, rfl, Nat.le_of_ble_eq_true rfl, rfl, trivial⟩⟩⟩⟩⟩) rfl) trivial ?_
         refine s_new [] (by simp) rfl rfl rfl rfl (e_bslice (rows := [Lot.enc ⟨p, (min (c + x.count) (w + y.count) - max c w), x.day, y.day, y.kind⟩]) (zs := [.str ByteArray.empty, .int 0, .int 0, .int 0, .int 0]) (sz := 5) (by kernel_rfl) (by kernel_rfl) rfl (by kernel_rfl) (by decide) rfl rfl (by exact ⟨by decide, rfl, rfl, trivial⟩) rfl) trivial ?_
         refine s_app [99, 98] [99, 99] (by simp) (by simp) (by simp) rfl rfl rfl (hihj30_0.keep fun _ => (hset_ne (key_ne rfl)).trans (rfl)) (SrcAt.ref (hset_self _ _ _) rfl) rfl (by kernel_rfl) (by simp only [List.length_append, List.length_map, List.length_nil, List.length_cons]; omega) fun v47 h48 c49 hs50 hf51 => ?_
         have ho52 := (hf51 (98, _) (key_ne rfl) (fun _ _ => key_ne rfl)).trans (hset_self _ _ _)
         refine s_step [] (by simp) rfl rfl rfl rfl (e_assign (v := _) rfl) trivial ?_
         refine s_end (ds := []) (by kernel_rfl) (by kernel_rfl) (hK46 _ ?_); clear hK46 K46
         refine seq_norm (hK44 _ ?_); clear hK44 K44
         refine pwp_plain rfl fun K53 hK53 => ?_
         refine p_step rfl (e_move (v := .sc _) rfl) trivial ?_
         refine p_step rfl (e_move (v := .lit _ _ _) rfl) trivial ?_
         refine p_step rfl (e_move (v := .sc _) rfl) trivial ?_
         refine p_step rfl (e_ixa rfl rfl (by kernel_rfl) (by kernel_rfl) (by simp only [List.length_map]; omega)) trivial ?_
         refine p_step rfl (e_fa (pl := [(0, 1, false), (1, 1, false), (2, 1, false), (3, 1, false)]) rfl (by kernel_rfl) (by kernel_rfl) (by decide) rfl) trivial ?_
         refine p_step rfl (e_load (v := .sc _) rfl (by kernel_rfl) (by kernel_rfl) (by kernel_rfl) (by simp only [List.length_map]; omega) (by decide) ((cell_map hy _).trans rfl)) trivial ?_
         refine p_step rfl (e_add rfl rfl (by omega)) trivial ?_
         refine p_step rfl (e_assign (v := .sc _) rfl) trivial ?_
         refine p_end (hK53 _ ?_); clear hK53 K53
         refine block_norm ?_
         refine seq_norm (hK34 _ ?_); clear hK34 K34
         refine pwp_plain rfl fun K54 hK54 => ?_
         refine p_step rfl (e_move (v := .sc _) rfl) trivial ?_
         refine p_step rfl (e_add rfl rfl (by omega)) trivial ?_
         refine p_step rfl (e_assign (v := .sc _) rfl) trivial ?_
         refine p_end (hK54 _ ?_); clear hK54 K54
         exact loop_again ((j + 1, (w + y.count), (bcc ++ [⟨p, (min (c + x.count) (w + y.count) - max c w), x.day, y.day, y.kind⟩]), v47)) (by show _ < _; simp only; omega) ⟨rfl, rfl, rfl, rfl, rfl, trivial⟩ ⟨rfl, rfl, rfl, trivial⟩ (by exact ⟨by show _ + 1 ≤ _; omega, by first | exact gone_skip hB (by rintro ⟨q1, q2⟩; first | exact absurd q1 (by assumption) | omega) | exact gone_no hB (by assumption) (by assumption) (by omega) | exact gone_yes hB (by assumption) (by assumption) (by omega), by first | exact went_skip hW (by rintro ⟨q1, q2⟩; first | exact absurd q1 (by assumption) | omega) | exact went_on hW (by assumption) (by assumption), by (dsimp only; omega), by (dsimp only; try simp only [List.length_append, List.length_cons, List.length_nil]); omega, (SliceAt.to hs50 (by simp [Lot.enc]))⟩)
        ·have hb45R := hb45; try simp only [z1, z2, z3, z4, z5, z6, ne_eq, z7, z8, z9, z10, z11, z12] at hb45
         refine pwp_skip ?_
         refine seq_norm (hK44 _ ?_); clear hK44 K44
         refine pwp_plain rfl fun K55 hK55 => ?_
         refine p_step rfl (e_move (v := .sc _) rfl) trivial ?_
         refine p_step rfl (e_move (v := .lit _ _ _) rfl) trivial ?_
         refine p_step rfl (e_move (v := .sc _) rfl) trivial ?_
         refine p_step rfl (e_ixa rfl rfl (by kernel_rfl) (by kernel_rfl) (by simp only [List.length_map]; omega)) trivial ?_
         refine p_step rfl (e_fa (pl := [(0, 1, false), (1, 1, false), (2, 1, false), (3, 1, false)]) rfl (by kernel_rfl) (by kernel_rfl) (by decide) rfl) trivial ?_
         refine p_step rfl (e_load (v := .sc _) rfl (by kernel_rfl) (by kernel_rfl) (by kernel_rfl) (by simp only [List.length_map]; omega) (by decide) ((cell_map hy _).trans rfl)) trivial ?_
         refine p_step rfl (e_add rfl rfl (by omega)) trivial ?_
         refine p_step rfl (e_assign (v := .sc _) rfl) trivial ?_
         refine p_end (hK55 _ ?_); clear hK55 K55
         refine block_norm ?_
         refine seq_norm (hK34 _ ?_); clear hK34 K34
         refine pwp_plain rfl fun K56 hK56 => ?_
         refine p_step rfl (e_move (v := .sc _) rfl) trivial ?_
         refine p_step rfl (e_add rfl rfl (by omega)) trivial ?_
         refine p_step rfl (e_assign (v := .sc _) rfl) trivial ?_
         refine p_end (hK56 _ ?_); clear hK56 K56
         exact loop_again ((j + 1, (w + y.count), bcc, u)) (by show _ < _; simp only; omega) ⟨rfl, rfl, rfl, rfl, rfl, trivial⟩ ⟨rfl, rfl, rfl, trivial⟩ (by exact ⟨by show _ + 1 ≤ _; omega, by first | exact gone_skip hB (by rintro ⟨q1, q2⟩; first | exact absurd q1 (by assumption) | omega) | exact gone_no hB (by assumption) (by assumption) (by omega) | exact gone_yes hB (by assumption) (by assumption) (by omega), by first | exact went_skip hW (by rintro ⟨q1, q2⟩; first | exact absurd q1 (by assumption) | omega) | exact went_on hW (by assumption) (by assumption), by (dsimp only; omega), by (dsimp only; try simp only [List.length_append, List.length_cons, List.length_nil]); omega, (SliceAt.to hihj30_0 (by simp [Lot.enc]))⟩)
     ·have hb33R := hb33; try simp only [z1, z2, z3, z4, z5, z6, ne_eq, z7, z8, z9, z10, z11, z12] at hb33
      obtain rfl : j = ms.length := by omega
      rw [List.drop_length] at hB hW; simp only [goneR, wentR, List.append_nil] at hB hW
      refine pwp_exit ?_
      refine exit_seq ?_
      clear hK32 K32
      refine exit_loop ?_
      refine exit_here ?_
      refine seq_norm (hK25 _ ?_); clear hK25 K25
      refine pwp_seq_seq ?_
      refine pwp_seq_plain rfl fun K57 hK57 => ?_
      refine p_step rfl (e_move (v := .sc _) rfl) trivial ?_
      refine p_step rfl (e_move (v := .sc _) rfl) trivial ?_
      refine p_step rfl (e_move (v := .sc _) rfl) trivial ?_
      refine p_step rfl (e_max rfl rfl) trivial ?_
      refine p_step rfl (e_sub rfl rfl (by omega)) trivial ?_
      refine p_step rfl (e_assign (v := .sc _) rfl) trivial ?_
      refine p_end (hK57 _ ?_); clear hK57 K57
      refine pwp_seq_seq ?_
      refine pwp_seq_plain rfl fun K58 hK58 => ?_
      refine p_step rfl (e_move (v := .sc _) rfl) trivial ?_
      refine p_step rfl (e_gt rfl rfl) trivial ?_
      refine p_end (hK58 _ ?_); clear hK58 K58
      refine pwp_seq_cond rfl fun K59 hK59 => ⟨fun hb60 => ?_, fun hb60 => ?_⟩
      ·have hb60R := hb60; try simp only [z1, z2, z3, z4, z5, z6, ne_eq, z7, z8, z9, z10, z11, z12] at hb60
       refine pwp_plain rfl fun K61 hK61 => ?_
       refine p_step rfl (e_move (v := _) rfl) trivial ?_
       refine p_step rfl (e_move (v := .sc _) rfl) trivial ?_
       refine p_step rfl (e_move (v := .sc _) rfl) trivial ?_
       refine p_step rfl (e_move (v := .lit _ _ _) rfl) trivial ?_
       refine p_step rfl (e_move (v := .sc _) rfl) trivial ?_
       refine p_step rfl (e_ixa rfl rfl (by kernel_rfl) (by kernel_rfl) (by simp only [List.length_map]; omega)) trivial ?_
       refine p_step rfl (e_fa (pl := [(0, 1, false), (1, 1, false), (2, 1, false), (3, 1, false)]) rfl (by kernel_rfl) (by kernel_rfl) (by decide) rfl) trivial ?_
       refine p_step rfl (e_load (v := .sc _) rfl (by kernel_rfl) (by kernel_rfl) (by kernel_rfl) (by simp only [List.length_map]; omega) (by decide) ((cell_map hx _).trans rfl)) trivial ?_
       refine p_step rfl (e_build (zs := [.str ByteArray.empty, .int 0, .int 0, .int 0, .int 0]) (pl := [(0, 1, false), (1, 1, false), (2, 1, false), (3, 1, false), (4, 1, false)]) (by kernel_rfl) (by kernel_rfl) (by kernel_rfl) rfl rfl (by exact ⟨by decide, rfl, Nat.le_of_ble_eq_true rfl, rfl, ⟨by decide, rfl, Nat.le_of_ble_eq_true rfl, rfl, ⟨by decide, rfl, Nat.le_of_ble_eq_true rfl, rfl, ⟨by decide, rfl, Nat.le_of_ble_eq_true rfl, rfl, ⟨by decide, rfl, Nat.le_of_ble_eq_true rfl, rfl, trivial⟩⟩⟩⟩⟩) rfl) trivial ?_
       refine p_new rfl (e_bslice (rows := [Lot.enc ⟨p, (c + x.count - max c w), x.day, -1, -1⟩]) (zs := [.str ByteArray.empty, .int 0, .int 0, .int 0, .int 0]) (sz := 5) (by kernel_rfl) (by kernel_rfl) rfl (by kernel_rfl) (by decide) rfl rfl (by exact ⟨by decide, rfl, rfl, trivial⟩) rfl) trivial ?_
       refine p_app rfl rfl rfl (hihj30_0.keep fun _ => (hset_ne (key_ne rfl)).trans (rfl)) (src_ref (hset_self _ _ _) rfl) (by kernel_rfl) (by simp only [List.length_append, List.length_map, List.length_nil, List.length_cons]; omega) fun v62 h63 c64 hs65 hf66 => ?_
       have ho67 := (hf66 (123, _) (key_ne rfl) (fun _ _ => key_ne rfl)).trans (hset_self _ _ _)
       refine p_renS 99 rfl hs65 fun v68 h69 c70 hs71 hf72 => ?_
       have ho73 := (hf72 (123, _) (key_ne rfl) (fun _ _ => key_ne rfl)).trans ho67
       refine p_end (hK61 _ ?_); clear hK61 K61
       refine seq_norm (hK59 _ ?_); clear hK59 K59
       refine pwp_plain rfl fun K74 hK74 => ?_
       refine p_step rfl (e_move (v := .sc _) rfl) trivial ?_
       refine p_step rfl (e_assign (v := .sc _) rfl) trivial ?_
       refine p_end (hK74 _ ?_); clear hK74 K74
       refine block_norm ?_
       refine seq_norm (hK14 _ ?_); clear hK14 K14
       refine pwp_plain rfl fun K75 hK75 => ?_
       refine p_step rfl (e_move (v := .sc _) rfl) trivial ?_
       refine p_step rfl (e_add rfl rfl (by omega)) trivial ?_
       refine p_step rfl (e_assign (v := .sc _) rfl) trivial ?_
       refine p_end (hK75 _ ?_); clear hK75 K75
       exact loop_again ((k + 1, (c + x.count), (bcc ++ [⟨p, (c + x.count - max c w), x.day, -1, -1⟩]), v68)) (by show _ < _; simp only; omega) ⟨rfl, rfl, trivial⟩ ⟨rfl, rfl, rfl, trivial⟩ (by exact ⟨by show _ + 1 ≤ _; omega, by first | exact lots_skip hinv (by rintro ⟨q1, q2⟩; first | exact absurd q1 (by assumption) | omega) | exact lots_no hinv (by assumption) (by assumption) hB hW (by omega) | exact lots_yes hinv (by assumption) (by assumption) hB hW (by omega), by (dsimp only; omega), by (dsimp only; try simp only [List.length_append, List.length_cons, List.length_nil]); omega, (SliceAt.to hs71 (by simp [Lot.enc]))⟩)
      ·have hb60R := hb60; try simp only [z1, z2, z3, z4, z5, z6, ne_eq, z7, z8, z9, z10, z11, z12] at hb60
       refine pwp_skip ?_
       refine seq_norm (hK59 _ ?_); clear hK59 K59
       refine pwp_plain rfl fun K76 hK76 => ?_
       refine p_step rfl (e_move (v := .sc _) rfl) trivial ?_
       refine p_step rfl (e_assign (v := .sc _) rfl) trivial ?_
       refine p_end (hK76 _ ?_); clear hK76 K76
       refine block_norm ?_
       refine seq_norm (hK14 _ ?_); clear hK14 K14
       refine pwp_plain rfl fun K77 hK77 => ?_
       refine p_step rfl (e_move (v := .sc _) rfl) trivial ?_
       refine p_step rfl (e_add rfl rfl (by omega)) trivial ?_
       refine p_step rfl (e_assign (v := .sc _) rfl) trivial ?_
       refine p_end (hK77 _ ?_); clear hK77 K77
       exact loop_again ((k + 1, (c + x.count), bcc, u)) (by show _ < _; simp only; omega) ⟨rfl, rfl, trivial⟩ ⟨rfl, rfl, rfl, trivial⟩ (by exact ⟨by show _ + 1 ≤ _; omega, by first | exact lots_skip hinv (by rintro ⟨q1, q2⟩; first | exact absurd q1 (by assumption) | omega) | exact lots_no hinv (by assumption) (by assumption) hB hW (by omega) | exact lots_yes hinv (by assumption) (by assumption) hB hW (by omega), by (dsimp only; omega), by (dsimp only; try simp only [List.length_append, List.length_cons, List.length_nil]); omega, (SliceAt.to hihj30_0 (by simp [Lot.enc]))⟩)
  ·have hb13R := hb13; try simp only [z1, z2, z3, z4, z5, z6, ne_eq, z7, z8, z9, z10, z11, z12] at hb13
   obtain rfl : k = ms.length := by omega
   rw [List.drop_length] at hinv; simp only [lotsGo, List.append_nil] at hinv
   refine pwp_exit ?_
   refine exit_seq ?_
   clear hK12 K12
   refine exit_loop ?_
   refine exit_here ?_
   refine seq_norm (hK5 _ ?_); clear hK5 K5
   refine pwp_seq_plain rfl fun K78 hK78 => ?_
   refine p_step rfl (e_move (v := _) rfl) trivial ?_
   refine p_step rfl (e_assign (v := _) rfl) trivial ?_
   refine p_end (hK78 _ ?_); clear hK78 K78
   refine pwp_ret ?_
   refine end1 (v := _) rfl ?_
   rw [hinv]
   exact out_slice (by assumption) rfl (fun _ => rfl) lot_clean

theorem fr40 : (inFrame Try.f40.ntmps (Try.f40.body.getD .skip) && Try.f40.results.toList.all (resScope Try.f40.ntmps)) = true := by kernel_rfl
theorem LotsR (ts : List Term) (ms : List Move) (hlt : ts.length ≤ 65) (hl : ms.length ≤ 305) (hok : ∀ m ∈ ms, okM m) : PCalls Try.prog 40 [.lit true 4 (ts.map Term.enc), .lit true 4 (ms.map Move.enc)] (.lit false 5 ((lotsT ts ms).map Lot.enc)) := by
  refine PCalls.of_code Try.func40 rfl rfl (by kernel_rfl) mixed fr40 (by show _ ≤ 23; simp) (.lit _ _ _ fun row hr => pure_map Lot.pure row hr) ?_
  refine pwp_seq_plain rfl fun K1 hK1 => ?_
  refine p_step rfl (e_assign (v := .nil) rfl) trivial ?_
  refine p_end (hK1 _ ?_); clear hK1 K1
  refine pwp_seq_plain rfl fun K2 hK2 => ?_
  refine p_step rfl (e_assign (v := .nil) rfl) trivial ?_
  refine p_end (hK2 _ ?_); clear hK2 K2
  refine pwp_seq_seq ?_
  refine pwp_seq_plain rfl fun K3 hK3 => ?_
  refine p_step rfl (e_assign (v := .sc _) rfl) trivial ?_
  refine p_end (hK3 _ ?_); clear hK3 K3
  refine pwp_seq_block fun K4 hK4 => ?_
  refine pwp_loopR (α := Nat × (List Lot) × PV) [0, 1] (fun (a5 : Nat × (List Lot) × PV) => [(5, (a5.2.2)), (6, .int (a5.1))]) (fun (a5 : Nat × (List Lot) × PV) (h : Heap) (_ : Nat → Nat) => ((a5.1) ≤ ts.length) ∧ ((a5.2.1) = lotsT (ts.take (a5.1)) ms) ∧ (SliceAt h 21 (a5.2.2) 5 ((a5.2.1).map Lot.enc))) (fun (a5 : Nat × (List Lot) × PV) => ts.length - (a5.1)) (0, [], .nil) (by exact ⟨rfl, rfl, trivial⟩) (by exact ⟨by exact Nat.zero_le _, by exact rfl, .nil⟩) fun a5 r6 h7 c8 hj9 => ?_
  obtain ⟨k, acc, v⟩ := a5
  obtain ⟨hk, hinv, hihj9_0⟩ := hj9
  try dsimp only at hk
  try dsimp only at hinv
  try dsimp only at hihj9_0
  show pwp _ _ (loopQ _ _ _) ⟨sets (mix _ _ _) [(5, v), (6, .int k)], _, _⟩
  refine pwp_seq_seq ?_
  refine pwp_seq_plain rfl fun K10 hK10 => ?_
  refine p_step rfl (e_move (v := .sc _) rfl) trivial ?_
  refine p_step rfl (e_move (v := .lit _ _ _) rfl) trivial ?_
  refine p_step rfl (e_len rfl (by kernel_rfl)) trivial ?_
  refine p_step rfl (e_lt rfl rfl) trivial ?_
  refine p_end (hK10 _ ?_); clear hK10 K10
  refine pwp_seq_cond rfl fun K11 hK11 => ⟨fun hb12 => ?_, fun hb12 => ?_⟩
  ·have hb12R := hb12; try simp only [z1, z2, z3, z4, z5, z6, ne_eq, z7, z8, z9, z10, z11, z12] at hb12
   obtain ⟨x, hx, hd, ht⟩ := get_lt (xs := ts) (i := k) (by omega)
   have hal : acc.length ≤ 65 * 93330 := by rw [hinv]; exact Nat.le_trans (lotsT_len _ _ hl) (Nat.mul_le_mul_right _ (by rw [List.length_take]; omega))
   have hrl := lotsR_len x.part ms hl
   refine pwp_skip ?_
   refine seq_norm (hK11 _ ?_); clear hK11 K11
   refine pwp_seq_block fun K13 hK13 => ?_
   refine pwp_plain rfl fun K14 hK14 => ?_
   refine p_step rfl (e_move (v := _) rfl) trivial ?_
   refine p_step rfl (e_move (v := .lit _ _ _) rfl) trivial ?_
   refine p_step rfl (e_move (v := .lit _ _ _) rfl) trivial ?_
   refine p_step rfl (e_move (v := .sc _) rfl) trivial ?_
   refine p_step rfl (e_ixa rfl rfl (by kernel_rfl) (by kernel_rfl) (by simp only [List.length_map]; omega)) trivial ?_
   refine p_step rfl (e_fa (pl := [(0, 1, false), (1, 1, false), (2, 1, false), (3, 1, false)]) rfl (by kernel_rfl) (by kernel_rfl) (by decide) rfl) trivial ?_
   refine p_step rfl (e_load (v := .sc _) rfl (by kernel_rfl) (by kernel_rfl) (by kernel_rfl) (by simp only [List.length_map]; omega) (by decide) ((cell_map hx _).trans rfl)) trivial ?_
   refine p_call rfl (.cons inn_lit (.cons inn_sc .nil)) (lotsOf _ _ hl hok) ?_
   refine p_app rfl rfl rfl hihj9_0 src_lit (by kernel_rfl) (by simp only [List.length_append, List.length_map, List.length_nil, List.length_cons]; omega) fun v15 h16 c17 hs18 hf19 => ?_
   refine p_step rfl (e_assign (v := _) rfl) trivial ?_
   refine p_end (hK14 _ ?_); clear hK14 K14
   refine block_norm ?_
   refine seq_norm (hK13 _ ?_); clear hK13 K13
   refine pwp_plain rfl fun K20 hK20 => ?_
   refine p_step rfl (e_move (v := .sc _) rfl) trivial ?_
   refine p_step rfl (e_add rfl rfl (by omega)) trivial ?_
   refine p_step rfl (e_assign (v := .sc _) rfl) trivial ?_
   refine p_end (hK20 _ ?_); clear hK20 K20
   exact loop_again ((k + 1, (acc ++ lotsR x.part (ms)), v15)) (by show _ < _; simp only; omega) ⟨rfl, rfl, trivial⟩ ⟨rfl, rfl, trivial⟩ (by exact ⟨by show _ + 1 ≤ _; omega, by (rw [hinv]; unfold lotsT; rw [ht, List.flatMap_append]; simp), (SliceAt.to hs18 (by simp))⟩)
  ·have hb12R := hb12; try simp only [z1, z2, z3, z4, z5, z6, ne_eq, z7, z8, z9, z10, z11, z12] at hb12
   obtain rfl : k = ts.length := by omega
   rw [List.take_length] at hinv
   refine pwp_exit ?_
   refine exit_seq ?_
   clear hK11 K11
   refine exit_loop ?_
   refine exit_here ?_
   refine seq_norm (hK4 _ ?_); clear hK4 K4
   refine pwp_seq_plain rfl fun K21 hK21 => ?_
   refine p_step rfl (e_move (v := _) rfl) trivial ?_
   refine p_step rfl (e_assign (v := _) rfl) trivial ?_
   refine p_end (hK21 _ ?_); clear hK21 K21
   refine pwp_ret ?_
   refine end1 (v := _) rfl ?_
   rw [← hinv]
   exact out_slice (by assumption) rfl (fun _ => rfl) lot_clean

end Go.Proofs.Ytdbpfhbppcpbbaa

/- Deliveries in own memory, and how pieces are taken from them. Plain. -/
set_option linter.unusedSimpArgs false
set_option linter.unusedVariables false
namespace Go.Proofs.Ytdbpfhbppcpbbaa
open Go Go.Pv
/-! ### Deliveries in own memory -/
/-- A delivery: its day, what is left of it, the lots that went. -/
structure Da where
  day : Int
  left : Int
  gone : List Lot
  deriving Inhabited
/-- A delivery in memory: the number of its box, the slice of what went. -/
structure Dv where
  k : Nat
  v : PV
  a : Da
  deriving Inhabited
def dcell (d : Dv) : List PV := [.ptr (41, d.k) 3 0 0]
def DvAt (h : Heap) (d : Dv) : Prop := h (41, d.k) = some (.rows 3 [[.int d.a.day, .int d.a.left, d.v]]) ∧ SliceAt h 42 d.v 5 (d.a.gone.map Lot.enc)
def ownOf (d : Dv) : List Key := (41, d.k) :: Go.Pv.keyOf d.v
def ownD (ds : List Dv) : List Key := ds.flatMap ownOf
/-- Pieces are taken from those that came first. -/
def takeL (m : Move) : Int → List Da → List Da
  | _, [] => []
  | n, d :: l => if 0 < min n d.left then ⟨d.day, d.left - min n d.left, d.gone ++ [⟨m.part, min n d.left, d.day, m.day, m.kind⟩]⟩ :: takeL m (n - min n d.left) l else d :: takeL m n l
theorem takeL_len (m : Move) : ∀ (l : List Da) (n : Int), (takeL m n l).length = l.length
  | [], _ => rfl
  | d :: l, n => by unfold takeL; split <;> simp [takeL_len m l]
theorem DvAt.key42 {h : Heap} {d : Dv} (hd : DvAt h d) : ∀ k ∈ Go.Pv.keyOf d.v, k.1 = 42 ∧ (h k).isSome = true := fun k hk => by
  rcases hd.2 with ⟨_, h2⟩ | ⟨g, h2, h3⟩
  · rw [h2] at hk; simp [Go.Pv.keyOf] at hk
  · rw [h2] at hk; simp [Go.Pv.keyOf] at hk; subst hk; exact ⟨rfl, by rw [h3]; rfl⟩
theorem DvAt.keep {h h' : Heap} {d : Dv} (hd : DvAt h d) (hk : ∀ k ∈ ownOf d, h' k = h k) : DvAt h' d := by
  refine ⟨(hk _ (by simp [ownOf])).trans hd.1, ?_⟩
  rcases hd.2 with h2 | ⟨g, h2, h3⟩
  · exact .inl h2
  · exact .inr ⟨g, h2, (hk _ (by rw [ownOf, h2]; simp [Go.Pv.keyOf])).trans h3⟩
theorem ownOf_sub {ds : List Dv} {d : Dv} (hd : d ∈ ds) {k : Key} (hk : k ∈ ownOf d) : k ∈ ownD ds := List.mem_flatMap.2 ⟨d, hd, hk⟩
/-- How far the taking has come. -/
structure TakeI (m : Move) (ds : List Dv) (h0 : Heap) (c0 : Nat → Nat) (i : Nat) (n : Int) (es : List Dv) (h : Heap) (c : Nat → Nat) : Prop where
  keys : es.map (·.k) = ds.map (·.k)
  tl : takeL m m.count (ds.map (·.a)) = (es.take i).map (·.a) ++ takeL m n ((es.drop i).map (·.a))
  dr : es.drop i = ds.drop i
  at_ : ∀ d ∈ es, DvAt h d
  nd : (ownD es).Nodup
  kn : ∀ k ∈ ownD es, k.2 < c k.1
  sub : ∀ k ∈ ownD es, k ∈ ownD ds ∨ c0 k.1 ≤ k.2
  fr : ∀ k : Key, k ∉ ownD ds → k.2 < c0 k.1 → h k = h0 k
  cm : ∀ t, c0 t ≤ c t
  nb : 0 ≤ n ∧ n ≤ 100000
/-- What there is when all is taken. -/
structure TakeR (m : Move) (ds : List Dv) (h0 : Heap) (c0 : Nat → Nat) (es : List Dv) (h : Heap) (c : Nat → Nat) : Prop where
  keys : es.map (·.k) = ds.map (·.k)
  tl : es.map (·.a) = takeL m m.count (ds.map (·.a))
  at_ : ∀ d ∈ es, DvAt h d
  nd : (ownD es).Nodup
  kn : ∀ k ∈ ownD es, k.2 < c k.1
  sub : ∀ k ∈ ownD es, k ∈ ownD ds ∨ c0 k.1 ≤ k.2
  fr : ∀ k : Key, k ∉ ownD ds → k.2 < c0 k.1 → h k = h0 k
  cm : ∀ t, c0 t ≤ c t
section
variable {m : Move} {ds es : List Dv} {h0 h h' : Heap} {c0 c c' : Nat → Nat} {i : Nat} {n : Int} {d : Dv}
theorem TakeI.len (H : TakeI m ds h0 c0 i n es h c) : es.length = ds.length := by have := congrArg List.length H.keys; simpa using this
theorem TakeI.fin (H : TakeI m ds h0 c0 ds.length n es h c) : TakeR m ds h0 c0 es h c := by
  refine ⟨H.keys, ?_, H.at_, H.nd, H.kn, H.sub, H.fr, H.cm⟩
  have h1 := H.tl
  rw [← H.len, List.take_length, List.drop_length] at h1
  rw [h1]; simp [takeL]
theorem take_0 (ha : ∀ d ∈ ds, DvAt h0 d) (hn : (ownD ds).Nodup) (hk : ∀ k ∈ ownD ds, k.2 < c0 k.1) (hf : ∀ k : Key, k.2 < c0 k.1 → h k = h0 k) (hc : ∀ t, c0 t ≤ c t) (hb : 0 ≤ m.count ∧ m.count ≤ 100000) : TakeI m ds h0 c0 0 m.count ds h c :=
  ⟨rfl, by simp, rfl, fun d hd => (ha d hd).keep fun k hk' => hf k (hk k (ownOf_sub hd hk')), hn, fun k hk' => Nat.lt_of_lt_of_le (hk k hk') (hc _), fun k hk' => .inl hk', fun k _ h2 => hf k h2, hc, hb⟩
theorem TakeI.get (H : TakeI m ds h0 c0 i n es h c) (hd : ds[i]? = some d) : es[i]? = some d := by
  have h1 := congrArg (·[0]?) H.dr
  simp only [List.getElem?_drop, Nat.add_zero] at h1
  rw [h1, hd]
theorem TakeI.at_i (H : TakeI m ds h0 c0 i n es h c) (hd : ds[i]? = some d) : DvAt h d := H.at_ d (List.mem_of_getElem? (H.get hd))
theorem TakeI.skip (H : TakeI m ds h0 c0 i n es h c) (hd : ds[i]? = some d) (hm : ¬ 0 < min n d.a.left) : TakeI m ds h0 c0 (i + 1) n es h c := by
  have hg := H.get hd
  have hdr : es.drop i = d :: es.drop (i + 1) := (List.getElem?_eq_some_iff.1 hg).2 ▸ List.drop_eq_getElem_cons (List.getElem?_eq_some_iff.1 hg).1
  refine ⟨H.keys, ?_, ?_, H.at_, H.nd, H.kn, H.sub, H.fr, H.cm, H.nb⟩
  · rw [H.tl, hdr, List.map_cons, takeL, if_neg hm, List.take_add_one, hg]; simp
  · have := congrArg (List.drop 1) H.dr
    simpa [List.drop_drop] using this
theorem ownD_split (hd : es[i]? = some d) : ownD es = ownD (es.take i) ++ (ownOf d ++ ownD (es.drop (i + 1))) := by
  have hlt := (List.getElem?_eq_some_iff.1 hd).1
  have : es = es.take i ++ d :: es.drop (i + 1) := by
    have h1 := (List.getElem?_eq_some_iff.1 hd).2
    rw [← h1, ← List.drop_eq_getElem_cons hlt, List.take_append_drop]
  unfold ownD
  conv => lhs; rw [this]
  rw [List.flatMap_append, List.flatMap_cons]
theorem ownD_set {e : Dv} (hd : es[i]? = some d) : ownD (es.set i e) = ownD (es.take i) ++ (ownOf e ++ ownD (es.drop (i + 1))) := by
  have hlt := (List.getElem?_eq_some_iff.1 hd).1
  rw [List.set_eq_take_append_cons_drop, if_pos hlt]
  unfold ownD
  rw [List.flatMap_append, List.flatMap_cons]
/-- One part of a list in which no two are equal gives way to another one. -/
theorem nodup_mid {A B B' C : List Key} (hn : (A ++ (B ++ C)).Nodup) (hb : B'.Nodup) (hs : ∀ k ∈ B', k ∈ B ∨ (k ∉ A ∧ k ∉ C)) : (A ++ (B' ++ C)).Nodup := by
  rw [List.nodup_append] at hn ⊢
  obtain ⟨h1, h2, h3⟩ := hn
  rw [List.nodup_append] at h2 ⊢
  obtain ⟨h4, h5, h6⟩ := h2
  refine ⟨h1, ⟨hb, h5, fun a ha b hb' e => ?_⟩, fun a ha b hb' e => ?_⟩
  · rcases hs a ha with h | ⟨_, h⟩
    · exact h6 a h b hb' e
    · exact h (e ▸ hb')
  · rcases List.mem_append.1 hb' with h | h
    · rcases hs b h with h' | ⟨h', _⟩
      · exact h3 a ha b (List.mem_append.2 (.inl h')) e
      · exact h' (e ▸ ha)
    · exact h3 a ha b (List.mem_append.2 (.inr h)) e
/-- One delivery is taken from. -/
theorem TakeI.step {g : Nat} {d' : Dv} (H : TakeI m ds h0 c0 i n es h c) (hd : ds[i]? = some d) (hm : 0 < min n d.a.left) (hd' : d' = ⟨d.k, .ref (42, g) 5 0 (d.a.gone.length + 1), ⟨d.a.day, d.a.left - min n d.a.left, d.a.gone ++ [⟨m.part, min n d.a.left, d.a.day, m.day, m.kind⟩]⟩⟩)
    (hg : g = c 42) (hbox : h' (41, d.k) = some (.rows 3 [[.int d.a.day, .int (d.a.left - min n d.a.left), .ref (42, g) 5 0 (d.a.gone.length + 1)]])) (hgn : h' (42, g) = some (.rows 5 (d'.a.gone.map Lot.enc)))
    (hf : ∀ k : Key, k ≠ (41, d.k) → k ∉ Go.Pv.keyOf d.v → k ≠ (42, g) → k.2 < c k.1 → h' k = h k) (hc : ∀ t, c t ≤ c' t) (hc42 : g < c' 42) : TakeI m ds h0 c0 (i + 1) (n - min n d.a.left) (es.set i d') h' c' := by
  have hge := H.get hd
  have hlt := (List.getElem?_eq_some_iff.1 hge).1
  have hdr : es.drop i = d :: es.drop (i + 1) := (List.getElem?_eq_some_iff.1 hge).2 ▸ List.drop_eq_getElem_cons hlt
  have hmem : d ∈ es := List.mem_of_getElem? hge
  have hkd' : ownOf d' = [(41, d.k), (42, g)] := by rw [hd']; simp [ownOf, Go.Pv.keyOf]
  have hsp := ownD_split hge
  have hnd := H.nd
  rw [hsp] at hnd
  have hfresh : ∀ k ∈ ownD es, k ≠ (42, g) := fun k hk e => by have := H.kn k hk; rw [e, hg] at this; exact absurd this (Nat.lt_irrefl _)
  have hself : ∀ e : Dv, e ∈ es.take i ∨ e ∈ es.drop (i + 1) → ∀ k ∈ ownOf e, h' k = h k := by
    intro e he k hk
    have hke : k ∈ ownD (es.take i) ∨ k ∈ ownD (es.drop (i + 1)) := he.imp (fun h => ownOf_sub h hk) fun h => ownOf_sub h hk
    have hkes : k ∈ ownD es := by rw [hsp]; rcases hke with h | h <;> simp [h]
    have hno : k ∉ ownOf d := by
      intro hc2
      rw [List.nodup_append] at hnd
      rcases hke with h | h
      · exact hnd.2.2 k h k (List.mem_append.2 (.inl hc2)) rfl
      · exact (List.nodup_append.1 hnd.2.1).2.2 k hc2 k h rfl
    exact hf k (fun e => hno (by rw [e]; simp [ownOf])) (fun h => hno (by simp [ownOf, h])) (hfresh k hkes) (H.kn k hkes)
  refine ⟨?_, ?_, ?_, ?_, ?_, ?_, ?_, ?_, fun t => Nat.le_trans (H.cm t) (hc t), ?_⟩
  · rw [← H.keys, List.map_set]
    apply List.ext_getElem?
    intro j
    rw [List.getElem?_set]
    split
    · rename_i hj; subst hj; rw [if_pos (by simpa using hlt), List.getElem?_map, hge, hd']; rfl
    · rfl
  · rw [H.tl, hdr, List.map_cons, takeL, if_pos hm, List.take_add_one, List.getElem?_set_self hlt, List.take_set_of_le (Nat.le_refl _)]
    rw [List.drop_set_of_lt (by omega), hd']
    simp
  · rw [List.drop_set_of_lt (by omega)]
    have := congrArg (List.drop 1) H.dr
    simpa [List.drop_drop] using this
  · intro e he
    rw [List.set_eq_take_append_cons_drop, if_pos hlt] at he
    rcases List.mem_append.1 he with h1 | h1
    · exact (H.at_ e (List.mem_of_mem_take h1)).keep (hself e (.inl h1))
    · rcases List.mem_cons.1 h1 with rfl | h1
      · refine ⟨by rw [hd']; exact hbox, .inr ⟨g, ?_, hgn⟩⟩
        rw [hd']; simp
      · exact (H.at_ e (List.mem_of_mem_drop h1)).keep (hself e (.inr h1))
  · rw [ownD_set hge]
    refine nodup_mid hnd (by rw [hkd']; simp) fun k hk => ?_
    rw [hkd'] at hk
    rcases List.mem_cons.1 hk with rfl | hk
    · left; simp [ownOf]
    · simp at hk; subst hk
      right
      exact ⟨fun h => hfresh _ (by rw [hsp]; simp [h]) rfl, fun h => hfresh _ (by rw [hsp]; simp [h]) rfl⟩
  · intro k hk
    rw [ownD_set hge, hkd'] at hk
    have : k ∈ ownD es ∨ k = (42, g) := by
      rw [hsp]
      simp only [List.mem_append, List.mem_cons, List.not_mem_nil, or_false] at hk ⊢
      rcases hk with h | (rfl | rfl) | h
      · exact .inl (.inl h)
      · left; right; left; simp [ownOf]
      · exact .inr rfl
      · exact .inl (.inr (.inr h))
    rcases this with h | rfl
    · exact Nat.lt_of_lt_of_le (H.kn k h) (hc _)
    · exact hc42
  · intro k hk
    rw [ownD_set hge, hkd'] at hk
    have : k ∈ ownD es ∨ k = (42, g) := by
      rw [hsp]
      simp only [List.mem_append, List.mem_cons, List.not_mem_nil, or_false] at hk ⊢
      rcases hk with h | (rfl | rfl) | h
      · exact .inl (.inl h)
      · left; right; left; simp [ownOf]
      · exact .inr rfl
      · exact .inl (.inr (.inr h))
    rcases this with h | rfl
    · exact H.sub k h
    · right; rw [hg]; exact H.cm 42
  · intro k hk hk2
    have hown : k ∉ ownD es := fun h => by
      rcases H.sub k h with h2 | h2
      · exact hk h2
      · omega
    have hno : k ∉ ownOf d := fun h => hown (ownOf_sub hmem h)
    rw [hf k (fun e => hno (by rw [e]; simp [ownOf])) (fun h => hno (by simp [ownOf, h])) (fun e => by rw [e, hg] at hk2; have := H.cm 42; simp only at hk2; omega) (Nat.lt_of_lt_of_le hk2 (H.cm _))]
    exact H.fr k hk hk2
  · have := H.nb; omega
end

end Go.Proofs.Ytdbpfhbppcpbbaa

/- Pieces are taken: the program. No conditions. -/
set_option linter.unusedSimpArgs false
set_option linter.unusedVariables false
set_option maxRecDepth 100000
namespace Go.Proofs.Ytdbpfhbppcpbbaa
open Go Go.Pv
/-- Places told apart: the box of a delivery, what went of it, all others. -/
def vsD (d : Dv) (k : Key) : Nat := if k = (41, d.k) then 1000041 else if k ∈ Go.Pv.keyOf d.v then 1000042 else k.1
section
variable {d : Dv} {k : Key} {c : Nat → Nat}
theorem vsD_ne (h1 : k.1 ≠ 41) (h2 : k.1 ≠ 42) (hk : ∀ k ∈ Go.Pv.keyOf d.v, k.1 = 42) : vsD d k = k.1 := by
  unfold vsD
  rw [if_neg (fun e => h1 (by rw [e])), if_neg (fun e => h2 (hk k e))]
theorem vsD_new (h : ∀ k ∈ ownOf d, k.2 < c k.1) (hk : ∀ k ∈ Go.Pv.keyOf d.v, k.1 = 42) : vsD d (41, c 41) = 41 := by
  unfold vsD
  rw [if_neg (fun e => by have := h (41, d.k) (by simp [ownOf]); rw [← e] at this; exact absurd this (Nat.lt_irrefl _)), if_neg (fun e => by have := hk _ e; simp at this)]
theorem vsD_new2 (h : ∀ k ∈ ownOf d, k.2 < c k.1) (hk : ∀ k ∈ Go.Pv.keyOf d.v, k.1 = 42) : vsD d (42, c 42) = 42 := by
  unfold vsD
  rw [if_neg (key_ne rfl), if_neg (fun e => by have := h (42, c 42) (by simp [ownOf, e]); exact absurd this (Nat.lt_irrefl _))]
theorem vsD_go (hk : ∀ k ∈ Go.Pv.keyOf d.v, k.1 = 42) {a b : Nat} : ∀ k ∈ Go.Pv.keyOf d.v, vsD d k ∈ [1000042, a] ∧ vsD d k ∈ [1000042, b] := fun k h => by
  have h1 : k ≠ (41, d.k) := fun e => by have := hk k h; rw [e] at this; simp at this
  unfold vsD
  rw [if_neg h1, if_pos h]; simp
theorem cset_le (c : Nat → Nat) (s : Nat) : ∀ t, c t ≤ cset c s t := fun t => by unfold cset; split <;> omega
theorem cset2_le (c : Nat → Nat) (a b : Nat) : ∀ t, c t ≤ cset (cset c a) b t := fun t => Nat.le_trans (cset_le c a t) (cset_le _ b t)
theorem own_not43 {h : Heap} {ds : List Dv} {g : Nat} (ha : ∀ d ∈ ds, DvAt h d) : (43, g) ∉ ownD ds := fun hm => by
  obtain ⟨d, hd, hk⟩ := List.mem_flatMap.1 hm
  rcases List.mem_cons.1 hk with e | e
  · exact key_ne rfl e
  · have := ((ha d hd).key42 _ e).1; simp at this
end

theorem frH108 : (inFrame Try.f108.ntmps (Try.f108.body.getD .skip) && Try.f108.results.toList.all (resScope Try.f108.ntmps)) = true := by kernel_rfl
theorem takeRef (m : Move) (ds : List Dv) (g : Nat) (h0 : Heap) (c0 : Nat → Nat) (hg : h0 (43, g) = some (.rows 1 (ds.map dcell))) (hgk : g < c0 43) (ha : ∀ d ∈ ds, DvAt h0 d) (hn : (ownD ds).Nodup) (hk : ∀ k ∈ ownD ds, k.2 < c0 k.1) (hb : 0 ≤ m.count ∧ m.count ≤ 100000) (hlf : ∀ d ∈ ds, 0 ≤ d.a.left ∧ d.a.left ≤ 100000) (hgl : ∀ d ∈ ds, d.a.gone.length ≤ 1000000) (hdl : ds.length ≤ 1000000) : HCallsR Try.prog 108 [.ref (43, g) 1 0 ds.length, .agg (Move.enc m)] h0 c0 (fun v h c => v = .tup [] ∧ ∃ es, TakeR m ds h0 c0 es h c) := by
  refine HCallsR.of_code Try.func108 rfl rfl (by kernel_rfl) mixed frH108 (by show _ ≤ 57; simp) ?_
  refine pwp_seq_plain rfl fun K1 hK1 => ?_
  refine p_new rfl (e_box (n := 4) rfl rfl) ⟨rfl, by decide⟩ ?_
  refine p_end (hK1 _ ?_); clear hK1 K1
  refine pwp_seq_plain rfl fun K2 hK2 => ?_
  refine p_step rfl (e_faP (pl := [(0, 1, false), (1, 1, false), (2, 1, false), (3, 1, false)]) rfl (by kernel_rfl) (by kernel_rfl) (by decide) rfl) trivial ?_
  refine p_step rfl (e_loadH (v := .sc _) rfl (hset_self _ _ _) (by kernel_rfl) (by kernel_rfl) (by kernel_rfl) (by exact Nat.zero_lt_one) (by decide) rfl) trivial ?_
  refine p_step rfl (e_assign (v := .sc _) rfl) trivial ?_
  refine p_end (hK2 _ ?_); clear hK2 K2
  refine pwp_seq_plain rfl fun K3 hK3 => ?_
  refine p_step rfl (e_move (v := .ref _ _ _ _) rfl) trivial ?_
  refine p_step rfl (e_lenR rfl (by kernel_rfl)) trivial ?_
  refine p_step rfl (e_move (v := .sc _) rfl) trivial ?_
  refine p_end (hK3 _ ?_); clear hK3 K3
  refine pwp_block ?_
  refine pwp_loopR (α := Nat × Int × (List Dv)) [3, 10, 11] (fun (a4 : Nat × Int × (List Dv)) => [(4, .int (a4.2.1)), (12, .int (a4.1))]) (fun (a4 : Nat × Int × (List Dv)) (h : Heap) (c : Nat → Nat) => ((a4.1) ≤ ds.length) ∧ (TakeI m ds h0 c0 (a4.1) (a4.2.1) (a4.2.2) h c) ∧ (h (3, c0 3) = some (.rows 4 [Move.enc m]))) (fun (a4 : Nat × Int × (List Dv)) => ds.length - (a4.1)) (0, m.count, ds) (by exact ⟨rfl, rfl, trivial⟩) (by exact ⟨by exact Nat.zero_le _, by exact take_0 ha hn hk (fun k hk2 => hset_ne fun e => by rw [e] at hk2; exact absurd hk2 (Nat.lt_irrefl _)) (cset_le c0 3) hb, (hset_self _ _ _)⟩) fun a4 r5 h6 c7 hj8 => ?_
  obtain ⟨i, n, es⟩ := a4
  obtain ⟨hi, hI, hihj8_0⟩ := hj8
  try dsimp only at hi
  try dsimp only at hI
  try dsimp only at hihj8_0
  show pwp _ _ (loopQ _ _ _) ⟨sets (mix _ _ _) [(4, .int n), (12, .int i)], _, _⟩
  refine pwp_seq_plain rfl fun K9 hK9 => ?_
  refine p_step rfl (e_lt rfl rfl) trivial ?_
  refine p_end (hK9 _ ?_); clear hK9 K9
  refine pwp_seq_cond rfl fun K10 hK10 => ⟨fun hb11 => ?_, fun hb11 => ?_⟩
  ·have hb11R := hb11; try simp only [z1, z2, z3, z4, z5, z6, ne_eq, z7, z8, z9, z10, z11, z12] at hb11
   obtain ⟨x, hx, hdx, htx⟩ := get_lt (xs := ds) (i := i) (by omega)
   have hD := hI.at_i hx
   have hnb := hI.nb
   have hlb := hlf x (List.mem_of_getElem? hx)
   have hg0 : h6 (43, g) = some (.rows 1 (ds.map dcell)) := (hI.fr _ (own_not43 ha) hgk).trans hg
   refine pwp_skip ?_
   refine seq_norm (hK10 _ ?_); clear hK10 K10
   refine pwp_seq_block fun K12 hK12 => ?_
   refine pwp_seq_plain rfl fun K13 hK13 => ?_
   refine p_step rfl (e_ixaR0 rfl rfl (by kernel_rfl) (by kernel_rfl) (by omega)) trivial ?_
   refine p_step rfl (e_loadH (v := .ptr (41, x.k) 3 0 0) rfl hg0 (by kernel_rfl) (by kernel_rfl) (by kernel_rfl) (by simp only [List.length_map]; omega) (by decide) ((cell_map hx _).trans rfl)) trivial ?_
   refine p_step rfl (e_assign (v := .ptr _ _ _ _) rfl) trivial ?_
   refine p_end (hK13 _ ?_); clear hK13 K13
   refine pwp_seq_plain rfl fun K14 hK14 => ?_
   refine p_step rfl (e_move (v := .sc _) rfl) trivial ?_
   refine p_step rfl (e_move (v := .ptr _ _ _ _) rfl) trivial ?_
   refine p_step rfl (e_nilc rfl) trivial ?_
   refine p_step rfl (e_faP (pl := [(0, 1, false), (1, 1, false), (2, 1, false)]) rfl (by kernel_rfl) (by kernel_rfl) (by decide) rfl) trivial ?_
   refine p_step rfl (e_loadH (v := .int x.a.left) rfl hD.1 (by kernel_rfl) (by kernel_rfl) (by kernel_rfl) (by exact Nat.zero_lt_one) (by decide) rfl) trivial ?_
   refine p_step rfl (e_min rfl rfl) trivial ?_
   refine p_step rfl (e_assign (v := .sc _) rfl) trivial ?_
   refine p_end (hK14 _ ?_); clear hK14 K14
   refine pwp_seq_plain rfl fun K15 hK15 => ?_
   refine p_step rfl (e_move (v := .sc _) rfl) trivial ?_
   refine p_step rfl (e_gt rfl rfl) trivial ?_
   refine p_end (hK15 _ ?_); clear hK15 K15
   refine pwp_cond rfl (fun hb16 => ?_) (fun hb16 => ?_)
   ·have hb16R := hb16; try simp only [z1, z2, z3, z4, z5, z6, ne_eq, z7, z8, z9, z10, z11, z12] at hb16
    have hk42 := fun k hk => (hD.key42 k hk).1
    have hkx : ∀ k ∈ ownOf x, k.2 < c7 k.1 := fun k hk => hI.kn k (ownOf_sub (List.mem_of_getElem? (hI.get hx)) hk)
    refine pwp_seq_gops rfl fun K17 hK17 => ?_
    refine v_begin (vsD x) ?_
    refine v_step [] (by simp) rfl rfl rfl rfl (e_move (v := .ptr _ _ _ _) rfl) trivial ?_
    refine v_step [] (by simp) rfl rfl rfl rfl (e_move (v := .ptr _ _ _ _) rfl) trivial ?_
    refine v_step [] (by simp) rfl rfl rfl rfl (e_nilc rfl) trivial ?_
    refine v_step [] (by simp) rfl rfl rfl rfl (e_faP (pl := [(0, 1, false), (1, 1, false), (2, 1, false)]) rfl (by kernel_rfl) (by kernel_rfl) (by decide) rfl) trivial ?_
    refine v_step [1000041] (by intro k hk; simp only [List.mem_singleton] at hk; subst hk; simp [vsD]) rfl rfl rfl rfl (e_loadH (v := x.v) rfl hD.1 (by kernel_rfl) (by kernel_rfl) (by kernel_rfl) (by exact Nat.zero_lt_one) (by decide) rfl) trivial ?_
    refine v_step [] (by simp) rfl rfl rfl rfl (e_faP (pl := [(0, 1, false), (1, 1, false), (2, 1, false), (3, 1, false)]) rfl (by kernel_rfl) (by kernel_rfl) (by decide) rfl) trivial ?_
    refine v_step [3] (by intro k hk; simp only [List.mem_singleton] at hk; subst hk; rw [vsD_ne (by simp) (by simp) hk42]; simp) rfl rfl rfl rfl (e_loadH (v := .sc _) rfl hihj8_0 (by kernel_rfl) (by kernel_rfl) (by kernel_rfl) (by exact Nat.zero_lt_one) (by decide) rfl) trivial ?_
    refine v_step [] (by simp) rfl rfl rfl rfl (e_move (v := .sc _) rfl) trivial ?_
    refine v_step [] (by simp) rfl rfl rfl rfl (e_move (v := .ptr _ _ _ _) rfl) trivial ?_
    refine v_step [] (by simp) rfl rfl rfl rfl (e_nilc rfl) trivial ?_
    refine v_step [] (by simp) rfl rfl rfl rfl (e_faP (pl := [(0, 1, false), (1, 1, false), (2, 1, false)]) rfl (by kernel_rfl) (by kernel_rfl) (by decide) rfl) trivial ?_
    refine v_step [1000041] (by intro k hk; simp only [List.mem_singleton] at hk; subst hk; simp [vsD]) rfl rfl rfl rfl (e_loadH (v := .int x.a.day) rfl hD.1 (by kernel_rfl) (by kernel_rfl) (by kernel_rfl) (by exact Nat.zero_lt_one) (by decide) rfl) trivial ?_
    refine v_step [] (by simp) rfl rfl rfl rfl (e_faP (pl := [(0, 1, false), (1, 1, false), (2, 1, false), (3, 1, false)]) rfl (by kernel_rfl) (by kernel_rfl) (by decide) rfl) trivial ?_
    refine v_step [3] (by intro k hk; simp only [List.mem_singleton] at hk; subst hk; rw [vsD_ne (by simp) (by simp) hk42]; simp) rfl rfl rfl rfl (e_loadH (v := .sc _) rfl hihj8_0 (by kernel_rfl) (by kernel_rfl) (by kernel_rfl) (by exact Nat.zero_lt_one) (by decide) rfl) trivial ?_
    refine v_step [] (by simp) rfl rfl rfl rfl (e_faP (pl := [(0, 1, false), (1, 1, false), (2, 1, false), (3, 1, false)]) rfl (by kernel_rfl) (by kernel_rfl) (by decide) rfl) trivial ?_
    refine v_step [3] (by intro k hk; simp only [List.mem_singleton] at hk; subst hk; rw [vsD_ne (by simp) (by simp) hk42]; simp) rfl rfl rfl rfl (e_loadH (v := .sc _) rfl hihj8_0 (by kernel_rfl) (by kernel_rfl) (by kernel_rfl) (by exact Nat.zero_lt_one) (by decide) rfl) trivial ?_
    refine v_step [] (by simp) rfl rfl rfl rfl (e_build (zs := [.str ByteArray.empty, .int 0, .int 0, .int 0, .int 0]) (pl := [(0, 1, false), (1, 1, false), (2, 1, false), (3, 1, false), (4, 1, false)]) (by kernel_rfl) (by kernel_rfl) (by kernel_rfl) rfl rfl (by exact ⟨by decide, rfl, Nat.le_of_ble_eq_true rfl, rfl, ⟨by decide, rfl, Nat.le_of_ble_eq_true rfl, rfl, ⟨by decide, rfl, Nat.le_of_ble_eq_true rfl, rfl, ⟨by decide, rfl, Nat.le_of_ble_eq_true rfl, rfl, ⟨by decide, rfl, Nat.le_of_ble_eq_true rfl, rfl, trivial⟩⟩⟩⟩⟩) rfl) trivial ?_
    refine v_new (g := c7 41) [] [41] (by simp) (by rw [vsD_new hkx hk42]; simp) rfl rfl rfl rfl (e_bslice (rows := [Lot.enc ⟨m.part, min n x.a.left, x.a.day, m.day, m.kind⟩]) (zs := [.str ByteArray.empty, .int 0, .int 0, .int 0, .int 0]) (sz := 5) (by kernel_rfl) (by kernel_rfl) rfl (by kernel_rfl) (by decide) rfl rfl (by exact ⟨by decide, rfl, rfl, trivial⟩) rfl) trivial ?_
    have hSx : SliceAt (hset h6 (41, c7 41) (some (.rows 5 [Lot.enc ⟨m.part, min n x.a.left, x.a.day, m.day, m.kind⟩]))) 42 x.v 5 (x.a.gone.map Lot.enc) := hD.2.keep fun _ => hset_ne (key_ne rfl)
    refine v_app [1000042, 41] [1000042, 42] rfl rfl (vsD_go hk42) (by rw [vsD_new hkx hk42]; simp) (by show vsD x (42, c7 42) ∈ _; rw [vsD_new2 hkx hk42]; simp) rfl rfl rfl hSx (hset_self _ _ _) rfl (by decide) rfl (by kernel_rfl) (by simp only [List.length_map, List.length_cons, List.length_nil]; have := hgl x (List.mem_of_getElem? hx); omega) fun h4 hn4 hf4 => ?_
    refine v_step [] (by simp) rfl rfl rfl rfl (e_nilc rfl) trivial ?_
    refine v_step [] (by simp) rfl rfl rfl rfl (e_faP (pl := [(0, 1, false), (1, 1, false), (2, 1, false)]) rfl (by kernel_rfl) (by kernel_rfl) (by decide) rfl) trivial ?_
    have hB0 : h4 (41, x.k) = some (.rows 3 [[.int x.a.day, .int x.a.left, x.v]]) := (hf4 _ (key_ne rfl) (fun h => by have := hk42 _ h; simp at this)).trans ((hset_ne (fun e => by have := hkx (41, x.k) (by simp [ownOf]); rw [e] at this; exact absurd this (Nat.lt_irrefl _))).trans hD.1)
    refine v_store [1000041] [1000041] (by intro k hk; simp only [List.mem_singleton] at hk; subst hk; simp [vsD]) (by simp [vsD]) rfl rfl (e_store1 rfl hB0 rfl rfl rfl (by decide) (by kernel_rfl) rfl (by kernel_rfl)) trivial ?_
    refine v_end (by kernel_rfl) rfl (hK17 _ ?_); clear hK17 K17
    have hB1 : hset h4 (41, x.k) (some (.rows 3 [[.int x.a.day, .int x.a.left, .ref (42, c7 42) 5 0 (x.a.gone.length + 1)]])) (41, x.k) = _ := hset_self _ _ _
    show pwp _ _ _ ⟨_, hset h4 (41, x.k) (some (.rows 3 [[.int x.a.day, .int x.a.left, .ref (42, c7 42) 5 0 ((x.a.gone.map Lot.enc).length + 1)]])), _⟩
    rw [List.length_map]
    refine pwp_seq_plain rfl fun K18 hK18 => ?_
    refine p_step rfl (e_move (v := .ptr _ _ _ _) rfl) trivial ?_
    refine p_step rfl (e_nilc rfl) trivial ?_
    refine p_step rfl (e_faP (pl := [(0, 1, false), (1, 1, false), (2, 1, false)]) rfl (by kernel_rfl) (by kernel_rfl) (by decide) rfl) trivial ?_
    refine p_step rfl (e_loadH (v := .int x.a.left) rfl hB1 (by kernel_rfl) (by kernel_rfl) (by kernel_rfl) (by exact Nat.zero_lt_one) (by decide) rfl) trivial ?_
    refine p_step rfl (e_move (v := .sc _) rfl) trivial ?_
    refine p_step rfl (e_sub rfl rfl (by omega)) trivial ?_
    refine p_step rfl (e_nilc rfl) trivial ?_
    refine p_step rfl (e_faP (pl := [(0, 1, false), (1, 1, false), (2, 1, false)]) rfl (by kernel_rfl) (by kernel_rfl) (by decide) rfl) trivial ?_
    refine p_store rfl (e_store1 rfl hB1 rfl rfl rfl (by decide) (by kernel_rfl) rfl (by kernel_rfl)) trivial ?_
    refine p_end (hK18 _ ?_); clear hK18 K18
    have hT := hI.step (h' := hset (hset h4 (41, x.k) (some (.rows 3 [[.int x.a.day, .int x.a.left, .ref (42, c7 42) 5 0 (x.a.gone.length + 1)]]))) (41, x.k) (some (.rows 3 [[.int x.a.day, .int (x.a.left - min n x.a.left), .ref (42, c7 42) 5 0 (x.a.gone.length + 1)]]))) (c' := cset (cset c7 41) 42) hx (by assumption) rfl rfl (hset_self _ _ _) ((hset_ne (key_ne rfl)).trans ((hset_ne (key_ne rfl)).trans (by refine Eq.trans hn4 ?_; simp))) (fun k q1 q2 q3 q4 => (hset_ne q1).trans ((hset_ne q1).trans ((hf4 k (fun e => q3 e) q2).trans (hset_ne fun e => by rw [e] at q4; exact absurd q4 (Nat.lt_irrefl _))))) (cset2_le c7 41 42) (by show c7 42 < cset (cset c7 41) 42 42; simp [cset])
    have hgm : ∀ k : Key, k.1 ≠ 41 → k.1 ≠ 42 → hset (hset h4 (41, x.k) (some (.rows 3 [[.int x.a.day, .int x.a.left, .ref (42, c7 42) 5 0 (x.a.gone.length + 1)]]))) (41, x.k) (some (.rows 3 [[.int x.a.day, .int (x.a.left - min n x.a.left), .ref (42, c7 42) 5 0 (x.a.gone.length + 1)]])) k = h6 k := fun k q1 q2 => (hset_ne (fun e => q1 (by rw [e]))).trans ((hset_ne (fun e => q1 (by rw [e]))).trans ((hf4 k (fun e => q2 (by rw [e])) (fun e => q2 (hk42 _ e))).trans (hset_ne fun e => q1 (by rw [e]))))
    have ho19 := (hgm (3, _) (by simp) (by simp)).trans hihj8_0
    refine pwp_plain rfl fun K20 hK20 => ?_
    refine p_step rfl (e_move (v := .sc _) rfl) trivial ?_
    refine p_step rfl (e_move (v := .sc _) rfl) trivial ?_
    refine p_step rfl (e_sub rfl rfl (by omega)) trivial ?_
    refine p_step rfl (e_assign (v := .sc _) rfl) trivial ?_
    refine p_end (hK20 _ ?_); clear hK20 K20
    refine block_norm ?_
    refine seq_norm (hK12 _ ?_); clear hK12 K12
    refine pwp_plain rfl fun K21 hK21 => ?_
    refine p_step rfl (e_add rfl rfl (by omega)) trivial ?_
    refine p_step rfl (e_move (v := .sc _) rfl) trivial ?_
    refine p_end (hK21 _ ?_); clear hK21 K21
    exact loop_again ((i + 1, (n - (min n x.a.left)), es.set i _)) (by show _ < _; simp only; omega) ⟨rfl, rfl, rfl, trivial⟩ ⟨rfl, rfl, trivial⟩ (by exact ⟨by show _ + 1 ≤ _; omega, by first | exact hT | exact hI.skip hx (by omega), ho19⟩)
   ·have hb16R := hb16; try simp only [z1, z2, z3, z4, z5, z6, ne_eq, z7, z8, z9, z10, z11, z12] at hb16
    refine pwp_skip ?_
    refine block_norm ?_
    refine seq_norm (hK12 _ ?_); clear hK12 K12
    refine pwp_plain rfl fun K22 hK22 => ?_
    refine p_step rfl (e_add rfl rfl (by omega)) trivial ?_
    refine p_step rfl (e_move (v := .sc _) rfl) trivial ?_
    refine p_end (hK22 _ ?_); clear hK22 K22
    exact loop_again ((i + 1, n, es)) (by show _ < _; simp only; omega) ⟨rfl, rfl, rfl, trivial⟩ ⟨rfl, rfl, trivial⟩ (by exact ⟨by show _ + 1 ≤ _; omega, by first | exact hT | exact hI.skip hx (by omega), hihj8_0⟩)
  ·have hb11R := hb11; try simp only [z1, z2, z3, z4, z5, z6, ne_eq, z7, z8, z9, z10, z11, z12] at hb11
   obtain rfl : i = ds.length := by omega
   refine pwp_exit ?_
   refine exit_seq ?_
   clear hK10 K10
   refine exit_loop ?_
   refine exit_here ?_
   refine end0n   ?_
   exact ⟨rfl, _, hI.fin⟩

theorem takeNil (m : Move) (ds : List Dv) (hds : ds = []) (h0 : Heap) (c0 : Nat → Nat) (ha : ∀ d ∈ ds, DvAt h0 d) (hn : (ownD ds).Nodup) (hk : ∀ k ∈ ownD ds, k.2 < c0 k.1) (hb : 0 ≤ m.count ∧ m.count ≤ 100000) : HCallsR Try.prog 108 [.nil, .agg (Move.enc m)] h0 c0 (fun v h c => v = .tup [] ∧ ∃ es, TakeR m ds h0 c0 es h c) := by
  refine HCallsR.of_code Try.func108 rfl rfl (by kernel_rfl) mixed frH108 (by show _ ≤ 57; simp) ?_
  refine pwp_seq_plain rfl fun K1 hK1 => ?_
  refine p_new rfl (e_box (n := 4) rfl rfl) ⟨rfl, by decide⟩ ?_
  refine p_end (hK1 _ ?_); clear hK1 K1
  refine pwp_seq_plain rfl fun K2 hK2 => ?_
  refine p_step rfl (e_faP (pl := [(0, 1, false), (1, 1, false), (2, 1, false), (3, 1, false)]) rfl (by kernel_rfl) (by kernel_rfl) (by decide) rfl) trivial ?_
  refine p_step rfl (e_loadH (v := .sc _) rfl (hset_self _ _ _) (by kernel_rfl) (by kernel_rfl) (by kernel_rfl) (by exact Nat.zero_lt_one) (by decide) rfl) trivial ?_
  refine p_step rfl (e_assign (v := .sc _) rfl) trivial ?_
  refine p_end (hK2 _ ?_); clear hK2 K2
  refine pwp_seq_plain rfl fun K3 hK3 => ?_
  refine p_step rfl (e_move (v := .nil) rfl) trivial ?_
  refine p_step rfl (e_lenN rfl (by kernel_rfl)) trivial ?_
  refine p_step rfl (e_move (v := .sc _) rfl) trivial ?_
  refine p_end (hK3 _ ?_); clear hK3 K3
  refine pwp_block ?_
  refine pwp_loopR (α := Nat × Int × (List Dv)) [3, 10, 11] (fun (a4 : Nat × Int × (List Dv)) => [(4, .int (a4.2.1)), (12, .int (a4.1))]) (fun (a4 : Nat × Int × (List Dv)) (h : Heap) (c : Nat → Nat) => ((a4.1) ≤ ds.length) ∧ (TakeI m ds h0 c0 (a4.1) (a4.2.1) (a4.2.2) h c) ∧ (h (3, c0 3) = some (.rows 4 [Move.enc m]))) (fun (a4 : Nat × Int × (List Dv)) => ds.length - (a4.1)) (0, m.count, ds) (by exact ⟨rfl, rfl, trivial⟩) (by exact ⟨by exact Nat.zero_le _, by exact take_0 ha hn hk (fun k hk2 => hset_ne fun e => by rw [e] at hk2; exact absurd hk2 (Nat.lt_irrefl _)) (cset_le c0 3) hb, (hset_self _ _ _)⟩) fun a4 r5 h6 c7 hj8 => ?_
  obtain ⟨i, n, es⟩ := a4
  obtain ⟨hi, hI, hihj8_0⟩ := hj8
  try dsimp only at hi
  try dsimp only at hI
  try dsimp only at hihj8_0
  show pwp _ _ (loopQ _ _ _) ⟨sets (mix _ _ _) [(4, .int n), (12, .int i)], _, _⟩
  refine pwp_seq_plain rfl fun K9 hK9 => ?_
  refine p_step rfl (e_lt rfl rfl) trivial ?_
  refine p_end (hK9 _ ?_); clear hK9 K9
  refine pwp_seq_cond rfl fun K10 hK10 => ⟨fun hb11 => ?_, fun hb11 => ?_⟩
  ·have hb11R := hb11; try simp only [z1, z2, z3, z4, z5, z6, ne_eq, z7, z8, z9, z10, z11, z12] at hb11
   exfalso; omega
  ·have hb11R := hb11; try simp only [z1, z2, z3, z4, z5, z6, ne_eq, z7, z8, z9, z10, z11, z12] at hb11
   obtain rfl : i = ds.length := by rw [hds] at hi ⊢; simp at hi ⊢; omega
   refine pwp_exit ?_
   refine exit_seq ?_
   clear hK10 K10
   refine exit_loop ?_
   refine exit_here ?_
   refine end0n   ?_
   exact ⟨rfl, _, hI.fin⟩

theorem take_calls (m : Move) (ds : List Dv) (v : PV) (h0 : Heap) (c0 : Nat → Nat) (hs : SliceAt h0 43 v 1 (ds.map dcell)) (hgk : ∀ k ∈ Go.Pv.keyOf v, k.2 < c0 k.1) (ha : ∀ d ∈ ds, DvAt h0 d) (hn : (ownD ds).Nodup) (hk : ∀ k ∈ ownD ds, k.2 < c0 k.1) (hb : 0 ≤ m.count ∧ m.count ≤ 100000) (hlf : ∀ d ∈ ds, 0 ≤ d.a.left ∧ d.a.left ≤ 100000) (hgl : ∀ d ∈ ds, d.a.gone.length ≤ 1000000) (hdl : ds.length ≤ 1000000) :
    HCallsR Try.prog 108 [v, .agg (Move.enc m)] h0 c0 (fun v h c => v = .tup [] ∧ ∃ es, TakeR m ds h0 c0 es h c) := by
  rcases hs with ⟨h1, rfl⟩ | ⟨g, rfl, hg⟩
  · exact takeNil m ds (by simpa using h1) h0 c0 ha hn hk hb
  · rw [List.length_map]
    exact takeRef m ds g h0 c0 hg (hgk (43, g) (by simp [Go.Pv.keyOf])) ha hn hk hb hlf hgl hdl
end Go.Proofs.Ytdbpfhbppcpbbaa

/- All deliveries in own memory. Plain. -/
set_option linter.unusedSimpArgs false
set_option linter.unusedVariables false
namespace Go.Proofs.Ytdbpfhbppcpbbaa
open Go Go.Pv
/-! ### All deliveries, by parts, in own memory -/
/-- The deliveries of one part: their slice, what they are. -/
structure Cm where
  v : PV
  ds : List Dv
  deriving Inhabited
def ccell (c : Cm) : List PV := [c.v]
def ownC (c : Cm) : List Key := Go.Pv.keyOf c.v ++ ownD c.ds
def ownS (cs : List Cm) : List Key := cs.flatMap ownC
def stepD (m : Move) (ds : List Da) : List Da := if m.kind = 0 then ds ++ [⟨m.day, m.count, []⟩] else takeL m m.count ds
def stepC (ts : List Term) (cs : List (List Da)) (m : Move) : List (List Da) := cs.set (termIx ts m.part).toNat (stepD m (cs.getD (termIx ts m.part).toNat []))
/-- What moves make of the deliveries of each part. -/
def cameL (ts : List Term) (ms : List Move) : List (List Da) := ms.foldl (stepC ts) (List.replicate ts.length [])
structure LotsI (ts : List Term) (pre : List Move) (cs : List Cm) (h : Heap) (c : Nat → Nat) : Prop where
  len : cs.length = ts.length
  abs : cs.map (fun x => x.ds.map (·.a)) = cameL ts pre
  outer : h (16, 0) = some (.rows 1 (cs.map ccell))
  came : ∀ x ∈ cs, SliceAt h 43 x.v 1 (x.ds.map dcell)
  at_ : ∀ x ∈ cs, ∀ d ∈ x.ds, DvAt h d
  nd : (ownS cs).Nodup
  kn : ∀ k ∈ ownS cs, k.2 < c k.1
  k16 : 0 < c 16
theorem cameL_snoc (ts : List Term) (pre : List Move) (m : Move) : cameL ts (pre ++ [m]) = stepC ts (cameL ts pre) m := by unfold cameL; rw [List.foldl_append]; rfl
theorem came_key {h : Heap} {x : Cm} (hs : SliceAt h 43 x.v 1 (x.ds.map dcell)) : ∀ k ∈ Go.Pv.keyOf x.v, k.1 = 43 := fun k hk => by
  rcases hs with ⟨_, h2⟩ | ⟨g, h2, h3⟩
  · rw [h2] at hk; simp [Go.Pv.keyOf] at hk
  · rw [h2] at hk; simp [Go.Pv.keyOf] at hk; subst hk; rfl
theorem ownD_site {h : Heap} {ds : List Dv} (ha : ∀ d ∈ ds, DvAt h d) : ∀ k ∈ ownD ds, k.1 = 41 ∨ k.1 = 42 := fun k hk => by
  obtain ⟨d, hd, hk⟩ := List.mem_flatMap.1 hk
  rcases List.mem_cons.1 hk with e | e
  · left; rw [e]
  · right; exact ((ha d hd).key42 _ e).1
theorem ownC_sub {cs : List Cm} {x : Cm} (hx : x ∈ cs) {k : Key} (hk : k ∈ ownC x) : k ∈ ownS cs := List.mem_flatMap.2 ⟨x, hx, hk⟩
theorem ownS_split {cs : List Cm} {i : Nat} {x : Cm} (hd : cs[i]? = some x) : ownS cs = ownS (cs.take i) ++ (ownC x ++ ownS (cs.drop (i + 1))) := by
  have hlt := (List.getElem?_eq_some_iff.1 hd).1
  have : cs = cs.take i ++ x :: cs.drop (i + 1) := by
    have h1 := (List.getElem?_eq_some_iff.1 hd).2
    rw [← h1, ← List.drop_eq_getElem_cons hlt, List.take_append_drop]
  unfold ownS
  conv => lhs; rw [this]
  rw [List.flatMap_append, List.flatMap_cons]
theorem ownS_set {cs : List Cm} {i : Nat} {x y : Cm} (hd : cs[i]? = some x) : ownS (cs.set i y) = ownS (cs.take i) ++ (ownC y ++ ownS (cs.drop (i + 1))) := by
  have hlt := (List.getElem?_eq_some_iff.1 hd).1
  rw [List.set_eq_take_append_cons_drop, if_pos hlt]
  unfold ownS
  rw [List.flatMap_append, List.flatMap_cons]
section
variable {ts : List Term} {pre : List Move} {cs : List Cm} {h h' : Heap} {c c' : Nat → Nat} {m : Move} {x : Cm}
theorem LotsI.keep (H : LotsI ts pre cs h c) (hk : ∀ k : Key, k.1 ≠ 7 → h' k = h k) (hc : ∀ t, c t ≤ c' t) : LotsI ts pre cs h' c' :=
  ⟨H.len, H.abs, (hk _ (by simp)).trans H.outer, fun x hx => (H.came x hx).keep fun g => hk _ (by simp), fun x hx d hd => (H.at_ x hx d hd).keep fun k hk2 => hk k (by
    have := ownD_site (H.at_ x hx) k (ownOf_sub hd hk2); omega), H.nd, fun k hk2 => Nat.lt_of_lt_of_le (H.kn k hk2) (hc _), Nat.lt_of_lt_of_le H.k16 (hc _)⟩
theorem lots_0 (ts : List Term) (hc : 0 < c 16) (ho : h (16, 0) = some (.rows 1 (List.replicate ts.length [.nil]))) : LotsI ts [] (List.replicate ts.length ⟨.nil, []⟩) h c := by
  have h0 : ∀ x ∈ List.replicate ts.length (⟨.nil, []⟩ : Cm), x = ⟨.nil, []⟩ := fun x hx => (List.mem_replicate.1 hx).2
  have h1 : ownS (List.replicate ts.length (⟨.nil, []⟩ : Cm)) = [] := by
    unfold ownS
    rw [List.flatMap_eq_nil_iff]
    intro x hx; rw [h0 x hx]; rfl
  refine ⟨by simp, by simp [cameL], by rw [ho]; simp [ccell], fun x hx => by rw [h0 x hx]; exact .nil, fun x hx d hd => by rw [h0 x hx] at hd; simp at hd, by rw [h1]; simp, fun k hk => by rw [h1] at hk; simp at hk, hc⟩
theorem LotsI.abs_get {i : Nat} (H : LotsI ts pre cs h c) (hx : cs[i]? = some x) : (cameL ts pre).getD i [] = x.ds.map (·.a) := by
  rw [← H.abs, List.getD_eq_getElem?_getD, List.getElem?_map, hx]; rfl
/-- One part's deliveries give way to others. -/
theorem LotsI.turn {i : Nat} {y : Cm} (H : LotsI ts pre cs h c) (hx : cs[i]? = some x) (hi : (termIx ts m.part).toNat = i) (hy : y.ds.map (·.a) = stepD m (x.ds.map (·.a)))
    (ho : h' (16, 0) = some (.rows 1 ((cs.set i y).map ccell))) (hyc : SliceAt h' 43 y.v 1 (y.ds.map dcell)) (hya : ∀ d ∈ y.ds, DvAt h' d) (hyn : (ownC y).Nodup) (hys : ∀ k ∈ ownC y, k ∈ ownC x ∨ c k.1 ≤ k.2) (hyk : ∀ k ∈ ownC y, k.2 < c' k.1)
    (hf : ∀ k : Key, k ≠ (16, 0) → k ∉ ownC x → k.2 < c k.1 → h' k = h k) (hc : ∀ t, c t ≤ c' t) : LotsI ts (pre ++ [m]) (cs.set i y) h' c' := by
  have hlt := (List.getElem?_eq_some_iff.1 hx).1
  have hsp := ownS_split hx
  have hnd := H.nd
  rw [hsp] at hnd
  have hoth : ∀ e : Cm, e ∈ cs.take i ∨ e ∈ cs.drop (i + 1) → ∀ k ∈ ownC e, h' k = h k ∧ k.2 < c k.1 := by
    intro e he k hk
    have hec : e ∈ cs := he.elim List.mem_of_mem_take List.mem_of_mem_drop
    have hks := H.kn k (ownC_sub hec hk)
    have hke : k ∈ ownS (cs.take i) ∨ k ∈ ownS (cs.drop (i + 1)) := he.imp (fun h => ownC_sub h hk) fun h => ownC_sub h hk
    refine ⟨hf k (fun e2 => ?_) (fun hc2 => ?_) hks, hks⟩
    · rcases List.mem_append.1 hk with h3 | h3
      · have := came_key (H.came e hec) k h3; rw [e2] at this; simp at this
      · have := ownD_site (H.at_ e hec) k h3; rw [e2] at this; simp at this
    · rw [List.nodup_append] at hnd
      rcases hke with h | h
      · exact hnd.2.2 k h k (List.mem_append.2 (.inl hc2)) rfl
      · exact (List.nodup_append.1 hnd.2.1).2.2 k hc2 k h rfl
  have hmem : ∀ e ∈ cs.set i y, e = y ∨ (e ∈ cs.take i ∨ e ∈ cs.drop (i + 1)) := fun e he => by
    rw [List.set_eq_take_append_cons_drop, if_pos hlt] at he
    rcases List.mem_append.1 he with h1 | h1
    · exact .inr (.inl h1)
    · rcases List.mem_cons.1 h1 with rfl | h1
      · exact .inl rfl
      · exact .inr (.inr h1)
  have hmc : ∀ e : Cm, e ∈ cs.take i ∨ e ∈ cs.drop (i + 1) → e ∈ cs := fun e he => he.elim List.mem_of_mem_take List.mem_of_mem_drop
  refine ⟨by rw [List.length_set]; exact H.len, ?_, ho, ?_, ?_, ?_, ?_, Nat.lt_of_lt_of_le H.k16 (hc _)⟩
  · rw [cameL_snoc, stepC, hi, H.abs_get hx, List.map_set, hy, H.abs]
  · intro e he
    rcases hmem e he with rfl | he
    · exact hyc
    · rcases H.came e (hmc e he) with h2 | ⟨g, h2, h3⟩
      · exact .inl h2
      · exact .inr ⟨g, h2, ((hoth e he (43, g) (by rw [ownC, h2]; simp [Go.Pv.keyOf])).1).trans h3⟩
  · intro e he
    rcases hmem e he with rfl | he
    · exact hya
    · exact fun d hd => (H.at_ e (hmc e he) d hd).keep fun k hk => (hoth e he k (List.mem_append.2 (.inr (ownOf_sub hd hk)))).1
  · rw [ownS_set hx]
    refine nodup_mid hnd hyn fun k hk => ?_
    rcases hys k hk with h1 | h1
    · exact .inl h1
    · right
      refine ⟨fun h2 => ?_, fun h2 => ?_⟩
      · obtain ⟨e, he, hke⟩ := List.mem_flatMap.1 h2
        have := (hoth e (.inl he) k hke).2; omega
      · obtain ⟨e, he, hke⟩ := List.mem_flatMap.1 h2
        have := (hoth e (.inr he) k hke).2; omega
  · intro k hk
    obtain ⟨e, he, hke⟩ := List.mem_flatMap.1 hk
    rcases hmem e he with rfl | he
    · exact hyk k hke
    · exact Nat.lt_of_lt_of_le (hoth e he k hke).2 (hc _)
/-- Pieces were taken. -/
theorem LotsI.taken {i : Nat} {es : List Dv} (H : LotsI ts pre cs h c) (hx : cs[i]? = some x) (hi : (termIx ts m.part).toNat = i) (hm : ¬ m.kind = 0) (T : TakeR m x.ds h c es h' c') : LotsI ts (pre ++ [m]) (cs.set i ⟨x.v, es⟩) h' c' := by
  have hxc : x ∈ cs := List.mem_of_getElem? hx
  have hlt := (List.getElem?_eq_some_iff.1 hx).1
  have hsite := ownD_site (H.at_ x hxc)
  have hkv : ∀ k ∈ Go.Pv.keyOf x.v, k ∉ ownD x.ds := fun k hk h2 => by
    have h3 := came_key (H.came x hxc) k hk; have h4 := hsite k h2; omega
  have hnx : (ownC x).Nodup := by
    have := H.nd; rw [ownS_split hx, List.nodup_append] at this
    exact (List.nodup_append.1 this.2.1).1
  have hcell : es.map dcell = x.ds.map dcell := by
    have h1 := T.keys
    have : ∀ l : List Dv, l.map dcell = (l.map (·.k)).map fun k => [PV.ptr (41, k) 3 0 0] := fun l => by simp [dcell]
    rw [this, this, h1]
  have hse : ∀ k ∈ ownD es, k.1 = 41 ∨ k.1 = 42 := ownD_site T.at_
  refine H.turn hx hi ?_ ?_ ?_ T.at_ ?_ ?_ ?_ ?_ T.cm
  · rw [T.tl, stepD, if_neg hm]
  · rw [T.fr (16, 0) (fun h2 => by have := hsite _ h2; simp at this) H.k16, H.outer]
    congr 2
    apply List.ext_getElem?
    intro j
    rw [List.getElem?_map, List.getElem?_map, List.getElem?_set]
    split
    · rename_i hj; subst hj; rw [hx]; rfl
    · rfl
  · show SliceAt h' 43 x.v 1 (es.map dcell)
    rw [hcell]
    rcases H.came x hxc with h2 | ⟨g, h2, h3⟩
    · exact .inl h2
    · exact .inr ⟨g, h2, (T.fr (43, g) (hkv _ (by rw [h2]; simp [Go.Pv.keyOf])) (H.kn (43, g) (ownC_sub hxc (by rw [ownC, h2]; simp [Go.Pv.keyOf])))).trans h3⟩
  · rw [ownC, List.nodup_append]
    refine ⟨(List.nodup_append.1 hnx).1, T.nd, fun a ha b hb e => ?_⟩
    have h1 := came_key (H.came x hxc) a ha
    have h2 := hse b hb
    rw [e] at h1; omega
  · intro k hk
    rcases List.mem_append.1 hk with h1 | h1
    · exact .inl (List.mem_append.2 (.inl h1))
    · exact (T.sub k h1).imp (fun h => List.mem_append.2 (.inr h)) id
  · intro k hk
    rcases List.mem_append.1 hk with h1 | h1
    · exact Nat.lt_of_lt_of_le (H.kn k (ownC_sub hxc (List.mem_append.2 (.inl h1)))) (T.cm _)
    · exact T.kn k h1
  · intro k _ h2 h3
    exact T.fr k (fun h4 => h2 (List.mem_append.2 (.inr h4))) h3
/-- Pieces came. -/
theorem LotsI.came1 {i : Nat} {y : Cm} (H : LotsI ts pre cs h c) (hx : cs[i]? = some x) (hi : (termIx ts m.part).toNat = i) (hm : m.kind = 0) (hy : y = ⟨.ref (43, c 43) 1 0 (x.ds.length + 1), x.ds ++ [⟨c 41, .nil, ⟨m.day, m.count, []⟩⟩]⟩)
    (ho : h' (16, 0) = some (.rows 1 ((cs.set i y).map ccell))) (hgc : h' (43, c 43) = some (.rows 1 (x.ds.map dcell ++ [[.ptr (41, c 41) 3 0 0]]))) (hgb : h' (41, c 41) = some (.rows 3 [[.int m.day, .int m.count, .nil]]))
    (hf : ∀ k : Key, k ≠ (16, 0) → k ∉ Go.Pv.keyOf x.v → k.2 < c k.1 → h' k = h k) (hc : ∀ t, c t ≤ c' t) (h41 : c 41 < c' 41) (h43 : c 43 < c' 43) : LotsI ts (pre ++ [m]) (cs.set i y) h' c' := by
  have hxc : x ∈ cs := List.mem_of_getElem? hx
  have hsite := ownD_site (H.at_ x hxc)
  have hnx : (ownC x).Nodup := by
    have := H.nd; rw [ownS_split hx, List.nodup_append] at this
    exact (List.nodup_append.1 this.2.1).1
  have hkv : ∀ k ∈ ownD x.ds, k ∉ Go.Pv.keyOf x.v := fun k h2 hk => by
    have h3 := came_key (H.came x hxc) k hk; have h4 := hsite k h2; omega
  have hknx : ∀ k ∈ ownD x.ds, k.2 < c k.1 := fun k hk => H.kn k (ownC_sub hxc (List.mem_append.2 (.inr hk)))
  have hoy : ownC y = (43, c 43) :: (ownD x.ds ++ [(41, c 41)]) := by
    rw [hy]; simp [ownC, ownD, ownOf, Go.Pv.keyOf]
  refine H.turn hx hi ?_ ho ?_ ?_ ?_ ?_ ?_ ?_ hc
  · rw [hy, stepD, if_pos hm]; simp
  · rw [hy]
    refine .inr ⟨c 43, by simp, ?_⟩
    rw [hgc]; simp [dcell]
  · intro d hd
    rw [hy] at hd
    rcases List.mem_append.1 hd with h1 | h1
    · refine (H.at_ x hxc d h1).keep fun k hk => ?_
      have hk2 := ownOf_sub h1 hk
      exact hf k (fun e => by have := hsite k hk2; rw [e] at this; simp at this) (hkv k hk2) (hknx k hk2)
    · simp at h1; subst h1
      exact ⟨hgb, .inl ⟨rfl, rfl⟩⟩
  · rw [hoy, List.nodup_cons, List.nodup_append]
    refine ⟨fun h1 => ?_, (List.nodup_append.1 hnx).2.1, by simp, fun a ha b hb e => ?_⟩
    · rcases List.mem_append.1 h1 with h2 | h2
      · have := hsite _ h2; simp at this
      · simp at h2
    · simp at hb; subst hb; subst e
      have := hknx _ ha
      simp at this
  · intro k hk
    rw [hoy] at hk
    rcases List.mem_cons.1 hk with rfl | hk
    · right; exact Nat.le_refl _
    · rcases List.mem_append.1 hk with h2 | h2
      · left; exact List.mem_append.2 (.inr h2)
      · simp at h2; subst h2; right; exact Nat.le_refl _
  · intro k hk
    rw [hoy] at hk
    rcases List.mem_cons.1 hk with rfl | hk
    · exact h43
    · rcases List.mem_append.1 hk with h2 | h2
      · exact Nat.lt_of_lt_of_le (hknx k h2) (hc _)
      · simp at h2; subst h2; exact h41
  · intro k h1 h2 h3
    exact hf k h1 (fun h4 => h2 (List.mem_append.2 (.inl h4))) h3
end
/-! ### Bounds -/
def okD (k : Nat) (d : Da) : Prop := (0 ≤ d.left ∧ d.left ≤ 100000) ∧ d.gone.length ≤ k
theorem takeL_ok (m : Move) {k : Nat} : ∀ (l : List Da) (n : Int), (∀ d ∈ l, okD k d) → ∀ d ∈ takeL m n l, okD (k + 1) d
  | [], _, _ => by intro d hd; simp [takeL] at hd
  | a :: l, n, h => by
    have h0 := h a (by simp)
    have h1 := fun n => takeL_ok m l n fun d hd => h d (by simp [hd])
    unfold takeL
    split
    · intro d hd
      rcases List.mem_cons.1 hd with rfl | hd
      · unfold okD at h0 ⊢; simp; omega
      · exact h1 _ d hd
    · intro d hd
      rcases List.mem_cons.1 hd with rfl | hd
      · unfold okD at h0 ⊢; omega
      · exact h1 _ d hd
theorem came_ok {ts : List Term} : ∀ (l pre : List Move), (∀ ds ∈ cameL ts pre, ds.length ≤ pre.length ∧ ∀ d ∈ ds, okD pre.length d) → (∀ m ∈ l, okM m) → ∀ ds ∈ cameL ts (pre ++ l), ds.length ≤ (pre ++ l).length ∧ ∀ d ∈ ds, okD (pre ++ l).length d
  | [], pre, h, _ => by simpa using h
  | m :: l, pre, h, hok => by
    have := came_ok (ts := ts) l (pre ++ [m]) ?_ fun x hx => hok x (by simp [hx])
    · simpa using this
    · intro ds hds
      rw [cameL_snoc, stepC] at hds
      rw [List.length_append]
      have hup : ∀ d, okD pre.length d → okD (pre.length + 1) d := fun d hd => by unfold okD at hd ⊢; omega
      rcases List.mem_or_eq_of_mem_set hds with h1 | h1
      · exact ⟨by have := (h ds h1).1; omega, fun d hd => hup d ((h ds h1).2 d hd)⟩
      · have hold : ((cameL ts pre).getD (termIx ts m.part).toNat []).length ≤ pre.length ∧ ∀ d ∈ (cameL ts pre).getD (termIx ts m.part).toNat [], okD pre.length d := by
          rw [List.getD_eq_getElem?_getD]
          cases hq : (cameL ts pre)[(termIx ts m.part).toNat]? with
          | none => simp
          | some a => exact h a (List.mem_of_getElem? hq)
        have hm := (hok m (by simp)).2
        rw [h1, stepD]
        split
        · refine ⟨by rw [List.length_append]; simp only [List.length_cons, List.length_nil]; omega, fun d hd => ?_⟩
          rcases List.mem_append.1 hd with hd | hd
          · exact hup d (hold.2 d hd)
          · simp at hd; subst hd; unfold okD; simp; omega
        · exact ⟨by rw [takeL_len]; simp only [List.length_cons, List.length_nil]; omega, takeL_ok m _ _ hold.2⟩
theorem came_bnd {ts : List Term} {ms : List Move} (hok : ∀ m ∈ ms, okM m) : ∀ ds ∈ cameL ts ms, ds.length ≤ ms.length ∧ ∀ d ∈ ds, okD ms.length d := by
  have := came_ok (ts := ts) ms [] (by intro ds hds; simp [cameL] at hds; rw [hds.2]; simp) hok
  simpa using this
/-! ### What comes out -/
def outD (p : ByteArray) (d : Da) : List Lot := d.gone ++ if 0 < d.left then [⟨p, d.left, d.day, -1, -1⟩] else []
/-- The lots of all deliveries. -/
def outL (ts : List Term) (cs : List (List Da)) : List Lot := (ts.zip cs).flatMap fun q => q.2.flatMap (outD q.1.part)
theorem outD_len (p : ByteArray) (d : Da) : (outD p d).length ≤ d.gone.length + 1 := by
  unfold outD; rw [List.length_append]; split <;> simp

end Go.Proofs.Ytdbpfhbppcpbbaa

/- Lots: the program. No conditions. -/
set_option linter.unusedSimpArgs false
set_option linter.unusedVariables false
set_option maxRecDepth 100000
namespace Go.Proofs.Ytdbpfhbppcpbbaa
open Go Go.Pv
section
variable {P : Program} {ρ : Operand → PV} {h : Heap} {key : Key} {t : TypeId}
theorem e_mkN {l c : Operand} {L : Int} {n : Nat} (hx : ρ l = .int L) (hy : ρ c = .int L) (hn : L = (n : Int)) (hz : zeroCellsOf P (elemTy P t) = some [.nil]) (ho : sliceOk P t = true) (hs : tySize P (elemTy P t) = 1) (hb : P.bytesOf (elemTy P t) < 2 ^ 15) (hl : n < 2 ^ 32) :
    eff P ρ h key (.makeSlice t l c) = ⟨True, .ref key 1 0 n, [(key, some (.rows 1 (List.replicate n [.nil])))], [], true⟩ := by
  subst hn
  simp only [eff, hx, hy, makeSliceEff, hz, ho, hs, hb]
  simp [PV.cell]; omega
end
/-- What has been gathered: a slice made at one of two places. -/
def SL (h : Heap) (v : PV) (acc : List Lot) : Prop := ∃ d1, (d1 = 70 ∨ d1 = 92) ∧ SliceAt h d1 v 5 (acc.map Lot.enc)
/-- The deliveries are as they were. -/
def KP (h h1 : Heap) : Prop := ∀ k : Key, (k.1 = 16 ∨ k.1 = 41 ∨ k.1 = 42 ∨ k.1 = 43) → h k = h1 k
theorem DvAt.kp {h h1 : Heap} {d : Dv} (hd : DvAt h1 d) (hk : KP h h1) : DvAt h d := hd.keep fun k hk2 => hk k (by
  rcases List.mem_cons.1 hk2 with e | e
  · rw [e]; simp
  · have := (hd.key42 k e).1; omega)
theorem sl_app {h h4 h1 : Heap} {v : PV} {acc : List Lot} {d1 d c : Nat} {n : Nat} (hd1 : d1 = 70 ∨ d1 = 92) (hd : d = 70 ∨ d = 92) (hK : KP h h1) (hf : ∀ k' : Key, k' ≠ (d, c) → (∀ g, v = .ref (d1, g) 5 0 n → k' ≠ (d1, g)) → h4 k' = h k') : KP h4 h1 := fun k hk => (hf k (fun e => by rw [e] at hk; simp only at hk; omega) (fun g _ e => by rw [e] at hk; simp only at hk; omega)).trans (hK k hk)
theorem outj_yes {acc bcc : List Lot} {p : ByteArray} {l : List Dv} {j : Nat} {x : Dv} (h : bcc = acc ++ ((l.take j).map (·.a)).flatMap (outD p)) (hx : l.take (j + 1) = l.take j ++ [x]) (hp : 0 < x.a.left) : (bcc ++ x.a.gone) ++ [⟨p, x.a.left, x.a.day, -1, -1⟩] = acc ++ ((l.take (j + 1)).map (·.a)).flatMap (outD p) := by
  rw [h, hx]; simp [outD, hp]
theorem outj_no {acc bcc : List Lot} {p : ByteArray} {l : List Dv} {j : Nat} {x : Dv} (h : bcc = acc ++ ((l.take j).map (·.a)).flatMap (outD p)) (hx : l.take (j + 1) = l.take j ++ [x]) (hp : ¬ 0 < x.a.left) : bcc ++ x.a.gone = acc ++ ((l.take (j + 1)).map (·.a)).flatMap (outD p) := by
  rw [h, hx]; simp [outD, hp]
theorem outi_next {ts : List Term} {cs : List (List Da)} {acc bcc : List Lot} {i : Nat} {t : Term} {ds : List Da} (h : acc = outL (ts.take i) (cs.take i)) (hl : cs.length = ts.length) (ht : ts[i]? = some t) (hd : cs[i]? = some ds) (hb : bcc = acc ++ ds.flatMap (outD t.part)) : bcc = outL (ts.take (i + 1)) (cs.take (i + 1)) := by
  have h1 : i < ts.length := (List.getElem?_eq_some_iff.1 ht).1
  rw [hb, h, List.take_add_one, List.take_add_one, ht, hd]
  unfold outL
  rw [List.zip_append (by simp; omega), List.flatMap_append]
  simp
theorem sl_key {h : Heap} {d sz : Nat} {v : PV} {rows : List (List PV)} (hs : SliceAt h d v sz rows) : ∀ k ∈ Go.Pv.keyOf v, k.1 = d := fun k hk => by
  rcases hs with ⟨_, h2⟩ | ⟨g, h2, h3⟩
  · rw [h2] at hk; simp [Go.Pv.keyOf] at hk
  · rw [h2] at hk; simp [Go.Pv.keyOf] at hk; subst hk; rfl
theorem sl_92 {h : Heap} {g : Nat} {A : List Lot} {b : Lot} (hn : h (92, g) = some (.rows 5 (A.map Lot.enc ++ [b.enc]))) : SL h (.ref (92, g) 5 0 ((A.map Lot.enc).length + 1)) (A ++ [b]) := ⟨92, .inr rfl, .inr ⟨g, by simp, by simpa using hn⟩⟩

theorem fr83 : (inFrame Try.f83.ntmps (Try.f83.body.getD .skip) && Try.f83.results.toList.all (resScope Try.f83.ntmps)) = true := by kernel_rfl
theorem lots (ts : List Term) (ms : List Move) (hlt : ts.length ≤ 65) (hl : ms.length ≤ 305) (hgo : ∀ m ∈ ms, okM m ∧ 0 ≤ termIx ts m.part) : PCalls Try.prog 83 [.lit true 4 (ts.map Term.enc), .lit true 4 (ms.map Move.enc)] (.lit false 5 ((outL ts (cameL ts ms)).map Lot.enc)) := by
  refine PCalls.of_code Try.func83 rfl rfl (by kernel_rfl) mixed fr83 (by show _ ≤ 96; simp) (.lit _ _ _ fun row hr => pure_map Lot.pure row hr) ?_
  refine pwp_seq_plain rfl fun K1 hK1 => ?_
  refine p_step rfl (e_assign (v := .nil) rfl) trivial ?_
  refine p_end (hK1 _ ?_); clear hK1 K1
  refine pwp_seq_plain rfl fun K2 hK2 => ?_
  refine p_step rfl (e_move (v := .lit _ _ _) rfl) trivial ?_
  refine p_step rfl (e_len rfl (by kernel_rfl)) trivial ?_
  refine p_new rfl (e_mkN (n := ts.length) rfl rfl (by simp) (by kernel_rfl) (by kernel_rfl) (by kernel_rfl) (by decide +kernel) (by omega)) trivial ?_
  refine p_step rfl (e_assign (v := .ref _ _ _ _) rfl) trivial ?_
  refine p_end (hK2 _ ?_); clear hK2 K2
  refine pwp_seq_seq ?_
  refine pwp_seq_plain rfl fun K3 hK3 => ?_
  refine p_step rfl (e_move (v := .lit _ _ _) rfl) trivial ?_
  refine p_step rfl (e_len rfl (by kernel_rfl)) trivial ?_
  refine p_step rfl (e_move (v := .sc _) rfl) trivial ?_
  refine p_end (hK3 _ ?_); clear hK3 K3
  refine pwp_seq_block fun K4 hK4 => ?_
  refine pwp_loopR (α := Nat × (List Cm)) [0, 5, 17, 18] (fun (a5 : Nat × (List Cm)) => [(19, .int (a5.1))]) (fun (a5 : Nat × (List Cm)) (h : Heap) (c : Nat → Nat) => ((a5.1) ≤ ms.length) ∧ (LotsI ts (ms.take (a5.1)) (a5.2) h c)) (fun (a5 : Nat × (List Cm)) => ms.length - (a5.1)) (0, List.replicate ts.length ⟨.nil, []⟩) (by exact ⟨rfl, trivial⟩) (by exact ⟨by exact Nat.zero_le _, by exact lots_0 ts (by simp [cset]) (hset_self _ _ _)⟩) fun a5 r6 h7 c8 hj9 => ?_
  obtain ⟨k, cs⟩ := a5
  obtain ⟨hk, hI⟩ := hj9
  try dsimp only at hk
  try dsimp only at hI
  show pwp _ _ (loopQ _ _ _) ⟨sets (mix _ _ _) [(19, .int k)], _, _⟩
  refine pwp_seq_plain rfl fun K10 hK10 => ?_
  refine p_step rfl (e_lt rfl rfl) trivial ?_
  refine p_end (hK10 _ ?_); clear hK10 K10
  refine pwp_seq_cond rfl fun K11 hK11 => ⟨fun hb12 => ?_, fun hb12 => ?_⟩
  ·have hb12R := hb12; try simp only [z1, z2, z3, z4, z5, z6, ne_eq, z7, z8, z9, z10, z11, z12] at hb12
   obtain ⟨x, hx, hd, ht⟩ := get_lt (xs := ms) (i := k) (by omega)
   have hgx := hgo x (List.mem_of_getElem? hx)
   have hil := ix_lt hgx.2
   obtain ⟨y, hy⟩ : ∃ y, cs[(termIx (ts) x.part).toNat]? = some y := ⟨_, List.getElem?_eq_getElem (by rw [hI.len]; omega)⟩
   have hbd := came_bnd (ts := ts) (ms := ms.take k) (fun m hm => (hgo m (List.mem_of_mem_take hm)).1) (y.ds.map (·.a)) (by rw [← hI.abs]; exact List.mem_map.2 ⟨y, List.mem_of_getElem? hy, rfl⟩)
   have hbl := hbd.1
   rw [List.length_take, List.length_map] at hbl
   refine pwp_skip ?_
   refine seq_norm (hK11 _ ?_); clear hK11 K11
   refine pwp_seq_block fun K13 hK13 => ?_
   refine pwp_seq_plain rfl fun K14 hK14 => ?_
   refine p_step rfl (e_ixa rfl rfl (by kernel_rfl) (by kernel_rfl) (by simp only [List.length_map]; omega)) trivial ?_
   refine p_step rfl (e_loadA (n := 4) rfl (by kernel_rfl) (by kernel_rfl) (by kernel_rfl) (by simp only [List.length_map]; omega) (by decide) (by first | exact agg_map hx rfl)) trivial ?_
   refine p_new rfl (e_alloc (cs := [.int 0, .int 0, .str ByteArray.empty, .int 0]) (n := 4) (by kernel_rfl) rfl (by decide)) (ob_alloc (by decide)) ?_
   refine p_store rfl (e_storeA rfl (hset_self _ _ _) rfl rfl rfl (by kernel_rfl) rfl (by kernel_rfl)) trivial ?_
   refine p_end (hK14 _ ?_); clear hK14 K14
   have hym := List.mem_of_getElem? hy
   have hI2 := hI.keep (h' := (hset (hset h7 (7, c8 7) (some (.rows 4 [[.int 0, .int 0, .str ByteArray.empty, .int 0]]))) (7, c8 7) (some (.rows 4 [Move.enc x])))) (c' := (cset c8 7)) (fun k q => (hset_ne fun e => q (by rw [e])).trans (hset_ne fun e => q (by rw [e]))) (cset_le c8 7)
   refine pwp_seq_plain rfl fun K15 hK15 => ?_
   refine p_step rfl (e_move (v := .lit _ _ _) rfl) trivial ?_
   refine p_step rfl (e_faP (pl := [(0, 1, false), (1, 1, false), (2, 1, false), (3, 1, false)]) rfl (by kernel_rfl) (by kernel_rfl) (by decide) rfl) trivial ?_
   refine p_step rfl (e_loadH (v := .sc _) rfl (hset_self _ _ _) (by kernel_rfl) (by kernel_rfl) (by kernel_rfl) (by exact Nat.zero_lt_one) (by decide) rfl) trivial ?_
   refine p_call rfl (.cons inn_lit (.cons inn_sc .nil)) (termOf _ _ hlt) ?_
   refine p_step rfl (e_assign (v := .sc _) rfl) trivial ?_
   refine p_end (hK15 _ ?_); clear hK15 K15
   refine pwp_seq_plain rfl fun K16 hK16 => ?_
   refine p_step rfl (e_faP (pl := [(0, 1, false), (1, 1, false), (2, 1, false), (3, 1, false)]) rfl (by kernel_rfl) (by kernel_rfl) (by decide) rfl) trivial ?_
   refine p_step rfl (e_loadH (v := .sc _) rfl (hset_self _ _ _) (by kernel_rfl) (by kernel_rfl) (by kernel_rfl) (by exact Nat.zero_lt_one) (by decide) rfl) trivial ?_
   refine p_step rfl (e_eq rfl rfl) trivial ?_
   refine p_end (hK16 _ ?_); clear hK16 K16
   refine pwp_cond rfl (fun hb17 => ?_) (fun hb17 => ?_)
   ·have hb17R := hb17; try simp only [z1, z2, z3, z4, z5, z6, ne_eq, z7, z8, z9, z10, z11, z12] at hb17
    have hk43 := came_key (hI2.came y hym)
    refine pwp_gops rfl fun K18 hK18 => ?_
    refine v_begin (fun k => k.1) ?_
    refine v_step [] (by simp) rfl rfl rfl rfl (e_move (v := .ref _ _ _ _) rfl) trivial ?_
    refine v_step [] (by simp) rfl rfl rfl rfl (e_move (v := .sc _) rfl) trivial ?_
    refine v_step [] (by simp) rfl rfl rfl rfl (e_move (v := .ref _ _ _ _) rfl) trivial ?_
    refine v_step [] (by simp) rfl rfl rfl rfl (e_move (v := .sc _) rfl) trivial ?_
    refine v_step [] (by simp) rfl rfl rfl rfl (e_ixaR0 rfl rfl (by kernel_rfl) (by kernel_rfl) (by omega)) trivial ?_
    refine v_step [16] (by intro k hk; simp only [List.mem_singleton] at hk; subst hk; simp) rfl rfl rfl rfl (e_loadH (v := y.v) rfl hI2.outer (by kernel_rfl) (by kernel_rfl) (by kernel_rfl) (by rw [List.length_map]; exact (List.getElem?_eq_some_iff.1 hy).1) (by decide) ((cell_map hy _).trans rfl)) trivial ?_
    refine v_step [] (by simp) rfl rfl rfl rfl (e_faP (pl := [(0, 1, false), (1, 1, false), (2, 1, false), (3, 1, false)]) rfl (by kernel_rfl) (by kernel_rfl) (by decide) rfl) trivial ?_
    refine v_step [7] (by intro k hk; simp only [List.mem_singleton] at hk; subst hk; simp) rfl rfl rfl rfl (e_loadH (v := .sc _) rfl (hset_self _ _ _) (by kernel_rfl) (by kernel_rfl) (by kernel_rfl) (by exact Nat.zero_lt_one) (by decide) rfl) trivial ?_
    refine v_step [] (by simp) rfl rfl rfl rfl (e_faP (pl := [(0, 1, false), (1, 1, false), (2, 1, false), (3, 1, false)]) rfl (by kernel_rfl) (by kernel_rfl) (by decide) rfl) trivial ?_
    refine v_step [7] (by intro k hk; simp only [List.mem_singleton] at hk; subst hk; simp) rfl rfl rfl rfl (e_loadH (v := .sc _) rfl (hset_self _ _ _) (by kernel_rfl) (by kernel_rfl) (by kernel_rfl) (by exact Nat.zero_lt_one) (by decide) rfl) trivial ?_
    refine v_step [] (by simp) rfl rfl rfl rfl (e_build (zs := [.int 0, .int 0, .nil]) (pl := [(0, 1, false), (1, 1, false), (2, 1, false)]) (by kernel_rfl) (by kernel_rfl) (by kernel_rfl) rfl rfl (by exact ⟨by decide, rfl, Nat.le_of_ble_eq_true rfl, rfl, ⟨by decide, rfl, Nat.le_of_ble_eq_true rfl, rfl, trivial⟩⟩) rfl) trivial ?_
    refine v_new [] [41] (by simp) (by simp) rfl rfl rfl rfl (e_box (n := 3) rfl rfl) ⟨rfl, by decide⟩ ?_
    refine v_new [] [42] (by simp) (by simp) rfl rfl rfl rfl (e_bslice (rows := [[.ptr (41, c8 41) 3 0 0]]) (zs := [.sc (.pointer none)]) (sz := 1) (by kernel_rfl) (by kernel_rfl) rfl (by kernel_rfl) (by decide) rfl rfl (by exact ⟨by decide, rfl, rfl, trivial⟩) rfl) trivial ?_
    refine v_app [43, 42] [43] rfl rfl (fun k hk => by have := hk43 k hk; simp [this]) (by simp) (by simp) rfl rfl rfl ((hI2.came y hym).keep fun _ => (hset_ne (key_ne rfl)).trans (hset_ne (key_ne rfl))) (hset_self _ _ _) rfl (by decide) rfl (by kernel_rfl) (by simp only [List.length_map, List.length_cons, List.length_nil]; omega) fun h4 hn4 hf4 => ?_
    refine v_step [] (by simp) rfl rfl rfl rfl (e_ixaR0 rfl rfl (by kernel_rfl) (by kernel_rfl) (by omega)) trivial ?_
    have hO4 : h4 (16, 0) = some (.rows 1 (cs.map ccell)) := (hf4 _ (key_ne rfl) (fun h => by have := hk43 _ h; simp at this)).trans ((hset_ne (key_ne rfl)).trans ((hset_ne (key_ne rfl)).trans hI2.outer))
    refine v_store [16] [16] (by intro k hk; simp only [List.mem_singleton] at hk; subst hk; simp) (by simp) rfl rfl (e_storeF (xs := cs) (a := y) (a' := ⟨.ref (43, c8 43) 1 0 ((y.ds.map dcell).length + 1), y.ds ++ [⟨c8 41, .nil, ⟨x.day, x.count, []⟩⟩]⟩) rfl hO4 rfl hy rfl (by kernel_rfl) (by kernel_rfl) rfl rfl) trivial ?_
    refine v_end (by kernel_rfl) rfl (hK18 _ ?_); clear hK18 K18
    have hT := hI2.came1 (m := x) (y := ⟨.ref (43, c8 43) 1 0 ((y.ds.map dcell).length + 1), y.ds ++ [⟨c8 41, .nil, ⟨x.day, x.count, []⟩⟩]⟩) (h' := hset h4 (16, 0) (some (.rows 1 ((cs.set (termIx (ts) x.part).toNat ⟨.ref (43, c8 43) 1 0 ((y.ds.map dcell).length + 1), y.ds ++ [⟨c8 41, .nil, ⟨x.day, x.count, []⟩⟩]⟩).map ccell)))) (c' := cset (cset (cset (cset c8 7) 41) 42) 43) hy rfl (by omega) (by first | (rw [List.length_map]; done) | (rw [List.length_map]; rfl)) (hset_self _ _ _) ((hset_ne (key_ne rfl)).trans (by refine Eq.trans hn4 ?_; rfl)) ((hset_ne (key_ne rfl)).trans ((hf4 _ (key_ne rfl) (fun h => by have := hk43 _ h; simp at this)).trans ((hset_ne (key_ne rfl)).trans (hset_self _ _ _)))) (fun k q1 q2 q3 => (hset_ne q1).trans ((hf4 k (fun e => by rw [e] at q3; exact absurd q3 (Nat.lt_irrefl _)) q2).trans ((hset_ne fun e => by rw [e] at q3; exact absurd q3 (Nat.lt_irrefl _)).trans (hset_ne fun e => by rw [e] at q3; exact absurd q3 (Nat.lt_irrefl _))))) (fun t => Nat.le_trans (cset2_le _ 41 42 t) (cset_le _ 43 t)) (by simp [cset]) (by simp [cset])
    refine block_norm ?_
    refine seq_norm (hK13 _ ?_); clear hK13 K13
    refine pwp_plain rfl fun K19 hK19 => ?_
    refine p_step rfl (e_add rfl rfl (by omega)) trivial ?_
    refine p_step rfl (e_move (v := .sc _) rfl) trivial ?_
    refine p_end (hK19 _ ?_); clear hK19 K19
    exact loop_again ((k + 1, (cs.set (termIx (ts) x.part).toNat ⟨.ref (43, c8 43) 1 0 ((y.ds.map dcell).length + 1), y.ds ++ [⟨c8 41, .nil, ⟨x.day, x.count, []⟩⟩]⟩))) (by show _ < _; simp only; omega) ⟨rfl, rfl, rfl, rfl, trivial⟩ ⟨rfl, trivial⟩ (by exact ⟨by show _ + 1 ≤ _; omega, by (dsimp only; rw [ht]; exact hT)⟩)
   ·have hb17R := hb17; try simp only [z1, z2, z3, z4, z5, z6, ne_eq, z7, z8, z9, z10, z11, z12] at hb17
    refine pwp_gops rfl fun K20 hK20 => ?_
    refine v_begin (fun k => k.1) ?_
    refine v_step [] (by simp) rfl rfl rfl rfl (e_move (v := .ref _ _ _ _) rfl) trivial ?_
    refine v_step [] (by simp) rfl rfl rfl rfl (e_move (v := .sc _) rfl) trivial ?_
    refine v_step [] (by simp) rfl rfl rfl rfl (e_ixaR0 rfl rfl (by kernel_rfl) (by kernel_rfl) (by omega)) trivial ?_
    refine v_step [16] (by intro k hk; simp only [List.mem_singleton] at hk; subst hk; simp) rfl rfl rfl rfl (e_loadH (v := y.v) rfl hI2.outer (by kernel_rfl) (by kernel_rfl) (by kernel_rfl) (by rw [List.length_map]; exact (List.getElem?_eq_some_iff.1 hy).1) (by decide) ((cell_map hy _).trans rfl)) trivial ?_
    refine v_step [7] (by intro k hk; simp only [List.mem_singleton] at hk; subst hk; simp) rfl rfl rfl rfl (e_loadHA (n := 4) rfl (hset_self _ _ _) (by kernel_rfl) (by kernel_rfl) (by kernel_rfl) (by exact Nat.zero_lt_one) (by decide) rfl) trivial ?_
    have hbm := hbd.2
    refine v_hcall (by kernel_rfl) rfl rfl rfl rfl (take_calls x y.ds y.v (hset (hset h7 (7, c8 7) (some (.rows 4 [[.int 0, .int 0, .str ByteArray.empty, .int 0]]))) (7, c8 7) (some (.rows 4 [Move.enc x]))) (cset c8 7) (hI2.came y hym) (fun k hk => hI2.kn k (ownC_sub hym (List.mem_append.2 (.inl hk)))) (hI2.at_ y hym) ((List.nodup_append.1 ((List.nodup_append.1 ((List.nodup_append.1 (ownS_split hy ▸ hI2.nd)).2.1)).1)).2.1) (fun k hk => hI2.kn k (ownC_sub hym (List.mem_append.2 (.inr hk)))) hgx.1.2 (fun d hd => (hbm d.a (List.mem_map.2 ⟨d, hd, rfl⟩)).1) (fun d hd => by have := (hbm d.a (List.mem_map.2 ⟨d, hd, rfl⟩)).2; rw [List.length_take] at this; omega) (by have := hbd.1; rw [List.length_take, List.length_map] at this; omega)) fun v4 h4 c5 hR => ?_
    obtain ⟨rfl, es, T⟩ := hR
    refine v_end (by kernel_rfl) rfl (hK20 _ ?_); clear hK20 K20
    have hT := hI2.taken (m := x) hy rfl (by omega) T
    refine block_norm ?_
    refine seq_norm (hK13 _ ?_); clear hK13 K13
    refine pwp_plain rfl fun K21 hK21 => ?_
    refine p_step rfl (e_add rfl rfl (by omega)) trivial ?_
    refine p_step rfl (e_move (v := .sc _) rfl) trivial ?_
    refine p_end (hK21 _ ?_); clear hK21 K21
    exact loop_again ((k + 1, (cs.set (termIx (ts) x.part).toNat ⟨y.v, es⟩))) (by show _ < _; simp only; omega) ⟨rfl, rfl, rfl, rfl, trivial⟩ ⟨rfl, trivial⟩ (by exact ⟨by show _ + 1 ≤ _; omega, by (dsimp only; rw [ht]; exact hT)⟩)
  ·have hb12R := hb12; try simp only [z1, z2, z3, z4, z5, z6, ne_eq, z7, z8, z9, z10, z11, z12] at hb12
   obtain rfl : k = ms.length := by omega
   rw [List.take_length] at hI
   have hlen := hI.len
   have hcl : (cameL ts ms).length = ts.length := by rw [← hI.abs, List.length_map, hlen]
   have hBD := came_bnd (ts := ts) (ms := ms) fun m hm => (hgo m hm).1
   refine pwp_exit ?_
   refine exit_seq ?_
   clear hK11 K11
   refine exit_loop ?_
   refine exit_here ?_
   refine seq_norm (hK4 _ ?_); clear hK4 K4
   refine pwp_seq_plain rfl fun K22 hK22 => ?_
   refine p_step rfl (e_assign (v := .nil) rfl) trivial ?_
   refine p_end (hK22 _ ?_); clear hK22 K22
   refine pwp_seq_seq ?_
   refine pwp_seq_plain rfl fun K23 hK23 => ?_
   refine p_step rfl (e_move (v := .ref _ _ _ _) rfl) trivial ?_
   refine p_step rfl (e_lenR rfl (by kernel_rfl)) trivial ?_
   refine p_step rfl (e_move (v := .sc _) rfl) trivial ?_
   refine p_end (hK23 _ ?_); clear hK23 K23
   refine pwp_seq_block fun K24 hK24 => ?_
   refine pwp_loopR (α := Nat × (List Lot) × PV) [0, 52, 53] (fun (a25 : Nat × (List Lot) × PV) => [(9, (a25.2.2)), (54, .int (a25.1))]) (fun (a25 : Nat × (List Lot) × PV) (h : Heap) (_ : Nat → Nat) => ((a25.1) ≤ ts.length) ∧ ((a25.2.1) = outL (ts.take (a25.1)) ((cameL ts ms).take (a25.1))) ∧ (SL h (a25.2.2) (a25.2.1)) ∧ (KP h h7) ∧ ((a25.2.1).length ≤ (a25.1) * 100000)) (fun (a25 : Nat × (List Lot) × PV) => ts.length - (a25.1)) (0, [], .nil) (by exact ⟨rfl, rfl, trivial⟩) (by exact ⟨by exact Nat.zero_le _, by exact rfl, by exact ⟨70, .inl rfl, .nil⟩, by exact fun _ _ => rfl, by exact Nat.zero_le _⟩) fun a25 r26 h27 c28 hj29 => ?_
   obtain ⟨i, acc, v⟩ := a25
   obtain ⟨hi, hinv, hSL, hK, hal⟩ := hj29
   try dsimp only at hi
   try dsimp only at hinv
   try dsimp only at hSL
   try dsimp only at hK
   try dsimp only at hal
   show pwp _ _ (loopQ _ _ _) ⟨sets (mix _ _ _) [(9, v), (54, .int i)], _, _⟩
   refine pwp_seq_plain rfl fun K30 hK30 => ?_
   refine p_step rfl (e_lt rfl rfl) trivial ?_
   refine p_end (hK30 _ ?_); clear hK30 K30
   refine pwp_seq_cond rfl fun K31 hK31 => ⟨fun hb32 => ?_, fun hb32 => ?_⟩
   ·have hb32R := hb32; try simp only [z1, z2, z3, z4, z5, z6, ne_eq, z7, z8, z9, z10, z11, z12] at hb32
    obtain ⟨t, ht0, hdt, htt⟩ := get_lt (xs := ts) (i := i) (by omega)
    obtain ⟨y, hy⟩ : ∃ y, cs[i]? = some y := ⟨_, List.getElem?_eq_getElem (by omega)⟩
    have hym := List.mem_of_getElem? hy
    have hab : (cameL ts ms)[i]? = some (y.ds.map (·.a)) := by rw [← hI.abs, List.getElem?_map, hy]; rfl
    have hbd := hBD _ (List.mem_of_getElem? hab)
    have hyl := hbd.1
    rw [List.length_map] at hyl
    have hCK : SliceAt h27 43 y.v 1 (y.ds.map dcell) := (hI.came y hym).keep fun g => hK _ (by simp)
    refine pwp_skip ?_
    refine seq_norm (hK31 _ ?_); clear hK31 K31
    refine pwp_seq_block fun K33 hK33 => ?_
    refine pwp_seq_plain rfl fun K34 hK34 => ?_
    refine p_step rfl (e_move (v := .sc _) rfl) trivial ?_
    refine p_step rfl (e_ixaR0 rfl rfl (by kernel_rfl) (by kernel_rfl) (by omega)) trivial ?_
    refine p_step rfl (e_loadH (v := y.v) rfl ((hK _ (by simp)).trans hI.outer) (by kernel_rfl) (by kernel_rfl) (by kernel_rfl) (by rw [List.length_map]; exact (List.getElem?_eq_some_iff.1 hy).1) (by decide) ((cell_map hy _).trans rfl)) trivial ?_
    refine p_step rfl (e_assign (v := .sc _) rfl) trivial ?_
    refine p_step rfl (e_assign (v := _) rfl) trivial ?_
    refine p_end (hK34 _ ?_); clear hK34 K34
    refine pwp_seq_plain rfl fun K35 hK35 => ?_
    refine p_step rfl (e_move (v := _) rfl) trivial ?_
    refine p_step rfl (SliceAt.len hCK rfl (by kernel_rfl)) trivial ?_
    refine p_step rfl (e_move (v := .sc _) rfl) trivial ?_
    refine p_end (hK35 _ ?_); clear hK35 K35
    refine pwp_block ?_
    refine pwp_loopR (α := Nat × (List Lot) × PV) [0, 10, 52, 53, 54, 59, 60] (fun (a36 : Nat × (List Lot) × PV) => [(9, (a36.2.2)), (61, .int (a36.1))]) (fun (a36 : Nat × (List Lot) × PV) (h : Heap) (_ : Nat → Nat) => ((a36.1) ≤ y.ds.length) ∧ ((a36.2.1) = acc ++ ((y.ds.take (a36.1)).map (·.a)).flatMap (outD t.part)) ∧ (SL h (a36.2.2) (a36.2.1)) ∧ (KP h h7) ∧ ((a36.2.1).length ≤ acc.length + (a36.1) * 306)) (fun (a36 : Nat × (List Lot) × PV) => y.ds.length - (a36.1)) (0, acc, _) (by exact ⟨rfl, rfl, trivial⟩) (by exact ⟨by exact Nat.zero_le _, by simp, by exact hSL, by exact hK, by exact Nat.le_add_right _ _⟩) fun a36 r37 h38 c39 hj40 => ?_
    obtain ⟨j, bcc, w⟩ := a36
    obtain ⟨hj, hinv2, hSL, hK2, hbl2⟩ := hj40
    try dsimp only at hj
    try dsimp only at hinv2
    try dsimp only at hSL
    try dsimp only at hK2
    try dsimp only at hbl2
    show pwp _ _ (loopQ _ _ _) ⟨sets (mix _ _ _) [(9, w), (61, .int j)], _, _⟩
    refine pwp_seq_plain rfl fun K41 hK41 => ?_
    refine p_step rfl (e_lt rfl rfl) trivial ?_
    refine p_end (hK41 _ ?_); clear hK41 K41
    refine pwp_seq_cond rfl fun K42 hK42 => ⟨fun hb43 => ?_, fun hb43 => ?_⟩
    ·have hb43R := hb43; try simp only [z1, z2, z3, z4, z5, z6, ne_eq, z7, z8, z9, z10, z11, z12] at hb43
     obtain ⟨x, hx, hdx, htx⟩ := get_lt (xs := y.ds) (i := j) (by omega)
     have hxm := List.mem_of_getElem? hx
     obtain ⟨g4, hyv, hg4⟩ := ((hI.came y hym).keep (fun g => hK2 _ (by simp)) : SliceAt h38 43 y.v 1 (y.ds.map dcell)).isRef (by intro e; rw [List.map_eq_nil_iff] at e; rw [e] at hx; simp at hx)
     have hDx := (hI.at_ y hym x hxm).kp hK2
     have hox := hbd.2 x.a (List.mem_map.2 ⟨x, hxm, rfl⟩)
     have hog := hox.2
     refine pwp_skip ?_
     refine seq_norm (hK42 _ ?_); clear hK42 K42
     refine pwp_seq_block fun K44 hK44 => ?_
     refine pwp_seq_plain rfl fun K45 hK45 => ?_
     refine p_step rfl (e_ixaR0 hyv rfl (by kernel_rfl) (by kernel_rfl) (by rw [List.length_map]; omega)) trivial ?_
     refine p_step rfl (e_loadH (v := .ptr (41, x.k) 3 0 0) rfl hg4 (by kernel_rfl) (by kernel_rfl) (by kernel_rfl) (by rw [List.length_map]; exact (List.getElem?_eq_some_iff.1 hx).1) (by decide) ((cell_map hx _).trans rfl)) trivial ?_
     refine p_step rfl (e_assign (v := .ptr _ _ _ _) rfl) trivial ?_
     refine p_end (hK45 _ ?_); clear hK45 K45
     refine pwp_seq_plain rfl fun K46 hK46 => ?_
     obtain ⟨d1, hd1, hSw⟩ := hSL
     refine p_step rfl (e_move (v := _) rfl) trivial ?_
     refine p_step rfl (e_move (v := .ptr _ _ _ _) rfl) trivial ?_
     refine p_step rfl (e_nilc rfl) trivial ?_
     refine p_step rfl (e_faP (pl := [(0, 1, false), (1, 1, false), (2, 1, false)]) rfl (by kernel_rfl) (by kernel_rfl) (by decide) rfl) trivial ?_
     refine p_step rfl (e_loadH (v := x.v) rfl hDx.1 (by kernel_rfl) (by kernel_rfl) (by kernel_rfl) (by exact Nat.zero_lt_one) (by decide) rfl) trivial ?_
     refine p_app rfl rfl rfl hSw (src_slice hDx.2) (by kernel_rfl) (by simp only [List.length_map]; omega) fun v4 h4 c5 hs4 hf4 => ?_
     refine p_step rfl (e_assign (v := _) rfl) trivial ?_
     refine p_end (hK46 _ ?_); clear hK46 K46
     have hK4 : KP h4 h7 := sl_app (acc := bcc) hd1 (.inl rfl) hK2 hf4
     have hS4 : SliceAt h4 70 v4 5 ((bcc ++ x.a.gone).map Lot.enc) := by rw [List.map_append]; exact hs4
     have hD4 := (hI.at_ y hym x hxm).kp hK4
     refine pwp_seq_plain rfl fun K47 hK47 => ?_
     refine p_step rfl (e_move (v := .ptr _ _ _ _) rfl) trivial ?_
     refine p_step rfl (e_nilc rfl) trivial ?_
     refine p_step rfl (e_faP (pl := [(0, 1, false), (1, 1, false), (2, 1, false)]) rfl (by kernel_rfl) (by kernel_rfl) (by decide) rfl) trivial ?_
     refine p_step rfl (e_loadH (v := .int x.a.left) rfl hD4.1 (by kernel_rfl) (by kernel_rfl) (by kernel_rfl) (by exact Nat.zero_lt_one) (by decide) rfl) trivial ?_
     refine p_step rfl (e_gt rfl rfl) trivial ?_
     refine p_end (hK47 _ ?_); clear hK47 K47
     refine pwp_cond rfl (fun hb48 => ?_) (fun hb48 => ?_)
     ·have hb48R := hb48; try simp only [z1, z2, z3, z4, z5, z6, ne_eq, z7, z8, z9, z10, z11, z12] at hb48
      refine pwp_gops rfl fun K49 hK49 => ?_
      refine v_begin (fun k => k.1) ?_
      refine v_step [] (by simp) rfl rfl rfl rfl (e_move (v := _) rfl) trivial ?_
      refine v_step [] (by simp) rfl rfl rfl rfl (e_move (v := .lit _ _ _) rfl) trivial ?_
      refine v_step [] (by simp) rfl rfl rfl rfl (e_move (v := .sc _) rfl) trivial ?_
      refine v_step [] (by simp) rfl rfl rfl rfl (e_ixa rfl rfl (by kernel_rfl) (by kernel_rfl) (by simp only [List.length_map]; omega)) trivial ?_
      refine v_step [] (by simp) rfl rfl rfl rfl (e_fa (pl := [(0, 1, false), (1, 1, false), (2, 1, false), (3, 1, false)]) rfl (by kernel_rfl) (by kernel_rfl) (by decide) rfl) trivial ?_
      refine v_step [] (by simp) rfl rfl rfl rfl (e_load (v := .sc _) rfl (by kernel_rfl) (by kernel_rfl) (by kernel_rfl) (by simp only [List.length_map]; omega) (by decide) ((cell_map ht0 _).trans rfl)) trivial ?_
      refine v_step [] (by simp) rfl rfl rfl rfl (e_move (v := .ptr _ _ _ _) rfl) trivial ?_
      refine v_step [] (by simp) rfl rfl rfl rfl (e_nilc rfl) trivial ?_
      refine v_step [] (by simp) rfl rfl rfl rfl (e_faP (pl := [(0, 1, false), (1, 1, false), (2, 1, false)]) rfl (by kernel_rfl) (by kernel_rfl) (by decide) rfl) trivial ?_
      refine v_step [41] (by intro k hk; simp only [List.mem_singleton] at hk; subst hk; simp) rfl rfl rfl rfl (e_loadH (v := .int x.a.left) rfl hD4.1 (by kernel_rfl) (by kernel_rfl) (by kernel_rfl) (by exact Nat.zero_lt_one) (by decide) rfl) trivial ?_
      refine v_step [] (by simp) rfl rfl rfl rfl (e_move (v := .ptr _ _ _ _) rfl) trivial ?_
      refine v_step [] (by simp) rfl rfl rfl rfl (e_nilc rfl) trivial ?_
      refine v_step [] (by simp) rfl rfl rfl rfl (e_faP (pl := [(0, 1, false), (1, 1, false), (2, 1, false)]) rfl (by kernel_rfl) (by kernel_rfl) (by decide) rfl) trivial ?_
      refine v_step [41] (by intro k hk; simp only [List.mem_singleton] at hk; subst hk; simp) rfl rfl rfl rfl (e_loadH (v := .int x.a.day) rfl hD4.1 (by kernel_rfl) (by kernel_rfl) (by kernel_rfl) (by exact Nat.zero_lt_one) (by decide) rfl) trivial ?_
      refine v_step [] (by simp) rfl rfl rfl rfl (e_build (zs := [.str ByteArray.empty, .int 0, .int 0, .int 0, .int 0]) (pl := [(0, 1, false), (1, 1, false), (2, 1, false), (3, 1, false), (4, 1, false)]) (by kernel_rfl) (by kernel_rfl) (by kernel_rfl) rfl rfl (by exact ⟨by decide, rfl, Nat.le_of_ble_eq_true rfl, rfl, ⟨by decide, rfl, Nat.le_of_ble_eq_true rfl, rfl, ⟨by decide, rfl, Nat.le_of_ble_eq_true rfl, rfl, ⟨by decide, rfl, Nat.le_of_ble_eq_true rfl, rfl, ⟨by decide, rfl, Nat.le_of_ble_eq_true rfl, rfl, trivial⟩⟩⟩⟩⟩) rfl) trivial ?_
      refine v_new [] [91] (by simp) (by simp) rfl rfl rfl rfl (e_bslice (rows := [Lot.enc ⟨t.part, x.a.left, x.a.day, -1, -1⟩]) (zs := [.str ByteArray.empty, .int 0, .int 0, .int 0, .int 0]) (sz := 5) (by kernel_rfl) (by kernel_rfl) rfl (by kernel_rfl) (by decide) rfl rfl (by exact ⟨by decide, rfl, rfl, trivial⟩) rfl) trivial ?_
      have hk70 := sl_key hS4
      refine v_app [70, 91] [70, 92] rfl rfl (fun k hk => by have := hk70 k hk; simp [this]) (by simp) (by simp) rfl rfl rfl (hS4.keep fun _ => hset_ne (key_ne rfl)) (hset_self _ _ _) rfl (by decide) rfl (by kernel_rfl) (by simp only [List.length_map, List.length_append, List.length_cons, List.length_nil]; omega) fun h8 hn8 hf8 => ?_
      refine v_step [] (by simp) rfl rfl rfl rfl (e_assign (v := _) rfl) trivial ?_
      refine v_end (by kernel_rfl) rfl (hK49 _ ?_); clear hK49 K49
      have hK8 : KP h8 h7 := fun k hk => (hf8 k (fun e => by rw [e] at hk; simp at hk) (fun h => by have := hk70 k h; omega)).trans ((hset_ne fun e => by rw [e] at hk; simp at hk).trans (hK4 k hk))
      have hS8 := (SliceAt.ofRef hn8 rfl)
      refine block_norm ?_
      refine seq_norm (hK44 _ ?_); clear hK44 K44
      refine pwp_plain rfl fun K50 hK50 => ?_
      refine p_step rfl (e_add rfl rfl (by omega)) trivial ?_
      refine p_step rfl (e_move (v := .sc _) rfl) trivial ?_
      refine p_end (hK50 _ ?_); clear hK50 K50
      exact loop_again ((j + 1, ((bcc ++ x.a.gone) ++ [⟨t.part, x.a.left, x.a.day, -1, -1⟩]), _)) (by show _ < _; simp only; omega) ⟨rfl, rfl, rfl, rfl, rfl, rfl, rfl, trivial⟩ ⟨rfl, rfl, trivial⟩ (by exact ⟨by show _ + 1 ≤ _; omega, by first | exact outj_yes hinv2 htx (by omega) | exact outj_no hinv2 htx (by omega), by first | exact sl_92 hn8 | exact ⟨70, .inl rfl, hS4⟩, by first | exact hK8 | exact hK4, by (dsimp only; simp only [List.length_append, List.length_cons, List.length_nil]; omega)⟩)
     ·have hb48R := hb48; try simp only [z1, z2, z3, z4, z5, z6, ne_eq, z7, z8, z9, z10, z11, z12] at hb48
      refine pwp_skip ?_
      refine block_norm ?_
      refine seq_norm (hK44 _ ?_); clear hK44 K44
      refine pwp_plain rfl fun K51 hK51 => ?_
      refine p_step rfl (e_add rfl rfl (by omega)) trivial ?_
      refine p_step rfl (e_move (v := .sc _) rfl) trivial ?_
      refine p_end (hK51 _ ?_); clear hK51 K51
      exact loop_again ((j + 1, (bcc ++ x.a.gone), v4)) (by show _ < _; simp only; omega) ⟨rfl, rfl, rfl, rfl, rfl, rfl, rfl, trivial⟩ ⟨rfl, rfl, trivial⟩ (by exact ⟨by show _ + 1 ≤ _; omega, by first | exact outj_yes hinv2 htx (by omega) | exact outj_no hinv2 htx (by omega), by first | exact sl_92 hn8 | exact ⟨70, .inl rfl, hS4⟩, by first | exact hK8 | exact hK4, by (dsimp only; simp only [List.length_append, List.length_cons, List.length_nil]; omega)⟩)
    ·have hb43R := hb43; try simp only [z1, z2, z3, z4, z5, z6, ne_eq, z7, z8, z9, z10, z11, z12] at hb43
     obtain rfl : j = y.ds.length := by rw [List.length_map] at *; omega
     have hinv3 := hinv2
     rw [List.take_length] at hinv3
     refine pwp_exit ?_
     refine exit_seq ?_
     clear hK42 K42
     refine exit_loop ?_
     refine exit_here ?_
     refine block_norm ?_
     refine seq_norm (hK33 _ ?_); clear hK33 K33
     refine pwp_plain rfl fun K52 hK52 => ?_
     refine p_step rfl (e_add rfl rfl (by omega)) trivial ?_
     refine p_step rfl (e_move (v := .sc _) rfl) trivial ?_
     refine p_end (hK52 _ ?_); clear hK52 K52
     exact loop_again ((i + 1, bcc, w)) (by show _ < _; simp only; omega) ⟨rfl, rfl, rfl, trivial⟩ ⟨rfl, rfl, trivial⟩ (by exact ⟨by show _ + 1 ≤ _; omega, by exact outi_next hinv hcl ht0 hab hinv3, by exact hSL, by exact hK2, by (dsimp only; omega)⟩)
   ·have hb32R := hb32; try simp only [z1, z2, z3, z4, z5, z6, ne_eq, z7, z8, z9, z10, z11, z12] at hb32
    obtain rfl : i = ts.length := by omega
    have hinv2 := hinv
    rw [List.take_length, ← hcl, List.take_length] at hinv2
    refine pwp_exit ?_
    refine exit_seq ?_
    clear hK31 K31
    refine exit_loop ?_
    refine exit_here ?_
    refine seq_norm (hK24 _ ?_); clear hK24 K24
    refine pwp_seq_plain rfl fun K53 hK53 => ?_
    refine p_step rfl (e_move (v := _) rfl) trivial ?_
    refine p_step rfl (e_assign (v := _) rfl) trivial ?_
    refine p_end (hK53 _ ?_); clear hK53 K53
    refine pwp_ret ?_
    refine end1 (v := _) rfl ?_
    obtain ⟨d1, _, hSw⟩ := hSL
    rw [← hinv2]
    exact out_slice hSw rfl (fun _ => rfl) lot_clean

end Go.Proofs.Ytdbpfhbppcpbbaa

/- Taking what came first is what the numbers of the pieces say. Plain. -/
set_option linter.unusedSimpArgs false
set_option linter.unusedVariables false
namespace Go.Proofs.Ytdbpfhbppcpbbaa
open Go Go.Pv
/-! ### First come, first gone: by pieces' numbers -/
def camR (p : ByteArray) : Int → List Move → Int
  | c, [] => c
  | c, m :: l => if m.part = p ∧ m.kind = 0 then camR p (c + m.count) l else camR p c l
/-- The deliveries of a part, by the numbers of the pieces. -/
def dsGo (p : ByteArray) (ms : List Move) (W : Int) : Int → List Move → List Da
  | _, [] => []
  | c, m :: l => if m.part = p ∧ m.kind = 0 then ⟨m.day, max 0 (c + m.count - max c W), goneR p c (c + m.count) m.day 0 ms⟩ :: dsGo p ms W (c + m.count) l else dsGo p ms W c l
/-- The deliveries of a part, move by move. -/
def daStep (p : ByteArray) (ds : List Da) (m : Move) : List Da := if m.part = p then stepD m ds else ds
def daL (p : ByteArray) (ms : List Move) : List Da := ms.foldl (daStep p) []
theorem daL_snoc (p : ByteArray) (pre : List Move) (m : Move) : daL p (pre ++ [m]) = daStep p (daL p pre) m := by unfold daL; rw [List.foldl_append]; rfl
/-- Nothing is taken that is not there. -/
def okS (p : ByteArray) : Int → Int → List Move → Prop
  | _, _, [] => True
  | W, C, m :: l => 0 ≤ m.count ∧ (if m.part = p then (if m.kind = 0 then okS p W (C + m.count) l else W + m.count ≤ C ∧ okS p (W + m.count) C l) else okS p W C l)
section
variable {p : ByteArray} {m : Move}
theorem went_snoc (p : ByteArray) (m : Move) : ∀ (l : List Move) (w : Int), wentR p w (l ++ [m]) = if m.part = p ∧ ¬ m.kind = 0 then wentR p w l + m.count else wentR p w l
  | [], w => by simp only [List.nil_append, wentR]
  | a :: l, w => by
    rw [List.cons_append, wentR, wentR]
    split
    · exact went_snoc p m l _
    · exact went_snoc p m l _
theorem cam_snoc (p : ByteArray) (m : Move) : ∀ (l : List Move) (w : Int), camR p w (l ++ [m]) = if m.part = p ∧ m.kind = 0 then camR p w l + m.count else camR p w l
  | [], w => by simp only [List.nil_append, camR]
  | a :: l, w => by
    rw [List.cons_append, camR, camR]
    split
    · exact cam_snoc p m l _
    · exact cam_snoc p m l _
theorem gone_snoc (p : ByteArray) (m : Move) (f e d : Int) : ∀ (l : List Move) (w : Int), goneR p f e d w (l ++ [m]) = goneR p f e d w l ++ if m.part = p ∧ ¬ m.kind = 0 then (if 0 < min e (wentR p w l + m.count) - max f (wentR p w l) then [⟨p, min e (wentR p w l + m.count) - max f (wentR p w l), d, m.day, m.kind⟩] else []) else []
  | [], w => by
    rw [List.nil_append, goneR, goneR, goneR, List.nil_append]
    split
    · rw [List.append_nil]; rfl
    · rfl
  | a :: l, w => by
    rw [List.cons_append, goneR, goneR]
    by_cases h : a.part = p ∧ ¬ a.kind = 0
    · rw [if_pos h, if_pos h, gone_snoc p m f e d l, List.append_assoc, wentR, if_pos h]
    · rw [if_neg h, if_neg h, gone_snoc p m f e d l, wentR, if_neg h]
theorem went_ge (p : ByteArray) : ∀ (l : List Move) (w : Int), (∀ m ∈ l, 0 ≤ m.count) → w ≤ wentR p w l
  | [], w, _ => Int.le_refl _
  | a :: l, w, h => by
    have h0 := h a (by simp)
    have h1 := fun w => went_ge p l w fun m hm => h m (by simp [hm])
    rw [wentR]
    split
    · have := h1 (w + a.count); omega
    · exact h1 w
theorem gone_none (p : ByteArray) (f e d : Int) : ∀ (l : List Move) (w : Int), (∀ m ∈ l, 0 ≤ m.count) → wentR p w l ≤ f → goneR p f e d w l = []
  | [], w, _, _ => rfl
  | a :: l, w, h, hw => by
    have h2 := fun m (hm : m ∈ l) => h m (by simp [hm])
    rw [goneR]
    rw [wentR] at hw
    split
    · rename_i hc
      rw [if_pos hc] at hw
      have := went_ge p l (w + a.count) h2
      rw [if_neg (by omega), List.nil_append]
      exact gone_none p f e d l _ h2 hw
    · rename_i hc
      rw [if_neg hc] at hw
      exact gone_none p f e d l _ h2 hw
theorem dsGo_same (ms : List Move) (W : Int) (hm : ¬ (m.part = p ∧ ¬ m.kind = 0)) : ∀ (l : List Move) (c : Int), dsGo p (ms ++ [m]) W c l = dsGo p ms W c l
  | [], _ => rfl
  | a :: l, c => by rw [dsGo, dsGo, gone_snoc, if_neg hm, List.append_nil, dsGo_same ms W hm l, dsGo_same ms W hm l]
theorem dsGo_snoc (ms : List Move) (W : Int) : ∀ (l : List Move) (c : Int), dsGo p ms W c (l ++ [m]) = dsGo p ms W c l ++ if m.part = p ∧ m.kind = 0 then [⟨m.day, max 0 (camR p c l + m.count - max (camR p c l) W), goneR p (camR p c l) (camR p c l + m.count) m.day 0 ms⟩] else []
  | [], c => by
    rw [List.nil_append, dsGo, dsGo, dsGo, List.nil_append]; rfl
  | a :: l, c => by
    rw [List.cons_append, dsGo, dsGo]
    by_cases h : a.part = p ∧ a.kind = 0
    · rw [if_pos h, if_pos h, dsGo_snoc ms W l, List.cons_append, camR, if_pos h]
    · rw [if_neg h, if_neg h, dsGo_snoc ms W l, camR, if_neg h]
theorem dsGo_take (ms : List Move) (hm : m.part = p ∧ ¬ m.kind = 0) (ht : 0 ≤ m.count) : ∀ (l : List Move) (c : Int), (∀ a ∈ l, 0 ≤ a.count) →
    takeL m (max 0 (wentR p 0 ms + m.count - max c (wentR p 0 ms))) (dsGo p ms (wentR p 0 ms) c l) = dsGo p (ms ++ [m]) (wentR p 0 ms + m.count) c l
  | [], _, _ => rfl
  | a :: l, c, h => by
    have h0 := h a (by simp)
    have hl : ∀ b ∈ l, 0 ≤ b.count := fun b hb => h b (by simp [hb])
    rw [dsGo, dsGo]
    by_cases hc : a.part = p ∧ a.kind = 0
    · rw [if_pos hc, if_pos hc, gone_snoc, if_pos hm, takeL]
      generalize hW : wentR p 0 ms = W
      have ih := fun c => dsGo_take ms hm ht l c hl
      rw [hW] at ih
      by_cases hk : 0 < min (max 0 (W + m.count - max c W)) (max 0 (c + a.count - max c W))
      · have e1 : min (max 0 (W + m.count - max c W)) (max 0 (c + a.count - max c W)) = min (c + a.count) (W + m.count) - max c W := by omega
        have e2 : max 0 (c + a.count - max c W) - (min (c + a.count) (W + m.count) - max c W) = max 0 (c + a.count - max c (W + m.count)) := by omega
        have e3 : max 0 (W + m.count - max c W) - (min (c + a.count) (W + m.count) - max c W) = max 0 (W + m.count - max (c + a.count) W) := by omega
        rw [if_pos hk, e1, e2, e3, ih, if_pos (by omega), hm.1]
      · have e2 : max 0 (c + a.count - max c W) = max 0 (c + a.count - max c (W + m.count)) := by omega
        have e3 : max 0 (W + m.count - max c W) = max 0 (W + m.count - max (c + a.count) W) := by omega
        rw [if_neg hk, if_neg (by omega), List.append_nil, e2, e3, ih]
    · rw [if_neg hc, if_neg hc]; exact dsGo_take ms hm ht l c hl
theorem da_go : ∀ (l pre : List Move), daL p pre = dsGo p pre (wentR p 0 pre) 0 pre → okS p (wentR p 0 pre) (camR p 0 pre) l → wentR p 0 pre ≤ camR p 0 pre → (∀ a ∈ pre, 0 ≤ a.count) → daL p (pre ++ l) = dsGo p (pre ++ l) (wentR p 0 (pre ++ l)) 0 (pre ++ l)
  | [], pre, h, _, _, _ => by simpa using h
  | m :: l, pre, h, hs, hwc, hc => by
    have hs' := hs
    unfold okS at hs'
    obtain ⟨hm0, hs'⟩ := hs'
    have hcm : ∀ a ∈ pre ++ [m], 0 ≤ a.count := fun a ha => by
      rcases List.mem_append.1 ha with ha | ha
      · exact hc a ha
      · simp at ha; rw [ha]; exact hm0
    rw [show pre ++ m :: l = (pre ++ [m]) ++ l by simp]
    by_cases hp : m.part = p
    · rw [if_pos hp] at hs'
      by_cases hk : m.kind = 0
      · rw [if_pos hk] at hs'
        have e1 : wentR p 0 (pre ++ [m]) = wentR p 0 pre := by rw [went_snoc, if_neg (by simp [hk])]
        have e2 : camR p 0 (pre ++ [m]) = camR p 0 pre + m.count := by rw [cam_snoc, if_pos ⟨hp, hk⟩]
        refine da_go l (pre ++ [m]) ?_ (by rw [e1, e2]; exact hs') (by rw [e1, e2]; omega) hcm
        rw [e1, daL_snoc, daStep, if_pos hp, stepD, if_pos hk, dsGo_same pre _ (by simp [hk]), dsGo_snoc, if_pos ⟨hp, hk⟩, h, gone_none p _ _ _ pre 0 hc hwc]
        congr 4
        omega
      · rw [if_neg hk] at hs'
        have e1 : wentR p 0 (pre ++ [m]) = wentR p 0 pre + m.count := by rw [went_snoc, if_pos ⟨hp, hk⟩]
        have e2 : camR p 0 (pre ++ [m]) = camR p 0 pre := by rw [cam_snoc, if_neg (by simp [hk])]
        refine da_go l (pre ++ [m]) ?_ (by rw [e1, e2]; exact hs'.2) (by rw [e1, e2]; exact hs'.1) hcm
        have hw0 := went_ge p pre 0 hc
        rw [e1, daL_snoc, daStep, if_pos hp, stepD, if_neg hk, dsGo_snoc, if_neg (by simp [hk]), List.append_nil, h, ← dsGo_take pre ⟨hp, hk⟩ hm0 pre 0 hc]
        congr 1
        omega
    · rw [if_neg hp] at hs'
      have e1 : wentR p 0 (pre ++ [m]) = wentR p 0 pre := by rw [went_snoc, if_neg (by simp [hp])]
      have e2 : camR p 0 (pre ++ [m]) = camR p 0 pre := by rw [cam_snoc, if_neg (by simp [hp])]
      refine da_go l (pre ++ [m]) ?_ (by rw [e1, e2]; exact hs') (by rw [e1, e2]; exact hwc) hcm
      rw [e1, daL_snoc, daStep, if_neg hp, dsGo_same pre _ (by simp [hp]), dsGo_snoc, if_neg (by simp [hp]), List.append_nil, h]
theorem out_go (ms : List Move) : ∀ (l : List Move) (c : Int), (dsGo p ms (wentR p 0 ms) c l).flatMap (outD p) = lotsGo p ms c l
  | [], _ => rfl
  | a :: l, c => by
    rw [dsGo, lotsGo]
    split
    · rw [List.flatMap_cons, out_go ms l]
      congr 1
      unfold outD leftR
      by_cases h : 0 < c + a.count - max c (wentR p 0 ms)
      · rw [if_pos h, if_pos (show 0 < max 0 (c + a.count - max c (wentR p 0 ms)) by omega)]
        congr 3
        dsimp only
        omega
      · rw [if_neg h, if_neg (show ¬ 0 < max 0 (c + a.count - max c (wentR p 0 ms)) by omega)]
    · exact out_go ms l c
theorem da_out {ms : List Move} (hs : okS p 0 0 ms) : (daL p ms).flatMap (outD p) = lotsR p ms := by
  have := da_go (p := p) ms [] rfl hs (Int.le_refl _) (by simp)
  rw [List.nil_append] at this
  rw [this]
  exact out_go ms ms 0
end
/-! ### Right moves take nothing that is not there -/
theorem snoc_ind {α : Type} {Q : List α → Prop} (h0 : Q []) (hs : ∀ l a, Q l → Q (l ++ [a])) (l : List α) : Q l := by
  have : ∀ r : List α, Q r.reverse := by
    intro r
    induction r with
    | nil => exact h0
    | cons a r ih => rw [List.reverse_cons]; exact hs _ _ ih
  have h := this l.reverse
  rwa [List.reverse_reverse] at h
theorem cnt_went {p : ByteArray} (l : List Move) : (∀ m ∈ l, okM m) → wentR p 0 l = (cntL p l).getD 1 0 + (cntL p l).getD 2 0 ∧ camR p 0 l = (cntL p l).getD 0 0 := by
  refine snoc_ind (Q := fun l => (∀ m ∈ l, okM m) → wentR p 0 l = (cntL p l).getD 1 0 + (cntL p l).getD 2 0 ∧ camR p 0 l = (cntL p l).getD 0 0) (fun _ => ⟨rfl, rfl⟩) (fun l m ih hok => ?_) l
  have ih := ih fun x hx => hok x (by simp [hx])
  have hm := (hok m (by simp)).1
  have hs : cntL p (l ++ [m]) = cntStep p (cntL p l) m := by unfold cntL; rw [List.foldl_append]; rfl
  have h3 := cntL_len p l
  rw [went_snoc, cam_snoc, hs]
  generalize cntL p l = L at h3 ih
  match L, h3 with
  | [a, b, c], _ =>
    simp only [List.getD_cons_zero, List.getD_cons_succ] at ih
    unfold cntStep
    by_cases hp : m.part = p
    · have hk : m.kind = 0 ∨ m.kind = 1 ∨ m.kind = 2 := by omega
      rcases hk with hk | hk | hk <;> simp [hp, hk] <;> omega
    · simp [hp]; omega
theorem goM_all {ts : List Term} : ∀ (l pre : List Move) (last : Int), goM ts pre last l = 0 → ∀ m ∈ l, ¬ badM m ∧ 0 ≤ termIx ts m.part
  | [], _, _, _, m, hm => by simp at hm
  | a :: l, pre, last, h, m, hm => by
    unfold goM at h
    split at h
    · rename_i h0
      rcases List.mem_cons.1 hm with rfl | hm
      · unfold mvE at h0
        split at h0
        · cases h0
        · rename_i hb
          split at h0
          · cases h0
          · split at h0
            · cases h0
            · rename_i h2
              exact ⟨hb, by omega⟩
      · exact goM_all l _ _ h m hm
    · rename_i h0; exact absurd h h0
theorem goM_okS {ts : List Term} (p : ByteArray) : ∀ (l pre : List Move) (last : Int), goM ts pre last l = 0 → (∀ m ∈ pre, okM m) → okS p (wentR p 0 pre) (camR p 0 pre) l
  | [], _, _, _, _ => trivial
  | a :: l, pre, last, h, hok => by
    have hall := goM_all (a :: l) pre last h a (by simp)
    have hoka : okM a := by have := hall.1; unfold badM at this; unfold okM; omega
    have hok2 : ∀ m ∈ pre ++ [a], okM m := fun m hm => by
      rcases List.mem_append.1 hm with hm | hm
      · exact hok m hm
      · simp at hm; rw [hm]; exact hoka
    unfold goM at h
    split at h
    · rename_i h0
      have ih := goM_okS p l _ _ h hok2
      rw [went_snoc, cam_snoc] at ih
      refine ⟨hoka.2.1, ?_⟩
      by_cases hp : a.part = p
      · rw [if_pos hp]
        by_cases hk : a.kind = 0
        · rw [if_pos hk]; rw [if_neg (by simp [hk]), if_pos ⟨hp, hk⟩] at ih; exact ih
        · rw [if_neg hk]; rw [if_pos ⟨hp, hk⟩, if_neg (by simp [hk])] at ih
          refine ⟨?_, ih⟩
          have hc := cnt_went (p := p) pre hok
          unfold mvE at h0
          split at h0
          · cases h0
          · split at h0
            · cases h0
            · split at h0
              · cases h0
              · split at h0
                · cases h0
                · rename_i h4
                  have : ¬ stkL pre a.part < a.count := fun h5 => h4 ⟨hk, h5⟩
                  unfold stkL at this
                  rw [hp] at this
                  omega
      · rw [if_neg hp]; rw [if_neg (by simp [hp]), if_neg (by simp [hp])] at ih; exact ih
    · rename_i h0; exact absurd h h0
theorem came_da {ts : List Term} (ht : termsE ts = 0) (ms : List Move) : (∀ m ∈ ms, 0 ≤ termIx ts m.part) → cameL ts ms = ts.map fun t => daL t.part ms := by
  refine snoc_ind (Q := fun ms => (∀ m ∈ ms, 0 ≤ termIx ts m.part) → cameL ts ms = ts.map fun t => daL t.part ms) (fun _ => ?_) (fun l m ih hok => ?_) ms
  · apply List.ext_getElem?
    intro j
    rw [List.getElem?_map]
    unfold cameL daL
    rw [List.foldl_nil, List.getElem?_replicate]
    split
    · rename_i h; rw [List.getElem?_eq_getElem h]; rfl
    · rename_i h; rw [List.getElem?_eq_none (by omega)]; rfl
  · have ih := ih fun x hx => hok x (by simp [hx])
    have h0 := hok m (by simp)
    obtain ⟨s, hs1, hs2⟩ := ix_part h0
    rw [cameL_snoc, stepC, ih]
    apply List.ext_getElem?
    intro j
    rw [List.getElem?_map]
    cases hj : ts[j]? with
    | none =>
      rw [List.getElem?_eq_none]
      · rfl
      · have := List.getElem?_eq_none_iff.1 hj; simpa using this
    | some t =>
      have hix := terms_ix ht hj
      rw [Option.map_some, daL_snoc, daStep]
      by_cases hp : m.part = t.part
      · have e : (termIx ts m.part).toNat = j := by rw [hp, hix]; omega
        have hlt := (List.getElem?_eq_some_iff.1 hj).1
        rw [if_pos hp, e, List.getElem?_set_self (by simpa using hlt), List.getD_eq_getElem?_getD, List.getElem?_map, hj]; rfl
      · rw [if_neg hp, List.getElem?_set_ne, List.getElem?_map, hj]
        · rfl
        · intro e
          rw [e, hj] at hs1; cases hs1
          exact hp hs2.symm
theorem zip_map_self {α β : Type} (f : α → β) : ∀ l : List α, l.zip (l.map f) = l.map fun a => (a, f a)
  | [] => rfl
  | a :: l => by rw [List.map_cons, List.zip_cons_cons, zip_map_self f l]; rfl
/-- What the program gathers is what the reference tells by numbers. -/
theorem lots_eq {ts : List Term} {ms : List Move} {last : Int} (ht : termsE ts = 0) (hm : goM ts [] last ms = 0) : outL ts (cameL ts ms) = lotsT ts ms := by
  rw [came_da ht ms fun m h => (goM_all ms [] last hm m h).2]
  unfold outL lotsT
  rw [zip_map_self, List.flatMap_map]
  congr 1
  funext t
  exact da_out (goM_okS t.part ms [] last hm (by simp))

end Go.Proofs.Ytdbpfhbppcpbbaa

/- Lots of right moves; how many pieces they have. Plain. -/
set_option linter.unusedSimpArgs false
set_option linter.unusedVariables false
namespace Go.Proofs.Ytdbpfhbppcpbbaa
open Go Go.Pv
/-! ### Lots of right moves -/
theorem tm_a {ts : List Term} {ms : List Move} (h : termsE ts = 0) : tmE ts ms = movE ts ms := by rw [tmE, if_neg (by simpa using h)]
theorem tm_b {ts : List Term} {ms : List Move} (h : ¬ termsE ts = 0) : tmE ts ms = termsE ts := (tmE_1 h).symm
theorem tm_parts {ts : List Term} {ms : List Move} (h : tmE ts ms = 0) : termsE ts = 0 ∧ movE ts ms = 0 ∧ ms.length ≤ 300 ∧ goM ts [] 0 ms = 0 := by
  by_cases h0 : termsE ts = 0
  · have h1 := tm_a (ms := ms) h0
    rw [h] at h1
    refine ⟨h0, h1.symm, ?_⟩
    unfold movE at h1
    split at h1
    · cases h1
    · exact ⟨by omega, h1.symm⟩
  · exact absurd (h ▸ tm_b h0).symm h0
theorem badM_ok {m : Move} (h : ¬ badM m) : okM m := by unfold badM at h; unfold okM; omega
theorem tm_go {ts : List Term} {ms : List Move} (h : tmE ts ms = 0) : ∀ m ∈ ms, okM m ∧ 0 ≤ termIx ts m.part := fun m hm => by
  have := goM_all ms [] 0 (tm_parts h).2.2.2 m hm
  exact ⟨badM_ok this.1, this.2⟩
theorem tm_lots {ts : List Term} {ms : List Move} (h : tmE ts ms = 0) : outL ts (cameL ts ms) = lotsT ts ms := lots_eq (tm_parts h).1 (tm_parts h).2.2.2
/-- The lots of terms and moves, none if they are not right. -/
def lotsP (ts : List Term) (ms : List Move) : List Lot := if tmE ts ms = 0 then lotsT ts ms else []
theorem lotsP_0 {ts : List Term} {ms : List Move} (h : tmE ts ms = 0) : lotsP ts ms = lotsT ts ms := by rw [lotsP, if_pos h]
theorem lotsP_1 {ts : List Term} {ms : List Move} (h : ¬ tmE ts ms = 0) : lotsP ts ms = [] := by rw [lotsP, if_neg h]
/-- The pieces of a part in lots. -/
def sumC (p : ByteArray) (l : List Lot) : Int := (l.map fun x => if x.part = p then x.count else 0).sum
theorem sumC_app (p : ByteArray) (a b : List Lot) : sumC p (a ++ b) = sumC p a + sumC p b := by unfold sumC; rw [List.map_append, List.sum_append]
theorem sumC_one (p : ByteArray) (x : Lot) : sumC p [x] = if x.part = p then x.count else 0 := by simp [sumC]
theorem sumC_nil (p : ByteArray) : sumC p [] = 0 := rfl
theorem gone_sum {p : ByteArray} {f e d : Int} (hfe : f ≤ e) : ∀ (l : List Move) (w : Int), (∀ m ∈ l, 0 ≤ m.count) → sumC p (goneR p f e d w l) = max 0 (min e (wentR p w l) - max f w)
  | [], w, _ => by rw [goneR, wentR, sumC_nil]; omega
  | a :: l, w, h => by
    have h0 := h a (by simp)
    have h2 := fun m (hm : m ∈ l) => h m (by simp [hm])
    rw [goneR, wentR]
    by_cases hc : a.part = p ∧ ¬ a.kind = 0
    · rw [if_pos hc, if_pos hc, sumC_app, gone_sum hfe l _ h2]
      have := went_ge p l (w + a.count) h2
      by_cases hk : 0 < min e (w + a.count) - max f w
      · rw [if_pos hk, sumC_one, if_pos rfl]; dsimp only; omega
      · rw [if_neg hk, sumC_nil]; omega
    · rw [if_neg hc, if_neg hc]; exact gone_sum hfe l w h2
theorem lotsGo_sum {p : ByteArray} {ms : List Move} (hms : ∀ m ∈ ms, 0 ≤ m.count) : ∀ (l : List Move) (c : Int), (∀ m ∈ l, 0 ≤ m.count) → 0 ≤ c → sumC p (lotsGo p ms c l) = camR p c l - c
  | [], c, _, _ => by rw [lotsGo, camR, sumC_nil]; omega
  | a :: l, c, h, hc => by
    have h0 := h a (by simp)
    have h2 := fun m (hm : m ∈ l) => h m (by simp [hm])
    rw [lotsGo, camR]
    by_cases hk : a.part = p ∧ a.kind = 0
    · rw [if_pos hk, if_pos hk, sumC_app, sumC_app, lotsGo_sum hms l _ h2 (by omega), gone_sum (by omega) ms 0 hms]
      have hw := went_ge p ms 0 hms
      unfold leftR
      by_cases hz : 0 < c + a.count - max c (wentR p 0 ms)
      · rw [if_pos hz, sumC_one, if_pos rfl]; dsimp only; omega
      · rw [if_neg hz, sumC_nil]; omega
    · rw [if_neg hk, if_neg hk]; exact lotsGo_sum hms l c h2 hc
/-- A lot of a part: pieces of one delivery. -/
def okL (p : ByteArray) (x : Lot) : Prop := x.part = p ∧ 0 < x.count ∧ x.count ≤ 100000
theorem gone_okL {p : ByteArray} {f e d : Int} (he : e - f ≤ 100000) : ∀ (l : List Move) (w : Int), ∀ x ∈ goneR p f e d w l, okL p x
  | [], _, x, hx => by simp [goneR] at hx
  | a :: l, w, x, hx => by
    rw [goneR] at hx
    split at hx
    · rcases List.mem_append.1 hx with hx | hx
      · split at hx
        · simp at hx; subst hx; refine ⟨rfl, ?_, ?_⟩ <;> dsimp only <;> omega
        · simp at hx
      · exact gone_okL he l _ x hx
    · exact gone_okL he l _ x hx
theorem lotsGo_okL {p : ByteArray} {ms : List Move} : ∀ (l : List Move) (c : Int), (∀ m ∈ l, okM m) → ∀ x ∈ lotsGo p ms c l, okL p x
  | [], _, _, x, hx => by simp [lotsGo] at hx
  | a :: l, c, h, x, hx => by
    have h0 := (h a (by simp)).2
    have h2 := fun m (hm : m ∈ l) => h m (by simp [hm])
    rw [lotsGo] at hx
    split at hx
    · rcases List.mem_append.1 hx with hx | hx
      · rcases List.mem_append.1 hx with hx | hx
        · exact gone_okL (by omega) ms 0 x hx
        · unfold leftR at hx
          split at hx
          · simp at hx; subst hx; refine ⟨rfl, ?_, ?_⟩ <;> dsimp only <;> omega
          · simp at hx
      · exact lotsGo_okL l _ h2 x hx
    · exact lotsGo_okL l _ h2 x hx
theorem lotsT_okL {ts : List Term} {ms : List Move} (h : ∀ m ∈ ms, okM m) : ∀ x ∈ lotsT ts ms, ∃ t ∈ ts, okL t.part x := fun x hx => by
  obtain ⟨t, ht, hx⟩ := List.mem_flatMap.1 hx
  exact ⟨t, ht, lotsGo_okL ms 0 h x hx⟩
theorem sumC_other {p q : ByteArray} {l : List Lot} (h : ∀ x ∈ l, x.part = q) (hn : ¬ q = p) : sumC p l = 0 := by
  induction l with
  | nil => rfl
  | cons a l ih =>
    rw [show a :: l = [a] ++ l from rfl, sumC_app, sumC_one, if_neg (by rw [h a (by simp)]; exact hn), ih fun x hx => h x (by simp [hx])]; rfl
/-- The lots of a part have all pieces that came. -/
theorem lots_sum {ts : List Term} {ms : List Move} {t : Term} (h : tmE ts ms = 0) (ht : t ∈ ts) : sumC t.part (lotsT ts ms) = (cntL t.part ms).getD 0 0 := by
  have hok : ∀ m ∈ ms, okM m := fun m hm => (tm_go h m hm).1
  have hc0 : ∀ m ∈ ms, 0 ≤ m.count := fun m hm => (hok m hm).2.1
  have hn := terms_nodup (tm_parts h).1
  rw [← (cnt_went (p := t.part) ms hok).2]
  have hR : sumC t.part (lotsR t.part ms) = camR t.part 0 ms := by
    have := lotsGo_sum (p := t.part) hc0 ms 0 hc0 (Int.le_refl _)
    unfold lotsR; rw [this]; omega
  have : ∀ l : List Term, (l.map (fun a : Term => a.part)).Nodup → (t.part ∈ l.map (fun a : Term => a.part) → sumC t.part (lotsT l ms) = camR t.part 0 ms) ∧ (¬ t.part ∈ l.map (fun a : Term => a.part) → sumC t.part (lotsT l ms) = 0) := by
    intro l
    induction l with
    | nil => intro _; exact ⟨fun h => by simp at h, fun _ => by simp [lotsT, sumC_nil]⟩
    | cons a l ih =>
      intro hn
      rw [List.map_cons, List.nodup_cons] at hn
      have e : lotsT (a :: l) ms = lotsR a.part ms ++ lotsT l ms := by unfold lotsT; rw [List.flatMap_cons]
      have ih := ih hn.2
      rw [e, sumC_app, List.map_cons, List.mem_cons]
      by_cases hp : a.part = t.part
      · rw [hp] at hn ⊢
        rw [hR, ih.2 hn.1]
        exact ⟨fun _ => by omega, fun h => absurd (.inl rfl) h⟩
      · rw [sumC_other (l := lotsR a.part ms) (fun x hx => (lotsGo_okL ms 0 hok x hx).1) hp]
        refine ⟨fun h => ?_, fun h => ?_⟩
        · rw [ih.1 (h.elim (fun h => absurd h.symm hp) id)]; omega
        · rw [ih.2 (fun h2 => h (.inr h2))]; rfl
  exact (this ts hn).1 (List.mem_map.2 ⟨t, ht, rfl⟩)
theorem sum_bnd {ts : List Term} {ms : List Move} {p : ByteArray} (h : ∀ m ∈ ms, okM m) (j : Nat) : 0 ≤ sumC p ((lotsT ts ms).take j) ∧ sumC p ((lotsT ts ms).take j) ≤ 100000 * (j : Int) := by
  have : ∀ (l : List Lot), (∀ x ∈ l, 0 < x.count ∧ x.count ≤ 100000) → 0 ≤ sumC p l ∧ sumC p l ≤ 100000 * (l.length : Int) := by
    intro l
    induction l with
    | nil => intro _; simp [sumC_nil]
    | cons a l ih =>
      intro hl
      have h1 := ih fun x hx => hl x (by simp [hx])
      have h2 := hl a (by simp)
      rw [show a :: l = [a] ++ l from rfl, sumC_app, sumC_one, List.length_append, List.length_singleton]
      split <;> omega
  have h1 := this ((lotsT ts ms).take j) fun x hx => by
    obtain ⟨t, _, ho⟩ := lotsT_okL h x (List.mem_of_mem_take hx)
    exact ho.2
  have h2 : ((lotsT ts ms).take j).length ≤ j := by rw [List.length_take]; omega
  omega
theorem sum_next {p : ByteArray} {l : List Lot} {j : Nat} {x : Lot} (h : l.take (j + 1) = l.take j ++ [x]) : sumC p (l.take (j + 1)) = if x.part = p then sumC p (l.take j) + x.count else sumC p (l.take j) := by
  rw [h, sumC_app, sumC_one]; split <;> omega

end Go.Proofs.Ytdbpfhbppcpbbaa
