/- Lots of the reference. No conditions. -/
import Derived.Test.YtdbpfhbppcpbbaaMov2
set_option linter.unusedSimpArgs false
set_option linter.unusedVariables false
set_option maxRecDepth 100000
namespace Go.Proofs.Ytdbpfhbppcpbbaa
open Go Go.Pv
/-! ### Lots, by the numbers of the pieces -/
def goneR (p : ByteArray) (f e d : Int) : Int → List Move → List Lot
  | _, [] => []
  | w, m :: l => if m.part = p ∧ ¬ m.kind = 0 then (if 0 < min e (w + m.count) - max f w then [⟨p, min e (w + m.count) - max f w, d, m.day, m.kind⟩] else []) ++ goneR p f e d (w + m.count) l else goneR p f e d w l
def wentR (p : ByteArray) : Int → List Move → Int
  | w, [] => w
  | w, m :: l => if m.part = p ∧ ¬ m.kind = 0 then wentR p (w + m.count) l else wentR p w l
def leftR (p : ByteArray) (f e d w : Int) : List Lot := if 0 < e - max f w then [⟨p, e - max f w, d, -1, -1⟩] else []
def lotsGo (p : ByteArray) (ms : List Move) : Int → List Move → List Lot
  | _, [] => []
  | c, m :: l => if m.part = p ∧ m.kind = 0 then goneR p c (c + m.count) m.day 0 ms ++ leftR p c (c + m.count) m.day (wentR p 0 ms) ++ lotsGo p ms (c + m.count) l else lotsGo p ms c l
/-- The lots of a part. -/
def lotsR (p : ByteArray) (ms : List Move) : List Lot := lotsGo p ms 0 ms
section
variable {p : ByteArray} {ms l : List Move} {m : Move} {acc A B : List Lot} {f e d w c W : Int}
theorem gone_skip (h : A = acc ++ goneR p f e d w (m :: l)) (hn : ¬ (m.part = p ∧ ¬ m.kind = 0)) : A = acc ++ goneR p f e d w l := by rw [h, goneR, if_neg hn]
theorem gone_no (h : A = acc ++ goneR p f e d w (m :: l)) (h1 : m.part = p) (h2 : ¬ m.kind = 0) (h3 : ¬ 0 < min e (w + m.count) - max f w) : A = acc ++ goneR p f e d (w + m.count) l := by rw [h, goneR, if_pos ⟨h1, h2⟩, if_neg h3, List.nil_append]
theorem gone_yes (h : A = acc ++ goneR p f e d w (m :: l)) (h1 : m.part = p) (h2 : ¬ m.kind = 0) (h3 : 0 < min e (w + m.count) - max f w) : A = (acc ++ [⟨p, min e (w + m.count) - max f w, d, m.day, m.kind⟩]) ++ goneR p f e d (w + m.count) l := by rw [h, goneR, if_pos ⟨h1, h2⟩, if_pos h3, List.append_assoc]
theorem went_skip (h : W = wentR p w (m :: l)) (hn : ¬ (m.part = p ∧ ¬ m.kind = 0)) : W = wentR p w l := by rw [h, wentR, if_neg hn]
theorem went_on (h : W = wentR p w (m :: l)) (h1 : m.part = p) (h2 : ¬ m.kind = 0) : W = wentR p (w + m.count) l := by rw [h, wentR, if_pos ⟨h1, h2⟩]
theorem lots_skip (h : A = acc ++ lotsGo p ms c (m :: l)) (hn : ¬ (m.part = p ∧ m.kind = 0)) : A = acc ++ lotsGo p ms c l := by rw [h, lotsGo, if_neg hn]
theorem lots_no (h : A = acc ++ lotsGo p ms c (m :: l)) (h1 : m.part = p) (h2 : m.kind = 0) (hB : acc ++ goneR p c (c + m.count) m.day 0 ms = B) (hw : wentR p 0 ms = w) (h3 : ¬ 0 < c + m.count - max c w) : A = B ++ lotsGo p ms (c + m.count) l := by
  rw [h, lotsGo, if_pos ⟨h1, h2⟩, ← hB, leftR, hw, if_neg h3, List.append_nil, List.append_assoc]
theorem lots_yes (h : A = acc ++ lotsGo p ms c (m :: l)) (h1 : m.part = p) (h2 : m.kind = 0) (hB : acc ++ goneR p c (c + m.count) m.day 0 ms = B) (hw : wentR p 0 ms = w) (h3 : 0 < c + m.count - max c w) : A = (B ++ [⟨p, c + m.count - max c w, m.day, -1, -1⟩]) ++ lotsGo p ms (c + m.count) l := by
  rw [h, lotsGo, if_pos ⟨h1, h2⟩, ← hB, leftR, hw, if_pos h3]; simp only [List.append_assoc]
end
theorem gone_len (p : ByteArray) (f e d : Int) : ∀ (l : List Move) (w : Int), (goneR p f e d w l).length ≤ l.length
  | [], _ => Nat.le_refl _
  | m :: l, w => by
    have h1 := gone_len p f e d l (w + m.count)
    have h2 := gone_len p f e d l w
    unfold goneR
    split
    · split
      · rw [List.length_append, List.length_cons, List.length_cons, List.length_nil]; omega
      · rw [List.nil_append, List.length_cons]; omega
    · rw [List.length_cons]; omega
theorem lotsGo_len (p : ByteArray) (ms : List Move) : ∀ (l : List Move) (c : Int), (lotsGo p ms c l).length ≤ l.length * (ms.length + 1)
  | [], _ => Nat.zero_le _
  | m :: l, c => by
    have h1 := lotsGo_len p ms l (c + m.count)
    have h2 := lotsGo_len p ms l c
    have h3 := gone_len p c (c + m.count) m.day ms 0
    have h4 : (leftR p c (c + m.count) m.day (wentR p 0 ms)).length ≤ 1 := by unfold leftR; split <;> simp
    unfold lotsGo
    rw [List.length_cons, Nat.succ_mul]
    split
    · rw [List.length_append, List.length_append]; omega
    · omega
theorem lotsR_len (p : ByteArray) (ms : List Move) (h : ms.length ≤ 305) : (lotsR p ms).length ≤ 93330 := by
  have h1 := lotsGo_len p ms ms 0
  have h2 : ms.length * (ms.length + 1) ≤ 305 * 306 := Nat.mul_le_mul h (by omega)
  unfold lotsR; omega
/-- The lots of all parts. -/
def lotsT (ts : List Term) (ms : List Move) : List Lot := ts.flatMap fun t => lotsR t.part ms
theorem lotsT_len (ts : List Term) (ms : List Move) (h : ms.length ≤ 305) : (lotsT ts ms).length ≤ ts.length * 93330 := by
  unfold lotsT
  induction ts with
  | nil => simp
  | cons t ts ih =>
    have := lotsR_len t.part ms h
    rw [List.flatMap_cons, List.length_append, List.length_cons, Nat.succ_mul]; omega

theorem fr84 : (inFrame Try.f84.ntmps (Try.f84.body.getD .skip) && Try.f84.results.toList.all (resScope Try.f84.ntmps)) = true := by kernel_rfl
theorem lotsOf (ms : List Move) (p : ByteArray) (hl : ms.length ≤ 305) (hok : ∀ m ∈ ms, okM m) : PCalls Try.prog 84 [.lit true 4 (ms.map Move.enc), .str p] (.lit false 5 ((lotsR p ms).map Lot.enc)) := by
  refine PCalls.of_code Try.func84 rfl rfl (by kernel_rfl) mixed fr84 (by show _ ≤ 127; simp) (.lit _ _ _ fun row hr => pure_map Lot.pure row hr) ?_
  refine pwp_seq_plain rfl fun K1 hK1 => ?_
  refine p_step rfl (e_assign (v := .nil) rfl) trivial ?_
  refine p_end (hK1 _ ?_); clear hK1 K1
  refine pwp_seq_plain rfl fun K2 hK2 => ?_
  refine p_step rfl (e_assign (v := .nil) rfl) trivial ?_
  refine p_end (hK2 _ ?_); clear hK2 K2
  refine pwp_seq_plain rfl fun K3 hK3 => ?_
  refine p_step rfl (e_assign (v := .sc _) rfl) trivial ?_
  refine p_end (hK3 _ ?_); clear hK3 K3
  refine pwp_seq_seq ?_
  refine pwp_seq_plain rfl fun K4 hK4 => ?_
  refine p_step rfl (e_assign (v := .sc _) rfl) trivial ?_
  refine p_end (hK4 _ ?_); clear hK4 K4
  refine pwp_seq_block fun K5 hK5 => ?_
  refine pwp_loopR (α := Nat × Int × (List Lot) × PV) [0, 1] (fun (a6 : Nat × Int × (List Lot) × PV) => [(5, (a6.2.2.2)), (6, .int (a6.2.1)), (7, .int (a6.1))]) (fun (a6 : Nat × Int × (List Lot) × PV) (h : Heap) (_ : Nat → Nat) => ((a6.1) ≤ ms.length) ∧ (lotsR p ms = (a6.2.2.1) ++ lotsGo p ms (a6.2.1) (ms.drop (a6.1))) ∧ (0 ≤ (a6.2.1) ∧ (a6.2.1) ≤ 100000 * ((a6.1) : Int)) ∧ ((a6.2.2.1).length ≤ (a6.1) * 306) ∧ (SliceAt h 99 (a6.2.2.2) 5 ((a6.2.2.1).map Lot.enc))) (fun (a6 : Nat × Int × (List Lot) × PV) => ms.length - (a6.1)) (0, 0, [], .nil) (by exact ⟨rfl, rfl, rfl, trivial⟩) (by exact ⟨by exact Nat.zero_le _, by exact rfl, by (show (0 : Int) ≤ 0 ∧ (0 : Int) ≤ _; omega), by exact Nat.zero_le _, .nil⟩) fun a6 r7 h8 c9 hj10 => ?_
  obtain ⟨k, c, acc, v⟩ := a6
  obtain ⟨hk, hinv, hcb, hlen, hihj10_0⟩ := hj10
  try dsimp only at hk
  try dsimp only at hinv
  try dsimp only at hcb
  try dsimp only at hlen
  try dsimp only at hihj10_0
  show pwp _ _ (loopQ _ _ _) ⟨sets (mix _ _ _) [(5, v), (6, .int c), (7, .int k)], _, _⟩
  refine pwp_seq_seq ?_
  refine pwp_seq_plain rfl fun K11 hK11 => ?_
  refine p_step rfl (e_move (v := .sc _) rfl) trivial ?_
  refine p_step rfl (e_move (v := .lit _ _ _) rfl) trivial ?_
  refine p_step rfl (e_len rfl (by kernel_rfl)) trivial ?_
  refine p_step rfl (e_lt rfl rfl) trivial ?_
  refine p_end (hK11 _ ?_); clear hK11 K11
  refine pwp_seq_cond rfl fun K12 hK12 => ⟨fun hb13 => ?_, fun hb13 => ?_⟩
  ·have hb13R := hb13; try simp only [z1, z2, z3, z4, z5, z6, ne_eq, z7, z8, z9, z10, z11, z12] at hb13
   obtain ⟨x, hx, hd, ht⟩ := get_lt (xs := ms) (i := k) (by omega)
   rw [hd] at hinv
   have hxm := (hok x (List.mem_of_getElem? hx)).2
   refine pwp_skip ?_
   refine seq_norm (hK12 _ ?_); clear hK12 K12
   refine pwp_seq_block fun K14 hK14 => ?_
   refine pwp_seq_seq ?_
   refine pwp_seq_gops rfl fun K15 hK15 => ?_
   refine g_begin ?_
   refine g_step rfl rfl rfl rfl (e_move (v := .lit _ _ _) rfl) trivial ?_
   refine g_step rfl rfl rfl rfl (e_move (v := .sc _) rfl) trivial ?_
   refine g_step rfl rfl rfl rfl (e_ixa rfl rfl (by kernel_rfl) (by kernel_rfl) (by simp only [List.length_map]; omega)) trivial ?_
   refine g_step rfl rfl rfl rfl (e_fa (pl := [(0, 1, false), (1, 1, false), (2, 1, false), (3, 1, false)]) rfl (by kernel_rfl) (by kernel_rfl) (by decide) rfl) trivial ?_
   refine g_step rfl rfl rfl rfl (e_load (v := .sc _) rfl (by kernel_rfl) (by kernel_rfl) (by kernel_rfl) (by simp only [List.length_map]; omega) (by decide) ((cell_map hx _).trans rfl)) trivial ?_
   refine g_step rfl rfl rfl rfl (e_move (v := .sc _) rfl) trivial ?_
   refine g_step rfl rfl rfl rfl (e_sne rfl rfl) trivial ?_
   refine g_step rfl rfl rfl rfl (e_move (v := .sc _) rfl) trivial ?_
   refine g_cases (fun hb16 => ?_) (fun hb16 => ?_)
   ·have hb16R := hb16; try simp only [z1, z2, z3, z4, z5, z6, ne_eq, z7, z8, z9, z10, z11, z12] at hb16
    refine g_skip rfl rfl rfl ?_
    refine g_skip rfl rfl rfl ?_
    refine g_skip rfl rfl rfl ?_
    refine g_skip rfl rfl rfl ?_
    refine g_skip rfl rfl rfl ?_
    refine g_skip rfl rfl rfl ?_
    refine g_step rfl rfl rfl rfl (e_pickT (v := .sc _) rfl rfl) trivial ?_
    refine g_end (ds := [28, 29, 30, 31, 32, 33]) rfl rfl (hK15 _ ?_); clear hK15 K15
    refine pwp_seq_cond (t := true) rfl fun K17 hK17 => ⟨fun _ => ?_, nofun⟩
    refine pwp_exit ?_
    refine exit_seq ?_
    clear hK17 K17
    refine exit_here ?_
    refine seq_norm (hK14 _ ?_); clear hK14 K14
    refine pwp_plain rfl fun K18 hK18 => ?_
    refine p_step rfl (e_move (v := .sc _) rfl) trivial ?_
    refine p_step rfl (e_add rfl rfl (by omega)) trivial ?_
    refine p_step rfl (e_assign (v := .sc _) rfl) trivial ?_
    refine p_end (hK18 _ ?_); clear hK18 K18
    exact loop_again ((k + 1, c, acc, v)) (by show _ < _; simp only; omega) ⟨rfl, rfl, trivial⟩ ⟨rfl, rfl, rfl, trivial⟩ (by exact ⟨by show _ + 1 ≤ _; omega, by first | exact lots_skip hinv (by rintro ⟨q1, q2⟩; first | exact absurd q1 (by assumption) | omega) | exact lots_no hinv (by assumption) (by assumption) hB hW (by omega) | exact lots_yes hinv (by assumption) (by assumption) hB hW (by omega), by (dsimp only; omega), by (dsimp only; try simp only [List.length_append, List.length_cons, List.length_nil]); omega, (SliceAt.to hihj10_0 (by simp [Lot.enc]))⟩)
   ·have hb16R := hb16; try simp only [z1, z2, z3, z4, z5, z6, ne_eq, z7, z8, z9, z10, z11, z12] at hb16
    refine g_step rfl rfl rfl rfl (e_move (v := .lit _ _ _) rfl) trivial ?_
    refine g_step rfl rfl rfl rfl (e_move (v := .sc _) rfl) trivial ?_
    refine g_step rfl rfl rfl rfl (e_ixa rfl rfl (by kernel_rfl) (by kernel_rfl) (by simp only [List.length_map]; omega)) trivial ?_
    refine g_step rfl rfl rfl rfl (e_fa (pl := [(0, 1, false), (1, 1, false), (2, 1, false), (3, 1, false)]) rfl (by kernel_rfl) (by kernel_rfl) (by decide) rfl) trivial ?_
    refine g_step rfl rfl rfl rfl (e_load (v := .sc _) rfl (by kernel_rfl) (by kernel_rfl) (by kernel_rfl) (by simp only [List.length_map]; omega) (by decide) ((cell_map hx _).trans rfl)) trivial ?_
    refine g_step rfl rfl rfl rfl (e_ne rfl rfl) trivial ?_
    refine g_step rfl rfl rfl rfl (e_pickF (v := .sc _) rfl rfl) trivial ?_
    refine g_end (ds := [28, 29, 30, 31, 32, 33]) rfl rfl (hK15 _ ?_); clear hK15 K15
    refine pwp_seq_cond rfl fun K19 hK19 => ⟨fun hb20 => ?_, fun hb20 => ?_⟩
    ·have hb20R := hb20; try simp only [z1, z2, z3, z4, z5, z6, ne_eq, z7, z8, z9, z10, z11, z12] at hb20
     refine pwp_exit ?_
     refine exit_seq ?_
     clear hK19 K19
     refine exit_here ?_
     refine seq_norm (hK14 _ ?_); clear hK14 K14
     refine pwp_plain rfl fun K21 hK21 => ?_
     refine p_step rfl (e_move (v := .sc _) rfl) trivial ?_
     refine p_step rfl (e_add rfl rfl (by omega)) trivial ?_
     refine p_step rfl (e_assign (v := .sc _) rfl) trivial ?_
     refine p_end (hK21 _ ?_); clear hK21 K21
     exact loop_again ((k + 1, c, acc, v)) (by show _ < _; simp only; omega) ⟨rfl, rfl, trivial⟩ ⟨rfl, rfl, rfl, trivial⟩ (by exact ⟨by show _ + 1 ≤ _; omega, by first | exact lots_skip hinv (by rintro ⟨q1, q2⟩; first | exact absurd q1 (by assumption) | omega) | exact lots_no hinv (by assumption) (by assumption) hB hW (by omega) | exact lots_yes hinv (by assumption) (by assumption) hB hW (by omega), by (dsimp only; omega), by (dsimp only; try simp only [List.length_append, List.length_cons, List.length_nil]); omega, (SliceAt.to hihj10_0 (by simp [Lot.enc]))⟩)
    ·have hb20R := hb20; try simp only [z1, z2, z3, z4, z5, z6, ne_eq, z7, z8, z9, z10, z11, z12] at hb20
     refine pwp_skip ?_
     refine seq_norm (hK19 _ ?_); clear hK19 K19
     refine pwp_seq_gops rfl fun K22 hK22 => ?_
     refine g_begin ?_
     refine g_step rfl rfl rfl rfl (e_move (v := .sc _) rfl) trivial ?_
     refine g_step rfl rfl rfl rfl (e_move (v := .sc _) rfl) trivial ?_
     refine g_step rfl rfl rfl rfl (e_move (v := .lit _ _ _) rfl) trivial ?_
     refine g_step rfl rfl rfl rfl (e_move (v := .sc _) rfl) trivial ?_
     refine g_step rfl rfl rfl rfl (e_ixa rfl rfl (by kernel_rfl) (by kernel_rfl) (by simp only [List.length_map]; omega)) trivial ?_
     refine g_step rfl rfl rfl rfl (e_fa (pl := [(0, 1, false), (1, 1, false), (2, 1, false), (3, 1, false)]) rfl (by kernel_rfl) (by kernel_rfl) (by decide) rfl) trivial ?_
     refine g_step rfl rfl rfl rfl (e_load (v := .sc _) rfl (by kernel_rfl) (by kernel_rfl) (by kernel_rfl) (by simp only [List.length_map]; omega) (by decide) ((cell_map hx _).trans rfl)) trivial ?_
     refine g_step rfl rfl rfl rfl (e_add rfl rfl (by omega)) trivial ?_
     refine g_step rfl rfl rfl rfl (e_assign (v := .sc _) rfl) trivial ?_
     refine g_step rfl rfl rfl rfl (e_assign (v := .sc _) rfl) trivial ?_
     refine g_end (ds := []) (by kernel_rfl) rfl (hK22 _ ?_); clear hK22 K22
     refine pwp_seq_plain rfl fun K23 hK23 => ?_
     refine p_step rfl (e_assign (v := .sc _) rfl) trivial ?_
     refine p_end (hK23 _ ?_); clear hK23 K23
     refine pwp_seq_seq ?_
     refine pwp_seq_plain rfl fun K24 hK24 => ?_
     refine p_step rfl (e_assign (v := .sc _) rfl) trivial ?_
     refine p_end (hK24 _ ?_); clear hK24 K24
     refine pwp_seq_block fun K25 hK25 => ?_
     refine pwp_loopR (α := Nat × Int × (List Lot) × PV) [0, 1, 7, 8, 9] (fun (a26 : Nat × Int × (List Lot) × PV) => [(5, (a26.2.2.2)), (10, .int (a26.2.1)), (11, .int (a26.1))]) (fun (a26 : Nat × Int × (List Lot) × PV) (h : Heap) (_ : Nat → Nat) => ((a26.1) ≤ ms.length) ∧ (acc ++ goneR p c (c + x.count) x.day 0 ms = (a26.2.2.1) ++ goneR p c (c + x.count) x.day (a26.2.1) (ms.drop (a26.1))) ∧ (wentR p 0 ms = wentR p (a26.2.1) (ms.drop (a26.1))) ∧ (0 ≤ (a26.2.1) ∧ (a26.2.1) ≤ 100000 * ((a26.1) : Int)) ∧ ((a26.2.2.1).length ≤ acc.length + (a26.1)) ∧ (SliceAt h 99 (a26.2.2.2) 5 ((a26.2.2.1).map Lot.enc))) (fun (a26 : Nat × Int × (List Lot) × PV) => ms.length - (a26.1)) (0, 0, acc, _) (by exact ⟨rfl, rfl, rfl, trivial⟩) (by exact ⟨by exact Nat.zero_le _, by exact rfl, by exact rfl, by (show (0 : Int) ≤ 0 ∧ (0 : Int) ≤ _; omega), by exact Nat.le_refl _, hihj10_0⟩) fun a26 r27 h28 c29 hj30 => ?_
     obtain ⟨j, w, bcc, u⟩ := a26
     obtain ⟨hj, hB, hW, hwb, hbl, hihj30_0⟩ := hj30
     try dsimp only at hj
     try dsimp only at hB
     try dsimp only at hW
     try dsimp only at hwb
     try dsimp only at hbl
     try dsimp only at hihj30_0
     show pwp _ _ (loopQ _ _ _) ⟨sets (mix _ _ _) [(5, u), (10, .int w), (11, .int j)], _, _⟩
     refine pwp_seq_seq ?_
     refine pwp_seq_plain rfl fun K31 hK31 => ?_
     refine p_step rfl (e_move (v := .sc _) rfl) trivial ?_
     refine p_step rfl (e_move (v := .lit _ _ _) rfl) trivial ?_
     refine p_step rfl (e_len rfl (by kernel_rfl)) trivial ?_
     refine p_step rfl (e_lt rfl rfl) trivial ?_
     refine p_end (hK31 _ ?_); clear hK31 K31
     refine pwp_seq_cond rfl fun K32 hK32 => ⟨fun hb33 => ?_, fun hb33 => ?_⟩
     ·have hb33R := hb33; try simp only [z1, z2, z3, z4, z5, z6, ne_eq, z7, z8, z9, z10, z11, z12] at hb33
      obtain ⟨y, hy, hdy, hty⟩ := get_lt (xs := ms) (i := j) (by omega)
      rw [hdy] at hB hW
      have hym := (hok y (List.mem_of_getElem? hy)).2
      refine pwp_skip ?_
      refine seq_norm (hK32 _ ?_); clear hK32 K32
      refine pwp_seq_block fun K34 hK34 => ?_
      refine pwp_seq_seq ?_
      refine pwp_seq_gops rfl fun K35 hK35 => ?_
      refine g_begin ?_
      refine g_step rfl rfl rfl rfl (e_move (v := .lit _ _ _) rfl) trivial ?_
      refine g_step rfl rfl rfl rfl (e_move (v := .sc _) rfl) trivial ?_
      refine g_step rfl rfl rfl rfl (e_ixa rfl rfl (by kernel_rfl) (by kernel_rfl) (by simp only [List.length_map]; omega)) trivial ?_
      refine g_step rfl rfl rfl rfl (e_fa (pl := [(0, 1, false), (1, 1, false), (2, 1, false), (3, 1, false)]) rfl (by kernel_rfl) (by kernel_rfl) (by decide) rfl) trivial ?_
      refine g_step rfl rfl rfl rfl (e_load (v := .sc _) rfl (by kernel_rfl) (by kernel_rfl) (by kernel_rfl) (by simp only [List.length_map]; omega) (by decide) ((cell_map hy _).trans rfl)) trivial ?_
      refine g_step rfl rfl rfl rfl (e_move (v := .sc _) rfl) trivial ?_
      refine g_step rfl rfl rfl rfl (e_sne rfl rfl) trivial ?_
      refine g_step rfl rfl rfl rfl (e_move (v := .sc _) rfl) trivial ?_
      refine g_cases (fun hb36 => ?_) (fun hb36 => ?_)
      ·have hb36R := hb36; try simp only [z1, z2, z3, z4, z5, z6, ne_eq, z7, z8, z9, z10, z11, z12] at hb36
       refine g_skip rfl rfl rfl ?_
       refine g_skip rfl rfl rfl ?_
       refine g_skip rfl rfl rfl ?_
       refine g_skip rfl rfl rfl ?_
       refine g_skip rfl rfl rfl ?_
       refine g_skip rfl rfl rfl ?_
       refine g_step rfl rfl rfl rfl (e_pickT (v := .sc _) rfl rfl) trivial ?_
       refine g_end (ds := [57, 58, 59, 60, 61, 62]) rfl rfl (hK35 _ ?_); clear hK35 K35
       refine pwp_seq_cond (t := true) rfl fun K37 hK37 => ⟨fun _ => ?_, nofun⟩
       refine pwp_exit ?_
       refine exit_seq ?_
       clear hK37 K37
       refine exit_here ?_
       refine seq_norm (hK34 _ ?_); clear hK34 K34
       refine pwp_plain rfl fun K38 hK38 => ?_
       refine p_step rfl (e_move (v := .sc _) rfl) trivial ?_
       refine p_step rfl (e_add rfl rfl (by omega)) trivial ?_
       refine p_step rfl (e_assign (v := .sc _) rfl) trivial ?_
       refine p_end (hK38 _ ?_); clear hK38 K38
       exact loop_again ((j + 1, w, bcc, u)) (by show _ < _; simp only; omega) ⟨rfl, rfl, rfl, rfl, rfl, trivial⟩ ⟨rfl, rfl, rfl, trivial⟩ (by exact ⟨by show _ + 1 ≤ _; omega, by first | exact gone_skip hB (by rintro ⟨q1, q2⟩; first | exact absurd q1 (by assumption) | omega) | exact gone_no hB (by assumption) (by assumption) (by omega) | exact gone_yes hB (by assumption) (by assumption) (by omega), by first | exact went_skip hW (by rintro ⟨q1, q2⟩; first | exact absurd q1 (by assumption) | omega) | exact went_on hW (by assumption) (by assumption), by (dsimp only; omega), by (dsimp only; try simp only [List.length_append, List.length_cons, List.length_nil]); omega, (SliceAt.to hihj30_0 (by simp [Lot.enc]))⟩)
      ·have hb36R := hb36; try simp only [z1, z2, z3, z4, z5, z6, ne_eq, z7, z8, z9, z10, z11, z12] at hb36
       refine g_step rfl rfl rfl rfl (e_move (v := .lit _ _ _) rfl) trivial ?_
       refine g_step rfl rfl rfl rfl (e_move (v := .sc _) rfl) trivial ?_
       refine g_step rfl rfl rfl rfl (e_ixa rfl rfl (by kernel_rfl) (by kernel_rfl) (by simp only [List.length_map]; omega)) trivial ?_
       refine g_step rfl rfl rfl rfl (e_fa (pl := [(0, 1, false), (1, 1, false), (2, 1, false), (3, 1, false)]) rfl (by kernel_rfl) (by kernel_rfl) (by decide) rfl) trivial ?_
       refine g_step rfl rfl rfl rfl (e_load (v := .sc _) rfl (by kernel_rfl) (by kernel_rfl) (by kernel_rfl) (by simp only [List.length_map]; omega) (by decide) ((cell_map hy _).trans rfl)) trivial ?_
       refine g_step rfl rfl rfl rfl (e_eq rfl rfl) trivial ?_
       refine g_step rfl rfl rfl rfl (e_pickF (v := .sc _) rfl rfl) trivial ?_
       refine g_end (ds := [57, 58, 59, 60, 61, 62]) rfl rfl (hK35 _ ?_); clear hK35 K35
       refine pwp_seq_cond rfl fun K39 hK39 => ⟨fun hb40 => ?_, fun hb40 => ?_⟩
       ·have hb40R := hb40; try simp only [z1, z2, z3, z4, z5, z6, ne_eq, z7, z8, z9, z10, z11, z12] at hb40
        refine pwp_exit ?_
        refine exit_seq ?_
        clear hK39 K39
        refine exit_here ?_
        refine seq_norm (hK34 _ ?_); clear hK34 K34
        refine pwp_plain rfl fun K41 hK41 => ?_
        refine p_step rfl (e_move (v := .sc _) rfl) trivial ?_
        refine p_step rfl (e_add rfl rfl (by omega)) trivial ?_
        refine p_step rfl (e_assign (v := .sc _) rfl) trivial ?_
        refine p_end (hK41 _ ?_); clear hK41 K41
        exact loop_again ((j + 1, w, bcc, u)) (by show _ < _; simp only; omega) ⟨rfl, rfl, rfl, rfl, rfl, trivial⟩ ⟨rfl, rfl, rfl, trivial⟩ (by exact ⟨by show _ + 1 ≤ _; omega, by first | exact gone_skip hB (by rintro ⟨q1, q2⟩; first | exact absurd q1 (by assumption) | omega) | exact gone_no hB (by assumption) (by assumption) (by omega) | exact gone_yes hB (by assumption) (by assumption) (by omega), by first | exact went_skip hW (by rintro ⟨q1, q2⟩; first | exact absurd q1 (by assumption) | omega) | exact went_on hW (by assumption) (by assumption), by (dsimp only; omega), by (dsimp only; try simp only [List.length_append, List.length_cons, List.length_nil]); omega, (SliceAt.to hihj30_0 (by simp [Lot.enc]))⟩)
       ·have hb40R := hb40; try simp only [z1, z2, z3, z4, z5, z6, ne_eq, z7, z8, z9, z10, z11, z12] at hb40
        refine pwp_skip ?_
        refine seq_norm (hK39 _ ?_); clear hK39 K39
        refine pwp_seq_plain rfl fun K42 hK42 => ?_
        refine p_step rfl (e_move (v := .sc _) rfl) trivial ?_
        refine p_step rfl (e_move (v := .sc _) rfl) trivial ?_
        refine p_step rfl (e_move (v := .lit _ _ _) rfl) trivial ?_
        refine p_step rfl (e_move (v := .sc _) rfl) trivial ?_
        refine p_step rfl (e_ixa rfl rfl (by kernel_rfl) (by kernel_rfl) (by simp only [List.length_map]; omega)) trivial ?_
        refine p_step rfl (e_fa (pl := [(0, 1, false), (1, 1, false), (2, 1, false), (3, 1, false)]) rfl (by kernel_rfl) (by kernel_rfl) (by decide) rfl) trivial ?_
        refine p_step rfl (e_load (v := .sc _) rfl (by kernel_rfl) (by kernel_rfl) (by kernel_rfl) (by simp only [List.length_map]; omega) (by decide) ((cell_map hy _).trans rfl)) trivial ?_
        refine p_step rfl (e_add rfl rfl (by omega)) trivial ?_
        refine p_step rfl (e_min rfl rfl) trivial ?_
        refine p_step rfl (e_move (v := .sc _) rfl) trivial ?_
        refine p_step rfl (e_move (v := .sc _) rfl) trivial ?_
        refine p_step rfl (e_max rfl rfl) trivial ?_
        refine p_step rfl (e_sub rfl rfl (by omega)) trivial ?_
        refine p_step rfl (e_assign (v := .sc _) rfl) trivial ?_
        refine p_end (hK42 _ ?_); clear hK42 K42
        refine pwp_seq_seq ?_
        refine pwp_seq_plain rfl fun K43 hK43 => ?_
        refine p_step rfl (e_move (v := .sc _) rfl) trivial ?_
        refine p_step rfl (e_gt rfl rfl) trivial ?_
        refine p_end (hK43 _ ?_); clear hK43 K43
        refine pwp_seq_cond rfl fun K44 hK44 => ⟨fun hb45 => ?_, fun hb45 => ?_⟩
        ·have hb45R := hb45; try simp only [z1, z2, z3, z4, z5, z6, ne_eq, z7, z8, z9, z10, z11, z12] at hb45
         refine pwp_gops rfl fun K46 hK46 => ?_
         refine s_begin ?_
         refine s_step [] (by simp) rfl rfl rfl rfl (e_move (v := _) rfl) trivial ?_
         refine s_step [] (by simp) rfl rfl rfl rfl (e_move (v := .sc _) rfl) trivial ?_
         refine s_step [] (by simp) rfl rfl rfl rfl (e_move (v := .sc _) rfl) trivial ?_
         refine s_step [] (by simp) rfl rfl rfl rfl (e_move (v := .lit _ _ _) rfl) trivial ?_
         refine s_step [] (by simp) rfl rfl rfl rfl (e_move (v := .sc _) rfl) trivial ?_
         refine s_step [] (by simp) rfl rfl rfl rfl (e_ixa rfl rfl (by kernel_rfl) (by kernel_rfl) (by simp only [List.length_map]; omega)) trivial ?_
         refine s_step [] (by simp) rfl rfl rfl rfl (e_fa (pl := [(0, 1, false), (1, 1, false), (2, 1, false), (3, 1, false)]) rfl (by kernel_rfl) (by kernel_rfl) (by decide) rfl) trivial ?_
         refine s_step [] (by simp) rfl rfl rfl rfl (e_load (v := .sc _) rfl (by kernel_rfl) (by kernel_rfl) (by kernel_rfl) (by simp only [List.length_map]; omega) (by decide) ((cell_map hx _).trans rfl)) trivial ?_
         refine s_step [] (by simp) rfl rfl rfl rfl (e_move (v := .lit _ _ _) rfl) trivial ?_
         refine s_step [] (by simp) rfl rfl rfl rfl (e_move (v := .sc _) rfl) trivial ?_
         refine s_step [] (by simp) rfl rfl rfl rfl (e_ixa rfl rfl (by kernel_rfl) (by kernel_rfl) (by simp only [List.length_map]; omega)) trivial ?_
         refine s_step [] (by simp) rfl rfl rfl rfl (e_fa (pl := [(0, 1, false), (1, 1, false), (2, 1, false), (3, 1, false)]) rfl (by kernel_rfl) (by kernel_rfl) (by decide) rfl) trivial ?_
         refine s_step [] (by simp) rfl rfl rfl rfl (e_load (v := .sc _) rfl (by kernel_rfl) (by kernel_rfl) (by kernel_rfl) (by simp only [List.length_map]; omega) (by decide) ((cell_map hy _).trans rfl)) trivial ?_
         refine s_step [] (by simp) rfl rfl rfl rfl (e_move (v := .lit _ _ _) rfl) trivial ?_
         refine s_step [] (by simp) rfl rfl rfl rfl (e_move (v := .sc _) rfl) trivial ?_
         refine s_step [] (by simp) rfl rfl rfl rfl (e_ixa rfl rfl (by kernel_rfl) (by kernel_rfl) (by simp only [List.length_map]; omega)) trivial ?_
         refine s_step [] (by simp) rfl rfl rfl rfl (e_fa (pl := [(0, 1, false), (1, 1, false), (2, 1, false), (3, 1, false)]) rfl (by kernel_rfl) (by kernel_rfl) (by decide) rfl) trivial ?_
         refine s_step [] (by simp) rfl rfl rfl rfl (e_load (v := .sc _) rfl (by kernel_rfl) (by kernel_rfl) (by kernel_rfl) (by simp only [List.length_map]; omega) (by decide) ((cell_map hy _).trans rfl)) trivial ?_
         refine s_step [] (by simp) rfl rfl rfl rfl (e_build (zs := [.str ByteArray.empty, .int 0, .int 0, .int 0, .int 0]) (pl := [(0, 1, false), (1, 1, false), (2, 1, false), (3, 1, false), (4, 1, false)]) (by kernel_rfl) (by kernel_rfl) (by kernel_rfl) rfl rfl (by exact ⟨by decide, rfl, Nat.le_of_ble_eq_true rfl, rfl, ⟨by decide, rfl, Nat.le_of_ble_eq_true rfl, rfl, ⟨by decide, rfl, Nat.le_of_ble_eq_true rfl, rfl, ⟨by decide, rfl, Nat.le_of_ble_eq_true rfl, rfl, ⟨by decide, rfl, Nat.le_of_ble_eq_true rfl, rfl, trivial⟩⟩⟩⟩⟩) rfl) trivial ?_
         refine s_new [] (by simp) rfl rfl rfl rfl (e_bslice (rows := [Lot.enc ⟨p, (min (c + x.count) (w + y.count) - max c w), x.day, y.day, y.kind⟩]) (zs := [.str ByteArray.empty, .int 0, .int 0, .int 0, .int 0]) (sz := 5) (by kernel_rfl) (by kernel_rfl) rfl (by kernel_rfl) (by decide) rfl rfl (by exact ⟨by decide, rfl, rfl, trivial⟩) rfl) trivial ?_
         refine s_app [99, 98] [99, 99] (by simp) (by simp) (by simp) rfl rfl rfl (hihj30_0.keep fun _ => (hset_ne (key_ne rfl)).trans (rfl)) (SrcAt.ref (hset_self _ _ _) rfl) rfl (by kernel_rfl) (by simp only [List.length_append, List.length_map, List.length_nil, List.length_cons]; omega) fun v47 h48 c49 hs50 hf51 => ?_
         have ho52 := (hf51 (98, _) (key_ne rfl) (fun _ _ => key_ne rfl)).trans (hset_self _ _ _)
         refine s_step [] (by simp) rfl rfl rfl rfl (e_assign (v := _) rfl) trivial ?_
         refine s_end (ds := []) (by kernel_rfl) (by kernel_rfl) (hK46 _ ?_); clear hK46 K46
         refine seq_norm (hK44 _ ?_); clear hK44 K44
         refine pwp_plain rfl fun K53 hK53 => ?_
         refine p_step rfl (e_move (v := .sc _) rfl) trivial ?_
         refine p_step rfl (e_move (v := .lit _ _ _) rfl) trivial ?_
         refine p_step rfl (e_move (v := .sc _) rfl) trivial ?_
         refine p_step rfl (e_ixa rfl rfl (by kernel_rfl) (by kernel_rfl) (by simp only [List.length_map]; omega)) trivial ?_
         refine p_step rfl (e_fa (pl := [(0, 1, false), (1, 1, false), (2, 1, false), (3, 1, false)]) rfl (by kernel_rfl) (by kernel_rfl) (by decide) rfl) trivial ?_
         refine p_step rfl (e_load (v := .sc _) rfl (by kernel_rfl) (by kernel_rfl) (by kernel_rfl) (by simp only [List.length_map]; omega) (by decide) ((cell_map hy _).trans rfl)) trivial ?_
         refine p_step rfl (e_add rfl rfl (by omega)) trivial ?_
         refine p_step rfl (e_assign (v := .sc _) rfl) trivial ?_
         refine p_end (hK53 _ ?_); clear hK53 K53
         refine block_norm ?_
         refine seq_norm (hK34 _ ?_); clear hK34 K34
         refine pwp_plain rfl fun K54 hK54 => ?_
         refine p_step rfl (e_move (v := .sc _) rfl) trivial ?_
         refine p_step rfl (e_add rfl rfl (by omega)) trivial ?_
         refine p_step rfl (e_assign (v := .sc _) rfl) trivial ?_
         refine p_end (hK54 _ ?_); clear hK54 K54
         exact loop_again ((j + 1, (w + y.count), (bcc ++ [⟨p, (min (c + x.count) (w + y.count) - max c w), x.day, y.day, y.kind⟩]), v47)) (by show _ < _; simp only; omega) ⟨rfl, rfl, rfl, rfl, rfl, trivial⟩ ⟨rfl, rfl, rfl, trivial⟩ (by exact ⟨by show _ + 1 ≤ _; omega, by first | exact gone_skip hB (by rintro ⟨q1, q2⟩; first | exact absurd q1 (by assumption) | omega) | exact gone_no hB (by assumption) (by assumption) (by omega) | exact gone_yes hB (by assumption) (by assumption) (by omega), by first | exact went_skip hW (by rintro ⟨q1, q2⟩; first | exact absurd q1 (by assumption) | omega) | exact went_on hW (by assumption) (by assumption), by (dsimp only; omega), by (dsimp only; try simp only [List.length_append, List.length_cons, List.length_nil]); omega, (SliceAt.to hs50 (by simp [Lot.enc]))⟩)
        ·have hb45R := hb45; try simp only [z1, z2, z3, z4, z5, z6, ne_eq, z7, z8, z9, z10, z11, z12] at hb45
         refine pwp_skip ?_
         refine seq_norm (hK44 _ ?_); clear hK44 K44
         refine pwp_plain rfl fun K55 hK55 => ?_
         refine p_step rfl (e_move (v := .sc _) rfl) trivial ?_
         refine p_step rfl (e_move (v := .lit _ _ _) rfl) trivial ?_
         refine p_step rfl (e_move (v := .sc _) rfl) trivial ?_
         refine p_step rfl (e_ixa rfl rfl (by kernel_rfl) (by kernel_rfl) (by simp only [List.length_map]; omega)) trivial ?_
         refine p_step rfl (e_fa (pl := [(0, 1, false), (1, 1, false), (2, 1, false), (3, 1, false)]) rfl (by kernel_rfl) (by kernel_rfl) (by decide) rfl) trivial ?_
         refine p_step rfl (e_load (v := .sc _) rfl (by kernel_rfl) (by kernel_rfl) (by kernel_rfl) (by simp only [List.length_map]; omega) (by decide) ((cell_map hy _).trans rfl)) trivial ?_
         refine p_step rfl (e_add rfl rfl (by omega)) trivial ?_
         refine p_step rfl (e_assign (v := .sc _) rfl) trivial ?_
         refine p_end (hK55 _ ?_); clear hK55 K55
         refine block_norm ?_
         refine seq_norm (hK34 _ ?_); clear hK34 K34
         refine pwp_plain rfl fun K56 hK56 => ?_
         refine p_step rfl (e_move (v := .sc _) rfl) trivial ?_
         refine p_step rfl (e_add rfl rfl (by omega)) trivial ?_
         refine p_step rfl (e_assign (v := .sc _) rfl) trivial ?_
         refine p_end (hK56 _ ?_); clear hK56 K56
         exact loop_again ((j + 1, (w + y.count), bcc, u)) (by show _ < _; simp only; omega) ⟨rfl, rfl, rfl, rfl, rfl, trivial⟩ ⟨rfl, rfl, rfl, trivial⟩ (by exact ⟨by show _ + 1 ≤ _; omega, by first | exact gone_skip hB (by rintro ⟨q1, q2⟩; first | exact absurd q1 (by assumption) | omega) | exact gone_no hB (by assumption) (by assumption) (by omega) | exact gone_yes hB (by assumption) (by assumption) (by omega), by first | exact went_skip hW (by rintro ⟨q1, q2⟩; first | exact absurd q1 (by assumption) | omega) | exact went_on hW (by assumption) (by assumption), by (dsimp only; omega), by (dsimp only; try simp only [List.length_append, List.length_cons, List.length_nil]); omega, (SliceAt.to hihj30_0 (by simp [Lot.enc]))⟩)
     ·have hb33R := hb33; try simp only [z1, z2, z3, z4, z5, z6, ne_eq, z7, z8, z9, z10, z11, z12] at hb33
      obtain rfl : j = ms.length := by omega
      rw [List.drop_length] at hB hW; simp only [goneR, wentR, List.append_nil] at hB hW
      refine pwp_exit ?_
      refine exit_seq ?_
      clear hK32 K32
      refine exit_loop ?_
      refine exit_here ?_
      refine seq_norm (hK25 _ ?_); clear hK25 K25
      refine pwp_seq_seq ?_
      refine pwp_seq_plain rfl fun K57 hK57 => ?_
      refine p_step rfl (e_move (v := .sc _) rfl) trivial ?_
      refine p_step rfl (e_move (v := .sc _) rfl) trivial ?_
      refine p_step rfl (e_move (v := .sc _) rfl) trivial ?_
      refine p_step rfl (e_max rfl rfl) trivial ?_
      refine p_step rfl (e_sub rfl rfl (by omega)) trivial ?_
      refine p_step rfl (e_assign (v := .sc _) rfl) trivial ?_
      refine p_end (hK57 _ ?_); clear hK57 K57
      refine pwp_seq_seq ?_
      refine pwp_seq_plain rfl fun K58 hK58 => ?_
      refine p_step rfl (e_move (v := .sc _) rfl) trivial ?_
      refine p_step rfl (e_gt rfl rfl) trivial ?_
      refine p_end (hK58 _ ?_); clear hK58 K58
      refine pwp_seq_cond rfl fun K59 hK59 => ⟨fun hb60 => ?_, fun hb60 => ?_⟩
      ·have hb60R := hb60; try simp only [z1, z2, z3, z4, z5, z6, ne_eq, z7, z8, z9, z10, z11, z12] at hb60
       refine pwp_plain rfl fun K61 hK61 => ?_
       refine p_step rfl (e_move (v := _) rfl) trivial ?_
       refine p_step rfl (e_move (v := .sc _) rfl) trivial ?_
       refine p_step rfl (e_move (v := .sc _) rfl) trivial ?_
       refine p_step rfl (e_move (v := .lit _ _ _) rfl) trivial ?_
       refine p_step rfl (e_move (v := .sc _) rfl) trivial ?_
       refine p_step rfl (e_ixa rfl rfl (by kernel_rfl) (by kernel_rfl) (by simp only [List.length_map]; omega)) trivial ?_
       refine p_step rfl (e_fa (pl := [(0, 1, false), (1, 1, false), (2, 1, false), (3, 1, false)]) rfl (by kernel_rfl) (by kernel_rfl) (by decide) rfl) trivial ?_
       refine p_step rfl (e_load (v := .sc _) rfl (by kernel_rfl) (by kernel_rfl) (by kernel_rfl) (by simp only [List.length_map]; omega) (by decide) ((cell_map hx _).trans rfl)) trivial ?_
       refine p_step rfl (e_build (zs := [.str ByteArray.empty, .int 0, .int 0, .int 0, .int 0]) (pl := [(0, 1, false), (1, 1, false), (2, 1, false), (3, 1, false), (4, 1, false)]) (by kernel_rfl) (by kernel_rfl) (by kernel_rfl) rfl rfl (by exact ⟨by decide, rfl, Nat.le_of_ble_eq_true rfl, rfl, ⟨by decide, rfl, Nat.le_of_ble_eq_true rfl, rfl, ⟨by decide, rfl, Nat.le_of_ble_eq_true rfl, rfl, ⟨by decide, rfl, Nat.le_of_ble_eq_true rfl, rfl, ⟨by decide, rfl, Nat.le_of_ble_eq_true rfl, rfl, trivial⟩⟩⟩⟩⟩) rfl) trivial ?_
       refine p_new rfl (e_bslice (rows := [Lot.enc ⟨p, (c + x.count - max c w), x.day, -1, -1⟩]) (zs := [.str ByteArray.empty, .int 0, .int 0, .int 0, .int 0]) (sz := 5) (by kernel_rfl) (by kernel_rfl) rfl (by kernel_rfl) (by decide) rfl rfl (by exact ⟨by decide, rfl, rfl, trivial⟩) rfl) trivial ?_
       refine p_app rfl rfl rfl (hihj30_0.keep fun _ => (hset_ne (key_ne rfl)).trans (rfl)) (src_ref (hset_self _ _ _) rfl) (by kernel_rfl) (by simp only [List.length_append, List.length_map, List.length_nil, List.length_cons]; omega) fun v62 h63 c64 hs65 hf66 => ?_
       have ho67 := (hf66 (123, _) (key_ne rfl) (fun _ _ => key_ne rfl)).trans (hset_self _ _ _)
       refine p_renS 99 rfl hs65 fun v68 h69 c70 hs71 hf72 => ?_
       have ho73 := (hf72 (123, _) (key_ne rfl) (fun _ _ => key_ne rfl)).trans ho67
       refine p_end (hK61 _ ?_); clear hK61 K61
       refine seq_norm (hK59 _ ?_); clear hK59 K59
       refine pwp_plain rfl fun K74 hK74 => ?_
       refine p_step rfl (e_move (v := .sc _) rfl) trivial ?_
       refine p_step rfl (e_assign (v := .sc _) rfl) trivial ?_
       refine p_end (hK74 _ ?_); clear hK74 K74
       refine block_norm ?_
       refine seq_norm (hK14 _ ?_); clear hK14 K14
       refine pwp_plain rfl fun K75 hK75 => ?_
       refine p_step rfl (e_move (v := .sc _) rfl) trivial ?_
       refine p_step rfl (e_add rfl rfl (by omega)) trivial ?_
       refine p_step rfl (e_assign (v := .sc _) rfl) trivial ?_
       refine p_end (hK75 _ ?_); clear hK75 K75
       exact loop_again ((k + 1, (c + x.count), (bcc ++ [⟨p, (c + x.count - max c w), x.day, -1, -1⟩]), v68)) (by show _ < _; simp only; omega) ⟨rfl, rfl, trivial⟩ ⟨rfl, rfl, rfl, trivial⟩ (by exact ⟨by show _ + 1 ≤ _; omega, by first | exact lots_skip hinv (by rintro ⟨q1, q2⟩; first | exact absurd q1 (by assumption) | omega) | exact lots_no hinv (by assumption) (by assumption) hB hW (by omega) | exact lots_yes hinv (by assumption) (by assumption) hB hW (by omega), by (dsimp only; omega), by (dsimp only; try simp only [List.length_append, List.length_cons, List.length_nil]); omega, (SliceAt.to hs71 (by simp [Lot.enc]))⟩)
      ·have hb60R := hb60; try simp only [z1, z2, z3, z4, z5, z6, ne_eq, z7, z8, z9, z10, z11, z12] at hb60
       refine pwp_skip ?_
       refine seq_norm (hK59 _ ?_); clear hK59 K59
       refine pwp_plain rfl fun K76 hK76 => ?_
       refine p_step rfl (e_move (v := .sc _) rfl) trivial ?_
       refine p_step rfl (e_assign (v := .sc _) rfl) trivial ?_
       refine p_end (hK76 _ ?_); clear hK76 K76
       refine block_norm ?_
       refine seq_norm (hK14 _ ?_); clear hK14 K14
       refine pwp_plain rfl fun K77 hK77 => ?_
       refine p_step rfl (e_move (v := .sc _) rfl) trivial ?_
       refine p_step rfl (e_add rfl rfl (by omega)) trivial ?_
       refine p_step rfl (e_assign (v := .sc _) rfl) trivial ?_
       refine p_end (hK77 _ ?_); clear hK77 K77
       exact loop_again ((k + 1, (c + x.count), bcc, u)) (by show _ < _; simp only; omega) ⟨rfl, rfl, trivial⟩ ⟨rfl, rfl, rfl, trivial⟩ (by exact ⟨by show _ + 1 ≤ _; omega, by first | exact lots_skip hinv (by rintro ⟨q1, q2⟩; first | exact absurd q1 (by assumption) | omega) | exact lots_no hinv (by assumption) (by assumption) hB hW (by omega) | exact lots_yes hinv (by assumption) (by assumption) hB hW (by omega), by (dsimp only; omega), by (dsimp only; try simp only [List.length_append, List.length_cons, List.length_nil]); omega, (SliceAt.to hihj30_0 (by simp [Lot.enc]))⟩)
  ·have hb13R := hb13; try simp only [z1, z2, z3, z4, z5, z6, ne_eq, z7, z8, z9, z10, z11, z12] at hb13
   obtain rfl : k = ms.length := by omega
   rw [List.drop_length] at hinv; simp only [lotsGo, List.append_nil] at hinv
   refine pwp_exit ?_
   refine exit_seq ?_
   clear hK12 K12
   refine exit_loop ?_
   refine exit_here ?_
   refine seq_norm (hK5 _ ?_); clear hK5 K5
   refine pwp_seq_plain rfl fun K78 hK78 => ?_
   refine p_step rfl (e_move (v := _) rfl) trivial ?_
   refine p_step rfl (e_assign (v := _) rfl) trivial ?_
   refine p_end (hK78 _ ?_); clear hK78 K78
   refine pwp_ret ?_
   refine end1 (v := _) rfl ?_
   rw [hinv]
   exact out_slice (by assumption) rfl (fun _ => rfl) lot_clean

theorem fr40 : (inFrame Try.f40.ntmps (Try.f40.body.getD .skip) && Try.f40.results.toList.all (resScope Try.f40.ntmps)) = true := by kernel_rfl
theorem LotsR (ts : List Term) (ms : List Move) (hlt : ts.length ≤ 65) (hl : ms.length ≤ 305) (hok : ∀ m ∈ ms, okM m) : PCalls Try.prog 40 [.lit true 4 (ts.map Term.enc), .lit true 4 (ms.map Move.enc)] (.lit false 5 ((lotsT ts ms).map Lot.enc)) := by
  refine PCalls.of_code Try.func40 rfl rfl (by kernel_rfl) mixed fr40 (by show _ ≤ 23; simp) (.lit _ _ _ fun row hr => pure_map Lot.pure row hr) ?_
  refine pwp_seq_plain rfl fun K1 hK1 => ?_
  refine p_step rfl (e_assign (v := .nil) rfl) trivial ?_
  refine p_end (hK1 _ ?_); clear hK1 K1
  refine pwp_seq_plain rfl fun K2 hK2 => ?_
  refine p_step rfl (e_assign (v := .nil) rfl) trivial ?_
  refine p_end (hK2 _ ?_); clear hK2 K2
  refine pwp_seq_seq ?_
  refine pwp_seq_plain rfl fun K3 hK3 => ?_
  refine p_step rfl (e_assign (v := .sc _) rfl) trivial ?_
  refine p_end (hK3 _ ?_); clear hK3 K3
  refine pwp_seq_block fun K4 hK4 => ?_
  refine pwp_loopR (α := Nat × (List Lot) × PV) [0, 1] (fun (a5 : Nat × (List Lot) × PV) => [(5, (a5.2.2)), (6, .int (a5.1))]) (fun (a5 : Nat × (List Lot) × PV) (h : Heap) (_ : Nat → Nat) => ((a5.1) ≤ ts.length) ∧ ((a5.2.1) = lotsT (ts.take (a5.1)) ms) ∧ (SliceAt h 21 (a5.2.2) 5 ((a5.2.1).map Lot.enc))) (fun (a5 : Nat × (List Lot) × PV) => ts.length - (a5.1)) (0, [], .nil) (by exact ⟨rfl, rfl, trivial⟩) (by exact ⟨by exact Nat.zero_le _, by exact rfl, .nil⟩) fun a5 r6 h7 c8 hj9 => ?_
  obtain ⟨k, acc, v⟩ := a5
  obtain ⟨hk, hinv, hihj9_0⟩ := hj9
  try dsimp only at hk
  try dsimp only at hinv
  try dsimp only at hihj9_0
  show pwp _ _ (loopQ _ _ _) ⟨sets (mix _ _ _) [(5, v), (6, .int k)], _, _⟩
  refine pwp_seq_seq ?_
  refine pwp_seq_plain rfl fun K10 hK10 => ?_
  refine p_step rfl (e_move (v := .sc _) rfl) trivial ?_
  refine p_step rfl (e_move (v := .lit _ _ _) rfl) trivial ?_
  refine p_step rfl (e_len rfl (by kernel_rfl)) trivial ?_
  refine p_step rfl (e_lt rfl rfl) trivial ?_
  refine p_end (hK10 _ ?_); clear hK10 K10
  refine pwp_seq_cond rfl fun K11 hK11 => ⟨fun hb12 => ?_, fun hb12 => ?_⟩
  ·have hb12R := hb12; try simp only [z1, z2, z3, z4, z5, z6, ne_eq, z7, z8, z9, z10, z11, z12] at hb12
   obtain ⟨x, hx, hd, ht⟩ := get_lt (xs := ts) (i := k) (by omega)
   have hal : acc.length ≤ 65 * 93330 := by rw [hinv]; exact Nat.le_trans (lotsT_len _ _ hl) (Nat.mul_le_mul_right _ (by rw [List.length_take]; omega))
   have hrl := lotsR_len x.part ms hl
   refine pwp_skip ?_
   refine seq_norm (hK11 _ ?_); clear hK11 K11
   refine pwp_seq_block fun K13 hK13 => ?_
   refine pwp_plain rfl fun K14 hK14 => ?_
   refine p_step rfl (e_move (v := _) rfl) trivial ?_
   refine p_step rfl (e_move (v := .lit _ _ _) rfl) trivial ?_
   refine p_step rfl (e_move (v := .lit _ _ _) rfl) trivial ?_
   refine p_step rfl (e_move (v := .sc _) rfl) trivial ?_
   refine p_step rfl (e_ixa rfl rfl (by kernel_rfl) (by kernel_rfl) (by simp only [List.length_map]; omega)) trivial ?_
   refine p_step rfl (e_fa (pl := [(0, 1, false), (1, 1, false), (2, 1, false), (3, 1, false)]) rfl (by kernel_rfl) (by kernel_rfl) (by decide) rfl) trivial ?_
   refine p_step rfl (e_load (v := .sc _) rfl (by kernel_rfl) (by kernel_rfl) (by kernel_rfl) (by simp only [List.length_map]; omega) (by decide) ((cell_map hx _).trans rfl)) trivial ?_
   refine p_call rfl (.cons inn_lit (.cons inn_sc .nil)) (lotsOf _ _ hl hok) ?_
   refine p_app rfl rfl rfl hihj9_0 src_lit (by kernel_rfl) (by simp only [List.length_append, List.length_map, List.length_nil, List.length_cons]; omega) fun v15 h16 c17 hs18 hf19 => ?_
   refine p_step rfl (e_assign (v := _) rfl) trivial ?_
   refine p_end (hK14 _ ?_); clear hK14 K14
   refine block_norm ?_
   refine seq_norm (hK13 _ ?_); clear hK13 K13
   refine pwp_plain rfl fun K20 hK20 => ?_
   refine p_step rfl (e_move (v := .sc _) rfl) trivial ?_
   refine p_step rfl (e_add rfl rfl (by omega)) trivial ?_
   refine p_step rfl (e_assign (v := .sc _) rfl) trivial ?_
   refine p_end (hK20 _ ?_); clear hK20 K20
   exact loop_again ((k + 1, (acc ++ lotsR x.part (ms)), v15)) (by show _ < _; simp only; omega) ⟨rfl, rfl, trivial⟩ ⟨rfl, rfl, trivial⟩ (by exact ⟨by show _ + 1 ≤ _; omega, by (rw [hinv]; unfold lotsT; rw [ht, List.flatMap_append]; simp), (SliceAt.to hs18 (by simp))⟩)
  ·have hb12R := hb12; try simp only [z1, z2, z3, z4, z5, z6, ne_eq, z7, z8, z9, z10, z11, z12] at hb12
   obtain rfl : k = ts.length := by omega
   rw [List.take_length] at hinv
   refine pwp_exit ?_
   refine exit_seq ?_
   clear hK11 K11
   refine exit_loop ?_
   refine exit_here ?_
   refine seq_norm (hK4 _ ?_); clear hK4 K4
   refine pwp_seq_plain rfl fun K21 hK21 => ?_
   refine p_step rfl (e_move (v := _) rfl) trivial ?_
   refine p_step rfl (e_assign (v := _) rfl) trivial ?_
   refine p_end (hK21 _ ?_); clear hK21 K21
   refine pwp_ret ?_
   refine end1 (v := _) rfl ?_
   rw [← hinv]
   exact out_slice (by assumption) rfl (fun _ => rfl) lot_clean

end Go.Proofs.Ytdbpfhbppcpbbaa
