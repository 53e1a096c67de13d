/- Pieces are taken: the program. No conditions. -/
import Derived.Test.YtdbpfhbppcpbbaaMov6
import Derived.Test.YtdbpfhbppcpbbaaPvZ8
set_option linter.unusedSimpArgs false
set_option linter.unusedVariables false
set_option maxRecDepth 100000
namespace Go.Proofs.Ytdbpfhbppcpbbaa
open Go Go.Pv
/-- Places told apart: the box of a delivery, what went of it, all others. -/
def vsD (d : Dv) (k : Key) : Nat := if k = (41, d.k) then 1000041 else if k ∈ Go.Pv.keyOf d.v then 1000042 else k.1
section
variable {d : Dv} {k : Key} {c : Nat → Nat}
theorem vsD_ne (h1 : k.1 ≠ 41) (h2 : k.1 ≠ 42) (hk : ∀ k ∈ Go.Pv.keyOf d.v, k.1 = 42) : vsD d k = k.1 := by
  unfold vsD
  rw [if_neg (fun e => h1 (by rw [e])), if_neg (fun e => h2 (hk k e))]
theorem vsD_new (h : ∀ k ∈ ownOf d, k.2 < c k.1) (hk : ∀ k ∈ Go.Pv.keyOf d.v, k.1 = 42) : vsD d (41, c 41) = 41 := by
  unfold vsD
  rw [if_neg (fun e => by have := h (41, d.k) (by simp [ownOf]); rw [← e] at this; exact absurd this (Nat.lt_irrefl _)), if_neg (fun e => by have := hk _ e; simp at this)]
theorem vsD_new2 (h : ∀ k ∈ ownOf d, k.2 < c k.1) (hk : ∀ k ∈ Go.Pv.keyOf d.v, k.1 = 42) : vsD d (42, c 42) = 42 := by
  unfold vsD
  rw [if_neg (key_ne rfl), if_neg (fun e => by have := h (42, c 42) (by simp [ownOf, e]); exact absurd this (Nat.lt_irrefl _))]
theorem vsD_go (hk : ∀ k ∈ Go.Pv.keyOf d.v, k.1 = 42) {a b : Nat} : ∀ k ∈ Go.Pv.keyOf d.v, vsD d k ∈ [1000042, a] ∧ vsD d k ∈ [1000042, b] := fun k h => by
  have h1 : k ≠ (41, d.k) := fun e => by have := hk k h; rw [e] at this; simp at this
  unfold vsD
  rw [if_neg h1, if_pos h]; simp
theorem cset_le (c : Nat → Nat) (s : Nat) : ∀ t, c t ≤ cset c s t := fun t => by unfold cset; split <;> omega
theorem cset2_le (c : Nat → Nat) (a b : Nat) : ∀ t, c t ≤ cset (cset c a) b t := fun t => Nat.le_trans (cset_le c a t) (cset_le _ b t)
theorem own_not43 {h : Heap} {ds : List Dv} {g : Nat} (ha : ∀ d ∈ ds, DvAt h d) : (43, g) ∉ ownD ds := fun hm => by
  obtain ⟨d, hd, hk⟩ := List.mem_flatMap.1 hm
  rcases List.mem_cons.1 hk with e | e
  · exact key_ne rfl e
  · have := ((ha d hd).key42 _ e).1; simp at this
end

theorem frH108 : (inFrame Try.f108.ntmps (Try.f108.body.getD .skip) && Try.f108.results.toList.all (resScope Try.f108.ntmps)) = true := by kernel_rfl
theorem takeRef (m : Move) (ds : List Dv) (g : Nat) (h0 : Heap) (c0 : Nat → Nat) (hg : h0 (43, g) = some (.rows 1 (ds.map dcell))) (hgk : g < c0 43) (ha : ∀ d ∈ ds, DvAt h0 d) (hn : (ownD ds).Nodup) (hk : ∀ k ∈ ownD ds, k.2 < c0 k.1) (hb : 0 ≤ m.count ∧ m.count ≤ 100000) (hlf : ∀ d ∈ ds, 0 ≤ d.a.left ∧ d.a.left ≤ 100000) (hgl : ∀ d ∈ ds, d.a.gone.length ≤ 1000000) (hdl : ds.length ≤ 1000000) : HCallsR Try.prog 108 [.ref (43, g) 1 0 ds.length, .agg (Move.enc m)] h0 c0 (fun v h c => v = .tup [] ∧ ∃ es, TakeR m ds h0 c0 es h c) := by
  refine HCallsR.of_code Try.func108 rfl rfl (by kernel_rfl) mixed frH108 (by show _ ≤ 57; simp) ?_
  refine pwp_seq_plain rfl fun K1 hK1 => ?_
  refine p_new rfl (e_box (n := 4) rfl rfl) ⟨rfl, by decide⟩ ?_
  refine p_end (hK1 _ ?_); clear hK1 K1
  refine pwp_seq_plain rfl fun K2 hK2 => ?_
  refine p_step rfl (e_faP (pl := [(0, 1, false), (1, 1, false), (2, 1, false), (3, 1, false)]) rfl (by kernel_rfl) (by kernel_rfl) (by decide) rfl) trivial ?_
  refine p_step rfl (e_loadH (v := .sc _) rfl (hset_self _ _ _) (by kernel_rfl) (by kernel_rfl) (by kernel_rfl) (by exact Nat.zero_lt_one) (by decide) rfl) trivial ?_
  refine p_step rfl (e_assign (v := .sc _) rfl) trivial ?_
  refine p_end (hK2 _ ?_); clear hK2 K2
  refine pwp_seq_plain rfl fun K3 hK3 => ?_
  refine p_step rfl (e_move (v := .ref _ _ _ _) rfl) trivial ?_
  refine p_step rfl (e_lenR rfl (by kernel_rfl)) trivial ?_
  refine p_step rfl (e_move (v := .sc _) rfl) trivial ?_
  refine p_end (hK3 _ ?_); clear hK3 K3
  refine pwp_block ?_
  refine pwp_loopR (α := Nat × Int × (List Dv)) [3, 10, 11] (fun (a4 : Nat × Int × (List Dv)) => [(4, .int (a4.2.1)), (12, .int (a4.1))]) (fun (a4 : Nat × Int × (List Dv)) (h : Heap) (c : Nat → Nat) => ((a4.1) ≤ ds.length) ∧ (TakeI m ds h0 c0 (a4.1) (a4.2.1) (a4.2.2) h c) ∧ (h (3, c0 3) = some (.rows 4 [Move.enc m]))) (fun (a4 : Nat × Int × (List Dv)) => ds.length - (a4.1)) (0, m.count, ds) (by exact ⟨rfl, rfl, trivial⟩) (by exact ⟨by exact Nat.zero_le _, by exact take_0 ha hn hk (fun k hk2 => hset_ne fun e => by rw [e] at hk2; exact absurd hk2 (Nat.lt_irrefl _)) (cset_le c0 3) hb, (hset_self _ _ _)⟩) fun a4 r5 h6 c7 hj8 => ?_
  obtain ⟨i, n, es⟩ := a4
  obtain ⟨hi, hI, hihj8_0⟩ := hj8
  try dsimp only at hi
  try dsimp only at hI
  try dsimp only at hihj8_0
  show pwp _ _ (loopQ _ _ _) ⟨sets (mix _ _ _) [(4, .int n), (12, .int i)], _, _⟩
  refine pwp_seq_plain rfl fun K9 hK9 => ?_
  refine p_step rfl (e_lt rfl rfl) trivial ?_
  refine p_end (hK9 _ ?_); clear hK9 K9
  refine pwp_seq_cond rfl fun K10 hK10 => ⟨fun hb11 => ?_, fun hb11 => ?_⟩
  ·have hb11R := hb11; try simp only [z1, z2, z3, z4, z5, z6, ne_eq, z7, z8, z9, z10, z11, z12] at hb11
   obtain ⟨x, hx, hdx, htx⟩ := get_lt (xs := ds) (i := i) (by omega)
   have hD := hI.at_i hx
   have hnb := hI.nb
   have hlb := hlf x (List.mem_of_getElem? hx)
   have hg0 : h6 (43, g) = some (.rows 1 (ds.map dcell)) := (hI.fr _ (own_not43 ha) hgk).trans hg
   refine pwp_skip ?_
   refine seq_norm (hK10 _ ?_); clear hK10 K10
   refine pwp_seq_block fun K12 hK12 => ?_
   refine pwp_seq_plain rfl fun K13 hK13 => ?_
   refine p_step rfl (e_ixaR0 rfl rfl (by kernel_rfl) (by kernel_rfl) (by omega)) trivial ?_
   refine p_step rfl (e_loadH (v := .ptr (41, x.k) 3 0 0) rfl hg0 (by kernel_rfl) (by kernel_rfl) (by kernel_rfl) (by simp only [List.length_map]; omega) (by decide) ((cell_map hx _).trans rfl)) trivial ?_
   refine p_step rfl (e_assign (v := .ptr _ _ _ _) rfl) trivial ?_
   refine p_end (hK13 _ ?_); clear hK13 K13
   refine pwp_seq_plain rfl fun K14 hK14 => ?_
   refine p_step rfl (e_move (v := .sc _) rfl) trivial ?_
   refine p_step rfl (e_move (v := .ptr _ _ _ _) rfl) trivial ?_
   refine p_step rfl (e_nilc rfl) trivial ?_
   refine p_step rfl (e_faP (pl := [(0, 1, false), (1, 1, false), (2, 1, false)]) rfl (by kernel_rfl) (by kernel_rfl) (by decide) rfl) trivial ?_
   refine p_step rfl (e_loadH (v := .int x.a.left) rfl hD.1 (by kernel_rfl) (by kernel_rfl) (by kernel_rfl) (by exact Nat.zero_lt_one) (by decide) rfl) trivial ?_
   refine p_step rfl (e_min rfl rfl) trivial ?_
   refine p_step rfl (e_assign (v := .sc _) rfl) trivial ?_
   refine p_end (hK14 _ ?_); clear hK14 K14
   refine pwp_seq_plain rfl fun K15 hK15 => ?_
   refine p_step rfl (e_move (v := .sc _) rfl) trivial ?_
   refine p_step rfl (e_gt rfl rfl) trivial ?_
   refine p_end (hK15 _ ?_); clear hK15 K15
   refine pwp_cond rfl (fun hb16 => ?_) (fun hb16 => ?_)
   ·have hb16R := hb16; try simp only [z1, z2, z3, z4, z5, z6, ne_eq, z7, z8, z9, z10, z11, z12] at hb16
    have hk42 := fun k hk => (hD.key42 k hk).1
    have hkx : ∀ k ∈ ownOf x, k.2 < c7 k.1 := fun k hk => hI.kn k (ownOf_sub (List.mem_of_getElem? (hI.get hx)) hk)
    refine pwp_seq_gops rfl fun K17 hK17 => ?_
    refine v_begin (vsD x) ?_
    refine v_step [] (by simp) rfl rfl rfl rfl (e_move (v := .ptr _ _ _ _) rfl) trivial ?_
    refine v_step [] (by simp) rfl rfl rfl rfl (e_move (v := .ptr _ _ _ _) rfl) trivial ?_
    refine v_step [] (by simp) rfl rfl rfl rfl (e_nilc rfl) trivial ?_
    refine v_step [] (by simp) rfl rfl rfl rfl (e_faP (pl := [(0, 1, false), (1, 1, false), (2, 1, false)]) rfl (by kernel_rfl) (by kernel_rfl) (by decide) rfl) trivial ?_
    refine v_step [1000041] (by intro k hk; simp only [List.mem_singleton] at hk; subst hk; simp [vsD]) rfl rfl rfl rfl (e_loadH (v := x.v) rfl hD.1 (by kernel_rfl) (by kernel_rfl) (by kernel_rfl) (by exact Nat.zero_lt_one) (by decide) rfl) trivial ?_
    refine v_step [] (by simp) rfl rfl rfl rfl (e_faP (pl := [(0, 1, false), (1, 1, false), (2, 1, false), (3, 1, false)]) rfl (by kernel_rfl) (by kernel_rfl) (by decide) rfl) trivial ?_
    refine v_step [3] (by intro k hk; simp only [List.mem_singleton] at hk; subst hk; rw [vsD_ne (by simp) (by simp) hk42]; simp) rfl rfl rfl rfl (e_loadH (v := .sc _) rfl hihj8_0 (by kernel_rfl) (by kernel_rfl) (by kernel_rfl) (by exact Nat.zero_lt_one) (by decide) rfl) trivial ?_
    refine v_step [] (by simp) rfl rfl rfl rfl (e_move (v := .sc _) rfl) trivial ?_
    refine v_step [] (by simp) rfl rfl rfl rfl (e_move (v := .ptr _ _ _ _) rfl) trivial ?_
    refine v_step [] (by simp) rfl rfl rfl rfl (e_nilc rfl) trivial ?_
    refine v_step [] (by simp) rfl rfl rfl rfl (e_faP (pl := [(0, 1, false), (1, 1, false), (2, 1, false)]) rfl (by kernel_rfl) (by kernel_rfl) (by decide) rfl) trivial ?_
    refine v_step [1000041] (by intro k hk; simp only [List.mem_singleton] at hk; subst hk; simp [vsD]) rfl rfl rfl rfl (e_loadH (v := .int x.a.day) rfl hD.1 (by kernel_rfl) (by kernel_rfl) (by kernel_rfl) (by exact Nat.zero_lt_one) (by decide) rfl) trivial ?_
    refine v_step [] (by simp) rfl rfl rfl rfl (e_faP (pl := [(0, 1, false), (1, 1, false), (2, 1, false), (3, 1, false)]) rfl (by kernel_rfl) (by kernel_rfl) (by decide) rfl) trivial ?_
    refine v_step [3] (by intro k hk; simp only [List.mem_singleton] at hk; subst hk; rw [vsD_ne (by simp) (by simp) hk42]; simp) rfl rfl rfl rfl (e_loadH (v := .sc _) rfl hihj8_0 (by kernel_rfl) (by kernel_rfl) (by kernel_rfl) (by exact Nat.zero_lt_one) (by decide) rfl) trivial ?_
    refine v_step [] (by simp) rfl rfl rfl rfl (e_faP (pl := [(0, 1, false), (1, 1, false), (2, 1, false), (3, 1, false)]) rfl (by kernel_rfl) (by kernel_rfl) (by decide) rfl) trivial ?_
    refine v_step [3] (by intro k hk; simp only [List.mem_singleton] at hk; subst hk; rw [vsD_ne (by simp) (by simp) hk42]; simp) rfl rfl rfl rfl (e_loadH (v := .sc _) rfl hihj8_0 (by kernel_rfl) (by kernel_rfl) (by kernel_rfl) (by exact Nat.zero_lt_one) (by decide) rfl) trivial ?_
    refine v_step [] (by simp) rfl rfl rfl rfl (e_build (zs := [.str ByteArray.empty, .int 0, .int 0, .int 0, .int 0]) (pl := [(0, 1, false), (1, 1, false), (2, 1, false), (3, 1, false), (4, 1, false)]) (by kernel_rfl) (by kernel_rfl) (by kernel_rfl) rfl rfl (by exact ⟨by decide, rfl, Nat.le_of_ble_eq_true rfl, rfl, ⟨by decide, rfl, Nat.le_of_ble_eq_true rfl, rfl, ⟨by decide, rfl, Nat.le_of_ble_eq_true rfl, rfl, ⟨by decide, rfl, Nat.le_of_ble_eq_true rfl, rfl, ⟨by decide, rfl, Nat.le_of_ble_eq_true rfl, rfl, trivial⟩⟩⟩⟩⟩) rfl) trivial ?_
    refine v_new (g := c7 41) [] [41] (by simp) (by rw [vsD_new hkx hk42]; simp) rfl rfl rfl rfl (e_bslice (rows := [Lot.enc ⟨m.part, min n x.a.left, x.a.day, m.day, m.kind⟩]) (zs := [.str ByteArray.empty, .int 0, .int 0, .int 0, .int 0]) (sz := 5) (by kernel_rfl) (by kernel_rfl) rfl (by kernel_rfl) (by decide) rfl rfl (by exact ⟨by decide, rfl, rfl, trivial⟩) rfl) trivial ?_
    have hSx : SliceAt (hset h6 (41, c7 41) (some (.rows 5 [Lot.enc ⟨m.part, min n x.a.left, x.a.day, m.day, m.kind⟩]))) 42 x.v 5 (x.a.gone.map Lot.enc) := hD.2.keep fun _ => hset_ne (key_ne rfl)
    refine v_app [1000042, 41] [1000042, 42] rfl rfl (vsD_go hk42) (by rw [vsD_new hkx hk42]; simp) (by show vsD x (42, c7 42) ∈ _; rw [vsD_new2 hkx hk42]; simp) rfl rfl rfl hSx (hset_self _ _ _) rfl (by decide) rfl (by kernel_rfl) (by simp only [List.length_map, List.length_cons, List.length_nil]; have := hgl x (List.mem_of_getElem? hx); omega) fun h4 hn4 hf4 => ?_
    refine v_step [] (by simp) rfl rfl rfl rfl (e_nilc rfl) trivial ?_
    refine v_step [] (by simp) rfl rfl rfl rfl (e_faP (pl := [(0, 1, false), (1, 1, false), (2, 1, false)]) rfl (by kernel_rfl) (by kernel_rfl) (by decide) rfl) trivial ?_
    have hB0 : h4 (41, x.k) = some (.rows 3 [[.int x.a.day, .int x.a.left, x.v]]) := (hf4 _ (key_ne rfl) (fun h => by have := hk42 _ h; simp at this)).trans ((hset_ne (fun e => by have := hkx (41, x.k) (by simp [ownOf]); rw [e] at this; exact absurd this (Nat.lt_irrefl _))).trans hD.1)
    refine v_store [1000041] [1000041] (by intro k hk; simp only [List.mem_singleton] at hk; subst hk; simp [vsD]) (by simp [vsD]) rfl rfl (e_store1 rfl hB0 rfl rfl rfl (by decide) (by kernel_rfl) rfl (by kernel_rfl)) trivial ?_
    refine v_end (by kernel_rfl) rfl (hK17 _ ?_); clear hK17 K17
    have hB1 : hset h4 (41, x.k) (some (.rows 3 [[.int x.a.day, .int x.a.left, .ref (42, c7 42) 5 0 (x.a.gone.length + 1)]])) (41, x.k) = _ := hset_self _ _ _
    show pwp _ _ _ ⟨_, hset h4 (41, x.k) (some (.rows 3 [[.int x.a.day, .int x.a.left, .ref (42, c7 42) 5 0 ((x.a.gone.map Lot.enc).length + 1)]])), _⟩
    rw [List.length_map]
    refine pwp_seq_plain rfl fun K18 hK18 => ?_
    refine p_step rfl (e_move (v := .ptr _ _ _ _) rfl) trivial ?_
    refine p_step rfl (e_nilc rfl) trivial ?_
    refine p_step rfl (e_faP (pl := [(0, 1, false), (1, 1, false), (2, 1, false)]) rfl (by kernel_rfl) (by kernel_rfl) (by decide) rfl) trivial ?_
    refine p_step rfl (e_loadH (v := .int x.a.left) rfl hB1 (by kernel_rfl) (by kernel_rfl) (by kernel_rfl) (by exact Nat.zero_lt_one) (by decide) rfl) trivial ?_
    refine p_step rfl (e_move (v := .sc _) rfl) trivial ?_
    refine p_step rfl (e_sub rfl rfl (by omega)) trivial ?_
    refine p_step rfl (e_nilc rfl) trivial ?_
    refine p_step rfl (e_faP (pl := [(0, 1, false), (1, 1, false), (2, 1, false)]) rfl (by kernel_rfl) (by kernel_rfl) (by decide) rfl) trivial ?_
    refine p_store rfl (e_store1 rfl hB1 rfl rfl rfl (by decide) (by kernel_rfl) rfl (by kernel_rfl)) trivial ?_
    refine p_end (hK18 _ ?_); clear hK18 K18
    have hT := hI.step (h' := hset (hset h4 (41, x.k) (some (.rows 3 [[.int x.a.day, .int x.a.left, .ref (42, c7 42) 5 0 (x.a.gone.length + 1)]]))) (41, x.k) (some (.rows 3 [[.int x.a.day, .int (x.a.left - min n x.a.left), .ref (42, c7 42) 5 0 (x.a.gone.length + 1)]]))) (c' := cset (cset c7 41) 42) hx (by assumption) rfl rfl (hset_self _ _ _) ((hset_ne (key_ne rfl)).trans ((hset_ne (key_ne rfl)).trans (by refine Eq.trans hn4 ?_; simp))) (fun k q1 q2 q3 q4 => (hset_ne q1).trans ((hset_ne q1).trans ((hf4 k (fun e => q3 e) q2).trans (hset_ne fun e => by rw [e] at q4; exact absurd q4 (Nat.lt_irrefl _))))) (cset2_le c7 41 42) (by show c7 42 < cset (cset c7 41) 42 42; simp [cset])
    have hgm : ∀ k : Key, k.1 ≠ 41 → k.1 ≠ 42 → hset (hset h4 (41, x.k) (some (.rows 3 [[.int x.a.day, .int x.a.left, .ref (42, c7 42) 5 0 (x.a.gone.length + 1)]]))) (41, x.k) (some (.rows 3 [[.int x.a.day, .int (x.a.left - min n x.a.left), .ref (42, c7 42) 5 0 (x.a.gone.length + 1)]])) k = h6 k := fun k q1 q2 => (hset_ne (fun e => q1 (by rw [e]))).trans ((hset_ne (fun e => q1 (by rw [e]))).trans ((hf4 k (fun e => q2 (by rw [e])) (fun e => q2 (hk42 _ e))).trans (hset_ne fun e => q1 (by rw [e]))))
    have ho19 := (hgm (3, _) (by simp) (by simp)).trans hihj8_0
    refine pwp_plain rfl fun K20 hK20 => ?_
    refine p_step rfl (e_move (v := .sc _) rfl) trivial ?_
    refine p_step rfl (e_move (v := .sc _) rfl) trivial ?_
    refine p_step rfl (e_sub rfl rfl (by omega)) trivial ?_
    refine p_step rfl (e_assign (v := .sc _) rfl) trivial ?_
    refine p_end (hK20 _ ?_); clear hK20 K20
    refine block_norm ?_
    refine seq_norm (hK12 _ ?_); clear hK12 K12
    refine pwp_plain rfl fun K21 hK21 => ?_
    refine p_step rfl (e_add rfl rfl (by omega)) trivial ?_
    refine p_step rfl (e_move (v := .sc _) rfl) trivial ?_
    refine p_end (hK21 _ ?_); clear hK21 K21
    exact loop_again ((i + 1, (n - (min n x.a.left)), es.set i _)) (by show _ < _; simp only; omega) ⟨rfl, rfl, rfl, trivial⟩ ⟨rfl, rfl, trivial⟩ (by exact ⟨by show _ + 1 ≤ _; omega, by first | exact hT | exact hI.skip hx (by omega), ho19⟩)
   ·have hb16R := hb16; try simp only [z1, z2, z3, z4, z5, z6, ne_eq, z7, z8, z9, z10, z11, z12] at hb16
    refine pwp_skip ?_
    refine block_norm ?_
    refine seq_norm (hK12 _ ?_); clear hK12 K12
    refine pwp_plain rfl fun K22 hK22 => ?_
    refine p_step rfl (e_add rfl rfl (by omega)) trivial ?_
    refine p_step rfl (e_move (v := .sc _) rfl) trivial ?_
    refine p_end (hK22 _ ?_); clear hK22 K22
    exact loop_again ((i + 1, n, es)) (by show _ < _; simp only; omega) ⟨rfl, rfl, rfl, trivial⟩ ⟨rfl, rfl, trivial⟩ (by exact ⟨by show _ + 1 ≤ _; omega, by first | exact hT | exact hI.skip hx (by omega), hihj8_0⟩)
  ·have hb11R := hb11; try simp only [z1, z2, z3, z4, z5, z6, ne_eq, z7, z8, z9, z10, z11, z12] at hb11
   obtain rfl : i = ds.length := by omega
   refine pwp_exit ?_
   refine exit_seq ?_
   clear hK10 K10
   refine exit_loop ?_
   refine exit_here ?_
   refine end0n   ?_
   exact ⟨rfl, _, hI.fin⟩

theorem takeNil (m : Move) (ds : List Dv) (hds : ds = []) (h0 : Heap) (c0 : Nat → Nat) (ha : ∀ d ∈ ds, DvAt h0 d) (hn : (ownD ds).Nodup) (hk : ∀ k ∈ ownD ds, k.2 < c0 k.1) (hb : 0 ≤ m.count ∧ m.count ≤ 100000) : HCallsR Try.prog 108 [.nil, .agg (Move.enc m)] h0 c0 (fun v h c => v = .tup [] ∧ ∃ es, TakeR m ds h0 c0 es h c) := by
  refine HCallsR.of_code Try.func108 rfl rfl (by kernel_rfl) mixed frH108 (by show _ ≤ 57; simp) ?_
  refine pwp_seq_plain rfl fun K1 hK1 => ?_
  refine p_new rfl (e_box (n := 4) rfl rfl) ⟨rfl, by decide⟩ ?_
  refine p_end (hK1 _ ?_); clear hK1 K1
  refine pwp_seq_plain rfl fun K2 hK2 => ?_
  refine p_step rfl (e_faP (pl := [(0, 1, false), (1, 1, false), (2, 1, false), (3, 1, false)]) rfl (by kernel_rfl) (by kernel_rfl) (by decide) rfl) trivial ?_
  refine p_step rfl (e_loadH (v := .sc _) rfl (hset_self _ _ _) (by kernel_rfl) (by kernel_rfl) (by kernel_rfl) (by exact Nat.zero_lt_one) (by decide) rfl) trivial ?_
  refine p_step rfl (e_assign (v := .sc _) rfl) trivial ?_
  refine p_end (hK2 _ ?_); clear hK2 K2
  refine pwp_seq_plain rfl fun K3 hK3 => ?_
  refine p_step rfl (e_move (v := .nil) rfl) trivial ?_
  refine p_step rfl (e_lenN rfl (by kernel_rfl)) trivial ?_
  refine p_step rfl (e_move (v := .sc _) rfl) trivial ?_
  refine p_end (hK3 _ ?_); clear hK3 K3
  refine pwp_block ?_
  refine pwp_loopR (α := Nat × Int × (List Dv)) [3, 10, 11] (fun (a4 : Nat × Int × (List Dv)) => [(4, .int (a4.2.1)), (12, .int (a4.1))]) (fun (a4 : Nat × Int × (List Dv)) (h : Heap) (c : Nat → Nat) => ((a4.1) ≤ ds.length) ∧ (TakeI m ds h0 c0 (a4.1) (a4.2.1) (a4.2.2) h c) ∧ (h (3, c0 3) = some (.rows 4 [Move.enc m]))) (fun (a4 : Nat × Int × (List Dv)) => ds.length - (a4.1)) (0, m.count, ds) (by exact ⟨rfl, rfl, trivial⟩) (by exact ⟨by exact Nat.zero_le _, by exact take_0 ha hn hk (fun k hk2 => hset_ne fun e => by rw [e] at hk2; exact absurd hk2 (Nat.lt_irrefl _)) (cset_le c0 3) hb, (hset_self _ _ _)⟩) fun a4 r5 h6 c7 hj8 => ?_
  obtain ⟨i, n, es⟩ := a4
  obtain ⟨hi, hI, hihj8_0⟩ := hj8
  try dsimp only at hi
  try dsimp only at hI
  try dsimp only at hihj8_0
  show pwp _ _ (loopQ _ _ _) ⟨sets (mix _ _ _) [(4, .int n), (12, .int i)], _, _⟩
  refine pwp_seq_plain rfl fun K9 hK9 => ?_
  refine p_step rfl (e_lt rfl rfl) trivial ?_
  refine p_end (hK9 _ ?_); clear hK9 K9
  refine pwp_seq_cond rfl fun K10 hK10 => ⟨fun hb11 => ?_, fun hb11 => ?_⟩
  ·have hb11R := hb11; try simp only [z1, z2, z3, z4, z5, z6, ne_eq, z7, z8, z9, z10, z11, z12] at hb11
   exfalso; omega
  ·have hb11R := hb11; try simp only [z1, z2, z3, z4, z5, z6, ne_eq, z7, z8, z9, z10, z11, z12] at hb11
   obtain rfl : i = ds.length := by rw [hds] at hi ⊢; simp at hi ⊢; omega
   refine pwp_exit ?_
   refine exit_seq ?_
   clear hK10 K10
   refine exit_loop ?_
   refine exit_here ?_
   refine end0n   ?_
   exact ⟨rfl, _, hI.fin⟩

theorem take_calls (m : Move) (ds : List Dv) (v : PV) (h0 : Heap) (c0 : Nat → Nat) (hs : SliceAt h0 43 v 1 (ds.map dcell)) (hgk : ∀ k ∈ Go.Pv.keyOf v, k.2 < c0 k.1) (ha : ∀ d ∈ ds, DvAt h0 d) (hn : (ownD ds).Nodup) (hk : ∀ k ∈ ownD ds, k.2 < c0 k.1) (hb : 0 ≤ m.count ∧ m.count ≤ 100000) (hlf : ∀ d ∈ ds, 0 ≤ d.a.left ∧ d.a.left ≤ 100000) (hgl : ∀ d ∈ ds, d.a.gone.length ≤ 1000000) (hdl : ds.length ≤ 1000000) :
    HCallsR Try.prog 108 [v, .agg (Move.enc m)] h0 c0 (fun v h c => v = .tup [] ∧ ∃ es, TakeR m ds h0 c0 es h c) := by
  rcases hs with ⟨h1, rfl⟩ | ⟨g, rfl, hg⟩
  · exact takeNil m ds (by simpa using h1) h0 c0 ha hn hk hb
  · rw [List.length_map]
    exact takeRef m ds g h0 c0 hg (hgk (43, g) (by simp [Go.Pv.keyOf])) ha hn hk hb hlf hgl hdl
end Go.Proofs.Ytdbpfhbppcpbbaa
