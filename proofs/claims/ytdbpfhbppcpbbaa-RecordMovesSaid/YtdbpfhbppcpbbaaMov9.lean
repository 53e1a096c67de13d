/- Lots: the program. No conditions. -/
import Derived.Test.YtdbpfhbppcpbbaaMov8
import Derived.Test.YtdbpfhbppcpbbaaMov4
set_option linter.unusedSimpArgs false
set_option linter.unusedVariables false
set_option maxRecDepth 100000
namespace Go.Proofs.Ytdbpfhbppcpbbaa
open Go Go.Pv
section
variable {P : Program} {ρ : Operand → PV} {h : Heap} {key : Key} {t : TypeId}
theorem e_mkN {l c : Operand} {L : Int} {n : Nat} (hx : ρ l = .int L) (hy : ρ c = .int L) (hn : L = (n : Int)) (hz : zeroCellsOf P (elemTy P t) = some [.nil]) (ho : sliceOk P t = true) (hs : tySize P (elemTy P t) = 1) (hb : P.bytesOf (elemTy P t) < 2 ^ 15) (hl : n < 2 ^ 32) :
    eff P ρ h key (.makeSlice t l c) = ⟨True, .ref key 1 0 n, [(key, some (.rows 1 (List.replicate n [.nil])))], [], true⟩ := by
  subst hn
  simp only [eff, hx, hy, makeSliceEff, hz, ho, hs, hb]
  simp [PV.cell]; omega
end
/-- What has been gathered: a slice made at one of two places. -/
def SL (h : Heap) (v : PV) (acc : List Lot) : Prop := ∃ d1, (d1 = 70 ∨ d1 = 92) ∧ SliceAt h d1 v 5 (acc.map Lot.enc)
/-- The deliveries are as they were. -/
def KP (h h1 : Heap) : Prop := ∀ k : Key, (k.1 = 16 ∨ k.1 = 41 ∨ k.1 = 42 ∨ k.1 = 43) → h k = h1 k
theorem DvAt.kp {h h1 : Heap} {d : Dv} (hd : DvAt h1 d) (hk : KP h h1) : DvAt h d := hd.keep fun k hk2 => hk k (by
  rcases List.mem_cons.1 hk2 with e | e
  · rw [e]; simp
  · have := (hd.key42 k e).1; omega)
theorem sl_app {h h4 h1 : Heap} {v : PV} {acc : List Lot} {d1 d c : Nat} {n : Nat} (hd1 : d1 = 70 ∨ d1 = 92) (hd : d = 70 ∨ d = 92) (hK : KP h h1) (hf : ∀ k' : Key, k' ≠ (d, c) → (∀ g, v = .ref (d1, g) 5 0 n → k' ≠ (d1, g)) → h4 k' = h k') : KP h4 h1 := fun k hk => (hf k (fun e => by rw [e] at hk; simp only at hk; omega) (fun g _ e => by rw [e] at hk; simp only at hk; omega)).trans (hK k hk)
theorem outj_yes {acc bcc : List Lot} {p : ByteArray} {l : List Dv} {j : Nat} {x : Dv} (h : bcc = acc ++ ((l.take j).map (·.a)).flatMap (outD p)) (hx : l.take (j + 1) = l.take j ++ [x]) (hp : 0 < x.a.left) : (bcc ++ x.a.gone) ++ [⟨p, x.a.left, x.a.day, -1, -1⟩] = acc ++ ((l.take (j + 1)).map (·.a)).flatMap (outD p) := by
  rw [h, hx]; simp [outD, hp]
theorem outj_no {acc bcc : List Lot} {p : ByteArray} {l : List Dv} {j : Nat} {x : Dv} (h : bcc = acc ++ ((l.take j).map (·.a)).flatMap (outD p)) (hx : l.take (j + 1) = l.take j ++ [x]) (hp : ¬ 0 < x.a.left) : bcc ++ x.a.gone = acc ++ ((l.take (j + 1)).map (·.a)).flatMap (outD p) := by
  rw [h, hx]; simp [outD, hp]
theorem outi_next {ts : List Term} {cs : List (List Da)} {acc bcc : List Lot} {i : Nat} {t : Term} {ds : List Da} (h : acc = outL (ts.take i) (cs.take i)) (hl : cs.length = ts.length) (ht : ts[i]? = some t) (hd : cs[i]? = some ds) (hb : bcc = acc ++ ds.flatMap (outD t.part)) : bcc = outL (ts.take (i + 1)) (cs.take (i + 1)) := by
  have h1 : i < ts.length := (List.getElem?_eq_some_iff.1 ht).1
  rw [hb, h, List.take_add_one, List.take_add_one, ht, hd]
  unfold outL
  rw [List.zip_append (by simp; omega), List.flatMap_append]
  simp
theorem sl_key {h : Heap} {d sz : Nat} {v : PV} {rows : List (List PV)} (hs : SliceAt h d v sz rows) : ∀ k ∈ Go.Pv.keyOf v, k.1 = d := fun k hk => by
  rcases hs with ⟨_, h2⟩ | ⟨g, h2, h3⟩
  · rw [h2] at hk; simp [Go.Pv.keyOf] at hk
  · rw [h2] at hk; simp [Go.Pv.keyOf] at hk; subst hk; rfl
theorem sl_92 {h : Heap} {g : Nat} {A : List Lot} {b : Lot} (hn : h (92, g) = some (.rows 5 (A.map Lot.enc ++ [b.enc]))) : SL h (.ref (92, g) 5 0 ((A.map Lot.enc).length + 1)) (A ++ [b]) := ⟨92, .inr rfl, .inr ⟨g, by simp, by simpa using hn⟩⟩

theorem fr83 : (inFrame Try.f83.ntmps (Try.f83.body.getD .skip) && Try.f83.results.toList.all (resScope Try.f83.ntmps)) = true := by kernel_rfl
theorem lots (ts : List Term) (ms : List Move) (hlt : ts.length ≤ 65) (hl : ms.length ≤ 305) (hgo : ∀ m ∈ ms, okM m ∧ 0 ≤ termIx ts m.part) : PCalls Try.prog 83 [.lit true 4 (ts.map Term.enc), .lit true 4 (ms.map Move.enc)] (.lit false 5 ((outL ts (cameL ts ms)).map Lot.enc)) := by
  refine PCalls.of_code Try.func83 rfl rfl (by kernel_rfl) mixed fr83 (by show _ ≤ 96; simp) (.lit _ _ _ fun row hr => pure_map Lot.pure row hr) ?_
  refine pwp_seq_plain rfl fun K1 hK1 => ?_
  refine p_step rfl (e_assign (v := .nil) rfl) trivial ?_
  refine p_end (hK1 _ ?_); clear hK1 K1
  refine pwp_seq_plain rfl fun K2 hK2 => ?_
  refine p_step rfl (e_move (v := .lit _ _ _) rfl) trivial ?_
  refine p_step rfl (e_len rfl (by kernel_rfl)) trivial ?_
  refine p_new rfl (e_mkN (n := ts.length) rfl rfl (by simp) (by kernel_rfl) (by kernel_rfl) (by kernel_rfl) (by decide +kernel) (by omega)) trivial ?_
  refine p_step rfl (e_assign (v := .ref _ _ _ _) rfl) trivial ?_
  refine p_end (hK2 _ ?_); clear hK2 K2
  refine pwp_seq_seq ?_
  refine pwp_seq_plain rfl fun K3 hK3 => ?_
  refine p_step rfl (e_move (v := .lit _ _ _) rfl) trivial ?_
  refine p_step rfl (e_len rfl (by kernel_rfl)) trivial ?_
  refine p_step rfl (e_move (v := .sc _) rfl) trivial ?_
  refine p_end (hK3 _ ?_); clear hK3 K3
  refine pwp_seq_block fun K4 hK4 => ?_
  refine pwp_loopR (α := Nat × (List Cm)) [0, 5, 17, 18] (fun (a5 : Nat × (List Cm)) => [(19, .int (a5.1))]) (fun (a5 : Nat × (List Cm)) (h : Heap) (c : Nat → Nat) => ((a5.1) ≤ ms.length) ∧ (LotsI ts (ms.take (a5.1)) (a5.2) h c)) (fun (a5 : Nat × (List Cm)) => ms.length - (a5.1)) (0, List.replicate ts.length ⟨.nil, []⟩) (by exact ⟨rfl, trivial⟩) (by exact ⟨by exact Nat.zero_le _, by exact lots_0 ts (by simp [cset]) (hset_self _ _ _)⟩) fun a5 r6 h7 c8 hj9 => ?_
  obtain ⟨k, cs⟩ := a5
  obtain ⟨hk, hI⟩ := hj9
  try dsimp only at hk
  try dsimp only at hI
  show pwp _ _ (loopQ _ _ _) ⟨sets (mix _ _ _) [(19, .int k)], _, _⟩
  refine pwp_seq_plain rfl fun K10 hK10 => ?_
  refine p_step rfl (e_lt rfl rfl) trivial ?_
  refine p_end (hK10 _ ?_); clear hK10 K10
  refine pwp_seq_cond rfl fun K11 hK11 => ⟨fun hb12 => ?_, fun hb12 => ?_⟩
  ·have hb12R := hb12; try simp only [z1, z2, z3, z4, z5, z6, ne_eq, z7, z8, z9, z10, z11, z12] at hb12
   obtain ⟨x, hx, hd, ht⟩ := get_lt (xs := ms) (i := k) (by omega)
   have hgx := hgo x (List.mem_of_getElem? hx)
   have hil := ix_lt hgx.2
   obtain ⟨y, hy⟩ : ∃ y, cs[(termIx (ts) x.part).toNat]? = some y := ⟨_, List.getElem?_eq_getElem (by rw [hI.len]; omega)⟩
   have hbd := came_bnd (ts := ts) (ms := ms.take k) (fun m hm => (hgo m (List.mem_of_mem_take hm)).1) (y.ds.map (·.a)) (by rw [← hI.abs]; exact List.mem_map.2 ⟨y, List.mem_of_getElem? hy, rfl⟩)
   have hbl := hbd.1
   rw [List.length_take, List.length_map] at hbl
   refine pwp_skip ?_
   refine seq_norm (hK11 _ ?_); clear hK11 K11
   refine pwp_seq_block fun K13 hK13 => ?_
   refine pwp_seq_plain rfl fun K14 hK14 => ?_
   refine p_step rfl (e_ixa rfl rfl (by kernel_rfl) (by kernel_rfl) (by simp only [List.length_map]; omega)) trivial ?_
   refine p_step rfl (e_loadA (n := 4) rfl (by kernel_rfl) (by kernel_rfl) (by kernel_rfl) (by simp only [List.length_map]; omega) (by decide) (by first | exact agg_map hx rfl)) trivial ?_
   refine p_new rfl (e_alloc (cs := [.int 0, .int 0, .str ByteArray.empty, .int 0]) (n := 4) (by kernel_rfl) rfl (by decide)) (ob_alloc (by decide)) ?_
   refine p_store rfl (e_storeA rfl (hset_self _ _ _) rfl rfl rfl (by kernel_rfl) rfl (by kernel_rfl)) trivial ?_
   refine p_end (hK14 _ ?_); clear hK14 K14
   have hym := List.mem_of_getElem? hy
   have hI2 := hI.keep (h' := (hset (hset h7 (7, c8 7) (some (.rows 4 [[.int 0, .int 0, .str ByteArray.empty, .int 0]]))) (7, c8 7) (some (.rows 4 [Move.enc x])))) (c' := (cset c8 7)) (fun k q => (hset_ne fun e => q (by rw [e])).trans (hset_ne fun e => q (by rw [e]))) (cset_le c8 7)
   refine pwp_seq_plain rfl fun K15 hK15 => ?_
   refine p_step rfl (e_move (v := .lit _ _ _) rfl) trivial ?_
   refine p_step rfl (e_faP (pl := [(0, 1, false), (1, 1, false), (2, 1, false), (3, 1, false)]) rfl (by kernel_rfl) (by kernel_rfl) (by decide) rfl) trivial ?_
   refine p_step rfl (e_loadH (v := .sc _) rfl (hset_self _ _ _) (by kernel_rfl) (by kernel_rfl) (by kernel_rfl) (by exact Nat.zero_lt_one) (by decide) rfl) trivial ?_
   refine p_call rfl (.cons inn_lit (.cons inn_sc .nil)) (termOf _ _ hlt) ?_
   refine p_step rfl (e_assign (v := .sc _) rfl) trivial ?_
   refine p_end (hK15 _ ?_); clear hK15 K15
   refine pwp_seq_plain rfl fun K16 hK16 => ?_
   refine p_step rfl (e_faP (pl := [(0, 1, false), (1, 1, false), (2, 1, false), (3, 1, false)]) rfl (by kernel_rfl) (by kernel_rfl) (by decide) rfl) trivial ?_
   refine p_step rfl (e_loadH (v := .sc _) rfl (hset_self _ _ _) (by kernel_rfl) (by kernel_rfl) (by kernel_rfl) (by exact Nat.zero_lt_one) (by decide) rfl) trivial ?_
   refine p_step rfl (e_eq rfl rfl) trivial ?_
   refine p_end (hK16 _ ?_); clear hK16 K16
   refine pwp_cond rfl (fun hb17 => ?_) (fun hb17 => ?_)
   ·have hb17R := hb17; try simp only [z1, z2, z3, z4, z5, z6, ne_eq, z7, z8, z9, z10, z11, z12] at hb17
    have hk43 := came_key (hI2.came y hym)
    refine pwp_gops rfl fun K18 hK18 => ?_
    refine v_begin (fun k => k.1) ?_
    refine v_step [] (by simp) rfl rfl rfl rfl (e_move (v := .ref _ _ _ _) rfl) trivial ?_
    refine v_step [] (by simp) rfl rfl rfl rfl (e_move (v := .sc _) rfl) trivial ?_
    refine v_step [] (by simp) rfl rfl rfl rfl (e_move (v := .ref _ _ _ _) rfl) trivial ?_
    refine v_step [] (by simp) rfl rfl rfl rfl (e_move (v := .sc _) rfl) trivial ?_
    refine v_step [] (by simp) rfl rfl rfl rfl (e_ixaR0 rfl rfl (by kernel_rfl) (by kernel_rfl) (by omega)) trivial ?_
    refine v_step [16] (by intro k hk; simp only [List.mem_singleton] at hk; subst hk; simp) rfl rfl rfl rfl (e_loadH (v := y.v) rfl hI2.outer (by kernel_rfl) (by kernel_rfl) (by kernel_rfl) (by rw [List.length_map]; exact (List.getElem?_eq_some_iff.1 hy).1) (by decide) ((cell_map hy _).trans rfl)) trivial ?_
    refine v_step [] (by simp) rfl rfl rfl rfl (e_faP (pl := [(0, 1, false), (1, 1, false), (2, 1, false), (3, 1, false)]) rfl (by kernel_rfl) (by kernel_rfl) (by decide) rfl) trivial ?_
    refine v_step [7] (by intro k hk; simp only [List.mem_singleton] at hk; subst hk; simp) rfl rfl rfl rfl (e_loadH (v := .sc _) rfl (hset_self _ _ _) (by kernel_rfl) (by kernel_rfl) (by kernel_rfl) (by exact Nat.zero_lt_one) (by decide) rfl) trivial ?_
    refine v_step [] (by simp) rfl rfl rfl rfl (e_faP (pl := [(0, 1, false), (1, 1, false), (2, 1, false), (3, 1, false)]) rfl (by kernel_rfl) (by kernel_rfl) (by decide) rfl) trivial ?_
    refine v_step [7] (by intro k hk; simp only [List.mem_singleton] at hk; subst hk; simp) rfl rfl rfl rfl (e_loadH (v := .sc _) rfl (hset_self _ _ _) (by kernel_rfl) (by kernel_rfl) (by kernel_rfl) (by exact Nat.zero_lt_one) (by decide) rfl) trivial ?_
    refine v_step [] (by simp) rfl rfl rfl rfl (e_build (zs := [.int 0, .int 0, .nil]) (pl := [(0, 1, false), (1, 1, false), (2, 1, false)]) (by kernel_rfl) (by kernel_rfl) (by kernel_rfl) rfl rfl (by exact ⟨by decide, rfl, Nat.le_of_ble_eq_true rfl, rfl, ⟨by decide, rfl, Nat.le_of_ble_eq_true rfl, rfl, trivial⟩⟩) rfl) trivial ?_
    refine v_new [] [41] (by simp) (by simp) rfl rfl rfl rfl (e_box (n := 3) rfl rfl) ⟨rfl, by decide⟩ ?_
    refine v_new [] [42] (by simp) (by simp) rfl rfl rfl rfl (e_bslice (rows := [[.ptr (41, c8 41) 3 0 0]]) (zs := [.sc (.pointer none)]) (sz := 1) (by kernel_rfl) (by kernel_rfl) rfl (by kernel_rfl) (by decide) rfl rfl (by exact ⟨by decide, rfl, rfl, trivial⟩) rfl) trivial ?_
    refine v_app [43, 42] [43] rfl rfl (fun k hk => by have := hk43 k hk; simp [this]) (by simp) (by simp) rfl rfl rfl ((hI2.came y hym).keep fun _ => (hset_ne (key_ne rfl)).trans (hset_ne (key_ne rfl))) (hset_self _ _ _) rfl (by decide) rfl (by kernel_rfl) (by simp only [List.length_map, List.length_cons, List.length_nil]; omega) fun h4 hn4 hf4 => ?_
    refine v_step [] (by simp) rfl rfl rfl rfl (e_ixaR0 rfl rfl (by kernel_rfl) (by kernel_rfl) (by omega)) trivial ?_
    have hO4 : h4 (16, 0) = some (.rows 1 (cs.map ccell)) := (hf4 _ (key_ne rfl) (fun h => by have := hk43 _ h; simp at this)).trans ((hset_ne (key_ne rfl)).trans ((hset_ne (key_ne rfl)).trans hI2.outer))
    refine v_store [16] [16] (by intro k hk; simp only [List.mem_singleton] at hk; subst hk; simp) (by simp) rfl rfl (e_storeF (xs := cs) (a := y) (a' := ⟨.ref (43, c8 43) 1 0 ((y.ds.map dcell).length + 1), y.ds ++ [⟨c8 41, .nil, ⟨x.day, x.count, []⟩⟩]⟩) rfl hO4 rfl hy rfl (by kernel_rfl) (by kernel_rfl) rfl rfl) trivial ?_
    refine v_end (by kernel_rfl) rfl (hK18 _ ?_); clear hK18 K18
    have hT := hI2.came1 (m := x) (y := ⟨.ref (43, c8 43) 1 0 ((y.ds.map dcell).length + 1), y.ds ++ [⟨c8 41, .nil, ⟨x.day, x.count, []⟩⟩]⟩) (h' := hset h4 (16, 0) (some (.rows 1 ((cs.set (termIx (ts) x.part).toNat ⟨.ref (43, c8 43) 1 0 ((y.ds.map dcell).length + 1), y.ds ++ [⟨c8 41, .nil, ⟨x.day, x.count, []⟩⟩]⟩).map ccell)))) (c' := cset (cset (cset (cset c8 7) 41) 42) 43) hy rfl (by omega) (by first | (rw [List.length_map]; done) | (rw [List.length_map]; rfl)) (hset_self _ _ _) ((hset_ne (key_ne rfl)).trans (by refine Eq.trans hn4 ?_; rfl)) ((hset_ne (key_ne rfl)).trans ((hf4 _ (key_ne rfl) (fun h => by have := hk43 _ h; simp at this)).trans ((hset_ne (key_ne rfl)).trans (hset_self _ _ _)))) (fun k q1 q2 q3 => (hset_ne q1).trans ((hf4 k (fun e => by rw [e] at q3; exact absurd q3 (Nat.lt_irrefl _)) q2).trans ((hset_ne fun e => by rw [e] at q3; exact absurd q3 (Nat.lt_irrefl _)).trans (hset_ne fun e => by rw [e] at q3; exact absurd q3 (Nat.lt_irrefl _))))) (fun t => Nat.le_trans (cset2_le _ 41 42 t) (cset_le _ 43 t)) (by simp [cset]) (by simp [cset])
    refine block_norm ?_
    refine seq_norm (hK13 _ ?_); clear hK13 K13
    refine pwp_plain rfl fun K19 hK19 => ?_
    refine p_step rfl (e_add rfl rfl (by omega)) trivial ?_
    refine p_step rfl (e_move (v := .sc _) rfl) trivial ?_
    refine p_end (hK19 _ ?_); clear hK19 K19
    exact loop_again ((k + 1, (cs.set (termIx (ts) x.part).toNat ⟨.ref (43, c8 43) 1 0 ((y.ds.map dcell).length + 1), y.ds ++ [⟨c8 41, .nil, ⟨x.day, x.count, []⟩⟩]⟩))) (by show _ < _; simp only; omega) ⟨rfl, rfl, rfl, rfl, trivial⟩ ⟨rfl, trivial⟩ (by exact ⟨by show _ + 1 ≤ _; omega, by (dsimp only; rw [ht]; exact hT)⟩)
   ·have hb17R := hb17; try simp only [z1, z2, z3, z4, z5, z6, ne_eq, z7, z8, z9, z10, z11, z12] at hb17
    refine pwp_gops rfl fun K20 hK20 => ?_
    refine v_begin (fun k => k.1) ?_
    refine v_step [] (by simp) rfl rfl rfl rfl (e_move (v := .ref _ _ _ _) rfl) trivial ?_
    refine v_step [] (by simp) rfl rfl rfl rfl (e_move (v := .sc _) rfl) trivial ?_
    refine v_step [] (by simp) rfl rfl rfl rfl (e_ixaR0 rfl rfl (by kernel_rfl) (by kernel_rfl) (by omega)) trivial ?_
    refine v_step [16] (by intro k hk; simp only [List.mem_singleton] at hk; subst hk; simp) rfl rfl rfl rfl (e_loadH (v := y.v) rfl hI2.outer (by kernel_rfl) (by kernel_rfl) (by kernel_rfl) (by rw [List.length_map]; exact (List.getElem?_eq_some_iff.1 hy).1) (by decide) ((cell_map hy _).trans rfl)) trivial ?_
    refine v_step [7] (by intro k hk; simp only [List.mem_singleton] at hk; subst hk; simp) rfl rfl rfl rfl (e_loadHA (n := 4) rfl (hset_self _ _ _) (by kernel_rfl) (by kernel_rfl) (by kernel_rfl) (by exact Nat.zero_lt_one) (by decide) rfl) trivial ?_
    have hbm := hbd.2
    refine v_hcall (by kernel_rfl) rfl rfl rfl rfl (take_calls x y.ds y.v (hset (hset h7 (7, c8 7) (some (.rows 4 [[.int 0, .int 0, .str ByteArray.empty, .int 0]]))) (7, c8 7) (some (.rows 4 [Move.enc x]))) (cset c8 7) (hI2.came y hym) (fun k hk => hI2.kn k (ownC_sub hym (List.mem_append.2 (.inl hk)))) (hI2.at_ y hym) ((List.nodup_append.1 ((List.nodup_append.1 ((List.nodup_append.1 (ownS_split hy ▸ hI2.nd)).2.1)).1)).2.1) (fun k hk => hI2.kn k (ownC_sub hym (List.mem_append.2 (.inr hk)))) hgx.1.2 (fun d hd => (hbm d.a (List.mem_map.2 ⟨d, hd, rfl⟩)).1) (fun d hd => by have := (hbm d.a (List.mem_map.2 ⟨d, hd, rfl⟩)).2; rw [List.length_take] at this; omega) (by have := hbd.1; rw [List.length_take, List.length_map] at this; omega)) fun v4 h4 c5 hR => ?_
    obtain ⟨rfl, es, T⟩ := hR
    refine v_end (by kernel_rfl) rfl (hK20 _ ?_); clear hK20 K20
    have hT := hI2.taken (m := x) hy rfl (by omega) T
    refine block_norm ?_
    refine seq_norm (hK13 _ ?_); clear hK13 K13
    refine pwp_plain rfl fun K21 hK21 => ?_
    refine p_step rfl (e_add rfl rfl (by omega)) trivial ?_
    refine p_step rfl (e_move (v := .sc _) rfl) trivial ?_
    refine p_end (hK21 _ ?_); clear hK21 K21
    exact loop_again ((k + 1, (cs.set (termIx (ts) x.part).toNat ⟨y.v, es⟩))) (by show _ < _; simp only; omega) ⟨rfl, rfl, rfl, rfl, trivial⟩ ⟨rfl, trivial⟩ (by exact ⟨by show _ + 1 ≤ _; omega, by (dsimp only; rw [ht]; exact hT)⟩)
  ·have hb12R := hb12; try simp only [z1, z2, z3, z4, z5, z6, ne_eq, z7, z8, z9, z10, z11, z12] at hb12
   obtain rfl : k = ms.length := by omega
   rw [List.take_length] at hI
   have hlen := hI.len
   have hcl : (cameL ts ms).length = ts.length := by rw [← hI.abs, List.length_map, hlen]
   have hBD := came_bnd (ts := ts) (ms := ms) fun m hm => (hgo m hm).1
   refine pwp_exit ?_
   refine exit_seq ?_
   clear hK11 K11
   refine exit_loop ?_
   refine exit_here ?_
   refine seq_norm (hK4 _ ?_); clear hK4 K4
   refine pwp_seq_plain rfl fun K22 hK22 => ?_
   refine p_step rfl (e_assign (v := .nil) rfl) trivial ?_
   refine p_end (hK22 _ ?_); clear hK22 K22
   refine pwp_seq_seq ?_
   refine pwp_seq_plain rfl fun K23 hK23 => ?_
   refine p_step rfl (e_move (v := .ref _ _ _ _) rfl) trivial ?_
   refine p_step rfl (e_lenR rfl (by kernel_rfl)) trivial ?_
   refine p_step rfl (e_move (v := .sc _) rfl) trivial ?_
   refine p_end (hK23 _ ?_); clear hK23 K23
   refine pwp_seq_block fun K24 hK24 => ?_
   refine pwp_loopR (α := Nat × (List Lot) × PV) [0, 52, 53] (fun (a25 : Nat × (List Lot) × PV) => [(9, (a25.2.2)), (54, .int (a25.1))]) (fun (a25 : Nat × (List Lot) × PV) (h : Heap) (_ : Nat → Nat) => ((a25.1) ≤ ts.length) ∧ ((a25.2.1) = outL (ts.take (a25.1)) ((cameL ts ms).take (a25.1))) ∧ (SL h (a25.2.2) (a25.2.1)) ∧ (KP h h7) ∧ ((a25.2.1).length ≤ (a25.1) * 100000)) (fun (a25 : Nat × (List Lot) × PV) => ts.length - (a25.1)) (0, [], .nil) (by exact ⟨rfl, rfl, trivial⟩) (by exact ⟨by exact Nat.zero_le _, by exact rfl, by exact ⟨70, .inl rfl, .nil⟩, by exact fun _ _ => rfl, by exact Nat.zero_le _⟩) fun a25 r26 h27 c28 hj29 => ?_
   obtain ⟨i, acc, v⟩ := a25
   obtain ⟨hi, hinv, hSL, hK, hal⟩ := hj29
   try dsimp only at hi
   try dsimp only at hinv
   try dsimp only at hSL
   try dsimp only at hK
   try dsimp only at hal
   show pwp _ _ (loopQ _ _ _) ⟨sets (mix _ _ _) [(9, v), (54, .int i)], _, _⟩
   refine pwp_seq_plain rfl fun K30 hK30 => ?_
   refine p_step rfl (e_lt rfl rfl) trivial ?_
   refine p_end (hK30 _ ?_); clear hK30 K30
   refine pwp_seq_cond rfl fun K31 hK31 => ⟨fun hb32 => ?_, fun hb32 => ?_⟩
   ·have hb32R := hb32; try simp only [z1, z2, z3, z4, z5, z6, ne_eq, z7, z8, z9, z10, z11, z12] at hb32
    obtain ⟨t, ht0, hdt, htt⟩ := get_lt (xs := ts) (i := i) (by omega)
    obtain ⟨y, hy⟩ : ∃ y, cs[i]? = some y := ⟨_, List.getElem?_eq_getElem (by omega)⟩
    have hym := List.mem_of_getElem? hy
    have hab : (cameL ts ms)[i]? = some (y.ds.map (·.a)) := by rw [← hI.abs, List.getElem?_map, hy]; rfl
    have hbd := hBD _ (List.mem_of_getElem? hab)
    have hyl := hbd.1
    rw [List.length_map] at hyl
    have hCK : SliceAt h27 43 y.v 1 (y.ds.map dcell) := (hI.came y hym).keep fun g => hK _ (by simp)
    refine pwp_skip ?_
    refine seq_norm (hK31 _ ?_); clear hK31 K31
    refine pwp_seq_block fun K33 hK33 => ?_
    refine pwp_seq_plain rfl fun K34 hK34 => ?_
    refine p_step rfl (e_move (v := .sc _) rfl) trivial ?_
    refine p_step rfl (e_ixaR0 rfl rfl (by kernel_rfl) (by kernel_rfl) (by omega)) trivial ?_
    refine p_step rfl (e_loadH (v := y.v) rfl ((hK _ (by simp)).trans hI.outer) (by kernel_rfl) (by kernel_rfl) (by kernel_rfl) (by rw [List.length_map]; exact (List.getElem?_eq_some_iff.1 hy).1) (by decide) ((cell_map hy _).trans rfl)) trivial ?_
    refine p_step rfl (e_assign (v := .sc _) rfl) trivial ?_
    refine p_step rfl (e_assign (v := _) rfl) trivial ?_
    refine p_end (hK34 _ ?_); clear hK34 K34
    refine pwp_seq_plain rfl fun K35 hK35 => ?_
    refine p_step rfl (e_move (v := _) rfl) trivial ?_
    refine p_step rfl (SliceAt.len hCK rfl (by kernel_rfl)) trivial ?_
    refine p_step rfl (e_move (v := .sc _) rfl) trivial ?_
    refine p_end (hK35 _ ?_); clear hK35 K35
    refine pwp_block ?_
    refine pwp_loopR (α := Nat × (List Lot) × PV) [0, 10, 52, 53, 54, 59, 60] (fun (a36 : Nat × (List Lot) × PV) => [(9, (a36.2.2)), (61, .int (a36.1))]) (fun (a36 : Nat × (List Lot) × PV) (h : Heap) (_ : Nat → Nat) => ((a36.1) ≤ y.ds.length) ∧ ((a36.2.1) = acc ++ ((y.ds.take (a36.1)).map (·.a)).flatMap (outD t.part)) ∧ (SL h (a36.2.2) (a36.2.1)) ∧ (KP h h7) ∧ ((a36.2.1).length ≤ acc.length + (a36.1) * 306)) (fun (a36 : Nat × (List Lot) × PV) => y.ds.length - (a36.1)) (0, acc, _) (by exact ⟨rfl, rfl, trivial⟩) (by exact ⟨by exact Nat.zero_le _, by simp, by exact hSL, by exact hK, by exact Nat.le_add_right _ _⟩) fun a36 r37 h38 c39 hj40 => ?_
    obtain ⟨j, bcc, w⟩ := a36
    obtain ⟨hj, hinv2, hSL, hK2, hbl2⟩ := hj40
    try dsimp only at hj
    try dsimp only at hinv2
    try dsimp only at hSL
    try dsimp only at hK2
    try dsimp only at hbl2
    show pwp _ _ (loopQ _ _ _) ⟨sets (mix _ _ _) [(9, w), (61, .int j)], _, _⟩
    refine pwp_seq_plain rfl fun K41 hK41 => ?_
    refine p_step rfl (e_lt rfl rfl) trivial ?_
    refine p_end (hK41 _ ?_); clear hK41 K41
    refine pwp_seq_cond rfl fun K42 hK42 => ⟨fun hb43 => ?_, fun hb43 => ?_⟩
    ·have hb43R := hb43; try simp only [z1, z2, z3, z4, z5, z6, ne_eq, z7, z8, z9, z10, z11, z12] at hb43
     obtain ⟨x, hx, hdx, htx⟩ := get_lt (xs := y.ds) (i := j) (by omega)
     have hxm := List.mem_of_getElem? hx
     obtain ⟨g4, hyv, hg4⟩ := ((hI.came y hym).keep (fun g => hK2 _ (by simp)) : SliceAt h38 43 y.v 1 (y.ds.map dcell)).isRef (by intro e; rw [List.map_eq_nil_iff] at e; rw [e] at hx; simp at hx)
     have hDx := (hI.at_ y hym x hxm).kp hK2
     have hox := hbd.2 x.a (List.mem_map.2 ⟨x, hxm, rfl⟩)
     have hog := hox.2
     refine pwp_skip ?_
     refine seq_norm (hK42 _ ?_); clear hK42 K42
     refine pwp_seq_block fun K44 hK44 => ?_
     refine pwp_seq_plain rfl fun K45 hK45 => ?_
     refine p_step rfl (e_ixaR0 hyv rfl (by kernel_rfl) (by kernel_rfl) (by rw [List.length_map]; omega)) trivial ?_
     refine p_step rfl (e_loadH (v := .ptr (41, x.k) 3 0 0) rfl hg4 (by kernel_rfl) (by kernel_rfl) (by kernel_rfl) (by rw [List.length_map]; exact (List.getElem?_eq_some_iff.1 hx).1) (by decide) ((cell_map hx _).trans rfl)) trivial ?_
     refine p_step rfl (e_assign (v := .ptr _ _ _ _) rfl) trivial ?_
     refine p_end (hK45 _ ?_); clear hK45 K45
     refine pwp_seq_plain rfl fun K46 hK46 => ?_
     obtain ⟨d1, hd1, hSw⟩ := hSL
     refine p_step rfl (e_move (v := _) rfl) trivial ?_
     refine p_step rfl (e_move (v := .ptr _ _ _ _) rfl) trivial ?_
     refine p_step rfl (e_nilc rfl) trivial ?_
     refine p_step rfl (e_faP (pl := [(0, 1, false), (1, 1, false), (2, 1, false)]) rfl (by kernel_rfl) (by kernel_rfl) (by decide) rfl) trivial ?_
     refine p_step rfl (e_loadH (v := x.v) rfl hDx.1 (by kernel_rfl) (by kernel_rfl) (by kernel_rfl) (by exact Nat.zero_lt_one) (by decide) rfl) trivial ?_
     refine p_app rfl rfl rfl hSw (src_slice hDx.2) (by kernel_rfl) (by simp only [List.length_map]; omega) fun v4 h4 c5 hs4 hf4 => ?_
     refine p_step rfl (e_assign (v := _) rfl) trivial ?_
     refine p_end (hK46 _ ?_); clear hK46 K46
     have hK4 : KP h4 h7 := sl_app (acc := bcc) hd1 (.inl rfl) hK2 hf4
     have hS4 : SliceAt h4 70 v4 5 ((bcc ++ x.a.gone).map Lot.enc) := by rw [List.map_append]; exact hs4
     have hD4 := (hI.at_ y hym x hxm).kp hK4
     refine pwp_seq_plain rfl fun K47 hK47 => ?_
     refine p_step rfl (e_move (v := .ptr _ _ _ _) rfl) trivial ?_
     refine p_step rfl (e_nilc rfl) trivial ?_
     refine p_step rfl (e_faP (pl := [(0, 1, false), (1, 1, false), (2, 1, false)]) rfl (by kernel_rfl) (by kernel_rfl) (by decide) rfl) trivial ?_
     refine p_step rfl (e_loadH (v := .int x.a.left) rfl hD4.1 (by kernel_rfl) (by kernel_rfl) (by kernel_rfl) (by exact Nat.zero_lt_one) (by decide) rfl) trivial ?_
     refine p_step rfl (e_gt rfl rfl) trivial ?_
     refine p_end (hK47 _ ?_); clear hK47 K47
     refine pwp_cond rfl (fun hb48 => ?_) (fun hb48 => ?_)
     ·have hb48R := hb48; try simp only [z1, z2, z3, z4, z5, z6, ne_eq, z7, z8, z9, z10, z11, z12] at hb48
      refine pwp_gops rfl fun K49 hK49 => ?_
      refine v_begin (fun k => k.1) ?_
      refine v_step [] (by simp) rfl rfl rfl rfl (e_move (v := _) rfl) trivial ?_
      refine v_step [] (by simp) rfl rfl rfl rfl (e_move (v := .lit _ _ _) rfl) trivial ?_
      refine v_step [] (by simp) rfl rfl rfl rfl (e_move (v := .sc _) rfl) trivial ?_
      refine v_step [] (by simp) rfl rfl rfl rfl (e_ixa rfl rfl (by kernel_rfl) (by kernel_rfl) (by simp only [List.length_map]; omega)) trivial ?_
      refine v_step [] (by simp) rfl rfl rfl rfl (e_fa (pl := [(0, 1, false), (1, 1, false), (2, 1, false), (3, 1, false)]) rfl (by kernel_rfl) (by kernel_rfl) (by decide) rfl) trivial ?_
      refine v_step [] (by simp) rfl rfl rfl rfl (e_load (v := .sc _) rfl (by kernel_rfl) (by kernel_rfl) (by kernel_rfl) (by simp only [List.length_map]; omega) (by decide) ((cell_map ht0 _).trans rfl)) trivial ?_
      refine v_step [] (by simp) rfl rfl rfl rfl (e_move (v := .ptr _ _ _ _) rfl) trivial ?_
      refine v_step [] (by simp) rfl rfl rfl rfl (e_nilc rfl) trivial ?_
      refine v_step [] (by simp) rfl rfl rfl rfl (e_faP (pl := [(0, 1, false), (1, 1, false), (2, 1, false)]) rfl (by kernel_rfl) (by kernel_rfl) (by decide) rfl) trivial ?_
      refine v_step [41] (by intro k hk; simp only [List.mem_singleton] at hk; subst hk; simp) rfl rfl rfl rfl (e_loadH (v := .int x.a.left) rfl hD4.1 (by kernel_rfl) (by kernel_rfl) (by kernel_rfl) (by exact Nat.zero_lt_one) (by decide) rfl) trivial ?_
      refine v_step [] (by simp) rfl rfl rfl rfl (e_move (v := .ptr _ _ _ _) rfl) trivial ?_
      refine v_step [] (by simp) rfl rfl rfl rfl (e_nilc rfl) trivial ?_
      refine v_step [] (by simp) rfl rfl rfl rfl (e_faP (pl := [(0, 1, false), (1, 1, false), (2, 1, false)]) rfl (by kernel_rfl) (by kernel_rfl) (by decide) rfl) trivial ?_
      refine v_step [41] (by intro k hk; simp only [List.mem_singleton] at hk; subst hk; simp) rfl rfl rfl rfl (e_loadH (v := .int x.a.day) rfl hD4.1 (by kernel_rfl) (by kernel_rfl) (by kernel_rfl) (by exact Nat.zero_lt_one) (by decide) rfl) trivial ?_
      refine v_step [] (by simp) rfl rfl rfl rfl (e_build (zs := [.str ByteArray.empty, .int 0, .int 0, .int 0, .int 0]) (pl := [(0, 1, false), (1, 1, false), (2, 1, false), (3, 1, false), (4, 1, false)]) (by kernel_rfl) (by kernel_rfl) (by kernel_rfl) rfl rfl (by exact ⟨by decide, rfl, Nat.le_of_ble_eq_true rfl, rfl, ⟨by decide, rfl, Nat.le_of_ble_eq_true rfl, rfl, ⟨by decide, rfl, Nat.le_of_ble_eq_true rfl, rfl, ⟨by decide, rfl, Nat.le_of_ble_eq_true rfl, rfl, ⟨by decide, rfl, Nat.le_of_ble_eq_true rfl, rfl, trivial⟩⟩⟩⟩⟩) rfl) trivial ?_
      refine v_new [] [91] (by simp) (by simp) rfl rfl rfl rfl (e_bslice (rows := [Lot.enc ⟨t.part, x.a.left, x.a.day, -1, -1⟩]) (zs := [.str ByteArray.empty, .int 0, .int 0, .int 0, .int 0]) (sz := 5) (by kernel_rfl) (by kernel_rfl) rfl (by kernel_rfl) (by decide) rfl rfl (by exact ⟨by decide, rfl, rfl, trivial⟩) rfl) trivial ?_
      have hk70 := sl_key hS4
      refine v_app [70, 91] [70, 92] rfl rfl (fun k hk => by have := hk70 k hk; simp [this]) (by simp) (by simp) rfl rfl rfl (hS4.keep fun _ => hset_ne (key_ne rfl)) (hset_self _ _ _) rfl (by decide) rfl (by kernel_rfl) (by simp only [List.length_map, List.length_append, List.length_cons, List.length_nil]; omega) fun h8 hn8 hf8 => ?_
      refine v_step [] (by simp) rfl rfl rfl rfl (e_assign (v := _) rfl) trivial ?_
      refine v_end (by kernel_rfl) rfl (hK49 _ ?_); clear hK49 K49
      have hK8 : KP h8 h7 := fun k hk => (hf8 k (fun e => by rw [e] at hk; simp at hk) (fun h => by have := hk70 k h; omega)).trans ((hset_ne fun e => by rw [e] at hk; simp at hk).trans (hK4 k hk))
      have hS8 := (SliceAt.ofRef hn8 rfl)
      refine block_norm ?_
      refine seq_norm (hK44 _ ?_); clear hK44 K44
      refine pwp_plain rfl fun K50 hK50 => ?_
      refine p_step rfl (e_add rfl rfl (by omega)) trivial ?_
      refine p_step rfl (e_move (v := .sc _) rfl) trivial ?_
      refine p_end (hK50 _ ?_); clear hK50 K50
      exact loop_again ((j + 1, ((bcc ++ x.a.gone) ++ [⟨t.part, x.a.left, x.a.day, -1, -1⟩]), _)) (by show _ < _; simp only; omega) ⟨rfl, rfl, rfl, rfl, rfl, rfl, rfl, trivial⟩ ⟨rfl, rfl, trivial⟩ (by exact ⟨by show _ + 1 ≤ _; omega, by first | exact outj_yes hinv2 htx (by omega) | exact outj_no hinv2 htx (by omega), by first | exact sl_92 hn8 | exact ⟨70, .inl rfl, hS4⟩, by first | exact hK8 | exact hK4, by (dsimp only; simp only [List.length_append, List.length_cons, List.length_nil]; omega)⟩)
     ·have hb48R := hb48; try simp only [z1, z2, z3, z4, z5, z6, ne_eq, z7, z8, z9, z10, z11, z12] at hb48
      refine pwp_skip ?_
      refine block_norm ?_
      refine seq_norm (hK44 _ ?_); clear hK44 K44
      refine pwp_plain rfl fun K51 hK51 => ?_
      refine p_step rfl (e_add rfl rfl (by omega)) trivial ?_
      refine p_step rfl (e_move (v := .sc _) rfl) trivial ?_
      refine p_end (hK51 _ ?_); clear hK51 K51
      exact loop_again ((j + 1, (bcc ++ x.a.gone), v4)) (by show _ < _; simp only; omega) ⟨rfl, rfl, rfl, rfl, rfl, rfl, rfl, trivial⟩ ⟨rfl, rfl, trivial⟩ (by exact ⟨by show _ + 1 ≤ _; omega, by first | exact outj_yes hinv2 htx (by omega) | exact outj_no hinv2 htx (by omega), by first | exact sl_92 hn8 | exact ⟨70, .inl rfl, hS4⟩, by first | exact hK8 | exact hK4, by (dsimp only; simp only [List.length_append, List.length_cons, List.length_nil]; omega)⟩)
    ·have hb43R := hb43; try simp only [z1, z2, z3, z4, z5, z6, ne_eq, z7, z8, z9, z10, z11, z12] at hb43
     obtain rfl : j = y.ds.length := by rw [List.length_map] at *; omega
     have hinv3 := hinv2
     rw [List.take_length] at hinv3
     refine pwp_exit ?_
     refine exit_seq ?_
     clear hK42 K42
     refine exit_loop ?_
     refine exit_here ?_
     refine block_norm ?_
     refine seq_norm (hK33 _ ?_); clear hK33 K33
     refine pwp_plain rfl fun K52 hK52 => ?_
     refine p_step rfl (e_add rfl rfl (by omega)) trivial ?_
     refine p_step rfl (e_move (v := .sc _) rfl) trivial ?_
     refine p_end (hK52 _ ?_); clear hK52 K52
     exact loop_again ((i + 1, bcc, w)) (by show _ < _; simp only; omega) ⟨rfl, rfl, rfl, trivial⟩ ⟨rfl, rfl, trivial⟩ (by exact ⟨by show _ + 1 ≤ _; omega, by exact outi_next hinv hcl ht0 hab hinv3, by exact hSL, by exact hK2, by (dsimp only; omega)⟩)
   ·have hb32R := hb32; try simp only [z1, z2, z3, z4, z5, z6, ne_eq, z7, z8, z9, z10, z11, z12] at hb32
    obtain rfl : i = ts.length := by omega
    have hinv2 := hinv
    rw [List.take_length, ← hcl, List.take_length] at hinv2
    refine pwp_exit ?_
    refine exit_seq ?_
    clear hK31 K31
    refine exit_loop ?_
    refine exit_here ?_
    refine seq_norm (hK24 _ ?_); clear hK24 K24
    refine pwp_seq_plain rfl fun K53 hK53 => ?_
    refine p_step rfl (e_move (v := _) rfl) trivial ?_
    refine p_step rfl (e_assign (v := _) rfl) trivial ?_
    refine p_end (hK53 _ ?_); clear hK53 K53
    refine pwp_ret ?_
    refine end1 (v := _) rfl ?_
    obtain ⟨d1, _, hSw⟩ := hSL
    rw [← hinv2]
    exact out_slice hSw rfl (fun _ => rfl) lot_clean

end Go.Proofs.Ytdbpfhbppcpbbaa
