/- Balances. No conditions. -/
import Derived.Test.YtdbpfhbppcpbbaaMovC
set_option linter.unusedSimpArgs false
set_option linter.unusedVariables false
set_option maxRecDepth 100000
namespace Go.Proofs.Ytdbpfhbppcpbbaa
open Go Go.Pv
/-- Four numbers of a part: delivered, returned, lost, on hire. -/
structure B4 where
  a : Int
  b : Int
  c : Int
  d : Int
  deriving Inhabited, DecidableEq
def B4.enc (x : B4) : List PV := [.int x.a, .int x.b, .int x.c, .int x.d]
theorem B4.pure (x : B4) : ∀ p ∈ x.enc, Pure p := fun p hp => by
  simp only [B4.enc, List.mem_cons, List.not_mem_nil, or_false] at hp
  rcases hp with rfl | rfl | rfl | rfl <;> exact .sc _
theorem b4_clean (a : B4) (q : PV) (hq : q ∈ a.enc) : Go.Pv.Clean q ∧ q.cell = true := by
  simp only [B4.enc, List.mem_cons, List.not_mem_nil, or_false] at hq
  rcases hq with rfl | rfl | rfl | rfl <;> exact ⟨.sc _, rfl⟩
def B4.get (x : B4) (j : Nat) : Int := [x.a, x.b, x.c, x.d].getD j 0
def B4.put (x : B4) (j : Nat) (v : Int) : B4 := if j = 0 then { x with a := v } else if j = 1 then { x with b := v } else if j = 2 then { x with c := v } else { x with d := v }
theorem lt4 {j : Nat} (h : j < 4) : j = 0 ∨ j = 1 ∨ j = 2 ∨ j = 3 := by omega
theorem b4_get (x : B4) {j : Nat} (h : j < 4) : x.enc.getD j .dead = .int (x.get j) := by
  rcases lt4 h with rfl | rfl | rfl | rfl <;> rfl
theorem b4_put (x : B4) (v : Int) {j : Nat} (h : j < 4) : setAt x.enc j [.int v] = (x.put j v).enc := by
  rcases lt4 h with rfl | rfl | rfl | rfl <;> rfl
theorem hj4 {j : Nat} (v : Int) (h : j < 4) : (Nat.blt j 4 && ((pcells (.int v)).all PV.cell && Nat.beq (pcells (.int v)).length 1)) = true := by
  rcases lt4 h with rfl | rfl | rfl | rfl <;> rfl
theorem e_mkA {P : Program} {ρ : Operand → PV} {h : Heap} {key : Key} {t : TypeId} {l c : Operand} {L : Int} {n : Nat} (hx : ρ l = .int L) (hy : ρ c = .int L) (hn : L = (n : Int)) (hz : zeroCellsOf P (elemTy P t) = some [.int 0, .int 0, .int 0, .int 0]) (ho : sliceOk P t = true) (hs : tySize P (elemTy P t) = 4) (hb : P.bytesOf (elemTy P t) < 2 ^ 15) (hl : n < 2 ^ 32) :
    eff P ρ h key (.makeSlice t l c) = ⟨True, .ref key 4 0 n, [(key, some (.rows 4 ((List.replicate n (⟨0, 0, 0, 0⟩ : B4)).map B4.enc)))], [], true⟩ := by
  subst hn
  have h1 : (List.replicate n (⟨0, 0, 0, 0⟩ : B4)).map B4.enc = List.replicate n [PV.int 0, .int 0, .int 0, .int 0] := by simp [B4.enc]
  simp only [eff, hx, hy, makeSliceEff, hz, ho, hs, hb, h1]
  simp [PV.cell]; omega
def bal4 (p : ByteArray) (pre : List Move) : B4 := ⟨(cntL p pre).getD 0 0, (cntL p pre).getD 1 0, (cntL p pre).getD 2 0, stkL pre p⟩
def balT (ts : List Term) (pre : List Move) : List B4 := ts.map fun t => bal4 t.part pre
structure BalI (ts : List Term) (bs : List B4) (pre : List Move) : Prop where
  len : bs.length = ts.length
  at_ : ∀ (j : Nat) (t : Term), ts[j]? = some t → bs[j]? = some (bal4 t.part pre)
theorem bal_0 (ts : List Term) : BalI ts (List.replicate ts.length ⟨0, 0, 0, 0⟩) [] := by
  refine ⟨by simp, fun j t ht => ?_⟩
  have := (List.getElem?_eq_some_iff.1 ht).1
  rw [List.getElem?_replicate, if_pos this]
  rfl
theorem bal_fin {ts : List Term} {bs : List B4} {pre : List Move} (H : BalI ts bs pre) : bs = balT ts pre := by
  apply List.ext_getElem?
  intro j
  unfold balT
  rw [List.getElem?_map]
  cases hj : ts[j]? with
  | none =>
    have := List.getElem?_eq_none_iff.1 hj
    rw [List.getElem?_eq_none (by rw [H.len]; exact this)]; rfl
  | some t => rw [H.at_ j t hj]; rfl
theorem bal_snoc {pre : List Move} {m : Move} (hm : okM m) : bal4 m.part (pre ++ [m]) = ((bal4 m.part pre).put m.kind.toNat ((bal4 m.part pre).get m.kind.toNat + m.count)).put 3 (if m.kind = 0 then ((bal4 m.part pre).put m.kind.toNat ((bal4 m.part pre).get m.kind.toNat + m.count)).get 3 + m.count else ((bal4 m.part pre).put m.kind.toNat ((bal4 m.part pre).get m.kind.toNat + m.count)).get 3 - m.count) := by
  have hs := stk_snoc (pre := pre) hm m.part
  rw [if_pos rfl] at hs
  have h3 := cntL_len m.part pre
  have hc : cntL m.part (pre ++ [m]) = cntStep m.part (cntL m.part pre) m := by unfold cntL; rw [List.foldl_append]; rfl
  unfold bal4
  rw [hs, hc]
  generalize stkL pre m.part = s
  generalize cntL m.part pre = L at h3
  match L, h3 with
  | [a, b, c], _ =>
    unfold cntStep
    rw [if_pos rfl]
    have hk : m.kind = 0 ∨ m.kind = 1 ∨ m.kind = 2 := by have := hm.1; omega
    rcases hk with hk | hk | hk <;> rw [hk] <;> rfl
theorem bal_other {pre : List Move} {m : Move} (hm : okM m) {p : ByteArray} (hp : ¬ m.part = p) : bal4 p (pre ++ [m]) = bal4 p pre := by
  have hs := stk_snoc (pre := pre) hm p
  rw [if_neg hp] at hs
  have hc : cntL p (pre ++ [m]) = cntStep p (cntL p pre) m := by unfold cntL; rw [List.foldl_append]; rfl
  unfold bal4
  rw [hs, hc]
  unfold cntStep
  rw [if_neg hp]
theorem bal_get {ts : List Term} {bs : List B4} {pre : List Move} {p : ByteArray} (H : BalI ts bs pre) (h : 0 ≤ termIx ts p) : bs[(termIx ts p).toNat]? = some (bal4 p pre) := by
  obtain ⟨s, h1, h2⟩ := ix_part h
  rw [H.at_ _ s h1, h2]
theorem bal_step {ts : List Term} {bs : List B4} {pre : List Move} {m : Move} {b b1 : B4} {v : Int} (ht : termsE ts = 0) (H : BalI ts bs pre) (hm : okM m) (h : 0 ≤ termIx ts m.part) (hb : b = bal4 m.part pre) (hb1 : b1 = b.put m.kind.toNat (b.get m.kind.toNat + m.count)) (hv : v = if m.kind = 0 then b1.get 3 + m.count else b1.get 3 - m.count) :
    BalI ts ((bs.set (termIx ts m.part).toNat b1).set (termIx ts m.part).toNat (b1.put 3 v)) (pre ++ [m]) := by
  have hlt := (List.getElem?_eq_some_iff.1 (bal_get H h)).1
  obtain ⟨s, h1, h2⟩ := ix_part h
  refine ⟨by rw [List.length_set, List.length_set]; exact H.len, fun j t htj => ?_⟩
  have hj := terms_ix ht htj
  by_cases hp : m.part = t.part
  · have e : (termIx ts m.part).toNat = j := by rw [hp, hj]; omega
    rw [e] at hlt ⊢
    rw [List.getElem?_set_self (by rw [List.length_set]; exact hlt), ← hp, bal_snoc hm, hv, hb1, hb]
  · have e : ¬ (termIx ts m.part).toNat = j := fun hc => by
      have h5 : ts[j]? = some s := by rw [← hc]; exact h1
      rw [htj] at h5; cases h5
      exact hp h2.symm
    rw [List.getElem?_set_ne e, List.getElem?_set_ne e, H.at_ j t htj, bal_other hm hp]
theorem bal_bnd {p : ByteArray} {pre : List Move} (hok : ∀ m ∈ pre, okM m) (hl : pre.length ≤ 305) {j : Nat} (hj : j < 4) : -61000000 ≤ (bal4 p pre).get j ∧ (bal4 p pre).get j ≤ 61000000 := by
  have h0 := cnt_bnd (p := p) hok hl 0
  have h1 := cnt_bnd (p := p) hok hl 1
  have h2 := cnt_bnd (p := p) hok hl 2
  rcases lt4 hj with rfl | rfl | rfl | rfl
  · show -61000000 ≤ (cntL p pre).getD 0 0 ∧ (cntL p pre).getD 0 0 ≤ 61000000; omega
  · show -61000000 ≤ (cntL p pre).getD 1 0 ∧ (cntL p pre).getD 1 0 ≤ 61000000; omega
  · show -61000000 ≤ (cntL p pre).getD 2 0 ∧ (cntL p pre).getD 2 0 ≤ 61000000; omega
  · show -61000000 ≤ stkL pre p ∧ stkL pre p ≤ 61000000; unfold stkL; omega
theorem put_3 {b : B4} {j : Nat} {v : Int} (h : j < 3) : (b.put j v).get 3 = b.get 3 := by
  have : j = 0 ∨ j = 1 ∨ j = 2 := by omega
  rcases this with rfl | rfl | rfl <;> rfl
def balP (ts : List Term) (ms : List Move) (day : Int) : List B4 := if tdE ts ms day = 0 then balT ts (upM day ms) else []
theorem balP_0 {ts : List Term} {ms : List Move} {day : Int} (h : tdE ts ms day = 0) : balP ts ms day = balT ts (upM day ms) := by rw [balP, if_pos h]
theorem balP_1 {ts : List Term} {ms : List Move} {day : Int} (h : ¬ tdE ts ms day = 0) : balP ts ms day = [] := by rw [balP, if_neg h]
theorem balP_len {ts : List Term} {ms : List Move} {day : Int} : (balP ts ms day).length ≤ ts.length := by
  unfold balP
  split
  · unfold balT; rw [List.length_map]; exact Nat.le_refl _
  · simp
theorem map_next {α β : Type} {f : α → β} {l : List α} {acc : List β} {k : Nat} {x : α} (h : acc = (l.take k).map f) (hx : l.take (k + 1) = l.take k ++ [x]) : acc ++ [f x] = (l.take (k + 1)).map f := by rw [h, hx, List.map_append]; rfl
theorem eqOk_Charge (a b : Charge) : eqOk Try.prog 6 88 (.agg a.enc) (.agg b.enc) = true := by kernel_rfl
theorem eqV_Charge (a b : Charge) : eqV Try.prog 6 88 (.agg a.enc) (.agg b.enc) = decide (a = b) := by
  have h : eqV Try.prog 6 88 (.agg a.enc) (.agg b.enc) = (decide (a.part = b.part) && ((a.count == b.count) && ((a.weeks == b.weeks) && ((a.amount == b.amount) && true)))) := by kernel_rfl
  rw [h]
  cases a; cases b
  simp only [Charge.mk.injEq]
  rw [Bool.eq_iff_iff]
  simp
theorem eqOk_B4 (a b : B4) : eqOk Try.prog 6 105 (.agg a.enc) (.agg b.enc) = true := by kernel_rfl
theorem eqV_B4 (a b : B4) : eqV Try.prog 6 105 (.agg a.enc) (.agg b.enc) = decide (a = b) := by
  have h : eqV Try.prog 6 105 (.agg a.enc) (.agg b.enc) = ((a.a == b.a) && ((a.b == b.b) && ((a.c == b.c) && ((a.d == b.d) && true)))) := by kernel_rfl
  rw [h]
  cases a; cases b
  simp only [B4.mk.injEq]
  rw [Bool.eq_iff_iff]
  simp

theorem fr63 : (inFrame Try.f63.ntmps (Try.f63.body.getD .skip) && Try.f63.results.toList.all (resScope Try.f63.ntmps)) = true := by kernel_rfl
theorem Balance (ts : List Term) (ms : List Move) (day : Int) (hlt : ts.length ≤ 65) (hl : ms.length ≤ 305) : PCalls Try.prog 63 [.lit true 4 (ts.map Term.enc), .lit true 4 (ms.map Move.enc), .int day] (.tup [.lit false 4 ((balP ts ms day).map B4.enc), .int (tdE ts ms day)]) := by
  refine PCalls.of_code Try.func63 rfl rfl (by kernel_rfl) mixed fr63 (by show _ ≤ 71; simp) (pure_2 (.lit _ _ _ fun row hr => pure_map B4.pure row hr) (.sc _)) ?_
  refine pwp_seq_plain rfl fun K1 hK1 => ?_
  refine p_step rfl (e_assign (v := .nil) rfl) trivial ?_
  refine p_step rfl (e_assign (v := .sc _) rfl) trivial ?_
  refine p_end (hK1 _ ?_); clear hK1 K1
  refine pwp_seq_seq ?_
  refine pwp_seq_plain rfl fun K2 hK2 => ?_
  refine p_step rfl (e_move (v := .lit _ _ _) rfl) trivial ?_
  refine p_step rfl (e_move (v := .lit _ _ _) rfl) trivial ?_
  refine p_step rfl (e_move (v := .sc _) rfl) trivial ?_
  refine p_call rfl (.cons inn_lit (.cons inn_lit (.cons inn_sc .nil))) (checkDay _ _ _ (by omega) (by omega)) ?_
  refine p_step rfl (e_assign (v := .sc _) rfl) trivial ?_
  refine p_end (hK2 _ ?_); clear hK2 K2
  refine pwp_seq_seq ?_
  refine pwp_seq_plain rfl fun K3 hK3 => ?_
  refine p_step rfl (e_move (v := .sc _) rfl) trivial ?_
  refine p_step rfl (e_ne rfl rfl) trivial ?_
  refine p_end (hK3 _ ?_); clear hK3 K3
  refine pwp_seq_cond rfl fun K4 hK4 => ⟨fun hb5 => ?_, fun hb5 => ?_⟩
  ·have hb5R := hb5; (try simp only [z1, z2, z3, z4, z5, z6, ne_eq, z7, z8, z9, z10, z11, z12] at hb5); (try (have hz : tdE ts ms day = 0 := hb5)); (try (have htd := td_parts hb5))
   refine pwp_seq_plain rfl fun K6 hK6 => ?_
   refine p_step rfl (e_move (v := .sc _) rfl) trivial ?_
   refine p_step rfl (e_assign (v := .nil) rfl) trivial ?_
   refine p_step rfl (e_assign (v := .sc _) rfl) trivial ?_
   refine p_end (hK6 _ ?_); clear hK6 K6
   refine pwp_ret ?_
   refine ret_seq ?_
   refine end2 (v := .nil) (w := .sc _) rfl rfl ?_
   exact out_2 (by rw [balP_1 (by assumption)]; exact out_nil) (out_i rfl)
  ·have hb5R := hb5; (try simp only [z1, z2, z3, z4, z5, z6, ne_eq, z7, z8, z9, z10, z11, z12] at hb5); (try (have hz : tdE ts ms day = 0 := hb5)); (try (have htd := td_parts hb5))
   refine pwp_skip ?_
   refine seq_norm (hK4 _ ?_); clear hK4 K4
   refine pwp_seq_plain rfl fun K7 hK7 => ?_
   refine p_step rfl (e_move (v := .lit _ _ _) rfl) trivial ?_
   refine p_step rfl (e_len rfl (by kernel_rfl)) trivial ?_
   refine p_new rfl (e_mkA (n := ts.length) rfl rfl (by simp) (by kernel_rfl) (by kernel_rfl) (by kernel_rfl) (by decide +kernel) (by omega)) trivial ?_
   refine p_step rfl (e_assign (v := .ref _ _ _ _) rfl) trivial ?_
   refine p_end (hK7 _ ?_); clear hK7 K7
   refine pwp_seq_seq ?_
   refine pwp_seq_plain rfl fun K8 hK8 => ?_
   refine p_step rfl (e_move (v := .lit _ _ _) rfl) trivial ?_
   refine p_step rfl (e_move (v := .sc _) rfl) trivial ?_
   refine p_hcall rfl (upTo ms day _ _ (by omega)) fun v9 h10 c11 hR12 => ?_
   obtain ⟨rfl, hf13⟩ := hR12
   have ho14 := (hf13 (22, _) (by simp)).trans (hset_self _ _ _)
   refine p_step rfl (e_len rfl (by kernel_rfl)) trivial ?_
   refine p_step rfl (e_move (v := .sc _) rfl) trivial ?_
   refine p_end (hK8 _ ?_); clear hK8 K8
   refine pwp_seq_block fun K15 hK15 => ?_
   refine pwp_loopR (α := Nat × (List B4)) [0, 9, 25, 26] (fun (a16 : Nat × (List B4)) => [(27, .int (a16.1))]) (fun (a16 : Nat × (List B4)) (h : Heap) (_ : Nat → Nat) => ((a16.1) ≤ (upM day ms).length) ∧ (BalI ts (a16.2) ((upM day ms).take (a16.1))) ∧ (h (22, 0) = some (.rows 4 ((a16.2).map B4.enc)))) (fun (a16 : Nat × (List B4)) => (upM day ms).length - (a16.1)) (0, _) (by exact ⟨rfl, trivial⟩) (by exact ⟨by exact Nat.zero_le _, by exact bal_0 ts, ho14⟩) fun a16 r17 h18 c19 hj20 => ?_
   obtain ⟨k, bs⟩ := a16
   obtain ⟨hk, hI, hihj20_0⟩ := hj20
   try dsimp only at hk
   try dsimp only at hI
   try dsimp only at hihj20_0
   show pwp _ _ (loopQ _ _ _) ⟨sets (mix _ _ _) [(27, .int k)], _, _⟩
   refine pwp_seq_plain rfl fun K21 hK21 => ?_
   refine p_step rfl (e_lt rfl rfl) trivial ?_
   refine p_end (hK21 _ ?_); clear hK21 K21
   refine pwp_seq_cond rfl fun K22 hK22 => ⟨fun hb23 => ?_, fun hb23 => ?_⟩
   ·have hb23R := hb23; (try simp only [z1, z2, z3, z4, z5, z6, ne_eq, z7, z8, z9, z10, z11, z12] at hb23); (try (have hz : tdE ts ms day = 0 := hb23)); (try (have htd := td_parts hb23))
    obtain ⟨x, hx, hd, ht⟩ := get_lt (xs := (upM day ms)) (i := k) (by omega)
    have hgx := tm_go htd.1 x (upM_mem (List.mem_of_getElem? hx))
    have hixp := hgx.2
    have hixl := ix_lt hixp
    have hkx := hgx.1.1
    have hcx := hgx.1.2
    have hul := upM_len day ms
    have hb := bal_get hI hixp
    have hbv := fun j (hj : j < 4) => bal_bnd (p := x.part) (fun m hm => (tm_go htd.1 m (upM_mem (List.mem_of_mem_take hm))).1) (show ((upM day ms).take k).length ≤ 305 by rw [List.length_take]; omega) hj
    obtain ⟨b, hbe⟩ : ∃ b, b = bal4 x.part ((upM day ms).take k) := ⟨_, rfl⟩
    rw [← hbe] at hb hbv
    have hbv0 := hbv x.kind.toNat (by omega)
    have hbv3 := hbv 3 (by decide)
    refine pwp_skip ?_
    refine seq_norm (hK22 _ ?_); clear hK22 K22
    refine pwp_seq_block fun K24 hK24 => ?_
    refine pwp_seq_plain rfl fun K25 hK25 => ?_
    refine p_step rfl (e_ixa rfl rfl (by kernel_rfl) (by kernel_rfl) (by simp only [List.length_map]; omega)) trivial ?_
    refine p_step rfl (e_loadA (n := 4) rfl (by kernel_rfl) (by kernel_rfl) (by kernel_rfl) (by simp only [List.length_map]; omega) (by decide) (by first | exact agg_map hx rfl)) trivial ?_
    refine p_new rfl (e_alloc (cs := [.int 0, .int 0, .str ByteArray.empty, .int 0]) (n := 4) (by kernel_rfl) rfl (by decide)) (ob_alloc (by decide)) ?_
    refine p_store rfl (e_storeA rfl (hset_self _ _ _) rfl rfl rfl (by kernel_rfl) rfl (by kernel_rfl)) trivial ?_
    refine p_end (hK25 _ ?_); clear hK25 K25
    refine pwp_seq_plain rfl fun K26 hK26 => ?_
    refine p_step rfl (e_move (v := .ref _ _ _ _) rfl) trivial ?_
    refine p_step rfl (e_move (v := .lit _ _ _) rfl) trivial ?_
    refine p_step rfl (e_faP (pl := [(0, 1, false), (1, 1, false), (2, 1, false), (3, 1, false)]) rfl (by kernel_rfl) (by kernel_rfl) (by decide) rfl) trivial ?_
    refine p_step rfl (e_loadH (v := .sc _) rfl (hset_self _ _ _) (by kernel_rfl) (by kernel_rfl) (by kernel_rfl) (by exact Nat.zero_lt_one) (by decide) rfl) trivial ?_
    refine p_call rfl (.cons inn_lit (.cons inn_sc .nil)) (termOf _ _ hlt) ?_
    refine p_step rfl (e_ixaR0 rfl rfl (by kernel_rfl) (by kernel_rfl) (by omega)) trivial ?_
    refine p_step rfl (e_assign (v := .ptr _ _ _ _) rfl) trivial ?_
    refine p_end (hK26 _ ?_); clear hK26 K26
    refine pwp_seq_gops rfl fun K27 hK27 => ?_
    refine v_begin (fun k => k.1) ?_
    refine v_step [] (by simp) rfl rfl rfl rfl (e_move (v := .ptr _ _ _ _) rfl) trivial ?_
    refine v_step [] (by simp) rfl rfl rfl rfl (e_faP (pl := [(0, 1, false), (1, 1, false), (2, 1, false), (3, 1, false)]) rfl (by kernel_rfl) (by kernel_rfl) (by decide) rfl) trivial ?_
    refine v_step [11] (by intro k hk; simp only [List.mem_singleton] at hk; subst hk; simp) rfl rfl rfl rfl (e_loadH (v := .sc _) rfl (hset_self _ _ _) (by kernel_rfl) (by kernel_rfl) (by kernel_rfl) (by exact Nat.zero_lt_one) (by decide) rfl) trivial ?_
    refine v_step [] (by simp) rfl rfl rfl rfl (e_nilc rfl) trivial ?_
    refine v_step [] (by simp) rfl rfl rfl rfl (e_ixaP (n := 4) (e := 3) rfl rfl (by kernel_rfl) (by kernel_rfl) (by omega)) trivial ?_
    refine v_step [22] (by intro k hk; simp only [List.mem_singleton] at hk; subst hk; simp) rfl rfl rfl rfl (e_loadH (v := .int (b.get x.kind.toNat)) rfl ((hset_ne (key_ne rfl)).trans ((hset_ne (key_ne rfl)).trans hihj20_0)) (by kernel_rfl) (by kernel_rfl) (by kernel_rfl) (by rw [List.length_map]; exact (List.getElem?_eq_some_iff.1 hb).1) (by omega) ((cell_map hb _).trans (by first | exact b4_get b (by omega) | (rw [Nat.zero_add]; exact b4_get b (by omega))))) trivial ?_
    refine v_step [] (by simp) rfl rfl rfl rfl (e_faP (pl := [(0, 1, false), (1, 1, false), (2, 1, false), (3, 1, false)]) rfl (by kernel_rfl) (by kernel_rfl) (by decide) rfl) trivial ?_
    refine v_step [11] (by intro k hk; simp only [List.mem_singleton] at hk; subst hk; simp) rfl rfl rfl rfl (e_loadH (v := .sc _) rfl (hset_self _ _ _) (by kernel_rfl) (by kernel_rfl) (by kernel_rfl) (by exact Nat.zero_lt_one) (by decide) rfl) trivial ?_
    refine v_step [] (by simp) rfl rfl rfl rfl (e_add rfl rfl (by omega)) trivial ?_
    refine v_step [] (by simp) rfl rfl rfl rfl (e_nilc rfl) trivial ?_
    refine v_step [] (by simp) rfl rfl rfl rfl (e_ixaP (n := 4) (e := 3) rfl rfl (by kernel_rfl) (by kernel_rfl) (by omega)) trivial ?_
    obtain ⟨b1, hb1e⟩ : ∃ b1, b1 = b.put x.kind.toNat (b.get x.kind.toNat + x.count) := ⟨_, rfl⟩
    have hb13 : b1.get 3 = b.get 3 := by rw [hb1e]; exact put_3 (by omega)
    refine v_store [22] [22] (by intro k hk; simp only [List.mem_singleton] at hk; subst hk; simp) (by simp) rfl rfl (e_storeF (xs := bs) (a := b) (a' := b1) rfl ((hset_ne (key_ne rfl)).trans ((hset_ne (key_ne rfl)).trans hihj20_0)) rfl hb (by rw [hb1e, Nat.zero_add]; exact b4_put b _ (by omega)) (by kernel_rfl) (by kernel_rfl) (by rw [Nat.zero_add]; exact hj4 _ (by omega)) rfl) trivial ?_
    refine v_end (by kernel_rfl) rfl (hK27 _ ?_); clear hK27 K27
    have hb1 : (bs.set (termIx ts x.part).toNat b1)[(termIx ts x.part).toNat]? = some b1 := List.getElem?_set_self (List.getElem?_eq_some_iff.1 hb).1
    refine pwp_seq_plain rfl fun K28 hK28 => ?_
    refine p_step rfl (e_faP (pl := [(0, 1, false), (1, 1, false), (2, 1, false), (3, 1, false)]) rfl (by kernel_rfl) (by kernel_rfl) (by decide) rfl) trivial ?_
    refine p_step rfl (e_loadH (v := .sc _) rfl ((hset_ne (key_ne rfl)).trans (hset_self _ _ _)) (by kernel_rfl) (by kernel_rfl) (by kernel_rfl) (by exact Nat.zero_lt_one) (by decide) rfl) trivial ?_
    refine p_step rfl (e_eq rfl rfl) trivial ?_
    refine p_end (hK28 _ ?_); clear hK28 K28
    refine pwp_cond rfl (fun hb29 => ?_) (fun hb29 => ?_)
    ·have hb29R := hb29; (try simp only [z1, z2, z3, z4, z5, z6, ne_eq, z7, z8, z9, z10, z11, z12] at hb29); (try (have hz : tdE ts ms day = 0 := hb29)); (try (have htd := td_parts hb29))
     refine pwp_gops rfl fun K30 hK30 => ?_
     refine v_begin (fun k => k.1) ?_
     refine v_step [] (by simp) rfl rfl rfl rfl (e_move (v := .ptr _ _ _ _) rfl) trivial ?_
     refine v_step [] (by simp) rfl rfl rfl rfl (e_nilc rfl) trivial ?_
     refine v_step [] (by simp) rfl rfl rfl rfl (e_ixaP (n := 4) (e := 3) rfl rfl (by kernel_rfl) (by kernel_rfl) (by omega)) trivial ?_
     refine v_step [22] (by intro k hk; simp only [List.mem_singleton] at hk; subst hk; simp) rfl rfl rfl rfl (e_loadH (v := .int (b1.get 3)) rfl (hset_self _ _ _) (by kernel_rfl) (by kernel_rfl) (by kernel_rfl) (by rw [List.length_map]; exact (List.getElem?_eq_some_iff.1 hb1).1) (by decide) ((cell_map hb1 _).trans (by first | exact b4_get b1 (by decide) | (rw [Nat.zero_add]; exact b4_get b1 (by decide))))) trivial ?_
     refine v_step [] (by simp) rfl rfl rfl rfl (e_faP (pl := [(0, 1, false), (1, 1, false), (2, 1, false), (3, 1, false)]) rfl (by kernel_rfl) (by kernel_rfl) (by decide) rfl) trivial ?_
     refine v_step [11] (by intro k hk; simp only [List.mem_singleton] at hk; subst hk; simp) rfl rfl rfl rfl (e_loadH (v := .sc _) rfl ((hset_ne (key_ne rfl)).trans (hset_self _ _ _)) (by kernel_rfl) (by kernel_rfl) (by kernel_rfl) (by exact Nat.zero_lt_one) (by decide) rfl) trivial ?_
     refine v_step [] (by simp) rfl rfl rfl rfl (e_add rfl rfl (by omega)) trivial ?_
     refine v_step [] (by simp) rfl rfl rfl rfl (e_nilc rfl) trivial ?_
     refine v_step [] (by simp) rfl rfl rfl rfl (e_ixaP (n := 4) (e := 3) rfl rfl (by kernel_rfl) (by kernel_rfl) (by omega)) trivial ?_
     refine v_store [22] [22] (by intro k hk; simp only [List.mem_singleton] at hk; subst hk; simp) (by simp) rfl rfl (e_storeF (xs := bs.set (termIx ts x.part).toNat b1) (a := b1) (a' := b1.put 3 (b1.get 3 + x.count)) rfl (hset_self _ _ _) rfl hb1 (by exact b4_put b1 _ (j := 3) (by decide)) (by kernel_rfl) (by kernel_rfl) (by exact hj4 _ (j := 3) (by decide)) rfl) trivial ?_
     refine v_end (by kernel_rfl) rfl (hK30 _ ?_); clear hK30 K30
     refine block_norm ?_
     refine seq_norm (hK24 _ ?_); clear hK24 K24
     refine pwp_plain rfl fun K31 hK31 => ?_
     refine p_step rfl (e_add rfl rfl (by omega)) trivial ?_
     refine p_step rfl (e_move (v := .sc _) rfl) trivial ?_
     refine p_end (hK31 _ ?_); clear hK31 K31
     exact loop_again ((k + 1, ((bs.set (termIx ts x.part).toNat b1).set (termIx ts x.part).toNat (b1.put 3 (b1.get 3 + x.count))))) (by show _ < _; simp only; omega) ⟨rfl, rfl, rfl, rfl, trivial⟩ ⟨rfl, trivial⟩ (by exact ⟨by show _ + 1 ≤ _; omega, by (rw [ht]; first | exact bal_step (tm_parts htd.1).1 hI hgx.1 hixp hbe hb1e (by rw [if_pos (by omega)]) | exact bal_step (tm_parts htd.1).1 hI hgx.1 hixp hbe hb1e (by rw [if_neg (by omega)])), (hset_self _ _ _)⟩)
    ·have hb29R := hb29; (try simp only [z1, z2, z3, z4, z5, z6, ne_eq, z7, z8, z9, z10, z11, z12] at hb29); (try (have hz : tdE ts ms day = 0 := hb29)); (try (have htd := td_parts hb29))
     refine pwp_gops rfl fun K32 hK32 => ?_
     refine v_begin (fun k => k.1) ?_
     refine v_step [] (by simp) rfl rfl rfl rfl (e_move (v := .ptr _ _ _ _) rfl) trivial ?_
     refine v_step [] (by simp) rfl rfl rfl rfl (e_nilc rfl) trivial ?_
     refine v_step [] (by simp) rfl rfl rfl rfl (e_ixaP (n := 4) (e := 3) rfl rfl (by kernel_rfl) (by kernel_rfl) (by omega)) trivial ?_
     refine v_step [22] (by intro k hk; simp only [List.mem_singleton] at hk; subst hk; simp) rfl rfl rfl rfl (e_loadH (v := .int (b1.get 3)) rfl (hset_self _ _ _) (by kernel_rfl) (by kernel_rfl) (by kernel_rfl) (by rw [List.length_map]; exact (List.getElem?_eq_some_iff.1 hb1).1) (by decide) ((cell_map hb1 _).trans (by first | exact b4_get b1 (by decide) | (rw [Nat.zero_add]; exact b4_get b1 (by decide))))) trivial ?_
     refine v_step [] (by simp) rfl rfl rfl rfl (e_faP (pl := [(0, 1, false), (1, 1, false), (2, 1, false), (3, 1, false)]) rfl (by kernel_rfl) (by kernel_rfl) (by decide) rfl) trivial ?_
     refine v_step [11] (by intro k hk; simp only [List.mem_singleton] at hk; subst hk; simp) rfl rfl rfl rfl (e_loadH (v := .sc _) rfl ((hset_ne (key_ne rfl)).trans (hset_self _ _ _)) (by kernel_rfl) (by kernel_rfl) (by kernel_rfl) (by exact Nat.zero_lt_one) (by decide) rfl) trivial ?_
     refine v_step [] (by simp) rfl rfl rfl rfl (e_sub rfl rfl (by omega)) trivial ?_
     refine v_step [] (by simp) rfl rfl rfl rfl (e_nilc rfl) trivial ?_
     refine v_step [] (by simp) rfl rfl rfl rfl (e_ixaP (n := 4) (e := 3) rfl rfl (by kernel_rfl) (by kernel_rfl) (by omega)) trivial ?_
     refine v_store [22] [22] (by intro k hk; simp only [List.mem_singleton] at hk; subst hk; simp) (by simp) rfl rfl (e_storeF (xs := bs.set (termIx ts x.part).toNat b1) (a := b1) (a' := b1.put 3 (b1.get 3 - x.count)) rfl (hset_self _ _ _) rfl hb1 (by exact b4_put b1 _ (j := 3) (by decide)) (by kernel_rfl) (by kernel_rfl) (by exact hj4 _ (j := 3) (by decide)) rfl) trivial ?_
     refine v_end (by kernel_rfl) rfl (hK32 _ ?_); clear hK32 K32
     refine block_norm ?_
     refine seq_norm (hK24 _ ?_); clear hK24 K24
     refine pwp_plain rfl fun K33 hK33 => ?_
     refine p_step rfl (e_add rfl rfl (by omega)) trivial ?_
     refine p_step rfl (e_move (v := .sc _) rfl) trivial ?_
     refine p_end (hK33 _ ?_); clear hK33 K33
     exact loop_again ((k + 1, ((bs.set (termIx ts x.part).toNat b1).set (termIx ts x.part).toNat (b1.put 3 (b1.get 3 - x.count))))) (by show _ < _; simp only; omega) ⟨rfl, rfl, rfl, rfl, trivial⟩ ⟨rfl, trivial⟩ (by exact ⟨by show _ + 1 ≤ _; omega, by (rw [ht]; first | exact bal_step (tm_parts htd.1).1 hI hgx.1 hixp hbe hb1e (by rw [if_pos (by omega)]) | exact bal_step (tm_parts htd.1).1 hI hgx.1 hixp hbe hb1e (by rw [if_neg (by omega)])), (hset_self _ _ _)⟩)
   ·have hb23R := hb23; (try simp only [z1, z2, z3, z4, z5, z6, ne_eq, z7, z8, z9, z10, z11, z12] at hb23); (try (have hz : tdE ts ms day = 0 := hb23)); (try (have htd := td_parts hb23))
    obtain rfl : k = (upM day ms).length := by omega
    rw [List.take_length] at hI
    refine pwp_exit ?_
    refine exit_seq ?_
    clear hK22 K22
    refine exit_loop ?_
    refine exit_here ?_
    refine seq_norm (hK15 _ ?_); clear hK15 K15
    refine pwp_seq_plain rfl fun K34 hK34 => ?_
    refine p_step rfl (e_move (v := .ref _ _ _ _) rfl) trivial ?_
    refine p_step rfl (e_assign (v := .ref _ _ _ _) rfl) trivial ?_
    refine p_step rfl (e_assign (v := .sc _) rfl) trivial ?_
    refine p_end (hK34 _ ?_); clear hK34 K34
    refine pwp_ret ?_
    refine end2 (v := .ref _ _ _ _) (w := .sc _) rfl rfl ?_
    rw [balP_0 hz]
    have hfin := bal_fin hI
    exact out_2 (out_slice (SliceAt.ofRef hihj20_0 (by rw [List.length_map]; exact hI.len)) (by rw [hfin]) (fun _ => rfl) b4_clean) (out_i hz.symm)

theorem fr64 : (inFrame Try.f64.ntmps (Try.f64.body.getD .skip) && Try.f64.results.toList.all (resScope Try.f64.ntmps)) = true := by kernel_rfl
theorem OnHire (ts : List Term) (ms : List Move) (day : Int) (hlt : ts.length ≤ 65) (hl : ms.length ≤ 305) : PCalls Try.prog 64 [.lit true 4 (ts.map Term.enc), .lit true 4 (ms.map Move.enc), .int day] (.tup [.lit false 1 (((balP ts ms day).map (fun x : B4 => x.d)).map ci), .int (tdE ts ms day)]) := by
  refine PCalls.of_code Try.func64 rfl rfl (by kernel_rfl) mixed fr64 (by show _ ≤ 34; simp) (pure_2 (.lit _ _ _ fun row hr => pure_map ci_pure row hr) (.sc _)) ?_
  refine pwp_seq_plain rfl fun K1 hK1 => ?_
  refine p_step rfl (e_assign (v := .nil) rfl) trivial ?_
  refine p_step rfl (e_assign (v := .sc _) rfl) trivial ?_
  refine p_end (hK1 _ ?_); clear hK1 K1
  refine pwp_seq_plain rfl fun K2 hK2 => ?_
  refine p_step rfl (e_move (v := .lit _ _ _) rfl) trivial ?_
  refine p_step rfl (e_move (v := .lit _ _ _) rfl) trivial ?_
  refine p_step rfl (e_move (v := .sc _) rfl) trivial ?_
  refine p_call rfl (.cons inn_lit (.cons inn_lit (.cons inn_sc .nil))) (Balance _ _ _ (by omega) (by omega)) ?_
  refine p_step rfl (e_move (v := .tup _) rfl) trivial ?_
  refine p_step rfl (e_ext (v := .lit _ _ _) rfl (by simp) rfl) trivial ?_
  refine p_step rfl (e_ext (v := .sc _) rfl (by simp) rfl) trivial ?_
  refine p_step rfl (e_assign (v := .lit _ _ _) rfl) trivial ?_
  refine p_step rfl (e_assign (v := .sc _) rfl) trivial ?_
  refine p_end (hK2 _ ?_); clear hK2 K2
  refine pwp_seq_plain rfl fun K3 hK3 => ?_
  refine p_step rfl (e_assign (v := .nil) rfl) trivial ?_
  refine p_end (hK3 _ ?_); clear hK3 K3
  refine pwp_seq_seq ?_
  refine pwp_seq_plain rfl fun K4 hK4 => ?_
  refine p_step rfl (e_move (v := .lit _ _ _) rfl) trivial ?_
  refine p_step rfl (e_len rfl (by kernel_rfl)) trivial ?_
  refine p_step rfl (e_move (v := .sc _) rfl) trivial ?_
  refine p_end (hK4 _ ?_); clear hK4 K4
  refine pwp_seq_block fun K5 hK5 => ?_
  refine pwp_loopR (α := Nat × (List Int) × PV) [9, 20, 21] (fun (a6 : Nat × (List Int) × PV) => [(10, (a6.2.2)), (22, .int (a6.1))]) (fun (a6 : Nat × (List Int) × PV) (h : Heap) (_ : Nat → Nat) => ((a6.1) ≤ (balP ts ms day).length) ∧ ((a6.2.1) = ((balP ts ms day).take (a6.1)).map (fun x : B4 => x.d)) ∧ ((a6.2.1).length ≤ (a6.1)) ∧ (SliceAt h 30 (a6.2.2) 1 ((a6.2.1).map ci))) (fun (a6 : Nat × (List Int) × PV) => (balP ts ms day).length - (a6.1)) (0, [], .nil) (by exact ⟨rfl, rfl, trivial⟩) (by exact ⟨by exact Nat.zero_le _, by exact rfl, by exact Nat.le_refl _, .nil⟩) fun a6 r7 h8 c9 hj10 => ?_
  obtain ⟨k, acc, v⟩ := a6
  obtain ⟨hk, hinv, hal, hihj10_0⟩ := hj10
  try dsimp only at hk
  try dsimp only at hinv
  try dsimp only at hal
  try dsimp only at hihj10_0
  show pwp _ _ (loopQ _ _ _) ⟨sets (mix _ _ _) [(10, v), (22, .int k)], _, _⟩
  refine pwp_seq_plain rfl fun K11 hK11 => ?_
  refine p_step rfl (e_lt rfl rfl) trivial ?_
  refine p_end (hK11 _ ?_); clear hK11 K11
  refine pwp_seq_cond rfl fun K12 hK12 => ⟨fun hb13 => ?_, fun hb13 => ?_⟩
  ·have hb13R := hb13; try simp only [z1, z2, z3, z4, z5, z6, ne_eq, z7, z8, z9, z10, z11, z12] at hb13
   obtain ⟨x, hx, hd, ht⟩ := get_lt (xs := (balP ts ms day)) (i := k) (by omega)
   have hbl := balP_len (ts := ts) (ms := ms) (day := day)
   refine pwp_skip ?_
   refine seq_norm (hK12 _ ?_); clear hK12 K12
   refine pwp_seq_block fun K14 hK14 => ?_
   refine pwp_seq_plain rfl fun K15 hK15 => ?_
   refine p_step rfl (e_ixa rfl rfl (by kernel_rfl) (by kernel_rfl) (by simp only [List.length_map]; omega)) trivial ?_
   refine p_step rfl (e_loadA (n := 4) rfl (by kernel_rfl) (by kernel_rfl) (by kernel_rfl) (by simp only [List.length_map]; omega) (by decide) (by first | exact agg_map hx rfl)) trivial ?_
   refine p_new rfl (e_alloc (cs := [.int 0, .int 0, .int 0, .int 0]) (n := 4) (by kernel_rfl) rfl (by decide)) (ob_alloc (by decide)) ?_
   refine p_store rfl (e_storeA rfl (hset_self _ _ _) rfl rfl rfl (by kernel_rfl) rfl (by kernel_rfl)) trivial ?_
   refine p_end (hK15 _ ?_); clear hK15 K15
   refine pwp_plain rfl fun K16 hK16 => ?_
   refine p_step rfl (e_move (v := _) rfl) trivial ?_
   refine p_step rfl (e_ixaP (n := 4) (e := 3) rfl rfl (by kernel_rfl) (by kernel_rfl) (by omega)) trivial ?_
   refine p_step rfl (e_loadH (v := .int x.d) rfl (hset_self _ _ _) (by kernel_rfl) (by kernel_rfl) (by kernel_rfl) (by exact Nat.zero_lt_one) (by decide) rfl) trivial ?_
   refine p_new rfl (e_bslice (rows := [ci x.d]) (zs := [.int 0]) (sz := 1) (by kernel_rfl) (by kernel_rfl) rfl (by kernel_rfl) (by decide) rfl rfl (by exact ⟨by decide, rfl, rfl, trivial⟩) rfl) trivial ?_
   refine p_app rfl rfl rfl (hihj10_0.keep fun _ => (hset_ne (key_ne rfl)).trans ((hset_ne (key_ne rfl)).trans ((hset_ne (key_ne rfl)).trans (rfl)))) (src_ref (hset_self _ _ _) rfl) (by kernel_rfl) (by simp only [List.length_append, List.length_map, List.length_nil, List.length_cons]; omega) fun v17 h18 c19 hs20 hf21 => ?_
   have ho22 := (hf21 (12, _) (key_ne rfl) (fun _ _ => key_ne rfl)).trans ((hset_ne (key_ne rfl)).trans (hset_self _ _ _))
   have ho23 := (hf21 (29, _) (key_ne rfl) (fun _ _ => key_ne rfl)).trans (hset_self _ _ _)
   refine p_step rfl (e_assign (v := _) rfl) trivial ?_
   refine p_end (hK16 _ ?_); clear hK16 K16
   refine block_norm ?_
   refine seq_norm (hK14 _ ?_); clear hK14 K14
   refine pwp_plain rfl fun K24 hK24 => ?_
   refine p_step rfl (e_add rfl rfl (by omega)) trivial ?_
   refine p_step rfl (e_move (v := .sc _) rfl) trivial ?_
   refine p_end (hK24 _ ?_); clear hK24 K24
   exact loop_again ((k + 1, (acc ++ [x.d]), v17)) (by show _ < _; simp only; omega) ⟨rfl, rfl, rfl, trivial⟩ ⟨rfl, rfl, trivial⟩ (by exact ⟨by show _ + 1 ≤ _; omega, by exact map_next (f := fun x : B4 => x.d) hinv ht, by show List.length _ ≤ _ + 1; simp only [List.length_append, List.length_cons, List.length_nil]; omega, (SliceAt.to hs20 (by simp))⟩)
  ·have hb13R := hb13; try simp only [z1, z2, z3, z4, z5, z6, ne_eq, z7, z8, z9, z10, z11, z12] at hb13
   obtain rfl : k = (balP ts ms day).length := by omega
   rw [List.take_length] at hinv
   refine pwp_exit ?_
   refine exit_seq ?_
   clear hK12 K12
   refine exit_loop ?_
   refine exit_here ?_
   refine seq_norm (hK5 _ ?_); clear hK5 K5
   refine pwp_seq_plain rfl fun K25 hK25 => ?_
   refine p_step rfl (e_move (v := _) rfl) trivial ?_
   refine p_step rfl (e_move (v := .sc _) rfl) trivial ?_
   refine p_step rfl (e_assign (v := _) rfl) trivial ?_
   refine p_step rfl (e_assign (v := .sc _) rfl) trivial ?_
   refine p_end (hK25 _ ?_); clear hK25 K25
   refine pwp_ret ?_
   refine end2 (v := _) (w := .sc _) rfl rfl ?_
   rw [← hinv]
   exact out_2 (out_slice (by assumption) rfl (fun _ => rfl) (fun a q hq => by simp [ci] at hq; subst hq; exact ⟨.sc _, rfl⟩)) (out_i rfl)

theorem fr65 : (inFrame Try.f65.ntmps (Try.f65.body.getD .skip) && Try.f65.results.toList.all (resScope Try.f65.ntmps)) = true := by kernel_rfl
theorem BalanceR (ts : List Term) (ms : List Move) (day : Int) (hlt : ts.length ≤ 65) (hl : ms.length ≤ 305) (hokm : ∀ m ∈ upF day ms, okM m) : PCalls Try.prog 65 [.lit true 4 (ts.map Term.enc), .lit true 4 (ms.map Move.enc), .int day] (.lit false 4 ((balT ts (upF day ms)).map B4.enc)) := by
  refine PCalls.of_code Try.func65 rfl rfl (by kernel_rfl) mixed fr65 (by show _ ≤ 45; simp) (.lit _ _ _ fun row hr => pure_map B4.pure row hr) ?_
  refine pwp_seq_plain rfl fun K1 hK1 => ?_
  refine p_step rfl (e_assign (v := .nil) rfl) trivial ?_
  refine p_end (hK1 _ ?_); clear hK1 K1
  refine pwp_seq_plain rfl fun K2 hK2 => ?_
  refine p_step rfl (e_move (v := .lit _ _ _) rfl) trivial ?_
  refine p_step rfl (e_move (v := .sc _) rfl) trivial ?_
  refine p_call rfl (.cons inn_lit (.cons inn_sc .nil)) (MovesUpto _ _ (by omega)) ?_
  refine p_step rfl (e_assign (v := .lit _ _ _) rfl) trivial ?_
  refine p_end (hK2 _ ?_); clear hK2 K2
  refine pwp_seq_plain rfl fun K3 hK3 => ?_
  refine p_step rfl (e_assign (v := .nil) rfl) trivial ?_
  refine p_end (hK3 _ ?_); clear hK3 K3
  refine pwp_seq_seq ?_
  refine pwp_seq_plain rfl fun K4 hK4 => ?_
  refine p_step rfl (e_assign (v := .sc _) rfl) trivial ?_
  refine p_end (hK4 _ ?_); clear hK4 K4
  refine pwp_seq_block fun K5 hK5 => ?_
  refine pwp_loopR (α := Nat × (List B4) × PV) [0, 1] (fun (a6 : Nat × (List B4) × PV) => [(7, (a6.2.2)), (8, .int (a6.1))]) (fun (a6 : Nat × (List B4) × PV) (h : Heap) (_ : Nat → Nat) => ((a6.1) ≤ ts.length) ∧ ((a6.2.1) = (ts.take (a6.1)).map (fun t => bal4 t.part (upF day ms))) ∧ ((a6.2.1).length ≤ (a6.1)) ∧ (SliceAt h 43 (a6.2.2) 4 ((a6.2.1).map B4.enc))) (fun (a6 : Nat × (List B4) × PV) => ts.length - (a6.1)) (0, [], .nil) (by exact ⟨rfl, rfl, trivial⟩) (by exact ⟨by exact Nat.zero_le _, by exact rfl, by exact Nat.le_refl _, .nil⟩) fun a6 r7 h8 c9 hj10 => ?_
  obtain ⟨k, acc, v⟩ := a6
  obtain ⟨hk, hinv, hal, hihj10_0⟩ := hj10
  try dsimp only at hk
  try dsimp only at hinv
  try dsimp only at hal
  try dsimp only at hihj10_0
  show pwp _ _ (loopQ _ _ _) ⟨sets (mix _ _ _) [(7, v), (8, .int k)], _, _⟩
  refine pwp_seq_seq ?_
  refine pwp_seq_plain rfl fun K11 hK11 => ?_
  refine p_step rfl (e_move (v := .sc _) rfl) trivial ?_
  refine p_step rfl (e_move (v := .lit _ _ _) rfl) trivial ?_
  refine p_step rfl (e_len rfl (by kernel_rfl)) trivial ?_
  refine p_step rfl (e_lt rfl rfl) trivial ?_
  refine p_end (hK11 _ ?_); clear hK11 K11
  refine pwp_seq_cond rfl fun K12 hK12 => ⟨fun hb13 => ?_, fun hb13 => ?_⟩
  ·have hb13R := hb13; try simp only [z1, z2, z3, z4, z5, z6, ne_eq, z7, z8, z9, z10, z11, z12] at hb13
   obtain ⟨t, hx, hd, ht⟩ := get_lt (xs := ts) (i := k) (by omega)
   have q0 := cnt_bnd (p := t.part) hokm (Nat.le_trans (upF_len day ms) hl) 0
   have q1 := cnt_bnd (p := t.part) hokm (Nat.le_trans (upF_len day ms) hl) 1
   have q2 := cnt_bnd (p := t.part) hokm (Nat.le_trans (upF_len day ms) hl) 2
   refine pwp_skip ?_
   refine seq_norm (hK12 _ ?_); clear hK12 K12
   refine pwp_seq_block fun K14 hK14 => ?_
   refine pwp_seq_plain rfl fun K15 hK15 => ?_
   refine p_step rfl (e_move (v := .lit _ _ _) rfl) trivial ?_
   refine p_step rfl (e_move (v := .lit _ _ _) rfl) trivial ?_
   refine p_step rfl (e_move (v := .sc _) rfl) trivial ?_
   refine p_step rfl (e_ixa rfl rfl (by kernel_rfl) (by kernel_rfl) (by simp only [List.length_map]; omega)) trivial ?_
   refine p_step rfl (e_fa (pl := [(0, 1, false), (1, 1, false), (2, 1, false), (3, 1, false)]) rfl (by kernel_rfl) (by kernel_rfl) (by decide) rfl) trivial ?_
   refine p_step rfl (e_load (v := .sc _) rfl (by kernel_rfl) (by kernel_rfl) (by kernel_rfl) (by simp only [List.length_map]; omega) (by decide) ((cell_map hx _).trans rfl)) trivial ?_
   refine p_call rfl (.cons inn_lit (.cons inn_sc .nil)) (Counts _ _ (Nat.le_trans (upF_len _ _) (by omega)) hokm) ?_
   refine p_new rfl (e_alloc (cs := [.int 0, .int 0, .int 0]) (n := 3) (by kernel_rfl) rfl (by decide)) (ob_alloc (by decide)) ?_
   refine p_store rfl (e_storeA rfl (hset_self _ _ _) rfl rfl (by rw [List.length_map, cntL_len]) (by kernel_rfl) (all_ints _) (by kernel_rfl)) trivial ?_
   refine p_end (hK15 _ ?_); clear hK15 K15
   refine pwp_plain rfl fun K16 hK16 => ?_
   refine p_step rfl (e_move (v := _) rfl) trivial ?_
   refine p_step rfl (e_ixaP (n := 3) (e := 3) rfl rfl (by kernel_rfl) (by kernel_rfl) (by omega)) trivial ?_
   refine p_step rfl (e_loadH (v := .sc _) rfl (hset_self _ _ _) (by kernel_rfl) (by kernel_rfl) (by kernel_rfl) (by exact Nat.zero_lt_one) (by decide) (cell_n 0 (by rw [cntL_len]; decide))) trivial ?_
   refine p_step rfl (e_ixaP (n := 3) (e := 3) rfl rfl (by kernel_rfl) (by kernel_rfl) (by omega)) trivial ?_
   refine p_step rfl (e_loadH (v := .sc _) rfl (hset_self _ _ _) (by kernel_rfl) (by kernel_rfl) (by kernel_rfl) (by exact Nat.zero_lt_one) (by decide) (cell_n 1 (by rw [cntL_len]; decide))) trivial ?_
   refine p_step rfl (e_ixaP (n := 3) (e := 3) rfl rfl (by kernel_rfl) (by kernel_rfl) (by omega)) trivial ?_
   refine p_step rfl (e_loadH (v := .sc _) rfl (hset_self _ _ _) (by kernel_rfl) (by kernel_rfl) (by kernel_rfl) (by exact Nat.zero_lt_one) (by decide) (cell_n 2 (by rw [cntL_len]; decide))) trivial ?_
   refine p_step rfl (e_ixaP (n := 3) (e := 3) rfl rfl (by kernel_rfl) (by kernel_rfl) (by omega)) trivial ?_
   refine p_step rfl (e_loadH (v := .sc _) rfl (hset_self _ _ _) (by kernel_rfl) (by kernel_rfl) (by kernel_rfl) (by exact Nat.zero_lt_one) (by decide) (cell_n 0 (by rw [cntL_len]; decide))) trivial ?_
   refine p_step rfl (e_ixaP (n := 3) (e := 3) rfl rfl (by kernel_rfl) (by kernel_rfl) (by omega)) trivial ?_
   refine p_step rfl (e_loadH (v := .sc _) rfl (hset_self _ _ _) (by kernel_rfl) (by kernel_rfl) (by kernel_rfl) (by exact Nat.zero_lt_one) (by decide) (cell_n 1 (by rw [cntL_len]; decide))) trivial ?_
   refine p_step rfl (e_sub rfl rfl (by omega)) trivial ?_
   refine p_step rfl (e_ixaP (n := 3) (e := 3) rfl rfl (by kernel_rfl) (by kernel_rfl) (by omega)) trivial ?_
   refine p_step rfl (e_loadH (v := .sc _) rfl (hset_self _ _ _) (by kernel_rfl) (by kernel_rfl) (by kernel_rfl) (by exact Nat.zero_lt_one) (by decide) (cell_n 2 (by rw [cntL_len]; decide))) trivial ?_
   refine p_step rfl (e_sub rfl rfl (by omega)) trivial ?_
   refine p_step rfl (e_buildA (zs := [.int 0, .int 0, .int 0, .int 0]) (pl := [(0, 1, false), (1, 1, false), (2, 1, false), (3, 1, false)]) (by kernel_rfl) (by kernel_rfl) (by kernel_rfl) rfl rfl (by exact ⟨by decide, rfl, Nat.le_of_ble_eq_true rfl, rfl, ⟨by decide, rfl, Nat.le_of_ble_eq_true rfl, rfl, ⟨by decide, rfl, Nat.le_of_ble_eq_true rfl, rfl, ⟨by decide, rfl, Nat.le_of_ble_eq_true rfl, rfl, trivial⟩⟩⟩⟩) rfl) trivial ?_
   refine p_new rfl (e_bslice (rows := [B4.enc ⟨(((cntL t.part (upF day ms))).getD 0 0), (((cntL t.part (upF day ms))).getD 1 0), (((cntL t.part (upF day ms))).getD 2 0), (((((cntL t.part (upF day ms))).getD 0 0) - (((cntL t.part (upF day ms))).getD 1 0)) - (((cntL t.part (upF day ms))).getD 2 0))⟩]) (zs := [.int 0, .int 0, .int 0, .int 0]) (sz := 4) (by kernel_rfl) (by kernel_rfl) rfl (by kernel_rfl) (by decide) rfl rfl (by exact ⟨by decide, rfl, rfl, trivial⟩) rfl) trivial ?_
   refine p_app rfl rfl rfl (hihj10_0.keep fun _ => (hset_ne (key_ne rfl)).trans ((hset_ne (key_ne rfl)).trans ((hset_ne (key_ne rfl)).trans (rfl)))) (src_ref (hset_self _ _ _) rfl) (by kernel_rfl) (by simp only [List.length_append, List.length_map, List.length_nil, List.length_cons]; omega) fun v17 h18 c19 hs20 hf21 => ?_
   have ho22 := (hf21 (9, _) (key_ne rfl) (fun _ _ => key_ne rfl)).trans ((hset_ne (key_ne rfl)).trans (hset_self _ _ _))
   have ho23 := (hf21 (42, _) (key_ne rfl) (fun _ _ => key_ne rfl)).trans (hset_self _ _ _)
   refine p_step rfl (e_assign (v := _) rfl) trivial ?_
   refine p_end (hK16 _ ?_); clear hK16 K16
   refine block_norm ?_
   refine seq_norm (hK14 _ ?_); clear hK14 K14
   refine pwp_plain rfl fun K24 hK24 => ?_
   refine p_step rfl (e_move (v := .sc _) rfl) trivial ?_
   refine p_step rfl (e_add rfl rfl (by omega)) trivial ?_
   refine p_step rfl (e_assign (v := .sc _) rfl) trivial ?_
   refine p_end (hK24 _ ?_); clear hK24 K24
   exact loop_again ((k + 1, (acc ++ [⟨(((cntL t.part (upF day ms))).getD 0 0), (((cntL t.part (upF day ms))).getD 1 0), (((cntL t.part (upF day ms))).getD 2 0), (((((cntL t.part (upF day ms))).getD 0 0) - (((cntL t.part (upF day ms))).getD 1 0)) - (((cntL t.part (upF day ms))).getD 2 0))⟩]), v17)) (by show _ < _; simp only; omega) ⟨rfl, rfl, trivial⟩ ⟨rfl, rfl, trivial⟩ (by exact ⟨by show _ + 1 ≤ _; omega, by exact map_next (f := fun t : Term => bal4 t.part (upF day ms)) hinv ht, by show List.length _ ≤ _ + 1; simp only [List.length_append, List.length_cons, List.length_nil]; omega, (SliceAt.to hs20 (by simp))⟩)
  ·have hb13R := hb13; try simp only [z1, z2, z3, z4, z5, z6, ne_eq, z7, z8, z9, z10, z11, z12] at hb13
   obtain rfl : k = ts.length := by omega
   rw [List.take_length] at hinv
   refine pwp_exit ?_
   refine exit_seq ?_
   clear hK12 K12
   refine exit_loop ?_
   refine exit_here ?_
   refine seq_norm (hK5 _ ?_); clear hK5 K5
   refine pwp_seq_plain rfl fun K25 hK25 => ?_
   refine p_step rfl (e_move (v := _) rfl) trivial ?_
   refine p_step rfl (e_assign (v := _) rfl) trivial ?_
   refine p_end (hK25 _ ?_); clear hK25 K25
   refine pwp_ret ?_
   refine end1 (v := _) rfl ?_
   exact out_slice (by assumption) (by rw [balT, hinv]) (fun _ => rfl) b4_clean

theorem fr66 : (inFrame Try.f66.ntmps (Try.f66.body.getD .skip) && Try.f66.results.toList.all (resScope Try.f66.ntmps)) = true := by kernel_rfl
theorem sameCharges (xs ys : List Charge) (hl : xs.length ≤ 10000000) : PCalls Try.prog 66 [.lit true 4 (xs.map Charge.enc), .lit true 4 (ys.map Charge.enc)] (.bool (decide (xs = ys))) := by
  refine PCalls.of_code Try.func66 rfl rfl (by kernel_rfl) mixed fr66 (by show _ ≤ 26; simp) (.sc _) ?_
  refine pwp_seq_plain rfl fun K1 hK1 => ?_
  refine p_step rfl (e_assign (v := .sc _) rfl) trivial ?_
  refine p_end (hK1 _ ?_); clear hK1 K1
  refine pwp_seq_seq ?_
  refine pwp_seq_plain rfl fun K2 hK2 => ?_
  refine p_step rfl (e_move (v := .lit _ _ _) rfl) trivial ?_
  refine p_step rfl (e_len rfl (by kernel_rfl)) trivial ?_
  refine p_step rfl (e_move (v := .lit _ _ _) rfl) trivial ?_
  refine p_step rfl (e_len rfl (by kernel_rfl)) trivial ?_
  refine p_step rfl (e_ne rfl rfl) trivial ?_
  refine p_end (hK2 _ ?_); clear hK2 K2
  refine pwp_seq_cond rfl fun K3 hK3 => ⟨fun hb4 => ?_, fun hb4 => ?_⟩
  ·have hb4R := hb4; try simp only [z1, z2, z3, z4, z5, z6, ne_eq, z7, z8, z9, z10, z11, z12] at hb4
   refine pwp_seq_plain rfl fun K5 hK5 => ?_
   refine p_step rfl (e_assign (v := .sc _) rfl) trivial ?_
   refine p_end (hK5 _ ?_); clear hK5 K5
   refine pwp_ret ?_
   refine ret_seq ?_
   refine end1 (v := .sc _) rfl ?_
   first
     | exact out_b (decide_eq_false fun h => by subst h; omega).symm
     | exact out_b (decide_eq_false (same_badL hx hy (by assumption))).symm
     | exact out_b (decide_eq_true (same_endL (by omega) he)).symm
  ·have hb4R := hb4; try simp only [z1, z2, z3, z4, z5, z6, ne_eq, z7, z8, z9, z10, z11, z12] at hb4
   refine pwp_skip ?_
   refine seq_norm (hK3 _ ?_); clear hK3 K3
   refine pwp_seq_seq ?_
   refine pwp_seq_plain rfl fun K6 hK6 => ?_
   refine p_step rfl (e_assign (v := .sc _) rfl) trivial ?_
   refine p_end (hK6 _ ?_); clear hK6 K6
   refine pwp_seq_block fun K7 hK7 => ?_
   refine pwp_loopR (α := Nat) [0, 1] (fun (k : Nat) => [(5, .int (k))]) (fun (k : Nat) (h : Heap) (_ : Nat → Nat) => ((k) ≤ xs.length) ∧ (xs.take (k) = ys.take (k))) (fun (k : Nat) => xs.length - (k)) (0) (by exact ⟨rfl, trivial⟩) (by exact ⟨by exact Nat.zero_le _, by exact rfl⟩) fun k r8 h9 c10 hj11 => ?_
   obtain ⟨hk, he⟩ := hj11
   try dsimp only at hk
   try dsimp only at he
   show pwp _ _ (loopQ _ _ _) ⟨sets (mix _ _ _) [(5, .int k)], _, _⟩
   refine pwp_seq_seq ?_
   refine pwp_seq_plain rfl fun K12 hK12 => ?_
   refine p_step rfl (e_move (v := .sc _) rfl) trivial ?_
   refine p_step rfl (e_move (v := .lit _ _ _) rfl) trivial ?_
   refine p_step rfl (e_len rfl (by kernel_rfl)) trivial ?_
   refine p_step rfl (e_lt rfl rfl) trivial ?_
   refine p_end (hK12 _ ?_); clear hK12 K12
   refine pwp_seq_cond rfl fun K13 hK13 => ⟨fun hb14 => ?_, fun hb14 => ?_⟩
   ·have hb14R := hb14; try simp only [z1, z2, z3, z4, z5, z6, ne_eq, z7, z8, z9, z10, z11, z12] at hb14
    obtain ⟨x, hx, hd, ht⟩ := get_lt (xs := xs) (i := k) (by omega)
    obtain ⟨y, hy, hd2, ht2⟩ := get_lt (xs := ys) (i := k) (by omega)
    refine pwp_skip ?_
    refine seq_norm (hK13 _ ?_); clear hK13 K13
    refine pwp_seq_block fun K15 hK15 => ?_
    refine pwp_seq_gops rfl fun K16 hK16 => ?_
    refine g_begin ?_
    refine g_step rfl rfl rfl rfl (e_move (v := .lit _ _ _) rfl) trivial ?_
    refine g_step rfl rfl rfl rfl (e_move (v := .sc _) rfl) trivial ?_
    refine g_step rfl rfl rfl rfl (e_ixa rfl rfl (by kernel_rfl) (by kernel_rfl) (by simp only [List.length_map]; omega)) trivial ?_
    refine g_step rfl rfl rfl rfl (e_loadA (n := 4) rfl (by kernel_rfl) (by kernel_rfl) (by kernel_rfl) (by simp only [List.length_map]; omega) (by decide) (by first | exact agg_map hx rfl)) trivial ?_
    refine g_step rfl rfl rfl rfl (e_move (v := .lit _ _ _) rfl) trivial ?_
    refine g_step rfl rfl rfl rfl (e_move (v := .sc _) rfl) trivial ?_
    refine g_step rfl rfl rfl rfl (e_ixa rfl rfl (by kernel_rfl) (by kernel_rfl) (by simp only [List.length_map]; omega)) trivial ?_
    refine g_step rfl rfl rfl rfl (e_loadA (n := 4) rfl (by kernel_rfl) (by kernel_rfl) (by kernel_rfl) (by simp only [List.length_map]; omega) (by decide) (by first | exact agg_map hy rfl)) trivial ?_
    refine g_step rfl rfl rfl rfl (e_ane rfl rfl (by kernel_rfl) (eqOk_Charge (x) (y)) (eqV_Charge (x) (y))) trivial ?_
    refine g_end (ds := []) (by kernel_rfl) rfl (hK16 _ ?_); clear hK16 K16
    refine pwp_cond rfl (fun hb17 => ?_) (fun hb17 => ?_)
    ·have hb17R := hb17; try simp only [z1, z2, z3, z4, z5, z6, ne_eq, z7, z8, z9, z10, z11, z12] at hb17
     refine pwp_seq_plain rfl fun K18 hK18 => ?_
     refine p_step rfl (e_assign (v := .sc _) rfl) trivial ?_
     refine p_end (hK18 _ ?_); clear hK18 K18
     refine pwp_ret ?_
     refine ret_block ?_
     refine ret_seq ?_
     refine ret_loop ?_
     refine ret_block ?_
     refine ret_seq ?_
     refine end1 (v := .sc _) rfl ?_
     first
       | exact out_b (decide_eq_false fun h => by subst h; omega).symm
       | exact out_b (decide_eq_false (same_badL hx hy (by assumption))).symm
       | exact out_b (decide_eq_true (same_endL (by omega) he)).symm
    ·have hb17R := hb17; try simp only [z1, z2, z3, z4, z5, z6, ne_eq, z7, z8, z9, z10, z11, z12] at hb17
     refine pwp_skip ?_
     refine block_norm ?_
     refine seq_norm (hK15 _ ?_); clear hK15 K15
     refine pwp_plain rfl fun K19 hK19 => ?_
     refine p_step rfl (e_move (v := .sc _) rfl) trivial ?_
     refine p_step rfl (e_add rfl rfl (by omega)) trivial ?_
     refine p_step rfl (e_assign (v := .sc _) rfl) trivial ?_
     refine p_end (hK19 _ ?_); clear hK19 K19
     exact loop_again (k + 1) (by show _ < _; omega) ⟨rfl, rfl, trivial⟩ ⟨rfl, trivial⟩ (by exact ⟨by show _ + 1 ≤ _; omega, by rw [ht, ht2, he]; congr 2⟩)
   ·have hb14R := hb14; try simp only [z1, z2, z3, z4, z5, z6, ne_eq, z7, z8, z9, z10, z11, z12] at hb14
    obtain rfl : k = xs.length := by omega
    refine pwp_exit ?_
    refine exit_seq ?_
    clear hK13 K13
    refine exit_loop ?_
    refine exit_here ?_
    refine seq_norm (hK7 _ ?_); clear hK7 K7
    refine pwp_seq_plain rfl fun K20 hK20 => ?_
    refine p_step rfl (e_assign (v := .sc _) rfl) trivial ?_
    refine p_end (hK20 _ ?_); clear hK20 K20
    refine pwp_ret ?_
    refine end1 (v := .sc _) rfl ?_
    first
      | exact out_b (decide_eq_false fun h => by subst h; omega).symm
      | exact out_b (decide_eq_false (same_badL hx hy (by assumption))).symm
      | exact out_b (decide_eq_true (same_endL (by omega) he)).symm

end Go.Proofs.Ytdbpfhbppcpbbaa
