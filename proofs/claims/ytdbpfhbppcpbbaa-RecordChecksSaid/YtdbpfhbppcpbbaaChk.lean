/- RecordChecks, as a contract on pure values. No conditions. -/
import Derived.Test.YtdbpfhbppcpbbaaRef4
import Derived.Test.YtdbpfhbppcpbbaaTxt
import Derived.Test.YtdbpfhbppcpbbaaAdd
set_option linter.unusedSimpArgs false
set_option linter.unusedVariables false
set_option maxRecDepth 100000
namespace Go.Proofs.Ytdbpfhbppcpbbaa
open Go Go.Pv

theorem keysOf_lit {t : Bool} {sz : Nat} {rows : Go.Pv.Rows} : Go.Pv.keysOf (.lit t sz rows) = [] := rfl
theorem sl_keys {h : Heap} {d sz : Nat} {v : PV} {rows : Go.Pv.Rows} (hs : SliceAt h d v sz rows) : ∀ k ∈ Go.Pv.keysOf v, k.1 = d := by
  rcases hs with ⟨_, rfl⟩ | ⟨g, rfl, _⟩
  · intro k hk; cases hk
  · intro k hk
    have : k = (d, g) := by simpa [Go.Pv.keysOf, Go.Pv.keyOf] using hk
    rw [this]
theorem p_appR {P : Program} {K : PS → Prop} {d : Nat} {ty t : TypeId} {pos : String} {aft : Array Edge} {gd : Option (Nat × Bool)} {rest : List Oper} {r : Nat → PV} {h : Heap} {cnt : Nat → Nat} {x y : Operand} {ts : Array TypeId} {t2 : TypeId} {u2 : PV} {sz d1 g : Nat} {rows rows2 : Go.Pv.Rows} (hts : ts.toList = [t, t2]) (hx : ev r x = .ref (d1, g) sz 0 rows.length) (hy : ev r y = u2) (hg : h (d1, g) = some (.rows sz rows)) (hsr : (srcRows h sz u2).1 ∧ (srcRows h sz u2).2.1 = rows2)
    (hok : (sliceOk P t && (decide (P.bytesOf (elemTy P t) < 2 ^ 15) && (decide (intKind P t2 = none) && (zeroOk P (elemTy P t) && ((P.underlying t2).isSome && decide (tySize P (elemTy P t) = sz)))))) = true) (hlen : rows.length + rows2.length < 2 ^ 32)
    (hk : ∀ v' h' c', (∃ g', v' = .ref (d, g') sz 0 (rows ++ rows2).length ∧ h' (d, g') = some (.rows sz (rows ++ rows2))) → pOps P K rest ⟨setT r d v', h', c'⟩) :
    pOps P K (⟨some d, .call { callee := .builtin .append, args := #[x, y], argTypes := ts }, ty, pos, aft, gd⟩ :: rest) ⟨r, h, cnt⟩ := by
  simp only [Bool.and_eq_true, decide_eq_true_eq] at hok
  obtain ⟨o1, o2, o3, o4, o5, o6⟩ := hok
  subst o6
  have hq : eff P (ev r) h (d, cnt d) (.call { callee := .builtin .append, args := #[x, y], argTypes := ts }) = appendEff P h (d, cnt d) t t2 (.ref (d1, g) (tySize P (elemTy P t)) 0 rows.length) u2 := by
    show builtinEff P h (d, cnt d) .append ts.toList [ev r x, ev r y] = _
    rw [hts, hx, hy]; rfl
  unfold appendEff at hq
  simp only [hg, hsr.2] at hq
  refine p_renew rfl hq (by refine ⟨⟨o1, o2, o3, o4, o5⟩, hsr.1, ?_⟩; simp; omega) (hk _ _ _ ⟨cnt d, by rw [List.length_append], ?_⟩)
  rw [hset_self, List.take_length]
theorem copiedN (evs : List Ev) (hl : evs.length ≤ 405) : PNew Try.prog 20 [.lit true 6 (evs.map Ev.enc)] 6 (evs.map Ev.enc) := by
  refine PNew.of_calls (d := 5) (by omega) (fun row hr => ?_) (fun row hr p hp => ?_) ?_
  · obtain ⟨e, _, rfl⟩ := List.mem_map.1 hr; rfl
  · obtain ⟨e, _, rfl⟩ := List.mem_map.1 hr
    simp only [Ev.enc, List.mem_cons, List.not_mem_nil, or_false] at hp
    rcases hp with rfl | rfl | rfl | rfl | rfl | rfl <;> exact ⟨_, rfl, rfl⟩
  · refine HCallsR.of_code Try.func20 rfl rfl (by kernel_rfl) mixed frH20 (by show _ ≤ 6; simp) ?_
    refine pwp_seq_plain rfl fun K1 hK1 => ?_
    refine p_step rfl (e_assign (v := .nil) rfl) trivial ?_
    refine p_end (hK1 _ ?_); clear hK1 K1
    refine pwp_seq_plain rfl fun K2 hK2 => ?_
    refine p_new rfl (e_bslice (rows := []) (zs := [.int 0, .int 0, .str ByteArray.empty, .int 0, .bool false, .bool false]) (sz := 6) (by kernel_rfl) (by kernel_rfl) rfl (by kernel_rfl) (by decide) rfl rfl (by exact trivial) rfl) trivial ?_
    refine p_step rfl (e_move (v := .lit _ _ _) rfl) trivial ?_
    refine p_appR (rows := []) rfl rfl rfl (hset_self _ _ _) src_lit (by kernel_rfl) (by simp only [List.length_append, List.length_map, List.length_nil, List.length_cons]; omega) fun v3 h4 c5 hs6 => ?_
    refine p_step rfl (e_assign (v := _) rfl) trivial ?_
    refine p_end (hK2 _ ?_); clear hK2 K2
    refine pwp_ret ?_
    refine end1 (v := _) rfl ?_
    exact hs6
def platT (evs : List Ev) : List ByteArray := if recE evs = 0 then platE evs else []
theorem tup_tx (l : List ByteArray) (b : Int) : Pure (.tup [.lit false 1 (l.map cb), .int b]) := .tup _ fun p hp => by
  simp at hp
  rcases hp with rfl | rfl
  · exact .lit _ _ _ fun row hr => pure_map cb_pure row hr
  · exact .sc _

theorem fr67 : (inFrame Try.f67.ntmps (Try.f67.body.getD .skip) && Try.f67.results.toList.all (resScope Try.f67.ntmps)) = true := by kernel_rfl
theorem PlatformsP (evs : List Ev) (hl : evs.length ≤ 405) : PCalls Try.prog 67 [.lit true 6 (evs.map Ev.enc)] (.tup [.lit false 1 ((platT evs).map cb), .int (recE evs)]) := by
  refine PCalls.of_code Try.func67 rfl rfl (by kernel_rfl) mixed fr67 (by show _ ≤ 12; simp) (tup_tx _ _) ?_
  refine pwp_seq_plain rfl fun K1 hK1 => ?_
  refine p_step rfl (e_assign (v := .nil) rfl) trivial ?_
  refine p_step rfl (e_assign (v := .sc _) rfl) trivial ?_
  refine p_end (hK1 _ ?_); clear hK1 K1
  refine pwp_seq_seq ?_
  refine pwp_seq_plain rfl fun K2 hK2 => ?_
  refine p_step rfl (e_move (v := .lit _ _ _) rfl) trivial ?_
  refine p_call rfl (.cons inn_lit .nil) (CheckRecord _ hl) ?_
  refine p_step rfl (e_assign (v := .sc _) rfl) trivial ?_
  refine p_end (hK2 _ ?_); clear hK2 K2
  refine pwp_seq_seq ?_
  refine pwp_seq_plain rfl fun K3 hK3 => ?_
  refine p_step rfl (e_move (v := .sc _) rfl) trivial ?_
  refine p_step rfl (e_ne rfl rfl) trivial ?_
  refine p_end (hK3 _ ?_); clear hK3 K3
  refine pwp_seq_cond rfl fun K4 hK4 => ⟨fun hb5 => ?_, fun hb5 => ?_⟩
  ·have hb5R := hb5; (try simp only [z1, z2, z3, z4, z5, z6, ne_eq, z7, z8, z9, z10, z11, z12] at hb5); (try (have hrec : recE evs = 0 := hb5))
   refine pwp_seq_plain rfl fun K6 hK6 => ?_
   refine p_step rfl (e_move (v := .sc _) rfl) trivial ?_
   refine p_step rfl (e_assign (v := .nil) rfl) trivial ?_
   refine p_step rfl (e_assign (v := .sc _) rfl) trivial ?_
   refine p_end (hK6 _ ?_); clear hK6 K6
   refine pwp_ret ?_
   refine ret_seq ?_
   refine end2 (v := .nil) (w := .sc _) rfl rfl ?_
   first
     | exact out_2 (by rw [platT, if_neg (by assumption)]; exact out_nil) (out_i rfl)
     | exact out_2 (by rw [platT, if_pos hrec]; exact .clean (clean_rows fun a p hp => (cb_clean a p hp).1)) (out_i hrec.symm)
  ·have hb5R := hb5; (try simp only [z1, z2, z3, z4, z5, z6, ne_eq, z7, z8, z9, z10, z11, z12] at hb5); (try (have hrec : recE evs = 0 := hb5))
   refine pwp_skip ?_
   refine seq_norm (hK4 _ ?_); clear hK4 K4
   refine pwp_seq_plain rfl fun K7 hK7 => ?_
   refine p_step rfl (e_move (v := .lit _ _ _) rfl) trivial ?_
   refine p_call rfl (.cons inn_lit .nil) (platforms _ hl (rec_ok hrec).size) ?_
   refine p_step rfl (e_assign (v := .lit _ _ _) rfl) trivial ?_
   refine p_step rfl (e_assign (v := .sc _) rfl) trivial ?_
   refine p_end (hK7 _ ?_); clear hK7 K7
   refine pwp_ret ?_
   refine end2 (v := .lit _ _ _) (w := .sc _) rfl rfl ?_
   first
     | exact out_2 (by rw [platT, if_neg (by assumption)]; exact out_nil) (out_i rfl)
     | exact out_2 (by rw [platT, if_pos hrec]; exact .clean (clean_rows fun a p hp => (cb_clean a p hp).1)) (out_i hrec.symm)


theorem chk_add (evs : List Ev) (e : Ev) : (¬ recE evs = 0 ∧ addE evs e = recE evs ∧ addL evs e = []) ∨ (recE evs = 0 ∧ ¬ recE (evs ++ [e]) = 0 ∧ addE evs e = recE (evs ++ [e]) ∧ addL evs e = []) ∨ (recE evs = 0 ∧ recE (evs ++ [e]) = 0 ∧ addE evs e = 0 ∧ addL evs e = evs ++ [e]) := by
  by_cases h0 : recE evs = 0
  · have h1 := add_2 (e := e) h0
    by_cases h2 : recE (evs ++ [e]) = 0
    · rw [if_pos h2, h2] at h1
      exact .inr (.inr ⟨h0, h2, h1.1, h1.2⟩)
    · rw [if_neg h2] at h1
      exact .inr (.inl ⟨h0, h2, h1.1, h1.2⟩)
  · exact .inl ⟨h0, add_1 h0⟩
theorem chk_plat (evs : List Ev) : (¬ recE evs = 0 ∧ platT evs = []) ∨ (recE evs = 0 ∧ platT evs = platE evs) := by
  by_cases h0 : recE evs = 0
  · exact .inr ⟨h0, by rw [platT, if_pos h0]⟩
  · exact .inl ⟨h0, by rw [platT, if_neg h0]⟩
theorem platT_len (evs : List Ev) (hl : evs.length ≤ 405) : (platT evs).length ≤ 1000000 := by
  unfold platT
  split
  · exact plat_len evs hl
  · exact Nat.zero_le _

theorem fr14 : (inFrame Try.f14.ntmps (Try.f14.body.getD .skip) && Try.f14.results.toList.all (resScope Try.f14.ntmps)) = true := by kernel_rfl
theorem checks (evs : List Ev) (e : Ev) : PCalls Try.prog 14 [.lit true 6 (evs.map Ev.enc), .agg e.enc] (.bool true) := by
  refine PCalls.of_code Try.func14 rfl rfl (by kernel_rfl) mixed fr14 (by show _ ≤ 89; simp) (.sc _) ?_
  have hA := chk_add evs e
  have hP := chk_plat evs
  refine pwp_seq_plain rfl fun K1 hK1 => ?_
  refine p_new rfl (e_box (n := 6) rfl rfl) ⟨rfl, by decide⟩ ?_
  refine p_step rfl (e_assign (v := .sc _) rfl) trivial ?_
  refine p_end (hK1 _ ?_); clear hK1 K1
  refine pwp_seq_seq ?_
  refine pwp_seq_plain rfl fun K2 hK2 => ?_
  refine p_call rfl .nil (awake) ?_
  refine p_step rfl (e_not rfl) trivial ?_
  refine p_end (hK2 _ ?_); clear hK2 K2
  refine pwp_seq_cond (t := false) rfl fun K3 hK3 => ⟨nofun, fun _ => ?_⟩
  refine pwp_skip ?_
  refine seq_norm (hK3 _ ?_); clear hK3 K3
  refine pwp_seq_seq ?_
  refine pwp_seq_cutG [0, 3] [(20, .bool ((!(shortB (evs))) || (decide ((30) < ((e.platform).size : Int)))))] (fun K4 hK4 => ?_) (fun r5 => ?_)
  ·skip
   refine pwp_gops rfl fun K6 hK6 => ?_
   refine g_begin ?_
   refine g_step rfl rfl rfl rfl (e_move (v := .lit _ _ _) rfl) trivial ?_
   refine g_call rfl rfl rfl rfl (.cons inn_lit .nil) (short _) ?_
   refine g_step rfl rfl rfl rfl (e_not rfl) trivial ?_
   refine g_step rfl rfl rfl rfl (e_move (v := .sc _) rfl) trivial ?_
   refine g_cases (fun hb7 => ?_) (fun hb7 => ?_)
   ·have hb7R := hb7; (try simp only [z1, z2, z3, z4, z5, z6, ne_eq, z7, z8, z9, z10, z11, z12] at hb7); (try (have hlen405 := short_len hb7)); (try (have hlen405 := short_len hb7.1)); (try (have hrec : recE evs = 0 := hb7))
    refine g_skip rfl rfl rfl ?_
    refine g_skip rfl rfl rfl ?_
    refine g_skip rfl rfl rfl ?_
    refine g_skip rfl rfl rfl ?_
    refine g_step rfl rfl rfl rfl (e_pickT (v := .sc _) rfl rfl) trivial ?_
    refine g_end (ds := [16, 17, 18, 19]) rfl rfl (hK6 _ ?_); clear hK6 K6
    exact seq_norm (hK4 _ ⟨rfl, rfl, trivial⟩ ⟨(congrArg PV.bool (show (true : Bool) = ((!(shortB (evs))) || (decide ((30) < ((e.platform).size : Int)))) by first | rfl | ((try rw [hb7R]) <;> (first | rfl | (simp only [Bool.and_true, Bool.and_false, Bool.true_and, Bool.false_and, Bool.or_true, Bool.or_false, Bool.true_or, Bool.false_or, Bool.not_true, Bool.not_false, if_true, if_false, Bool.false_eq_true, reduceIte] <;> rfl))) | (simp only [hb7R, Bool.and_true, Bool.and_false, Bool.true_and, Bool.false_and, Bool.or_true, Bool.or_false, Bool.true_or, Bool.false_or, Bool.not_true, Bool.not_false, if_true, if_false, Bool.false_eq_true, reduceIte] <;> rfl))), trivial⟩)
   ·have hb7R := hb7; (try simp only [z1, z2, z3, z4, z5, z6, ne_eq, z7, z8, z9, z10, z11, z12] at hb7); (try (have hlen405 := short_len hb7)); (try (have hlen405 := short_len hb7.1)); (try (have hrec : recE evs = 0 := hb7))
    refine g_step rfl rfl rfl rfl (e_faP (pl := [(0, 1, false), (1, 1, false), (2, 1, false), (3, 1, false), (4, 1, false), (5, 1, false)]) rfl (by kernel_rfl) (by kernel_rfl) (by decide) rfl) trivial ?_
    refine g_step rfl rfl rfl rfl (e_loadH (v := .sc _) rfl (hset_self _ _ _) (by kernel_rfl) (by kernel_rfl) (by kernel_rfl) (by exact Nat.zero_lt_one) (by decide) rfl) trivial ?_
    refine g_step rfl rfl rfl rfl (e_lenS rfl (by kernel_rfl)) trivial ?_
    refine g_step rfl rfl rfl rfl (e_gt rfl rfl) trivial ?_
    refine g_step rfl rfl rfl rfl (e_pickF (v := .sc _) rfl rfl) trivial ?_
    refine g_end (ds := [16, 17, 18, 19]) rfl rfl (hK6 _ ?_); clear hK6 K6
    exact seq_norm (hK4 _ ⟨rfl, rfl, trivial⟩ ⟨(congrArg PV.bool (show ((decide ((30) < ((e.platform).size : Int))) : Bool) = ((!(shortB (evs))) || (decide ((30) < ((e.platform).size : Int)))) by first | rfl | ((try rw [hb7R]) <;> (first | rfl | (simp only [Bool.and_true, Bool.and_false, Bool.true_and, Bool.false_and, Bool.or_true, Bool.or_false, Bool.true_or, Bool.false_or, Bool.not_true, Bool.not_false, if_true, if_false, Bool.false_eq_true, reduceIte] <;> rfl))) | (simp only [hb7R, Bool.and_true, Bool.and_false, Bool.true_and, Bool.false_and, Bool.or_true, Bool.or_false, Bool.true_or, Bool.false_or, Bool.not_true, Bool.not_false, if_true, if_false, Bool.false_eq_true, reduceIte] <;> rfl))), trivial⟩)
  ·skip
   refine pwp_seq_cond rfl fun K8 hK8 => ⟨fun hb9 => ?_, fun hb9 => ?_⟩
   ·have hb9R := hb9; (try simp only [z1, z2, z3, z4, z5, z6, ne_eq, z7, z8, z9, z10, z11, z12] at hb9); (try (have hlen405 := short_len hb9)); (try (have hlen405 := short_len hb9.1)); (try (have hrec : recE evs = 0 := hb9))
    refine pwp_seq_plain rfl fun K10 hK10 => ?_
    refine p_step rfl (e_assign (v := .sc _) rfl) trivial ?_
    refine p_end (hK10 _ ?_); clear hK10 K10
    refine pwp_ret ?_
    refine ret_seq ?_
    refine end1 (v := .sc _) rfl ?_
    first
      | exact out_b rfl
      | (rcases hA with ⟨h1, h2, h3⟩ | ⟨h1, h2, h3, h4⟩ | ⟨h1, h2, h3, h4⟩ <;> rcases hP with ⟨h5, h6⟩ | ⟨h5, h6⟩ <;> (first | exact out_b (by simp_all) | (exfalso; simp_all; done)))
   ·have hb9R := hb9; (try simp only [z1, z2, z3, z4, z5, z6, ne_eq, z7, z8, z9, z10, z11, z12] at hb9); (try (have hlen405 := short_len hb9)); (try (have hlen405 := short_len hb9.1)); (try (have hrec : recE evs = 0 := hb9))
    refine pwp_skip ?_
    refine seq_norm (hK8 _ ?_); clear hK8 K8
    refine pwp_seq_plain rfl fun K11 hK11 => ?_
    refine p_step rfl (e_move (v := .lit _ _ _) rfl) trivial ?_
    refine p_call rfl (.cons inn_lit .nil) (refCheckRecord _ (by first | exact hlen405 | (have := rec_len hrec; simp only [List.length_append, List.length_cons, List.length_nil]; omega))) ?_
    refine p_step rfl (e_assign (v := .sc _) rfl) trivial ?_
    refine p_end (hK11 _ ?_); clear hK11 K11
    refine pwp_seq_plain rfl fun K12 hK12 => ?_
    refine p_step rfl (e_move (v := .lit _ _ _) rfl) trivial ?_
    refine p_call rfl (.cons inn_lit .nil) (copied _ hlen405) ?_
    refine p_call rfl (.cons inn_lit .nil) (PlatformsP _ hlen405) ?_
    refine p_step rfl (e_move (v := .tup _) rfl) trivial ?_
    refine p_step rfl (e_ext (v := .lit _ _ _) rfl (by simp) rfl) trivial ?_
    refine p_step rfl (e_ext (v := .sc _) rfl (by simp) rfl) trivial ?_
    refine p_step rfl (e_assign (v := .lit _ _ _) rfl) trivial ?_
    refine p_step rfl (e_assign (v := .sc _) rfl) trivial ?_
    refine p_end (hK12 _ ?_); clear hK12 K12
    refine pwp_seq_gops rfl fun K13 hK13 => ?_
    refine g_begin ?_
    refine g_step rfl rfl rfl rfl (e_move (v := .lit _ _ _) rfl) trivial ?_
    refine g_call rfl rfl rfl rfl (.cons inn_lit .nil) (copied _ hlen405) ?_
    refine g_step rfl rfl rfl rfl (e_loadHA (n := 6) rfl (hset_self _ _ _) (by kernel_rfl) (by kernel_rfl) (by kernel_rfl) (by exact Nat.zero_lt_one) (by decide) rfl) trivial ?_
    refine g_call rfl rfl rfl rfl (.cons inn_lit (.cons (inn_agg (Ev.pure _)) .nil)) (Add _ _ hlen405) ?_
    refine g_step rfl rfl rfl rfl (e_move (v := .tup _) rfl) trivial ?_
    refine g_step rfl rfl rfl rfl (e_ext (v := .lit _ _ _) rfl (by simp) rfl) trivial ?_
    refine g_step rfl rfl rfl rfl (e_ext (v := .sc _) rfl (by simp) rfl) trivial ?_
    refine g_step rfl rfl rfl rfl (e_assign (v := .lit _ _ _) rfl) trivial ?_
    refine g_step rfl rfl rfl rfl (e_assign (v := .sc _) rfl) trivial ?_
    refine g_end (ds := []) (by kernel_rfl) rfl (hK13 _ ?_); clear hK13 K13
    refine pwp_seq_seq ?_
    refine pwp_seq_plain rfl fun K14 hK14 => ?_
    refine p_step rfl (e_move (v := .lit _ _ _) rfl) trivial ?_
    refine p_call rfl (.cons inn_lit .nil) (copied _ hlen405) ?_
    refine p_call rfl (.cons inn_lit .nil) (CheckRecord _ hlen405) ?_
    refine p_step rfl (e_move (v := .sc _) rfl) trivial ?_
    refine p_step rfl (e_ne rfl rfl) trivial ?_
    refine p_end (hK14 _ ?_); clear hK14 K14
    refine pwp_seq_cond rfl fun K15 hK15 => ⟨fun hb16 => ?_, fun hb16 => ?_⟩
    ·have hb16R := hb16; (try simp only [z1, z2, z3, z4, z5, z6, ne_eq, z7, z8, z9, z10, z11, z12] at hb16); (try (have hlen405 := short_len hb16)); (try (have hlen405 := short_len hb16.1)); (try (have hrec : recE evs = 0 := hb16))
     refine pwp_seq_plain rfl fun K17 hK17 => ?_
     refine p_step rfl (e_assign (v := .sc _) rfl) trivial ?_
     refine p_end (hK17 _ ?_); clear hK17 K17
     refine pwp_ret ?_
     refine ret_seq ?_
     refine end1 (v := .sc _) rfl ?_
     first
       | exact out_b rfl
       | (rcases hA with ⟨h1, h2, h3⟩ | ⟨h1, h2, h3, h4⟩ | ⟨h1, h2, h3, h4⟩ <;> rcases hP with ⟨h5, h6⟩ | ⟨h5, h6⟩ <;> (first | exact out_b (by simp_all) | (exfalso; simp_all; done)))
    ·have hb16R := hb16; (try simp only [z1, z2, z3, z4, z5, z6, ne_eq, z7, z8, z9, z10, z11, z12] at hb16); (try (have hlen405 := short_len hb16)); (try (have hlen405 := short_len hb16.1)); (try (have hrec : recE evs = 0 := hb16))
     refine pwp_skip ?_
     refine seq_norm (hK15 _ ?_); clear hK15 K15
     refine pwp_seq_seq ?_
     refine pwp_seq_plain rfl fun K18 hK18 => ?_
     refine p_step rfl (e_move (v := .sc _) rfl) trivial ?_
     refine p_step rfl (e_ne rfl rfl) trivial ?_
     refine p_end (hK18 _ ?_); clear hK18 K18
     refine pwp_seq_cutG [0, 3, 5, 8, 9] [] (fun K19 hK19 => ?_) (fun r20 => ?_)
     ·skip
      refine pwp_cond rfl (fun hb21 => ?_) (fun hb21 => ?_)
      ·have hb21R := hb21; (try simp only [z1, z2, z3, z4, z5, z6, ne_eq, z7, z8, z9, z10, z11, z12] at hb21); (try (have hlen405 := short_len hb21)); (try (have hlen405 := short_len hb21.1)); (try (have hrec : recE evs = 0 := hb21))
       refine pwp_seq_cutG [0, 3, 5, 8, 9] [(50, .bool ((decide ((recE (evs)) ≠ (recE (evs)))) || (decide (((((platT (evs)).map cb).length : Nat) : Int) ≠ (0)))))] (fun K22 hK22 => ?_) (fun r23 => ?_)
       ·skip
        refine pwp_gops rfl fun K24 hK24 => ?_
        refine g_begin ?_
        refine g_step rfl rfl rfl rfl (e_move (v := .sc _) rfl) trivial ?_
        refine g_step rfl rfl rfl rfl (e_move (v := .sc _) rfl) trivial ?_
        refine g_step rfl rfl rfl rfl (e_ne rfl rfl) trivial ?_
        refine g_step rfl rfl rfl rfl (e_move (v := .sc _) rfl) trivial ?_
        refine g_cases (fun hb25 => ?_) (fun hb25 => ?_)
        ·have hb25R := hb25; (try simp only [z1, z2, z3, z4, z5, z6, ne_eq, z7, z8, z9, z10, z11, z12] at hb25); (try (have hlen405 := short_len hb25)); (try (have hlen405 := short_len hb25.1)); (try (have hrec : recE evs = 0 := hb25))
         refine g_skip rfl rfl rfl ?_
         refine g_skip rfl rfl rfl ?_
         refine g_skip rfl rfl rfl ?_
         refine g_step rfl rfl rfl rfl (e_pickT (v := .sc _) rfl rfl) trivial ?_
         refine g_end (ds := [47, 48, 49]) rfl rfl (hK24 _ ?_); clear hK24 K24
         exact seq_norm (hK22 _ ⟨rfl, rfl, rfl, rfl, rfl, trivial⟩ ⟨(congrArg PV.bool (show (true : Bool) = ((decide ((recE (evs)) ≠ (recE (evs)))) || (decide (((((platT (evs)).map cb).length : Nat) : Int) ≠ (0)))) by first | rfl | ((try rw [hb25R]) <;> (first | rfl | (simp only [Bool.and_true, Bool.and_false, Bool.true_and, Bool.false_and, Bool.or_true, Bool.or_false, Bool.true_or, Bool.false_or, Bool.not_true, Bool.not_false, if_true, if_false, Bool.false_eq_true, reduceIte] <;> rfl))) | (simp only [hb25R, Bool.and_true, Bool.and_false, Bool.true_and, Bool.false_and, Bool.or_true, Bool.or_false, Bool.true_or, Bool.false_or, Bool.not_true, Bool.not_false, if_true, if_false, Bool.false_eq_true, reduceIte] <;> rfl))), trivial⟩)
        ·have hb25R := hb25; (try simp only [z1, z2, z3, z4, z5, z6, ne_eq, z7, z8, z9, z10, z11, z12] at hb25); (try (have hlen405 := short_len hb25)); (try (have hlen405 := short_len hb25.1)); (try (have hrec : recE evs = 0 := hb25))
         refine g_step rfl rfl rfl rfl (e_move (v := .lit _ _ _) rfl) trivial ?_
         refine g_step rfl rfl rfl rfl (e_len rfl (by kernel_rfl)) trivial ?_
         refine g_step rfl rfl rfl rfl (e_ne rfl rfl) trivial ?_
         refine g_step rfl rfl rfl rfl (e_pickF (v := .sc _) rfl rfl) trivial ?_
         refine g_end (ds := [47, 48, 49]) rfl rfl (hK24 _ ?_); clear hK24 K24
         exact seq_norm (hK22 _ ⟨rfl, rfl, rfl, rfl, rfl, trivial⟩ ⟨(congrArg PV.bool (show ((decide (((((platT (evs)).map cb).length : Nat) : Int) ≠ (0))) : Bool) = ((decide ((recE (evs)) ≠ (recE (evs)))) || (decide (((((platT (evs)).map cb).length : Nat) : Int) ≠ (0)))) by first | rfl | ((try rw [hb25R]) <;> (first | rfl | (simp only [Bool.and_true, Bool.and_false, Bool.true_and, Bool.false_and, Bool.or_true, Bool.or_false, Bool.true_or, Bool.false_or, Bool.not_true, Bool.not_false, if_true, if_false, Bool.false_eq_true, reduceIte] <;> rfl))) | (simp only [hb25R, Bool.and_true, Bool.and_false, Bool.true_and, Bool.false_and, Bool.or_true, Bool.or_false, Bool.true_or, Bool.false_or, Bool.not_true, Bool.not_false, if_true, if_false, Bool.false_eq_true, reduceIte] <;> rfl))), trivial⟩)
       ·skip
        refine pwp_cond rfl (fun hb26 => ?_) (fun hb26 => ?_)
        ·have hb26R := hb26; (try simp only [z1, z2, z3, z4, z5, z6, ne_eq, z7, z8, z9, z10, z11, z12] at hb26); (try (have hlen405 := short_len hb26)); (try (have hlen405 := short_len hb26.1)); (try (have hrec : recE evs = 0 := hb26))
         refine pwp_seq_plain rfl fun K27 hK27 => ?_
         refine p_step rfl (e_assign (v := .sc _) rfl) trivial ?_
         refine p_end (hK27 _ ?_); clear hK27 K27
         refine pwp_ret ?_
         refine ret_seq ?_
         refine end1 (v := .sc _) rfl ?_
         first
           | exact out_b rfl
           | (rcases hA with ⟨h1, h2, h3⟩ | ⟨h1, h2, h3, h4⟩ | ⟨h1, h2, h3, h4⟩ <;> rcases hP with ⟨h5, h6⟩ | ⟨h5, h6⟩ <;> (first | exact out_b (by simp_all) | (exfalso; simp_all; done)))
        ·have hb26R := hb26; (try simp only [z1, z2, z3, z4, z5, z6, ne_eq, z7, z8, z9, z10, z11, z12] at hb26); (try (have hlen405 := short_len hb26)); (try (have hlen405 := short_len hb26.1)); (try (have hrec : recE evs = 0 := hb26))
         refine pwp_skip ?_
         exact seq_norm (hK19 _ ⟨rfl, rfl, rfl, rfl, rfl, trivial⟩ trivial)
      ·have hb21R := hb21; (try simp only [z1, z2, z3, z4, z5, z6, ne_eq, z7, z8, z9, z10, z11, z12] at hb21); (try (have hlen405 := short_len hb21)); (try (have hlen405 := short_len hb21.1)); (try (have hrec : recE evs = 0 := hb21))
       refine pwp_seq_cutG [0, 3, 5, 8, 9] [(59, .bool ((decide ((recE (evs)) ≠ (0))) || (!(decide ((platT (evs)) = (platE (evs)))))))] (fun K28 hK28 => ?_) (fun r29 => ?_)
       ·skip
        refine pwp_gops rfl fun K30 hK30 => ?_
        refine g_begin ?_
        refine g_step rfl rfl rfl rfl (e_move (v := .sc _) rfl) trivial ?_
        refine g_step rfl rfl rfl rfl (e_ne rfl rfl) trivial ?_
        refine g_step rfl rfl rfl rfl (e_move (v := .sc _) rfl) trivial ?_
        refine g_cases (fun hb31 => ?_) (fun hb31 => ?_)
        ·have hb31R := hb31; (try simp only [z1, z2, z3, z4, z5, z6, ne_eq, z7, z8, z9, z10, z11, z12] at hb31); (try (have hlen405 := short_len hb31)); (try (have hlen405 := short_len hb31.1)); (try (have hrec : recE evs = 0 := hb31))
         refine g_skip rfl rfl rfl ?_
         refine g_skip rfl rfl rfl ?_
         refine g_nocall rfl rfl rfl ?_
         refine g_nocall rfl rfl rfl ?_
         refine g_skip rfl rfl rfl ?_
         refine g_step rfl rfl rfl rfl (e_pickT (v := .sc _) rfl rfl) trivial ?_
         refine g_end (ds := [54, 55, 56, 57, 58]) rfl rfl (hK30 _ ?_); clear hK30 K30
         exact seq_norm (hK28 _ ⟨rfl, rfl, rfl, rfl, rfl, trivial⟩ ⟨(congrArg PV.bool (show (true : Bool) = ((decide ((recE (evs)) ≠ (0))) || (!(decide ((platT (evs)) = (platE (evs)))))) by first | rfl | ((try rw [hb31R]) <;> (first | rfl | (simp only [Bool.and_true, Bool.and_false, Bool.true_and, Bool.false_and, Bool.or_true, Bool.or_false, Bool.true_or, Bool.false_or, Bool.not_true, Bool.not_false, if_true, if_false, Bool.false_eq_true, reduceIte] <;> rfl))) | (simp only [hb31R, Bool.and_true, Bool.and_false, Bool.true_and, Bool.false_and, Bool.or_true, Bool.or_false, Bool.true_or, Bool.false_or, Bool.not_true, Bool.not_false, if_true, if_false, Bool.false_eq_true, reduceIte] <;> rfl))), trivial⟩)
        ·have hb31R := hb31; (try simp only [z1, z2, z3, z4, z5, z6, ne_eq, z7, z8, z9, z10, z11, z12] at hb31); (try (have hlen405 := short_len hb31)); (try (have hlen405 := short_len hb31.1)); (try (have hrec : recE evs = 0 := hb31))
         refine g_step rfl rfl rfl rfl (e_move (v := .lit _ _ _) rfl) trivial ?_
         refine g_step rfl rfl rfl rfl (e_move (v := .lit _ _ _) rfl) trivial ?_
         refine g_call rfl rfl rfl rfl (.cons inn_lit .nil) (Platforms _ hlen405) ?_
         refine g_call rfl rfl rfl rfl (.cons inn_lit (.cons inn_lit .nil)) (Texts _ _ (platT_len _ hlen405)) ?_
         refine g_step rfl rfl rfl rfl (e_not rfl) trivial ?_
         refine g_step rfl rfl rfl rfl (e_pickF (v := .sc _) rfl rfl) trivial ?_
         refine g_end (ds := [54, 55, 56, 57, 58]) rfl rfl (hK30 _ ?_); clear hK30 K30
         exact seq_norm (hK28 _ ⟨rfl, rfl, rfl, rfl, rfl, trivial⟩ ⟨(congrArg PV.bool (show ((!(decide ((platT (evs)) = (platE (evs))))) : Bool) = ((decide ((recE (evs)) ≠ (0))) || (!(decide ((platT (evs)) = (platE (evs)))))) by first | rfl | ((try rw [hb31R]) <;> (first | rfl | (simp only [Bool.and_true, Bool.and_false, Bool.true_and, Bool.false_and, Bool.or_true, Bool.or_false, Bool.true_or, Bool.false_or, Bool.not_true, Bool.not_false, if_true, if_false, Bool.false_eq_true, reduceIte] <;> rfl))) | (simp only [hb31R, Bool.and_true, Bool.and_false, Bool.true_and, Bool.false_and, Bool.or_true, Bool.or_false, Bool.true_or, Bool.false_or, Bool.not_true, Bool.not_false, if_true, if_false, Bool.false_eq_true, reduceIte] <;> rfl))), trivial⟩)
       ·skip
        refine pwp_cond rfl (fun hb32 => ?_) (fun hb32 => ?_)
        ·have hb32R := hb32; (try simp only [z1, z2, z3, z4, z5, z6, ne_eq, z7, z8, z9, z10, z11, z12] at hb32); (try (have hlen405 := short_len hb32)); (try (have hlen405 := short_len hb32.1)); (try (have hrec : recE evs = 0 := hb32))
         refine pwp_seq_plain rfl fun K33 hK33 => ?_
         refine p_step rfl (e_assign (v := .sc _) rfl) trivial ?_
         refine p_end (hK33 _ ?_); clear hK33 K33
         refine pwp_ret ?_
         refine ret_seq ?_
         refine end1 (v := .sc _) rfl ?_
         first
           | exact out_b rfl
           | (rcases hA with ⟨h1, h2, h3⟩ | ⟨h1, h2, h3, h4⟩ | ⟨h1, h2, h3, h4⟩ <;> rcases hP with ⟨h5, h6⟩ | ⟨h5, h6⟩ <;> (first | exact out_b (by simp_all) | (exfalso; simp_all; done)))
        ·have hb32R := hb32; (try simp only [z1, z2, z3, z4, z5, z6, ne_eq, z7, z8, z9, z10, z11, z12] at hb32); (try (have hlen405 := short_len hb32)); (try (have hlen405 := short_len hb32.1)); (try (have hrec : recE evs = 0 := hb32))
         refine pwp_skip ?_
         exact seq_norm (hK19 _ ⟨rfl, rfl, rfl, rfl, rfl, trivial⟩ trivial)
     ·skip
      refine pwp_seq_seq ?_
      refine pwp_seq_plain rfl fun K34 hK34 => ?_
      refine p_step rfl (e_move (v := .sc _) rfl) trivial ?_
      refine p_step rfl (e_eq rfl rfl) trivial ?_
      refine p_end (hK34 _ ?_); clear hK34 K34
      refine pwp_seq_cond rfl fun K35 hK35 => ⟨fun hb36 => ?_, fun hb36 => ?_⟩
      ·have hb36R := hb36; (try simp only [z1, z2, z3, z4, z5, z6, ne_eq, z7, z8, z9, z10, z11, z12] at hb36); (try (have hlen405 := short_len hb36)); (try (have hlen405 := short_len hb36.1)); (try (have hrec : recE evs = 0 := hb36))
       refine pwp_gops rfl fun K37 hK37 => ?_
       refine s_begin ?_
       refine s_step [] (by simp) rfl rfl rfl rfl (e_move (v := .lit _ _ _) rfl) trivial ?_
       refine s_callN (args := [.lit _ _ _]) [] (by intro k hk; simp [keysOf, Go.Pv.keyOf] at hk) rfl rfl rfl rfl (.cons inn_lit .nil) (copiedN _ hlen405) ?_
       refine s_step [3] (by simp) rfl rfl rfl rfl (e_loadHA (n := 6) rfl ((hset_ne (key_ne rfl)).trans (hset_self _ _ _)) (by kernel_rfl) (by kernel_rfl) (by kernel_rfl) (by exact Nat.zero_lt_one) (by decide) rfl) trivial ?_
       refine s_new [] (by simp) rfl rfl rfl rfl (e_bslice (rows := [e.enc]) (zs := [.int 0, .int 0, .str ByteArray.empty, .int 0, .bool false, .bool false]) (sz := 6) (by kernel_rfl) (by kernel_rfl) rfl (by kernel_rfl) (by decide) rfl rfl (by exact ⟨by decide, rfl, rfl, trivial⟩) rfl) trivial ?_
       refine s_app [63, 65] [63, 66] (by simp) (by simp) (by simp) rfl rfl rfl (.ofRef ((hset_ne (key_ne rfl)).trans (hset_self _ _ _)) rfl) (SrcAt.ref (hset_self _ _ _) rfl) rfl (by kernel_rfl) (by simp only [List.length_append, List.length_map, List.length_nil, List.length_cons]; omega) fun v38 h39 c40 hs41 hf42 => ?_
       have ho43 := (hf42 (3, _) (key_ne rfl) (fun _ _ => key_ne rfl)).trans ((hset_ne (key_ne rfl)).trans ((hset_ne (key_ne rfl)).trans (hset_self _ _ _)))
       have ho44 := (hf42 (65, _) (key_ne rfl) (fun _ _ => key_ne rfl)).trans (hset_self _ _ _)
       refine s_call (args := [v38]) [66] (by intro k hk; simp only [List.flatMap_cons, List.flatMap_nil, List.append_nil, List.nil_append, keysOf_lit] at hk; exact List.mem_cons.2 (by have := sl_keys hs41 k hk; first | exact .inl this | exact .inr (by simp [this]))) rfl rfl rfl rfl (.cons (SliceAt.inn (rows' := ((evs ++ [e])).map Ev.enc) hs41 (by simp) (by (intro row hr; rcases List.mem_append.1 hr with hr | hr; exact pure_map Ev.pure row hr; simp at hr; subst hr; exact Ev.pure _))) .nil) (refCheckRecord _ (by first | exact hlen405 | (have := rec_len hrec; simp only [List.length_append, List.length_cons, List.length_nil]; omega))) ?_
       refine s_step [] (by simp) rfl rfl rfl rfl (e_assign (v := .sc _) rfl) trivial ?_
       refine s_end (ds := []) (by kernel_rfl) (by kernel_rfl) (hK37 _ ?_); clear hK37 K37
       refine seq_norm (hK35 _ ?_); clear hK35 K35
       refine pwp_seq_seq ?_
       refine pwp_seq_plain rfl fun K45 hK45 => ?_
       refine p_step rfl (e_move (v := .sc _) rfl) trivial ?_
       refine p_step rfl (e_ne rfl rfl) trivial ?_
       refine p_end (hK45 _ ?_); clear hK45 K45
       refine pwp_seq_cond rfl fun K46 hK46 => ⟨fun hb47 => ?_, fun hb47 => ?_⟩
       ·have hb47R := hb47; (try simp only [z1, z2, z3, z4, z5, z6, ne_eq, z7, z8, z9, z10, z11, z12] at hb47); (try (have hlen405 := short_len hb47)); (try (have hlen405 := short_len hb47.1)); (try (have hrec : recE evs = 0 := hb47))
        refine pwp_seq_cutG [] [(4, .bool ((decide ((addE (evs) e) = (recE ((evs ++ [e]))))) && (decide (((((addL (evs) e).map Ev.enc).length : Nat) : Int) = (0)))))] (fun K48 hK48 => ?_) (fun r49 => ?_)
        ·skip
         refine pwp_gops rfl fun K50 hK50 => ?_
         refine g_begin ?_
         refine g_step rfl rfl rfl rfl (e_move (v := .sc _) rfl) trivial ?_
         refine g_step rfl rfl rfl rfl (e_move (v := .sc _) rfl) trivial ?_
         refine g_step rfl rfl rfl rfl (e_eq rfl rfl) trivial ?_
         refine g_step rfl rfl rfl rfl (e_move (v := .sc _) rfl) trivial ?_
         refine g_cases (fun hb51 => ?_) (fun hb51 => ?_)
         ·have hb51R := hb51; (try simp only [z1, z2, z3, z4, z5, z6, ne_eq, z7, z8, z9, z10, z11, z12] at hb51); (try (have hlen405 := short_len hb51)); (try (have hlen405 := short_len hb51.1)); (try (have hrec : recE evs = 0 := hb51))
          refine g_step rfl rfl rfl rfl (e_move (v := .lit _ _ _) rfl) trivial ?_
          refine g_step rfl rfl rfl rfl (e_len rfl (by kernel_rfl)) trivial ?_
          refine g_step rfl rfl rfl rfl (e_eq rfl rfl) trivial ?_
          refine g_step rfl rfl rfl rfl (e_pickT (v := .sc _) rfl rfl) trivial ?_
          refine g_step rfl rfl rfl rfl (e_assign (v := .sc _) rfl) trivial ?_
          refine g_end (ds := [74, 75, 76]) rfl rfl (hK50 _ ?_); clear hK50 K50
          exact seq_norm (hK48 _ trivial ⟨(congrArg PV.bool (show ((decide (((((addL (evs) e).map Ev.enc).length : Nat) : Int) = (0))) : Bool) = ((decide ((addE (evs) e) = (recE ((evs ++ [e]))))) && (decide (((((addL (evs) e).map Ev.enc).length : Nat) : Int) = (0)))) by first | rfl | ((try rw [hb51R]) <;> (first | rfl | (simp only [Bool.and_true, Bool.and_false, Bool.true_and, Bool.false_and, Bool.or_true, Bool.or_false, Bool.true_or, Bool.false_or, Bool.not_true, Bool.not_false, if_true, if_false, Bool.false_eq_true, reduceIte] <;> rfl))) | (simp only [hb51R, Bool.and_true, Bool.and_false, Bool.true_and, Bool.false_and, Bool.or_true, Bool.or_false, Bool.true_or, Bool.false_or, Bool.not_true, Bool.not_false, if_true, if_false, Bool.false_eq_true, reduceIte] <;> rfl))), trivial⟩)
         ·have hb51R := hb51; (try simp only [z1, z2, z3, z4, z5, z6, ne_eq, z7, z8, z9, z10, z11, z12] at hb51); (try (have hlen405 := short_len hb51)); (try (have hlen405 := short_len hb51.1)); (try (have hrec : recE evs = 0 := hb51))
          refine g_skip rfl rfl rfl ?_
          refine g_skip rfl rfl rfl ?_
          refine g_skip rfl rfl rfl ?_
          refine g_step rfl rfl rfl rfl (e_pickF (v := .sc _) rfl rfl) trivial ?_
          refine g_step rfl rfl rfl rfl (e_assign (v := .sc _) rfl) trivial ?_
          refine g_end (ds := [74, 75, 76]) rfl rfl (hK50 _ ?_); clear hK50 K50
          exact seq_norm (hK48 _ trivial ⟨(congrArg PV.bool (show (false : Bool) = ((decide ((addE (evs) e) = (recE ((evs ++ [e]))))) && (decide (((((addL (evs) e).map Ev.enc).length : Nat) : Int) = (0)))) by first | rfl | ((try rw [hb51R]) <;> (first | rfl | (simp only [Bool.and_true, Bool.and_false, Bool.true_and, Bool.false_and, Bool.or_true, Bool.or_false, Bool.true_or, Bool.false_or, Bool.not_true, Bool.not_false, if_true, if_false, Bool.false_eq_true, reduceIte] <;> rfl))) | (simp only [hb51R, Bool.and_true, Bool.and_false, Bool.true_and, Bool.false_and, Bool.or_true, Bool.or_false, Bool.true_or, Bool.false_or, Bool.not_true, Bool.not_false, if_true, if_false, Bool.false_eq_true, reduceIte] <;> rfl))), trivial⟩)
        ·skip
         refine pwp_ret ?_
         refine ret_seq ?_
         refine end1 (v := .sc _) rfl ?_
         first
           | exact out_b rfl
           | (rcases hA with ⟨h1, h2, h3⟩ | ⟨h1, h2, h3, h4⟩ | ⟨h1, h2, h3, h4⟩ <;> rcases hP with ⟨h5, h6⟩ | ⟨h5, h6⟩ <;> (first | exact out_b (by simp_all) | (exfalso; simp_all; done)))
       ·have hb47R := hb47; (try simp only [z1, z2, z3, z4, z5, z6, ne_eq, z7, z8, z9, z10, z11, z12] at hb47); (try (have hlen405 := short_len hb47)); (try (have hlen405 := short_len hb47.1)); (try (have hrec : recE evs = 0 := hb47))
        refine pwp_skip ?_
        refine seq_norm (hK46 _ ?_); clear hK46 K46
        refine pwp_seq_gops rfl fun K52 hK52 => ?_
        refine s_begin ?_
        refine s_step [] (by simp) rfl rfl rfl rfl (e_move (v := .sc _) rfl) trivial ?_
        refine s_step [] (by simp) rfl rfl rfl rfl (e_eq rfl rfl) trivial ?_
        refine s_step [] (by simp) rfl rfl rfl rfl (e_move (v := .sc _) rfl) trivial ?_
        refine s_cases (fun hb53 => ?_) (fun hb53 => ?_)
        ·have hb53R := hb53; (try simp only [z1, z2, z3, z4, z5, z6, ne_eq, z7, z8, z9, z10, z11, z12] at hb53); (try (have hlen405 := short_len hb53)); (try (have hlen405 := short_len hb53.1)); (try (have hrec : recE evs = 0 := hb53))
         refine s_step [] (by simp) rfl rfl rfl rfl (e_move (v := .lit _ _ _) rfl) trivial ?_
         refine s_step [] (by simp) rfl rfl rfl rfl (e_move (v := .lit _ _ _) rfl) trivial ?_
         refine s_callN (args := [.lit _ _ _]) [] (by intro k hk; simp [keysOf, Go.Pv.keyOf] at hk) rfl rfl rfl rfl (.cons inn_lit .nil) (copiedN _ hlen405) ?_
         refine s_step [3] (by simp) rfl rfl rfl rfl (e_loadHA (n := 6) rfl ((hset_ne (key_ne rfl)).trans ho43) (by kernel_rfl) (by kernel_rfl) (by kernel_rfl) (by exact Nat.zero_lt_one) (by decide) rfl) trivial ?_
         refine s_new [] (by simp) rfl rfl rfl rfl (e_bslice (rows := [e.enc]) (zs := [.int 0, .int 0, .str ByteArray.empty, .int 0, .bool false, .bool false]) (sz := 6) (by kernel_rfl) (by kernel_rfl) rfl (by kernel_rfl) (by decide) rfl rfl (by exact ⟨by decide, rfl, rfl, trivial⟩) rfl) trivial ?_
         refine s_appG [83, 85] [83, 86] rfl rfl (by simp) (by simp) (by simp) rfl rfl rfl (.ofRef ((hset_ne (key_ne rfl)).trans (hset_self _ _ _)) rfl) (SrcAt.ref (hset_self _ _ _) rfl) rfl (by kernel_rfl) (by simp only [List.length_append, List.length_map, List.length_nil, List.length_cons]; omega) fun v54 h55 c56 hs57 hf58 => ?_
         have ho59 := (hf58 (3, _) (key_ne rfl) (fun _ _ => key_ne rfl)).trans ((hset_ne (key_ne rfl)).trans ((hset_ne (key_ne rfl)).trans ho43))
         have ho60 := (hf58 (65, _) (key_ne rfl) (fun _ _ => key_ne rfl)).trans ((hset_ne (key_ne rfl)).trans ((hset_ne (key_ne rfl)).trans ho44))
         have ho61 := (hf58 (85, _) (key_ne rfl) (fun _ _ => key_ne rfl)).trans (hset_self _ _ _)
         have hs62 := ((hs41.keep fun _ => (hset_ne (key_ne rfl)).trans ((hset_ne (key_ne rfl)).trans (rfl)))).keep fun g => (hf58 (66, g) (key_ne rfl) (fun _ _ => key_ne rfl))
         refine s_call (args := [.lit _ _ _, v54]) [86] (by intro k hk; simp only [List.flatMap_cons, List.flatMap_nil, List.append_nil, List.nil_append, keysOf_lit] at hk; exact List.mem_cons.2 (by have := sl_keys hs57 k hk; first | exact .inl this | exact .inr (by simp [this]))) rfl rfl rfl rfl (.cons inn_lit (.cons (SliceAt.inn (rows' := ((evs ++ [e])).map Ev.enc) hs57 (by simp) (by (intro row hr; rcases List.mem_append.1 hr with hr | hr; exact pure_map Ev.pure row hr; simp at hr; subst hr; exact Ev.pure _))) .nil)) (sameRecord _ _ (addL_len _ _)) ?_
         refine s_step [] (by simp) rfl rfl rfl rfl (e_pickT (v := .sc _) rfl rfl) trivial ?_
         refine s_step [] (by simp) rfl rfl rfl rfl (e_assign (v := .sc _) rfl) trivial ?_
         refine s_end (ds := [81, 82, 83, 84, 85, 86, 87]) (by kernel_rfl) (by kernel_rfl) (hK52 _ ?_); clear hK52 K52
         refine pwp_ret ?_
         refine end1 (v := .sc _) rfl ?_
         first
           | exact out_b rfl
           | (rcases hA with ⟨h1, h2, h3⟩ | ⟨h1, h2, h3, h4⟩ | ⟨h1, h2, h3, h4⟩ <;> rcases hP with ⟨h5, h6⟩ | ⟨h5, h6⟩ <;> (first | exact out_b (by simp_all) | (exfalso; simp_all; done)))
        ·have hb53R := hb53; (try simp only [z1, z2, z3, z4, z5, z6, ne_eq, z7, z8, z9, z10, z11, z12] at hb53); (try (have hlen405 := short_len hb53)); (try (have hlen405 := short_len hb53.1)); (try (have hrec : recE evs = 0 := hb53))
         refine s_skip rfl rfl rfl ?_
         refine s_skip rfl rfl rfl ?_
         refine s_nocall (args := [.dead]) [] (by intro k hk; simp [keysOf, Go.Pv.keyOf] at hk) rfl rfl rfl ?_
         refine s_skip rfl rfl rfl ?_
         refine s_skip rfl rfl rfl ?_
         refine s_skip rfl rfl rfl ?_
         refine s_nocall (args := [.dead, .dead]) [] (by intro k hk; simp [keysOf, Go.Pv.keyOf] at hk) rfl rfl rfl ?_
         refine s_step [] (by simp) rfl rfl rfl rfl (e_pickF (v := .sc _) rfl rfl) trivial ?_
         refine s_step [] (by simp) rfl rfl rfl rfl (e_assign (v := .sc _) rfl) trivial ?_
         refine s_end (ds := [81, 82, 83, 84, 85, 86, 87]) (by kernel_rfl) (by kernel_rfl) (hK52 _ ?_); clear hK52 K52
         refine pwp_ret ?_
         refine end1 (v := .sc _) rfl ?_
         first
           | exact out_b rfl
           | (rcases hA with ⟨h1, h2, h3⟩ | ⟨h1, h2, h3, h4⟩ | ⟨h1, h2, h3, h4⟩ <;> rcases hP with ⟨h5, h6⟩ | ⟨h5, h6⟩ <;> (first | exact out_b (by simp_all) | (exfalso; simp_all; done)))
      ·have hb36R := hb36; (try simp only [z1, z2, z3, z4, z5, z6, ne_eq, z7, z8, z9, z10, z11, z12] at hb36); (try (have hlen405 := short_len hb36)); (try (have hlen405 := short_len hb36.1)); (try (have hrec : recE evs = 0 := hb36))
       refine pwp_skip ?_
       refine seq_norm (hK35 _ ?_); clear hK35 K35
       refine pwp_seq_seq ?_
       refine pwp_seq_plain rfl fun K63 hK63 => ?_
       refine p_step rfl (e_move (v := .sc _) rfl) trivial ?_
       refine p_step rfl (e_ne rfl rfl) trivial ?_
       refine p_end (hK63 _ ?_); clear hK63 K63
       refine pwp_seq_cond rfl fun K64 hK64 => ⟨fun hb65 => ?_, fun hb65 => ?_⟩
       ·have hb65R := hb65; (try simp only [z1, z2, z3, z4, z5, z6, ne_eq, z7, z8, z9, z10, z11, z12] at hb65); (try (have hlen405 := short_len hb65)); (try (have hlen405 := short_len hb65.1)); (try (have hrec : recE evs = 0 := hb65))
        refine pwp_seq_cutG [] [(4, .bool ((decide ((addE (evs) e) = (recE (evs)))) && (decide (((((addL (evs) e).map Ev.enc).length : Nat) : Int) = (0)))))] (fun K66 hK66 => ?_) (fun r67 => ?_)
        ·skip
         refine pwp_gops rfl fun K68 hK68 => ?_
         refine g_begin ?_
         refine g_step rfl rfl rfl rfl (e_move (v := .sc _) rfl) trivial ?_
         refine g_step rfl rfl rfl rfl (e_move (v := .sc _) rfl) trivial ?_
         refine g_step rfl rfl rfl rfl (e_eq rfl rfl) trivial ?_
         refine g_step rfl rfl rfl rfl (e_move (v := .sc _) rfl) trivial ?_
         refine g_cases (fun hb69 => ?_) (fun hb69 => ?_)
         ·have hb69R := hb69; (try simp only [z1, z2, z3, z4, z5, z6, ne_eq, z7, z8, z9, z10, z11, z12] at hb69); (try (have hlen405 := short_len hb69)); (try (have hlen405 := short_len hb69.1)); (try (have hrec : recE evs = 0 := hb69))
          refine g_step rfl rfl rfl rfl (e_move (v := .lit _ _ _) rfl) trivial ?_
          refine g_step rfl rfl rfl rfl (e_len rfl (by kernel_rfl)) trivial ?_
          refine g_step rfl rfl rfl rfl (e_eq rfl rfl) trivial ?_
          refine g_step rfl rfl rfl rfl (e_pickT (v := .sc _) rfl rfl) trivial ?_
          refine g_step rfl rfl rfl rfl (e_assign (v := .sc _) rfl) trivial ?_
          refine g_end (ds := [74, 75, 76]) rfl rfl (hK68 _ ?_); clear hK68 K68
          exact seq_norm (hK66 _ trivial ⟨(congrArg PV.bool (show ((decide (((((addL (evs) e).map Ev.enc).length : Nat) : Int) = (0))) : Bool) = ((decide ((addE (evs) e) = (recE (evs)))) && (decide (((((addL (evs) e).map Ev.enc).length : Nat) : Int) = (0)))) by first | rfl | ((try rw [hb69R]) <;> (first | rfl | (simp only [Bool.and_true, Bool.and_false, Bool.true_and, Bool.false_and, Bool.or_true, Bool.or_false, Bool.true_or, Bool.false_or, Bool.not_true, Bool.not_false, if_true, if_false, Bool.false_eq_true, reduceIte] <;> rfl))) | (simp only [hb69R, Bool.and_true, Bool.and_false, Bool.true_and, Bool.false_and, Bool.or_true, Bool.or_false, Bool.true_or, Bool.false_or, Bool.not_true, Bool.not_false, if_true, if_false, Bool.false_eq_true, reduceIte] <;> rfl))), trivial⟩)
         ·have hb69R := hb69; (try simp only [z1, z2, z3, z4, z5, z6, ne_eq, z7, z8, z9, z10, z11, z12] at hb69); (try (have hlen405 := short_len hb69)); (try (have hlen405 := short_len hb69.1)); (try (have hrec : recE evs = 0 := hb69))
          refine g_skip rfl rfl rfl ?_
          refine g_skip rfl rfl rfl ?_
          refine g_skip rfl rfl rfl ?_
          refine g_step rfl rfl rfl rfl (e_pickF (v := .sc _) rfl rfl) trivial ?_
          refine g_step rfl rfl rfl rfl (e_assign (v := .sc _) rfl) trivial ?_
          refine g_end (ds := [74, 75, 76]) rfl rfl (hK68 _ ?_); clear hK68 K68
          exact seq_norm (hK66 _ trivial ⟨(congrArg PV.bool (show (false : Bool) = ((decide ((addE (evs) e) = (recE (evs)))) && (decide (((((addL (evs) e).map Ev.enc).length : Nat) : Int) = (0)))) by first | rfl | ((try rw [hb69R]) <;> (first | rfl | (simp only [Bool.and_true, Bool.and_false, Bool.true_and, Bool.false_and, Bool.or_true, Bool.or_false, Bool.true_or, Bool.false_or, Bool.not_true, Bool.not_false, if_true, if_false, Bool.false_eq_true, reduceIte] <;> rfl))) | (simp only [hb69R, Bool.and_true, Bool.and_false, Bool.true_and, Bool.false_and, Bool.or_true, Bool.or_false, Bool.true_or, Bool.false_or, Bool.not_true, Bool.not_false, if_true, if_false, Bool.false_eq_true, reduceIte] <;> rfl))), trivial⟩)
        ·skip
         refine pwp_ret ?_
         refine ret_seq ?_
         refine end1 (v := .sc _) rfl ?_
         first
           | exact out_b rfl
           | (rcases hA with ⟨h1, h2, h3⟩ | ⟨h1, h2, h3, h4⟩ | ⟨h1, h2, h3, h4⟩ <;> rcases hP with ⟨h5, h6⟩ | ⟨h5, h6⟩ <;> (first | exact out_b (by simp_all) | (exfalso; simp_all; done)))
       ·have hb65R := hb65; (try simp only [z1, z2, z3, z4, z5, z6, ne_eq, z7, z8, z9, z10, z11, z12] at hb65); (try (have hlen405 := short_len hb65)); (try (have hlen405 := short_len hb65.1)); (try (have hrec : recE evs = 0 := hb65))
        refine pwp_skip ?_
        refine seq_norm (hK64 _ ?_); clear hK64 K64
        refine pwp_seq_gops rfl fun K70 hK70 => ?_
        refine s_begin ?_
        refine s_step [] (by simp) rfl rfl rfl rfl (e_move (v := .sc _) rfl) trivial ?_
        refine s_step [] (by simp) rfl rfl rfl rfl (e_eq rfl rfl) trivial ?_
        refine s_step [] (by simp) rfl rfl rfl rfl (e_move (v := .sc _) rfl) trivial ?_
        refine s_cases (fun hb71 => ?_) (fun hb71 => ?_)
        ·have hb71R := hb71; (try simp only [z1, z2, z3, z4, z5, z6, ne_eq, z7, z8, z9, z10, z11, z12] at hb71); (try (have hlen405 := short_len hb71)); (try (have hlen405 := short_len hb71.1)); (try (have hrec : recE evs = 0 := hb71))
         refine s_step [] (by simp) rfl rfl rfl rfl (e_move (v := .lit _ _ _) rfl) trivial ?_
         refine s_step [] (by simp) rfl rfl rfl rfl (e_move (v := .lit _ _ _) rfl) trivial ?_
         refine s_callN (args := [.lit _ _ _]) [] (by intro k hk; simp [keysOf, Go.Pv.keyOf] at hk) rfl rfl rfl rfl (.cons inn_lit .nil) (copiedN _ hlen405) ?_
         refine s_step [3] (by simp) rfl rfl rfl rfl (e_loadHA (n := 6) rfl ((hset_ne (key_ne rfl)).trans (hset_self _ _ _)) (by kernel_rfl) (by kernel_rfl) (by kernel_rfl) (by exact Nat.zero_lt_one) (by decide) rfl) trivial ?_
         refine s_new [] (by simp) rfl rfl rfl rfl (e_bslice (rows := [e.enc]) (zs := [.int 0, .int 0, .str ByteArray.empty, .int 0, .bool false, .bool false]) (sz := 6) (by kernel_rfl) (by kernel_rfl) rfl (by kernel_rfl) (by decide) rfl rfl (by exact ⟨by decide, rfl, rfl, trivial⟩) rfl) trivial ?_
         refine s_appG [83, 85] [83, 86] rfl rfl (by simp) (by simp) (by simp) rfl rfl rfl (.ofRef ((hset_ne (key_ne rfl)).trans (hset_self _ _ _)) rfl) (SrcAt.ref (hset_self _ _ _) rfl) rfl (by kernel_rfl) (by simp only [List.length_append, List.length_map, List.length_nil, List.length_cons]; omega) fun v72 h73 c74 hs75 hf76 => ?_
         have ho77 := (hf76 (3, _) (key_ne rfl) (fun _ _ => key_ne rfl)).trans ((hset_ne (key_ne rfl)).trans ((hset_ne (key_ne rfl)).trans (hset_self _ _ _)))
         have ho78 := (hf76 (85, _) (key_ne rfl) (fun _ _ => key_ne rfl)).trans (hset_self _ _ _)
         refine s_call (args := [.lit _ _ _, v72]) [86] (by intro k hk; simp only [List.flatMap_cons, List.flatMap_nil, List.append_nil, List.nil_append, keysOf_lit] at hk; exact List.mem_cons.2 (by have := sl_keys hs75 k hk; first | exact .inl this | exact .inr (by simp [this]))) rfl rfl rfl rfl (.cons inn_lit (.cons (SliceAt.inn (rows' := ((evs ++ [e])).map Ev.enc) hs75 (by simp) (by (intro row hr; rcases List.mem_append.1 hr with hr | hr; exact pure_map Ev.pure row hr; simp at hr; subst hr; exact Ev.pure _))) .nil)) (sameRecord _ _ (addL_len _ _)) ?_
         refine s_step [] (by simp) rfl rfl rfl rfl (e_pickT (v := .sc _) rfl rfl) trivial ?_
         refine s_step [] (by simp) rfl rfl rfl rfl (e_assign (v := .sc _) rfl) trivial ?_
         refine s_end (ds := [81, 82, 83, 84, 85, 86, 87]) (by kernel_rfl) (by kernel_rfl) (hK70 _ ?_); clear hK70 K70
         refine pwp_ret ?_
         refine end1 (v := .sc _) rfl ?_
         first
           | exact out_b rfl
           | (rcases hA with ⟨h1, h2, h3⟩ | ⟨h1, h2, h3, h4⟩ | ⟨h1, h2, h3, h4⟩ <;> rcases hP with ⟨h5, h6⟩ | ⟨h5, h6⟩ <;> (first | exact out_b (by simp_all) | (exfalso; simp_all; done)))
        ·have hb71R := hb71; (try simp only [z1, z2, z3, z4, z5, z6, ne_eq, z7, z8, z9, z10, z11, z12] at hb71); (try (have hlen405 := short_len hb71)); (try (have hlen405 := short_len hb71.1)); (try (have hrec : recE evs = 0 := hb71))
         refine s_skip rfl rfl rfl ?_
         refine s_skip rfl rfl rfl ?_
         refine s_nocall (args := [.dead]) [] (by intro k hk; simp [keysOf, Go.Pv.keyOf] at hk) rfl rfl rfl ?_
         refine s_skip rfl rfl rfl ?_
         refine s_skip rfl rfl rfl ?_
         refine s_skip rfl rfl rfl ?_
         refine s_nocall (args := [.dead, .dead]) [] (by intro k hk; simp [keysOf, Go.Pv.keyOf] at hk) rfl rfl rfl ?_
         refine s_step [] (by simp) rfl rfl rfl rfl (e_pickF (v := .sc _) rfl rfl) trivial ?_
         refine s_step [] (by simp) rfl rfl rfl rfl (e_assign (v := .sc _) rfl) trivial ?_
         refine s_end (ds := [81, 82, 83, 84, 85, 86, 87]) (by kernel_rfl) (by kernel_rfl) (hK70 _ ?_); clear hK70 K70
         refine pwp_ret ?_
         refine end1 (v := .sc _) rfl ?_
         first
           | exact out_b rfl
           | (rcases hA with ⟨h1, h2, h3⟩ | ⟨h1, h2, h3, h4⟩ | ⟨h1, h2, h3, h4⟩ <;> rcases hP with ⟨h5, h6⟩ | ⟨h5, h6⟩ <;> (first | exact out_b (by simp_all) | (exfalso; simp_all; done)))

end Go.Proofs.Ytdbpfhbppcpbbaa
