import Derived.Test.YtmlhhdiomijpfaaGreatDoorLin
import Derived.Test.YtmlhhdiomijpfaaGreatDoorEChk
import Derived.Test.YtmlhhdiomijpfaaGreatDoorERai
set_option linter.unusedSimpArgs false
set_option linter.unusedVariables false
set_option maxRecDepth 100000
namespace Go.Proofs.YtmlhhdiomijpfaaGreatDoor
open Go Go.Pv Go.Tx
open E7
def prsX (s : ByteArray) : List Task × Int × Int :=
 if 60000 < s.size then ([], 0, 8) else match parT (cutB 10 s) 0 with
   | .error n => ([], (n : Int), 7)
   | .ok ts => if planE ts ≠ 0 then ([], 0, planE ts) else (ts, 0, 0)
theorem prs_8 {s : ByteArray} (h : 60000 < s.size) : prsX s = ([], 0, 8) := by unfold prsX; rw [if_pos h]
theorem prs_7 {s : ByteArray} {n : Nat} {z : Int} (h : ¬ 60000 < s.size) (h2 : parT (cutB 10 s) 0 = .error n) (hz : z = (n : Int)) : prsX s = ([], z, 7) := by unfold prsX; rw [if_neg h, h2, hz]
theorem prs_e {s : ByteArray} {ts : List Task} (h : ¬ 60000 < s.size) (h2 : parT (cutB 10 s) 0 = .ok ts) (h3 : planE ts ≠ 0) : prsX s = ([], 0, planE ts) := by unfold prsX; rw [if_neg h, h2]; simp only; rw [if_pos h3]
theorem prs_0 {s : ByteArray} {ts : List Task} (h : ¬ 60000 < s.size) (h2 : parT (cutB 10 s) 0 = .ok ts) (h3 : planE ts = 0) : prsX s = (ts, 0, 0) := by unfold prsX; rw [if_neg h, h2]; simp only; rw [if_neg (fun q => q h3)]
def TaskF.enc (x : Task) : List PV := x.encF
theorem TaskF.pure (x : Task) : ∀ p ∈ TaskF.enc x, Pure p := x.pureF
theorem prs_oe {h : Heap} {a b : Int} {x : List Task × Int × Int} (hx : x = ([], a, b)) : Out h (.tup [.nil, .int a, .int b]) (.tup [.lit false 6 (x.1.map TaskF.enc), .int x.2.1, .int x.2.2]) := by
 subst hx; exact out_3 (.nil 6) (out_i rfl) (out_i rfl)
theorem prs_o {h : Heap} {v : PV} {d : Nat} {x : List Task × Int × Int} {ts : List Task} (hv : SliceAt h d v 6 (ts.map TaskF.enc)) (hx : x = (ts, 0, 0)) : Out h (.tup [v, .int 0, .int 0]) (.tup [.lit false 6 (x.1.map TaskF.enc), .int x.2.1, .int x.2.2]) := by
 subst hx; exact out_3 (out_slice hv rfl (fun _ => rfl) Task.cleanF) (out_i rfl) (out_i rfl)
theorem prs_pure (x : List Task × Int × Int) : Pure (.tup [.lit false 6 (x.1.map TaskF.enc), .int x.2.1, .int x.2.2]) := pure_3 (.lit _ _ _ fun row hr => pure_map TaskF.pure row hr) (.sc _) (.sc _)
theorem cutC10 (x : ByteArray) (hs : x.size ≤ 1000000) : PCalls Tryz.prog 31 [.str x, .str ⟨#[10]⟩] (.tup [.str (cut1 x), .str (cut2 x), .bool (cut3 x)]) := cutP x 10 (by omega)
theorem tsk_false {x : ByteArray} (h : (tskR x).2 = false) : taskP x = none := by
 unfold tskR at h; split at h
 · cases h
 · assumption
theorem tsk_true {x : ByteArray} (h : (tskR x).2 = true) : taskP x = some (tskR x).1 := by
 unfold tskR at h ⊢; split at h
 · rename_i t ht; rw [ht]
 · cases h
theorem cut_sz (r : ByteArray) : (cut1 r).size ≤ r.size ∧ (cut2 r).size ≤ r.size := by
 rcases cut_cases r with ⟨_, _, h⟩ | ⟨h, _, e⟩
 · omega
 · refine ⟨by rw [e]; exact Nat.le_refl _, ?_⟩;unfold cut2 cut3 at *;by_cases hm : (10 : UInt8) ∈ ls r
   · obtain ⟨p, q, hp, e2⟩ := mem_cut hm;rw [e2, cut_hit hp] at h; cases h
   · rw [cut_miss hm]; exact Nat.zero_le _
theorem cut_lt {r : ByteArray} (h : cut3 r = true) : (cut2 r).size < r.size := by
 rcases cut_cases r with ⟨_, _, h2⟩ | ⟨h2, _⟩
 · omega
 · rw [h2] at h; cases h
def LnOK (r : ByteArray) : Prop := ∀ x ∈ cutB 10 r, x.size ≤ 1000
theorem LnOK.one {r : ByteArray} (h : LnOK r) : (cut1 r).size ≤ 1000 := by
 rcases cut_cases r with ⟨_, e, _⟩ | ⟨_, e, e2⟩
 · exact h _ (by rw [e]; exact List.mem_cons_self ..)
 · rw [e2]; exact h _ (by rw [e]; exact List.mem_cons_self ..)
theorem LnOK.next {r : ByteArray} (h : LnOK r) (hc : cut3 r = true) : LnOK (cut2 r) ∧ (cutB 10 r).length = (cutB 10 (cut2 r)).length + 1 := by
 rcases cut_cases r with ⟨_, e, _⟩ | ⟨e, _⟩
 · exact ⟨fun x hx => h x (by rw [e]; exact List.mem_cons_of_mem _ hx), by rw [e, List.length_cons]⟩
 · rw [e] at hc; cases hc
theorem tsk_fair {x : ByteArray} (h : x.size ≤ 1000) : (tskR x).1.needs.length ≤ 1000 ∧ (tskR x).1.name.size ≤ 1000 ∧ (tskR x).1.trade.size ≤ 1000 := by
 have hl := cutB_len 32 x
 have hm : ∀ i, ((cutB 32 x).getD i default).size ≤ 1000 := fun i => by
   cases hg : (cutB 32 x)[i]? with
   | none => rw [List.getD_eq_getElem?_getD, hg]; exact Nat.zero_le _
   | some a => rw [List.getD_eq_getElem?_getD, hg]; have := cutB_le hg; show a.size ≤ 1000; omega
 unfold tskR;cases ht : taskP x with
 | none => exact ⟨Nat.zero_le _, Nat.zero_le _, Nat.zero_le _⟩
 | some t =>
   unfold taskP at ht;split at ht
   · cases ht
   · split at ht
     · rename_i vs hv;injection ht with ht; subst ht;have h1 := vals7_len hv;rw [wds_len] at h1;refine ⟨?_, hm 0, hm 1⟩;show (vs.drop 3).length ≤ 1000;rw [List.length_drop]; omega
     · cases ht
theorem fair_nil : E7.Fair [] := fun x h => by cases h
theorem fair_snoc {ts : List Task} {t : Task} (h : E7.Fair ts) (ht : t.needs.length ≤ 1000 ∧ t.name.size ≤ 1000 ∧ t.trade.size ≤ 1000) : E7.Fair (ts ++ [t]) := fun x hx => by
 rcases List.mem_append.1 hx with h1 | h1
 · exact h x h1
 · simp at h1; subst h1; exact ht
theorem task_raise (xs : List Task) : Raises [.lit true 6 (xs.map TaskF.enc)] [.lit true 6 (xs.map Task.enc)] := by
 have hn : ∀ l : List Int, Raise (.lit false 1 (l.map ci)) (.lit true 1 (l.map ci)) := fun l => .row rfl fun i row row' h1 h2 => by
   rw [h1] at h2; cases h2
   have : ∀ r : List PV, Raises r r := fun r => by
     induction r with
     | nil => exact .nil
     | cons p r ih => exact .cons (.same p) ih
   exact this row
 refine .cons (.row (by simp) fun i row row' h1 h2 => ?_) .nil;rw [List.getElem?_map] at h1 h2;cases hx : xs[i]? with
 | none => rw [hx] at h1; cases h1
 | some x =>
   rw [hx] at h1 h2;cases h1; cases h2;exact .cons (.same _) (.cons (.same _) (.cons (.same _) (.cons (.same _) (.cons (.same _) (.cons (hn x.needs) .nil)))))
theorem CheckF (xs : List Task) (hl : xs.length ≤ 10000) (hq : E7.Fair xs) : PCalls Tryz.prog 40 [.lit true 6 (xs.map TaskF.enc)] (.int (planE xs)) := PCalls.raise (CheckC xs hl hq) (task_raise xs)
theorem refCheckF (xs : List Task) (hl : xs.length ≤ 10000) (hq : E7.Fair xs) : PCalls Tryz.prog 17 [.lit true 6 (xs.map TaskF.enc)] (.int (planE xs)) := PCalls.raise (refCheckC xs hl hq) (task_raise xs)
theorem fr14 : (inFrame Tryz.f14.ntmps (Tryz.f14.body.getD .skip) && Tryz.f14.results.toList.all (resScope Tryz.f14.ntmps)) = true := by kernel_rfl
theorem eParseC (s : ByteArray) (hs : s.size ≤ 1000000) (hln0 : ¬ 60000 < s.size → LnOK s) (hcl0 : ¬ 60000 < s.size → (cutB 10 s).length ≤ 10000) : PCalls Tryz.prog 14 [.str s] (.tup [.lit false 6 ((prsX s).1.map TaskF.enc), .int (prsX s).2.1, .int (prsX s).2.2]) := by
 refine PCalls.of_code Tryz.func14 rfl rfl (by kernel_rfl) mixed fr14 (by show _ ≤ 49; simp) (prs_pure _) (pwp_seq_plain rfl fun K1 hK1 => p_e rfl (e_assign (v := .nil) rfl) (p_aS rfl (p_aS rfl (p_end (hK1 _ ?_))))); clear hK1 K1;refine pwp_seq_seq (pwp_seq_plain rfl fun K2 hK2 => p_mS rfl (p_e rfl (e_lenS rfl (by kernel_rfl)) (p_e rfl (e_gt rfl rfl) (p_end (hK2 _ ?_))))); clear hK2 K2;refine pwp_seq_cond rfl fun K3 hK3 => ⟨fun hb4 => ?_, fun hb4 => ?_⟩
 ·have hb4R := hb4; try simp only [zz] at hb4
  refine pwp_seq_plain rfl fun K5 hK5 => p_e rfl (e_assign (v := .nil) rfl) (p_aS rfl (p_aS rfl (p_end (hK5 _ ?_)))); clear hK5 K5;refine pwp_ret (ret_seq (end3 (v := .nil) (w := .sc _) (x := .sc _) rfl rfl rfl ?_))
  first
    | exact prs_oe (prs_8 (by omega))
    | (refine prs_oe (prs_7 (n := k + 1) (by omega) (hpt.bad hrn (.inr (tsk_false ?_))) (by omega)); first | assumption | (simp_all; done))
    | (refine prs_oe (prs_7 (n := k + 1) (by omega) (hpt.bad hrn (.inl ?_)) (by omega)); first | assumption | (simp_all; done))
    | exact prs_oe (prs_e (by omega) (PT.done (hrn ▸ hpt)) (by first | assumption | simp_all))
 ·have hb4R := hb4; try simp only [zz] at hb4
  have hcl := hcl0 (by omega);refine pwp_skip (seq_norm (hK3 _ ?_)); clear hK3 K3;refine pwp_seq_plain rfl fun K6 hK6 => p_e rfl (e_assign (v := .nil) rfl) (p_end (hK6 _ ?_)); clear hK6 K6;refine pwp_seq_seq (pwp_seq_plain rfl fun K7 hK7 => p_aS rfl (p_end (hK7 _ ?_))); clear hK7 K7;refine pwp_seq_block fun K8 hK8 => pwp_loopR (α := Nat × ByteArray × (List Task) × PV) [] (fun (a9 : Nat × ByteArray × (List Task) × PV) => [(0, .str (a9.2.1)), (5, (a9.2.2.2)), (6, .int (((a9.1) : Int) + 1))]) (fun (a9 : Nat × ByteArray × (List Task) × PV) (h : Heap) (_ : Nat → Nat) => ((a9.1) + (cutB 10 (a9.2.1)).length = (cutB 10 s).length) ∧ ((a9.2.2.1).length = (a9.1)) ∧ (PT s (a9.2.1) (a9.1) (a9.2.2.1)) ∧ (E7.Fair (a9.2.2.1)) ∧ (LnOK (a9.2.1)) ∧ ((a9.2.1).size ≤ s.size) ∧ (SliceAt h 41 (a9.2.2.2) 6 ((a9.2.2.1).map TaskF.enc))) (fun (a9 : Nat × ByteArray × (List Task) × PV) => (a9.2.1).size) (0, s, [], .nil) (by exact ⟨rfl, rfl, rfl, trivial⟩) (by exact ⟨by exact Nat.zero_add _, by exact rfl, by exact PT.start, by exact fair_nil, by exact hln0 (by omega), by exact Nat.le_refl _, .nil⟩) fun a9 r10 h11 c12 hj13 => ?_;obtain ⟨k, r, ts, v⟩ := a9;obtain ⟨hk, htl, hpt, hfair, hln, hrs, hihj13_0⟩ := hj13;try dsimp only at hk
  try dsimp only at htl
  try dsimp only at hpt
  try dsimp only at hfair
  try dsimp only at hln
  try dsimp only at hrs
  try dsimp only at hihj13_0
  show pwp _ _ (loopQ _ _ _) ⟨sets (mix _ _ _) [(0, .str r), (5, v), (6, .int ((k : Int) + 1))], _, _⟩;refine pwp_seq_seq (pwp_seq_plain rfl fun K14 hK14 => p_mS rfl (p_e rfl (e_sne rfl rfl) (p_end (hK14 _ ?_)))); clear hK14 K14;refine pwp_seq_cond rfl fun K15 hK15 => ⟨fun hb16 => ?_, fun hb16 => ?_⟩
  ·have hb16R := hb16; try simp only [zz] at hb16
   have hrn : r ≠ ⟨#[]⟩ := by first | assumption | simp_all
   have hcz := cut_sz r;refine pwp_skip (seq_norm (hK15 _ ?_)); clear hK15 K15;refine pwp_seq_block fun K17 hK17 => pwp_seq_plain rfl fun K18 hK18 => p_mS rfl (p_call rfl (.cons inn_sc (.cons inn_sc .nil)) (cutC10 r (by omega)) (p_e rfl (e_move (v := .tup _) rfl) (p_e rfl (e_ext (v := .sc _) rfl (by simp) rfl) (p_e rfl (e_ext (v := .sc _) rfl (by simp) rfl) (p_e rfl (e_ext (v := .sc _) rfl (by simp) rfl) ?_)))));refine p_aS rfl (p_aS rfl (p_aS rfl (p_end (hK18 _ ?_)))); clear hK18 K18;refine pwp_seq_plain rfl fun K19 hK19 => p_mS rfl (p_call rfl (.cons inn_sc .nil) (taskC _ (by omega)) (p_e rfl (e_move (v := .tup _) rfl) (p_e rfl (e_ext (v := .agg _) rfl (by simp) rfl) (p_e rfl (e_ext (v := .sc _) rfl (by simp) rfl) (p_new rfl (e_alloc (cs := [.str ByteArray.empty, .str ByteArray.empty, .int 0, .int 0, .int 0, .nil]) (n := 6) (by kernel_rfl) rfl (by decide)) (ob_alloc (by decide)) (p_store rfl (e_storeA rfl (hset_self _ _ _) rfl rfl rfl (by kernel_rfl) rfl (by kernel_rfl)) trivial ?_))))));refine p_aS rfl (p_end (hK19 _ ?_)); clear hK19 K19;refine pwp_seq_seq (pwp_seq_gops rfl fun K20 hK20 => g_begin (g_mS rfl rfl (g_e rfl (e_not rfl) (g_mS rfl rfl ?_))));refine g_cases (fun hb21 => ?_) (fun hb21 => ?_)
   ·have hb21R := hb21; try simp only [zz] at hb21
    iterate 2 refine g_skip rfl rfl rfl ?_
    refine g_pT rfl rfl rfl (g_end (ds := [34, 35]) rfl rfl (hK20 _ ?_)); clear hK20 K20;refine pwp_seq_cond (t := true) rfl fun K22 hK22 => ⟨fun _ => ?_, nofun⟩
    refine pwp_seq_plain rfl fun K23 hK23 => p_mS rfl (p_e rfl (e_assign (v := .nil) rfl) (p_aS rfl (p_aS rfl (p_end (hK23 _ ?_))))); clear hK23 K23;refine pwp_ret (ret_seq (ret_block (ret_seq (ret_loop (ret_block (ret_seq (end3 (v := .nil) (w := .sc _) (x := .sc _) rfl rfl rfl ?_)))))))
    first
      | exact prs_oe (prs_8 (by omega))
      | (refine prs_oe (prs_7 (n := k + 1) (by omega) (hpt.bad hrn (.inr (tsk_false ?_))) (by omega)); first | assumption | (simp_all; done))
      | (refine prs_oe (prs_7 (n := k + 1) (by omega) (hpt.bad hrn (.inl ?_)) (by omega)); first | assumption | (simp_all; done))
      | exact prs_oe (prs_e (by omega) (PT.done (hrn ▸ hpt)) (by first | assumption | simp_all))
      | exact prs_o (hihj13_0.keep fun _ => hzM rfl (hzM rfl (rfl))) (prs_0 (by omega) (PT.done (hrn ▸ hpt)) (by first | assumption | omega | simp_all))
   ·have hb21R := hb21; try simp only [zz] at hb21
    refine g_mS rfl rfl (g_e rfl (e_not rfl) (g_pF rfl rfl rfl (g_end (ds := [34, 35]) rfl rfl (hK20 _ ?_)))); clear hK20 K20;refine pwp_seq_cond rfl fun K24 hK24 => ⟨fun hb25 => ?_, fun hb25 => ?_⟩
    ·have hb25R := hb25; try simp only [zz] at hb25
     refine pwp_seq_plain rfl fun K26 hK26 => p_mS rfl (p_e rfl (e_assign (v := .nil) rfl) (p_aS rfl (p_aS rfl (p_end (hK26 _ ?_))))); clear hK26 K26;refine pwp_ret (ret_seq (ret_block (ret_seq (ret_loop (ret_block (ret_seq (end3 (v := .nil) (w := .sc _) (x := .sc _) rfl rfl rfl ?_)))))))
     first
       | exact prs_oe (prs_8 (by omega))
       | (refine prs_oe (prs_7 (n := k + 1) (by omega) (hpt.bad hrn (.inr (tsk_false ?_))) (by omega)); first | assumption | (simp_all; done))
       | (refine prs_oe (prs_7 (n := k + 1) (by omega) (hpt.bad hrn (.inl ?_)) (by omega)); first | assumption | (simp_all; done))
       | exact prs_oe (prs_e (by omega) (PT.done (hrn ▸ hpt)) (by first | assumption | simp_all))
       | exact prs_o (hihj13_0.keep fun _ => hzM rfl (hzM rfl (rfl))) (prs_0 (by omega) (PT.done (hrn ▸ hpt)) (by first | assumption | omega | simp_all))
    ·have hb25R := hb25; try simp only [zz] at hb25
     refine pwp_skip (seq_norm (hK24 _ ?_)); clear hK24 K24;refine pwp_seq_plain rfl fun K27 hK27 => p_e rfl (e_move (v := _) rfl) (p_e rfl (e_lA (cs := TaskF.enc ((tskR (cut1 r)).1)) (n := 6) rfl (hset_self _ _ _)) (p_new rfl (e_bslice (rows := [TaskF.enc (tskR (cut1 r)).1]) (zs := [.str ByteArray.empty, .str ByteArray.empty, .int 0, .int 0, .int 0, .nil]) (sz := 6) (by kernel_rfl) (by kernel_rfl) rfl (by kernel_rfl) (by decide) rfl rfl (by exact ⟨by decide, rfl, rfl, trivial⟩) rfl) trivial (p_app rfl rfl rfl (hihj13_0.keep fun _ => hzM rfl (hzM rfl (hzM rfl (rfl)))) (src_ref (hset_self _ _ _) rfl) (by kernel_rfl) (by simp only [List.length_append, lM, List.length_nil, List.length_cons]; omega) fun v28 h29 c30 hs31 hf32 => ?_)));have ho33 := (hf32 (10, _) (key_ne rfl) (fun _ _ => key_ne rfl)).trans (hzM rfl (hset_self _ _ _));have ho34 := (hf32 (40, _) (key_ne rfl) (fun _ _ => key_ne rfl)).trans (hset_self _ _ _);refine p_e rfl (e_assign (v := _) rfl) (p_end (hK27 _ ?_)); clear hK27 K27;refine pwp_plain rfl fun K35 hK35 => p_mS rfl (p_aS rfl (p_end (hK35 _ ?_))); clear hK35 K35;refine block_norm (seq_norm (hK17 _ ?_)); clear hK17 K17;refine pwp_plain rfl fun K36 hK36 => p_mS rfl (p_e rfl (e_adL rfl rfl) (p_aS rfl (p_end (hK36 _ ?_)))); clear hK36 K36;exact loop_again ((k + 1, (cut2 r), ts ++ [(tskR (cut1 r)).1], v28)) (by show _ < _; (have := cut_lt (r := r) (by first | assumption | simp_all)); show (cut2 r).size < r.size; omega) trivial ⟨rfl, rfl, rfl, trivial⟩ (by exact ⟨by (show k + 1 + (cutB 10 (cut2 r)).length = _; have := (hln.next (by first | assumption | simp_all)).2; omega), by (simp only [List.length_append, List.length_cons, List.length_nil]; omega), by exact hpt.next (by first | assumption | simp_all) (tsk_true (by first | assumption | simp_all)), by exact fair_snoc hfair (tsk_fair hln.one), by exact (hln.next (by first | assumption | simp_all)).1, by (show (cut2 r).size ≤ _; omega), (SliceAt.to hs31 (by first | rfl | (simp only [List.map_append, List.map_cons, List.map_nil] <;> rfl)))⟩)
  ·have hb16R := hb16; try simp only [zz] at hb16
   have hrn : r = ⟨#[]⟩ := by first | assumption | simp_all
   refine pwp_exit (exit_seq ?_);clear hK15 K15;refine exit_loop (exit_here (seq_norm (hK8 _ ?_))); clear hK8 K8;refine pwp_seq_seq (pwp_seq_plain rfl fun K37 hK37 => p_e rfl (e_move (v := _) rfl) (p_call rfl (.cons (SliceAt.inn (rows' := (ts).map TaskF.enc) hihj13_0 (by simp) (by first | exact pure_map TaskF.pure | (simp only [← List.map_append, List.nil_append]; exact pure_map TaskF.pure))) .nil) (CheckF _ (by omega) hfair) (p_aS rfl (p_end (hK37 _ ?_))))); clear hK37 K37;refine pwp_seq_seq (pwp_seq_plain rfl fun K38 hK38 => p_mS rfl (p_e rfl (e_ne rfl rfl) (p_end (hK38 _ ?_)))); clear hK38 K38;refine pwp_seq_cond rfl fun K39 hK39 => ⟨fun hb40 => ?_, fun hb40 => ?_⟩
   ·have hb40R := hb40; try simp only [zz] at hb40
    refine pwp_seq_plain rfl fun K41 hK41 => p_mS rfl (p_e rfl (e_assign (v := .nil) rfl) (p_aS rfl (p_aS rfl (p_end (hK41 _ ?_))))); clear hK41 K41;refine pwp_ret (ret_seq (end3 (v := .nil) (w := .sc _) (x := .sc _) rfl rfl rfl ?_))
    first
      | exact prs_oe (prs_8 (by omega))
      | (refine prs_oe (prs_7 (n := k + 1) (by omega) (hpt.bad hrn (.inr (tsk_false ?_))) (by omega)); first | assumption | (simp_all; done))
      | (refine prs_oe (prs_7 (n := k + 1) (by omega) (hpt.bad hrn (.inl ?_)) (by omega)); first | assumption | (simp_all; done))
      | exact prs_oe (prs_e (by omega) (PT.done (hrn ▸ hpt)) (by first | assumption | simp_all))
      | exact prs_o hihj13_0 (prs_0 (by omega) (PT.done (hrn ▸ hpt)) (by first | assumption | omega | simp_all))
   ·have hb40R := hb40; try simp only [zz] at hb40
    refine pwp_skip (seq_norm (hK39 _ ?_)); clear hK39 K39;refine pwp_seq_plain rfl fun K42 hK42 => p_e rfl (e_move (v := _) rfl) (p_e rfl (e_assign (v := _) rfl) (p_aS rfl (p_aS rfl (p_end (hK42 _ ?_))))); clear hK42 K42;refine pwp_ret (end3 (v := _) (w := .sc _) (x := .sc _) rfl rfl rfl ?_)
    first
      | exact prs_oe (prs_8 (by omega))
      | (refine prs_oe (prs_7 (n := k + 1) (by omega) (hpt.bad hrn (.inr (tsk_false ?_))) (by omega)); first | assumption | (simp_all; done))
      | (refine prs_oe (prs_7 (n := k + 1) (by omega) (hpt.bad hrn (.inl ?_)) (by omega)); first | assumption | (simp_all; done))
      | exact prs_oe (prs_e (by omega) (PT.done (hrn ▸ hpt)) (by first | assumption | simp_all))
      | exact prs_o hihj13_0 (prs_0 (by omega) (PT.done (hrn ▸ hpt)) (by first | assumption | omega | simp_all))
theorem fr15 : (inFrame Tryz.f15.ntmps (Tryz.f15.body.getD .skip) && Tryz.f15.results.toList.all (resScope Tryz.f15.ntmps)) = true := by kernel_rfl
theorem refParseP (s : ByteArray) (hs : s.size ≤ 1000000) (hln0 : ¬ 60000 < s.size → LnOK s) (hcl0 : ¬ 60000 < s.size → (cutB 10 s).length ≤ 10000) : PCalls Tryz.prog 15 [.str s] (.tup [.lit false 6 ((prsX s).1.map TaskF.enc), .int (prsX s).2.1, .int (prsX s).2.2]) := by
 refine PCalls.of_code Tryz.func15 rfl rfl (by kernel_rfl) mixed fr15 (by show _ ≤ 63; simp) (prs_pure _) (pwp_seq_plain rfl fun K1 hK1 => p_e rfl (e_assign (v := .nil) rfl) (p_aS rfl (p_aS rfl (p_end (hK1 _ ?_))))); clear hK1 K1;refine pwp_seq_seq (pwp_seq_plain rfl fun K2 hK2 => p_mS rfl (p_e rfl (e_lenS rfl (by kernel_rfl)) (p_e rfl (e_gt rfl rfl) (p_end (hK2 _ ?_))))); clear hK2 K2;refine pwp_seq_cond rfl fun K3 hK3 => ⟨fun hb4 => ?_, fun hb4 => ?_⟩
 ·have hb4R := hb4; try simp only [zz] at hb4
  refine pwp_seq_plain rfl fun K5 hK5 => p_e rfl (e_assign (v := .nil) rfl) (p_aS rfl (p_aS rfl (p_end (hK5 _ ?_)))); clear hK5 K5;refine pwp_ret (ret_seq (end3 (v := .nil) (w := .sc _) (x := .sc _) rfl rfl rfl ?_))
  first
    | exact prs_oe (prs_8 (by omega))
    | (refine prs_oe (prs_7 (n := i + 1) (by omega) (hpl.last hx (by first | omega | (simp only [lM] at *; omega)) ?_) (by omega)); first | assumption | (simp_all; done))
    | (refine prs_oe (prs_7 (n := i + 1) (by omega) (hpl.bad hx (by first | omega | (simp only [lM] at *; omega)) (tsk_false ?_)) (by omega)); first | assumption | (simp_all; done))
    | exact prs_oe (prs_e (by omega) hpo (by first | assumption | simp_all))
 ·have hb4R := hb4; try simp only [zz] at hb4
  have hcl := hcl0 (by omega);refine pwp_skip (seq_norm (hK3 _ ?_)); clear hK3 K3;refine pwp_seq_plain rfl fun K6 hK6 => p_mS rfl (p_call rfl (.cons inn_sc (.cons inn_sc .nil)) (CutC _ 10 (by omega)) (p_e rfl (e_assign (v := .lit _ _ _) rfl) (p_end (hK6 _ ?_)))); clear hK6 K6;refine pwp_seq_plain rfl fun K7 hK7 => p_e rfl (e_assign (v := .nil) rfl) (p_end (hK7 _ ?_)); clear hK7 K7;refine pwp_seq_seq (pwp_seq_plain rfl fun K8 hK8 => p_aS rfl (p_end (hK8 _ ?_))); clear hK8 K8;refine pwp_seq_block fun K9 hK9 => pwp_loopR (α := Nat × (List Task) × PV) [5] (fun (a10 : Nat × (List Task) × PV) => [(6, (a10.2.2)), (7, .int (a10.1))]) (fun (a10 : Nat × (List Task) × PV) (h : Heap) (_ : Nat → Nat) => ((a10.1) ≤ (cutB 10 s).length) ∧ ((a10.2.1).length = (a10.1)) ∧ (PL (cutB 10 s) (a10.1) (a10.2.1)) ∧ (E7.Fair (a10.2.1)) ∧ (SliceAt h 56 (a10.2.2) 6 ((a10.2.1).map TaskF.enc))) (fun (a10 : Nat × (List Task) × PV) => (cutB 10 s).length - (a10.1)) (0, [], .nil) (by exact ⟨rfl, rfl, trivial⟩) (by exact ⟨by exact Nat.zero_le _, by exact rfl, by exact PL.start, by exact fair_nil, .nil⟩) fun a10 r11 h12 c13 hj14 => ?_;obtain ⟨i, ts, v⟩ := a10;obtain ⟨hi, htl, hpl, hfair, hihj14_0⟩ := hj14;try dsimp only at hi
  try dsimp only at htl
  try dsimp only at hpl
  try dsimp only at hfair
  try dsimp only at hihj14_0
  show pwp _ _ (loopQ _ _ _) ⟨sets (mix _ _ _) [(6, v), (7, .int i)], _, _⟩;refine pwp_seq_seq (pwp_seq_plain rfl fun K15 hK15 => p_mS rfl (p_e rfl (e_move (v := .lit _ _ _) rfl) (p_e rfl (e_len rfl (by kernel_rfl)) (p_e rfl (e_lt rfl rfl) (p_end (hK15 _ ?_)))))); clear hK15 K15;refine pwp_seq_cond rfl fun K16 hK16 => ⟨fun hb17 => ?_, fun hb17 => ?_⟩
  ·have hb17R := hb17; try simp only [zz] at hb17
   obtain ⟨x, hx⟩ : ∃ x, (cutB 10 s)[i]? = some x := ⟨_, List.getElem?_eq_getElem (by first | omega | (simp only [lM] at *; omega))⟩
   have hxs := cutB_le hx;have hxl := hln0 (by omega) x (List.mem_of_getElem? hx);refine pwp_skip (seq_norm (hK16 _ ?_)); clear hK16 K16;refine pwp_seq_block fun K18 hK18 => pwp_seq_seq (pwp_seq_gops rfl fun K19 hK19 => g_begin (g_mS rfl rfl (g_e rfl (e_move (v := .lit _ _ _) rfl) (g_e rfl (e_len rfl (by kernel_rfl)) (g_e rfl (e_sub rfl rfl (by first | omega | (simp only [lM] at *; omega))) ?_)))));refine g_e rfl (e_eq rfl rfl) (g_mS rfl rfl ?_);refine g_cases (fun hb20 => ?_) (fun hb20 => ?_)
   ·have hb20R := hb20; try simp only [zz] at hb20
    refine g_e rfl (e_move (v := .lit _ _ _) rfl) (g_mS rfl rfl (g_e rfl (e_ixL rfl rfl) (g_e rfl (e_lL (v := .sc _) rfl ((cell_map hx _).trans rfl)) (g_e rfl (e_seq rfl rfl) (g_pT rfl rfl rfl (g_end (ds := [28, 29, 30, 31, 32]) rfl rfl (hK19 _ ?_))))))); clear hK19 K19;refine pwp_seq_cond rfl fun K21 hK21 => ⟨fun hb22 => ?_, fun hb22 => ?_⟩
    ·have hb22R := hb22; try simp only [zz] at hb22
     refine pwp_exit (exit_seq ?_);clear hK21 K21;refine exit_block (by decide) (exit_seq ?_);clear hK18 K18;refine exit_loop (exit_here (seq_norm (hK9 _ ?_))); clear hK9 K9;refine pwp_seq_seq ?_;have hpo : parT (cutB 10 s) 0 = .ok ts := by first | exact hpl.over hie | exact hpl.end_ hx (by first | omega | (simp only [lM] at *; omega)) (by first | assumption | simp_all)
     refine pwp_seq_plain rfl fun K23 hK23 => p_e rfl (e_move (v := _) rfl) (p_call rfl (.cons (SliceAt.inn (rows' := (ts).map TaskF.enc) hihj14_0 (by simp) (by first | exact pure_map TaskF.pure | (simp only [← List.map_append, List.nil_append]; exact pure_map TaskF.pure))) .nil) (refCheckF _ (by omega) hfair) (p_aS rfl (p_end (hK23 _ ?_)))); clear hK23 K23;refine pwp_seq_seq (pwp_seq_plain rfl fun K24 hK24 => p_mS rfl (p_e rfl (e_ne rfl rfl) (p_end (hK24 _ ?_)))); clear hK24 K24;refine pwp_seq_cond rfl fun K25 hK25 => ⟨fun hb26 => ?_, fun hb26 => ?_⟩
     ·have hb26R := hb26; try simp only [zz] at hb26
      refine pwp_seq_plain rfl fun K27 hK27 => p_mS rfl (p_e rfl (e_assign (v := .nil) rfl) (p_aS rfl (p_aS rfl (p_end (hK27 _ ?_))))); clear hK27 K27;refine pwp_ret (ret_seq (end3 (v := .nil) (w := .sc _) (x := .sc _) rfl rfl rfl ?_))
      first
        | exact prs_oe (prs_8 (by omega))
        | (refine prs_oe (prs_7 (n := i + 1) (by omega) (hpl.last hx (by first | omega | (simp only [lM] at *; omega)) ?_) (by omega)); first | assumption | (simp_all; done))
        | (refine prs_oe (prs_7 (n := i + 1) (by omega) (hpl.bad hx (by first | omega | (simp only [lM] at *; omega)) (tsk_false ?_)) (by omega)); first | assumption | (simp_all; done))
        | exact prs_oe (prs_e (by omega) hpo (by first | assumption | simp_all))
        | exact prs_o hihj14_0 (prs_0 (by omega) hpo (by first | assumption | omega | simp_all))
     ·have hb26R := hb26; try simp only [zz] at hb26
      refine pwp_skip (seq_norm (hK25 _ ?_)); clear hK25 K25;refine pwp_seq_plain rfl fun K28 hK28 => p_e rfl (e_move (v := _) rfl) (p_e rfl (e_assign (v := _) rfl) (p_aS rfl (p_aS rfl (p_end (hK28 _ ?_))))); clear hK28 K28;refine pwp_ret (end3 (v := _) (w := .sc _) (x := .sc _) rfl rfl rfl ?_)
      first
        | exact prs_oe (prs_8 (by omega))
        | (refine prs_oe (prs_7 (n := i + 1) (by omega) (hpl.last hx (by first | omega | (simp only [lM] at *; omega)) ?_) (by omega)); first | assumption | (simp_all; done))
        | (refine prs_oe (prs_7 (n := i + 1) (by omega) (hpl.bad hx (by first | omega | (simp only [lM] at *; omega)) (tsk_false ?_)) (by omega)); first | assumption | (simp_all; done))
        | exact prs_oe (prs_e (by omega) hpo (by first | assumption | simp_all))
        | exact prs_o hihj14_0 (prs_0 (by omega) hpo (by first | assumption | omega | simp_all))
    ·have hb22R := hb22; try simp only [zz] at hb22
     refine pwp_skip (seq_norm (hK21 _ ?_)); clear hK21 K21;refine pwp_seq_plain rfl fun K29 hK29 => p_e rfl (e_move (v := .lit _ _ _) rfl) (p_mS rfl (p_e rfl (e_ixL rfl rfl) (p_e rfl (e_lL (v := .sc _) rfl ((cell_map hx _).trans rfl)) (p_call rfl (.cons inn_sc .nil) (lineC _ (by omega)) (p_e rfl (e_move (v := .tup _) rfl) (p_e rfl (e_ext (v := .agg _) rfl (by simp) rfl) ?_))))));refine p_e rfl (e_ext (v := .sc _) rfl (by simp) rfl) (p_new rfl (e_alloc (cs := [.str ByteArray.empty, .str ByteArray.empty, .int 0, .int 0, .int 0, .nil]) (n := 6) (by kernel_rfl) rfl (by decide)) (ob_alloc (by decide)) (p_store rfl (e_storeA rfl (hset_self _ _ _) rfl rfl rfl (by kernel_rfl) rfl (by kernel_rfl)) trivial (p_aS rfl (p_end (hK29 _ ?_))))); clear hK29 K29;refine pwp_seq_seq (pwp_seq_gops rfl fun K30 hK30 => g_begin (g_mS rfl rfl (g_e rfl (e_not rfl) (g_mS rfl rfl ?_))));refine g_cases (fun hb31 => ?_) (fun hb31 => ?_)
     ·have hb31R := hb31; try simp only [zz] at hb31
      iterate 5 refine g_skip rfl rfl rfl ?_
      refine g_pT rfl rfl rfl (g_end (ds := [45, 46, 47, 48, 49]) rfl rfl (hK30 _ ?_)); clear hK30 K30;refine pwp_seq_cond (t := true) rfl fun K32 hK32 => ⟨fun _ => ?_, nofun⟩
      refine pwp_seq_plain rfl fun K33 hK33 => p_mS rfl (p_e rfl (e_adL rfl rfl) (p_e rfl (e_assign (v := .nil) rfl) (p_aS rfl (p_aS rfl (p_end (hK33 _ ?_)))))); clear hK33 K33;refine pwp_ret (ret_seq (ret_block (ret_seq (ret_loop (ret_block (ret_seq (end3 (v := .nil) (w := .sc _) (x := .sc _) rfl rfl rfl ?_)))))))
      first
        | exact prs_oe (prs_8 (by omega))
        | (refine prs_oe (prs_7 (n := i + 1) (by omega) (hpl.last hx (by first | omega | (simp only [lM] at *; omega)) ?_) (by omega)); first | assumption | (simp_all; done))
        | (refine prs_oe (prs_7 (n := i + 1) (by omega) (hpl.bad hx (by first | omega | (simp only [lM] at *; omega)) (tsk_false ?_)) (by omega)); first | assumption | (simp_all; done))
        | exact prs_oe (prs_e (by omega) hpo (by first | assumption | simp_all))
        | exact prs_o (hihj14_0.keep fun _ => hzM rfl (hzM rfl (rfl))) (prs_0 (by omega) hpo (by first | assumption | omega | simp_all))
     ·have hb31R := hb31; try simp only [zz] at hb31
      refine g_mS rfl rfl (g_e rfl (e_move (v := .lit _ _ _) rfl) (g_e rfl (e_len rfl (by kernel_rfl)) (g_e rfl (e_sub rfl rfl (by first | omega | (simp only [lM] at *; omega))) (g_e rfl (e_eq rfl rfl) (g_pF rfl rfl rfl (g_end (ds := [45, 46, 47, 48, 49]) rfl rfl (hK30 _ ?_))))))); clear hK30 K30;refine pwp_seq_cond rfl fun K34 hK34 => ⟨fun hb35 => ?_, fun hb35 => ?_⟩
      ·have hb35R := hb35; try simp only [zz] at hb35
       refine pwp_seq_plain rfl fun K36 hK36 => p_mS rfl (p_e rfl (e_adL rfl rfl) (p_e rfl (e_assign (v := .nil) rfl) (p_aS rfl (p_aS rfl (p_end (hK36 _ ?_)))))); clear hK36 K36;refine pwp_ret (ret_seq (ret_block (ret_seq (ret_loop (ret_block (ret_seq (end3 (v := .nil) (w := .sc _) (x := .sc _) rfl rfl rfl ?_)))))))
       first
         | exact prs_oe (prs_8 (by omega))
         | (refine prs_oe (prs_7 (n := i + 1) (by omega) (hpl.last hx (by first | omega | (simp only [lM] at *; omega)) ?_) (by omega)); first | assumption | (simp_all; done))
         | (refine prs_oe (prs_7 (n := i + 1) (by omega) (hpl.bad hx (by first | omega | (simp only [lM] at *; omega)) (tsk_false ?_)) (by omega)); first | assumption | (simp_all; done))
         | exact prs_oe (prs_e (by omega) hpo (by first | assumption | simp_all))
         | exact prs_o (hihj14_0.keep fun _ => hzM rfl (hzM rfl (rfl))) (prs_0 (by omega) hpo (by first | assumption | omega | simp_all))
      ·have hb35R := hb35; try simp only [zz] at hb35
       refine pwp_skip (seq_norm (hK34 _ ?_)); clear hK34 K34;refine pwp_plain rfl fun K37 hK37 => p_e rfl (e_move (v := _) rfl) (p_e rfl (e_lA (cs := TaskF.enc ((tskR x).1)) (n := 6) rfl (hset_self _ _ _)) (p_new rfl (e_bslice (rows := [TaskF.enc (tskR x).1]) (zs := [.str ByteArray.empty, .str ByteArray.empty, .int 0, .int 0, .int 0, .nil]) (sz := 6) (by kernel_rfl) (by kernel_rfl) rfl (by kernel_rfl) (by decide) rfl rfl (by exact ⟨by decide, rfl, rfl, trivial⟩) rfl) trivial (p_app rfl rfl rfl (hihj14_0.keep fun _ => hzM rfl (hzM rfl (hzM rfl (rfl)))) (src_ref (hset_self _ _ _) rfl) (by kernel_rfl) (by simp only [List.length_append, lM, List.length_nil, List.length_cons]; omega) fun v38 h39 c40 hs41 hf42 => ?_)));have ho43 := (hf42 (8, _) (key_ne rfl) (fun _ _ => key_ne rfl)).trans (hzM rfl (hset_self _ _ _));have ho44 := (hf42 (55, _) (key_ne rfl) (fun _ _ => key_ne rfl)).trans (hset_self _ _ _);refine p_e rfl (e_assign (v := _) rfl) (p_end (hK37 _ ?_)); clear hK37 K37;refine block_norm (seq_norm (hK18 _ ?_)); clear hK18 K18;refine pwp_plain rfl fun K45 hK45 => p_mS rfl (p_e rfl (e_adL rfl rfl) (p_aS rfl (p_end (hK45 _ ?_)))); clear hK45 K45;exact loop_again ((i + 1, ts ++ [(tskR x).1], v38)) (by show _ < _; simp only; omega) ⟨rfl, trivial⟩ ⟨rfl, rfl, trivial⟩ (by exact ⟨by show _ + 1 ≤ _; first | omega | (simp only [lM] at *; omega), by (simp only [List.length_append, List.length_cons, List.length_nil]; omega), by exact hpl.next hx (by first | omega | (simp only [lM] at *; omega)) (tsk_true (by first | assumption | simp_all)), by exact fair_snoc hfair (tsk_fair hxl), (SliceAt.to hs41 (by first | rfl | (simp only [List.map_append, List.map_cons, List.map_nil] <;> rfl)))⟩)
   ·have hb20R := hb20; try simp only [zz] at hb20
    iterate 5 refine g_skip rfl rfl rfl ?_
    refine g_pF rfl rfl rfl (g_end (ds := [28, 29, 30, 31, 32]) rfl rfl (hK19 _ ?_)); clear hK19 K19;refine pwp_seq_cond (t := false) rfl fun K46 hK46 => ⟨nofun, fun _ => ?_⟩
    refine pwp_skip (seq_norm (hK46 _ ?_)); clear hK46 K46;refine pwp_seq_plain rfl fun K47 hK47 => p_e rfl (e_move (v := .lit _ _ _) rfl) (p_mS rfl (p_e rfl (e_ixL rfl rfl) (p_e rfl (e_lL (v := .sc _) rfl ((cell_map hx _).trans rfl)) (p_call rfl (.cons inn_sc .nil) (lineC _ (by omega)) (p_e rfl (e_move (v := .tup _) rfl) (p_e rfl (e_ext (v := .agg _) rfl (by simp) rfl) ?_))))));refine p_e rfl (e_ext (v := .sc _) rfl (by simp) rfl) (p_new rfl (e_alloc (cs := [.str ByteArray.empty, .str ByteArray.empty, .int 0, .int 0, .int 0, .nil]) (n := 6) (by kernel_rfl) rfl (by decide)) (ob_alloc (by decide)) (p_store rfl (e_storeA rfl (hset_self _ _ _) rfl rfl rfl (by kernel_rfl) rfl (by kernel_rfl)) trivial (p_aS rfl (p_end (hK47 _ ?_))))); clear hK47 K47;refine pwp_seq_seq (pwp_seq_gops rfl fun K48 hK48 => g_begin (g_mS rfl rfl (g_e rfl (e_not rfl) (g_mS rfl rfl ?_))));refine g_cases (fun hb49 => ?_) (fun hb49 => ?_)
    ·have hb49R := hb49; try simp only [zz] at hb49
     iterate 5 refine g_skip rfl rfl rfl ?_
     refine g_pT rfl rfl rfl (g_end (ds := [45, 46, 47, 48, 49]) rfl rfl (hK48 _ ?_)); clear hK48 K48;refine pwp_seq_cond (t := true) rfl fun K50 hK50 => ⟨fun _ => ?_, nofun⟩
     refine pwp_seq_plain rfl fun K51 hK51 => p_mS rfl (p_e rfl (e_adL rfl rfl) (p_e rfl (e_assign (v := .nil) rfl) (p_aS rfl (p_aS rfl (p_end (hK51 _ ?_)))))); clear hK51 K51;refine pwp_ret (ret_seq (ret_block (ret_seq (ret_loop (ret_block (ret_seq (end3 (v := .nil) (w := .sc _) (x := .sc _) rfl rfl rfl ?_)))))))
     first
       | exact prs_oe (prs_8 (by omega))
       | (refine prs_oe (prs_7 (n := i + 1) (by omega) (hpl.last hx (by first | omega | (simp only [lM] at *; omega)) ?_) (by omega)); first | assumption | (simp_all; done))
       | (refine prs_oe (prs_7 (n := i + 1) (by omega) (hpl.bad hx (by first | omega | (simp only [lM] at *; omega)) (tsk_false ?_)) (by omega)); first | assumption | (simp_all; done))
       | exact prs_oe (prs_e (by omega) hpo (by first | assumption | simp_all))
       | exact prs_o (hihj14_0.keep fun _ => hzM rfl (hzM rfl (rfl))) (prs_0 (by omega) hpo (by first | assumption | omega | simp_all))
    ·have hb49R := hb49; try simp only [zz] at hb49
     refine g_mS rfl rfl (g_e rfl (e_move (v := .lit _ _ _) rfl) (g_e rfl (e_len rfl (by kernel_rfl)) (g_e rfl (e_sub rfl rfl (by first | omega | (simp only [lM] at *; omega))) (g_e rfl (e_eq rfl rfl) (g_pF rfl rfl rfl (g_end (ds := [45, 46, 47, 48, 49]) rfl rfl (hK48 _ ?_))))))); clear hK48 K48;refine pwp_seq_cond rfl fun K52 hK52 => ⟨fun hb53 => ?_, fun hb53 => ?_⟩
     ·have hb53R := hb53; try simp only [zz] at hb53
      refine pwp_seq_plain rfl fun K54 hK54 => p_mS rfl (p_e rfl (e_adL rfl rfl) (p_e rfl (e_assign (v := .nil) rfl) (p_aS rfl (p_aS rfl (p_end (hK54 _ ?_)))))); clear hK54 K54;refine pwp_ret (ret_seq (ret_block (ret_seq (ret_loop (ret_block (ret_seq (end3 (v := .nil) (w := .sc _) (x := .sc _) rfl rfl rfl ?_)))))))
      first
        | exact prs_oe (prs_8 (by omega))
        | (refine prs_oe (prs_7 (n := i + 1) (by omega) (hpl.last hx (by first | omega | (simp only [lM] at *; omega)) ?_) (by omega)); first | assumption | (simp_all; done))
        | (refine prs_oe (prs_7 (n := i + 1) (by omega) (hpl.bad hx (by first | omega | (simp only [lM] at *; omega)) (tsk_false ?_)) (by omega)); first | assumption | (simp_all; done))
        | exact prs_oe (prs_e (by omega) hpo (by first | assumption | simp_all))
        | exact prs_o (hihj14_0.keep fun _ => hzM rfl (hzM rfl (rfl))) (prs_0 (by omega) hpo (by first | assumption | omega | simp_all))
     ·have hb53R := hb53; try simp only [zz] at hb53
      refine pwp_skip (seq_norm (hK52 _ ?_)); clear hK52 K52;refine pwp_plain rfl fun K55 hK55 => p_e rfl (e_move (v := _) rfl) (p_e rfl (e_lA (cs := TaskF.enc ((tskR x).1)) (n := 6) rfl (hset_self _ _ _)) (p_new rfl (e_bslice (rows := [TaskF.enc (tskR x).1]) (zs := [.str ByteArray.empty, .str ByteArray.empty, .int 0, .int 0, .int 0, .nil]) (sz := 6) (by kernel_rfl) (by kernel_rfl) rfl (by kernel_rfl) (by decide) rfl rfl (by exact ⟨by decide, rfl, rfl, trivial⟩) rfl) trivial (p_app rfl rfl rfl (hihj14_0.keep fun _ => hzM rfl (hzM rfl (hzM rfl (rfl)))) (src_ref (hset_self _ _ _) rfl) (by kernel_rfl) (by simp only [List.length_append, lM, List.length_nil, List.length_cons]; omega) fun v56 h57 c58 hs59 hf60 => ?_)));have ho61 := (hf60 (8, _) (key_ne rfl) (fun _ _ => key_ne rfl)).trans (hzM rfl (hset_self _ _ _));have ho62 := (hf60 (55, _) (key_ne rfl) (fun _ _ => key_ne rfl)).trans (hset_self _ _ _);refine p_e rfl (e_assign (v := _) rfl) (p_end (hK55 _ ?_)); clear hK55 K55;refine block_norm (seq_norm (hK18 _ ?_)); clear hK18 K18;refine pwp_plain rfl fun K63 hK63 => p_mS rfl (p_e rfl (e_adL rfl rfl) (p_aS rfl (p_end (hK63 _ ?_)))); clear hK63 K63;exact loop_again ((i + 1, ts ++ [(tskR x).1], v56)) (by show _ < _; simp only; omega) ⟨rfl, trivial⟩ ⟨rfl, rfl, trivial⟩ (by exact ⟨by show _ + 1 ≤ _; first | omega | (simp only [lM] at *; omega), by (simp only [List.length_append, List.length_cons, List.length_nil]; omega), by exact hpl.next hx (by first | omega | (simp only [lM] at *; omega)) (tsk_true (by first | assumption | simp_all)), by exact fair_snoc hfair (tsk_fair hxl), (SliceAt.to hs59 (by first | rfl | (simp only [List.map_append, List.map_cons, List.map_nil] <;> rfl)))⟩)
  ·have hb17R := hb17; try simp only [zz] at hb17
   have hie : (cutB 10 s).length ≤ i := by first | omega | (simp only [lM] at *; omega)
   refine pwp_exit (exit_seq ?_);clear hK16 K16;refine exit_loop (exit_here (seq_norm (hK9 _ ?_))); clear hK9 K9;refine pwp_seq_seq ?_;have hpo : parT (cutB 10 s) 0 = .ok ts := by first | exact hpl.over hie | exact hpl.end_ hx (by first | omega | (simp only [lM] at *; omega)) (by first | assumption | simp_all)
   refine pwp_seq_plain rfl fun K64 hK64 => p_e rfl (e_move (v := _) rfl) (p_call rfl (.cons (SliceAt.inn (rows' := (ts).map TaskF.enc) hihj14_0 (by simp) (by first | exact pure_map TaskF.pure | (simp only [← List.map_append, List.nil_append]; exact pure_map TaskF.pure))) .nil) (refCheckF _ (by omega) hfair) (p_aS rfl (p_end (hK64 _ ?_)))); clear hK64 K64;refine pwp_seq_seq (pwp_seq_plain rfl fun K65 hK65 => p_mS rfl (p_e rfl (e_ne rfl rfl) (p_end (hK65 _ ?_)))); clear hK65 K65;refine pwp_seq_cond rfl fun K66 hK66 => ⟨fun hb67 => ?_, fun hb67 => ?_⟩
   ·have hb67R := hb67; try simp only [zz] at hb67
    refine pwp_seq_plain rfl fun K68 hK68 => p_mS rfl (p_e rfl (e_assign (v := .nil) rfl) (p_aS rfl (p_aS rfl (p_end (hK68 _ ?_))))); clear hK68 K68;refine pwp_ret (ret_seq (end3 (v := .nil) (w := .sc _) (x := .sc _) rfl rfl rfl ?_))
    first
      | exact prs_oe (prs_8 (by omega))
      | (refine prs_oe (prs_7 (n := i + 1) (by omega) (hpl.last hx (by first | omega | (simp only [lM] at *; omega)) ?_) (by omega)); first | assumption | (simp_all; done))
      | (refine prs_oe (prs_7 (n := i + 1) (by omega) (hpl.bad hx (by first | omega | (simp only [lM] at *; omega)) (tsk_false ?_)) (by omega)); first | assumption | (simp_all; done))
      | exact prs_oe (prs_e (by omega) hpo (by first | assumption | simp_all))
      | exact prs_o hihj14_0 (prs_0 (by omega) hpo (by first | assumption | omega | simp_all))
   ·have hb67R := hb67; try simp only [zz] at hb67
    refine pwp_skip (seq_norm (hK66 _ ?_)); clear hK66 K66;refine pwp_seq_plain rfl fun K69 hK69 => p_e rfl (e_move (v := _) rfl) (p_e rfl (e_assign (v := _) rfl) (p_aS rfl (p_aS rfl (p_end (hK69 _ ?_))))); clear hK69 K69;refine pwp_ret (end3 (v := _) (w := .sc _) (x := .sc _) rfl rfl rfl ?_)
    first
      | exact prs_oe (prs_8 (by omega))
      | (refine prs_oe (prs_7 (n := i + 1) (by omega) (hpl.last hx (by first | omega | (simp only [lM] at *; omega)) ?_) (by omega)); first | assumption | (simp_all; done))
      | (refine prs_oe (prs_7 (n := i + 1) (by omega) (hpl.bad hx (by first | omega | (simp only [lM] at *; omega)) (tsk_false ?_)) (by omega)); first | assumption | (simp_all; done))
      | exact prs_oe (prs_e (by omega) hpo (by first | assumption | simp_all))
      | exact prs_o hihj14_0 (prs_0 (by omega) hpo (by first | assumption | omega | simp_all))
end Go.Proofs.YtmlhhdiomijpfaaGreatDoor
