/- The reverse of a plan, as the program makes it. No conditions. -/
import Derived.Test.YtjmjiegplnfiiaaAcc
set_option linter.unusedSimpArgs false
set_option linter.unusedVariables false
set_option maxRecDepth 100000
namespace Go.Proofs.Ytjmjiegplnfiiaa
open Go Go.Pv
/-! ### The reverse plan -/
def mixF (p : Task × Bool) : List PV := [.str p.1.name, .str p.1.trade, .int p.1.member, .int p.1.place, .int p.1.minutes, .lit p.2 1 (p.1.needs.map ci)]
theorem mixF_pure (p : Task × Bool) : ∀ q ∈ mixF p, Pure q := fun q hq => by
  simp only [mixF, List.mem_cons, List.not_mem_nil, or_false] at hq
  rcases hq with rfl | rfl | rfl | rfl | rfl | rfl
  · exact .sc _
  · exact .sc _
  · exact .sc _
  · exact .sc _
  · exact .sc _
  · exact .lit _ _ _ fun row hr => pure_map ci_pure row hr
def Task.encF (x : Task) : List PV := mixF (x, false)
theorem Task.pureF (x : Task) : ∀ q ∈ x.encF, Pure q := mixF_pure _
def revT (xs : List Task) (i : Nat) : Task := { xs.getD i default with needs := usR (ndX xs) (i : Int) }
def revX (xs : List Task) : List Task := (List.range xs.length).map (revT xs)
def mixL (xs : List Task) (k : Nat) : List (Task × Bool) := (List.range xs.length).map fun i => if i < k then (revT xs i, false) else (xs.getD i default, true)
theorem mixL_len {xs : List Task} {k : Nat} : (mixL xs k).length = xs.length := by simp [mixL]
theorem mixL_0 {xs : List Task} : (mixL xs 0).map mixF = xs.map Task.enc := by
  apply List.ext_getElem (by simp [mixL])
  intro i h1 h2
  simp only [mixL, List.getElem_map, List.getElem_range, Nat.not_lt_zero, if_false]
  rw [List.getD_eq_getElem?_getD, List.getElem?_eq_getElem (by simpa using h2)]; rfl
theorem mixL_all {xs : List Task} {k : Nat} (hk : xs.length ≤ k) : (mixL xs k).map mixF = (revX xs).map Task.encF := by
  simp only [mixL, revX, List.map_map]
  refine List.map_congr_left fun i hi => ?_
  have := List.mem_range.1 hi
  simp only [Function.comp, if_pos (show i < k by omega)]; rfl
theorem mixL_get {xs : List Task} {k : Nat} {x : Task} (hx : xs[k]? = some x) : (mixL xs k)[k]? = some (x, true) := by
  have hk := (List.getElem?_eq_some_iff.1 hx).1
  simp only [mixL, List.getElem?_map, List.getElem?_range hk, Option.map_some, Nat.lt_irrefl, if_false, List.getD_eq_getElem?_getD, hx, Option.getD_some]
theorem mixL_set {xs : List Task} {k : Nat} {x : Task} (hx : xs[k]? = some x) : (mixL xs k).set k ({ x with needs := usR (ndX xs) (k : Int) }, false) = mixL xs (k + 1) := by
  have hk := (List.getElem?_eq_some_iff.1 hx).1
  apply List.ext_getElem (by simp [mixL])
  intro i h1 h2
  rw [List.getElem_set]
  simp only [mixL, List.getElem_map, List.getElem_range]
  by_cases e : k = i
  · subst e
    rw [if_pos rfl, if_pos (Nat.lt_succ_self _), revT, List.getD_eq_getElem?_getD, hx]; rfl
  · rw [if_neg e]
    by_cases h : i < k
    · rw [if_pos h, if_pos (by omega)]
    · rw [if_neg h, if_neg (by omega)]
theorem revX_len {xs : List Task} : (revX xs).length = xs.length := by simp [revX]
theorem cleanF (x : Task) : ∀ p ∈ x.encF, Go.Pv.Clean p ∧ p.cell = true := fun p hp => by
  simp only [Task.encF, mixF, List.mem_cons, List.not_mem_nil, or_false] at hp
  rcases hp with rfl | rfl | rfl | rfl | rfl | rfl
  · exact ⟨.sc _, rfl⟩
  · exact ⟨.sc _, rfl⟩
  · exact ⟨.sc _, rfl⟩
  · exact ⟨.sc _, rfl⟩
  · exact ⟨.sc _, rfl⟩
  · exact ⟨.lit _ _ ints_clean, rfl⟩
def revE (xs : List Task) : List Task × Int := if planE xs ≠ 0 then ([], planE xs) else (revX xs, 0)
theorem rev_e {xs : List Task} {h : Heap} (hp : planE xs ≠ 0) : Out h (.tup [.nil, .int (planE xs)]) (.tup [.lit false 6 ((revE xs).1.map Task.encF), .int (revE xs).2]) := by
  rw [revE, if_pos hp]; exact out_2 (.nil 6) (out_i rfl)
theorem rev_0 {xs : List Task} {h : Heap} {v : PV} {k : Nat} (hp : planE xs = 0) (hk : k = xs.length) (hs : SliceAt h 7 v 6 ((mixL xs k).map mixF)) : Out h (.tup [v, .int 0]) (.tup [.lit false 6 ((revE xs).1.map Task.encF), .int (revE xs).2]) := by
  rw [revE, if_neg (fun q => q hp)]
  exact out_2 (out_slice hs (mixL_all (Nat.le_of_eq hk.symm)) (fun _ => rfl) cleanF) (out_i rfl)

theorem frH72a : (inFrame Try.f72.ntmps (Try.f72.body.getD .skip) && Try.f72.results.toList.all (resScope Try.f72.ntmps)) = true := by kernel_rfl
theorem cloneE  : HCallsR Try.prog 72 [.lit true 6 (([] : List Task).map Task.enc)] (fun _ => none) (fun _ => 0) (fun v h _ => SliceAt h 7 v 6 (([] : List Task).map Task.enc)) := by
  refine HCallsR.of_code Try.func72 rfl rfl (by kernel_rfl) mixed frH72a (by show _ ≤ 8; simp) ?_
  refine pwp_seq_plain rfl fun K1 hK1 => ?_
  refine p_step rfl (e_assign (v := .nil) rfl) trivial ?_
  refine p_end (hK1 _ ?_); clear hK1 K1
  refine pwp_seq_seq ?_
  refine pwp_seq_plain rfl fun K2 hK2 => ?_
  refine p_step rfl (e_move (v := .lit _ _ _) rfl) trivial ?_
  refine p_nilq rfl (by kernel_rfl) rfl fun b => ?_
  refine p_end (hK2 _ ?_); clear hK2 K2
  refine pwp_seq_cond rfl fun K3 hK3 => ⟨fun hb4 => ?_, fun hb4 => ?_⟩
  ·have hb4R := hb4; try simp only [z1, z2, z3, z4, z5, z6, ne_eq, z7, z8, z9, z10, z11, z12] at hb4
   refine pwp_seq_plain rfl fun K5 hK5 => ?_
   refine p_step rfl (e_assign (v := .nil) rfl) trivial ?_
   refine p_end (hK5 _ ?_); clear hK5 K5
   refine pwp_ret ?_
   refine ret_seq ?_
   refine end1 (v := .nil) rfl ?_
   first
     | exact .nil
  ·have hb4R := hb4; try simp only [z1, z2, z3, z4, z5, z6, ne_eq, z7, z8, z9, z10, z11, z12] at hb4
   refine pwp_skip ?_
   refine seq_norm (hK3 _ ?_); clear hK3 K3
   refine pwp_seq_plain rfl fun K6 hK6 => ?_
   refine p_new rfl (e_bslice (rows := []) (zs := [.str ByteArray.empty, .str ByteArray.empty, .int 0, .int 0, .int 0, .nil]) (sz := 6) (by kernel_rfl) (by kernel_rfl) rfl (by kernel_rfl) (by decide) rfl rfl (by exact trivial) rfl) trivial ?_
   refine p_step rfl (e_move (v := .lit _ _ _) rfl) trivial ?_
   refine p_app rfl rfl rfl (.ofRef (hset_self _ _ _) rfl) src_lit (by kernel_rfl) (by simp only [List.length_append, List.length_map, List.length_nil, List.length_cons]; omega) fun v7 h8 c9 hs10 hf11 => ?_
   refine p_step rfl (e_assign (v := _) rfl) trivial ?_
   refine p_end (hK6 _ ?_); clear hK6 K6
   refine pwp_ret ?_
   refine end1 (v := _) rfl ?_
   first
     | exact .nil
     | exact SliceAt.to hs10 (by simp)

theorem frH72 : (inFrame Try.f72.ntmps (Try.f72.body.getD .skip) && Try.f72.results.toList.all (resScope Try.f72.ntmps)) = true := by kernel_rfl
theorem cloneN (xs : List Task) (hl : xs.length ≤ 10000) (hne : xs ≠ []) : HCallsR Try.prog 72 [.lit true 6 (xs.map Task.enc)] (fun _ => none) (fun _ => 0) (fun v h _ => SliceAt h 7 v 6 (xs.map Task.enc)) := by
  refine HCallsR.of_code Try.func72 rfl rfl (by kernel_rfl) mixed frH72 (by show _ ≤ 8; simp) ?_
  refine pwp_seq_plain rfl fun K1 hK1 => ?_
  refine p_step rfl (e_assign (v := .nil) rfl) trivial ?_
  refine p_end (hK1 _ ?_); clear hK1 K1
  refine pwp_seq_seq ?_
  refine pwp_seq_plain rfl fun K2 hK2 => ?_
  refine p_step rfl (e_move (v := .lit _ _ _) rfl) trivial ?_
  refine p_step rfl (e_nileq rfl (by simpa using hne) rfl (by kernel_rfl)) trivial ?_
  refine p_end (hK2 _ ?_); clear hK2 K2
  refine pwp_seq_cond (t := false) rfl fun K3 hK3 => ⟨nofun, fun _ => ?_⟩
  refine pwp_skip ?_
  refine seq_norm (hK3 _ ?_); clear hK3 K3
  refine pwp_seq_plain rfl fun K4 hK4 => ?_
  refine p_new rfl (e_bslice (rows := []) (zs := [.str ByteArray.empty, .str ByteArray.empty, .int 0, .int 0, .int 0, .nil]) (sz := 6) (by kernel_rfl) (by kernel_rfl) rfl (by kernel_rfl) (by decide) rfl rfl (by exact trivial) rfl) trivial ?_
  refine p_step rfl (e_move (v := .lit _ _ _) rfl) trivial ?_
  refine p_app rfl rfl rfl (.ofRef (hset_self _ _ _) rfl) src_lit (by kernel_rfl) (by simp only [List.length_append, List.length_map, List.length_nil, List.length_cons]; omega) fun v5 h6 c7 hs8 hf9 => ?_
  refine p_step rfl (e_assign (v := _) rfl) trivial ?_
  refine p_end (hK4 _ ?_); clear hK4 K4
  refine pwp_ret ?_
  refine end1 (v := _) rfl ?_
  first
    | exact .nil
    | exact SliceAt.to hs8 (by simp)

theorem cloneC (xs : List Task) (hl : xs.length ≤ 10000) : HCallsR Try.prog 72 [.lit true 6 (xs.map Task.enc)] (fun _ => none) (fun _ => 0) (fun v h _ => SliceAt h 7 v 6 (xs.map Task.enc)) := by
  by_cases h : xs = []
  · subst h; exact cloneE
  · exact cloneN xs hl h

theorem usL_len {nd : List (List Int)} : (usL nd).length = nd.length := by simp [usL]

theorem fr24 : (inFrame Try.f24.ntmps (Try.f24.body.getD .skip) && Try.f24.results.toList.all (resScope Try.f24.ntmps)) = true := by kernel_rfl
theorem ReverseC (xs : List Task) (hl : xs.length ≤ 1000) (hq : Fair xs) : PCalls Try.prog 24 [.lit true 6 (xs.map Task.enc)] (.tup [.lit false 6 ((revE xs).1.map Task.encF), .int (revE xs).2]) := by
  refine PCalls.of_code Try.func24 rfl rfl (by kernel_rfl) mixed fr24 (by show _ ≤ 30; simp) (pure_2 (.lit _ _ _ fun row hr => pure_map Task.pureF row hr) (.sc _)) ?_
  refine pwp_seq_plain rfl fun K1 hK1 => ?_
  refine p_step rfl (e_assign (v := .nil) rfl) trivial ?_
  refine p_step rfl (e_assign (v := .sc _) rfl) trivial ?_
  refine p_end (hK1 _ ?_); clear hK1 K1
  refine pwp_seq_seq ?_
  refine pwp_seq_plain rfl fun K2 hK2 => ?_
  refine p_step rfl (e_move (v := .lit _ _ _) rfl) trivial ?_
  refine p_call rfl (.cons inn_lit .nil) (CheckC _ (by omega) hq) ?_
  refine p_step rfl (e_assign (v := .sc _) rfl) trivial ?_
  refine p_end (hK2 _ ?_); clear hK2 K2
  refine pwp_seq_seq ?_
  refine pwp_seq_plain rfl fun K3 hK3 => ?_
  refine p_step rfl (e_move (v := .sc _) rfl) trivial ?_
  refine p_step rfl (e_ne rfl rfl) trivial ?_
  refine p_end (hK3 _ ?_); clear hK3 K3
  refine pwp_seq_cond rfl fun K4 hK4 => ⟨fun hb5 => ?_, fun hb5 => ?_⟩
  ·have hb5R := hb5; try simp only [z1, z2, z3, z4, z5, z6, ne_eq, z7, z8, z9, z10, z11, z12] at hb5
   refine pwp_seq_plain rfl fun K6 hK6 => ?_
   refine p_step rfl (e_move (v := .sc _) rfl) trivial ?_
   refine p_step rfl (e_assign (v := .nil) rfl) trivial ?_
   refine p_step rfl (e_assign (v := .sc _) rfl) trivial ?_
   refine p_end (hK6 _ ?_); clear hK6 K6
   refine pwp_ret ?_
   refine ret_seq ?_
   refine end2 (v := .nil) (w := .sc _) rfl rfl ?_
   first
     | exact rev_e (by assumption)
  ·have hb5R := hb5; try simp only [z1, z2, z3, z4, z5, z6, ne_eq, z7, z8, z9, z10, z11, z12] at hb5
   refine pwp_skip ?_
   refine seq_norm (hK4 _ ?_); clear hK4 K4
   have hp : planE xs = 0 := (by assumption)
   refine pwp_seq_plain rfl fun K7 hK7 => ?_
   refine p_step rfl (e_move (v := .lit _ _ _) rfl) trivial ?_
   refine p_hcall rfl (cloneC xs (by omega)) fun v14 h14 c14 hR14 => ?_
   have hs14 : SliceAt h14 7 v14 6 ((mixL xs 0).map mixF) := hR14.to mixL_0.symm
   refine p_step rfl (e_assign (v := _) rfl) trivial ?_
   refine p_end (hK7 _ ?_); clear hK7 K7
   refine pwp_seq_seq ?_
   refine pwp_seq_plain rfl fun K8 hK8 => ?_
   refine p_step rfl (e_move (v := .lit _ _ _) rfl) trivial ?_
   refine p_call rfl (.cons inn_lit .nil) (usersC _ (by omega) (fun x hx => (hq x hx).1) (tasks_nd (planE_ok hp))) ?_
   refine p_step rfl (e_len rfl (by kernel_rfl)) trivial ?_
   refine p_step rfl (e_move (v := .sc _) rfl) trivial ?_
   refine p_end (hK8 _ ?_); clear hK8 K8
   refine pwp_seq_block fun K9 hK9 => ?_
   refine pwp_loopR (α := Nat) [5, 16, 17] (fun (k : Nat) => [(18, .int (k))]) (fun (k : Nat) (h : Heap) (_ : Nat → Nat) => ((k) ≤ xs.length) ∧ (SliceAt h 7 v14 6 ((mixL xs (k)).map mixF))) (fun (k : Nat) => xs.length - (k)) (0) (by exact ⟨rfl, trivial⟩) (by exact ⟨by exact Nat.zero_le _, hs14⟩) fun k r10 h11 c12 hj13 => ?_
   obtain ⟨hk, hihj13_0⟩ := hj13
   try dsimp only at hk
   try dsimp only at hihj13_0
   show pwp _ _ (loopQ _ _ _) ⟨sets (mix _ _ _) [(18, .int k)], _, _⟩
   refine pwp_seq_plain rfl fun K14 hK14 => ?_
   refine p_step rfl (e_lt rfl rfl) trivial ?_
   refine p_end (hK14 _ ?_); clear hK14 K14
   refine pwp_seq_cond rfl fun K15 hK15 => ⟨fun hb16 => ?_, fun hb16 => ?_⟩
   ·have hb16R := hb16; try simp only [z1, z2, z3, z4, z5, z6, ne_eq, z7, z8, z9, z10, z11, z12] at hb16
    have hkl : k < xs.length := by rw [List.length_map, usL_len, ndX_len] at *; omega
    obtain ⟨x, hx, _, _⟩ := get_lt (xs := xs) (i := k) hkl
    refine pwp_skip ?_
    refine seq_norm (hK15 _ ?_); clear hK15 K15
    refine pwp_seq_block fun K17 hK17 => ?_
    refine pwp_seq_plain rfl fun K18 hK18 => ?_
    refine p_step rfl (e_move (v := .sc _) rfl) trivial ?_
    refine p_step rfl (e_ixa rfl rfl (by kernel_rfl) (by kernel_rfl) (by first | omega | (simp only [List.length_map]; rw [usL_len, ndX_len]; omega))) trivial ?_
    refine p_step rfl (e_load (v := .lit _ _ _) rfl (by kernel_rfl) (by kernel_rfl) (by kernel_rfl) (by first | omega | (simp only [List.length_map]; rw [usL_len, ndX_len]; omega)) (by decide) ((cell_map (usL_get (by rw [ndX_len]; omega)) _).trans rfl)) trivial ?_
    refine p_step rfl (e_assign (v := .sc _) rfl) trivial ?_
    refine p_step rfl (e_assign (v := .lit _ _ _) rfl) trivial ?_
    refine p_end (hK18 _ ?_); clear hK18 K18
    obtain ⟨g, rfl, hg⟩ := SliceAt.isRef hihj13_0 (by intro q; have q2 := congrArg List.length q; simp only [List.length_map, mixL_len, List.length_nil] at q2; omega)
    refine pwp_plain rfl fun K19 hK19 => ?_
    refine p_step rfl (e_move (v := .ref _ _ _ _) rfl) trivial ?_
    refine p_step rfl (e_move (v := .sc _) rfl) trivial ?_
    refine p_step rfl (e_move (v := .lit _ _ _) rfl) trivial ?_
    refine p_step rfl (e_ixaR0 rfl rfl (by kernel_rfl) (by kernel_rfl) (by simp only [List.length_map, mixL_len]; omega)) trivial ?_
    refine p_step rfl (e_faP (pl := [(0, 1, false), (1, 1, false), (2, 1, false), (3, 1, false), (4, 1, false), (5, 1, false)]) rfl (by kernel_rfl) (by kernel_rfl) (by decide) rfl) trivial ?_
    refine p_store rfl (e_storeF (xs := mixL xs k) (a := (x, true)) (a' := ({ x with needs := usR (ndX xs) (k : Int) }, false)) rfl hg rfl (mixL_get hx) rfl (by kernel_rfl) (by kernel_rfl) rfl rfl) trivial ?_
    refine p_end (hK19 _ ?_); clear hK19 K19
    refine block_norm ?_
    refine seq_norm (hK17 _ ?_); clear hK17 K17
    refine pwp_plain rfl fun K20 hK20 => ?_
    refine p_step rfl (e_add rfl rfl (by first | omega | (rw [List.length_map, usL_len, ndX_len] at *; omega))) trivial ?_
    refine p_step rfl (e_move (v := .sc _) rfl) trivial ?_
    refine p_end (hK20 _ ?_); clear hK20 K20
    exact loop_again (k + 1) (by show _ < _; omega) ⟨rfl, rfl, rfl, trivial⟩ ⟨rfl, trivial⟩ (by exact ⟨by show _ + 1 ≤ _; omega, (.inr ⟨g, by simp only [List.length_map, mixL_len], (hset_self _ _ _).trans (congrArg some (congrArg (PObj.rows 6) (congrArg (List.map mixF) (mixL_set hx))))⟩)⟩)
   ·have hb16R := hb16; try simp only [z1, z2, z3, z4, z5, z6, ne_eq, z7, z8, z9, z10, z11, z12] at hb16
    have hkx : k = xs.length := by rw [List.length_map, usL_len, ndX_len] at *; omega
    refine pwp_exit ?_
    refine exit_seq ?_
    clear hK15 K15
    refine exit_loop ?_
    refine exit_here ?_
    refine seq_norm (hK9 _ ?_); clear hK9 K9
    refine pwp_seq_plain rfl fun K21 hK21 => ?_
    refine p_step rfl (e_move (v := _) rfl) trivial ?_
    refine p_step rfl (e_assign (v := _) rfl) trivial ?_
    refine p_step rfl (e_assign (v := .sc _) rfl) trivial ?_
    refine p_end (hK21 _ ?_); clear hK21 K21
    refine pwp_ret ?_
    refine end2 (v := _) (w := .sc _) rfl rfl ?_
    first
      | exact rev_e (by assumption)
      | exact rev_0 hp hkx hihj13_0

end Go.Proofs.Ytjmjiegplnfiiaa
