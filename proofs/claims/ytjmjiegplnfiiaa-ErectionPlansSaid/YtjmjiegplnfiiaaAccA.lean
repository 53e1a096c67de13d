import Derived.Test.YtjmjiegplnfiiaaStgA
/- Orders that are accepted. No conditions. -/
set_option linter.unusedSimpArgs false
set_option linter.unusedVariables false
set_option maxRecDepth 100000
namespace Go.Proofs.Ytjmjiegplnfiiaa
open Go Go.Pv
/-! ### Orders that are accepted -/
def accE (nd : List (List Int)) (D : List Int) (z : Int) : Int := if ¬ (0 ≤ z ∧ z ≤ (nd.length : Int) - 1) then 6 else if z ∈ D then 5 else if ¬ (∀ y ∈ nd_ nd z.toNat, y ∈ D) then 10 else 0
section
variable {nd : List (List Int)} {ds : List Int} {k : Nat}
end
end Go.Proofs.Ytjmjiegplnfiiaa

/- The reverse of a plan, as the program makes it. No conditions. -/
set_option linter.unusedSimpArgs false
set_option linter.unusedVariables false
set_option maxRecDepth 100000
namespace Go.Proofs.Ytjmjiegplnfiiaa
open Go Go.Pv
/-! ### The reverse plan -/
def mixF (p : Task × Bool) : List PV := [.str p.1.name, .str p.1.trade, .int p.1.member, .int p.1.place, .int p.1.minutes, .lit p.2 1 (p.1.needs.map ci)]
theorem mixF_pure (p : Task × Bool) : ∀ q ∈ mixF p, Pure q := fun q hq => by
  simp only [mixF, List.mem_cons, List.not_mem_nil, or_false] at hq
  rcases hq with rfl | rfl | rfl | rfl | rfl | rfl
  · exact .sc _
  · exact .sc _
  · exact .sc _
  · exact .sc _
  · exact .sc _
  · exact .lit _ _ _ fun row hr => pure_map ci_pure row hr
def Task.encF (x : Task) : List PV := mixF (x, false)
theorem Task.pureF (x : Task) : ∀ q ∈ x.encF, Pure q := mixF_pure _
def revT (xs : List Task) (i : Nat) : Task := { xs.getD i default with needs := usR (ndX xs) (i : Int) }
def revX (xs : List Task) : List Task := (List.range xs.length).map (revT xs)
def mixL (xs : List Task) (k : Nat) : List (Task × Bool) := (List.range xs.length).map fun i => if i < k then (revT xs i, false) else (xs.getD i default, true)
theorem mixL_len {xs : List Task} {k : Nat} : (mixL xs k).length = xs.length := by simp [mixL]
theorem mixL_0 {xs : List Task} : (mixL xs 0).map mixF = xs.map Task.enc := by
  apply List.ext_getElem (by simp [mixL])
  intro i h1 h2
  simp only [mixL, List.getElem_map, List.getElem_range, Nat.not_lt_zero, if_false]
  rw [List.getD_eq_getElem?_getD, List.getElem?_eq_getElem (by simpa using h2)]; rfl
theorem mixL_all {xs : List Task} {k : Nat} (hk : xs.length ≤ k) : (mixL xs k).map mixF = (revX xs).map Task.encF := by
  simp only [mixL, revX, List.map_map]
  refine List.map_congr_left fun i hi => ?_
  have := List.mem_range.1 hi
  simp only [Function.comp, if_pos (show i < k by omega)]; rfl
theorem mixL_get {xs : List Task} {k : Nat} {x : Task} (hx : xs[k]? = some x) : (mixL xs k)[k]? = some (x, true) := by
  have hk := (List.getElem?_eq_some_iff.1 hx).1
  simp only [mixL, List.getElem?_map, List.getElem?_range hk, Option.map_some, Nat.lt_irrefl, if_false, List.getD_eq_getElem?_getD, hx, Option.getD_some]
theorem mixL_set {xs : List Task} {k : Nat} {x : Task} (hx : xs[k]? = some x) : (mixL xs k).set k ({ x with needs := usR (ndX xs) (k : Int) }, false) = mixL xs (k + 1) := by
  have hk := (List.getElem?_eq_some_iff.1 hx).1
  apply List.ext_getElem (by simp [mixL])
  intro i h1 h2
  rw [List.getElem_set]
  simp only [mixL, List.getElem_map, List.getElem_range]
  by_cases e : k = i
  · subst e
    rw [if_pos rfl, if_pos (Nat.lt_succ_self _), revT, List.getD_eq_getElem?_getD, hx]; rfl
  · rw [if_neg e]
    by_cases h : i < k
    · rw [if_pos h, if_pos (by omega)]
    · rw [if_neg h, if_neg (by omega)]
theorem revX_len {xs : List Task} : (revX xs).length = xs.length := by simp [revX]
theorem cleanF (x : Task) : ∀ p ∈ x.encF, Go.Pv.Clean p ∧ p.cell = true := fun p hp => by
  simp only [Task.encF, mixF, List.mem_cons, List.not_mem_nil, or_false] at hp
  rcases hp with rfl | rfl | rfl | rfl | rfl | rfl
  · exact ⟨.sc _, rfl⟩
  · exact ⟨.sc _, rfl⟩
  · exact ⟨.sc _, rfl⟩
  · exact ⟨.sc _, rfl⟩
  · exact ⟨.sc _, rfl⟩
  · exact ⟨.lit _ _ ints_clean, rfl⟩
def revE (xs : List Task) : List Task × Int := if planE xs ≠ 0 then ([], planE xs) else (revX xs, 0)
theorem rev_e {xs : List Task} {h : Heap} (hp : planE xs ≠ 0) : Out h (.tup [.nil, .int (planE xs)]) (.tup [.lit false 6 ((revE xs).1.map Task.encF), .int (revE xs).2]) := by
  rw [revE, if_pos hp]; exact out_2 (.nil 6) (out_i rfl)
theorem rev_0 {xs : List Task} {h : Heap} {v : PV} {k : Nat} (hp : planE xs = 0) (hk : k = xs.length) (hs : SliceAt h 7 v 6 ((mixL xs k).map mixF)) : Out h (.tup [v, .int 0]) (.tup [.lit false 6 ((revE xs).1.map Task.encF), .int (revE xs).2]) := by
  rw [revE, if_neg (fun q => q hp)]
  exact out_2 (out_slice hs (mixL_all (Nat.le_of_eq hk.symm)) (fun _ => rfl) cleanF) (out_i rfl)

theorem frH72a : (inFrame Try.f72.ntmps (Try.f72.body.getD .skip) && Try.f72.results.toList.all (resScope Try.f72.ntmps)) = true := by kernel_rfl
theorem cloneE  : HCallsR Try.prog 72 [.lit true 6 (([] : List Task).map Task.enc)] (fun _ => none) (fun _ => 0) (fun v h _ => SliceAt h 7 v 6 (([] : List Task).map Task.enc)) := by
  refine HCallsR.of_code Try.func72 rfl rfl (by kernel_rfl) mixed frH72a (by show _ ≤ 8; simp) ?_
  refine pwp_seq_plain rfl fun K1 hK1 => ?_
  refine p_step rfl (e_assign (v := .nil) rfl) trivial ?_
  refine p_end (hK1 _ ?_); clear hK1 K1
  refine pwp_seq_seq ?_
  refine pwp_seq_plain rfl fun K2 hK2 => ?_
  refine p_step rfl (e_move (v := .lit _ _ _) rfl) trivial ?_
  refine p_nilq rfl (by kernel_rfl) rfl fun b => ?_
  refine p_end (hK2 _ ?_); clear hK2 K2
  refine pwp_seq_cond rfl fun K3 hK3 => ⟨fun hb4 => ?_, fun hb4 => ?_⟩
  ·have hb4R := hb4; try simp only [z1, z2, z3, z4, z5, z6, ne_eq, z7, z8, z9, z10, z11, z12] at hb4
   refine pwp_seq_plain rfl fun K5 hK5 => ?_
   refine p_step rfl (e_assign (v := .nil) rfl) trivial ?_
   refine p_end (hK5 _ ?_); clear hK5 K5
   refine pwp_ret ?_
   refine ret_seq ?_
   refine end1 (v := .nil) rfl ?_
   first
     | exact .nil
  ·have hb4R := hb4; try simp only [z1, z2, z3, z4, z5, z6, ne_eq, z7, z8, z9, z10, z11, z12] at hb4
   refine pwp_skip ?_
   refine seq_norm (hK3 _ ?_); clear hK3 K3
   refine pwp_seq_plain rfl fun K6 hK6 => ?_
   refine p_new rfl (e_bslice (rows := []) (zs := [.str ByteArray.empty, .str ByteArray.empty, .int 0, .int 0, .int 0, .nil]) (sz := 6) (by kernel_rfl) (by kernel_rfl) rfl (by kernel_rfl) (by decide) rfl rfl (by exact trivial) rfl) trivial ?_
   refine p_step rfl (e_move (v := .lit _ _ _) rfl) trivial ?_
   refine p_app rfl rfl rfl (.ofRef (hset_self _ _ _) rfl) src_lit (by kernel_rfl) (by simp only [List.length_append, List.length_map, List.length_nil, List.length_cons]; omega) fun v7 h8 c9 hs10 hf11 => ?_
   refine p_step rfl (e_assign (v := _) rfl) trivial ?_
   refine p_end (hK6 _ ?_); clear hK6 K6
   refine pwp_ret ?_
   refine end1 (v := _) rfl ?_
   first
     | exact .nil
     | exact SliceAt.to hs10 (by simp)

theorem frH72 : (inFrame Try.f72.ntmps (Try.f72.body.getD .skip) && Try.f72.results.toList.all (resScope Try.f72.ntmps)) = true := by kernel_rfl
theorem cloneN (xs : List Task) (hl : xs.length ≤ 10000) (hne : xs ≠ []) : HCallsR Try.prog 72 [.lit true 6 (xs.map Task.enc)] (fun _ => none) (fun _ => 0) (fun v h _ => SliceAt h 7 v 6 (xs.map Task.enc)) := by
  refine HCallsR.of_code Try.func72 rfl rfl (by kernel_rfl) mixed frH72 (by show _ ≤ 8; simp) ?_
  refine pwp_seq_plain rfl fun K1 hK1 => ?_
  refine p_step rfl (e_assign (v := .nil) rfl) trivial ?_
  refine p_end (hK1 _ ?_); clear hK1 K1
  refine pwp_seq_seq ?_
  refine pwp_seq_plain rfl fun K2 hK2 => ?_
  refine p_step rfl (e_move (v := .lit _ _ _) rfl) trivial ?_
  refine p_step rfl (e_nileq rfl (by simpa using hne) rfl (by kernel_rfl)) trivial ?_
  refine p_end (hK2 _ ?_); clear hK2 K2
  refine pwp_seq_cond (t := false) rfl fun K3 hK3 => ⟨nofun, fun _ => ?_⟩
  refine pwp_skip ?_
  refine seq_norm (hK3 _ ?_); clear hK3 K3
  refine pwp_seq_plain rfl fun K4 hK4 => ?_
  refine p_new rfl (e_bslice (rows := []) (zs := [.str ByteArray.empty, .str ByteArray.empty, .int 0, .int 0, .int 0, .nil]) (sz := 6) (by kernel_rfl) (by kernel_rfl) rfl (by kernel_rfl) (by decide) rfl rfl (by exact trivial) rfl) trivial ?_
  refine p_step rfl (e_move (v := .lit _ _ _) rfl) trivial ?_
  refine p_app rfl rfl rfl (.ofRef (hset_self _ _ _) rfl) src_lit (by kernel_rfl) (by simp only [List.length_append, List.length_map, List.length_nil, List.length_cons]; omega) fun v5 h6 c7 hs8 hf9 => ?_
  refine p_step rfl (e_assign (v := _) rfl) trivial ?_
  refine p_end (hK4 _ ?_); clear hK4 K4
  refine pwp_ret ?_
  refine end1 (v := _) rfl ?_
  first
    | exact .nil
    | exact SliceAt.to hs8 (by simp)

theorem cloneC (xs : List Task) (hl : xs.length ≤ 10000) : HCallsR Try.prog 72 [.lit true 6 (xs.map Task.enc)] (fun _ => none) (fun _ => 0) (fun v h _ => SliceAt h 7 v 6 (xs.map Task.enc)) := by
  by_cases h : xs = []
  · subst h; exact cloneE
  · exact cloneN xs hl h

theorem usL_len {nd : List (List Int)} : (usL nd).length = nd.length := by simp [usL]

theorem fr24 : (inFrame Try.f24.ntmps (Try.f24.body.getD .skip) && Try.f24.results.toList.all (resScope Try.f24.ntmps)) = true := by kernel_rfl
theorem ReverseC (xs : List Task) (hl : xs.length ≤ 1000) (hq : Fair xs) : PCalls Try.prog 24 [.lit true 6 (xs.map Task.enc)] (.tup [.lit false 6 ((revE xs).1.map Task.encF), .int (revE xs).2]) := by
  refine PCalls.of_code Try.func24 rfl rfl (by kernel_rfl) mixed fr24 (by show _ ≤ 30; simp) (pure_2 (.lit _ _ _ fun row hr => pure_map Task.pureF row hr) (.sc _)) ?_
  refine pwp_seq_plain rfl fun K1 hK1 => ?_
  refine p_step rfl (e_assign (v := .nil) rfl) trivial ?_
  refine p_step rfl (e_assign (v := .sc _) rfl) trivial ?_
  refine p_end (hK1 _ ?_); clear hK1 K1
  refine pwp_seq_seq ?_
  refine pwp_seq_plain rfl fun K2 hK2 => ?_
  refine p_step rfl (e_move (v := .lit _ _ _) rfl) trivial ?_
  refine p_call rfl (.cons inn_lit .nil) (CheckC _ (by omega) hq) ?_
  refine p_step rfl (e_assign (v := .sc _) rfl) trivial ?_
  refine p_end (hK2 _ ?_); clear hK2 K2
  refine pwp_seq_seq ?_
  refine pwp_seq_plain rfl fun K3 hK3 => ?_
  refine p_step rfl (e_move (v := .sc _) rfl) trivial ?_
  refine p_step rfl (e_ne rfl rfl) trivial ?_
  refine p_end (hK3 _ ?_); clear hK3 K3
  refine pwp_seq_cond rfl fun K4 hK4 => ⟨fun hb5 => ?_, fun hb5 => ?_⟩
  ·have hb5R := hb5; try simp only [z1, z2, z3, z4, z5, z6, ne_eq, z7, z8, z9, z10, z11, z12] at hb5
   refine pwp_seq_plain rfl fun K6 hK6 => ?_
   refine p_step rfl (e_move (v := .sc _) rfl) trivial ?_
   refine p_step rfl (e_assign (v := .nil) rfl) trivial ?_
   refine p_step rfl (e_assign (v := .sc _) rfl) trivial ?_
   refine p_end (hK6 _ ?_); clear hK6 K6
   refine pwp_ret ?_
   refine ret_seq ?_
   refine end2 (v := .nil) (w := .sc _) rfl rfl ?_
   first
     | exact rev_e (by assumption)
  ·have hb5R := hb5; try simp only [z1, z2, z3, z4, z5, z6, ne_eq, z7, z8, z9, z10, z11, z12] at hb5
   refine pwp_skip ?_
   refine seq_norm (hK4 _ ?_); clear hK4 K4
   have hp : planE xs = 0 := (by assumption)
   refine pwp_seq_plain rfl fun K7 hK7 => ?_
   refine p_step rfl (e_move (v := .lit _ _ _) rfl) trivial ?_
   refine p_hcall rfl (cloneC xs (by omega)) fun v14 h14 c14 hR14 => ?_
   have hs14 : SliceAt h14 7 v14 6 ((mixL xs 0).map mixF) := hR14.to mixL_0.symm
   refine p_step rfl (e_assign (v := _) rfl) trivial ?_
   refine p_end (hK7 _ ?_); clear hK7 K7
   refine pwp_seq_seq ?_
   refine pwp_seq_plain rfl fun K8 hK8 => ?_
   refine p_step rfl (e_move (v := .lit _ _ _) rfl) trivial ?_
   refine p_call rfl (.cons inn_lit .nil) (usersC _ (by omega) (fun x hx => (hq x hx).1) (tasks_nd (planE_ok hp))) ?_
   refine p_step rfl (e_len rfl (by kernel_rfl)) trivial ?_
   refine p_step rfl (e_move (v := .sc _) rfl) trivial ?_
   refine p_end (hK8 _ ?_); clear hK8 K8
   refine pwp_seq_block fun K9 hK9 => ?_
   refine pwp_loopR (α := Nat) [5, 16, 17] (fun (k : Nat) => [(18, .int (k))]) (fun (k : Nat) (h : Heap) (_ : Nat → Nat) => ((k) ≤ xs.length) ∧ (SliceAt h 7 v14 6 ((mixL xs (k)).map mixF))) (fun (k : Nat) => xs.length - (k)) (0) (by exact ⟨rfl, trivial⟩) (by exact ⟨by exact Nat.zero_le _, hs14⟩) fun k r10 h11 c12 hj13 => ?_
   obtain ⟨hk, hihj13_0⟩ := hj13
   try dsimp only at hk
   try dsimp only at hihj13_0
   show pwp _ _ (loopQ _ _ _) ⟨sets (mix _ _ _) [(18, .int k)], _, _⟩
   refine pwp_seq_plain rfl fun K14 hK14 => ?_
   refine p_step rfl (e_lt rfl rfl) trivial ?_
   refine p_end (hK14 _ ?_); clear hK14 K14
   refine pwp_seq_cond rfl fun K15 hK15 => ⟨fun hb16 => ?_, fun hb16 => ?_⟩
   ·have hb16R := hb16; try simp only [z1, z2, z3, z4, z5, z6, ne_eq, z7, z8, z9, z10, z11, z12] at hb16
    have hkl : k < xs.length := by rw [List.length_map, usL_len, ndX_len] at *; omega
    obtain ⟨x, hx, _, _⟩ := get_lt (xs := xs) (i := k) hkl
    refine pwp_skip ?_
    refine seq_norm (hK15 _ ?_); clear hK15 K15
    refine pwp_seq_block fun K17 hK17 => ?_
    refine pwp_seq_plain rfl fun K18 hK18 => ?_
    refine p_step rfl (e_move (v := .sc _) rfl) trivial ?_
    refine p_step rfl (e_ixa rfl rfl (by kernel_rfl) (by kernel_rfl) (by first | omega | (simp only [List.length_map]; rw [usL_len, ndX_len]; omega))) trivial ?_
    refine p_step rfl (e_load (v := .lit _ _ _) rfl (by kernel_rfl) (by kernel_rfl) (by kernel_rfl) (by first | omega | (simp only [List.length_map]; rw [usL_len, ndX_len]; omega)) (by decide) ((cell_map (usL_get (by rw [ndX_len]; omega)) _).trans rfl)) trivial ?_
    refine p_step rfl (e_assign (v := .sc _) rfl) trivial ?_
    refine p_step rfl (e_assign (v := .lit _ _ _) rfl) trivial ?_
    refine p_end (hK18 _ ?_); clear hK18 K18
    obtain ⟨g, rfl, hg⟩ := SliceAt.isRef hihj13_0 (by intro q; have q2 := congrArg List.length q; simp only [List.length_map, mixL_len, List.length_nil] at q2; omega)
    refine pwp_plain rfl fun K19 hK19 => ?_
    refine p_step rfl (e_move (v := .ref _ _ _ _) rfl) trivial ?_
    refine p_step rfl (e_move (v := .sc _) rfl) trivial ?_
    refine p_step rfl (e_move (v := .lit _ _ _) rfl) trivial ?_
    refine p_step rfl (e_ixaR0 rfl rfl (by kernel_rfl) (by kernel_rfl) (by simp only [List.length_map, mixL_len]; omega)) trivial ?_
    refine p_step rfl (e_faP (pl := [(0, 1, false), (1, 1, false), (2, 1, false), (3, 1, false), (4, 1, false), (5, 1, false)]) rfl (by kernel_rfl) (by kernel_rfl) (by decide) rfl) trivial ?_
    refine p_store rfl (e_storeF (xs := mixL xs k) (a := (x, true)) (a' := ({ x with needs := usR (ndX xs) (k : Int) }, false)) rfl hg rfl (mixL_get hx) rfl (by kernel_rfl) (by kernel_rfl) rfl rfl) trivial ?_
    refine p_end (hK19 _ ?_); clear hK19 K19
    refine block_norm ?_
    refine seq_norm (hK17 _ ?_); clear hK17 K17
    refine pwp_plain rfl fun K20 hK20 => ?_
    refine p_step rfl (e_add rfl rfl (by first | omega | (rw [List.length_map, usL_len, ndX_len] at *; omega))) trivial ?_
    refine p_step rfl (e_move (v := .sc _) rfl) trivial ?_
    refine p_end (hK20 _ ?_); clear hK20 K20
    exact loop_again (k + 1) (by show _ < _; omega) ⟨rfl, rfl, rfl, trivial⟩ ⟨rfl, trivial⟩ (by exact ⟨by show _ + 1 ≤ _; omega, (.inr ⟨g, by simp only [List.length_map, mixL_len], (hset_self _ _ _).trans (congrArg some (congrArg (PObj.rows 6) (congrArg (List.map mixF) (mixL_set hx))))⟩)⟩)
   ·have hb16R := hb16; try simp only [z1, z2, z3, z4, z5, z6, ne_eq, z7, z8, z9, z10, z11, z12] at hb16
    have hkx : k = xs.length := by rw [List.length_map, usL_len, ndX_len] at *; omega
    refine pwp_exit ?_
    refine exit_seq ?_
    clear hK15 K15
    refine exit_loop ?_
    refine exit_here ?_
    refine seq_norm (hK9 _ ?_); clear hK9 K9
    refine pwp_seq_plain rfl fun K21 hK21 => ?_
    refine p_step rfl (e_move (v := _) rfl) trivial ?_
    refine p_step rfl (e_assign (v := _) rfl) trivial ?_
    refine p_step rfl (e_assign (v := .sc _) rfl) trivial ?_
    refine p_end (hK21 _ ?_); clear hK21 K21
    refine pwp_ret ?_
    refine end2 (v := _) (w := .sc _) rfl rfl ?_
    first
      | exact rev_e (by assumption)
      | exact rev_0 hp hkx hihj13_0

theorem task_eq {x y : Task} (h1 : x.name = y.name) (h2 : x.trade = y.trade) (h3 : x.member = y.member) (h4 : x.place = y.place) (h5 : x.minutes = y.minutes) (h6 : x.needs = y.needs) : x = y := by
  cases x; cases y; simp_all
theorem same_no {xs ys : List Task} {k : Nat} {x y : Task} (hx : xs[k]? = some x) (hy : ys[k]? = some y) (h : x ≠ y) : ¬ xs = ys := fun e => h (by
  rw [e, hy] at hx; exact (Option.some.inj hx).symm)
theorem same_yes {xs ys : List Task} {k : Nat} (hl : xs.length = ys.length) (h : xs.take k = ys.take k) (hk : xs.length ≤ k) : xs = ys := by
  rw [List.take_of_length_le hk, List.take_of_length_le (by omega)] at h; exact h

theorem fr28 : (inFrame Try.f28.ntmps (Try.f28.body.getD .skip) && Try.f28.results.toList.all (resScope Try.f28.ntmps)) = true := by kernel_rfl
theorem SameTasksC (xs ys : List Task) (hl : xs.length ≤ 1000) (hn : ∀ x ∈ xs, x.needs.length ≤ 1000000) : PCalls Try.prog 28 [.lit true 6 (xs.map Task.enc), .lit true 6 (ys.map Task.enc)] (.bool (decide (xs = ys))) := by
  refine PCalls.of_code Try.func28 rfl rfl (by kernel_rfl) mixed fr28 (by show _ ≤ 68; simp) (.sc _) ?_
  refine pwp_seq_plain rfl fun K1 hK1 => ?_
  refine p_step rfl (e_assign (v := .sc _) rfl) trivial ?_
  refine p_end (hK1 _ ?_); clear hK1 K1
  refine pwp_seq_seq ?_
  refine pwp_seq_plain rfl fun K2 hK2 => ?_
  refine p_step rfl (e_move (v := .lit _ _ _) rfl) trivial ?_
  refine p_step rfl (e_len rfl (by kernel_rfl)) trivial ?_
  refine p_step rfl (e_move (v := .lit _ _ _) rfl) trivial ?_
  refine p_step rfl (e_len rfl (by kernel_rfl)) trivial ?_
  refine p_step rfl (e_ne rfl rfl) trivial ?_
  refine p_end (hK2 _ ?_); clear hK2 K2
  refine pwp_seq_cond rfl fun K3 hK3 => ⟨fun hb4 => ?_, fun hb4 => ?_⟩
  ·have hb4R := hb4; try simp only [z1, z2, z3, z4, z5, z6, ne_eq, z7, z8, z9, z10, z11, z12] at hb4
   refine pwp_seq_plain rfl fun K5 hK5 => ?_
   refine p_step rfl (e_assign (v := .sc _) rfl) trivial ?_
   refine p_end (hK5 _ ?_); clear hK5 K5
   refine pwp_ret ?_
   refine ret_seq ?_
   refine end1 (v := .sc _) rfl ?_
   first
     | exact out_b (decide_eq_false (by first | (intro hc; subst hc; omega) | exact same_no hx hy (fun e => by subst e; first | exact absurd rfl (by assumption) | (simp at *; done) | fail))).symm
     | exact out_b (decide_eq_true (same_yes (by omega) he (by omega))).symm
  ·have hb4R := hb4; try simp only [z1, z2, z3, z4, z5, z6, ne_eq, z7, z8, z9, z10, z11, z12] at hb4
   refine pwp_skip ?_
   refine seq_norm (hK3 _ ?_); clear hK3 K3
   refine pwp_seq_seq ?_
   refine pwp_seq_plain rfl fun K6 hK6 => ?_
   refine p_step rfl (e_assign (v := .sc _) rfl) trivial ?_
   refine p_end (hK6 _ ?_); clear hK6 K6
   refine pwp_seq_block fun K7 hK7 => ?_
   refine pwp_loopR (α := Nat) [0, 1] (fun (k : Nat) => [(5, .int (k))]) (fun (k : Nat) (h : Heap) (_ : Nat → Nat) => ((k) ≤ xs.length) ∧ (xs.take (k) = ys.take (k))) (fun (k : Nat) => xs.length - (k)) (0) (by exact ⟨rfl, trivial⟩) (by exact ⟨by exact Nat.zero_le _, by exact rfl⟩) fun k r8 h9 c10 hj11 => ?_
   obtain ⟨hk, he⟩ := hj11
   try dsimp only at hk
   try dsimp only at he
   show pwp _ _ (loopQ _ _ _) ⟨sets (mix _ _ _) [(5, .int k)], _, _⟩
   refine pwp_seq_seq ?_
   refine pwp_seq_plain rfl fun K12 hK12 => ?_
   refine p_step rfl (e_move (v := .sc _) rfl) trivial ?_
   refine p_step rfl (e_move (v := .lit _ _ _) rfl) trivial ?_
   refine p_step rfl (e_len rfl (by kernel_rfl)) trivial ?_
   refine p_step rfl (e_lt rfl rfl) trivial ?_
   refine p_end (hK12 _ ?_); clear hK12 K12
   refine pwp_seq_cond rfl fun K13 hK13 => ⟨fun hb14 => ?_, fun hb14 => ?_⟩
   ·have hb14R := hb14; try simp only [z1, z2, z3, z4, z5, z6, ne_eq, z7, z8, z9, z10, z11, z12] at hb14
    obtain ⟨x, hx, hd, ht⟩ := get_lt (xs := xs) (i := k) (by omega)
    obtain ⟨y, hy, hdy, hty⟩ := get_lt (xs := ys) (i := k) (by omega)
    have hxl := hn x (List.mem_of_getElem? hx)
    refine pwp_skip ?_
    refine seq_norm (hK13 _ ?_); clear hK13 K13
    refine pwp_seq_block fun K15 hK15 => ?_
    refine pwp_seq_gops rfl fun K16 hK16 => ?_
    refine s_begin ?_
    refine s_step [] (by simp) rfl rfl rfl rfl (e_move (v := .lit _ _ _) rfl) trivial ?_
    refine s_step [] (by simp) rfl rfl rfl rfl (e_move (v := .sc _) rfl) trivial ?_
    refine s_step [] (by simp) rfl rfl rfl rfl (e_ixa rfl rfl (by kernel_rfl) (by kernel_rfl) (by first | omega | (simp only [List.length_map]; omega))) trivial ?_
    refine s_step [] (by simp) rfl rfl rfl rfl (e_loadA (n := 6) rfl (by kernel_rfl) (by kernel_rfl) (by kernel_rfl) (by first | omega | (simp only [List.length_map]; omega)) (by decide) (by first | exact agg_map hx rfl)) trivial ?_
    refine s_step [] (by simp) rfl rfl rfl rfl (e_move (v := .lit _ _ _) rfl) trivial ?_
    refine s_step [] (by simp) rfl rfl rfl rfl (e_move (v := .sc _) rfl) trivial ?_
    refine s_step [] (by simp) rfl rfl rfl rfl (e_ixa rfl rfl (by kernel_rfl) (by kernel_rfl) (by first | omega | (simp only [List.length_map]; omega))) trivial ?_
    refine s_step [] (by simp) rfl rfl rfl rfl (e_loadA (n := 6) rfl (by kernel_rfl) (by kernel_rfl) (by kernel_rfl) (by first | omega | (simp only [List.length_map]; omega)) (by decide) (by first | exact agg_map hy rfl)) trivial ?_
    refine s_new [] (by simp) rfl rfl rfl rfl (e_alloc (cs := [.str ByteArray.empty, .str ByteArray.empty, .int 0, .int 0, .int 0, .nil]) (n := 6) (by kernel_rfl) rfl (by decide)) (ob_alloc (by decide)) ?_
    refine s_new [] (by simp) rfl rfl rfl rfl (e_alloc (cs := [.str ByteArray.empty, .str ByteArray.empty, .int 0, .int 0, .int 0, .nil]) (n := 6) (by kernel_rfl) rfl (by decide)) (ob_alloc (by decide)) ?_
    refine s_store [6] (by simp) rfl rfl (e_storeA rfl ((hset_ne (key_ne rfl)).trans (hset_self _ _ _)) rfl rfl rfl (by kernel_rfl) rfl (by kernel_rfl)) trivial ?_
    refine s_store [7] (by simp) rfl rfl (e_storeA rfl ((hset_ne (key_ne rfl)).trans (hset_self _ _ _)) rfl rfl rfl (by kernel_rfl) rfl (by kernel_rfl)) trivial ?_
    refine s_end (ds := []) (by kernel_rfl) (by kernel_rfl) (hK16 _ ?_); clear hK16 K16
    refine pwp_seq_gops rfl fun K17 hK17 => ?_
    refine g_begin ?_
    refine g_step rfl rfl rfl rfl (e_faP (pl := [(0, 1, false), (1, 1, false), (2, 1, false), (3, 1, false), (4, 1, false), (5, 1, false)]) rfl (by kernel_rfl) (by kernel_rfl) (by decide) rfl) trivial ?_
    refine g_step rfl rfl rfl rfl (e_loadH (v := .sc _) rfl ((hset_ne (key_ne rfl)).trans (hset_self _ _ _)) (by kernel_rfl) (by kernel_rfl) (by kernel_rfl) (by exact Nat.zero_lt_one) (by decide) rfl) trivial ?_
    refine g_step rfl rfl rfl rfl (e_faP (pl := [(0, 1, false), (1, 1, false), (2, 1, false), (3, 1, false), (4, 1, false), (5, 1, false)]) rfl (by kernel_rfl) (by kernel_rfl) (by decide) rfl) trivial ?_
    refine g_step rfl rfl rfl rfl (e_loadH (v := .sc _) rfl (hset_self _ _ _) (by kernel_rfl) (by kernel_rfl) (by kernel_rfl) (by exact Nat.zero_lt_one) (by decide) rfl) trivial ?_
    refine g_step rfl rfl rfl rfl (e_sne rfl rfl) trivial ?_
    refine g_step rfl rfl rfl rfl (e_move (v := .sc _) rfl) trivial ?_
    refine g_cases (fun hb18 => ?_) (fun hb18 => ?_)
    ·have hb18R := hb18; try simp only [z1, z2, z3, z4, z5, z6, ne_eq, z7, z8, z9, z10, z11, z12] at hb18
     refine g_skip rfl rfl rfl ?_
     refine g_skip rfl rfl rfl ?_
     refine g_skip rfl rfl rfl ?_
     refine g_skip rfl rfl rfl ?_
     refine g_skip rfl rfl rfl ?_
     refine g_step rfl rfl rfl rfl (e_pickT (v := .sc _) rfl rfl) trivial ?_
     refine g_step rfl rfl rfl rfl (e_move (v := .sc _) rfl) trivial ?_
     refine g_skip rfl rfl rfl ?_
     refine g_skip rfl rfl rfl ?_
     refine g_skip rfl rfl rfl ?_
     refine g_skip rfl rfl rfl ?_
     refine g_skip rfl rfl rfl ?_
     refine g_step rfl rfl rfl rfl (e_pickT (v := .sc _) rfl rfl) trivial ?_
     refine g_step rfl rfl rfl rfl (e_move (v := .sc _) rfl) trivial ?_
     refine g_skip rfl rfl rfl ?_
     refine g_skip rfl rfl rfl ?_
     refine g_skip rfl rfl rfl ?_
     refine g_skip rfl rfl rfl ?_
     refine g_skip rfl rfl rfl ?_
     refine g_step rfl rfl rfl rfl (e_pickT (v := .sc _) rfl rfl) trivial ?_
     refine g_step rfl rfl rfl rfl (e_move (v := .sc _) rfl) trivial ?_
     refine g_skip rfl rfl rfl ?_
     refine g_skip rfl rfl rfl ?_
     refine g_skip rfl rfl rfl ?_
     refine g_skip rfl rfl rfl ?_
     refine g_skip rfl rfl rfl ?_
     refine g_step rfl rfl rfl rfl (e_pickT (v := .sc _) rfl rfl) trivial ?_
     refine g_step rfl rfl rfl rfl (e_move (v := .sc _) rfl) trivial ?_
     refine g_skip rfl rfl rfl ?_
     refine g_skip rfl rfl rfl ?_
     refine g_skip rfl rfl rfl ?_
     refine g_skip rfl rfl rfl ?_
     refine g_nocall rfl rfl rfl ?_
     refine g_skip rfl rfl rfl ?_
     refine g_step rfl rfl rfl rfl (e_pickT (v := .sc _) rfl rfl) trivial ?_
     refine g_end (ds := [33, 34, 35, 36, 37, 40, 41, 42, 43, 44, 47, 48, 49, 50, 51, 54, 55, 56, 57, 58, 61, 62, 63, 64, 65, 66]) rfl rfl (hK17 _ ?_); clear hK17 K17
     refine pwp_cond (t := true) rfl (fun _ => ?_) nofun
     refine pwp_seq_plain rfl fun K19 hK19 => ?_
     refine p_step rfl (e_assign (v := .sc _) rfl) trivial ?_
     refine p_end (hK19 _ ?_); clear hK19 K19
     refine pwp_ret ?_
     refine ret_block ?_
     refine ret_seq ?_
     refine ret_loop ?_
     refine ret_block ?_
     refine ret_seq ?_
     refine end1 (v := .sc _) rfl ?_
     first
       | exact out_b (decide_eq_false (by first | (intro hc; subst hc; omega) | exact same_no hx hy (fun e => by subst e; first | exact absurd rfl (by assumption) | (simp at *; done) | fail))).symm
       | exact out_b (decide_eq_true (same_yes (by omega) he (by omega))).symm
    ·have hb18R := hb18; try simp only [z1, z2, z3, z4, z5, z6, ne_eq, z7, z8, z9, z10, z11, z12] at hb18
     refine g_step rfl rfl rfl rfl (e_faP (pl := [(0, 1, false), (1, 1, false), (2, 1, false), (3, 1, false), (4, 1, false), (5, 1, false)]) rfl (by kernel_rfl) (by kernel_rfl) (by decide) rfl) trivial ?_
     refine g_step rfl rfl rfl rfl (e_loadH (v := .sc _) rfl ((hset_ne (key_ne rfl)).trans (hset_self _ _ _)) (by kernel_rfl) (by kernel_rfl) (by kernel_rfl) (by exact Nat.zero_lt_one) (by decide) rfl) trivial ?_
     refine g_step rfl rfl rfl rfl (e_faP (pl := [(0, 1, false), (1, 1, false), (2, 1, false), (3, 1, false), (4, 1, false), (5, 1, false)]) rfl (by kernel_rfl) (by kernel_rfl) (by decide) rfl) trivial ?_
     refine g_step rfl rfl rfl rfl (e_loadH (v := .sc _) rfl (hset_self _ _ _) (by kernel_rfl) (by kernel_rfl) (by kernel_rfl) (by exact Nat.zero_lt_one) (by decide) rfl) trivial ?_
     refine g_step rfl rfl rfl rfl (e_sne rfl rfl) trivial ?_
     refine g_step rfl rfl rfl rfl (e_pickF (v := .sc _) rfl rfl) trivial ?_
     refine g_step rfl rfl rfl rfl (e_move (v := .sc _) rfl) trivial ?_
     refine g_cases (fun hb20 => ?_) (fun hb20 => ?_)
     ·have hb20R := hb20; try simp only [z1, z2, z3, z4, z5, z6, ne_eq, z7, z8, z9, z10, z11, z12] at hb20
      refine g_skip rfl rfl rfl ?_
      refine g_skip rfl rfl rfl ?_
      refine g_skip rfl rfl rfl ?_
      refine g_skip rfl rfl rfl ?_
      refine g_skip rfl rfl rfl ?_
      refine g_step rfl rfl rfl rfl (e_pickT (v := .sc _) rfl rfl) trivial ?_
      refine g_step rfl rfl rfl rfl (e_move (v := .sc _) rfl) trivial ?_
      refine g_skip rfl rfl rfl ?_
      refine g_skip rfl rfl rfl ?_
      refine g_skip rfl rfl rfl ?_
      refine g_skip rfl rfl rfl ?_
      refine g_skip rfl rfl rfl ?_
      refine g_step rfl rfl rfl rfl (e_pickT (v := .sc _) rfl rfl) trivial ?_
      refine g_step rfl rfl rfl rfl (e_move (v := .sc _) rfl) trivial ?_
      refine g_skip rfl rfl rfl ?_
      refine g_skip rfl rfl rfl ?_
      refine g_skip rfl rfl rfl ?_
      refine g_skip rfl rfl rfl ?_
      refine g_skip rfl rfl rfl ?_
      refine g_step rfl rfl rfl rfl (e_pickT (v := .sc _) rfl rfl) trivial ?_
      refine g_step rfl rfl rfl rfl (e_move (v := .sc _) rfl) trivial ?_
      refine g_skip rfl rfl rfl ?_
      refine g_skip rfl rfl rfl ?_
      refine g_skip rfl rfl rfl ?_
      refine g_skip rfl rfl rfl ?_
      refine g_nocall rfl rfl rfl ?_
      refine g_skip rfl rfl rfl ?_
      refine g_step rfl rfl rfl rfl (e_pickT (v := .sc _) rfl rfl) trivial ?_
      refine g_end (ds := [33, 34, 35, 36, 37, 40, 41, 42, 43, 44, 47, 48, 49, 50, 51, 54, 55, 56, 57, 58, 61, 62, 63, 64, 65, 66]) rfl rfl (hK17 _ ?_); clear hK17 K17
      refine pwp_cond (t := true) rfl (fun _ => ?_) nofun
      refine pwp_seq_plain rfl fun K21 hK21 => ?_
      refine p_step rfl (e_assign (v := .sc _) rfl) trivial ?_
      refine p_end (hK21 _ ?_); clear hK21 K21
      refine pwp_ret ?_
      refine ret_block ?_
      refine ret_seq ?_
      refine ret_loop ?_
      refine ret_block ?_
      refine ret_seq ?_
      refine end1 (v := .sc _) rfl ?_
      first
        | exact out_b (decide_eq_false (by first | (intro hc; subst hc; omega) | exact same_no hx hy (fun e => by subst e; first | exact absurd rfl (by assumption) | (simp at *; done) | fail))).symm
        | exact out_b (decide_eq_true (same_yes (by omega) he (by omega))).symm
     ·have hb20R := hb20; try simp only [z1, z2, z3, z4, z5, z6, ne_eq, z7, z8, z9, z10, z11, z12] at hb20
      refine g_step rfl rfl rfl rfl (e_faP (pl := [(0, 1, false), (1, 1, false), (2, 1, false), (3, 1, false), (4, 1, false), (5, 1, false)]) rfl (by kernel_rfl) (by kernel_rfl) (by decide) rfl) trivial ?_
      refine g_step rfl rfl rfl rfl (e_loadH (v := .sc _) rfl ((hset_ne (key_ne rfl)).trans (hset_self _ _ _)) (by kernel_rfl) (by kernel_rfl) (by kernel_rfl) (by exact Nat.zero_lt_one) (by decide) rfl) trivial ?_
      refine g_step rfl rfl rfl rfl (e_faP (pl := [(0, 1, false), (1, 1, false), (2, 1, false), (3, 1, false), (4, 1, false), (5, 1, false)]) rfl (by kernel_rfl) (by kernel_rfl) (by decide) rfl) trivial ?_
      refine g_step rfl rfl rfl rfl (e_loadH (v := .sc _) rfl (hset_self _ _ _) (by kernel_rfl) (by kernel_rfl) (by kernel_rfl) (by exact Nat.zero_lt_one) (by decide) rfl) trivial ?_
      refine g_step rfl rfl rfl rfl (e_ne rfl rfl) trivial ?_
      refine g_step rfl rfl rfl rfl (e_pickF (v := .sc _) rfl rfl) trivial ?_
      refine g_step rfl rfl rfl rfl (e_move (v := .sc _) rfl) trivial ?_
      refine g_cases (fun hb22 => ?_) (fun hb22 => ?_)
      ·have hb22R := hb22; try simp only [z1, z2, z3, z4, z5, z6, ne_eq, z7, z8, z9, z10, z11, z12] at hb22
       refine g_skip rfl rfl rfl ?_
       refine g_skip rfl rfl rfl ?_
       refine g_skip rfl rfl rfl ?_
       refine g_skip rfl rfl rfl ?_
       refine g_skip rfl rfl rfl ?_
       refine g_step rfl rfl rfl rfl (e_pickT (v := .sc _) rfl rfl) trivial ?_
       refine g_step rfl rfl rfl rfl (e_move (v := .sc _) rfl) trivial ?_
       refine g_skip rfl rfl rfl ?_
       refine g_skip rfl rfl rfl ?_
       refine g_skip rfl rfl rfl ?_
       refine g_skip rfl rfl rfl ?_
       refine g_skip rfl rfl rfl ?_
       refine g_step rfl rfl rfl rfl (e_pickT (v := .sc _) rfl rfl) trivial ?_
       refine g_step rfl rfl rfl rfl (e_move (v := .sc _) rfl) trivial ?_
       refine g_skip rfl rfl rfl ?_
       refine g_skip rfl rfl rfl ?_
       refine g_skip rfl rfl rfl ?_
       refine g_skip rfl rfl rfl ?_
       refine g_nocall rfl rfl rfl ?_
       refine g_skip rfl rfl rfl ?_
       refine g_step rfl rfl rfl rfl (e_pickT (v := .sc _) rfl rfl) trivial ?_
       refine g_end (ds := [33, 34, 35, 36, 37, 40, 41, 42, 43, 44, 47, 48, 49, 50, 51, 54, 55, 56, 57, 58, 61, 62, 63, 64, 65, 66]) rfl rfl (hK17 _ ?_); clear hK17 K17
       refine pwp_cond (t := true) rfl (fun _ => ?_) nofun
       refine pwp_seq_plain rfl fun K23 hK23 => ?_
       refine p_step rfl (e_assign (v := .sc _) rfl) trivial ?_
       refine p_end (hK23 _ ?_); clear hK23 K23
       refine pwp_ret ?_
       refine ret_block ?_
       refine ret_seq ?_
       refine ret_loop ?_
       refine ret_block ?_
       refine ret_seq ?_
       refine end1 (v := .sc _) rfl ?_
       first
         | exact out_b (decide_eq_false (by first | (intro hc; subst hc; omega) | exact same_no hx hy (fun e => by subst e; first | exact absurd rfl (by assumption) | (simp at *; done) | fail))).symm
         | exact out_b (decide_eq_true (same_yes (by omega) he (by omega))).symm
      ·have hb22R := hb22; try simp only [z1, z2, z3, z4, z5, z6, ne_eq, z7, z8, z9, z10, z11, z12] at hb22
       refine g_step rfl rfl rfl rfl (e_faP (pl := [(0, 1, false), (1, 1, false), (2, 1, false), (3, 1, false), (4, 1, false), (5, 1, false)]) rfl (by kernel_rfl) (by kernel_rfl) (by decide) rfl) trivial ?_
       refine g_step rfl rfl rfl rfl (e_loadH (v := .sc _) rfl ((hset_ne (key_ne rfl)).trans (hset_self _ _ _)) (by kernel_rfl) (by kernel_rfl) (by kernel_rfl) (by exact Nat.zero_lt_one) (by decide) rfl) trivial ?_
       refine g_step rfl rfl rfl rfl (e_faP (pl := [(0, 1, false), (1, 1, false), (2, 1, false), (3, 1, false), (4, 1, false), (5, 1, false)]) rfl (by kernel_rfl) (by kernel_rfl) (by decide) rfl) trivial ?_
       refine g_step rfl rfl rfl rfl (e_loadH (v := .sc _) rfl (hset_self _ _ _) (by kernel_rfl) (by kernel_rfl) (by kernel_rfl) (by exact Nat.zero_lt_one) (by decide) rfl) trivial ?_
       refine g_step rfl rfl rfl rfl (e_ne rfl rfl) trivial ?_
       refine g_step rfl rfl rfl rfl (e_pickF (v := .sc _) rfl rfl) trivial ?_
       refine g_step rfl rfl rfl rfl (e_move (v := .sc _) rfl) trivial ?_
       refine g_cases (fun hb24 => ?_) (fun hb24 => ?_)
       ·have hb24R := hb24; try simp only [z1, z2, z3, z4, z5, z6, ne_eq, z7, z8, z9, z10, z11, z12] at hb24
        refine g_skip rfl rfl rfl ?_
        refine g_skip rfl rfl rfl ?_
        refine g_skip rfl rfl rfl ?_
        refine g_skip rfl rfl rfl ?_
        refine g_skip rfl rfl rfl ?_
        refine g_step rfl rfl rfl rfl (e_pickT (v := .sc _) rfl rfl) trivial ?_
        refine g_step rfl rfl rfl rfl (e_move (v := .sc _) rfl) trivial ?_
        refine g_skip rfl rfl rfl ?_
        refine g_skip rfl rfl rfl ?_
        refine g_skip rfl rfl rfl ?_
        refine g_skip rfl rfl rfl ?_
        refine g_nocall rfl rfl rfl ?_
        refine g_skip rfl rfl rfl ?_
        refine g_step rfl rfl rfl rfl (e_pickT (v := .sc _) rfl rfl) trivial ?_
        refine g_end (ds := [33, 34, 35, 36, 37, 40, 41, 42, 43, 44, 47, 48, 49, 50, 51, 54, 55, 56, 57, 58, 61, 62, 63, 64, 65, 66]) rfl rfl (hK17 _ ?_); clear hK17 K17
        refine pwp_cond (t := true) rfl (fun _ => ?_) nofun
        refine pwp_seq_plain rfl fun K25 hK25 => ?_
        refine p_step rfl (e_assign (v := .sc _) rfl) trivial ?_
        refine p_end (hK25 _ ?_); clear hK25 K25
        refine pwp_ret ?_
        refine ret_block ?_
        refine ret_seq ?_
        refine ret_loop ?_
        refine ret_block ?_
        refine ret_seq ?_
        refine end1 (v := .sc _) rfl ?_
        first
          | exact out_b (decide_eq_false (by first | (intro hc; subst hc; omega) | exact same_no hx hy (fun e => by subst e; first | exact absurd rfl (by assumption) | (simp at *; done) | fail))).symm
          | exact out_b (decide_eq_true (same_yes (by omega) he (by omega))).symm
       ·have hb24R := hb24; try simp only [z1, z2, z3, z4, z5, z6, ne_eq, z7, z8, z9, z10, z11, z12] at hb24
        refine g_step rfl rfl rfl rfl (e_faP (pl := [(0, 1, false), (1, 1, false), (2, 1, false), (3, 1, false), (4, 1, false), (5, 1, false)]) rfl (by kernel_rfl) (by kernel_rfl) (by decide) rfl) trivial ?_
        refine g_step rfl rfl rfl rfl (e_loadH (v := .sc _) rfl ((hset_ne (key_ne rfl)).trans (hset_self _ _ _)) (by kernel_rfl) (by kernel_rfl) (by kernel_rfl) (by exact Nat.zero_lt_one) (by decide) rfl) trivial ?_
        refine g_step rfl rfl rfl rfl (e_faP (pl := [(0, 1, false), (1, 1, false), (2, 1, false), (3, 1, false), (4, 1, false), (5, 1, false)]) rfl (by kernel_rfl) (by kernel_rfl) (by decide) rfl) trivial ?_
        refine g_step rfl rfl rfl rfl (e_loadH (v := .sc _) rfl (hset_self _ _ _) (by kernel_rfl) (by kernel_rfl) (by kernel_rfl) (by exact Nat.zero_lt_one) (by decide) rfl) trivial ?_
        refine g_step rfl rfl rfl rfl (e_ne rfl rfl) trivial ?_
        refine g_step rfl rfl rfl rfl (e_pickF (v := .sc _) rfl rfl) trivial ?_
        refine g_step rfl rfl rfl rfl (e_move (v := .sc _) rfl) trivial ?_
        refine g_cases (fun hb26 => ?_) (fun hb26 => ?_)
        ·have hb26R := hb26; try simp only [z1, z2, z3, z4, z5, z6, ne_eq, z7, z8, z9, z10, z11, z12] at hb26
         refine g_skip rfl rfl rfl ?_
         refine g_skip rfl rfl rfl ?_
         refine g_skip rfl rfl rfl ?_
         refine g_skip rfl rfl rfl ?_
         refine g_nocall rfl rfl rfl ?_
         refine g_skip rfl rfl rfl ?_
         refine g_step rfl rfl rfl rfl (e_pickT (v := .sc _) rfl rfl) trivial ?_
         refine g_end (ds := [33, 34, 35, 36, 37, 40, 41, 42, 43, 44, 47, 48, 49, 50, 51, 54, 55, 56, 57, 58, 61, 62, 63, 64, 65, 66]) rfl rfl (hK17 _ ?_); clear hK17 K17
         refine pwp_cond (t := true) rfl (fun _ => ?_) nofun
         refine pwp_seq_plain rfl fun K27 hK27 => ?_
         refine p_step rfl (e_assign (v := .sc _) rfl) trivial ?_
         refine p_end (hK27 _ ?_); clear hK27 K27
         refine pwp_ret ?_
         refine ret_block ?_
         refine ret_seq ?_
         refine ret_loop ?_
         refine ret_block ?_
         refine ret_seq ?_
         refine end1 (v := .sc _) rfl ?_
         first
           | exact out_b (decide_eq_false (by first | (intro hc; subst hc; omega) | exact same_no hx hy (fun e => by subst e; first | exact absurd rfl (by assumption) | (simp at *; done) | fail))).symm
           | exact out_b (decide_eq_true (same_yes (by omega) he (by omega))).symm
        ·have hb26R := hb26; try simp only [z1, z2, z3, z4, z5, z6, ne_eq, z7, z8, z9, z10, z11, z12] at hb26
         refine g_step rfl rfl rfl rfl (e_faP (pl := [(0, 1, false), (1, 1, false), (2, 1, false), (3, 1, false), (4, 1, false), (5, 1, false)]) rfl (by kernel_rfl) (by kernel_rfl) (by decide) rfl) trivial ?_
         refine g_step rfl rfl rfl rfl (e_loadH (v := .lit _ _ _) rfl ((hset_ne (key_ne rfl)).trans (hset_self _ _ _)) (by kernel_rfl) (by kernel_rfl) (by kernel_rfl) (by exact Nat.zero_lt_one) (by decide) rfl) trivial ?_
         refine g_step rfl rfl rfl rfl (e_faP (pl := [(0, 1, false), (1, 1, false), (2, 1, false), (3, 1, false), (4, 1, false), (5, 1, false)]) rfl (by kernel_rfl) (by kernel_rfl) (by decide) rfl) trivial ?_
         refine g_step rfl rfl rfl rfl (e_loadH (v := .lit _ _ _) rfl (hset_self _ _ _) (by kernel_rfl) (by kernel_rfl) (by kernel_rfl) (by exact Nat.zero_lt_one) (by decide) rfl) trivial ?_
         refine g_call rfl rfl rfl rfl (.cons inn_lit (.cons inn_lit .nil)) (IntsC _ _ (by omega)) ?_
         refine g_step rfl rfl rfl rfl (e_not rfl) trivial ?_
         refine g_step rfl rfl rfl rfl (e_pickF (v := .sc _) rfl rfl) trivial ?_
         refine g_end (ds := [33, 34, 35, 36, 37, 40, 41, 42, 43, 44, 47, 48, 49, 50, 51, 54, 55, 56, 57, 58, 61, 62, 63, 64, 65, 66]) rfl rfl (hK17 _ ?_); clear hK17 K17
         refine pwp_cond rfl (fun hb28 => ?_) (fun hb28 => ?_)
         ·have hb28R := hb28; try simp only [z1, z2, z3, z4, z5, z6, ne_eq, z7, z8, z9, z10, z11, z12] at hb28
          refine pwp_seq_plain rfl fun K29 hK29 => ?_
          refine p_step rfl (e_assign (v := .sc _) rfl) trivial ?_
          refine p_end (hK29 _ ?_); clear hK29 K29
          refine pwp_ret ?_
          refine ret_block ?_
          refine ret_seq ?_
          refine ret_loop ?_
          refine ret_block ?_
          refine ret_seq ?_
          refine end1 (v := .sc _) rfl ?_
          first
            | exact out_b (decide_eq_false (by first | (intro hc; subst hc; omega) | exact same_no hx hy (fun e => by subst e; first | exact absurd rfl (by assumption) | (simp at *; done) | fail))).symm
            | exact out_b (decide_eq_true (same_yes (by omega) he (by omega))).symm
         ·have hb28R := hb28; try simp only [z1, z2, z3, z4, z5, z6, ne_eq, z7, z8, z9, z10, z11, z12] at hb28
          refine pwp_skip ?_
          refine block_norm ?_
          refine seq_norm (hK15 _ ?_); clear hK15 K15
          refine pwp_plain rfl fun K30 hK30 => ?_
          refine p_step rfl (e_move (v := .sc _) rfl) trivial ?_
          refine p_step rfl (e_add rfl rfl (by first | omega | (simp only [List.length_map] at *; omega))) trivial ?_
          refine p_step rfl (e_assign (v := .sc _) rfl) trivial ?_
          refine p_end (hK30 _ ?_); clear hK30 K30
          exact loop_again (k + 1) (by show _ < _; omega) ⟨rfl, rfl, trivial⟩ ⟨rfl, trivial⟩ (by exact ⟨by show _ + 1 ≤ _; omega, by (have e := task_eq (x := x) (y := y) (by first | assumption | exact of_decide_eq_true (by assumption) | (simp_all; done) | fail) (by first | assumption | exact of_decide_eq_true (by assumption) | (simp_all; done) | fail) (by first | assumption | exact of_decide_eq_true (by assumption) | (simp_all; done) | fail) (by first | assumption | exact of_decide_eq_true (by assumption) | (simp_all; done) | fail) (by first | assumption | exact of_decide_eq_true (by assumption) | (simp_all; done) | fail) (by first | assumption | exact of_decide_eq_true (by assumption) | (simp_all; done) | fail); rw [ht, hty, he, e])⟩)
   ·have hb14R := hb14; try simp only [z1, z2, z3, z4, z5, z6, ne_eq, z7, z8, z9, z10, z11, z12] at hb14
    obtain rfl : k = xs.length := by simp only [List.length_map] at *; omega
    refine pwp_exit ?_
    refine exit_seq ?_
    clear hK13 K13
    refine exit_loop ?_
    refine exit_here ?_
    refine seq_norm (hK7 _ ?_); clear hK7 K7
    refine pwp_seq_plain rfl fun K31 hK31 => ?_
    refine p_step rfl (e_assign (v := .sc _) rfl) trivial ?_
    refine p_end (hK31 _ ?_); clear hK31 K31
    refine pwp_ret ?_
    refine end1 (v := .sc _) rfl ?_
    first
      | exact out_b (decide_eq_false (by first | (intro hc; subst hc; omega) | exact same_no hx hy (fun e => by subst e; first | exact absurd rfl (by assumption) | (simp at *; done) | fail))).symm
      | exact out_b (decide_eq_true (same_yes (by omega) he (by omega))).symm

end Go.Proofs.Ytjmjiegplnfiiaa

/- The reverse of a plan, as the reference makes it. No conditions. -/
set_option linter.unusedSimpArgs false
set_option linter.unusedVariables false
set_option maxRecDepth 100000
namespace Go.Proofs.Ytjmjiegplnfiiaa
open Go Go.Pv
/-! ### The reverse plan of the reference -/
def rowV (x : Task) (w : PV) : List PV := [.str x.name, .str x.trade, .int x.member, .int x.place, .int x.minutes, w]
def rowsR (xs : List Task) (vs : List PV) : Pv.Rows := List.zipWith (fun w x => rowV x w) vs xs
def usF (nd : List (List Int)) (k : Nat) : List (List Int) := (List.range k).map fun i : Nat => usR nd (i : Int)
theorem usF_len {nd : List (List Int)} {k : Nat} : (usF nd k).length = k := by simp [usF]
theorem usF_succ {nd : List (List Int)} {k : Nat} : usF nd (k + 1) = usF nd k ++ [usR nd (k : Int)] := by
  simp only [usF, List.range_succ, List.map_append]; rfl
theorem usP_all {nd : List (List Int)} {k j : Nat} (hj : j = nd.length) : usP nd j k = usR nd (k : Int) := by subst hj; rfl
theorem rowsR_snoc {xs : List Task} {vs : List PV} {x : Task} {w : PV} (hx : xs[vs.length]? = some x) : rowsR xs (vs ++ [w]) = rowsR xs vs ++ [rowV x w] := by
  obtain ⟨hl, he⟩ := List.getElem?_eq_some_iff.1 hx
  apply List.ext_getElem?
  intro i
  simp only [rowsR, List.getElem?_zipWith, List.getElem?_append, List.length_zipWith]
  rcases Nat.lt_trichotomy i vs.length with h | h | h
  · rw [if_pos h, if_pos (by omega)]
  · subst h
    rw [if_neg (Nat.lt_irrefl _), if_neg (by omega), hx, show vs.length - min vs.length xs.length = 0 by omega, Nat.sub_self]; rfl
  · rw [if_neg (by omega), if_neg (by omega)]
    have e1 : ([w] : List PV)[i - vs.length]? = none := List.getElem?_eq_none (by simp; omega)
    have e2 : ([rowV x w] : Pv.Rows)[i - min vs.length xs.length]? = none := List.getElem?_eq_none (by simp; omega)
    rw [e1, e2]
theorem set_last {α : Type} {l : List α} {a b : α} {n : Nat} (h : n = l.length) : (l ++ [a]).set n b = l ++ [b] := by
  subst h
  rw [List.set_append_right _ _ (Nat.le_refl _), Nat.sub_self]; rfl
theorem get_last {α : Type} {l : List α} {a : α} {n : Nat} (h : n = l.length) : (l ++ [a])[n]? = some a := by
  subst h; simp
theorem NP.snocNil {α : Type} {h : Heap} {d sz : Nat} {f : α → List PV} {vs : List PV} {ls : List (List α)} (hn : NP h d sz f vs ls) : NP h d sz f (vs ++ [.nil]) (ls ++ [[]]) := by
  refine ⟨by simp [hn.len], fun i v l h1 h2 => ?_, fun i j v h1 h2 h3 => ?_⟩
  · rw [List.getElem?_append] at h1 h2
    rw [hn.len] at h1
    split at h1
    · rename_i hi
      rw [if_pos hi] at h2
      exact hn.at_ i v l h1 h2
    · rename_i hi
      rw [if_neg hi] at h2
      cases e : i - ls.length with
      | zero => rw [e] at h1 h2; cases h1; cases h2; exact .nil
      | succ n => rw [e] at h1; simp at h1
  · have hlt : ∀ i : Nat, (vs ++ [PV.nil])[i]? = some v → vs[i]? = some v := fun i hi => by
      rw [List.getElem?_append] at hi
      split at hi
      · exact hi
      · cases e : i - vs.length with
        | zero => rw [e] at hi; cases hi; exact absurd rfl h3
        | succ n => rw [e] at hi; simp at hi
    exact hn.one i j v (hlt i h1) (hlt j h2) h3
theorem NP.last {α : Type} {h : Heap} {d sz : Nat} {f : α → List PV} {vs : List PV} {ls : List (List α)} {w : PV} {l : List α} (hn : NP h d sz f (vs ++ [w]) (ls ++ [l])) : SliceAt h d w sz (l.map f) := by
  have h1 := hn.len
  simp only [List.length_append, List.length_cons, List.length_nil] at h1
  exact hn.at_ vs.length w l (get_last rfl) (get_last (by omega))
theorem out_rev {h : Heap} {v : PV} {xs : List Task} {vs : List PV} (hl : vs.length = xs.length) (hs : SliceAt h 40 v 6 (rowsR xs vs)) (hn : NP h 35 1 ci vs (usF (ndX xs) xs.length)) : Out h v (.lit false 6 ((revX xs).map Task.encF)) := by
  have hrl : (rowsR xs vs).length = xs.length := by simp only [rowsR, List.length_zipWith]; omega
  rcases hs with ⟨h1, rfl⟩ | ⟨g, rfl, hg⟩
  · have : xs = [] := List.eq_nil_of_length_eq_zero (by rw [← hrl, h1]; rfl)
    subst this; exact .nil 6
  · refine .ref hg (by omega) (by rw [List.length_map, revX_len, hrl]) (fun row hr => by obtain ⟨l, _, rfl⟩ := List.mem_map.1 hr; rfl) (fun i j row row' p p' h1 h2 h3 h4 => ?_) fun row hr p hp => by obtain ⟨l, _, rfl⟩ := List.mem_map.1 hr; exact (cleanF _ p hp).2
    rw [Nat.zero_add] at h1
    simp only [rowsR, List.getElem?_zipWith] at h1
    cases hx : xs[i]? with
    | none => cases hv : vs[i]? <;> (rw [hx, hv] at h1; cases h1)
    | some x =>
      cases hv : vs[i]? with
      | none => rw [hx, hv] at h1; cases h1
      | some w =>
        rw [hx, hv] at h1; cases h1
        have hi := (List.getElem?_eq_some_iff.1 hx).1
        have hr2 : row' = Task.encF (revT xs i) := by
          rw [List.getElem?_map, revX, List.getElem?_map, List.getElem?_range hi] at h2
          exact (Option.some.inj h2).symm
        have hrt : revT xs i = { x with needs := usR (ndX xs) (i : Int) } := by
          rw [revT, List.getD_eq_getElem?_getD, hx]; rfl
        have hu : (usF (ndX xs) xs.length)[i]? = some (usR (ndX xs) (i : Int)) := by simp [usF, List.getElem?_range hi]
        subst hr2
        rw [hrt] at h4
        match j with
        | 0 => cases h3; cases h4; exact .clean (.sc _)
        | 1 => cases h3; cases h4; exact .clean (.sc _)
        | 2 => cases h3; cases h4; exact .clean (.sc _)
        | 3 => cases h3; cases h4; exact .clean (.sc _)
        | 4 => cases h3; cases h4; exact .clean (.sc _)
        | 5 => cases h3; cases h4; exact out_slice (hn.at_ i _ _ hv hu) rfl (fun _ => rfl) fun a p hp => by simp [ci] at hp; subst hp; exact ⟨.sc _, rfl⟩
        | j + 6 => simp [rowV] at h3
theorem usP_t {nd : List (List Int)} {j k : Nat} (h : hasI (nd_ nd j) (k : Int) = true) : usP nd j k ++ [(j : Int)] = usP nd (j + 1) k := by
  rw [usP_succ, if_pos (of_decide_eq_true h)]
theorem usP_f {nd : List (List Int)} {j k : Nat} (h : hasI (nd_ nd j) (k : Int) = false) : usP nd j k = usP nd (j + 1) k := by
  rw [usP_succ, if_neg (of_decide_eq_false h), List.append_nil]
theorem usP_le {nd : List (List Int)} {j k : Nat} : (usP nd j k).length ≤ j := by
  have h1 := List.length_filter_le (fun i => decide ((k : Int) ∈ nd_ nd i)) (List.range j)
  simp only [usP, List.length_map]
  rw [List.length_range] at h1
  exact h1

theorem fr29 : (inFrame Try.f29.ntmps (Try.f29.body.getD .skip) && Try.f29.results.toList.all (resScope Try.f29.ntmps)) = true := by kernel_rfl
theorem refReverseC (xs : List Task) (hl : xs.length ≤ 1000) (hn : ∀ x ∈ xs, x.needs.length ≤ 1000000) : PCalls Try.prog 29 [.lit true 6 (xs.map Task.enc)] (.lit false 6 ((revX xs).map Task.encF)) := by
  refine PCalls.of_code Try.func29 rfl rfl (by kernel_rfl) mixed fr29 (by show _ ≤ 42; simp) (.lit _ _ _ fun row hr => pure_map Task.pureF row hr) ?_
  refine pwp_seq_plain rfl fun K1 hK1 => ?_
  refine p_step rfl (e_assign (v := .nil) rfl) trivial ?_
  refine p_end (hK1 _ ?_); clear hK1 K1
  refine pwp_seq_plain rfl fun K2 hK2 => ?_
  refine p_step rfl (e_assign (v := .nil) rfl) trivial ?_
  refine p_end (hK2 _ ?_); clear hK2 K2
  refine pwp_seq_seq ?_
  refine pwp_seq_plain rfl fun K3 hK3 => ?_
  refine p_step rfl (e_assign (v := .sc _) rfl) trivial ?_
  refine p_end (hK3 _ ?_); clear hK3 K3
  refine pwp_seq_block fun K4 hK4 => ?_
  refine pwp_loopR (α := Nat × PV × (List PV)) [0] (fun (a5 : Nat × PV × (List PV)) => [(3, (a5.2.1)), (4, .int (a5.1))]) (fun (a5 : Nat × PV × (List PV)) (h : Heap) (_ : Nat → Nat) => ((a5.1) ≤ xs.length) ∧ ((a5.1) = (a5.2.2).length) ∧ (NP h 35 1 ci (a5.2.2) (usF (ndX xs) (a5.1))) ∧ (SliceAt h 40 (a5.2.1) 6 ((rowsR xs (a5.2.2))))) (fun (a5 : Nat × PV × (List PV)) => xs.length - (a5.1)) (0, .nil, []) (by exact ⟨rfl, rfl, trivial⟩) (by exact ⟨by exact Nat.zero_le _, by exact rfl, by exact NP.nils 0, .nil⟩) fun a5 r6 h7 c8 hj9 => ?_
  obtain ⟨k, v, vs⟩ := a5
  obtain ⟨hk, hvl, hnp, hihj9_0⟩ := hj9
  try dsimp only at hk
  try dsimp only at hvl
  try dsimp only at hnp
  try dsimp only at hihj9_0
  show pwp _ _ (loopQ _ _ _) ⟨sets (mix _ _ _) [(3, v), (4, .int k)], _, _⟩
  refine pwp_seq_seq ?_
  refine pwp_seq_plain rfl fun K10 hK10 => ?_
  refine p_step rfl (e_move (v := .sc _) rfl) trivial ?_
  refine p_step rfl (e_move (v := .lit _ _ _) rfl) trivial ?_
  refine p_step rfl (e_len rfl (by kernel_rfl)) trivial ?_
  refine p_step rfl (e_lt rfl rfl) trivial ?_
  refine p_end (hK10 _ ?_); clear hK10 K10
  refine pwp_seq_cond rfl fun K11 hK11 => ⟨fun hb12 => ?_, fun hb12 => ?_⟩
  ·have hb12R := hb12; try simp only [z1, z2, z3, z4, z5, z6, ne_eq, z7, z8, z9, z10, z11, z12] at hb12
   obtain ⟨x, hx, hd, ht⟩ := get_lt (xs := xs) (i := k) (by omega)
   refine pwp_skip ?_
   refine seq_norm (hK11 _ ?_); clear hK11 K11
   refine pwp_seq_block fun K13 hK13 => ?_
   refine pwp_seq_plain rfl fun K14 hK14 => ?_
   refine p_step rfl (e_move (v := .lit _ _ _) rfl) trivial ?_
   refine p_step rfl (e_move (v := .sc _) rfl) trivial ?_
   refine p_step rfl (e_ixa rfl rfl (by kernel_rfl) (by kernel_rfl) (by first | omega | (simp only [List.length_map]; omega))) trivial ?_
   refine p_step rfl (e_loadA (n := 6) rfl (by kernel_rfl) (by kernel_rfl) (by kernel_rfl) (by first | omega | (simp only [List.length_map]; omega)) (by decide) (by first | exact agg_map hx rfl)) trivial ?_
   refine p_new rfl (e_alloc (cs := [.str ByteArray.empty, .str ByteArray.empty, .int 0, .int 0, .int 0, .nil]) (n := 6) (by kernel_rfl) rfl (by decide)) (ob_alloc (by decide)) ?_
   refine p_store rfl (e_storeA rfl (hset_self _ _ _) rfl rfl rfl (by kernel_rfl) rfl (by kernel_rfl)) trivial ?_
   refine p_end (hK14 _ ?_); clear hK14 K14
   refine pwp_seq_plain rfl fun K15 hK15 => ?_
   refine p_step rfl (e_faP (pl := [(0, 1, false), (1, 1, false), (2, 1, false), (3, 1, false), (4, 1, false), (5, 1, false)]) rfl (by kernel_rfl) (by kernel_rfl) (by decide) rfl) trivial ?_
   refine p_store rfl (e_store1 (v := .nil) rfl (hset_self _ _ _) rfl rfl rfl (by decide) (by kernel_rfl) rfl (by kernel_rfl)) trivial ?_
   refine p_end (hK15 _ ?_); clear hK15 K15
   refine pwp_seq_seq ?_
   refine pwp_seq_plain rfl fun K16 hK16 => ?_
   refine p_step rfl (e_assign (v := .sc _) rfl) trivial ?_
   refine p_end (hK16 _ ?_); clear hK16 K16
   refine pwp_seq_block fun K17 hK17 => ?_
   refine pwp_loopR (α := Nat × PV) [0, 3, 4, 5] (fun (a18 : Nat × PV) => [(6, .int (a18.1))]) (fun (a18 : Nat × PV) (h : Heap) (_ : Nat → Nat) => ((a18.1) ≤ xs.length) ∧ (NP h 35 1 ci (vs ++ [(a18.2)]) (usF (ndX xs) k ++ [usP (ndX xs) (a18.1) k])) ∧ (SliceAt h 40 v 6 ((rowsR xs vs))) ∧ (h (5, c8 5) = some (.rows 6 [rowV x (a18.2)]))) (fun (a18 : Nat × PV) => xs.length - (a18.1)) (0, .nil) (by exact ⟨rfl, trivial⟩) (by exact ⟨by exact Nat.zero_le _, by exact (NP.snocNil hnp).keep fun g => (hset_ne (key_ne rfl)).trans ((hset_ne (key_ne rfl)).trans ((hset_ne (key_ne rfl)).trans (rfl))), (hihj9_0.keep fun _ => (hset_ne (key_ne rfl)).trans ((hset_ne (key_ne rfl)).trans ((hset_ne (key_ne rfl)).trans (rfl)))), (hset_self _ _ _)⟩) fun a18 r19 h20 c21 hj22 => ?_
   obtain ⟨j, w⟩ := a18
   obtain ⟨hj, hnp, hihj22_0, hihj22_1⟩ := hj22
   try dsimp only at hj
   try dsimp only at hnp
   try dsimp only at hihj22_0
   try dsimp only at hihj22_1
   show pwp _ _ (loopQ _ _ _) ⟨sets (mix _ _ _) [(6, .int j)], _, _⟩
   refine pwp_seq_seq ?_
   refine pwp_seq_plain rfl fun K23 hK23 => ?_
   refine p_step rfl (e_move (v := .sc _) rfl) trivial ?_
   refine p_step rfl (e_move (v := .lit _ _ _) rfl) trivial ?_
   refine p_step rfl (e_len rfl (by kernel_rfl)) trivial ?_
   refine p_step rfl (e_lt rfl rfl) trivial ?_
   refine p_end (hK23 _ ?_); clear hK23 K23
   refine pwp_seq_cond rfl fun K24 hK24 => ⟨fun hb25 => ?_, fun hb25 => ?_⟩
   ·have hb25R := hb25; try simp only [z1, z2, z3, z4, z5, z6, ne_eq, z7, z8, z9, z10, z11, z12] at hb25
    obtain ⟨y, hy, hdy, hty⟩ := get_lt (xs := xs) (i := j) (by omega)
    have hyl := hn y (List.mem_of_getElem? hy)
    refine pwp_skip ?_
    refine seq_norm (hK24 _ ?_); clear hK24 K24
    refine pwp_seq_block fun K26 hK26 => ?_
    refine pwp_seq_plain rfl fun K27 hK27 => ?_
    refine p_step rfl (e_move (v := .lit _ _ _) rfl) trivial ?_
    refine p_step rfl (e_move (v := .sc _) rfl) trivial ?_
    refine p_step rfl (e_ixa rfl rfl (by kernel_rfl) (by kernel_rfl) (by first | omega | (simp only [List.length_map]; omega))) trivial ?_
    refine p_step rfl (e_fa (pl := [(0, 1, false), (1, 1, false), (2, 1, false), (3, 1, false), (4, 1, false), (5, 1, false)]) rfl (by kernel_rfl) (by kernel_rfl) (by decide) rfl) trivial ?_
    refine p_step rfl (e_load (v := .lit _ _ _) rfl (by kernel_rfl) (by kernel_rfl) (by kernel_rfl) (by first | omega | (simp only [List.length_map]; omega)) (by decide) ((cell_map hy _).trans rfl)) trivial ?_
    refine p_step rfl (e_move (v := .sc _) rfl) trivial ?_
    refine p_call rfl (.cons inn_lit (.cons inn_sc .nil)) (HasC _ _ (by omega)) ?_
    refine p_end (hK27 _ ?_); clear hK27 K27
    refine pwp_cond rfl (fun hb28 => ?_) (fun hb28 => ?_)
    ·have hb28R := hb28; try simp only [z1, z2, z3, z4, z5, z6, ne_eq, z7, z8, z9, z10, z11, z12] at hb28
     refine pwp_plainK rfl fun hkn K29 hK29 => ?_
     have hfs := hkn.fresh 35
     have hpl := usP_le (nd := (ndX xs)) (j := j) (k := k)
     refine p_step rfl (e_faP (pl := [(0, 1, false), (1, 1, false), (2, 1, false), (3, 1, false), (4, 1, false), (5, 1, false)]) rfl (by kernel_rfl) (by kernel_rfl) (by decide) rfl) trivial ?_
     refine p_step rfl (e_loadH (v := w) rfl hihj22_1 (by kernel_rfl) (by kernel_rfl) (by kernel_rfl) (by exact Nat.zero_lt_one) (by decide) rfl) trivial ?_
     refine p_step rfl (e_move (v := .sc _) rfl) trivial ?_
     refine p_new rfl (e_bslice (rows := [ci (j : Int)]) (zs := [.int 0]) (sz := 1) (by kernel_rfl) (by kernel_rfl) rfl (by kernel_rfl) (by decide) rfl rfl (by exact ⟨by decide, rfl, rfl, trivial⟩) rfl) trivial ?_
     have hul := NP.last hnp
     refine p_appK (u := w) (sz := 1) (d1 := 35) (rows := (usP (ndX xs) j k).map ci) (rows2 := [ci (j : Int)]) rfl rfl rfl (hul.keep fun g => hset_ne (key_ne rfl)) (src_ref (hset_self _ _ _) rfl) (by kernel_rfl) (by simp only [List.length_map, List.length_cons, List.length_nil]; omega) (by simp) fun h1 hr1 hf1 => ?_
     have ho1 := (hf1 (5, _) (key_ne rfl) (fun _ _ => key_ne rfl)).trans ((hset_ne (key_ne rfl)).trans hihj22_1)
     have hv1 := (hihj22_0.keep fun g => (hf1 (40, g) (key_ne rfl) (fun _ _ => key_ne rfl)).trans (hset_ne (key_ne rfl)))
     refine p_step rfl (e_faP (pl := [(0, 1, false), (1, 1, false), (2, 1, false), (3, 1, false), (4, 1, false), (5, 1, false)]) rfl (by kernel_rfl) (by kernel_rfl) (by decide) rfl) trivial ?_
     refine p_store rfl (e_store1 rfl ho1 rfl rfl rfl (by decide) (by kernel_rfl) rfl (by kernel_rfl)) trivial ?_
     have hnp2 := (hnp.keep (fun g => hset_ne (key_ne rfl))).app (Fresh.keep (d := 35) hfs (fun g => hset_ne (key_ne rfl)) rfl) (i := vs.length) (l' := usP (ndX xs) j k ++ [(j : Int)]) (v' := .ref (35, _) 1 0 (((usP (ndX xs) j k).map ci).length + [ci (j : Int)].length)) (get_last rfl) (get_last (by rw [usF_len]; exact hvl.symm)) (congrArg (PV.ref _ 1 0) (by simp only [List.length_map, List.length_append, List.length_cons, List.length_nil])) (hr1.trans (by rw [List.map_append]; rfl)) (fun k' q1 q2 => hf1 k' q1 (fun g e => q2 g (by rw [e, List.length_map])))
     rw [set_last rfl, set_last (by rw [usF_len]; exact hvl.symm), usP_t (by rw [ndX_at hy]; assumption)] at hnp2
     refine p_end (hK29 _ ?_); clear hK29 K29
     refine block_norm ?_
     refine seq_norm (hK26 _ ?_); clear hK26 K26
     refine pwp_plain rfl fun K30 hK30 => ?_
     refine p_step rfl (e_move (v := .sc _) rfl) trivial ?_
     refine p_step rfl (e_add rfl rfl (by first | omega | (simp only [List.length_map] at *; omega))) trivial ?_
     refine p_step rfl (e_assign (v := .sc _) rfl) trivial ?_
     refine p_end (hK30 _ ?_); clear hK30 K30
     exact loop_again ((j + 1, _)) (by show _ < _; simp only; omega) ⟨rfl, rfl, rfl, rfl, trivial⟩ ⟨rfl, trivial⟩ (by exact ⟨by show _ + 1 ≤ _; simp only [List.length_map] at *; omega, by first | exact hnp2.keep fun g => hset_ne (key_ne rfl) | (show NP _ 35 1 ci _ _; rw [← usP_f (by rw [ndX_at hy]; assumption)]; exact hnp), (hv1.keep fun _ => (hset_ne (key_ne rfl)).trans (rfl)), (hset_self _ _ _)⟩)
    ·have hb28R := hb28; try simp only [z1, z2, z3, z4, z5, z6, ne_eq, z7, z8, z9, z10, z11, z12] at hb28
     refine pwp_skip ?_
     refine block_norm ?_
     refine seq_norm (hK26 _ ?_); clear hK26 K26
     refine pwp_plain rfl fun K31 hK31 => ?_
     refine p_step rfl (e_move (v := .sc _) rfl) trivial ?_
     refine p_step rfl (e_add rfl rfl (by first | omega | (simp only [List.length_map] at *; omega))) trivial ?_
     refine p_step rfl (e_assign (v := .sc _) rfl) trivial ?_
     refine p_end (hK31 _ ?_); clear hK31 K31
     exact loop_again ((j + 1, _)) (by show _ < _; simp only; omega) ⟨rfl, rfl, rfl, rfl, trivial⟩ ⟨rfl, trivial⟩ (by exact ⟨by show _ + 1 ≤ _; simp only [List.length_map] at *; omega, by first | exact hnp2.keep fun g => hset_ne (key_ne rfl) | (show NP _ 35 1 ci _ _; rw [← usP_f (by rw [ndX_at hy]; assumption)]; exact hnp), hihj22_0, hihj22_1⟩)
   ·have hb25R := hb25; try simp only [z1, z2, z3, z4, z5, z6, ne_eq, z7, z8, z9, z10, z11, z12] at hb25
    have hjx : j = xs.length := by simp only [List.length_map] at *; omega
    refine pwp_exit ?_
    refine exit_seq ?_
    clear hK24 K24
    refine exit_loop ?_
    refine exit_here ?_
    refine seq_norm (hK17 _ ?_); clear hK17 K17
    have hwc := SliceAt.cell (NP.last hnp)
    refine pwp_plain rfl fun K32 hK32 => ?_
    refine p_step rfl (e_move (v := v) rfl) trivial ?_
    refine p_step rfl (e_loadHA (n := 6) (cs := rowV x w) rfl hihj22_1 (by kernel_rfl) (by kernel_rfl) (by kernel_rfl) (by exact Nat.zero_lt_one) (by decide) rfl) trivial ?_
    refine p_new rfl (e_bslice (rows := [rowV x w]) (zs := [.str ByteArray.empty, .str ByteArray.empty, .int 0, .int 0, .int 0, .nil]) (sz := 6) (by kernel_rfl) (by kernel_rfl) rfl (by kernel_rfl) (by decide) rfl rfl (by exact ⟨by decide, rfl, by show (rowV x w).all PV.cell = true; simp only [rowV, List.all_cons, List.all_nil, hwc]; rfl, trivial⟩) rfl) trivial ?_
    refine p_app (d1 := 40) rfl rfl rfl (hihj22_0.keep fun g => hset_ne (key_ne rfl)) (src_ref (hset_self _ _ _) rfl) (by kernel_rfl) (by simp only [rowsR, List.length_zipWith, List.length_cons, List.length_nil]; omega) fun v2 h2 c2 hs2 hf2 => ?_
    rw [← rowsR_snoc (hvl ▸ hx)] at hs2
    have hnp3 := hnp.keep fun g => (hf2 (35, g) (key_ne rfl) (fun _ _ => key_ne rfl)).trans (hset_ne (key_ne rfl))
    refine p_step rfl (e_assign (v := v2) rfl) trivial ?_
    refine p_end (hK32 _ ?_); clear hK32 K32
    refine block_norm ?_
    refine seq_norm (hK13 _ ?_); clear hK13 K13
    refine pwp_plain rfl fun K33 hK33 => ?_
    refine p_step rfl (e_move (v := .sc _) rfl) trivial ?_
    refine p_step rfl (e_add rfl rfl (by first | omega | (simp only [List.length_map] at *; omega))) trivial ?_
    refine p_step rfl (e_assign (v := .sc _) rfl) trivial ?_
    refine p_end (hK33 _ ?_); clear hK33 K33
    exact loop_again ((k + 1, v2, vs ++ [w])) (by show _ < _; simp only; omega) ⟨rfl, trivial⟩ ⟨rfl, rfl, trivial⟩ (by exact ⟨by show _ + 1 ≤ _; simp only [List.length_map] at *; omega, by simp [hvl], by (show NP _ 35 1 ci _ _; rw [usF_succ, ← usP_all (k := k) (j := j) (hjx.trans ndX_len.symm)]; exact hnp3), (SliceAt.to hs2 (by rfl))⟩)
  ·have hb12R := hb12; try simp only [z1, z2, z3, z4, z5, z6, ne_eq, z7, z8, z9, z10, z11, z12] at hb12
   have hkx : k = xs.length := by simp only [List.length_map] at *; omega
   refine pwp_exit ?_
   refine exit_seq ?_
   clear hK11 K11
   refine exit_loop ?_
   refine exit_here ?_
   refine seq_norm (hK4 _ ?_); clear hK4 K4
   refine pwp_seq_plain rfl fun K34 hK34 => ?_
   refine p_step rfl (e_move (v := _) rfl) trivial ?_
   refine p_step rfl (e_assign (v := _) rfl) trivial ?_
   refine p_end (hK34 _ ?_); clear hK34 K34
   refine pwp_ret ?_
   refine end1 (v := _) rfl ?_
   exact out_rev (by omega) hihj9_0 (hkx ▸ hnp)

end Go.Proofs.Ytjmjiegplnfiiaa

/- Orders, handlings and orders of the reverse plan. No conditions. -/
set_option linter.unusedSimpArgs false
set_option linter.unusedVariables false
set_option maxRecDepth 100000
namespace Go.Proofs.Ytjmjiegplnfiiaa
open Go Go.Pv

section
variable {xs : List Task} {ds : List Int} {k : Nat}
theorem raiseF (q : PV) : Raises [.lit true 6 (xs.map Task.encF), q] [.lit true 6 (xs.map Task.enc), q] := by
  refine .cons (.row (by simp) fun i row row' h1 h2 => ?_) (.cons (.same _) .nil)
  rw [List.getElem?_map] at h1 h2
  cases hx : xs[i]? with
  | none => rw [hx] at h1; cases h1
  | some x =>
    rw [hx] at h1 h2; cases h1; cases h2
    refine .cons (.same _) (.cons (.same _) (.cons (.same _) (.cons (.same _) (.cons (.same _) (.cons (.row rfl fun i row row' h1 h2 => ?_) .nil)))))
    rw [h1] at h2; cases h2
    exact sameR row
end
theorem revE_0 {xs : List Task} (h : planE xs = 0) : revE xs = (revX xs, 0) := if_neg (fun q => q h)
theorem revE_e {xs : List Task} (h : planE xs ≠ 0) : revE xs = ([], planE xs) := if_pos h
end Go.Proofs.Ytjmjiegplnfiiaa
