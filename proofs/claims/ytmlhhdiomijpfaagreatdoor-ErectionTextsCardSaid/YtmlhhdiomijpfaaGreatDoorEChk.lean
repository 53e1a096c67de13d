import Derived.Test.YtmlhhdiomijpfaaGreatDoorERor
set_option linter.unusedSimpArgs false
set_option linter.unusedVariables false
set_option maxRecDepth 100000
namespace Go.Proofs.YtmlhhdiomijpfaaGreatDoor.E7
open Go Go.Pv Go.Proofs.YtmlhhdiomijpfaaGreatDoor
def rngT (t : Task) : Prop := (-1 ≤ t.member ∧ t.member ≤ 3999) ∧ (0 ≤ t.place ∧ t.place ≤ 999) ∧ (0 ≤ t.minutes ∧ t.minutes ≤ 10000)
instance (t : Task) : Decidable (rngT t) := inferInstanceAs (Decidable (_ ∧ _))
def dupB (xs : List Task) (k : Nat) (s : ByteArray) : Bool := (xs.take k).any fun t => decide (t.name = s)
def taskE (xs : List Task) (k : Nat) (t : Task) : Int := if isNm t.name = false ∨ isNm t.trade = false then 4 else if dupB xs k t.name then 5 else if ¬ rngT t then 2 else listE t.needs xs.length
def tasksF (xs : List Task) : Nat → List Task → Int
 | _, [] => 0
 | k, t :: l => if taskE xs k t ≠ 0 then taskE xs k t else tasksF xs (k + 1) l
def planE (xs : List Task) : Int := if 4000 < xs.length then 8 else if tasksF xs 0 xs ≠ 0 then tasksF xs 0 xs else if (ordR (ndX xs)).length < xs.length then 24 else 0
section
variable {xs : List Task} {k : Nat} {t : Task}
theorem dupB_0 {s : ByteArray} : dupB xs 0 s = false := by simp [dupB]
theorem dupB_succ {s : ByteArray} (ht : xs.take (k + 1) = xs.take k ++ [t]) : dupB xs (k + 1) s = (dupB xs k s || decide (t.name = s)) := by
 simp only [dupB, ht, List.any_append, List.any_cons, List.any_nil, Bool.or_false]
theorem dup_yes {s : ByteArray} {j : Nat} {y : Task} (hy : xs[j]? = some y) (hj : j < k) (h : y.name = s) : dupB xs k s = true := by
 simp only [dupB, List.any_eq_true, decide_eq_true_eq];refine ⟨y, List.mem_of_getElem? (i := j) ?_, h⟩;rw [List.getElem?_take_of_lt hj, hy]
theorem taskE_4 (h : isNm t.name = false ∨ isNm t.trade = false) : 4 = taskE xs k t := (if_pos h).symm
theorem taskE_5 (h1 : isNm t.name = true) (h2 : isNm t.trade = true) (h3 : dupB xs k t.name = true) : 5 = taskE xs k t := by
 rw [taskE, if_neg (by simp [h1, h2]), if_pos h3]
theorem taskE_2 (h1 : isNm t.name = true) (h2 : isNm t.trade = true) (h3 : dupB xs k t.name = false) (h4 : ¬ rngT t) : 2 = taskE xs k t := by
 rw [taskE, if_neg (by simp [h1, h2]), if_neg (by simp [h3]), if_pos h4]
theorem taskE_l (h1 : isNm t.name = true) (h2 : isNm t.trade = true) (h3 : dupB xs k t.name = false) (h4 : rngT t) : listE t.needs xs.length = taskE xs k t := by
 rw [taskE, if_neg (by simp [h1, h2]), if_neg (by simp [h3]), if_neg (fun h => h h4)]
theorem any_out {l : List Int} {n : Int} {j : Nat} (h1 : j < l.length) (h : outB n (at0 l j) = true) : l.any (outB n) = true := by
 simp only [List.any_eq_true]; exact ⟨_, at0_mem h1, h⟩
theorem any_in {l : List Int} {n : Int} {j : Nat} (h : ∀ i, i < j → outB n (at0 l i) = false) (h2 : l.length ≤ j) : l.any (outB n) = false := by
 rw [List.any_eq_false];intro z hz;obtain ⟨i, h3, rfl⟩ := mem_at0 hz;rw [h i (by omega)]; decide
theorem tasks_hit {t : Task} (hinv : tasksF xs 0 xs = tasksF xs k (xs.drop k)) (hd : xs.drop k = t :: xs.drop (k + 1)) (h : taskE xs k t ≠ 0) : taskE xs k t = tasksF xs 0 xs := by
 rw [hinv, hd, tasksF, if_pos h]
theorem tasks_go (hinv : tasksF xs 0 xs = tasksF xs k (xs.drop k)) (hd : xs.drop k = t :: xs.drop (k + 1)) (h : taskE xs k t = 0) : tasksF xs 0 xs = tasksF xs (k + 1) (xs.drop (k + 1)) := by
 rw [hinv, hd, tasksF, if_neg (fun q => q h)]
theorem tasks_all (hinv : tasksF xs 0 xs = tasksF xs k (xs.drop k)) (hk : xs.length ≤ k) : tasksF xs 0 xs = 0 := by
 rw [hinv, List.drop_eq_nil_of_le hk, tasksF]
theorem tasks_ok : ∀ {l : List Task} {k : Nat}, tasksF xs k l = 0 → ∀ i t, l[i]? = some t → taskE xs (k + i) t = 0
 | [], _, _, i, t, h => by simp at h
 | t :: l, k, h, i, t', h' => by
   rw [tasksF] at h;split at h
   · rename_i h1; exact absurd h h1
   · rename_i h1;cases i with
     | zero => cases h'; exact Decidable.not_not.1 h1
     | succ i =>
       have := tasks_ok h i t' h';rw [show k + (i + 1) = k + 1 + i by omega]; exact this
theorem listE_ok {l : List Int} {n : Int} (h : listE l n = 0) : (∀ z ∈ l, 0 ≤ z ∧ z < n) ∧ ascB l = true := by
 unfold listE at h;split at h
 · cases h
 · rename_i h1;split at h
   · rename_i h2;refine ⟨fun z hz => ?_, h2⟩;have h3 : l.any (outB n) = false := by simpa using h1
     rw [List.any_eq_false] at h3;have := h3 z hz;simp only [outB, Bool.not_eq_true', decide_eq_false_iff_not, Decidable.not_not] at this;omega
   · cases h
theorem asc_lt {l : List Int} (h : ascB l = true) : ∀ (d i : Nat), i + d + 1 < l.length → at0 l i < at0 l (i + d + 1)
 | 0, i, h1 => by
   simp only [ascB, decide_eq_true_eq] at h;have := h (i + 1) h1 (by omega);simpa using this
 | d + 1, i, h1 => by
   have h2 := asc_lt h d i (by omega);simp only [ascB, decide_eq_true_eq] at h;have := h (i + (d + 1) + 1) h1 (by omega);have e : i + (d + 1) + 1 - 1 = i + d + 1 := by omega
   rw [e] at this;omega
theorem asc_nodup {l : List Int} (h : ascB l = true) : l.Nodup := by
 rw [List.Nodup, List.pairwise_iff_getElem];intro i j hi hj hij;rw [at0_elem hi, at0_elem hj];have := asc_lt h (j - i - 1) i (by omega);rw [show i + (j - i - 1) + 1 = j by omega] at this;omega
theorem task_needs (h : taskE xs k t = 0) : rngT t ∧ isNm t.name = true ∧ isNm t.trade = true ∧ (∀ z ∈ t.needs, 0 ≤ z ∧ z < xs.length) ∧ ascB t.needs = true := by
 unfold taskE at h;split at h
 · cases h
 · rename_i h1;split at h
   · cases h
   · split at h
     · cases h
     · rename_i h3;rw [not_or, Bool.not_eq_false, Bool.not_eq_false] at h1;exact ⟨Decidable.not_not.1 h3, h1.1, h1.2, listE_ok h⟩
theorem tasks_nd (h : tasksF xs 0 xs = 0) : NdOK (ndX xs) := by
 have h1 : ∀ i, nd_ (ndX xs) i = [] ∨ ∃ t, xs[i]? = some t ∧ nd_ (ndX xs) i = t.needs := fun i => by
   cases e : xs[i]? with
   | none => left; simp [nd_, ndX, List.getD_eq_getElem?_getD, List.getElem?_map, e]
   | some t => exact .inr ⟨t, rfl, ndX_at e⟩
 have h2 : ∀ i t, xs[i]? = some t → _ := fun i t e => task_needs (by have := tasks_ok h i t e; rw [Nat.zero_add] at this; exact this);refine ⟨fun i z hz => ?_, fun i => ?_⟩
 · rcases h1 i with h3 | ⟨t, h3, h4⟩
   · rw [h3] at hz; cases hz
   · rw [h4] at hz; rw [ndX_len]; exact (h2 i t h3).2.2.2.1 z hz
 · rcases h1 i with h3 | ⟨t, h3, h4⟩
   · rw [h3]; exact List.nodup_nil
   · rw [h4]; exact asc_nodup (h2 i t h3).2.2.2.2
end
section
variable {xs : List Task}
theorem planE_8 (h : 4000 < xs.length) : 8 = planE xs := (if_pos h).symm
theorem planE_t (h : ¬ 4000 < xs.length) (h2 : tasksF xs 0 xs ≠ 0) : tasksF xs 0 xs = planE xs := by rw [planE, if_neg h, if_pos h2]
theorem planE_24 (h : ¬ 4000 < xs.length) (h2 : tasksF xs 0 xs = 0) (h3 : (ordR (ndX xs)).length < xs.length) : 24 = planE xs := by rw [planE, if_neg h, if_neg (fun q => q h2), if_pos h3]
theorem planE_0 (h : ¬ 4000 < xs.length) (h2 : tasksF xs 0 xs = 0) (h3 : ¬ (ordR (ndX xs)).length < xs.length) : 0 = planE xs := by rw [planE, if_neg h, if_neg (fun q => q h2), if_neg h3]
theorem planE_s (h : ¬ 4000 < xs.length) (h2 : tasksF xs 0 xs = 0) : (srtR (ndX xs)).2 = planE xs := by
 rw [srtR, ndX_len];split
 · rename_i h3; exact planE_24 h h2 h3
 · rename_i h3; exact planE_0 h h2 h3
end
def SeenI (xs : List Task) (k : Nat) (m : List (ByteArray × Bool)) : Prop := ∀ s, (aGet s m).getD false = dupB xs k s
theorem SeenI.nil {xs : List Task} : SeenI xs 0 [] := fun s => by simp [aGet, dupB]
theorem SeenI.step {xs : List Task} {k : Nat} {m : List (ByteArray × Bool)} {t : Task} (h : SeenI xs k m) (ht : xs.take (k + 1) = xs.take k ++ [t]) : SeenI xs (k + 1) (aSet t.name true m) := fun s => by
 rw [aGet_aSet, dupB_succ ht, ← h s];by_cases e : s = t.name
 · subst e; simp
 · rw [if_neg e];have : t.name ≠ s := fun q => e q.symm;simp [this]
def kps (s : ByteArray) : PV := .str s
theorem kps_eq (a b : ByteArray) : keyEq (kps a) (kps b) = decide (a = b) := by
 simp only [kps, keyEq, scEq]
theorem kps_ok (a : ByteArray) : keyOk Tryz.prog 9 (kps a) := by
 show isStringTy Tryz.prog 9 = true;kernel_rfl
def Fair (xs : List Task) : Prop := ∀ x ∈ xs, x.needs.length ≤ 1000 ∧ x.name.size ≤ 1000 ∧ x.trade.size ≤ 1000
theorem plan_hit {xs : List Task} {k : Nat} {t : Task} {c : Int} (h : ¬ 4000 < xs.length) (hinv : tasksF xs 0 xs = tasksF xs k (xs.drop k)) (hd : xs.drop k = t :: xs.drop (k + 1)) (e : c = taskE xs k t) (hc : c ≠ 0) : c = planE xs := by
 have h1 := tasks_hit hinv hd (e ▸ hc);rw [e, h1];exact planE_t h (h1 ▸ e ▸ hc)
theorem fr47 : (inFrame Tryz.f47.ntmps (Tryz.f47.body.getD .skip) && Tryz.f47.results.toList.all (resScope Tryz.f47.ntmps)) = true := by kernel_rfl
theorem CheckTaskC (xs : List Task) (k : Nat) (t : Task) (hx : xs[k]? = some t) (hl : xs.length ≤ 10000) (hnt : t.needs.length ≤ 1000) : PCalls Tryz.prog 47 [.lit true 6 (xs.map Task.enc), .int (k : Int)] (.int (taskE xs k t)) := by
 refine PCalls.of_code Tryz.func47 rfl rfl (by kernel_rfl) mixed fr47 (by show _ ≤ 72; simp) (.sc _) ?_;have hkl := (List.getElem?_eq_some_iff.1 hx).1;refine pwp_seq_plain rfl fun K1 hK1 => p_aS rfl (p_end (hK1 _ ?_)); clear hK1 K1;refine pwp_seq_plain rfl fun K2 hK2 => p_e rfl (e_move (v := .lit _ _ _) rfl) (p_mS rfl (p_e rfl (e_ixL rfl rfl) (p_e rfl (e_loadA (n := 6) rfl (by kernel_rfl) (by kernel_rfl) (by kernel_rfl) (by first | omega | (simp only [lM]; omega)) (by decide) (by first | exact agg_map hx rfl)) (p_new rfl (e_alloc (cs := [.str ByteArray.empty, .str ByteArray.empty, .int 0, .int 0, .int 0, .nil]) (n := 6) (by kernel_rfl) rfl (by decide)) (ob_alloc (by decide)) (p_store rfl (e_storeA rfl (hset_self _ _ _) rfl rfl rfl (by kernel_rfl) rfl (by kernel_rfl)) trivial (p_end (hK2 _ ?_))))))); clear hK2 K2;refine pwp_seq_seq (pwp_seq_gops rfl fun K3 hK3 => g_begin (g_e rfl (e_faQ pl6 rfl) (g_e rfl (e_lH (v := .sc _) rfl (hset_self _ _ _) rfl) (g_call rfl rfl rfl rfl (.cons inn_sc .nil) (IsName _) (g_e rfl (e_not rfl) (g_mS rfl rfl ?_))))));refine g_cases (fun hb4 => ?_) (fun hb4 => ?_)
 ·have hb4R := hb4; try simp only [zz] at hb4
  iterate 2 refine g_skip rfl rfl rfl ?_
  refine g_nocall rfl rfl rfl (g_skip rfl rfl rfl (g_pT rfl rfl rfl (g_end (ds := [17, 18, 19, 20]) rfl rfl (hK3 _ ?_)))); clear hK3 K3;refine pwp_seq_cond (t := true) rfl fun K5 hK5 => ⟨fun _ => ?_, nofun⟩
  refine pwp_seq_plain rfl fun K6 hK6 => p_aS rfl (p_end (hK6 _ ?_)); clear hK6 K6;refine pwp_ret (ret_seq (end1 (v := .sc _) rfl ?_));exact out_i (taskE_4 (by first | exact .inl (by assumption) | exact .inr (by assumption)))
 have hb4R := hb4; try simp only [zz] at hb4
 refine g_e rfl (e_faQ pl6 rfl) (g_e rfl (e_lH (v := .sc _) rfl (hset_self _ _ _) rfl) (g_call rfl rfl rfl rfl (.cons inn_sc .nil) (IsName _) (g_e rfl (e_not rfl) (g_pF rfl rfl rfl (g_end (ds := [17, 18, 19, 20]) rfl rfl (hK3 _ ?_)))))); clear hK3 K3;refine pwp_seq_cond rfl fun K7 hK7 => ⟨fun hb8 => ?_, fun hb8 => ?_⟩
 ·have hb8R := hb8; try simp only [zz] at hb8
  refine pwp_seq_plain rfl fun K9 hK9 => p_aS rfl (p_end (hK9 _ ?_)); clear hK9 K9;refine pwp_ret (ret_seq (end1 (v := .sc _) rfl ?_));exact out_i (taskE_4 (by first | exact .inl (by assumption) | exact .inr (by assumption)))
 have hb8R := hb8; try simp only [zz] at hb8
 refine pwp_skip (seq_norm (hK7 _ ?_)); clear hK7 K7;refine pwp_seq_seq (pwp_seq_plain rfl fun K10 hK10 => p_aS rfl (p_end (hK10 _ ?_))); clear hK10 K10;refine pwp_seq_block fun K11 hK11 => pwp_loopR (α := Nat) [0, 1, 5] (fun (j : Nat) => [(6, .int (j))]) (fun (j : Nat) (h : Heap) (_ : Nat → Nat) => ((j) ≤ k) ∧ (dupB xs (j) t.name = false) ∧ (h (5, 0) = some (.rows 6 [Task.enc t]))) (fun (j : Nat) => k - (j)) (0) (by exact ⟨rfl, trivial⟩) (by exact ⟨by exact Nat.zero_le _, by exact dupB_0, (hset_self _ _ _)⟩) fun j r12 h13 c14 hj15 => ?_;obtain ⟨hj, hdup, hihj15_0⟩ := hj15;try dsimp only at hj
 try dsimp only at hdup
 try dsimp only at hihj15_0
 show pwp _ _ (loopQ _ _ _) ⟨sets (mix _ _ _) [(6, .int j)], _, _⟩;refine pwp_seq_seq (pwp_seq_plain rfl fun K16 hK16 => p_mS rfl (p_mS rfl (p_e rfl (e_lt rfl rfl) (p_end (hK16 _ ?_))))); clear hK16 K16;refine pwp_seq_cond rfl fun K17 hK17 => ⟨fun hb18 => ?_, fun hb18 => ?_⟩
 ·have hb18R := hb18; try simp only [zz] at hb18
  obtain ⟨y, hy, hdy, hty⟩ := get_lt (xs := xs) (i := j) (by omega);refine pwp_skip (seq_norm (hK17 _ ?_)); clear hK17 K17;refine pwp_seq_block fun K19 hK19 => pwp_seq_gops rfl fun K20 hK20 => g_begin (g_e rfl (e_move (v := .lit _ _ _) rfl) (g_mS rfl rfl (g_e rfl (e_ixL rfl rfl) (g_e rfl (e_fb pl6 rfl) (g_e rfl (e_lL (v := .sc _) rfl ((cell_map hy _).trans rfl)) ?_)))));refine g_e rfl (e_faQ pl6 rfl) (g_e rfl (e_lH (v := .sc _) rfl hihj15_0 rfl) (g_e rfl (e_seq rfl rfl) (g_end (ds := []) (by kernel_rfl) rfl (hK20 _ ?_)))); clear hK20 K20;refine pwp_cond rfl (fun hb21 => ?_) (fun hb21 => ?_)
  ·have hb21R := hb21; try simp only [zz] at hb21
   refine pwp_seq_plain rfl fun K22 hK22 => p_aS rfl (p_end (hK22 _ ?_)); clear hK22 K22;refine pwp_ret (ret_block (ret_seq (ret_loop (ret_block (ret_seq (end1 (v := .sc _) rfl ?_))))));exact out_i (taskE_5 (by assumption) (by assumption) (dup_yes hy (by omega) (by assumption)))
  have hb21R := hb21; try simp only [zz] at hb21
  refine pwp_skip (block_norm (seq_norm (hK19 _ ?_))); clear hK19 K19;refine pwp_plain rfl fun K23 hK23 => p_mS rfl (p_e rfl (e_add rfl rfl (by first | omega | (simp only [lM]; omega))) (p_aS rfl (p_end (hK23 _ ?_)))); clear hK23 K23;exact loop_again (j + 1) (by show _ < _; omega) ⟨rfl, rfl, rfl, trivial⟩ ⟨rfl, trivial⟩ (by exact ⟨by show _ + 1 ≤ _; omega, by (rw [dupB_succ hty, hdup, Bool.false_or]; exact decide_eq_false (by assumption)), hihj15_0⟩)
 have hb18R := hb18; try simp only [zz] at hb18
 obtain rfl : j = k := by omega
 refine pwp_exit (exit_seq ?_);clear hK17 K17;refine exit_loop (exit_here (seq_norm (hK11 _ ?_))); clear hK11 K11;refine pwp_seq_seq (pwp_seq_gops rfl fun K24 hK24 => g_begin (g_e rfl (e_faQ pl6 rfl) (g_e rfl (e_lH (v := .sc _) rfl hihj15_0 rfl) (g_call rfl rfl rfl rfl (.cons inn_sc (.cons inn_sc (.cons inn_sc .nil))) (Within _ _ _) (g_e rfl (e_not rfl) (g_mS rfl rfl ?_))))));refine g_cases (fun hb25 => ?_) (fun hb25 => ?_)
 ·have hb25R := hb25; try simp only [zz] at hb25
  iterate 2 refine g_skip rfl rfl rfl ?_
  refine g_nocall rfl rfl rfl (g_skip rfl rfl rfl (g_pT rfl rfl rfl (g_mS rfl rfl ?_)));iterate 2 refine g_skip rfl rfl rfl ?_
  refine g_nocall rfl rfl rfl (g_skip rfl rfl rfl (g_pT rfl rfl rfl (g_end (ds := [40, 41, 42, 43, 46, 47, 48, 49]) rfl rfl (hK24 _ ?_)))); clear hK24 K24;refine pwp_seq_cond (t := true) rfl fun K26 hK26 => ⟨fun _ => ?_, nofun⟩
  refine pwp_seq_plain rfl fun K27 hK27 => p_aS rfl (p_end (hK27 _ ?_)); clear hK27 K27;refine pwp_ret (ret_seq (end1 (v := .sc _) rfl ?_));exact out_i (taskE_2 (by assumption) (by assumption) hdup (by unfold rngT; omega))
 have hb25R := hb25; try simp only [zz] at hb25
 refine g_e rfl (e_faQ pl6 rfl) (g_e rfl (e_lH (v := .sc _) rfl hihj15_0 rfl) (g_call rfl rfl rfl rfl (.cons inn_sc (.cons inn_sc (.cons inn_sc .nil))) (Within _ _ _) (g_e rfl (e_not rfl) (g_pF rfl rfl rfl (g_mS rfl rfl ?_)))));refine g_cases (fun hb28 => ?_) (fun hb28 => ?_)
 ·have hb28R := hb28; try simp only [zz] at hb28
  iterate 2 refine g_skip rfl rfl rfl ?_
  refine g_nocall rfl rfl rfl (g_skip rfl rfl rfl (g_pT rfl rfl rfl (g_end (ds := [40, 41, 42, 43, 46, 47, 48, 49]) rfl rfl (hK24 _ ?_)))); clear hK24 K24;refine pwp_seq_cond (t := true) rfl fun K29 hK29 => ⟨fun _ => ?_, nofun⟩
  refine pwp_seq_plain rfl fun K30 hK30 => p_aS rfl (p_end (hK30 _ ?_)); clear hK30 K30;refine pwp_ret (ret_seq (end1 (v := .sc _) rfl ?_));exact out_i (taskE_2 (by assumption) (by assumption) hdup (by unfold rngT; omega))
 have hb28R := hb28; try simp only [zz] at hb28
 refine g_e rfl (e_faQ pl6 rfl) (g_e rfl (e_lH (v := .sc _) rfl hihj15_0 rfl) (g_call rfl rfl rfl rfl (.cons inn_sc (.cons inn_sc (.cons inn_sc .nil))) (Within _ _ _) (g_e rfl (e_not rfl) (g_pF rfl rfl rfl (g_end (ds := [40, 41, 42, 43, 46, 47, 48, 49]) rfl rfl (hK24 _ ?_)))))); clear hK24 K24;refine pwp_seq_cond rfl fun K31 hK31 => ⟨fun hb32 => ?_, fun hb32 => ?_⟩
 ·have hb32R := hb32; try simp only [zz] at hb32
  refine pwp_seq_plain rfl fun K33 hK33 => p_aS rfl (p_end (hK33 _ ?_)); clear hK33 K33;refine pwp_ret (ret_seq (end1 (v := .sc _) rfl ?_));exact out_i (taskE_2 (by assumption) (by assumption) hdup (by unfold rngT; omega))
 have hb32R := hb32; try simp only [zz] at hb32
 refine pwp_skip (seq_norm (hK31 _ ?_)); clear hK31 K31;refine pwp_seq_seq (pwp_seq_plain rfl fun K34 hK34 => p_aS rfl (p_end (hK34 _ ?_))); clear hK34 K34;refine pwp_seq_block fun K35 hK35 => pwp_loopR (α := Nat) [0, 5] (fun (i : Nat) => [(7, .int (i))]) (fun (i : Nat) (h : Heap) (_ : Nat → Nat) => ((i) ≤ t.needs.length) ∧ (∀ z, z < (i) → outB (xs.length : Int) (at0 t.needs z) = false) ∧ (h (5, 0) = some (.rows 6 [Task.enc t]))) (fun (i : Nat) => t.needs.length - (i)) (0) (by exact ⟨rfl, trivial⟩) (by exact ⟨by exact Nat.zero_le _, by exact upto_0, hihj15_0⟩) fun i r36 h37 c38 hj39 => ?_;obtain ⟨hi, hin, hihj39_0⟩ := hj39;try dsimp only at hi
 try dsimp only at hin
 try dsimp only at hihj39_0
 show pwp _ _ (loopQ _ _ _) ⟨sets (mix _ _ _) [(7, .int i)], _, _⟩;refine pwp_seq_seq (pwp_seq_plain rfl fun K40 hK40 => p_mS rfl (p_e rfl (e_faQ pl6 rfl) (p_e rfl (e_lH (v := .lit _ _ _) rfl hihj39_0 rfl) (p_e rfl (e_len rfl (by kernel_rfl)) (p_e rfl (e_lt rfl rfl) (p_end (hK40 _ ?_))))))); clear hK40 K40;refine pwp_seq_cond rfl fun K41 hK41 => ⟨fun hb42 => ?_, fun hb42 => ?_⟩
 ·have hb42R := hb42; try simp only [zz] at hb42
  refine pwp_skip (seq_norm (hK41 _ ?_)); clear hK41 K41;refine pwp_seq_block fun K43 hK43 => pwp_seq_plain rfl fun K44 hK44 => p_e rfl (e_faQ pl6 rfl) (p_e rfl (e_lH (v := .lit _ _ _) rfl hihj39_0 rfl) (p_mS rfl (p_e rfl (e_ixL rfl rfl) (p_e rfl (e_lL (v := .sc _) rfl ((cell_map (at0_get (l := t.needs) (i := i) (by omega)) _).trans rfl)) (p_e rfl (e_move (v := .lit _ _ _) rfl) ?_)))));refine p_e rfl (e_len rfl (by kernel_rfl)) (p_e rfl (e_sub rfl rfl (by first | omega | (simp only [lM]; omega))) (p_call rfl (.cons inn_sc (.cons inn_sc (.cons inn_sc .nil))) (Within _ _ _) (p_e rfl (e_not rfl) (p_end (hK44 _ ?_))))); clear hK44 K44;refine pwp_cond rfl (fun hb45 => ?_) (fun hb45 => ?_)
  ·have hb45R := hb45; try simp only [zz] at hb45
   refine pwp_seq_plain rfl fun K46 hK46 => p_aS rfl (p_end (hK46 _ ?_)); clear hK46 K46;refine pwp_ret (ret_block (ret_seq (ret_loop (ret_block (ret_seq (end1 (v := .sc _) rfl ?_))))));exact out_i ((listE_6 (any_out (j := i) (by simp only [lM] at *; omega) (by simp only [outB, Bool.not_eq_true', decide_eq_false_iff_not]; simp only [lM] at *; omega))).trans (taskE_l (by assumption) (by assumption) hdup (by unfold rngT; omega)))
  have hb45R := hb45; try simp only [zz] at hb45
  refine pwp_skip (block_norm (seq_norm (hK43 _ ?_))); clear hK43 K43;refine pwp_plain rfl fun K47 hK47 => p_mS rfl (p_e rfl (e_add rfl rfl (by first | omega | (simp only [lM]; omega))) (p_aS rfl (p_end (hK47 _ ?_)))); clear hK47 K47;exact loop_again (i + 1) (by show _ < _; omega) ⟨rfl, rfl, trivial⟩ ⟨rfl, trivial⟩ (by exact ⟨by show _ + 1 ≤ _; simp only [lM] at *; omega, by exact upto_step (p := fun z => outB (xs.length : Int) (at0 t.needs z) = false) hin (by simp only [outB, Bool.not_eq_false', decide_eq_true_eq]; simp only [lM] at *; omega), hihj39_0⟩)
 have hb42R := hb42; try simp only [zz] at hb42
 have hany := any_in hin (by simp only [lM] at *; omega);refine pwp_exit (exit_seq ?_);clear hK41 K41;refine exit_loop (exit_here (seq_norm (hK35 _ ?_))); clear hK35 K35;refine pwp_seq_seq (pwp_seq_plain rfl fun K48 hK48 => p_e rfl (e_faQ pl6 rfl) (p_e rfl (e_lH (v := .lit _ _ _) rfl hihj39_0 rfl) (p_call rfl (.cons inn_lit .nil) (ascends _ (by omega)) (p_e rfl (e_not rfl) (p_end (hK48 _ ?_)))))); clear hK48 K48;refine pwp_seq_cond rfl fun K49 hK49 => ⟨fun hb50 => ?_, fun hb50 => ?_⟩
 ·have hb50R := hb50; try simp only [zz] at hb50
  refine pwp_seq_plain rfl fun K51 hK51 => p_aS rfl (p_end (hK51 _ ?_)); clear hK51 K51;refine pwp_ret (ret_seq (end1 (v := .sc _) rfl ?_));exact out_i ((listE_10 hany (by assumption)).trans (taskE_l (by assumption) (by assumption) hdup (by unfold rngT; omega)))
 have hb50R := hb50; try simp only [zz] at hb50
 refine pwp_skip (seq_norm (hK49 _ ?_)); clear hK49 K49;refine pwp_seq_plain rfl fun K52 hK52 => p_aS rfl (p_end (hK52 _ ?_)); clear hK52 K52;refine pwp_ret (end1 (v := .sc _) rfl ?_);exact out_i ((listE_0 hany (by assumption)).trans (taskE_l (by assumption) (by assumption) hdup (by unfold rngT; omega)))
theorem fr40 : (inFrame Tryz.f40.ntmps (Tryz.f40.body.getD .skip) && Tryz.f40.results.toList.all (resScope Tryz.f40.ntmps)) = true := by kernel_rfl
theorem CheckC (xs : List Task) (hl : xs.length ≤ 10000) (hq : Fair xs) : PCalls Tryz.prog 40 [.lit true 6 (xs.map Task.enc)] (.int (planE xs)) := by
 refine PCalls.of_code Tryz.func40 rfl rfl (by kernel_rfl) mixed fr40 (by show _ ≤ 72; simp) (.sc _) (pwp_seq_plain rfl fun K1 hK1 => p_aS rfl (p_end (hK1 _ ?_))); clear hK1 K1;refine pwp_seq_seq (pwp_seq_plain rfl fun K2 hK2 => p_e rfl (e_move (v := .lit _ _ _) rfl) (p_e rfl (e_len rfl (by kernel_rfl)) (p_e rfl (e_gt rfl rfl) (p_end (hK2 _ ?_))))); clear hK2 K2;refine pwp_seq_cond rfl fun K3 hK3 => ⟨fun hb4 => ?_, fun hb4 => ?_⟩
 ·have hb4R := hb4; try simp only [zz] at hb4
  refine pwp_seq_plain rfl fun K5 hK5 => p_aS rfl (p_end (hK5 _ ?_)); clear hK5 K5;refine pwp_ret (ret_seq (end1 (v := .sc _) rfl ?_));exact out_i (planE_8 (by simp only [lM] at *; omega))
 have hb4R := hb4; try simp only [zz] at hb4
 refine pwp_skip (seq_norm (hK3 _ ?_)); clear hK3 K3;refine pwp_seq_plain rfl fun K6 hK6 => p_new rfl (e_mkmap) trivial (p_e rfl (e_assign (v := .map _) rfl) (p_end (hK6 _ ?_))); clear hK6 K6;refine pwp_seq_seq (pwp_seq_plain rfl fun K7 hK7 => p_e rfl (e_move (v := .lit _ _ _) rfl) (p_e rfl (e_len rfl (by kernel_rfl)) (p_mS rfl (p_end (hK7 _ ?_))))); clear hK7 K7;refine pwp_seq_block fun K8 hK8 => pwp_loopR (α := Nat × (List (ByteArray × Bool))) [0, 3, 13, 14] (fun (a9 : Nat × (List (ByteArray × Bool))) => [(15, .int (a9.1))]) (fun (a9 : Nat × (List (ByteArray × Bool))) (h : Heap) (_ : Nat → Nat) => ((a9.1) ≤ xs.length) ∧ (tasksF xs 0 xs = tasksF xs (a9.1) (xs.drop (a9.1))) ∧ (SeenI xs (a9.1) (a9.2)) ∧ (MapAt h (12, 0) (entsOf kps PV.bool (a9.2)))) (fun (a9 : Nat × (List (ByteArray × Bool))) => xs.length - (a9.1)) (0, []) (by exact ⟨rfl, trivial⟩) (by exact ⟨by exact Nat.zero_le _, by exact rfl, by exact SeenI.nil, MapAt.new⟩) fun a9 r10 h11 c12 hj13 => ?_;obtain ⟨k, m⟩ := a9;obtain ⟨hk, hinv, hsn, hihj13_0⟩ := hj13;try dsimp only at hk
 try dsimp only at hinv
 try dsimp only at hsn
 try dsimp only at hihj13_0
 show pwp _ _ (loopQ _ _ _) ⟨sets (mix _ _ _) [(15, .int k)], _, _⟩;refine pwp_seq_plain rfl fun K14 hK14 => p_e rfl (e_lt rfl rfl) (p_end (hK14 _ ?_)); clear hK14 K14;refine pwp_seq_cond rfl fun K15 hK15 => ⟨fun hb16 => ?_, fun hb16 => ?_⟩
 ·have hb16R := hb16; try simp only [zz] at hb16
  obtain ⟨t, hx, hd, ht⟩ := get_lt (xs := xs) (i := k) (by omega);have hqt := hq t (List.mem_of_getElem? hx);refine pwp_skip (seq_norm (hK15 _ ?_)); clear hK15 K15;refine pwp_seq_block fun K17 hK17 => pwp_seq_plain rfl fun K18 hK18 => p_e rfl (e_ixL rfl rfl) (p_e rfl (e_loadA (n := 6) rfl (by kernel_rfl) (by kernel_rfl) (by kernel_rfl) (by first | omega | (simp only [lM]; omega)) (by decide) (by first | exact agg_map hx rfl)) (p_new rfl (e_alloc (cs := [.str ByteArray.empty, .str ByteArray.empty, .int 0, .int 0, .int 0, .nil]) (n := 6) (by kernel_rfl) rfl (by decide)) (ob_alloc (by decide)) (p_store rfl (e_storeA rfl (hset_self _ _ _) rfl rfl rfl (by kernel_rfl) rfl (by kernel_rfl)) trivial (p_end (hK18 _ ?_))))); clear hK18 K18;refine pwp_seq_block fun K19 hK19 => pwp_seq_gops rfl fun K20 hK20 => g_begin (g_e rfl (e_faQ pl6 rfl) (g_e rfl (e_lH (v := .sc _) rfl (hset_self _ _ _) rfl) (g_call rfl rfl rfl rfl (.cons inn_sc .nil) (isName _ (by omega)) (g_e rfl (e_not rfl) (g_mS rfl rfl ?_)))));refine g_cases (fun hb21 => ?_) (fun hb21 => ?_)
  ·have hb21R := hb21; try simp only [zz] at hb21
   iterate 2 refine g_skip rfl rfl rfl ?_
   refine g_nocall rfl rfl rfl (g_skip rfl rfl rfl (g_pT rfl rfl rfl (g_aS rfl rfl (g_end (ds := [25, 26, 27, 28]) rfl rfl (hK20 _ ?_))))); clear hK20 K20;refine pwp_cond (t := true) rfl (fun _ => ?_) nofun;refine pwp_seq_plain rfl fun K22 hK22 => p_aS rfl (p_end (hK22 _ ?_)); clear hK22 K22;refine pwp_ret (ret_block (ret_seq (ret_block (ret_seq (ret_loop (ret_block (ret_seq ?_)))))));refine end1 (v := .sc _) rfl ?_;exact out_i (plan_hit (by simp only [lM] at *; omega) hinv hd (taskE_4 (by first | exact .inl (by assumption) | exact .inr (by assumption))) (by decide))
  have hb21R := hb21; try simp only [zz] at hb21
  refine g_e rfl (e_faQ pl6 rfl) (g_e rfl (e_lH (v := .sc _) rfl (hset_self _ _ _) rfl) (g_call rfl rfl rfl rfl (.cons inn_sc .nil) (isName _ (by omega)) (g_e rfl (e_not rfl) (g_pF rfl rfl rfl (g_aS rfl rfl (g_end (ds := [25, 26, 27, 28]) rfl rfl (hK20 _ ?_))))))); clear hK20 K20;refine pwp_cond rfl (fun hb23 => ?_) (fun hb23 => ?_)
  ·have hb23R := hb23; try simp only [zz] at hb23
   refine pwp_seq_plain rfl fun K24 hK24 => p_aS rfl (p_end (hK24 _ ?_)); clear hK24 K24;refine pwp_ret (ret_block (ret_seq (ret_block (ret_seq (ret_loop (ret_block (ret_seq ?_)))))));refine end1 (v := .sc _) rfl ?_;exact out_i (plan_hit (by simp only [lM] at *; omega) hinv hd (taskE_4 (by first | exact .inl (by assumption) | exact .inr (by assumption))) (by decide))
  have hb23R := hb23; try simp only [zz] at hb23
  refine pwp_seq_plain rfl fun K25 hK25 => p_e rfl (e_move (v := .map _) rfl) (p_e rfl (e_faQ pl6 rfl) (p_e rfl (e_lH (v := .sc _) rfl (hset_self _ _ _) rfl) (p_e rfl (e_look (kt := 9) (et := 4) (f := kps) (g := PV.bool) (a := t.name) (l := m) (z := false) kps_eq kps_ok rfl rfl (MapAt.keep hihj13_0 (hzM rfl (hzM rfl (rfl)))) (by kernel_rfl) (by kernel_rfl) (by first | rfl | kernel_rfl)) (p_aS rfl (p_end (hK25 _ ?_)))))); clear hK25 K25;refine pwp_cond rfl (fun hb26 => ?_) (fun hb26 => ?_)
  ·have hb26R := hb26; try simp only [zz] at hb26
   refine pwp_seq_plain rfl fun K27 hK27 => p_aS rfl (p_end (hK27 _ ?_)); clear hK27 K27;refine pwp_ret (ret_block (ret_seq (ret_block (ret_seq (ret_loop (ret_block (ret_seq ?_)))))));refine end1 (v := .sc _) rfl ?_;exact out_i (plan_hit (by simp only [lM] at *; omega) hinv hd (taskE_5 (by assumption) (by assumption) (by rw [← hsn]; assumption)) (by decide))
  have hb26R := hb26; try simp only [zz] at hb26
  refine pwp_seq_gops rfl fun K28 hK28 => g_begin (g_e rfl (e_faQ pl6 rfl) (g_e rfl (e_lH (v := .sc _) rfl (hset_self _ _ _) rfl) (g_call rfl rfl rfl rfl (.cons inn_sc (.cons inn_sc (.cons inn_sc .nil))) (within _ _ _) (g_e rfl (e_not rfl) (g_mS rfl rfl ?_)))));refine g_cases (fun hb29 => ?_) (fun hb29 => ?_)
  ·have hb29R := hb29; try simp only [zz] at hb29
   iterate 2 refine g_skip rfl rfl rfl ?_
   refine g_nocall rfl rfl rfl (g_skip rfl rfl rfl (g_pT rfl rfl rfl (g_mS rfl rfl ?_)));iterate 2 refine g_skip rfl rfl rfl ?_
   refine g_nocall rfl rfl rfl (g_skip rfl rfl rfl (g_pT rfl rfl rfl (g_aS rfl rfl (g_end (ds := [41, 42, 43, 44, 47, 48, 49, 50]) rfl rfl (hK28 _ ?_))))); clear hK28 K28;refine pwp_cond (t := true) rfl (fun _ => ?_) nofun;refine pwp_seq_plain rfl fun K30 hK30 => p_aS rfl (p_end (hK30 _ ?_)); clear hK30 K30;refine pwp_ret (ret_block (ret_seq (ret_block (ret_seq (ret_loop (ret_block (ret_seq ?_)))))));refine end1 (v := .sc _) rfl ?_;exact out_i (plan_hit (by simp only [lM] at *; omega) hinv hd (taskE_2 (by assumption) (by assumption) (by rw [← hsn]; assumption) (by unfold rngT; omega)) (by decide))
  have hb29R := hb29; try simp only [zz] at hb29
  refine g_e rfl (e_faQ pl6 rfl) (g_e rfl (e_lH (v := .sc _) rfl (hset_self _ _ _) rfl) (g_call rfl rfl rfl rfl (.cons inn_sc (.cons inn_sc (.cons inn_sc .nil))) (within _ _ _) (g_e rfl (e_not rfl) (g_pF rfl rfl rfl (g_mS rfl rfl ?_)))));refine g_cases (fun hb31 => ?_) (fun hb31 => ?_)
  ·have hb31R := hb31; try simp only [zz] at hb31
   iterate 2 refine g_skip rfl rfl rfl ?_
   refine g_nocall rfl rfl rfl (g_skip rfl rfl rfl (g_pT rfl rfl rfl (g_aS rfl rfl (g_end (ds := [41, 42, 43, 44, 47, 48, 49, 50]) rfl rfl (hK28 _ ?_))))); clear hK28 K28;refine pwp_cond (t := true) rfl (fun _ => ?_) nofun;refine pwp_seq_plain rfl fun K32 hK32 => p_aS rfl (p_end (hK32 _ ?_)); clear hK32 K32;refine pwp_ret (ret_block (ret_seq (ret_block (ret_seq (ret_loop (ret_block (ret_seq ?_)))))));refine end1 (v := .sc _) rfl ?_;exact out_i (plan_hit (by simp only [lM] at *; omega) hinv hd (taskE_2 (by assumption) (by assumption) (by rw [← hsn]; assumption) (by unfold rngT; omega)) (by decide))
  have hb31R := hb31; try simp only [zz] at hb31
  refine g_e rfl (e_faQ pl6 rfl) (g_e rfl (e_lH (v := .sc _) rfl (hset_self _ _ _) rfl) (g_call rfl rfl rfl rfl (.cons inn_sc (.cons inn_sc (.cons inn_sc .nil))) (within _ _ _) (g_e rfl (e_not rfl) (g_pF rfl rfl rfl (g_aS rfl rfl (g_end (ds := [41, 42, 43, 44, 47, 48, 49, 50]) rfl rfl (hK28 _ ?_))))))); clear hK28 K28;refine pwp_cond rfl (fun hb33 => ?_) (fun hb33 => ?_)
  ·have hb33R := hb33; try simp only [zz] at hb33
   refine pwp_seq_plain rfl fun K34 hK34 => p_aS rfl (p_end (hK34 _ ?_)); clear hK34 K34;refine pwp_ret (ret_block (ret_seq (ret_block (ret_seq (ret_loop (ret_block (ret_seq ?_)))))));refine end1 (v := .sc _) rfl ?_;exact out_i (plan_hit (by simp only [lM] at *; omega) hinv hd (taskE_2 (by assumption) (by assumption) (by rw [← hsn]; assumption) (by unfold rngT; omega)) (by decide))
  have hb33R := hb33; try simp only [zz] at hb33
  refine pwp_skip (block_norm (seq_norm (hK19 _ ?_))); clear hK19 K19;refine pwp_seq_seq (pwp_seq_plain rfl fun K35 hK35 => p_e rfl (e_faQ pl6 rfl) (p_e rfl (e_lH (v := .lit _ _ _) rfl (hset_self _ _ _) rfl) (p_e rfl (e_move (v := .lit _ _ _) rfl) (p_e rfl (e_len rfl (by kernel_rfl)) (p_call rfl (.cons inn_lit (.cons inn_sc .nil)) (listedC _ _ (by omega) (by simp only [lM]; omega)) (p_aS rfl ?_))))));refine p_end (hK35 _ ?_); clear hK35 K35;refine pwp_seq_seq (pwp_seq_plain rfl fun K36 hK36 => p_mS rfl (p_e rfl (e_ne rfl rfl) (p_end (hK36 _ ?_)))); clear hK36 K36;refine pwp_seq_cond rfl fun K37 hK37 => ⟨fun hb38 => ?_, fun hb38 => ?_⟩
  ·have hb38R := hb38; try simp only [zz] at hb38
   refine pwp_seq_plain rfl fun K39 hK39 => p_mS rfl (p_aS rfl (p_end (hK39 _ ?_))); clear hK39 K39;refine pwp_ret (ret_seq (ret_block (ret_seq (ret_loop (ret_block (ret_seq (end1 (v := .sc _) rfl ?_)))))));exact out_i (by simp only [lM] at *; exact plan_hit (by omega) hinv hd (taskE_l (by assumption) (by assumption) (by rw [← hsn]; assumption) (by unfold rngT; omega)) (by assumption))
  have hb38R := hb38; try simp only [zz] at hb38
  refine pwp_skip (seq_norm (hK37 _ ?_)); clear hK37 K37;refine pwp_plain rfl fun K40 hK40 => p_e rfl (e_move (v := .map _) rfl) (p_e rfl (e_faQ pl6 rfl) (p_e rfl (e_lH (v := .sc _) rfl (hset_self _ _ _) rfl) (p_store rfl (e_mset (kt := 9) (et := 4) (f := kps) (g := PV.bool) (a := t.name) (b := true) (l := m) kps_eq kps_ok rfl rfl rfl rfl (MapAt.keep hihj13_0 (hzM rfl (hzM rfl (rfl)))) (by kernel_rfl)) trivial (p_end (hK40 _ ?_))))); clear hK40 K40;refine block_norm (seq_norm (hK17 _ ?_)); clear hK17 K17;refine pwp_plain rfl fun K41 hK41 => p_e rfl (e_add rfl rfl (by first | omega | (simp only [lM]; omega))) (p_mS rfl (p_end (hK41 _ ?_))); clear hK41 K41;exact loop_again ((k + 1, aSet t.name true m)) (by show _ < _; simp only; omega) ⟨rfl, rfl, rfl, rfl, trivial⟩ ⟨rfl, trivial⟩ (by exact ⟨by show _ + 1 ≤ _; omega, by exact tasks_go hinv hd ((taskE_l (by assumption) (by assumption) (by rw [← hsn]; assumption) (by unfold rngT; omega)).symm.trans (by simp only [lM] at *; assumption)), by exact hsn.step ht, (MapAt.set kps_eq (MapAt.keep hihj13_0 (hzM rfl (hzM rfl (rfl)))) t.name true)⟩)
 have hb16R := hb16; try simp only [zz] at hb16
 have hT := tasks_all hinv (by simp only [lM] at *; omega);refine pwp_exit (exit_seq ?_);clear hK15 K15;refine exit_loop (exit_here (seq_norm (hK8 _ ?_))); clear hK8 K8;refine pwp_seq_seq (pwp_seq_plain rfl fun K42 hK42 => p_e rfl (e_move (v := .lit _ _ _) rfl) (p_call rfl (.cons inn_lit .nil) (sortedC _ (by omega) (fun x hx => (hq x hx).1) (tasks_nd hT)) (p_e rfl (e_move (v := .tup _) rfl) (p_e rfl (e_ext (v := .lit _ _ _) rfl (by simp) rfl) (p_e rfl (e_ext (v := .sc _) rfl (by simp) rfl) (p_e rfl (e_assign (v := .lit _ _ _) rfl) ?_))))));refine p_aS rfl (p_end (hK42 _ ?_)); clear hK42 K42;refine pwp_seq_seq (pwp_seq_plain rfl fun K43 hK43 => p_mS rfl (p_e rfl (e_ne rfl rfl) (p_end (hK43 _ ?_)))); clear hK43 K43;refine pwp_seq_cond rfl fun K44 hK44 => ⟨fun hb45 => ?_, fun hb45 => ?_⟩
 ·have hb45R := hb45; try simp only [zz] at hb45
  refine pwp_seq_plain rfl fun K46 hK46 => p_mS rfl (p_aS rfl (p_end (hK46 _ ?_))); clear hK46 K46;refine pwp_ret (ret_seq (end1 (v := .sc _) rfl ?_));exact out_i (planE_s (by simp only [lM] at *; omega) hT)
 have hb45R := hb45; try simp only [zz] at hb45
 refine pwp_skip (seq_norm (hK44 _ ?_)); clear hK44 K44;refine pwp_seq_plain rfl fun K47 hK47 => p_aS rfl (p_end (hK47 _ ?_)); clear hK47 K47;refine pwp_ret (end1 (v := .sc _) rfl ?_);exact out_i ((by simp_all : (0 : Int) = (srtR (ndX xs)).2).trans (planE_s (by simp only [lM] at *; omega) hT))
theorem fr17 : (inFrame Tryz.f17.ntmps (Tryz.f17.body.getD .skip) && Tryz.f17.results.toList.all (resScope Tryz.f17.ntmps)) = true := by kernel_rfl
theorem refCheckC (xs : List Task) (hl : xs.length ≤ 10000) (hq : Fair xs) : PCalls Tryz.prog 17 [.lit true 6 (xs.map Task.enc)] (.int (planE xs)) := by
 refine PCalls.of_code Tryz.func17 rfl rfl (by kernel_rfl) mixed fr17 (by show _ ≤ 26; simp) (.sc _) (pwp_seq_plain rfl fun K1 hK1 => p_aS rfl (p_end (hK1 _ ?_))); clear hK1 K1;refine pwp_seq_seq (pwp_seq_plain rfl fun K2 hK2 => p_e rfl (e_move (v := .lit _ _ _) rfl) (p_e rfl (e_len rfl (by kernel_rfl)) (p_e rfl (e_gt rfl rfl) (p_end (hK2 _ ?_))))); clear hK2 K2;refine pwp_seq_cond rfl fun K3 hK3 => ⟨fun hb4 => ?_, fun hb4 => ?_⟩
 ·have hb4R := hb4; try simp only [zz] at hb4
  refine pwp_seq_plain rfl fun K5 hK5 => p_aS rfl (p_end (hK5 _ ?_)); clear hK5 K5;refine pwp_ret (ret_seq (end1 (v := .sc _) rfl ?_));exact out_i (planE_8 (by simp only [lM] at *; omega))
 have hb4R := hb4; try simp only [zz] at hb4
 refine pwp_skip (seq_norm (hK3 _ ?_)); clear hK3 K3;refine pwp_seq_seq (pwp_seq_plain rfl fun K6 hK6 => p_aS rfl (p_end (hK6 _ ?_))); clear hK6 K6;refine pwp_seq_block fun K7 hK7 => pwp_loopR (α := Nat) [0] (fun (k : Nat) => [(3, .int (k))]) (fun (k : Nat) (h : Heap) (_ : Nat → Nat) => ((k) ≤ xs.length) ∧ (tasksF xs 0 xs = tasksF xs (k) (xs.drop (k)))) (fun (k : Nat) => xs.length - (k)) (0) (by exact ⟨rfl, trivial⟩) (by exact ⟨by exact Nat.zero_le _, by exact rfl⟩) fun k r8 h9 c10 hj11 => ?_;obtain ⟨hk, hinv⟩ := hj11;try dsimp only at hk
 try dsimp only at hinv
 show pwp _ _ (loopQ _ _ _) ⟨sets (mix _ _ _) [(3, .int k)], _, _⟩;refine pwp_seq_seq (pwp_seq_plain rfl fun K12 hK12 => p_mS rfl (p_e rfl (e_move (v := .lit _ _ _) rfl) (p_e rfl (e_len rfl (by kernel_rfl)) (p_e rfl (e_lt rfl rfl) (p_end (hK12 _ ?_)))))); clear hK12 K12;refine pwp_seq_cond rfl fun K13 hK13 => ⟨fun hb14 => ?_, fun hb14 => ?_⟩
 ·have hb14R := hb14; try simp only [zz] at hb14
  obtain ⟨t, hx, hd, ht⟩ := get_lt (xs := xs) (i := k) (by omega);have hqt := hq t (List.mem_of_getElem? hx);refine pwp_skip (seq_norm (hK13 _ ?_)); clear hK13 K13;refine pwp_seq_block fun K15 hK15 => pwp_seq_plain rfl fun K16 hK16 => p_e rfl (e_move (v := .lit _ _ _) rfl) (p_mS rfl (p_call rfl (.cons inn_lit (.cons inn_sc .nil)) (CheckTaskC _ _ _ hx (by omega) (by omega)) (p_aS rfl (p_end (hK16 _ ?_))))); clear hK16 K16;refine pwp_seq_plain rfl fun K17 hK17 => p_mS rfl (p_e rfl (e_ne rfl rfl) (p_end (hK17 _ ?_))); clear hK17 K17;refine pwp_cond rfl (fun hb18 => ?_) (fun hb18 => ?_)
  ·have hb18R := hb18; try simp only [zz] at hb18
   refine pwp_seq_plain rfl fun K19 hK19 => p_mS rfl (p_aS rfl (p_end (hK19 _ ?_))); clear hK19 K19;refine pwp_ret (ret_block (ret_seq (ret_loop (ret_block (ret_seq (end1 (v := .sc _) rfl ?_))))));exact out_i (plan_hit (by simp only [lM] at *; omega) hinv hd rfl (by assumption))
  have hb18R := hb18; try simp only [zz] at hb18
  refine pwp_skip (block_norm (seq_norm (hK15 _ ?_))); clear hK15 K15;refine pwp_plain rfl fun K20 hK20 => p_mS rfl (p_e rfl (e_add rfl rfl (by first | omega | (simp only [lM]; omega))) (p_aS rfl (p_end (hK20 _ ?_)))); clear hK20 K20;exact loop_again (k + 1) (by show _ < _; omega) ⟨rfl, trivial⟩ ⟨rfl, trivial⟩ (by exact ⟨by show _ + 1 ≤ _; omega, by exact tasks_go hinv hd (by assumption)⟩)
 have hb14R := hb14; try simp only [zz] at hb14
 have hT := tasks_all hinv (by simp only [lM] at *; omega);refine pwp_exit (exit_seq ?_);clear hK13 K13;refine exit_loop (exit_here (seq_norm (hK7 _ ?_))); clear hK7 K7;refine pwp_seq_seq (pwp_seq_plain rfl fun K21 hK21 => p_e rfl (e_move (v := .lit _ _ _) rfl) (p_call rfl (.cons inn_lit .nil) (refOrder _ (by omega) (fun x hx => (hq x hx).1) (tasks_nd hT)) (p_e rfl (e_len rfl (by kernel_rfl)) (p_e rfl (e_move (v := .lit _ _ _) rfl) (p_e rfl (e_len rfl (by kernel_rfl)) (p_e rfl (e_lt rfl rfl) ?_))))));refine p_end (hK21 _ ?_); clear hK21 K21;refine pwp_seq_cond rfl fun K22 hK22 => ⟨fun hb23 => ?_, fun hb23 => ?_⟩
 ·have hb23R := hb23; try simp only [zz] at hb23
  refine pwp_seq_plain rfl fun K24 hK24 => p_aS rfl (p_end (hK24 _ ?_)); clear hK24 K24;refine pwp_ret (ret_seq (end1 (v := .sc _) rfl ?_));exact out_i (planE_24 (by simp only [lM] at *; omega) hT (by simp only [lM] at *; omega))
 have hb23R := hb23; try simp only [zz] at hb23
 refine pwp_skip (seq_norm (hK22 _ ?_)); clear hK22 K22;refine pwp_seq_plain rfl fun K25 hK25 => p_aS rfl (p_end (hK25 _ ?_)); clear hK25 K25;refine pwp_ret (end1 (v := .sc _) rfl ?_);exact out_i (planE_0 (by simp only [lM] at *; omega) hT (by simp only [lM] at *; omega))
end Go.Proofs.YtmlhhdiomijpfaaGreatDoor.E7
