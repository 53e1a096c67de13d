/- Defects, lists of numbers and of texts. No conditions. -/
import Derived.Test.YtdbpfhbppcpbbaaAgree
import Derived.Test.YtdbpfhbppcpbbaaOrcI
set_option linter.unusedSimpArgs false
set_option linter.unusedVariables false
set_option maxRecDepth 100000
namespace Go.Proofs.Ytdbpfhbppcpbbaa
open Go Go.Pv
/-! ### Open defects, told in two ways -/
theorem openL_num {p : ByteArray} {g al : Bool} {n : Int} : ∀ {l : List Ev}, n ∈ openL p g al l → ∃ e ∈ l, e.number = n
  | [], h => by cases h
  | e :: l, h => by
    unfold openL at h
    split at h
    · rcases List.mem_cons.1 h with h | h
      · exact ⟨e, by simp, h.symm⟩
      · obtain ⟨x, hx, h2⟩ := openL_num h
        exact ⟨x, by simp [hx], h2⟩
    · obtain ⟨x, hx, h2⟩ := openL_num h
      exact ⟨x, by simp [hx], h2⟩
theorem open_sup {p : ByteArray} {n : Int} : ∀ {l : List Ev}, n ∈ openL p false true l → ∃ b, n ∈ openL p b false l
  | [], h => by cases h
  | e :: l, h => by
    unfold openL at h
    split at h
    · rename_i hs
      rcases List.mem_cons.1 h with h | h
      · refine ⟨e.grave, ?_⟩
        unfold openL
        rw [if_pos ⟨⟨hs.1.1, .inr rfl⟩, hs.2⟩]
        exact List.mem_cons.2 (.inl h)
      · obtain ⟨b, hb⟩ := open_sup h
        refine ⟨b, ?_⟩
        unfold openL
        split
        · exact List.mem_cons_of_mem _ hb
        · exact hb
    · obtain ⟨b, hb⟩ := open_sup h
      refine ⟨b, ?_⟩
      unfold openL
      split
      · exact List.mem_cons_of_mem _ hb
      · exact hb
def upI (k : Nat) : List Int := (List.range k).map fun n : Nat => (n : Int)
theorem upI_succ (k : Nat) : upI (k + 1) = upI k ++ [(k : Int)] := by
  unfold upI; rw [List.range_succ, List.map_append]; rfl
theorem upI_mem {k : Nat} {n : Int} : n ∈ upI k ↔ 0 ≤ n ∧ n < (k : Int) := by
  unfold upI
  rw [List.mem_map]
  constructor
  · rintro ⟨m, hm, rfl⟩
    rw [List.mem_range] at hm; omega
  · rintro ⟨h1, h2⟩
    exact ⟨n.toNat, by rw [List.mem_range]; omega, by omega⟩
theorem upI_lt (k : Nat) : (upI k).Pairwise fun a b => a < b := by
  unfold upI
  rw [List.pairwise_map]
  exact List.pairwise_lt_range.imp fun h => by omega
theorem upI_len (k : Nat) : (upI k).length = k := by unfold upI; rw [List.length_map, List.length_range]
/-- The defects of the reference. -/
def defR (p : ByteArray) (U : List Ev) : List Int := (upI 10000).filter fun n => hasI (openL p false true U) n
/-- The defects of the program. -/
def defE (p : ByteArray) (day : Int) (evs : List Ev) : List Int := sortI ((stateE p day evs).defs.map (·.1))
theorem def_perm {p : ByteArray} {day : Int} {evs : List Ev} (hr : recE evs = 0) (hp : p ≠ ⟨#[]⟩) : ((stateE p day evs).defs.map (·.1)).Perm (defR p (uptoE evs day)) := by
  have ok := rec_ok hr
  obtain ⟨m, hm, hU⟩ := upto_take (day := day) evs ok.days
  have hst : stateE p day evs = stF p (uptoE evs day) := stO_fold evs St0 ok.days
  have I : InvS p (uptoE evs day) (stF p (uptoE evs day)) := by rw [hU]; exact inv_all hr hp m hm
  have hnum : ∀ e ∈ uptoE evs day, 0 ≤ e.number ∧ e.number ≤ 9999 := fun e he => by
    have := (ok.ev e (List.mem_filter.1 he).1).1
    unfold badEv at this; omega
  rw [hst]
  generalize stF p (uptoE evs day) = s at I
  generalize uptoE evs day = U at I hnum
  refine (List.perm_ext_iff_of_nodup I.nd ?_).2 fun n => ?_
  · unfold defR
    exact ((upI_lt _).imp fun h e => by omega).filter _
  · unfold defR
    rw [List.mem_filter, upI_mem, List.mem_map]
    constructor
    · rintro ⟨⟨k, b⟩, h1, rfl⟩
      have h2 := (I.opn k b).1 ((aGet_mem I.nd).2 h1)
      simp only [hasI, decide_eq_true_eq] at h2 ⊢
      have h3 := open_sub h2
      obtain ⟨e, he, h4⟩ := openL_num h3
      have h5 := hnum e he
      rw [h4] at h5
      exact ⟨⟨h5.1, by show k < (10000 : Int); omega⟩, h3⟩
    · rintro ⟨_, h1⟩
      simp only [hasI, decide_eq_true_eq] at h1
      obtain ⟨b, hb⟩ := open_sup h1
      exact ⟨(n, b), (aGet_mem I.nd).1 ((I.opn n b).2 (by simp [hasI, hb])), rfl⟩
theorem def_agree {p : ByteArray} {day : Int} {evs : List Ev} (hr : recE evs = 0) (hp : p ≠ ⟨#[]⟩) : defE p day evs = defR p (uptoE evs day) := by
  refine List.Perm.eq_of_pairwise (le := fun a b => a ≤ b) (fun a b _ _ h1 h2 => Int.le_antisymm h1 h2) (sortI_sorted _) ?_ ((sortI_perm _).trans (def_perm hr hp))
  unfold defR
  exact ((upI_lt _).imp fun h => Int.le_of_lt h).filter _
theorem defs_fit {p : ByteArray} {day : Int} {evs : List Ev} (hr : recE evs = 0) (hp : p ≠ ⟨#[]⟩) : (∀ e ∈ (stateE p day evs).defs, 0 ≤ e.1 ∧ e.1 ≤ 1000000) ∧ (stateE p day evs).defs.length ≤ 1000000 := by
  have h := def_perm (day := day) hr hp
  constructor
  · intro e he
    have h1 := h.mem_iff.1 (List.mem_map_of_mem (f := (·.1)) he)
    unfold defR at h1
    have h2 := upI_mem.1 (List.mem_filter.1 h1).1
    have h3 : e.1 < (10000 : Int) := h2.2
    have h4 : 0 ≤ e.1 := h2.1
    omega
  · have h1 := h.length_eq
    rw [List.length_map] at h1
    rw [h1]
    unfold defR
    have h2 := List.length_filter_le (fun n => hasI (openL p false true (uptoE evs day)) n) (upI 10000)
    rw [upI_len] at h2
    exact Nat.le_trans h2 (by omega)
theorem defR_len (p : ByteArray) (U : List Ev) : (defR p U).length ≤ 1000000 := by
  unfold defR
  have h2 := List.length_filter_le (fun n => hasI (openL p false true U) n) (upI 10000)
  rw [upI_len] at h2
  exact Nat.le_trans h2 (by omega)

theorem intsOf_kpi : ∀ (n : List (Int × Bool)), (∀ e ∈ n, 0 ≤ e.1 ∧ e.1 ≤ 1000000) → intsOf (entsOf kpi PV.bool n) = some (n.map (·.1))
  | [], _ => rfl
  | e :: n, h => by
    have ih := intsOf_kpi n fun x hx => h x (by simp [hx])
    have h1 := h e (by simp)
    show intsOf ((kpi e.1, PV.bool e.2) :: entsOf kpi PV.bool n) = _
    simp only [intsOf, kpi, ih]
    rw [decide_eq_true h1]
    rfl
theorem sortedPI {h : Heap} {c : Nat → Nat} {kb km : Key} {n : List (Int × Bool)} (hkb : h kb = some (.rows 1 [[.map km]])) (hm : MapAt h km (entsOf kpi PV.bool n)) (hs : (∀ e ∈ n, 0 ≤ e.1 ∧ e.1 ≤ 1000000) ∧ n.length ≤ 1000000) :
    HCallsR Try.prog 87 [.func (.func 111) [] [.ptr kb 1 0 0]] h c fun v _ _ => v = .lit false 1 ((sortI (n.map (·.1))).map ci) := by
  obtain ⟨bs, clk, hm, _⟩ := hm
  exact sortedI_core (kt := 3) (by kernel_rfl) (by kernel_rfl) sortedKeysI hkb ⟨bs, clk, hm⟩ (intsOf_kpi n hs.1) (by simpa [entsOf] using hs.2) rfl
def mkRI (h0 : Heap) (c0 : Nat → Nat) (v : PV) (h : Heap) : Prop := v = .func (.func 111) [] [.ptr (1, c0 1) 1 0 0] ∧ h (1, c0 1) = some (.rows 1 [[.map (10, 0)]]) ∧ ∀ a b, Nat.beq a 1 = false → h (a, b) = h0 (a, b)
def defT (evs : List Ev) (p : ByteArray) (day : Int) : List Int := if askE evs p day = 0 then defE p day evs else []
theorem ask_hp {evs : List Ev} {p : ByteArray} {day : Int} (h : askE evs p day = 0) : recE evs = 0 ∧ p ≠ ⟨#[]⟩ := ⟨(ask_inv h).1, (plat_mem.1 (hasS_iff.1 (ask_inv h).2.2)).1⟩

theorem frH88 : (inFrame Try.f88.ntmps (Try.f88.body.getD .skip) && Try.f88.results.toList.all (resScope Try.f88.ntmps)) = true := by kernel_rfl
theorem mapsKeysI (h0 : Heap) (c0 : Nat → Nat) : HCallsR Try.prog 88 [.map (10, 0)] h0 c0 (fun v h _ => mkRI h0 c0 v h) := by
  refine HCallsR.of_code Try.func88 rfl rfl (by kernel_rfl) mixed frH88 (by show _ ≤ 4; simp) ?_
  refine pwp_seq_plain rfl fun K1 hK1 => ?_
  refine p_new rfl (e_box1 rfl rfl) ⟨rfl, by decide⟩ ?_
  refine p_step rfl (e_assign (v := .sc _) rfl) trivial ?_
  refine p_end (hK1 _ ?_); clear hK1 K1
  refine pwp_seq_plain rfl fun K2 hK2 => ?_
  refine p_step rfl (e_mkf rfl) trivial ?_
  refine p_step rfl (e_assign (v := .func _ _ _) rfl) trivial ?_
  refine p_end (hK2 _ ?_); clear hK2 K2
  refine pwp_ret ?_
  refine end1 (v := .func _ _ _) rfl ?_
  exact ⟨rfl, (hset_self _ _ _), fun a b h1 => by simp only [hset_ne (key_ne h1)]⟩

theorem fr48 : (inFrame Try.f48.ntmps (Try.f48.body.getD .skip) && Try.f48.results.toList.all (resScope Try.f48.ntmps)) = true := by kernel_rfl
theorem Defects (evs : List Ev) (p : ByteArray) (day : Int) (hl : evs.length ≤ 405) : PCalls Try.prog 48 [.lit true 6 (evs.map Ev.enc), .str p, .int day] (.tup [.lit false 1 ((defT evs p day).map ci), .int (askE evs p day)]) := by
  refine PCalls.of_code Try.func48 rfl rfl (by kernel_rfl) mixed fr48 (by show _ ≤ 23; simp) (tup_li _ _) ?_
  refine pwp_seq_plain rfl fun K1 hK1 => ?_
  refine p_step rfl (e_assign (v := .nil) rfl) trivial ?_
  refine p_step rfl (e_assign (v := .sc _) rfl) trivial ?_
  refine p_end (hK1 _ ?_); clear hK1 K1
  refine pwp_seq_seq ?_
  refine pwp_seq_plain rfl fun K2 hK2 => ?_
  refine p_step rfl (e_move (v := .lit _ _ _) rfl) trivial ?_
  refine p_step rfl (e_move (v := .sc _) rfl) trivial ?_
  refine p_step rfl (e_move (v := .sc _) rfl) trivial ?_
  refine p_call rfl (.cons inn_lit (.cons inn_sc (.cons inn_sc .nil))) (asked _ _ _ hl) ?_
  refine p_step rfl (e_assign (v := .sc _) rfl) trivial ?_
  refine p_end (hK2 _ ?_); clear hK2 K2
  refine pwp_seq_seq ?_
  refine pwp_seq_plain rfl fun K3 hK3 => ?_
  refine p_step rfl (e_move (v := .sc _) rfl) trivial ?_
  refine p_step rfl (e_ne rfl rfl) trivial ?_
  refine p_end (hK3 _ ?_); clear hK3 K3
  refine pwp_seq_cond rfl fun K4 hK4 => ⟨fun hb5 => ?_, fun hb5 => ?_⟩
  · have hb5R := hb5; (try simp only [z1, z2, z3, z4, z5, z6, ne_eq, z7, z8, z9, z10, z11, z12] at hb5); (try (have hask : askE evs p day = 0 := hb5))
    refine pwp_seq_plain rfl fun K6 hK6 => ?_
    refine p_step rfl (e_move (v := .sc _) rfl) trivial ?_
    refine p_step rfl (e_assign (v := .nil) rfl) trivial ?_
    refine p_step rfl (e_assign (v := .sc _) rfl) trivial ?_
    refine p_end (hK6 _ ?_); clear hK6 K6
    refine pwp_ret ?_
    refine ret_seq ?_
    refine end2 (v := .nil) (w := .sc _) rfl rfl ?_
    first
      | exact out_2 (by rw [defT, if_neg (by assumption)]; exact out_nil) (out_i rfl)
      | exact out_2 (by rw [defT, if_pos hask]; exact .clean (clean_rows fun a p hp => by simp [ci] at hp; subst hp; exact .sc _)) (out_i (by symm; assumption))
  · have hb5R := hb5; (try simp only [z1, z2, z3, z4, z5, z6, ne_eq, z7, z8, z9, z10, z11, z12] at hb5); (try (have hask : askE evs p day = 0 := hb5))
    refine pwp_skip ?_
    refine seq_norm (hK4 _ ?_); clear hK4 K4
    refine pwp_seq_plain rfl fun K7 hK7 => ?_
    refine p_step rfl (e_move (v := .lit _ _ _) rfl) trivial ?_
    refine p_step rfl (e_move (v := .sc _) rfl) trivial ?_
    refine p_step rfl (e_move (v := .sc _) rfl) trivial ?_
    refine p_hcall rfl (stateOf evs p day hl) fun v8 h9 c10 hR11 => ?_
    obtain ⟨rfl, hm12⟩ := hR11
    refine p_step rfl (e_field (v := .map _) (pl := [(0, 1, false), (1, 1, false), (2, 1, false), (3, 1, false), (4, 1, false)]) rfl (by kernel_rfl) (by kernel_rfl) (by decide) (by show _ ≤ 5; decide) rfl) trivial ?_
    refine p_hcall rfl (mapsKeysI _ _) fun v13 h14 c15 hR16 => ?_
    obtain ⟨rfl, hb17, hf18⟩ := hR16
    refine p_hcall rfl (sortedPI hb17 (MapAt.keep hm12 (hf18 10 _ rfl)) (defs_fit (ask_hp hask).1 (ask_hp hask).2)) fun v19 h20 c21 hR22 => ?_
    obtain rfl := hR22
    refine p_step rfl (e_assign (v := .lit _ _ _) rfl) trivial ?_
    refine p_step rfl (e_assign (v := .sc _) rfl) trivial ?_
    refine p_end (hK7 _ ?_); clear hK7 K7
    refine pwp_ret ?_
    refine end2 (v := .lit _ _ _) (w := .sc _) rfl rfl ?_
    first
      | exact out_2 (by rw [defT, if_neg (by assumption)]; exact out_nil) (out_i rfl)
      | exact out_2 (by rw [defT, if_pos hask]; exact .clean (clean_rows fun a p hp => by simp [ci] at hp; subst hp; exact .sc _)) (out_i (by symm; assumption))


theorem ci_inj' {a b : Int} : ci a = ci b ↔ a = b := by simp [ci]

theorem fr50 : (inFrame Try.f50.ntmps (Try.f50.body.getD .skip) && Try.f50.results.toList.all (resScope Try.f50.ntmps)) = true := by kernel_rfl
theorem Ints (xs ys : List Int) (hl : xs.length ≤ 1000000) : PCalls Try.prog 50 [.lit true 1 (xs.map ci), .lit true 1 (ys.map ci)] (.bool (decide (xs = ys))) := by
  refine PCalls.of_code Try.func50 rfl rfl (by kernel_rfl) mixed fr50 (by show _ ≤ 26; simp) (.sc _) ?_
  refine pwp_seq_plain rfl fun K1 hK1 => ?_
  refine p_step rfl (e_assign (v := .sc _) rfl) trivial ?_
  refine p_end (hK1 _ ?_); clear hK1 K1
  refine pwp_seq_seq ?_
  refine pwp_seq_plain rfl fun K2 hK2 => ?_
  refine p_step rfl (e_move (v := .lit _ _ _) rfl) trivial ?_
  refine p_step rfl (e_len rfl (by kernel_rfl)) trivial ?_
  refine p_step rfl (e_move (v := .lit _ _ _) rfl) trivial ?_
  refine p_step rfl (e_len rfl (by kernel_rfl)) trivial ?_
  refine p_step rfl (e_ne rfl rfl) trivial ?_
  refine p_end (hK2 _ ?_); clear hK2 K2
  refine pwp_seq_cond rfl fun K3 hK3 => ⟨fun hb4 => ?_, fun hb4 => ?_⟩
  · have hb4R := hb4; try simp only [z1, z2, z3, z4, z5, z6, ne_eq, z7, z8, z9, z10, z11, z12] at hb4
    refine pwp_seq_plain rfl fun K5 hK5 => ?_
    refine p_step rfl (e_assign (v := .sc _) rfl) trivial ?_
    refine p_end (hK5 _ ?_); clear hK5 K5
    refine pwp_ret ?_
    refine ret_seq ?_
    refine end1 (v := .sc _) rfl ?_
    first
      | exact out_b (decide_eq_false fun h => by subst h; omega).symm
      | exact out_b (decide_eq_false (same_bad hx hy (by assumption))).symm
      | exact out_b (decide_eq_true (same_end (by omega) he)).symm
  · have hb4R := hb4; try simp only [z1, z2, z3, z4, z5, z6, ne_eq, z7, z8, z9, z10, z11, z12] at hb4
    refine pwp_skip ?_
    refine seq_norm (hK3 _ ?_); clear hK3 K3
    refine pwp_seq_seq ?_
    refine pwp_seq_plain rfl fun K6 hK6 => ?_
    refine p_step rfl (e_assign (v := .sc _) rfl) trivial ?_
    refine p_end (hK6 _ ?_); clear hK6 K6
    refine pwp_seq_block fun K7 hK7 => ?_
    refine pwp_loopR (α := Nat) [0, 1] (fun (k : Nat) => [(5, .int (k))]) (fun (k : Nat) (h : Heap) (_ : Nat → Nat) => ((k) ≤ xs.length) ∧ (xs.take (k) = ys.take (k))) (fun (k : Nat) => xs.length - (k)) (0) (by exact ⟨rfl, trivial⟩) (by exact ⟨by exact Nat.zero_le _, by exact rfl⟩) fun k r8 h9 c10 hj11 => ?_
    obtain ⟨hk, he⟩ := hj11
    try dsimp only at hk
    try dsimp only at he
    show pwp _ _ (loopQ _ _ _) ⟨sets (mix _ _ _) [(5, .int k)], _, _⟩
    refine pwp_seq_seq ?_
    refine pwp_seq_plain rfl fun K12 hK12 => ?_
    refine p_step rfl (e_move (v := .sc _) rfl) trivial ?_
    refine p_step rfl (e_move (v := .lit _ _ _) rfl) trivial ?_
    refine p_step rfl (e_len rfl (by kernel_rfl)) trivial ?_
    refine p_step rfl (e_lt rfl rfl) trivial ?_
    refine p_end (hK12 _ ?_); clear hK12 K12
    refine pwp_seq_cond rfl fun K13 hK13 => ⟨fun hb14 => ?_, fun hb14 => ?_⟩
    · have hb14R := hb14; try simp only [z1, z2, z3, z4, z5, z6, ne_eq, z7, z8, z9, z10, z11, z12] at hb14
      obtain ⟨x, hx, hd, ht⟩ := get_lt (xs := xs) (i := k) (by omega)
      obtain ⟨y, hy, hd2, ht2⟩ := get_lt (xs := ys) (i := k) (by omega)
      refine pwp_skip ?_
      refine seq_norm (hK13 _ ?_); clear hK13 K13
      refine pwp_seq_block fun K15 hK15 => ?_
      refine pwp_seq_gops rfl fun K16 hK16 => ?_
      refine g_begin ?_
      refine g_step rfl rfl rfl rfl (e_move (v := .lit _ _ _) rfl) trivial ?_
      refine g_step rfl rfl rfl rfl (e_move (v := .sc _) rfl) trivial ?_
      refine g_step rfl rfl rfl rfl (e_ixa rfl rfl (by kernel_rfl) (by kernel_rfl) (by simp only [List.length_map]; omega)) trivial ?_
      refine g_step rfl rfl rfl rfl (e_load (v := .sc _) rfl (by kernel_rfl) (by kernel_rfl) (by kernel_rfl) (by simp only [List.length_map]; omega) (by decide) ((cell_map hx _).trans rfl)) trivial ?_
      refine g_step rfl rfl rfl rfl (e_move (v := .lit _ _ _) rfl) trivial ?_
      refine g_step rfl rfl rfl rfl (e_move (v := .sc _) rfl) trivial ?_
      refine g_step rfl rfl rfl rfl (e_ixa rfl rfl (by kernel_rfl) (by kernel_rfl) (by simp only [List.length_map]; omega)) trivial ?_
      refine g_step rfl rfl rfl rfl (e_load (v := .sc _) rfl (by kernel_rfl) (by kernel_rfl) (by kernel_rfl) (by simp only [List.length_map]; omega) (by decide) ((cell_map hy _).trans rfl)) trivial ?_
      refine g_step rfl rfl rfl rfl (e_ne rfl rfl) trivial ?_
      refine g_end (ds := []) (by kernel_rfl) rfl (hK16 _ ?_); clear hK16 K16
      refine pwp_cond rfl (fun hb17 => ?_) (fun hb17 => ?_)
      · have hb17R := hb17; try simp only [z1, z2, z3, z4, z5, z6, ne_eq, z7, z8, z9, z10, z11, z12] at hb17
        refine pwp_seq_plain rfl fun K18 hK18 => ?_
        refine p_step rfl (e_assign (v := .sc _) rfl) trivial ?_
        refine p_end (hK18 _ ?_); clear hK18 K18
        refine pwp_ret ?_
        refine ret_block ?_
        refine ret_seq ?_
        refine ret_loop ?_
        refine ret_block ?_
        refine ret_seq ?_
        refine end1 (v := .sc _) rfl ?_
        first
          | exact out_b (decide_eq_false fun h => by subst h; omega).symm
          | exact out_b (decide_eq_false (same_bad hx hy (by assumption))).symm
          | exact out_b (decide_eq_true (same_end (by omega) he)).symm
      · have hb17R := hb17; try simp only [z1, z2, z3, z4, z5, z6, ne_eq, z7, z8, z9, z10, z11, z12] at hb17
        refine pwp_skip ?_
        refine block_norm ?_
        refine seq_norm (hK15 _ ?_); clear hK15 K15
        refine pwp_plain rfl fun K19 hK19 => ?_
        refine p_step rfl (e_move (v := .sc _) rfl) trivial ?_
        refine p_step rfl (e_add rfl rfl (by omega)) trivial ?_
        refine p_step rfl (e_assign (v := .sc _) rfl) trivial ?_
        refine p_end (hK19 _ ?_); clear hK19 K19
        exact loop_again (k + 1) (by show _ < _; omega) ⟨rfl, rfl, trivial⟩ ⟨rfl, trivial⟩ (by exact ⟨by show _ + 1 ≤ _; omega, by rw [ht, ht2, he]; congr 2⟩)
    · have hb14R := hb14; try simp only [z1, z2, z3, z4, z5, z6, ne_eq, z7, z8, z9, z10, z11, z12] at hb14
      obtain rfl : k = xs.length := by omega
      refine pwp_exit ?_
      refine exit_seq ?_
      clear hK13 K13
      refine exit_loop ?_
      refine exit_here ?_
      refine seq_norm (hK7 _ ?_); clear hK7 K7
      refine pwp_seq_plain rfl fun K20 hK20 => ?_
      refine p_step rfl (e_assign (v := .sc _) rfl) trivial ?_
      refine p_end (hK20 _ ?_); clear hK20 K20
      refine pwp_ret ?_
      refine end1 (v := .sc _) rfl ?_
      first
        | exact out_b (decide_eq_false fun h => by subst h; omega).symm
        | exact out_b (decide_eq_false (same_bad hx hy (by assumption))).symm
        | exact out_b (decide_eq_true (same_end (by omega) he)).symm

theorem fr60 : (inFrame Try.f60.ntmps (Try.f60.body.getD .skip) && Try.f60.results.toList.all (resScope Try.f60.ntmps)) = true := by kernel_rfl
theorem Texts (xs ys : List ByteArray) (hl : xs.length ≤ 1000000) : PCalls Try.prog 60 [.lit true 1 (xs.map cb), .lit true 1 (ys.map cb)] (.bool (decide (xs = ys))) := by
  refine PCalls.of_code Try.func60 rfl rfl (by kernel_rfl) mixed fr60 (by show _ ≤ 26; simp) (.sc _) ?_
  refine pwp_seq_plain rfl fun K1 hK1 => ?_
  refine p_step rfl (e_assign (v := .sc _) rfl) trivial ?_
  refine p_end (hK1 _ ?_); clear hK1 K1
  refine pwp_seq_seq ?_
  refine pwp_seq_plain rfl fun K2 hK2 => ?_
  refine p_step rfl (e_move (v := .lit _ _ _) rfl) trivial ?_
  refine p_step rfl (e_len rfl (by kernel_rfl)) trivial ?_
  refine p_step rfl (e_move (v := .lit _ _ _) rfl) trivial ?_
  refine p_step rfl (e_len rfl (by kernel_rfl)) trivial ?_
  refine p_step rfl (e_ne rfl rfl) trivial ?_
  refine p_end (hK2 _ ?_); clear hK2 K2
  refine pwp_seq_cond rfl fun K3 hK3 => ⟨fun hb4 => ?_, fun hb4 => ?_⟩
  · have hb4R := hb4; try simp only [z1, z2, z3, z4, z5, z6, ne_eq, z7, z8, z9, z10, z11, z12] at hb4
    refine pwp_seq_plain rfl fun K5 hK5 => ?_
    refine p_step rfl (e_assign (v := .sc _) rfl) trivial ?_
    refine p_end (hK5 _ ?_); clear hK5 K5
    refine pwp_ret ?_
    refine ret_seq ?_
    refine end1 (v := .sc _) rfl ?_
    first
      | exact out_b (decide_eq_false fun h => by subst h; omega).symm
      | exact out_b (decide_eq_false (same_bad hx hy (by assumption))).symm
      | exact out_b (decide_eq_true (same_end (by omega) he)).symm
  · have hb4R := hb4; try simp only [z1, z2, z3, z4, z5, z6, ne_eq, z7, z8, z9, z10, z11, z12] at hb4
    refine pwp_skip ?_
    refine seq_norm (hK3 _ ?_); clear hK3 K3
    refine pwp_seq_seq ?_
    refine pwp_seq_plain rfl fun K6 hK6 => ?_
    refine p_step rfl (e_assign (v := .sc _) rfl) trivial ?_
    refine p_end (hK6 _ ?_); clear hK6 K6
    refine pwp_seq_block fun K7 hK7 => ?_
    refine pwp_loopR (α := Nat) [0, 1] (fun (k : Nat) => [(5, .int (k))]) (fun (k : Nat) (h : Heap) (_ : Nat → Nat) => ((k) ≤ xs.length) ∧ (xs.take (k) = ys.take (k))) (fun (k : Nat) => xs.length - (k)) (0) (by exact ⟨rfl, trivial⟩) (by exact ⟨by exact Nat.zero_le _, by exact rfl⟩) fun k r8 h9 c10 hj11 => ?_
    obtain ⟨hk, he⟩ := hj11
    try dsimp only at hk
    try dsimp only at he
    show pwp _ _ (loopQ _ _ _) ⟨sets (mix _ _ _) [(5, .int k)], _, _⟩
    refine pwp_seq_seq ?_
    refine pwp_seq_plain rfl fun K12 hK12 => ?_
    refine p_step rfl (e_move (v := .sc _) rfl) trivial ?_
    refine p_step rfl (e_move (v := .lit _ _ _) rfl) trivial ?_
    refine p_step rfl (e_len rfl (by kernel_rfl)) trivial ?_
    refine p_step rfl (e_lt rfl rfl) trivial ?_
    refine p_end (hK12 _ ?_); clear hK12 K12
    refine pwp_seq_cond rfl fun K13 hK13 => ⟨fun hb14 => ?_, fun hb14 => ?_⟩
    · have hb14R := hb14; try simp only [z1, z2, z3, z4, z5, z6, ne_eq, z7, z8, z9, z10, z11, z12] at hb14
      obtain ⟨x, hx, hd, ht⟩ := get_lt (xs := xs) (i := k) (by omega)
      obtain ⟨y, hy, hd2, ht2⟩ := get_lt (xs := ys) (i := k) (by omega)
      refine pwp_skip ?_
      refine seq_norm (hK13 _ ?_); clear hK13 K13
      refine pwp_seq_block fun K15 hK15 => ?_
      refine pwp_seq_gops rfl fun K16 hK16 => ?_
      refine g_begin ?_
      refine g_step rfl rfl rfl rfl (e_move (v := .lit _ _ _) rfl) trivial ?_
      refine g_step rfl rfl rfl rfl (e_move (v := .sc _) rfl) trivial ?_
      refine g_step rfl rfl rfl rfl (e_ixa rfl rfl (by kernel_rfl) (by kernel_rfl) (by simp only [List.length_map]; omega)) trivial ?_
      refine g_step rfl rfl rfl rfl (e_load (v := .sc _) rfl (by kernel_rfl) (by kernel_rfl) (by kernel_rfl) (by simp only [List.length_map]; omega) (by decide) ((cell_map hx _).trans rfl)) trivial ?_
      refine g_step rfl rfl rfl rfl (e_move (v := .lit _ _ _) rfl) trivial ?_
      refine g_step rfl rfl rfl rfl (e_move (v := .sc _) rfl) trivial ?_
      refine g_step rfl rfl rfl rfl (e_ixa rfl rfl (by kernel_rfl) (by kernel_rfl) (by simp only [List.length_map]; omega)) trivial ?_
      refine g_step rfl rfl rfl rfl (e_load (v := .sc _) rfl (by kernel_rfl) (by kernel_rfl) (by kernel_rfl) (by simp only [List.length_map]; omega) (by decide) ((cell_map hy _).trans rfl)) trivial ?_
      refine g_step rfl rfl rfl rfl (e_sne rfl rfl) trivial ?_
      refine g_end (ds := []) (by kernel_rfl) rfl (hK16 _ ?_); clear hK16 K16
      refine pwp_cond rfl (fun hb17 => ?_) (fun hb17 => ?_)
      · have hb17R := hb17; try simp only [z1, z2, z3, z4, z5, z6, ne_eq, z7, z8, z9, z10, z11, z12] at hb17
        refine pwp_seq_plain rfl fun K18 hK18 => ?_
        refine p_step rfl (e_assign (v := .sc _) rfl) trivial ?_
        refine p_end (hK18 _ ?_); clear hK18 K18
        refine pwp_ret ?_
        refine ret_block ?_
        refine ret_seq ?_
        refine ret_loop ?_
        refine ret_block ?_
        refine ret_seq ?_
        refine end1 (v := .sc _) rfl ?_
        first
          | exact out_b (decide_eq_false fun h => by subst h; omega).symm
          | exact out_b (decide_eq_false (same_bad hx hy (by assumption))).symm
          | exact out_b (decide_eq_true (same_end (by omega) he)).symm
      · have hb17R := hb17; try simp only [z1, z2, z3, z4, z5, z6, ne_eq, z7, z8, z9, z10, z11, z12] at hb17
        refine pwp_skip ?_
        refine block_norm ?_
        refine seq_norm (hK15 _ ?_); clear hK15 K15
        refine pwp_plain rfl fun K19 hK19 => ?_
        refine p_step rfl (e_move (v := .sc _) rfl) trivial ?_
        refine p_step rfl (e_add rfl rfl (by omega)) trivial ?_
        refine p_step rfl (e_assign (v := .sc _) rfl) trivial ?_
        refine p_end (hK19 _ ?_); clear hK19 K19
        exact loop_again (k + 1) (by show _ < _; omega) ⟨rfl, rfl, trivial⟩ ⟨rfl, trivial⟩ (by exact ⟨by show _ + 1 ≤ _; omega, by rw [ht, ht2, he]; congr 2⟩)
    · have hb14R := hb14; try simp only [z1, z2, z3, z4, z5, z6, ne_eq, z7, z8, z9, z10, z11, z12] at hb14
      obtain rfl : k = xs.length := by omega
      refine pwp_exit ?_
      refine exit_seq ?_
      clear hK13 K13
      refine exit_loop ?_
      refine exit_here ?_
      refine seq_norm (hK7 _ ?_); clear hK7 K7
      refine pwp_seq_plain rfl fun K20 hK20 => ?_
      refine p_step rfl (e_assign (v := .sc _) rfl) trivial ?_
      refine p_end (hK20 _ ?_); clear hK20 K20
      refine pwp_ret ?_
      refine end1 (v := .sc _) rfl ?_
      first
        | exact out_b (decide_eq_false fun h => by subst h; omega).symm
        | exact out_b (decide_eq_false (same_bad hx hy (by assumption))).symm
        | exact out_b (decide_eq_true (same_end (by omega) he)).symm


theorem up_in {acc : List Int} {k : Nat} {f : Int → Bool} (ha : acc = (upI k).filter f) (h : f k = true) : acc ++ [(k : Int)] = (upI (k + 1)).filter f := by
  rw [upI_succ, List.filter_append, ← ha]; simp [h]
theorem up_out {acc : List Int} {k : Nat} {f : Int → Bool} (ha : acc = (upI k).filter f) (h : f k = false) : acc = (upI (k + 1)).filter f := by
  rw [upI_succ, List.filter_append, ← ha]; simp [h]

theorem fr52 : (inFrame Try.f52.ntmps (Try.f52.body.getD .skip) && Try.f52.results.toList.all (resScope Try.f52.ntmps)) = true := by kernel_rfl
theorem DefectsR (evs : List Ev) (p : ByteArray) (day : Int) (hl : evs.length ≤ 405) : PCalls Try.prog 52 [.lit true 6 (evs.map Ev.enc), .str p, .int day] (.lit false 1 ((defR p (uptoE evs day)).map ci)) := by
  refine PCalls.of_code Try.func52 rfl rfl (by kernel_rfl) mixed fr52 (by show _ ≤ 28; simp) (.lit _ _ _ fun row hr => pure_map ci_pure row hr) ?_
  refine pwp_seq_plain rfl fun K1 hK1 => ?_
  refine p_step rfl (e_assign (v := .nil) rfl) trivial ?_
  refine p_end (hK1 _ ?_); clear hK1 K1
  refine pwp_seq_plain rfl fun K2 hK2 => ?_
  refine p_step rfl (e_move (v := .lit _ _ _) rfl) trivial ?_
  refine p_step rfl (e_move (v := .sc _) rfl) trivial ?_
  refine p_call rfl (.cons inn_lit (.cons inn_sc .nil)) (Upto _ _ (by omega)) ?_
  refine p_step rfl (e_assign (v := .lit _ _ _) rfl) trivial ?_
  refine p_end (hK2 _ ?_); clear hK2 K2
  refine pwp_seq_plain rfl fun K3 hK3 => ?_
  refine p_step rfl (e_move (v := .lit _ _ _) rfl) trivial ?_
  refine p_step rfl (e_move (v := .sc _) rfl) trivial ?_
  refine p_call rfl (.cons inn_lit (.cons inn_sc (.cons inn_sc (.cons inn_sc .nil)))) (opened _ _ _ _ (Nat.le_trans (upto_len _ _) hl)) ?_
  refine p_step rfl (e_assign (v := .lit _ _ _) rfl) trivial ?_
  refine p_end (hK3 _ ?_); clear hK3 K3
  refine pwp_seq_plain rfl fun K4 hK4 => ?_
  refine p_step rfl (e_assign (v := .nil) rfl) trivial ?_
  refine p_end (hK4 _ ?_); clear hK4 K4
  refine pwp_seq_seq ?_
  refine pwp_seq_plain rfl fun K5 hK5 => ?_
  refine p_step rfl (e_assign (v := .sc _) rfl) trivial ?_
  refine p_end (hK5 _ ?_); clear hK5 K5
  refine pwp_seq_block fun K6 hK6 => ?_
  refine pwp_loopR (α := Nat × (List Int) × PV) [7] (fun (a7 : Nat × (List Int) × PV) => [(8, (a7.2.2)), (9, .int (a7.1))]) (fun (a7 : Nat × (List Int) × PV) (h : Heap) (_ : Nat → Nat) => ((a7.1) ≤ 10000) ∧ ((a7.2.1) = (upI (a7.1)).filter (fun n => hasI (openL p false true (uptoE evs day)) n)) ∧ ((a7.2.1).length ≤ (a7.1)) ∧ (SliceAt h 26 (a7.2.2) 1 ((a7.2.1).map ci))) (fun (a7 : Nat × (List Int) × PV) => 10000 - (a7.1)) (0, [], .nil) (by exact ⟨rfl, rfl, trivial⟩) (by exact ⟨by exact Nat.zero_le _, by (simp [upI]), by exact Nat.le_refl _, .nil⟩) fun a7 r8 h9 c10 hj11 => ?_
  obtain ⟨k, acc, v⟩ := a7
  obtain ⟨hk, hinv, hlen, hihj11_0⟩ := hj11
  try dsimp only at hk
  try dsimp only at hinv
  try dsimp only at hlen
  try dsimp only at hihj11_0
  show pwp _ _ (loopQ _ _ _) ⟨sets (mix _ _ _) [(8, v), (9, .int k)], _, _⟩
  refine pwp_seq_seq ?_
  refine pwp_seq_plain rfl fun K12 hK12 => ?_
  refine p_step rfl (e_move (v := .sc _) rfl) trivial ?_
  refine p_step rfl (e_le rfl rfl) trivial ?_
  refine p_end (hK12 _ ?_); clear hK12 K12
  refine pwp_seq_cond rfl fun K13 hK13 => ⟨fun hb14 => ?_, fun hb14 => ?_⟩
  · have hb14R := hb14; try simp only [z1, z2, z3, z4, z5, z6, ne_eq, z7, z8, z9, z10, z11, z12] at hb14
    refine pwp_skip ?_
    refine seq_norm (hK13 _ ?_); clear hK13 K13
    refine pwp_seq_block fun K15 hK15 => ?_
    refine pwp_seq_plain rfl fun K16 hK16 => ?_
    refine p_step rfl (e_move (v := .lit _ _ _) rfl) trivial ?_
    refine p_step rfl (e_move (v := .sc _) rfl) trivial ?_
    refine p_call rfl (.cons inn_lit (.cons inn_sc .nil)) (Has _ _ (by have := openL_len p false true (uptoE evs day); have := upto_len evs day; omega)) ?_
    refine p_end (hK16 _ ?_); clear hK16 K16
    refine pwp_cond rfl (fun hb17 => ?_) (fun hb17 => ?_)
    · have hb17R := hb17; try simp only [z1, z2, z3, z4, z5, z6, ne_eq, z7, z8, z9, z10, z11, z12] at hb17
      refine pwp_plain rfl fun K18 hK18 => ?_
      refine p_step rfl (e_move (v := _) rfl) trivial ?_
      refine p_step rfl (e_move (v := .sc _) rfl) trivial ?_
      refine p_new rfl (e_bslice (rows := [ci (k : Int)]) (zs := [.int 0]) (sz := 1) (by kernel_rfl) (by kernel_rfl) rfl (by kernel_rfl) (by decide) rfl rfl (by exact ⟨by decide, rfl, rfl, trivial⟩) rfl) trivial ?_
      refine p_app rfl rfl rfl (hihj11_0.keep fun _ => (hset_ne (key_ne rfl)).trans (rfl)) (src_ref (hset_self _ _ _) rfl) (by kernel_rfl) (by simp only [List.length_append, List.length_map, List.length_nil, List.length_cons]; omega) fun v19 h20 c21 hs22 hf23 => ?_
      have ho24 := (hf23 (25, _) (key_ne rfl) (fun _ _ => key_ne rfl)).trans (hset_self _ _ _)
      refine p_step rfl (e_assign (v := _) rfl) trivial ?_
      refine p_end (hK18 _ ?_); clear hK18 K18
      refine block_norm ?_
      refine seq_norm (hK15 _ ?_); clear hK15 K15
      refine pwp_plain rfl fun K25 hK25 => ?_
      refine p_step rfl (e_move (v := .sc _) rfl) trivial ?_
      refine p_step rfl (e_add rfl rfl (by omega)) trivial ?_
      refine p_step rfl (e_assign (v := .sc _) rfl) trivial ?_
      refine p_end (hK25 _ ?_); clear hK25 K25
      exact loop_again ((k + 1, (acc ++ [(k : Int)]), v19)) (by show _ < _; simp only; omega) ⟨rfl, trivial⟩ ⟨rfl, rfl, trivial⟩ (by exact ⟨by show _ + 1 ≤ _; omega, by first | exact up_in (f := fun n => hasI (openL p false true (uptoE evs day)) n) hinv (by assumption) | exact up_out (f := fun n => hasI (openL p false true (uptoE evs day)) n) hinv (by assumption), by show List.length _ ≤ _ + 1; first | omega | (simp only [List.length_append, List.length_cons, List.length_nil]; omega), (SliceAt.to hs22 (by simp [ci]))⟩)
    · have hb17R := hb17; try simp only [z1, z2, z3, z4, z5, z6, ne_eq, z7, z8, z9, z10, z11, z12] at hb17
      refine pwp_skip ?_
      refine block_norm ?_
      refine seq_norm (hK15 _ ?_); clear hK15 K15
      refine pwp_plain rfl fun K26 hK26 => ?_
      refine p_step rfl (e_move (v := .sc _) rfl) trivial ?_
      refine p_step rfl (e_add rfl rfl (by omega)) trivial ?_
      refine p_step rfl (e_assign (v := .sc _) rfl) trivial ?_
      refine p_end (hK26 _ ?_); clear hK26 K26
      exact loop_again ((k + 1, acc, v)) (by show _ < _; simp only; omega) ⟨rfl, trivial⟩ ⟨rfl, rfl, trivial⟩ (by exact ⟨by show _ + 1 ≤ _; omega, by first | exact up_in (f := fun n => hasI (openL p false true (uptoE evs day)) n) hinv (by assumption) | exact up_out (f := fun n => hasI (openL p false true (uptoE evs day)) n) hinv (by assumption), by show List.length _ ≤ _ + 1; first | omega | (simp only [List.length_append, List.length_cons, List.length_nil]; omega), (SliceAt.to hihj11_0 (by simp [ci]))⟩)
  · have hb14R := hb14; try simp only [z1, z2, z3, z4, z5, z6, ne_eq, z7, z8, z9, z10, z11, z12] at hb14
    obtain rfl : k = 10000 := by omega
    refine pwp_exit ?_
    refine exit_seq ?_
    clear hK13 K13
    refine exit_loop ?_
    refine exit_here ?_
    refine seq_norm (hK6 _ ?_); clear hK6 K6
    refine pwp_seq_plain rfl fun K27 hK27 => ?_
    refine p_step rfl (e_move (v := _) rfl) trivial ?_
    refine p_step rfl (e_assign (v := _) rfl) trivial ?_
    refine p_end (hK27 _ ?_); clear hK27 K27
    refine pwp_ret ?_
    refine end1 (v := _) rfl ?_
    rw [defR, ← hinv]
    exact out_slice (by assumption) rfl (fun _ => rfl) (fun a q hq => by simp [ci] at hq; subst hq; exact ⟨.sc _, rfl⟩)

end Go.Proofs.Ytdbpfhbppcpbbaa
