/- The platforms of the reference. No conditions. -/
import Derived.Test.YtdbpfhbppcpbbaaAgree
set_option linter.unusedSimpArgs false
set_option linter.unusedVariables false
set_option maxRecDepth 100000
namespace Go.Proofs.Ytdbpfhbppcpbbaa
open Go Go.Pv
/-! ### Texts in order -/
def ltB (a b : ByteArray) : Bool := Op.bytesLess a.toList b.toList
theorem ltB_iff {a b : ByteArray} : ltB a b = true ↔ a.data.toList < b.data.toList := by
  have h : ∀ x y : List UInt8, Op.bytesLess x y = decide (x < y) := by
    intro x
    induction x with
    | nil => intro y; cases y <;> simp [Op.bytesLess]
    | cons a x ih =>
      intro y
      cases y with
      | nil => simp [Op.bytesLess]
      | cons b y =>
        rw [Op.bytesLess, ih y]
        simp only [List.cons_lt_cons_iff]
        by_cases h1 : a < b <;> by_cases h2 : a = b <;> by_cases h3 : x < y <;> simp [h1, h2, h3]
  unfold ltB
  rw [h, decide_eq_true_eq, Lib.toList_data, Lib.toList_data]
theorem ba_ext {a b : ByteArray} (h : a.data.toList = b.data.toList) : a = b := by
  cases a; cases b
  simp only at h
  congr 1
  exact Array.toList_inj.1 h
theorem ltB_trans {a b c : ByteArray} (h1 : ltB a b = true) (h2 : ltB b c = true) : ltB a c = true := by
  rw [ltB_iff] at *; exact List.lt_trans h1 h2
theorem ltB_irr {a : ByteArray} (h : ltB a a = true) : False := by
  rw [ltB_iff] at h; exact List.lt_irrefl _ h
theorem ltB_of {a b : ByteArray} (h : ltB a b = false) (hn : ¬ a = b) : ltB b a = true := by
  rw [ltB_iff]
  have h' : ¬ a.data.toList < b.data.toList := fun hc => by rw [ltB_iff.2 hc] at h; cases h
  rcases Std.lt_trichotomy a.data.toList b.data.toList with h1 | h1 | h1
  · exact absurd h1 h'
  · exact absurd (ba_ext h1) hn
  · exact h1
def AscB (xs : List ByteArray) : Prop := xs.Pairwise fun a b => ltB a b = true
theorem asc_ins {xs : List ByteArray} {p : ByteArray} {k : Nat} (hs : AscB xs) (h1 : ∀ q ∈ xs.take k, ltB q p = true) (h2 : ∀ q, xs[k]? = some q → ltB q p = false) (hp : ¬ p ∈ xs) : AscB (xs.take k ++ [p] ++ xs.drop k) := by
  have hsp : AscB (xs.take k ++ xs.drop k) := by rw [List.take_append_drop]; exact hs
  obtain ⟨s1, s2, s3⟩ := List.pairwise_append.1 hsp
  have hd : ∀ q ∈ xs.drop k, ltB p q = true := by
    intro q hq
    cases hk : xs[k]? with
    | none => rw [List.getElem?_eq_none_iff] at hk; rw [List.drop_eq_nil_of_le hk] at hq; cases hq
    | some z =>
      have hlt := (List.getElem?_eq_some_iff.1 hk).1
      have hz := (List.getElem?_eq_some_iff.1 hk).2
      have hpz : ltB p z = true := ltB_of (h2 z hk) fun e => hp (by rw [← e, ← hz]; exact List.getElem_mem hlt)
      rw [List.drop_eq_getElem_cons hlt, hz] at hq s2
      rcases List.mem_cons.1 hq with rfl | hq
      · exact hpz
      · exact ltB_trans hpz ((List.pairwise_cons.1 s2).1 q hq)
  unfold AscB
  rw [List.append_assoc]
  refine List.pairwise_append.2 ⟨s1, ?_, ?_⟩
  · exact List.pairwise_cons.2 ⟨hd, s2⟩
  · intro a ha b hb
    rcases List.mem_cons.1 hb with rfl | hb
    · exact h1 a ha
    · exact s3 a ha b hb
theorem mem_ins {xs : List ByteArray} {p q : ByteArray} {k : Nat} : q ∈ xs.take k ++ [p] ++ xs.drop k ↔ q = p ∨ q ∈ xs := by
  conv => rhs; rw [← List.take_append_drop k xs]
  simp only [List.mem_append, List.mem_singleton]
  constructor
  · rintro ((h | h) | h)
    · exact .inr (.inl h)
    · exact .inl h
    · exact .inr (.inr h)
  · rintro (h | h | h)
    · exact .inl (.inr h)
    · exact .inl (.inl h)
    · exact .inr h
theorem platN_nodup : ∀ (l : List Ev) (n : Nms), ANodup n → ANodup (platN n l)
  | [], n, h => h
  | x :: l, n, h => by
    unfold platN
    refine platN_nodup l _ ?_
    split
    · exact h.aSet
    · exact h
theorem plat_eq {evs : List Ev} {xs : List ByteArray} (hs : AscB xs) (hm : ∀ q, q ∈ xs ↔ q ≠ ⟨#[]⟩ ∧ ∃ e ∈ evs, e.platform = q) : xs = platE evs := by
  have hp : xs.Perm (platE evs) := by
    refine (List.perm_ext_iff_of_nodup (hs.imp fun h e => by subst e; exact ltB_irr h) ?_).2 fun q => by rw [hm, plat_mem]
    exact (sortB_perm _).nodup_iff.2 (platN_nodup evs [] (by simp [ANodup]))
  refine List.Perm.eq_of_pairwise (le := fun a b => leS a.data.toList b.data.toList = true) (fun a b _ _ h1 h2 => ?_) (hs.imp fun h => ?_) ?_ hp
  · rw [leS_eq, decide_eq_true_eq] at h1 h2
    exact ba_ext (List.le_antisymm h1 h2)
  · rw [leS_eq, decide_eq_true_eq]; exact List.le_of_lt (ltB_iff.1 h)
  · unfold platE sortB
    rw [List.pairwise_map]
    exact sortS_sorted _
/-! What is known of the texts that are kept behind some events. -/
def PlatSt (evs : List Ev) (k : Nat) (acc : List ByteArray) : Prop := AscB acc ∧ (∀ q, q ∈ acc ↔ q ≠ ⟨#[]⟩ ∧ ∃ e ∈ evs.take k, e.platform = q)
theorem platSt_0 (evs : List Ev) : PlatSt evs 0 [] := ⟨List.Pairwise.nil, fun q => by simp⟩
theorem ex_snoc {evs : List Ev} {k : Nat} {x : Ev} {q : ByteArray} (hx : evs[k]? = some x) : (∃ e ∈ evs.take (k + 1), e.platform = q) ↔ (∃ e ∈ evs.take k, e.platform = q) ∨ x.platform = q := by
  rw [List.take_add_one, hx]
  simp only [Option.toList_some, List.mem_append, List.mem_singleton]
  constructor
  · rintro ⟨e, h | h, h2⟩
    · exact .inl ⟨e, h, h2⟩
    · exact .inr (h ▸ h2)
  · rintro (⟨e, h, h2⟩ | h)
    · exact ⟨e, .inl h, h2⟩
    · exact ⟨x, .inr rfl, h⟩
theorem platSt_skip {evs : List Ev} {k : Nat} {x : Ev} {acc : List ByteArray} (h : PlatSt evs k acc) (hx : evs[k]? = some x) (hc : x.platform = (⟨#[]⟩ : ByteArray) ∨ hasS acc x.platform = true) : PlatSt evs (k + 1) acc := by
  refine ⟨h.1, fun q => ?_⟩
  rw [h.2, ex_snoc hx]
  constructor
  · rintro ⟨h1, h2⟩; exact ⟨h1, .inl h2⟩
  · rintro ⟨h1, h2 | h2⟩
    · exact ⟨h1, h2⟩
    · rcases hc with hc | hc
      · exact absurd (h2.symm.trans hc) h1
      · rw [hasS_iff, h.2, h2] at hc; exact hc
theorem platSt_new {evs : List Ev} {k j : Nat} {x : Ev} {acc : List ByteArray} (h : PlatSt evs k acc) (hx : evs[k]? = some x) (h1 : ¬ x.platform = (⟨#[]⟩ : ByteArray)) (h2 : hasS acc x.platform = false)
    (h3 : ∀ q ∈ acc.take j, ltB q x.platform = true) (h4 : ∀ q, acc[j]? = some q → ltB q x.platform = false) : PlatSt evs (k + 1) (acc.take j ++ [x.platform] ++ acc.drop j) := by
  have hn : ¬ x.platform ∈ acc := fun hc => by rw [hasS_iff.2 hc] at h2; cases h2
  refine ⟨asc_ins h.1 h3 h4 hn, fun q => ?_⟩
  rw [mem_ins, h.2, ex_snoc hx]
  constructor
  · rintro (h5 | ⟨h5, h6⟩)
    · subst h5; exact ⟨h1, .inr rfl⟩
    · exact ⟨h5, .inl h6⟩
  · rintro ⟨h5, h6 | h6⟩
    · exact .inr ⟨h5, h6⟩
    · exact .inl h6.symm
theorem platSt_end {evs : List Ev} {acc : List ByteArray} (h : PlatSt evs evs.length acc) : acc = platE evs := by
  refine plat_eq h.1 fun q => ?_
  rw [h.2, List.take_length]
theorem less_on {acc : List ByteArray} {j : Nat} {y p : ByteArray} (h : ∀ q ∈ acc.take j, ltB q p = true) (hy : acc[j]? = some y) (hl : ltB y p = true) : ∀ q ∈ acc.take (j + 1), ltB q p = true := by
  intro q hq
  rw [List.take_add_one, hy] at hq
  rcases List.mem_append.1 hq with hq | hq
  · exact h q hq
  · simp at hq; rw [hq]; exact hl


theorem e_sltB {P : Program} {ρ : Operand → PV} {h : Heap} {key : Key} {x y : Operand} {t t' : TypeId} {a b : ByteArray} (hx : ρ x = .str a) (hy : ρ y = .str b) : eff P ρ h key (.binOp .lss t x y t') = ⟨True, .bool (ltB a b), [], [], false⟩ := e_slt hx hy
theorem at_get {acc : List ByteArray} {j : Nat} (h : (j : Int) < ((acc.length : Nat) : Int)) : ∃ y, acc[j]? = some y := ⟨_, List.getElem?_eq_getElem (by omega)⟩

theorem fr23 : (inFrame Try.f23.ntmps (Try.f23.body.getD .skip) && Try.f23.results.toList.all (resScope Try.f23.ntmps)) = true := by kernel_rfl
theorem Platforms (evs : List Ev) (hl : evs.length ≤ 405) : PCalls Try.prog 23 [.lit true 6 (evs.map Ev.enc)] (.lit false 1 ((platE evs).map cb)) := by
  refine PCalls.of_code Try.func23 rfl rfl (by kernel_rfl) mixed fr23 (by show _ ≤ 62; simp) (.lit _ _ _ fun row hr => pure_map cb_pure row hr) ?_
  refine pwp_seq_plain rfl fun K1 hK1 => ?_
  refine p_step rfl (e_assign (v := .nil) rfl) trivial ?_
  refine p_end (hK1 _ ?_); clear hK1 K1
  refine pwp_seq_plain rfl fun K2 hK2 => ?_
  refine p_step rfl (e_assign (v := .nil) rfl) trivial ?_
  refine p_end (hK2 _ ?_); clear hK2 K2
  refine pwp_seq_seq ?_
  refine pwp_seq_plain rfl fun K3 hK3 => ?_
  refine p_step rfl (e_assign (v := .sc _) rfl) trivial ?_
  refine p_end (hK3 _ ?_); clear hK3 K3
  refine pwp_seq_block fun K4 hK4 => ?_
  refine pwp_loopR (α := Nat × (List ByteArray) × PV) [0] (fun (a5 : Nat × (List ByteArray) × PV) => [(3, (a5.2.2)), (4, .int (a5.1))]) (fun (a5 : Nat × (List ByteArray) × PV) (h : Heap) (_ : Nat → Nat) => ((a5.1) ≤ evs.length) ∧ (PlatSt evs (a5.1) (a5.2.1)) ∧ ((a5.2.1).length ≤ (a5.1)) ∧ (SliceAt h 60 (a5.2.2) 1 ((a5.2.1).map cb))) (fun (a5 : Nat × (List ByteArray) × PV) => evs.length - (a5.1)) (0, [], .nil) (by exact ⟨rfl, rfl, trivial⟩) (by exact ⟨by exact Nat.zero_le _, by exact platSt_0 _, by exact Nat.le_refl _, .nil⟩) fun a5 r6 h7 c8 hj9 => ?_
  obtain ⟨k, acc, v⟩ := a5
  obtain ⟨hk, hP, hlen, hihj9_0⟩ := hj9
  try dsimp only at hk
  try dsimp only at hP
  try dsimp only at hlen
  try dsimp only at hihj9_0
  show pwp _ _ (loopQ _ _ _) ⟨sets (mix _ _ _) [(3, v), (4, .int k)], _, _⟩
  refine pwp_seq_seq ?_
  refine pwp_seq_plain rfl fun K10 hK10 => ?_
  refine p_step rfl (e_move (v := .sc _) rfl) trivial ?_
  refine p_step rfl (e_move (v := .lit _ _ _) rfl) trivial ?_
  refine p_step rfl (e_len rfl (by kernel_rfl)) trivial ?_
  refine p_step rfl (e_lt rfl rfl) trivial ?_
  refine p_end (hK10 _ ?_); clear hK10 K10
  refine pwp_seq_cond rfl fun K11 hK11 => ⟨fun hb12 => ?_, fun hb12 => ?_⟩
  ·have hb12R := hb12; (try simp only [z1, z2, z3, z4, z5, z6, ne_eq, z7, z8, z9, z10, z11, z12] at hb12); (try (have hzz := at_get (acc := acc) (j := j) hb12; obtain ⟨y, hy⟩ := hzz))
   obtain ⟨x, hx, hd, ht⟩ := get_lt (xs := evs) (i := k) (by omega)
   refine pwp_skip ?_
   refine seq_norm (hK11 _ ?_); clear hK11 K11
   refine pwp_seq_block fun K13 hK13 => ?_
   refine pwp_seq_seq ?_
   refine pwp_seq_gops rfl fun K14 hK14 => ?_
   refine g_begin ?_
   refine g_step rfl rfl rfl rfl (e_move (v := .lit _ _ _) rfl) trivial ?_
   refine g_step rfl rfl rfl rfl (e_move (v := .sc _) rfl) trivial ?_
   refine g_step rfl rfl rfl rfl (e_ixa rfl rfl (by kernel_rfl) (by kernel_rfl) (by simp only [List.length_map]; omega)) trivial ?_
   refine g_step rfl rfl rfl rfl (e_fa (pl := [(0, 1, false), (1, 1, false), (2, 1, false), (3, 1, false), (4, 1, false), (5, 1, false)]) rfl (by kernel_rfl) (by kernel_rfl) (by decide) rfl) trivial ?_
   refine g_step rfl rfl rfl rfl (e_load (v := .sc _) rfl (by kernel_rfl) (by kernel_rfl) (by kernel_rfl) (by simp only [List.length_map]; omega) (by decide) ((cell_map hx _).trans rfl)) trivial ?_
   refine g_step rfl rfl rfl rfl (e_seq rfl rfl) trivial ?_
   refine g_step rfl rfl rfl rfl (e_move (v := .sc _) rfl) trivial ?_
   refine g_cases (fun hb15 => ?_) (fun hb15 => ?_)
   ·have hb15R := hb15; (try simp only [z1, z2, z3, z4, z5, z6, ne_eq, z7, z8, z9, z10, z11, z12] at hb15); (try (have hzz := at_get (acc := acc) (j := j) hb15; obtain ⟨y, hy⟩ := hzz))
    refine g_skip rfl rfl rfl ?_
    refine g_skip rfl rfl rfl ?_
    refine g_skip rfl rfl rfl ?_
    refine g_skip rfl rfl rfl ?_
    refine g_skip rfl rfl rfl ?_
    refine g_skip rfl rfl rfl ?_
    refine g_nocall rfl rfl rfl ?_
    refine g_step rfl rfl rfl rfl (e_pickT (v := .sc _) rfl rfl) trivial ?_
    refine g_end (ds := [19, 20, 21, 22, 23, 24, 25]) rfl rfl (hK14 _ ?_); clear hK14 K14
    refine pwp_seq_cond (t := true) rfl fun K16 hK16 => ⟨fun _ => ?_, nofun⟩
    refine pwp_exit ?_
    refine exit_seq ?_
    clear hK16 K16
    refine exit_here ?_
    refine seq_norm (hK13 _ ?_); clear hK13 K13
    refine pwp_plain rfl fun K17 hK17 => ?_
    refine p_step rfl (e_move (v := .sc _) rfl) trivial ?_
    refine p_step rfl (e_add rfl rfl (by omega)) trivial ?_
    refine p_step rfl (e_assign (v := .sc _) rfl) trivial ?_
    refine p_end (hK17 _ ?_); clear hK17 K17
    exact loop_again ((k + 1, acc, v)) (by show _ < _; simp only; omega) ⟨rfl, trivial⟩ ⟨rfl, rfl, trivial⟩ (by exact ⟨by show _ + 1 ≤ _; omega, by first | exact platSt_skip hP hx (.inl (by assumption)) | exact platSt_skip hP hx (.inr (by assumption)) | exact platSt_new hP hx (by assumption) (by assumption) hlow (fun q hq => by rw [hy] at hq; cases hq; assumption) | exact platSt_new hP hx (by assumption) (by assumption) hlow (fun q hq => by rw [List.getElem?_eq_none_iff.2 (by omega)] at hq; cases hq), by show List.length _ ≤ _ + 1; first | omega | (simp only [List.length_append, List.length_take, List.length_drop, List.length_cons, List.length_nil]; omega), (SliceAt.to hihj9_0 (by simp [cb]))⟩)
   ·have hb15R := hb15; (try simp only [z1, z2, z3, z4, z5, z6, ne_eq, z7, z8, z9, z10, z11, z12] at hb15); (try (have hzz := at_get (acc := acc) (j := j) hb15; obtain ⟨y, hy⟩ := hzz))
    refine g_step rfl rfl rfl rfl (e_move (v := _) rfl) trivial ?_
    refine g_step rfl rfl rfl rfl (e_move (v := .lit _ _ _) rfl) trivial ?_
    refine g_step rfl rfl rfl rfl (e_move (v := .sc _) rfl) trivial ?_
    refine g_step rfl rfl rfl rfl (e_ixa rfl rfl (by kernel_rfl) (by kernel_rfl) (by simp only [List.length_map]; omega)) trivial ?_
    refine g_step rfl rfl rfl rfl (e_fa (pl := [(0, 1, false), (1, 1, false), (2, 1, false), (3, 1, false), (4, 1, false), (5, 1, false)]) rfl (by kernel_rfl) (by kernel_rfl) (by decide) rfl) trivial ?_
    refine g_step rfl rfl rfl rfl (e_load (v := .sc _) rfl (by kernel_rfl) (by kernel_rfl) (by kernel_rfl) (by simp only [List.length_map]; omega) (by decide) ((cell_map hx _).trans rfl)) trivial ?_
    refine g_call rfl rfl rfl rfl (.cons (SliceAt.inn (rows' := (acc).map cb) hihj9_0 (by simp) (by first | exact pure_map cb_pure | (simp only [← List.map_append, List.nil_append]; exact pure_map cb_pure))) (.cons inn_sc .nil)) (HasText _ _ (by first | omega | exact plat_len _ (by assumption))) ?_
    refine g_step rfl rfl rfl rfl (e_pickF (v := .sc _) rfl rfl) trivial ?_
    refine g_end (ds := [19, 20, 21, 22, 23, 24, 25]) rfl rfl (hK14 _ ?_); clear hK14 K14
    refine pwp_seq_cond rfl fun K18 hK18 => ⟨fun hb19 => ?_, fun hb19 => ?_⟩
    ·have hb19R := hb19; (try simp only [z1, z2, z3, z4, z5, z6, ne_eq, z7, z8, z9, z10, z11, z12] at hb19); (try (have hzz := at_get (acc := acc) (j := j) hb19; obtain ⟨y, hy⟩ := hzz))
     refine pwp_exit ?_
     refine exit_seq ?_
     clear hK18 K18
     refine exit_here ?_
     refine seq_norm (hK13 _ ?_); clear hK13 K13
     refine pwp_plain rfl fun K20 hK20 => ?_
     refine p_step rfl (e_move (v := .sc _) rfl) trivial ?_
     refine p_step rfl (e_add rfl rfl (by omega)) trivial ?_
     refine p_step rfl (e_assign (v := .sc _) rfl) trivial ?_
     refine p_end (hK20 _ ?_); clear hK20 K20
     exact loop_again ((k + 1, acc, v)) (by show _ < _; simp only; omega) ⟨rfl, trivial⟩ ⟨rfl, rfl, trivial⟩ (by exact ⟨by show _ + 1 ≤ _; omega, by first | exact platSt_skip hP hx (.inl (by assumption)) | exact platSt_skip hP hx (.inr (by assumption)) | exact platSt_new hP hx (by assumption) (by assumption) hlow (fun q hq => by rw [hy] at hq; cases hq; assumption) | exact platSt_new hP hx (by assumption) (by assumption) hlow (fun q hq => by rw [List.getElem?_eq_none_iff.2 (by omega)] at hq; cases hq), by show List.length _ ≤ _ + 1; first | omega | (simp only [List.length_append, List.length_take, List.length_drop, List.length_cons, List.length_nil]; omega), (SliceAt.to hihj9_0 (by simp [cb]))⟩)
    ·have hb19R := hb19; (try simp only [z1, z2, z3, z4, z5, z6, ne_eq, z7, z8, z9, z10, z11, z12] at hb19); (try (have hzz := at_get (acc := acc) (j := j) hb19; obtain ⟨y, hy⟩ := hzz))
     refine pwp_skip ?_
     refine seq_norm (hK18 _ ?_); clear hK18 K18
     refine pwp_seq_plain rfl fun K21 hK21 => ?_
     refine p_step rfl (e_assign (v := .sc _) rfl) trivial ?_
     refine p_end (hK21 _ ?_); clear hK21 K21
     refine pwp_seq_block fun K22 hK22 => ?_
     refine pwp_loopR (α := Nat) [0, 3, 4] (fun (j : Nat) => [(5, .int (j))]) (fun (j : Nat) (h : Heap) (_ : Nat → Nat) => ((j) ≤ acc.length) ∧ (∀ q ∈ acc.take (j), ltB q x.platform = true) ∧ (SliceAt h 60 v 1 (acc.map cb))) (fun (j : Nat) => acc.length - (j)) (0) (by exact ⟨rfl, trivial⟩) (by exact ⟨by exact Nat.zero_le _, by (intro q hq; simp at hq), hihj9_0⟩) fun j r23 h24 c25 hj26 => ?_
     obtain ⟨hj, hlow, hihj26_0⟩ := hj26
     try dsimp only at hj
     try dsimp only at hlow
     try dsimp only at hihj26_0
     show pwp _ _ (loopQ _ _ _) ⟨sets (mix _ _ _) [(5, .int j)], _, _⟩
     refine pwp_seq_seq ?_
     refine pwp_seq_gops rfl fun K27 hK27 => ?_
     refine g_begin ?_
     refine g_step rfl rfl rfl rfl (e_move (v := .sc _) rfl) trivial ?_
     refine g_step rfl rfl rfl rfl (e_move (v := _) rfl) trivial ?_
     refine g_step rfl rfl rfl rfl (SliceAt.len hihj26_0 rfl (by kernel_rfl)) trivial ?_
     refine g_step rfl rfl rfl rfl (e_lt rfl rfl) trivial ?_
     refine g_step rfl rfl rfl rfl (e_move (v := .sc _) rfl) trivial ?_
     refine g_cases (fun hb28 => ?_) (fun hb28 => ?_)
     ·have hb28R := hb28; (try simp only [z1, z2, z3, z4, z5, z6, ne_eq, z7, z8, z9, z10, z11, z12] at hb28); (try (have hzz := at_get (acc := acc) (j := j) hb28; obtain ⟨y, hy⟩ := hzz))
      refine g_step rfl rfl rfl rfl (e_move (v := _) rfl) trivial ?_
      refine g_step rfl rfl rfl rfl (e_move (v := .sc _) rfl) trivial ?_
      obtain ⟨g29, ev31, hg30⟩ := SliceAt.isRef hihj26_0 (by intro hq; rw [List.map_eq_nil_iff] at hq; subst hq; first | (simp at *; done) | (simp at *; omega))
      subst ev31
      refine g_step rfl rfl rfl rfl (e_ixaR0 rfl rfl (by kernel_rfl) (by kernel_rfl) (by simp only [List.length_map]; omega)) trivial ?_
      refine g_step rfl rfl rfl rfl (e_loadH (v := .sc _) rfl hg30 (by kernel_rfl) (by kernel_rfl) (by kernel_rfl) (by simp only [List.length_map]; omega) (by decide) ((cell_map hy _).trans rfl)) trivial ?_
      refine g_step rfl rfl rfl rfl (e_move (v := .lit _ _ _) rfl) trivial ?_
      refine g_step rfl rfl rfl rfl (e_move (v := .sc _) rfl) trivial ?_
      refine g_step rfl rfl rfl rfl (e_ixa rfl rfl (by kernel_rfl) (by kernel_rfl) (by simp only [List.length_map]; omega)) trivial ?_
      refine g_step rfl rfl rfl rfl (e_fa (pl := [(0, 1, false), (1, 1, false), (2, 1, false), (3, 1, false), (4, 1, false), (5, 1, false)]) rfl (by kernel_rfl) (by kernel_rfl) (by decide) rfl) trivial ?_
      refine g_step rfl rfl rfl rfl (e_load (v := .sc _) rfl (by kernel_rfl) (by kernel_rfl) (by kernel_rfl) (by simp only [List.length_map]; omega) (by decide) ((cell_map hx _).trans rfl)) trivial ?_
      refine g_step rfl rfl rfl rfl (e_sltB rfl rfl) trivial ?_
      refine g_step rfl rfl rfl rfl (e_pickT (v := .sc _) rfl rfl) trivial ?_
      refine g_end (ds := [32, 33, 34, 35, 36, 37, 38, 39, 40, 41]) (by kernel_rfl) rfl (hK27 _ ?_); clear hK27 K27
      refine pwp_seq_cond rfl fun K32 hK32 => ⟨fun hb33 => ?_, fun hb33 => ?_⟩
      ·have hb33R := hb33; (try simp only [z1, z2, z3, z4, z5, z6, ne_eq, z7, z8, z9, z10, z11, z12] at hb33); (try (have hzz := at_get (acc := acc) (j := j) hb33; obtain ⟨y, hy⟩ := hzz))
       refine pwp_skip ?_
       refine seq_norm (hK32 _ ?_); clear hK32 K32
       refine pwp_block ?_
       refine pwp_plain rfl fun K34 hK34 => ?_
       refine p_step rfl (e_move (v := .sc _) rfl) trivial ?_
       refine p_step rfl (e_add rfl rfl (by omega)) trivial ?_
       refine p_step rfl (e_assign (v := .sc _) rfl) trivial ?_
       refine p_end (hK34 _ ?_); clear hK34 K34
       refine block_norm ?_
       exact loop_again (j + 1) (by show _ < _; omega) ⟨rfl, rfl, rfl, trivial⟩ ⟨rfl, trivial⟩ (by exact ⟨by show _ + 1 ≤ _; omega, by exact less_on hlow hy (by assumption), (.ofRef hg30 (by simp))⟩)
      ·have hb33R := hb33; (try simp only [z1, z2, z3, z4, z5, z6, ne_eq, z7, z8, z9, z10, z11, z12] at hb33); (try (have hzz := at_get (acc := acc) (j := j) hb33; obtain ⟨y, hy⟩ := hzz))
       refine pwp_exit ?_
       refine exit_seq ?_
       clear hK32 K32
       refine exit_loop ?_
       refine exit_here ?_
       refine seq_norm (hK22 _ ?_); clear hK22 K22
       refine pwp_gops rfl fun K35 hK35 => ?_
       refine s_begin ?_
       refine s_new [] (by simp) rfl rfl rfl rfl (e_bslice (rows := []) (zs := [.str ByteArray.empty]) (sz := 1) (by kernel_rfl) (by kernel_rfl) rfl (by kernel_rfl) (by decide) rfl rfl (by exact trivial) rfl) trivial ?_
       refine s_step [] (by simp) rfl rfl rfl rfl (e_move (v := .ref _ _ _ _) rfl) trivial ?_
       refine s_step [] (by simp) rfl rfl rfl rfl (e_move (v := .sc _) rfl) trivial ?_
       refine s_step [] (by simp) rfl rfl rfl rfl (e_subTo (.ofRef ((hset_ne (key_ne rfl)).trans hg30) rfl) rfl rfl (by simp only [List.length_map]; omega) (by kernel_rfl) (by kernel_rfl)) trivial ?_
       refine s_app [45, 60] [45, 49] (by simp) (by simp) (by simp) rfl rfl rfl (.ofRef (hset_self _ _ _) rfl) (SrcAt.to (.ofRef ((hset_ne (key_ne rfl)).trans hg30) rfl) (by simp only [List.length_map]; omega)) rfl (by kernel_rfl) (by simp only [List.length_append, List.length_map, List.length_take, List.length_drop, List.length_cons, List.length_nil]; omega) fun v36 h37 c38 hs39 hf40 => ?_
       have ho41 := (hf40 (60, _) (key_ne rfl) (fun _ _ => key_ne rfl)).trans ((hset_ne (key_ne rfl)).trans hg30)
       refine s_step [] (by simp) rfl rfl rfl rfl (e_move (v := .lit _ _ _) rfl) trivial ?_
       refine s_step [] (by simp) rfl rfl rfl rfl (e_move (v := .sc _) rfl) trivial ?_
       refine s_step [] (by simp) rfl rfl rfl rfl (e_ixa rfl rfl (by kernel_rfl) (by kernel_rfl) (by simp only [List.length_map]; omega)) trivial ?_
       refine s_step [] (by simp) rfl rfl rfl rfl (e_fa (pl := [(0, 1, false), (1, 1, false), (2, 1, false), (3, 1, false), (4, 1, false), (5, 1, false)]) rfl (by kernel_rfl) (by kernel_rfl) (by decide) rfl) trivial ?_
       refine s_step [] (by simp) rfl rfl rfl rfl (e_load (v := .sc _) rfl (by kernel_rfl) (by kernel_rfl) (by kernel_rfl) (by simp only [List.length_map]; omega) (by decide) ((cell_map hx _).trans rfl)) trivial ?_
       refine s_new [] (by simp) rfl rfl rfl rfl (e_bslice (rows := [cb x.platform]) (zs := [.str ByteArray.empty]) (sz := 1) (by kernel_rfl) (by kernel_rfl) rfl (by kernel_rfl) (by decide) rfl rfl (by exact ⟨by decide, rfl, rfl, trivial⟩) rfl) trivial ?_
       refine s_app [49, 55] [49, 56] (by simp) (by simp) (by simp) rfl rfl rfl (hs39.keep fun _ => (hset_ne (key_ne rfl)).trans (rfl)) (SrcAt.ref (hset_self _ _ _) rfl) rfl (by kernel_rfl) (by simp only [List.length_append, List.length_map, List.length_take, List.length_drop, List.length_cons, List.length_nil]; omega) fun v42 h43 c44 hs45 hf46 => ?_
       have ho47 := (hf46 (60, _) (key_ne rfl) (fun _ _ => key_ne rfl)).trans ((hset_ne (key_ne rfl)).trans ho41)
       have ho48 := (hf46 (55, _) (key_ne rfl) (fun _ _ => key_ne rfl)).trans (hset_self _ _ _)
       refine s_step [] (by simp) rfl rfl rfl rfl (e_move (v := .ref _ _ _ _) rfl) trivial ?_
       refine s_step [] (by simp) rfl rfl rfl rfl (e_move (v := .sc _) rfl) trivial ?_
       refine s_step [] (by simp) rfl rfl rfl rfl (e_subFrom (.ofRef ho47 rfl) rfl rfl (by simp only [List.length_map]; omega) (by kernel_rfl) (by kernel_rfl)) trivial ?_
       refine s_app [56, 60] [56, 60] (by simp) (by simp) (by simp) rfl rfl rfl hs45 (SrcAt.from (.ofRef ho47 rfl) (by simp only [List.length_map]; omega)) rfl (by kernel_rfl) (by simp only [List.length_append, List.length_map, List.length_take, List.length_drop, List.length_cons, List.length_nil]; omega) fun v49 h50 c51 hs52 hf53 => ?_
       have ho54 := (hf53 (55, _) (key_ne rfl) (fun _ _ => key_ne rfl)).trans ho48
       refine s_step [] (by simp) rfl rfl rfl rfl (e_assign (v := _) rfl) trivial ?_
       refine s_end (ds := []) (by kernel_rfl) (by kernel_rfl) (hK35 _ ?_); clear hK35 K35
       refine block_norm ?_
       refine seq_norm (hK13 _ ?_); clear hK13 K13
       refine pwp_plain rfl fun K55 hK55 => ?_
       refine p_step rfl (e_move (v := .sc _) rfl) trivial ?_
       refine p_step rfl (e_add rfl rfl (by omega)) trivial ?_
       refine p_step rfl (e_assign (v := .sc _) rfl) trivial ?_
       refine p_end (hK55 _ ?_); clear hK55 K55
       exact loop_again ((k + 1, (acc.take j ++ [x.platform] ++ acc.drop j), v49)) (by show _ < _; simp only; omega) ⟨rfl, trivial⟩ ⟨rfl, rfl, trivial⟩ (by exact ⟨by show _ + 1 ≤ _; omega, by first | exact platSt_skip hP hx (.inl (by assumption)) | exact platSt_skip hP hx (.inr (by assumption)) | exact platSt_new hP hx (by assumption) (by assumption) hlow (fun q hq => by rw [hy] at hq; cases hq; assumption) | exact platSt_new hP hx (by assumption) (by assumption) hlow (fun q hq => by rw [List.getElem?_eq_none_iff.2 (by omega)] at hq; cases hq), by show List.length _ ≤ _ + 1; first | omega | (simp only [List.length_append, List.length_take, List.length_drop, List.length_cons, List.length_nil]; omega), (SliceAt.to hs52 (by simp [cb]))⟩)
     ·have hb28R := hb28; (try simp only [z1, z2, z3, z4, z5, z6, ne_eq, z7, z8, z9, z10, z11, z12] at hb28); (try (have hzz := at_get (acc := acc) (j := j) hb28; obtain ⟨y, hy⟩ := hzz))
      refine g_skip rfl rfl rfl ?_
      refine g_skip rfl rfl rfl ?_
      refine g_skip rfl rfl rfl ?_
      refine g_skip rfl rfl rfl ?_
      refine g_skip rfl rfl rfl ?_
      refine g_skip rfl rfl rfl ?_
      refine g_skip rfl rfl rfl ?_
      refine g_skip rfl rfl rfl ?_
      refine g_skip rfl rfl rfl ?_
      refine g_skip rfl rfl rfl ?_
      refine g_step rfl rfl rfl rfl (e_pickF (v := .sc _) rfl rfl) trivial ?_
      refine g_end (ds := [32, 33, 34, 35, 36, 37, 38, 39, 40, 41]) (by kernel_rfl) rfl (hK27 _ ?_); clear hK27 K27
      refine pwp_seq_cond (t := false) rfl fun K56 hK56 => ⟨nofun, fun _ => ?_⟩
      refine pwp_exit ?_
      refine exit_seq ?_
      clear hK56 K56
      refine exit_loop ?_
      refine exit_here ?_
      refine seq_norm (hK22 _ ?_); clear hK22 K22
      refine pwp_gops rfl fun K57 hK57 => ?_
      refine s_begin ?_
      refine s_new [] (by simp) rfl rfl rfl rfl (e_bslice (rows := []) (zs := [.str ByteArray.empty]) (sz := 1) (by kernel_rfl) (by kernel_rfl) rfl (by kernel_rfl) (by decide) rfl rfl (by exact trivial) rfl) trivial ?_
      refine s_step [] (by simp) rfl rfl rfl rfl (e_move (v := _) rfl) trivial ?_
      refine s_step [] (by simp) rfl rfl rfl rfl (e_move (v := .sc _) rfl) trivial ?_
      refine s_step [] (by simp) rfl rfl rfl rfl (e_subTo (hihj26_0.keep fun _ => (hset_ne (key_ne rfl)).trans (rfl)) rfl rfl (by simp only [List.length_map]; omega) (by kernel_rfl) (by kernel_rfl)) trivial ?_
      refine s_app [45, 60] [45, 49] (by simp) (by simp) (by simp) rfl rfl rfl (.ofRef (hset_self _ _ _) rfl) (SrcAt.to (hihj26_0.keep fun _ => (hset_ne (key_ne rfl)).trans (rfl)) (by simp only [List.length_map]; omega)) rfl (by kernel_rfl) (by simp only [List.length_append, List.length_map, List.length_take, List.length_drop, List.length_cons, List.length_nil]; omega) fun v58 h59 c60 hs61 hf62 => ?_
      have hs63 := ((hihj26_0.keep fun _ => (hset_ne (key_ne rfl)).trans (rfl))).keep fun g => (hf62 (60, g) (key_ne rfl) (fun _ _ => key_ne rfl))
      refine s_step [] (by simp) rfl rfl rfl rfl (e_move (v := .lit _ _ _) rfl) trivial ?_
      refine s_step [] (by simp) rfl rfl rfl rfl (e_move (v := .sc _) rfl) trivial ?_
      refine s_step [] (by simp) rfl rfl rfl rfl (e_ixa rfl rfl (by kernel_rfl) (by kernel_rfl) (by simp only [List.length_map]; omega)) trivial ?_
      refine s_step [] (by simp) rfl rfl rfl rfl (e_fa (pl := [(0, 1, false), (1, 1, false), (2, 1, false), (3, 1, false), (4, 1, false), (5, 1, false)]) rfl (by kernel_rfl) (by kernel_rfl) (by decide) rfl) trivial ?_
      refine s_step [] (by simp) rfl rfl rfl rfl (e_load (v := .sc _) rfl (by kernel_rfl) (by kernel_rfl) (by kernel_rfl) (by simp only [List.length_map]; omega) (by decide) ((cell_map hx _).trans rfl)) trivial ?_
      refine s_new [] (by simp) rfl rfl rfl rfl (e_bslice (rows := [cb x.platform]) (zs := [.str ByteArray.empty]) (sz := 1) (by kernel_rfl) (by kernel_rfl) rfl (by kernel_rfl) (by decide) rfl rfl (by exact ⟨by decide, rfl, rfl, trivial⟩) rfl) trivial ?_
      refine s_app [49, 55] [49, 56] (by simp) (by simp) (by simp) rfl rfl rfl (hs61.keep fun _ => (hset_ne (key_ne rfl)).trans (rfl)) (SrcAt.ref (hset_self _ _ _) rfl) rfl (by kernel_rfl) (by simp only [List.length_append, List.length_map, List.length_take, List.length_drop, List.length_cons, List.length_nil]; omega) fun v64 h65 c66 hs67 hf68 => ?_
      have ho69 := (hf68 (55, _) (key_ne rfl) (fun _ _ => key_ne rfl)).trans (hset_self _ _ _)
      have hs70 := ((hs63.keep fun _ => (hset_ne (key_ne rfl)).trans (rfl))).keep fun g => (hf68 (60, g) (key_ne rfl) (fun _ _ => key_ne rfl))
      refine s_step [] (by simp) rfl rfl rfl rfl (e_move (v := _) rfl) trivial ?_
      refine s_step [] (by simp) rfl rfl rfl rfl (e_move (v := .sc _) rfl) trivial ?_
      refine s_step [] (by simp) rfl rfl rfl rfl (e_subFrom hs70 rfl rfl (by simp only [List.length_map]; omega) (by kernel_rfl) (by kernel_rfl)) trivial ?_
      refine s_app [56, 60] [56, 60] (by simp) (by simp) (by simp) rfl rfl rfl hs67 (SrcAt.from hs70 (by simp only [List.length_map]; omega)) rfl (by kernel_rfl) (by simp only [List.length_append, List.length_map, List.length_take, List.length_drop, List.length_cons, List.length_nil]; omega) fun v71 h72 c73 hs74 hf75 => ?_
      have ho76 := (hf75 (55, _) (key_ne rfl) (fun _ _ => key_ne rfl)).trans ho69
      refine s_step [] (by simp) rfl rfl rfl rfl (e_assign (v := _) rfl) trivial ?_
      refine s_end (ds := []) (by kernel_rfl) (by kernel_rfl) (hK57 _ ?_); clear hK57 K57
      refine block_norm ?_
      refine seq_norm (hK13 _ ?_); clear hK13 K13
      refine pwp_plain rfl fun K77 hK77 => ?_
      refine p_step rfl (e_move (v := .sc _) rfl) trivial ?_
      refine p_step rfl (e_add rfl rfl (by omega)) trivial ?_
      refine p_step rfl (e_assign (v := .sc _) rfl) trivial ?_
      refine p_end (hK77 _ ?_); clear hK77 K77
      exact loop_again ((k + 1, (acc.take j ++ [x.platform] ++ acc.drop j), v71)) (by show _ < _; simp only; omega) ⟨rfl, trivial⟩ ⟨rfl, rfl, trivial⟩ (by exact ⟨by show _ + 1 ≤ _; omega, by first | exact platSt_skip hP hx (.inl (by assumption)) | exact platSt_skip hP hx (.inr (by assumption)) | exact platSt_new hP hx (by assumption) (by assumption) hlow (fun q hq => by rw [hy] at hq; cases hq; assumption) | exact platSt_new hP hx (by assumption) (by assumption) hlow (fun q hq => by rw [List.getElem?_eq_none_iff.2 (by omega)] at hq; cases hq), by show List.length _ ≤ _ + 1; first | omega | (simp only [List.length_append, List.length_take, List.length_drop, List.length_cons, List.length_nil]; omega), (SliceAt.to hs74 (by simp [cb]))⟩)
  ·have hb12R := hb12; (try simp only [z1, z2, z3, z4, z5, z6, ne_eq, z7, z8, z9, z10, z11, z12] at hb12); (try (have hzz := at_get (acc := acc) (j := j) hb12; obtain ⟨y, hy⟩ := hzz))
   obtain rfl : k = evs.length := by omega
   have hend := platSt_end hP
   refine pwp_exit ?_
   refine exit_seq ?_
   clear hK11 K11
   refine exit_loop ?_
   refine exit_here ?_
   refine seq_norm (hK4 _ ?_); clear hK4 K4
   refine pwp_seq_plain rfl fun K78 hK78 => ?_
   refine p_step rfl (e_move (v := _) rfl) trivial ?_
   refine p_step rfl (e_assign (v := _) rfl) trivial ?_
   refine p_end (hK78 _ ?_); clear hK78 K78
   refine pwp_ret ?_
   refine end1 (v := _) rfl ?_
   rw [← hend]
   exact out_slice (by assumption) rfl (fun _ => rfl) cb_clean

end Go.Proofs.Ytdbpfhbppcpbbaa
