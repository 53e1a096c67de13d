import Derived.Test.YtjmjiegplnfiiaaLayA
/- Crews. No conditions. -/
set_option linter.unusedSimpArgs false
set_option linter.unusedVariables false
set_option maxRecDepth 100000
namespace Go.Proofs.Ytjmjiegplnfiiaa
open Go Go.Pv
/-! ### The first one of a list that is so -/
def ixA {α : Type} (K : α → Bool) (l : List α) : Int := match l.findIdx? K with | some i => (i : Int) | none => -1
theorem ixA_hit {α : Type} {K : α → Bool} {l : List α} {k : Nat} {x : α} (hx : l[k]? = some x) (h : ∀ i, i < k → ∀ y, l[i]? = some y → K y = false) (h2 : K x = true) : (k : Int) = ixA K l := by
 obtain ⟨h1, e⟩ := List.getElem?_eq_some_iff.1 hx
 have : l.findIdx? K = some k := by
   rw [List.findIdx?_eq_some_iff_getElem]
   exact ⟨h1, by rw [e]; exact h2, fun j hj => by rw [h j hj _ (List.getElem?_eq_getElem (by omega))]; decide⟩
 rw [ixA, this]
theorem ixA_no {α : Type} {K : α → Bool} {l : List α} {k : Nat} (h : ∀ i, i < k → ∀ y, l[i]? = some y → K y = false) (h2 : l.length ≤ k) : -1 = ixA K l := by
 have : l.findIdx? K = none := by
   rw [List.findIdx?_eq_none_iff]
   intro z hz
   obtain ⟨i, hi⟩ := List.getElem?_of_mem hz
   exact h i (by have := (List.getElem?_eq_some_iff.1 hi).1; omega) z hi
 rw [ixA, this]
theorem ixA_any {α : Type} {K : α → Bool} {l : List α} : decide (0 ≤ ixA K l) = l.any K := by
 rw [Bool.eq_iff_iff, decide_eq_true_eq, ixA, List.any_eq_true]
 cases h : l.findIdx? K with
 | none =>
   rw [List.findIdx?_eq_none_iff] at h
   simp only [Int.reduceNeg]
   exact ⟨fun h => absurd h (by decide), fun ⟨x, h1, h2⟩ => by rw [h x h1] at h2; cases h2⟩
 | some i =>
   rw [List.findIdx?_eq_some_iff_getElem] at h
   obtain ⟨h1, h2, _⟩ := h
   exact ⟨fun _ => ⟨_, List.getElem_mem h1, h2⟩, fun _ => Int.natCast_nonneg i⟩
theorem nx_step {α : Type} {K : α → Bool} {l : List α} {k : Nat} {x : α} (h : ∀ i, i < k → ∀ y, l[i]? = some y → K y = false) (hx : l[k]? = some x) (h2 : K x = false) : ∀ i, i < k + 1 → ∀ y, l[i]? = some y → K y = false := fun i hi y hy => by
 rcases Nat.lt_succ_iff_lt_or_eq.1 hi with h3 | h3
 · exact h i h3 y hy
 · subst h3; rw [hx] at hy; cases hy; exact h2
theorem nx_0 {α : Type} {K : α → Bool} {l : List α} : ∀ i, i < 0 → ∀ y, l[i]? = some y → K y = false := fun i h => absurd h (Nat.not_lt_zero _)

/-! ### Crews -/
def nmB (s : ByteArray) : Bool := !isNm s
def gdup (gs : List Gang) (k : Nat) (s : ByteArray) : Bool := (gs.take k).any fun h => decide (h.name = s)
def grng (g : Gang) : Prop := 0 ≤ g.fro ∧ g.fro ≤ g.til ∧ g.til ≤ 1000000
instance (g : Gang) : Decidable (grng g) := inferInstanceAs (Decidable (_ ∧ _))
def crng (x : Span) : Prop := (0 ≤ x.place ∧ x.place ≤ 999) ∧ 0 ≤ x.fro ∧ x.fro ≤ x.til ∧ x.til ≤ 1000000
instance (x : Span) : Decidable (crng x) := inferInstanceAs (Decidable (_ ∧ _))
def gangE (gs : List Gang) (k : Nat) (g : Gang) : Int := if isNm g.name = false ∨ g.trades.any nmB = true then 4 else if gdup gs k g.name then 5 else if ¬ grng g then 2 else 0
def gangsF (gs : List Gang) : Nat → List Gang → Int
 | _, [] => 0
 | k, g :: l => if gangE gs k g ≠ 0 then gangE gs k g else gangsF gs (k + 1) l
def crewE (c : Crew) : Int := if ¬ (1 ≤ c.gangs.length ∧ c.gangs.length ≤ 10) ∨ 40 < c.closed.length then 11 else if gangsF c.gangs 0 c.gangs ≠ 0 then gangsF c.gangs 0 c.gangs else if ∃ x ∈ c.closed, ¬ crng x then 2 else 0
section
variable {gs : List Gang} {k : Nat} {g : Gang}
theorem gangE_4 (h : isNm g.name = false ∨ g.trades.any nmB = true) : 4 = gangE gs k g := (if_pos h).symm
theorem gangE_5 (h1 : isNm g.name = true) (h2 : g.trades.any nmB = false) (h3 : gdup gs k g.name = true) : 5 = gangE gs k g := by rw [gangE, if_neg (by simp [h1, h2]), if_pos h3]
theorem gangE_2 (h1 : isNm g.name = true) (h2 : g.trades.any nmB = false) (h3 : gdup gs k g.name = false) (h4 : ¬ grng g) : 2 = gangE gs k g := by rw [gangE, if_neg (by simp [h1, h2]), if_neg (by simp [h3]), if_pos h4]
theorem gangE_0 (h1 : isNm g.name = true) (h2 : g.trades.any nmB = false) (h3 : gdup gs k g.name = false) (h4 : grng g) : gangE gs k g = 0 := by rw [gangE, if_neg (by simp [h1, h2]), if_neg (by simp [h3]), if_neg (fun q => q h4)]
theorem gangs_go (hinv : gangsF gs 0 gs = gangsF gs k (gs.drop k)) (hd : gs.drop k = g :: gs.drop (k + 1)) (h : gangE gs k g = 0) : gangsF gs 0 gs = gangsF gs (k + 1) (gs.drop (k + 1)) := by
 rw [hinv, hd, gangsF, if_neg (fun q => q h)]
theorem gangs_all (hinv : gangsF gs 0 gs = gangsF gs k (gs.drop k)) (hk : gs.length ≤ k) : gangsF gs 0 gs = 0 := by
 rw [hinv, List.drop_eq_nil_of_le hk, gangsF]
theorem any_nm {l : List ByteArray} {j : Nat} {s : ByteArray} (hs : l[j]? = some s) (h : isNm s = false) : l.any nmB = true :=
 List.any_eq_true.2 ⟨s, List.mem_of_getElem? hs, by rw [nmB, h]; rfl⟩
theorem any_ok {l : List ByteArray} {j : Nat} (h : ∀ i, i < j → ∀ y, l[i]? = some y → nmB y = false) (hj : l.length ≤ j) : l.any nmB = false := by
 rw [List.any_eq_false]
 intro s hs
 obtain ⟨i, hi⟩ := List.getElem?_of_mem hs
 rw [h i (by have := (List.getElem?_eq_some_iff.1 hi).1; omega) s hi]; decide
theorem gdup_yes {s : ByteArray} {j : Nat} {y : Gang} (hy : gs[j]? = some y) (hj : j < k) (h : y.name = s) : gdup gs k s = true := by
 refine List.any_eq_true.2 ⟨y, List.mem_of_getElem? (i := j) ?_, decide_eq_true h⟩
 rw [List.getElem?_take_of_lt hj, hy]
theorem gdup_no {s : ByteArray} {j : Nat} (h : ∀ i, i < j → ∀ y, gs[i]? = some y → decide (y.name = s) = false) (hj : k ≤ j) : gdup gs k s = false := by
 rw [gdup, List.any_eq_false]
 intro y hy
 obtain ⟨i, hi⟩ := List.getElem?_of_mem hy
 have hl := (List.getElem?_eq_some_iff.1 hi).1
 rw [List.length_take] at hl
 rw [List.getElem?_take_of_lt (by omega)] at hi
 rw [h i (by omega) y hi]; decide
end
section
variable {c : Crew} {k : Nat}
theorem crew_11 (h : ¬ (1 ≤ c.gangs.length ∧ c.gangs.length ≤ 10) ∨ 40 < c.closed.length) : 11 = crewE c := (if_pos h).symm
theorem crew_g {g : Gang} {e : Int} (h : 1 ≤ c.gangs.length ∧ c.gangs.length ≤ 10 ∧ c.closed.length ≤ 40) (hinv : gangsF c.gangs 0 c.gangs = gangsF c.gangs k (c.gangs.drop k)) (hd : c.gangs.drop k = g :: c.gangs.drop (k + 1)) (he : e = gangE c.gangs k g) (hne : e ≠ 0) : e = crewE c := by
 have h1 : gangsF c.gangs 0 c.gangs = e := by rw [hinv, hd, gangsF, if_pos (he ▸ hne), he]
 rw [crewE, if_neg (by omega), h1, if_pos hne]
theorem crew_c {x : Span} (h : 1 ≤ c.gangs.length ∧ c.gangs.length ≤ 10 ∧ c.closed.length ≤ 40) (hg : gangsF c.gangs 0 c.gangs = 0) (hx : c.closed[k]? = some x) (hn : ¬ crng x) : 2 = crewE c := by
 rw [crewE, if_neg (by omega), if_neg (fun q => q hg), if_pos ⟨x, List.mem_of_getElem? hx, hn⟩]
theorem crew_0 (h : 1 ≤ c.gangs.length ∧ c.gangs.length ≤ 10 ∧ c.closed.length ≤ 40) (hg : gangsF c.gangs 0 c.gangs = 0) (hx : ∀ i, i < k → ∀ y, c.closed[i]? = some y → crng y) (hk : c.closed.length ≤ k) : 0 = crewE c := by
 rw [crewE, if_neg (by omega), if_neg (fun q => q hg), if_neg]
 rintro ⟨x, h1, h2⟩
 obtain ⟨i, hi⟩ := List.getElem?_of_mem h1
 exact h2 (hx i (by have := (List.getElem?_eq_some_iff.1 hi).1; omega) x hi)
end
theorem cx_step {l : List Span} {k : Nat} {x : Span} (h : ∀ i, i < k → ∀ y, l[i]? = some y → crng y) (hx : l[k]? = some x) (h2 : crng x) : ∀ i, i < k + 1 → ∀ y, l[i]? = some y → crng y := fun i hi y hy => by
 rcases Nat.lt_succ_iff_lt_or_eq.1 hi with h3 | h3
 · exact h i h3 y hy
 · subst h3; rw [hx] at hy; cases hy; exact h2
def briefB (c : Crew) : Bool := decide (c.gangs.length ≤ 15 ∧ c.closed.length ≤ 50 ∧ ∀ g ∈ c.gangs, g.trades.length ≤ 6 ∧ g.name.size ≤ 30 ∧ ∀ t ∈ g.trades, t.size ≤ 30)
def GFair (gs : List Gang) : Prop := ∀ g ∈ gs, g.trades.length ≤ 6 ∧ g.name.size ≤ 30 ∧ ∀ t ∈ g.trades, t.size ≤ 30
theorem brief_iff {c : Crew} : briefB c = true ↔ c.gangs.length ≤ 15 ∧ c.closed.length ≤ 50 ∧ GFair c.gangs := by simp only [briefB, decide_eq_true_eq, GFair]
theorem brief_no {c : Crew} (h : ¬ (c.gangs.length ≤ 15 ∧ c.closed.length ≤ 50 ∧ GFair c.gangs)) : false = briefB c := by
 cases e : briefB c with
 | false => rfl
 | true => exact absurd (brief_iff.1 e) h
theorem g_snoc {gs : List Gang} {k : Nat} {g : Gang} (ht : gs.take (k + 1) = gs.take k ++ [g]) (h : GFair (gs.take k)) (h2 : g.trades.length ≤ 6 ∧ g.name.size ≤ 30 ∧ ∀ t ∈ g.trades, t.size ≤ 30) : GFair (gs.take (k + 1)) := by
 rw [ht]; intro y hy
 rcases List.mem_append.1 hy with h3 | h3
 · exact h y h3
 · rw [List.mem_singleton.1 h3]; exact h2

theorem fr95 : (inFrame Try.f95.ntmps (Try.f95.body.getD .skip) && Try.f95.results.toList.all (resScope Try.f95.ntmps)) = true := by kernel_rfl
theorem crewF1 (s : ByteArray) (hs : s.size ≤ 9223372036854775807) : PCalls Try.prog 95 [.str s] (.bool (nmB s)) := by
 refine PCalls.of_code Try.func95 rfl rfl (by kernel_rfl) mixed fr95 (by show _ ≤ 6; simp) (.sc _) ?_
 refine pwp_seq_plain rfl fun K1 hK1 => ?_
 refine p_aS rfl ?_
 refine p_end (hK1 _ ?_); clear hK1 K1
 refine pwp_seq_plain rfl fun K2 hK2 => ?_
 refine p_mS rfl ?_
 refine p_call rfl (.cons inn_sc .nil) (isName _ hs) ?_
 refine p_e rfl (e_not rfl) ?_
 refine p_aS rfl ?_
 refine p_end (hK2 _ ?_); clear hK2 K2
 refine pwp_ret ?_
 refine end1 (v := .sc _) rfl ?_
 exact out_b rfl

theorem fr121 : (inFrame Try.f121.ntmps (Try.f121.body.getD .skip) && Try.f121.results.toList.all (resScope Try.f121.ntmps)) = true := by kernel_rfl
theorem crewIx (l : List ByteArray) (hlen : l.length ≤ 1000000) (hl : ∀ s ∈ l, s.size ≤ 9223372036854775807) : PCalls Try.prog 121 [.lit true 1 (l.map cb), .func (.func 95) [] []] (.int (ixA nmB l)) := by
 refine PCalls.of_code Try.func121 rfl rfl (by kernel_rfl) mixed fr121 (by show _ ≤ 19; simp) (.sc _) ?_
 refine pwp_seq_plain rfl fun K1 hK1 => ?_
 refine p_aS rfl ?_
 refine p_end (hK1 _ ?_); clear hK1 K1
 refine pwp_seq_seq ?_
 refine pwp_seq_plain rfl fun K2 hK2 => ?_
 refine p_e rfl (e_move (v := .lit _ _ _) rfl) ?_
 refine p_e rfl (e_len rfl (by kernel_rfl)) ?_
 refine p_mS rfl ?_
 refine p_end (hK2 _ ?_); clear hK2 K2
 refine pwp_seq_block fun K3 hK3 => ?_
 refine pwp_loopR (α := Nat) [0, 1, 7] (fun (k : Nat) => [(8, .int (k))]) (fun (k : Nat) (h : Heap) (_ : Nat → Nat) => ((k) ≤ l.length) ∧ (∀ i, i < (k) → ∀ y, l[i]? = some y → nmB y = false)) (fun (k : Nat) => l.length - (k)) (0) (by exact ⟨rfl, trivial⟩) (by exact ⟨by exact Nat.zero_le _, by exact nx_0⟩) fun k r4 h5 c6 hj7 => ?_
 obtain ⟨hk, hin⟩ := hj7
 try dsimp only at hk
 try dsimp only at hin
 show pwp _ _ (loopQ _ _ _) ⟨sets (mix _ _ _) [(8, .int k)], _, _⟩
 refine pwp_seq_plain rfl fun K8 hK8 => ?_
 refine p_e rfl (e_lt rfl rfl) ?_
 refine p_end (hK8 _ ?_); clear hK8 K8
 refine pwp_seq_cond rfl fun K9 hK9 => ⟨fun hb10 => ?_, fun hb10 => ?_⟩
 ·have hb10R := hb10; try simp only [zz] at hb10
  obtain ⟨x, hx, hd, ht⟩ := get_lt (xs := l) (i := k) (by omega)
  refine pwp_skip ?_
  refine seq_norm (hK9 _ ?_); clear hK9 K9
  refine pwp_seq_block fun K11 hK11 => ?_
  refine pwp_seq_plain rfl fun K12 hK12 => ?_
  refine p_mS rfl ?_
  refine p_aS rfl ?_
  refine p_end (hK12 _ ?_); clear hK12 K12
  refine pwp_seq_plain rfl fun K13 hK13 => ?_
  refine p_e rfl (e_move (v := .func _ _ _) rfl) ?_
  refine p_e rfl (e_move (v := .lit _ _ _) rfl) ?_
  refine p_mS rfl ?_
  refine p_e rfl (e_ixL rfl rfl) ?_
  refine p_e rfl (e_load (v := .sc _) rfl (by kernel_rfl) (by kernel_rfl) (by kernel_rfl) (by first | omega | (simp only [List.length_map]; omega)) (by decide) ((cell_map hx _).trans rfl)) ?_
  refine p_call rfl (.cons inn_sc .nil) (crewF1 _ (hl _ (List.mem_of_getElem? hx))) ?_
  refine p_end (hK13 _ ?_); clear hK13 K13
  refine pwp_cond rfl (fun hb14 => ?_) (fun hb14 => ?_)
  ·have hb14R := hb14; try simp only [zz] at hb14
   refine pwp_seq_plain rfl fun K15 hK15 => ?_
   refine p_mS rfl ?_
   refine p_aS rfl ?_
   refine p_end (hK15 _ ?_); clear hK15 K15
   refine pwp_ret ?_
   refine ret_block ?_
   refine ret_seq ?_
   refine ret_loop ?_
   refine ret_block ?_
   refine ret_seq ?_
   refine end1 (v := .sc _) rfl ?_
   exact out_i (ixA_hit (K := nmB) hx hin (by assumption))
  have hb14R := hb14; try simp only [zz] at hb14
  refine pwp_skip ?_
  refine block_norm ?_
  refine seq_norm (hK11 _ ?_); clear hK11 K11
  refine pwp_plain rfl fun K16 hK16 => ?_
  refine p_e rfl (e_adL rfl rfl) ?_
  refine p_mS rfl ?_
  refine p_end (hK16 _ ?_); clear hK16 K16
  exact loop_again (k + 1) (by show _ < _; omega) ⟨rfl, rfl, rfl, trivial⟩ ⟨rfl, trivial⟩ (by exact ⟨by show _ + 1 ≤ _; simp only [List.length_map] at *; omega, by exact nx_step hin hx (by first | assumption | simpa using (by assumption))⟩)
 have hb10R := hb10; try simp only [zz] at hb10
 refine pwp_exit ?_
 refine exit_seq ?_
 clear hK9 K9
 refine exit_loop ?_
 refine exit_here ?_
 refine seq_norm (hK3 _ ?_); clear hK3 K3
 refine pwp_seq_plain rfl fun K17 hK17 => ?_
 refine p_aS rfl ?_
 refine p_end (hK17 _ ?_); clear hK17 K17
 refine pwp_ret ?_
 refine end1 (v := .sc _) rfl ?_
 exact out_i (ixA_no (K := nmB) hin (by simp only [List.length_map] at *; omega))

theorem fr94 : (inFrame Try.f94.ntmps (Try.f94.body.getD .skip) && Try.f94.results.toList.all (resScope Try.f94.ntmps)) = true := by kernel_rfl
theorem crewAny (l : List ByteArray) (hlen : l.length ≤ 1000000) (hl : ∀ s ∈ l, s.size ≤ 9223372036854775807) : PCalls Try.prog 94 [.lit true 1 (l.map cb), .func (.func 95) [] []] (.bool (l.any nmB)) := by
 refine PCalls.of_code Try.func94 rfl rfl (by kernel_rfl) mixed fr94 (by show _ ≤ 9; simp) (.sc _) ?_
 refine pwp_seq_plain rfl fun K1 hK1 => ?_
 refine p_aS rfl ?_
 refine p_end (hK1 _ ?_); clear hK1 K1
 refine pwp_seq_plain rfl fun K2 hK2 => ?_
 refine p_e rfl (e_move (v := .lit _ _ _) rfl) ?_
 refine p_e rfl (e_move (v := .func _ _ _) rfl) ?_
 refine p_call rfl (.cons inn_lit (.cons inn_func0 .nil)) (crewIx l hlen hl) ?_
 refine p_e rfl (e_ge rfl rfl) ?_
 refine p_aS rfl ?_
 refine p_end (hK2 _ ?_); clear hK2 K2
 refine pwp_ret ?_
 refine end1 (v := .sc _) rfl ?_
 exact out_b ixA_any

def gnB (s : ByteArray) (h : Gang) : Bool := decide (h.name = s)

theorem fr97 : (inFrame Try.f97.ntmps (Try.f97.body.getD .skip) && Try.f97.results.toList.all (resScope Try.f97.ntmps)) = true := by kernel_rfl
theorem crewF2 (h g : Gang) : PCalls Try.prog 97 [.agg h.enc, .lptr true 4 [g.enc] 0 0] (.bool (gnB g.name h)) := by
 refine PCalls.of_code Try.func97 rfl rfl (by kernel_rfl) mixed fr97 (by show _ ≤ 9; simp) (.sc _) ?_
 refine pwp_seq_plain rfl fun K1 hK1 => ?_
 refine p_new rfl (e_box (n := 4) rfl rfl) ⟨rfl, by decide⟩ ?_
 refine p_aS rfl ?_
 refine p_end (hK1 _ ?_); clear hK1 K1
 refine pwp_seq_plain rfl fun K2 hK2 => ?_
 refine p_e rfl (e_faQ pl4 rfl) ?_
 refine p_e rfl (e_lH (v := .sc _) rfl (hset_self _ _ _) rfl) ?_
 refine p_e rfl (e_fb pl4 rfl) ?_
 refine p_e rfl (e_load (v := .sc _) rfl (by kernel_rfl) (by kernel_rfl) (by kernel_rfl) (by exact Nat.zero_lt_one) (by decide) rfl) ?_
 refine p_e rfl (e_seq rfl rfl) ?_
 refine p_aS rfl ?_
 refine p_end (hK2 _ ?_); clear hK2 K2
 refine pwp_ret ?_
 refine end1 (v := .sc _) rfl ?_
 exact out_b rfl

theorem fr122 : (inFrame Try.f122.ntmps (Try.f122.body.getD .skip) && Try.f122.results.toList.all (resScope Try.f122.ntmps)) = true := by kernel_rfl
theorem crewIxG (gs : List Gang) (g : Gang) (hlen : gs.length ≤ 1000000) : PCalls Try.prog 122 [.lit true 4 (gs.map Gang.enc), .func (.func 97) [] [.lptr true 4 [g.enc] 0 0]] (.int (ixA (gnB g.name) gs)) := by
 refine PCalls.of_code Try.func122 rfl rfl (by kernel_rfl) mixed fr122 (by show _ ≤ 19; simp) (.sc _) ?_
 refine pwp_seq_plain rfl fun K1 hK1 => ?_
 refine p_aS rfl ?_
 refine p_end (hK1 _ ?_); clear hK1 K1
 refine pwp_seq_seq ?_
 refine pwp_seq_plain rfl fun K2 hK2 => ?_
 refine p_e rfl (e_move (v := .lit _ _ _) rfl) ?_
 refine p_e rfl (e_len rfl (by kernel_rfl)) ?_
 refine p_mS rfl ?_
 refine p_end (hK2 _ ?_); clear hK2 K2
 refine pwp_seq_block fun K3 hK3 => ?_
 refine pwp_loopR (α := Nat) [0, 1, 7] (fun (k : Nat) => [(8, .int (k))]) (fun (k : Nat) (h : Heap) (_ : Nat → Nat) => ((k) ≤ gs.length) ∧ (∀ i, i < (k) → ∀ y, gs[i]? = some y → gnB g.name y = false)) (fun (k : Nat) => gs.length - (k)) (0) (by exact ⟨rfl, trivial⟩) (by exact ⟨by exact Nat.zero_le _, by exact nx_0⟩) fun k r4 h5 c6 hj7 => ?_
 obtain ⟨hk, hin⟩ := hj7
 try dsimp only at hk
 try dsimp only at hin
 show pwp _ _ (loopQ _ _ _) ⟨sets (mix _ _ _) [(8, .int k)], _, _⟩
 refine pwp_seq_plain rfl fun K8 hK8 => ?_
 refine p_e rfl (e_lt rfl rfl) ?_
 refine p_end (hK8 _ ?_); clear hK8 K8
 refine pwp_seq_cond rfl fun K9 hK9 => ⟨fun hb10 => ?_, fun hb10 => ?_⟩
 ·have hb10R := hb10; try simp only [zz] at hb10
  obtain ⟨x, hx, hd, ht⟩ := get_lt (xs := gs) (i := k) (by omega)
  refine pwp_skip ?_
  refine seq_norm (hK9 _ ?_); clear hK9 K9
  refine pwp_seq_block fun K11 hK11 => ?_
  refine pwp_seq_plain rfl fun K12 hK12 => ?_
  refine p_mS rfl ?_
  refine p_aS rfl ?_
  refine p_end (hK12 _ ?_); clear hK12 K12
  refine pwp_seq_plain rfl fun K13 hK13 => ?_
  refine p_e rfl (e_move (v := .func _ _ _) rfl) ?_
  refine p_e rfl (e_move (v := .lit _ _ _) rfl) ?_
  refine p_mS rfl ?_
  refine p_e rfl (e_ixL rfl rfl) ?_
  refine p_e rfl (e_loadA (n := 4) rfl (by kernel_rfl) (by kernel_rfl) (by kernel_rfl) (by first | omega | (simp only [List.length_map]; omega)) (by decide) (by first | exact agg_map hx rfl)) ?_
  refine p_call rfl (.cons (inn_agg (Gang.pure _)) (.cons inn_lptr .nil)) (crewF2 _ _) ?_
  refine p_end (hK13 _ ?_); clear hK13 K13
  refine pwp_cond rfl (fun hb14 => ?_) (fun hb14 => ?_)
  ·have hb14R := hb14; try simp only [zz] at hb14
   refine pwp_seq_plain rfl fun K15 hK15 => ?_
   refine p_mS rfl ?_
   refine p_aS rfl ?_
   refine p_end (hK15 _ ?_); clear hK15 K15
   refine pwp_ret ?_
   refine ret_block ?_
   refine ret_seq ?_
   refine ret_loop ?_
   refine ret_block ?_
   refine ret_seq ?_
   refine end1 (v := .sc _) rfl ?_
   exact out_i (ixA_hit (K := gnB g.name) hx hin (by assumption))
  have hb14R := hb14; try simp only [zz] at hb14
  refine pwp_skip ?_
  refine block_norm ?_
  refine seq_norm (hK11 _ ?_); clear hK11 K11
  refine pwp_plain rfl fun K16 hK16 => ?_
  refine p_e rfl (e_adL rfl rfl) ?_
  refine p_mS rfl ?_
  refine p_end (hK16 _ ?_); clear hK16 K16
  exact loop_again (k + 1) (by show _ < _; omega) ⟨rfl, rfl, rfl, trivial⟩ ⟨rfl, trivial⟩ (by exact ⟨by show _ + 1 ≤ _; simp only [List.length_map] at *; omega, by exact nx_step hin hx (by first | assumption | simpa using (by assumption))⟩)
 have hb10R := hb10; try simp only [zz] at hb10
 refine pwp_exit ?_
 refine exit_seq ?_
 clear hK9 K9
 refine exit_loop ?_
 refine exit_here ?_
 refine seq_norm (hK3 _ ?_); clear hK3 K3
 refine pwp_seq_plain rfl fun K17 hK17 => ?_
 refine p_aS rfl ?_
 refine p_end (hK17 _ ?_); clear hK17 K17
 refine pwp_ret ?_
 refine end1 (v := .sc _) rfl ?_
 exact out_i (ixA_no (K := gnB g.name) hin (by simp only [List.length_map] at *; omega))

theorem fr96 : (inFrame Try.f96.ntmps (Try.f96.body.getD .skip) && Try.f96.results.toList.all (resScope Try.f96.ntmps)) = true := by kernel_rfl
theorem crewAnyG (gs : List Gang) (g : Gang) (hlen : gs.length ≤ 1000000) : PCalls Try.prog 96 [.lit true 4 (gs.map Gang.enc), .func (.func 97) [] [.lptr true 4 [g.enc] 0 0]] (.bool (gs.any (gnB g.name))) := by
 refine PCalls.of_code Try.func96 rfl rfl (by kernel_rfl) mixed fr96 (by show _ ≤ 9; simp) (.sc _) ?_
 refine pwp_seq_plain rfl fun K1 hK1 => ?_
 refine p_aS rfl ?_
 refine p_end (hK1 _ ?_); clear hK1 K1
 refine pwp_seq_plain rfl fun K2 hK2 => ?_
 refine p_e rfl (e_move (v := .lit _ _ _) rfl) ?_
 refine p_e rfl (e_move (v := .func _ _ _) rfl) ?_
 refine p_call rfl (.cons inn_lit (.cons (inn_clos1 (.lptr id)) .nil)) (crewIxG gs g hlen) ?_
 refine p_e rfl (e_ge rfl rfl) ?_
 refine p_aS rfl ?_
 refine p_end (hK2 _ ?_); clear hK2 K2
 refine pwp_ret ?_
 refine end1 (v := .sc _) rfl ?_
 exact out_b ixA_any

theorem fr51 : (inFrame Try.f51.ntmps (Try.f51.body.getD .skip) && Try.f51.results.toList.all (resScope Try.f51.ntmps)) = true := by kernel_rfl
theorem CheckCrewC (c : Crew) (hgl : c.gangs.length ≤ 15) (hcl : c.closed.length ≤ 50) (hgf : GFair c.gangs) : PCalls Try.prog 51 [.agg c.enc] (.int (crewE c)) := by
 refine PCalls.of_code Try.func51 rfl rfl (by kernel_rfl) mixed fr51 (by show _ ≤ 89; simp) (.sc _) ?_
 refine pwp_seq_plain rfl fun K1 hK1 => ?_
 refine p_new rfl (e_box (n := 2) rfl rfl) ⟨rfl, by decide⟩ ?_
 refine p_aS rfl ?_
 refine p_end (hK1 _ ?_); clear hK1 K1
 refine pwp_seq_seq ?_
 refine pwp_seq_gops rfl fun K2 hK2 => ?_
 refine g_begin ?_
 refine g_e rfl (e_faQ pl2 rfl) ?_
 refine g_e rfl (e_lH (v := .lit _ _ _) rfl (hset_self _ _ _) rfl) ?_
 refine g_e rfl (e_len rfl (by kernel_rfl)) ?_
 refine g_call rfl rfl rfl rfl (.cons inn_sc (.cons inn_sc (.cons inn_sc .nil))) (within _ _ _) ?_
 refine g_e rfl (e_not rfl) ?_
 refine g_mS rfl rfl ?_
 refine g_cases (fun hb3 => ?_) (fun hb3 => ?_)
 ·have hb3R := hb3; try simp only [zz] at hb3
  iterate 4 refine g_skip rfl rfl rfl ?_
  refine g_pT rfl rfl rfl ?_
  refine g_end (ds := [13, 14, 15, 16]) rfl rfl (hK2 _ ?_); clear hK2 K2
  refine pwp_seq_cond (t := true) rfl fun K4 hK4 => ⟨fun _ => ?_, nofun⟩
  refine pwp_seq_plain rfl fun K5 hK5 => ?_
  refine p_aS rfl ?_
  refine p_end (hK5 _ ?_); clear hK5 K5
  refine pwp_ret ?_
  refine ret_seq ?_
  refine end1 (v := .sc _) rfl ?_
  exact out_i (crew_11 (by simp only [List.length_map] at *; omega))
 have hb3R := hb3; try simp only [zz] at hb3
 refine g_e rfl (e_faQ pl2 rfl) ?_
 refine g_e rfl (e_lH (v := .lit _ _ _) rfl (hset_self _ _ _) rfl) ?_
 refine g_e rfl (e_len rfl (by kernel_rfl)) ?_
 refine g_e rfl (e_gt rfl rfl) ?_
 refine g_pF rfl rfl rfl ?_
 refine g_end (ds := [13, 14, 15, 16]) rfl rfl (hK2 _ ?_); clear hK2 K2
 refine pwp_seq_cond rfl fun K6 hK6 => ⟨fun hb7 => ?_, fun hb7 => ?_⟩
 ·have hb7R := hb7; try simp only [zz] at hb7
  refine pwp_seq_plain rfl fun K8 hK8 => ?_
  refine p_aS rfl ?_
  refine p_end (hK8 _ ?_); clear hK8 K8
  refine pwp_ret ?_
  refine ret_seq ?_
  refine end1 (v := .sc _) rfl ?_
  exact out_i (crew_11 (by simp only [List.length_map] at *; omega))
 have hb7R := hb7; try simp only [zz] at hb7
 refine pwp_skip ?_
 refine seq_norm (hK6 _ ?_); clear hK6 K6
 refine pwp_seq_seq ?_
 have hsz : 1 ≤ c.gangs.length ∧ c.gangs.length ≤ 10 ∧ c.closed.length ≤ 40 := by simp only [List.length_map] at *; omega
 refine pwp_seq_plain rfl fun K9 hK9 => ?_
 refine p_e rfl (e_faQ pl2 rfl) ?_
 refine p_e rfl (e_lH (v := .lit _ _ _) rfl (hset_self _ _ _) rfl) ?_
 refine p_e rfl (e_len rfl (by kernel_rfl)) ?_
 refine p_mS rfl ?_
 refine p_end (hK9 _ ?_); clear hK9 K9
 refine pwp_seq_block fun K10 hK10 => ?_
 refine pwp_loopR (α := Nat) [1, 19, 20] (fun (k : Nat) => [(21, .int (k))]) (fun (k : Nat) (h : Heap) (_ : Nat → Nat) => ((k) ≤ c.gangs.length) ∧ (gangsF c.gangs 0 c.gangs = gangsF c.gangs (k) (c.gangs.drop (k))) ∧ (h (1, 0) = some (.rows 2 [Crew.enc c]))) (fun (k : Nat) => c.gangs.length - (k)) (0) (by exact ⟨rfl, trivial⟩) (by exact ⟨by exact Nat.zero_le _, by exact rfl, (hset_self _ _ _)⟩) fun k r11 h12 c13 hj14 => ?_
 obtain ⟨hk, hinv, hihj14_0⟩ := hj14
 try dsimp only at hk
 try dsimp only at hinv
 try dsimp only at hihj14_0
 show pwp _ _ (loopQ _ _ _) ⟨sets (mix _ _ _) [(21, .int k)], _, _⟩
 refine pwp_seq_plain rfl fun K15 hK15 => ?_
 refine p_e rfl (e_lt rfl rfl) ?_
 refine p_end (hK15 _ ?_); clear hK15 K15
 refine pwp_seq_cond rfl fun K16 hK16 => ⟨fun hb17 => ?_, fun hb17 => ?_⟩
 ·have hb17R := hb17; try simp only [zz] at hb17
  obtain ⟨g, hg, hd, ht⟩ := get_lt (xs := c.gangs) (i := k) (by omega)
  have hgx := hgf g (List.mem_of_getElem? hg)
  refine pwp_skip ?_
  refine seq_norm (hK16 _ ?_); clear hK16 K16
  refine pwp_seq_block fun K18 hK18 => ?_
  refine pwp_seq_plain rfl fun K19 hK19 => ?_
  refine p_mS rfl ?_
  refine p_e rfl (e_ixL rfl rfl) ?_
  refine p_e rfl (e_loadA (n := 4) rfl (by kernel_rfl) (by kernel_rfl) (by kernel_rfl) (by first | omega | (simp only [List.length_map]; omega)) (by decide) (by first | exact agg_map hg rfl)) ?_
  refine p_new rfl (e_alloc (cs := [.str ByteArray.empty, .nil, .int 0, .int 0]) (n := 4) (by kernel_rfl) rfl (by decide)) (ob_alloc (by decide)) ?_
  refine p_aS rfl ?_
  refine p_store rfl (e_storeA rfl (hset_self _ _ _) rfl rfl rfl (by kernel_rfl) rfl (by kernel_rfl)) trivial ?_
  refine p_end (hK19 _ ?_); clear hK19 K19
  refine pwp_block ?_
  refine pwp_seq_gops rfl fun K20 hK20 => ?_
  refine g_begin ?_
  refine g_e rfl (e_faQ pl4 rfl) ?_
  refine g_e rfl (e_lH (v := .sc _) rfl (hset_self _ _ _) rfl) ?_
  refine g_call rfl rfl rfl rfl (.cons inn_sc .nil) (isName _ (by omega)) ?_
  refine g_e rfl (e_not rfl) ?_
  refine g_mS rfl rfl ?_
  refine g_cases (fun hb21 => ?_) (fun hb21 => ?_)
  ·have hb21R := hb21; try simp only [zz] at hb21
   iterate 2 refine g_skip rfl rfl rfl ?_
   refine g_nocall rfl rfl rfl ?_
   refine g_pT rfl rfl rfl ?_
   refine g_aS rfl rfl ?_
   refine g_end (ds := [32, 33, 34]) rfl rfl (hK20 _ ?_); clear hK20 K20
   refine pwp_cond (t := true) rfl (fun _ => ?_) nofun
   refine pwp_seq_plain rfl fun K22 hK22 => ?_
   refine p_aS rfl ?_
   refine p_end (hK22 _ ?_); clear hK22 K22
   refine pwp_ret ?_
   refine ret_block ?_
   refine ret_block ?_
   refine ret_seq ?_
   refine ret_loop ?_
   refine ret_block ?_
   refine ret_seq ?_
   refine end1 (v := .sc _) rfl ?_
   exact out_i (crew_g hsz hinv hd (gangE_4 (by first | exact .inl (by assumption) | exact .inr (by assumption))) (by decide))
  have hb21R := hb21; try simp only [zz] at hb21
  refine g_e rfl (e_faQ pl4 rfl) ?_
  refine g_e rfl (e_lH (v := .lit _ _ _) rfl (hset_self _ _ _) rfl) ?_
  refine g_call rfl rfl rfl rfl (.cons inn_lit (.cons inn_func0 .nil)) (crewAny g.trades (by omega) (fun s hs => by have := hgx.2.2 s hs; omega)) ?_
  refine g_pF rfl rfl rfl ?_
  refine g_aS rfl rfl ?_
  refine g_end (ds := [32, 33, 34]) rfl rfl (hK20 _ ?_); clear hK20 K20
  refine pwp_cond rfl (fun hb23 => ?_) (fun hb23 => ?_)
  ·have hb23R := hb23; try simp only [zz] at hb23
   refine pwp_seq_plain rfl fun K24 hK24 => ?_
   refine p_aS rfl ?_
   refine p_end (hK24 _ ?_); clear hK24 K24
   refine pwp_ret ?_
   refine ret_block ?_
   refine ret_block ?_
   refine ret_seq ?_
   refine ret_loop ?_
   refine ret_block ?_
   refine ret_seq ?_
   refine end1 (v := .sc _) rfl ?_
   exact out_i (crew_g hsz hinv hd (gangE_4 (by first | exact .inl (by assumption) | exact .inr (by assumption))) (by decide))
  have hb23R := hb23; try simp only [zz] at hb23
  refine pwp_seq_plain rfl fun K25 hK25 => ?_
  refine p_e rfl (e_faQ pl2 rfl) ?_
  refine p_e rfl (e_lH (v := .lit _ _ _) rfl ((hset_ne (key_ne rfl)).trans ((hset_ne (key_ne rfl)).trans hihj14_0)) rfl) ?_
  refine p_mS rfl ?_
  refine p_e rfl (e_upto (n := k) rfl rfl rfl (by omega) (by kernel_rfl) (by kernel_rfl)) ?_
  refine p_e rfl (e_mkf rfl) ?_
  refine p_call rfl (.cons inn_lit (.cons (inn_clos1 (inn_ptr (hset_self _ _ _) (fun row hr => by rw [List.mem_singleton.1 hr]; exact Gang.pure _))) .nil)) (crewAnyG (c.gangs.take k) g (by rw [List.length_take]; omega)) ?_
  refine p_aS rfl ?_
  refine p_end (hK25 _ ?_); clear hK25 K25
  refine pwp_cond rfl (fun hb26 => ?_) (fun hb26 => ?_)
  ·have hb26R := hb26; try simp only [zz] at hb26
   refine pwp_seq_plain rfl fun K27 hK27 => ?_
   refine p_aS rfl ?_
   refine p_end (hK27 _ ?_); clear hK27 K27
   refine pwp_ret ?_
   refine ret_block ?_
   refine ret_block ?_
   refine ret_seq ?_
   refine ret_loop ?_
   refine ret_block ?_
   refine ret_seq ?_
   refine end1 (v := .sc _) rfl ?_
   exact out_i (crew_g hsz hinv hd (gangE_5 (by assumption) (by assumption) (by assumption)) (by decide))
  have hb26R := hb26; try simp only [zz] at hb26
  refine pwp_seq_gops rfl fun K28 hK28 => ?_
  refine g_begin ?_
  refine g_e rfl (e_faQ pl4 rfl) ?_
  refine g_e rfl (e_lH (v := .sc _) rfl (hset_self _ _ _) rfl) ?_
  refine g_e rfl (e_lt rfl rfl) ?_
  refine g_mS rfl rfl ?_
  refine g_cases (fun hb29 => ?_) (fun hb29 => ?_)
  ·have hb29R := hb29; try simp only [zz] at hb29
   iterate 5 refine g_skip rfl rfl rfl ?_
   refine g_pT rfl rfl rfl ?_
   refine g_mS rfl rfl ?_
   iterate 3 refine g_skip rfl rfl rfl ?_
   refine g_pT rfl rfl rfl ?_
   refine g_aS rfl rfl ?_
   refine g_end (ds := [48, 49, 50, 51, 52, 55, 56, 57]) rfl rfl (hK28 _ ?_); clear hK28 K28
   refine pwp_cond (t := true) rfl (fun _ => ?_) nofun
   refine pwp_seq_plain rfl fun K30 hK30 => ?_
   refine p_aS rfl ?_
   refine p_end (hK30 _ ?_); clear hK30 K30
   refine pwp_ret ?_
   refine ret_block ?_
   refine ret_block ?_
   refine ret_seq ?_
   refine ret_loop ?_
   refine ret_block ?_
   refine ret_seq ?_
   refine end1 (v := .sc _) rfl ?_
   exact out_i (crew_g hsz hinv hd (gangE_2 (by assumption) (by assumption) (by assumption) (by unfold grng; omega)) (by decide))
  have hb29R := hb29; try simp only [zz] at hb29
  refine g_e rfl (e_faQ pl4 rfl) ?_
  refine g_e rfl (e_lH (v := .sc _) rfl (hset_self _ _ _) rfl) ?_
  refine g_e rfl (e_faQ pl4 rfl) ?_
  refine g_e rfl (e_lH (v := .sc _) rfl (hset_self _ _ _) rfl) ?_
  refine g_e rfl (e_gt rfl rfl) ?_
  refine g_pF rfl rfl rfl ?_
  refine g_mS rfl rfl ?_
  refine g_cases (fun hb31 => ?_) (fun hb31 => ?_)
  ·have hb31R := hb31; try simp only [zz] at hb31
   iterate 3 refine g_skip rfl rfl rfl ?_
   refine g_pT rfl rfl rfl ?_
   refine g_aS rfl rfl ?_
   refine g_end (ds := [48, 49, 50, 51, 52, 55, 56, 57]) rfl rfl (hK28 _ ?_); clear hK28 K28
   refine pwp_cond (t := true) rfl (fun _ => ?_) nofun
   refine pwp_seq_plain rfl fun K32 hK32 => ?_
   refine p_aS rfl ?_
   refine p_end (hK32 _ ?_); clear hK32 K32
   refine pwp_ret ?_
   refine ret_block ?_
   refine ret_block ?_
   refine ret_seq ?_
   refine ret_loop ?_
   refine ret_block ?_
   refine ret_seq ?_
   refine end1 (v := .sc _) rfl ?_
   exact out_i (crew_g hsz hinv hd (gangE_2 (by assumption) (by assumption) (by assumption) (by unfold grng; omega)) (by decide))
  have hb31R := hb31; try simp only [zz] at hb31
  refine g_e rfl (e_faQ pl4 rfl) ?_
  refine g_e rfl (e_lH (v := .sc _) rfl (hset_self _ _ _) rfl) ?_
  refine g_e rfl (e_gt rfl rfl) ?_
  refine g_pF rfl rfl rfl ?_
  refine g_aS rfl rfl ?_
  refine g_end (ds := [48, 49, 50, 51, 52, 55, 56, 57]) rfl rfl (hK28 _ ?_); clear hK28 K28
  refine pwp_cond rfl (fun hb33 => ?_) (fun hb33 => ?_)
  ·have hb33R := hb33; try simp only [zz] at hb33
   refine pwp_seq_plain rfl fun K34 hK34 => ?_
   refine p_aS rfl ?_
   refine p_end (hK34 _ ?_); clear hK34 K34
   refine pwp_ret ?_
   refine ret_block ?_
   refine ret_block ?_
   refine ret_seq ?_
   refine ret_loop ?_
   refine ret_block ?_
   refine ret_seq ?_
   refine end1 (v := .sc _) rfl ?_
   exact out_i (crew_g hsz hinv hd (gangE_2 (by assumption) (by assumption) (by assumption) (by unfold grng; omega)) (by decide))
  have hb33R := hb33; try simp only [zz] at hb33
  refine pwp_skip ?_
  refine block_norm ?_
  refine block_norm ?_
  refine seq_norm (hK18 _ ?_); clear hK18 K18
  refine pwp_plain rfl fun K35 hK35 => ?_
  refine p_e rfl (e_adL rfl rfl) ?_
  refine p_mS rfl ?_
  refine p_end (hK35 _ ?_); clear hK35 K35
  exact loop_again (k + 1) (by show _ < _; omega) ⟨rfl, rfl, rfl, trivial⟩ ⟨rfl, trivial⟩ (by exact ⟨by show _ + 1 ≤ _; simp only [List.length_map] at *; omega, by exact gangs_go hinv hd (gangE_0 (by assumption) (by assumption) (by assumption) (by unfold grng; omega)), ((hset_ne (key_ne rfl)).trans ((hset_ne (key_ne rfl)).trans hihj14_0))⟩)
 have hb17R := hb17; try simp only [zz] at hb17
 have hT := gangs_all hinv (by simp only [List.length_map] at *; omega)
 refine pwp_exit ?_
 refine exit_seq ?_
 clear hK16 K16
 refine exit_loop ?_
 refine exit_here ?_
 refine seq_norm (hK10 _ ?_); clear hK10 K10
 refine pwp_seq_seq ?_
 refine pwp_seq_plain rfl fun K36 hK36 => ?_
 refine p_e rfl (e_faQ pl2 rfl) ?_
 refine p_e rfl (e_lH (v := .lit _ _ _) rfl hihj14_0 rfl) ?_
 refine p_e rfl (e_len rfl (by kernel_rfl)) ?_
 refine p_mS rfl ?_
 refine p_end (hK36 _ ?_); clear hK36 K36
 refine pwp_seq_block fun K37 hK37 => ?_
 refine pwp_loopR (α := Nat) [61, 62] (fun (k : Nat) => [(63, .int (k))]) (fun (k : Nat) (h : Heap) (_ : Nat → Nat) => ((k) ≤ c.closed.length) ∧ (∀ i, i < (k) → ∀ y, c.closed[i]? = some y → crng y)) (fun (k : Nat) => c.closed.length - (k)) (0) (by exact ⟨rfl, trivial⟩) (by exact ⟨by exact Nat.zero_le _, by exact fun i h => absurd h (Nat.not_lt_zero _)⟩) fun k r38 h39 c40 hj41 => ?_
 obtain ⟨hk, hcx⟩ := hj41
 try dsimp only at hk
 try dsimp only at hcx
 show pwp _ _ (loopQ _ _ _) ⟨sets (mix _ _ _) [(63, .int k)], _, _⟩
 refine pwp_seq_plain rfl fun K42 hK42 => ?_
 refine p_e rfl (e_lt rfl rfl) ?_
 refine p_end (hK42 _ ?_); clear hK42 K42
 refine pwp_seq_cond rfl fun K43 hK43 => ⟨fun hb44 => ?_, fun hb44 => ?_⟩
 ·have hb44R := hb44; try simp only [zz] at hb44
  obtain ⟨x, hx, hd, ht⟩ := get_lt (xs := c.closed) (i := k) (by omega)
  refine pwp_skip ?_
  refine seq_norm (hK43 _ ?_); clear hK43 K43
  refine pwp_seq_block fun K45 hK45 => ?_
  refine pwp_seq_plain rfl fun K46 hK46 => ?_
  refine p_e rfl (e_ixL rfl rfl) ?_
  refine p_e rfl (e_loadA (n := 3) rfl (by kernel_rfl) (by kernel_rfl) (by kernel_rfl) (by first | omega | (simp only [List.length_map]; omega)) (by decide) (by first | exact agg_map hx rfl)) ?_
  refine p_new rfl (e_alloc (cs := [.int 0, .int 0, .int 0]) (n := 3) (by kernel_rfl) rfl (by decide)) (ob_alloc (by decide)) ?_
  refine p_store rfl (e_storeA rfl (hset_self _ _ _) rfl rfl rfl (by kernel_rfl) rfl (by kernel_rfl)) trivial ?_
  refine p_end (hK46 _ ?_); clear hK46 K46
  refine pwp_seq_gops rfl fun K47 hK47 => ?_
  refine g_begin ?_
  refine g_e rfl (e_faQ pl3 rfl) ?_
  refine g_e rfl (e_lH (v := .sc _) rfl (hset_self _ _ _) rfl) ?_
  refine g_call rfl rfl rfl rfl (.cons inn_sc (.cons inn_sc (.cons inn_sc .nil))) (within _ _ _) ?_
  refine g_e rfl (e_not rfl) ?_
  refine g_mS rfl rfl ?_
  refine g_cases (fun hb48 => ?_) (fun hb48 => ?_)
  ·have hb48R := hb48; try simp only [zz] at hb48
   iterate 3 refine g_skip rfl rfl rfl ?_
   refine g_pT rfl rfl rfl ?_
   refine g_mS rfl rfl ?_
   iterate 5 refine g_skip rfl rfl rfl ?_
   refine g_pT rfl rfl rfl ?_
   refine g_mS rfl rfl ?_
   iterate 3 refine g_skip rfl rfl rfl ?_
   refine g_pT rfl rfl rfl ?_
   refine g_end (ds := [72, 73, 74, 77, 78, 79, 80, 81, 84, 85, 86]) rfl rfl (hK47 _ ?_); clear hK47 K47
   refine pwp_cond (t := true) rfl (fun _ => ?_) nofun
   refine pwp_seq_plain rfl fun K49 hK49 => ?_
   refine p_aS rfl ?_
   refine p_end (hK49 _ ?_); clear hK49 K49
   refine pwp_ret ?_
   refine ret_block ?_
   refine ret_seq ?_
   refine ret_loop ?_
   refine ret_block ?_
   refine ret_seq ?_
   refine end1 (v := .sc _) rfl ?_
   exact out_i (crew_c hsz hT hx (by unfold crng; omega))
  have hb48R := hb48; try simp only [zz] at hb48
  refine g_e rfl (e_faQ pl3 rfl) ?_
  refine g_e rfl (e_lH (v := .sc _) rfl (hset_self _ _ _) rfl) ?_
  refine g_e rfl (e_lt rfl rfl) ?_
  refine g_pF rfl rfl rfl ?_
  refine g_mS rfl rfl ?_
  refine g_cases (fun hb50 => ?_) (fun hb50 => ?_)
  ·have hb50R := hb50; try simp only [zz] at hb50
   iterate 5 refine g_skip rfl rfl rfl ?_
   refine g_pT rfl rfl rfl ?_
   refine g_mS rfl rfl ?_
   iterate 3 refine g_skip rfl rfl rfl ?_
   refine g_pT rfl rfl rfl ?_
   refine g_end (ds := [72, 73, 74, 77, 78, 79, 80, 81, 84, 85, 86]) rfl rfl (hK47 _ ?_); clear hK47 K47
   refine pwp_cond (t := true) rfl (fun _ => ?_) nofun
   refine pwp_seq_plain rfl fun K51 hK51 => ?_
   refine p_aS rfl ?_
   refine p_end (hK51 _ ?_); clear hK51 K51
   refine pwp_ret ?_
   refine ret_block ?_
   refine ret_seq ?_
   refine ret_loop ?_
   refine ret_block ?_
   refine ret_seq ?_
   refine end1 (v := .sc _) rfl ?_
   exact out_i (crew_c hsz hT hx (by unfold crng; omega))
  have hb50R := hb50; try simp only [zz] at hb50
  refine g_e rfl (e_faQ pl3 rfl) ?_
  refine g_e rfl (e_lH (v := .sc _) rfl (hset_self _ _ _) rfl) ?_
  refine g_e rfl (e_faQ pl3 rfl) ?_
  refine g_e rfl (e_lH (v := .sc _) rfl (hset_self _ _ _) rfl) ?_
  refine g_e rfl (e_gt rfl rfl) ?_
  refine g_pF rfl rfl rfl ?_
  refine g_mS rfl rfl ?_
  refine g_cases (fun hb52 => ?_) (fun hb52 => ?_)
  ·have hb52R := hb52; try simp only [zz] at hb52
   iterate 3 refine g_skip rfl rfl rfl ?_
   refine g_pT rfl rfl rfl ?_
   refine g_end (ds := [72, 73, 74, 77, 78, 79, 80, 81, 84, 85, 86]) rfl rfl (hK47 _ ?_); clear hK47 K47
   refine pwp_cond (t := true) rfl (fun _ => ?_) nofun
   refine pwp_seq_plain rfl fun K53 hK53 => ?_
   refine p_aS rfl ?_
   refine p_end (hK53 _ ?_); clear hK53 K53
   refine pwp_ret ?_
   refine ret_block ?_
   refine ret_seq ?_
   refine ret_loop ?_
   refine ret_block ?_
   refine ret_seq ?_
   refine end1 (v := .sc _) rfl ?_
   exact out_i (crew_c hsz hT hx (by unfold crng; omega))
  have hb52R := hb52; try simp only [zz] at hb52
  refine g_e rfl (e_faQ pl3 rfl) ?_
  refine g_e rfl (e_lH (v := .sc _) rfl (hset_self _ _ _) rfl) ?_
  refine g_e rfl (e_gt rfl rfl) ?_
  refine g_pF rfl rfl rfl ?_
  refine g_end (ds := [72, 73, 74, 77, 78, 79, 80, 81, 84, 85, 86]) rfl rfl (hK47 _ ?_); clear hK47 K47
  refine pwp_cond rfl (fun hb54 => ?_) (fun hb54 => ?_)
  ·have hb54R := hb54; try simp only [zz] at hb54
   refine pwp_seq_plain rfl fun K55 hK55 => ?_
   refine p_aS rfl ?_
   refine p_end (hK55 _ ?_); clear hK55 K55
   refine pwp_ret ?_
   refine ret_block ?_
   refine ret_seq ?_
   refine ret_loop ?_
   refine ret_block ?_
   refine ret_seq ?_
   refine end1 (v := .sc _) rfl ?_
   exact out_i (crew_c hsz hT hx (by unfold crng; omega))
  have hb54R := hb54; try simp only [zz] at hb54
  refine pwp_skip ?_
  refine block_norm ?_
  refine seq_norm (hK45 _ ?_); clear hK45 K45
  refine pwp_plain rfl fun K56 hK56 => ?_
  refine p_e rfl (e_adL rfl rfl) ?_
  refine p_mS rfl ?_
  refine p_end (hK56 _ ?_); clear hK56 K56
  exact loop_again (k + 1) (by show _ < _; omega) ⟨rfl, rfl, trivial⟩ ⟨rfl, trivial⟩ (by exact ⟨by show _ + 1 ≤ _; simp only [List.length_map] at *; omega, by exact cx_step hcx hx (by unfold crng; omega)⟩)
 have hb44R := hb44; try simp only [zz] at hb44
 refine pwp_exit ?_
 refine exit_seq ?_
 clear hK43 K43
 refine exit_loop ?_
 refine exit_here ?_
 refine seq_norm (hK37 _ ?_); clear hK37 K37
 refine pwp_seq_plain rfl fun K57 hK57 => ?_
 refine p_aS rfl ?_
 refine p_end (hK57 _ ?_); clear hK57 K57
 refine pwp_ret ?_
 refine end1 (v := .sc _) rfl ?_
 exact out_i (crew_0 hsz hT hcx (by simp only [List.length_map] at *; omega))

theorem fr50 : (inFrame Try.f50.ntmps (Try.f50.body.getD .skip) && Try.f50.results.toList.all (resScope Try.f50.ntmps)) = true := by kernel_rfl
theorem refCrewC (c : Crew) (hgl : c.gangs.length ≤ 15) (hcl : c.closed.length ≤ 50) (hgf : GFair c.gangs) : PCalls Try.prog 50 [.agg c.enc] (.int (crewE c)) := by
 refine PCalls.of_code Try.func50 rfl rfl (by kernel_rfl) mixed fr50 (by show _ ≤ 104; simp) (.sc _) ?_
 refine pwp_seq_plain rfl fun K1 hK1 => ?_
 refine p_new rfl (e_box (n := 2) rfl rfl) ⟨rfl, by decide⟩ ?_
 refine p_aS rfl ?_
 refine p_end (hK1 _ ?_); clear hK1 K1
 refine pwp_seq_seq ?_
 refine pwp_seq_gops rfl fun K2 hK2 => ?_
 refine g_begin ?_
 refine g_e rfl (e_faQ pl2 rfl) ?_
 refine g_e rfl (e_lH (v := .lit _ _ _) rfl (hset_self _ _ _) rfl) ?_
 refine g_e rfl (e_len rfl (by kernel_rfl)) ?_
 refine g_call rfl rfl rfl rfl (.cons inn_sc (.cons inn_sc (.cons inn_sc .nil))) (Within _ _ _) ?_
 refine g_e rfl (e_not rfl) ?_
 refine g_mS rfl rfl ?_
 refine g_cases (fun hb3 => ?_) (fun hb3 => ?_)
 ·have hb3R := hb3; try simp only [zz] at hb3
  iterate 4 refine g_skip rfl rfl rfl ?_
  refine g_pT rfl rfl rfl ?_
  refine g_end (ds := [15, 16, 17, 18]) rfl rfl (hK2 _ ?_); clear hK2 K2
  refine pwp_seq_cond (t := true) rfl fun K4 hK4 => ⟨fun _ => ?_, nofun⟩
  refine pwp_seq_plain rfl fun K5 hK5 => ?_
  refine p_aS rfl ?_
  refine p_end (hK5 _ ?_); clear hK5 K5
  refine pwp_ret ?_
  refine ret_seq ?_
  refine end1 (v := .sc _) rfl ?_
  exact out_i (crew_11 (by simp only [List.length_map] at *; omega))
 have hb3R := hb3; try simp only [zz] at hb3
 refine g_e rfl (e_faQ pl2 rfl) ?_
 refine g_e rfl (e_lH (v := .lit _ _ _) rfl (hset_self _ _ _) rfl) ?_
 refine g_e rfl (e_len rfl (by kernel_rfl)) ?_
 refine g_e rfl (e_gt rfl rfl) ?_
 refine g_pF rfl rfl rfl ?_
 refine g_end (ds := [15, 16, 17, 18]) rfl rfl (hK2 _ ?_); clear hK2 K2
 refine pwp_seq_cond rfl fun K6 hK6 => ⟨fun hb7 => ?_, fun hb7 => ?_⟩
 ·have hb7R := hb7; try simp only [zz] at hb7
  refine pwp_seq_plain rfl fun K8 hK8 => ?_
  refine p_aS rfl ?_
  refine p_end (hK8 _ ?_); clear hK8 K8
  refine pwp_ret ?_
  refine ret_seq ?_
  refine end1 (v := .sc _) rfl ?_
  exact out_i (crew_11 (by simp only [List.length_map] at *; omega))
 have hb7R := hb7; try simp only [zz] at hb7
 refine pwp_skip ?_
 refine seq_norm (hK6 _ ?_); clear hK6 K6
 refine pwp_seq_seq ?_
 have hsz : 1 ≤ c.gangs.length ∧ c.gangs.length ≤ 10 ∧ c.closed.length ≤ 40 := by simp only [List.length_map] at *; omega
 refine pwp_seq_plain rfl fun K9 hK9 => ?_
 refine p_aS rfl ?_
 refine p_end (hK9 _ ?_); clear hK9 K9
 refine pwp_seq_block fun K10 hK10 => ?_
 refine pwp_loopR (α := Nat) [1] (fun (k : Nat) => [(3, .int (k))]) (fun (k : Nat) (h : Heap) (_ : Nat → Nat) => ((k) ≤ c.gangs.length) ∧ (gangsF c.gangs 0 c.gangs = gangsF c.gangs (k) (c.gangs.drop (k))) ∧ (h (1, 0) = some (.rows 2 [Crew.enc c]))) (fun (k : Nat) => c.gangs.length - (k)) (0) (by exact ⟨rfl, trivial⟩) (by exact ⟨by exact Nat.zero_le _, by exact rfl, (hset_self _ _ _)⟩) fun k r11 h12 c13 hj14 => ?_
 obtain ⟨hk, hinv, hihj14_0⟩ := hj14
 try dsimp only at hk
 try dsimp only at hinv
 try dsimp only at hihj14_0
 show pwp _ _ (loopQ _ _ _) ⟨sets (mix _ _ _) [(3, .int k)], _, _⟩
 refine pwp_seq_seq ?_
 refine pwp_seq_plain rfl fun K15 hK15 => ?_
 refine p_mS rfl ?_
 refine p_e rfl (e_faQ pl2 rfl) ?_
 refine p_e rfl (e_lH (v := .lit _ _ _) rfl hihj14_0 rfl) ?_
 refine p_e rfl (e_len rfl (by kernel_rfl)) ?_
 refine p_e rfl (e_lt rfl rfl) ?_
 refine p_end (hK15 _ ?_); clear hK15 K15
 refine pwp_seq_cond rfl fun K16 hK16 => ⟨fun hb17 => ?_, fun hb17 => ?_⟩
 ·have hb17R := hb17; try simp only [zz] at hb17
  obtain ⟨g, hg, hd, ht⟩ := get_lt (xs := c.gangs) (i := k) (by omega)
  have hgx := hgf g (List.mem_of_getElem? hg)
  refine pwp_skip ?_
  refine seq_norm (hK16 _ ?_); clear hK16 K16
  refine pwp_seq_block fun K18 hK18 => ?_
  refine pwp_seq_plain rfl fun K19 hK19 => ?_
  refine p_e rfl (e_faQ pl2 rfl) ?_
  refine p_e rfl (e_lH (v := .lit _ _ _) rfl hihj14_0 rfl) ?_
  refine p_mS rfl ?_
  refine p_e rfl (e_ixL rfl rfl) ?_
  refine p_e rfl (e_loadA (n := 4) rfl (by kernel_rfl) (by kernel_rfl) (by kernel_rfl) (by first | omega | (simp only [List.length_map]; omega)) (by decide) (by first | exact agg_map hg rfl)) ?_
  refine p_new rfl (e_alloc (cs := [.str ByteArray.empty, .nil, .int 0, .int 0]) (n := 4) (by kernel_rfl) rfl (by decide)) (ob_alloc (by decide)) ?_
  refine p_store rfl (e_storeA rfl (hset_self _ _ _) rfl rfl rfl (by kernel_rfl) rfl (by kernel_rfl)) trivial ?_
  refine p_end (hK19 _ ?_); clear hK19 K19
  refine pwp_seq_seq ?_
  refine pwp_seq_plain rfl fun K20 hK20 => ?_
  refine p_e rfl (e_faQ pl4 rfl) ?_
  refine p_e rfl (e_lH (v := .sc _) rfl (hset_self _ _ _) rfl) ?_
  refine p_call rfl (.cons inn_sc .nil) (IsName _) ?_
  refine p_e rfl (e_not rfl) ?_
  refine p_end (hK20 _ ?_); clear hK20 K20
  refine pwp_seq_cond rfl fun K21 hK21 => ⟨fun hb22 => ?_, fun hb22 => ?_⟩
  ·have hb22R := hb22; try simp only [zz] at hb22
   refine pwp_seq_plain rfl fun K23 hK23 => ?_
   refine p_aS rfl ?_
   refine p_end (hK23 _ ?_); clear hK23 K23
   refine pwp_ret ?_
   refine ret_seq ?_
   refine ret_block ?_
   refine ret_seq ?_
   refine ret_loop ?_
   refine ret_block ?_
   refine ret_seq ?_
   refine end1 (v := .sc _) rfl ?_
   exact out_i (crew_g hsz hinv hd (gangE_4 (.inl (by assumption))) (by decide))
  have hb22R := hb22; try simp only [zz] at hb22
  refine pwp_skip ?_
  refine seq_norm (hK21 _ ?_); clear hK21 K21
  refine pwp_seq_seq ?_
  refine pwp_seq_plain rfl fun K24 hK24 => ?_
  refine p_aS rfl ?_
  refine p_end (hK24 _ ?_); clear hK24 K24
  refine pwp_seq_block fun K25 hK25 => ?_
  refine pwp_loopR (α := Nat) [1, 3, 4] (fun (j : Nat) => [(5, .int (j))]) (fun (j : Nat) (h : Heap) (_ : Nat → Nat) => ((j) ≤ g.trades.length) ∧ (∀ i, i < (j) → ∀ y, g.trades[i]? = some y → nmB y = false) ∧ (h (1, 0) = some (.rows 2 [Crew.enc c])) ∧ (h (4, c13 4) = some (.rows 4 [Gang.enc g]))) (fun (j : Nat) => g.trades.length - (j)) (0) (by exact ⟨rfl, trivial⟩) (by exact ⟨by exact Nat.zero_le _, by exact nx_0, ((hset_ne (key_ne rfl)).trans ((hset_ne (key_ne rfl)).trans hihj14_0)), (hset_self _ _ _)⟩) fun j r26 h27 c28 hj29 => ?_
  obtain ⟨hj, hnm, hihj29_0, hihj29_1⟩ := hj29
  try dsimp only at hj
  try dsimp only at hnm
  try dsimp only at hihj29_0
  try dsimp only at hihj29_1
  show pwp _ _ (loopQ _ _ _) ⟨sets (mix _ _ _) [(5, .int j)], _, _⟩
  refine pwp_seq_seq ?_
  refine pwp_seq_plain rfl fun K30 hK30 => ?_
  refine p_mS rfl ?_
  refine p_e rfl (e_faQ pl4 rfl) ?_
  refine p_e rfl (e_lH (v := .lit _ _ _) rfl hihj29_1 rfl) ?_
  refine p_e rfl (e_len rfl (by kernel_rfl)) ?_
  refine p_e rfl (e_lt rfl rfl) ?_
  refine p_end (hK30 _ ?_); clear hK30 K30
  refine pwp_seq_cond rfl fun K31 hK31 => ⟨fun hb32 => ?_, fun hb32 => ?_⟩
  ·have hb32R := hb32; try simp only [zz] at hb32
   obtain ⟨s, hs, hds, hts⟩ := get_lt (xs := g.trades) (i := j) (by omega)
   refine pwp_skip ?_
   refine seq_norm (hK31 _ ?_); clear hK31 K31
   refine pwp_seq_block fun K33 hK33 => ?_
   refine pwp_seq_plain rfl fun K34 hK34 => ?_
   refine p_e rfl (e_faQ pl4 rfl) ?_
   refine p_e rfl (e_lH (v := .lit _ _ _) rfl hihj29_1 rfl) ?_
   refine p_mS rfl ?_
   refine p_e rfl (e_ixL rfl rfl) ?_
   refine p_e rfl (e_load (v := .sc _) rfl (by kernel_rfl) (by kernel_rfl) (by kernel_rfl) (by first | omega | (simp only [List.length_map]; omega)) (by decide) ((cell_map hs _).trans rfl)) ?_
   refine p_call rfl (.cons inn_sc .nil) (IsName _) ?_
   refine p_e rfl (e_not rfl) ?_
   refine p_end (hK34 _ ?_); clear hK34 K34
   refine pwp_cond rfl (fun hb35 => ?_) (fun hb35 => ?_)
   ·have hb35R := hb35; try simp only [zz] at hb35
    refine pwp_seq_plain rfl fun K36 hK36 => ?_
    refine p_aS rfl ?_
    refine p_end (hK36 _ ?_); clear hK36 K36
    refine pwp_ret ?_
    refine ret_block ?_
    refine ret_seq ?_
    refine ret_loop ?_
    refine ret_block ?_
    refine ret_seq ?_
    refine ret_block ?_
    refine ret_seq ?_
    refine ret_loop ?_
    refine ret_block ?_
    refine ret_seq ?_
    refine end1 (v := .sc _) rfl ?_
    exact out_i (crew_g hsz hinv hd (gangE_4 (.inr (any_nm hs (by assumption)))) (by decide))
   have hb35R := hb35; try simp only [zz] at hb35
   refine pwp_skip ?_
   refine block_norm ?_
   refine seq_norm (hK33 _ ?_); clear hK33 K33
   refine pwp_plain rfl fun K37 hK37 => ?_
   refine p_mS rfl ?_
   refine p_e rfl (e_adL rfl rfl) ?_
   refine p_aS rfl ?_
   refine p_end (hK37 _ ?_); clear hK37 K37
   exact loop_again (j + 1) (by show _ < _; omega) ⟨rfl, rfl, rfl, trivial⟩ ⟨rfl, trivial⟩ (by exact ⟨by show _ + 1 ≤ _; simp only [List.length_map] at *; omega, by exact nx_step hnm hs (by rw [nmB]; simp_all), hihj29_0, hihj29_1⟩)
  have hb32R := hb32; try simp only [zz] at hb32
  have hany := any_ok hnm (by simp only [List.length_map] at *; omega)
  refine pwp_exit ?_
  refine exit_seq ?_
  clear hK31 K31
  refine exit_loop ?_
  refine exit_here ?_
  refine seq_norm (hK25 _ ?_); clear hK25 K25
  refine pwp_seq_seq ?_
  refine pwp_seq_plain rfl fun K38 hK38 => ?_
  refine p_aS rfl ?_
  refine p_end (hK38 _ ?_); clear hK38 K38
  refine pwp_seq_block fun K39 hK39 => ?_
  refine pwp_loopR (α := Nat) [1, 3, 4] (fun (j : Nat) => [(6, .int (j))]) (fun (j : Nat) (h : Heap) (_ : Nat → Nat) => ((j) ≤ k) ∧ (∀ i, i < (j) → ∀ y, c.gangs[i]? = some y → decide (y.name = g.name) = false) ∧ (h (1, 0) = some (.rows 2 [Crew.enc c])) ∧ (h (4, c13 4) = some (.rows 4 [Gang.enc g]))) (fun (j : Nat) => k - (j)) (0) (by exact ⟨rfl, trivial⟩) (by exact ⟨by exact Nat.zero_le _, by exact fun i h => absurd h (Nat.not_lt_zero _), hihj29_0, hihj29_1⟩) fun j r40 h41 c42 hj43 => ?_
  obtain ⟨hj, hdn, hihj43_0, hihj43_1⟩ := hj43
  try dsimp only at hj
  try dsimp only at hdn
  try dsimp only at hihj43_0
  try dsimp only at hihj43_1
  show pwp _ _ (loopQ _ _ _) ⟨sets (mix _ _ _) [(6, .int j)], _, _⟩
  refine pwp_seq_seq ?_
  refine pwp_seq_plain rfl fun K44 hK44 => ?_
  refine p_mS rfl ?_
  refine p_mS rfl ?_
  refine p_e rfl (e_lt rfl rfl) ?_
  refine p_end (hK44 _ ?_); clear hK44 K44
  refine pwp_seq_cond rfl fun K45 hK45 => ⟨fun hb46 => ?_, fun hb46 => ?_⟩
  ·have hb46R := hb46; try simp only [zz] at hb46
   obtain ⟨y, hy, hdy, hty⟩ := get_lt (xs := c.gangs) (i := j) (by omega)
   refine pwp_skip ?_
   refine seq_norm (hK45 _ ?_); clear hK45 K45
   refine pwp_seq_block fun K47 hK47 => ?_
   refine pwp_seq_gops rfl fun K48 hK48 => ?_
   refine g_begin ?_
   refine g_e rfl (e_faQ pl2 rfl) ?_
   refine g_e rfl (e_lH (v := .lit _ _ _) rfl hihj43_0 rfl) ?_
   refine g_mS rfl rfl ?_
   refine g_e rfl (e_ixL rfl rfl) ?_
   refine g_e rfl (e_fb pl4 rfl) ?_
   refine g_e rfl (e_load (v := .sc _) rfl (by kernel_rfl) (by kernel_rfl) (by kernel_rfl) (by first | omega | (simp only [List.length_map]; omega)) (by decide) ((cell_map hy _).trans rfl)) ?_
   refine g_e rfl (e_faQ pl4 rfl) ?_
   refine g_e rfl (e_lH (v := .sc _) rfl hihj43_1 rfl) ?_
   refine g_e rfl (e_seq rfl rfl) ?_
   refine g_end (ds := []) (by kernel_rfl) rfl (hK48 _ ?_); clear hK48 K48
   refine pwp_cond rfl (fun hb49 => ?_) (fun hb49 => ?_)
   ·have hb49R := hb49; try simp only [zz] at hb49
    refine pwp_seq_plain rfl fun K50 hK50 => ?_
    refine p_aS rfl ?_
    refine p_end (hK50 _ ?_); clear hK50 K50
    refine pwp_ret ?_
    refine ret_block ?_
    refine ret_seq ?_
    refine ret_loop ?_
    refine ret_block ?_
    refine ret_seq ?_
    refine ret_block ?_
    refine ret_seq ?_
    refine ret_loop ?_
    refine ret_block ?_
    refine ret_seq ?_
    refine end1 (v := .sc _) rfl ?_
    exact out_i (crew_g hsz hinv hd (gangE_5 (by assumption) hany (gdup_yes hy (by omega) (by assumption))) (by decide))
   have hb49R := hb49; try simp only [zz] at hb49
   refine pwp_skip ?_
   refine block_norm ?_
   refine seq_norm (hK47 _ ?_); clear hK47 K47
   refine pwp_plain rfl fun K51 hK51 => ?_
   refine p_mS rfl ?_
   refine p_e rfl (e_adL rfl rfl) ?_
   refine p_aS rfl ?_
   refine p_end (hK51 _ ?_); clear hK51 K51
   exact loop_again (j + 1) (by show _ < _; omega) ⟨rfl, rfl, rfl, trivial⟩ ⟨rfl, trivial⟩ (by exact ⟨by show _ + 1 ≤ _; omega, by exact nx_step (K := fun y => decide (y.name = g.name)) hdn hy (decide_eq_false (by assumption)), hihj43_0, hihj43_1⟩)
  have hb46R := hb46; try simp only [zz] at hb46
  have hdup := gdup_no (k := k) hdn (by omega)
  refine pwp_exit ?_
  refine exit_seq ?_
  clear hK45 K45
  refine exit_loop ?_
  refine exit_here ?_
  refine seq_norm (hK39 _ ?_); clear hK39 K39
  refine pwp_seq_gops rfl fun K52 hK52 => ?_
  refine g_begin ?_
  refine g_e rfl (e_faQ pl4 rfl) ?_
  refine g_e rfl (e_lH (v := .sc _) rfl hihj43_1 rfl) ?_
  refine g_e rfl (e_gt rfl rfl) ?_
  refine g_mS rfl rfl ?_
  refine g_cases (fun hb53 => ?_) (fun hb53 => ?_)
  ·have hb53R := hb53; try simp only [zz] at hb53
   iterate 4 refine g_skip rfl rfl rfl ?_
   refine g_nocall rfl rfl rfl ?_
   refine g_skip rfl rfl rfl ?_
   refine g_pT rfl rfl rfl ?_
   refine g_end (ds := [68, 69, 70, 71, 72, 73]) rfl rfl (hK52 _ ?_); clear hK52 K52
   refine pwp_cond (t := true) rfl (fun _ => ?_) nofun
   refine pwp_seq_plain rfl fun K54 hK54 => ?_
   refine p_aS rfl ?_
   refine p_end (hK54 _ ?_); clear hK54 K54
   refine pwp_ret ?_
   refine ret_block ?_
   refine ret_seq ?_
   refine ret_loop ?_
   refine ret_block ?_
   refine ret_seq ?_
   refine end1 (v := .sc _) rfl ?_
   exact out_i (crew_g hsz hinv hd (gangE_2 (by assumption) hany hdup (by unfold grng; omega)) (by decide))
  have hb53R := hb53; try simp only [zz] at hb53
  refine g_e rfl (e_faQ pl4 rfl) ?_
  refine g_e rfl (e_lH (v := .sc _) rfl hihj43_1 rfl) ?_
  refine g_e rfl (e_faQ pl4 rfl) ?_
  refine g_e rfl (e_lH (v := .sc _) rfl hihj43_1 rfl) ?_
  refine g_call rfl rfl rfl rfl (.cons inn_sc (.cons inn_sc (.cons inn_sc .nil))) (Within _ _ _) ?_
  refine g_e rfl (e_not rfl) ?_
  refine g_pF rfl rfl rfl ?_
  refine g_end (ds := [68, 69, 70, 71, 72, 73]) rfl rfl (hK52 _ ?_); clear hK52 K52
  refine pwp_cond rfl (fun hb55 => ?_) (fun hb55 => ?_)
  ·have hb55R := hb55; try simp only [zz] at hb55
   refine pwp_seq_plain rfl fun K56 hK56 => ?_
   refine p_aS rfl ?_
   refine p_end (hK56 _ ?_); clear hK56 K56
   refine pwp_ret ?_
   refine ret_block ?_
   refine ret_seq ?_
   refine ret_loop ?_
   refine ret_block ?_
   refine ret_seq ?_
   refine end1 (v := .sc _) rfl ?_
   exact out_i (crew_g hsz hinv hd (gangE_2 (by assumption) hany hdup (by unfold grng; omega)) (by decide))
  have hb55R := hb55; try simp only [zz] at hb55
  refine pwp_skip ?_
  refine block_norm ?_
  refine seq_norm (hK18 _ ?_); clear hK18 K18
  refine pwp_plain rfl fun K57 hK57 => ?_
  refine p_mS rfl ?_
  refine p_e rfl (e_adL rfl rfl) ?_
  refine p_aS rfl ?_
  refine p_end (hK57 _ ?_); clear hK57 K57
  exact loop_again (k + 1) (by show _ < _; omega) ⟨rfl, trivial⟩ ⟨rfl, trivial⟩ (by exact ⟨by show _ + 1 ≤ _; simp only [List.length_map] at *; omega, by exact gangs_go hinv hd (gangE_0 (by assumption) hany hdup (by unfold grng; omega)), hihj43_0⟩)
 have hb17R := hb17; try simp only [zz] at hb17
 have hT := gangs_all hinv (by simp only [List.length_map] at *; omega)
 refine pwp_exit ?_
 refine exit_seq ?_
 clear hK16 K16
 refine exit_loop ?_
 refine exit_here ?_
 refine seq_norm (hK10 _ ?_); clear hK10 K10
 refine pwp_seq_seq ?_
 refine pwp_seq_plain rfl fun K58 hK58 => ?_
 refine p_aS rfl ?_
 refine p_end (hK58 _ ?_); clear hK58 K58
 refine pwp_seq_block fun K59 hK59 => ?_
 refine pwp_loopR (α := Nat) [1] (fun (k : Nat) => [(7, .int (k))]) (fun (k : Nat) (h : Heap) (_ : Nat → Nat) => ((k) ≤ c.closed.length) ∧ (∀ i, i < (k) → ∀ y, c.closed[i]? = some y → crng y) ∧ (h (1, 0) = some (.rows 2 [Crew.enc c]))) (fun (k : Nat) => c.closed.length - (k)) (0) (by exact ⟨rfl, trivial⟩) (by exact ⟨by exact Nat.zero_le _, by exact fun i h => absurd h (Nat.not_lt_zero _), hihj14_0⟩) fun k r60 h61 c62 hj63 => ?_
 obtain ⟨hk, hcx, hihj63_0⟩ := hj63
 try dsimp only at hk
 try dsimp only at hcx
 try dsimp only at hihj63_0
 show pwp _ _ (loopQ _ _ _) ⟨sets (mix _ _ _) [(7, .int k)], _, _⟩
 refine pwp_seq_seq ?_
 refine pwp_seq_plain rfl fun K64 hK64 => ?_
 refine p_mS rfl ?_
 refine p_e rfl (e_faQ pl2 rfl) ?_
 refine p_e rfl (e_lH (v := .lit _ _ _) rfl hihj63_0 rfl) ?_
 refine p_e rfl (e_len rfl (by kernel_rfl)) ?_
 refine p_e rfl (e_lt rfl rfl) ?_
 refine p_end (hK64 _ ?_); clear hK64 K64
 refine pwp_seq_cond rfl fun K65 hK65 => ⟨fun hb66 => ?_, fun hb66 => ?_⟩
 ·have hb66R := hb66; try simp only [zz] at hb66
  obtain ⟨x, hx, hd, ht⟩ := get_lt (xs := c.closed) (i := k) (by omega)
  refine pwp_skip ?_
  refine seq_norm (hK65 _ ?_); clear hK65 K65
  refine pwp_seq_block fun K67 hK67 => ?_
  refine pwp_seq_plain rfl fun K68 hK68 => ?_
  refine p_e rfl (e_faQ pl2 rfl) ?_
  refine p_e rfl (e_lH (v := .lit _ _ _) rfl hihj63_0 rfl) ?_
  refine p_mS rfl ?_
  refine p_e rfl (e_ixL rfl rfl) ?_
  refine p_e rfl (e_loadA (n := 3) rfl (by kernel_rfl) (by kernel_rfl) (by kernel_rfl) (by first | omega | (simp only [List.length_map]; omega)) (by decide) (by first | exact agg_map hx rfl)) ?_
  refine p_new rfl (e_alloc (cs := [.int 0, .int 0, .int 0]) (n := 3) (by kernel_rfl) rfl (by decide)) (ob_alloc (by decide)) ?_
  refine p_store rfl (e_storeA rfl (hset_self _ _ _) rfl rfl rfl (by kernel_rfl) rfl (by kernel_rfl)) trivial ?_
  refine p_end (hK68 _ ?_); clear hK68 K68
  refine pwp_seq_gops rfl fun K69 hK69 => ?_
  refine g_begin ?_
  refine g_e rfl (e_faQ pl3 rfl) ?_
  refine g_e rfl (e_lH (v := .sc _) rfl (hset_self _ _ _) rfl) ?_
  refine g_call rfl rfl rfl rfl (.cons inn_sc (.cons inn_sc (.cons inn_sc .nil))) (Within _ _ _) ?_
  refine g_e rfl (e_not rfl) ?_
  refine g_mS rfl rfl ?_
  refine g_cases (fun hb70 => ?_) (fun hb70 => ?_)
  ·have hb70R := hb70; try simp only [zz] at hb70
   iterate 3 refine g_skip rfl rfl rfl ?_
   refine g_pT rfl rfl rfl ?_
   refine g_mS rfl rfl ?_
   iterate 4 refine g_skip rfl rfl rfl ?_
   refine g_nocall rfl rfl rfl ?_
   refine g_skip rfl rfl rfl ?_
   refine g_pT rfl rfl rfl ?_
   refine g_end (ds := [92, 93, 94, 97, 98, 99, 100, 101, 102]) rfl rfl (hK69 _ ?_); clear hK69 K69
   refine pwp_cond (t := true) rfl (fun _ => ?_) nofun
   refine pwp_seq_plain rfl fun K71 hK71 => ?_
   refine p_aS rfl ?_
   refine p_end (hK71 _ ?_); clear hK71 K71
   refine pwp_ret ?_
   refine ret_block ?_
   refine ret_seq ?_
   refine ret_loop ?_
   refine ret_block ?_
   refine ret_seq ?_
   refine end1 (v := .sc _) rfl ?_
   exact out_i (crew_c hsz hT hx (by unfold crng; omega))
  have hb70R := hb70; try simp only [zz] at hb70
  refine g_e rfl (e_faQ pl3 rfl) ?_
  refine g_e rfl (e_lH (v := .sc _) rfl (hset_self _ _ _) rfl) ?_
  refine g_e rfl (e_gt rfl rfl) ?_
  refine g_pF rfl rfl rfl ?_
  refine g_mS rfl rfl ?_
  refine g_cases (fun hb72 => ?_) (fun hb72 => ?_)
  ·have hb72R := hb72; try simp only [zz] at hb72
   iterate 4 refine g_skip rfl rfl rfl ?_
   refine g_nocall rfl rfl rfl ?_
   refine g_skip rfl rfl rfl ?_
   refine g_pT rfl rfl rfl ?_
   refine g_end (ds := [92, 93, 94, 97, 98, 99, 100, 101, 102]) rfl rfl (hK69 _ ?_); clear hK69 K69
   refine pwp_cond (t := true) rfl (fun _ => ?_) nofun
   refine pwp_seq_plain rfl fun K73 hK73 => ?_
   refine p_aS rfl ?_
   refine p_end (hK73 _ ?_); clear hK73 K73
   refine pwp_ret ?_
   refine ret_block ?_
   refine ret_seq ?_
   refine ret_loop ?_
   refine ret_block ?_
   refine ret_seq ?_
   refine end1 (v := .sc _) rfl ?_
   exact out_i (crew_c hsz hT hx (by unfold crng; omega))
  have hb72R := hb72; try simp only [zz] at hb72
  refine g_e rfl (e_faQ pl3 rfl) ?_
  refine g_e rfl (e_lH (v := .sc _) rfl (hset_self _ _ _) rfl) ?_
  refine g_e rfl (e_faQ pl3 rfl) ?_
  refine g_e rfl (e_lH (v := .sc _) rfl (hset_self _ _ _) rfl) ?_
  refine g_call rfl rfl rfl rfl (.cons inn_sc (.cons inn_sc (.cons inn_sc .nil))) (Within _ _ _) ?_
  refine g_e rfl (e_not rfl) ?_
  refine g_pF rfl rfl rfl ?_
  refine g_end (ds := [92, 93, 94, 97, 98, 99, 100, 101, 102]) rfl rfl (hK69 _ ?_); clear hK69 K69
  refine pwp_cond rfl (fun hb74 => ?_) (fun hb74 => ?_)
  ·have hb74R := hb74; try simp only [zz] at hb74
   refine pwp_seq_plain rfl fun K75 hK75 => ?_
   refine p_aS rfl ?_
   refine p_end (hK75 _ ?_); clear hK75 K75
   refine pwp_ret ?_
   refine ret_block ?_
   refine ret_seq ?_
   refine ret_loop ?_
   refine ret_block ?_
   refine ret_seq ?_
   refine end1 (v := .sc _) rfl ?_
   exact out_i (crew_c hsz hT hx (by unfold crng; omega))
  have hb74R := hb74; try simp only [zz] at hb74
  refine pwp_skip ?_
  refine block_norm ?_
  refine seq_norm (hK67 _ ?_); clear hK67 K67
  refine pwp_plain rfl fun K76 hK76 => ?_
  refine p_mS rfl ?_
  refine p_e rfl (e_adL rfl rfl) ?_
  refine p_aS rfl ?_
  refine p_end (hK76 _ ?_); clear hK76 K76
  exact loop_again (k + 1) (by show _ < _; omega) ⟨rfl, trivial⟩ ⟨rfl, trivial⟩ (by exact ⟨by show _ + 1 ≤ _; simp only [List.length_map] at *; omega, by exact cx_step hcx hx (by unfold crng; omega), ((hset_ne (key_ne rfl)).trans ((hset_ne (key_ne rfl)).trans hihj63_0))⟩)
 have hb66R := hb66; try simp only [zz] at hb66
 refine pwp_exit ?_
 refine exit_seq ?_
 clear hK65 K65
 refine exit_loop ?_
 refine exit_here ?_
 refine seq_norm (hK59 _ ?_); clear hK59 K59
 refine pwp_seq_plain rfl fun K77 hK77 => ?_
 refine p_aS rfl ?_
 refine p_end (hK77 _ ?_); clear hK77 K77
 refine pwp_ret ?_
 refine end1 (v := .sc _) rfl ?_
 exact out_i (crew_0 hsz hT hcx (by simp only [List.length_map] at *; omega))

theorem tr_all {l : List ByteArray} {j : Nat} (h : ∀ i, i < j → ∀ y, l[i]? = some y → decide (y.size ≤ 30) = true) (hj : l.length ≤ j) : ∀ t ∈ l, t.size ≤ 30 := fun t ht => by
 obtain ⟨i, hi⟩ := List.getElem?_of_mem ht
 exact of_decide_eq_true (h i (by have := (List.getElem?_eq_some_iff.1 hi).1; omega) t hi)
theorem ty_step {l : List ByteArray} {k : Nat} {x : ByteArray} (h : ∀ i, i < k → ∀ y, l[i]? = some y → decide (y.size ≤ 30) = true) (hx : l[k]? = some x) (h2 : decide (x.size ≤ 30) = true) : ∀ i, i < k + 1 → ∀ y, l[i]? = some y → decide (y.size ≤ 30) = true := fun i hi y hy => by
 rcases Nat.lt_succ_iff_lt_or_eq.1 hi with h3 | h3
 · exact h i h3 y hy
 · subst h3; rw [hx] at hy; cases hy; exact h2

theorem fr42 : (inFrame Try.f42.ntmps (Try.f42.body.getD .skip) && Try.f42.results.toList.all (resScope Try.f42.ntmps)) = true := by kernel_rfl
theorem briefC (c : Crew) (h1 : c.gangs.length ≤ 9223372036854775807) (h2 : c.closed.length ≤ 9223372036854775807) (h3 : ∀ g ∈ c.gangs, g.trades.length ≤ 9223372036854775807) : PCalls Try.prog 42 [.agg c.enc] (.bool (briefB c)) := by
 refine PCalls.of_code Try.func42 rfl rfl (by kernel_rfl) mixed fr42 (by show _ ≤ 62; simp) (.sc _) ?_
 refine pwp_seq_plain rfl fun K1 hK1 => ?_
 refine p_new rfl (e_box (n := 2) rfl rfl) ⟨rfl, by decide⟩ ?_
 refine p_aS rfl ?_
 refine p_end (hK1 _ ?_); clear hK1 K1
 refine pwp_seq_seq ?_
 refine pwp_seq_gops rfl fun K2 hK2 => ?_
 refine g_begin ?_
 refine g_e rfl (e_faQ pl2 rfl) ?_
 refine g_e rfl (e_lH (v := .lit _ _ _) rfl (hset_self _ _ _) rfl) ?_
 refine g_e rfl (e_len rfl (by kernel_rfl)) ?_
 refine g_e rfl (e_gt rfl rfl) ?_
 refine g_mS rfl rfl ?_
 refine g_cases (fun hb3 => ?_) (fun hb3 => ?_)
 ·have hb3R := hb3; try simp only [zz] at hb3
  iterate 4 refine g_skip rfl rfl rfl ?_
  refine g_pT rfl rfl rfl ?_
  refine g_end (ds := [10, 11, 12, 13]) rfl rfl (hK2 _ ?_); clear hK2 K2
  refine pwp_seq_cond (t := true) rfl fun K4 hK4 => ⟨fun _ => ?_, nofun⟩
  refine pwp_seq_plain rfl fun K5 hK5 => ?_
  refine p_aS rfl ?_
  refine p_end (hK5 _ ?_); clear hK5 K5
  refine pwp_ret ?_
  refine ret_seq ?_
  refine end1 (v := .sc _) rfl ?_
  exact out_b (brief_no (by simp only [List.length_map] at *; omega))
 have hb3R := hb3; try simp only [zz] at hb3
 refine g_e rfl (e_faQ pl2 rfl) ?_
 refine g_e rfl (e_lH (v := .lit _ _ _) rfl (hset_self _ _ _) rfl) ?_
 refine g_e rfl (e_len rfl (by kernel_rfl)) ?_
 refine g_e rfl (e_gt rfl rfl) ?_
 refine g_pF rfl rfl rfl ?_
 refine g_end (ds := [10, 11, 12, 13]) rfl rfl (hK2 _ ?_); clear hK2 K2
 refine pwp_seq_cond rfl fun K6 hK6 => ⟨fun hb7 => ?_, fun hb7 => ?_⟩
 ·have hb7R := hb7; try simp only [zz] at hb7
  refine pwp_seq_plain rfl fun K8 hK8 => ?_
  refine p_aS rfl ?_
  refine p_end (hK8 _ ?_); clear hK8 K8
  refine pwp_ret ?_
  refine ret_seq ?_
  refine end1 (v := .sc _) rfl ?_
  exact out_b (brief_no (by simp only [List.length_map] at *; omega))
 have hb7R := hb7; try simp only [zz] at hb7
 refine pwp_skip ?_
 refine seq_norm (hK6 _ ?_); clear hK6 K6
 refine pwp_seq_seq ?_
 refine pwp_seq_plain rfl fun K9 hK9 => ?_
 refine p_aS rfl ?_
 refine p_end (hK9 _ ?_); clear hK9 K9
 refine pwp_seq_block fun K10 hK10 => ?_
 refine pwp_loopR (α := Nat) [1] (fun (k : Nat) => [(3, .int (k))]) (fun (k : Nat) (h : Heap) (_ : Nat → Nat) => ((k) ≤ c.gangs.length) ∧ (GFair (c.gangs.take (k))) ∧ (h (1, 0) = some (.rows 2 [Crew.enc c]))) (fun (k : Nat) => c.gangs.length - (k)) (0) (by exact ⟨rfl, trivial⟩) (by exact ⟨by exact Nat.zero_le _, by exact fun g hg => by simp at hg, (hset_self _ _ _)⟩) fun k r11 h12 c13 hj14 => ?_
 obtain ⟨hk, hgf, hihj14_0⟩ := hj14
 try dsimp only at hk
 try dsimp only at hgf
 try dsimp only at hihj14_0
 show pwp _ _ (loopQ _ _ _) ⟨sets (mix _ _ _) [(3, .int k)], _, _⟩
 refine pwp_seq_seq ?_
 refine pwp_seq_plain rfl fun K15 hK15 => ?_
 refine p_mS rfl ?_
 refine p_e rfl (e_faQ pl2 rfl) ?_
 refine p_e rfl (e_lH (v := .lit _ _ _) rfl hihj14_0 rfl) ?_
 refine p_e rfl (e_len rfl (by kernel_rfl)) ?_
 refine p_e rfl (e_lt rfl rfl) ?_
 refine p_end (hK15 _ ?_); clear hK15 K15
 refine pwp_seq_cond rfl fun K16 hK16 => ⟨fun hb17 => ?_, fun hb17 => ?_⟩
 ·have hb17R := hb17; try simp only [zz] at hb17
  obtain ⟨g, hg, hd, ht⟩ := get_lt (xs := c.gangs) (i := k) (by omega)
  refine pwp_skip ?_
  refine seq_norm (hK16 _ ?_); clear hK16 K16
  refine pwp_seq_block fun K18 hK18 => ?_
  refine pwp_seq_seq ?_
  refine pwp_seq_gops rfl fun K19 hK19 => ?_
  refine g_begin ?_
  refine g_e rfl (e_faQ pl2 rfl) ?_
  refine g_e rfl (e_lH (v := .lit _ _ _) rfl hihj14_0 rfl) ?_
  refine g_mS rfl rfl ?_
  refine g_e rfl (e_ixL rfl rfl) ?_
  refine g_e rfl (e_fb pl4 rfl) ?_
  refine g_e rfl (e_load (v := .lit _ _ _) rfl (by kernel_rfl) (by kernel_rfl) (by kernel_rfl) (by first | omega | (simp only [List.length_map]; omega)) (by decide) ((cell_map hg _).trans rfl)) ?_
  refine g_e rfl (e_len rfl (by kernel_rfl)) ?_
  refine g_e rfl (e_gt rfl rfl) ?_
  refine g_mS rfl rfl ?_
  refine g_cases (fun hb20 => ?_) (fun hb20 => ?_)
  ·have hb20R := hb20; try simp only [zz] at hb20
   iterate 8 refine g_skip rfl rfl rfl ?_
   refine g_pT rfl rfl rfl ?_
   refine g_end (ds := [31, 32, 33, 34, 35, 36, 37, 38]) rfl rfl (hK19 _ ?_); clear hK19 K19
   refine pwp_seq_cond (t := true) rfl fun K21 hK21 => ⟨fun _ => ?_, nofun⟩
   refine pwp_seq_plain rfl fun K22 hK22 => ?_
   refine p_aS rfl ?_
   refine p_end (hK22 _ ?_); clear hK22 K22
   refine pwp_ret ?_
   refine ret_seq ?_
   refine ret_block ?_
   refine ret_seq ?_
   refine ret_loop ?_
   refine ret_block ?_
   refine ret_seq ?_
   refine end1 (v := .sc _) rfl ?_
   exact out_b (brief_no fun q => by have q2 := q.2.2 g (List.mem_of_getElem? hg); simp only [List.length_map] at *; omega)
  have hb20R := hb20; try simp only [zz] at hb20
  refine g_e rfl (e_faQ pl2 rfl) ?_
  refine g_e rfl (e_lH (v := .lit _ _ _) rfl hihj14_0 rfl) ?_
  refine g_mS rfl rfl ?_
  refine g_e rfl (e_ixL rfl rfl) ?_
  refine g_e rfl (e_fb pl4 rfl) ?_
  refine g_e rfl (e_load (v := .sc _) rfl (by kernel_rfl) (by kernel_rfl) (by kernel_rfl) (by first | omega | (simp only [List.length_map]; omega)) (by decide) ((cell_map hg _).trans rfl)) ?_
  refine g_e rfl (e_lenS rfl (by kernel_rfl)) ?_
  refine g_e rfl (e_gt rfl rfl) ?_
  refine g_pF rfl rfl rfl ?_
  refine g_end (ds := [31, 32, 33, 34, 35, 36, 37, 38]) rfl rfl (hK19 _ ?_); clear hK19 K19
  refine pwp_seq_cond rfl fun K23 hK23 => ⟨fun hb24 => ?_, fun hb24 => ?_⟩
  ·have hb24R := hb24; try simp only [zz] at hb24
   refine pwp_seq_plain rfl fun K25 hK25 => ?_
   refine p_aS rfl ?_
   refine p_end (hK25 _ ?_); clear hK25 K25
   refine pwp_ret ?_
   refine ret_seq ?_
   refine ret_block ?_
   refine ret_seq ?_
   refine ret_loop ?_
   refine ret_block ?_
   refine ret_seq ?_
   refine end1 (v := .sc _) rfl ?_
   exact out_b (brief_no fun q => by have q2 := q.2.2 g (List.mem_of_getElem? hg); simp only [List.length_map] at *; omega)
  have hb24R := hb24; try simp only [zz] at hb24
  refine pwp_skip ?_
  refine seq_norm (hK23 _ ?_); clear hK23 K23
  refine pwp_seq_plain rfl fun K26 hK26 => ?_
  refine p_aS rfl ?_
  refine p_end (hK26 _ ?_); clear hK26 K26
  refine pwp_block ?_
  refine pwp_loopR (α := Nat) [1, 3] (fun (j : Nat) => [(4, .int (j))]) (fun (j : Nat) (h : Heap) (_ : Nat → Nat) => ((j) ≤ g.trades.length) ∧ (∀ i, i < (j) → ∀ y, g.trades[i]? = some y → decide (y.size ≤ 30) = true) ∧ (h (1, 0) = some (.rows 2 [Crew.enc c]))) (fun (j : Nat) => g.trades.length - (j)) (0) (by exact ⟨rfl, trivial⟩) (by exact ⟨by exact Nat.zero_le _, by exact fun i h => absurd h (Nat.not_lt_zero _), hihj14_0⟩) fun j r27 h28 c29 hj30 => ?_
  obtain ⟨hj, hts2, hihj30_0⟩ := hj30
  try dsimp only at hj
  try dsimp only at hts2
  try dsimp only at hihj30_0
  show pwp _ _ (loopQ _ _ _) ⟨sets (mix _ _ _) [(4, .int j)], _, _⟩
  refine pwp_seq_seq ?_
  refine pwp_seq_plain rfl fun K31 hK31 => ?_
  refine p_mS rfl ?_
  refine p_e rfl (e_faQ pl2 rfl) ?_
  refine p_e rfl (e_lH (v := .lit _ _ _) rfl hihj30_0 rfl) ?_
  refine p_mS rfl ?_
  refine p_e rfl (e_ixL rfl rfl) ?_
  refine p_e rfl (e_fb pl4 rfl) ?_
  refine p_e rfl (e_load (v := .lit _ _ _) rfl (by kernel_rfl) (by kernel_rfl) (by kernel_rfl) (by first | omega | (simp only [List.length_map]; omega)) (by decide) ((cell_map hg _).trans rfl)) ?_
  refine p_e rfl (e_len rfl (by kernel_rfl)) ?_
  refine p_e rfl (e_lt rfl rfl) ?_
  refine p_end (hK31 _ ?_); clear hK31 K31
  refine pwp_seq_cond rfl fun K32 hK32 => ⟨fun hb33 => ?_, fun hb33 => ?_⟩
  ·have hb33R := hb33; try simp only [zz] at hb33
   obtain ⟨s, hs, hds, hts⟩ := get_lt (xs := g.trades) (i := j) (by omega)
   refine pwp_skip ?_
   refine seq_norm (hK32 _ ?_); clear hK32 K32
   refine pwp_seq_block fun K34 hK34 => ?_
   refine pwp_seq_plain rfl fun K35 hK35 => ?_
   refine p_e rfl (e_faQ pl2 rfl) ?_
   refine p_e rfl (e_lH (v := .lit _ _ _) rfl hihj30_0 rfl) ?_
   refine p_mS rfl ?_
   refine p_e rfl (e_ixL rfl rfl) ?_
   refine p_e rfl (e_fb pl4 rfl) ?_
   refine p_e rfl (e_load (v := .lit _ _ _) rfl (by kernel_rfl) (by kernel_rfl) (by kernel_rfl) (by first | omega | (simp only [List.length_map]; omega)) (by decide) ((cell_map hg _).trans rfl)) ?_
   refine p_mS rfl ?_
   refine p_e rfl (e_ixL rfl rfl) ?_
   refine p_e rfl (e_load (v := .sc _) rfl (by kernel_rfl) (by kernel_rfl) (by kernel_rfl) (by first | omega | (simp only [List.length_map]; omega)) (by decide) ((cell_map hs _).trans rfl)) ?_
   refine p_e rfl (e_lenS rfl (by kernel_rfl)) ?_
   refine p_e rfl (e_gt rfl rfl) ?_
   refine p_end (hK35 _ ?_); clear hK35 K35
   refine pwp_cond rfl (fun hb36 => ?_) (fun hb36 => ?_)
   ·have hb36R := hb36; try simp only [zz] at hb36
    refine pwp_seq_plain rfl fun K37 hK37 => ?_
    refine p_aS rfl ?_
    refine p_end (hK37 _ ?_); clear hK37 K37
    refine pwp_ret ?_
    refine ret_block ?_
    refine ret_seq ?_
    refine ret_loop ?_
    refine ret_block ?_
    refine ret_block ?_
    refine ret_seq ?_
    refine ret_loop ?_
    refine ret_block ?_
    refine ret_seq ?_
    refine end1 (v := .sc _) rfl ?_
    exact out_b (brief_no fun q => by have q2 := (q.2.2 g (List.mem_of_getElem? hg)).2.2 s (List.mem_of_getElem? hs); simp only [List.length_map] at *; omega)
   have hb36R := hb36; try simp only [zz] at hb36
   refine pwp_skip ?_
   refine block_norm ?_
   refine seq_norm (hK34 _ ?_); clear hK34 K34
   refine pwp_plain rfl fun K38 hK38 => ?_
   refine p_mS rfl ?_
   refine p_e rfl (e_adL rfl rfl) ?_
   refine p_aS rfl ?_
   refine p_end (hK38 _ ?_); clear hK38 K38
   exact loop_again (j + 1) (by show _ < _; omega) ⟨rfl, rfl, trivial⟩ ⟨rfl, trivial⟩ (by exact ⟨by show _ + 1 ≤ _; simp only [List.length_map] at *; omega, by exact ty_step hts2 hs (decide_eq_true (by omega)), hihj30_0⟩)
  have hb33R := hb33; try simp only [zz] at hb33
  refine pwp_exit ?_
  refine exit_seq ?_
  clear hK32 K32
  refine exit_loop ?_
  refine exit_here ?_
  refine block_norm ?_
  refine seq_norm (hK18 _ ?_); clear hK18 K18
  refine pwp_plain rfl fun K39 hK39 => ?_
  refine p_mS rfl ?_
  refine p_e rfl (e_adL rfl rfl) ?_
  refine p_aS rfl ?_
  refine p_end (hK39 _ ?_); clear hK39 K39
  exact loop_again (k + 1) (by show _ < _; omega) ⟨rfl, trivial⟩ ⟨rfl, trivial⟩ (by exact ⟨by show _ + 1 ≤ _; simp only [List.length_map] at *; omega, by exact g_snoc ht hgf ⟨by simp only [List.length_map] at *; omega, by omega, tr_all hts2 (by simp only [List.length_map] at *; omega)⟩, hihj30_0⟩)
 have hb17R := hb17; try simp only [zz] at hb17
 obtain rfl : k = c.gangs.length := by simp only [List.length_map] at *; omega
 rw [List.take_length] at hgf
 refine pwp_exit ?_
 refine exit_seq ?_
 clear hK16 K16
 refine exit_loop ?_
 refine exit_here ?_
 refine seq_norm (hK10 _ ?_); clear hK10 K10
 refine pwp_seq_plain rfl fun K40 hK40 => ?_
 refine p_aS rfl ?_
 refine p_end (hK40 _ ?_); clear hK40 K40
 refine pwp_ret ?_
 refine end1 (v := .sc _) rfl ?_
 exact out_b (brief_iff.2 ⟨by simp only [List.length_map] at *; omega, by simp only [List.length_map] at *; omega, hgf⟩).symm

end Go.Proofs.Ytjmjiegplnfiiaa

/- Schedules: whether a slot fits. No conditions. -/
set_option linter.unusedSimpArgs false
set_option linter.unusedVariables false
set_option maxRecDepth 100000
namespace Go.Proofs.Ytjmjiegplnfiiaa
open Go Go.Pv
/-! ### Times that meet -/
structure Sp where
 a : Int
 b : Int
 deriving Inhabited, DecidableEq
def Sp.enc (x : Sp) : List PV := [.int x.a, .int x.b]
theorem Sp.pure (x : Sp) : ∀ p ∈ x.enc, Pure p := fun p hp => by
 simp only [Sp.enc, List.mem_cons, List.not_mem_nil, or_false] at hp
 rcases hp with rfl | rfl
 · exact .sc _
 · exact .sc _
def mtB (x y : Sp) : Bool := decide (max x.a y.a < min x.b y.b)
theorem mt_ov {x y : Sp} : mtB x y = (decide (y.a < y.b) && decide (x.a < x.b) && decide (y.a < x.b) && decide (x.a < y.b)) := by
 rw [Bool.eq_iff_iff]; simp only [mtB, Bool.and_eq_true, decide_eq_true_eq]; omega
def hasT (l : List ByteArray) (s : ByteArray) : Bool := l.any fun t => decide (t = s)
theorem hasT_no {l : List ByteArray} {s : ByteArray} {k : Nat} (h : ∀ i, i < k → ∀ y, l[i]? = some y → decide (y = s) = false) (hk : l.length ≤ k) : false = hasT l s := by
 symm; rw [hasT, List.any_eq_false]
 intro y hy
 obtain ⟨i, hi⟩ := List.getElem?_of_mem hy
 rw [h i (by have := (List.getElem?_eq_some_iff.1 hi).1; omega) y hi]; decide
theorem hasT_yes {l : List ByteArray} {s t : ByteArray} {k : Nat} (hx : l[k]? = some t) (h : t = s) : true = hasT l s :=
 (List.any_eq_true.2 ⟨t, List.mem_of_getElem? hx, decide_eq_true h⟩).symm
theorem inn_bnd {h : Heap} {f : Fn} {row : List PV} (hp : ∀ p ∈ row, Pure p) : Inn h (.func f [.agg row] []) (.func f [.agg row] []) :=
 .base (.pure (.func _ _ _ (by intro p h1; rw [List.mem_singleton.1 h1]; exact .agg _ hp) (by intro p h1; cases h1)))
theorem inn_bndF {h : Heap} {f : Fn} {x : Sp} : Inn h (.func f [.agg x.enc] []) (.func f [.agg x.enc] []) := inn_bnd x.pure

/-! ### Slots that clash -/
def tsk (xs : List Task) (x : Slot) : Task := xs.getD x.task.toNat default
def gng (c : Crew) (x : Slot) : Gang := c.gangs.getD x.gang.toNat default
def spY (xs : List Task) (y : Slot) : Sp := ⟨y.start, y.start + (tsk xs y).minutes⟩
def dK (xs : List Task) (x y : Slot) : Bool := decide (y.gang = x.gang) && mtB (spY xs x) (spY xs y)
def cK (xs : List Task) (x : Slot) (z : Span) : Bool := decide (z.place = (tsk xs x).place) && mtB (spY xs x) ⟨z.fro, z.til⟩
def inG (xs : List Task) (c : Crew) (x : Slot) : Prop := hasT (gng c x).trades (tsk xs x).trade = true ∧ (gng c x).fro ≤ x.start ∧ x.start + (tsk xs x).minutes ≤ (gng c x).til
instance (xs : List Task) (c : Crew) (x : Slot) : Decidable (inG xs c x) := inferInstanceAs (Decidable (_ ∧ _))
def clB (xs : List Task) (c : Crew) (d : List Slot) (x : Slot) : Bool := d.any (dK xs x) || c.closed.any (cK xs x)
def fitsB (xs : List Task) (c : Crew) (d : List Slot) (x : Slot) : Bool := decide (inG xs c x) && !(clB xs c d x)
section
variable {xs : List Task} {c : Crew} {d : List Slot} {x : Slot} {t : Task} {g : Gang} {k : Nat}
theorem tsk_at (h : xs[x.task.toNat]? = some t) : tsk xs x = t := by rw [tsk, List.getD_eq_getElem?_getD, h]; rfl
theorem gng_at (h : c.gangs[x.gang.toNat]? = some g) : gng c x = g := by rw [gng, List.getD_eq_getElem?_getD, h]; rfl
theorem fits_out (h : ¬ inG xs c x) : false = fitsB xs c d x := by rw [fitsB, decide_eq_false h]; rfl
theorem fits_tr (hx : tsk xs x = t) (hg : gng c x = g) (h : hasT g.trades t.trade = false) : false = fitsB xs c d x := fits_out fun q => by rw [inG, hx, hg, h] at q; cases q.1
theorem fits_tm (hx : tsk xs x = t) (hg : gng c x = g) (h : x.start < g.fro ∨ g.til < x.start + t.minutes) : false = fitsB xs c d x := fits_out fun q => by rw [inG, hx, hg] at q; omega
theorem inG_of (hx : tsk xs x = t) (hg : gng c x = g) (h : hasT g.trades t.trade = true) (h1 : g.fro ≤ x.start) (h2 : x.start + t.minutes ≤ g.til) : inG xs c x := by rw [inG, hx, hg]; exact ⟨h, h1, h2⟩
theorem fits_d {y : Slot} (hy : d[k]? = some y) (h : dK xs x y = true) : false = fitsB xs c d x := by
 rw [fitsB, clB, List.any_eq_true.2 ⟨y, List.mem_of_getElem? hy, h⟩, Bool.true_or, Bool.not_true, Bool.and_false]
theorem fits_c {z : Span} (hz : c.closed[k]? = some z) (h : cK xs x z = true) : false = fitsB xs c d x := by
 rw [fitsB, clB, List.any_eq_true.2 ⟨z, List.mem_of_getElem? hz, h⟩, Bool.or_true, Bool.not_true, Bool.and_false]
theorem any_no {α : Type} {K : α → Bool} {l : List α} {k : Nat} (h : ∀ i, i < k → ∀ y, l[i]? = some y → K y = false) (hk : l.length ≤ k) : l.any K = false := by
 rw [List.any_eq_false]
 intro y hy
 obtain ⟨i, hi⟩ := List.getElem?_of_mem hy
 rw [h i (by have := (List.getElem?_eq_some_iff.1 hi).1; omega) y hi]; decide
theorem fits_yes (h : inG xs c x) (hd : ∀ i, i < k → ∀ y, d[i]? = some y → dK xs x y = false) (hk : d.length ≤ k) {j : Nat} (hc : ∀ i, i < j → ∀ y, c.closed[i]? = some y → cK xs x y = false) (hj : c.closed.length ≤ j) : true = fitsB xs c d x := by
 rw [fitsB, clB, any_no hd hk, any_no hc hj, decide_eq_true h]; rfl
theorem dK_n {y : Slot} (h : y.gang ≠ x.gang) : dK xs x y = false := by rw [dK, decide_eq_false h]; rfl
theorem cK_n {z : Span} (h : z.place ≠ (tsk xs x).place) : cK xs x z = false := by rw [cK, decide_eq_false h]; rfl
theorem dK_y {y : Slot} {b : Bool} (h : y.gang = x.gang) (h2 : mtB (spY xs x) (spY xs y) = b) : dK xs x y = b := by rw [dK, decide_eq_true h, Bool.true_and, h2]
theorem cK_y {z : Span} {b : Bool} (h : z.place = (tsk xs x).place) (h2 : mtB (spY xs x) ⟨z.fro, z.til⟩ = b) : cK xs x z = b := by rw [cK, decide_eq_true h, Bool.true_and, h2]
theorem dK_z {y : Slot} {u : Task} {b : Bool} (hx : tsk xs x = t) (hy : tsk xs y = u) (h : y.gang = x.gang) (h2 : mtB ⟨x.start, x.start + t.minutes⟩ ⟨y.start, y.start + u.minutes⟩ = b) : dK xs x y = b := by subst hx; subst hy; exact dK_y h h2
theorem cK_z {z : Span} {b : Bool} (hx : tsk xs x = t) (h : z.place = t.place) (h2 : mtB ⟨x.start, x.start + t.minutes⟩ ⟨z.fro, z.til⟩ = b) : cK xs x z = b := by subst hx; exact cK_y h h2
theorem ggs_ok {gs : List Gang} : ∀ {l : List Gang} {k : Nat}, gangsF gs k l = 0 → ∀ g ∈ l, grng g
 | [], _, _, g, hg => by cases hg
 | y :: l, k, h, g, hg => by
   have h1 : gangE gs k y = 0 := by
     by_cases q : gangE gs k y = 0
     · exact q
     · rw [gangsF, if_pos q] at h; exact absurd h q
   rw [gangsF, if_neg (fun q => q h1)] at h
   rcases List.mem_cons.1 hg with rfl | h3
   · unfold gangE at h1
     split at h1
     · cases h1
     · split at h1
       · cases h1
       · split at h1
         · cases h1
         · rename_i h4; exact Decidable.not_not.1 h4
   · exact ggs_ok h g h3
theorem crew_ok (h : crewE c = 0) : (1 ≤ c.gangs.length ∧ c.gangs.length ≤ 10 ∧ c.closed.length ≤ 40) ∧ (∀ g ∈ c.gangs, grng g) ∧ ∀ z ∈ c.closed, crng z := by
 unfold crewE at h
 split at h
 · cases h
 · split at h
   · rename_i h2; exact absurd h h2
   · split at h
     · cases h
     · rename_i h1 h2 h3
       exact ⟨by omega, ggs_ok (Decidable.not_not.1 h2), fun z hz => Decidable.byContradiction fun q => h3 ⟨z, hz, q⟩⟩
end

theorem fr87 : (inFrame Try.f87.ntmps (Try.f87.body.getD .skip) && Try.f87.results.toList.all (resScope Try.f87.ntmps)) = true := by kernel_rfl
theorem HasTextC (l : List ByteArray) (s : ByteArray) (hlen : l.length ≤ 1000000) : PCalls Try.prog 87 [.lit true 1 (l.map cb), .str s] (.bool (hasT l s)) := by
 refine PCalls.of_code Try.func87 rfl rfl (by kernel_rfl) mixed fr87 (by show _ ≤ 18; simp) (.sc _) ?_
 refine pwp_seq_plain rfl fun K1 hK1 => ?_
 refine p_aS rfl ?_
 refine p_end (hK1 _ ?_); clear hK1 K1
 refine pwp_seq_seq ?_
 refine pwp_seq_plain rfl fun K2 hK2 => ?_
 refine p_aS rfl ?_
 refine p_end (hK2 _ ?_); clear hK2 K2
 refine pwp_seq_block fun K3 hK3 => ?_
 refine pwp_loopR (α := Nat) [0, 1] (fun (k : Nat) => [(5, .int (k))]) (fun (k : Nat) (h : Heap) (_ : Nat → Nat) => ((k) ≤ l.length) ∧ (∀ i, i < (k) → ∀ y, l[i]? = some y → (fun y => decide (y = s)) y = false)) (fun (k : Nat) => l.length - (k)) (0) (by exact ⟨rfl, trivial⟩) (by exact ⟨by exact Nat.zero_le _, by exact nx_0⟩) fun k r4 h5 c6 hj7 => ?_
 obtain ⟨hk, hin⟩ := hj7
 try dsimp only at hk
 try dsimp only at hin
 show pwp _ _ (loopQ _ _ _) ⟨sets (mix _ _ _) [(5, .int k)], _, _⟩
 refine pwp_seq_seq ?_
 refine pwp_seq_plain rfl fun K8 hK8 => ?_
 refine p_mS rfl ?_
 refine p_e rfl (e_move (v := .lit _ _ _) rfl) ?_
 refine p_e rfl (e_len rfl (by kernel_rfl)) ?_
 refine p_e rfl (e_lt rfl rfl) ?_
 refine p_end (hK8 _ ?_); clear hK8 K8
 refine pwp_seq_cond rfl fun K9 hK9 => ⟨fun hb10 => ?_, fun hb10 => ?_⟩
 ·have hb10R := hb10; try simp only [zz] at hb10
  obtain ⟨x, hx, hdx, htx⟩ := get_lt (xs := l) (i := k) (by omega)
  refine pwp_skip ?_
  refine seq_norm (hK9 _ ?_); clear hK9 K9
  refine pwp_seq_block fun K11 hK11 => ?_
  refine pwp_seq_plain rfl fun K12 hK12 => ?_
  refine p_e rfl (e_move (v := .lit _ _ _) rfl) ?_
  refine p_mS rfl ?_
  refine p_e rfl (e_ixL rfl rfl) ?_
  refine p_e rfl (e_load (v := .sc _) rfl (by kernel_rfl) (by kernel_rfl) (by kernel_rfl) (by first | omega | (simp only [List.length_map]; omega)) (by decide) ((cell_map hx _).trans rfl)) ?_
  refine p_mS rfl ?_
  refine p_e rfl (e_seq rfl rfl) ?_
  refine p_end (hK12 _ ?_); clear hK12 K12
  refine pwp_cond rfl (fun hb13 => ?_) (fun hb13 => ?_)
  ·have hb13R := hb13; try simp only [zz] at hb13
   refine pwp_seq_plain rfl fun K14 hK14 => ?_
   refine p_aS rfl ?_
   refine p_end (hK14 _ ?_); clear hK14 K14
   refine pwp_ret ?_
   refine ret_block ?_
   refine ret_seq ?_
   refine ret_loop ?_
   refine ret_block ?_
   refine ret_seq ?_
   refine end1 (v := .sc _) rfl ?_
   exact out_b (hasT_yes hx (by assumption))
  have hb13R := hb13; try simp only [zz] at hb13
  refine pwp_skip ?_
  refine block_norm ?_
  refine seq_norm (hK11 _ ?_); clear hK11 K11
  refine pwp_plain rfl fun K15 hK15 => ?_
  refine p_mS rfl ?_
  refine p_e rfl (e_adL rfl rfl) ?_
  refine p_aS rfl ?_
  refine p_end (hK15 _ ?_); clear hK15 K15
  exact loop_again (k + 1) (by show _ < _; omega) ⟨rfl, rfl, trivial⟩ ⟨rfl, trivial⟩ (by exact ⟨by show _ + 1 ≤ _; simp only [List.length_map] at *; omega, by exact nx_step (K := (fun y => decide (y = s))) hin hx (decide_eq_false (by assumption))⟩)
 have hb10R := hb10; try simp only [zz] at hb10
 refine pwp_exit ?_
 refine exit_seq ?_
 clear hK9 K9
 refine exit_loop ?_
 refine exit_here ?_
 refine seq_norm (hK3 _ ?_); clear hK3 K3
 refine pwp_seq_plain rfl fun K16 hK16 => ?_
 refine p_aS rfl ?_
 refine p_end (hK16 _ ?_); clear hK16 K16
 refine pwp_ret ?_
 refine end1 (v := .sc _) rfl ?_
 exact out_b (hasT_no hin (by simp only [List.length_map] at *; omega))

theorem fr116 : (inFrame Try.f116.ntmps (Try.f116.body.getD .skip) && Try.f116.results.toList.all (resScope Try.f116.ntmps)) = true := by kernel_rfl
theorem IndexT (l : List ByteArray) (s : ByteArray) (hlen : l.length ≤ 1000000) : PCalls Try.prog 116 [.lit true 1 (l.map cb), .str s] (.int (ixA (fun y => decide (y = s)) l)) := by
 refine PCalls.of_code Try.func116 rfl rfl (by kernel_rfl) mixed fr116 (by show _ ≤ 19; simp) (.sc _) ?_
 refine pwp_seq_plain rfl fun K1 hK1 => ?_
 refine p_aS rfl ?_
 refine p_end (hK1 _ ?_); clear hK1 K1
 refine pwp_seq_seq ?_
 refine pwp_seq_plain rfl fun K2 hK2 => ?_
 refine p_e rfl (e_move (v := .lit _ _ _) rfl) ?_
 refine p_e rfl (e_len rfl (by kernel_rfl)) ?_
 refine p_mS rfl ?_
 refine p_end (hK2 _ ?_); clear hK2 K2
 refine pwp_seq_block fun K3 hK3 => ?_
 refine pwp_loopR (α := Nat) [0, 1, 7] (fun (k : Nat) => [(8, .int (k))]) (fun (k : Nat) (h : Heap) (_ : Nat → Nat) => ((k) ≤ l.length) ∧ (∀ i, i < (k) → ∀ y, l[i]? = some y → (fun y => decide (y = s)) y = false)) (fun (k : Nat) => l.length - (k)) (0) (by exact ⟨rfl, trivial⟩) (by exact ⟨by exact Nat.zero_le _, by exact nx_0⟩) fun k r4 h5 c6 hj7 => ?_
 obtain ⟨hk, hin⟩ := hj7
 try dsimp only at hk
 try dsimp only at hin
 show pwp _ _ (loopQ _ _ _) ⟨sets (mix _ _ _) [(8, .int k)], _, _⟩
 refine pwp_seq_plain rfl fun K8 hK8 => ?_
 refine p_e rfl (e_lt rfl rfl) ?_
 refine p_end (hK8 _ ?_); clear hK8 K8
 refine pwp_seq_cond rfl fun K9 hK9 => ⟨fun hb10 => ?_, fun hb10 => ?_⟩
 ·have hb10R := hb10; try simp only [zz] at hb10
  obtain ⟨x, hx, hdx, htx⟩ := get_lt (xs := l) (i := k) (by omega)
  refine pwp_skip ?_
  refine seq_norm (hK9 _ ?_); clear hK9 K9
  refine pwp_seq_block fun K11 hK11 => ?_
  refine pwp_seq_plain rfl fun K12 hK12 => ?_
  refine p_mS rfl ?_
  refine p_aS rfl ?_
  refine p_end (hK12 _ ?_); clear hK12 K12
  refine pwp_seq_plain rfl fun K13 hK13 => ?_
  refine p_mS rfl ?_
  refine p_e rfl (e_move (v := .lit _ _ _) rfl) ?_
  refine p_mS rfl ?_
  refine p_e rfl (e_ixL rfl rfl) ?_
  refine p_e rfl (e_load (v := .sc _) rfl (by kernel_rfl) (by kernel_rfl) (by kernel_rfl) (by first | omega | (simp only [List.length_map]; omega)) (by decide) ((cell_map hx _).trans rfl)) ?_
  refine p_e rfl (e_seq rfl rfl) ?_
  refine p_end (hK13 _ ?_); clear hK13 K13
  refine pwp_cond rfl (fun hb14 => ?_) (fun hb14 => ?_)
  ·have hb14R := hb14; try simp only [zz] at hb14
   refine pwp_seq_plain rfl fun K15 hK15 => ?_
   refine p_mS rfl ?_
   refine p_aS rfl ?_
   refine p_end (hK15 _ ?_); clear hK15 K15
   refine pwp_ret ?_
   refine ret_block ?_
   refine ret_seq ?_
   refine ret_loop ?_
   refine ret_block ?_
   refine ret_seq ?_
   refine end1 (v := .sc _) rfl ?_
   exact out_i (ixA_hit (K := fun y => decide (y = s)) hx hin (decide_eq_true (Eq.symm (by assumption))))
  have hb14R := hb14; try simp only [zz] at hb14
  refine pwp_skip ?_
  refine block_norm ?_
  refine seq_norm (hK11 _ ?_); clear hK11 K11
  refine pwp_plain rfl fun K16 hK16 => ?_
  refine p_e rfl (e_adL rfl rfl) ?_
  refine p_mS rfl ?_
  refine p_end (hK16 _ ?_); clear hK16 K16
  exact loop_again (k + 1) (by show _ < _; omega) ⟨rfl, rfl, rfl, trivial⟩ ⟨rfl, trivial⟩ (by exact ⟨by show _ + 1 ≤ _; simp only [List.length_map] at *; omega, by exact nx_step (K := (fun y => decide (y = s))) hin hx (decide_eq_false (fun q => absurd q.symm (by assumption)))⟩)
 have hb10R := hb10; try simp only [zz] at hb10
 refine pwp_exit ?_
 refine exit_seq ?_
 clear hK9 K9
 refine exit_loop ?_
 refine exit_here ?_
 refine seq_norm (hK3 _ ?_); clear hK3 K3
 refine pwp_seq_plain rfl fun K17 hK17 => ?_
 refine p_aS rfl ?_
 refine p_end (hK17 _ ?_); clear hK17 K17
 refine pwp_ret ?_
 refine end1 (v := .sc _) rfl ?_
 exact out_i (ixA_no (K := fun y => decide (y = s)) hin (by simp only [List.length_map] at *; omega))

theorem fr83 : (inFrame Try.f83.ntmps (Try.f83.body.getD .skip) && Try.f83.results.toList.all (resScope Try.f83.ntmps)) = true := by kernel_rfl
theorem ContainsT (l : List ByteArray) (s : ByteArray) (hlen : l.length ≤ 1000000) : PCalls Try.prog 83 [.lit true 1 (l.map cb), .str s] (.bool (hasT l s)) := by
 refine PCalls.of_code Try.func83 rfl rfl (by kernel_rfl) mixed fr83 (by show _ ≤ 9; simp) (.sc _) ?_
 refine pwp_seq_plain rfl fun K1 hK1 => ?_
 refine p_aS rfl ?_
 refine p_end (hK1 _ ?_); clear hK1 K1
 refine pwp_seq_plain rfl fun K2 hK2 => ?_
 refine p_e rfl (e_move (v := .lit _ _ _) rfl) ?_
 refine p_mS rfl ?_
 refine p_call rfl (.cons inn_lit (.cons inn_sc .nil)) (IndexT l s hlen) ?_
 refine p_e rfl (e_ge rfl rfl) ?_
 refine p_aS rfl ?_
 refine p_end (hK2 _ ?_); clear hK2 K2
 refine pwp_ret ?_
 refine end1 (v := .sc _) rfl ?_
 exact out_b ixA_any

theorem fr118 : (inFrame Try.f118.ntmps (Try.f118.body.getD .skip) && Try.f118.results.toList.all (resScope Try.f118.ntmps)) = true := by kernel_rfl
theorem overlapC (a b d e : Int) : PCalls Try.prog 118 [.int a, .int b, .int d, .int e] (.bool (mtB ⟨d, e⟩ ⟨a, b⟩)) := by
 refine PCalls.of_code Try.func118 rfl rfl (by kernel_rfl) mixed fr118 (by show _ ≤ 27; simp) (.sc _) ?_
 refine pwp_seq_plain rfl fun K1 hK1 => ?_
 refine p_aS rfl ?_
 refine p_end (hK1 _ ?_); clear hK1 K1
 refine pwp_seq_cutG [] [(8, .bool ((((decide (a < b)) && (decide (d < e))) && (decide (a < e))) && (decide (d < b))))] (fun K2 hK2 => ?_) (fun r3 => ?_)
 ·skip
  refine pwp_gops rfl fun K4 hK4 => ?_
  refine g_begin ?_
  refine g_mS rfl rfl ?_
  refine g_mS rfl rfl ?_
  refine g_e rfl (e_lt rfl rfl) ?_
  refine g_mS rfl rfl ?_
  refine g_cases (fun hb5 => ?_) (fun hb5 => ?_)
  ·have hb5R := hb5; try simp only [zz] at hb5
   refine g_mS rfl rfl ?_
   refine g_mS rfl rfl ?_
   refine g_e rfl (e_lt rfl rfl) ?_
   refine g_pT rfl rfl rfl ?_
   refine g_mS rfl rfl ?_
   refine g_cases (fun hb6 => ?_) (fun hb6 => ?_)
   ·have hb6R := hb6; try simp only [zz] at hb6
    refine g_mS rfl rfl ?_
    refine g_mS rfl rfl ?_
    refine g_e rfl (e_lt rfl rfl) ?_
    refine g_pT rfl rfl rfl ?_
    refine g_mS rfl rfl ?_
    refine g_cases (fun hb7 => ?_) (fun hb7 => ?_)
    ·have hb7R := hb7; try simp only [zz] at hb7
     refine g_mS rfl rfl ?_
     refine g_mS rfl rfl ?_
     refine g_e rfl (e_lt rfl rfl) ?_
     refine g_pT rfl rfl rfl ?_
     refine g_aS rfl rfl ?_
     refine g_end (ds := [13, 14, 15, 18, 19, 20, 23, 24, 25]) rfl rfl (hK4 _ ?_); clear hK4 K4
     exact seq_norm (hK2 _ trivial ⟨(congrArg PV.bool (show ((decide (d < b)) : Bool) = ((((decide (a < b)) && (decide (d < e))) && (decide (a < e))) && (decide (d < b))) by first | rfl | ((try rw [hb7R]) <;> (try rw [hb6R]) <;> (try rw [hb5R]) <;> (first | rfl | (simp only [Bool.and_true, Bool.and_false, Bool.true_and, Bool.false_and, Bool.or_true, Bool.or_false, Bool.true_or, Bool.false_or, Bool.not_true, Bool.not_false, if_true, if_false, Bool.false_eq_true, reduceIte] <;> rfl))) | (simp only [hb5R, hb6R, hb7R, Bool.and_true, Bool.and_false, Bool.true_and, Bool.false_and, Bool.or_true, Bool.or_false, Bool.true_or, Bool.false_or, Bool.not_true, Bool.not_false, if_true, if_false, Bool.false_eq_true, reduceIte] <;> rfl))), trivial⟩)
    have hb7R := hb7; try simp only [zz] at hb7
    iterate 3 refine g_skip rfl rfl rfl ?_
    refine g_pF rfl rfl rfl ?_
    refine g_aS rfl rfl ?_
    refine g_end (ds := [13, 14, 15, 18, 19, 20, 23, 24, 25]) rfl rfl (hK4 _ ?_); clear hK4 K4
    exact seq_norm (hK2 _ trivial ⟨(congrArg PV.bool (show (false : Bool) = ((((decide (a < b)) && (decide (d < e))) && (decide (a < e))) && (decide (d < b))) by first | rfl | ((try rw [hb7R]) <;> (try rw [hb6R]) <;> (try rw [hb5R]) <;> (first | rfl | (simp only [Bool.and_true, Bool.and_false, Bool.true_and, Bool.false_and, Bool.or_true, Bool.or_false, Bool.true_or, Bool.false_or, Bool.not_true, Bool.not_false, if_true, if_false, Bool.false_eq_true, reduceIte] <;> rfl))) | (simp only [hb5R, hb6R, hb7R, Bool.and_true, Bool.and_false, Bool.true_and, Bool.false_and, Bool.or_true, Bool.or_false, Bool.true_or, Bool.false_or, Bool.not_true, Bool.not_false, if_true, if_false, Bool.false_eq_true, reduceIte] <;> rfl))), trivial⟩)
   have hb6R := hb6; try simp only [zz] at hb6
   iterate 3 refine g_skip rfl rfl rfl ?_
   refine g_pF rfl rfl rfl ?_
   refine g_mS rfl rfl ?_
   iterate 3 refine g_skip rfl rfl rfl ?_
   refine g_pF rfl rfl rfl ?_
   refine g_aS rfl rfl ?_
   refine g_end (ds := [13, 14, 15, 18, 19, 20, 23, 24, 25]) rfl rfl (hK4 _ ?_); clear hK4 K4
   exact seq_norm (hK2 _ trivial ⟨(congrArg PV.bool (show (false : Bool) = ((((decide (a < b)) && (decide (d < e))) && (decide (a < e))) && (decide (d < b))) by first | rfl | ((try rw [hb6R]) <;> (try rw [hb5R]) <;> (first | rfl | (simp only [Bool.and_true, Bool.and_false, Bool.true_and, Bool.false_and, Bool.or_true, Bool.or_false, Bool.true_or, Bool.false_or, Bool.not_true, Bool.not_false, if_true, if_false, Bool.false_eq_true, reduceIte] <;> rfl))) | (simp only [hb5R, hb6R, Bool.and_true, Bool.and_false, Bool.true_and, Bool.false_and, Bool.or_true, Bool.or_false, Bool.true_or, Bool.false_or, Bool.not_true, Bool.not_false, if_true, if_false, Bool.false_eq_true, reduceIte] <;> rfl))), trivial⟩)
  have hb5R := hb5; try simp only [zz] at hb5
  iterate 3 refine g_skip rfl rfl rfl ?_
  refine g_pF rfl rfl rfl ?_
  refine g_mS rfl rfl ?_
  iterate 3 refine g_skip rfl rfl rfl ?_
  refine g_pF rfl rfl rfl ?_
  refine g_mS rfl rfl ?_
  iterate 3 refine g_skip rfl rfl rfl ?_
  refine g_pF rfl rfl rfl ?_
  refine g_aS rfl rfl ?_
  refine g_end (ds := [13, 14, 15, 18, 19, 20, 23, 24, 25]) rfl rfl (hK4 _ ?_); clear hK4 K4
  exact seq_norm (hK2 _ trivial ⟨(congrArg PV.bool (show (false : Bool) = ((((decide (a < b)) && (decide (d < e))) && (decide (a < e))) && (decide (d < b))) by first | rfl | ((try rw [hb5R]) <;> (first | rfl | (simp only [Bool.and_true, Bool.and_false, Bool.true_and, Bool.false_and, Bool.or_true, Bool.or_false, Bool.true_or, Bool.false_or, Bool.not_true, Bool.not_false, if_true, if_false, Bool.false_eq_true, reduceIte] <;> rfl))) | (simp only [hb5R, Bool.and_true, Bool.and_false, Bool.true_and, Bool.false_and, Bool.or_true, Bool.or_false, Bool.true_or, Bool.false_or, Bool.not_true, Bool.not_false, if_true, if_false, Bool.false_eq_true, reduceIte] <;> rfl))), trivial⟩)
 refine pwp_ret ?_
 refine end1 (v := .sc _) rfl ?_
 exact out_b (by first | (rw [mt_ov]; done) | (rw [mt_ov, Bool.eq_iff_iff]; simp only [Bool.and_eq_true, decide_eq_true_eq, Bool.false_eq_true, false_iff, eq_self_iff_true, true_iff] at * <;> omega))

theorem fr88 : (inFrame Try.f88.ntmps (Try.f88.body.getD .skip) && Try.f88.results.toList.all (resScope Try.f88.ntmps)) = true := by kernel_rfl
theorem fitsC (xs : List Task) (c : Crew) (d : List Slot) (x : Slot) (hp : planE xs = 0) (hc : crewE c = 0) (hcl : ∀ g ∈ c.gangs, g.trades.length ≤ 1000000) (hxl : xs.length ≤ 10000) (hdl : d.length ≤ 10000) (hx1 : 0 ≤ x.task ∧ x.task < xs.length) (hx2 : 0 ≤ x.gang ∧ x.gang < c.gangs.length) (hx3 : 0 ≤ x.start ∧ x.start ≤ 1000000) (hd : ∀ y ∈ d, 0 ≤ y.task ∧ y.task < xs.length ∧ 0 ≤ y.start ∧ y.start ≤ 1000000) : PCalls Try.prog 88 [.lit true 6 (xs.map Task.enc), .agg c.enc, .lit true 3 (d.map Slot.enc), .agg x.enc] (.bool (fitsB xs c d x)) := by
 refine PCalls.of_code Try.func88 rfl rfl (by kernel_rfl) mixed fr88 (by show _ ≤ 123; simp) (.sc _) ?_
 obtain ⟨t, ht, _, _⟩ := get_lt (xs := xs) (i := x.task.toNat) (by omega)
 obtain ⟨g, hg, _, _⟩ := get_lt (xs := c.gangs) (i := x.gang.toNat) (by omega)
 have htx := tsk_at ht
 have hgx := gng_at hg
 have htm := (task_ok hp ht).1.2.2
 have hco := crew_ok hc
 have hgr := hco.2.1 g (List.mem_of_getElem? hg)
 have htr := hcl g (List.mem_of_getElem? hg)
 unfold grng at hgr
 refine pwp_seq_plain rfl fun K1 hK1 => ?_
 refine p_new rfl (e_box (n := 2) rfl rfl) ⟨rfl, by decide⟩ ?_
 refine p_new rfl (e_box (n := 3) rfl rfl) ⟨rfl, by decide⟩ ?_
 refine p_aS rfl ?_
 refine p_end (hK1 _ ?_); clear hK1 K1
 refine pwp_seq_plain rfl fun K2 hK2 => ?_
 refine p_e rfl (e_move (v := .lit _ _ _) rfl) ?_
 refine p_e rfl (e_faQ pl3 rfl) ?_
 refine p_e rfl (e_lH (v := .sc _) rfl (hset_self _ _ _) rfl) ?_
 refine p_e rfl (e_ixL rfl rfl) ?_
 refine p_e rfl (e_loadA (n := 6) rfl (by kernel_rfl) (by kernel_rfl) (by kernel_rfl) (by first | omega | (simp only [List.length_map]; omega)) (by decide) (by first | exact agg_map ht rfl)) ?_
 refine p_new rfl (e_alloc (cs := [.str ByteArray.empty, .str ByteArray.empty, .int 0, .int 0, .int 0, .nil]) (n := 6) (by kernel_rfl) rfl (by decide)) (ob_alloc (by decide)) ?_
 refine p_store rfl (e_storeA rfl (hset_self _ _ _) rfl rfl rfl (by kernel_rfl) rfl (by kernel_rfl)) trivial ?_
 refine p_end (hK2 _ ?_); clear hK2 K2
 refine pwp_seq_plain rfl fun K3 hK3 => ?_
 refine p_e rfl (e_faQ pl2 rfl) ?_
 refine p_e rfl (e_lH (v := .lit _ _ _) rfl ((hset_ne (key_ne rfl)).trans ((hset_ne (key_ne rfl)).trans ((hset_ne (key_ne rfl)).trans (hset_self _ _ _)))) rfl) ?_
 refine p_e rfl (e_faQ pl3 rfl) ?_
 refine p_e rfl (e_lH (v := .sc _) rfl ((hset_ne (key_ne rfl)).trans ((hset_ne (key_ne rfl)).trans (hset_self _ _ _))) rfl) ?_
 refine p_e rfl (e_ixL rfl rfl) ?_
 refine p_e rfl (e_loadA (n := 4) rfl (by kernel_rfl) (by kernel_rfl) (by kernel_rfl) (by first | omega | (simp only [List.length_map]; omega)) (by decide) (by first | exact agg_map hg rfl)) ?_
 refine p_new rfl (e_alloc (cs := [.str ByteArray.empty, .nil, .int 0, .int 0]) (n := 4) (by kernel_rfl) rfl (by decide)) (ob_alloc (by decide)) ?_
 refine p_store rfl (e_storeA rfl (hset_self _ _ _) rfl rfl rfl (by kernel_rfl) rfl (by kernel_rfl)) trivial ?_
 refine p_end (hK3 _ ?_); clear hK3 K3
 refine pwp_seq_plain rfl fun K4 hK4 => ?_
 refine p_e rfl (e_faQ pl3 rfl) ?_
 refine p_e rfl (e_lH (v := .sc _) rfl ((hset_ne (key_ne rfl)).trans ((hset_ne (key_ne rfl)).trans ((hset_ne (key_ne rfl)).trans ((hset_ne (key_ne rfl)).trans (hset_self _ _ _))))) rfl) ?_
 refine p_e rfl (e_faQ pl6 rfl) ?_
 refine p_e rfl (e_lH (v := .sc _) rfl ((hset_ne (key_ne rfl)).trans ((hset_ne (key_ne rfl)).trans (hset_self _ _ _))) rfl) ?_
 refine p_e rfl (e_adL rfl rfl) ?_
 refine p_aS rfl ?_
 refine p_end (hK4 _ ?_); clear hK4 K4
 refine pwp_seq_seq ?_
 refine pwp_seq_gops rfl fun K5 hK5 => ?_
 refine g_begin ?_
 refine g_e rfl (e_faQ pl4 rfl) ?_
 refine g_e rfl (e_lH (v := .lit _ _ _) rfl (hset_self _ _ _) rfl) ?_
 refine g_e rfl (e_faQ pl6 rfl) ?_
 refine g_e rfl (e_lH (v := .sc _) rfl ((hset_ne (key_ne rfl)).trans ((hset_ne (key_ne rfl)).trans (hset_self _ _ _))) rfl) ?_
 refine g_call rfl rfl rfl rfl (.cons inn_lit (.cons inn_sc .nil)) (HasTextC _ _ htr) ?_
 refine g_e rfl (e_not rfl) ?_
 refine g_mS rfl rfl ?_
 refine g_cases (fun hb6 => ?_) (fun hb6 => ?_)
 ·have hb6R := hb6; try simp only [zz] at hb6
  iterate 5 refine g_skip rfl rfl rfl ?_
  refine g_pT rfl rfl rfl ?_
  refine g_mS rfl rfl ?_
  iterate 4 refine g_skip rfl rfl rfl ?_
  refine g_pT rfl rfl rfl ?_
  refine g_end (ds := [37, 38, 39, 40, 41, 44, 45, 46, 47]) rfl rfl (hK5 _ ?_); clear hK5 K5
  refine pwp_seq_cond (t := true) rfl fun K7 hK7 => ⟨fun _ => ?_, nofun⟩
  refine pwp_seq_plain rfl fun K8 hK8 => ?_
  refine p_aS rfl ?_
  refine p_end (hK8 _ ?_); clear hK8 K8
  refine pwp_ret ?_
  refine ret_seq ?_
  refine end1 (v := .sc _) rfl ?_
  exact out_b (fits_tr htx hgx (by assumption))
 have hb6R := hb6; try simp only [zz] at hb6
 refine g_e rfl (e_faQ pl3 rfl) ?_
 refine g_e rfl (e_lH (v := .sc _) rfl ((hset_ne (key_ne rfl)).trans ((hset_ne (key_ne rfl)).trans ((hset_ne (key_ne rfl)).trans ((hset_ne (key_ne rfl)).trans (hset_self _ _ _))))) rfl) ?_
 refine g_e rfl (e_faQ pl4 rfl) ?_
 refine g_e rfl (e_lH (v := .sc _) rfl (hset_self _ _ _) rfl) ?_
 refine g_e rfl (e_lt rfl rfl) ?_
 refine g_pF rfl rfl rfl ?_
 refine g_mS rfl rfl ?_
 refine g_cases (fun hb9 => ?_) (fun hb9 => ?_)
 ·have hb9R := hb9; try simp only [zz] at hb9
  iterate 4 refine g_skip rfl rfl rfl ?_
  refine g_pT rfl rfl rfl ?_
  refine g_end (ds := [37, 38, 39, 40, 41, 44, 45, 46, 47]) rfl rfl (hK5 _ ?_); clear hK5 K5
  refine pwp_seq_cond (t := true) rfl fun K10 hK10 => ⟨fun _ => ?_, nofun⟩
  refine pwp_seq_plain rfl fun K11 hK11 => ?_
  refine p_aS rfl ?_
  refine p_end (hK11 _ ?_); clear hK11 K11
  refine pwp_ret ?_
  refine ret_seq ?_
  refine end1 (v := .sc _) rfl ?_
  exact out_b (fits_tm htx hgx (by omega))
 have hb9R := hb9; try simp only [zz] at hb9
 refine g_mS rfl rfl ?_
 refine g_e rfl (e_faQ pl4 rfl) ?_
 refine g_e rfl (e_lH (v := .sc _) rfl (hset_self _ _ _) rfl) ?_
 refine g_e rfl (e_gt rfl rfl) ?_
 refine g_pF rfl rfl rfl ?_
 refine g_end (ds := [37, 38, 39, 40, 41, 44, 45, 46, 47]) rfl rfl (hK5 _ ?_); clear hK5 K5
 refine pwp_seq_cond rfl fun K12 hK12 => ⟨fun hb13 => ?_, fun hb13 => ?_⟩
 ·have hb13R := hb13; try simp only [zz] at hb13
  refine pwp_seq_plain rfl fun K14 hK14 => ?_
  refine p_aS rfl ?_
  refine p_end (hK14 _ ?_); clear hK14 K14
  refine pwp_ret ?_
  refine ret_seq ?_
  refine end1 (v := .sc _) rfl ?_
  exact out_b (fits_tm htx hgx (by omega))
 have hb13R := hb13; try simp only [zz] at hb13
 refine pwp_skip ?_
 refine seq_norm (hK12 _ ?_); clear hK12 K12
 refine pwp_seq_seq ?_
 refine pwp_seq_plain rfl fun K15 hK15 => ?_
 refine p_aS rfl ?_
 refine p_end (hK15 _ ?_); clear hK15 K15
 refine pwp_seq_block fun K16 hK16 => ?_
 refine pwp_loopR (α := Nat) [0, 2, 5, 7, 9, 11] (fun (j : Nat) => [(12, .int (j))]) (fun (j : Nat) (h : Heap) (_ : Nat → Nat) => ((j) ≤ d.length) ∧ (∀ i, i < (j) → ∀ y, d[i]? = some y → (dK xs x) y = false) ∧ (h (5, 0) = some (.rows 2 [Crew.enc c])) ∧ (h (7, 0) = some (.rows 3 [Slot.enc x])) ∧ (h (9, 0) = some (.rows 6 [Task.enc t]))) (fun (j : Nat) => d.length - (j)) (0) (by exact ⟨rfl, trivial⟩) (by exact ⟨by exact Nat.zero_le _, by exact nx_0, ((hset_ne (key_ne rfl)).trans ((hset_ne (key_ne rfl)).trans ((hset_ne (key_ne rfl)).trans ((hset_ne (key_ne rfl)).trans ((hset_ne (key_ne rfl)).trans (hset_self _ _ _)))))), ((hset_ne (key_ne rfl)).trans ((hset_ne (key_ne rfl)).trans ((hset_ne (key_ne rfl)).trans ((hset_ne (key_ne rfl)).trans (hset_self _ _ _))))), ((hset_ne (key_ne rfl)).trans ((hset_ne (key_ne rfl)).trans (hset_self _ _ _)))⟩) fun j r17 h18 c19 hj20 => ?_
 obtain ⟨hj, hin, hihj20_0, hihj20_1, hihj20_2⟩ := hj20
 try dsimp only at hj
 try dsimp only at hin
 try dsimp only at hihj20_0
 try dsimp only at hihj20_1
 try dsimp only at hihj20_2
 show pwp _ _ (loopQ _ _ _) ⟨sets (mix _ _ _) [(12, .int j)], _, _⟩
 refine pwp_seq_seq ?_
 refine pwp_seq_plain rfl fun K21 hK21 => ?_
 refine p_mS rfl ?_
 refine p_e rfl (e_move (v := .lit _ _ _) rfl) ?_
 refine p_e rfl (e_len rfl (by kernel_rfl)) ?_
 refine p_e rfl (e_lt rfl rfl) ?_
 refine p_end (hK21 _ ?_); clear hK21 K21
 refine pwp_seq_cond rfl fun K22 hK22 => ⟨fun hb23 => ?_, fun hb23 => ?_⟩
 ·have hb23R := hb23; try simp only [zz] at hb23
  obtain ⟨y, hy, hdy, hty⟩ := get_lt (xs := d) (i := j) (by omega)
  obtain ⟨hy1, hy2, hy3, hy4⟩ := hd y (List.mem_of_getElem? hy)
  obtain ⟨u, hu, _, _⟩ := get_lt (xs := xs) (i := y.task.toNat) (by omega)
  have hum := (task_ok hp hu).1.2.2
  have huy := tsk_at hu
  refine pwp_skip ?_
  refine seq_norm (hK22 _ ?_); clear hK22 K22
  refine pwp_seq_block fun K24 hK24 => ?_
  refine pwp_seq_gops rfl fun K25 hK25 => ?_
  refine g_begin ?_
  refine g_e rfl (e_move (v := .lit _ _ _) rfl) ?_
  refine g_mS rfl rfl ?_
  refine g_e rfl (e_ixL rfl rfl) ?_
  refine g_e rfl (e_fb pl3 rfl) ?_
  refine g_e rfl (e_load (v := .sc _) rfl (by kernel_rfl) (by kernel_rfl) (by kernel_rfl) (by first | omega | (simp only [List.length_map]; omega)) (by decide) ((cell_map hy _).trans rfl)) ?_
  refine g_e rfl (e_faQ pl3 rfl) ?_
  refine g_e rfl (e_lH (v := .sc _) rfl hihj20_1 rfl) ?_
  refine g_e rfl (e_eq rfl rfl) ?_
  refine g_mS rfl rfl ?_
  refine g_cases (fun hb26 => ?_) (fun hb26 => ?_)
  ·have hb26R := hb26; try simp only [zz] at hb26
   refine g_e rfl (e_move (v := .lit _ _ _) rfl) ?_
   refine g_mS rfl rfl ?_
   refine g_e rfl (e_ixL rfl rfl) ?_
   refine g_e rfl (e_fb pl3 rfl) ?_
   refine g_e rfl (e_load (v := .sc _) rfl (by kernel_rfl) (by kernel_rfl) (by kernel_rfl) (by first | omega | (simp only [List.length_map]; omega)) (by decide) ((cell_map hy _).trans rfl)) ?_
   refine g_e rfl (e_move (v := .lit _ _ _) rfl) ?_
   refine g_mS rfl rfl ?_
   refine g_e rfl (e_ixL rfl rfl) ?_
   refine g_e rfl (e_fb pl3 rfl) ?_
   refine g_e rfl (e_load (v := .sc _) rfl (by kernel_rfl) (by kernel_rfl) (by kernel_rfl) (by first | omega | (simp only [List.length_map]; omega)) (by decide) ((cell_map hy _).trans rfl)) ?_
   refine g_e rfl (e_move (v := .lit _ _ _) rfl) ?_
   refine g_e rfl (e_move (v := .lit _ _ _) rfl) ?_
   refine g_mS rfl rfl ?_
   refine g_e rfl (e_ixL rfl rfl) ?_
   refine g_e rfl (e_fb pl3 rfl) ?_
   refine g_e rfl (e_load (v := .sc _) rfl (by kernel_rfl) (by kernel_rfl) (by kernel_rfl) (by first | omega | (simp only [List.length_map]; omega)) (by decide) ((cell_map hy _).trans rfl)) ?_
   refine g_e rfl (e_ixL rfl rfl) ?_
   refine g_e rfl (e_fb pl6 rfl) ?_
   refine g_e rfl (e_load (v := .sc _) rfl (by kernel_rfl) (by kernel_rfl) (by kernel_rfl) (by first | omega | (simp only [List.length_map]; omega)) (by decide) ((cell_map hu _).trans rfl)) ?_
   refine g_e rfl (e_adL rfl rfl) ?_
   refine g_e rfl (e_faQ pl3 rfl) ?_
   refine g_e rfl (e_lH (v := .sc _) rfl hihj20_1 rfl) ?_
   refine g_mS rfl rfl ?_
   refine g_call rfl rfl rfl rfl (.cons inn_sc (.cons inn_sc (.cons inn_sc (.cons inn_sc .nil)))) (overlapC _ _ _ _) ?_
   refine g_pT rfl rfl rfl ?_
   refine g_endR (ds := [64, 65, 66, 67, 68, 69, 70, 71, 72, 73, 74, 75, 76, 77, 78, 79, 80, 81, 82, 83, 84, 85, 86, 87]) [0, 0, 3, 7, 15, 0, 32, 127, 255, 511, 511, 2047, 4095, 8191, 511, 511, 49663, 115199, 246271, 511, 511, 511, 3146239, 7340543, 15729151, 33030655, 66585087, 133693951, 268419583, 511, 536871423, 511, 4294967295, 8589934591] (by kernel_rfl) rfl (hK25 _ ?_); clear hK25 K25
   refine pwp_cond rfl (fun hb27 => ?_) (fun hb27 => ?_)
   ·have hb27R := hb27; try simp only [zz] at hb27
    refine pwp_seq_plain rfl fun K28 hK28 => ?_
    refine p_aS rfl ?_
    refine p_end (hK28 _ ?_); clear hK28 K28
    refine pwp_ret ?_
    refine ret_block ?_
    refine ret_seq ?_
    refine ret_loop ?_
    refine ret_block ?_
    refine ret_seq ?_
    refine end1 (v := .sc _) rfl ?_
    exact out_b (fits_d hy (dK_z htx huy (by assumption) (by assumption)))
   have hb27R := hb27; try simp only [zz] at hb27
   refine pwp_skip ?_
   refine block_norm ?_
   refine seq_norm (hK24 _ ?_); clear hK24 K24
   refine pwp_plain rfl fun K29 hK29 => ?_
   refine p_mS rfl ?_
   refine p_e rfl (e_adL rfl rfl) ?_
   refine p_aS rfl ?_
   refine p_end (hK29 _ ?_); clear hK29 K29
   exact loop_again (j + 1) (by show _ < _; omega) ⟨rfl, rfl, rfl, rfl, rfl, rfl, trivial⟩ ⟨rfl, trivial⟩ (by exact ⟨by show _ + 1 ≤ _; simp only [List.length_map] at *; omega, by exact nx_step (K := (dK xs x)) hin hy (by first | exact dK_n (by assumption) | exact dK_z htx huy (by assumption) (by assumption)), hihj20_0, hihj20_1, hihj20_2⟩)
  have hb26R := hb26; try simp only [zz] at hb26
  iterate 23 refine g_skip rfl rfl rfl ?_
  refine g_nocall rfl rfl rfl ?_
  refine g_pF rfl rfl rfl ?_
  refine g_endR (ds := [64, 65, 66, 67, 68, 69, 70, 71, 72, 73, 74, 75, 76, 77, 78, 79, 80, 81, 82, 83, 84, 85, 86, 87]) [0, 0, 3, 7, 15, 0, 32, 127, 255, 511, 511, 2047, 4095, 8191, 511, 511, 49663, 115199, 246271, 511, 511, 511, 3146239, 7340543, 15729151, 33030655, 66585087, 133693951, 268419583, 511, 536871423, 511, 4294967295, 8589934591] (by kernel_rfl) rfl (hK25 _ ?_); clear hK25 K25
  refine pwp_cond (t := false) rfl nofun (fun _ => ?_)
  refine pwp_skip ?_
  refine block_norm ?_
  refine seq_norm (hK24 _ ?_); clear hK24 K24
  refine pwp_plain rfl fun K30 hK30 => ?_
  refine p_mS rfl ?_
  refine p_e rfl (e_adL rfl rfl) ?_
  refine p_aS rfl ?_
  refine p_end (hK30 _ ?_); clear hK30 K30
  exact loop_again (j + 1) (by show _ < _; omega) ⟨rfl, rfl, rfl, rfl, rfl, rfl, trivial⟩ ⟨rfl, trivial⟩ (by exact ⟨by show _ + 1 ≤ _; simp only [List.length_map] at *; omega, by exact nx_step (K := (dK xs x)) hin hy (by first | exact dK_n (by assumption) | exact dK_z htx huy (by assumption) (by assumption)), hihj20_0, hihj20_1, hihj20_2⟩)
 have hb23R := hb23; try simp only [zz] at hb23
 refine pwp_exit ?_
 refine exit_seq ?_
 clear hK22 K22
 refine exit_loop ?_
 refine exit_here ?_
 refine seq_norm (hK16 _ ?_); clear hK16 K16
 refine pwp_seq_seq ?_
 refine pwp_seq_plain rfl fun K31 hK31 => ?_
 refine p_aS rfl ?_
 refine p_end (hK31 _ ?_); clear hK31 K31
 refine pwp_seq_block fun K32 hK32 => ?_
 refine pwp_loopR (α := Nat) [5, 7, 9, 11] (fun (n : Nat) => [(13, .int (n))]) (fun (n : Nat) (h : Heap) (_ : Nat → Nat) => ((n) ≤ c.closed.length) ∧ (∀ i, i < (n) → ∀ y, c.closed[i]? = some y → (cK xs x) y = false) ∧ (h (5, 0) = some (.rows 2 [Crew.enc c])) ∧ (h (7, 0) = some (.rows 3 [Slot.enc x])) ∧ (h (9, 0) = some (.rows 6 [Task.enc t]))) (fun (n : Nat) => c.closed.length - (n)) (0) (by exact ⟨rfl, trivial⟩) (by exact ⟨by exact Nat.zero_le _, by exact nx_0, hihj20_0, hihj20_1, hihj20_2⟩) fun n r33 h34 c35 hj36 => ?_
 obtain ⟨hn, hiz, hihj36_0, hihj36_1, hihj36_2⟩ := hj36
 try dsimp only at hn
 try dsimp only at hiz
 try dsimp only at hihj36_0
 try dsimp only at hihj36_1
 try dsimp only at hihj36_2
 show pwp _ _ (loopQ _ _ _) ⟨sets (mix _ _ _) [(13, .int n)], _, _⟩
 refine pwp_seq_seq ?_
 refine pwp_seq_plain rfl fun K37 hK37 => ?_
 refine p_mS rfl ?_
 refine p_e rfl (e_faQ pl2 rfl) ?_
 refine p_e rfl (e_lH (v := .lit _ _ _) rfl hihj36_0 rfl) ?_
 refine p_e rfl (e_len rfl (by kernel_rfl)) ?_
 refine p_e rfl (e_lt rfl rfl) ?_
 refine p_end (hK37 _ ?_); clear hK37 K37
 refine pwp_seq_cond rfl fun K38 hK38 => ⟨fun hb39 => ?_, fun hb39 => ?_⟩
 ·have hb39R := hb39; try simp only [zz] at hb39
  obtain ⟨z, hz, hdz, htz⟩ := get_lt (xs := c.closed) (i := n) (by omega)
  refine pwp_skip ?_
  refine seq_norm (hK38 _ ?_); clear hK38 K38
  refine pwp_seq_block fun K40 hK40 => ?_
  refine pwp_seq_gops rfl fun K41 hK41 => ?_
  refine g_begin ?_
  refine g_e rfl (e_faQ pl2 rfl) ?_
  refine g_e rfl (e_lH (v := .lit _ _ _) rfl hihj36_0 rfl) ?_
  refine g_mS rfl rfl ?_
  refine g_e rfl (e_ixL rfl rfl) ?_
  refine g_e rfl (e_fb pl3 rfl) ?_
  refine g_e rfl (e_load (v := .sc _) rfl (by kernel_rfl) (by kernel_rfl) (by kernel_rfl) (by first | omega | (simp only [List.length_map]; omega)) (by decide) ((cell_map hz _).trans rfl)) ?_
  refine g_e rfl (e_faQ pl6 rfl) ?_
  refine g_e rfl (e_lH (v := .sc _) rfl hihj36_2 rfl) ?_
  refine g_e rfl (e_eq rfl rfl) ?_
  refine g_mS rfl rfl ?_
  refine g_cases (fun hb42 => ?_) (fun hb42 => ?_)
  ·have hb42R := hb42; try simp only [zz] at hb42
   refine g_e rfl (e_faQ pl2 rfl) ?_
   refine g_e rfl (e_lH (v := .lit _ _ _) rfl hihj36_0 rfl) ?_
   refine g_mS rfl rfl ?_
   refine g_e rfl (e_ixL rfl rfl) ?_
   refine g_e rfl (e_fb pl3 rfl) ?_
   refine g_e rfl (e_load (v := .sc _) rfl (by kernel_rfl) (by kernel_rfl) (by kernel_rfl) (by first | omega | (simp only [List.length_map]; omega)) (by decide) ((cell_map hz _).trans rfl)) ?_
   refine g_e rfl (e_faQ pl2 rfl) ?_
   refine g_e rfl (e_lH (v := .lit _ _ _) rfl hihj36_0 rfl) ?_
   refine g_mS rfl rfl ?_
   refine g_e rfl (e_ixL rfl rfl) ?_
   refine g_e rfl (e_fb pl3 rfl) ?_
   refine g_e rfl (e_load (v := .sc _) rfl (by kernel_rfl) (by kernel_rfl) (by kernel_rfl) (by first | omega | (simp only [List.length_map]; omega)) (by decide) ((cell_map hz _).trans rfl)) ?_
   refine g_e rfl (e_faQ pl3 rfl) ?_
   refine g_e rfl (e_lH (v := .sc _) rfl hihj36_1 rfl) ?_
   refine g_mS rfl rfl ?_
   refine g_call rfl rfl rfl rfl (.cons inn_sc (.cons inn_sc (.cons inn_sc (.cons inn_sc .nil)))) (overlapC _ _ _ _) ?_
   refine g_pT rfl rfl rfl ?_
   refine g_endR (ds := [106, 107, 108, 109, 110, 111, 112, 113, 114, 115, 116, 117, 118, 119, 120, 121]) [0, 1, 0, 7, 15, 31, 0, 64, 255, 511, 1023, 2047, 1023, 8191, 16383, 32767, 1023, 66559, 1023, 459775, 984063, 2032639, 1023, 4195327, 1023, 33554431, 67108863] (by kernel_rfl) rfl (hK41 _ ?_); clear hK41 K41
   refine pwp_cond rfl (fun hb43 => ?_) (fun hb43 => ?_)
   ·have hb43R := hb43; try simp only [zz] at hb43
    refine pwp_seq_plain rfl fun K44 hK44 => ?_
    refine p_aS rfl ?_
    refine p_end (hK44 _ ?_); clear hK44 K44
    refine pwp_ret ?_
    refine ret_block ?_
    refine ret_seq ?_
    refine ret_loop ?_
    refine ret_block ?_
    refine ret_seq ?_
    refine end1 (v := .sc _) rfl ?_
    exact out_b (fits_c hz (cK_z htx (by assumption) (by assumption)))
   have hb43R := hb43; try simp only [zz] at hb43
   refine pwp_skip ?_
   refine block_norm ?_
   refine seq_norm (hK40 _ ?_); clear hK40 K40
   refine pwp_plain rfl fun K45 hK45 => ?_
   refine p_mS rfl ?_
   refine p_e rfl (e_adL rfl rfl) ?_
   refine p_aS rfl ?_
   refine p_end (hK45 _ ?_); clear hK45 K45
   exact loop_again (n + 1) (by show _ < _; omega) ⟨rfl, rfl, rfl, rfl, trivial⟩ ⟨rfl, trivial⟩ (by exact ⟨by show _ + 1 ≤ _; simp only [List.length_map] at *; omega, by exact nx_step (K := (cK xs x)) hiz hz (by first | exact cK_n (by rw [htx]; assumption) | exact cK_z htx (by assumption) (by assumption)), hihj36_0, hihj36_1, hihj36_2⟩)
  have hb42R := hb42; try simp only [zz] at hb42
  iterate 15 refine g_skip rfl rfl rfl ?_
  refine g_nocall rfl rfl rfl ?_
  refine g_pF rfl rfl rfl ?_
  refine g_endR (ds := [106, 107, 108, 109, 110, 111, 112, 113, 114, 115, 116, 117, 118, 119, 120, 121]) [0, 1, 0, 7, 15, 31, 0, 64, 255, 511, 1023, 2047, 1023, 8191, 16383, 32767, 1023, 66559, 1023, 459775, 984063, 2032639, 1023, 4195327, 1023, 33554431, 67108863] (by kernel_rfl) rfl (hK41 _ ?_); clear hK41 K41
  refine pwp_cond (t := false) rfl nofun (fun _ => ?_)
  refine pwp_skip ?_
  refine block_norm ?_
  refine seq_norm (hK40 _ ?_); clear hK40 K40
  refine pwp_plain rfl fun K46 hK46 => ?_
  refine p_mS rfl ?_
  refine p_e rfl (e_adL rfl rfl) ?_
  refine p_aS rfl ?_
  refine p_end (hK46 _ ?_); clear hK46 K46
  exact loop_again (n + 1) (by show _ < _; omega) ⟨rfl, rfl, rfl, rfl, trivial⟩ ⟨rfl, trivial⟩ (by exact ⟨by show _ + 1 ≤ _; simp only [List.length_map] at *; omega, by exact nx_step (K := (cK xs x)) hiz hz (by first | exact cK_n (by rw [htx]; assumption) | exact cK_z htx (by assumption) (by assumption)), hihj36_0, hihj36_1, hihj36_2⟩)
 have hb39R := hb39; try simp only [zz] at hb39
 refine pwp_exit ?_
 refine exit_seq ?_
 clear hK38 K38
 refine exit_loop ?_
 refine exit_here ?_
 refine seq_norm (hK32 _ ?_); clear hK32 K32
 refine pwp_seq_plain rfl fun K47 hK47 => ?_
 refine p_aS rfl ?_
 refine p_end (hK47 _ ?_); clear hK47 K47
 refine pwp_ret ?_
 refine end1 (v := .sc _) rfl ?_
 exact out_b (fits_yes (inG_of htx hgx (by assumption) (by omega) (by omega)) hin (by simp only [List.length_map] at *; omega) hiz (by simp only [List.length_map] at *; omega))

end Go.Proofs.Ytjmjiegplnfiiaa

/- The error of a schedule, as the reference tells it. No conditions. -/
set_option linter.unusedSimpArgs false
set_option linter.unusedVariables false
set_option maxRecDepth 100000
namespace Go.Proofs.Ytjmjiegplnfiiaa
open Go Go.Pv
/-! ### The error of a schedule -/
def DOK (xs : List Task) (d : List Slot) : Prop := ∀ y ∈ d, 0 ≤ y.task ∧ y.task < xs.length ∧ 0 ≤ y.start ∧ y.start ≤ 1000000
section
variable {xs : List Task} {c : Crew} {s : List Slot} {x : Slot} {t : Task} {g : Gang} {k : Nat}
theorem gng_of (h : 0 ≤ x.gang ∧ x.gang ≤ (c.gangs.length : Int) - 1) : ∃ g, c.gangs[x.gang.toNat]? = some g ∧ gng c x = g := by
 have : x.gang.toNat < c.gangs.length := by omega
 exact ⟨_, List.getElem?_eq_getElem this, gng_at (List.getElem?_eq_getElem this)⟩
end

end Go.Proofs.Ytjmjiegplnfiiaa
