import Derived.Test.YtjmjiegplnfiiaaLayA
/- Crews. No conditions. -/
set_option linter.unusedSimpArgs false
set_option linter.unusedVariables false
set_option maxRecDepth 100000
namespace Go.Proofs.Ytjmjiegplnfiiaa
open Go Go.Pv
/-! ### The first one of a list that is so -/
def ixA {α : Type} (K : α → Bool) (l : List α) : Int := match l.findIdx? K with | some i => (i : Int) | none => -1
theorem ixA_hit {α : Type} {K : α → Bool} {l : List α} {k : Nat} {x : α} (hx : l[k]? = some x) (h : ∀ i, i < k → ∀ y, l[i]? = some y → K y = false) (h2 : K x = true) : (k : Int) = ixA K l := by
 obtain ⟨h1, e⟩ := List.getElem?_eq_some_iff.1 hx
 have : l.findIdx? K = some k := by
   rw [List.findIdx?_eq_some_iff_getElem]
   exact ⟨h1, by rw [e]; exact h2, fun j hj => by rw [h j hj _ (List.getElem?_eq_getElem (by omega))]; decide⟩
 rw [ixA, this]
theorem ixA_no {α : Type} {K : α → Bool} {l : List α} {k : Nat} (h : ∀ i, i < k → ∀ y, l[i]? = some y → K y = false) (h2 : l.length ≤ k) : -1 = ixA K l := by
 have : l.findIdx? K = none := by
   rw [List.findIdx?_eq_none_iff]
   intro z hz
   obtain ⟨i, hi⟩ := List.getElem?_of_mem hz
   exact h i (by have := (List.getElem?_eq_some_iff.1 hi).1; omega) z hi
 rw [ixA, this]
theorem ixA_any {α : Type} {K : α → Bool} {l : List α} : decide (0 ≤ ixA K l) = l.any K := by
 rw [Bool.eq_iff_iff, decide_eq_true_eq, ixA, List.any_eq_true]
 cases h : l.findIdx? K with
 | none =>
   rw [List.findIdx?_eq_none_iff] at h
   simp only [Int.reduceNeg]
   exact ⟨fun h => absurd h (by decide), fun ⟨x, h1, h2⟩ => by rw [h x h1] at h2; cases h2⟩
 | some i =>
   rw [List.findIdx?_eq_some_iff_getElem] at h
   obtain ⟨h1, h2, _⟩ := h
   exact ⟨fun _ => ⟨_, List.getElem_mem h1, h2⟩, fun _ => Int.natCast_nonneg i⟩
theorem nx_step {α : Type} {K : α → Bool} {l : List α} {k : Nat} {x : α} (h : ∀ i, i < k → ∀ y, l[i]? = some y → K y = false) (hx : l[k]? = some x) (h2 : K x = false) : ∀ i, i < k + 1 → ∀ y, l[i]? = some y → K y = false := fun i hi y hy => by
 rcases Nat.lt_succ_iff_lt_or_eq.1 hi with h3 | h3
 · exact h i h3 y hy
 · subst h3; rw [hx] at hy; cases hy; exact h2
theorem nx_0 {α : Type} {K : α → Bool} {l : List α} : ∀ i, i < 0 → ∀ y, l[i]? = some y → K y = false := fun i h => absurd h (Nat.not_lt_zero _)

/-! ### Crews -/
def nmB (s : ByteArray) : Bool := !isNm s
def gdup (gs : List Gang) (k : Nat) (s : ByteArray) : Bool := (gs.take k).any fun h => decide (h.name = s)
def grng (g : Gang) : Prop := 0 ≤ g.fro ∧ g.fro ≤ g.til ∧ g.til ≤ 1000000
instance (g : Gang) : Decidable (grng g) := inferInstanceAs (Decidable (_ ∧ _))
def crng (x : Span) : Prop := (0 ≤ x.place ∧ x.place ≤ 999) ∧ 0 ≤ x.fro ∧ x.fro ≤ x.til ∧ x.til ≤ 1000000
instance (x : Span) : Decidable (crng x) := inferInstanceAs (Decidable (_ ∧ _))
def gangE (gs : List Gang) (k : Nat) (g : Gang) : Int := if isNm g.name = false ∨ g.trades.any nmB = true then 4 else if gdup gs k g.name then 5 else if ¬ grng g then 2 else 0
def gangsF (gs : List Gang) : Nat → List Gang → Int
 | _, [] => 0
 | k, g :: l => if gangE gs k g ≠ 0 then gangE gs k g else gangsF gs (k + 1) l
def crewE (c : Crew) : Int := if ¬ (1 ≤ c.gangs.length ∧ c.gangs.length ≤ 10) ∨ 40 < c.closed.length then 11 else if gangsF c.gangs 0 c.gangs ≠ 0 then gangsF c.gangs 0 c.gangs else if ∃ x ∈ c.closed, ¬ crng x then 2 else 0
section
variable {gs : List Gang} {k : Nat} {g : Gang}
theorem gangE_4 (h : isNm g.name = false ∨ g.trades.any nmB = true) : 4 = gangE gs k g := (if_pos h).symm
theorem gangE_5 (h1 : isNm g.name = true) (h2 : g.trades.any nmB = false) (h3 : gdup gs k g.name = true) : 5 = gangE gs k g := by rw [gangE, if_neg (by simp [h1, h2]), if_pos h3]
theorem gangE_2 (h1 : isNm g.name = true) (h2 : g.trades.any nmB = false) (h3 : gdup gs k g.name = false) (h4 : ¬ grng g) : 2 = gangE gs k g := by rw [gangE, if_neg (by simp [h1, h2]), if_neg (by simp [h3]), if_pos h4]
theorem gangE_0 (h1 : isNm g.name = true) (h2 : g.trades.any nmB = false) (h3 : gdup gs k g.name = false) (h4 : grng g) : gangE gs k g = 0 := by rw [gangE, if_neg (by simp [h1, h2]), if_neg (by simp [h3]), if_neg (fun q => q h4)]
theorem gangs_go (hinv : gangsF gs 0 gs = gangsF gs k (gs.drop k)) (hd : gs.drop k = g :: gs.drop (k + 1)) (h : gangE gs k g = 0) : gangsF gs 0 gs = gangsF gs (k + 1) (gs.drop (k + 1)) := by
 rw [hinv, hd, gangsF, if_neg (fun q => q h)]
theorem gangs_all (hinv : gangsF gs 0 gs = gangsF gs k (gs.drop k)) (hk : gs.length ≤ k) : gangsF gs 0 gs = 0 := by
 rw [hinv, List.drop_eq_nil_of_le hk, gangsF]
end
section
variable {c : Crew} {k : Nat}
theorem crew_11 (h : ¬ (1 ≤ c.gangs.length ∧ c.gangs.length ≤ 10) ∨ 40 < c.closed.length) : 11 = crewE c := (if_pos h).symm
theorem crew_g {g : Gang} {e : Int} (h : 1 ≤ c.gangs.length ∧ c.gangs.length ≤ 10 ∧ c.closed.length ≤ 40) (hinv : gangsF c.gangs 0 c.gangs = gangsF c.gangs k (c.gangs.drop k)) (hd : c.gangs.drop k = g :: c.gangs.drop (k + 1)) (he : e = gangE c.gangs k g) (hne : e ≠ 0) : e = crewE c := by
 have h1 : gangsF c.gangs 0 c.gangs = e := by rw [hinv, hd, gangsF, if_pos (he ▸ hne), he]
 rw [crewE, if_neg (by omega), h1, if_pos hne]
theorem crew_c {x : Span} (h : 1 ≤ c.gangs.length ∧ c.gangs.length ≤ 10 ∧ c.closed.length ≤ 40) (hg : gangsF c.gangs 0 c.gangs = 0) (hx : c.closed[k]? = some x) (hn : ¬ crng x) : 2 = crewE c := by
 rw [crewE, if_neg (by omega), if_neg (fun q => q hg), if_pos ⟨x, List.mem_of_getElem? hx, hn⟩]
theorem crew_0 (h : 1 ≤ c.gangs.length ∧ c.gangs.length ≤ 10 ∧ c.closed.length ≤ 40) (hg : gangsF c.gangs 0 c.gangs = 0) (hx : ∀ i, i < k → ∀ y, c.closed[i]? = some y → crng y) (hk : c.closed.length ≤ k) : 0 = crewE c := by
 rw [crewE, if_neg (by omega), if_neg (fun q => q hg), if_neg]
 rintro ⟨x, h1, h2⟩
 obtain ⟨i, hi⟩ := List.getElem?_of_mem h1
 exact h2 (hx i (by have := (List.getElem?_eq_some_iff.1 hi).1; omega) x hi)
end
theorem cx_step {l : List Span} {k : Nat} {x : Span} (h : ∀ i, i < k → ∀ y, l[i]? = some y → crng y) (hx : l[k]? = some x) (h2 : crng x) : ∀ i, i < k + 1 → ∀ y, l[i]? = some y → crng y := fun i hi y hy => by
 rcases Nat.lt_succ_iff_lt_or_eq.1 hi with h3 | h3
 · exact h i h3 y hy
 · subst h3; rw [hx] at hy; cases hy; exact h2
def briefB (c : Crew) : Bool := decide (c.gangs.length ≤ 15 ∧ c.closed.length ≤ 50 ∧ ∀ g ∈ c.gangs, g.trades.length ≤ 6 ∧ g.name.size ≤ 30 ∧ ∀ t ∈ g.trades, t.size ≤ 30)
def GFair (gs : List Gang) : Prop := ∀ g ∈ gs, g.trades.length ≤ 6 ∧ g.name.size ≤ 30 ∧ ∀ t ∈ g.trades, t.size ≤ 30
theorem brief_iff {c : Crew} : briefB c = true ↔ c.gangs.length ≤ 15 ∧ c.closed.length ≤ 50 ∧ GFair c.gangs := by simp only [briefB, decide_eq_true_eq, GFair]
theorem brief_no {c : Crew} (h : ¬ (c.gangs.length ≤ 15 ∧ c.closed.length ≤ 50 ∧ GFair c.gangs)) : false = briefB c := by
 cases e : briefB c with
 | false => rfl
 | true => exact absurd (brief_iff.1 e) h
theorem g_snoc {gs : List Gang} {k : Nat} {g : Gang} (ht : gs.take (k + 1) = gs.take k ++ [g]) (h : GFair (gs.take k)) (h2 : g.trades.length ≤ 6 ∧ g.name.size ≤ 30 ∧ ∀ t ∈ g.trades, t.size ≤ 30) : GFair (gs.take (k + 1)) := by
 rw [ht]; intro y hy
 rcases List.mem_append.1 hy with h3 | h3
 · exact h y h3
 · rw [List.mem_singleton.1 h3]; exact h2

theorem fr95 : (inFrame Try.f95.ntmps (Try.f95.body.getD .skip) && Try.f95.results.toList.all (resScope Try.f95.ntmps)) = true := by kernel_rfl
theorem crewF1 (s : ByteArray) (hs : s.size ≤ 9223372036854775807) : PCalls Try.prog 95 [.str s] (.bool (nmB s)) := by
 refine PCalls.of_code Try.func95 rfl rfl (by kernel_rfl) mixed fr95 (by show _ ≤ 6; simp) (.sc _) (pwp_seq_plain rfl fun K1 hK1 => p_aS rfl (p_end (hK1 _ ?_))); clear hK1 K1
 refine pwp_seq_plain rfl fun K2 hK2 => p_mS rfl (p_call rfl (.cons inn_sc .nil) (isName _ hs) (p_e rfl (e_not rfl) (p_aS rfl (p_end (hK2 _ ?_))))); clear hK2 K2
 refine pwp_ret (end1 (v := .sc _) rfl ?_)
 exact out_b rfl

theorem fr121 : (inFrame Try.f121.ntmps (Try.f121.body.getD .skip) && Try.f121.results.toList.all (resScope Try.f121.ntmps)) = true := by kernel_rfl
theorem crewIx (l : List ByteArray) (hlen : l.length ≤ 1000000) (hl : ∀ s ∈ l, s.size ≤ 9223372036854775807) : PCalls Try.prog 121 [.lit true 1 (l.map cb), .func (.func 95) [] []] (.int (ixA nmB l)) := by
 refine PCalls.of_code Try.func121 rfl rfl (by kernel_rfl) mixed fr121 (by show _ ≤ 19; simp) (.sc _) (pwp_seq_plain rfl fun K1 hK1 => p_aS rfl (p_end (hK1 _ ?_))); clear hK1 K1
 refine pwp_seq_seq (pwp_seq_plain rfl fun K2 hK2 => p_e rfl (e_move (v := .lit _ _ _) rfl) (p_e rfl (e_len rfl (by kernel_rfl)) (p_mS rfl (p_end (hK2 _ ?_))))); clear hK2 K2
 refine pwp_seq_block fun K3 hK3 => pwp_loopR (α := Nat) [0, 1, 7] (fun (k : Nat) => [(8, .int (k))]) (fun (k : Nat) (h : Heap) (_ : Nat → Nat) => ((k) ≤ l.length) ∧ (∀ i, i < (k) → ∀ y, l[i]? = some y → nmB y = false)) (fun (k : Nat) => l.length - (k)) (0) (by exact ⟨rfl, trivial⟩) (by exact ⟨by exact Nat.zero_le _, by exact nx_0⟩) fun k r4 h5 c6 hj7 => ?_
 obtain ⟨hk, hin⟩ := hj7
 try dsimp only at hk
 try dsimp only at hin
 show pwp _ _ (loopQ _ _ _) ⟨sets (mix _ _ _) [(8, .int k)], _, _⟩
 refine pwp_seq_plain rfl fun K8 hK8 => p_e rfl (e_lt rfl rfl) (p_end (hK8 _ ?_)); clear hK8 K8
 refine pwp_seq_cond rfl fun K9 hK9 => ⟨fun hb10 => ?_, fun hb10 => ?_⟩
 ·have hb10R := hb10; try simp only [zz] at hb10
  obtain ⟨x, hx, hd, ht⟩ := get_lt (xs := l) (i := k) (by omega)
  refine pwp_skip (seq_norm (hK9 _ ?_)); clear hK9 K9
  refine pwp_seq_block fun K11 hK11 => pwp_seq_plain rfl fun K12 hK12 => p_mS rfl (p_aS rfl (p_end (hK12 _ ?_))); clear hK12 K12
  refine pwp_seq_plain rfl fun K13 hK13 => p_e rfl (e_move (v := .func _ _ _) rfl) (p_e rfl (e_move (v := .lit _ _ _) rfl) (p_mS rfl (p_e rfl (e_ixL rfl rfl) (p_e rfl (e_load (v := .sc _) rfl (by kernel_rfl) (by kernel_rfl) (by kernel_rfl) (by first | omega | (simp only [List.length_map]; omega)) (by decide) ((cell_map hx _).trans rfl)) (p_call rfl (.cons inn_sc .nil) (crewF1 _ (hl _ (List.mem_of_getElem? hx))) (p_end (hK13 _ ?_))))))); clear hK13 K13
  refine pwp_cond rfl (fun hb14 => ?_) (fun hb14 => ?_)
  ·have hb14R := hb14; try simp only [zz] at hb14
   refine pwp_seq_plain rfl fun K15 hK15 => p_mS rfl (p_aS rfl (p_end (hK15 _ ?_))); clear hK15 K15
   refine pwp_ret (ret_block (ret_seq (ret_loop (ret_block (ret_seq (end1 (v := .sc _) rfl ?_))))))
   exact out_i (ixA_hit (K := nmB) hx hin (by assumption))
  have hb14R := hb14; try simp only [zz] at hb14
  refine pwp_skip (block_norm (seq_norm (hK11 _ ?_))); clear hK11 K11
  refine pwp_plain rfl fun K16 hK16 => p_e rfl (e_adL rfl rfl) (p_mS rfl (p_end (hK16 _ ?_))); clear hK16 K16
  exact loop_again (k + 1) (by show _ < _; omega) ⟨rfl, rfl, rfl, trivial⟩ ⟨rfl, trivial⟩ (by exact ⟨by show _ + 1 ≤ _; simp only [List.length_map] at *; omega, by exact nx_step hin hx (by first | assumption | simpa using (by assumption))⟩)
 have hb10R := hb10; try simp only [zz] at hb10
 refine pwp_exit (exit_seq ?_)
 clear hK9 K9
 refine exit_loop (exit_here (seq_norm (hK3 _ ?_))); clear hK3 K3
 refine pwp_seq_plain rfl fun K17 hK17 => p_aS rfl (p_end (hK17 _ ?_)); clear hK17 K17
 refine pwp_ret (end1 (v := .sc _) rfl ?_)
 exact out_i (ixA_no (K := nmB) hin (by simp only [List.length_map] at *; omega))

theorem fr94 : (inFrame Try.f94.ntmps (Try.f94.body.getD .skip) && Try.f94.results.toList.all (resScope Try.f94.ntmps)) = true := by kernel_rfl
theorem crewAny (l : List ByteArray) (hlen : l.length ≤ 1000000) (hl : ∀ s ∈ l, s.size ≤ 9223372036854775807) : PCalls Try.prog 94 [.lit true 1 (l.map cb), .func (.func 95) [] []] (.bool (l.any nmB)) := by
 refine PCalls.of_code Try.func94 rfl rfl (by kernel_rfl) mixed fr94 (by show _ ≤ 9; simp) (.sc _) (pwp_seq_plain rfl fun K1 hK1 => p_aS rfl (p_end (hK1 _ ?_))); clear hK1 K1
 refine pwp_seq_plain rfl fun K2 hK2 => p_e rfl (e_move (v := .lit _ _ _) rfl) (p_e rfl (e_move (v := .func _ _ _) rfl) (p_call rfl (.cons inn_lit (.cons inn_func0 .nil)) (crewIx l hlen hl) (p_e rfl (e_ge rfl rfl) (p_aS rfl (p_end (hK2 _ ?_)))))); clear hK2 K2
 refine pwp_ret (end1 (v := .sc _) rfl ?_)
 exact out_b ixA_any

def gnB (s : ByteArray) (h : Gang) : Bool := decide (h.name = s)

theorem fr97 : (inFrame Try.f97.ntmps (Try.f97.body.getD .skip) && Try.f97.results.toList.all (resScope Try.f97.ntmps)) = true := by kernel_rfl
theorem crewF2 (h g : Gang) : PCalls Try.prog 97 [.agg h.enc, .lptr true 4 [g.enc] 0 0] (.bool (gnB g.name h)) := by
 refine PCalls.of_code Try.func97 rfl rfl (by kernel_rfl) mixed fr97 (by show _ ≤ 9; simp) (.sc _) (pwp_seq_plain rfl fun K1 hK1 => p_new rfl (e_box (n := 4) rfl rfl) ⟨rfl, by decide⟩ (p_aS rfl (p_end (hK1 _ ?_)))); clear hK1 K1
 refine pwp_seq_plain rfl fun K2 hK2 => p_e rfl (e_faQ pl4 rfl) (p_e rfl (e_lH (v := .sc _) rfl (hset_self _ _ _) rfl) (p_e rfl (e_fb pl4 rfl) (p_e rfl (e_load (v := .sc _) rfl (by kernel_rfl) (by kernel_rfl) (by kernel_rfl) (by exact Nat.zero_lt_one) (by decide) rfl) (p_e rfl (e_seq rfl rfl) (p_aS rfl (p_end (hK2 _ ?_))))))); clear hK2 K2
 refine pwp_ret (end1 (v := .sc _) rfl ?_)
 exact out_b rfl

theorem fr122 : (inFrame Try.f122.ntmps (Try.f122.body.getD .skip) && Try.f122.results.toList.all (resScope Try.f122.ntmps)) = true := by kernel_rfl
theorem crewIxG (gs : List Gang) (g : Gang) (hlen : gs.length ≤ 1000000) : PCalls Try.prog 122 [.lit true 4 (gs.map Gang.enc), .func (.func 97) [] [.lptr true 4 [g.enc] 0 0]] (.int (ixA (gnB g.name) gs)) := by
 refine PCalls.of_code Try.func122 rfl rfl (by kernel_rfl) mixed fr122 (by show _ ≤ 19; simp) (.sc _) (pwp_seq_plain rfl fun K1 hK1 => p_aS rfl (p_end (hK1 _ ?_))); clear hK1 K1
 refine pwp_seq_seq (pwp_seq_plain rfl fun K2 hK2 => p_e rfl (e_move (v := .lit _ _ _) rfl) (p_e rfl (e_len rfl (by kernel_rfl)) (p_mS rfl (p_end (hK2 _ ?_))))); clear hK2 K2
 refine pwp_seq_block fun K3 hK3 => pwp_loopR (α := Nat) [0, 1, 7] (fun (k : Nat) => [(8, .int (k))]) (fun (k : Nat) (h : Heap) (_ : Nat → Nat) => ((k) ≤ gs.length) ∧ (∀ i, i < (k) → ∀ y, gs[i]? = some y → gnB g.name y = false)) (fun (k : Nat) => gs.length - (k)) (0) (by exact ⟨rfl, trivial⟩) (by exact ⟨by exact Nat.zero_le _, by exact nx_0⟩) fun k r4 h5 c6 hj7 => ?_
 obtain ⟨hk, hin⟩ := hj7
 try dsimp only at hk
 try dsimp only at hin
 show pwp _ _ (loopQ _ _ _) ⟨sets (mix _ _ _) [(8, .int k)], _, _⟩
 refine pwp_seq_plain rfl fun K8 hK8 => p_e rfl (e_lt rfl rfl) (p_end (hK8 _ ?_)); clear hK8 K8
 refine pwp_seq_cond rfl fun K9 hK9 => ⟨fun hb10 => ?_, fun hb10 => ?_⟩
 ·have hb10R := hb10; try simp only [zz] at hb10
  obtain ⟨x, hx, hd, ht⟩ := get_lt (xs := gs) (i := k) (by omega)
  refine pwp_skip (seq_norm (hK9 _ ?_)); clear hK9 K9
  refine pwp_seq_block fun K11 hK11 => pwp_seq_plain rfl fun K12 hK12 => p_mS rfl (p_aS rfl (p_end (hK12 _ ?_))); clear hK12 K12
  refine pwp_seq_plain rfl fun K13 hK13 => p_e rfl (e_move (v := .func _ _ _) rfl) (p_e rfl (e_move (v := .lit _ _ _) rfl) (p_mS rfl (p_e rfl (e_ixL rfl rfl) (p_e rfl (e_loadA (n := 4) rfl (by kernel_rfl) (by kernel_rfl) (by kernel_rfl) (by first | omega | (simp only [List.length_map]; omega)) (by decide) (by first | exact agg_map hx rfl)) (p_call rfl (.cons (inn_agg (Gang.pure _)) (.cons inn_lptr .nil)) (crewF2 _ _) (p_end (hK13 _ ?_))))))); clear hK13 K13
  refine pwp_cond rfl (fun hb14 => ?_) (fun hb14 => ?_)
  ·have hb14R := hb14; try simp only [zz] at hb14
   refine pwp_seq_plain rfl fun K15 hK15 => p_mS rfl (p_aS rfl (p_end (hK15 _ ?_))); clear hK15 K15
   refine pwp_ret (ret_block (ret_seq (ret_loop (ret_block (ret_seq (end1 (v := .sc _) rfl ?_))))))
   exact out_i (ixA_hit (K := gnB g.name) hx hin (by assumption))
  have hb14R := hb14; try simp only [zz] at hb14
  refine pwp_skip (block_norm (seq_norm (hK11 _ ?_))); clear hK11 K11
  refine pwp_plain rfl fun K16 hK16 => p_e rfl (e_adL rfl rfl) (p_mS rfl (p_end (hK16 _ ?_))); clear hK16 K16
  exact loop_again (k + 1) (by show _ < _; omega) ⟨rfl, rfl, rfl, trivial⟩ ⟨rfl, trivial⟩ (by exact ⟨by show _ + 1 ≤ _; simp only [List.length_map] at *; omega, by exact nx_step hin hx (by first | assumption | simpa using (by assumption))⟩)
 have hb10R := hb10; try simp only [zz] at hb10
 refine pwp_exit (exit_seq ?_)
 clear hK9 K9
 refine exit_loop (exit_here (seq_norm (hK3 _ ?_))); clear hK3 K3
 refine pwp_seq_plain rfl fun K17 hK17 => p_aS rfl (p_end (hK17 _ ?_)); clear hK17 K17
 refine pwp_ret (end1 (v := .sc _) rfl ?_)
 exact out_i (ixA_no (K := gnB g.name) hin (by simp only [List.length_map] at *; omega))

theorem fr96 : (inFrame Try.f96.ntmps (Try.f96.body.getD .skip) && Try.f96.results.toList.all (resScope Try.f96.ntmps)) = true := by kernel_rfl
theorem crewAnyG (gs : List Gang) (g : Gang) (hlen : gs.length ≤ 1000000) : PCalls Try.prog 96 [.lit true 4 (gs.map Gang.enc), .func (.func 97) [] [.lptr true 4 [g.enc] 0 0]] (.bool (gs.any (gnB g.name))) := by
 refine PCalls.of_code Try.func96 rfl rfl (by kernel_rfl) mixed fr96 (by show _ ≤ 9; simp) (.sc _) (pwp_seq_plain rfl fun K1 hK1 => p_aS rfl (p_end (hK1 _ ?_))); clear hK1 K1
 refine pwp_seq_plain rfl fun K2 hK2 => p_e rfl (e_move (v := .lit _ _ _) rfl) (p_e rfl (e_move (v := .func _ _ _) rfl) (p_call rfl (.cons inn_lit (.cons (inn_clos1 (.lptr id)) .nil)) (crewIxG gs g hlen) (p_e rfl (e_ge rfl rfl) (p_aS rfl (p_end (hK2 _ ?_)))))); clear hK2 K2
 refine pwp_ret (end1 (v := .sc _) rfl ?_)
 exact out_b ixA_any

theorem fr51 : (inFrame Try.f51.ntmps (Try.f51.body.getD .skip) && Try.f51.results.toList.all (resScope Try.f51.ntmps)) = true := by kernel_rfl
theorem CheckCrewC (c : Crew) (hgl : c.gangs.length ≤ 15) (hcl : c.closed.length ≤ 50) (hgf : GFair c.gangs) : PCalls Try.prog 51 [.agg c.enc] (.int (crewE c)) := by
 refine PCalls.of_code Try.func51 rfl rfl (by kernel_rfl) mixed fr51 (by show _ ≤ 89; simp) (.sc _) (pwp_seq_plain rfl fun K1 hK1 => p_new rfl (e_box (n := 2) rfl rfl) ⟨rfl, by decide⟩ (p_aS rfl (p_end (hK1 _ ?_)))); clear hK1 K1
 refine pwp_seq_seq (pwp_seq_gops rfl fun K2 hK2 => g_begin (g_e rfl (e_faQ pl2 rfl) (g_e rfl (e_lH (v := .lit _ _ _) rfl (hset_self _ _ _) rfl) (g_e rfl (e_len rfl (by kernel_rfl)) (g_call rfl rfl rfl rfl (.cons inn_sc (.cons inn_sc (.cons inn_sc .nil))) (within _ _ _) (g_e rfl (e_not rfl) ?_))))))
 refine g_mS rfl rfl ?_
 refine g_cases (fun hb3 => ?_) (fun hb3 => ?_)
 ·have hb3R := hb3; try simp only [zz] at hb3
  iterate 4 refine g_skip rfl rfl rfl ?_
  refine g_pT rfl rfl rfl (g_end (ds := [13, 14, 15, 16]) rfl rfl (hK2 _ ?_)); clear hK2 K2
  refine pwp_seq_cond (t := true) rfl fun K4 hK4 => ⟨fun _ => ?_, nofun⟩
  refine pwp_seq_plain rfl fun K5 hK5 => p_aS rfl (p_end (hK5 _ ?_)); clear hK5 K5
  refine pwp_ret (ret_seq (end1 (v := .sc _) rfl ?_))
  exact out_i (crew_11 (by simp only [List.length_map] at *; omega))
 have hb3R := hb3; try simp only [zz] at hb3
 refine g_e rfl (e_faQ pl2 rfl) (g_e rfl (e_lH (v := .lit _ _ _) rfl (hset_self _ _ _) rfl) (g_e rfl (e_len rfl (by kernel_rfl)) (g_e rfl (e_gt rfl rfl) (g_pF rfl rfl rfl (g_end (ds := [13, 14, 15, 16]) rfl rfl (hK2 _ ?_)))))); clear hK2 K2
 refine pwp_seq_cond rfl fun K6 hK6 => ⟨fun hb7 => ?_, fun hb7 => ?_⟩
 ·have hb7R := hb7; try simp only [zz] at hb7
  refine pwp_seq_plain rfl fun K8 hK8 => p_aS rfl (p_end (hK8 _ ?_)); clear hK8 K8
  refine pwp_ret (ret_seq (end1 (v := .sc _) rfl ?_))
  exact out_i (crew_11 (by simp only [List.length_map] at *; omega))
 have hb7R := hb7; try simp only [zz] at hb7
 refine pwp_skip (seq_norm (hK6 _ ?_)); clear hK6 K6
 refine pwp_seq_seq ?_
 have hsz : 1 ≤ c.gangs.length ∧ c.gangs.length ≤ 10 ∧ c.closed.length ≤ 40 := by simp only [List.length_map] at *; omega
 refine pwp_seq_plain rfl fun K9 hK9 => p_e rfl (e_faQ pl2 rfl) (p_e rfl (e_lH (v := .lit _ _ _) rfl (hset_self _ _ _) rfl) (p_e rfl (e_len rfl (by kernel_rfl)) (p_mS rfl (p_end (hK9 _ ?_))))); clear hK9 K9
 refine pwp_seq_block fun K10 hK10 => pwp_loopR (α := Nat) [1, 19, 20] (fun (k : Nat) => [(21, .int (k))]) (fun (k : Nat) (h : Heap) (_ : Nat → Nat) => ((k) ≤ c.gangs.length) ∧ (gangsF c.gangs 0 c.gangs = gangsF c.gangs (k) (c.gangs.drop (k))) ∧ (h (1, 0) = some (.rows 2 [Crew.enc c]))) (fun (k : Nat) => c.gangs.length - (k)) (0) (by exact ⟨rfl, trivial⟩) (by exact ⟨by exact Nat.zero_le _, by exact rfl, (hset_self _ _ _)⟩) fun k r11 h12 c13 hj14 => ?_
 obtain ⟨hk, hinv, hihj14_0⟩ := hj14
 try dsimp only at hk
 try dsimp only at hinv
 try dsimp only at hihj14_0
 show pwp _ _ (loopQ _ _ _) ⟨sets (mix _ _ _) [(21, .int k)], _, _⟩
 refine pwp_seq_plain rfl fun K15 hK15 => p_e rfl (e_lt rfl rfl) (p_end (hK15 _ ?_)); clear hK15 K15
 refine pwp_seq_cond rfl fun K16 hK16 => ⟨fun hb17 => ?_, fun hb17 => ?_⟩
 ·have hb17R := hb17; try simp only [zz] at hb17
  obtain ⟨g, hg, hd, ht⟩ := get_lt (xs := c.gangs) (i := k) (by omega)
  have hgx := hgf g (List.mem_of_getElem? hg)
  refine pwp_skip (seq_norm (hK16 _ ?_)); clear hK16 K16
  refine pwp_seq_block fun K18 hK18 => pwp_seq_plain rfl fun K19 hK19 => p_mS rfl (p_e rfl (e_ixL rfl rfl) (p_e rfl (e_loadA (n := 4) rfl (by kernel_rfl) (by kernel_rfl) (by kernel_rfl) (by first | omega | (simp only [List.length_map]; omega)) (by decide) (by first | exact agg_map hg rfl)) (p_new rfl (e_alloc (cs := [.str ByteArray.empty, .nil, .int 0, .int 0]) (n := 4) (by kernel_rfl) rfl (by decide)) (ob_alloc (by decide)) (p_aS rfl (p_store rfl (e_storeA rfl (hset_self _ _ _) rfl rfl rfl (by kernel_rfl) rfl (by kernel_rfl)) trivial ?_)))))
  refine p_end (hK19 _ ?_); clear hK19 K19
  refine pwp_block (pwp_seq_gops rfl fun K20 hK20 => g_begin (g_e rfl (e_faQ pl4 rfl) (g_e rfl (e_lH (v := .sc _) rfl (hset_self _ _ _) rfl) (g_call rfl rfl rfl rfl (.cons inn_sc .nil) (isName _ (by omega)) (g_e rfl (e_not rfl) (g_mS rfl rfl ?_))))))
  refine g_cases (fun hb21 => ?_) (fun hb21 => ?_)
  ·have hb21R := hb21; try simp only [zz] at hb21
   iterate 2 refine g_skip rfl rfl rfl ?_
   refine g_nocall rfl rfl rfl (g_pT rfl rfl rfl (g_aS rfl rfl (g_end (ds := [32, 33, 34]) rfl rfl (hK20 _ ?_)))); clear hK20 K20
   refine pwp_cond (t := true) rfl (fun _ => ?_) nofun
   refine pwp_seq_plain rfl fun K22 hK22 => p_aS rfl (p_end (hK22 _ ?_)); clear hK22 K22
   refine pwp_ret (ret_block (ret_block (ret_seq (ret_loop (ret_block (ret_seq (end1 (v := .sc _) rfl ?_)))))))
   exact out_i (crew_g hsz hinv hd (gangE_4 (by first | exact .inl (by assumption) | exact .inr (by assumption))) (by decide))
  have hb21R := hb21; try simp only [zz] at hb21
  refine g_e rfl (e_faQ pl4 rfl) (g_e rfl (e_lH (v := .lit _ _ _) rfl (hset_self _ _ _) rfl) (g_call rfl rfl rfl rfl (.cons inn_lit (.cons inn_func0 .nil)) (crewAny g.trades (by omega) (fun s hs => by have := hgx.2.2 s hs; omega)) (g_pF rfl rfl rfl (g_aS rfl rfl (g_end (ds := [32, 33, 34]) rfl rfl (hK20 _ ?_)))))); clear hK20 K20
  refine pwp_cond rfl (fun hb23 => ?_) (fun hb23 => ?_)
  ·have hb23R := hb23; try simp only [zz] at hb23
   refine pwp_seq_plain rfl fun K24 hK24 => p_aS rfl (p_end (hK24 _ ?_)); clear hK24 K24
   refine pwp_ret (ret_block (ret_block (ret_seq (ret_loop (ret_block (ret_seq (end1 (v := .sc _) rfl ?_)))))))
   exact out_i (crew_g hsz hinv hd (gangE_4 (by first | exact .inl (by assumption) | exact .inr (by assumption))) (by decide))
  have hb23R := hb23; try simp only [zz] at hb23
  refine pwp_seq_plain rfl fun K25 hK25 => p_e rfl (e_faQ pl2 rfl) (p_e rfl (e_lH (v := .lit _ _ _) rfl ((hset_ne (key_ne rfl)).trans ((hset_ne (key_ne rfl)).trans hihj14_0)) rfl) (p_mS rfl (p_e rfl (e_upto (n := k) rfl rfl rfl (by omega) (by kernel_rfl) (by kernel_rfl)) (p_e rfl (e_mkf rfl) (p_call rfl (.cons inn_lit (.cons (inn_clos1 (inn_ptr (hset_self _ _ _) (fun row hr => by rw [List.mem_singleton.1 hr]; exact Gang.pure _))) .nil)) (crewAnyG (c.gangs.take k) g (by rw [List.length_take]; omega)) (p_aS rfl ?_))))))
  refine p_end (hK25 _ ?_); clear hK25 K25
  refine pwp_cond rfl (fun hb26 => ?_) (fun hb26 => ?_)
  ·have hb26R := hb26; try simp only [zz] at hb26
   refine pwp_seq_plain rfl fun K27 hK27 => p_aS rfl (p_end (hK27 _ ?_)); clear hK27 K27
   refine pwp_ret (ret_block (ret_block (ret_seq (ret_loop (ret_block (ret_seq (end1 (v := .sc _) rfl ?_)))))))
   exact out_i (crew_g hsz hinv hd (gangE_5 (by assumption) (by assumption) (by assumption)) (by decide))
  have hb26R := hb26; try simp only [zz] at hb26
  refine pwp_seq_gops rfl fun K28 hK28 => g_begin (g_e rfl (e_faQ pl4 rfl) (g_e rfl (e_lH (v := .sc _) rfl (hset_self _ _ _) rfl) (g_e rfl (e_lt rfl rfl) (g_mS rfl rfl ?_))))
  refine g_cases (fun hb29 => ?_) (fun hb29 => ?_)
  ·have hb29R := hb29; try simp only [zz] at hb29
   iterate 5 refine g_skip rfl rfl rfl ?_
   refine g_pT rfl rfl rfl (g_mS rfl rfl ?_)
   iterate 3 refine g_skip rfl rfl rfl ?_
   refine g_pT rfl rfl rfl (g_aS rfl rfl (g_end (ds := [48, 49, 50, 51, 52, 55, 56, 57]) rfl rfl (hK28 _ ?_))); clear hK28 K28
   refine pwp_cond (t := true) rfl (fun _ => ?_) nofun
   refine pwp_seq_plain rfl fun K30 hK30 => p_aS rfl (p_end (hK30 _ ?_)); clear hK30 K30
   refine pwp_ret (ret_block (ret_block (ret_seq (ret_loop (ret_block (ret_seq (end1 (v := .sc _) rfl ?_)))))))
   exact out_i (crew_g hsz hinv hd (gangE_2 (by assumption) (by assumption) (by assumption) (by unfold grng; omega)) (by decide))
  have hb29R := hb29; try simp only [zz] at hb29
  refine g_e rfl (e_faQ pl4 rfl) (g_e rfl (e_lH (v := .sc _) rfl (hset_self _ _ _) rfl) (g_e rfl (e_faQ pl4 rfl) (g_e rfl (e_lH (v := .sc _) rfl (hset_self _ _ _) rfl) (g_e rfl (e_gt rfl rfl) (g_pF rfl rfl rfl (g_mS rfl rfl ?_))))))
  refine g_cases (fun hb31 => ?_) (fun hb31 => ?_)
  ·have hb31R := hb31; try simp only [zz] at hb31
   iterate 3 refine g_skip rfl rfl rfl ?_
   refine g_pT rfl rfl rfl (g_aS rfl rfl (g_end (ds := [48, 49, 50, 51, 52, 55, 56, 57]) rfl rfl (hK28 _ ?_))); clear hK28 K28
   refine pwp_cond (t := true) rfl (fun _ => ?_) nofun
   refine pwp_seq_plain rfl fun K32 hK32 => p_aS rfl (p_end (hK32 _ ?_)); clear hK32 K32
   refine pwp_ret (ret_block (ret_block (ret_seq (ret_loop (ret_block (ret_seq (end1 (v := .sc _) rfl ?_)))))))
   exact out_i (crew_g hsz hinv hd (gangE_2 (by assumption) (by assumption) (by assumption) (by unfold grng; omega)) (by decide))
  have hb31R := hb31; try simp only [zz] at hb31
  refine g_e rfl (e_faQ pl4 rfl) (g_e rfl (e_lH (v := .sc _) rfl (hset_self _ _ _) rfl) (g_e rfl (e_gt rfl rfl) (g_pF rfl rfl rfl (g_aS rfl rfl (g_end (ds := [48, 49, 50, 51, 52, 55, 56, 57]) rfl rfl (hK28 _ ?_)))))); clear hK28 K28
  refine pwp_cond rfl (fun hb33 => ?_) (fun hb33 => ?_)
  ·have hb33R := hb33; try simp only [zz] at hb33
   refine pwp_seq_plain rfl fun K34 hK34 => p_aS rfl (p_end (hK34 _ ?_)); clear hK34 K34
   refine pwp_ret (ret_block (ret_block (ret_seq (ret_loop (ret_block (ret_seq (end1 (v := .sc _) rfl ?_)))))))
   exact out_i (crew_g hsz hinv hd (gangE_2 (by assumption) (by assumption) (by assumption) (by unfold grng; omega)) (by decide))
  have hb33R := hb33; try simp only [zz] at hb33
  refine pwp_skip (block_norm (block_norm (seq_norm (hK18 _ ?_)))); clear hK18 K18
  refine pwp_plain rfl fun K35 hK35 => p_e rfl (e_adL rfl rfl) (p_mS rfl (p_end (hK35 _ ?_))); clear hK35 K35
  exact loop_again (k + 1) (by show _ < _; omega) ⟨rfl, rfl, rfl, trivial⟩ ⟨rfl, trivial⟩ (by exact ⟨by show _ + 1 ≤ _; simp only [List.length_map] at *; omega, by exact gangs_go hinv hd (gangE_0 (by assumption) (by assumption) (by assumption) (by unfold grng; omega)), ((hset_ne (key_ne rfl)).trans ((hset_ne (key_ne rfl)).trans hihj14_0))⟩)
 have hb17R := hb17; try simp only [zz] at hb17
 have hT := gangs_all hinv (by simp only [List.length_map] at *; omega)
 refine pwp_exit (exit_seq ?_)
 clear hK16 K16
 refine exit_loop (exit_here (seq_norm (hK10 _ ?_))); clear hK10 K10
 refine pwp_seq_seq (pwp_seq_plain rfl fun K36 hK36 => p_e rfl (e_faQ pl2 rfl) (p_e rfl (e_lH (v := .lit _ _ _) rfl hihj14_0 rfl) (p_e rfl (e_len rfl (by kernel_rfl)) (p_mS rfl (p_end (hK36 _ ?_)))))); clear hK36 K36
 refine pwp_seq_block fun K37 hK37 => pwp_loopR (α := Nat) [61, 62] (fun (k : Nat) => [(63, .int (k))]) (fun (k : Nat) (h : Heap) (_ : Nat → Nat) => ((k) ≤ c.closed.length) ∧ (∀ i, i < (k) → ∀ y, c.closed[i]? = some y → crng y)) (fun (k : Nat) => c.closed.length - (k)) (0) (by exact ⟨rfl, trivial⟩) (by exact ⟨by exact Nat.zero_le _, by exact fun i h => absurd h (Nat.not_lt_zero _)⟩) fun k r38 h39 c40 hj41 => ?_
 obtain ⟨hk, hcx⟩ := hj41
 try dsimp only at hk
 try dsimp only at hcx
 show pwp _ _ (loopQ _ _ _) ⟨sets (mix _ _ _) [(63, .int k)], _, _⟩
 refine pwp_seq_plain rfl fun K42 hK42 => p_e rfl (e_lt rfl rfl) (p_end (hK42 _ ?_)); clear hK42 K42
 refine pwp_seq_cond rfl fun K43 hK43 => ⟨fun hb44 => ?_, fun hb44 => ?_⟩
 ·have hb44R := hb44; try simp only [zz] at hb44
  obtain ⟨x, hx, hd, ht⟩ := get_lt (xs := c.closed) (i := k) (by omega)
  refine pwp_skip (seq_norm (hK43 _ ?_)); clear hK43 K43
  refine pwp_seq_block fun K45 hK45 => pwp_seq_plain rfl fun K46 hK46 => p_e rfl (e_ixL rfl rfl) (p_e rfl (e_loadA (n := 3) rfl (by kernel_rfl) (by kernel_rfl) (by kernel_rfl) (by first | omega | (simp only [List.length_map]; omega)) (by decide) (by first | exact agg_map hx rfl)) (p_new rfl (e_alloc (cs := [.int 0, .int 0, .int 0]) (n := 3) (by kernel_rfl) rfl (by decide)) (ob_alloc (by decide)) (p_store rfl (e_storeA rfl (hset_self _ _ _) rfl rfl rfl (by kernel_rfl) rfl (by kernel_rfl)) trivial (p_end (hK46 _ ?_))))); clear hK46 K46
  refine pwp_seq_gops rfl fun K47 hK47 => g_begin (g_e rfl (e_faQ pl3 rfl) (g_e rfl (e_lH (v := .sc _) rfl (hset_self _ _ _) rfl) (g_call rfl rfl rfl rfl (.cons inn_sc (.cons inn_sc (.cons inn_sc .nil))) (within _ _ _) (g_e rfl (e_not rfl) (g_mS rfl rfl ?_)))))
  refine g_cases (fun hb48 => ?_) (fun hb48 => ?_)
  ·have hb48R := hb48; try simp only [zz] at hb48
   iterate 3 refine g_skip rfl rfl rfl ?_
   refine g_pT rfl rfl rfl (g_mS rfl rfl ?_)
   iterate 5 refine g_skip rfl rfl rfl ?_
   refine g_pT rfl rfl rfl (g_mS rfl rfl ?_)
   iterate 3 refine g_skip rfl rfl rfl ?_
   refine g_pT rfl rfl rfl (g_end (ds := [72, 73, 74, 77, 78, 79, 80, 81, 84, 85, 86]) rfl rfl (hK47 _ ?_)); clear hK47 K47
   refine pwp_cond (t := true) rfl (fun _ => ?_) nofun
   refine pwp_seq_plain rfl fun K49 hK49 => p_aS rfl (p_end (hK49 _ ?_)); clear hK49 K49
   refine pwp_ret (ret_block (ret_seq (ret_loop (ret_block (ret_seq (end1 (v := .sc _) rfl ?_))))))
   exact out_i (crew_c hsz hT hx (by unfold crng; omega))
  have hb48R := hb48; try simp only [zz] at hb48
  refine g_e rfl (e_faQ pl3 rfl) (g_e rfl (e_lH (v := .sc _) rfl (hset_self _ _ _) rfl) (g_e rfl (e_lt rfl rfl) (g_pF rfl rfl rfl (g_mS rfl rfl ?_))))
  refine g_cases (fun hb50 => ?_) (fun hb50 => ?_)
  ·have hb50R := hb50; try simp only [zz] at hb50
   iterate 5 refine g_skip rfl rfl rfl ?_
   refine g_pT rfl rfl rfl (g_mS rfl rfl ?_)
   iterate 3 refine g_skip rfl rfl rfl ?_
   refine g_pT rfl rfl rfl (g_end (ds := [72, 73, 74, 77, 78, 79, 80, 81, 84, 85, 86]) rfl rfl (hK47 _ ?_)); clear hK47 K47
   refine pwp_cond (t := true) rfl (fun _ => ?_) nofun
   refine pwp_seq_plain rfl fun K51 hK51 => p_aS rfl (p_end (hK51 _ ?_)); clear hK51 K51
   refine pwp_ret (ret_block (ret_seq (ret_loop (ret_block (ret_seq (end1 (v := .sc _) rfl ?_))))))
   exact out_i (crew_c hsz hT hx (by unfold crng; omega))
  have hb50R := hb50; try simp only [zz] at hb50
  refine g_e rfl (e_faQ pl3 rfl) (g_e rfl (e_lH (v := .sc _) rfl (hset_self _ _ _) rfl) (g_e rfl (e_faQ pl3 rfl) (g_e rfl (e_lH (v := .sc _) rfl (hset_self _ _ _) rfl) (g_e rfl (e_gt rfl rfl) (g_pF rfl rfl rfl (g_mS rfl rfl ?_))))))
  refine g_cases (fun hb52 => ?_) (fun hb52 => ?_)
  ·have hb52R := hb52; try simp only [zz] at hb52
   iterate 3 refine g_skip rfl rfl rfl ?_
   refine g_pT rfl rfl rfl (g_end (ds := [72, 73, 74, 77, 78, 79, 80, 81, 84, 85, 86]) rfl rfl (hK47 _ ?_)); clear hK47 K47
   refine pwp_cond (t := true) rfl (fun _ => ?_) nofun
   refine pwp_seq_plain rfl fun K53 hK53 => p_aS rfl (p_end (hK53 _ ?_)); clear hK53 K53
   refine pwp_ret (ret_block (ret_seq (ret_loop (ret_block (ret_seq (end1 (v := .sc _) rfl ?_))))))
   exact out_i (crew_c hsz hT hx (by unfold crng; omega))
  have hb52R := hb52; try simp only [zz] at hb52
  refine g_e rfl (e_faQ pl3 rfl) (g_e rfl (e_lH (v := .sc _) rfl (hset_self _ _ _) rfl) (g_e rfl (e_gt rfl rfl) (g_pF rfl rfl rfl (g_end (ds := [72, 73, 74, 77, 78, 79, 80, 81, 84, 85, 86]) rfl rfl (hK47 _ ?_))))); clear hK47 K47
  refine pwp_cond rfl (fun hb54 => ?_) (fun hb54 => ?_)
  ·have hb54R := hb54; try simp only [zz] at hb54
   refine pwp_seq_plain rfl fun K55 hK55 => p_aS rfl (p_end (hK55 _ ?_)); clear hK55 K55
   refine pwp_ret (ret_block (ret_seq (ret_loop (ret_block (ret_seq (end1 (v := .sc _) rfl ?_))))))
   exact out_i (crew_c hsz hT hx (by unfold crng; omega))
  have hb54R := hb54; try simp only [zz] at hb54
  refine pwp_skip (block_norm (seq_norm (hK45 _ ?_))); clear hK45 K45
  refine pwp_plain rfl fun K56 hK56 => p_e rfl (e_adL rfl rfl) (p_mS rfl (p_end (hK56 _ ?_))); clear hK56 K56
  exact loop_again (k + 1) (by show _ < _; omega) ⟨rfl, rfl, trivial⟩ ⟨rfl, trivial⟩ (by exact ⟨by show _ + 1 ≤ _; simp only [List.length_map] at *; omega, by exact cx_step hcx hx (by unfold crng; omega)⟩)
 have hb44R := hb44; try simp only [zz] at hb44
 refine pwp_exit (exit_seq ?_)
 clear hK43 K43
 refine exit_loop (exit_here (seq_norm (hK37 _ ?_))); clear hK37 K37
 refine pwp_seq_plain rfl fun K57 hK57 => p_aS rfl (p_end (hK57 _ ?_)); clear hK57 K57
 refine pwp_ret (end1 (v := .sc _) rfl ?_)
 exact out_i (crew_0 hsz hT hcx (by simp only [List.length_map] at *; omega))

theorem tr_all {l : List ByteArray} {j : Nat} (h : ∀ i, i < j → ∀ y, l[i]? = some y → decide (y.size ≤ 30) = true) (hj : l.length ≤ j) : ∀ t ∈ l, t.size ≤ 30 := fun t ht => by
 obtain ⟨i, hi⟩ := List.getElem?_of_mem ht
 exact of_decide_eq_true (h i (by have := (List.getElem?_eq_some_iff.1 hi).1; omega) t hi)
theorem ty_step {l : List ByteArray} {k : Nat} {x : ByteArray} (h : ∀ i, i < k → ∀ y, l[i]? = some y → decide (y.size ≤ 30) = true) (hx : l[k]? = some x) (h2 : decide (x.size ≤ 30) = true) : ∀ i, i < k + 1 → ∀ y, l[i]? = some y → decide (y.size ≤ 30) = true := fun i hi y hy => by
 rcases Nat.lt_succ_iff_lt_or_eq.1 hi with h3 | h3
 · exact h i h3 y hy
 · subst h3; rw [hx] at hy; cases hy; exact h2

theorem fr42 : (inFrame Try.f42.ntmps (Try.f42.body.getD .skip) && Try.f42.results.toList.all (resScope Try.f42.ntmps)) = true := by kernel_rfl
theorem briefC (c : Crew) (h1 : c.gangs.length ≤ 9223372036854775807) (h2 : c.closed.length ≤ 9223372036854775807) (h3 : ∀ g ∈ c.gangs, g.trades.length ≤ 9223372036854775807) : PCalls Try.prog 42 [.agg c.enc] (.bool (briefB c)) := by
 refine PCalls.of_code Try.func42 rfl rfl (by kernel_rfl) mixed fr42 (by show _ ≤ 62; simp) (.sc _) (pwp_seq_plain rfl fun K1 hK1 => p_new rfl (e_box (n := 2) rfl rfl) ⟨rfl, by decide⟩ (p_aS rfl (p_end (hK1 _ ?_)))); clear hK1 K1
 refine pwp_seq_seq (pwp_seq_gops rfl fun K2 hK2 => g_begin (g_e rfl (e_faQ pl2 rfl) (g_e rfl (e_lH (v := .lit _ _ _) rfl (hset_self _ _ _) rfl) (g_e rfl (e_len rfl (by kernel_rfl)) (g_e rfl (e_gt rfl rfl) (g_mS rfl rfl ?_))))))
 refine g_cases (fun hb3 => ?_) (fun hb3 => ?_)
 ·have hb3R := hb3; try simp only [zz] at hb3
  iterate 4 refine g_skip rfl rfl rfl ?_
  refine g_pT rfl rfl rfl (g_end (ds := [10, 11, 12, 13]) rfl rfl (hK2 _ ?_)); clear hK2 K2
  refine pwp_seq_cond (t := true) rfl fun K4 hK4 => ⟨fun _ => ?_, nofun⟩
  refine pwp_seq_plain rfl fun K5 hK5 => p_aS rfl (p_end (hK5 _ ?_)); clear hK5 K5
  refine pwp_ret (ret_seq (end1 (v := .sc _) rfl ?_))
  exact out_b (brief_no (by simp only [List.length_map] at *; omega))
 have hb3R := hb3; try simp only [zz] at hb3
 refine g_e rfl (e_faQ pl2 rfl) (g_e rfl (e_lH (v := .lit _ _ _) rfl (hset_self _ _ _) rfl) (g_e rfl (e_len rfl (by kernel_rfl)) (g_e rfl (e_gt rfl rfl) (g_pF rfl rfl rfl (g_end (ds := [10, 11, 12, 13]) rfl rfl (hK2 _ ?_)))))); clear hK2 K2
 refine pwp_seq_cond rfl fun K6 hK6 => ⟨fun hb7 => ?_, fun hb7 => ?_⟩
 ·have hb7R := hb7; try simp only [zz] at hb7
  refine pwp_seq_plain rfl fun K8 hK8 => p_aS rfl (p_end (hK8 _ ?_)); clear hK8 K8
  refine pwp_ret (ret_seq (end1 (v := .sc _) rfl ?_))
  exact out_b (brief_no (by simp only [List.length_map] at *; omega))
 have hb7R := hb7; try simp only [zz] at hb7
 refine pwp_skip (seq_norm (hK6 _ ?_)); clear hK6 K6
 refine pwp_seq_seq (pwp_seq_plain rfl fun K9 hK9 => p_aS rfl (p_end (hK9 _ ?_))); clear hK9 K9
 refine pwp_seq_block fun K10 hK10 => pwp_loopR (α := Nat) [1] (fun (k : Nat) => [(3, .int (k))]) (fun (k : Nat) (h : Heap) (_ : Nat → Nat) => ((k) ≤ c.gangs.length) ∧ (GFair (c.gangs.take (k))) ∧ (h (1, 0) = some (.rows 2 [Crew.enc c]))) (fun (k : Nat) => c.gangs.length - (k)) (0) (by exact ⟨rfl, trivial⟩) (by exact ⟨by exact Nat.zero_le _, by exact fun g hg => by simp at hg, (hset_self _ _ _)⟩) fun k r11 h12 c13 hj14 => ?_
 obtain ⟨hk, hgf, hihj14_0⟩ := hj14
 try dsimp only at hk
 try dsimp only at hgf
 try dsimp only at hihj14_0
 show pwp _ _ (loopQ _ _ _) ⟨sets (mix _ _ _) [(3, .int k)], _, _⟩
 refine pwp_seq_seq (pwp_seq_plain rfl fun K15 hK15 => p_mS rfl (p_e rfl (e_faQ pl2 rfl) (p_e rfl (e_lH (v := .lit _ _ _) rfl hihj14_0 rfl) (p_e rfl (e_len rfl (by kernel_rfl)) (p_e rfl (e_lt rfl rfl) (p_end (hK15 _ ?_))))))); clear hK15 K15
 refine pwp_seq_cond rfl fun K16 hK16 => ⟨fun hb17 => ?_, fun hb17 => ?_⟩
 ·have hb17R := hb17; try simp only [zz] at hb17
  obtain ⟨g, hg, hd, ht⟩ := get_lt (xs := c.gangs) (i := k) (by omega)
  refine pwp_skip (seq_norm (hK16 _ ?_)); clear hK16 K16
  refine pwp_seq_block fun K18 hK18 => pwp_seq_seq (pwp_seq_gops rfl fun K19 hK19 => g_begin (g_e rfl (e_faQ pl2 rfl) (g_e rfl (e_lH (v := .lit _ _ _) rfl hihj14_0 rfl) (g_mS rfl rfl (g_e rfl (e_ixL rfl rfl) ?_)))))
  refine g_e rfl (e_fb pl4 rfl) (g_e rfl (e_load (v := .lit _ _ _) rfl (by kernel_rfl) (by kernel_rfl) (by kernel_rfl) (by first | omega | (simp only [List.length_map]; omega)) (by decide) ((cell_map hg _).trans rfl)) (g_e rfl (e_len rfl (by kernel_rfl)) (g_e rfl (e_gt rfl rfl) (g_mS rfl rfl ?_))))
  refine g_cases (fun hb20 => ?_) (fun hb20 => ?_)
  ·have hb20R := hb20; try simp only [zz] at hb20
   iterate 8 refine g_skip rfl rfl rfl ?_
   refine g_pT rfl rfl rfl (g_end (ds := [31, 32, 33, 34, 35, 36, 37, 38]) rfl rfl (hK19 _ ?_)); clear hK19 K19
   refine pwp_seq_cond (t := true) rfl fun K21 hK21 => ⟨fun _ => ?_, nofun⟩
   refine pwp_seq_plain rfl fun K22 hK22 => p_aS rfl (p_end (hK22 _ ?_)); clear hK22 K22
   refine pwp_ret (ret_seq (ret_block (ret_seq (ret_loop (ret_block (ret_seq (end1 (v := .sc _) rfl ?_)))))))
   exact out_b (brief_no fun q => by have q2 := q.2.2 g (List.mem_of_getElem? hg); simp only [List.length_map] at *; omega)
  have hb20R := hb20; try simp only [zz] at hb20
  refine g_e rfl (e_faQ pl2 rfl) (g_e rfl (e_lH (v := .lit _ _ _) rfl hihj14_0 rfl) (g_mS rfl rfl (g_e rfl (e_ixL rfl rfl) (g_e rfl (e_fb pl4 rfl) (g_e rfl (e_load (v := .sc _) rfl (by kernel_rfl) (by kernel_rfl) (by kernel_rfl) (by first | omega | (simp only [List.length_map]; omega)) (by decide) ((cell_map hg _).trans rfl)) (g_e rfl (e_lenS rfl (by kernel_rfl)) (g_e rfl (e_gt rfl rfl) ?_)))))))
  refine g_pF rfl rfl rfl (g_end (ds := [31, 32, 33, 34, 35, 36, 37, 38]) rfl rfl (hK19 _ ?_)); clear hK19 K19
  refine pwp_seq_cond rfl fun K23 hK23 => ⟨fun hb24 => ?_, fun hb24 => ?_⟩
  ·have hb24R := hb24; try simp only [zz] at hb24
   refine pwp_seq_plain rfl fun K25 hK25 => p_aS rfl (p_end (hK25 _ ?_)); clear hK25 K25
   refine pwp_ret (ret_seq (ret_block (ret_seq (ret_loop (ret_block (ret_seq (end1 (v := .sc _) rfl ?_)))))))
   exact out_b (brief_no fun q => by have q2 := q.2.2 g (List.mem_of_getElem? hg); simp only [List.length_map] at *; omega)
  have hb24R := hb24; try simp only [zz] at hb24
  refine pwp_skip (seq_norm (hK23 _ ?_)); clear hK23 K23
  refine pwp_seq_plain rfl fun K26 hK26 => p_aS rfl (p_end (hK26 _ ?_)); clear hK26 K26
  refine pwp_block (pwp_loopR (α := Nat) [1, 3] (fun (j : Nat) => [(4, .int (j))]) (fun (j : Nat) (h : Heap) (_ : Nat → Nat) => ((j) ≤ g.trades.length) ∧ (∀ i, i < (j) → ∀ y, g.trades[i]? = some y → decide (y.size ≤ 30) = true) ∧ (h (1, 0) = some (.rows 2 [Crew.enc c]))) (fun (j : Nat) => g.trades.length - (j)) (0) (by exact ⟨rfl, trivial⟩) (by exact ⟨by exact Nat.zero_le _, by exact fun i h => absurd h (Nat.not_lt_zero _), hihj14_0⟩) fun j r27 h28 c29 hj30 => ?_)
  obtain ⟨hj, hts2, hihj30_0⟩ := hj30
  try dsimp only at hj
  try dsimp only at hts2
  try dsimp only at hihj30_0
  show pwp _ _ (loopQ _ _ _) ⟨sets (mix _ _ _) [(4, .int j)], _, _⟩
  refine pwp_seq_seq (pwp_seq_plain rfl fun K31 hK31 => p_mS rfl (p_e rfl (e_faQ pl2 rfl) (p_e rfl (e_lH (v := .lit _ _ _) rfl hihj30_0 rfl) (p_mS rfl (p_e rfl (e_ixL rfl rfl) (p_e rfl (e_fb pl4 rfl) ?_))))))
  refine p_e rfl (e_load (v := .lit _ _ _) rfl (by kernel_rfl) (by kernel_rfl) (by kernel_rfl) (by first | omega | (simp only [List.length_map]; omega)) (by decide) ((cell_map hg _).trans rfl)) (p_e rfl (e_len rfl (by kernel_rfl)) (p_e rfl (e_lt rfl rfl) (p_end (hK31 _ ?_)))); clear hK31 K31
  refine pwp_seq_cond rfl fun K32 hK32 => ⟨fun hb33 => ?_, fun hb33 => ?_⟩
  ·have hb33R := hb33; try simp only [zz] at hb33
   obtain ⟨s, hs, hds, hts⟩ := get_lt (xs := g.trades) (i := j) (by omega)
   refine pwp_skip (seq_norm (hK32 _ ?_)); clear hK32 K32
   refine pwp_seq_block fun K34 hK34 => pwp_seq_plain rfl fun K35 hK35 => p_e rfl (e_faQ pl2 rfl) (p_e rfl (e_lH (v := .lit _ _ _) rfl hihj30_0 rfl) (p_mS rfl (p_e rfl (e_ixL rfl rfl) (p_e rfl (e_fb pl4 rfl) (p_e rfl (e_load (v := .lit _ _ _) rfl (by kernel_rfl) (by kernel_rfl) (by kernel_rfl) (by first | omega | (simp only [List.length_map]; omega)) (by decide) ((cell_map hg _).trans rfl)) ?_)))))
   refine p_mS rfl (p_e rfl (e_ixL rfl rfl) (p_e rfl (e_load (v := .sc _) rfl (by kernel_rfl) (by kernel_rfl) (by kernel_rfl) (by first | omega | (simp only [List.length_map]; omega)) (by decide) ((cell_map hs _).trans rfl)) (p_e rfl (e_lenS rfl (by kernel_rfl)) (p_e rfl (e_gt rfl rfl) (p_end (hK35 _ ?_)))))); clear hK35 K35
   refine pwp_cond rfl (fun hb36 => ?_) (fun hb36 => ?_)
   ·have hb36R := hb36; try simp only [zz] at hb36
    refine pwp_seq_plain rfl fun K37 hK37 => p_aS rfl (p_end (hK37 _ ?_)); clear hK37 K37
    refine pwp_ret (ret_block (ret_seq (ret_loop (ret_block (ret_block (ret_seq (ret_loop ?_)))))))
    refine ret_block (ret_seq (end1 (v := .sc _) rfl ?_))
    exact out_b (brief_no fun q => by have q2 := (q.2.2 g (List.mem_of_getElem? hg)).2.2 s (List.mem_of_getElem? hs); simp only [List.length_map] at *; omega)
   have hb36R := hb36; try simp only [zz] at hb36
   refine pwp_skip (block_norm (seq_norm (hK34 _ ?_))); clear hK34 K34
   refine pwp_plain rfl fun K38 hK38 => p_mS rfl (p_e rfl (e_adL rfl rfl) (p_aS rfl (p_end (hK38 _ ?_)))); clear hK38 K38
   exact loop_again (j + 1) (by show _ < _; omega) ⟨rfl, rfl, trivial⟩ ⟨rfl, trivial⟩ (by exact ⟨by show _ + 1 ≤ _; simp only [List.length_map] at *; omega, by exact ty_step hts2 hs (decide_eq_true (by omega)), hihj30_0⟩)
  have hb33R := hb33; try simp only [zz] at hb33
  refine pwp_exit (exit_seq ?_)
  clear hK32 K32
  refine exit_loop (exit_here (block_norm (seq_norm (hK18 _ ?_)))); clear hK18 K18
  refine pwp_plain rfl fun K39 hK39 => p_mS rfl (p_e rfl (e_adL rfl rfl) (p_aS rfl (p_end (hK39 _ ?_)))); clear hK39 K39
  exact loop_again (k + 1) (by show _ < _; omega) ⟨rfl, trivial⟩ ⟨rfl, trivial⟩ (by exact ⟨by show _ + 1 ≤ _; simp only [List.length_map] at *; omega, by exact g_snoc ht hgf ⟨by simp only [List.length_map] at *; omega, by omega, tr_all hts2 (by simp only [List.length_map] at *; omega)⟩, hihj30_0⟩)
 have hb17R := hb17; try simp only [zz] at hb17
 obtain rfl : k = c.gangs.length := by simp only [List.length_map] at *; omega
 rw [List.take_length] at hgf
 refine pwp_exit (exit_seq ?_)
 clear hK16 K16
 refine exit_loop (exit_here (seq_norm (hK10 _ ?_))); clear hK10 K10
 refine pwp_seq_plain rfl fun K40 hK40 => p_aS rfl (p_end (hK40 _ ?_)); clear hK40 K40
 refine pwp_ret (end1 (v := .sc _) rfl ?_)
 exact out_b (brief_iff.2 ⟨by simp only [List.length_map] at *; omega, by simp only [List.length_map] at *; omega, hgf⟩).symm

end Go.Proofs.Ytjmjiegplnfiiaa

/- Schedules: whether a slot fits. No conditions. -/
set_option linter.unusedSimpArgs false
set_option linter.unusedVariables false
set_option maxRecDepth 100000
namespace Go.Proofs.Ytjmjiegplnfiiaa
open Go Go.Pv
/-! ### Times that meet -/
structure Sp where
 a : Int
 b : Int
 deriving Inhabited, DecidableEq
def Sp.enc (x : Sp) : List PV := [.int x.a, .int x.b]
theorem Sp.pure (x : Sp) : ∀ p ∈ x.enc, Pure p := fun p hp => by
 simp only [Sp.enc, List.mem_cons, List.not_mem_nil, or_false] at hp
 rcases hp with rfl | rfl
 · exact .sc _
 · exact .sc _
def mtB (x y : Sp) : Bool := decide (max x.a y.a < min x.b y.b)
def hasT (l : List ByteArray) (s : ByteArray) : Bool := l.any fun t => decide (t = s)
theorem inn_bnd {h : Heap} {f : Fn} {row : List PV} (hp : ∀ p ∈ row, Pure p) : Inn h (.func f [.agg row] []) (.func f [.agg row] []) :=
 .base (.pure (.func _ _ _ (by intro p h1; rw [List.mem_singleton.1 h1]; exact .agg _ hp) (by intro p h1; cases h1)))
theorem inn_bndF {h : Heap} {f : Fn} {x : Sp} : Inn h (.func f [.agg x.enc] []) (.func f [.agg x.enc] []) := inn_bnd x.pure

/-! ### Slots that clash -/
def tsk (xs : List Task) (x : Slot) : Task := xs.getD x.task.toNat default
def gng (c : Crew) (x : Slot) : Gang := c.gangs.getD x.gang.toNat default
def spY (xs : List Task) (y : Slot) : Sp := ⟨y.start, y.start + (tsk xs y).minutes⟩
def dK (xs : List Task) (x y : Slot) : Bool := decide (y.gang = x.gang) && mtB (spY xs x) (spY xs y)
def cK (xs : List Task) (x : Slot) (z : Span) : Bool := decide (z.place = (tsk xs x).place) && mtB (spY xs x) ⟨z.fro, z.til⟩
def inG (xs : List Task) (c : Crew) (x : Slot) : Prop := hasT (gng c x).trades (tsk xs x).trade = true ∧ (gng c x).fro ≤ x.start ∧ x.start + (tsk xs x).minutes ≤ (gng c x).til
instance (xs : List Task) (c : Crew) (x : Slot) : Decidable (inG xs c x) := inferInstanceAs (Decidable (_ ∧ _))
def clB (xs : List Task) (c : Crew) (d : List Slot) (x : Slot) : Bool := d.any (dK xs x) || c.closed.any (cK xs x)
def fitsB (xs : List Task) (c : Crew) (d : List Slot) (x : Slot) : Bool := decide (inG xs c x) && !(clB xs c d x)
section
variable {xs : List Task} {c : Crew} {d : List Slot} {x : Slot} {t : Task} {g : Gang} {k : Nat}
theorem tsk_at (h : xs[x.task.toNat]? = some t) : tsk xs x = t := by rw [tsk, List.getD_eq_getElem?_getD, h]; rfl
theorem gng_at (h : c.gangs[x.gang.toNat]? = some g) : gng c x = g := by rw [gng, List.getD_eq_getElem?_getD, h]; rfl
theorem any_no {α : Type} {K : α → Bool} {l : List α} {k : Nat} (h : ∀ i, i < k → ∀ y, l[i]? = some y → K y = false) (hk : l.length ≤ k) : l.any K = false := by
 rw [List.any_eq_false]
 intro y hy
 obtain ⟨i, hi⟩ := List.getElem?_of_mem hy
 rw [h i (by have := (List.getElem?_eq_some_iff.1 hi).1; omega) y hi]; decide
theorem ggs_ok {gs : List Gang} : ∀ {l : List Gang} {k : Nat}, gangsF gs k l = 0 → ∀ g ∈ l, grng g
 | [], _, _, g, hg => by cases hg
 | y :: l, k, h, g, hg => by
   have h1 : gangE gs k y = 0 := by
     by_cases q : gangE gs k y = 0
     · exact q
     · rw [gangsF, if_pos q] at h; exact absurd h q
   rw [gangsF, if_neg (fun q => q h1)] at h
   rcases List.mem_cons.1 hg with rfl | h3
   · unfold gangE at h1
     split at h1
     · cases h1
     · split at h1
       · cases h1
       · split at h1
         · cases h1
         · rename_i h4; exact Decidable.not_not.1 h4
   · exact ggs_ok h g h3
theorem crew_ok (h : crewE c = 0) : (1 ≤ c.gangs.length ∧ c.gangs.length ≤ 10 ∧ c.closed.length ≤ 40) ∧ (∀ g ∈ c.gangs, grng g) ∧ ∀ z ∈ c.closed, crng z := by
 unfold crewE at h
 split at h
 · cases h
 · split at h
   · rename_i h2; exact absurd h h2
   · split at h
     · cases h
     · rename_i h1 h2 h3
       exact ⟨by omega, ggs_ok (Decidable.not_not.1 h2), fun z hz => Decidable.byContradiction fun q => h3 ⟨z, hz, q⟩⟩
end

theorem fr116 : (inFrame Try.f116.ntmps (Try.f116.body.getD .skip) && Try.f116.results.toList.all (resScope Try.f116.ntmps)) = true := by kernel_rfl
theorem IndexT (l : List ByteArray) (s : ByteArray) (hlen : l.length ≤ 1000000) : PCalls Try.prog 116 [.lit true 1 (l.map cb), .str s] (.int (ixA (fun y => decide (y = s)) l)) := by
 refine PCalls.of_code Try.func116 rfl rfl (by kernel_rfl) mixed fr116 (by show _ ≤ 19; simp) (.sc _) (pwp_seq_plain rfl fun K1 hK1 => p_aS rfl (p_end (hK1 _ ?_))); clear hK1 K1
 refine pwp_seq_seq (pwp_seq_plain rfl fun K2 hK2 => p_e rfl (e_move (v := .lit _ _ _) rfl) (p_e rfl (e_len rfl (by kernel_rfl)) (p_mS rfl (p_end (hK2 _ ?_))))); clear hK2 K2
 refine pwp_seq_block fun K3 hK3 => pwp_loopR (α := Nat) [0, 1, 7] (fun (k : Nat) => [(8, .int (k))]) (fun (k : Nat) (h : Heap) (_ : Nat → Nat) => ((k) ≤ l.length) ∧ (∀ i, i < (k) → ∀ y, l[i]? = some y → (fun y => decide (y = s)) y = false)) (fun (k : Nat) => l.length - (k)) (0) (by exact ⟨rfl, trivial⟩) (by exact ⟨by exact Nat.zero_le _, by exact nx_0⟩) fun k r4 h5 c6 hj7 => ?_
 obtain ⟨hk, hin⟩ := hj7
 try dsimp only at hk
 try dsimp only at hin
 show pwp _ _ (loopQ _ _ _) ⟨sets (mix _ _ _) [(8, .int k)], _, _⟩
 refine pwp_seq_plain rfl fun K8 hK8 => p_e rfl (e_lt rfl rfl) (p_end (hK8 _ ?_)); clear hK8 K8
 refine pwp_seq_cond rfl fun K9 hK9 => ⟨fun hb10 => ?_, fun hb10 => ?_⟩
 ·have hb10R := hb10; try simp only [zz] at hb10
  obtain ⟨x, hx, hdx, htx⟩ := get_lt (xs := l) (i := k) (by omega)
  refine pwp_skip (seq_norm (hK9 _ ?_)); clear hK9 K9
  refine pwp_seq_block fun K11 hK11 => pwp_seq_plain rfl fun K12 hK12 => p_mS rfl (p_aS rfl (p_end (hK12 _ ?_))); clear hK12 K12
  refine pwp_seq_plain rfl fun K13 hK13 => p_mS rfl (p_e rfl (e_move (v := .lit _ _ _) rfl) (p_mS rfl (p_e rfl (e_ixL rfl rfl) (p_e rfl (e_load (v := .sc _) rfl (by kernel_rfl) (by kernel_rfl) (by kernel_rfl) (by first | omega | (simp only [List.length_map]; omega)) (by decide) ((cell_map hx _).trans rfl)) (p_e rfl (e_seq rfl rfl) (p_end (hK13 _ ?_))))))); clear hK13 K13
  refine pwp_cond rfl (fun hb14 => ?_) (fun hb14 => ?_)
  ·have hb14R := hb14; try simp only [zz] at hb14
   refine pwp_seq_plain rfl fun K15 hK15 => p_mS rfl (p_aS rfl (p_end (hK15 _ ?_))); clear hK15 K15
   refine pwp_ret (ret_block (ret_seq (ret_loop (ret_block (ret_seq (end1 (v := .sc _) rfl ?_))))))
   exact out_i (ixA_hit (K := fun y => decide (y = s)) hx hin (decide_eq_true (Eq.symm (by assumption))))
  have hb14R := hb14; try simp only [zz] at hb14
  refine pwp_skip (block_norm (seq_norm (hK11 _ ?_))); clear hK11 K11
  refine pwp_plain rfl fun K16 hK16 => p_e rfl (e_adL rfl rfl) (p_mS rfl (p_end (hK16 _ ?_))); clear hK16 K16
  exact loop_again (k + 1) (by show _ < _; omega) ⟨rfl, rfl, rfl, trivial⟩ ⟨rfl, trivial⟩ (by exact ⟨by show _ + 1 ≤ _; simp only [List.length_map] at *; omega, by exact nx_step (K := (fun y => decide (y = s))) hin hx (decide_eq_false (fun q => absurd q.symm (by assumption)))⟩)
 have hb10R := hb10; try simp only [zz] at hb10
 refine pwp_exit (exit_seq ?_)
 clear hK9 K9
 refine exit_loop (exit_here (seq_norm (hK3 _ ?_))); clear hK3 K3
 refine pwp_seq_plain rfl fun K17 hK17 => p_aS rfl (p_end (hK17 _ ?_)); clear hK17 K17
 refine pwp_ret (end1 (v := .sc _) rfl ?_)
 exact out_i (ixA_no (K := fun y => decide (y = s)) hin (by simp only [List.length_map] at *; omega))

theorem fr83 : (inFrame Try.f83.ntmps (Try.f83.body.getD .skip) && Try.f83.results.toList.all (resScope Try.f83.ntmps)) = true := by kernel_rfl
theorem ContainsT (l : List ByteArray) (s : ByteArray) (hlen : l.length ≤ 1000000) : PCalls Try.prog 83 [.lit true 1 (l.map cb), .str s] (.bool (hasT l s)) := by
 refine PCalls.of_code Try.func83 rfl rfl (by kernel_rfl) mixed fr83 (by show _ ≤ 9; simp) (.sc _) (pwp_seq_plain rfl fun K1 hK1 => p_aS rfl (p_end (hK1 _ ?_))); clear hK1 K1
 refine pwp_seq_plain rfl fun K2 hK2 => p_e rfl (e_move (v := .lit _ _ _) rfl) (p_mS rfl (p_call rfl (.cons inn_lit (.cons inn_sc .nil)) (IndexT l s hlen) (p_e rfl (e_ge rfl rfl) (p_aS rfl (p_end (hK2 _ ?_)))))); clear hK2 K2
 refine pwp_ret (end1 (v := .sc _) rfl ?_)
 exact out_b ixA_any

end Go.Proofs.Ytjmjiegplnfiiaa

/- The error of a schedule, as the reference tells it. No conditions. -/
set_option linter.unusedSimpArgs false
set_option linter.unusedVariables false
set_option maxRecDepth 100000
namespace Go.Proofs.Ytjmjiegplnfiiaa
open Go Go.Pv
/-! ### The error of a schedule -/
def slE (xs : List Task) (c : Crew) (s : List Slot) (k : Nat) (x : Slot) : Int :=
 if x.task ≠ k then 10 else if ¬ (0 ≤ x.gang ∧ x.gang ≤ (c.gangs.length : Int) - 1) then 6 else if hasT (gng c x).trades (tsk xs x).trade = false then 21
 else if 1000000 < x.start ∨ x.start < (gng c x).fro ∨ (gng c x).til < x.start + (tsk xs x).minutes then 2 else if clB xs c (s.take k) x = true then 12 else 0
def slF (xs : List Task) (c : Crew) (s : List Slot) : Nat → List Slot → Int
 | _, [] => 0
 | k, x :: l => if slE xs c s k x ≠ 0 then slE xs c s k x else slF xs c s (k + 1) l
def lt1 (xs : List Task) (s : List Slot) (i : Nat) (n : Int) : Bool := decide ((s.getD i default).start < (s.getD n.toNat default).start + (xs.getD n.toNat default).minutes)
def lateI (xs : List Task) (s : List Slot) (i : Nat) : Bool := (xs.getD i default).needs.any (lt1 xs s i)
def lateB (xs : List Task) (s : List Slot) : Bool := (List.range s.length).any (lateI xs s)
/-- The error of a schedule for a right plan. -/
def schR (xs : List Task) (c : Crew) (s : List Slot) : Int := if crewE c ≠ 0 then crewE c else if s.length ≠ xs.length then 11 else if slF xs c s 0 s ≠ 0 then slF xs c s 0 s else if lateB xs s = true then 25 else 0
def schE (xs : List Task) (c : Crew) (s : List Slot) : Int := if planE xs ≠ 0 then planE xs else schR xs c s
def DOK (xs : List Task) (d : List Slot) : Prop := ∀ y ∈ d, 0 ≤ y.task ∧ y.task < xs.length ∧ 0 ≤ y.start ∧ y.start ≤ 1000000
section
variable {xs : List Task} {c : Crew} {s : List Slot} {x : Slot} {t : Task} {g : Gang} {k : Nat}
theorem slE_10 (h : x.task ≠ k) : 10 = slE xs c s k x := (if_pos h).symm
theorem slE_6 (h : x.task = k) (h2 : ¬ (0 ≤ x.gang ∧ x.gang ≤ (c.gangs.length : Int) - 1)) : 6 = slE xs c s k x := by rw [slE, if_neg (fun q => q h), if_pos h2]
theorem slE_21 (h : x.task = k) (h2 : 0 ≤ x.gang ∧ x.gang ≤ (c.gangs.length : Int) - 1) (ht : tsk xs x = t) (hg : gng c x = g) (h3 : hasT g.trades t.trade = false) : 21 = slE xs c s k x := by
 rw [slE, if_neg (fun q => q h), if_neg (fun q => q h2), ht, hg, if_pos h3]
theorem slE_2 (h : x.task = k) (h2 : 0 ≤ x.gang ∧ x.gang ≤ (c.gangs.length : Int) - 1) (ht : tsk xs x = t) (hg : gng c x = g) (h3 : hasT g.trades t.trade = true) (h4 : 1000000 < x.start ∨ x.start < g.fro ∨ g.til < x.start + t.minutes) : 2 = slE xs c s k x := by
 rw [slE, if_neg (fun q => q h), if_neg (fun q => q h2), ht, hg, if_neg (by rw [h3]; decide), if_pos h4]
theorem slE_12 (h : x.task = k) (h2 : 0 ≤ x.gang ∧ x.gang ≤ (c.gangs.length : Int) - 1) (ht : tsk xs x = t) (hg : gng c x = g) (h3 : hasT g.trades t.trade = true) (h4 : ¬ (1000000 < x.start ∨ x.start < g.fro ∨ g.til < x.start + t.minutes)) (h5 : clB xs c (s.take k) x = true) : 12 = slE xs c s k x := by
 rw [slE, if_neg (fun q => q h), if_neg (fun q => q h2), ht, hg, if_neg (by rw [h3]; decide), if_neg h4, if_pos h5]
theorem slE_0 (h : x.task = k) (h2 : 0 ≤ x.gang ∧ x.gang ≤ (c.gangs.length : Int) - 1) (ht : tsk xs x = t) (hg : gng c x = g) (h3 : hasT g.trades t.trade = true) (h4 : ¬ (1000000 < x.start ∨ x.start < g.fro ∨ g.til < x.start + t.minutes)) (h5 : clB xs c (s.take k) x = false) : slE xs c s k x = 0 := by
 rw [slE, if_neg (fun q => q h), if_neg (fun q => q h2), ht, hg, if_neg (by rw [h3]; decide), if_neg h4, if_neg (by rw [h5]; decide)]
theorem sl_go (hinv : slF xs c s 0 s = slF xs c s k (s.drop k)) (hd : s.drop k = x :: s.drop (k + 1)) (h : slE xs c s k x = 0) : slF xs c s 0 s = slF xs c s (k + 1) (s.drop (k + 1)) := by
 rw [hinv, hd, slF, if_neg (fun q => q h)]
theorem sl_all (hinv : slF xs c s 0 s = slF xs c s k (s.drop k)) (hk : s.length ≤ k) : slF xs c s 0 s = 0 := by
 rw [hinv, List.drop_eq_nil_of_le hk, slF]
theorem sch_c (h : crewE c ≠ 0) : crewE c = schR xs c s := (if_pos h).symm
theorem sch_11 (h : crewE c = 0) (h2 : s.length ≠ xs.length) : 11 = schR xs c s := by rw [schR, if_neg (fun q => q h), if_pos h2]
theorem sch_s {e : Int} (h : crewE c = 0) (h2 : s.length = xs.length) (hinv : slF xs c s 0 s = slF xs c s k (s.drop k)) (hd : s.drop k = x :: s.drop (k + 1)) (he : e = slE xs c s k x) (hne : e ≠ 0) : e = schR xs c s := by
 have h1 : slF xs c s 0 s = e := by rw [hinv, hd, slF, if_pos (he ▸ hne), he]
 rw [schR, if_neg (fun q => q h), if_neg (fun q => q h2), h1, if_pos hne]
theorem sch_25 (h : crewE c = 0) (h2 : s.length = xs.length) (h3 : slF xs c s 0 s = 0) (hk : k < s.length) (ht : xs[k]? = some t) {n : Int} {j : Nat} (hn : t.needs[j]? = some n) (h4 : lt1 xs s k n = true) : 25 = schR xs c s := by
 have h5 : lateI xs s k = true := by
   rw [lateI, List.getD_eq_getElem?_getD, ht]
   exact List.any_eq_true.2 ⟨n, List.mem_of_getElem? hn, h4⟩
 have h6 : lateB xs s = true := List.any_eq_true.2 ⟨k, List.mem_range.2 hk, h5⟩
 rw [schR, if_neg (fun q => q h), if_neg (fun q => q h2), if_neg (fun q => q h3), if_pos h6]
theorem sch_0 (h : crewE c = 0) (h2 : s.length = xs.length) (h3 : slF xs c s 0 s = 0) (h4 : ∀ i, i < k → lateI xs s i = false) (hk : s.length ≤ k) : 0 = schR xs c s := by
 rw [schR, if_neg (fun q => q h), if_neg (fun q => q h2), if_neg (fun q => q h3), if_neg]
 rw [Bool.not_eq_true, lateB, List.any_eq_false]
 intro i hi
 rw [h4 i (by have := List.mem_range.1 hi; omega)]; decide
theorem late_n (ht : xs[k]? = some t) {j : Nat} (h : ∀ i, i < j → ∀ y, t.needs[i]? = some y → lt1 xs s k y = false) (hj : t.needs.length ≤ j) : lateI xs s k = false := by
 rw [lateI, List.getD_eq_getElem?_getD, ht]
 exact any_no h hj
theorem lt1_at {y : Slot} {u : Task} {n : Int} (hx : s[k]? = some x) (hy : s[n.toNat]? = some y) (hu : xs[n.toNat]? = some u) : lt1 xs s k n = decide (x.start < y.start + u.minutes) := by
 simp only [lt1, List.getD_eq_getElem?_getD, hx, hy, hu, Option.getD_some]
theorem tsk_k (h : x.task = (k : Int)) (ht : xs[k]? = some t) : tsk xs x = t := tsk_at (by rw [h]; exact ht)
theorem dok_snoc (ht : s.take (k + 1) = s.take k ++ [x]) (h : DOK xs (s.take k)) (h2 : 0 ≤ x.task ∧ x.task < xs.length ∧ 0 ≤ x.start ∧ x.start ≤ 1000000) : DOK xs (s.take (k + 1)) := by
 rw [ht]; intro y hy
 rcases List.mem_append.1 hy with h3 | h3
 · exact h y h3
 · rw [List.mem_singleton.1 h3]; exact h2
theorem dok_0 : DOK xs (s.take 0) := fun y hy => by simp at hy
theorem gng_of (h : 0 ≤ x.gang ∧ x.gang ≤ (c.gangs.length : Int) - 1) : ∃ g, c.gangs[x.gang.toNat]? = some g ∧ gng c x = g := by
 have : x.gang.toNat < c.gangs.length := by omega
 exact ⟨_, List.getElem?_eq_getElem this, gng_at (List.getElem?_eq_getElem this)⟩
end

end Go.Proofs.Ytjmjiegplnfiiaa
