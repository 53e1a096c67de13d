/- Gaps. No conditions. -/
import Derived.Test.YtindehoegfiiaaaGreatDoorHel
set_option linter.unusedSimpArgs false
set_option linter.unusedVariables false
set_option maxRecDepth 100000
namespace Go.Proofs.YtindehoegfiiaaaGreatDoor
open Go Go.Pv
/-! ### Gaps -/
theorem and_l {a b c : Bool} (h : a = b) : (a && c) = (b && c) := by rw [h]
def onB (r : Rule) (i n : Int) (t : Tie) : Bool := decide (t.level = n ∧ (i - r.skip ≤ t.standard ∧ t.standard ≤ i + r.skip))
def onH (r : Rule) (l : List Tie) (i : Int) (n : Nat) : Bool := l.any (onB r i (n : Int))
def gapS (top ev fr : Int) (H : Nat → Bool) : Nat → Int → List Int → Bool
 | _, last, [] => decide (top - last ≤ fr)
 | m, last, z :: zs => if H m = true then decide (z - last ≤ ev ∨ top - last ≤ fr) && gapS top ev fr H (m + 1) z zs else gapS top ev fr H (m + 1) last zs
def gpK (g : Grid) (r : Rule) (l : List Tie) (i : Int) (m : Nat) (last : Int) (zs : List Int) : Bool := gapS (topG g) r.every r.free (onH r l i) m last zs
def rgL (g : Grid) (r : Rule) (l : List Tie) : Nat → Bool
 | 0 => true
 | k + 1 => rgL g r l k && gpK g r l (k : Int) 0 0 g.levels
section
variable {top ev fr : Int} {H : Nat → Bool}
def RisF (last : Int) : List Int → Prop
 | [] => True
 | z :: zs => last < z ∧ RisF z zs
theorem RisF.lt : ∀ {zs : List Int} {last : Int}, RisF last zs → ∀ (n : Nat) z, zs[n]? = some z → last < z
 | [], _, _, _, _, h => by simp at h
 | y :: zs, last, h, n, z, hz => by
   match n, hz with
   | 0, hz => simp at hz; subst hz; exact h.1
   | n + 1, hz =>
     have := RisF.lt h.2 n z (by simpa using hz)
     have := h.1
     omega
theorem gap_iff : ∀ {zs : List Int} {m : Nat} {last : Int}, RisF last zs → (gapS top ev fr H m last zs = true ↔ ∀ h, (h = last ∨ h ∈ zs) → top - h ≤ fr ∨ ∃ n z, zs[n]? = some z ∧ H (m + n) = true ∧ h < z ∧ z ≤ h + ev)
 | [], m, last, _ => by
   rw [gapS, decide_eq_true_eq]
   constructor
   · rintro h x (rfl | hx)
     · exact .inl h
     · cases hx
   · intro h
     rcases h last (.inl rfl) with q | ⟨n, z, hz, _⟩
     · exact q
     · simp at hz
 | z :: zs, m, last, hr => by
   rw [gapS]
   by_cases hH : H m = true
   · rw [if_pos hH, Bool.and_eq_true, decide_eq_true_eq, gap_iff hr.2]
     constructor
     · rintro ⟨h1, h2⟩ x hx
       have shift : ∀ y, (y = z ∨ y ∈ zs) → top - y ≤ fr ∨ ∃ n w, (z :: zs)[n]? = some w ∧ H (m + n) = true ∧ y < w ∧ w ≤ y + ev := fun y hy => by
         rcases h2 y hy with q | ⟨n, w, hw, hh, q⟩
         · exact .inl q
         · exact .inr ⟨n + 1, w, by simpa using hw, by rw [show m + (n + 1) = m + 1 + n by omega]; exact hh, q⟩
       rcases hx with rfl | hx
       · rcases h1 with q | q
         · exact .inr ⟨0, z, rfl, hH, hr.1, by omega⟩
         · exact .inl q
       · rcases List.mem_cons.1 hx with rfl | hx
         · exact shift _ (.inl rfl)
         · exact shift _ (.inr hx)
     · intro h
       refine ⟨?_, fun x hx => ?_⟩
       · rcases h last (.inl rfl) with q | ⟨n, w, hw, _, q1, q2⟩
         · exact .inr q
         · refine .inl ?_
           match n, hw with
           | 0, hw => simp at hw; subst hw; omega
           | n + 1, hw =>
             have := RisF.lt hr.2 n w (by simpa using hw)
             omega
       · have hzx : z ≤ x := by
           rcases hx with rfl | hx
           · exact Int.le_refl _
           · obtain ⟨n, hn, rfl⟩ := List.getElem_of_mem hx
             have := RisF.lt hr.2 n _ (List.getElem?_eq_getElem hn)
             omega
         rcases h x (.inr (by rcases hx with rfl | hx; exact List.mem_cons_self ..; exact List.mem_cons_of_mem _ hx)) with q | ⟨n, w, hw, hh, q1, q2⟩
         · exact .inl q
         · match n, hw with
           | 0, hw => simp at hw; omega
           | n + 1, hw => exact .inr ⟨n, w, by simpa using hw, by rw [show m + 1 + n = m + (n + 1) by omega]; exact hh, q1, q2⟩
   · rw [if_neg hH]
     have hr2 : RisF last zs := by
       cases zs with
       | nil => trivial
       | cons y zs => exact ⟨Int.lt_trans hr.1 hr.2.1, hr.2.2⟩
     rw [gap_iff hr2]
     constructor
     · intro h x hx
       have shift : ∀ y, top - y ≤ fr ∨ (∃ n w, zs[n]? = some w ∧ H (m + 1 + n) = true ∧ y < w ∧ w ≤ y + ev) → top - y ≤ fr ∨ ∃ n w, (z :: zs)[n]? = some w ∧ H (m + n) = true ∧ y < w ∧ w ≤ y + ev := fun y hy => by
         rcases hy with q | ⟨n, w, hw, hh, q⟩
         · exact .inl q
         · exact .inr ⟨n + 1, w, by simpa using hw, by rw [show m + (n + 1) = m + 1 + n by omega]; exact hh, q⟩
       rcases hx with rfl | hx
       · exact shift _ (h _ (.inl rfl))
       · rcases List.mem_cons.1 hx with rfl | hx
         · refine shift _ ?_
           have h1 := hr.1
           rcases h last (.inl rfl) with q | ⟨n, w, hw, hh, q1, q2⟩
           · exact .inl (by omega)
           · have := RisF.lt hr.2 n w hw
             exact .inr ⟨n, w, hw, hh, this, by omega⟩
         · exact shift _ (h _ (.inr hx))
     · intro h x hx
       rcases h x (by rcases hx with rfl | hx; exact .inl rfl; exact .inr (List.mem_cons_of_mem _ hx)) with q | ⟨n, w, hw, hh, q1, q2⟩
       · exact .inl q
       · match n, hw with
         | 0, hw => exact absurd hh hH
         | n + 1, hw => exact .inr ⟨n, w, by simpa using hw, by rw [show m + 1 + n = m + (n + 1) by omega]; exact hh, q1, q2⟩
end
theorem ris_F : ∀ {l : List Int} {last : Int}, risB l = true → (∀ y, l.head? = some y → last < y) → RisF last l
 | [], _, _, _ => trivial
 | [a], last, _, h => ⟨h a rfl, trivial⟩
 | a :: b :: l, last, hr, h => by
   rw [risB, Bool.and_eq_true, decide_eq_true_eq] at hr
   exact ⟨h a rfl, ris_F hr.2 fun y hy => by simp at hy; subst hy; exact hr.1⟩
section
variable {g : Grid} {r : Rule} {l : List Tie} {k j : Nat} {b : List (Int × Int)}
theorem dmR_mem {e : Int × Int} : ∀ {j : Nat}, e ∈ dmR g r k b j ↔ e ∈ b ∨ ∃ i, i < j ∧ ¬ topG g - (hts g).getD i 0 ≤ r.free ∧ e = ((k : Int), (hts g).getD i 0)
 | 0 => by
   rw [dmR]
   exact ⟨.inl, fun h => h.elim id fun ⟨i, h, _⟩ => absurd h (Nat.not_lt_zero _)⟩
 | j + 1 => by
   rw [dmR]
   split
   · rename_i h
     rw [dmR_mem]
     constructor
     · rintro (q | ⟨i, hi, q⟩)
       · exact .inl q
       · exact .inr ⟨i, by omega, q⟩
     · rintro (q | ⟨i, hi, q1, q2⟩)
       · exact .inl q
       · by_cases e : i = j
         · subst e; exact absurd h q1
         · exact .inr ⟨i, by omega, q1, q2⟩
   · rename_i h
     rw [List.mem_append, dmR_mem, List.mem_singleton]
     constructor
     · rintro ((q | ⟨i, hi, q⟩) | q)
       · exact .inl q
       · exact .inr ⟨i, by omega, q⟩
       · exact .inr ⟨j, by omega, h, q⟩
     · rintro (q | ⟨i, hi, q1, q2⟩)
       · exact .inl (.inl q)
       · by_cases e : i = j
         · subst e; exact .inr q2
         · exact .inl (.inr ⟨i, by omega, q1, q2⟩)
theorem dmL_mem {e : Int × Int} : ∀ {k : Nat}, e ∈ dmL g r k ↔ ∃ i, i < k ∧ ∃ x, x ∈ hts g ∧ ¬ topG g - x ≤ r.free ∧ e = ((i : Int), x)
 | 0 => ⟨fun h => (by cases h), fun ⟨i, h, _⟩ => absurd h (Nat.not_lt_zero _)⟩
 | k + 1 => by
   rw [dmL, dmR_mem, dmL_mem]
   constructor
   · rintro (⟨i, hi, q⟩ | ⟨i, hi, q1, q2⟩)
     · exact ⟨i, by omega, q⟩
     · refine ⟨k, by omega, (hts g).getD i 0, ?_, q1, q2⟩
       rw [List.getD_eq_getElem?_getD, List.getElem?_eq_getElem hi]; exact List.getElem_mem _
   · rintro ⟨i, hi, x, hx, q1, q2⟩
     by_cases e : i = k
     · subst e
       obtain ⟨n, hn, e⟩ := List.getElem_of_mem hx
       have e2 : (hts g).getD n 0 = x := by rw [List.getD_eq_getElem?_getD, List.getElem?_eq_getElem hn]; exact e
       exact .inr ⟨n, hn, by rw [e2]; exact q1, by rw [e2]; exact q2⟩
     · exact .inl ⟨i, by omega, x, hx, q1, q2⟩
theorem rgL_iff : ∀ {k : Nat}, rgL g r l k = true ↔ ∀ i, i < k → gpK g r l (i : Int) 0 0 g.levels = true
 | 0 => ⟨fun _ i h => absurd h (Nat.not_lt_zero _), fun _ => rfl⟩
 | k + 1 => by
   rw [rgL, Bool.and_eq_true, rgL_iff]
   constructor
   · rintro ⟨h1, h2⟩ i hi
     by_cases e : i = k
     · subst e; exact h2
     · exact h1 i (by omega)
   · intro h
     exact ⟨fun i hi => h i (by omega), h k (by omega)⟩
theorem gap_std (hg : gridE g = 0) (ht : tiesE g l = 0) (i : Int) : gpK g r l i 0 0 g.levels = true ↔ ∀ x, x ∈ hts g → ¬ topG g - x ≤ r.free → hdE g r l (i, x) = true := by
 have hrB : risB g.levels = true := by
   have h1 := grd_shape hg
   have h2 := al_b hg
   cases q : risB g.levels with
   | true => rfl
   | false =>
     have q1 : g.along.any (outB (-1000000) 1000000) = false := by
       rw [List.any_eq_false]; intro y hy; rw [outB, decide_eq_true (h2.1 y hy)]; decide
     have q2 : g.levels.any (outB 1 1000000) = false := by
       rw [List.any_eq_false]; intro y hy; rw [outB, decide_eq_true (h2.2 y hy)]; decide
     rw [← grd_10 h1.1 h1.2 q1 q2 (.inr q)] at hg; cases hg
 have hF : RisF 0 g.levels := ris_F hrB fun y hy => by
   have := (al_b hg).2 y (List.mem_of_head? hy); omega
 rw [gpK, gap_iff hF]
 have key : ∀ x, (∃ n z, g.levels[n]? = some z ∧ onH r l i (0 + n) = true ∧ x < z ∧ z ≤ x + r.every) ↔ hdE g r l (i, x) = true := fun x => by
   rw [hdE, List.any_eq_true]
   constructor
   · rintro ⟨n, z, hz, hh, q1, q2⟩
     rw [onH, List.any_eq_true] at hh
     obtain ⟨t, htl, hb⟩ := hh
     rw [onB, decide_eq_true_eq] at hb
     refine ⟨t, htl, ?_⟩
     have e : zT g t = z := by rw [zT, show t.level.toNat = n by omega]; exact hgd hz
     rw [mtB, e, decide_eq_true_eq]; exact ⟨⟨q1, q2⟩, hb.2⟩
   · rintro ⟨t, htl, hb⟩
     rw [mtB, decide_eq_true_eq] at hb
     obtain ⟨n, hn, rfl⟩ := List.getElem_of_mem htl
     have hti := ti_at ht (List.getElem?_eq_getElem hn)
     have hz : g.levels[(l[n]).level.toNat]? = some (zT g l[n]) := by rw [zT, List.getD_eq_getElem?_getD, List.getElem?_eq_getElem (by omega)]; rfl
     refine ⟨(l[n]).level.toNat, zT g l[n], hz, ?_, hb.1⟩
     rw [onH, List.any_eq_true]
     exact ⟨l[n], htl, by rw [onB, decide_eq_true_eq]; exact ⟨by omega, hb.2⟩⟩
 constructor
 · intro h x hx hn
   rcases h x (by rcases List.mem_append.1 hx with q | q; exact .inl (List.mem_singleton.1 q); exact .inr q) with q | q
   · exact absurd q hn
   · exact (key x).1 q
 · intro h x hx
   by_cases q : topG g - x ≤ r.free
   · exact .inl q
   · exact .inr ((key x).2 (h x (by rcases hx with rfl | q; exact List.mem_append.2 (.inl (List.mem_singleton.2 rfl)); exact List.mem_append.2 (.inr q)) q))
/-- the law of gaps -/
theorem gaps_held (hg : gridE g = 0) (ht : tiesE g l = 0) : (hdW g r l).isNone = rgL g r l g.along.length := by
 rw [Bool.eq_iff_iff, rgL_iff, Option.isNone_iff_eq_none, hdW, List.find?_eq_none]
 constructor
 · intro h i hi
   rw [gap_std hg ht]
   intro x hx hn
   have := h ((i : Int), x) (dmL_mem.2 ⟨i, hi, x, hx, hn, rfl⟩)
   simpa using this
 · intro h e he
   obtain ⟨i, hi, x, hx, hn, rfl⟩ := dmL_mem.1 he
   have := (gap_std (r := r) hg ht (i : Int)).1 (h i hi) x hx hn
   rw [this]; decide
theorem any_s {α : Type} {K : α → Bool} {l : List α} {k : Nat} {x : α} (hx : l[k]? = some x) : (l.take (k + 1)).any K = ((l.take k).any K || K x) := by
 obtain ⟨hk, rfl⟩ := List.getElem?_eq_some_iff.1 hx
 rw [List.take_succ_eq_append_getElem hk, List.any_append]
 simp
end

theorem fr6 : (inFrame Tryz.f6.ntmps (Tryz.f6.body.getD .skip) && Tryz.f6.results.toList.all (resScope Tryz.f6.ntmps)) = true := by kernel_rfl
theorem hGaps (g : Grid) (r : Rule) (l : List Tie) (ha : g.along.length ≤ 9223372036854775807) (hb : g.levels.length ≤ 9223372036854775807) (hl : l.length ≤ 9223372036854775807) : PCalls Tryz.prog 6 [.agg g.enc, .agg r.enc, .lit true 2 (l.map Tie.enc)] (.bool true) := by
 refine PCalls.of_code Tryz.func6 rfl rfl (by kernel_rfl) mixed fr6 (by show _ ≤ 144; simp) (.sc _) ?_
 refine pwp_seq_plain rfl fun K1 hK1 => ?_
 refine p_new rfl (e_box (n := 3) rfl rfl) ⟨rfl, by decide⟩ ?_
 refine p_new rfl (e_box (n := 5) rfl rfl) ⟨rfl, by decide⟩ ?_
 refine p_aS rfl ?_
 refine p_end (hK1 _ ?_); clear hK1 K1
 refine pwp_seq_seq ?_
 refine pwp_seq_plain rfl fun K2 hK2 => ?_
 refine p_call rfl .nil (awake) ?_
 refine p_e rfl (e_not rfl) ?_
 refine p_end (hK2 _ ?_); clear hK2 K2
 refine pwp_seq_cond (t := false) rfl fun K3 hK3 => ⟨nofun, fun _ => ?_⟩
 refine pwp_skip ?_
 refine seq_norm (hK3 _ ?_); clear hK3 K3
 refine pwp_seq_seq ?_
 refine pwp_seq_gops rfl fun K4 hK4 => ?_
 refine g_begin ?_
 refine g_e rfl (e_loadHA (cs := Grid.enc (g)) (n := 3) rfl ((hset_ne (key_ne rfl)).trans (hset_self _ _ _)) (by kernel_rfl) (by kernel_rfl) (by kernel_rfl) (by exact Nat.zero_lt_one) (by decide) rfl) ?_
 refine g_call rfl rfl rfl rfl (.cons (inn_agg (Grid.pure _)) .nil) (FewC g (by omega) (by omega)) ?_
 refine g_e rfl (e_not rfl) ?_
 refine g_mS rfl rfl ?_
 refine g_cases (fun hb5 => ?_) (fun hb5 => ?_)
 ·have hb5R := hb5; try simp only [zz] at hb5
  iterate 3 refine g_skip rfl rfl rfl ?_
  refine g_pT rfl rfl rfl ?_
  refine g_mS rfl rfl ?_
  iterate 3 refine g_skip rfl rfl rfl ?_
  refine g_nocall rfl rfl rfl ?_
  refine g_skip rfl rfl rfl ?_
  refine g_pT rfl rfl rfl ?_
  refine g_end (ds := [22, 23, 24, 27, 28, 29, 30, 31]) rfl rfl (hK4 _ ?_); clear hK4 K4
  refine pwp_seq_cond (t := true) rfl fun K6 hK6 => ⟨fun _ => ?_, nofun⟩
  refine pwp_seq_plain rfl fun K7 hK7 => ?_
  refine p_aS rfl ?_
  refine p_end (hK7 _ ?_); clear hK7 K7
  refine pwp_ret ?_
  refine ret_seq ?_
  refine end1 (v := .sc _) rfl ?_
  first
    | exact out_b rfl
    | exact out_b (by rw [hhe, hgp, hb0, decide_eq_true rfl])
    | exact out_b (by rw [hhe, hgp, hb0]; simp)
    | (exfalso; omega)
    | (exfalso; simp_all; done)
 ·have hb5R := hb5; try simp only [zz] at hb5
  refine g_e rfl (e_move (v := .lit _ _ _) rfl) ?_
  refine g_e rfl (e_len rfl (by kernel_rfl)) ?_
  refine g_e rfl (e_gt rfl rfl) ?_
  refine g_pF rfl rfl rfl ?_
  refine g_mS rfl rfl ?_
  refine g_cases (fun hb8 => ?_) (fun hb8 => ?_)
  ·have hb8R := hb8; try simp only [zz] at hb8
   iterate 3 refine g_skip rfl rfl rfl ?_
   refine g_nocall rfl rfl rfl ?_
   refine g_skip rfl rfl rfl ?_
   refine g_pT rfl rfl rfl ?_
   refine g_end (ds := [22, 23, 24, 27, 28, 29, 30, 31]) rfl rfl (hK4 _ ?_); clear hK4 K4
   refine pwp_seq_cond (t := true) rfl fun K9 hK9 => ⟨fun _ => ?_, nofun⟩
   refine pwp_seq_plain rfl fun K10 hK10 => ?_
   refine p_aS rfl ?_
   refine p_end (hK10 _ ?_); clear hK10 K10
   refine pwp_ret ?_
   refine ret_seq ?_
   refine end1 (v := .sc _) rfl ?_
   first
     | exact out_b rfl
     | exact out_b (by rw [hhe, hgp, hb0, decide_eq_true rfl])
     | exact out_b (by rw [hhe, hgp, hb0]; simp)
     | (exfalso; omega)
     | (exfalso; simp_all; done)
  ·have hb8R := hb8; try simp only [zz] at hb8
   refine g_e rfl (e_loadHA (cs := Grid.enc (g)) (n := 3) rfl ((hset_ne (key_ne rfl)).trans (hset_self _ _ _)) (by kernel_rfl) (by kernel_rfl) (by kernel_rfl) (by exact Nat.zero_lt_one) (by decide) rfl) ?_
   refine g_e rfl (e_loadHA (cs := Rule.enc (r)) (n := 5) rfl (hset_self _ _ _) (by kernel_rfl) (by kernel_rfl) (by kernel_rfl) (by exact Nat.zero_lt_one) (by decide) rfl) ?_
   refine g_e rfl (e_move (v := .lit _ _ _) rfl) ?_
   refine g_call rfl rfl rfl rfl (.cons (inn_agg (Grid.pure _)) (.cons (inn_agg (Rule.pure _)) (.cons inn_lit .nil))) (refAllC g r l (by first | omega | (have hfw := few_t (g := g) (by first | assumption | simp_all); omega)) (by first | omega | (have hfw := few_t (g := g) (by first | assumption | simp_all); omega)) (by first | omega | (have hfw := few_t (g := g) (by first | assumption | simp_all); omega))) ?_
   refine g_e rfl (e_ne rfl rfl) ?_
   refine g_pF rfl rfl rfl ?_
   refine g_end (ds := [22, 23, 24, 27, 28, 29, 30, 31]) rfl rfl (hK4 _ ?_); clear hK4 K4
   refine pwp_seq_cond rfl fun K11 hK11 => ⟨fun hb12 => ?_, fun hb12 => ?_⟩
   ·have hb12R := hb12; try simp only [zz] at hb12
    refine pwp_seq_plain rfl fun K13 hK13 => ?_
    refine p_aS rfl ?_
    refine p_end (hK13 _ ?_); clear hK13 K13
    refine pwp_ret ?_
    refine ret_seq ?_
    refine end1 (v := .sc _) rfl ?_
    first
      | exact out_b rfl
      | exact out_b (by rw [hhe, hgp, hb0, decide_eq_true rfl])
      | exact out_b (by rw [hhe, hgp, hb0]; simp)
      | (exfalso; omega)
      | (exfalso; simp_all; done)
   ·have hb12R := hb12; try simp only [zz] at hb12
    refine pwp_skip ?_
    refine seq_norm (hK11 _ ?_); clear hK11 K11
    have haz : allE g r l = 0 := by omega
    obtain ⟨hgz, hrz, htz2⟩ := allE_inv haz
    have hsp := (grd_shape hgz).2
    have hrr := ru_inv hrz
    have htb := top_b hgz
    have hab := al_b hgz
    obtain ⟨z, hz⟩ : ∃ z, g.levels[(((((g.levels).map ci).length : Nat) : Int) - (1)).toNat]? = some z := ⟨_, List.getElem?_eq_getElem (by simp only [List.length_map]; omega)⟩
    have htz := top_at hz
    have hgp := gaps_held (r := r) hgz htz2
    have hhe := heB_0 haz
    refine pwp_seq_plain rfl fun K14 hK14 => ?_
    refine p_aS rfl ?_
    refine p_end (hK14 _ ?_); clear hK14 K14
    refine pwp_seq_seq ?_
    refine pwp_seq_plain rfl fun K15 hK15 => ?_
    refine p_aS rfl ?_
    refine p_end (hK15 _ ?_); clear hK15 K15
    refine pwp_seq_block fun K16 hK16 => ?_
    refine pwp_loopR (α := Nat × Bool) [2, 3, 4] (fun (a17 : Nat × Bool) => [(7, .bool (a17.2)), (8, .int (a17.1))]) (fun (a17 : Nat × Bool) (h : Heap) (_ : Nat → Nat) => ((a17.1) ≤ g.along.length) ∧ ((a17.2) = rgL g r l (a17.1)) ∧ (h (3, 0) = some (.rows 3 [Grid.enc g])) ∧ (h (4, 0) = some (.rows 5 [Rule.enc r]))) (fun (a17 : Nat × Bool) => g.along.length - (a17.1)) (0, true) (by exact ⟨rfl, rfl, trivial⟩) (by exact ⟨by exact Nat.zero_le _, by exact rfl, ((hset_ne (key_ne rfl)).trans (hset_self _ _ _)), (hset_self _ _ _)⟩) fun a17 r18 h19 c20 hj21 => ?_
    obtain ⟨k, b⟩ := a17
    obtain ⟨hk, hb0, hihj21_0, hihj21_1⟩ := hj21
    try dsimp only at hk
    try dsimp only at hb0
    try dsimp only at hihj21_0
    try dsimp only at hihj21_1
    show pwp _ _ (loopQ _ _ _) ⟨sets (mix _ _ _) [(7, .bool b), (8, .int k)], _, _⟩
    refine pwp_seq_seq ?_
    refine pwp_seq_plain rfl fun K22 hK22 => ?_
    refine p_mS rfl ?_
    refine p_e rfl (e_faQ pl3 rfl) ?_
    refine p_e rfl (e_lH (v := .lit _ _ _) rfl hihj21_0 rfl) ?_
    refine p_e rfl (e_len rfl (by kernel_rfl)) ?_
    refine p_e rfl (e_lt rfl rfl) ?_
    refine p_end (hK22 _ ?_); clear hK22 K22
    refine pwp_seq_cond rfl fun K23 hK23 => ⟨fun hb24 => ?_, fun hb24 => ?_⟩
    ·have hb24R := hb24; try simp only [zz] at hb24
     have hkA : k < g.along.length := by simp only [List.length_map] at *; omega
     refine pwp_skip ?_
     refine seq_norm (hK23 _ ?_); clear hK23 K23
     refine pwp_seq_block fun K25 hK25 => ?_
     refine pwp_seq_plain rfl fun K26 hK26 => ?_
     refine p_aS rfl ?_
     refine p_end (hK26 _ ?_); clear hK26 K26
     refine pwp_seq_seq ?_
     refine pwp_seq_plain rfl fun K27 hK27 => ?_
     refine p_aS rfl ?_
     refine p_end (hK27 _ ?_); clear hK27 K27
     refine pwp_seq_block fun K28 hK28 => ?_
     refine pwp_loopR (α := Nat × Int × Bool) [2, 3, 4, 8] (fun (a29 : Nat × Int × Bool) => [(7, .bool (a29.2.2)), (9, .int (a29.2.1)), (10, .int (a29.1))]) (fun (a29 : Nat × Int × Bool) (h : Heap) (_ : Nat → Nat) => ((a29.1) ≤ g.levels.length) ∧ ((rgL g r l k && gpK g r l (k : Int) 0 0 g.levels) = ((a29.2.2) && gpK g r l (k : Int) (a29.1) (a29.2.1) (g.levels.drop (a29.1)))) ∧ (0 ≤ (a29.2.1) ∧ (a29.2.1) ≤ 1000000) ∧ (h (3, 0) = some (.rows 3 [Grid.enc g])) ∧ (h (4, 0) = some (.rows 5 [Rule.enc r]))) (fun (a29 : Nat × Int × Bool) => g.levels.length - (a29.1)) (0, 0, b) (by exact ⟨rfl, rfl, rfl, trivial⟩) (by exact ⟨by exact Nat.zero_le _, by rw [hb0]; rfl, by dsimp only; omega, hihj21_0, hihj21_1⟩) fun a29 r30 h31 c32 hj33 => ?_
     obtain ⟨m, last, b⟩ := a29
     obtain ⟨hm, hinv, hlb, hihj33_0, hihj33_1⟩ := hj33
     try dsimp only at hm
     try dsimp only at hinv
     try dsimp only at hlb
     try dsimp only at hihj33_0
     try dsimp only at hihj33_1
     show pwp _ _ (loopQ _ _ _) ⟨sets (mix _ _ _) [(7, .bool b), (9, .int last), (10, .int m)], _, _⟩
     refine pwp_seq_seq ?_
     refine pwp_seq_plain rfl fun K34 hK34 => ?_
     refine p_mS rfl ?_
     refine p_e rfl (e_faQ pl3 rfl) ?_
     refine p_e rfl (e_lH (v := .lit _ _ _) rfl hihj33_0 rfl) ?_
     refine p_e rfl (e_len rfl (by kernel_rfl)) ?_
     refine p_e rfl (e_lt rfl rfl) ?_
     refine p_end (hK34 _ ?_); clear hK34 K34
     refine pwp_seq_cond rfl fun K35 hK35 => ⟨fun hb36 => ?_, fun hb36 => ?_⟩
     ·have hb36R := hb36; try simp only [zz] at hb36
      obtain ⟨y, hy, hyd, hyt⟩ := get_lt (xs := g.levels) (i := m) (by omega)
      have hyb := hab.2 y (List.mem_of_getElem? hy)
      refine pwp_skip ?_
      refine seq_norm (hK35 _ ?_); clear hK35 K35
      refine pwp_seq_block fun K37 hK37 => ?_
      refine pwp_seq_plain rfl fun K38 hK38 => ?_
      refine p_aS rfl ?_
      refine p_end (hK38 _ ?_); clear hK38 K38
      refine pwp_seq_seq ?_
      refine pwp_seq_plain rfl fun K39 hK39 => ?_
      refine p_aS rfl ?_
      refine p_end (hK39 _ ?_); clear hK39 K39
      refine pwp_seq_block fun K40 hK40 => ?_
      refine pwp_loopR (α := Nat × Bool) [2, 3, 4, 7, 8, 9, 10] (fun (a41 : Nat × Bool) => [(11, .bool (a41.2)), (12, .int (a41.1))]) (fun (a41 : Nat × Bool) (h : Heap) (_ : Nat → Nat) => ((a41.1) ≤ l.length) ∧ ((a41.2) = (l.take (a41.1)).any (onB r (k : Int) (m : Int))) ∧ (h (3, 0) = some (.rows 3 [Grid.enc g])) ∧ (h (4, 0) = some (.rows 5 [Rule.enc r]))) (fun (a41 : Nat × Bool) => l.length - (a41.1)) (0, false) (by exact ⟨rfl, rfl, trivial⟩) (by exact ⟨by exact Nat.zero_le _, by exact rfl, hihj33_0, hihj33_1⟩) fun a41 r42 h43 c44 hj45 => ?_
      obtain ⟨j, q⟩ := a41
      obtain ⟨hj, hq, hihj45_0, hihj45_1⟩ := hj45
      try dsimp only at hj
      try dsimp only at hq
      try dsimp only at hihj45_0
      try dsimp only at hihj45_1
      show pwp _ _ (loopQ _ _ _) ⟨sets (mix _ _ _) [(11, .bool q), (12, .int j)], _, _⟩
      refine pwp_seq_seq ?_
      refine pwp_seq_plain rfl fun K46 hK46 => ?_
      refine p_mS rfl ?_
      refine p_e rfl (e_move (v := .lit _ _ _) rfl) ?_
      refine p_e rfl (e_len rfl (by kernel_rfl)) ?_
      refine p_e rfl (e_lt rfl rfl) ?_
      refine p_end (hK46 _ ?_); clear hK46 K46
      refine pwp_seq_cond rfl fun K47 hK47 => ⟨fun hb48 => ?_, fun hb48 => ?_⟩
      ·have hb48R := hb48; try simp only [zz] at hb48
       obtain ⟨t, ht, htd, htt⟩ := get_lt (xs := l) (i := j) (by omega)
       have hti := ti_at htz2 ht
       refine pwp_skip ?_
       refine seq_norm (hK47 _ ?_); clear hK47 K47
       refine pwp_seq_block fun K49 hK49 => ?_
       refine pwp_gops rfl fun K50 hK50 => ?_
       refine g_begin ?_
       refine g_mS rfl rfl ?_
       refine g_mS rfl rfl ?_
       refine g_cases (fun hb51 => ?_) (fun hb51 => ?_)
       ·have hb51R := hb51; try simp only [zz] at hb51
        iterate 21 refine g_skip rfl rfl rfl ?_
        refine g_nocall rfl rfl rfl ?_
        refine g_skip rfl rfl rfl ?_
        refine g_pT rfl rfl rfl ?_
        refine g_aS rfl rfl ?_
        refine g_endR (ds := [55, 56, 57, 58, 59, 60, 61, 62, 63, 64, 65, 66, 67, 68, 69, 70, 71, 72, 73, 74, 75, 76, 77]) [0, 1, 3, 3, 15, 31, 63, 3, 255, 511, 1023, 1023, 4095, 8191, 16383, 1023, 1023, 66559, 230399, 1023, 1023, 1049599, 3671039, 8388607, 16777215, 33554431, 67108863] (by kernel_rfl) rfl (hK50 _ ?_); clear hK50 K50
        refine block_norm ?_
        refine seq_norm (hK49 _ ?_); clear hK49 K49
        refine pwp_plain rfl fun K52 hK52 => ?_
        refine p_mS rfl ?_
        refine p_e rfl (e_adL rfl rfl) ?_
        refine p_aS rfl ?_
        refine p_end (hK52 _ ?_); clear hK52 K52
        exact loop_again ((j + 1, true)) (by show _ < _; simp only; omega) ⟨rfl, rfl, rfl, rfl, rfl, rfl, rfl, trivial⟩ ⟨rfl, rfl, trivial⟩ (by exact ⟨by show _ + 1 ≤ _; simp only [List.length_map] at *; omega, by rw [any_s ht, ← hq, onB]; clear hq; cases q <;> first | rfl | (rw [Bool.false_or, Bool.eq_iff_iff]; simp only [decide_eq_true_eq, Bool.false_eq_true, false_iff, true_iff]; omega) | (exfalso; simp_all; done), hihj45_0, hihj45_1⟩)
       ·have hb51R := hb51; try simp only [zz] at hb51
        refine g_e rfl (e_move (v := .lit _ _ _) rfl) ?_
        refine g_mS rfl rfl ?_
        refine g_e rfl (e_ixL rfl rfl) ?_
        refine g_e rfl (e_fb pl2 rfl) ?_
        refine g_e rfl (e_load (v := .sc _) rfl (by kernel_rfl) (by kernel_rfl) (by kernel_rfl) (by first | omega | (simp only [List.length_map]; omega)) (by decide) ((cell_map ht _).trans rfl)) ?_
        refine g_mS rfl rfl ?_
        refine g_e rfl (e_eq rfl rfl) ?_
        refine g_mS rfl rfl ?_
        refine g_cases (fun hb53 => ?_) (fun hb53 => ?_)
        ·have hb53R := hb53; try simp only [zz] at hb53
         refine g_e rfl (e_move (v := .lit _ _ _) rfl) ?_
         refine g_mS rfl rfl ?_
         refine g_e rfl (e_ixL rfl rfl) ?_
         refine g_e rfl (e_fb pl2 rfl) ?_
         refine g_e rfl (e_load (v := .sc _) rfl (by kernel_rfl) (by kernel_rfl) (by kernel_rfl) (by first | omega | (simp only [List.length_map]; omega)) (by decide) ((cell_map ht _).trans rfl)) ?_
         refine g_mS rfl rfl ?_
         refine g_e rfl (e_faQ pl5 rfl) ?_
         refine g_e rfl (e_lH (v := .sc _) rfl hihj45_1 rfl) ?_
         refine g_e rfl (e_sub rfl rfl (by first | omega | (simp only [List.length_map] at *; omega))) ?_
         refine g_mS rfl rfl ?_
         refine g_e rfl (e_faQ pl5 rfl) ?_
         refine g_e rfl (e_lH (v := .sc _) rfl hihj45_1 rfl) ?_
         refine g_e rfl (e_adL rfl rfl) ?_
         refine g_call rfl rfl rfl rfl (.cons inn_sc (.cons inn_sc (.cons inn_sc .nil))) (Within _ _ _) ?_
         refine g_pT rfl rfl rfl ?_
         refine g_pF rfl rfl rfl ?_
         refine g_aS rfl rfl ?_
         refine g_endR (ds := [55, 56, 57, 58, 59, 60, 61, 62, 63, 64, 65, 66, 67, 68, 69, 70, 71, 72, 73, 74, 75, 76, 77]) [0, 1, 3, 3, 15, 31, 63, 3, 255, 511, 1023, 1023, 4095, 8191, 16383, 1023, 1023, 66559, 230399, 1023, 1023, 1049599, 3671039, 8388607, 16777215, 33554431, 67108863] (by kernel_rfl) rfl (hK50 _ ?_); clear hK50 K50
         refine block_norm ?_
         refine seq_norm (hK49 _ ?_); clear hK49 K49
         refine pwp_plain rfl fun K54 hK54 => ?_
         refine p_mS rfl ?_
         refine p_e rfl (e_adL rfl rfl) ?_
         refine p_aS rfl ?_
         refine p_end (hK54 _ ?_); clear hK54 K54
         exact loop_again ((j + 1, (decide (((k : Int) - r.skip) ≤ t.standard ∧ t.standard ≤ ((k : Int) + r.skip))))) (by show _ < _; simp only; omega) ⟨rfl, rfl, rfl, rfl, rfl, rfl, rfl, trivial⟩ ⟨rfl, rfl, trivial⟩ (by exact ⟨by show _ + 1 ≤ _; simp only [List.length_map] at *; omega, by rw [any_s ht, ← hq, onB]; clear hq; cases q <;> first | rfl | (rw [Bool.false_or, Bool.eq_iff_iff]; simp only [decide_eq_true_eq, Bool.false_eq_true, false_iff, true_iff]; omega) | (exfalso; simp_all; done), hihj45_0, hihj45_1⟩)
        ·have hb53R := hb53; try simp only [zz] at hb53
         iterate 13 refine g_skip rfl rfl rfl ?_
         refine g_nocall rfl rfl rfl ?_
         refine g_pF rfl rfl rfl ?_
         refine g_pF rfl rfl rfl ?_
         refine g_aS rfl rfl ?_
         refine g_endR (ds := [55, 56, 57, 58, 59, 60, 61, 62, 63, 64, 65, 66, 67, 68, 69, 70, 71, 72, 73, 74, 75, 76, 77]) [0, 1, 3, 3, 15, 31, 63, 3, 255, 511, 1023, 1023, 4095, 8191, 16383, 1023, 1023, 66559, 230399, 1023, 1023, 1049599, 3671039, 8388607, 16777215, 33554431, 67108863] (by kernel_rfl) rfl (hK50 _ ?_); clear hK50 K50
         refine block_norm ?_
         refine seq_norm (hK49 _ ?_); clear hK49 K49
         refine pwp_plain rfl fun K55 hK55 => ?_
         refine p_mS rfl ?_
         refine p_e rfl (e_adL rfl rfl) ?_
         refine p_aS rfl ?_
         refine p_end (hK55 _ ?_); clear hK55 K55
         exact loop_again ((j + 1, false)) (by show _ < _; simp only; omega) ⟨rfl, rfl, rfl, rfl, rfl, rfl, rfl, trivial⟩ ⟨rfl, rfl, trivial⟩ (by exact ⟨by show _ + 1 ≤ _; simp only [List.length_map] at *; omega, by rw [any_s ht, ← hq, onB]; clear hq; cases q <;> first | rfl | (rw [Bool.false_or, Bool.eq_iff_iff]; simp only [decide_eq_true_eq, Bool.false_eq_true, false_iff, true_iff]; omega) | (exfalso; simp_all; done), hihj45_0, hihj45_1⟩)
      ·have hb48R := hb48; try simp only [zz] at hb48
       have hjj : j = l.length := by simp only [List.length_map] at *; omega
       have hqf : q = l.any (onB r (k : Int) (m : Int)) := by rw [hq, hjj, List.take_length]
       refine pwp_exit ?_
       refine exit_seq ?_
       clear hK47 K47
       refine exit_loop ?_
       refine exit_here ?_
       refine seq_norm (hK40 _ ?_); clear hK40 K40
       refine pwp_seq_plain rfl fun K56 hK56 => ?_
       refine p_mS rfl ?_
       refine p_end (hK56 _ ?_); clear hK56 K56
       refine pwp_cond rfl (fun hb57 => ?_) (fun hb57 => ?_)
       ·have hb57R := hb57; try simp only [zz] at hb57
        refine pwp_seq_gops rfl fun K58 hK58 => ?_
        refine g_begin ?_
        refine g_mS rfl rfl ?_
        refine g_mS rfl rfl ?_
        refine g_cases (fun hb59 => ?_) (fun hb59 => ?_)
        ·have hb59R := hb59; try simp only [zz] at hb59
         refine g_e rfl (e_faQ pl3 rfl) ?_
         refine g_e rfl (e_lH (v := .lit _ _ _) rfl hihj45_0 rfl) ?_
         refine g_mS rfl rfl ?_
         refine g_e rfl (e_ixL rfl rfl) ?_
         refine g_e rfl (e_load (v := .sc _) rfl (by kernel_rfl) (by kernel_rfl) (by kernel_rfl) (by first | omega | (simp only [List.length_map]; omega)) (by decide) ((cell_map hy _).trans rfl)) ?_
         refine g_mS rfl rfl ?_
         refine g_e rfl (e_sub rfl rfl (by first | omega | (simp only [List.length_map] at *; omega))) ?_
         refine g_e rfl (e_faQ pl5 rfl) ?_
         refine g_e rfl (e_lH (v := .sc _) rfl hihj45_1 rfl) ?_
         refine g_e rfl (e_le rfl rfl) ?_
         refine g_mS rfl rfl ?_
         refine g_cases (fun hb60 => ?_) (fun hb60 => ?_)
         ·have hb60R := hb60; try simp only [zz] at hb60
          iterate 13 refine g_skip rfl rfl rfl ?_
          refine g_pT rfl rfl rfl ?_
          refine g_pT rfl rfl rfl ?_
          refine g_aS rfl rfl ?_
          refine g_endR (ds := [82, 83, 84, 85, 86, 87, 88, 89, 90, 91, 92, 93, 94, 95, 96, 97, 98, 99, 100, 101, 102, 103, 104, 105, 106]) [0, 1, 3, 7, 3, 31, 63, 3, 255, 3, 515, 2047, 4095, 8191, 16383, 8191, 40959, 106495, 237567, 524287, 1048575, 8191, 4194303, 8191, 8396799, 33554431, 67108863, 134217727, 268435455] (by kernel_rfl) rfl (hK58 _ ?_); clear hK58 K58
          refine pwp_plain rfl fun K61 hK61 => ?_
          refine p_e rfl (e_faQ pl3 rfl) ?_
          refine p_e rfl (e_lH (v := .lit _ _ _) rfl hihj45_0 rfl) ?_
          refine p_mS rfl ?_
          refine p_e rfl (e_ixL rfl rfl) ?_
          refine p_e rfl (e_load (v := .sc _) rfl (by kernel_rfl) (by kernel_rfl) (by kernel_rfl) (by first | omega | (simp only [List.length_map]; omega)) (by decide) ((cell_map hy _).trans rfl)) ?_
          refine p_aS rfl ?_
          refine p_end (hK61 _ ?_); clear hK61 K61
          refine block_norm ?_
          refine seq_norm (hK37 _ ?_); clear hK37 K37
          refine pwp_plain rfl fun K62 hK62 => ?_
          refine p_mS rfl ?_
          refine p_e rfl (e_adL rfl rfl) ?_
          refine p_aS rfl ?_
          refine p_end (hK62 _ ?_); clear hK62 K62
          exact loop_again ((m + 1, y, true)) (by show _ < _; simp only; omega) ⟨rfl, rfl, rfl, rfl, trivial⟩ ⟨rfl, rfl, rfl, trivial⟩ (by exact ⟨by show _ + 1 ≤ _; omega, by rw [hinv, hyd]; unfold gpK; rw [gapS]; dsimp only; first | (rw [if_pos (by rw [onH, ← hqf]; first | assumption | simp_all), htz]; clear hinv hqf; cases b <;> first | rfl | (rw [Bool.true_and]; exact and_l (by rw [Bool.eq_iff_iff]; simp only [decide_eq_true_eq, Bool.false_eq_true, eq_self_iff_true, true_iff, false_iff, iff_true, iff_false]; omega)) | (simp only [Bool.false_and]; done) | (exfalso; simp_all; done)) | (rw [if_neg (by rw [onH, ← hqf]; simp_all)]), by dsimp only; omega, hihj45_0, hihj45_1⟩)
         ·have hb60R := hb60; try simp only [zz] at hb60
          refine g_e rfl (e_faQ pl3 rfl) ?_
          refine g_e rfl (e_lH (v := .lit _ _ _) rfl hihj45_0 rfl) ?_
          refine g_e rfl (e_faQ pl3 rfl) ?_
          refine g_e rfl (e_lH (v := .lit _ _ _) rfl hihj45_0 rfl) ?_
          refine g_e rfl (e_len rfl (by kernel_rfl)) ?_
          refine g_e rfl (e_sub rfl rfl (by first | omega | (simp only [List.length_map] at *; omega))) ?_
          refine g_e rfl (e_ixL rfl rfl) ?_
          refine g_e rfl (e_load (v := .sc _) rfl (by kernel_rfl) (by kernel_rfl) (by kernel_rfl) (by first | omega | (simp only [List.length_map]; omega)) (by decide) ((cell_map hz _).trans rfl)) ?_
          refine g_mS rfl rfl ?_
          refine g_e rfl (e_sub rfl rfl (by first | omega | (simp only [List.length_map] at *; omega))) ?_
          refine g_e rfl (e_faQ pl5 rfl) ?_
          refine g_e rfl (e_lH (v := .sc _) rfl hihj45_1 rfl) ?_
          refine g_e rfl (e_le rfl rfl) ?_
          refine g_pF rfl rfl rfl ?_
          refine g_pT rfl rfl rfl ?_
          refine g_aS rfl rfl ?_
          refine g_endR (ds := [82, 83, 84, 85, 86, 87, 88, 89, 90, 91, 92, 93, 94, 95, 96, 97, 98, 99, 100, 101, 102, 103, 104, 105, 106]) [0, 1, 3, 7, 3, 31, 63, 3, 255, 3, 515, 2047, 4095, 8191, 16383, 8191, 40959, 106495, 237567, 524287, 1048575, 8191, 4194303, 8191, 8396799, 33554431, 67108863, 134217727, 268435455] (by kernel_rfl) rfl (hK58 _ ?_); clear hK58 K58
          refine pwp_plain rfl fun K63 hK63 => ?_
          refine p_e rfl (e_faQ pl3 rfl) ?_
          refine p_e rfl (e_lH (v := .lit _ _ _) rfl hihj45_0 rfl) ?_
          refine p_mS rfl ?_
          refine p_e rfl (e_ixL rfl rfl) ?_
          refine p_e rfl (e_load (v := .sc _) rfl (by kernel_rfl) (by kernel_rfl) (by kernel_rfl) (by first | omega | (simp only [List.length_map]; omega)) (by decide) ((cell_map hy _).trans rfl)) ?_
          refine p_aS rfl ?_
          refine p_end (hK63 _ ?_); clear hK63 K63
          refine block_norm ?_
          refine seq_norm (hK37 _ ?_); clear hK37 K37
          refine pwp_plain rfl fun K64 hK64 => ?_
          refine p_mS rfl ?_
          refine p_e rfl (e_adL rfl rfl) ?_
          refine p_aS rfl ?_
          refine p_end (hK64 _ ?_); clear hK64 K64
          exact loop_again ((m + 1, y, (decide ((z - last) ≤ r.free)))) (by show _ < _; simp only; omega) ⟨rfl, rfl, rfl, rfl, trivial⟩ ⟨rfl, rfl, rfl, trivial⟩ (by exact ⟨by show _ + 1 ≤ _; omega, by rw [hinv, hyd]; unfold gpK; rw [gapS]; dsimp only; first | (rw [if_pos (by rw [onH, ← hqf]; first | assumption | simp_all), htz]; clear hinv hqf; cases b <;> first | rfl | (rw [Bool.true_and]; exact and_l (by rw [Bool.eq_iff_iff]; simp only [decide_eq_true_eq, Bool.false_eq_true, eq_self_iff_true, true_iff, false_iff, iff_true, iff_false]; omega)) | (simp only [Bool.false_and]; done) | (exfalso; simp_all; done)) | (rw [if_neg (by rw [onH, ← hqf]; simp_all)]), by dsimp only; omega, hihj45_0, hihj45_1⟩)
        ·have hb59R := hb59; try simp only [zz] at hb59
         iterate 25 refine g_skip rfl rfl rfl ?_
         refine g_pF rfl rfl rfl ?_
         refine g_aS rfl rfl ?_
         refine g_endR (ds := [82, 83, 84, 85, 86, 87, 88, 89, 90, 91, 92, 93, 94, 95, 96, 97, 98, 99, 100, 101, 102, 103, 104, 105, 106]) [0, 1, 3, 7, 3, 31, 63, 3, 255, 3, 515, 2047, 4095, 8191, 16383, 8191, 40959, 106495, 237567, 524287, 1048575, 8191, 4194303, 8191, 8396799, 33554431, 67108863, 134217727, 268435455] (by kernel_rfl) rfl (hK58 _ ?_); clear hK58 K58
         refine pwp_plain rfl fun K65 hK65 => ?_
         refine p_e rfl (e_faQ pl3 rfl) ?_
         refine p_e rfl (e_lH (v := .lit _ _ _) rfl hihj45_0 rfl) ?_
         refine p_mS rfl ?_
         refine p_e rfl (e_ixL rfl rfl) ?_
         refine p_e rfl (e_load (v := .sc _) rfl (by kernel_rfl) (by kernel_rfl) (by kernel_rfl) (by first | omega | (simp only [List.length_map]; omega)) (by decide) ((cell_map hy _).trans rfl)) ?_
         refine p_aS rfl ?_
         refine p_end (hK65 _ ?_); clear hK65 K65
         refine block_norm ?_
         refine seq_norm (hK37 _ ?_); clear hK37 K37
         refine pwp_plain rfl fun K66 hK66 => ?_
         refine p_mS rfl ?_
         refine p_e rfl (e_adL rfl rfl) ?_
         refine p_aS rfl ?_
         refine p_end (hK66 _ ?_); clear hK66 K66
         exact loop_again ((m + 1, y, false)) (by show _ < _; simp only; omega) ⟨rfl, rfl, rfl, rfl, trivial⟩ ⟨rfl, rfl, rfl, trivial⟩ (by exact ⟨by show _ + 1 ≤ _; omega, by rw [hinv, hyd]; unfold gpK; rw [gapS]; dsimp only; first | (rw [if_pos (by rw [onH, ← hqf]; first | assumption | simp_all), htz]; clear hinv hqf; cases b <;> first | rfl | (rw [Bool.true_and]; exact and_l (by rw [Bool.eq_iff_iff]; simp only [decide_eq_true_eq, Bool.false_eq_true, eq_self_iff_true, true_iff, false_iff, iff_true, iff_false]; omega)) | (simp only [Bool.false_and]; done) | (exfalso; simp_all; done)) | (rw [if_neg (by rw [onH, ← hqf]; simp_all)]), by dsimp only; omega, hihj45_0, hihj45_1⟩)
       ·have hb57R := hb57; try simp only [zz] at hb57
        refine pwp_skip ?_
        refine block_norm ?_
        refine seq_norm (hK37 _ ?_); clear hK37 K37
        refine pwp_plain rfl fun K67 hK67 => ?_
        refine p_mS rfl ?_
        refine p_e rfl (e_adL rfl rfl) ?_
        refine p_aS rfl ?_
        refine p_end (hK67 _ ?_); clear hK67 K67
        exact loop_again ((m + 1, last, b)) (by show _ < _; simp only; omega) ⟨rfl, rfl, rfl, rfl, trivial⟩ ⟨rfl, rfl, rfl, trivial⟩ (by exact ⟨by show _ + 1 ≤ _; omega, by rw [hinv, hyd]; unfold gpK; rw [gapS]; dsimp only; first | (rw [if_pos (by rw [onH, ← hqf]; first | assumption | simp_all), htz]; clear hinv hqf; cases b <;> first | rfl | (rw [Bool.true_and]; exact and_l (by rw [Bool.eq_iff_iff]; simp only [decide_eq_true_eq, Bool.false_eq_true, eq_self_iff_true, true_iff, false_iff, iff_true, iff_false]; omega)) | (simp only [Bool.false_and]; done) | (exfalso; simp_all; done)) | (rw [if_neg (by rw [onH, ← hqf]; simp_all)]), by dsimp only; omega, hihj45_0, hihj45_1⟩)
     ·have hb36R := hb36; try simp only [zz] at hb36
      have hmm : m = g.levels.length := by simp only [List.length_map] at *; omega
      refine pwp_exit ?_
      refine exit_seq ?_
      clear hK35 K35
      refine exit_loop ?_
      refine exit_here ?_
      refine seq_norm (hK28 _ ?_); clear hK28 K28
      refine pwp_gops rfl fun K68 hK68 => ?_
      refine g_begin ?_
      refine g_mS rfl rfl ?_
      refine g_mS rfl rfl ?_
      refine g_cases (fun hb69 => ?_) (fun hb69 => ?_)
      ·have hb69R := hb69; try simp only [zz] at hb69
       refine g_e rfl (e_faQ pl3 rfl) ?_
       refine g_e rfl (e_lH (v := .lit _ _ _) rfl hihj33_0 rfl) ?_
       refine g_e rfl (e_faQ pl3 rfl) ?_
       refine g_e rfl (e_lH (v := .lit _ _ _) rfl hihj33_0 rfl) ?_
       refine g_e rfl (e_len rfl (by kernel_rfl)) ?_
       refine g_e rfl (e_sub rfl rfl (by first | omega | (simp only [List.length_map] at *; omega))) ?_
       refine g_e rfl (e_ixL rfl rfl) ?_
       refine g_e rfl (e_load (v := .sc _) rfl (by kernel_rfl) (by kernel_rfl) (by kernel_rfl) (by first | omega | (simp only [List.length_map]; omega)) (by decide) ((cell_map hz _).trans rfl)) ?_
       refine g_mS rfl rfl ?_
       refine g_e rfl (e_sub rfl rfl (by first | omega | (simp only [List.length_map] at *; omega))) ?_
       refine g_e rfl (e_faQ pl5 rfl) ?_
       refine g_e rfl (e_lH (v := .sc _) rfl hihj33_1 rfl) ?_
       refine g_e rfl (e_le rfl rfl) ?_
       refine g_pT rfl rfl rfl ?_
       refine g_aS rfl rfl ?_
       refine g_end (ds := [115, 116, 117, 118, 119, 120, 121, 122, 123, 124, 125, 126, 127]) (by kernel_rfl) rfl (hK68 _ ?_); clear hK68 K68
       refine block_norm ?_
       refine seq_norm (hK25 _ ?_); clear hK25 K25
       refine pwp_plain rfl fun K70 hK70 => ?_
       refine p_mS rfl ?_
       refine p_e rfl (e_adL rfl rfl) ?_
       refine p_aS rfl ?_
       refine p_end (hK70 _ ?_); clear hK70 K70
       exact loop_again ((k + 1, (decide ((z - last) ≤ r.free)))) (by show _ < _; simp only; omega) ⟨rfl, rfl, rfl, trivial⟩ ⟨rfl, rfl, trivial⟩ (by exact ⟨by show _ + 1 ≤ _; omega, by rw [rgL, hinv, List.drop_eq_nil_of_le (by omega), gpK, gapS, htz]; clear hinv; first | (cases b <;> first | (simp only [Bool.true_and, Bool.false_and]; done) | rfl | (exfalso; simp_all; done)), hihj33_0, hihj33_1⟩)
      ·have hb69R := hb69; try simp only [zz] at hb69
       iterate 13 refine g_skip rfl rfl rfl ?_
       refine g_pF rfl rfl rfl ?_
       refine g_aS rfl rfl ?_
       refine g_end (ds := [115, 116, 117, 118, 119, 120, 121, 122, 123, 124, 125, 126, 127]) (by kernel_rfl) rfl (hK68 _ ?_); clear hK68 K68
       refine block_norm ?_
       refine seq_norm (hK25 _ ?_); clear hK25 K25
       refine pwp_plain rfl fun K71 hK71 => ?_
       refine p_mS rfl ?_
       refine p_e rfl (e_adL rfl rfl) ?_
       refine p_aS rfl ?_
       refine p_end (hK71 _ ?_); clear hK71 K71
       exact loop_again ((k + 1, false)) (by show _ < _; simp only; omega) ⟨rfl, rfl, rfl, trivial⟩ ⟨rfl, rfl, trivial⟩ (by exact ⟨by show _ + 1 ≤ _; omega, by rw [rgL, hinv, List.drop_eq_nil_of_le (by omega), gpK, gapS, htz]; clear hinv; first | (cases b <;> first | (simp only [Bool.true_and, Bool.false_and]; done) | rfl | (exfalso; simp_all; done)), hihj33_0, hihj33_1⟩)
    ·have hb24R := hb24; try simp only [zz] at hb24
     obtain rfl : k = g.along.length := by simp only [List.length_map] at *; omega
     refine pwp_exit ?_
     refine exit_seq ?_
     clear hK23 K23
     refine exit_loop ?_
     refine exit_here ?_
     refine seq_norm (hK16 _ ?_); clear hK16 K16
     refine pwp_seq_plain rfl fun K72 hK72 => ?_
     refine p_e rfl (e_loadHA (cs := Grid.enc (g)) (n := 3) rfl hihj21_0 (by kernel_rfl) (by kernel_rfl) (by kernel_rfl) (by exact Nat.zero_lt_one) (by decide) rfl) ?_
     refine p_e rfl (e_loadHA (cs := Rule.enc (r)) (n := 5) rfl hihj21_1 (by kernel_rfl) (by kernel_rfl) (by kernel_rfl) (by exact Nat.zero_lt_one) (by decide) rfl) ?_
     refine p_e rfl (e_move (v := .lit _ _ _) rfl) ?_
     refine p_call rfl (.cons (inn_agg (Grid.pure _)) (.cons (inn_agg (Rule.pure _)) (.cons inn_lit .nil))) (HeldC g r l (by omega) (by omega) (by omega)) ?_
     refine p_e rfl (e_move (v := .tup _) rfl) ?_
     refine p_e rfl (e_ext (v := .sc _) rfl (by simp) rfl) ?_
     refine p_e rfl (e_ext (v := .agg _) rfl (by simp) rfl) ?_
     refine p_e rfl (e_ext (v := .sc _) rfl (by simp) rfl) ?_
     refine p_new rfl (e_alloc (cs := [.int 0, .int 0, .nil]) (n := 3) (by kernel_rfl) rfl (by decide)) (ob_alloc (by decide)) ?_
     refine p_aS rfl ?_
     refine p_store rfl (e_storeA rfl (hset_self _ _ _) rfl rfl rfl (by kernel_rfl) rfl (by kernel_rfl)) trivial ?_
     refine p_aS rfl ?_
     refine p_end (hK72 _ ?_); clear hK72 K72
     refine pwp_seq_gops rfl fun K73 hK73 => ?_
     refine g_begin ?_
     refine g_mS rfl rfl ?_
     refine g_e rfl (e_eq rfl rfl) ?_
     refine g_mS rfl rfl ?_
     refine g_cases (fun hb74 => ?_) (fun hb74 => ?_)
     ·have hb74R := hb74; try simp only [zz] at hb74
      refine g_mS rfl rfl ?_
      refine g_mS rfl rfl ?_
      refine g_e rfl (e_beq rfl rfl (by kernel_rfl)) ?_
      refine g_pT rfl rfl rfl ?_
      refine g_aS rfl rfl ?_
      refine g_end (ds := [140, 141, 142]) rfl rfl (hK73 _ ?_); clear hK73 K73
      refine pwp_ret ?_
      refine end1 (v := .sc _) rfl ?_
      first
        | exact out_b rfl
        | exact out_b (by rw [hhe, hgp, hb0, decide_eq_true rfl])
        | exact out_b (by rw [hhe, hgp, hb0]; simp)
        | (exfalso; omega)
        | (exfalso; simp_all; done)
     ·have hb74R := hb74; try simp only [zz] at hb74
      iterate 3 refine g_skip rfl rfl rfl ?_
      refine g_pF rfl rfl rfl ?_
      refine g_aS rfl rfl ?_
      refine g_end (ds := [140, 141, 142]) rfl rfl (hK73 _ ?_); clear hK73 K73
      refine pwp_ret ?_
      refine end1 (v := .sc _) rfl ?_
      first
        | exact out_b rfl
        | exact out_b (by rw [hhe, hgp, hb0, decide_eq_true rfl])
        | exact out_b (by rw [hhe, hgp, hb0]; simp)
        | (exfalso; omega)
        | (exfalso; simp_all; done)

end Go.Proofs.YtindehoegfiiaaaGreatDoor
