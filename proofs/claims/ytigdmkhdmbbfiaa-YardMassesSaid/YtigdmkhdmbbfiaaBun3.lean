/- The bundles of wants. No conditions. -/
import Derived.Test.YtigdmkhdmbbfiaaBunA
set_option linter.unusedSimpArgs false
set_option linter.unusedVariables false
set_option maxRecDepth 100000
namespace Go.Proofs.Ytigdmkhdmbbfiaa
open Go Go.Pv

def itemB (p : Part) (n : Int) : Item := ⟨p.name, n * p.mass, lenY p.square⟩
/-- The bundles of one want, behind those in out. -/
def bun (p : Part) (size : Int) : Nat → Int → List Item → Int × List Item
  | 0, _, out => (0, out)
  | f + 1, left, out => if 0 < left then (if out.length = 200 then (8, []) else bun p size f (left - size) (out ++ [itemB p (min left size)])) else (0, out)
def sizeB (w : Want) (p : Part) (most : Int) : Int := if (decide (0 < p.mass)) = true then most / p.mass else w.count
def bunK (r : Int × List Item) (k : List Item → Int × List Item) : Int × List Item := if r.1 = 0 then k r.2 else (r.1, [])
def bunG (most : Int) : List Want → List Part → List Item → Int × List Item
  | w :: ws, p :: ps, out => bunK (bun p (sizeB w p most) w.count.toNat w.count out) fun o => bunG most ws ps o
  | _, _, out => (0, out)
def heavyB (most : Int) : List Want → List Part → Bool
  | w :: ws, p :: ps => (decide (0 < w.count) && decide (most < p.mass)) || heavyB most ws ps
  | _, _ => false
/-- The bundles of wants, or the first error. -/
def bunR (ws : List Want) (ps : List Part) (most : Int) : Int × List Item :=
  if ¬ (wantR ws ps).1 = 0 then ((wantR ws ps).1, []) else if ¬ (1 ≤ most ∧ most ≤ 100000000) then (2, []) else if heavyB most ws (wantR ws ps).2 = true then (18, []) else bunG most ws (wantR ws ps).2 []
theorem bun_0 {p : Part} {size left : Int} {f : Nat} {out : List Item} (h : ¬ 0 < left) : bun p size f left out = (0, out) := by
  cases f with
  | zero => rfl
  | succ f => rw [bun, if_neg h]
theorem bun_1 {p : Part} {size left : Int} {f : Nat} {out : List Item} (h : 0 < left) (h2 : out.length = 200) : bun p size (f + 1) left out = (8, []) := by rw [bun, if_pos h, if_pos h2]
theorem bun_2 {p : Part} {size left : Int} {f : Nat} {out : List Item} (h : 0 < left) (h2 : ¬ out.length = 200) : bun p size (f + 1) left out = bun p size f (left - size) (out ++ [itemB p (min left size)]) := by rw [bun, if_pos h, if_neg h2]
theorem heavy_get {most : Int} : ∀ {ws : List Want} {ls : List Part} {k : Nat} {w : Want} {p : Part}, heavyB most ws ls = false → ws[k]? = some w → ls[k]? = some p → 0 < w.count → p.mass ≤ most
  | [], _, k, w, p, _, hw, _, _ => by simp at hw
  | _ :: _, [], k, w, p, _, _, hp, _ => by simp at hp
  | a :: ws, b :: ls, 0, w, p, h, hw, hp, hc => by
    simp only [List.getElem?_cons_zero, Option.some.injEq] at hw hp
    subst hw; subst hp
    simp only [heavyB, Bool.or_eq_false_iff, Bool.and_eq_false_iff, decide_eq_false_iff_not] at h
    omega
  | a :: ws, b :: ls, k + 1, w, p, h, hw, hp, hc => by
    simp only [List.getElem?_cons_succ] at hw hp
    simp only [heavyB, Bool.or_eq_false_iff] at h
    exact heavy_get h.2 hw hp hc
theorem size_ok {w : Want} {p : Part} {most : Int} (hw : 0 ≤ w.count ∧ w.count ≤ 1000000) (hp : 0 ≤ p.mass) (hm : 1 ≤ most ∧ most ≤ 100000000) (hh : 0 < w.count → p.mass ≤ most) : 0 ≤ sizeB w p most ∧ sizeB w p most ≤ 100000000 ∧ sizeB w p most * p.mass ≤ most ∧ (0 < w.count → 1 ≤ sizeB w p most) := by
  unfold sizeB
  by_cases h : 0 < p.mass
  · rw [if_pos (by simpa using h)]
    have h1 : 0 ≤ most / p.mass := Int.ediv_nonneg (by omega) hp
    have h2 : most / p.mass ≤ most := Int.ediv_le_self _ (by omega)
    have h3 : most / p.mass * p.mass ≤ most := Int.ediv_mul_le _ (by omega)
    refine ⟨h1, by omega, h3, fun hc => ?_⟩
    exact Int.le_ediv_of_mul_le h (by have := hh hc; omega)
  · rw [if_neg (by simpa using h)]
    have h0 : p.mass = 0 := by omega
    rw [h0, Int.mul_zero]
    omega
theorem prod_ok {left size m most : Int} (h1 : 0 < left) (h2 : 1 ≤ size) (h3 : 0 ≤ m) (h4 : size * m ≤ most) : 0 ≤ min left size * m ∧ min left size * m ≤ most := by
  have a : 0 ≤ min left size * m := Int.mul_nonneg (by omega) h3
  have b : min left size * m ≤ size * m := Int.mul_le_mul_of_nonneg_right (by omega) h3
  omega
theorem item_clean (a : Item) : ∀ p ∈ a.enc, Go.Pv.Clean p ∧ p.cell = true := fun p hp => by
  simp only [Item.enc, List.mem_cons, List.not_mem_nil, or_false] at hp
  rcases hp with rfl | rfl | rfl <;> exact ⟨.sc _, rfl⟩
theorem br_out {h : Heap} {ws : List Want} {ps : List Part} {most z : Int} {d : Nat} {u : PV} {acc : List Item} (hr : bunR ws ps most = (z, acc)) (hs : SliceAt h d u 3 (acc.map Item.enc)) : Out h (.tup [u, .int z]) (.tup [.lit false 3 ((bunR ws ps most).2.map Item.enc), .int (bunR ws ps most).1]) := by
  rw [hr]; exact out_2 (out_slice hs rfl (fun _ => rfl) item_clean) (out_i rfl)
theorem br_out0 {h : Heap} {ws : List Want} {ps : List Part} {most z : Int} (hr : bunR ws ps most = (z, [])) : Out h (.tup [.nil, .int z]) (.tup [.lit false 3 ((bunR ws ps most).2.map Item.enc), .int (bunR ws ps most).1]) := by
  rw [hr]; exact out_2 (.nil 3) (out_i rfl)
theorem br_1 {ws : List Want} {ps : List Part} {most : Int} (h : ¬ (wantR ws ps).1 = 0) : bunR ws ps most = ((wantR ws ps).1, []) := by rw [bunR, if_pos h]
theorem br_2 {ws : List Want} {ps : List Part} {most : Int} (h : (wantR ws ps).1 = 0) (h2 : ¬ (1 ≤ most ∧ most ≤ 100000000)) : bunR ws ps most = (2, []) := by rw [bunR, if_neg (by simpa using h), if_pos h2]
theorem br_3 {ws : List Want} {ps : List Part} {most : Int} (h : (wantR ws ps).1 = 0) (h2 : 1 ≤ most ∧ most ≤ 100000000) (h3 : heavyB most ws (wantR ws ps).2 = true) : bunR ws ps most = (18, []) := by rw [bunR, if_neg (by simpa using h), if_neg (by simpa using h2), if_pos h3]
theorem br_4 {ws : List Want} {ps : List Part} {most : Int} (h : (wantR ws ps).1 = 0) (h2 : 1 ≤ most ∧ most ≤ 100000000) (h3 : heavyB most ws (wantR ws ps).2 = false) {r : Int × List Item} (h4 : bunG most ws (wantR ws ps).2 [] = r) : bunR ws ps most = r := by rw [bunR, if_neg (by simpa using h), if_neg (by simpa using h2), if_neg (by simp [h3]), h4]
theorem hv_t {b : Bool} {w : Want} {p : Part} {most : Int} {R : Bool} (h : R = (decide (0 < w.count) && decide (most < p.mass) || b)) (h1 : 0 < w.count) (h2 : most < p.mass) : R = true := by rw [h]; simp [h1, h2]
theorem hv_f {b : Bool} {w : Want} {p : Part} {most : Int} {R : Bool} (h : R = (decide (0 < w.count) && decide (most < p.mass) || b)) (h1 : ¬ 0 < w.count ∨ ¬ most < p.mass) : R = b := by
  rw [h]
  rcases h1 with h1 | h1 <;> simp only [h1, decide_false, Bool.false_and, Bool.and_false, Bool.false_or]

theorem fr47 : (inFrame Try.f47.ntmps (Try.f47.body.getD .skip) && Try.f47.results.toList.all (resScope Try.f47.ntmps)) = true := by kernel_rfl
theorem Bundles (ws : List Want) (ps : List Part) (most : Int) (hl : ws.length ≤ 70) (hl2 : ps.length ≤ 70) (hs : ∀ x ∈ ws, x.part.size ≤ 30) (hps : ∀ x ∈ ps, x.name.size ≤ 30) : PCalls Try.prog 47 [.lit true 2 (ws.map Want.enc), .lit true 7 (ps.map Part.enc), .int most] (.tup [.lit false 3 ((bunR ws ps most).2.map Item.enc), .int (bunR ws ps most).1]) := by
  refine PCalls.of_code Try.func47 rfl rfl (by kernel_rfl) mixed fr47 (by show _ ≤ 98; simp) (pure_2 (.lit _ _ _ fun row hr => pure_map Item.pure row hr) (.sc _)) ?_
  refine pwp_seq_plain rfl fun K1 hK1 => ?_
  refine p_step rfl (e_assign (v := .nil) rfl) trivial ?_
  refine p_step rfl (e_assign (v := .sc _) rfl) trivial ?_
  refine p_end (hK1 _ ?_); clear hK1 K1
  refine pwp_seq_plain rfl fun K2 hK2 => ?_
  refine p_step rfl (e_move (v := .lit _ _ _) rfl) trivial ?_
  refine p_step rfl (e_move (v := .lit _ _ _) rfl) trivial ?_
  refine p_call rfl (.cons inn_lit (.cons inn_lit .nil)) (wanted _ _ (by omega) (by omega) (by assumption) (by assumption)) ?_
  refine p_step rfl (e_move (v := .tup _) rfl) trivial ?_
  refine p_step rfl (e_ext (v := .lit _ _ _) rfl (by simp) rfl) trivial ?_
  refine p_step rfl (e_ext (v := .sc _) rfl (by simp) rfl) trivial ?_
  refine p_step rfl (e_assign (v := .lit _ _ _) rfl) trivial ?_
  refine p_step rfl (e_assign (v := .sc _) rfl) trivial ?_
  refine p_end (hK2 _ ?_); clear hK2 K2
  refine pwp_seq_seq ?_
  refine pwp_seq_plain rfl fun K3 hK3 => ?_
  refine p_step rfl (e_move (v := .sc _) rfl) trivial ?_
  refine p_step rfl (e_ne rfl rfl) trivial ?_
  refine p_end (hK3 _ ?_); clear hK3 K3
  refine pwp_seq_cond rfl fun K4 hK4 => ⟨fun hb5 => ?_, fun hb5 => ?_⟩
  ·have hb5R := hb5; (try simp only [z1, z2, z3, z4, z5, z6, ne_eq, z7, z8, z9, z10, z11, z12] at hb5); (try (have hlen := wantR_len (ws := ws) (ps := ps) hb5))
   refine pwp_seq_plain rfl fun K6 hK6 => ?_
   refine p_step rfl (e_move (v := .sc _) rfl) trivial ?_
   refine p_step rfl (e_assign (v := .nil) rfl) trivial ?_
   refine p_step rfl (e_assign (v := .sc _) rfl) trivial ?_
   refine p_end (hK6 _ ?_); clear hK6 K6
   refine pwp_ret ?_
   refine ret_seq ?_
   refine end2 (v := .nil) (w := .sc _) rfl rfl ?_
   first
     | exact br_out0 (br_1 (by assumption))
     | exact br_out0 (br_2 (by assumption) (by omega))
     | exact br_out0 (br_3 (by assumption) (by omega) (hv_t hinv (by omega) (by omega)))
     | exact br_out0 (br_4 (by assumption) (by omega) hhv (by rw [hinv, bun_1 hpos (by omega)]; rfl))
  ·have hb5R := hb5; (try simp only [z1, z2, z3, z4, z5, z6, ne_eq, z7, z8, z9, z10, z11, z12] at hb5); (try (have hlen := wantR_len (ws := ws) (ps := ps) hb5))
   refine pwp_skip ?_
   refine seq_norm (hK4 _ ?_); clear hK4 K4
   refine pwp_seq_seq ?_
   refine pwp_seq_plain rfl fun K7 hK7 => ?_
   refine p_step rfl (e_move (v := .sc _) rfl) trivial ?_
   refine p_call rfl (.cons inn_sc (.cons inn_sc (.cons inn_sc .nil))) (within _ _ _) ?_
   refine p_step rfl (e_not rfl) trivial ?_
   refine p_end (hK7 _ ?_); clear hK7 K7
   refine pwp_seq_cond rfl fun K8 hK8 => ⟨fun hb9 => ?_, fun hb9 => ?_⟩
   ·have hb9R := hb9; (try simp only [z1, z2, z3, z4, z5, z6, ne_eq, z7, z8, z9, z10, z11, z12] at hb9); (try (have hlen := wantR_len (ws := ws) (ps := ps) hb9))
    refine pwp_seq_plain rfl fun K10 hK10 => ?_
    refine p_step rfl (e_assign (v := .nil) rfl) trivial ?_
    refine p_step rfl (e_assign (v := .sc _) rfl) trivial ?_
    refine p_end (hK10 _ ?_); clear hK10 K10
    refine pwp_ret ?_
    refine ret_seq ?_
    refine end2 (v := .nil) (w := .sc _) rfl rfl ?_
    first
      | exact br_out0 (br_1 (by assumption))
      | exact br_out0 (br_2 (by assumption) (by omega))
      | exact br_out0 (br_3 (by assumption) (by omega) (hv_t hinv (by omega) (by omega)))
      | exact br_out0 (br_4 (by assumption) (by omega) hhv (by rw [hinv, bun_1 hpos (by omega)]; rfl))
   ·have hb9R := hb9; (try simp only [z1, z2, z3, z4, z5, z6, ne_eq, z7, z8, z9, z10, z11, z12] at hb9); (try (have hlen := wantR_len (ws := ws) (ps := ps) hb9))
    refine pwp_skip ?_
    refine seq_norm (hK8 _ ?_); clear hK8 K8
    refine pwp_seq_seq ?_
    refine pwp_seq_plain rfl fun K11 hK11 => ?_
    refine p_step rfl (e_move (v := .lit _ _ _) rfl) trivial ?_
    refine p_step rfl (e_len rfl (by kernel_rfl)) trivial ?_
    refine p_step rfl (e_move (v := .sc _) rfl) trivial ?_
    refine p_end (hK11 _ ?_); clear hK11 K11
    refine pwp_seq_block fun K12 hK12 => ?_
    refine pwp_loopR (α := Nat) [0, 2, 8, 29, 30] (fun (k : Nat) => [(31, .int (k))]) (fun (k : Nat) (h : Heap) (_ : Nat → Nat) => ((k) ≤ ws.length) ∧ (heavyB most ws (wantR ws ps).2 = heavyB most (ws.drop (k)) ((wantR ws ps).2.drop (k)))) (fun (k : Nat) => ws.length - (k)) (0) (by exact ⟨rfl, trivial⟩) (by exact ⟨by exact Nat.zero_le _, by exact rfl⟩) fun k r13 h14 c15 hj16 => ?_
    obtain ⟨hk, hinv⟩ := hj16
    try dsimp only at hk
    try dsimp only at hinv
    show pwp _ _ (loopQ _ _ _) ⟨sets (mix _ _ _) [(31, .int k)], _, _⟩
    refine pwp_seq_plain rfl fun K17 hK17 => ?_
    refine p_step rfl (e_lt rfl rfl) trivial ?_
    refine p_end (hK17 _ ?_); clear hK17 K17
    refine pwp_seq_cond rfl fun K18 hK18 => ⟨fun hb19 => ?_, fun hb19 => ?_⟩
    ·have hb19R := hb19; (try simp only [z1, z2, z3, z4, z5, z6, ne_eq, z7, z8, z9, z10, z11, z12] at hb19); (try (have hlen := wantR_len (ws := ws) (ps := ps) hb19))
     obtain ⟨w, hw, hdw, htw⟩ := get_lt (xs := ws) (i := k) (by omega)
     obtain ⟨x, hx, hd, ht⟩ := get_lt (xs := (wantR ws ps).2) (i := k) (by omega)
     have hpx := wantR_parts (ws := ws) (ps := ps) (by assumption) x (List.mem_of_getElem? hx)
     have hcw := wantR_counts (ws := ws) (ps := ps) (by assumption) w (List.mem_of_getElem? hw)
     rw [hdw, hd] at hinv; simp only [heavyB] at hinv
     refine pwp_skip ?_
     refine seq_norm (hK18 _ ?_); clear hK18 K18
     refine pwp_seq_block fun K20 hK20 => ?_
     refine pwp_seq_plain rfl fun K21 hK21 => ?_
     refine p_step rfl (e_move (v := .sc _) rfl) trivial ?_
     refine p_step rfl (e_ixa rfl rfl (by kernel_rfl) (by kernel_rfl) (by simp only [List.length_map]; omega)) trivial ?_
     refine p_step rfl (e_loadA (n := 7) rfl (by kernel_rfl) (by kernel_rfl) (by kernel_rfl) (by simp only [List.length_map]; omega) (by decide) (by first | exact agg_map hx rfl)) trivial ?_
     refine p_new rfl (e_alloc (cs := [.str ByteArray.empty, .int 0, .int 0, .int 0, .int 0, .int 0, .int 0]) (n := 7) (by kernel_rfl) rfl (by decide)) (ob_alloc (by decide)) ?_
     refine p_step rfl (e_assign (v := .sc _) rfl) trivial ?_
     refine p_store rfl (e_storeA rfl (hset_self _ _ _) rfl rfl rfl (by kernel_rfl) rfl (by kernel_rfl)) trivial ?_
     refine p_end (hK21 _ ?_); clear hK21 K21
     refine pwp_seq_cutG [0, 2, 8, 29, 30, 31] [(47, .bool ((decide ((0) < w.count)) && (decide (most < x.mass))))] (fun K22 hK22 => ?_) (fun r23 => ?_)
     ·skip
      refine pwp_gops rfl fun K24 hK24 => ?_
      refine g_begin ?_
      refine g_step rfl rfl rfl rfl (e_move (v := .lit _ _ _) rfl) trivial ?_
      refine g_step rfl rfl rfl rfl (e_move (v := .sc _) rfl) trivial ?_
      refine g_step rfl rfl rfl rfl (e_ixa rfl rfl (by kernel_rfl) (by kernel_rfl) (by simp only [List.length_map]; omega)) trivial ?_
      refine g_step rfl rfl rfl rfl (e_fa (pl := [(0, 1, false), (1, 1, false)]) rfl (by kernel_rfl) (by kernel_rfl) (by decide) rfl) trivial ?_
      refine g_step rfl rfl rfl rfl (e_load (v := .sc _) rfl (by kernel_rfl) (by kernel_rfl) (by kernel_rfl) (by simp only [List.length_map]; omega) (by decide) ((cell_map hw _).trans rfl)) trivial ?_
      refine g_step rfl rfl rfl rfl (e_gt rfl rfl) trivial ?_
      refine g_step rfl rfl rfl rfl (e_move (v := .sc _) rfl) trivial ?_
      refine g_cases (fun hb25 => ?_) (fun hb25 => ?_)
      ·have hb25R := hb25; (try simp only [z1, z2, z3, z4, z5, z6, ne_eq, z7, z8, z9, z10, z11, z12] at hb25); (try (have hlen := wantR_len (ws := ws) (ps := ps) hb25))
       refine g_step rfl rfl rfl rfl (e_faP (pl := [(0, 1, false), (1, 1, false), (2, 1, false), (3, 1, false), (4, 1, false), (5, 2, true)]) rfl (by kernel_rfl) (by kernel_rfl) (by decide) rfl) trivial ?_
       refine g_step rfl rfl rfl rfl (e_loadH (v := .sc _) rfl (hset_self _ _ _) (by kernel_rfl) (by kernel_rfl) (by kernel_rfl) (by exact Nat.zero_lt_one) (by decide) rfl) trivial ?_
       refine g_step rfl rfl rfl rfl (e_move (v := .sc _) rfl) trivial ?_
       refine g_step rfl rfl rfl rfl (e_gt rfl rfl) trivial ?_
       refine g_step rfl rfl rfl rfl (e_pickT (v := .sc _) rfl rfl) trivial ?_
       refine g_end (ds := [43, 44, 45, 46]) rfl rfl (hK24 _ ?_); clear hK24 K24
       exact seq_norm (hK22 _ ⟨rfl, rfl, rfl, rfl, rfl, rfl, trivial⟩ ⟨(congrArg PV.bool (show ((decide (most < x.mass)) : Bool) = ((decide ((0) < w.count)) && (decide (most < x.mass))) by first | rfl | ((try rw [hb25R]) <;> (first | rfl | (simp only [Bool.and_true, Bool.and_false, Bool.true_and, Bool.false_and, Bool.or_true, Bool.or_false, Bool.true_or, Bool.false_or, Bool.not_true, Bool.not_false, if_true, if_false, Bool.false_eq_true, reduceIte] <;> rfl))) | (simp only [hb25R, Bool.and_true, Bool.and_false, Bool.true_and, Bool.false_and, Bool.or_true, Bool.or_false, Bool.true_or, Bool.false_or, Bool.not_true, Bool.not_false, if_true, if_false, Bool.false_eq_true, reduceIte] <;> rfl))), trivial⟩)
      ·have hb25R := hb25; (try simp only [z1, z2, z3, z4, z5, z6, ne_eq, z7, z8, z9, z10, z11, z12] at hb25); (try (have hlen := wantR_len (ws := ws) (ps := ps) hb25))
       refine g_skip rfl rfl rfl ?_
       refine g_skip rfl rfl rfl ?_
       refine g_skip rfl rfl rfl ?_
       refine g_skip rfl rfl rfl ?_
       refine g_step rfl rfl rfl rfl (e_pickF (v := .sc _) rfl rfl) trivial ?_
       refine g_end (ds := [43, 44, 45, 46]) rfl rfl (hK24 _ ?_); clear hK24 K24
       exact seq_norm (hK22 _ ⟨rfl, rfl, rfl, rfl, rfl, rfl, trivial⟩ ⟨(congrArg PV.bool (show (false : Bool) = ((decide ((0) < w.count)) && (decide (most < x.mass))) by first | rfl | ((try rw [hb25R]) <;> (first | rfl | (simp only [Bool.and_true, Bool.and_false, Bool.true_and, Bool.false_and, Bool.or_true, Bool.or_false, Bool.true_or, Bool.false_or, Bool.not_true, Bool.not_false, if_true, if_false, Bool.false_eq_true, reduceIte] <;> rfl))) | (simp only [hb25R, Bool.and_true, Bool.and_false, Bool.true_and, Bool.false_and, Bool.or_true, Bool.or_false, Bool.true_or, Bool.false_or, Bool.not_true, Bool.not_false, if_true, if_false, Bool.false_eq_true, reduceIte] <;> rfl))), trivial⟩)
     ·skip
      refine pwp_cond rfl (fun hb26 => ?_) (fun hb26 => ?_)
      ·have hb26R := hb26; (try simp only [z1, z2, z3, z4, z5, z6, ne_eq, z7, z8, z9, z10, z11, z12] at hb26); (try (have hlen := wantR_len (ws := ws) (ps := ps) hb26))
       refine pwp_seq_plain rfl fun K27 hK27 => ?_
       refine p_step rfl (e_assign (v := .nil) rfl) trivial ?_
       refine p_step rfl (e_assign (v := .sc _) rfl) trivial ?_
       refine p_end (hK27 _ ?_); clear hK27 K27
       refine pwp_ret ?_
       refine ret_block ?_
       refine ret_seq ?_
       refine ret_loop ?_
       refine ret_block ?_
       refine ret_seq ?_
       refine end2 (v := .nil) (w := .sc _) rfl rfl ?_
       first
         | exact br_out0 (br_1 (by assumption))
         | exact br_out0 (br_2 (by assumption) (by omega))
         | exact br_out0 (br_3 (by assumption) (by omega) (hv_t hinv (by omega) (by omega)))
         | exact br_out0 (br_4 (by assumption) (by omega) hhv (by rw [hinv, bun_1 hpos (by omega)]; rfl))
      ·have hb26R := hb26; (try simp only [z1, z2, z3, z4, z5, z6, ne_eq, z7, z8, z9, z10, z11, z12] at hb26); (try (have hlen := wantR_len (ws := ws) (ps := ps) hb26))
       refine pwp_skip ?_
       refine block_norm ?_
       refine seq_norm (hK20 _ ?_); clear hK20 K20
       refine pwp_plain rfl fun K28 hK28 => ?_
       refine p_step rfl (e_add rfl rfl (by first | omega | (simp only [List.length_map]; omega))) trivial ?_
       refine p_step rfl (e_move (v := .sc _) rfl) trivial ?_
       refine p_end (hK28 _ ?_); clear hK28 K28
       exact loop_again (k + 1) (by show _ < _; omega) ⟨rfl, rfl, rfl, rfl, rfl, trivial⟩ ⟨rfl, trivial⟩ (by exact ⟨by show _ + 1 ≤ _; omega, by exact hv_f hinv (by omega)⟩)
    ·have hb19R := hb19; (try simp only [z1, z2, z3, z4, z5, z6, ne_eq, z7, z8, z9, z10, z11, z12] at hb19); (try (have hlen := wantR_len (ws := ws) (ps := ps) hb19))
     obtain rfl : k = ws.length := by omega
     rw [List.drop_length] at hinv; simp only [heavyB] at hinv
     have hhv := hinv; clear hinv
     refine pwp_exit ?_
     refine exit_seq ?_
     clear hK18 K18
     refine exit_loop ?_
     refine exit_here ?_
     refine seq_norm (hK12 _ ?_); clear hK12 K12
     refine pwp_seq_plain rfl fun K29 hK29 => ?_
     refine p_step rfl (e_assign (v := .nil) rfl) trivial ?_
     refine p_end (hK29 _ ?_); clear hK29 K29
     refine pwp_seq_seq ?_
     refine pwp_seq_plain rfl fun K30 hK30 => ?_
     refine p_step rfl (e_move (v := .lit _ _ _) rfl) trivial ?_
     refine p_step rfl (e_len rfl (by kernel_rfl)) trivial ?_
     refine p_step rfl (e_move (v := .sc _) rfl) trivial ?_
     refine p_end (hK30 _ ?_); clear hK30 K30
     refine pwp_seq_block fun K31 hK31 => ?_
     refine pwp_loopR (α := Nat × (List Item) × PV) [0, 2, 49, 50] (fun (a32 : Nat × (List Item) × PV) => [(12, (a32.2.2)), (51, .int (a32.1))]) (fun (a32 : Nat × (List Item) × PV) (h : Heap) (_ : Nat → Nat) => ((a32.1) ≤ ws.length) ∧ (bunG most ws (wantR ws ps).2 [] = bunG most (ws.drop (a32.1)) ((wantR ws ps).2.drop (a32.1)) (a32.2.1)) ∧ ((a32.2.1).length ≤ 200) ∧ (SliceAt h 95 (a32.2.2) 3 ((a32.2.1).map Item.enc))) (fun (a32 : Nat × (List Item) × PV) => ws.length - (a32.1)) (0, [], _) (by exact ⟨rfl, rfl, trivial⟩) (by exact ⟨by exact Nat.zero_le _, by exact rfl, by exact Nat.zero_le _, .nil⟩) fun a32 r33 h34 c35 hj36 => ?_
     obtain ⟨k, acc, v⟩ := a32
     obtain ⟨hk, hinv, hal, hihj36_0⟩ := hj36
     try dsimp only at hk
     try dsimp only at hinv
     try dsimp only at hal
     try dsimp only at hihj36_0
     show pwp _ _ (loopQ _ _ _) ⟨sets (mix _ _ _) [(12, v), (51, .int k)], _, _⟩
     refine pwp_seq_plain rfl fun K37 hK37 => ?_
     refine p_step rfl (e_lt rfl rfl) trivial ?_
     refine p_end (hK37 _ ?_); clear hK37 K37
     refine pwp_seq_cond rfl fun K38 hK38 => ⟨fun hb39 => ?_, fun hb39 => ?_⟩
     ·have hb39R := hb39; (try simp only [z1, z2, z3, z4, z5, z6, ne_eq, z7, z8, z9, z10, z11, z12] at hb39); (try (have hlen := wantR_len (ws := ws) (ps := ps) hb39))
      obtain ⟨w, hw, hdw, htw⟩ := get_lt (xs := ws) (i := k) (by omega)
      obtain ⟨x, hx, hd, ht⟩ := get_lt (xs := (wantR ws ps).2) (i := k) (by omega)
      have hpx := wantR_parts (ws := ws) (ps := ps) (by assumption) x (List.mem_of_getElem? hx)
      have hcw := wantR_counts (ws := ws) (ps := ps) (by assumption) w (List.mem_of_getElem? hw)
      rw [hdw, hd] at hinv; simp only [bunG] at hinv
      have hso := size_ok (most := most) hcw hpx.2.2.2.1 (by omega) (heavy_get hhv hw hx)
      refine pwp_skip ?_
      refine seq_norm (hK38 _ ?_); clear hK38 K38
      refine pwp_seq_block fun K40 hK40 => ?_
      refine pwp_seq_plain rfl fun K41 hK41 => ?_
      refine p_step rfl (e_move (v := .sc _) rfl) trivial ?_
      refine p_step rfl (e_ixa rfl rfl (by kernel_rfl) (by kernel_rfl) (by simp only [List.length_map]; omega)) trivial ?_
      refine p_step rfl (e_loadA (n := 7) rfl (by kernel_rfl) (by kernel_rfl) (by kernel_rfl) (by simp only [List.length_map]; omega) (by decide) (by first | exact agg_map hx rfl)) trivial ?_
      refine p_new rfl (e_alloc (cs := [.str ByteArray.empty, .int 0, .int 0, .int 0, .int 0, .int 0, .int 0]) (n := 7) (by kernel_rfl) rfl (by decide)) (ob_alloc (by decide)) ?_
      refine p_step rfl (e_assign (v := .sc _) rfl) trivial ?_
      refine p_store rfl (e_storeA rfl (hset_self _ _ _) rfl rfl rfl (by kernel_rfl) rfl (by kernel_rfl)) trivial ?_
      refine p_end (hK41 _ ?_); clear hK41 K41
      refine pwp_seq_plain rfl fun K42 hK42 => ?_
      refine p_step rfl (e_move (v := .lit _ _ _) rfl) trivial ?_
      refine p_step rfl (e_move (v := .sc _) rfl) trivial ?_
      refine p_step rfl (e_ixa rfl rfl (by kernel_rfl) (by kernel_rfl) (by simp only [List.length_map]; omega)) trivial ?_
      refine p_step rfl (e_fa (pl := [(0, 1, false), (1, 1, false)]) rfl (by kernel_rfl) (by kernel_rfl) (by decide) rfl) trivial ?_
      refine p_step rfl (e_load (v := .sc _) rfl (by kernel_rfl) (by kernel_rfl) (by kernel_rfl) (by simp only [List.length_map]; omega) (by decide) ((cell_map hw _).trans rfl)) trivial ?_
      refine p_step rfl (e_assign (v := .sc _) rfl) trivial ?_
      refine p_end (hK42 _ ?_); clear hK42 K42
      refine pwp_seq_seq ?_
      refine pwp_seq_plain rfl fun K43 hK43 => ?_
      refine p_step rfl (e_faP (pl := [(0, 1, false), (1, 1, false), (2, 1, false), (3, 1, false), (4, 1, false), (5, 2, true)]) rfl (by kernel_rfl) (by kernel_rfl) (by decide) rfl) trivial ?_
      refine p_step rfl (e_loadH (v := .sc _) rfl (hset_self _ _ _) (by kernel_rfl) (by kernel_rfl) (by kernel_rfl) (by exact Nat.zero_lt_one) (by decide) rfl) trivial ?_
      refine p_step rfl (e_gt rfl rfl) trivial ?_
      refine p_end (hK43 _ ?_); clear hK43 K43
      refine pwp_seq_cutG [0, 2, 12, 13, 14, 49, 50, 51] [(15, .int (if (decide ((0) < x.mass)) = true then (most / x.mass) else w.count))] (fun K44 hK44 => ?_) (fun r45 => ?_)
      ·skip
       refine pwp_cond rfl (fun hb46 => ?_) (fun hb46 => ?_)
       ·have hb46R := hb46; (try simp only [z1, z2, z3, z4, z5, z6, ne_eq, z7, z8, z9, z10, z11, z12] at hb46); (try (have hlen := wantR_len (ws := ws) (ps := ps) hb46))
        refine pwp_plain rfl fun K47 hK47 => ?_
        refine p_step rfl (e_move (v := .sc _) rfl) trivial ?_
        refine p_step rfl (e_faP (pl := [(0, 1, false), (1, 1, false), (2, 1, false), (3, 1, false), (4, 1, false), (5, 2, true)]) rfl (by kernel_rfl) (by kernel_rfl) (by decide) rfl) trivial ?_
        refine p_step rfl (e_loadH (v := .sc _) rfl (hset_self _ _ _) (by kernel_rfl) (by kernel_rfl) (by kernel_rfl) (by exact Nat.zero_lt_one) (by decide) rfl) trivial ?_
        refine p_step rfl (e_quo rfl rfl (by omega) (by omega) (by omega)) trivial ?_
        refine p_step rfl (e_assign (v := .sc _) rfl) trivial ?_
        refine p_end (hK47 _ ?_); clear hK47 K47
        exact seq_norm (hK44 _ ⟨rfl, rfl, rfl, rfl, rfl, rfl, rfl, rfl, trivial⟩ ⟨(congrArg PV.int (show ((most / x.mass) : Int) = (if (decide ((0) < x.mass)) = true then (most / x.mass) else w.count) by first | rfl | ((try rw [hb46R]) <;> (first | rfl | (simp only [Bool.and_true, Bool.and_false, Bool.true_and, Bool.false_and, Bool.or_true, Bool.or_false, Bool.true_or, Bool.false_or, Bool.not_true, Bool.not_false, if_true, if_false, Bool.false_eq_true, reduceIte] <;> rfl))) | (simp only [hb46R, Bool.and_true, Bool.and_false, Bool.true_and, Bool.false_and, Bool.or_true, Bool.or_false, Bool.true_or, Bool.false_or, Bool.not_true, Bool.not_false, if_true, if_false, Bool.false_eq_true, reduceIte] <;> rfl))), trivial⟩)
       ·have hb46R := hb46; (try simp only [z1, z2, z3, z4, z5, z6, ne_eq, z7, z8, z9, z10, z11, z12] at hb46); (try (have hlen := wantR_len (ws := ws) (ps := ps) hb46))
        refine pwp_skip ?_
        exact seq_norm (hK44 _ ⟨rfl, rfl, rfl, rfl, rfl, rfl, rfl, rfl, trivial⟩ ⟨(congrArg PV.int (show (w.count : Int) = (if (decide ((0) < x.mass)) = true then (most / x.mass) else w.count) by first | rfl | ((try rw [hb46R]) <;> (first | rfl | (simp only [Bool.and_true, Bool.and_false, Bool.true_and, Bool.false_and, Bool.or_true, Bool.or_false, Bool.true_or, Bool.false_or, Bool.not_true, Bool.not_false, if_true, if_false, Bool.false_eq_true, reduceIte] <;> rfl))) | (simp only [hb46R, Bool.and_true, Bool.and_false, Bool.true_and, Bool.false_and, Bool.or_true, Bool.or_false, Bool.true_or, Bool.false_or, Bool.not_true, Bool.not_false, if_true, if_false, Bool.false_eq_true, reduceIte] <;> rfl))), trivial⟩)
      ·skip
       refine pwp_seq_plain rfl fun K48 hK48 => ?_
       refine p_step rfl (e_move (v := .lit _ _ _) rfl) trivial ?_
       refine p_step rfl (e_move (v := .sc _) rfl) trivial ?_
       refine p_step rfl (e_ixa rfl rfl (by kernel_rfl) (by kernel_rfl) (by simp only [List.length_map]; omega)) trivial ?_
       refine p_step rfl (e_fa (pl := [(0, 1, false), (1, 1, false)]) rfl (by kernel_rfl) (by kernel_rfl) (by decide) rfl) trivial ?_
       refine p_step rfl (e_load (v := .sc _) rfl (by kernel_rfl) (by kernel_rfl) (by kernel_rfl) (by simp only [List.length_map]; omega) (by decide) ((cell_map hw _).trans rfl)) trivial ?_
       refine p_step rfl (e_assign (v := .sc _) rfl) trivial ?_
       refine p_end (hK48 _ ?_); clear hK48 K48
       refine pwp_block ?_
       refine pwp_loopR (α := Int × Nat × (List Item) × PV) [0, 2, 14, 15, 49, 50, 51] (fun (a49 : Int × Nat × (List Item) × PV) => [(12, (a49.2.2.2)), (16, .int (a49.1))]) (fun (a49 : Int × Nat × (List Item) × PV) (h : Heap) (_ : Nat → Nat) => ((a49.1) ≤ ((a49.2.1) : Int) ∧ (a49.1) ≤ w.count ∧ -100000000 ≤ (a49.1)) ∧ (bunG most ws (wantR ws ps).2 [] = bunK (bun x (sizeB w x most) (a49.2.1) (a49.1) (a49.2.2.1)) (fun o => bunG most (ws.drop (k + 1)) ((wantR ws ps).2.drop (k + 1)) o)) ∧ ((a49.2.2.1).length ≤ 200) ∧ (SliceAt h 95 (a49.2.2.2) 3 ((a49.2.2.1).map Item.enc)) ∧ (h (14, c35 14) = some (.rows 7 [Part.enc x]))) (fun (a49 : Int × Nat × (List Item) × PV) => (a49.2.1)) (w.count, w.count.toNat, acc, _) (by exact ⟨rfl, rfl, trivial⟩) (by exact ⟨by show w.count ≤ ((w.count.toNat : Nat) : Int) ∧ w.count ≤ w.count ∧ -100000000 ≤ w.count; omega, by exact hinv, by exact hal, (hihj36_0.keep fun _ => (hset_ne (key_ne rfl)).trans ((hset_ne (key_ne rfl)).trans (rfl))), (hset_self _ _ _)⟩) fun a49 r50 h51 c52 hj53 => ?_
       obtain ⟨left, f, acc, v⟩ := a49
       obtain ⟨hlf, hinv, hal, hihj53_0, hihj53_1⟩ := hj53
       try dsimp only at hlf
       try dsimp only at hinv
       try dsimp only at hal
       try dsimp only at hihj53_0
       try dsimp only at hihj53_1
       show pwp _ _ (loopQ _ _ _) ⟨sets (mix _ _ _) [(12, v), (16, .int left)], _, _⟩
       refine pwp_seq_seq ?_
       refine pwp_seq_plain rfl fun K54 hK54 => ?_
       refine p_step rfl (e_move (v := .sc _) rfl) trivial ?_
       refine p_step rfl (e_gt rfl rfl) trivial ?_
       refine p_end (hK54 _ ?_); clear hK54 K54
       refine pwp_seq_cond rfl fun K55 hK55 => ⟨fun hb56 => ?_, fun hb56 => ?_⟩
       ·have hb56R := hb56; (try simp only [z1, z2, z3, z4, z5, z6, ne_eq, z7, z8, z9, z10, z11, z12] at hb56); (try (have hlen := wantR_len (ws := ws) (ps := ps) hb56))
        obtain ⟨f, rfl⟩ : ∃ g, f = g + 1 := ⟨f - 1, by omega⟩
        have hpos : 0 < left := hb56
        have hs1 : 1 ≤ (if (decide (0 < x.mass)) = true then (most / x.mass) else w.count) := hso.2.2.2 (by omega)
        have hs2 : (if (decide (0 < x.mass)) = true then (most / x.mass) else w.count) ≤ 100000000 := hso.2.1
        have hprod := prod_ok (size := (if (decide (0 < x.mass)) = true then (most / x.mass) else w.count)) hpos hs1 hpx.2.2.2.1 hso.2.2.1
        refine pwp_skip ?_
        refine seq_norm (hK55 _ ?_); clear hK55 K55
        refine pwp_seq_block fun K57 hK57 => ?_
        refine pwp_seq_seq ?_
        refine pwp_seq_plain rfl fun K58 hK58 => ?_
        refine p_step rfl (e_move (v := _) rfl) trivial ?_
        refine p_step rfl (SliceAt.len hihj53_0 rfl (by kernel_rfl)) trivial ?_
        refine p_step rfl (e_eq rfl rfl) trivial ?_
        refine p_end (hK58 _ ?_); clear hK58 K58
        refine pwp_seq_cond rfl fun K59 hK59 => ⟨fun hb60 => ?_, fun hb60 => ?_⟩
        ·have hb60R := hb60; (try simp only [z1, z2, z3, z4, z5, z6, ne_eq, z7, z8, z9, z10, z11, z12] at hb60); (try (have hlen := wantR_len (ws := ws) (ps := ps) hb60))
         refine pwp_seq_plain rfl fun K61 hK61 => ?_
         refine p_step rfl (e_assign (v := .nil) rfl) trivial ?_
         refine p_step rfl (e_assign (v := .sc _) rfl) trivial ?_
         refine p_end (hK61 _ ?_); clear hK61 K61
         refine pwp_ret ?_
         refine ret_seq ?_
         refine ret_block ?_
         refine ret_seq ?_
         refine ret_loop ?_
         refine ret_block ?_
         refine ret_block ?_
         refine ret_seq ?_
         refine ret_loop ?_
         refine ret_block ?_
         refine ret_seq ?_
         refine end2 (v := .nil) (w := .sc _) rfl rfl ?_
         first
           | exact br_out0 (br_1 (by assumption))
           | exact br_out0 (br_2 (by assumption) (by omega))
           | exact br_out0 (br_3 (by assumption) (by omega) (hv_t hinv (by omega) (by omega)))
           | exact br_out0 (br_4 (by assumption) (by omega) hhv (by rw [hinv, bun_1 hpos (by omega)]; rfl))
           | exact br_out (br_4 (by assumption) (by omega) hhv hinv) hihj53_0
        ·have hb60R := hb60; (try simp only [z1, z2, z3, z4, z5, z6, ne_eq, z7, z8, z9, z10, z11, z12] at hb60); (try (have hlen := wantR_len (ws := ws) (ps := ps) hb60))
         refine pwp_skip ?_
         refine seq_norm (hK59 _ ?_); clear hK59 K59
         refine pwp_gops rfl fun K62 hK62 => ?_
         refine s_begin ?_
         refine s_step [] (by simp) rfl rfl rfl rfl (e_move (v := _) rfl) trivial ?_
         refine s_step [] (by simp) rfl rfl rfl rfl (e_faP (pl := [(0, 1, false), (1, 1, false), (2, 1, false), (3, 1, false), (4, 1, false), (5, 2, true)]) rfl (by kernel_rfl) (by kernel_rfl) (by decide) rfl) trivial ?_
         refine s_step [14] (by simp) rfl rfl rfl rfl (e_loadH (v := .sc _) rfl hihj53_1 (by kernel_rfl) (by kernel_rfl) (by kernel_rfl) (by exact Nat.zero_lt_one) (by decide) rfl) trivial ?_
         refine s_step [] (by simp) rfl rfl rfl rfl (e_move (v := .sc _) rfl) trivial ?_
         refine s_step [] (by simp) rfl rfl rfl rfl (e_move (v := .sc _) rfl) trivial ?_
         refine s_step [] (by simp) rfl rfl rfl rfl (e_min rfl rfl) trivial ?_
         refine s_step [] (by simp) rfl rfl rfl rfl (e_faP (pl := [(0, 1, false), (1, 1, false), (2, 1, false), (3, 1, false), (4, 1, false), (5, 2, true)]) rfl (by kernel_rfl) (by kernel_rfl) (by decide) rfl) trivial ?_
         refine s_step [14] (by simp) rfl rfl rfl rfl (e_loadH (v := .sc _) rfl hihj53_1 (by kernel_rfl) (by kernel_rfl) (by kernel_rfl) (by exact Nat.zero_lt_one) (by decide) rfl) trivial ?_
         refine s_step [] (by simp) rfl rfl rfl rfl (e_mul rfl rfl (by first | omega | (simp only [List.length_map]; omega))) trivial ?_
         refine s_step [] (by simp) rfl rfl rfl rfl (e_faP (pl := [(0, 1, false), (1, 1, false), (2, 1, false), (3, 1, false), (4, 1, false), (5, 2, true)]) rfl (by kernel_rfl) (by kernel_rfl) (by decide) rfl) trivial ?_
         refine s_step [14] (by simp) rfl rfl rfl rfl (e_loadH (v := .sc _) rfl hihj53_1 (by kernel_rfl) (by kernel_rfl) (by kernel_rfl) (by exact Nat.zero_lt_one) (by decide) rfl) trivial ?_
         refine s_call (args := [.sc _]) [] (by intro k hk; simp [keysOf, Go.Pv.keyOf] at hk; try (subst hk; simp)) rfl rfl rfl rfl (.cons inn_sc .nil) (length _ (by omega)) ?_
         refine s_step [] (by simp) rfl rfl rfl rfl (e_build (zs := [.str ByteArray.empty, .int 0, .int 0]) (pl := [(0, 1, false), (1, 1, false), (2, 1, false)]) (by kernel_rfl) (by kernel_rfl) (by kernel_rfl) rfl rfl (by exact ⟨by decide, rfl, Nat.le_of_ble_eq_true rfl, rfl, ⟨by decide, rfl, Nat.le_of_ble_eq_true rfl, rfl, ⟨by decide, rfl, Nat.le_of_ble_eq_true rfl, rfl, trivial⟩⟩⟩) rfl) trivial ?_
         refine s_new [] (by simp) rfl rfl rfl rfl (e_bslice (rows := [Item.enc ⟨x.name, (min left (if (decide (0 < x.mass)) = true then (most / x.mass) else w.count)) * x.mass, lenY x.square⟩]) (zs := [.str ByteArray.empty, .int 0, .int 0]) (sz := 3) (by kernel_rfl) (by kernel_rfl) rfl (by kernel_rfl) (by decide) rfl rfl (by exact ⟨by decide, rfl, rfl, trivial⟩) rfl) trivial ?_
         refine s_app [95, 94] [95, 95] (by simp) (by simp) (by simp) rfl rfl rfl (hihj53_0.keep fun _ => (hset_ne (key_ne rfl)).trans (rfl)) (SrcAt.ref (hset_self _ _ _) rfl) rfl (by kernel_rfl) (by simp only [List.length_append, List.length_map, List.length_nil, List.length_cons]; omega) fun v63 h64 c65 hs66 hf67 => ?_
         have ho68 := (hf67 (14, _) (key_ne rfl) (fun _ _ => key_ne rfl)).trans ((hset_ne (key_ne rfl)).trans hihj53_1)
         have ho69 := (hf67 (94, _) (key_ne rfl) (fun _ _ => key_ne rfl)).trans (hset_self _ _ _)
         refine s_step [] (by simp) rfl rfl rfl rfl (e_assign (v := _) rfl) trivial ?_
         refine s_end (ds := []) (by kernel_rfl) (by kernel_rfl) (hK62 _ ?_); clear hK62 K62
         refine block_norm ?_
         refine seq_norm (hK57 _ ?_); clear hK57 K57
         refine pwp_plain rfl fun K70 hK70 => ?_
         refine p_step rfl (e_move (v := .sc _) rfl) trivial ?_
         refine p_step rfl (e_move (v := .sc _) rfl) trivial ?_
         refine p_step rfl (e_sub rfl rfl (by first | omega | (simp only [List.length_map]; omega))) trivial ?_
         refine p_step rfl (e_assign (v := .sc _) rfl) trivial ?_
         refine p_end (hK70 _ ?_); clear hK70 K70
         rw [bun_2 hpos (by omega)] at hinv
         exact loop_again (((left - (if (decide ((0) < x.mass)) = true then (most / x.mass) else w.count)), f, acc ++ [itemB x (min left (if (decide (0 < x.mass)) = true then (most / x.mass) else w.count))], v63)) (by show _ < _; simp only; omega) ⟨rfl, rfl, rfl, rfl, rfl, rfl, rfl, trivial⟩ ⟨rfl, rfl, trivial⟩ (by exact ⟨by show left - (if (decide (0 < x.mass)) = true then (most / x.mass) else w.count) ≤ (f : Int) ∧ left - (if (decide (0 < x.mass)) = true then (most / x.mass) else w.count) ≤ w.count ∧ -100000000 ≤ left - (if (decide (0 < x.mass)) = true then (most / x.mass) else w.count); omega, by exact hinv, by show (acc ++ [_]).length ≤ 200; simp only [List.length_append, List.length_cons, List.length_nil]; omega, (SliceAt.to hs66 (by (simp only [List.map_append, List.map_cons, List.map_nil]; rfl))), ho68⟩)
       ·have hb56R := hb56; (try simp only [z1, z2, z3, z4, z5, z6, ne_eq, z7, z8, z9, z10, z11, z12] at hb56); (try (have hlen := wantR_len (ws := ws) (ps := ps) hb56))
        rw [bun_0 (by omega)] at hinv; simp only [bunK, if_true] at hinv
        refine pwp_exit ?_
        refine exit_seq ?_
        clear hK55 K55
        refine exit_loop ?_
        refine exit_here ?_
        refine block_norm ?_
        refine seq_norm (hK40 _ ?_); clear hK40 K40
        refine pwp_plain rfl fun K71 hK71 => ?_
        refine p_step rfl (e_add rfl rfl (by first | omega | (simp only [List.length_map]; omega))) trivial ?_
        refine p_step rfl (e_move (v := .sc _) rfl) trivial ?_
        refine p_end (hK71 _ ?_); clear hK71 K71
        exact loop_again ((k + 1, acc, _)) (by show _ < _; simp only; omega) ⟨rfl, rfl, rfl, rfl, trivial⟩ ⟨rfl, rfl, trivial⟩ (by exact ⟨by show _ + 1 ≤ _; omega, by exact hinv, by exact hal, (SliceAt.to hihj53_0 (by simp))⟩)
     ·have hb39R := hb39; (try simp only [z1, z2, z3, z4, z5, z6, ne_eq, z7, z8, z9, z10, z11, z12] at hb39); (try (have hlen := wantR_len (ws := ws) (ps := ps) hb39))
      obtain rfl : k = ws.length := by omega
      rw [List.drop_length] at hinv; simp only [bunG] at hinv
      refine pwp_exit ?_
      refine exit_seq ?_
      clear hK38 K38
      refine exit_loop ?_
      refine exit_here ?_
      refine seq_norm (hK31 _ ?_); clear hK31 K31
      refine pwp_seq_plain rfl fun K72 hK72 => ?_
      refine p_step rfl (e_move (v := _) rfl) trivial ?_
      refine p_step rfl (e_assign (v := _) rfl) trivial ?_
      refine p_step rfl (e_assign (v := .sc _) rfl) trivial ?_
      refine p_end (hK72 _ ?_); clear hK72 K72
      refine pwp_ret ?_
      refine end2 (v := _) (w := .sc _) rfl rfl ?_
      first
        | exact br_out0 (br_1 (by assumption))
        | exact br_out0 (br_2 (by assumption) (by omega))
        | exact br_out0 (br_3 (by assumption) (by omega) (hv_t hinv (by omega) (by omega)))
        | exact br_out0 (br_4 (by assumption) (by omega) hhv (by rw [hinv, bun_1 hpos (by omega)]; rfl))
        | exact br_out (br_4 (by assumption) (by omega) hhv hinv) hihj36_0

end Go.Proofs.Ytigdmkhdmbbfiaa
