/- Items, lorries and loads. No conditions. -/
import Derived.Test.YtigdmkhdmbbfiaaLwA
import Derived.Test.YtigdmkhdmbbfiaaPvGh
set_option linter.unusedSimpArgs false
set_option linter.unusedVariables false
set_option maxRecDepth 100000
namespace Go.Proofs.Ytigdmkhdmbbfiaa
open Go Go.Pv

/-! ### Items and lorries -/
def badI (x : Item) : Prop := ¬ (0 ≤ x.mass ∧ x.mass ≤ 100000000) ∨ ¬ (0 ≤ x.length ∧ x.length ≤ 100000000)
instance (x : Item) : Decidable (badI x) := inferInstanceAs (Decidable (_ ∨ _))
def badL (x : Lorry) : Prop := ¬ (1 ≤ x.mass ∧ x.mass ≤ 100000000) ∨ ¬ (0 ≤ x.length ∧ x.length ≤ 100000000)
instance (x : Lorry) : Decidable (badL x) := inferInstanceAs (Decidable (_ ∨ _))
def goI : List Item → Int
 | [] => 0
 | x :: l => if isNm x.name = false then 4 else if badI x then 2 else goI l
/-- The error of items and a lorry, or 0. -/
def itemsE (its : List Item) (x : Lorry) : Int := if 200 < its.length then 8 else if goI its ≠ 0 then goI its else if badL x then 2 else 0
theorem ie_8 {its : List Item} {x : Lorry} (h : 200 < its.length) : (8 : Int) = itemsE its x := (if_pos h).symm
theorem ie_g {its : List Item} {x : Lorry} {z : Int} (h : its.length ≤ 200) (hg : goI its = z) (hz : z ≠ 0) : z = itemsE its x := by rw [itemsE, if_neg (by omega), hg, if_pos hz]
theorem ie_2 {its : List Item} {x : Lorry} (h : its.length ≤ 200) (hg : goI its = 0) (hb : badL x) : (2 : Int) = itemsE its x := by rw [itemsE, if_neg (by omega), hg, if_neg (by simp), if_pos hb]
theorem ie_0 {its : List Item} {x : Lorry} (h : its.length ≤ 200) (hg : goI its = 0) (hb : ¬ badL x) : (0 : Int) = itemsE its x := by rw [itemsE, if_neg (by omega), hg, if_neg (by simp), if_neg hb]
theorem goI_ok : ∀ {l : List Item}, goI l = 0 → ∀ x ∈ l, ¬ badI x
 | [], _, x, hx => by simp at hx
 | y :: l, h, x, hx => by
   unfold goI at h
   split at h
   · cases h
   · split at h
     · cases h
     · rename_i h2
       rcases List.mem_cons.1 hx with rfl | hx
       · exact h2
       · exact goI_ok h x hx
theorem itemsE_ok {its : List Item} {x : Lorry} (h : itemsE its x = 0) : its.length ≤ 200 ∧ (∀ y ∈ its, (0 ≤ y.mass ∧ y.mass ≤ 100000000) ∧ 0 ≤ y.length ∧ y.length ≤ 100000000) ∧ (1 ≤ x.mass ∧ x.mass ≤ 100000000) ∧ 0 ≤ x.length ∧ x.length ≤ 100000000 := by
 unfold itemsE at h
 split at h
 · cases h
 · rename_i h1
   split at h
   · rename_i h2; exact absurd h h2
   · rename_i h2
     split at h
     · cases h
     · rename_i h3
       refine ⟨by omega, fun y hy => ?_, ?_⟩
       · have := goI_ok (by simpa using h2) y hy
         unfold badI at this; omega
       · unfold badL at h3; omega
theorem isz {ps : List Item} (hs : ∀ x ∈ ps, x.name.size ≤ 30) {i : Nat} {x : Item} (hx : ps[i]? = some x) : x.name.size ≤ 30 := hs x (List.mem_of_getElem? hx)
/-! ### Loads -/
theorem all_snoc {α : Type} {Q : α → Prop} {l r : List α} {x : α} (he : r = l ++ [x]) (h : ∀ y ∈ l, Q y) (hx : Q x) : ∀ y ∈ r, Q y := by
 subst he
 intro y hy
 rcases List.mem_append.1 hy with hy | hy
 · exact h y hy
 · simp only [List.mem_singleton] at hy; subst hy; exact hx

/-- One load: the first error, or 0 with the mass. -/
def goL (its : List Item) (x : Lorry) (dn : List Bool) : Int → Int → List Int → Int × Int
 | _, s, [] => (0, s)
 | p, s, n :: l => if ¬ (0 ≤ n ∧ n ≤ (its.length : Int) - 1) then (6, 0) else if n ≤ p then (10, 0) else if dn.getD n.toNat false = true then (5, 0) else if x.length < (its.getD n.toNat default).length then (18, 0) else goL its x dn n (s + (its.getD n.toNat default).mass) l
def setD (dn : List Bool) : List Int → List Bool
 | [] => dn
 | n :: l => setD (dn.set n.toNat true) l
def loadK (x : Lorry) (r : Int × Int) (k : Int × List Bool) : Int × List Bool := if r.1 ≠ 0 then (r.1, []) else if x.mass < r.2 then (18, []) else k
def goD (its : List Item) (x : Lorry) (dn : List Bool) : List (List Int) → Int × List Bool
 | [] => (0, dn)
 | l :: ls => if l.length = 0 then (9, []) else loadK x (goL its x dn (-1) 0 l) (goD its x (setD dn l) ls)
def loadsR (its : List Item) (x : Lorry) (ls : List (List Int)) : Int × List Bool := goD its x (List.replicate its.length false) ls
/-- The error of loads, or 0. -/
def loadsE (its : List Item) (x : Lorry) (ls : List (List Int)) : Int := if itemsE its x ≠ 0 then itemsE its x else if its.length < ls.length then 11 else if (loadsR its x ls).1 ≠ 0 then (loadsR its x ls).1 else if false ∈ (loadsR its x ls).2 then 25 else 0
theorem le_1 {its : List Item} {x : Lorry} {ls : List (List Int)} (h : ¬ itemsE its x = 0) : itemsE its x = loadsE its x ls := by rw [loadsE, if_pos h]
theorem le_2 {its : List Item} {x : Lorry} {ls : List (List Int)} (h : itemsE its x = 0) (h2 : its.length < ls.length) : (11 : Int) = loadsE its x ls := by rw [loadsE, if_neg (by simpa using h), if_pos h2]
theorem le_3 {its : List Item} {x : Lorry} {ls : List (List Int)} {z : Int} {q : List Bool} (h : itemsE its x = 0) (h2 : ls.length ≤ its.length) (h3 : loadsR its x ls = (z, q)) (hz : z ≠ 0) : z = loadsE its x ls := by rw [loadsE, if_neg (by simpa using h), if_neg (by omega), h3, if_pos hz]
theorem le_4 {its : List Item} {x : Lorry} {ls : List (List Int)} {q : List Bool} (h : itemsE its x = 0) (h2 : ls.length ≤ its.length) (h3 : loadsR its x ls = (0, q)) (hq : false ∈ q) : (25 : Int) = loadsE its x ls := by rw [loadsE, if_neg (by simpa using h), if_neg (by omega), h3, if_neg (by simp), if_pos hq]
theorem le_5 {its : List Item} {x : Lorry} {ls : List (List Int)} {q : List Bool} (h : itemsE its x = 0) (h2 : ls.length ≤ its.length) (h3 : loadsR its x ls = (0, q)) (hq : ¬ false ∈ q) : (0 : Int) = loadsE its x ls := by rw [loadsE, if_neg (by simpa using h), if_neg (by omega), h3, if_neg (by simp), if_neg hq]
theorem setD_len : ∀ (l : List Int) (dn : List Bool), (setD dn l).length = dn.length
 | [], _ => rfl
 | n :: l, dn => by rw [setD, setD_len l, List.length_set]
theorem setD_app : ∀ (l r : List Int) (dn : List Bool), setD dn (l ++ r) = setD (setD dn l) r
 | [], _, _ => rfl
 | n :: l, r, dn => by simp only [List.cons_append, setD]; exact setD_app l r _
theorem setD_get {i : Nat} : ∀ (l : List Int) (dn : List Bool), (∀ n ∈ l, n.toNat ≠ i) → (setD dn l)[i]? = dn[i]?
 | [], _, _ => rfl
 | n :: l, dn, h => by
   rw [setD, setD_get l _ fun m hm => h m (List.mem_cons_of_mem _ hm), List.getElem?_set_ne (h n List.mem_cons_self)]
theorem ix_at {α : Type} {l : List α} {n : Int} (h : 0 ≤ n ∧ n ≤ (l.length : Int) - 1) : ∃ y, l[n.toNat]? = some y := ⟨_, List.getElem?_eq_getElem (by omega)⟩
theorem getD_at {α : Type} {l : List α} {i : Nat} {y d : α} (h : l[i]? = some y) : l.getD i d = y := by rw [List.getD_eq_getElem?_getD, h]; rfl
/-- The number ahead of place j, or -1. -/
def Prev (l : List Int) (j : Nat) (p : Int) : Prop := (j = 0 ∧ p = -1) ∨ (0 < j ∧ l[j - 1]? = some p)
theorem Prev.at {l : List Int} {j : Nat} {p : Int} (h : Prev l j p) (hj : (0 : Int) < (j : Int)) : l[((j : Int) - (1)).toNat]? = some p := by
 rcases h with ⟨h, _⟩ | ⟨_, h⟩
 · omega
 · rw [show ((j : Int) - (1)).toNat = j - 1 by omega]; exact h
theorem Prev.next {l : List Int} {j : Nat} {n : Int} (h : l[j]? = some n) : Prev l (j + 1) n := .inr ⟨by omega, h⟩
theorem Prev.zero {l : List Int} : Prev l 0 (-1) := .inl ⟨rfl, rfl⟩
/-! ### Few items and loads -/
def lightB (its : List Item) (ls : List (List Int)) : Bool := decide (its.length ≤ 220 ∧ ls.length ≤ 230 ∧ (∀ x ∈ its, x.name.size ≤ 30) ∧ ∀ l ∈ ls, l.length ≤ 30)
theorem light_len {its : List Item} {ls : List (List Int)} (h : 220 < its.length ∨ 230 < ls.length) : false = lightB its ls := by
 symm; simp only [lightB, decide_eq_false_iff_not]; rintro ⟨h1, h2, _⟩; omega
theorem light_i {its : List Item} {ls : List (List Int)} {k : Nat} {x : Item} (hx : its[k]? = some x) (h : 30 < x.name.size) : false = lightB its ls := by
 symm; simp only [lightB, decide_eq_false_iff_not]; rintro ⟨_, _, h3, _⟩; have := h3 x (List.mem_of_getElem? hx); omega
theorem light_l {its : List Item} {ls : List (List Int)} {k : Nat} {l : List Int} (hx : ls[k]? = some l) (h : 30 < l.length) : false = lightB its ls := by
 symm; simp only [lightB, decide_eq_false_iff_not]; rintro ⟨_, _, _, h3⟩; have := h3 l (List.mem_of_getElem? hx); omega
theorem light_ok {its : List Item} {ls : List (List Int)} (h1 : its.length ≤ 220) (h2 : ls.length ≤ 230) (h3 : ∀ x ∈ its.take its.length, x.name.size ≤ 30) (h4 : ∀ l ∈ ls.take ls.length, l.length ≤ 30) : true = lightB its ls := by
 rw [List.take_length] at h3 h4
 symm; simp only [lightB, decide_eq_true_eq]; exact ⟨h1, h2, h3, h4⟩
theorem lightB_iff {its : List Item} {ls : List (List Int)} (h : lightB its ls = true) : its.length ≤ 220 ∧ ls.length ≤ 230 ∧ (∀ x ∈ its, x.name.size ≤ 30) ∧ ∀ l ∈ ls, l.length ≤ 30 := by simpa only [lightB, decide_eq_true_eq] using h
/-! ### Lorries -/
def sumM : Int → List Item → Int
 | s, [] => s
 | s, x :: l => sumM (s + x.mass) l
def lorN (its : List Item) (x : Lorry) : Int := max ((sumM 0 its + x.mass - 1) / x.mass) (min 1 (its.length : Int))
def lorW (its : List Item) (x : Lorry) : Int := if itemsE its x = 0 then lorN its x else 0
theorem lorW_1 {its : List Item} {x : Lorry} (h : ¬ itemsE its x = 0) : (0 : Int) = lorW its x := (if_neg h).symm
theorem lorW_2 {its : List Item} {x : Lorry} {z : Int} (h : itemsE its x = 0) (hz : z = lorN its x) : z = lorW its x := by rw [lorW, if_pos h, hz]
theorem loadK_ok {x : Lorry} {s : Int} {k : Int × List Bool} (h : ¬ x.mass < s) : loadK x (0, s) k = k := by rw [loadK, if_neg (by simp), if_neg h]
theorem loadK_big {x : Lorry} {s : Int} {k : Int × List Bool} (h : x.mass < s) : loadK x (0, s) k = (18, []) := by rw [loadK, if_neg (by simp), if_pos h]
theorem loadK_err {x : Lorry} {z s : Int} {k : Int × List Bool} (h : z ≠ 0) : loadK x (z, s) k = (z, []) := by rw [loadK, if_pos h]
theorem mem_f {dn : List Bool} {i : Nat} {b : Bool} (h : dn[i]? = some b) (hb : b = false) : false ∈ dn := by subst hb; exact List.mem_of_getElem? h
/-- The place of a truth value, told on from k; or -1. -/
def ixB (b : Bool) : List Bool → Int → Int
 | [], _ => -1
 | y :: l, k => if b = y then k else ixB b l (k + 1)
theorem ixB_mem (b : Bool) : ∀ (l : List Bool) (k : Int), 0 ≤ k → decide (0 ≤ ixB b l k) = decide (b ∈ l)
 | [], k, _ => by simp [ixB]
 | y :: l, k, hk => by
   unfold ixB
   by_cases h : b = y
   · rw [if_pos h]; simp [h, hk]
   · rw [if_neg h, ixB_mem b l (k + 1) (by omega)]; simp [h]
theorem nb {b : Bool} (h : b = false) : ¬ b = true := by simp [h]

theorem fr71 : (inFrame Try.f71.ntmps (Try.f71.body.getD .skip) && Try.f71.results.toList.all (resScope Try.f71.ntmps)) = true := by kernel_rfl
theorem checkItems (its : List Item) (x : Lorry) (hl : its.length ≤ 220) (hs : ∀ x ∈ its, x.name.size ≤ 30) : PCalls Try.prog 71 [.lit true 3 (its.map Item.enc), .agg x.enc] (.int (itemsE its x)) := by
 refine PCalls.of_code Try.func71 rfl rfl (by kernel_rfl) mixed fr71 (by show _ ≤ 43; simp) (.sc _) ?_
 refine pwp_seq_plain rfl fun K1 hK1 => ?_
 refine p_new rfl (e_box (n := 2) rfl rfl) ⟨rfl, by decide⟩ ?_
 refine p_step rfl (e_assign (v := .sc _) rfl) trivial ?_
 refine p_end (hK1 _ ?_); clear hK1 K1
 refine pwp_seq_seq ?_
 refine pwp_seq_plain rfl fun K2 hK2 => ?_
 refine p_step rfl (e_move (v := .lit _ _ _) rfl) trivial ?_
 refine p_step rfl (e_len rfl (by kernel_rfl)) trivial ?_
 refine p_step rfl (e_gt rfl rfl) trivial ?_
 refine p_end (hK2 _ ?_); clear hK2 K2
 refine pwp_seq_cond rfl fun K3 hK3 => ⟨fun hb4 => ?_, fun hb4 => ?_⟩
 ·have hb4R := hb4; try simp only [z1, z2, z3, z4, z5, z6, ne_eq, z7, z8, z9, z10, z11, z12] at hb4
  refine pwp_seq_plain rfl fun K5 hK5 => ?_
  refine p_step rfl (e_assign (v := .sc _) rfl) trivial ?_
  refine p_end (hK5 _ ?_); clear hK5 K5
  refine pwp_ret ?_
  refine ret_seq ?_
  refine end1 (v := .sc _) rfl ?_
  first
    | exact out_i (ie_8 (by omega))
    | exact out_i (ie_g (by omega) (by rw [hinv, if_pos (by assumption)]) (by decide))
    | exact out_i (ie_g (by omega) (by rw [hinv, if_neg (by rw [Bool.not_eq_false]; assumption), if_pos (by unfold badI; omega)]) (by decide))
    | exact out_i (ie_2 (by omega) hinv (by unfold badL; omega))
    | exact out_i (ie_0 (by omega) hinv (by unfold badL; omega))
 ·have hb4R := hb4; try simp only [z1, z2, z3, z4, z5, z6, ne_eq, z7, z8, z9, z10, z11, z12] at hb4
  refine pwp_skip ?_
  refine seq_norm (hK3 _ ?_); clear hK3 K3
  refine pwp_seq_seq ?_
  refine pwp_seq_plain rfl fun K6 hK6 => ?_
  refine p_step rfl (e_move (v := .lit _ _ _) rfl) trivial ?_
  refine p_step rfl (e_len rfl (by kernel_rfl)) trivial ?_
  refine p_step rfl (e_move (v := .sc _) rfl) trivial ?_
  refine p_end (hK6 _ ?_); clear hK6 K6
  refine pwp_seq_block fun K7 hK7 => ?_
  refine pwp_loopR (α := Nat) [3, 10, 11] (fun (k : Nat) => [(12, .int (k))]) (fun (k : Nat) (h : Heap) (_ : Nat → Nat) => ((k) ≤ its.length) ∧ (goI its = goI (its.drop (k))) ∧ (h (3, 0) = some (.rows 2 [Lorry.enc x]))) (fun (k : Nat) => its.length - (k)) (0) (by exact ⟨rfl, trivial⟩) (by exact ⟨by exact Nat.zero_le _, by exact rfl, (hset_self _ _ _)⟩) fun k r8 h9 c10 hj11 => ?_
  obtain ⟨hk, hinv, hihj11_0⟩ := hj11
  try dsimp only at hk
  try dsimp only at hinv
  try dsimp only at hihj11_0
  show pwp _ _ (loopQ _ _ _) ⟨sets (mix _ _ _) [(12, .int k)], _, _⟩
  refine pwp_seq_plain rfl fun K12 hK12 => ?_
  refine p_step rfl (e_lt rfl rfl) trivial ?_
  refine p_end (hK12 _ ?_); clear hK12 K12
  refine pwp_seq_cond rfl fun K13 hK13 => ⟨fun hb14 => ?_, fun hb14 => ?_⟩
  ·have hb14R := hb14; try simp only [z1, z2, z3, z4, z5, z6, ne_eq, z7, z8, z9, z10, z11, z12] at hb14
   obtain ⟨y, hy, hd, ht⟩ := get_lt (xs := its) (i := k) (by omega)
   rw [hd] at hinv; simp only [goI] at hinv
   have hsz := isz hs hy
   refine pwp_skip ?_
   refine seq_norm (hK13 _ ?_); clear hK13 K13
   refine pwp_seq_block fun K15 hK15 => ?_
   refine pwp_seq_plain rfl fun K16 hK16 => ?_
   refine p_step rfl (e_ixa rfl rfl (by kernel_rfl) (by kernel_rfl) (by simp only [List.length_map]; omega)) trivial ?_
   refine p_step rfl (e_loadA (n := 3) rfl (by kernel_rfl) (by kernel_rfl) (by kernel_rfl) (by simp only [List.length_map]; omega) (by decide) (by first | exact agg_map hy rfl)) trivial ?_
   refine p_new rfl (e_alloc (cs := [.str ByteArray.empty, .int 0, .int 0]) (n := 3) (by kernel_rfl) rfl (by decide)) (ob_alloc (by decide)) ?_
   refine p_store rfl (e_storeA rfl (hset_self _ _ _) rfl rfl rfl (by kernel_rfl) rfl (by kernel_rfl)) trivial ?_
   refine p_end (hK16 _ ?_); clear hK16 K16
   refine pwp_block ?_
   refine pwp_seq_plain rfl fun K17 hK17 => ?_
   refine p_step rfl (e_faP (pl := [(0, 1, false), (1, 1, false), (2, 1, false)]) rfl (by kernel_rfl) (by kernel_rfl) (by decide) rfl) trivial ?_
   refine p_step rfl (e_loadH (v := .sc _) rfl (hset_self _ _ _) (by kernel_rfl) (by kernel_rfl) (by kernel_rfl) (by exact Nat.zero_lt_one) (by decide) rfl) trivial ?_
   refine p_call rfl (.cons inn_sc .nil) (isName _ (by omega)) ?_
   refine p_step rfl (e_not rfl) trivial ?_
   refine p_step rfl (e_assign (v := .sc _) rfl) trivial ?_
   refine p_end (hK17 _ ?_); clear hK17 K17
   refine pwp_cond rfl (fun hb18 => ?_) (fun hb18 => ?_)
   ·have hb18R := hb18; try simp only [z1, z2, z3, z4, z5, z6, ne_eq, z7, z8, z9, z10, z11, z12] at hb18
    refine pwp_seq_plain rfl fun K19 hK19 => ?_
    refine p_step rfl (e_assign (v := .sc _) rfl) trivial ?_
    refine p_end (hK19 _ ?_); clear hK19 K19
    refine pwp_ret ?_
    refine ret_block ?_
    refine ret_block ?_
    refine ret_seq ?_
    refine ret_loop ?_
    refine ret_block ?_
    refine ret_seq ?_
    refine end1 (v := .sc _) rfl ?_
    first
      | exact out_i (ie_8 (by omega))
      | exact out_i (ie_g (by omega) (by rw [hinv, if_pos (by assumption)]) (by decide))
      | exact out_i (ie_g (by omega) (by rw [hinv, if_neg (by rw [Bool.not_eq_false]; assumption), if_pos (by unfold badI; omega)]) (by decide))
      | exact out_i (ie_2 (by omega) hinv (by unfold badL; omega))
      | exact out_i (ie_0 (by omega) hinv (by unfold badL; omega))
   ·have hb18R := hb18; try simp only [z1, z2, z3, z4, z5, z6, ne_eq, z7, z8, z9, z10, z11, z12] at hb18
    refine pwp_seq_cutG [3, 10, 11, 12] [(21, .bool ((!(decide ((0) ≤ y.mass ∧ y.mass ≤ (100000000)))) || (!(decide ((0) ≤ y.length ∧ y.length ≤ (100000000))))))] (fun K20 hK20 => ?_) (fun r21 => ?_)
    ·skip
     refine pwp_gops rfl fun K22 hK22 => ?_
     refine g_begin ?_
     refine g_step rfl rfl rfl rfl (e_faP (pl := [(0, 1, false), (1, 1, false), (2, 1, false)]) rfl (by kernel_rfl) (by kernel_rfl) (by decide) rfl) trivial ?_
     refine g_step rfl rfl rfl rfl (e_loadH (v := .sc _) rfl (hset_self _ _ _) (by kernel_rfl) (by kernel_rfl) (by kernel_rfl) (by exact Nat.zero_lt_one) (by decide) rfl) trivial ?_
     refine g_call rfl rfl rfl rfl (.cons inn_sc (.cons inn_sc (.cons inn_sc .nil))) (within _ _ _) ?_
     refine g_step rfl rfl rfl rfl (e_not rfl) trivial ?_
     refine g_step rfl rfl rfl rfl (e_move (v := .sc _) rfl) trivial ?_
     refine g_cases (fun hb23 => ?_) (fun hb23 => ?_)
     ·have hb23R := hb23; try simp only [z1, z2, z3, z4, z5, z6, ne_eq, z7, z8, z9, z10, z11, z12] at hb23
      refine g_skip rfl rfl rfl ?_
      refine g_skip rfl rfl rfl ?_
      refine g_nocall rfl rfl rfl ?_
      refine g_skip rfl rfl rfl ?_
      refine g_step rfl rfl rfl rfl (e_pickT (v := .sc _) rfl rfl) trivial ?_
      refine g_step rfl rfl rfl rfl (e_assign (v := .sc _) rfl) trivial ?_
      refine g_end (ds := [27, 28, 29, 30]) rfl rfl (hK22 _ ?_); clear hK22 K22
      exact seq_norm (hK20 _ ⟨rfl, rfl, rfl, rfl, trivial⟩ ⟨(congrArg PV.bool (show (true : Bool) = ((!(decide ((0) ≤ y.mass ∧ y.mass ≤ (100000000)))) || (!(decide ((0) ≤ y.length ∧ y.length ≤ (100000000))))) by first | rfl | ((try rw [hb23R]) <;> (first | rfl | (simp only [Bool.and_true, Bool.and_false, Bool.true_and, Bool.false_and, Bool.or_true, Bool.or_false, Bool.true_or, Bool.false_or, Bool.not_true, Bool.not_false, if_true, if_false, Bool.false_eq_true, reduceIte] <;> rfl))) | (simp only [hb23R, Bool.and_true, Bool.and_false, Bool.true_and, Bool.false_and, Bool.or_true, Bool.or_false, Bool.true_or, Bool.false_or, Bool.not_true, Bool.not_false, if_true, if_false, Bool.false_eq_true, reduceIte] <;> rfl))), trivial⟩)
     ·have hb23R := hb23; try simp only [z1, z2, z3, z4, z5, z6, ne_eq, z7, z8, z9, z10, z11, z12] at hb23
      refine g_step rfl rfl rfl rfl (e_faP (pl := [(0, 1, false), (1, 1, false), (2, 1, false)]) rfl (by kernel_rfl) (by kernel_rfl) (by decide) rfl) trivial ?_
      refine g_step rfl rfl rfl rfl (e_loadH (v := .sc _) rfl (hset_self _ _ _) (by kernel_rfl) (by kernel_rfl) (by kernel_rfl) (by exact Nat.zero_lt_one) (by decide) rfl) trivial ?_
      refine g_call rfl rfl rfl rfl (.cons inn_sc (.cons inn_sc (.cons inn_sc .nil))) (within _ _ _) ?_
      refine g_step rfl rfl rfl rfl (e_not rfl) trivial ?_
      refine g_step rfl rfl rfl rfl (e_pickF (v := .sc _) rfl rfl) trivial ?_
      refine g_step rfl rfl rfl rfl (e_assign (v := .sc _) rfl) trivial ?_
      refine g_end (ds := [27, 28, 29, 30]) rfl rfl (hK22 _ ?_); clear hK22 K22
      exact seq_norm (hK20 _ ⟨rfl, rfl, rfl, rfl, trivial⟩ ⟨(congrArg PV.bool (show ((!(decide ((0) ≤ y.length ∧ y.length ≤ (100000000)))) : Bool) = ((!(decide ((0) ≤ y.mass ∧ y.mass ≤ (100000000)))) || (!(decide ((0) ≤ y.length ∧ y.length ≤ (100000000))))) by first | rfl | ((try rw [hb23R]) <;> (first | rfl | (simp only [Bool.and_true, Bool.and_false, Bool.true_and, Bool.false_and, Bool.or_true, Bool.or_false, Bool.true_or, Bool.false_or, Bool.not_true, Bool.not_false, if_true, if_false, Bool.false_eq_true, reduceIte] <;> rfl))) | (simp only [hb23R, Bool.and_true, Bool.and_false, Bool.true_and, Bool.false_and, Bool.or_true, Bool.or_false, Bool.true_or, Bool.false_or, Bool.not_true, Bool.not_false, if_true, if_false, Bool.false_eq_true, reduceIte] <;> rfl))), trivial⟩)
    ·skip
     refine pwp_cond rfl (fun hb24 => ?_) (fun hb24 => ?_)
     ·have hb24R := hb24; try simp only [z1, z2, z3, z4, z5, z6, ne_eq, z7, z8, z9, z10, z11, z12] at hb24
      refine pwp_seq_plain rfl fun K25 hK25 => ?_
      refine p_step rfl (e_assign (v := .sc _) rfl) trivial ?_
      refine p_end (hK25 _ ?_); clear hK25 K25
      refine pwp_ret ?_
      refine ret_block ?_
      refine ret_block ?_
      refine ret_seq ?_
      refine ret_loop ?_
      refine ret_block ?_
      refine ret_seq ?_
      refine end1 (v := .sc _) rfl ?_
      first
        | exact out_i (ie_8 (by omega))
        | exact out_i (ie_g (by omega) (by rw [hinv, if_pos (by assumption)]) (by decide))
        | exact out_i (ie_g (by omega) (by rw [hinv, if_neg (by rw [Bool.not_eq_false]; assumption), if_pos (by unfold badI; omega)]) (by decide))
        | exact out_i (ie_2 (by omega) hinv (by unfold badL; omega))
        | exact out_i (ie_0 (by omega) hinv (by unfold badL; omega))
     ·have hb24R := hb24; try simp only [z1, z2, z3, z4, z5, z6, ne_eq, z7, z8, z9, z10, z11, z12] at hb24
      refine pwp_skip ?_
      refine block_norm ?_
      refine block_norm ?_
      refine seq_norm (hK15 _ ?_); clear hK15 K15
      refine pwp_plain rfl fun K26 hK26 => ?_
      refine p_step rfl (e_add rfl rfl (by omega)) trivial ?_
      refine p_step rfl (e_move (v := .sc _) rfl) trivial ?_
      refine p_end (hK26 _ ?_); clear hK26 K26
      rw [if_neg (by rw [Bool.not_eq_false]; assumption), if_neg (by unfold badI; omega)] at hinv
      exact loop_again (k + 1) (by show _ < _; omega) ⟨rfl, rfl, rfl, trivial⟩ ⟨rfl, trivial⟩ (by exact ⟨by show _ + 1 ≤ _; omega, by exact hinv, ((hset_ne (key_ne rfl)).trans ((hset_ne (key_ne rfl)).trans hihj11_0))⟩)
  ·have hb14R := hb14; try simp only [z1, z2, z3, z4, z5, z6, ne_eq, z7, z8, z9, z10, z11, z12] at hb14
   obtain rfl : k = its.length := by omega
   rw [List.drop_length] at hinv; simp only [goI] at hinv
   refine pwp_exit ?_
   refine exit_seq ?_
   clear hK13 K13
   refine exit_loop ?_
   refine exit_here ?_
   refine seq_norm (hK7 _ ?_); clear hK7 K7
   refine pwp_seq_seq ?_
   refine pwp_seq_cutG [] [(42, .bool ((!(decide ((1) ≤ x.mass ∧ x.mass ≤ (100000000)))) || (!(decide ((0) ≤ x.length ∧ x.length ≤ (100000000))))))] (fun K27 hK27 => ?_) (fun r28 => ?_)
   ·skip
    refine pwp_gops rfl fun K29 hK29 => ?_
    refine g_begin ?_
    refine g_step rfl rfl rfl rfl (e_faP (pl := [(0, 1, false), (1, 1, false)]) rfl (by kernel_rfl) (by kernel_rfl) (by decide) rfl) trivial ?_
    refine g_step rfl rfl rfl rfl (e_loadH (v := .sc _) rfl hihj11_0 (by kernel_rfl) (by kernel_rfl) (by kernel_rfl) (by exact Nat.zero_lt_one) (by decide) rfl) trivial ?_
    refine g_call rfl rfl rfl rfl (.cons inn_sc (.cons inn_sc (.cons inn_sc .nil))) (within _ _ _) ?_
    refine g_step rfl rfl rfl rfl (e_not rfl) trivial ?_
    refine g_step rfl rfl rfl rfl (e_move (v := .sc _) rfl) trivial ?_
    refine g_cases (fun hb30 => ?_) (fun hb30 => ?_)
    ·have hb30R := hb30; try simp only [z1, z2, z3, z4, z5, z6, ne_eq, z7, z8, z9, z10, z11, z12] at hb30
     refine g_skip rfl rfl rfl ?_
     refine g_skip rfl rfl rfl ?_
     refine g_nocall rfl rfl rfl ?_
     refine g_skip rfl rfl rfl ?_
     refine g_step rfl rfl rfl rfl (e_pickT (v := .sc _) rfl rfl) trivial ?_
     refine g_end (ds := [38, 39, 40, 41]) rfl rfl (hK29 _ ?_); clear hK29 K29
     exact seq_norm (hK27 _ trivial ⟨(congrArg PV.bool (show (true : Bool) = ((!(decide ((1) ≤ x.mass ∧ x.mass ≤ (100000000)))) || (!(decide ((0) ≤ x.length ∧ x.length ≤ (100000000))))) by first | rfl | ((try rw [hb30R]) <;> (first | rfl | (simp only [Bool.and_true, Bool.and_false, Bool.true_and, Bool.false_and, Bool.or_true, Bool.or_false, Bool.true_or, Bool.false_or, Bool.not_true, Bool.not_false, if_true, if_false, Bool.false_eq_true, reduceIte] <;> rfl))) | (simp only [hb30R, Bool.and_true, Bool.and_false, Bool.true_and, Bool.false_and, Bool.or_true, Bool.or_false, Bool.true_or, Bool.false_or, Bool.not_true, Bool.not_false, if_true, if_false, Bool.false_eq_true, reduceIte] <;> rfl))), trivial⟩)
    ·have hb30R := hb30; try simp only [z1, z2, z3, z4, z5, z6, ne_eq, z7, z8, z9, z10, z11, z12] at hb30
     refine g_step rfl rfl rfl rfl (e_faP (pl := [(0, 1, false), (1, 1, false)]) rfl (by kernel_rfl) (by kernel_rfl) (by decide) rfl) trivial ?_
     refine g_step rfl rfl rfl rfl (e_loadH (v := .sc _) rfl hihj11_0 (by kernel_rfl) (by kernel_rfl) (by kernel_rfl) (by exact Nat.zero_lt_one) (by decide) rfl) trivial ?_
     refine g_call rfl rfl rfl rfl (.cons inn_sc (.cons inn_sc (.cons inn_sc .nil))) (within _ _ _) ?_
     refine g_step rfl rfl rfl rfl (e_not rfl) trivial ?_
     refine g_step rfl rfl rfl rfl (e_pickF (v := .sc _) rfl rfl) trivial ?_
     refine g_end (ds := [38, 39, 40, 41]) rfl rfl (hK29 _ ?_); clear hK29 K29
     exact seq_norm (hK27 _ trivial ⟨(congrArg PV.bool (show ((!(decide ((0) ≤ x.length ∧ x.length ≤ (100000000)))) : Bool) = ((!(decide ((1) ≤ x.mass ∧ x.mass ≤ (100000000)))) || (!(decide ((0) ≤ x.length ∧ x.length ≤ (100000000))))) by first | rfl | ((try rw [hb30R]) <;> (first | rfl | (simp only [Bool.and_true, Bool.and_false, Bool.true_and, Bool.false_and, Bool.or_true, Bool.or_false, Bool.true_or, Bool.false_or, Bool.not_true, Bool.not_false, if_true, if_false, Bool.false_eq_true, reduceIte] <;> rfl))) | (simp only [hb30R, Bool.and_true, Bool.and_false, Bool.true_and, Bool.false_and, Bool.or_true, Bool.or_false, Bool.true_or, Bool.false_or, Bool.not_true, Bool.not_false, if_true, if_false, Bool.false_eq_true, reduceIte] <;> rfl))), trivial⟩)
   ·skip
    refine pwp_seq_cond rfl fun K31 hK31 => ⟨fun hb32 => ?_, fun hb32 => ?_⟩
    ·have hb32R := hb32; try simp only [z1, z2, z3, z4, z5, z6, ne_eq, z7, z8, z9, z10, z11, z12] at hb32
     refine pwp_seq_plain rfl fun K33 hK33 => ?_
     refine p_step rfl (e_assign (v := .sc _) rfl) trivial ?_
     refine p_end (hK33 _ ?_); clear hK33 K33
     refine pwp_ret ?_
     refine ret_seq ?_
     refine end1 (v := .sc _) rfl ?_
     first
       | exact out_i (ie_8 (by omega))
       | exact out_i (ie_g (by omega) (by rw [hinv, if_pos (by assumption)]) (by decide))
       | exact out_i (ie_g (by omega) (by rw [hinv, if_neg (by rw [Bool.not_eq_false]; assumption), if_pos (by unfold badI; omega)]) (by decide))
       | exact out_i (ie_2 (by omega) hinv (by unfold badL; omega))
       | exact out_i (ie_0 (by omega) hinv (by unfold badL; omega))
    ·have hb32R := hb32; try simp only [z1, z2, z3, z4, z5, z6, ne_eq, z7, z8, z9, z10, z11, z12] at hb32
     refine pwp_skip ?_
     refine seq_norm (hK31 _ ?_); clear hK31 K31
     refine pwp_seq_plain rfl fun K34 hK34 => ?_
     refine p_step rfl (e_assign (v := .sc _) rfl) trivial ?_
     refine p_end (hK34 _ ?_); clear hK34 K34
     refine pwp_ret ?_
     refine end1 (v := .sc _) rfl ?_
     first
       | exact out_i (ie_8 (by omega))
       | exact out_i (ie_g (by omega) (by rw [hinv, if_pos (by assumption)]) (by decide))
       | exact out_i (ie_g (by omega) (by rw [hinv, if_neg (by rw [Bool.not_eq_false]; assumption), if_pos (by unfold badI; omega)]) (by decide))
       | exact out_i (ie_2 (by omega) hinv (by unfold badL; omega))
       | exact out_i (ie_0 (by omega) hinv (by unfold badL; omega))

theorem fr32 : (inFrame Try.f32.ntmps (Try.f32.body.getD .skip) && Try.f32.results.toList.all (resScope Try.f32.ntmps)) = true := by kernel_rfl
theorem refItems (its : List Item) (x : Lorry) (hl : its.length ≤ 220) (hs : ∀ x ∈ its, x.name.size ≤ 30) : PCalls Try.prog 32 [.lit true 3 (its.map Item.enc), .agg x.enc] (.int (itemsE its x)) := by
 refine PCalls.of_code Try.func32 rfl rfl (by kernel_rfl) mixed fr32 (by show _ ≤ 48; simp) (.sc _) ?_
 refine pwp_seq_plain rfl fun K1 hK1 => ?_
 refine p_new rfl (e_box (n := 2) rfl rfl) ⟨rfl, by decide⟩ ?_
 refine p_step rfl (e_assign (v := .sc _) rfl) trivial ?_
 refine p_end (hK1 _ ?_); clear hK1 K1
 refine pwp_seq_seq ?_
 refine pwp_seq_plain rfl fun K2 hK2 => ?_
 refine p_step rfl (e_move (v := .lit _ _ _) rfl) trivial ?_
 refine p_step rfl (e_len rfl (by kernel_rfl)) trivial ?_
 refine p_step rfl (e_gt rfl rfl) trivial ?_
 refine p_end (hK2 _ ?_); clear hK2 K2
 refine pwp_seq_cond rfl fun K3 hK3 => ⟨fun hb4 => ?_, fun hb4 => ?_⟩
 ·have hb4R := hb4; try simp only [z1, z2, z3, z4, z5, z6, ne_eq, z7, z8, z9, z10, z11, z12] at hb4
  refine pwp_seq_plain rfl fun K5 hK5 => ?_
  refine p_step rfl (e_assign (v := .sc _) rfl) trivial ?_
  refine p_end (hK5 _ ?_); clear hK5 K5
  refine pwp_ret ?_
  refine ret_seq ?_
  refine end1 (v := .sc _) rfl ?_
  first
    | exact out_i (ie_8 (by omega))
    | exact out_i (ie_g (by omega) (by rw [hinv, if_pos (by assumption)]) (by decide))
    | exact out_i (ie_g (by omega) (by rw [hinv, if_neg (by rw [Bool.not_eq_false]; assumption), if_pos (by unfold badI; omega)]) (by decide))
    | exact out_i (ie_2 (by omega) hinv (by unfold badL; omega))
    | exact out_i (ie_0 (by omega) hinv (by unfold badL; omega))
 ·have hb4R := hb4; try simp only [z1, z2, z3, z4, z5, z6, ne_eq, z7, z8, z9, z10, z11, z12] at hb4
  refine pwp_skip ?_
  refine seq_norm (hK3 _ ?_); clear hK3 K3
  refine pwp_seq_seq ?_
  refine pwp_seq_plain rfl fun K6 hK6 => ?_
  refine p_step rfl (e_assign (v := .sc _) rfl) trivial ?_
  refine p_end (hK6 _ ?_); clear hK6 K6
  refine pwp_seq_block fun K7 hK7 => ?_
  refine pwp_loopR (α := Nat) [0, 3] (fun (k : Nat) => [(5, .int (k))]) (fun (k : Nat) (h : Heap) (_ : Nat → Nat) => ((k) ≤ its.length) ∧ (goI its = goI (its.drop (k))) ∧ (h (3, 0) = some (.rows 2 [Lorry.enc x]))) (fun (k : Nat) => its.length - (k)) (0) (by exact ⟨rfl, trivial⟩) (by exact ⟨by exact Nat.zero_le _, by exact rfl, (hset_self _ _ _)⟩) fun k r8 h9 c10 hj11 => ?_
  obtain ⟨hk, hinv, hihj11_0⟩ := hj11
  try dsimp only at hk
  try dsimp only at hinv
  try dsimp only at hihj11_0
  show pwp _ _ (loopQ _ _ _) ⟨sets (mix _ _ _) [(5, .int k)], _, _⟩
  refine pwp_seq_seq ?_
  refine pwp_seq_plain rfl fun K12 hK12 => ?_
  refine p_step rfl (e_move (v := .sc _) rfl) trivial ?_
  refine p_step rfl (e_move (v := .lit _ _ _) rfl) trivial ?_
  refine p_step rfl (e_len rfl (by kernel_rfl)) trivial ?_
  refine p_step rfl (e_lt rfl rfl) trivial ?_
  refine p_end (hK12 _ ?_); clear hK12 K12
  refine pwp_seq_cond rfl fun K13 hK13 => ⟨fun hb14 => ?_, fun hb14 => ?_⟩
  ·have hb14R := hb14; try simp only [z1, z2, z3, z4, z5, z6, ne_eq, z7, z8, z9, z10, z11, z12] at hb14
   obtain ⟨y, hy, hd, ht⟩ := get_lt (xs := its) (i := k) (by omega)
   rw [hd] at hinv; simp only [goI] at hinv
   have hsz := isz hs hy
   refine pwp_skip ?_
   refine seq_norm (hK13 _ ?_); clear hK13 K13
   refine pwp_seq_block fun K15 hK15 => ?_
   refine pwp_seq_seq ?_
   refine pwp_seq_plain rfl fun K16 hK16 => ?_
   refine p_step rfl (e_move (v := .lit _ _ _) rfl) trivial ?_
   refine p_step rfl (e_move (v := .sc _) rfl) trivial ?_
   refine p_step rfl (e_ixa rfl rfl (by kernel_rfl) (by kernel_rfl) (by simp only [List.length_map]; omega)) trivial ?_
   refine p_step rfl (e_fa (pl := [(0, 1, false), (1, 1, false), (2, 1, false)]) rfl (by kernel_rfl) (by kernel_rfl) (by decide) rfl) trivial ?_
   refine p_step rfl (e_load (v := .sc _) rfl (by kernel_rfl) (by kernel_rfl) (by kernel_rfl) (by simp only [List.length_map]; omega) (by decide) ((cell_map hy _).trans rfl)) trivial ?_
   refine p_call rfl (.cons inn_sc .nil) (IsName _) ?_
   refine p_step rfl (e_not rfl) trivial ?_
   refine p_end (hK16 _ ?_); clear hK16 K16
   refine pwp_seq_cond rfl fun K17 hK17 => ⟨fun hb18 => ?_, fun hb18 => ?_⟩
   ·have hb18R := hb18; try simp only [z1, z2, z3, z4, z5, z6, ne_eq, z7, z8, z9, z10, z11, z12] at hb18
    refine pwp_seq_plain rfl fun K19 hK19 => ?_
    refine p_step rfl (e_assign (v := .sc _) rfl) trivial ?_
    refine p_end (hK19 _ ?_); clear hK19 K19
    refine pwp_ret ?_
    refine ret_seq ?_
    refine ret_block ?_
    refine ret_seq ?_
    refine ret_loop ?_
    refine ret_block ?_
    refine ret_seq ?_
    refine end1 (v := .sc _) rfl ?_
    first
      | exact out_i (ie_8 (by omega))
      | exact out_i (ie_g (by omega) (by rw [hinv, if_pos (by assumption)]) (by decide))
      | exact out_i (ie_g (by omega) (by rw [hinv, if_neg (by rw [Bool.not_eq_false]; assumption), if_pos (by unfold badI; omega)]) (by decide))
      | exact out_i (ie_2 (by omega) hinv (by unfold badL; omega))
      | exact out_i (ie_0 (by omega) hinv (by unfold badL; omega))
   ·have hb18R := hb18; try simp only [z1, z2, z3, z4, z5, z6, ne_eq, z7, z8, z9, z10, z11, z12] at hb18
    refine pwp_skip ?_
    refine seq_norm (hK17 _ ?_); clear hK17 K17
    refine pwp_seq_cutG [0, 3, 5] [(37, .bool ((!(decide ((0) ≤ y.mass ∧ y.mass ≤ (100000000)))) || (!(decide ((0) ≤ y.length ∧ y.length ≤ (100000000))))))] (fun K20 hK20 => ?_) (fun r21 => ?_)
    ·skip
     refine pwp_gops rfl fun K22 hK22 => ?_
     refine g_begin ?_
     refine g_step rfl rfl rfl rfl (e_move (v := .lit _ _ _) rfl) trivial ?_
     refine g_step rfl rfl rfl rfl (e_move (v := .sc _) rfl) trivial ?_
     refine g_step rfl rfl rfl rfl (e_ixa rfl rfl (by kernel_rfl) (by kernel_rfl) (by simp only [List.length_map]; omega)) trivial ?_
     refine g_step rfl rfl rfl rfl (e_fa (pl := [(0, 1, false), (1, 1, false), (2, 1, false)]) rfl (by kernel_rfl) (by kernel_rfl) (by decide) rfl) trivial ?_
     refine g_step rfl rfl rfl rfl (e_load (v := .sc _) rfl (by kernel_rfl) (by kernel_rfl) (by kernel_rfl) (by simp only [List.length_map]; omega) (by decide) ((cell_map hy _).trans rfl)) trivial ?_
     refine g_call rfl rfl rfl rfl (.cons inn_sc (.cons inn_sc (.cons inn_sc .nil))) (Within _ _ _) ?_
     refine g_step rfl rfl rfl rfl (e_not rfl) trivial ?_
     refine g_step rfl rfl rfl rfl (e_move (v := .sc _) rfl) trivial ?_
     refine g_cases (fun hb23 => ?_) (fun hb23 => ?_)
     ·have hb23R := hb23; try simp only [z1, z2, z3, z4, z5, z6, ne_eq, z7, z8, z9, z10, z11, z12] at hb23
      refine g_skip rfl rfl rfl ?_
      refine g_skip rfl rfl rfl ?_
      refine g_skip rfl rfl rfl ?_
      refine g_skip rfl rfl rfl ?_
      refine g_skip rfl rfl rfl ?_
      refine g_nocall rfl rfl rfl ?_
      refine g_skip rfl rfl rfl ?_
      refine g_step rfl rfl rfl rfl (e_pickT (v := .sc _) rfl rfl) trivial ?_
      refine g_end (ds := [30, 31, 32, 33, 34, 35, 36]) rfl rfl (hK22 _ ?_); clear hK22 K22
      exact seq_norm (hK20 _ ⟨rfl, rfl, rfl, trivial⟩ ⟨(congrArg PV.bool (show (true : Bool) = ((!(decide ((0) ≤ y.mass ∧ y.mass ≤ (100000000)))) || (!(decide ((0) ≤ y.length ∧ y.length ≤ (100000000))))) by first | rfl | ((try rw [hb23R]) <;> (first | rfl | (simp only [Bool.and_true, Bool.and_false, Bool.true_and, Bool.false_and, Bool.or_true, Bool.or_false, Bool.true_or, Bool.false_or, Bool.not_true, Bool.not_false, if_true, if_false, Bool.false_eq_true, reduceIte] <;> rfl))) | (simp only [hb23R, Bool.and_true, Bool.and_false, Bool.true_and, Bool.false_and, Bool.or_true, Bool.or_false, Bool.true_or, Bool.false_or, Bool.not_true, Bool.not_false, if_true, if_false, Bool.false_eq_true, reduceIte] <;> rfl))), trivial⟩)
     ·have hb23R := hb23; try simp only [z1, z2, z3, z4, z5, z6, ne_eq, z7, z8, z9, z10, z11, z12] at hb23
      refine g_step rfl rfl rfl rfl (e_move (v := .lit _ _ _) rfl) trivial ?_
      refine g_step rfl rfl rfl rfl (e_move (v := .sc _) rfl) trivial ?_
      refine g_step rfl rfl rfl rfl (e_ixa rfl rfl (by kernel_rfl) (by kernel_rfl) (by simp only [List.length_map]; omega)) trivial ?_
      refine g_step rfl rfl rfl rfl (e_fa (pl := [(0, 1, false), (1, 1, false), (2, 1, false)]) rfl (by kernel_rfl) (by kernel_rfl) (by decide) rfl) trivial ?_
      refine g_step rfl rfl rfl rfl (e_load (v := .sc _) rfl (by kernel_rfl) (by kernel_rfl) (by kernel_rfl) (by simp only [List.length_map]; omega) (by decide) ((cell_map hy _).trans rfl)) trivial ?_
      refine g_call rfl rfl rfl rfl (.cons inn_sc (.cons inn_sc (.cons inn_sc .nil))) (Within _ _ _) ?_
      refine g_step rfl rfl rfl rfl (e_not rfl) trivial ?_
      refine g_step rfl rfl rfl rfl (e_pickF (v := .sc _) rfl rfl) trivial ?_
      refine g_end (ds := [30, 31, 32, 33, 34, 35, 36]) rfl rfl (hK22 _ ?_); clear hK22 K22
      exact seq_norm (hK20 _ ⟨rfl, rfl, rfl, trivial⟩ ⟨(congrArg PV.bool (show ((!(decide ((0) ≤ y.length ∧ y.length ≤ (100000000)))) : Bool) = ((!(decide ((0) ≤ y.mass ∧ y.mass ≤ (100000000)))) || (!(decide ((0) ≤ y.length ∧ y.length ≤ (100000000))))) by first | rfl | ((try rw [hb23R]) <;> (first | rfl | (simp only [Bool.and_true, Bool.and_false, Bool.true_and, Bool.false_and, Bool.or_true, Bool.or_false, Bool.true_or, Bool.false_or, Bool.not_true, Bool.not_false, if_true, if_false, Bool.false_eq_true, reduceIte] <;> rfl))) | (simp only [hb23R, Bool.and_true, Bool.and_false, Bool.true_and, Bool.false_and, Bool.or_true, Bool.or_false, Bool.true_or, Bool.false_or, Bool.not_true, Bool.not_false, if_true, if_false, Bool.false_eq_true, reduceIte] <;> rfl))), trivial⟩)
    ·skip
     refine pwp_cond rfl (fun hb24 => ?_) (fun hb24 => ?_)
     ·have hb24R := hb24; try simp only [z1, z2, z3, z4, z5, z6, ne_eq, z7, z8, z9, z10, z11, z12] at hb24
      refine pwp_seq_plain rfl fun K25 hK25 => ?_
      refine p_step rfl (e_assign (v := .sc _) rfl) trivial ?_
      refine p_end (hK25 _ ?_); clear hK25 K25
      refine pwp_ret ?_
      refine ret_block ?_
      refine ret_seq ?_
      refine ret_loop ?_
      refine ret_block ?_
      refine ret_seq ?_
      refine end1 (v := .sc _) rfl ?_
      first
        | exact out_i (ie_8 (by omega))
        | exact out_i (ie_g (by omega) (by rw [hinv, if_pos (by assumption)]) (by decide))
        | exact out_i (ie_g (by omega) (by rw [hinv, if_neg (by rw [Bool.not_eq_false]; assumption), if_pos (by unfold badI; omega)]) (by decide))
        | exact out_i (ie_2 (by omega) hinv (by unfold badL; omega))
        | exact out_i (ie_0 (by omega) hinv (by unfold badL; omega))
     ·have hb24R := hb24; try simp only [z1, z2, z3, z4, z5, z6, ne_eq, z7, z8, z9, z10, z11, z12] at hb24
      refine pwp_skip ?_
      refine block_norm ?_
      refine seq_norm (hK15 _ ?_); clear hK15 K15
      refine pwp_plain rfl fun K26 hK26 => ?_
      refine p_step rfl (e_move (v := .sc _) rfl) trivial ?_
      refine p_step rfl (e_add rfl rfl (by omega)) trivial ?_
      refine p_step rfl (e_assign (v := .sc _) rfl) trivial ?_
      refine p_end (hK26 _ ?_); clear hK26 K26
      rw [if_neg (by rw [Bool.not_eq_false]; assumption), if_neg (by unfold badI; omega)] at hinv
      exact loop_again (k + 1) (by show _ < _; omega) ⟨rfl, rfl, trivial⟩ ⟨rfl, trivial⟩ (by exact ⟨by show _ + 1 ≤ _; omega, by exact hinv, hihj11_0⟩)
  ·have hb14R := hb14; try simp only [z1, z2, z3, z4, z5, z6, ne_eq, z7, z8, z9, z10, z11, z12] at hb14
   obtain rfl : k = its.length := by omega
   rw [List.drop_length] at hinv; simp only [goI] at hinv
   refine pwp_exit ?_
   refine exit_seq ?_
   clear hK13 K13
   refine exit_loop ?_
   refine exit_here ?_
   refine seq_norm (hK7 _ ?_); clear hK7 K7
   refine pwp_seq_seq ?_
   refine pwp_seq_cutG [] [(47, .bool ((!(decide ((1) ≤ x.mass ∧ x.mass ≤ (100000000)))) || (!(decide ((0) ≤ x.length ∧ x.length ≤ (100000000))))))] (fun K27 hK27 => ?_) (fun r28 => ?_)
   ·skip
    refine pwp_gops rfl fun K29 hK29 => ?_
    refine g_begin ?_
    refine g_step rfl rfl rfl rfl (e_faP (pl := [(0, 1, false), (1, 1, false)]) rfl (by kernel_rfl) (by kernel_rfl) (by decide) rfl) trivial ?_
    refine g_step rfl rfl rfl rfl (e_loadH (v := .sc _) rfl hihj11_0 (by kernel_rfl) (by kernel_rfl) (by kernel_rfl) (by exact Nat.zero_lt_one) (by decide) rfl) trivial ?_
    refine g_call rfl rfl rfl rfl (.cons inn_sc (.cons inn_sc (.cons inn_sc .nil))) (Within _ _ _) ?_
    refine g_step rfl rfl rfl rfl (e_not rfl) trivial ?_
    refine g_step rfl rfl rfl rfl (e_move (v := .sc _) rfl) trivial ?_
    refine g_cases (fun hb30 => ?_) (fun hb30 => ?_)
    ·have hb30R := hb30; try simp only [z1, z2, z3, z4, z5, z6, ne_eq, z7, z8, z9, z10, z11, z12] at hb30
     refine g_skip rfl rfl rfl ?_
     refine g_skip rfl rfl rfl ?_
     refine g_nocall rfl rfl rfl ?_
     refine g_skip rfl rfl rfl ?_
     refine g_step rfl rfl rfl rfl (e_pickT (v := .sc _) rfl rfl) trivial ?_
     refine g_end (ds := [43, 44, 45, 46]) rfl rfl (hK29 _ ?_); clear hK29 K29
     exact seq_norm (hK27 _ trivial ⟨(congrArg PV.bool (show (true : Bool) = ((!(decide ((1) ≤ x.mass ∧ x.mass ≤ (100000000)))) || (!(decide ((0) ≤ x.length ∧ x.length ≤ (100000000))))) by first | rfl | ((try rw [hb30R]) <;> (first | rfl | (simp only [Bool.and_true, Bool.and_false, Bool.true_and, Bool.false_and, Bool.or_true, Bool.or_false, Bool.true_or, Bool.false_or, Bool.not_true, Bool.not_false, if_true, if_false, Bool.false_eq_true, reduceIte] <;> rfl))) | (simp only [hb30R, Bool.and_true, Bool.and_false, Bool.true_and, Bool.false_and, Bool.or_true, Bool.or_false, Bool.true_or, Bool.false_or, Bool.not_true, Bool.not_false, if_true, if_false, Bool.false_eq_true, reduceIte] <;> rfl))), trivial⟩)
    ·have hb30R := hb30; try simp only [z1, z2, z3, z4, z5, z6, ne_eq, z7, z8, z9, z10, z11, z12] at hb30
     refine g_step rfl rfl rfl rfl (e_faP (pl := [(0, 1, false), (1, 1, false)]) rfl (by kernel_rfl) (by kernel_rfl) (by decide) rfl) trivial ?_
     refine g_step rfl rfl rfl rfl (e_loadH (v := .sc _) rfl hihj11_0 (by kernel_rfl) (by kernel_rfl) (by kernel_rfl) (by exact Nat.zero_lt_one) (by decide) rfl) trivial ?_
     refine g_call rfl rfl rfl rfl (.cons inn_sc (.cons inn_sc (.cons inn_sc .nil))) (Within _ _ _) ?_
     refine g_step rfl rfl rfl rfl (e_not rfl) trivial ?_
     refine g_step rfl rfl rfl rfl (e_pickF (v := .sc _) rfl rfl) trivial ?_
     refine g_end (ds := [43, 44, 45, 46]) rfl rfl (hK29 _ ?_); clear hK29 K29
     exact seq_norm (hK27 _ trivial ⟨(congrArg PV.bool (show ((!(decide ((0) ≤ x.length ∧ x.length ≤ (100000000)))) : Bool) = ((!(decide ((1) ≤ x.mass ∧ x.mass ≤ (100000000)))) || (!(decide ((0) ≤ x.length ∧ x.length ≤ (100000000))))) by first | rfl | ((try rw [hb30R]) <;> (first | rfl | (simp only [Bool.and_true, Bool.and_false, Bool.true_and, Bool.false_and, Bool.or_true, Bool.or_false, Bool.true_or, Bool.false_or, Bool.not_true, Bool.not_false, if_true, if_false, Bool.false_eq_true, reduceIte] <;> rfl))) | (simp only [hb30R, Bool.and_true, Bool.and_false, Bool.true_and, Bool.false_and, Bool.or_true, Bool.or_false, Bool.true_or, Bool.false_or, Bool.not_true, Bool.not_false, if_true, if_false, Bool.false_eq_true, reduceIte] <;> rfl))), trivial⟩)
   ·skip
    refine pwp_seq_cond rfl fun K31 hK31 => ⟨fun hb32 => ?_, fun hb32 => ?_⟩
    ·have hb32R := hb32; try simp only [z1, z2, z3, z4, z5, z6, ne_eq, z7, z8, z9, z10, z11, z12] at hb32
     refine pwp_seq_plain rfl fun K33 hK33 => ?_
     refine p_step rfl (e_assign (v := .sc _) rfl) trivial ?_
     refine p_end (hK33 _ ?_); clear hK33 K33
     refine pwp_ret ?_
     refine ret_seq ?_
     refine end1 (v := .sc _) rfl ?_
     first
       | exact out_i (ie_8 (by omega))
       | exact out_i (ie_g (by omega) (by rw [hinv, if_pos (by assumption)]) (by decide))
       | exact out_i (ie_g (by omega) (by rw [hinv, if_neg (by rw [Bool.not_eq_false]; assumption), if_pos (by unfold badI; omega)]) (by decide))
       | exact out_i (ie_2 (by omega) hinv (by unfold badL; omega))
       | exact out_i (ie_0 (by omega) hinv (by unfold badL; omega))
    ·have hb32R := hb32; try simp only [z1, z2, z3, z4, z5, z6, ne_eq, z7, z8, z9, z10, z11, z12] at hb32
     refine pwp_skip ?_
     refine seq_norm (hK31 _ ?_); clear hK31 K31
     refine pwp_seq_plain rfl fun K34 hK34 => ?_
     refine p_step rfl (e_assign (v := .sc _) rfl) trivial ?_
     refine p_end (hK34 _ ?_); clear hK34 K34
     refine pwp_ret ?_
     refine end1 (v := .sc _) rfl ?_
     first
       | exact out_i (ie_8 (by omega))
       | exact out_i (ie_g (by omega) (by rw [hinv, if_pos (by assumption)]) (by decide))
       | exact out_i (ie_g (by omega) (by rw [hinv, if_neg (by rw [Bool.not_eq_false]; assumption), if_pos (by unfold badI; omega)]) (by decide))
       | exact out_i (ie_2 (by omega) hinv (by unfold badL; omega))
       | exact out_i (ie_0 (by omega) hinv (by unfold badL; omega))

theorem fr101 : (inFrame Try.f101.ntmps (Try.f101.body.getD .skip) && Try.f101.results.toList.all (resScope Try.f101.ntmps)) = true := by kernel_rfl
theorem indexB (bs : List Bool) (b : Bool) (hl : bs.length ≤ 1000000) : PCalls Try.prog 101 [.lit true 1 (bs.map cbo), .bool b] (.int (ixB b bs 0)) := by
 refine PCalls.of_code Try.func101 rfl rfl (by kernel_rfl) mixed fr101 (by show _ ≤ 19; simp) (.sc _) ?_
 refine pwp_seq_plain rfl fun K1 hK1 => ?_
 refine p_step rfl (e_assign (v := .sc _) rfl) trivial ?_
 refine p_end (hK1 _ ?_); clear hK1 K1
 refine pwp_seq_seq ?_
 refine pwp_seq_plain rfl fun K2 hK2 => ?_
 refine p_step rfl (e_move (v := .lit _ _ _) rfl) trivial ?_
 refine p_step rfl (e_len rfl (by kernel_rfl)) trivial ?_
 refine p_step rfl (e_move (v := .sc _) rfl) trivial ?_
 refine p_end (hK2 _ ?_); clear hK2 K2
 refine pwp_seq_block fun K3 hK3 => ?_
 refine pwp_loopR (α := Nat) [0, 1, 7] (fun (k : Nat) => [(8, .int (k))]) (fun (k : Nat) (h : Heap) (_ : Nat → Nat) => ((k) ≤ bs.length) ∧ (ixB b bs 0 = ixB b (bs.drop (k)) ((k) : Int))) (fun (k : Nat) => bs.length - (k)) (0) (by exact ⟨rfl, trivial⟩) (by exact ⟨by exact Nat.zero_le _, by exact rfl⟩) fun k r4 h5 c6 hj7 => ?_
 obtain ⟨hk, hinv⟩ := hj7
 try dsimp only at hk
 try dsimp only at hinv
 show pwp _ _ (loopQ _ _ _) ⟨sets (mix _ _ _) [(8, .int k)], _, _⟩
 refine pwp_seq_plain rfl fun K8 hK8 => ?_
 refine p_step rfl (e_lt rfl rfl) trivial ?_
 refine p_end (hK8 _ ?_); clear hK8 K8
 refine pwp_seq_cond rfl fun K9 hK9 => ⟨fun hb10 => ?_, fun hb10 => ?_⟩
 ·have hb10R := hb10; try simp only [z1, z2, z3, z4, z5, z6, ne_eq, z7, z8, z9, z10, z11, z12] at hb10
  obtain ⟨y, hy, hd, ht⟩ := get_lt (xs := bs) (i := k) (by omega)
  rw [hd] at hinv; simp only [ixB] at hinv
  refine pwp_skip ?_
  refine seq_norm (hK9 _ ?_); clear hK9 K9
  refine pwp_seq_block fun K11 hK11 => ?_
  refine pwp_seq_plain rfl fun K12 hK12 => ?_
  refine p_step rfl (e_move (v := .sc _) rfl) trivial ?_
  refine p_step rfl (e_assign (v := .sc _) rfl) trivial ?_
  refine p_end (hK12 _ ?_); clear hK12 K12
  refine pwp_seq_plain rfl fun K13 hK13 => ?_
  refine p_step rfl (e_move (v := .sc _) rfl) trivial ?_
  refine p_step rfl (e_move (v := .lit _ _ _) rfl) trivial ?_
  refine p_step rfl (e_move (v := .sc _) rfl) trivial ?_
  refine p_step rfl (e_ixa rfl rfl (by kernel_rfl) (by kernel_rfl) (by simp only [List.length_map]; omega)) trivial ?_
  refine p_step rfl (e_load (v := .sc _) rfl (by kernel_rfl) (by kernel_rfl) (by kernel_rfl) (by simp only [List.length_map]; omega) (by decide) ((cell_map hy _).trans rfl)) trivial ?_
  refine p_step rfl (e_beq rfl rfl (by kernel_rfl)) trivial ?_
  refine p_end (hK13 _ ?_); clear hK13 K13
  refine pwp_cond rfl (fun hb14 => ?_) (fun hb14 => ?_)
  ·have hb14R := hb14; try simp only [z1, z2, z3, z4, z5, z6, ne_eq, z7, z8, z9, z10, z11, z12] at hb14
   refine pwp_seq_plain rfl fun K15 hK15 => ?_
   refine p_step rfl (e_move (v := .sc _) rfl) trivial ?_
   refine p_step rfl (e_assign (v := .sc _) rfl) trivial ?_
   refine p_end (hK15 _ ?_); clear hK15 K15
   refine pwp_ret ?_
   refine ret_block ?_
   refine ret_seq ?_
   refine ret_loop ?_
   refine ret_block ?_
   refine ret_seq ?_
   refine end1 (v := .sc _) rfl ?_
   first
     | exact out_i (by rw [hinv, if_pos (by assumption)])
     | exact out_i (by rw [hinv])
  ·have hb14R := hb14; try simp only [z1, z2, z3, z4, z5, z6, ne_eq, z7, z8, z9, z10, z11, z12] at hb14
   refine pwp_skip ?_
   refine block_norm ?_
   refine seq_norm (hK11 _ ?_); clear hK11 K11
   refine pwp_plain rfl fun K16 hK16 => ?_
   refine p_step rfl (e_add rfl rfl (by omega)) trivial ?_
   refine p_step rfl (e_move (v := .sc _) rfl) trivial ?_
   refine p_end (hK16 _ ?_); clear hK16 K16
   rw [if_neg (by first | assumption | (simp only [Bool.not_eq_true]; assumption))] at hinv
   exact loop_again (k + 1) (by show _ < _; omega) ⟨rfl, rfl, rfl, trivial⟩ ⟨rfl, trivial⟩ (by exact ⟨by show _ + 1 ≤ _; omega, by exact hinv⟩)
 ·have hb10R := hb10; try simp only [z1, z2, z3, z4, z5, z6, ne_eq, z7, z8, z9, z10, z11, z12] at hb10
  obtain rfl : k = bs.length := by omega
  rw [List.drop_length] at hinv; simp only [ixB] at hinv
  refine pwp_exit ?_
  refine exit_seq ?_
  clear hK9 K9
  refine exit_loop ?_
  refine exit_here ?_
  refine seq_norm (hK3 _ ?_); clear hK3 K3
  refine pwp_seq_plain rfl fun K17 hK17 => ?_
  refine p_step rfl (e_assign (v := .sc _) rfl) trivial ?_
  refine p_end (hK17 _ ?_); clear hK17 K17
  refine pwp_ret ?_
  refine end1 (v := .sc _) rfl ?_
  first
    | exact out_i (by rw [hinv, if_pos (by assumption)])
    | exact out_i (by rw [hinv])

theorem fr72 : (inFrame Try.f72.ntmps (Try.f72.body.getD .skip) && Try.f72.results.toList.all (resScope Try.f72.ntmps)) = true := by kernel_rfl
theorem containsB (bs : List Bool) (b : Bool) (hl : bs.length ≤ 1000000) : PCalls Try.prog 72 [.lit true 1 (bs.map cbo), .bool b] (.bool (decide (b ∈ bs))) := by
 refine PCalls.of_code Try.func72 rfl rfl (by kernel_rfl) mixed fr72 (by show _ ≤ 9; simp) (.sc _) ?_
 refine pwp_seq_plain rfl fun K1 hK1 => ?_
 refine p_step rfl (e_assign (v := .sc _) rfl) trivial ?_
 refine p_end (hK1 _ ?_); clear hK1 K1
 refine pwp_seq_plain rfl fun K2 hK2 => ?_
 refine p_step rfl (e_move (v := .lit _ _ _) rfl) trivial ?_
 refine p_step rfl (e_move (v := .sc _) rfl) trivial ?_
 refine p_call rfl (.cons inn_lit (.cons inn_sc .nil)) (indexB _ _ (by omega)) ?_
 refine p_step rfl (e_ge rfl rfl) trivial ?_
 refine p_step rfl (e_assign (v := .sc _) rfl) trivial ?_
 refine p_end (hK2 _ ?_); clear hK2 K2
 refine pwp_ret ?_
 refine end1 (v := .sc _) rfl ?_
 exact out_b (ixB_mem b bs 0 (Int.le_refl _))

theorem fr29 : (inFrame Try.f29.ntmps (Try.f29.body.getD .skip) && Try.f29.results.toList.all (resScope Try.f29.ntmps)) = true := by kernel_rfl
theorem LeastLorries (its : List Item) (x : Lorry) (hl : its.length ≤ 220) (hs : ∀ x ∈ its, x.name.size ≤ 30) : PCalls Try.prog 29 [.lit true 3 (its.map Item.enc), .agg x.enc] (.tup [.int (lorW its x), .int (itemsE its x)]) := by
 refine PCalls.of_code Try.func29 rfl rfl (by kernel_rfl) mixed fr29 (by show _ ≤ 39; simp) (pure_2 (.sc _) (.sc _)) ?_
 refine pwp_seq_plain rfl fun K1 hK1 => ?_
 refine p_new rfl (e_box (n := 2) rfl rfl) ⟨rfl, by decide⟩ ?_
 refine p_step rfl (e_assign (v := .sc _) rfl) trivial ?_
 refine p_step rfl (e_assign (v := .sc _) rfl) trivial ?_
 refine p_end (hK1 _ ?_); clear hK1 K1
 refine pwp_seq_seq ?_
 refine pwp_seq_plain rfl fun K2 hK2 => ?_
 refine p_step rfl (e_move (v := .lit _ _ _) rfl) trivial ?_
 refine p_step rfl (e_loadHA (n := 2) rfl (hset_self _ _ _) (by kernel_rfl) (by kernel_rfl) (by kernel_rfl) (by exact Nat.zero_lt_one) (by decide) rfl) trivial ?_
 refine p_call rfl (.cons inn_lit (.cons (inn_agg (Lorry.pure _)) .nil)) (checkItems _ _ (by omega) (by assumption)) ?_
 refine p_step rfl (e_assign (v := .sc _) rfl) trivial ?_
 refine p_end (hK2 _ ?_); clear hK2 K2
 refine pwp_seq_seq ?_
 refine pwp_seq_plain rfl fun K3 hK3 => ?_
 refine p_step rfl (e_move (v := .sc _) rfl) trivial ?_
 refine p_step rfl (e_ne rfl rfl) trivial ?_
 refine p_end (hK3 _ ?_); clear hK3 K3
 refine pwp_seq_cond rfl fun K4 hK4 => ⟨fun hb5 => ?_, fun hb5 => ?_⟩
 ·have hb5R := hb5; (try simp only [z1, z2, z3, z4, z5, z6, ne_eq, z7, z8, z9, z10, z11, z12] at hb5); (try (have hit := itemsE_ok hb5))
  refine pwp_seq_plain rfl fun K6 hK6 => ?_
  refine p_step rfl (e_move (v := .sc _) rfl) trivial ?_
  refine p_step rfl (e_assign (v := .sc _) rfl) trivial ?_
  refine p_step rfl (e_assign (v := .sc _) rfl) trivial ?_
  refine p_end (hK6 _ ?_); clear hK6 K6
  refine pwp_ret ?_
  refine ret_seq ?_
  refine end2 (v := .sc _) (w := .sc _) rfl rfl ?_
  first
    | exact out_2 (out_i (lorW_1 (by assumption))) (out_i rfl)
    | exact out_2 (out_i (lorW_2 (by assumption) (by rw [lorN, hinv]; simp))) (out_i (by omega))
 ·have hb5R := hb5; (try simp only [z1, z2, z3, z4, z5, z6, ne_eq, z7, z8, z9, z10, z11, z12] at hb5); (try (have hit := itemsE_ok hb5))
  refine pwp_skip ?_
  refine seq_norm (hK4 _ ?_); clear hK4 K4
  refine pwp_seq_plain rfl fun K7 hK7 => ?_
  refine p_step rfl (e_assign (v := .sc _) rfl) trivial ?_
  refine p_end (hK7 _ ?_); clear hK7 K7
  refine pwp_seq_seq ?_
  refine pwp_seq_plain rfl fun K8 hK8 => ?_
  refine p_step rfl (e_move (v := .lit _ _ _) rfl) trivial ?_
  refine p_step rfl (e_len rfl (by kernel_rfl)) trivial ?_
  refine p_step rfl (e_move (v := .sc _) rfl) trivial ?_
  refine p_end (hK8 _ ?_); clear hK8 K8
  refine pwp_seq_block fun K9 hK9 => ?_
  refine pwp_loopR (α := Nat × Int) [0, 3, 16, 17] (fun (a10 : Nat × Int) => [(7, .int (a10.2)), (18, .int (a10.1))]) (fun (a10 : Nat × Int) (h : Heap) (_ : Nat → Nat) => ((a10.1) ≤ its.length) ∧ (sumM 0 its = sumM (a10.2) (its.drop (a10.1))) ∧ (0 ≤ (a10.2) ∧ (a10.2) ≤ 100000000 * ((a10.1) : Int)) ∧ (h (3, 0) = some (.rows 2 [Lorry.enc x]))) (fun (a10 : Nat × Int) => its.length - (a10.1)) (0, 0) (by exact ⟨rfl, rfl, trivial⟩) (by exact ⟨by exact Nat.zero_le _, by exact rfl, by exact ⟨Int.le_refl _, by simp⟩, (hset_self _ _ _)⟩) fun a10 r11 h12 c13 hj14 => ?_
  obtain ⟨k, s⟩ := a10
  obtain ⟨hk, hinv, hb, hihj14_0⟩ := hj14
  try dsimp only at hk
  try dsimp only at hinv
  try dsimp only at hb
  try dsimp only at hihj14_0
  show pwp _ _ (loopQ _ _ _) ⟨sets (mix _ _ _) [(7, .int s), (18, .int k)], _, _⟩
  refine pwp_seq_plain rfl fun K15 hK15 => ?_
  refine p_step rfl (e_lt rfl rfl) trivial ?_
  refine p_end (hK15 _ ?_); clear hK15 K15
  refine pwp_seq_cond rfl fun K16 hK16 => ⟨fun hb17 => ?_, fun hb17 => ?_⟩
  ·have hb17R := hb17; (try simp only [z1, z2, z3, z4, z5, z6, ne_eq, z7, z8, z9, z10, z11, z12] at hb17); (try (have hit := itemsE_ok hb17))
   obtain ⟨y, hy, hd, ht⟩ := get_lt (xs := its) (i := k) (by omega)
   rw [hd] at hinv; simp only [sumM] at hinv
   have hym := hit.2.1 y (List.mem_of_getElem? hy)
   refine pwp_skip ?_
   refine seq_norm (hK16 _ ?_); clear hK16 K16
   refine pwp_seq_block fun K18 hK18 => ?_
   refine pwp_seq_plain rfl fun K19 hK19 => ?_
   refine p_step rfl (e_ixa rfl rfl (by kernel_rfl) (by kernel_rfl) (by simp only [List.length_map]; omega)) trivial ?_
   refine p_step rfl (e_loadA (n := 3) rfl (by kernel_rfl) (by kernel_rfl) (by kernel_rfl) (by simp only [List.length_map]; omega) (by decide) (by first | exact agg_map hy rfl)) trivial ?_
   refine p_new rfl (e_alloc (cs := [.str ByteArray.empty, .int 0, .int 0]) (n := 3) (by kernel_rfl) rfl (by decide)) (ob_alloc (by decide)) ?_
   refine p_store rfl (e_storeA rfl (hset_self _ _ _) rfl rfl rfl (by kernel_rfl) rfl (by kernel_rfl)) trivial ?_
   refine p_end (hK19 _ ?_); clear hK19 K19
   refine pwp_plain rfl fun K20 hK20 => ?_
   refine p_step rfl (e_move (v := .sc _) rfl) trivial ?_
   refine p_step rfl (e_faP (pl := [(0, 1, false), (1, 1, false), (2, 1, false)]) rfl (by kernel_rfl) (by kernel_rfl) (by decide) rfl) trivial ?_
   refine p_step rfl (e_loadH (v := .sc _) rfl (hset_self _ _ _) (by kernel_rfl) (by kernel_rfl) (by kernel_rfl) (by exact Nat.zero_lt_one) (by decide) rfl) trivial ?_
   refine p_step rfl (e_add rfl rfl (by omega)) trivial ?_
   refine p_step rfl (e_assign (v := .sc _) rfl) trivial ?_
   refine p_end (hK20 _ ?_); clear hK20 K20
   refine block_norm ?_
   refine seq_norm (hK18 _ ?_); clear hK18 K18
   refine pwp_plain rfl fun K21 hK21 => ?_
   refine p_step rfl (e_add rfl rfl (by omega)) trivial ?_
   refine p_step rfl (e_move (v := .sc _) rfl) trivial ?_
   refine p_end (hK21 _ ?_); clear hK21 K21
   exact loop_again ((k + 1, (s + y.mass))) (by show _ < _; simp only; omega) ⟨rfl, rfl, rfl, rfl, trivial⟩ ⟨rfl, rfl, trivial⟩ (by exact ⟨by show _ + 1 ≤ _; omega, by exact hinv, by show 0 ≤ _ ∧ _ ≤ _; omega, ((hset_ne (key_ne rfl)).trans ((hset_ne (key_ne rfl)).trans hihj14_0))⟩)
  ·have hb17R := hb17; (try simp only [z1, z2, z3, z4, z5, z6, ne_eq, z7, z8, z9, z10, z11, z12] at hb17); (try (have hit := itemsE_ok hb17))
   obtain rfl : k = its.length := by omega
   rw [List.drop_length] at hinv; simp only [sumM] at hinv
   refine pwp_exit ?_
   refine exit_seq ?_
   clear hK16 K16
   refine exit_loop ?_
   refine exit_here ?_
   refine seq_norm (hK9 _ ?_); clear hK9 K9
   refine pwp_seq_plain rfl fun K22 hK22 => ?_
   refine p_step rfl (e_move (v := .sc _) rfl) trivial ?_
   refine p_step rfl (e_faP (pl := [(0, 1, false), (1, 1, false)]) rfl (by kernel_rfl) (by kernel_rfl) (by decide) rfl) trivial ?_
   refine p_step rfl (e_loadH (v := .sc _) rfl hihj14_0 (by kernel_rfl) (by kernel_rfl) (by kernel_rfl) (by exact Nat.zero_lt_one) (by decide) rfl) trivial ?_
   refine p_step rfl (e_add rfl rfl (by omega)) trivial ?_
   refine p_step rfl (e_sub rfl rfl (by omega)) trivial ?_
   refine p_step rfl (e_faP (pl := [(0, 1, false), (1, 1, false)]) rfl (by kernel_rfl) (by kernel_rfl) (by decide) rfl) trivial ?_
   refine p_step rfl (e_loadH (v := .sc _) rfl hihj14_0 (by kernel_rfl) (by kernel_rfl) (by kernel_rfl) (by exact Nat.zero_lt_one) (by decide) rfl) trivial ?_
   refine p_step rfl (e_quo rfl rfl (by omega) (by omega) (by omega)) trivial ?_
   refine p_step rfl (e_move (v := .lit _ _ _) rfl) trivial ?_
   refine p_step rfl (e_len rfl (by kernel_rfl)) trivial ?_
   refine p_step rfl (e_min rfl rfl) trivial ?_
   refine p_step rfl (e_max rfl rfl) trivial ?_
   refine p_step rfl (e_assign (v := .sc _) rfl) trivial ?_
   refine p_step rfl (e_assign (v := .sc _) rfl) trivial ?_
   refine p_end (hK22 _ ?_); clear hK22 K22
   refine pwp_ret ?_
   refine end2 (v := .sc _) (w := .sc _) rfl rfl ?_
   first
     | exact out_2 (out_i (lorW_1 (by assumption))) (out_i rfl)
     | exact out_2 (out_i (lorW_2 (by assumption) (by rw [lorN, hinv]; simp))) (out_i (by omega))

theorem fr28 : (inFrame Try.f28.ntmps (Try.f28.body.getD .skip) && Try.f28.results.toList.all (resScope Try.f28.ntmps)) = true := by kernel_rfl
theorem light (its : List Item) (ls : List (List Int)) (hlx : ls.length ≤ 9223372036854775807) : PCalls Try.prog 28 [.lit true 3 (its.map Item.enc), .lit true 1 (ls.map cl)] (.bool (lightB its ls)) := by
 refine PCalls.of_code Try.func28 rfl rfl (by kernel_rfl) mixed fr28 (by show _ ≤ 40; simp) (.sc _) ?_
 refine pwp_seq_plain rfl fun K1 hK1 => ?_
 refine p_step rfl (e_assign (v := .sc _) rfl) trivial ?_
 refine p_end (hK1 _ ?_); clear hK1 K1
 refine pwp_seq_seq ?_
 refine pwp_seq_cutG [0, 1] [(14, .bool ((decide ((220) < ((((its).map Item.enc).length : Nat) : Int))) || (decide ((230) < ((((ls).map cl).length : Nat) : Int)))))] (fun K2 hK2 => ?_) (fun r3 => ?_)
 ·skip
  refine pwp_gops rfl fun K4 hK4 => ?_
  refine g_begin ?_
  refine g_step rfl rfl rfl rfl (e_move (v := .lit _ _ _) rfl) trivial ?_
  refine g_step rfl rfl rfl rfl (e_len rfl (by kernel_rfl)) trivial ?_
  refine g_step rfl rfl rfl rfl (e_gt rfl rfl) trivial ?_
  refine g_step rfl rfl rfl rfl (e_move (v := .sc _) rfl) trivial ?_
  refine g_cases (fun hb5 => ?_) (fun hb5 => ?_)
  ·have hb5R := hb5; try simp only [z1, z2, z3, z4, z5, z6, ne_eq, z7, z8, z9, z10, z11, z12] at hb5
   refine g_skip rfl rfl rfl ?_
   refine g_skip rfl rfl rfl ?_
   refine g_skip rfl rfl rfl ?_
   refine g_step rfl rfl rfl rfl (e_pickT (v := .sc _) rfl rfl) trivial ?_
   refine g_end (ds := [11, 12, 13]) rfl rfl (hK4 _ ?_); clear hK4 K4
   exact seq_norm (hK2 _ ⟨rfl, rfl, trivial⟩ ⟨(congrArg PV.bool (show (true : Bool) = ((decide ((220) < ((((its).map Item.enc).length : Nat) : Int))) || (decide ((230) < ((((ls).map cl).length : Nat) : Int)))) by first | rfl | ((try rw [hb5R]) <;> (first | rfl | (simp only [Bool.and_true, Bool.and_false, Bool.true_and, Bool.false_and, Bool.or_true, Bool.or_false, Bool.true_or, Bool.false_or, Bool.not_true, Bool.not_false, if_true, if_false, Bool.false_eq_true, reduceIte] <;> rfl))) | (simp only [hb5R, Bool.and_true, Bool.and_false, Bool.true_and, Bool.false_and, Bool.or_true, Bool.or_false, Bool.true_or, Bool.false_or, Bool.not_true, Bool.not_false, if_true, if_false, Bool.false_eq_true, reduceIte] <;> rfl))), trivial⟩)
  ·have hb5R := hb5; try simp only [z1, z2, z3, z4, z5, z6, ne_eq, z7, z8, z9, z10, z11, z12] at hb5
   refine g_step rfl rfl rfl rfl (e_move (v := .lit _ _ _) rfl) trivial ?_
   refine g_step rfl rfl rfl rfl (e_len rfl (by kernel_rfl)) trivial ?_
   refine g_step rfl rfl rfl rfl (e_gt rfl rfl) trivial ?_
   refine g_step rfl rfl rfl rfl (e_pickF (v := .sc _) rfl rfl) trivial ?_
   refine g_end (ds := [11, 12, 13]) rfl rfl (hK4 _ ?_); clear hK4 K4
   exact seq_norm (hK2 _ ⟨rfl, rfl, trivial⟩ ⟨(congrArg PV.bool (show ((decide ((230) < ((((ls).map cl).length : Nat) : Int))) : Bool) = ((decide ((220) < ((((its).map Item.enc).length : Nat) : Int))) || (decide ((230) < ((((ls).map cl).length : Nat) : Int)))) by first | rfl | ((try rw [hb5R]) <;> (first | rfl | (simp only [Bool.and_true, Bool.and_false, Bool.true_and, Bool.false_and, Bool.or_true, Bool.or_false, Bool.true_or, Bool.false_or, Bool.not_true, Bool.not_false, if_true, if_false, Bool.false_eq_true, reduceIte] <;> rfl))) | (simp only [hb5R, Bool.and_true, Bool.and_false, Bool.true_and, Bool.false_and, Bool.or_true, Bool.or_false, Bool.true_or, Bool.false_or, Bool.not_true, Bool.not_false, if_true, if_false, Bool.false_eq_true, reduceIte] <;> rfl))), trivial⟩)
 ·skip
  refine pwp_seq_cond rfl fun K6 hK6 => ⟨fun hb7 => ?_, fun hb7 => ?_⟩
  ·have hb7R := hb7; try simp only [z1, z2, z3, z4, z5, z6, ne_eq, z7, z8, z9, z10, z11, z12] at hb7
   refine pwp_seq_plain rfl fun K8 hK8 => ?_
   refine p_step rfl (e_assign (v := .sc _) rfl) trivial ?_
   refine p_end (hK8 _ ?_); clear hK8 K8
   refine pwp_ret ?_
   refine ret_seq ?_
   refine end1 (v := .sc _) rfl ?_
   first
     | exact out_b (light_len (by omega))
     | exact out_b (light_i hy (by omega))
     | exact out_b (light_l hl0 (by omega))
     | exact out_b (light_ok (by omega) (by omega) hq hr)
  ·have hb7R := hb7; try simp only [z1, z2, z3, z4, z5, z6, ne_eq, z7, z8, z9, z10, z11, z12] at hb7
   refine pwp_skip ?_
   refine seq_norm (hK6 _ ?_); clear hK6 K6
   refine pwp_seq_seq ?_
   refine pwp_seq_plain rfl fun K9 hK9 => ?_
   refine p_step rfl (e_assign (v := .sc _) rfl) trivial ?_
   refine p_end (hK9 _ ?_); clear hK9 K9
   refine pwp_seq_block fun K10 hK10 => ?_
   refine pwp_loopR (α := Nat) [0, 1] (fun (k : Nat) => [(5, .int (k))]) (fun (k : Nat) (h : Heap) (_ : Nat → Nat) => ((k) ≤ its.length) ∧ (∀ x ∈ its.take (k), x.name.size ≤ 30)) (fun (k : Nat) => its.length - (k)) (0) (by exact ⟨rfl, trivial⟩) (by exact ⟨by exact Nat.zero_le _, by simp⟩) fun k r11 h12 c13 hj14 => ?_
   obtain ⟨hk, hq⟩ := hj14
   try dsimp only at hk
   try dsimp only at hq
   show pwp _ _ (loopQ _ _ _) ⟨sets (mix _ _ _) [(5, .int k)], _, _⟩
   refine pwp_seq_seq ?_
   refine pwp_seq_plain rfl fun K15 hK15 => ?_
   refine p_step rfl (e_move (v := .sc _) rfl) trivial ?_
   refine p_step rfl (e_move (v := .lit _ _ _) rfl) trivial ?_
   refine p_step rfl (e_len rfl (by kernel_rfl)) trivial ?_
   refine p_step rfl (e_lt rfl rfl) trivial ?_
   refine p_end (hK15 _ ?_); clear hK15 K15
   refine pwp_seq_cond rfl fun K16 hK16 => ⟨fun hb17 => ?_, fun hb17 => ?_⟩
   ·have hb17R := hb17; try simp only [z1, z2, z3, z4, z5, z6, ne_eq, z7, z8, z9, z10, z11, z12] at hb17
    obtain ⟨y, hy, hd, ht⟩ := get_lt (xs := its) (i := k) (by omega)
    refine pwp_skip ?_
    refine seq_norm (hK16 _ ?_); clear hK16 K16
    refine pwp_seq_block fun K18 hK18 => ?_
    refine pwp_seq_plain rfl fun K19 hK19 => ?_
    refine p_step rfl (e_move (v := .lit _ _ _) rfl) trivial ?_
    refine p_step rfl (e_move (v := .sc _) rfl) trivial ?_
    refine p_step rfl (e_ixa rfl rfl (by kernel_rfl) (by kernel_rfl) (by simp only [List.length_map]; omega)) trivial ?_
    refine p_step rfl (e_fa (pl := [(0, 1, false), (1, 1, false), (2, 1, false)]) rfl (by kernel_rfl) (by kernel_rfl) (by decide) rfl) trivial ?_
    refine p_step rfl (e_load (v := .sc _) rfl (by kernel_rfl) (by kernel_rfl) (by kernel_rfl) (by simp only [List.length_map]; omega) (by decide) ((cell_map hy _).trans rfl)) trivial ?_
    refine p_step rfl (e_lenS rfl (by kernel_rfl)) trivial ?_
    refine p_step rfl (e_gt rfl rfl) trivial ?_
    refine p_end (hK19 _ ?_); clear hK19 K19
    refine pwp_cond rfl (fun hb20 => ?_) (fun hb20 => ?_)
    ·have hb20R := hb20; try simp only [z1, z2, z3, z4, z5, z6, ne_eq, z7, z8, z9, z10, z11, z12] at hb20
     refine pwp_seq_plain rfl fun K21 hK21 => ?_
     refine p_step rfl (e_assign (v := .sc _) rfl) trivial ?_
     refine p_end (hK21 _ ?_); clear hK21 K21
     refine pwp_ret ?_
     refine ret_block ?_
     refine ret_seq ?_
     refine ret_loop ?_
     refine ret_block ?_
     refine ret_seq ?_
     refine end1 (v := .sc _) rfl ?_
     first
       | exact out_b (light_len (by omega))
       | exact out_b (light_i hy (by omega))
       | exact out_b (light_l hl0 (by omega))
       | exact out_b (light_ok (by omega) (by omega) hq hr)
    ·have hb20R := hb20; try simp only [z1, z2, z3, z4, z5, z6, ne_eq, z7, z8, z9, z10, z11, z12] at hb20
     refine pwp_skip ?_
     refine block_norm ?_
     refine seq_norm (hK18 _ ?_); clear hK18 K18
     refine pwp_plain rfl fun K22 hK22 => ?_
     refine p_step rfl (e_move (v := .sc _) rfl) trivial ?_
     refine p_step rfl (e_add rfl rfl (by omega)) trivial ?_
     refine p_step rfl (e_assign (v := .sc _) rfl) trivial ?_
     refine p_end (hK22 _ ?_); clear hK22 K22
     exact loop_again (k + 1) (by show _ < _; omega) ⟨rfl, rfl, trivial⟩ ⟨rfl, trivial⟩ (by exact ⟨by show _ + 1 ≤ _; omega, by exact all_snoc ht hq (by omega)⟩)
   ·have hb17R := hb17; try simp only [z1, z2, z3, z4, z5, z6, ne_eq, z7, z8, z9, z10, z11, z12] at hb17
    obtain rfl : k = its.length := by omega
    refine pwp_exit ?_
    refine exit_seq ?_
    clear hK16 K16
    refine exit_loop ?_
    refine exit_here ?_
    refine seq_norm (hK10 _ ?_); clear hK10 K10
    refine pwp_seq_seq ?_
    refine pwp_seq_plain rfl fun K23 hK23 => ?_
    refine p_step rfl (e_assign (v := .sc _) rfl) trivial ?_
    refine p_end (hK23 _ ?_); clear hK23 K23
    refine pwp_seq_block fun K24 hK24 => ?_
    refine pwp_loopR (α := Nat) [1] (fun (j : Nat) => [(6, .int (j))]) (fun (j : Nat) (h : Heap) (_ : Nat → Nat) => ((j) ≤ ls.length) ∧ (∀ l ∈ ls.take (j), l.length ≤ 30)) (fun (j : Nat) => ls.length - (j)) (0) (by exact ⟨rfl, trivial⟩) (by exact ⟨by exact Nat.zero_le _, by simp⟩) fun j r25 h26 c27 hj28 => ?_
    obtain ⟨hj, hr⟩ := hj28
    try dsimp only at hj
    try dsimp only at hr
    show pwp _ _ (loopQ _ _ _) ⟨sets (mix _ _ _) [(6, .int j)], _, _⟩
    refine pwp_seq_seq ?_
    refine pwp_seq_plain rfl fun K29 hK29 => ?_
    refine p_step rfl (e_move (v := .sc _) rfl) trivial ?_
    refine p_step rfl (e_move (v := .lit _ _ _) rfl) trivial ?_
    refine p_step rfl (e_len rfl (by kernel_rfl)) trivial ?_
    refine p_step rfl (e_lt rfl rfl) trivial ?_
    refine p_end (hK29 _ ?_); clear hK29 K29
    refine pwp_seq_cond rfl fun K30 hK30 => ⟨fun hb31 => ?_, fun hb31 => ?_⟩
    ·have hb31R := hb31; try simp only [z1, z2, z3, z4, z5, z6, ne_eq, z7, z8, z9, z10, z11, z12] at hb31
     obtain ⟨l, hl0, hdl0, htl0⟩ := get_lt (xs := ls) (i := j) (by omega)
     refine pwp_skip ?_
     refine seq_norm (hK30 _ ?_); clear hK30 K30
     refine pwp_seq_block fun K32 hK32 => ?_
     refine pwp_seq_plain rfl fun K33 hK33 => ?_
     refine p_step rfl (e_move (v := .lit _ _ _) rfl) trivial ?_
     refine p_step rfl (e_move (v := .sc _) rfl) trivial ?_
     refine p_step rfl (e_ixa rfl rfl (by kernel_rfl) (by kernel_rfl) (by simp only [List.length_map]; omega)) trivial ?_
     refine p_step rfl (e_load (v := .lit _ _ _) rfl (by kernel_rfl) (by kernel_rfl) (by kernel_rfl) (by simp only [List.length_map]; omega) (by decide) ((cell_map hl0 _).trans rfl)) trivial ?_
     refine p_step rfl (e_len rfl (by kernel_rfl)) trivial ?_
     refine p_step rfl (e_gt rfl rfl) trivial ?_
     refine p_end (hK33 _ ?_); clear hK33 K33
     refine pwp_cond rfl (fun hb34 => ?_) (fun hb34 => ?_)
     ·have hb34R := hb34; try simp only [z1, z2, z3, z4, z5, z6, ne_eq, z7, z8, z9, z10, z11, z12] at hb34
      refine pwp_seq_plain rfl fun K35 hK35 => ?_
      refine p_step rfl (e_assign (v := .sc _) rfl) trivial ?_
      refine p_end (hK35 _ ?_); clear hK35 K35
      refine pwp_ret ?_
      refine ret_block ?_
      refine ret_seq ?_
      refine ret_loop ?_
      refine ret_block ?_
      refine ret_seq ?_
      refine end1 (v := .sc _) rfl ?_
      first
        | exact out_b (light_len (by omega))
        | exact out_b (light_i hy (by omega))
        | exact out_b (light_l hl0 (by omega))
        | exact out_b (light_ok (by omega) (by omega) hq hr)
     ·have hb34R := hb34; try simp only [z1, z2, z3, z4, z5, z6, ne_eq, z7, z8, z9, z10, z11, z12] at hb34
      refine pwp_skip ?_
      refine block_norm ?_
      refine seq_norm (hK32 _ ?_); clear hK32 K32
      refine pwp_plain rfl fun K36 hK36 => ?_
      refine p_step rfl (e_move (v := .sc _) rfl) trivial ?_
      refine p_step rfl (e_add rfl rfl (by omega)) trivial ?_
      refine p_step rfl (e_assign (v := .sc _) rfl) trivial ?_
      refine p_end (hK36 _ ?_); clear hK36 K36
      exact loop_again (j + 1) (by show _ < _; omega) ⟨rfl, trivial⟩ ⟨rfl, trivial⟩ (by exact ⟨by show _ + 1 ≤ _; omega, by exact all_snoc htl0 hr (by omega)⟩)
    ·have hb31R := hb31; try simp only [z1, z2, z3, z4, z5, z6, ne_eq, z7, z8, z9, z10, z11, z12] at hb31
     obtain rfl : j = ls.length := by omega
     refine pwp_exit ?_
     refine exit_seq ?_
     clear hK30 K30
     refine exit_loop ?_
     refine exit_here ?_
     refine seq_norm (hK24 _ ?_); clear hK24 K24
     refine pwp_seq_plain rfl fun K37 hK37 => ?_
     refine p_step rfl (e_assign (v := .sc _) rfl) trivial ?_
     refine p_end (hK37 _ ?_); clear hK37 K37
     refine pwp_ret ?_
     refine end1 (v := .sc _) rfl ?_
     first
       | exact out_b (light_len (by omega))
       | exact out_b (light_i hy (by omega))
       | exact out_b (light_l hl0 (by omega))
       | exact out_b (light_ok (by omega) (by omega) hq hr)

end Go.Proofs.Ytigdmkhdmbbfiaa
