/- Held by the reference; lists of demands that are the same. No conditions. -/
import Derived.Test.YtindehoegfiiaaaGreatDoorRdm
set_option linter.unusedSimpArgs false
set_option linter.unusedVariables false
set_option maxRecDepth 100000
namespace Go.Proofs.YtindehoegfiiaaaGreatDoor
open Go Go.Pv
def oW (w : Option (Int × Int)) : Option Bool := match w with
 | none => none
 | some _ => some false
def dW (w : Option (Int × Int)) : Demand × Option Bool := (⟨wA w, wF w, []⟩, oW w)
def dN (w : Option (Int × Int)) : Demand × Option Bool := (⟨wA w, wF w, []⟩, none)
section
variable {g : Grid} {r : Rule} {l : List Tie} {k : Nat} {y : Demand} {h : Heap}
theorem plT_nil {K : Tie → Bool} : ∀ {n : Nat}, n ≤ l.length → (plT K l n = [] ↔ ∀ i, i < n → ∀ t, l[i]? = some t → K t = false)
 | 0, _ => ⟨fun _ i hi => absurd hi (Nat.not_lt_zero _), fun _ => rfl⟩
 | n + 1, hn => by
   have hx : l[n]? = some (l.getD n default) := by rw [List.getD_eq_getElem?_getD, List.getElem?_eq_getElem (by omega)]; rfl
   cases hK : K (l.getD n default) with
   | true =>
     rw [plT_t hx hK]
     constructor
     · intro q; simp at q
     · intro q; rw [q n (Nat.lt_succ_self n) _ hx] at hK; cases hK
   | false =>
     rw [plT_f hx hK, plT_nil (by omega)]
     constructor
     · intro q i hi t ht
       by_cases e : i = n
       · subst e; rw [hx] at ht; cases ht; exact hK
       · exact q i (by omega) t ht
     · intro q i hi t ht; exact q i (by omega) t ht
theorem dmd_nil {e : Int × Int} : (dmd g r l e).places = [] ↔ hdE g r l e = false := by
 show plT _ l l.length = [] ↔ _
 rw [plT_nil (Nat.le_refl _), hdE, List.any_eq_false]
 constructor
 · intro q t ht
   obtain ⟨i, hi, rfl⟩ := List.getElem_of_mem ht
   rw [q i hi _ (List.getElem?_eq_getElem hi)]; decide
 · intro q i _ t ht
   have := q t (List.mem_of_getElem? ht)
   simpa using this
theorem find_at {α : Type} {p : α → Bool} : ∀ {L : List α} {k : Nat} {e : α}, L[k]? = some e → (∀ i, i < k → ∀ y, L[i]? = some y → p y = false) → p e = true → L.find? p = some e
 | [], k, e, h, _, _ => by simp at h
 | a :: L, 0, e, h, _, hp => by
   simp at h; subst h; rw [List.find?_cons_of_pos hp]
 | a :: L, k + 1, e, h, hn, hp => by
   rw [List.find?_cons_of_neg (by rw [hn 0 (Nat.succ_pos k) a rfl]; decide)]
   exact find_at (by simpa using h) (fun i hi y hy => hn (i + 1) (by omega) y (by simpa using hy)) hp
theorem map_dF {ds : List Demand} (hy : ds[k]? = some y) : (ds.map dF)[k]? = some (dF y) := by rw [List.getElem?_map, hy]; rfl
theorem dF_fst (d : Demand) : (dF d).1 = d := rfl
theorem held_hit (haz : allE g r l = 0) (hy : (dmX g r l)[k]? = some y) (hin : ∀ i, i < k → ∀ z, (dmX g r l)[i]? = some z → decide (z.places = []) = false) (hp : y.places = []) : ∃ e, hdW g r l = some e ∧ y = dmd g r l e := by
 rw [dmX_0 haz] at hy hin
 rw [List.getElem?_map] at hy
 cases he : (dmL g r g.along.length)[k]? with
 | none => rw [he] at hy; simp at hy
 | some e =>
   rw [he] at hy
   simp only [Option.map_some, Option.some.injEq] at hy
   subst hy
   refine ⟨e, find_at he (fun i hi z hz => ?_) (by rw [dmd_nil.1 hp]; rfl), rfl⟩
   have := hin i hi (dmd g r l z) (by rw [List.getElem?_map, hz]; rfl)
   rw [decide_eq_false_iff_not, dmd_nil] at this
   cases q : hdE g r l z with
   | true => rfl
   | false => exact absurd q this
theorem held_no (haz : allE g r l = 0) (hin : ∀ i, i < k → ∀ z, (dmX g r l)[i]? = some z → decide (z.places = []) = false) (hk : (dmX g r l).length ≤ k) : hdW g r l = none := by
 rw [hdW, List.find?_eq_none]
 intro e he
 have hm : dmd g r l e ∈ dmX g r l := by rw [dmX_0 haz]; exact List.mem_map_of_mem he
 obtain ⟨i, hi, e2⟩ := List.getElem_of_mem hm
 have := hin i (by omega) _ (by rw [List.getElem?_eq_getElem hi, e2])
 rw [decide_eq_false_iff_not, dmd_nil] at this
 cases q : hdE g r l e with
 | true => decide
 | false => exact absurd q this
theorem cleanQ (x : Demand × Option Bool) (hx : x.2 ≠ some true) : ∀ p ∈ encQ x, Go.Pv.Clean p := fun p hp => by
 simp only [encQ, List.mem_cons, List.not_mem_nil, or_false] at hp
 rcases hp with rfl | rfl | rfl
 · exact .sc _
 · exact .sc _
 · rw [plQ]
   split
   · exact .nil
   · rename_i t ht
     cases t with
     | true => exact absurd ht hx
     | false => exact clean_rows fun a p hp => (ci_clean a p hp).1
theorem out_hit {e : Int × Int} (hW : hdW g r l = some e) (hy : y = dmd g r l e) (hp : y.places = []) : Out h (.agg (encQ (dF y))) (.agg (encQ (dW (hdW g r l)))) := by
 refine out_agg ?_ (cleanQ _ (by intro q; cases q))
 rw [hW]
 show [PV.int y.standard, .int y.fro, .lit false 1 (y.places.map ci)] = [PV.int e.1, .int e.2, .lit false 1 (([] : List Int).map ci)]
 rw [hp, hy]; rfl
theorem out_no (hW : hdW g r l = none) : Out h (.agg [.int 0, .int 0, .nil]) (.agg (encQ (dW (hdW g r l)))) := by
 rw [hW]; exact out_agg rfl (clean_d _ _)
theorem inn_q {x : Demand × Option Bool} (hx : okQ x) : Inn h (plQ x) (.lit true 1 (x.1.places.map ci)) := by
 obtain ⟨d, o⟩ := x
 cases o with
 | none =>
   have : d.places = [] := hx rfl
   show Inn h .nil (.lit true 1 (d.places.map ci))
   rw [this]; exact inn_nil
 | some t => exact inn_lit
theorem okF (d : Demand) : okQ (dF d) := fun h => by cases h
theorem fst_at {L : List (Demand × Option Bool)} {x : Demand × Option Bool} (h : L[k]? = some x) : (L.map Prod.fst)[k]? = some x.1 := by rw [List.getElem?_map, h]; rfl
theorem dm_ne {a b : Demand} (h : a.standard ≠ b.standard ∨ a.fro ≠ b.fro ∨ a.places ≠ b.places) : ¬ a = b := fun e => by
 subst e; rcases h with h | h | h <;> exact h rfl
theorem dm_eq {a b : Demand} (h1 : a.standard = b.standard) (h2 : a.fro = b.fro) (h3 : a.places = b.places) : a = b := by
 cases a; cases b; simp_all
theorem dmd_pl {e : Int × Int} : (dmd g r l e).places.length ≤ l.length := plT_len
theorem dmX_pl (hd : y ∈ dmX g r l) : y.places.length ≤ l.length := by
 by_cases h : allE g r l = 0
 · rw [dmX_0 h] at hd
   obtain ⟨e, _, rfl⟩ := List.mem_map.1 hd
   exact dmd_pl
 · rw [dmX_e h] at hd; cases hd
abbrev GoodQ (L : List (Demand × Option Bool)) : Prop := L.length ≤ 100000 ∧ ∀ x ∈ L, okQ x ∧ x.1.places.length ≤ 100000
theorem good_dm (hl : l.length ≤ 100000) : GoodQ ((dmX g r l).map dF) := ⟨by rw [List.length_map]; have := dmX_len (g := g) (r := r) (l := l); omega, fun x hx => by
 obtain ⟨d, hd, rfl⟩ := List.mem_map.1 hx
 exact ⟨okF d, Nat.le_trans (dmX_pl hd) hl⟩⟩
theorem good_1 (w : Demand × Option Bool) (h1 : w.1.places = []) : GoodQ [w] := ⟨by simp, fun x hx => by
 rw [List.mem_singleton] at hx; subst hx
 exact ⟨fun _ => h1, by rw [h1]; exact Nat.zero_le _⟩⟩
end

theorem fr27 : (inFrame Tryz.f27.ntmps (Tryz.f27.body.getD .skip) && Tryz.f27.results.toList.all (resScope Tryz.f27.ntmps)) = true := by kernel_rfl
theorem refHeldC (g : Grid) (r : Rule) (l : List Tie) (hl : l.length ≤ 100000) (haz : allE g r l = 0) : PCalls Tryz.prog 27 [.agg g.enc, .agg r.enc, .lit true 2 (l.map Tie.enc)] (.tup [.bool (hdW g r l).isNone, .agg (encQ (dW (hdW g r l)))]) := by
 refine PCalls.of_code Tryz.func27 rfl rfl (by kernel_rfl) mixed fr27 (by show _ ≤ 32; simp) (pure_2 (.sc _) (.agg _ (pureQ _))) ?_
 have hdl := dmX_len (g := g) (r := r) (l := l)
 refine pwp_seq_plain rfl fun K1 hK1 => ?_
 refine p_new rfl (e_box (n := 3) rfl rfl) ⟨rfl, by decide⟩ ?_
 refine p_new rfl (e_box (n := 5) rfl rfl) ⟨rfl, by decide⟩ ?_
 refine p_aS rfl ?_
 refine p_new rfl (e_alloc (cs := [.int 0, .int 0, .nil]) (n := 3) (by kernel_rfl) rfl (by decide)) (ob_alloc (by decide)) ?_
 refine p_end (hK1 _ ?_); clear hK1 K1
 refine pwp_seq_plain rfl fun K2 hK2 => ?_
 refine p_e rfl (e_loadHA (cs := Grid.enc (g)) (n := 3) rfl ((hset_ne (key_ne rfl)).trans ((hset_ne (key_ne rfl)).trans (hset_self _ _ _))) (by kernel_rfl) (by kernel_rfl) (by kernel_rfl) (by exact Nat.zero_lt_one) (by decide) rfl) ?_
 refine p_e rfl (e_loadHA (cs := Rule.enc (r)) (n := 5) rfl ((hset_ne (key_ne rfl)).trans (hset_self _ _ _)) (by kernel_rfl) (by kernel_rfl) (by kernel_rfl) (by exact Nat.zero_lt_one) (by decide) rfl) ?_
 refine p_e rfl (e_move (v := .lit _ _ _) rfl) ?_
 refine p_call rfl (.cons (inn_agg (Grid.pure _)) (.cons (inn_agg (Rule.pure _)) (.cons inn_lit .nil))) (refDemandsC g r l (by omega) (by first | assumption | omega)) ?_
 refine p_e rfl (e_assign (v := .lit _ _ _) rfl) ?_
 refine p_end (hK2 _ ?_); clear hK2 K2
 refine pwp_seq_seq ?_
 refine pwp_seq_plain rfl fun K3 hK3 => ?_
 refine p_aS rfl ?_
 refine p_end (hK3 _ ?_); clear hK3 K3
 refine pwp_seq_block fun K4 hK4 => ?_
 refine pwp_loopR (α := Nat) [7, 8] (fun (k : Nat) => [(9, .int (k))]) (fun (k : Nat) (h : Heap) (_ : Nat → Nat) => ((k) ≤ (dmX g r l).length) ∧ (∀ i, i < (k) → ∀ z, (dmX g r l)[i]? = some z → decide (z.places = []) = false) ∧ (h (7, 0) = some (.rows 3 [[.int 0, .int 0, .nil]]))) (fun (k : Nat) => (dmX g r l).length - (k)) (0) (by exact ⟨rfl, trivial⟩) (by exact ⟨by exact Nat.zero_le _, by exact nx_0 (K := fun z : Demand => decide (z.places = [])), (hset_self _ _ _)⟩) fun k r5 h6 c7 hj8 => ?_
 obtain ⟨hk, hin, hihj8_0⟩ := hj8
 try dsimp only at hk
 try dsimp only at hin
 try dsimp only at hihj8_0
 show pwp _ _ (loopQ _ _ _) ⟨sets (mix _ _ _) [(9, .int k)], _, _⟩
 refine pwp_seq_seq ?_
 refine pwp_seq_plain rfl fun K9 hK9 => ?_
 refine p_mS rfl ?_
 refine p_e rfl (e_move (v := .lit _ _ _) rfl) ?_
 refine p_e rfl (e_len rfl (by kernel_rfl)) ?_
 refine p_e rfl (e_lt rfl rfl) ?_
 refine p_end (hK9 _ ?_); clear hK9 K9
 refine pwp_seq_cond rfl fun K10 hK10 => ⟨fun hb11 => ?_, fun hb11 => ?_⟩
 ·have hb11R := hb11; try simp only [zz] at hb11
  obtain ⟨y, hy⟩ : ∃ y, (dmX g r l)[k]? = some y := ⟨_, List.getElem?_eq_getElem (by simp only [List.length_map] at *; omega)⟩
  have hyq := map_dF hy
  refine pwp_skip ?_
  refine seq_norm (hK10 _ ?_); clear hK10 K10
  refine pwp_seq_block fun K12 hK12 => ?_
  refine pwp_seq_plain rfl fun K13 hK13 => ?_
  refine p_e rfl (e_move (v := .lit _ _ _) rfl) ?_
  refine p_mS rfl ?_
  refine p_e rfl (e_ixL rfl rfl) ?_
  refine p_e rfl (e_fb pl3 rfl) ?_
  refine p_e rfl (e_load (v := .lit _ _ _) rfl (by kernel_rfl) (by kernel_rfl) (by kernel_rfl) (by first | omega | (simp only [List.length_map]; omega)) (by decide) ((cell_map hyq _).trans rfl)) ?_
  refine p_e rfl (e_len rfl (by kernel_rfl)) ?_
  refine p_e rfl (e_eq rfl rfl) ?_
  refine p_end (hK13 _ ?_); clear hK13 K13
  refine pwp_cond rfl (fun hb14 => ?_) (fun hb14 => ?_)
  ·have hb14R := hb14; try simp only [zz] at hb14
   refine pwp_seq_gops rfl fun K15 hK15 => ?_
   refine s_begin ?_
   refine s_e rfl (e_move (v := .lit _ _ _) rfl) ?_
   refine s_e rfl (e_move (v := .sc _) rfl) ?_
   refine s_e rfl (e_ixL rfl rfl) ?_
   refine s_e rfl (e_loadA (n := 3) rfl (by kernel_rfl) (by kernel_rfl) (by kernel_rfl) (by first | omega | (simp only [List.length_map]; omega)) (by decide) (by first | exact agg_map hyq rfl)) ?_
   refine s_e rfl (e_assign (v := .sc _) rfl) ?_
   refine s_store [7] (by simp) rfl rfl (e_storeA rfl hihj8_0 rfl rfl rfl (by kernel_rfl) rfl (by kernel_rfl)) trivial ?_
   refine s_end (ds := []) (by kernel_rfl) (by kernel_rfl) (hK15 _ ?_); clear hK15 K15
   refine pwp_ret ?_
   refine ret_block ?_
   refine ret_seq ?_
   refine ret_loop ?_
   refine ret_block ?_
   refine ret_seq ?_
   refine endTC rfl rfl (hset_self _ _ _) (by kernel_rfl) (by kernel_rfl) (by kernel_rfl) rfl ?_
   first
     | (obtain ⟨e_, hW, hye⟩ := held_hit haz hy hin (List.eq_nil_of_length_eq_zero (by simp only [List.length_map, dF_fst] at *; omega)); exact out_2 (out_b (by rw [hW]; rfl)) (out_hit hW hye (List.eq_nil_of_length_eq_zero (by simp only [List.length_map, dF_fst] at *; omega))))
     | (have hW := held_no haz hin (by simp only [List.length_map] at *; omega); exact out_2 (out_b (by rw [hW]; rfl)) (out_no hW))
  ·have hb14R := hb14; try simp only [zz] at hb14
   refine pwp_skip ?_
   refine block_norm ?_
   refine seq_norm (hK12 _ ?_); clear hK12 K12
   refine pwp_plain rfl fun K16 hK16 => ?_
   refine p_mS rfl ?_
   refine p_e rfl (e_adL rfl rfl) ?_
   refine p_aS rfl ?_
   refine p_end (hK16 _ ?_); clear hK16 K16
   exact loop_again (k + 1) (by show _ < _; omega) ⟨rfl, rfl, trivial⟩ ⟨rfl, trivial⟩ (by exact ⟨by show _ + 1 ≤ _; simp only [List.length_map] at *; omega, by exact nx_step (K := fun z : Demand => decide (z.places = [])) hin hy (decide_eq_false (fun q => by have q2 : (dF y).1.places.length = 0 := (by rw [dF_fst, q]; rfl); omega)), hihj8_0⟩)
 ·have hb11R := hb11; try simp only [zz] at hb11
  refine pwp_exit ?_
  refine exit_seq ?_
  clear hK10 K10
  refine exit_loop ?_
  refine exit_here ?_
  refine seq_norm (hK4 _ ?_); clear hK4 K4
  refine pwp_seq_plain rfl fun K17 hK17 => ?_
  refine p_e rfl (e_build (zs := [.int 0, .int 0, .nil]) (pl := [(0, 1, false), (1, 1, false), (2, 1, false)]) (by kernel_rfl) (by kernel_rfl) (by kernel_rfl) rfl rfl (by exact trivial) rfl) ?_
  refine p_aS rfl ?_
  refine p_store rfl (e_storeA rfl hihj8_0 rfl rfl rfl (by kernel_rfl) rfl (by kernel_rfl)) trivial ?_
  refine p_end (hK17 _ ?_); clear hK17 K17
  refine pwp_ret ?_
  refine endTC rfl rfl (hset_self _ _ _) (by kernel_rfl) (by kernel_rfl) (by kernel_rfl) rfl ?_
  first
    | (obtain ⟨e_, hW, hye⟩ := held_hit haz hy hin (List.eq_nil_of_length_eq_zero (by simp only [List.length_map, dF_fst] at *; omega)); exact out_2 (out_b (by rw [hW]; rfl)) (out_hit hW hye (List.eq_nil_of_length_eq_zero (by simp only [List.length_map, dF_fst] at *; omega))))
    | (have hW := held_no haz hin (by simp only [List.length_map] at *; omega); exact out_2 (out_b (by rw [hW]; rfl)) (out_no hW))

theorem fr26 : (inFrame Tryz.f26.ntmps (Tryz.f26.body.getD .skip) && Tryz.f26.results.toList.all (resScope Tryz.f26.ntmps)) = true := by kernel_rfl
theorem SameDemandsC (t t2 : Bool) (l l2 : List (Demand × Option Bool)) (hl : GoodQ l) (hl2 : GoodQ l2) : PCalls Tryz.prog 26 [.lit t 3 (l.map encQ), .lit t2 3 (l2.map encQ)] (.bool (decide (l.map Prod.fst = l2.map Prod.fst))) := by
 refine PCalls.of_code Tryz.func26 rfl rfl (by kernel_rfl) mixed fr26 (by show _ ≤ 55; simp) (.sc _) ?_
 have hln := hl.1; have hln2 := hl2.1
 refine pwp_seq_plain rfl fun K1 hK1 => ?_
 refine p_aS rfl ?_
 refine p_end (hK1 _ ?_); clear hK1 K1
 refine pwp_seq_seq ?_
 refine pwp_seq_plain rfl fun K2 hK2 => ?_
 refine p_e rfl (e_move (v := .lit _ _ _) rfl) ?_
 refine p_e rfl (e_len rfl (by kernel_rfl)) ?_
 refine p_e rfl (e_move (v := .lit _ _ _) rfl) ?_
 refine p_e rfl (e_len rfl (by kernel_rfl)) ?_
 refine p_e rfl (e_ne rfl rfl) ?_
 refine p_end (hK2 _ ?_); clear hK2 K2
 refine pwp_seq_cond rfl fun K3 hK3 => ⟨fun hb4 => ?_, fun hb4 => ?_⟩
 ·have hb4R := hb4; try simp only [zz] at hb4
  refine pwp_seq_plain rfl fun K5 hK5 => ?_
  refine p_aS rfl ?_
  refine p_end (hK5 _ ?_); clear hK5 K5
  refine pwp_ret ?_
  refine ret_seq ?_
  refine end1 (v := .sc _) rfl ?_
  first
    | exact out_b (same_l (by simp only [List.length_map] at *; omega))
    | exact out_b (same_f (fst_at hx) (fst_at hy) (dm_ne (.inl (by omega))))
    | exact out_b (same_f (fst_at hx) (fst_at hy) (dm_ne (.inr (.inl (by omega)))))
    | exact out_b (same_f (fst_at hx) (fst_at hy) (dm_ne (.inr (.inr (by first | assumption | simp_all)))))
    | exact out_b (same_t hin (by simp only [List.length_map]; exact hlen) (by simp only [List.length_map] at *; omega))
 ·have hb4R := hb4; try simp only [zz] at hb4
  refine pwp_skip ?_
  refine seq_norm (hK3 _ ?_); clear hK3 K3
  refine pwp_seq_seq ?_
  have hlen : l.length = l2.length := by simp only [List.length_map] at *; omega
  refine pwp_seq_plain rfl fun K6 hK6 => ?_
  refine p_aS rfl ?_
  refine p_end (hK6 _ ?_); clear hK6 K6
  refine pwp_seq_block fun K7 hK7 => ?_
  refine pwp_loopR (α := Nat) [0, 1] (fun (k : Nat) => [(5, .int (k))]) (fun (k : Nat) (h : Heap) (_ : Nat → Nat) => ((k) ≤ l.length) ∧ (SameTo (l.map Prod.fst) (l2.map Prod.fst) (k))) (fun (k : Nat) => l.length - (k)) (0) (by exact ⟨rfl, trivial⟩) (by exact ⟨by exact Nat.zero_le _, by exact fun i h => absurd h (Nat.not_lt_zero _)⟩) fun k r8 h9 c10 hj11 => ?_
  obtain ⟨hk, hin⟩ := hj11
  try dsimp only at hk
  try dsimp only at hin
  show pwp _ _ (loopQ _ _ _) ⟨sets (mix _ _ _) [(5, .int k)], _, _⟩
  refine pwp_seq_seq ?_
  refine pwp_seq_plain rfl fun K12 hK12 => ?_
  refine p_mS rfl ?_
  refine p_e rfl (e_move (v := .lit _ _ _) rfl) ?_
  refine p_e rfl (e_len rfl (by kernel_rfl)) ?_
  refine p_e rfl (e_lt rfl rfl) ?_
  refine p_end (hK12 _ ?_); clear hK12 K12
  refine pwp_seq_cond rfl fun K13 hK13 => ⟨fun hb14 => ?_, fun hb14 => ?_⟩
  ·have hb14R := hb14; try simp only [zz] at hb14
   obtain ⟨x, hx, hd, ht⟩ := get_lt (xs := l) (i := k) (by omega)
   obtain ⟨y, hy⟩ : ∃ y, l2[k]? = some y := ⟨_, List.getElem?_eq_getElem (by omega)⟩
   obtain ⟨hqx, hxl⟩ := hl.2 x (List.mem_of_getElem? hx)
   obtain ⟨hqy, hyl⟩ := hl2.2 y (List.mem_of_getElem? hy)
   have hxl : x.1.places.length ≤ 1000000 := by omega
   have hyl : y.1.places.length ≤ 1000000 := by omega
   refine pwp_skip ?_
   refine seq_norm (hK13 _ ?_); clear hK13 K13
   refine pwp_seq_block fun K15 hK15 => ?_
   refine pwp_seq_gops rfl fun K16 hK16 => ?_
   refine g_begin ?_
   refine g_e rfl (e_move (v := .lit _ _ _) rfl) ?_
   refine g_mS rfl rfl ?_
   refine g_e rfl (e_ixL rfl rfl) ?_
   refine g_e rfl (e_fb pl3 rfl) ?_
   refine g_e rfl (e_load (v := .sc _) rfl (by kernel_rfl) (by kernel_rfl) (by kernel_rfl) (by first | omega | (simp only [List.length_map]; omega)) (by decide) ((cell_map hx _).trans rfl)) ?_
   refine g_e rfl (e_move (v := .lit _ _ _) rfl) ?_
   refine g_mS rfl rfl ?_
   refine g_e rfl (e_ixL rfl rfl) ?_
   refine g_e rfl (e_fb pl3 rfl) ?_
   refine g_e rfl (e_load (v := .sc _) rfl (by kernel_rfl) (by kernel_rfl) (by kernel_rfl) (by first | omega | (simp only [List.length_map]; omega)) (by decide) ((cell_map hy _).trans rfl)) ?_
   refine g_e rfl (e_ne rfl rfl) ?_
   refine g_mS rfl rfl ?_
   refine g_cases (fun hb17 => ?_) (fun hb17 => ?_)
   ·have hb17R := hb17; try simp only [zz] at hb17
    iterate 11 refine g_skip rfl rfl rfl ?_
    refine g_pT rfl rfl rfl ?_
    refine g_mS rfl rfl ?_
    iterate 10 refine g_skip rfl rfl rfl ?_
    refine g_nocall rfl rfl rfl ?_
    refine g_skip rfl rfl rfl ?_
    refine g_pT rfl rfl rfl ?_
    refine g_endR (ds := [29, 30, 31, 32, 33, 34, 35, 36, 37, 38, 39, 42, 43, 44, 45, 46, 47, 48, 49, 50, 51, 52, 53]) [0, 0, 3, 7, 15, 0, 0, 96, 224, 480, 1023, 2047, 4095, 4095, 16383, 32767, 65535, 4095, 4095, 397311, 921599, 1970175, 4194303, 8388607, 16777215, 33554431, 33554431, 134217727, 268435455, 536870911, 33554431, 33554431, 3254779903, 7549747199, 16139681791, 34359738367, 68719476735, 137438953471] (by kernel_rfl) rfl (hK16 _ ?_); clear hK16 K16
    refine pwp_cond (t := true) rfl (fun _ => ?_) nofun
    refine pwp_seq_plain rfl fun K18 hK18 => ?_
    refine p_aS rfl ?_
    refine p_end (hK18 _ ?_); clear hK18 K18
    refine pwp_ret ?_
    refine ret_block ?_
    refine ret_seq ?_
    refine ret_loop ?_
    refine ret_block ?_
    refine ret_seq ?_
    refine end1 (v := .sc _) rfl ?_
    first
      | exact out_b (same_l (by simp only [List.length_map] at *; omega))
      | exact out_b (same_f (fst_at hx) (fst_at hy) (dm_ne (.inl (by omega))))
      | exact out_b (same_f (fst_at hx) (fst_at hy) (dm_ne (.inr (.inl (by omega)))))
      | exact out_b (same_f (fst_at hx) (fst_at hy) (dm_ne (.inr (.inr (by first | assumption | simp_all)))))
      | exact out_b (same_t hin (by simp only [List.length_map]; exact hlen) (by simp only [List.length_map] at *; omega))
   ·have hb17R := hb17; try simp only [zz] at hb17
    refine g_e rfl (e_move (v := .lit _ _ _) rfl) ?_
    refine g_mS rfl rfl ?_
    refine g_e rfl (e_ixL rfl rfl) ?_
    refine g_e rfl (e_fb pl3 rfl) ?_
    refine g_e rfl (e_load (v := .sc _) rfl (by kernel_rfl) (by kernel_rfl) (by kernel_rfl) (by first | omega | (simp only [List.length_map]; omega)) (by decide) ((cell_map hx _).trans rfl)) ?_
    refine g_e rfl (e_move (v := .lit _ _ _) rfl) ?_
    refine g_mS rfl rfl ?_
    refine g_e rfl (e_ixL rfl rfl) ?_
    refine g_e rfl (e_fb pl3 rfl) ?_
    refine g_e rfl (e_load (v := .sc _) rfl (by kernel_rfl) (by kernel_rfl) (by kernel_rfl) (by first | omega | (simp only [List.length_map]; omega)) (by decide) ((cell_map hy _).trans rfl)) ?_
    refine g_e rfl (e_ne rfl rfl) ?_
    refine g_pF rfl rfl rfl ?_
    refine g_mS rfl rfl ?_
    refine g_cases (fun hb19 => ?_) (fun hb19 => ?_)
    ·have hb19R := hb19; try simp only [zz] at hb19
     iterate 10 refine g_skip rfl rfl rfl ?_
     refine g_nocall rfl rfl rfl ?_
     refine g_skip rfl rfl rfl ?_
     refine g_pT rfl rfl rfl ?_
     refine g_endR (ds := [29, 30, 31, 32, 33, 34, 35, 36, 37, 38, 39, 42, 43, 44, 45, 46, 47, 48, 49, 50, 51, 52, 53]) [0, 0, 3, 7, 15, 0, 0, 96, 224, 480, 1023, 2047, 4095, 4095, 16383, 32767, 65535, 4095, 4095, 397311, 921599, 1970175, 4194303, 8388607, 16777215, 33554431, 33554431, 134217727, 268435455, 536870911, 33554431, 33554431, 3254779903, 7549747199, 16139681791, 34359738367, 68719476735, 137438953471] (by kernel_rfl) rfl (hK16 _ ?_); clear hK16 K16
     refine pwp_cond (t := true) rfl (fun _ => ?_) nofun
     refine pwp_seq_plain rfl fun K20 hK20 => ?_
     refine p_aS rfl ?_
     refine p_end (hK20 _ ?_); clear hK20 K20
     refine pwp_ret ?_
     refine ret_block ?_
     refine ret_seq ?_
     refine ret_loop ?_
     refine ret_block ?_
     refine ret_seq ?_
     refine end1 (v := .sc _) rfl ?_
     first
       | exact out_b (same_l (by simp only [List.length_map] at *; omega))
       | exact out_b (same_f (fst_at hx) (fst_at hy) (dm_ne (.inl (by omega))))
       | exact out_b (same_f (fst_at hx) (fst_at hy) (dm_ne (.inr (.inl (by omega)))))
       | exact out_b (same_f (fst_at hx) (fst_at hy) (dm_ne (.inr (.inr (by first | assumption | simp_all)))))
       | exact out_b (same_t hin (by simp only [List.length_map]; exact hlen) (by simp only [List.length_map] at *; omega))
    ·have hb19R := hb19; try simp only [zz] at hb19
     refine g_e rfl (e_move (v := .lit _ _ _) rfl) ?_
     refine g_mS rfl rfl ?_
     refine g_e rfl (e_ixL rfl rfl) ?_
     refine g_e rfl (e_fb pl3 rfl) ?_
     refine g_e rfl (e_load (v := plQ x) rfl (by kernel_rfl) (by kernel_rfl) (by kernel_rfl) (by first | omega | (simp only [List.length_map]; omega)) (by decide) ((cell_map hx _).trans rfl)) ?_
     refine g_e rfl (e_move (v := .lit _ _ _) rfl) ?_
     refine g_mS rfl rfl ?_
     refine g_e rfl (e_ixL rfl rfl) ?_
     refine g_e rfl (e_fb pl3 rfl) ?_
     refine g_e rfl (e_load (v := plQ y) rfl (by kernel_rfl) (by kernel_rfl) (by kernel_rfl) (by first | omega | (simp only [List.length_map]; omega)) (by decide) ((cell_map hy _).trans rfl)) ?_
     refine g_call rfl rfl rfl rfl (.cons (inn_q hqx) (.cons (inn_q hqy) .nil)) (IntsC _ _ _ _ hxl hyl) ?_
     refine g_e rfl (e_not rfl) ?_
     refine g_pF rfl rfl rfl ?_
     refine g_endR (ds := [29, 30, 31, 32, 33, 34, 35, 36, 37, 38, 39, 42, 43, 44, 45, 46, 47, 48, 49, 50, 51, 52, 53]) [0, 0, 3, 7, 15, 0, 0, 96, 224, 480, 1023, 2047, 4095, 4095, 16383, 32767, 65535, 4095, 4095, 397311, 921599, 1970175, 4194303, 8388607, 16777215, 33554431, 33554431, 134217727, 268435455, 536870911, 33554431, 33554431, 3254779903, 7549747199, 16139681791, 34359738367, 68719476735, 137438953471] (by kernel_rfl) rfl (hK16 _ ?_); clear hK16 K16
     refine pwp_cond rfl (fun hb21 => ?_) (fun hb21 => ?_)
     ·have hb21R := hb21; try simp only [zz] at hb21
      refine pwp_seq_plain rfl fun K22 hK22 => ?_
      refine p_aS rfl ?_
      refine p_end (hK22 _ ?_); clear hK22 K22
      refine pwp_ret ?_
      refine ret_block ?_
      refine ret_seq ?_
      refine ret_loop ?_
      refine ret_block ?_
      refine ret_seq ?_
      refine end1 (v := .sc _) rfl ?_
      first
        | exact out_b (same_l (by simp only [List.length_map] at *; omega))
        | exact out_b (same_f (fst_at hx) (fst_at hy) (dm_ne (.inl (by omega))))
        | exact out_b (same_f (fst_at hx) (fst_at hy) (dm_ne (.inr (.inl (by omega)))))
        | exact out_b (same_f (fst_at hx) (fst_at hy) (dm_ne (.inr (.inr (by first | assumption | simp_all)))))
        | exact out_b (same_t hin (by simp only [List.length_map]; exact hlen) (by simp only [List.length_map] at *; omega))
     ·have hb21R := hb21; try simp only [zz] at hb21
      refine pwp_skip ?_
      refine block_norm ?_
      refine seq_norm (hK15 _ ?_); clear hK15 K15
      refine pwp_plain rfl fun K23 hK23 => ?_
      refine p_mS rfl ?_
      refine p_e rfl (e_adL rfl rfl) ?_
      refine p_aS rfl ?_
      refine p_end (hK23 _ ?_); clear hK23 K23
      exact loop_again (k + 1) (by show _ < _; omega) ⟨rfl, rfl, trivial⟩ ⟨rfl, trivial⟩ (by exact ⟨by show _ + 1 ≤ _; simp only [List.length_map] at *; omega, by exact same_s hin (fst_at hx) (fst_at hy) (dm_eq (by omega) (by omega) (by first | assumption | simp_all))⟩)
  ·have hb14R := hb14; try simp only [zz] at hb14
   refine pwp_exit ?_
   refine exit_seq ?_
   clear hK13 K13
   refine exit_loop ?_
   refine exit_here ?_
   refine seq_norm (hK7 _ ?_); clear hK7 K7
   refine pwp_seq_plain rfl fun K24 hK24 => ?_
   refine p_aS rfl ?_
   refine p_end (hK24 _ ?_); clear hK24 K24
   refine pwp_ret ?_
   refine end1 (v := .sc _) rfl ?_
   first
     | exact out_b (same_l (by simp only [List.length_map] at *; omega))
     | exact out_b (same_f (fst_at hx) (fst_at hy) (dm_ne (.inl (by omega))))
     | exact out_b (same_f (fst_at hx) (fst_at hy) (dm_ne (.inr (.inl (by omega)))))
     | exact out_b (same_f (fst_at hx) (fst_at hy) (dm_ne (.inr (.inr (by first | assumption | simp_all)))))
     | exact out_b (same_t hin (by simp only [List.length_map]; exact hlen) (by simp only [List.length_map] at *; omega))

end Go.Proofs.YtindehoegfiiaaaGreatDoor
