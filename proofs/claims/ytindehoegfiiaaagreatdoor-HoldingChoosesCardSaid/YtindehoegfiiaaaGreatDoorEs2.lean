/- Essential demands. No conditions. -/
import Derived.Test.YtindehoegfiiaaaGreatDoorEs1
set_option linter.unusedSimpArgs false
set_option linter.unusedVariables false
set_option maxRecDepth 100000
namespace Go.Proofs.YtindehoegfiiaaaGreatDoor
open Go Go.Pv
def wdP (x : Demand) : List Nat := wds x.places
section
variable {α β : Type} {f : α → β} {xs : List α} {x : α} {k : Nat}
theorem tkm_s (hx : xs[k]? = some x) : (xs.take (k + 1)).map f = (xs.take k).map f ++ [f x] := by
 obtain ⟨hk, rfl⟩ := List.getElem?_eq_some_iff.1 hx
 rw [List.take_succ_eq_append_getElem hk, List.map_append]; rfl
theorem map_at (hx : xs[k]? = some x) : (xs.map f)[k]? = some (f x) := by rw [List.getElem?_map, hx]; rfl
end
section
variable {p : Nat → Bool} {k : Nat} {b : Bool}
theorem kb_t (h : p k = true) : false = !((List.range (k + 1)).any p) := by rw [range_any, h, Bool.or_true]; rfl
theorem kb_f (hb : b = !((List.range k).any p)) (h : p k = false) : b = !((List.range (k + 1)).any p) := by rw [range_any, h, Bool.or_false]; exact hb
end
section
variable {d : List Demand} {x y : Demand} {i k : Nat} {b : Bool}
theorem es_small (h : demE 1800 d = 0) (hx : x ∈ d) : Small x.places := fun n hn => by have := ((demE_inv h).2 x hx).1 n hn; omega
theorem es_sub (h : demE 1800 d = 0) (hx : d[i]? = some x) (hy : d[k]? = some y) : subW (wdP x) (wdP y) = subL (plA d i) (plA d k) := by
 rw [plA_at hx, plA_at hy]; exact subW_eq (es_small h (List.mem_of_getElem? hx)) (es_small h (List.mem_of_getElem? hy))
theorem strO_t (h1 : k ≠ i) (h2 : subL (plA d k) (plA d i) = true) (h3 : k < i ∨ subL (plA d i) (plA d k) = false) : strO d i k = true := by
 rw [strO, h2, decide_eq_true h1]
 rcases h3 with h | h
 · rw [decide_eq_true h]; rfl
 · rw [h]; simp
theorem strO_f (h : k = i ∨ subL (plA d k) (plA d i) = false ∨ (¬ k < i ∧ subL (plA d i) (plA d k) = true)) : strO d i k = false := by
 rw [strO]
 rcases h with h | h | ⟨h, h2⟩
 · rw [decide_eq_false (fun q => q h)]; rfl
 · rw [h]; simp
 · rw [decide_eq_false h, h2]; simp
theorem map_S (d : List Demand) : (d.map wdP).map encS = d.map (fun x => encS (wdP x)) := by rw [List.map_map]; rfl
theorem out_S {h : Heap} {d0 : Nat} {v : PV} (hs : SliceAt h d0 v 29 ((d.map wdP).map encS)) : Out h v (.lit false 29 ((d.map wdP).map encS)) := by
 rw [map_S] at hs ⊢
 exact out_slice hs rfl (fun a => encS_len) (fun a p hp => ⟨encS_clean _ p hp, List.all_eq_true.1 (encS_cell _) p hp⟩)
end

theorem fr72 : (inFrame Tryz.f72.ntmps (Tryz.f72.body.getD .skip) && Tryz.f72.results.toList.all (resScope Tryz.f72.ntmps)) = true := by kernel_rfl
theorem setsC (t t2 : Bool) (d : List Demand) (hd : d.length ≤ 100000) (hp : ∀ x ∈ d, x.places.length ≤ 100000) (h0 : demE 1800 d = 0) : PCalls Tryz.prog 72 [.lit t2 3 (d.map (encT t))] (.lit false 29 ((d.map wdP).map encS)) := by
 refine PCalls.of_code Tryz.func72 rfl rfl (by kernel_rfl) mixed fr72 (by show _ ≤ 20; simp) (.lit _ _ _ fun row hr => pure_map encS_pure row hr) ?_
 refine pwp_seq_plain rfl fun K1 hK1 => ?_
 refine p_e rfl (e_assign (v := .nil) rfl) ?_
 refine p_end (hK1 _ ?_); clear hK1 K1
 refine pwp_seq_plain rfl fun K2 hK2 => ?_
 refine p_e rfl (e_assign (v := .nil) rfl) ?_
 refine p_end (hK2 _ ?_); clear hK2 K2
 refine pwp_seq_seq ?_
 refine pwp_seq_plain rfl fun K3 hK3 => ?_
 refine p_e rfl (e_move (v := .lit _ _ _) rfl) ?_
 refine p_e rfl (e_len rfl (by kernel_rfl)) ?_
 refine p_mS rfl ?_
 refine p_end (hK3 _ ?_); clear hK3 K3
 refine pwp_seq_block fun K4 hK4 => ?_
 refine pwp_loopR (α := Nat × PV) [6, 7] (fun (a5 : Nat × PV) => [(3, (a5.2)), (8, .int (a5.1))]) (fun (a5 : Nat × PV) (h : Heap) (_ : Nat → Nat) => ((a5.1) ≤ d.length) ∧ (SliceAt h 17 (a5.2) 29 ((((d.take (a5.1)).map wdP)).map encS))) (fun (a5 : Nat × PV) => d.length - (a5.1)) (0, .nil) (by exact ⟨rfl, rfl, trivial⟩) (by exact ⟨by exact Nat.zero_le _, .nil⟩) fun a5 r6 h7 c8 hj9 => ?_
 obtain ⟨k, v⟩ := a5
 obtain ⟨hk, hihj9_0⟩ := hj9
 try dsimp only at hk
 try dsimp only at hihj9_0
 show pwp _ _ (loopQ _ _ _) ⟨sets (mix _ _ _) [(3, v), (8, .int k)], _, _⟩
 refine pwp_seq_plain rfl fun K10 hK10 => ?_
 refine p_e rfl (e_lt rfl rfl) ?_
 refine p_end (hK10 _ ?_); clear hK10 K10
 refine pwp_seq_cond rfl fun K11 hK11 => ⟨fun hb12 => ?_, fun hb12 => ?_⟩
 ·have hb12R := hb12; try simp only [zz] at hb12
  obtain ⟨x, hx, hdr, ht⟩ := get_lt (xs := d) (i := k) (by omega)
  have hxp := hp x (List.mem_of_getElem? hx)
  have hsm := es_small h0 (List.mem_of_getElem? hx)
  refine pwp_skip ?_
  refine seq_norm (hK11 _ ?_); clear hK11 K11
  refine pwp_seq_block fun K13 hK13 => ?_
  refine pwp_seq_plain rfl fun K14 hK14 => ?_
  refine p_e rfl (e_ixL rfl rfl) ?_
  refine p_e rfl (e_loadA (n := 3) rfl (by kernel_rfl) (by kernel_rfl) (by kernel_rfl) (by first | omega | (simp only [List.length_map]; omega)) (by decide) (by first | exact agg_map hx rfl)) ?_
  refine p_new rfl (e_alloc (cs := [.int 0, .int 0, .nil]) (n := 3) (by kernel_rfl) rfl (by decide)) (ob_alloc (by decide)) ?_
  refine p_store rfl (e_storeA rfl (hset_self _ _ _) rfl rfl rfl (by kernel_rfl) rfl (by kernel_rfl)) trivial ?_
  refine p_end (hK14 _ ?_); clear hK14 K14
  refine pwp_plain rfl fun K15 hK15 => ?_
  refine p_e rfl (e_move (v := _) rfl) ?_
  refine p_e rfl (e_faQ pl3 rfl) ?_
  refine p_e rfl (e_lH (v := .lit _ _ _) rfl (hset_self _ _ _) rfl) ?_
  refine p_call rfl (.cons inn_lit .nil) (setOfC _ _ (by omega) hsm) ?_
  refine p_new rfl (e_bslice (rows := [encS (wdP x)]) (zs := [.sc (.int .u64 0), .sc (.int .u64 0), .sc (.int .u64 0), .sc (.int .u64 0), .sc (.int .u64 0), .sc (.int .u64 0), .sc (.int .u64 0), .sc (.int .u64 0), .sc (.int .u64 0), .sc (.int .u64 0), .sc (.int .u64 0), .sc (.int .u64 0), .sc (.int .u64 0), .sc (.int .u64 0), .sc (.int .u64 0), .sc (.int .u64 0), .sc (.int .u64 0), .sc (.int .u64 0), .sc (.int .u64 0), .sc (.int .u64 0), .sc (.int .u64 0), .sc (.int .u64 0), .sc (.int .u64 0), .sc (.int .u64 0), .sc (.int .u64 0), .sc (.int .u64 0), .sc (.int .u64 0), .sc (.int .u64 0), .sc (.int .u64 0)]) (sz := 29) (by kernel_rfl) (by kernel_rfl) rfl (by kernel_rfl) (by decide) rfl rfl (by exact ⟨by decide, encS_len, (encS_cell _), trivial⟩) rfl) trivial ?_
  refine p_app rfl rfl rfl (hihj9_0.keep fun _ => (hset_ne (key_ne rfl)).trans ((hset_ne (key_ne rfl)).trans ((hset_ne (key_ne rfl)).trans (rfl)))) (src_ref (hset_self _ _ _) rfl) (by kernel_rfl) (by simp only [List.length_append, List.length_map, List.length_nil, List.length_cons, List.length_take]; omega) fun v16 h17 c18 hs19 hf20 => ?_
  have ho21 := (hf20 (5, _) (key_ne rfl) (fun _ _ => key_ne rfl)).trans ((hset_ne (key_ne rfl)).trans (hset_self _ _ _))
  have ho22 := (hf20 (16, _) (key_ne rfl) (fun _ _ => key_ne rfl)).trans (hset_self _ _ _)
  refine p_e rfl (e_assign (v := _) rfl) ?_
  refine p_end (hK15 _ ?_); clear hK15 K15
  refine block_norm ?_
  refine seq_norm (hK13 _ ?_); clear hK13 K13
  refine pwp_plain rfl fun K23 hK23 => ?_
  refine p_e rfl (e_adL rfl rfl) ?_
  refine p_mS rfl ?_
  refine p_end (hK23 _ ?_); clear hK23 K23
  exact loop_again ((k + 1, v16)) (by show _ < _; simp only; omega) ⟨rfl, rfl, trivial⟩ ⟨rfl, rfl, trivial⟩ (by exact ⟨by show _ + 1 ≤ _; simp only [List.length_map] at *; omega, (SliceAt.to hs19 (by rw [tkm_s hx, List.map_append]; rfl))⟩)
 ·have hb12R := hb12; try simp only [zz] at hb12
  have hkl : k = d.length := by simp only [List.length_map] at *; omega
  refine pwp_exit ?_
  refine exit_seq ?_
  clear hK11 K11
  refine exit_loop ?_
  refine exit_here ?_
  refine seq_norm (hK4 _ ?_); clear hK4 K4
  refine pwp_seq_plain rfl fun K24 hK24 => ?_
  refine p_e rfl (e_move (v := _) rfl) ?_
  refine p_e rfl (e_assign (v := _) rfl) ?_
  refine p_end (hK24 _ ?_); clear hK24 K24
  refine pwp_ret ?_
  refine end1 (v := _) rfl ?_
  first
    | exact out_S (SliceAt.to hihj9_0 (by rw [hkl, List.take_length]))

theorem fr113 : (inFrame Tryz.f113.ntmps (Tryz.f113.body.getD .skip) && Tryz.f113.results.toList.all (resScope Tryz.f113.ntmps)) = true := by kernel_rfl
theorem inW (t t2 : Bool) (S S2 : List (List Nat)) (i j : Nat) (a b : List Nat) (ha : S[i]? = some a) (hb : S2[j]? = some b) (hla : a.length = 29) (hlb : b.length = 29) (hA : ∀ j, a.getD j 0 < 18446744073709551616) (hB : ∀ j, b.getD j 0 < 18446744073709551616) : PCalls Tryz.prog 113 [.lptr t 29 (S.map encS) i 0, .lptr t2 29 (S2.map encS) j 0] (.bool (subW a b)) := by
 refine PCalls.of_code Tryz.func113 rfl rfl (by kernel_rfl) mixed fr113 (by show _ ≤ 22; simp) (.sc _) ?_
 refine pwp_seq_plain rfl fun K1 hK1 => ?_
 refine p_aS rfl ?_
 refine p_end (hK1 _ ?_); clear hK1 K1
 refine pwp_seq_seq ?_
 refine pwp_seq_plain rfl fun K2 hK2 => ?_
 refine p_mS rfl ?_
 refine p_end (hK2 _ ?_); clear hK2 K2
 refine pwp_seq_block fun K3 hK3 => ?_
 refine pwp_loopR (α := Nat) [0, 1] (fun (k : Nat) => [(6, .int (k))]) (fun (k : Nat) (h : Heap) (_ : Nat → Nat) => ((k) ≤ 29) ∧ (SubI a b (k))) (fun (k : Nat) => 29 - (k)) (0) (by exact ⟨rfl, trivial⟩) (by exact ⟨by exact Nat.zero_le _, by exact fun i h => absurd h (Nat.not_lt_zero _)⟩) fun k r4 h5 c6 hj7 => ?_
 obtain ⟨hk, hin⟩ := hj7
 try dsimp only at hk
 try dsimp only at hin
 show pwp _ _ (loopQ _ _ _) ⟨sets (mix _ _ _) [(6, .int k)], _, _⟩
 refine pwp_seq_plain rfl fun K8 hK8 => ?_
 refine p_e rfl (e_lt rfl rfl) ?_
 refine p_end (hK8 _ ?_); clear hK8 K8
 refine pwp_seq_cond rfl fun K9 hK9 => ⟨fun hb10 => ?_, fun hb10 => ?_⟩
 ·have hb10R := hb10; try simp only [zz] at hb10
  have hk29 : k < 29 := by omega
  refine pwp_skip ?_
  refine seq_norm (hK9 _ ?_); clear hK9 K9
  refine pwp_seq_block fun K11 hK11 => ?_
  refine pwp_seq_plain rfl fun K12 hK12 => ?_
  refine p_mS rfl ?_
  refine p_aS rfl ?_
  refine p_end (hK12 _ ?_); clear hK12 K12
  refine pwp_seq_gops rfl fun K13 hK13 => ?_
  refine g_begin ?_
  refine g_e rfl (e_move (v := .lptr _ _ _ _ _) rfl) ?_
  refine g_mS rfl rfl ?_
  refine g_e rfl (e_nilL rfl) ?_
  refine g_e rfl (e_ixaL (n := 29) (e := 134) rfl rfl (by kernel_rfl) (by kernel_rfl) ⟨by omega, by omega⟩) ?_
  refine g_e rfl (e_load (v := cw (a.getD k 0)) rfl (by kernel_rfl) (by kernel_rfl) (by kernel_rfl) (by rw [List.length_map]; exact (List.getElem?_eq_some_iff.1 ha).1) (by omega) (cell_S ha hla (by omega))) ?_
  refine g_e rfl (e_move (v := .lptr _ _ _ _ _) rfl) ?_
  refine g_mS rfl rfl ?_
  refine g_e rfl (e_nilL rfl) ?_
  refine g_e rfl (e_ixaL (n := 29) (e := 134) rfl rfl (by kernel_rfl) (by kernel_rfl) ⟨by omega, by omega⟩) ?_
  refine g_e rfl (e_load (v := cw (b.getD k 0)) rfl (by kernel_rfl) (by kernel_rfl) (by kernel_rfl) (by rw [List.length_map]; exact (List.getElem?_eq_some_iff.1 hb).1) (by omega) (cell_S hb hlb (by omega))) ?_
  refine g_e rfl (e_an64 rfl rfl (hA k) (hB k)) ?_
  refine g_e rfl (e_ne64 rfl rfl) ?_
  refine g_end (ds := []) (by kernel_rfl) rfl (hK13 _ ?_); clear hK13 K13
  refine pwp_cond rfl (fun hb14 => ?_) (fun hb14 => ?_)
  ·have hb14R := hb14; try simp only [zz] at hb14
   refine pwp_seq_plain rfl fun K15 hK15 => ?_
   refine p_aS rfl ?_
   refine p_end (hK15 _ ?_); clear hK15 K15
   refine pwp_ret ?_
   refine ret_block ?_
   refine ret_seq ?_
   refine ret_loop ?_
   refine ret_block ?_
   refine ret_seq ?_
   refine end1 (v := .sc _) rfl ?_
   first
     | exact out_b (subW_t hin (by omega))
     | exact out_b (subW_f (by omega) (by first | assumption | simp_all))
  ·have hb14R := hb14; try simp only [zz] at hb14
   refine pwp_skip ?_
   refine block_norm ?_
   refine seq_norm (hK11 _ ?_); clear hK11 K11
   refine pwp_plain rfl fun K16 hK16 => ?_
   refine p_e rfl (e_adL rfl rfl) ?_
   refine p_mS rfl ?_
   refine p_end (hK16 _ ?_); clear hK16 K16
   exact loop_again (k + 1) (by show _ < _; omega) ⟨rfl, rfl, trivial⟩ ⟨rfl, trivial⟩ (by exact ⟨by show _ + 1 ≤ _; omega, by exact subI_s hin (by first | assumption | simp_all)⟩)
 ·have hb10R := hb10; try simp only [zz] at hb10
  refine pwp_exit ?_
  refine exit_seq ?_
  clear hK9 K9
  refine exit_loop ?_
  refine exit_here ?_
  refine seq_norm (hK3 _ ?_); clear hK3 K3
  refine pwp_seq_plain rfl fun K17 hK17 => ?_
  refine p_aS rfl ?_
  refine p_end (hK17 _ ?_); clear hK17 K17
  refine pwp_ret ?_
  refine end1 (v := .sc _) rfl ?_
  first
    | exact out_b (subW_t hin (by omega))
    | exact out_b (subW_f (by omega) (by first | assumption | simp_all))

theorem fr73 : (inFrame Tryz.f73.ntmps (Tryz.f73.body.getD .skip) && Tryz.f73.results.toList.all (resScope Tryz.f73.ntmps)) = true := by kernel_rfl
theorem essentialC (t : Bool) (d : List Demand) (hd : d.length ≤ 100000) (h0 : demE 1800 d = 0) : PCalls Tryz.prog 73 [.lit t 29 ((d.map wdP).map encS)] (.lit false 1 ((essL d d.length).map ci)) := by
 refine PCalls.of_code Tryz.func73 rfl rfl (by kernel_rfl) mixed fr73 (by show _ ≤ 55; simp) (.lit _ _ _ fun row hr => pure_map ci_pure row hr) ?_
 refine pwp_seq_plain rfl fun K1 hK1 => ?_
 refine p_e rfl (e_assign (v := .nil) rfl) ?_
 refine p_end (hK1 _ ?_); clear hK1 K1
 refine pwp_seq_plain rfl fun K2 hK2 => ?_
 refine p_e rfl (e_assign (v := .nil) rfl) ?_
 refine p_end (hK2 _ ?_); clear hK2 K2
 refine pwp_seq_seq ?_
 refine pwp_seq_plain rfl fun K3 hK3 => ?_
 refine p_e rfl (e_move (v := .lit _ _ _) rfl) ?_
 refine p_e rfl (e_len rfl (by kernel_rfl)) ?_
 refine p_mS rfl ?_
 refine p_end (hK3 _ ?_); clear hK3 K3
 refine pwp_seq_block fun K4 hK4 => ?_
 refine pwp_loopR (α := Nat × PV) [0, 8] (fun (a5 : Nat × PV) => [(3, (a5.2)), (9, .int (a5.1))]) (fun (a5 : Nat × PV) (h : Heap) (_ : Nat → Nat) => ((a5.1) ≤ d.length) ∧ (SliceAt h 52 (a5.2) 1 ((essL d (a5.1)).map ci))) (fun (a5 : Nat × PV) => d.length - (a5.1)) (0, .nil) (by exact ⟨rfl, rfl, trivial⟩) (by exact ⟨by exact Nat.zero_le _, .nil⟩) fun a5 r6 h7 c8 hj9 => ?_
 obtain ⟨i, v⟩ := a5
 obtain ⟨hi, hihj9_0⟩ := hj9
 try dsimp only at hi
 try dsimp only at hihj9_0
 show pwp _ _ (loopQ _ _ _) ⟨sets (mix _ _ _) [(3, v), (9, .int i)], _, _⟩
 refine pwp_seq_plain rfl fun K10 hK10 => ?_
 refine p_e rfl (e_lt rfl rfl) ?_
 refine p_end (hK10 _ ?_); clear hK10 K10
 refine pwp_seq_cond rfl fun K11 hK11 => ⟨fun hb12 => ?_, fun hb12 => ?_⟩
 ·have hb12R := hb12; try simp only [zz] at hb12
  have hil : i < d.length := by simp only [List.length_map] at *; omega
  obtain ⟨x, hx⟩ : ∃ x, d[i]? = some x := ⟨_, List.getElem?_eq_getElem hil⟩
  have hxi := map_at (f := wdP) hx
  have hel := ess_len (D := d) (i := i)
  refine pwp_skip ?_
  refine seq_norm (hK11 _ ?_); clear hK11 K11
  refine pwp_seq_block fun K13 hK13 => ?_
  refine pwp_seq_plain rfl fun K14 hK14 => ?_
  refine p_mS rfl ?_
  refine p_aS rfl ?_
  refine p_end (hK14 _ ?_); clear hK14 K14
  refine pwp_seq_plain rfl fun K15 hK15 => ?_
  refine p_aS rfl ?_
  refine p_end (hK15 _ ?_); clear hK15 K15
  refine pwp_seq_seq ?_
  refine pwp_seq_plain rfl fun K16 hK16 => ?_
  refine p_aS rfl ?_
  refine p_end (hK16 _ ?_); clear hK16 K16
  refine pwp_seq_block fun K17 hK17 => ?_
  refine pwp_loopR (α := Nat × Bool) [0, 3, 4, 8, 9] (fun (a18 : Nat × Bool) => [(5, .bool (a18.2)), (6, .int (a18.1))]) (fun (a18 : Nat × Bool) (h : Heap) (_ : Nat → Nat) => ((a18.1) ≤ d.length) ∧ ((a18.2) = !((List.range (a18.1)).any (strO d i))) ∧ (SliceAt h 52 v 1 ((essL d i).map ci))) (fun (a18 : Nat × Bool) => d.length - (a18.1)) (0, true) (by exact ⟨rfl, rfl, trivial⟩) (by exact ⟨by exact Nat.zero_le _, by exact rfl, hihj9_0⟩) fun a18 r19 h20 c21 hj22 => ?_
  obtain ⟨k, b⟩ := a18
  obtain ⟨hk, hb, hihj22_0⟩ := hj22
  try dsimp only at hk
  try dsimp only at hb
  try dsimp only at hihj22_0
  show pwp _ _ (loopQ _ _ _) ⟨sets (mix _ _ _) [(5, .bool b), (6, .int k)], _, _⟩
  refine pwp_seq_seq ?_
  refine pwp_seq_gops rfl fun K23 hK23 => ?_
  refine g_begin ?_
  refine g_mS rfl rfl ?_
  refine g_e rfl (e_move (v := .lit _ _ _) rfl) ?_
  refine g_e rfl (e_len rfl (by kernel_rfl)) ?_
  refine g_e rfl (e_lt rfl rfl) ?_
  refine g_mS rfl rfl ?_
  refine g_cases (fun hb24 => ?_) (fun hb24 => ?_)
  ·have hb24R := hb24; try simp only [zz] at hb24
   refine g_mS rfl rfl ?_
   refine g_pT rfl rfl rfl ?_
   refine g_end (ds := [17]) rfl rfl (hK23 _ ?_); clear hK23 K23
   refine pwp_seq_cond rfl fun K25 hK25 => ⟨fun hb26 => ?_, fun hb26 => ?_⟩
   ·have hb26R := hb26; try simp only [zz] at hb26
    have hkd : k < d.length := by simp only [List.length_map] at *; omega
    obtain ⟨y, hy⟩ : ∃ y, d[k]? = some y := ⟨_, List.getElem?_eq_getElem hkd⟩
    have hyk := map_at (f := wdP) hy
    have hs1 := es_sub h0 hy hx
    have hs2 := es_sub h0 hx hy
    refine pwp_skip ?_
    refine seq_norm (hK25 _ ?_); clear hK25 K25
    refine pwp_seq_block fun K27 hK27 => ?_
    refine pwp_seq_gops rfl fun K28 hK28 => ?_
    refine g_begin ?_
    refine g_mS rfl rfl ?_
    refine g_mS rfl rfl ?_
    refine g_e rfl (e_ne rfl rfl) ?_
    refine g_mS rfl rfl ?_
    refine g_cases (fun hb29 => ?_) (fun hb29 => ?_)
    ·have hb29R := hb29; try simp only [zz] at hb29
     refine g_e rfl (e_move (v := .lit _ _ _) rfl) ?_
     refine g_mS rfl rfl ?_
     refine g_e rfl (e_ixL rfl rfl) ?_
     refine g_e rfl (e_move (v := .lit _ _ _) rfl) ?_
     refine g_mS rfl rfl ?_
     refine g_e rfl (e_ixL rfl rfl) ?_
     refine g_call rfl rfl rfl rfl (.cons inn_lptr (.cons inn_lptr .nil)) (inW _ _ (d.map wdP) (d.map wdP) k i (wdP y) (wdP x) hyk hxi wds_len wds_len (wds_b _) (wds_b _)) ?_
     refine g_pT rfl rfl rfl ?_
     refine g_mS rfl rfl ?_
     refine g_cases (fun hb30 => ?_) (fun hb30 => ?_)
     ·have hb30R := hb30; try simp only [zz] at hb30
      refine g_mS rfl rfl ?_
      refine g_mS rfl rfl ?_
      refine g_e rfl (e_lt rfl rfl) ?_
      refine g_mS rfl rfl ?_
      refine g_cases (fun hb31 => ?_) (fun hb31 => ?_)
      ·have hb31R := hb31; try simp only [zz] at hb31
       iterate 6 refine g_skip rfl rfl rfl ?_
       refine g_nocall rfl rfl rfl ?_
       refine g_skip rfl rfl rfl ?_
       refine g_pT rfl rfl rfl ?_
       refine g_pT rfl rfl rfl ?_
       refine g_endR (ds := [25, 26, 27, 28, 29, 30, 31, 34, 35, 36, 37, 38, 39, 40, 41, 42, 43, 44, 45, 46]) [0, 0, 3, 7, 15, 15, 63, 15, 15, 399, 1023, 2047, 4095, 8191, 8191, 32767, 65535, 131071, 131071, 524287, 131071, 131071, 3276799, 8388607, 16777215, 33554431, 67108863] (by kernel_rfl) rfl (hK28 _ ?_); clear hK28 K28
       refine pwp_cond (t := true) rfl (fun _ => ?_) nofun
       refine pwp_plain rfl fun K32 hK32 => ?_
       refine p_aS rfl ?_
       refine p_end (hK32 _ ?_); clear hK32 K32
       refine block_norm ?_
       refine seq_norm (hK27 _ ?_); clear hK27 K27
       refine pwp_plain rfl fun K33 hK33 => ?_
       refine p_mS rfl ?_
       refine p_e rfl (e_adL rfl rfl) ?_
       refine p_aS rfl ?_
       refine p_end (hK33 _ ?_); clear hK33 K33
       exact loop_again ((k + 1, false)) (by show _ < _; simp only; omega) ⟨rfl, rfl, rfl, rfl, rfl, trivial⟩ ⟨rfl, rfl, trivial⟩ (by exact ⟨by show _ + 1 ≤ _; simp only [List.length_map] at *; omega, by first | exact kb_t (strO_t (by omega) (by rw [← hs1]; assumption) (by first | exact .inl (by omega) | exact .inr (by rw [← hs2]; assumption))) | exact kb_f hb (strO_f (by first | exact .inl (by omega) | exact .inr (.inl (by rw [← hs1]; assumption)) | exact .inr (.inr ⟨by omega, by rw [← hs2]; assumption⟩))), hihj22_0⟩)
      ·have hb31R := hb31; try simp only [zz] at hb31
       refine g_e rfl (e_move (v := .lit _ _ _) rfl) ?_
       refine g_mS rfl rfl ?_
       refine g_e rfl (e_ixL rfl rfl) ?_
       refine g_e rfl (e_move (v := .lit _ _ _) rfl) ?_
       refine g_mS rfl rfl ?_
       refine g_e rfl (e_ixL rfl rfl) ?_
       refine g_call rfl rfl rfl rfl (.cons inn_lptr (.cons inn_lptr .nil)) (inW _ _ (d.map wdP) (d.map wdP) i k (wdP x) (wdP y) hxi hyk wds_len wds_len (wds_b _) (wds_b _)) ?_
       refine g_e rfl (e_not rfl) ?_
       refine g_pF rfl rfl rfl ?_
       refine g_pT rfl rfl rfl ?_
       refine g_endR (ds := [25, 26, 27, 28, 29, 30, 31, 34, 35, 36, 37, 38, 39, 40, 41, 42, 43, 44, 45, 46]) [0, 0, 3, 7, 15, 15, 63, 15, 15, 399, 1023, 2047, 4095, 8191, 8191, 32767, 65535, 131071, 131071, 524287, 131071, 131071, 3276799, 8388607, 16777215, 33554431, 67108863] (by kernel_rfl) rfl (hK28 _ ?_); clear hK28 K28
       refine pwp_cond rfl (fun hb34 => ?_) (fun hb34 => ?_)
       ·have hb34R := hb34; try simp only [zz] at hb34
        refine pwp_plain rfl fun K35 hK35 => ?_
        refine p_aS rfl ?_
        refine p_end (hK35 _ ?_); clear hK35 K35
        refine block_norm ?_
        refine seq_norm (hK27 _ ?_); clear hK27 K27
        refine pwp_plain rfl fun K36 hK36 => ?_
        refine p_mS rfl ?_
        refine p_e rfl (e_adL rfl rfl) ?_
        refine p_aS rfl ?_
        refine p_end (hK36 _ ?_); clear hK36 K36
        exact loop_again ((k + 1, false)) (by show _ < _; simp only; omega) ⟨rfl, rfl, rfl, rfl, rfl, trivial⟩ ⟨rfl, rfl, trivial⟩ (by exact ⟨by show _ + 1 ≤ _; simp only [List.length_map] at *; omega, by first | exact kb_t (strO_t (by omega) (by rw [← hs1]; assumption) (by first | exact .inl (by omega) | exact .inr (by rw [← hs2]; assumption))) | exact kb_f hb (strO_f (by first | exact .inl (by omega) | exact .inr (.inl (by rw [← hs1]; assumption)) | exact .inr (.inr ⟨by omega, by rw [← hs2]; assumption⟩))), hihj22_0⟩)
       ·have hb34R := hb34; try simp only [zz] at hb34
        refine pwp_skip ?_
        refine block_norm ?_
        refine seq_norm (hK27 _ ?_); clear hK27 K27
        refine pwp_plain rfl fun K37 hK37 => ?_
        refine p_mS rfl ?_
        refine p_e rfl (e_adL rfl rfl) ?_
        refine p_aS rfl ?_
        refine p_end (hK37 _ ?_); clear hK37 K37
        exact loop_again ((k + 1, b)) (by show _ < _; simp only; omega) ⟨rfl, rfl, rfl, rfl, rfl, trivial⟩ ⟨rfl, rfl, trivial⟩ (by exact ⟨by show _ + 1 ≤ _; simp only [List.length_map] at *; omega, by first | exact kb_t (strO_t (by omega) (by rw [← hs1]; assumption) (by first | exact .inl (by omega) | exact .inr (by rw [← hs2]; assumption))) | exact kb_f hb (strO_f (by first | exact .inl (by omega) | exact .inr (.inl (by rw [← hs1]; assumption)) | exact .inr (.inr ⟨by omega, by rw [← hs2]; assumption⟩))), hihj22_0⟩)
     ·have hb30R := hb30; try simp only [zz] at hb30
      iterate 10 refine g_skip rfl rfl rfl ?_
      refine g_nocall rfl rfl rfl ?_
      iterate 2 refine g_skip rfl rfl rfl ?_
      refine g_pF rfl rfl rfl ?_
      refine g_endR (ds := [25, 26, 27, 28, 29, 30, 31, 34, 35, 36, 37, 38, 39, 40, 41, 42, 43, 44, 45, 46]) [0, 0, 3, 7, 15, 15, 63, 15, 15, 399, 1023, 2047, 4095, 8191, 8191, 32767, 65535, 131071, 131071, 524287, 131071, 131071, 3276799, 8388607, 16777215, 33554431, 67108863] (by kernel_rfl) rfl (hK28 _ ?_); clear hK28 K28
      refine pwp_cond (t := false) rfl nofun (fun _ => ?_)
      refine pwp_skip ?_
      refine block_norm ?_
      refine seq_norm (hK27 _ ?_); clear hK27 K27
      refine pwp_plain rfl fun K38 hK38 => ?_
      refine p_mS rfl ?_
      refine p_e rfl (e_adL rfl rfl) ?_
      refine p_aS rfl ?_
      refine p_end (hK38 _ ?_); clear hK38 K38
      exact loop_again ((k + 1, b)) (by show _ < _; simp only; omega) ⟨rfl, rfl, rfl, rfl, rfl, trivial⟩ ⟨rfl, rfl, trivial⟩ (by exact ⟨by show _ + 1 ≤ _; simp only [List.length_map] at *; omega, by first | exact kb_t (strO_t (by omega) (by rw [← hs1]; assumption) (by first | exact .inl (by omega) | exact .inr (by rw [← hs2]; assumption))) | exact kb_f hb (strO_f (by first | exact .inl (by omega) | exact .inr (.inl (by rw [← hs1]; assumption)) | exact .inr (.inr ⟨by omega, by rw [← hs2]; assumption⟩))), hihj22_0⟩)
    ·have hb29R := hb29; try simp only [zz] at hb29
     iterate 6 refine g_skip rfl rfl rfl ?_
     refine g_nocall rfl rfl rfl ?_
     refine g_pF rfl rfl rfl ?_
     refine g_mS rfl rfl ?_
     iterate 10 refine g_skip rfl rfl rfl ?_
     refine g_nocall rfl rfl rfl ?_
     iterate 2 refine g_skip rfl rfl rfl ?_
     refine g_pF rfl rfl rfl ?_
     refine g_endR (ds := [25, 26, 27, 28, 29, 30, 31, 34, 35, 36, 37, 38, 39, 40, 41, 42, 43, 44, 45, 46]) [0, 0, 3, 7, 15, 15, 63, 15, 15, 399, 1023, 2047, 4095, 8191, 8191, 32767, 65535, 131071, 131071, 524287, 131071, 131071, 3276799, 8388607, 16777215, 33554431, 67108863] (by kernel_rfl) rfl (hK28 _ ?_); clear hK28 K28
     refine pwp_cond (t := false) rfl nofun (fun _ => ?_)
     refine pwp_skip ?_
     refine block_norm ?_
     refine seq_norm (hK27 _ ?_); clear hK27 K27
     refine pwp_plain rfl fun K39 hK39 => ?_
     refine p_mS rfl ?_
     refine p_e rfl (e_adL rfl rfl) ?_
     refine p_aS rfl ?_
     refine p_end (hK39 _ ?_); clear hK39 K39
     exact loop_again ((k + 1, b)) (by show _ < _; simp only; omega) ⟨rfl, rfl, rfl, rfl, rfl, trivial⟩ ⟨rfl, rfl, trivial⟩ (by exact ⟨by show _ + 1 ≤ _; simp only [List.length_map] at *; omega, by first | exact kb_t (strO_t (by omega) (by rw [← hs1]; assumption) (by first | exact .inl (by omega) | exact .inr (by rw [← hs2]; assumption))) | exact kb_f hb (strO_f (by first | exact .inl (by omega) | exact .inr (.inl (by rw [← hs1]; assumption)) | exact .inr (.inr ⟨by omega, by rw [← hs2]; assumption⟩))), hihj22_0⟩)
   ·have hb26R := hb26; try simp only [zz] at hb26
    refine pwp_exit ?_
    refine exit_seq ?_
    clear hK25 K25
    refine exit_loop ?_
    refine exit_here ?_
    refine seq_norm (hK17 _ ?_); clear hK17 K17
    have hkb : b = keptB d i := kept_end hb hk (by first | exact .inl (by simp only [List.length_map] at *; omega) | exact .inr (by first | assumption | simp_all))
    refine pwp_seq_plain rfl fun K40 hK40 => ?_
    refine p_mS rfl ?_
    refine p_end (hK40 _ ?_); clear hK40 K40
    refine pwp_cond rfl (fun hb41 => ?_) (fun hb41 => ?_)
    ·have hb41R := hb41; try simp only [zz] at hb41
     refine pwp_plain rfl fun K42 hK42 => ?_
     refine p_e rfl (e_move (v := _) rfl) ?_
     refine p_mS rfl ?_
     refine p_new rfl (e_bslice (rows := [ci (i : Int)]) (zs := [.int 0]) (sz := 1) (by kernel_rfl) (by kernel_rfl) rfl (by kernel_rfl) (by decide) rfl rfl (by exact ⟨by decide, rfl, rfl, trivial⟩) rfl) trivial ?_
     refine p_app rfl rfl rfl (hihj22_0.keep fun _ => (hset_ne (key_ne rfl)).trans (rfl)) (src_ref (hset_self _ _ _) rfl) (by kernel_rfl) (by simp only [List.length_append, List.length_map, List.length_nil, List.length_cons, List.length_take]; omega) fun v43 h44 c45 hs46 hf47 => ?_
     have ho48 := (hf47 (51, _) (key_ne rfl) (fun _ _ => key_ne rfl)).trans (hset_self _ _ _)
     refine p_e rfl (e_assign (v := _) rfl) ?_
     refine p_end (hK42 _ ?_); clear hK42 K42
     refine block_norm ?_
     refine seq_norm (hK13 _ ?_); clear hK13 K13
     refine pwp_plain rfl fun K49 hK49 => ?_
     refine p_e rfl (e_adL rfl rfl) ?_
     refine p_mS rfl ?_
     refine p_end (hK49 _ ?_); clear hK49 K49
     exact loop_again ((i + 1, v43)) (by show _ < _; simp only; omega) ⟨rfl, rfl, trivial⟩ ⟨rfl, rfl, trivial⟩ (by exact ⟨by show _ + 1 ≤ _; simp only [List.length_map] at *; omega, (SliceAt.to hs46 (by first | (rw [ess_t (by rw [← hkb]; first | assumption | simp_all), List.map_append]; rfl) | rw [ess_f (by rw [← hkb]; first | assumption | simp_all)]))⟩)
    ·have hb41R := hb41; try simp only [zz] at hb41
     refine pwp_skip ?_
     refine block_norm ?_
     refine seq_norm (hK13 _ ?_); clear hK13 K13
     refine pwp_plain rfl fun K50 hK50 => ?_
     refine p_e rfl (e_adL rfl rfl) ?_
     refine p_mS rfl ?_
     refine p_end (hK50 _ ?_); clear hK50 K50
     exact loop_again ((i + 1, v)) (by show _ < _; simp only; omega) ⟨rfl, rfl, trivial⟩ ⟨rfl, rfl, trivial⟩ (by exact ⟨by show _ + 1 ≤ _; simp only [List.length_map] at *; omega, (SliceAt.to hihj22_0 (by first | (rw [ess_t (by rw [← hkb]; first | assumption | simp_all), List.map_append]; rfl) | rw [ess_f (by rw [← hkb]; first | assumption | simp_all)]))⟩)
  ·have hb24R := hb24; try simp only [zz] at hb24
   refine g_skip rfl rfl rfl ?_
   refine g_pF rfl rfl rfl ?_
   refine g_end (ds := [17]) rfl rfl (hK23 _ ?_); clear hK23 K23
   refine pwp_seq_cond (t := false) rfl fun K51 hK51 => ⟨nofun, fun _ => ?_⟩
   refine pwp_exit ?_
   refine exit_seq ?_
   clear hK51 K51
   refine exit_loop ?_
   refine exit_here ?_
   refine seq_norm (hK17 _ ?_); clear hK17 K17
   have hkb : b = keptB d i := kept_end hb hk (by first | exact .inl (by simp only [List.length_map] at *; omega) | exact .inr (by first | assumption | simp_all))
   refine pwp_seq_plain rfl fun K52 hK52 => ?_
   refine p_mS rfl ?_
   refine p_end (hK52 _ ?_); clear hK52 K52
   refine pwp_cond rfl (fun hb53 => ?_) (fun hb53 => ?_)
   ·have hb53R := hb53; try simp only [zz] at hb53
    refine pwp_plain rfl fun K54 hK54 => ?_
    refine p_e rfl (e_move (v := _) rfl) ?_
    refine p_mS rfl ?_
    refine p_new rfl (e_bslice (rows := [ci (i : Int)]) (zs := [.int 0]) (sz := 1) (by kernel_rfl) (by kernel_rfl) rfl (by kernel_rfl) (by decide) rfl rfl (by exact ⟨by decide, rfl, rfl, trivial⟩) rfl) trivial ?_
    refine p_app rfl rfl rfl (hihj22_0.keep fun _ => (hset_ne (key_ne rfl)).trans (rfl)) (src_ref (hset_self _ _ _) rfl) (by kernel_rfl) (by simp only [List.length_append, List.length_map, List.length_nil, List.length_cons, List.length_take]; omega) fun v55 h56 c57 hs58 hf59 => ?_
    have ho60 := (hf59 (51, _) (key_ne rfl) (fun _ _ => key_ne rfl)).trans (hset_self _ _ _)
    refine p_e rfl (e_assign (v := _) rfl) ?_
    refine p_end (hK54 _ ?_); clear hK54 K54
    refine block_norm ?_
    refine seq_norm (hK13 _ ?_); clear hK13 K13
    refine pwp_plain rfl fun K61 hK61 => ?_
    refine p_e rfl (e_adL rfl rfl) ?_
    refine p_mS rfl ?_
    refine p_end (hK61 _ ?_); clear hK61 K61
    exact loop_again ((i + 1, v55)) (by show _ < _; simp only; omega) ⟨rfl, rfl, trivial⟩ ⟨rfl, rfl, trivial⟩ (by exact ⟨by show _ + 1 ≤ _; simp only [List.length_map] at *; omega, (SliceAt.to hs58 (by first | (rw [ess_t (by rw [← hkb]; first | assumption | simp_all), List.map_append]; rfl) | rw [ess_f (by rw [← hkb]; first | assumption | simp_all)]))⟩)
   ·have hb53R := hb53; try simp only [zz] at hb53
    refine pwp_skip ?_
    refine block_norm ?_
    refine seq_norm (hK13 _ ?_); clear hK13 K13
    refine pwp_plain rfl fun K62 hK62 => ?_
    refine p_e rfl (e_adL rfl rfl) ?_
    refine p_mS rfl ?_
    refine p_end (hK62 _ ?_); clear hK62 K62
    exact loop_again ((i + 1, v)) (by show _ < _; simp only; omega) ⟨rfl, rfl, trivial⟩ ⟨rfl, rfl, trivial⟩ (by exact ⟨by show _ + 1 ≤ _; simp only [List.length_map] at *; omega, (SliceAt.to hihj22_0 (by first | (rw [ess_t (by rw [← hkb]; first | assumption | simp_all), List.map_append]; rfl) | rw [ess_f (by rw [← hkb]; first | assumption | simp_all)]))⟩)
 ·have hb12R := hb12; try simp only [zz] at hb12
  have hie : i = d.length := by simp only [List.length_map] at *; omega
  refine pwp_exit ?_
  refine exit_seq ?_
  clear hK11 K11
  refine exit_loop ?_
  refine exit_here ?_
  refine seq_norm (hK4 _ ?_); clear hK4 K4
  refine pwp_seq_plain rfl fun K63 hK63 => ?_
  refine p_e rfl (e_move (v := _) rfl) ?_
  refine p_e rfl (e_assign (v := _) rfl) ?_
  refine p_end (hK63 _ ?_); clear hK63 K63
  refine pwp_ret ?_
  refine end1 (v := _) rfl ?_
  first
    | exact out_slice (SliceAt.to hihj9_0 (by rw [hie])) rfl (fun _ => rfl) ci_clean

end Go.Proofs.YtindehoegfiiaaaGreatDoor
