import Derived.Test.YtjihcgcbnbaclaaGreatDoorESto5
import Derived.Test.YtjihcgcbnbaclaaGreatDoorPvGh
set_option linter.unusedSimpArgs false
set_option linter.unusedVariables false
set_option maxRecDepth 100000
namespace Go.Proofs.YtjihcgcbnbaclaaGreatDoor.Y8
open Go Go.Pv Go.Proofs.YtjihcgcbnbaclaaGreatDoor
def cntW (xs : List Stock) (p : ByteArray) (z : At) : Int := if stockE xs = 0 then cntS ⟨p, z.a0, z.a1⟩ xs else 0
theorem cntW_1 {xs : List Stock} {p : ByteArray} {z : At} (h : ¬ stockE xs = 0) : (0 : Int) = cntW xs p z := (if_neg h).symm
theorem cntW_2 {xs : List Stock} {p : ByteArray} {z : At} (h : stockE xs = 0) : (aGet (⟨p, z.a0, z.a1⟩ : Shelf) (sumS [] xs)).getD 0 = cntW xs p z := by
 rw [cntW, if_pos h];have := getS_sum ⟨p, z.a0, z.a1⟩ xs [];simpa [getS, aGet] using this
theorem fr19 : (inFrame Tryz.f19.ntmps (Tryz.f19.body.getD .skip) && Tryz.f19.results.toList.all (resScope Tryz.f19.ntmps)) = true := by kernel_rfl
theorem CountS (xs : List Stock) (p : ByteArray) (z : At) (hl : xs.length ≤ 220) (hs : ∀ x ∈ xs, x.part.size ≤ 30) : PCalls Tryz.prog 19 [.lit true 4 (xs.map Stock.enc), .str p, .agg z.enc] (.tup [.int (cntW xs p z), .int (stockE xs)]) := by
 refine PCalls.of_code Tryz.func19 rfl rfl (by kernel_rfl) mixed fr19 (by show _ ≤ 23; simp) (pure_2 (.sc _) (.sc _)) (pwp_seq_plain rfl fun K1 hK1 => p_new rfl (e_box (n := 2) rfl rfl) ⟨rfl, by decide⟩ (p_step rfl (e_assign (v := .sc _) rfl) trivial (p_step rfl (e_assign (v := .sc _) rfl) trivial (p_end (hK1 _ ?_))))); clear hK1 K1;refine pwp_seq_seq (pwp_seq_plain rfl fun K2 hK2 => p_step rfl (e_move (v := .lit _ _ _) rfl) trivial (p_call rfl (.cons inn_lit .nil) (CheckS _ (by omega) (by assumption)) (p_step rfl (e_assign (v := .sc _) rfl) trivial (p_end (hK2 _ ?_))))); clear hK2 K2;refine pwp_seq_seq (pwp_seq_plain rfl fun K3 hK3 => p_step rfl (e_move (v := .sc _) rfl) trivial (p_step rfl (e_ne rfl rfl) trivial (p_end (hK3 _ ?_)))); clear hK3 K3;refine pwp_seq_cond rfl fun K4 hK4 => ⟨fun hb5 => ?_, fun hb5 => ?_⟩
 ·have hb5R := hb5; (try simp only [z1, z2, z3, z4, z5, z6, ne_eq, z7, z8, z9, z10, z11, z12] at hb5); (try (have hok := stockE_ok hb5));refine pwp_seq_plain rfl fun K6 hK6 => p_step rfl (e_move (v := .sc _) rfl) trivial (p_step rfl (e_assign (v := .sc _) rfl) trivial (p_step rfl (e_assign (v := .sc _) rfl) trivial (p_end (hK6 _ ?_)))); clear hK6 K6;refine pwp_ret (ret_seq (end2 (v := .sc _) (w := .sc _) rfl rfl ?_))
  first
    | exact out_2 (out_i (cntW_1 (by assumption))) (out_i rfl)
    | exact out_2 (out_i (cntW_2 (by assumption))) (out_i (by omega))
 ·have hb5R := hb5; (try simp only [z1, z2, z3, z4, z5, z6, ne_eq, z7, z8, z9, z10, z11, z12] at hb5); (try (have hok := stockE_ok hb5));refine pwp_skip (seq_norm (hK4 _ ?_)); clear hK4 K4;have hsp := stoX_spec xs (hset noHeap (5, 0) (some (.rows 2 [z.enc]))) (cset noCnt 5);obtain ⟨_, hsm, hsf⟩ := hsp;have hs5 : (stoX xs (hset noHeap (5, 0) (some (.rows 2 [z.enc]))) (cset noCnt 5)).1 (5, 0) = some (.rows 2 [z.enc]) := (hsf 5 0 (fun _ => by simp [cset, noCnt]) (by intro e; cases e)).trans (hset_self _ _ _);refine pwp_seq_x fun K7 hK7 => x_step rfl rfl rfl (e_move (v := .lit _ _ _) rfl) trivial (x_hcall rfl rfl rfl (storeOfX xs _ _ hok.1 (fun x hx => (hok.2 x hx).2.2)) (x_step rfl rfl rfl (e_move (v := .sc _) rfl) trivial (x_step rfl rfl rfl (e_ixaP (n := 2) (e := 3) rfl rfl (by kernel_rfl) (by kernel_rfl) (by omega)) trivial (x_step rfl rfl rfl (e_loadH (v := .sc _) rfl hs5 (by kernel_rfl) (by kernel_rfl) (by kernel_rfl) (by exact Nat.zero_lt_one) (by decide) rfl) trivial (x_step rfl rfl rfl (e_ixaP (n := 2) (e := 3) rfl rfl (by kernel_rfl) (by kernel_rfl) (by omega)) trivial (x_step rfl rfl rfl (e_loadH (v := .sc _) rfl hs5 (by kernel_rfl) (by kernel_rfl) (by kernel_rfl) (by exact Nat.zero_lt_one) (by decide) rfl) trivial ?_))))));refine x_step rfl rfl rfl (e_build (cs := Shelf.enc ⟨p, z.a0, z.a1⟩) (zs := [.str ByteArray.empty, .int 0, .int 0]) (pl := [(0, 1, false), (1, 1, false), (2, 1, false)]) (by kernel_rfl) (by kernel_rfl) (by kernel_rfl) rfl rfl (by exact ⟨by decide, rfl, Nat.le_of_ble_eq_true rfl, rfl, ⟨by decide, rfl, Nat.le_of_ble_eq_true rfl, rfl, ⟨by decide, rfl, Nat.le_of_ble_eq_true rfl, rfl, trivial⟩⟩⟩) rfl) trivial (x_step rfl rfl rfl (e_look (kt := 91) (et := 3) (f := kx) (g := PV.int) (a := (⟨p, z.a0, z.a1⟩ : Shelf)) (l := sumS [] xs) (z := 0) kx_eq kx_ok rfl rfl hsm (by kernel_rfl) (by kernel_rfl) (by first | rfl | kernel_rfl)) trivial (x_step rfl rfl rfl (e_assign (v := .sc _) rfl) trivial (x_step rfl rfl rfl (e_assign (v := .sc _) rfl) trivial ?_)));refine x_end ?_ rfl (hK7 _ ?_)
  ·skip
   simp only [List.nil_append, List.cons_append];refine List.Pairwise.cons (fun y hy => ?_) ?_
   ·(simp only [List.mem_cons, List.not_mem_nil, or_false] at hy); rcases hy with rfl | rfl | rfl | rfl | rfl | rfl | rfl | rfl | rfl | rfl
    ·exact .inl (by kernel_rfl)
    iterate 6 ·exact xI
    ·exact .inl (by kernel_rfl)
    ·exact .inl (by kernel_rfl)
    ·exact .inl (by kernel_rfl)
   refine List.Pairwise.cons (fun y hy => ?_) ?_
   ·(simp only [List.mem_cons, List.not_mem_nil, or_false] at hy); rcases hy with rfl | rfl | rfl | rfl | rfl | rfl | rfl | rfl | rfl
    ·exact .inr (xfree_cn rfl rfl (by kernel_rfl) ⟨rfl, rfl, rfl, fun _ => rfl⟩)
    ·exact .inr (xfree_cn rfl rfl (by kernel_rfl) ⟨rfl, rfl, rfl, fun _ => rfl⟩)
    ·exact .inr (xfree_cn rfl rfl (by kernel_rfl) ⟨rfl, rfl, rfl, fun _ => (by dsimp only; exact load_same (k := (5, 0)) (sz := 2) (i := 0) rfl (hs5.trans (hset_self _ _ _).symm))⟩)
    ·exact .inr (xfree_cn rfl rfl (by kernel_rfl) ⟨rfl, rfl, rfl, fun _ => rfl⟩)
    ·exact .inr (xfree_cn rfl rfl (by kernel_rfl) ⟨rfl, rfl, rfl, fun _ => (by dsimp only; exact load_same (k := (5, 0)) (sz := 2) (i := 0) rfl (hs5.trans (hset_self _ _ _).symm))⟩)
    ·exact .inr (xfree_cn rfl rfl (by kernel_rfl) ⟨rfl, rfl, rfl, fun _ => rfl⟩)
    ·exact .inl (by kernel_rfl)
    ·exact .inl (by kernel_rfl)
    ·exact .inl (by kernel_rfl)
   refine List.Pairwise.cons (fun y hy => ?_) ?_
   ·(simp only [List.mem_cons, List.not_mem_nil, or_false] at hy); rcases hy with rfl | rfl | rfl | rfl | rfl | rfl | rfl | rfl
    iterate 4 ·exact xI
    ·exact .inl (by kernel_rfl)
    ·exact .inl (by kernel_rfl)
    ·exact .inl (by kernel_rfl)
    ·exact .inl (by kernel_rfl)
   refine List.Pairwise.cons (fun y hy => ?_) ?_
   ·(simp only [List.mem_cons, List.not_mem_nil, or_false] at hy); rcases hy with rfl | rfl | rfl | rfl | rfl | rfl | rfl
    ·exact .inl (by kernel_rfl)
    ·exact xI
    ·exact xI
    ·exact .inl (by kernel_rfl)
    ·exact .inl (by kernel_rfl)
    ·exact .inl (by kernel_rfl)
    ·exact .inl (by kernel_rfl)
   refine List.Pairwise.cons (fun y hy => ?_) ?_
   ·(simp only [List.mem_cons, List.not_mem_nil, or_false] at hy); rcases hy with rfl | rfl | rfl | rfl | rfl | rfl
    ·exact xI
    ·exact xI
    ·exact .inl (by kernel_rfl)
    ·exact .inl (by kernel_rfl)
    ·exact .inl (by kernel_rfl)
    ·exact .inl (by kernel_rfl)
   refine List.Pairwise.cons (fun y hy => ?_) ?_
   ·(simp only [List.mem_cons, List.not_mem_nil, or_false] at hy); rcases hy with rfl | rfl | rfl | rfl | rfl
    ·exact .inl (by kernel_rfl)
    ·exact .inl (by kernel_rfl)
    ·exact .inl (by kernel_rfl)
    ·exact .inl (by kernel_rfl)
    ·exact .inl (by kernel_rfl)
   refine List.Pairwise.cons (fun y hy => ?_) ?_
   ·(simp only [List.mem_cons, List.not_mem_nil, or_false] at hy); rcases hy with rfl | rfl | rfl | rfl
    ·exact .inl (by kernel_rfl)
    ·exact .inl (by kernel_rfl)
    ·exact .inl (by kernel_rfl)
    ·exact .inl (by kernel_rfl)
   refine List.Pairwise.cons (fun y hy => ?_) ?_
   ·(simp only [List.mem_cons, List.not_mem_nil, or_false] at hy); rcases hy with rfl | rfl | rfl
    ·exact .inl (by kernel_rfl)
    ·exact .inl (by kernel_rfl)
    ·exact .inl (by kernel_rfl)
   refine List.Pairwise.cons (fun y hy => ?_) ?_
   ·(simp only [List.mem_cons, List.not_mem_nil, or_false] at hy); rcases hy with rfl | rfl
    ·exact .inl (by kernel_rfl)
    ·exact .inl (by kernel_rfl)
   refine List.Pairwise.cons (fun y hy => ?_) ?_
   ·(simp only [List.mem_cons, List.not_mem_nil, or_false] at hy); rcases hy with rfl
    ·exact .inl (by kernel_rfl)
   exact List.Pairwise.cons (by intro y hy; simp at hy) .nil
  clear hK7 K7;refine pwp_ret (end2 (v := .sc _) (w := .sc _) rfl rfl ?_)
  first
    | exact out_2 (out_i (cntW_1 (by assumption))) (out_i rfl)
    | exact out_2 (out_i (cntW_2 (by assumption))) (out_i (by omega))
end Go.Proofs.YtjihcgcbnbaclaaGreatDoor.Y8
