import Derived.Test.YtigdmkhdmbbfiaaStoB
import Derived.Test.YtigdmkhdmbbfiaaPvZ11
import Derived.Test.YtigdmkhdmbbfiaaAwake
/- The count of a shelf. No conditions. -/
set_option linter.unusedSimpArgs false
set_option linter.unusedVariables false
set_option maxRecDepth 100000
namespace Go.Proofs.Ytigdmkhdmbbfiaa
open Go Go.Pv

/-- The count of a shelf, or 0. -/
def cntW (xs : List Stock) (p : ByteArray) (z : At) : Int := if stockE xs = 0 then cntS ⟨p, z.a0, z.a1⟩ xs else 0
theorem cntW_1 {xs : List Stock} {p : ByteArray} {z : At} (h : ¬ stockE xs = 0) : (0 : Int) = cntW xs p z := (if_neg h).symm
theorem cntW_2 {xs : List Stock} {p : ByteArray} {z : At} (h : stockE xs = 0) : (aGet (⟨p, z.a0, z.a1⟩ : Shelf) (sumS [] xs)).getD 0 = cntW xs p z := by
  rw [cntW, if_pos h]
  have := getS_sum ⟨p, z.a0, z.a1⟩ xs []
  simpa [getS, aGet] using this

theorem fr20 : (inFrame Try.f20.ntmps (Try.f20.body.getD .skip) && Try.f20.results.toList.all (resScope Try.f20.ntmps)) = true := by kernel_rfl
theorem CountS (xs : List Stock) (p : ByteArray) (z : At) (hl : xs.length ≤ 220) (hs : ∀ x ∈ xs, x.part.size ≤ 30) : PCalls Try.prog 20 [.lit true 4 (xs.map Stock.enc), .str p, .agg z.enc] (.tup [.int (cntW xs p z), .int (stockE xs)]) := by
  refine PCalls.of_code Try.func20 rfl rfl (by kernel_rfl) mixed fr20 (by show _ ≤ 23; simp) (pure_2 (.sc _) (.sc _)) ?_
  refine pwp_seq_plain rfl fun K1 hK1 => ?_
  refine p_new rfl (e_box (n := 2) rfl rfl) ⟨rfl, by decide⟩ ?_
  refine p_step rfl (e_assign (v := .sc _) rfl) trivial ?_
  refine p_step rfl (e_assign (v := .sc _) rfl) trivial ?_
  refine p_end (hK1 _ ?_); clear hK1 K1
  refine pwp_seq_seq ?_
  refine pwp_seq_plain rfl fun K2 hK2 => ?_
  refine p_step rfl (e_move (v := .lit _ _ _) rfl) trivial ?_
  refine p_call rfl (.cons inn_lit .nil) (CheckS _ (by omega) (by assumption)) ?_
  refine p_step rfl (e_assign (v := .sc _) rfl) trivial ?_
  refine p_end (hK2 _ ?_); clear hK2 K2
  refine pwp_seq_seq ?_
  refine pwp_seq_plain rfl fun K3 hK3 => ?_
  refine p_step rfl (e_move (v := .sc _) rfl) trivial ?_
  refine p_step rfl (e_ne rfl rfl) trivial ?_
  refine p_end (hK3 _ ?_); clear hK3 K3
  refine pwp_seq_cond rfl fun K4 hK4 => ⟨fun hb5 => ?_, fun hb5 => ?_⟩
  ·have hb5R := hb5; (try simp only [z1, z2, z3, z4, z5, z6, ne_eq, z7, z8, z9, z10, z11, z12] at hb5); (try (have hok := stockE_ok hb5))
   refine pwp_seq_plain rfl fun K6 hK6 => ?_
   refine p_step rfl (e_move (v := .sc _) rfl) trivial ?_
   refine p_step rfl (e_assign (v := .sc _) rfl) trivial ?_
   refine p_step rfl (e_assign (v := .sc _) rfl) trivial ?_
   refine p_end (hK6 _ ?_); clear hK6 K6
   refine pwp_ret ?_
   refine ret_seq ?_
   refine end2 (v := .sc _) (w := .sc _) rfl rfl ?_
   first
     | exact out_2 (out_i (cntW_1 (by assumption))) (out_i rfl)
     | exact out_2 (out_i (cntW_2 (by assumption))) (out_i (by omega))
  ·have hb5R := hb5; (try simp only [z1, z2, z3, z4, z5, z6, ne_eq, z7, z8, z9, z10, z11, z12] at hb5); (try (have hok := stockE_ok hb5))
   refine pwp_skip ?_
   refine seq_norm (hK4 _ ?_); clear hK4 K4
   have hsp := stoX_spec xs (hset noHeap (5, 0) (some (.rows 2 [z.enc]))) (cset noCnt 5)
   obtain ⟨_, hsm, hsf⟩ := hsp
   have hs5 : (stoX xs (hset noHeap (5, 0) (some (.rows 2 [z.enc]))) (cset noCnt 5)).1 (5, 0) = some (.rows 2 [z.enc]) := (hsf 5 0 (fun _ => by simp [cset, noCnt]) (by intro e; cases e)).trans (hset_self _ _ _)
   refine pwp_seq_x fun K7 hK7 => ?_
   refine x_step rfl rfl rfl (e_move (v := .lit _ _ _) rfl) trivial ?_
   refine x_hcall rfl rfl rfl (storeOfX xs _ _ hok.1 (fun x hx => (hok.2 x hx).2.2)) ?_
   refine x_step rfl rfl rfl (e_move (v := .sc _) rfl) trivial ?_
   refine x_step rfl rfl rfl (e_ixaP (n := 2) (e := 3) rfl rfl (by kernel_rfl) (by kernel_rfl) (by omega)) trivial ?_
   refine x_step rfl rfl rfl (e_loadH (v := .sc _) rfl hs5 (by kernel_rfl) (by kernel_rfl) (by kernel_rfl) (by exact Nat.zero_lt_one) (by decide) rfl) trivial ?_
   refine x_step rfl rfl rfl (e_ixaP (n := 2) (e := 3) rfl rfl (by kernel_rfl) (by kernel_rfl) (by omega)) trivial ?_
   refine x_step rfl rfl rfl (e_loadH (v := .sc _) rfl hs5 (by kernel_rfl) (by kernel_rfl) (by kernel_rfl) (by exact Nat.zero_lt_one) (by decide) rfl) trivial ?_
   refine x_step rfl rfl rfl (e_build (cs := Shelf.enc ⟨p, z.a0, z.a1⟩) (zs := [.str ByteArray.empty, .int 0, .int 0]) (pl := [(0, 1, false), (1, 1, false), (2, 1, false)]) (by kernel_rfl) (by kernel_rfl) (by kernel_rfl) rfl rfl (by exact ⟨by decide, rfl, Nat.le_of_ble_eq_true rfl, rfl, ⟨by decide, rfl, Nat.le_of_ble_eq_true rfl, rfl, ⟨by decide, rfl, Nat.le_of_ble_eq_true rfl, rfl, trivial⟩⟩⟩) rfl) trivial ?_
   refine x_step rfl rfl rfl (e_look (kt := 124) (et := 3) (f := kx) (g := PV.int) (a := (⟨p, z.a0, z.a1⟩ : Shelf)) (l := sumS [] xs) (z := 0) kx_eq kx_ok rfl rfl hsm (by kernel_rfl) (by kernel_rfl) (by first | rfl | kernel_rfl)) trivial ?_
   refine x_step rfl rfl rfl (e_assign (v := .sc _) rfl) trivial ?_
   refine x_step rfl rfl rfl (e_assign (v := .sc _) rfl) trivial ?_
   refine x_end ?_ rfl (hK7 _ ?_)
   ·skip
    simp only [List.nil_append, List.cons_append]
    refine List.Pairwise.cons (fun y hy => ?_) ?_
    ·(simp only [List.mem_cons, List.not_mem_nil, or_false] at hy); rcases hy with rfl | rfl | rfl | rfl | rfl | rfl | rfl | rfl | rfl | rfl
     ·exact .inl (by kernel_rfl)
     ·exact .inr (xfree_nn rfl rfl (by kernel_rfl) rfl rfl rfl)
     ·exact .inr (xfree_nn rfl rfl (by kernel_rfl) rfl rfl rfl)
     ·exact .inr (xfree_nn rfl rfl (by kernel_rfl) rfl rfl rfl)
     ·exact .inr (xfree_nn rfl rfl (by kernel_rfl) rfl rfl rfl)
     ·exact .inr (xfree_nn rfl rfl (by kernel_rfl) rfl rfl rfl)
     ·exact .inr (xfree_nn rfl rfl (by kernel_rfl) rfl rfl rfl)
     ·exact .inl (by kernel_rfl)
     ·exact .inl (by kernel_rfl)
     ·exact .inl (by kernel_rfl)
    refine List.Pairwise.cons (fun y hy => ?_) ?_
    ·(simp only [List.mem_cons, List.not_mem_nil, or_false] at hy); rcases hy with rfl | rfl | rfl | rfl | rfl | rfl | rfl | rfl | rfl
     ·exact .inr (xfree_cn rfl rfl (by kernel_rfl) ⟨rfl, rfl, rfl, fun _ => rfl⟩)
     ·exact .inr (xfree_cn rfl rfl (by kernel_rfl) ⟨rfl, rfl, rfl, fun _ => rfl⟩)
     ·exact .inr (xfree_cn rfl rfl (by kernel_rfl) ⟨rfl, rfl, rfl, fun _ => (by dsimp only; exact load_same (k := (5, 0)) (sz := 2) (i := 0) rfl (hs5.trans (hset_self _ _ _).symm))⟩)
     ·exact .inr (xfree_cn rfl rfl (by kernel_rfl) ⟨rfl, rfl, rfl, fun _ => rfl⟩)
     ·exact .inr (xfree_cn rfl rfl (by kernel_rfl) ⟨rfl, rfl, rfl, fun _ => (by dsimp only; exact load_same (k := (5, 0)) (sz := 2) (i := 0) rfl (hs5.trans (hset_self _ _ _).symm))⟩)
     ·exact .inr (xfree_cn rfl rfl (by kernel_rfl) ⟨rfl, rfl, rfl, fun _ => rfl⟩)
     ·exact .inl (by kernel_rfl)
     ·exact .inl (by kernel_rfl)
     ·exact .inl (by kernel_rfl)
    refine List.Pairwise.cons (fun y hy => ?_) ?_
    ·(simp only [List.mem_cons, List.not_mem_nil, or_false] at hy); rcases hy with rfl | rfl | rfl | rfl | rfl | rfl | rfl | rfl
     ·exact .inr (xfree_nn rfl rfl (by kernel_rfl) rfl rfl rfl)
     ·exact .inr (xfree_nn rfl rfl (by kernel_rfl) rfl rfl rfl)
     ·exact .inr (xfree_nn rfl rfl (by kernel_rfl) rfl rfl rfl)
     ·exact .inr (xfree_nn rfl rfl (by kernel_rfl) rfl rfl rfl)
     ·exact .inl (by kernel_rfl)
     ·exact .inl (by kernel_rfl)
     ·exact .inl (by kernel_rfl)
     ·exact .inl (by kernel_rfl)
    refine List.Pairwise.cons (fun y hy => ?_) ?_
    ·(simp only [List.mem_cons, List.not_mem_nil, or_false] at hy); rcases hy with rfl | rfl | rfl | rfl | rfl | rfl | rfl
     ·exact .inl (by kernel_rfl)
     ·exact .inr (xfree_nn rfl rfl (by kernel_rfl) rfl rfl rfl)
     ·exact .inr (xfree_nn rfl rfl (by kernel_rfl) rfl rfl rfl)
     ·exact .inl (by kernel_rfl)
     ·exact .inl (by kernel_rfl)
     ·exact .inl (by kernel_rfl)
     ·exact .inl (by kernel_rfl)
    refine List.Pairwise.cons (fun y hy => ?_) ?_
    ·(simp only [List.mem_cons, List.not_mem_nil, or_false] at hy); rcases hy with rfl | rfl | rfl | rfl | rfl | rfl
     ·exact .inr (xfree_nn rfl rfl (by kernel_rfl) rfl rfl rfl)
     ·exact .inr (xfree_nn rfl rfl (by kernel_rfl) rfl rfl rfl)
     ·exact .inl (by kernel_rfl)
     ·exact .inl (by kernel_rfl)
     ·exact .inl (by kernel_rfl)
     ·exact .inl (by kernel_rfl)
    refine List.Pairwise.cons (fun y hy => ?_) ?_
    ·(simp only [List.mem_cons, List.not_mem_nil, or_false] at hy); rcases hy with rfl | rfl | rfl | rfl | rfl
     ·exact .inl (by kernel_rfl)
     ·exact .inl (by kernel_rfl)
     ·exact .inl (by kernel_rfl)
     ·exact .inl (by kernel_rfl)
     ·exact .inl (by kernel_rfl)
    refine List.Pairwise.cons (fun y hy => ?_) ?_
    ·(simp only [List.mem_cons, List.not_mem_nil, or_false] at hy); rcases hy with rfl | rfl | rfl | rfl
     ·exact .inl (by kernel_rfl)
     ·exact .inl (by kernel_rfl)
     ·exact .inl (by kernel_rfl)
     ·exact .inl (by kernel_rfl)
    refine List.Pairwise.cons (fun y hy => ?_) ?_
    ·(simp only [List.mem_cons, List.not_mem_nil, or_false] at hy); rcases hy with rfl | rfl | rfl
     ·exact .inl (by kernel_rfl)
     ·exact .inl (by kernel_rfl)
     ·exact .inl (by kernel_rfl)
    refine List.Pairwise.cons (fun y hy => ?_) ?_
    ·(simp only [List.mem_cons, List.not_mem_nil, or_false] at hy); rcases hy with rfl | rfl
     ·exact .inl (by kernel_rfl)
     ·exact .inl (by kernel_rfl)
    refine List.Pairwise.cons (fun y hy => ?_) ?_
    ·(simp only [List.mem_cons, List.not_mem_nil, or_false] at hy); rcases hy with rfl
     ·exact .inl (by kernel_rfl)
    exact List.Pairwise.cons (by intro y hy; simp at hy) .nil
   clear hK7 K7
   refine pwp_ret ?_
   refine end2 (v := .sc _) (w := .sc _) rfl rfl ?_
   first
     | exact out_2 (out_i (cntW_1 (by assumption))) (out_i rfl)
     | exact out_2 (out_i (cntW_2 (by assumption))) (out_i (by omega))

end Go.Proofs.Ytigdmkhdmbbfiaa

/- The law of stocks. No conditions. -/
set_option linter.unusedSimpArgs false
set_option linter.unusedVariables false
set_option maxRecDepth 100000
namespace Go.Proofs.Ytigdmkhdmbbfiaa
open Go Go.Pv

theorem listS_len (m : Sto) : (listS m).2.length ≤ 200 := by
  unfold listS
  dsimp only
  split
  · split
    · simp
    · omega
  · simp
theorem normR_len (xs : List Stock) : (normR xs).2.length ≤ 200 := by
  unfold normR
  split
  · exact listS_len _
  · simp
theorem nrm_ref {xs : List Stock} (h : stockE xs = 0) : normR xs = settS (putF [] xs) := by
  rw [settS_listS fun x hx => ((stockE_ok h).2 x hx).2.2.1, normR, if_pos h]
theorem cnt_ref {xs : List Stock} {p : ByteArray} {z : At} (h : stockE xs = 0) : cntW xs p z = cntA ⟨p, z.a0, z.a1⟩ 0 xs := by
  rw [cntW, if_pos h, cntA_eq]; omega
theorem tot_ref {xs : List Stock} {p : ByteArray} (h : stockE xs = 0) : totW xs p = totS p 0 xs := by rw [totW, if_pos h]

theorem fr4 : (inFrame Try.f4.ntmps (Try.f4.body.getD .skip) && Try.f4.results.toList.all (resScope Try.f4.ntmps)) = true := by kernel_rfl
theorem hstocks (xs : List Stock) (p : ByteArray) (z : At) (hlx : xs.length ≤ 9223372036854775807) : PCalls Try.prog 4 [.lit true 4 (xs.map Stock.enc), .str p, .agg z.enc] (.bool true) := by
  refine PCalls.of_code Try.func4 rfl rfl (by kernel_rfl) mixed fr4 (by show _ ≤ 114; simp) (.sc _) ?_
  refine pwp_seq_plain rfl fun K1 hK1 => ?_
  refine p_new rfl (e_box (n := 2) rfl rfl) ⟨rfl, by decide⟩ ?_
  refine p_step rfl (e_assign (v := .sc _) rfl) trivial ?_
  refine p_end (hK1 _ ?_); clear hK1 K1
  refine pwp_seq_seq ?_
  refine pwp_seq_plain rfl fun K2 hK2 => ?_
  refine p_call rfl .nil (awake) ?_
  refine p_step rfl (e_not rfl) trivial ?_
  refine p_end (hK2 _ ?_); clear hK2 K2
  refine pwp_seq_cond (t := false) rfl fun K3 hK3 => ⟨nofun, fun _ => ?_⟩
  refine pwp_skip ?_
  refine seq_norm (hK3 _ ?_); clear hK3 K3
  refine pwp_seq_seq ?_
  refine pwp_seq_gops rfl fun K4 hK4 => ?_
  refine g_begin ?_
  refine g_step rfl rfl rfl rfl (e_move (v := .lit _ _ _) rfl) trivial ?_
  refine g_call rfl rfl rfl rfl (.cons inn_lit .nil) (ShortS _ hlx) ?_
  refine g_step rfl rfl rfl rfl (e_not rfl) trivial ?_
  refine g_step rfl rfl rfl rfl (e_move (v := .sc _) rfl) trivial ?_
  refine g_cases (fun hb5 => ?_) (fun hb5 => ?_)
  ·have hb5R := hb5; (try simp only [z1, z2, z3, z4, z5, z6, ne_eq, z7, z8, z9, z10, z11, z12] at hb5); (try (have hsh := shortB_iff hb5)); (try (have hok := stockE_ok hb5)); (try (have hn1 := norm_1 hb5; have hc1 := cntW_1 (p := p) (z := z) hb5; have ht1 := totW_1 (p := p) hb5)); (try (have hn0 := nrm_ref hb5; have hc0 := cnt_ref (p := p) (z := z) hb5; have ht0 := tot_ref (p := p) hb5))
   refine g_skip rfl rfl rfl ?_
   refine g_skip rfl rfl rfl ?_
   refine g_skip rfl rfl rfl ?_
   refine g_step rfl rfl rfl rfl (e_pickT (v := .sc _) rfl rfl) trivial ?_
   refine g_end (ds := [22, 23, 24]) rfl rfl (hK4 _ ?_); clear hK4 K4
   refine pwp_seq_cond (t := true) rfl fun K6 hK6 => ⟨fun _ => ?_, nofun⟩
   refine pwp_seq_plain rfl fun K7 hK7 => ?_
   refine p_step rfl (e_assign (v := .sc _) rfl) trivial ?_
   refine p_end (hK7 _ ?_); clear hK7 K7
   refine pwp_ret ?_
   refine ret_seq ?_
   refine end1 (v := .sc _) rfl ?_
   first
     | exact out_b rfl
     | (exfalso; omega)
     | (refine out_b ?_; simp; done)
     | (refine out_b ?_; simp [hn1]; omega)
     | (refine out_b ?_; simp [hn1, ← hc1, ← ht1]; done)
     | (exfalso; rw [hn1] at *; simp_all; done)
     | (refine out_b ?_; simp [ht0]; done)
     | (exfalso; simp_all; done)
  ·have hb5R := hb5; (try simp only [z1, z2, z3, z4, z5, z6, ne_eq, z7, z8, z9, z10, z11, z12] at hb5); (try (have hsh := shortB_iff hb5)); (try (have hok := stockE_ok hb5)); (try (have hn1 := norm_1 hb5; have hc1 := cntW_1 (p := p) (z := z) hb5; have ht1 := totW_1 (p := p) hb5)); (try (have hn0 := nrm_ref hb5; have hc0 := cnt_ref (p := p) (z := z) hb5; have ht0 := tot_ref (p := p) hb5))
   refine g_step rfl rfl rfl rfl (e_move (v := .sc _) rfl) trivial ?_
   refine g_step rfl rfl rfl rfl (e_lenS rfl (by kernel_rfl)) trivial ?_
   refine g_step rfl rfl rfl rfl (e_gt rfl rfl) trivial ?_
   refine g_step rfl rfl rfl rfl (e_pickF (v := .sc _) rfl rfl) trivial ?_
   refine g_end (ds := [22, 23, 24]) rfl rfl (hK4 _ ?_); clear hK4 K4
   refine pwp_seq_cond rfl fun K8 hK8 => ⟨fun hb9 => ?_, fun hb9 => ?_⟩
   ·have hb9R := hb9; (try simp only [z1, z2, z3, z4, z5, z6, ne_eq, z7, z8, z9, z10, z11, z12] at hb9); (try (have hsh := shortB_iff hb9)); (try (have hok := stockE_ok hb9)); (try (have hn1 := norm_1 hb9; have hc1 := cntW_1 (p := p) (z := z) hb9; have ht1 := totW_1 (p := p) hb9)); (try (have hn0 := nrm_ref hb9; have hc0 := cnt_ref (p := p) (z := z) hb9; have ht0 := tot_ref (p := p) hb9))
    refine pwp_seq_plain rfl fun K10 hK10 => ?_
    refine p_step rfl (e_assign (v := .sc _) rfl) trivial ?_
    refine p_end (hK10 _ ?_); clear hK10 K10
    refine pwp_ret ?_
    refine ret_seq ?_
    refine end1 (v := .sc _) rfl ?_
    first
      | exact out_b rfl
      | (exfalso; omega)
      | (refine out_b ?_; simp; done)
      | (refine out_b ?_; simp [hn1]; omega)
      | (refine out_b ?_; simp [hn1, ← hc1, ← ht1]; done)
      | (exfalso; rw [hn1] at *; simp_all; done)
      | (refine out_b ?_; simp [ht0]; done)
      | (exfalso; simp_all; done)
   ·have hb9R := hb9; (try simp only [z1, z2, z3, z4, z5, z6, ne_eq, z7, z8, z9, z10, z11, z12] at hb9); (try (have hsh := shortB_iff hb9)); (try (have hok := stockE_ok hb9)); (try (have hn1 := norm_1 hb9; have hc1 := cntW_1 (p := p) (z := z) hb9; have ht1 := totW_1 (p := p) hb9)); (try (have hn0 := nrm_ref hb9; have hc0 := cnt_ref (p := p) (z := z) hb9; have ht0 := tot_ref (p := p) hb9))
    refine pwp_skip ?_
    refine seq_norm (hK8 _ ?_); clear hK8 K8
    refine pwp_seq_plain rfl fun K11 hK11 => ?_
    refine p_step rfl (e_move (v := .lit _ _ _) rfl) trivial ?_
    refine p_call rfl (.cons inn_lit .nil) (NormalS _ hsh.2.1 hsh.2.2) ?_
    refine p_step rfl (e_move (v := .tup _) rfl) trivial ?_
    refine p_step rfl (e_ext (v := .lit _ _ _) rfl (by simp) rfl) trivial ?_
    refine p_step rfl (e_ext (v := .sc _) rfl (by simp) rfl) trivial ?_
    refine p_step rfl (e_assign (v := .lit _ _ _) rfl) trivial ?_
    refine p_step rfl (e_assign (v := .sc _) rfl) trivial ?_
    refine p_end (hK11 _ ?_); clear hK11 K11
    refine pwp_seq_plain rfl fun K12 hK12 => ?_
    refine p_step rfl (e_move (v := .lit _ _ _) rfl) trivial ?_
    refine p_step rfl (e_move (v := .sc _) rfl) trivial ?_
    refine p_step rfl (e_loadHA (n := 2) rfl (hset_self _ _ _) (by kernel_rfl) (by kernel_rfl) (by kernel_rfl) (by exact Nat.zero_lt_one) (by decide) rfl) trivial ?_
    refine p_call rfl (.cons inn_lit (.cons inn_sc (.cons (inn_agg (At.pure _)) .nil))) (CountS _ _ _ hsh.2.1 hsh.2.2) ?_
    refine p_step rfl (e_move (v := .tup _) rfl) trivial ?_
    refine p_step rfl (e_ext (v := .sc _) rfl (by simp) rfl) trivial ?_
    refine p_step rfl (e_ext (v := .sc _) rfl (by simp) rfl) trivial ?_
    refine p_step rfl (e_assign (v := .sc _) rfl) trivial ?_
    refine p_step rfl (e_assign (v := .sc _) rfl) trivial ?_
    refine p_end (hK12 _ ?_); clear hK12 K12
    refine pwp_seq_plain rfl fun K13 hK13 => ?_
    refine p_step rfl (e_move (v := .lit _ _ _) rfl) trivial ?_
    refine p_step rfl (e_move (v := .sc _) rfl) trivial ?_
    refine p_call rfl (.cons inn_lit (.cons inn_sc .nil)) (TotalS _ _ hsh.2.1 hsh.2.2) ?_
    refine p_step rfl (e_move (v := .tup _) rfl) trivial ?_
    refine p_step rfl (e_ext (v := .sc _) rfl (by simp) rfl) trivial ?_
    refine p_step rfl (e_ext (v := .sc _) rfl (by simp) rfl) trivial ?_
    refine p_step rfl (e_assign (v := .sc _) rfl) trivial ?_
    refine p_step rfl (e_assign (v := .sc _) rfl) trivial ?_
    refine p_end (hK13 _ ?_); clear hK13 K13
    refine pwp_seq_plain rfl fun K14 hK14 => ?_
    refine p_step rfl (e_move (v := .lit _ _ _) rfl) trivial ?_
    refine p_call rfl (.cons inn_lit .nil) (refCheckS _ hsh.2.1 hsh.2.2) ?_
    refine p_step rfl (e_assign (v := .sc _) rfl) trivial ?_
    refine p_end (hK14 _ ?_); clear hK14 K14
    refine pwp_seq_seq ?_
    refine pwp_seq_plain rfl fun K15 hK15 => ?_
    refine p_step rfl (e_move (v := .lit _ _ _) rfl) trivial ?_
    refine p_call rfl (.cons inn_lit .nil) (CheckS _ hsh.2.1 hsh.2.2) ?_
    refine p_step rfl (e_move (v := .sc _) rfl) trivial ?_
    refine p_step rfl (e_ne rfl rfl) trivial ?_
    refine p_end (hK15 _ ?_); clear hK15 K15
    refine pwp_seq_cond rfl fun K16 hK16 => ⟨fun hb17 => ?_, fun hb17 => ?_⟩
    ·have hb17R := hb17; (try simp only [z1, z2, z3, z4, z5, z6, ne_eq, z7, z8, z9, z10, z11, z12] at hb17); (try (have hsh := shortB_iff hb17)); (try (have hok := stockE_ok hb17)); (try (have hn1 := norm_1 hb17; have hc1 := cntW_1 (p := p) (z := z) hb17; have ht1 := totW_1 (p := p) hb17)); (try (have hn0 := nrm_ref hb17; have hc0 := cnt_ref (p := p) (z := z) hb17; have ht0 := tot_ref (p := p) hb17))
     refine pwp_seq_plain rfl fun K18 hK18 => ?_
     refine p_step rfl (e_assign (v := .sc _) rfl) trivial ?_
     refine p_end (hK18 _ ?_); clear hK18 K18
     refine pwp_ret ?_
     refine ret_seq ?_
     refine end1 (v := .sc _) rfl ?_
     first
       | exact out_b rfl
       | (exfalso; omega)
       | (refine out_b ?_; simp; done)
       | (refine out_b ?_; simp [hn1]; omega)
       | (refine out_b ?_; simp [hn1, ← hc1, ← ht1]; done)
       | (exfalso; rw [hn1] at *; simp_all; done)
       | (refine out_b ?_; simp [ht0]; done)
       | (exfalso; simp_all; done)
    ·have hb17R := hb17; (try simp only [z1, z2, z3, z4, z5, z6, ne_eq, z7, z8, z9, z10, z11, z12] at hb17); (try (have hsh := shortB_iff hb17)); (try (have hok := stockE_ok hb17)); (try (have hn1 := norm_1 hb17; have hc1 := cntW_1 (p := p) (z := z) hb17; have ht1 := totW_1 (p := p) hb17)); (try (have hn0 := nrm_ref hb17; have hc0 := cnt_ref (p := p) (z := z) hb17; have ht0 := tot_ref (p := p) hb17))
     refine pwp_skip ?_
     refine seq_norm (hK16 _ ?_); clear hK16 K16
     refine pwp_seq_seq ?_
     refine pwp_seq_plain rfl fun K19 hK19 => ?_
     refine p_step rfl (e_move (v := .sc _) rfl) trivial ?_
     refine p_step rfl (e_ne rfl rfl) trivial ?_
     refine p_end (hK19 _ ?_); clear hK19 K19
     refine pwp_seq_cond rfl fun K20 hK20 => ⟨fun hb21 => ?_, fun hb21 => ?_⟩
     ·have hb21R := hb21; (try simp only [z1, z2, z3, z4, z5, z6, ne_eq, z7, z8, z9, z10, z11, z12] at hb21); (try (have hsh := shortB_iff hb21)); (try (have hok := stockE_ok hb21)); (try (have hn1 := norm_1 hb21; have hc1 := cntW_1 (p := p) (z := z) hb21; have ht1 := totW_1 (p := p) hb21)); (try (have hn0 := nrm_ref hb21; have hc0 := cnt_ref (p := p) (z := z) hb21; have ht0 := tot_ref (p := p) hb21))
      refine pwp_seq_gops rfl fun K22 hK22 => ?_
      refine g_begin ?_
      refine g_step rfl rfl rfl rfl (e_move (v := .sc _) rfl) trivial ?_
      refine g_step rfl rfl rfl rfl (e_move (v := .sc _) rfl) trivial ?_
      refine g_step rfl rfl rfl rfl (e_eq rfl rfl) trivial ?_
      refine g_step rfl rfl rfl rfl (e_move (v := .sc _) rfl) trivial ?_
      refine g_cases (fun hb23 => ?_) (fun hb23 => ?_)
      ·have hb23R := hb23; (try simp only [z1, z2, z3, z4, z5, z6, ne_eq, z7, z8, z9, z10, z11, z12] at hb23); (try (have hsh := shortB_iff hb23)); (try (have hok := stockE_ok hb23)); (try (have hn1 := norm_1 hb23; have hc1 := cntW_1 (p := p) (z := z) hb23; have ht1 := totW_1 (p := p) hb23)); (try (have hn0 := nrm_ref hb23; have hc0 := cnt_ref (p := p) (z := z) hb23; have ht0 := tot_ref (p := p) hb23))
       refine g_step rfl rfl rfl rfl (e_move (v := .sc _) rfl) trivial ?_
       refine g_step rfl rfl rfl rfl (e_move (v := .sc _) rfl) trivial ?_
       refine g_step rfl rfl rfl rfl (e_eq rfl rfl) trivial ?_
       refine g_step rfl rfl rfl rfl (e_pickT (v := .sc _) rfl rfl) trivial ?_
       refine g_step rfl rfl rfl rfl (e_move (v := .sc _) rfl) trivial ?_
       refine g_cases (fun hb24 => ?_) (fun hb24 => ?_)
       ·have hb24R := hb24; (try simp only [z1, z2, z3, z4, z5, z6, ne_eq, z7, z8, z9, z10, z11, z12] at hb24); (try (have hsh := shortB_iff hb24)); (try (have hok := stockE_ok hb24)); (try (have hn1 := norm_1 hb24; have hc1 := cntW_1 (p := p) (z := z) hb24; have ht1 := totW_1 (p := p) hb24)); (try (have hn0 := nrm_ref hb24; have hc0 := cnt_ref (p := p) (z := z) hb24; have ht0 := tot_ref (p := p) hb24))
        refine g_step rfl rfl rfl rfl (e_move (v := .sc _) rfl) trivial ?_
        refine g_step rfl rfl rfl rfl (e_move (v := .sc _) rfl) trivial ?_
        refine g_step rfl rfl rfl rfl (e_eq rfl rfl) trivial ?_
        refine g_step rfl rfl rfl rfl (e_pickT (v := .sc _) rfl rfl) trivial ?_
        refine g_step rfl rfl rfl rfl (e_move (v := .sc _) rfl) trivial ?_
        refine g_cases (fun hb25 => ?_) (fun hb25 => ?_)
        ·have hb25R := hb25; (try simp only [z1, z2, z3, z4, z5, z6, ne_eq, z7, z8, z9, z10, z11, z12] at hb25); (try (have hsh := shortB_iff hb25)); (try (have hok := stockE_ok hb25)); (try (have hn1 := norm_1 hb25; have hc1 := cntW_1 (p := p) (z := z) hb25; have ht1 := totW_1 (p := p) hb25)); (try (have hn0 := nrm_ref hb25; have hc0 := cnt_ref (p := p) (z := z) hb25; have ht0 := tot_ref (p := p) hb25))
         refine g_step rfl rfl rfl rfl (e_move (v := .lit _ _ _) rfl) trivial ?_
         refine g_step rfl rfl rfl rfl (e_len rfl (by kernel_rfl)) trivial ?_
         refine g_step rfl rfl rfl rfl (e_eq rfl rfl) trivial ?_
         refine g_step rfl rfl rfl rfl (e_pickT (v := .sc _) rfl rfl) trivial ?_
         refine g_step rfl rfl rfl rfl (e_move (v := .sc _) rfl) trivial ?_
         refine g_cases (fun hb26 => ?_) (fun hb26 => ?_)
         ·have hb26R := hb26; (try simp only [z1, z2, z3, z4, z5, z6, ne_eq, z7, z8, z9, z10, z11, z12] at hb26); (try (have hsh := shortB_iff hb26)); (try (have hok := stockE_ok hb26)); (try (have hn1 := norm_1 hb26; have hc1 := cntW_1 (p := p) (z := z) hb26; have ht1 := totW_1 (p := p) hb26)); (try (have hn0 := nrm_ref hb26; have hc0 := cnt_ref (p := p) (z := z) hb26; have ht0 := tot_ref (p := p) hb26))
          refine g_step rfl rfl rfl rfl (e_move (v := .sc _) rfl) trivial ?_
          refine g_step rfl rfl rfl rfl (e_eq rfl rfl) trivial ?_
          refine g_step rfl rfl rfl rfl (e_pickT (v := .sc _) rfl rfl) trivial ?_
          refine g_step rfl rfl rfl rfl (e_move (v := .sc _) rfl) trivial ?_
          refine g_cases (fun hb27 => ?_) (fun hb27 => ?_)
          ·have hb27R := hb27; (try simp only [z1, z2, z3, z4, z5, z6, ne_eq, z7, z8, z9, z10, z11, z12] at hb27); (try (have hsh := shortB_iff hb27)); (try (have hok := stockE_ok hb27)); (try (have hn1 := norm_1 hb27; have hc1 := cntW_1 (p := p) (z := z) hb27; have ht1 := totW_1 (p := p) hb27)); (try (have hn0 := nrm_ref hb27; have hc0 := cnt_ref (p := p) (z := z) hb27; have ht0 := tot_ref (p := p) hb27))
           refine g_step rfl rfl rfl rfl (e_move (v := .sc _) rfl) trivial ?_
           refine g_step rfl rfl rfl rfl (e_eq rfl rfl) trivial ?_
           refine g_step rfl rfl rfl rfl (e_pickT (v := .sc _) rfl rfl) trivial ?_
           refine g_step rfl rfl rfl rfl (e_assign (v := .sc _) rfl) trivial ?_
           refine g_end (ds := [56, 57, 58, 61, 62, 63, 66, 67, 68, 71, 72, 75, 76]) rfl rfl (hK22 _ ?_); clear hK22 K22
           refine pwp_ret ?_
           refine ret_seq ?_
           refine end1 (v := .sc _) rfl ?_
           first
             | exact out_b rfl
             | (exfalso; omega)
             | (refine out_b ?_; simp; done)
             | (refine out_b ?_; simp [hn1]; omega)
             | (refine out_b ?_; simp [hn1, ← hc1, ← ht1]; done)
             | (exfalso; rw [hn1] at *; simp_all; done)
             | (refine out_b ?_; simp [ht0]; done)
             | (exfalso; simp_all; done)
          ·have hb27R := hb27; (try simp only [z1, z2, z3, z4, z5, z6, ne_eq, z7, z8, z9, z10, z11, z12] at hb27); (try (have hsh := shortB_iff hb27)); (try (have hok := stockE_ok hb27)); (try (have hn1 := norm_1 hb27; have hc1 := cntW_1 (p := p) (z := z) hb27; have ht1 := totW_1 (p := p) hb27)); (try (have hn0 := nrm_ref hb27; have hc0 := cnt_ref (p := p) (z := z) hb27; have ht0 := tot_ref (p := p) hb27))
           refine g_skip rfl rfl rfl ?_
           refine g_skip rfl rfl rfl ?_
           refine g_step rfl rfl rfl rfl (e_pickF (v := .sc _) rfl rfl) trivial ?_
           refine g_step rfl rfl rfl rfl (e_assign (v := .sc _) rfl) trivial ?_
           refine g_end (ds := [56, 57, 58, 61, 62, 63, 66, 67, 68, 71, 72, 75, 76]) rfl rfl (hK22 _ ?_); clear hK22 K22
           refine pwp_ret ?_
           refine ret_seq ?_
           refine end1 (v := .sc _) rfl ?_
           first
             | exact out_b rfl
             | (exfalso; omega)
             | (refine out_b ?_; simp; done)
             | (refine out_b ?_; simp [hn1]; omega)
             | (refine out_b ?_; simp [hn1, ← hc1, ← ht1]; done)
             | (exfalso; rw [hn1] at *; simp_all; done)
             | (refine out_b ?_; simp [ht0]; done)
             | (exfalso; simp_all; done)
         ·have hb26R := hb26; (try simp only [z1, z2, z3, z4, z5, z6, ne_eq, z7, z8, z9, z10, z11, z12] at hb26); (try (have hsh := shortB_iff hb26)); (try (have hok := stockE_ok hb26)); (try (have hn1 := norm_1 hb26; have hc1 := cntW_1 (p := p) (z := z) hb26; have ht1 := totW_1 (p := p) hb26)); (try (have hn0 := nrm_ref hb26; have hc0 := cnt_ref (p := p) (z := z) hb26; have ht0 := tot_ref (p := p) hb26))
          refine g_skip rfl rfl rfl ?_
          refine g_skip rfl rfl rfl ?_
          refine g_step rfl rfl rfl rfl (e_pickF (v := .sc _) rfl rfl) trivial ?_
          refine g_step rfl rfl rfl rfl (e_move (v := .sc _) rfl) trivial ?_
          refine g_skip rfl rfl rfl ?_
          refine g_skip rfl rfl rfl ?_
          refine g_step rfl rfl rfl rfl (e_pickF (v := .sc _) rfl rfl) trivial ?_
          refine g_step rfl rfl rfl rfl (e_assign (v := .sc _) rfl) trivial ?_
          refine g_end (ds := [56, 57, 58, 61, 62, 63, 66, 67, 68, 71, 72, 75, 76]) rfl rfl (hK22 _ ?_); clear hK22 K22
          refine pwp_ret ?_
          refine ret_seq ?_
          refine end1 (v := .sc _) rfl ?_
          first
            | exact out_b rfl
            | (exfalso; omega)
            | (refine out_b ?_; simp; done)
            | (refine out_b ?_; simp [hn1]; omega)
            | (refine out_b ?_; simp [hn1, ← hc1, ← ht1]; done)
            | (exfalso; rw [hn1] at *; simp_all; done)
            | (refine out_b ?_; simp [ht0]; done)
            | (exfalso; simp_all; done)
        ·have hb25R := hb25; (try simp only [z1, z2, z3, z4, z5, z6, ne_eq, z7, z8, z9, z10, z11, z12] at hb25); (try (have hsh := shortB_iff hb25)); (try (have hok := stockE_ok hb25)); (try (have hn1 := norm_1 hb25; have hc1 := cntW_1 (p := p) (z := z) hb25; have ht1 := totW_1 (p := p) hb25)); (try (have hn0 := nrm_ref hb25; have hc0 := cnt_ref (p := p) (z := z) hb25; have ht0 := tot_ref (p := p) hb25))
         refine g_skip rfl rfl rfl ?_
         refine g_skip rfl rfl rfl ?_
         refine g_skip rfl rfl rfl ?_
         refine g_step rfl rfl rfl rfl (e_pickF (v := .sc _) rfl rfl) trivial ?_
         refine g_step rfl rfl rfl rfl (e_move (v := .sc _) rfl) trivial ?_
         refine g_skip rfl rfl rfl ?_
         refine g_skip rfl rfl rfl ?_
         refine g_step rfl rfl rfl rfl (e_pickF (v := .sc _) rfl rfl) trivial ?_
         refine g_step rfl rfl rfl rfl (e_move (v := .sc _) rfl) trivial ?_
         refine g_skip rfl rfl rfl ?_
         refine g_skip rfl rfl rfl ?_
         refine g_step rfl rfl rfl rfl (e_pickF (v := .sc _) rfl rfl) trivial ?_
         refine g_step rfl rfl rfl rfl (e_assign (v := .sc _) rfl) trivial ?_
         refine g_end (ds := [56, 57, 58, 61, 62, 63, 66, 67, 68, 71, 72, 75, 76]) rfl rfl (hK22 _ ?_); clear hK22 K22
         refine pwp_ret ?_
         refine ret_seq ?_
         refine end1 (v := .sc _) rfl ?_
         first
           | exact out_b rfl
           | (exfalso; omega)
           | (refine out_b ?_; simp; done)
           | (refine out_b ?_; simp [hn1]; omega)
           | (refine out_b ?_; simp [hn1, ← hc1, ← ht1]; done)
           | (exfalso; rw [hn1] at *; simp_all; done)
           | (refine out_b ?_; simp [ht0]; done)
           | (exfalso; simp_all; done)
       ·have hb24R := hb24; (try simp only [z1, z2, z3, z4, z5, z6, ne_eq, z7, z8, z9, z10, z11, z12] at hb24); (try (have hsh := shortB_iff hb24)); (try (have hok := stockE_ok hb24)); (try (have hn1 := norm_1 hb24; have hc1 := cntW_1 (p := p) (z := z) hb24; have ht1 := totW_1 (p := p) hb24)); (try (have hn0 := nrm_ref hb24; have hc0 := cnt_ref (p := p) (z := z) hb24; have ht0 := tot_ref (p := p) hb24))
        refine g_skip rfl rfl rfl ?_
        refine g_skip rfl rfl rfl ?_
        refine g_skip rfl rfl rfl ?_
        refine g_step rfl rfl rfl rfl (e_pickF (v := .sc _) rfl rfl) trivial ?_
        refine g_step rfl rfl rfl rfl (e_move (v := .sc _) rfl) trivial ?_
        refine g_skip rfl rfl rfl ?_
        refine g_skip rfl rfl rfl ?_
        refine g_skip rfl rfl rfl ?_
        refine g_step rfl rfl rfl rfl (e_pickF (v := .sc _) rfl rfl) trivial ?_
        refine g_step rfl rfl rfl rfl (e_move (v := .sc _) rfl) trivial ?_
        refine g_skip rfl rfl rfl ?_
        refine g_skip rfl rfl rfl ?_
        refine g_step rfl rfl rfl rfl (e_pickF (v := .sc _) rfl rfl) trivial ?_
        refine g_step rfl rfl rfl rfl (e_move (v := .sc _) rfl) trivial ?_
        refine g_skip rfl rfl rfl ?_
        refine g_skip rfl rfl rfl ?_
        refine g_step rfl rfl rfl rfl (e_pickF (v := .sc _) rfl rfl) trivial ?_
        refine g_step rfl rfl rfl rfl (e_assign (v := .sc _) rfl) trivial ?_
        refine g_end (ds := [56, 57, 58, 61, 62, 63, 66, 67, 68, 71, 72, 75, 76]) rfl rfl (hK22 _ ?_); clear hK22 K22
        refine pwp_ret ?_
        refine ret_seq ?_
        refine end1 (v := .sc _) rfl ?_
        first
          | exact out_b rfl
          | (exfalso; omega)
          | (refine out_b ?_; simp; done)
          | (refine out_b ?_; simp [hn1]; omega)
          | (refine out_b ?_; simp [hn1, ← hc1, ← ht1]; done)
          | (exfalso; rw [hn1] at *; simp_all; done)
          | (refine out_b ?_; simp [ht0]; done)
          | (exfalso; simp_all; done)
      ·have hb23R := hb23; (try simp only [z1, z2, z3, z4, z5, z6, ne_eq, z7, z8, z9, z10, z11, z12] at hb23); (try (have hsh := shortB_iff hb23)); (try (have hok := stockE_ok hb23)); (try (have hn1 := norm_1 hb23; have hc1 := cntW_1 (p := p) (z := z) hb23; have ht1 := totW_1 (p := p) hb23)); (try (have hn0 := nrm_ref hb23; have hc0 := cnt_ref (p := p) (z := z) hb23; have ht0 := tot_ref (p := p) hb23))
       refine g_skip rfl rfl rfl ?_
       refine g_skip rfl rfl rfl ?_
       refine g_skip rfl rfl rfl ?_
       refine g_step rfl rfl rfl rfl (e_pickF (v := .sc _) rfl rfl) trivial ?_
       refine g_step rfl rfl rfl rfl (e_move (v := .sc _) rfl) trivial ?_
       refine g_skip rfl rfl rfl ?_
       refine g_skip rfl rfl rfl ?_
       refine g_skip rfl rfl rfl ?_
       refine g_step rfl rfl rfl rfl (e_pickF (v := .sc _) rfl rfl) trivial ?_
       refine g_step rfl rfl rfl rfl (e_move (v := .sc _) rfl) trivial ?_
       refine g_skip rfl rfl rfl ?_
       refine g_skip rfl rfl rfl ?_
       refine g_skip rfl rfl rfl ?_
       refine g_step rfl rfl rfl rfl (e_pickF (v := .sc _) rfl rfl) trivial ?_
       refine g_step rfl rfl rfl rfl (e_move (v := .sc _) rfl) trivial ?_
       refine g_skip rfl rfl rfl ?_
       refine g_skip rfl rfl rfl ?_
       refine g_step rfl rfl rfl rfl (e_pickF (v := .sc _) rfl rfl) trivial ?_
       refine g_step rfl rfl rfl rfl (e_move (v := .sc _) rfl) trivial ?_
       refine g_skip rfl rfl rfl ?_
       refine g_skip rfl rfl rfl ?_
       refine g_step rfl rfl rfl rfl (e_pickF (v := .sc _) rfl rfl) trivial ?_
       refine g_step rfl rfl rfl rfl (e_assign (v := .sc _) rfl) trivial ?_
       refine g_end (ds := [56, 57, 58, 61, 62, 63, 66, 67, 68, 71, 72, 75, 76]) rfl rfl (hK22 _ ?_); clear hK22 K22
       refine pwp_ret ?_
       refine ret_seq ?_
       refine end1 (v := .sc _) rfl ?_
       first
         | exact out_b rfl
         | (exfalso; omega)
         | (refine out_b ?_; simp; done)
         | (refine out_b ?_; simp [hn1]; omega)
         | (refine out_b ?_; simp [hn1, ← hc1, ← ht1]; done)
         | (exfalso; rw [hn1] at *; simp_all; done)
         | (refine out_b ?_; simp [ht0]; done)
         | (exfalso; simp_all; done)
     ·have hb21R := hb21; (try simp only [z1, z2, z3, z4, z5, z6, ne_eq, z7, z8, z9, z10, z11, z12] at hb21); (try (have hsh := shortB_iff hb21)); (try (have hok := stockE_ok hb21)); (try (have hn1 := norm_1 hb21; have hc1 := cntW_1 (p := p) (z := z) hb21; have ht1 := totW_1 (p := p) hb21)); (try (have hn0 := nrm_ref hb21; have hc0 := cnt_ref (p := p) (z := z) hb21; have ht0 := tot_ref (p := p) hb21))
      refine pwp_skip ?_
      refine seq_norm (hK20 _ ?_); clear hK20 K20
      refine pwp_seq_plain rfl fun K28 hK28 => ?_
      refine p_step rfl (e_move (v := .lit _ _ _) rfl) trivial ?_
      refine p_call rfl (.cons inn_lit .nil) (refNormal _ (by assumption)) ?_
      refine p_step rfl (e_move (v := .tup _) rfl) trivial ?_
      refine p_step rfl (e_ext (v := .lit _ _ _) rfl (by simp) rfl) trivial ?_
      refine p_step rfl (e_ext (v := .sc _) rfl (by simp) rfl) trivial ?_
      refine p_step rfl (e_assign (v := .lit _ _ _) rfl) trivial ?_
      refine p_step rfl (e_assign (v := .sc _) rfl) trivial ?_
      refine p_end (hK28 _ ?_); clear hK28 K28
      refine pwp_seq_gops rfl fun K29 hK29 => ?_
      refine g_begin ?_
      refine g_step rfl rfl rfl rfl (e_move (v := .sc _) rfl) trivial ?_
      refine g_step rfl rfl rfl rfl (e_move (v := .sc _) rfl) trivial ?_
      refine g_step rfl rfl rfl rfl (e_eq rfl rfl) trivial ?_
      refine g_step rfl rfl rfl rfl (e_move (v := .sc _) rfl) trivial ?_
      refine g_cases (fun hb30 => ?_) (fun hb30 => ?_)
      ·have hb30R := hb30; (try simp only [z1, z2, z3, z4, z5, z6, ne_eq, z7, z8, z9, z10, z11, z12] at hb30); (try (have hsh := shortB_iff hb30)); (try (have hok := stockE_ok hb30)); (try (have hn1 := norm_1 hb30; have hc1 := cntW_1 (p := p) (z := z) hb30; have ht1 := totW_1 (p := p) hb30)); (try (have hn0 := nrm_ref hb30; have hc0 := cnt_ref (p := p) (z := z) hb30; have ht0 := tot_ref (p := p) hb30))
       refine g_step rfl rfl rfl rfl (e_move (v := .lit _ _ _) rfl) trivial ?_
       refine g_step rfl rfl rfl rfl (e_move (v := .lit _ _ _) rfl) trivial ?_
       refine g_call rfl rfl rfl rfl (.cons inn_lit (.cons inn_lit .nil)) (SameStock _ _ (Nat.le_trans (normR_len xs) (by decide))) ?_
       refine g_step rfl rfl rfl rfl (e_pickT (v := .sc _) rfl rfl) trivial ?_
       refine g_step rfl rfl rfl rfl (e_move (v := .sc _) rfl) trivial ?_
       refine g_cases (fun hb31 => ?_) (fun hb31 => ?_)
       ·have hb31R := hb31; (try simp only [z1, z2, z3, z4, z5, z6, ne_eq, z7, z8, z9, z10, z11, z12] at hb31); (try (have hsh := shortB_iff hb31)); (try (have hok := stockE_ok hb31)); (try (have hn1 := norm_1 hb31; have hc1 := cntW_1 (p := p) (z := z) hb31; have ht1 := totW_1 (p := p) hb31)); (try (have hn0 := nrm_ref hb31; have hc0 := cnt_ref (p := p) (z := z) hb31; have ht0 := tot_ref (p := p) hb31))
        refine g_step rfl rfl rfl rfl (e_move (v := .sc _) rfl) trivial ?_
        refine g_step rfl rfl rfl rfl (e_eq rfl rfl) trivial ?_
        refine g_step rfl rfl rfl rfl (e_pickT (v := .sc _) rfl rfl) trivial ?_
        refine g_step rfl rfl rfl rfl (e_move (v := .sc _) rfl) trivial ?_
        refine g_cases (fun hb32 => ?_) (fun hb32 => ?_)
        ·have hb32R := hb32; (try simp only [z1, z2, z3, z4, z5, z6, ne_eq, z7, z8, z9, z10, z11, z12] at hb32); (try (have hsh := shortB_iff hb32)); (try (have hok := stockE_ok hb32)); (try (have hn1 := norm_1 hb32; have hc1 := cntW_1 (p := p) (z := z) hb32; have ht1 := totW_1 (p := p) hb32)); (try (have hn0 := nrm_ref hb32; have hc0 := cnt_ref (p := p) (z := z) hb32; have ht0 := tot_ref (p := p) hb32))
         refine g_step rfl rfl rfl rfl (e_move (v := .sc _) rfl) trivial ?_
         refine g_step rfl rfl rfl rfl (e_move (v := .lit _ _ _) rfl) trivial ?_
         refine g_step rfl rfl rfl rfl (e_move (v := .sc _) rfl) trivial ?_
         refine g_step rfl rfl rfl rfl (e_loadHA (n := 2) rfl (hset_self _ _ _) (by kernel_rfl) (by kernel_rfl) (by kernel_rfl) (by exact Nat.zero_lt_one) (by decide) rfl) trivial ?_
         refine g_call rfl rfl rfl rfl (.cons inn_lit (.cons inn_sc (.cons (inn_agg (At.pure _)) .nil))) (refCount _ _ _ (by omega) (fun x hx => by have := hok.2 x hx; omega)) ?_
         refine g_step rfl rfl rfl rfl (e_eq rfl rfl) trivial ?_
         refine g_step rfl rfl rfl rfl (e_pickT (v := .sc _) rfl rfl) trivial ?_
         refine g_step rfl rfl rfl rfl (e_move (v := .sc _) rfl) trivial ?_
         refine g_cases (fun hb33 => ?_) (fun hb33 => ?_)
         ·have hb33R := hb33; (try simp only [z1, z2, z3, z4, z5, z6, ne_eq, z7, z8, z9, z10, z11, z12] at hb33); (try (have hsh := shortB_iff hb33)); (try (have hok := stockE_ok hb33)); (try (have hn1 := norm_1 hb33; have hc1 := cntW_1 (p := p) (z := z) hb33; have ht1 := totW_1 (p := p) hb33)); (try (have hn0 := nrm_ref hb33; have hc0 := cnt_ref (p := p) (z := z) hb33; have ht0 := tot_ref (p := p) hb33))
          refine g_step rfl rfl rfl rfl (e_move (v := .sc _) rfl) trivial ?_
          refine g_step rfl rfl rfl rfl (e_eq rfl rfl) trivial ?_
          refine g_step rfl rfl rfl rfl (e_pickT (v := .sc _) rfl rfl) trivial ?_
          refine g_step rfl rfl rfl rfl (e_move (v := .sc _) rfl) trivial ?_
          refine g_cases (fun hb34 => ?_) (fun hb34 => ?_)
          ·have hb34R := hb34; (try simp only [z1, z2, z3, z4, z5, z6, ne_eq, z7, z8, z9, z10, z11, z12] at hb34); (try (have hsh := shortB_iff hb34)); (try (have hok := stockE_ok hb34)); (try (have hn1 := norm_1 hb34; have hc1 := cntW_1 (p := p) (z := z) hb34; have ht1 := totW_1 (p := p) hb34)); (try (have hn0 := nrm_ref hb34; have hc0 := cnt_ref (p := p) (z := z) hb34; have ht0 := tot_ref (p := p) hb34))
           refine g_step rfl rfl rfl rfl (e_move (v := .sc _) rfl) trivial ?_
           refine g_step rfl rfl rfl rfl (e_move (v := .lit _ _ _) rfl) trivial ?_
           refine g_step rfl rfl rfl rfl (e_move (v := .sc _) rfl) trivial ?_
           refine g_call rfl rfl rfl rfl (.cons inn_lit (.cons inn_sc .nil)) (refTotalS _ _ (by assumption)) ?_
           refine g_step rfl rfl rfl rfl (e_eq rfl rfl) trivial ?_
           refine g_step rfl rfl rfl rfl (e_pickT (v := .sc _) rfl rfl) trivial ?_
           refine g_step rfl rfl rfl rfl (e_assign (v := .sc _) rfl) trivial ?_
           refine g_end (ds := [87, 88, 89, 92, 93, 96, 97, 98, 99, 100, 101, 104, 105, 108, 109, 110, 111, 112]) rfl rfl (hK29 _ ?_); clear hK29 K29
           refine pwp_ret ?_
           refine end1 (v := .sc _) rfl ?_
           first
             | exact out_b rfl
             | (exfalso; omega)
             | (refine out_b ?_; simp; done)
             | (refine out_b ?_; simp [hn1]; omega)
             | (refine out_b ?_; simp [hn1, ← hc1, ← ht1]; done)
             | (exfalso; rw [hn1] at *; simp_all; done)
             | (refine out_b ?_; simp [ht0]; done)
             | (exfalso; simp_all; done)
          ·have hb34R := hb34; (try simp only [z1, z2, z3, z4, z5, z6, ne_eq, z7, z8, z9, z10, z11, z12] at hb34); (try (have hsh := shortB_iff hb34)); (try (have hok := stockE_ok hb34)); (try (have hn1 := norm_1 hb34; have hc1 := cntW_1 (p := p) (z := z) hb34; have ht1 := totW_1 (p := p) hb34)); (try (have hn0 := nrm_ref hb34; have hc0 := cnt_ref (p := p) (z := z) hb34; have ht0 := tot_ref (p := p) hb34))
           refine g_skip rfl rfl rfl ?_
           refine g_skip rfl rfl rfl ?_
           refine g_skip rfl rfl rfl ?_
           refine g_nocall rfl rfl rfl ?_
           refine g_skip rfl rfl rfl ?_
           refine g_step rfl rfl rfl rfl (e_pickF (v := .sc _) rfl rfl) trivial ?_
           refine g_step rfl rfl rfl rfl (e_assign (v := .sc _) rfl) trivial ?_
           refine g_end (ds := [87, 88, 89, 92, 93, 96, 97, 98, 99, 100, 101, 104, 105, 108, 109, 110, 111, 112]) rfl rfl (hK29 _ ?_); clear hK29 K29
           refine pwp_ret ?_
           refine end1 (v := .sc _) rfl ?_
           first
             | exact out_b rfl
             | (exfalso; omega)
             | (refine out_b ?_; simp; done)
             | (refine out_b ?_; simp [hn1]; omega)
             | (refine out_b ?_; simp [hn1, ← hc1, ← ht1]; done)
             | (exfalso; rw [hn1] at *; simp_all; done)
             | (refine out_b ?_; simp [ht0]; done)
             | (exfalso; simp_all; done)
         ·have hb33R := hb33; (try simp only [z1, z2, z3, z4, z5, z6, ne_eq, z7, z8, z9, z10, z11, z12] at hb33); (try (have hsh := shortB_iff hb33)); (try (have hok := stockE_ok hb33)); (try (have hn1 := norm_1 hb33; have hc1 := cntW_1 (p := p) (z := z) hb33; have ht1 := totW_1 (p := p) hb33)); (try (have hn0 := nrm_ref hb33; have hc0 := cnt_ref (p := p) (z := z) hb33; have ht0 := tot_ref (p := p) hb33))
          refine g_skip rfl rfl rfl ?_
          refine g_skip rfl rfl rfl ?_
          refine g_step rfl rfl rfl rfl (e_pickF (v := .sc _) rfl rfl) trivial ?_
          refine g_step rfl rfl rfl rfl (e_move (v := .sc _) rfl) trivial ?_
          refine g_skip rfl rfl rfl ?_
          refine g_skip rfl rfl rfl ?_
          refine g_skip rfl rfl rfl ?_
          refine g_nocall rfl rfl rfl ?_
          refine g_skip rfl rfl rfl ?_
          refine g_step rfl rfl rfl rfl (e_pickF (v := .sc _) rfl rfl) trivial ?_
          refine g_step rfl rfl rfl rfl (e_assign (v := .sc _) rfl) trivial ?_
          refine g_end (ds := [87, 88, 89, 92, 93, 96, 97, 98, 99, 100, 101, 104, 105, 108, 109, 110, 111, 112]) rfl rfl (hK29 _ ?_); clear hK29 K29
          refine pwp_ret ?_
          refine end1 (v := .sc _) rfl ?_
          first
            | exact out_b rfl
            | (exfalso; omega)
            | (refine out_b ?_; simp; done)
            | (refine out_b ?_; simp [hn1]; omega)
            | (refine out_b ?_; simp [hn1, ← hc1, ← ht1]; done)
            | (exfalso; rw [hn1] at *; simp_all; done)
            | (refine out_b ?_; simp [ht0]; done)
            | (exfalso; simp_all; done)
        ·have hb32R := hb32; (try simp only [z1, z2, z3, z4, z5, z6, ne_eq, z7, z8, z9, z10, z11, z12] at hb32); (try (have hsh := shortB_iff hb32)); (try (have hok := stockE_ok hb32)); (try (have hn1 := norm_1 hb32; have hc1 := cntW_1 (p := p) (z := z) hb32; have ht1 := totW_1 (p := p) hb32)); (try (have hn0 := nrm_ref hb32; have hc0 := cnt_ref (p := p) (z := z) hb32; have ht0 := tot_ref (p := p) hb32))
         refine g_skip rfl rfl rfl ?_
         refine g_skip rfl rfl rfl ?_
         refine g_skip rfl rfl rfl ?_
         refine g_skip rfl rfl rfl ?_
         refine g_nocall rfl rfl rfl ?_
         refine g_skip rfl rfl rfl ?_
         refine g_step rfl rfl rfl rfl (e_pickF (v := .sc _) rfl rfl) trivial ?_
         refine g_step rfl rfl rfl rfl (e_move (v := .sc _) rfl) trivial ?_
         refine g_skip rfl rfl rfl ?_
         refine g_skip rfl rfl rfl ?_
         refine g_step rfl rfl rfl rfl (e_pickF (v := .sc _) rfl rfl) trivial ?_
         refine g_step rfl rfl rfl rfl (e_move (v := .sc _) rfl) trivial ?_
         refine g_skip rfl rfl rfl ?_
         refine g_skip rfl rfl rfl ?_
         refine g_skip rfl rfl rfl ?_
         refine g_nocall rfl rfl rfl ?_
         refine g_skip rfl rfl rfl ?_
         refine g_step rfl rfl rfl rfl (e_pickF (v := .sc _) rfl rfl) trivial ?_
         refine g_step rfl rfl rfl rfl (e_assign (v := .sc _) rfl) trivial ?_
         refine g_end (ds := [87, 88, 89, 92, 93, 96, 97, 98, 99, 100, 101, 104, 105, 108, 109, 110, 111, 112]) rfl rfl (hK29 _ ?_); clear hK29 K29
         refine pwp_ret ?_
         refine end1 (v := .sc _) rfl ?_
         first
           | exact out_b rfl
           | (exfalso; omega)
           | (refine out_b ?_; simp; done)
           | (refine out_b ?_; simp [hn1]; omega)
           | (refine out_b ?_; simp [hn1, ← hc1, ← ht1]; done)
           | (exfalso; rw [hn1] at *; simp_all; done)
           | (refine out_b ?_; simp [ht0]; done)
           | (exfalso; simp_all; done)
       ·have hb31R := hb31; (try simp only [z1, z2, z3, z4, z5, z6, ne_eq, z7, z8, z9, z10, z11, z12] at hb31); (try (have hsh := shortB_iff hb31)); (try (have hok := stockE_ok hb31)); (try (have hn1 := norm_1 hb31; have hc1 := cntW_1 (p := p) (z := z) hb31; have ht1 := totW_1 (p := p) hb31)); (try (have hn0 := nrm_ref hb31; have hc0 := cnt_ref (p := p) (z := z) hb31; have ht0 := tot_ref (p := p) hb31))
        refine g_skip rfl rfl rfl ?_
        refine g_skip rfl rfl rfl ?_
        refine g_step rfl rfl rfl rfl (e_pickF (v := .sc _) rfl rfl) trivial ?_
        refine g_step rfl rfl rfl rfl (e_move (v := .sc _) rfl) trivial ?_
        refine g_skip rfl rfl rfl ?_
        refine g_skip rfl rfl rfl ?_
        refine g_skip rfl rfl rfl ?_
        refine g_skip rfl rfl rfl ?_
        refine g_nocall rfl rfl rfl ?_
        refine g_skip rfl rfl rfl ?_
        refine g_step rfl rfl rfl rfl (e_pickF (v := .sc _) rfl rfl) trivial ?_
        refine g_step rfl rfl rfl rfl (e_move (v := .sc _) rfl) trivial ?_
        refine g_skip rfl rfl rfl ?_
        refine g_skip rfl rfl rfl ?_
        refine g_step rfl rfl rfl rfl (e_pickF (v := .sc _) rfl rfl) trivial ?_
        refine g_step rfl rfl rfl rfl (e_move (v := .sc _) rfl) trivial ?_
        refine g_skip rfl rfl rfl ?_
        refine g_skip rfl rfl rfl ?_
        refine g_skip rfl rfl rfl ?_
        refine g_nocall rfl rfl rfl ?_
        refine g_skip rfl rfl rfl ?_
        refine g_step rfl rfl rfl rfl (e_pickF (v := .sc _) rfl rfl) trivial ?_
        refine g_step rfl rfl rfl rfl (e_assign (v := .sc _) rfl) trivial ?_
        refine g_end (ds := [87, 88, 89, 92, 93, 96, 97, 98, 99, 100, 101, 104, 105, 108, 109, 110, 111, 112]) rfl rfl (hK29 _ ?_); clear hK29 K29
        refine pwp_ret ?_
        refine end1 (v := .sc _) rfl ?_
        first
          | exact out_b rfl
          | (exfalso; omega)
          | (refine out_b ?_; simp; done)
          | (refine out_b ?_; simp [hn1]; omega)
          | (refine out_b ?_; simp [hn1, ← hc1, ← ht1]; done)
          | (exfalso; rw [hn1] at *; simp_all; done)
          | (refine out_b ?_; simp [ht0]; done)
          | (exfalso; simp_all; done)
      ·have hb30R := hb30; (try simp only [z1, z2, z3, z4, z5, z6, ne_eq, z7, z8, z9, z10, z11, z12] at hb30); (try (have hsh := shortB_iff hb30)); (try (have hok := stockE_ok hb30)); (try (have hn1 := norm_1 hb30; have hc1 := cntW_1 (p := p) (z := z) hb30; have ht1 := totW_1 (p := p) hb30)); (try (have hn0 := nrm_ref hb30; have hc0 := cnt_ref (p := p) (z := z) hb30; have ht0 := tot_ref (p := p) hb30))
       refine g_skip rfl rfl rfl ?_
       refine g_skip rfl rfl rfl ?_
       refine g_nocall rfl rfl rfl ?_
       refine g_step rfl rfl rfl rfl (e_pickF (v := .sc _) rfl rfl) trivial ?_
       refine g_step rfl rfl rfl rfl (e_move (v := .sc _) rfl) trivial ?_
       refine g_skip rfl rfl rfl ?_
       refine g_skip rfl rfl rfl ?_
       refine g_step rfl rfl rfl rfl (e_pickF (v := .sc _) rfl rfl) trivial ?_
       refine g_step rfl rfl rfl rfl (e_move (v := .sc _) rfl) trivial ?_
       refine g_skip rfl rfl rfl ?_
       refine g_skip rfl rfl rfl ?_
       refine g_skip rfl rfl rfl ?_
       refine g_skip rfl rfl rfl ?_
       refine g_nocall rfl rfl rfl ?_
       refine g_skip rfl rfl rfl ?_
       refine g_step rfl rfl rfl rfl (e_pickF (v := .sc _) rfl rfl) trivial ?_
       refine g_step rfl rfl rfl rfl (e_move (v := .sc _) rfl) trivial ?_
       refine g_skip rfl rfl rfl ?_
       refine g_skip rfl rfl rfl ?_
       refine g_step rfl rfl rfl rfl (e_pickF (v := .sc _) rfl rfl) trivial ?_
       refine g_step rfl rfl rfl rfl (e_move (v := .sc _) rfl) trivial ?_
       refine g_skip rfl rfl rfl ?_
       refine g_skip rfl rfl rfl ?_
       refine g_skip rfl rfl rfl ?_
       refine g_nocall rfl rfl rfl ?_
       refine g_skip rfl rfl rfl ?_
       refine g_step rfl rfl rfl rfl (e_pickF (v := .sc _) rfl rfl) trivial ?_
       refine g_step rfl rfl rfl rfl (e_assign (v := .sc _) rfl) trivial ?_
       refine g_end (ds := [87, 88, 89, 92, 93, 96, 97, 98, 99, 100, 101, 104, 105, 108, 109, 110, 111, 112]) rfl rfl (hK29 _ ?_); clear hK29 K29
       refine pwp_ret ?_
       refine end1 (v := .sc _) rfl ?_
       first
         | exact out_b rfl
         | (exfalso; omega)
         | (refine out_b ?_; simp; done)
         | (refine out_b ?_; simp [hn1]; omega)
         | (refine out_b ?_; simp [hn1, ← hc1, ← ht1]; done)
         | (exfalso; rw [hn1] at *; simp_all; done)
         | (refine out_b ?_; simp [ht0]; done)
         | (exfalso; simp_all; done)

end Go.Proofs.Ytigdmkhdmbbfiaa
