/- Whether moves are right, by the reference. No conditions. -/
import Derived.Test.YtdbpfhbppcpbbaaMov2
set_option linter.unusedSimpArgs false
set_option linter.unusedVariables false
set_option maxRecDepth 100000
namespace Go.Proofs.Ytdbpfhbppcpbbaa
open Go Go.Pv
/-! ### Right moves -/
theorem cell_n {L : List Int} (j : Nat) (hj : j < L.length) : cellAt [L.map PV.int] 0 j = .int (L.getD j 0) := by
  simp [cellAt, List.getD_eq_getElem?_getD, List.getElem?_eq_getElem hj]
theorem cnt_all {p : ByteArray} : ∀ (l : List Move) (cs : List Int) (k : Nat), cs.length = 3 → (∀ c ∈ cs, 0 ≤ c ∧ c ≤ 100000 * (k : Int)) → (∀ m ∈ l, okM m) → ∀ c ∈ l.foldl (cntStep p) cs, 0 ≤ c ∧ c ≤ 100000 * ((k + l.length : Nat) : Int)
  | [], _, _, _, hb, _ => hb
  | m :: l, cs, k, hc, hb, hok => by
    have h1 := cnt_all (p := p) l (cntStep p cs m) (k + 1) ((cntStep_len p cs m).trans hc) (cs_next hb hc (hok m (by simp))) fun x hx => hok x (by simp [hx])
    rw [List.foldl_cons]
    intro c hcm
    have := h1 c hcm
    rw [List.length_cons]
    omega
theorem cnt_bnd {p : ByteArray} {l : List Move} (hok : ∀ m ∈ l, okM m) (hl : l.length ≤ 305) (j : Nat) : 0 ≤ (cntL p l).getD j 0 ∧ (cntL p l).getD j 0 ≤ 30500000 := by
  rw [List.getD_eq_getElem?_getD]
  cases hq : (cntL p l)[j]? with
  | none => simp
  | some c =>
    have := cnt_all l [0, 0, 0] 0 rfl (by intro c hc; simp at hc; omega) hok c (List.mem_of_getElem? hq)
    simp only [Option.getD_some]
    omega
def badM (m : Move) : Prop := ¬ (0 ≤ m.day ∧ m.day ≤ 20000) ∨ ¬ (0 ≤ m.kind ∧ m.kind ≤ 2) ∨ ¬ (1 ≤ m.count ∧ m.count ≤ 100000)
instance (m : Move) : Decidable (badM m) := inferInstanceAs (Decidable (_ ∨ _))
/-- What is on hire of a part behind some moves. -/
def stkL (pre : List Move) (p : ByteArray) : Int := (cntL p pre).getD 0 0 - (cntL p pre).getD 1 0 - (cntL p pre).getD 2 0
def mvE (ts : List Term) (pre : List Move) (last : Int) (m : Move) : Int :=
  if badM m then 2 else if m.day < last then 10 else if termIx ts m.part < 0 then 6 else if m.kind ≠ 0 ∧ stkL pre m.part < m.count then 22 else 0
def goM (ts : List Term) : List Move → Int → List Move → Int
  | _, _, [] => 0
  | pre, last, m :: l => if mvE ts pre last m = 0 then goM ts (pre ++ [m]) m.day l else mvE ts pre last m
/-- The first error of moves, or 0. -/
def movE (ts : List Term) (ms : List Move) : Int := if 300 < ms.length then 8 else goM ts [] 0 ms
theorem movE_big {ts : List Term} {ms : List Move} (h : 300 < ms.length) : 8 = movE ts ms := by rw [movE, if_pos h]
theorem movE_go {ts : List Term} {ms : List Move} {z : Int} (h : ms.length ≤ 300) (h2 : goM ts [] 0 ms = z) : z = movE ts ms := by rw [movE, if_neg (by omega), h2]
section
variable {ts : List Term} {ms pre l : List Move} {m : Move} {last z : Int} {k : Nat}
theorem mvE_2 (h : badM m) : mvE ts pre last m = 2 := by rw [mvE, if_pos h]
theorem mvE_10 (h : ¬ badM m) (h1 : m.day < last) : mvE ts pre last m = 10 := by rw [mvE, if_neg h, if_pos h1]
theorem mvE_6 (h : ¬ badM m) (h1 : ¬ m.day < last) (h2 : termIx ts m.part < 0) : mvE ts pre last m = 6 := by rw [mvE, if_neg h, if_neg h1, if_pos h2]
theorem mvE_22 (h : ¬ badM m) (h1 : ¬ m.day < last) (h2 : ¬ termIx ts m.part < 0) (h3 : m.kind ≠ 0 ∧ stkL pre m.part < m.count) : mvE ts pre last m = 22 := by rw [mvE, if_neg h, if_neg h1, if_neg h2, if_pos h3]
theorem mvE_0 (h : ¬ badM m) (h1 : ¬ m.day < last) (h2 : ¬ termIx ts m.part < 0) (h3 : ¬ (m.kind ≠ 0 ∧ stkL pre m.part < m.count)) : mvE ts pre last m = 0 := by rw [mvE, if_neg h, if_neg h1, if_neg h2, if_neg h3]
theorem goM_stop (hinv : goM ts [] 0 ms = goM ts pre last (m :: l)) (hz : z ≠ 0) (hE : mvE ts pre last m = z) : goM ts [] 0 ms = z := by rw [hinv, goM, hE, if_neg hz]
theorem goM_next (hinv : goM ts [] 0 ms = goM ts pre last (m :: l)) (hE : mvE ts pre last m = 0) : goM ts [] 0 ms = goM ts (pre ++ [m]) m.day l := by rw [hinv, goM, if_pos hE]
theorem prev_get (h : (0 : Int) < (k : Int)) (hk : k ≤ ms.length) : ∃ y, ms[((k : Int) - (1)).toNat]? = some y := ⟨_, List.getElem?_eq_getElem (by omega)⟩
theorem prev_next {x : Move} (hx : ms[k]? = some x) : ∀ y, ms[(((k + 1 : Nat) : Int) - (1)).toNat]? = some y → y.day = x.day := by
  intro y hy
  rw [show (((k + 1 : Nat) : Int) - (1)).toNat = k by omega, hx] at hy
  cases hy; rfl
theorem ok_next {x : Move} (h : ∀ m ∈ ms.take k, okM m) (hx : ms[k]? = some x) (hb : ¬ badM x) : ∀ m ∈ ms.take (k + 1), okM m := by
  intro y hy
  rw [List.take_add_one, hx] at hy
  rcases List.mem_append.1 hy with hy | hy
  · exact h y hy
  · simp at hy; subst hy
    unfold badM at hb; unfold okM; omega
end

theorem fr36 : (inFrame Try.f36.ntmps (Try.f36.body.getD .skip) && Try.f36.results.toList.all (resScope Try.f36.ntmps)) = true := by kernel_rfl
theorem refCheckMoves (ts : List Term) (ms : List Move) (hlt : ts.length ≤ 65) (hl : ms.length ≤ 305) : PCalls Try.prog 36 [.lit true 4 (ts.map Term.enc), .lit true 4 (ms.map Move.enc)] (.int (movE ts ms)) := by
  refine PCalls.of_code Try.func36 rfl rfl (by kernel_rfl) mixed fr36 (by show _ ≤ 77; simp) (.sc _) ?_
  refine pwp_seq_plain rfl fun K1 hK1 => ?_
  refine p_step rfl (e_assign (v := .sc _) rfl) trivial ?_
  refine p_end (hK1 _ ?_); clear hK1 K1
  refine pwp_seq_seq ?_
  refine pwp_seq_plain rfl fun K2 hK2 => ?_
  refine p_step rfl (e_move (v := .lit _ _ _) rfl) trivial ?_
  refine p_step rfl (e_len rfl (by kernel_rfl)) trivial ?_
  refine p_step rfl (e_gt rfl rfl) trivial ?_
  refine p_end (hK2 _ ?_); clear hK2 K2
  refine pwp_seq_cond rfl fun K3 hK3 => ⟨fun hb4 => ?_, fun hb4 => ?_⟩
  ·have hb4R := hb4; (try simp only [z1, z2, z3, z4, z5, z6, ne_eq, z7, z8, z9, z10, z11, z12] at hb4); (try (have hyy := prev_get (ms := ms) hb4 hk; obtain ⟨y, hy⟩ := hyy))
   refine pwp_seq_plain rfl fun K5 hK5 => ?_
   refine p_step rfl (e_assign (v := .sc _) rfl) trivial ?_
   refine p_end (hK5 _ ?_); clear hK5 K5
   refine pwp_ret ?_
   refine ret_seq ?_
   refine end1 (v := .sc _) rfl ?_
   first
     | exact out_i (movE_big (by omega))
     | exact out_i (movE_go (by omega) hinv)
     | exact out_i (movE_go (by omega) (goM_stop hinv (by decide) (mvE_2 (by unfold badM; omega))))
     | exact out_i (movE_go (by omega) (goM_stop hinv (by decide) (mvE_10 (by unfold badM; omega) (by first | omega | (have hl0 := hlast.1 (by omega); omega) | (have hl1 := hlast.2 y hy (by omega); omega)))))
     | exact out_i (movE_go (by omega) (goM_stop hinv (by decide) (mvE_6 (by unfold badM; omega) (by first | omega | (have hl0 := hlast.1 (by omega); omega) | (have hl1 := hlast.2 y hy (by omega); omega)) (by omega))))
     | exact out_i (movE_go (by omega) (goM_stop hinv (by decide) (mvE_22 (by unfold badM; omega) (by first | omega | (have hl0 := hlast.1 (by omega); omega) | (have hl1 := hlast.2 y hy (by omega); omega)) (by omega) (by unfold stkL; omega))))
  ·have hb4R := hb4; (try simp only [z1, z2, z3, z4, z5, z6, ne_eq, z7, z8, z9, z10, z11, z12] at hb4); (try (have hyy := prev_get (ms := ms) hb4 hk; obtain ⟨y, hy⟩ := hyy))
   refine pwp_skip ?_
   refine seq_norm (hK3 _ ?_); clear hK3 K3
   refine pwp_seq_seq ?_
   refine pwp_seq_plain rfl fun K6 hK6 => ?_
   refine p_step rfl (e_assign (v := .sc _) rfl) trivial ?_
   refine p_end (hK6 _ ?_); clear hK6 K6
   refine pwp_seq_block fun K7 hK7 => ?_
   refine pwp_loopR (α := Nat × Int) [0, 1] (fun (a8 : Nat × Int) => [(5, .int (a8.1))]) (fun (a8 : Nat × Int) (h : Heap) (_ : Nat → Nat) => ((a8.1) ≤ ms.length) ∧ (goM ts [] 0 ms = goM ts (ms.take (a8.1)) (a8.2) (ms.drop (a8.1))) ∧ (((a8.1) = 0 → (a8.2) = 0) ∧ ∀ y, ms[(((a8.1) : Int) - (1)).toNat]? = some y → 0 < (a8.1) → y.day = (a8.2)) ∧ (∀ m ∈ ms.take (a8.1), okM m)) (fun (a8 : Nat × Int) => ms.length - (a8.1)) (0, 0) (by exact ⟨rfl, trivial⟩) (by exact ⟨by exact Nat.zero_le _, by exact rfl, by exact ⟨fun _ => rfl, fun y _ h => absurd h (Nat.lt_irrefl 0)⟩, by (intro y hy; simp at hy)⟩) fun a8 r9 h10 c11 hj12 => ?_
   obtain ⟨k, last⟩ := a8
   obtain ⟨hk, hinv, hlast, hokk⟩ := hj12
   try dsimp only at hk
   try dsimp only at hinv
   try dsimp only at hlast
   try dsimp only at hokk
   show pwp _ _ (loopQ _ _ _) ⟨sets (mix _ _ _) [(5, .int k)], _, _⟩
   refine pwp_seq_seq ?_
   refine pwp_seq_plain rfl fun K13 hK13 => ?_
   refine p_step rfl (e_move (v := .sc _) rfl) trivial ?_
   refine p_step rfl (e_move (v := .lit _ _ _) rfl) trivial ?_
   refine p_step rfl (e_len rfl (by kernel_rfl)) trivial ?_
   refine p_step rfl (e_lt rfl rfl) trivial ?_
   refine p_end (hK13 _ ?_); clear hK13 K13
   refine pwp_seq_cond rfl fun K14 hK14 => ⟨fun hb15 => ?_, fun hb15 => ?_⟩
   ·have hb15R := hb15; (try simp only [z1, z2, z3, z4, z5, z6, ne_eq, z7, z8, z9, z10, z11, z12] at hb15); (try (have hyy := prev_get (ms := ms) hb15 hk; obtain ⟨y, hy⟩ := hyy))
    obtain ⟨x, hx, hd, ht⟩ := get_lt (xs := ms) (i := k) (by omega)
    rw [hd] at hinv
    have q0 := cnt_bnd (p := x.part) hokk (by simp only [List.length_take]; omega) 0
    have q1 := cnt_bnd (p := x.part) hokk (by simp only [List.length_take]; omega) 1
    have q2 := cnt_bnd (p := x.part) hokk (by simp only [List.length_take]; omega) 2
    refine pwp_skip ?_
    refine seq_norm (hK14 _ ?_); clear hK14 K14
    refine pwp_seq_block fun K16 hK16 => ?_
    refine pwp_seq_plain rfl fun K17 hK17 => ?_
    refine p_step rfl (e_move (v := .lit _ _ _) rfl) trivial ?_
    refine p_step rfl (e_move (v := .sc _) rfl) trivial ?_
    refine p_step rfl (e_ixa rfl rfl (by kernel_rfl) (by kernel_rfl) (by simp only [List.length_map]; omega)) trivial ?_
    refine p_step rfl (e_loadA (n := 4) rfl (by kernel_rfl) (by kernel_rfl) (by kernel_rfl) (by simp only [List.length_map]; omega) (by decide) (by first | exact agg_map hx rfl)) trivial ?_
    refine p_new rfl (e_alloc (cs := [.int 0, .int 0, .str ByteArray.empty, .int 0]) (n := 4) (by kernel_rfl) rfl (by decide)) (ob_alloc (by decide)) ?_
    refine p_store rfl (e_storeA rfl (hset_self _ _ _) rfl rfl rfl (by kernel_rfl) rfl (by kernel_rfl)) trivial ?_
    refine p_end (hK17 _ ?_); clear hK17 K17
    refine pwp_seq_seq ?_
    refine pwp_seq_gops rfl fun K18 hK18 => ?_
    refine g_begin ?_
    refine g_step rfl rfl rfl rfl (e_faP (pl := [(0, 1, false), (1, 1, false), (2, 1, false), (3, 1, false)]) rfl (by kernel_rfl) (by kernel_rfl) (by decide) rfl) trivial ?_
    refine g_step rfl rfl rfl rfl (e_loadH (v := .sc _) rfl (hset_self _ _ _) (by kernel_rfl) (by kernel_rfl) (by kernel_rfl) (by exact Nat.zero_lt_one) (by decide) rfl) trivial ?_
    refine g_call rfl rfl rfl rfl (.cons inn_sc .nil) (IsDay _) ?_
    refine g_step rfl rfl rfl rfl (e_not rfl) trivial ?_
    refine g_step rfl rfl rfl rfl (e_move (v := .sc _) rfl) trivial ?_
    refine g_cases (fun hb19 => ?_) (fun hb19 => ?_)
    ·have hb19R := hb19; (try simp only [z1, z2, z3, z4, z5, z6, ne_eq, z7, z8, z9, z10, z11, z12] at hb19); (try (have hyy := prev_get (ms := ms) hb19 hk; obtain ⟨y, hy⟩ := hyy))
     refine g_skip rfl rfl rfl ?_
     refine g_skip rfl rfl rfl ?_
     refine g_nocall rfl rfl rfl ?_
     refine g_skip rfl rfl rfl ?_
     refine g_step rfl rfl rfl rfl (e_pickT (v := .sc _) rfl rfl) trivial ?_
     refine g_step rfl rfl rfl rfl (e_move (v := .sc _) rfl) trivial ?_
     refine g_skip rfl rfl rfl ?_
     refine g_skip rfl rfl rfl ?_
     refine g_nocall rfl rfl rfl ?_
     refine g_skip rfl rfl rfl ?_
     refine g_step rfl rfl rfl rfl (e_pickT (v := .sc _) rfl rfl) trivial ?_
     refine g_end (ds := [26, 27, 28, 29, 32, 33, 34, 35]) rfl rfl (hK18 _ ?_); clear hK18 K18
     refine pwp_seq_cond (t := true) rfl fun K20 hK20 => ⟨fun _ => ?_, nofun⟩
     refine pwp_seq_plain rfl fun K21 hK21 => ?_
     refine p_step rfl (e_assign (v := .sc _) rfl) trivial ?_
     refine p_end (hK21 _ ?_); clear hK21 K21
     refine pwp_ret ?_
     refine ret_seq ?_
     refine ret_block ?_
     refine ret_seq ?_
     refine ret_loop ?_
     refine ret_block ?_
     refine ret_seq ?_
     refine end1 (v := .sc _) rfl ?_
     first
       | exact out_i (movE_big (by omega))
       | exact out_i (movE_go (by omega) hinv)
       | exact out_i (movE_go (by omega) (goM_stop hinv (by decide) (mvE_2 (by unfold badM; omega))))
       | exact out_i (movE_go (by omega) (goM_stop hinv (by decide) (mvE_10 (by unfold badM; omega) (by first | omega | (have hl0 := hlast.1 (by omega); omega) | (have hl1 := hlast.2 y hy (by omega); omega)))))
       | exact out_i (movE_go (by omega) (goM_stop hinv (by decide) (mvE_6 (by unfold badM; omega) (by first | omega | (have hl0 := hlast.1 (by omega); omega) | (have hl1 := hlast.2 y hy (by omega); omega)) (by omega))))
       | exact out_i (movE_go (by omega) (goM_stop hinv (by decide) (mvE_22 (by unfold badM; omega) (by first | omega | (have hl0 := hlast.1 (by omega); omega) | (have hl1 := hlast.2 y hy (by omega); omega)) (by omega) (by unfold stkL; omega))))
    ·have hb19R := hb19; (try simp only [z1, z2, z3, z4, z5, z6, ne_eq, z7, z8, z9, z10, z11, z12] at hb19); (try (have hyy := prev_get (ms := ms) hb19 hk; obtain ⟨y, hy⟩ := hyy))
     refine g_step rfl rfl rfl rfl (e_faP (pl := [(0, 1, false), (1, 1, false), (2, 1, false), (3, 1, false)]) rfl (by kernel_rfl) (by kernel_rfl) (by decide) rfl) trivial ?_
     refine g_step rfl rfl rfl rfl (e_loadH (v := .sc _) rfl (hset_self _ _ _) (by kernel_rfl) (by kernel_rfl) (by kernel_rfl) (by exact Nat.zero_lt_one) (by decide) rfl) trivial ?_
     refine g_call rfl rfl rfl rfl (.cons inn_sc (.cons inn_sc (.cons inn_sc .nil))) (Within _ _ _) ?_
     refine g_step rfl rfl rfl rfl (e_not rfl) trivial ?_
     refine g_step rfl rfl rfl rfl (e_pickF (v := .sc _) rfl rfl) trivial ?_
     refine g_step rfl rfl rfl rfl (e_move (v := .sc _) rfl) trivial ?_
     refine g_cases (fun hb22 => ?_) (fun hb22 => ?_)
     ·have hb22R := hb22; (try simp only [z1, z2, z3, z4, z5, z6, ne_eq, z7, z8, z9, z10, z11, z12] at hb22); (try (have hyy := prev_get (ms := ms) hb22 hk; obtain ⟨y, hy⟩ := hyy))
      refine g_skip rfl rfl rfl ?_
      refine g_skip rfl rfl rfl ?_
      refine g_nocall rfl rfl rfl ?_
      refine g_skip rfl rfl rfl ?_
      refine g_step rfl rfl rfl rfl (e_pickT (v := .sc _) rfl rfl) trivial ?_
      refine g_end (ds := [26, 27, 28, 29, 32, 33, 34, 35]) rfl rfl (hK18 _ ?_); clear hK18 K18
      refine pwp_seq_cond (t := true) rfl fun K23 hK23 => ⟨fun _ => ?_, nofun⟩
      refine pwp_seq_plain rfl fun K24 hK24 => ?_
      refine p_step rfl (e_assign (v := .sc _) rfl) trivial ?_
      refine p_end (hK24 _ ?_); clear hK24 K24
      refine pwp_ret ?_
      refine ret_seq ?_
      refine ret_block ?_
      refine ret_seq ?_
      refine ret_loop ?_
      refine ret_block ?_
      refine ret_seq ?_
      refine end1 (v := .sc _) rfl ?_
      first
        | exact out_i (movE_big (by omega))
        | exact out_i (movE_go (by omega) hinv)
        | exact out_i (movE_go (by omega) (goM_stop hinv (by decide) (mvE_2 (by unfold badM; omega))))
        | exact out_i (movE_go (by omega) (goM_stop hinv (by decide) (mvE_10 (by unfold badM; omega) (by first | omega | (have hl0 := hlast.1 (by omega); omega) | (have hl1 := hlast.2 y hy (by omega); omega)))))
        | exact out_i (movE_go (by omega) (goM_stop hinv (by decide) (mvE_6 (by unfold badM; omega) (by first | omega | (have hl0 := hlast.1 (by omega); omega) | (have hl1 := hlast.2 y hy (by omega); omega)) (by omega))))
        | exact out_i (movE_go (by omega) (goM_stop hinv (by decide) (mvE_22 (by unfold badM; omega) (by first | omega | (have hl0 := hlast.1 (by omega); omega) | (have hl1 := hlast.2 y hy (by omega); omega)) (by omega) (by unfold stkL; omega))))
     ·have hb22R := hb22; (try simp only [z1, z2, z3, z4, z5, z6, ne_eq, z7, z8, z9, z10, z11, z12] at hb22); (try (have hyy := prev_get (ms := ms) hb22 hk; obtain ⟨y, hy⟩ := hyy))
      refine g_step rfl rfl rfl rfl (e_faP (pl := [(0, 1, false), (1, 1, false), (2, 1, false), (3, 1, false)]) rfl (by kernel_rfl) (by kernel_rfl) (by decide) rfl) trivial ?_
      refine g_step rfl rfl rfl rfl (e_loadH (v := .sc _) rfl (hset_self _ _ _) (by kernel_rfl) (by kernel_rfl) (by kernel_rfl) (by exact Nat.zero_lt_one) (by decide) rfl) trivial ?_
      refine g_call rfl rfl rfl rfl (.cons inn_sc (.cons inn_sc (.cons inn_sc .nil))) (Within _ _ _) ?_
      refine g_step rfl rfl rfl rfl (e_not rfl) trivial ?_
      refine g_step rfl rfl rfl rfl (e_pickF (v := .sc _) rfl rfl) trivial ?_
      refine g_end (ds := [26, 27, 28, 29, 32, 33, 34, 35]) rfl rfl (hK18 _ ?_); clear hK18 K18
      refine pwp_seq_cond rfl fun K25 hK25 => ⟨fun hb26 => ?_, fun hb26 => ?_⟩
      ·have hb26R := hb26; (try simp only [z1, z2, z3, z4, z5, z6, ne_eq, z7, z8, z9, z10, z11, z12] at hb26); (try (have hyy := prev_get (ms := ms) hb26 hk; obtain ⟨y, hy⟩ := hyy))
       refine pwp_seq_plain rfl fun K27 hK27 => ?_
       refine p_step rfl (e_assign (v := .sc _) rfl) trivial ?_
       refine p_end (hK27 _ ?_); clear hK27 K27
       refine pwp_ret ?_
       refine ret_seq ?_
       refine ret_block ?_
       refine ret_seq ?_
       refine ret_loop ?_
       refine ret_block ?_
       refine ret_seq ?_
       refine end1 (v := .sc _) rfl ?_
       first
         | exact out_i (movE_big (by omega))
         | exact out_i (movE_go (by omega) hinv)
         | exact out_i (movE_go (by omega) (goM_stop hinv (by decide) (mvE_2 (by unfold badM; omega))))
         | exact out_i (movE_go (by omega) (goM_stop hinv (by decide) (mvE_10 (by unfold badM; omega) (by first | omega | (have hl0 := hlast.1 (by omega); omega) | (have hl1 := hlast.2 y hy (by omega); omega)))))
         | exact out_i (movE_go (by omega) (goM_stop hinv (by decide) (mvE_6 (by unfold badM; omega) (by first | omega | (have hl0 := hlast.1 (by omega); omega) | (have hl1 := hlast.2 y hy (by omega); omega)) (by omega))))
         | exact out_i (movE_go (by omega) (goM_stop hinv (by decide) (mvE_22 (by unfold badM; omega) (by first | omega | (have hl0 := hlast.1 (by omega); omega) | (have hl1 := hlast.2 y hy (by omega); omega)) (by omega) (by unfold stkL; omega))))
      ·have hb26R := hb26; (try simp only [z1, z2, z3, z4, z5, z6, ne_eq, z7, z8, z9, z10, z11, z12] at hb26); (try (have hyy := prev_get (ms := ms) hb26 hk; obtain ⟨y, hy⟩ := hyy))
       refine pwp_skip ?_
       refine seq_norm (hK25 _ ?_); clear hK25 K25
       refine pwp_seq_seq ?_
       refine pwp_seq_gops rfl fun K28 hK28 => ?_
       refine g_begin ?_
       refine g_step rfl rfl rfl rfl (e_move (v := .sc _) rfl) trivial ?_
       refine g_step rfl rfl rfl rfl (e_gt rfl rfl) trivial ?_
       refine g_step rfl rfl rfl rfl (e_move (v := .sc _) rfl) trivial ?_
       refine g_cases (fun hb29 => ?_) (fun hb29 => ?_)
       ·have hb29R := hb29; (try simp only [z1, z2, z3, z4, z5, z6, ne_eq, z7, z8, z9, z10, z11, z12] at hb29); (try (have hyy := prev_get (ms := ms) hb29 hk; obtain ⟨y, hy⟩ := hyy))
        refine g_step rfl rfl rfl rfl (e_faP (pl := [(0, 1, false), (1, 1, false), (2, 1, false), (3, 1, false)]) rfl (by kernel_rfl) (by kernel_rfl) (by decide) rfl) trivial ?_
        refine g_step rfl rfl rfl rfl (e_loadH (v := .sc _) rfl (hset_self _ _ _) (by kernel_rfl) (by kernel_rfl) (by kernel_rfl) (by exact Nat.zero_lt_one) (by decide) rfl) trivial ?_
        refine g_step rfl rfl rfl rfl (e_move (v := .lit _ _ _) rfl) trivial ?_
        refine g_step rfl rfl rfl rfl (e_move (v := .sc _) rfl) trivial ?_
        refine g_step rfl rfl rfl rfl (e_sub rfl rfl (by omega)) trivial ?_
        refine g_step rfl rfl rfl rfl (e_ixa rfl rfl (by kernel_rfl) (by kernel_rfl) (by simp only [List.length_map]; omega)) trivial ?_
        refine g_step rfl rfl rfl rfl (e_fa (pl := [(0, 1, false), (1, 1, false), (2, 1, false), (3, 1, false)]) rfl (by kernel_rfl) (by kernel_rfl) (by decide) rfl) trivial ?_
        refine g_step rfl rfl rfl rfl (e_load (v := .sc _) rfl (by kernel_rfl) (by kernel_rfl) (by kernel_rfl) (by simp only [List.length_map]; omega) (by decide) ((cell_map hy _).trans rfl)) trivial ?_
        refine g_step rfl rfl rfl rfl (e_lt rfl rfl) trivial ?_
        refine g_step rfl rfl rfl rfl (e_pickT (v := .sc _) rfl rfl) trivial ?_
        refine g_end (ds := [40, 41, 42, 43, 44, 45, 46, 47, 48]) (by kernel_rfl) rfl (hK28 _ ?_); clear hK28 K28
        refine pwp_seq_cond rfl fun K30 hK30 => ⟨fun hb31 => ?_, fun hb31 => ?_⟩
        ·have hb31R := hb31; (try simp only [z1, z2, z3, z4, z5, z6, ne_eq, z7, z8, z9, z10, z11, z12] at hb31); (try (have hyy := prev_get (ms := ms) hb31 hk; obtain ⟨y, hy⟩ := hyy))
         refine pwp_seq_plain rfl fun K32 hK32 => ?_
         refine p_step rfl (e_assign (v := .sc _) rfl) trivial ?_
         refine p_end (hK32 _ ?_); clear hK32 K32
         refine pwp_ret ?_
         refine ret_seq ?_
         refine ret_block ?_
         refine ret_seq ?_
         refine ret_loop ?_
         refine ret_block ?_
         refine ret_seq ?_
         refine end1 (v := .sc _) rfl ?_
         first
           | exact out_i (movE_big (by omega))
           | exact out_i (movE_go (by omega) hinv)
           | exact out_i (movE_go (by omega) (goM_stop hinv (by decide) (mvE_2 (by unfold badM; omega))))
           | exact out_i (movE_go (by omega) (goM_stop hinv (by decide) (mvE_10 (by unfold badM; omega) (by first | omega | (have hl0 := hlast.1 (by omega); omega) | (have hl1 := hlast.2 y hy (by omega); omega)))))
           | exact out_i (movE_go (by omega) (goM_stop hinv (by decide) (mvE_6 (by unfold badM; omega) (by first | omega | (have hl0 := hlast.1 (by omega); omega) | (have hl1 := hlast.2 y hy (by omega); omega)) (by omega))))
           | exact out_i (movE_go (by omega) (goM_stop hinv (by decide) (mvE_22 (by unfold badM; omega) (by first | omega | (have hl0 := hlast.1 (by omega); omega) | (have hl1 := hlast.2 y hy (by omega); omega)) (by omega) (by unfold stkL; omega))))
        ·have hb31R := hb31; (try simp only [z1, z2, z3, z4, z5, z6, ne_eq, z7, z8, z9, z10, z11, z12] at hb31); (try (have hyy := prev_get (ms := ms) hb31 hk; obtain ⟨y, hy⟩ := hyy))
         refine pwp_skip ?_
         refine seq_norm (hK30 _ ?_); clear hK30 K30
         refine pwp_seq_seq ?_
         refine pwp_seq_plain rfl fun K33 hK33 => ?_
         refine p_step rfl (e_move (v := .lit _ _ _) rfl) trivial ?_
         refine p_step rfl (e_faP (pl := [(0, 1, false), (1, 1, false), (2, 1, false), (3, 1, false)]) rfl (by kernel_rfl) (by kernel_rfl) (by decide) rfl) trivial ?_
         refine p_step rfl (e_loadH (v := .sc _) rfl (hset_self _ _ _) (by kernel_rfl) (by kernel_rfl) (by kernel_rfl) (by exact Nat.zero_lt_one) (by decide) rfl) trivial ?_
         refine p_call rfl (.cons inn_lit (.cons inn_sc .nil)) (Term55 _ _ hlt) ?_
         refine p_step rfl (e_lt rfl rfl) trivial ?_
         refine p_end (hK33 _ ?_); clear hK33 K33
         refine pwp_seq_cond rfl fun K34 hK34 => ⟨fun hb35 => ?_, fun hb35 => ?_⟩
         ·have hb35R := hb35; (try simp only [z1, z2, z3, z4, z5, z6, ne_eq, z7, z8, z9, z10, z11, z12] at hb35); (try (have hyy := prev_get (ms := ms) hb35 hk; obtain ⟨y, hy⟩ := hyy))
          refine pwp_seq_plain rfl fun K36 hK36 => ?_
          refine p_step rfl (e_assign (v := .sc _) rfl) trivial ?_
          refine p_end (hK36 _ ?_); clear hK36 K36
          refine pwp_ret ?_
          refine ret_seq ?_
          refine ret_block ?_
          refine ret_seq ?_
          refine ret_loop ?_
          refine ret_block ?_
          refine ret_seq ?_
          refine end1 (v := .sc _) rfl ?_
          first
            | exact out_i (movE_big (by omega))
            | exact out_i (movE_go (by omega) hinv)
            | exact out_i (movE_go (by omega) (goM_stop hinv (by decide) (mvE_2 (by unfold badM; omega))))
            | exact out_i (movE_go (by omega) (goM_stop hinv (by decide) (mvE_10 (by unfold badM; omega) (by first | omega | (have hl0 := hlast.1 (by omega); omega) | (have hl1 := hlast.2 y hy (by omega); omega)))))
            | exact out_i (movE_go (by omega) (goM_stop hinv (by decide) (mvE_6 (by unfold badM; omega) (by first | omega | (have hl0 := hlast.1 (by omega); omega) | (have hl1 := hlast.2 y hy (by omega); omega)) (by omega))))
            | exact out_i (movE_go (by omega) (goM_stop hinv (by decide) (mvE_22 (by unfold badM; omega) (by first | omega | (have hl0 := hlast.1 (by omega); omega) | (have hl1 := hlast.2 y hy (by omega); omega)) (by omega) (by unfold stkL; omega))))
         ·have hb35R := hb35; (try simp only [z1, z2, z3, z4, z5, z6, ne_eq, z7, z8, z9, z10, z11, z12] at hb35); (try (have hyy := prev_get (ms := ms) hb35 hk; obtain ⟨y, hy⟩ := hyy))
          refine pwp_skip ?_
          refine seq_norm (hK34 _ ?_); clear hK34 K34
          refine pwp_seq_gops rfl fun K37 hK37 => ?_
          refine s_begin ?_
          refine s_step [] (by simp) rfl rfl rfl rfl (e_move (v := .lit _ _ _) rfl) trivial ?_
          refine s_step [] (by simp) rfl rfl rfl rfl (e_move (v := .sc _) rfl) trivial ?_
          refine s_step [] (by simp) rfl rfl rfl rfl (e_upto (n := k) rfl rfl rfl (by omega) (by kernel_rfl) (by kernel_rfl)) trivial ?_
          refine s_step [] (by simp) rfl rfl rfl rfl (e_faP (pl := [(0, 1, false), (1, 1, false), (2, 1, false), (3, 1, false)]) rfl (by kernel_rfl) (by kernel_rfl) (by decide) rfl) trivial ?_
          refine s_step [6] (by simp) rfl rfl rfl rfl (e_loadH (v := .sc _) rfl (hset_self _ _ _) (by kernel_rfl) (by kernel_rfl) (by kernel_rfl) (by exact Nat.zero_lt_one) (by decide) rfl) trivial ?_
          refine s_call (args := [.lit _ _ _, .sc _]) [] (by intro k hk; simp [keysOf, Go.Pv.keyOf] at hk; try (subst hk; simp)) rfl rfl rfl rfl (.cons inn_lit (.cons inn_sc .nil)) (Counts _ _ (by simp only [List.length_take]; omega) hokk) ?_
          refine s_new [] (by simp) rfl rfl rfl rfl (e_alloc (cs := [.int 0, .int 0, .int 0]) (n := 3) (by kernel_rfl) rfl (by decide)) (ob_alloc (by decide)) ?_
          refine s_store [7] (by simp) rfl rfl (e_storeA rfl (hset_self _ _ _) rfl rfl (by rw [List.length_map, cntL_len]) (by kernel_rfl) (all_ints _) (by kernel_rfl)) trivial ?_
          refine s_end (ds := []) (by kernel_rfl) (by kernel_rfl) (hK37 _ ?_); clear hK37 K37
          refine pwp_seq_gops rfl fun K38 hK38 => ?_
          refine g_begin ?_
          refine g_step rfl rfl rfl rfl (e_faP (pl := [(0, 1, false), (1, 1, false), (2, 1, false), (3, 1, false)]) rfl (by kernel_rfl) (by kernel_rfl) (by decide) rfl) trivial ?_
          refine g_step rfl rfl rfl rfl (e_loadH (v := .sc _) rfl ((hset_ne (key_ne rfl)).trans ((hset_ne (key_ne rfl)).trans (hset_self _ _ _))) (by kernel_rfl) (by kernel_rfl) (by kernel_rfl) (by exact Nat.zero_lt_one) (by decide) rfl) trivial ?_
          refine g_step rfl rfl rfl rfl (e_ne rfl rfl) trivial ?_
          refine g_step rfl rfl rfl rfl (e_move (v := .sc _) rfl) trivial ?_
          refine g_cases (fun hb39 => ?_) (fun hb39 => ?_)
          ·have hb39R := hb39; (try simp only [z1, z2, z3, z4, z5, z6, ne_eq, z7, z8, z9, z10, z11, z12] at hb39); (try (have hyy := prev_get (ms := ms) hb39 hk; obtain ⟨y, hy⟩ := hyy))
           refine g_step rfl rfl rfl rfl (e_faP (pl := [(0, 1, false), (1, 1, false), (2, 1, false), (3, 1, false)]) rfl (by kernel_rfl) (by kernel_rfl) (by decide) rfl) trivial ?_
           refine g_step rfl rfl rfl rfl (e_loadH (v := .sc _) rfl ((hset_ne (key_ne rfl)).trans ((hset_ne (key_ne rfl)).trans (hset_self _ _ _))) (by kernel_rfl) (by kernel_rfl) (by kernel_rfl) (by exact Nat.zero_lt_one) (by decide) rfl) trivial ?_
           refine g_step rfl rfl rfl rfl (e_ixaP (n := 3) (e := 3) rfl rfl (by kernel_rfl) (by kernel_rfl) (by omega)) trivial ?_
           refine g_step rfl rfl rfl rfl (e_loadH (v := .sc _) rfl (hset_self _ _ _) (by kernel_rfl) (by kernel_rfl) (by kernel_rfl) (by exact Nat.zero_lt_one) (by decide) (cell_n 0 (by rw [cntL_len]; decide))) trivial ?_
           refine g_step rfl rfl rfl rfl (e_ixaP (n := 3) (e := 3) rfl rfl (by kernel_rfl) (by kernel_rfl) (by omega)) trivial ?_
           refine g_step rfl rfl rfl rfl (e_loadH (v := .sc _) rfl (hset_self _ _ _) (by kernel_rfl) (by kernel_rfl) (by kernel_rfl) (by exact Nat.zero_lt_one) (by decide) (cell_n 1 (by rw [cntL_len]; decide))) trivial ?_
           refine g_step rfl rfl rfl rfl (e_sub rfl rfl (by omega)) trivial ?_
           refine g_step rfl rfl rfl rfl (e_ixaP (n := 3) (e := 3) rfl rfl (by kernel_rfl) (by kernel_rfl) (by omega)) trivial ?_
           refine g_step rfl rfl rfl rfl (e_loadH (v := .sc _) rfl (hset_self _ _ _) (by kernel_rfl) (by kernel_rfl) (by kernel_rfl) (by exact Nat.zero_lt_one) (by decide) (cell_n 2 (by rw [cntL_len]; decide))) trivial ?_
           refine g_step rfl rfl rfl rfl (e_sub rfl rfl (by omega)) trivial ?_
           refine g_step rfl rfl rfl rfl (e_gt rfl rfl) trivial ?_
           refine g_step rfl rfl rfl rfl (e_pickT (v := .sc _) rfl rfl) trivial ?_
           refine g_end (ds := [65, 66, 67, 68, 69, 70, 71, 72, 73, 74, 75]) rfl rfl (hK38 _ ?_); clear hK38 K38
           refine pwp_cond rfl (fun hb40 => ?_) (fun hb40 => ?_)
           ·have hb40R := hb40; (try simp only [z1, z2, z3, z4, z5, z6, ne_eq, z7, z8, z9, z10, z11, z12] at hb40); (try (have hyy := prev_get (ms := ms) hb40 hk; obtain ⟨y, hy⟩ := hyy))
            refine pwp_seq_plain rfl fun K41 hK41 => ?_
            refine p_step rfl (e_assign (v := .sc _) rfl) trivial ?_
            refine p_end (hK41 _ ?_); clear hK41 K41
            refine pwp_ret ?_
            refine ret_block ?_
            refine ret_seq ?_
            refine ret_loop ?_
            refine ret_block ?_
            refine ret_seq ?_
            refine end1 (v := .sc _) rfl ?_
            first
              | exact out_i (movE_big (by omega))
              | exact out_i (movE_go (by omega) hinv)
              | exact out_i (movE_go (by omega) (goM_stop hinv (by decide) (mvE_2 (by unfold badM; omega))))
              | exact out_i (movE_go (by omega) (goM_stop hinv (by decide) (mvE_10 (by unfold badM; omega) (by first | omega | (have hl0 := hlast.1 (by omega); omega) | (have hl1 := hlast.2 y hy (by omega); omega)))))
              | exact out_i (movE_go (by omega) (goM_stop hinv (by decide) (mvE_6 (by unfold badM; omega) (by first | omega | (have hl0 := hlast.1 (by omega); omega) | (have hl1 := hlast.2 y hy (by omega); omega)) (by omega))))
              | exact out_i (movE_go (by omega) (goM_stop hinv (by decide) (mvE_22 (by unfold badM; omega) (by first | omega | (have hl0 := hlast.1 (by omega); omega) | (have hl1 := hlast.2 y hy (by omega); omega)) (by omega) (by unfold stkL; omega))))
           ·have hb40R := hb40; (try simp only [z1, z2, z3, z4, z5, z6, ne_eq, z7, z8, z9, z10, z11, z12] at hb40); (try (have hyy := prev_get (ms := ms) hb40 hk; obtain ⟨y, hy⟩ := hyy))
            refine pwp_skip ?_
            refine block_norm ?_
            refine seq_norm (hK16 _ ?_); clear hK16 K16
            refine pwp_plain rfl fun K42 hK42 => ?_
            refine p_step rfl (e_move (v := .sc _) rfl) trivial ?_
            refine p_step rfl (e_add rfl rfl (by omega)) trivial ?_
            refine p_step rfl (e_assign (v := .sc _) rfl) trivial ?_
            refine p_end (hK42 _ ?_); clear hK42 K42
            exact loop_again ((k + 1, x.day)) (by show _ < _; simp only; omega) ⟨rfl, rfl, trivial⟩ ⟨rfl, trivial⟩ (by exact ⟨by show _ + 1 ≤ _; omega, by (rw [ht]; exact goM_next hinv (mvE_0 (by unfold badM; omega) (by first | omega | (have hl0 := hlast.1 (by omega); omega) | (have hl1 := hlast.2 y hy (by omega); omega)) (by omega) (by unfold stkL; omega))), by exact ⟨fun h => absurd h (by omega), fun y hy _ => prev_next hx y hy⟩, by exact ok_next hokk hx (by unfold badM; omega)⟩)
          ·have hb39R := hb39; (try simp only [z1, z2, z3, z4, z5, z6, ne_eq, z7, z8, z9, z10, z11, z12] at hb39); (try (have hyy := prev_get (ms := ms) hb39 hk; obtain ⟨y, hy⟩ := hyy))
           refine g_skip rfl rfl rfl ?_
           refine g_skip rfl rfl rfl ?_
           refine g_skip rfl rfl rfl ?_
           refine g_skip rfl rfl rfl ?_
           refine g_skip rfl rfl rfl ?_
           refine g_skip rfl rfl rfl ?_
           refine g_skip rfl rfl rfl ?_
           refine g_skip rfl rfl rfl ?_
           refine g_skip rfl rfl rfl ?_
           refine g_skip rfl rfl rfl ?_
           refine g_skip rfl rfl rfl ?_
           refine g_step rfl rfl rfl rfl (e_pickF (v := .sc _) rfl rfl) trivial ?_
           refine g_end (ds := [65, 66, 67, 68, 69, 70, 71, 72, 73, 74, 75]) rfl rfl (hK38 _ ?_); clear hK38 K38
           refine pwp_cond (t := false) rfl nofun (fun _ => ?_)
           refine pwp_skip ?_
           refine block_norm ?_
           refine seq_norm (hK16 _ ?_); clear hK16 K16
           refine pwp_plain rfl fun K43 hK43 => ?_
           refine p_step rfl (e_move (v := .sc _) rfl) trivial ?_
           refine p_step rfl (e_add rfl rfl (by omega)) trivial ?_
           refine p_step rfl (e_assign (v := .sc _) rfl) trivial ?_
           refine p_end (hK43 _ ?_); clear hK43 K43
           exact loop_again ((k + 1, x.day)) (by show _ < _; simp only; omega) ⟨rfl, rfl, trivial⟩ ⟨rfl, trivial⟩ (by exact ⟨by show _ + 1 ≤ _; omega, by (rw [ht]; exact goM_next hinv (mvE_0 (by unfold badM; omega) (by first | omega | (have hl0 := hlast.1 (by omega); omega) | (have hl1 := hlast.2 y hy (by omega); omega)) (by omega) (by unfold stkL; omega))), by exact ⟨fun h => absurd h (by omega), fun y hy _ => prev_next hx y hy⟩, by exact ok_next hokk hx (by unfold badM; omega)⟩)
       ·have hb29R := hb29; (try simp only [z1, z2, z3, z4, z5, z6, ne_eq, z7, z8, z9, z10, z11, z12] at hb29); (try (have hyy := prev_get (ms := ms) hb29 hk; obtain ⟨y, hy⟩ := hyy))
        refine g_skip rfl rfl rfl ?_
        refine g_skip rfl rfl rfl ?_
        refine g_skip rfl rfl rfl ?_
        refine g_skip rfl rfl rfl ?_
        refine g_skip rfl rfl rfl ?_
        refine g_skip rfl rfl rfl ?_
        refine g_skip rfl rfl rfl ?_
        refine g_skip rfl rfl rfl ?_
        refine g_skip rfl rfl rfl ?_
        refine g_step rfl rfl rfl rfl (e_pickF (v := .sc _) rfl rfl) trivial ?_
        refine g_end (ds := [40, 41, 42, 43, 44, 45, 46, 47, 48]) (by kernel_rfl) rfl (hK28 _ ?_); clear hK28 K28
        refine pwp_seq_cond (t := false) rfl fun K44 hK44 => ⟨nofun, fun _ => ?_⟩
        refine pwp_skip ?_
        refine seq_norm (hK44 _ ?_); clear hK44 K44
        refine pwp_seq_seq ?_
        refine pwp_seq_plain rfl fun K45 hK45 => ?_
        refine p_step rfl (e_move (v := .lit _ _ _) rfl) trivial ?_
        refine p_step rfl (e_faP (pl := [(0, 1, false), (1, 1, false), (2, 1, false), (3, 1, false)]) rfl (by kernel_rfl) (by kernel_rfl) (by decide) rfl) trivial ?_
        refine p_step rfl (e_loadH (v := .sc _) rfl (hset_self _ _ _) (by kernel_rfl) (by kernel_rfl) (by kernel_rfl) (by exact Nat.zero_lt_one) (by decide) rfl) trivial ?_
        refine p_call rfl (.cons inn_lit (.cons inn_sc .nil)) (Term55 _ _ hlt) ?_
        refine p_step rfl (e_lt rfl rfl) trivial ?_
        refine p_end (hK45 _ ?_); clear hK45 K45
        refine pwp_seq_cond rfl fun K46 hK46 => ⟨fun hb47 => ?_, fun hb47 => ?_⟩
        ·have hb47R := hb47; (try simp only [z1, z2, z3, z4, z5, z6, ne_eq, z7, z8, z9, z10, z11, z12] at hb47); (try (have hyy := prev_get (ms := ms) hb47 hk; obtain ⟨y, hy⟩ := hyy))
         refine pwp_seq_plain rfl fun K48 hK48 => ?_
         refine p_step rfl (e_assign (v := .sc _) rfl) trivial ?_
         refine p_end (hK48 _ ?_); clear hK48 K48
         refine pwp_ret ?_
         refine ret_seq ?_
         refine ret_block ?_
         refine ret_seq ?_
         refine ret_loop ?_
         refine ret_block ?_
         refine ret_seq ?_
         refine end1 (v := .sc _) rfl ?_
         first
           | exact out_i (movE_big (by omega))
           | exact out_i (movE_go (by omega) hinv)
           | exact out_i (movE_go (by omega) (goM_stop hinv (by decide) (mvE_2 (by unfold badM; omega))))
           | exact out_i (movE_go (by omega) (goM_stop hinv (by decide) (mvE_10 (by unfold badM; omega) (by first | omega | (have hl0 := hlast.1 (by omega); omega) | (have hl1 := hlast.2 y hy (by omega); omega)))))
           | exact out_i (movE_go (by omega) (goM_stop hinv (by decide) (mvE_6 (by unfold badM; omega) (by first | omega | (have hl0 := hlast.1 (by omega); omega) | (have hl1 := hlast.2 y hy (by omega); omega)) (by omega))))
           | exact out_i (movE_go (by omega) (goM_stop hinv (by decide) (mvE_22 (by unfold badM; omega) (by first | omega | (have hl0 := hlast.1 (by omega); omega) | (have hl1 := hlast.2 y hy (by omega); omega)) (by omega) (by unfold stkL; omega))))
        ·have hb47R := hb47; (try simp only [z1, z2, z3, z4, z5, z6, ne_eq, z7, z8, z9, z10, z11, z12] at hb47); (try (have hyy := prev_get (ms := ms) hb47 hk; obtain ⟨y, hy⟩ := hyy))
         refine pwp_skip ?_
         refine seq_norm (hK46 _ ?_); clear hK46 K46
         refine pwp_seq_gops rfl fun K49 hK49 => ?_
         refine s_begin ?_
         refine s_step [] (by simp) rfl rfl rfl rfl (e_move (v := .lit _ _ _) rfl) trivial ?_
         refine s_step [] (by simp) rfl rfl rfl rfl (e_move (v := .sc _) rfl) trivial ?_
         refine s_step [] (by simp) rfl rfl rfl rfl (e_upto (n := k) rfl rfl rfl (by omega) (by kernel_rfl) (by kernel_rfl)) trivial ?_
         refine s_step [] (by simp) rfl rfl rfl rfl (e_faP (pl := [(0, 1, false), (1, 1, false), (2, 1, false), (3, 1, false)]) rfl (by kernel_rfl) (by kernel_rfl) (by decide) rfl) trivial ?_
         refine s_step [6] (by simp) rfl rfl rfl rfl (e_loadH (v := .sc _) rfl (hset_self _ _ _) (by kernel_rfl) (by kernel_rfl) (by kernel_rfl) (by exact Nat.zero_lt_one) (by decide) rfl) trivial ?_
         refine s_call (args := [.lit _ _ _, .sc _]) [] (by intro k hk; simp [keysOf, Go.Pv.keyOf] at hk; try (subst hk; simp)) rfl rfl rfl rfl (.cons inn_lit (.cons inn_sc .nil)) (Counts _ _ (by simp only [List.length_take]; omega) hokk) ?_
         refine s_new [] (by simp) rfl rfl rfl rfl (e_alloc (cs := [.int 0, .int 0, .int 0]) (n := 3) (by kernel_rfl) rfl (by decide)) (ob_alloc (by decide)) ?_
         refine s_store [7] (by simp) rfl rfl (e_storeA rfl (hset_self _ _ _) rfl rfl (by rw [List.length_map, cntL_len]) (by kernel_rfl) (all_ints _) (by kernel_rfl)) trivial ?_
         refine s_end (ds := []) (by kernel_rfl) (by kernel_rfl) (hK49 _ ?_); clear hK49 K49
         refine pwp_seq_gops rfl fun K50 hK50 => ?_
         refine g_begin ?_
         refine g_step rfl rfl rfl rfl (e_faP (pl := [(0, 1, false), (1, 1, false), (2, 1, false), (3, 1, false)]) rfl (by kernel_rfl) (by kernel_rfl) (by decide) rfl) trivial ?_
         refine g_step rfl rfl rfl rfl (e_loadH (v := .sc _) rfl ((hset_ne (key_ne rfl)).trans ((hset_ne (key_ne rfl)).trans (hset_self _ _ _))) (by kernel_rfl) (by kernel_rfl) (by kernel_rfl) (by exact Nat.zero_lt_one) (by decide) rfl) trivial ?_
         refine g_step rfl rfl rfl rfl (e_ne rfl rfl) trivial ?_
         refine g_step rfl rfl rfl rfl (e_move (v := .sc _) rfl) trivial ?_
         refine g_cases (fun hb51 => ?_) (fun hb51 => ?_)
         ·have hb51R := hb51; (try simp only [z1, z2, z3, z4, z5, z6, ne_eq, z7, z8, z9, z10, z11, z12] at hb51); (try (have hyy := prev_get (ms := ms) hb51 hk; obtain ⟨y, hy⟩ := hyy))
          refine g_step rfl rfl rfl rfl (e_faP (pl := [(0, 1, false), (1, 1, false), (2, 1, false), (3, 1, false)]) rfl (by kernel_rfl) (by kernel_rfl) (by decide) rfl) trivial ?_
          refine g_step rfl rfl rfl rfl (e_loadH (v := .sc _) rfl ((hset_ne (key_ne rfl)).trans ((hset_ne (key_ne rfl)).trans (hset_self _ _ _))) (by kernel_rfl) (by kernel_rfl) (by kernel_rfl) (by exact Nat.zero_lt_one) (by decide) rfl) trivial ?_
          refine g_step rfl rfl rfl rfl (e_ixaP (n := 3) (e := 3) rfl rfl (by kernel_rfl) (by kernel_rfl) (by omega)) trivial ?_
          refine g_step rfl rfl rfl rfl (e_loadH (v := .sc _) rfl (hset_self _ _ _) (by kernel_rfl) (by kernel_rfl) (by kernel_rfl) (by exact Nat.zero_lt_one) (by decide) (cell_n 0 (by rw [cntL_len]; decide))) trivial ?_
          refine g_step rfl rfl rfl rfl (e_ixaP (n := 3) (e := 3) rfl rfl (by kernel_rfl) (by kernel_rfl) (by omega)) trivial ?_
          refine g_step rfl rfl rfl rfl (e_loadH (v := .sc _) rfl (hset_self _ _ _) (by kernel_rfl) (by kernel_rfl) (by kernel_rfl) (by exact Nat.zero_lt_one) (by decide) (cell_n 1 (by rw [cntL_len]; decide))) trivial ?_
          refine g_step rfl rfl rfl rfl (e_sub rfl rfl (by omega)) trivial ?_
          refine g_step rfl rfl rfl rfl (e_ixaP (n := 3) (e := 3) rfl rfl (by kernel_rfl) (by kernel_rfl) (by omega)) trivial ?_
          refine g_step rfl rfl rfl rfl (e_loadH (v := .sc _) rfl (hset_self _ _ _) (by kernel_rfl) (by kernel_rfl) (by kernel_rfl) (by exact Nat.zero_lt_one) (by decide) (cell_n 2 (by rw [cntL_len]; decide))) trivial ?_
          refine g_step rfl rfl rfl rfl (e_sub rfl rfl (by omega)) trivial ?_
          refine g_step rfl rfl rfl rfl (e_gt rfl rfl) trivial ?_
          refine g_step rfl rfl rfl rfl (e_pickT (v := .sc _) rfl rfl) trivial ?_
          refine g_end (ds := [65, 66, 67, 68, 69, 70, 71, 72, 73, 74, 75]) rfl rfl (hK50 _ ?_); clear hK50 K50
          refine pwp_cond rfl (fun hb52 => ?_) (fun hb52 => ?_)
          ·have hb52R := hb52; (try simp only [z1, z2, z3, z4, z5, z6, ne_eq, z7, z8, z9, z10, z11, z12] at hb52); (try (have hyy := prev_get (ms := ms) hb52 hk; obtain ⟨y, hy⟩ := hyy))
           refine pwp_seq_plain rfl fun K53 hK53 => ?_
           refine p_step rfl (e_assign (v := .sc _) rfl) trivial ?_
           refine p_end (hK53 _ ?_); clear hK53 K53
           refine pwp_ret ?_
           refine ret_block ?_
           refine ret_seq ?_
           refine ret_loop ?_
           refine ret_block ?_
           refine ret_seq ?_
           refine end1 (v := .sc _) rfl ?_
           first
             | exact out_i (movE_big (by omega))
             | exact out_i (movE_go (by omega) hinv)
             | exact out_i (movE_go (by omega) (goM_stop hinv (by decide) (mvE_2 (by unfold badM; omega))))
             | exact out_i (movE_go (by omega) (goM_stop hinv (by decide) (mvE_10 (by unfold badM; omega) (by first | omega | (have hl0 := hlast.1 (by omega); omega) | (have hl1 := hlast.2 y hy (by omega); omega)))))
             | exact out_i (movE_go (by omega) (goM_stop hinv (by decide) (mvE_6 (by unfold badM; omega) (by first | omega | (have hl0 := hlast.1 (by omega); omega) | (have hl1 := hlast.2 y hy (by omega); omega)) (by omega))))
             | exact out_i (movE_go (by omega) (goM_stop hinv (by decide) (mvE_22 (by unfold badM; omega) (by first | omega | (have hl0 := hlast.1 (by omega); omega) | (have hl1 := hlast.2 y hy (by omega); omega)) (by omega) (by unfold stkL; omega))))
          ·have hb52R := hb52; (try simp only [z1, z2, z3, z4, z5, z6, ne_eq, z7, z8, z9, z10, z11, z12] at hb52); (try (have hyy := prev_get (ms := ms) hb52 hk; obtain ⟨y, hy⟩ := hyy))
           refine pwp_skip ?_
           refine block_norm ?_
           refine seq_norm (hK16 _ ?_); clear hK16 K16
           refine pwp_plain rfl fun K54 hK54 => ?_
           refine p_step rfl (e_move (v := .sc _) rfl) trivial ?_
           refine p_step rfl (e_add rfl rfl (by omega)) trivial ?_
           refine p_step rfl (e_assign (v := .sc _) rfl) trivial ?_
           refine p_end (hK54 _ ?_); clear hK54 K54
           exact loop_again ((k + 1, x.day)) (by show _ < _; simp only; omega) ⟨rfl, rfl, trivial⟩ ⟨rfl, trivial⟩ (by exact ⟨by show _ + 1 ≤ _; omega, by (rw [ht]; exact goM_next hinv (mvE_0 (by unfold badM; omega) (by first | omega | (have hl0 := hlast.1 (by omega); omega) | (have hl1 := hlast.2 y hy (by omega); omega)) (by omega) (by unfold stkL; omega))), by exact ⟨fun h => absurd h (by omega), fun y hy _ => prev_next hx y hy⟩, by exact ok_next hokk hx (by unfold badM; omega)⟩)
         ·have hb51R := hb51; (try simp only [z1, z2, z3, z4, z5, z6, ne_eq, z7, z8, z9, z10, z11, z12] at hb51); (try (have hyy := prev_get (ms := ms) hb51 hk; obtain ⟨y, hy⟩ := hyy))
          refine g_skip rfl rfl rfl ?_
          refine g_skip rfl rfl rfl ?_
          refine g_skip rfl rfl rfl ?_
          refine g_skip rfl rfl rfl ?_
          refine g_skip rfl rfl rfl ?_
          refine g_skip rfl rfl rfl ?_
          refine g_skip rfl rfl rfl ?_
          refine g_skip rfl rfl rfl ?_
          refine g_skip rfl rfl rfl ?_
          refine g_skip rfl rfl rfl ?_
          refine g_skip rfl rfl rfl ?_
          refine g_step rfl rfl rfl rfl (e_pickF (v := .sc _) rfl rfl) trivial ?_
          refine g_end (ds := [65, 66, 67, 68, 69, 70, 71, 72, 73, 74, 75]) rfl rfl (hK50 _ ?_); clear hK50 K50
          refine pwp_cond (t := false) rfl nofun (fun _ => ?_)
          refine pwp_skip ?_
          refine block_norm ?_
          refine seq_norm (hK16 _ ?_); clear hK16 K16
          refine pwp_plain rfl fun K55 hK55 => ?_
          refine p_step rfl (e_move (v := .sc _) rfl) trivial ?_
          refine p_step rfl (e_add rfl rfl (by omega)) trivial ?_
          refine p_step rfl (e_assign (v := .sc _) rfl) trivial ?_
          refine p_end (hK55 _ ?_); clear hK55 K55
          exact loop_again ((k + 1, x.day)) (by show _ < _; simp only; omega) ⟨rfl, rfl, trivial⟩ ⟨rfl, trivial⟩ (by exact ⟨by show _ + 1 ≤ _; omega, by (rw [ht]; exact goM_next hinv (mvE_0 (by unfold badM; omega) (by first | omega | (have hl0 := hlast.1 (by omega); omega) | (have hl1 := hlast.2 y hy (by omega); omega)) (by omega) (by unfold stkL; omega))), by exact ⟨fun h => absurd h (by omega), fun y hy _ => prev_next hx y hy⟩, by exact ok_next hokk hx (by unfold badM; omega)⟩)
   ·have hb15R := hb15; (try simp only [z1, z2, z3, z4, z5, z6, ne_eq, z7, z8, z9, z10, z11, z12] at hb15); (try (have hyy := prev_get (ms := ms) hb15 hk; obtain ⟨y, hy⟩ := hyy))
    obtain rfl : k = ms.length := by omega
    rw [List.drop_length] at hinv; simp only [goM] at hinv
    refine pwp_exit ?_
    refine exit_seq ?_
    clear hK14 K14
    refine exit_loop ?_
    refine exit_here ?_
    refine seq_norm (hK7 _ ?_); clear hK7 K7
    refine pwp_seq_plain rfl fun K56 hK56 => ?_
    refine p_step rfl (e_assign (v := .sc _) rfl) trivial ?_
    refine p_end (hK56 _ ?_); clear hK56 K56
    refine pwp_ret ?_
    refine end1 (v := .sc _) rfl ?_
    first
      | exact out_i (movE_big (by omega))
      | exact out_i (movE_go (by omega) hinv)
      | exact out_i (movE_go (by omega) (goM_stop hinv (by decide) (mvE_2 (by unfold badM; omega))))
      | exact out_i (movE_go (by omega) (goM_stop hinv (by decide) (mvE_10 (by unfold badM; omega) (by first | omega | (have hl0 := hlast.1 (by omega); omega) | (have hl1 := hlast.2 y hy (by omega); omega)))))
      | exact out_i (movE_go (by omega) (goM_stop hinv (by decide) (mvE_6 (by unfold badM; omega) (by first | omega | (have hl0 := hlast.1 (by omega); omega) | (have hl1 := hlast.2 y hy (by omega); omega)) (by omega))))
      | exact out_i (movE_go (by omega) (goM_stop hinv (by decide) (mvE_22 (by unfold badM; omega) (by first | omega | (have hl0 := hlast.1 (by omega); omega) | (have hl1 := hlast.2 y hy (by omega); omega)) (by omega) (by unfold stkL; omega))))

end Go.Proofs.Ytdbpfhbppcpbbaa
