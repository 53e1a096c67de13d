/- HoldingChooses. No conditions. -/
import Derived.Test.YtindehoegfiiaaaGreatDoorCh5
import Derived.Laws.BitsAllLaws
set_option linter.unusedSimpArgs false
set_option linter.unusedVariables false
set_option maxRecDepth 100000
namespace Go.Proofs.YtindehoegfiiaaaGreatDoor
open Go Go.Pv
theorem firstF {d : List Demand} {n : Nat} (hd : d.length ≤ 100000) (hp : ∀ x ∈ d, x.places.length ≤ 100000) (hn : n ≤ 1000) (left : Nat) (hl : left ≤ 1000) (t : Bool) (zn zl : Int) (h0 : Heap) (c0 : Nat → Nat) (hzn : zn = (n : Int)) (hzl : zl = (left : Int)) :
   HCallsR Tryz.prog 77 [.lit t 3 ((d.map dF).map encQ), .int zn, .nil, .int 0, .int zl] h0 c0 (FstR d n left 0 [] h0 c0) := by
 subst hzn; subst hzl
 rw [enc_F]
 exact firstRC hd hp hn left hl t false 0 [] .nil 0 (left : Int) h0 c0 rfl rfl (Nat.le_refl _) (by omega) .nil (fun g sz n e => by cases e)
def chR (g : Grid) (r : Rule) (l : List Tie) : List Tie := ((chS (dmX g r l) l.length).getD []).map (tieAt l)
section
variable {g : Grid} {r : Rule} {l : List Tie} {c : List Int}
theorem chX_c (g : Grid) (r : Rule) (l : List Tie) : (allE g r l ≠ 0 ∧ (chX g r l).1.length = 0 ∧ (chX g r l).2 = allE g r l) ∨ (allE g r l = 0 ∧ 24 < (l.length : Int) ∧ (chX g r l).1.length = 0 ∧ (chX g r l).2 = 8) ∨
   (allE g r l = 0 ∧ (l.length : Int) ≤ 24 ∧ (chS (dmX g r l) l.length).isSome = false ∧ (chX g r l).1.length = 0 ∧ (chX g r l).2 = 19) ∨
   (allE g r l = 0 ∧ (l.length : Int) ≤ 24 ∧ (chS (dmX g r l) l.length).isSome = true ∧ (chX g r l).1 = chR g r l ∧ (chX g r l).2 = 0) := by
 by_cases h : allE g r l = 0
 · by_cases h2 : 24 < (l.length : Int)
   · rw [chX_8 h h2]; exact .inr (.inl ⟨h, h2, rfl, rfl⟩)
   · cases q : chS (dmX g r l) l.length with
     | none => rw [chX_n h h2 q]; exact .inr (.inr (.inl ⟨h, by omega, rfl, rfl, rfl⟩))
     | some c => rw [chX_s h h2 q]; exact .inr (.inr (.inr ⟨h, by omega, rfl, by rw [chR, q]; rfl, rfl⟩))
 · rw [chX_e h]; exact .inl ⟨h, rfl, rfl⟩
theorem chX_no (h : allE g r l = 0) (h2 : (l.length : Int) ≤ 24) (h3 : (chS (dmX g r l) l.length).isSome = false) : (chX g r l).1.length = 0 ∧ (chX g r l).2 = 19 := by
 rcases chX_c g r l with ⟨q, _⟩ | ⟨_, q, _⟩ | ⟨_, _, _, q⟩ | ⟨_, _, q, _⟩
 · exact absurd h q
 · omega
 · exact q
 · rw [h3] at q; cases q
theorem chX_yes (h : allE g r l = 0) (h2 : (l.length : Int) ≤ 24) (h3 : (chS (dmX g r l) l.length).isSome = true) : (chX g r l).1 = chR g r l ∧ (chX g r l).2 = 0 := by
 rcases chX_c g r l with ⟨q, _⟩ | ⟨_, q, _⟩ | ⟨_, _, q, _⟩ | ⟨_, _, _, q⟩
 · exact absurd h q
 · omega
 · rw [h3] at q; cases q
 · exact q
theorem chS_some {d : List Demand} {n : Nat} (h : chS d n = some c) : (∀ y ∈ c, 0 ≤ y ∧ y < (n : Int)) ∧ c.length ≤ n := by
 obtain ⟨z, hz, h2⟩ := List.exists_of_findSome?_eq_some h
 rw [List.mem_range'_1] at hz
 obtain ⟨E, e1, e2, e3, _, _⟩ := srch_some h2
 rw [List.nil_append] at e1; subst e1
 exact ⟨fun y hy => by have := e3 y hy; omega, by omega⟩
theorem chR_len : (chR g r l).length ≤ l.length := by
 rw [chR, List.length_map]
 cases q : chS (dmX g r l) l.length with
 | none => exact Nat.zero_le _
 | some c => exact (chS_some q).2
theorem chX_len (h9 : l.length ≤ 9 ∨ 24 < l.length) : (chX g r l).1.length ≤ 100 := by
 rcases chX_c g r l with ⟨_, q, _⟩ | ⟨_, _, q, _⟩ | ⟨_, _, _, q, _⟩ | ⟨_, _, _, q, _⟩
 · omega
 · omega
 · omega
 · rw [q]; have := chR_len (g := g) (r := r) (l := l); omega
end

theorem fr22 : (inFrame Tryz.f22.ntmps (Tryz.f22.body.getD .skip) && Tryz.f22.results.toList.all (resScope Tryz.f22.ntmps)) = true := by kernel_rfl
theorem refChooseC (g : Grid) (r : Rule) (l : List Tie) (hl : l.length ≤ 100) (haz : allE g r l = 0) : PCalls Tryz.prog 22 [.agg g.enc, .agg r.enc, .lit true 2 (l.map Tie.enc)] (.tup [.lit false 2 ((chR g r l).map Tie.enc), .bool (chS (dmX g r l) l.length).isSome]) := by
 refine PCalls.of_code Tryz.func22 rfl rfl (by kernel_rfl) mixed fr22 (by show _ ≤ 50; simp) (pure_2 (.lit _ _ _ fun row hr => pure_map Tie.pure row hr) (.sc _)) ?_
 have hdl := dmX_len (g := g) (r := r) (l := l)
 have hpl : ∀ x ∈ (dmX g r l), x.places.length ≤ 100000 := fun x hx => Nat.le_trans (dmX_pl hx) (by omega)
 refine pwp_seq_plain rfl fun K1 hK1 => ?_
 refine p_new rfl (e_box (n := 3) rfl rfl) ⟨rfl, by decide⟩ ?_
 refine p_new rfl (e_box (n := 5) rfl rfl) ⟨rfl, by decide⟩ ?_
 refine p_e rfl (e_assign (v := .nil) rfl) ?_
 refine p_aS rfl ?_
 refine p_end (hK1 _ ?_); clear hK1 K1
 refine pwp_seq_plain rfl fun K2 hK2 => ?_
 refine p_e rfl (e_loadHA (cs := Grid.enc (g)) (n := 3) rfl ((hset_ne (key_ne rfl)).trans (hset_self _ _ _)) (by kernel_rfl) (by kernel_rfl) (by kernel_rfl) (by exact Nat.zero_lt_one) (by decide) rfl) ?_
 refine p_e rfl (e_loadHA (cs := Rule.enc (r)) (n := 5) rfl (hset_self _ _ _) (by kernel_rfl) (by kernel_rfl) (by kernel_rfl) (by exact Nat.zero_lt_one) (by decide) rfl) ?_
 refine p_e rfl (e_move (v := .lit _ _ _) rfl) ?_
 refine p_call rfl (.cons (inn_agg (Grid.pure _)) (.cons (inn_agg (Rule.pure _)) (.cons inn_lit .nil))) (refDemandsC g r l (by omega) haz) ?_
 refine p_e rfl (e_assign (v := .lit _ _ _) rfl) ?_
 refine p_end (hK2 _ ?_); clear hK2 K2
 refine pwp_seq_seq ?_
 refine pwp_seq_plain rfl fun K3 hK3 => ?_
 refine p_aS rfl ?_
 refine p_end (hK3 _ ?_); clear hK3 K3
 refine pwp_seq_block fun K4 hK4 => ?_
 refine pwp_loopR (α := Nat) [2, 8] (fun (z : Nat) => [(9, .int (z))]) (fun (z : Nat) (h : Heap) (_ : Nat → Nat) => ((z) ≤ l.length + 1) ∧ (chS (dmX g r l) l.length = (List.range' (z) (l.length + 1 - (z))).findSome? (fun (z) => srch (metB (dmX g r l)) l.length (z) 0 []))) (fun (z : Nat) => l.length + 1 - (z)) (0) (by exact ⟨rfl, trivial⟩) (by exact ⟨by exact Nat.zero_le _, by exact rfl⟩) fun z r5 h6 c7 hj8 => ?_
 obtain ⟨hz, hinv⟩ := hj8
 try dsimp only at hz
 try dsimp only at hinv
 show pwp _ _ (loopQ _ _ _) ⟨sets (mix _ _ _) [(9, .int z)], _, _⟩
 refine pwp_seq_seq ?_
 refine pwp_seq_plain rfl fun K9 hK9 => ?_
 refine p_mS rfl ?_
 refine p_e rfl (e_move (v := .lit _ _ _) rfl) ?_
 refine p_e rfl (e_len rfl (by kernel_rfl)) ?_
 refine p_e rfl (e_le rfl rfl) ?_
 refine p_end (hK9 _ ?_); clear hK9 K9
 refine pwp_seq_cond rfl fun K10 hK10 => ⟨fun hb11 => ?_, fun hb11 => ?_⟩
 ·have hb11R := hb11; try simp only [zz] at hb11
  have hzn : z ≤ l.length := by simp only [List.length_map] at *; omega
  refine pwp_skip ?_
  refine seq_norm (hK10 _ ?_); clear hK10 K10
  refine pwp_seq_block fun K12 hK12 => ?_
  refine pwp_seq_plain rfl fun K13 hK13 => ?_
  refine p_e rfl (e_move (v := .lit _ _ _) rfl) ?_
  refine p_e rfl (e_move (v := .lit _ _ _) rfl) ?_
  refine p_e rfl (e_len rfl (by kernel_rfl)) ?_
  refine p_mS rfl ?_
  refine p_hcall rfl (firstF (n := l.length) (by omega) hpl (by omega) z (by omega) _ _ _ _ _ (by rw [List.length_map]) rfl) fun v14 h15 c16 hR17 => ?_
  obtain ⟨⟨w, rfl, hw⟩, _, _⟩ := hR17
  refine p_e rfl (e_move (v := .tup _) rfl) ?_
  refine p_e rfl (e_ext (v := _) rfl (by simp) rfl) ?_
  refine p_e rfl (e_ext (v := .sc _) rfl (by simp) rfl) ?_
  refine p_e rfl (e_assign (v := _) rfl) ?_
  refine p_aS rfl ?_
  refine p_end (hK13 _ ?_); clear hK13 K13
  refine pwp_seq_plain rfl fun K18 hK18 => ?_
  refine p_mS rfl ?_
  refine p_end (hK18 _ ?_); clear hK18 K18
  refine pwp_cond rfl (fun hb19 => ?_) (fun hb19 => ?_)
  ·have hb19R := hb19; try simp only [zz] at hb19
   obtain ⟨cs, hcs⟩ := Option.isSome_iff_exists.1 (show (srch (metB (dmX g r l)) l.length z 0 []).isSome = true by first | assumption | simp_all)
   have hwr := hw cs hcs
   have hcc : chS (dmX g r l) l.length = some cs := by rw [fnd_hit hinv (by omega) (by rw [hcs]; rfl), hcs]
   have hcb := chS_some hcc
   refine pwp_seq_plain rfl fun K20 hK20 => ?_
   refine p_e rfl (e_assign (v := .nil) rfl) ?_
   refine p_end (hK20 _ ?_); clear hK20 K20
   refine pwp_seq_seq ?_
   refine pwp_seq_plain rfl fun K21 hK21 => ?_
   refine p_aS rfl ?_
   refine p_end (hK21 _ ?_); clear hK21 K21
   refine pwp_seq_block fun K22 hK22 => ?_
   refine pwp_loopR (α := Nat × PV) [2, 10] (fun (a23 : Nat × PV) => [(12, (a23.2)), (13, .int (a23.1))]) (fun (a23 : Nat × PV) (h : Heap) (_ : Nat → Nat) => ((a23.1) ≤ cs.length) ∧ (SliceAt h 48 (a23.2) 2 (((cs.take (a23.1)).map (tieAt l)).map Tie.enc)) ∧ (SliceAt h 36 w 1 (cs.map ci))) (fun (a23 : Nat × PV) => cs.length - (a23.1)) (0, .nil) (by exact ⟨rfl, rfl, trivial⟩) (by exact ⟨by exact Nat.zero_le _, .nil, hwr⟩) fun a23 r24 h25 c26 hj27 => ?_
   obtain ⟨q, v⟩ := a23
   obtain ⟨hq, hihj27_0, hihj27_1⟩ := hj27
   try dsimp only at hq
   try dsimp only at hihj27_0
   try dsimp only at hihj27_1
   show pwp _ _ (loopQ _ _ _) ⟨sets (mix _ _ _) [(12, v), (13, .int q)], _, _⟩
   refine pwp_seq_seq ?_
   refine pwp_seq_plain rfl fun K28 hK28 => ?_
   refine p_mS rfl ?_
   refine p_e rfl (e_move (v := _) rfl) ?_
   refine p_e rfl (SliceAt.len hihj27_1 rfl (by kernel_rfl)) ?_
   refine p_e rfl (e_lt rfl rfl) ?_
   refine p_end (hK28 _ ?_); clear hK28 K28
   refine pwp_seq_cond rfl fun K29 hK29 => ⟨fun hb30 => ?_, fun hb30 => ?_⟩
   ·have hb30R := hb30; try simp only [zz] at hb30
    obtain ⟨p, hp, hpd, hpt⟩ := get_lt (xs := cs) (i := q) (by omega)
    have hpb := hcb.1 p (List.mem_of_getElem? hp)
    obtain ⟨tt, htt⟩ : ∃ tt, l[p.toNat]? = some tt := ⟨_, List.getElem?_eq_getElem (by omega)⟩
    have hta : tieAt l p = tt := by rw [tieAt]; exact ts_x htt
    refine pwp_skip ?_
    refine seq_norm (hK29 _ ?_); clear hK29 K29
    refine pwp_seq_block fun K31 hK31 => ?_
    refine pwp_plain rfl fun K32 hK32 => ?_
    refine p_e rfl (e_move (v := _) rfl) ?_
    refine p_e rfl (e_move (v := .lit _ _ _) rfl) ?_
    refine p_e rfl (e_move (v := _) rfl) ?_
    refine p_mS rfl ?_
    obtain ⟨g33, rfl, hg34⟩ := SliceAt.isRef hihj27_1 (by intro hq_; rw [List.map_eq_nil_iff] at hq_; subst hq_; simp at *; done)
    refine p_e rfl (e_ixaR0 rfl rfl (by kernel_rfl) (by kernel_rfl) (by first | omega | (simp only [List.length_map]; omega))) ?_
    refine p_e rfl (e_loadI (a := p) rfl hg34 (by kernel_rfl) (by kernel_rfl) (by kernel_rfl) hp) ?_
    refine p_e rfl (e_ixL rfl rfl) ?_
    refine p_e rfl (e_loadA (n := 2) rfl (by kernel_rfl) (by kernel_rfl) (by kernel_rfl) (by first | omega | (simp only [List.length_map]; omega)) (by decide) (by first | exact agg_map htt rfl)) ?_
    refine p_new rfl (e_bslice (rows := [Tie.enc tt]) (zs := [.int 0, .int 0]) (sz := 2) (by kernel_rfl) (by kernel_rfl) rfl (by kernel_rfl) (by decide) rfl rfl (by exact ⟨by decide, rfl, rfl, trivial⟩) rfl) trivial ?_
    refine p_app rfl rfl rfl (hihj27_0.keep fun _ => (hset_ne (key_ne rfl)).trans (rfl)) (src_ref (hset_self _ _ _) rfl) (by kernel_rfl) (by simp only [List.length_append, List.length_map, List.length_nil, List.length_cons, List.length_take]; omega) fun v35 h36 c37 hs38 hf39 => ?_
    have ho40 := (hf39 (36, _) (key_ne rfl) (fun _ _ => key_ne rfl)).trans ((hset_ne (key_ne rfl)).trans hg34)
    have ho41 := (hf39 (47, _) (key_ne rfl) (fun _ _ => key_ne rfl)).trans (hset_self _ _ _)
    refine p_e rfl (e_assign (v := _) rfl) ?_
    refine p_end (hK32 _ ?_); clear hK32 K32
    refine block_norm ?_
    refine seq_norm (hK31 _ ?_); clear hK31 K31
    refine pwp_plain rfl fun K42 hK42 => ?_
    refine p_mS rfl ?_
    refine p_e rfl (e_adL rfl rfl) ?_
    refine p_aS rfl ?_
    refine p_end (hK42 _ ?_); clear hK42 K42
    exact loop_again ((q + 1, v35)) (by show _ < _; simp only; omega) ⟨rfl, rfl, trivial⟩ ⟨rfl, rfl, trivial⟩ (by exact ⟨by show _ + 1 ≤ _; simp only [List.length_map] at *; omega, (SliceAt.to hs38 (by rw [tkm_s hp, List.map_append, hta]; rfl)), (.ofRef ho40 (by simp))⟩)
   ·have hb30R := hb30; try simp only [zz] at hb30
    have hqe : cs.length ≤ q := by simp only [List.length_map] at *; omega
    refine pwp_exit ?_
    refine exit_seq ?_
    clear hK29 K29
    refine exit_loop ?_
    refine exit_here ?_
    refine seq_norm (hK22 _ ?_); clear hK22 K22
    refine pwp_seq_plain rfl fun K43 hK43 => ?_
    refine p_e rfl (e_move (v := _) rfl) ?_
    refine p_e rfl (e_assign (v := _) rfl) ?_
    refine p_aS rfl ?_
    refine p_end (hK43 _ ?_); clear hK43 K43
    refine pwp_ret ?_
    refine ret_block ?_
    refine ret_seq ?_
    refine ret_loop ?_
    refine ret_block ?_
    refine ret_seq ?_
    refine end2 (v := _) (w := .sc _) rfl rfl ?_
    first
      | exact out_2 (by rw [chR, fnd_end hinv (by omega)]; exact .nil 2) (out_b (by rw [fnd_end hinv (by omega)]; rfl))
      | exact out_2 (by rw [chR, hcc]; exact out_slice (SliceAt.to hihj27_0 (by rw [List.take_of_length_le hqe]; rfl)) rfl (fun _ => rfl) tie_clean) (out_b (by rw [hcc]; rfl))
  ·have hb19R := hb19; try simp only [zz] at hb19
   refine pwp_skip ?_
   refine block_norm ?_
   refine seq_norm (hK12 _ ?_); clear hK12 K12
   refine pwp_plain rfl fun K44 hK44 => ?_
   refine p_mS rfl ?_
   refine p_e rfl (e_adL rfl rfl) ?_
   refine p_aS rfl ?_
   refine p_end (hK44 _ ?_); clear hK44 K44
   exact loop_again (z + 1) (by show _ < _; omega) ⟨rfl, rfl, trivial⟩ ⟨rfl, trivial⟩ (by exact ⟨by omega, by exact fnd_next hinv (by omega) (by first | assumption | simp_all)⟩)
 ·have hb11R := hb11; try simp only [zz] at hb11
  refine pwp_exit ?_
  refine exit_seq ?_
  clear hK10 K10
  refine exit_loop ?_
  refine exit_here ?_
  refine seq_norm (hK4 _ ?_); clear hK4 K4
  refine pwp_seq_plain rfl fun K45 hK45 => ?_
  refine p_e rfl (e_assign (v := .nil) rfl) ?_
  refine p_aS rfl ?_
  refine p_end (hK45 _ ?_); clear hK45 K45
  refine pwp_ret ?_
  refine end2 (v := .nil) (w := .sc _) rfl rfl ?_
  first
    | exact out_2 (by rw [chR, fnd_end hinv (by omega)]; exact .nil 2) (out_b (by rw [fnd_end hinv (by omega)]; rfl))

theorem fr4 : (inFrame Tryz.f4.ntmps (Tryz.f4.body.getD .skip) && Tryz.f4.results.toList.all (resScope Tryz.f4.ntmps)) = true := by kernel_rfl
theorem hChooses (g : Grid) (r : Rule) (l : List Tie) (ha : g.along.length ≤ 9223372036854775807) (hb : g.levels.length ≤ 9223372036854775807) (hl : l.length ≤ 9223372036854775807) : PCalls Tryz.prog 4 [.agg g.enc, .agg r.enc, .lit true 2 (l.map Tie.enc)] (.bool true) := by
 refine PCalls.of_code Tryz.func4 rfl rfl (by kernel_rfl) mixed fr4 (by show _ ≤ 83; simp) (.sc _) ?_
 have hcx := chX_c g r l
 refine pwp_seq_plain rfl fun K1 hK1 => ?_
 refine p_new rfl (e_box (n := 3) rfl rfl) ⟨rfl, by decide⟩ ?_
 refine p_new rfl (e_box (n := 5) rfl rfl) ⟨rfl, by decide⟩ ?_
 refine p_aS rfl ?_
 refine p_end (hK1 _ ?_); clear hK1 K1
 refine pwp_seq_seq ?_
 refine pwp_seq_plain rfl fun K2 hK2 => ?_
 refine p_call rfl .nil (awake) ?_
 refine p_e rfl (e_not rfl) ?_
 refine p_end (hK2 _ ?_); clear hK2 K2
 refine pwp_seq_cond (t := false) rfl fun K3 hK3 => ⟨nofun, fun _ => ?_⟩
 refine pwp_skip ?_
 refine seq_norm (hK3 _ ?_); clear hK3 K3
 refine pwp_seq_seq ?_
 refine pwp_seq_gops rfl fun K4 hK4 => ?_
 refine g_begin ?_
 refine g_e rfl (e_loadHA (cs := Grid.enc (g)) (n := 3) rfl ((hset_ne (key_ne rfl)).trans (hset_self _ _ _)) (by kernel_rfl) (by kernel_rfl) (by kernel_rfl) (by exact Nat.zero_lt_one) (by decide) rfl) ?_
 refine g_call rfl rfl rfl rfl (.cons (inn_agg (Grid.pure _)) .nil) (FewC g (by omega) (by omega)) ?_
 refine g_e rfl (e_not rfl) ?_
 refine g_mS rfl rfl ?_
 refine g_cases (fun hb5 => ?_) (fun hb5 => ?_)
 ·have hb5R := hb5; try simp only [zz] at hb5
  iterate 3 refine g_skip rfl rfl rfl ?_
  refine g_pT rfl rfl rfl ?_
  refine g_mS rfl rfl ?_
  iterate 8 refine g_skip rfl rfl rfl ?_
  refine g_pT rfl rfl rfl ?_
  refine g_end (ds := [18, 19, 20, 23, 24, 25, 26, 27, 28, 29, 30]) rfl rfl (hK4 _ ?_); clear hK4 K4
  refine pwp_seq_cond (t := true) rfl fun K6 hK6 => ⟨fun _ => ?_, nofun⟩
  refine pwp_seq_plain rfl fun K7 hK7 => ?_
  refine p_aS rfl ?_
  refine p_end (hK7 _ ?_); clear hK7 K7
  refine pwp_ret ?_
  refine ret_seq ?_
  refine end1 (v := .sc _) rfl ?_
  first
    | exact out_b rfl
    | exact out_b (by rw [decide_eq_true_eq]; simp only [List.length_map] at *; omega)
    | (exfalso; simp only [List.length_map] at *; omega)
    | exact out_b (decide_eq_true hxy.1)
    | (exfalso; simp_all; done)
 ·have hb5R := hb5; try simp only [zz] at hb5
  refine g_e rfl (e_move (v := .lit _ _ _) rfl) ?_
  refine g_e rfl (e_len rfl (by kernel_rfl)) ?_
  refine g_e rfl (e_gt rfl rfl) ?_
  refine g_pF rfl rfl rfl ?_
  refine g_mS rfl rfl ?_
  refine g_cases (fun hb8 => ?_) (fun hb8 => ?_)
  ·have hb8R := hb8; try simp only [zz] at hb8
   iterate 8 refine g_skip rfl rfl rfl ?_
   refine g_pT rfl rfl rfl ?_
   refine g_end (ds := [18, 19, 20, 23, 24, 25, 26, 27, 28, 29, 30]) rfl rfl (hK4 _ ?_); clear hK4 K4
   refine pwp_seq_cond (t := true) rfl fun K9 hK9 => ⟨fun _ => ?_, nofun⟩
   refine pwp_seq_plain rfl fun K10 hK10 => ?_
   refine p_aS rfl ?_
   refine p_end (hK10 _ ?_); clear hK10 K10
   refine pwp_ret ?_
   refine ret_seq ?_
   refine end1 (v := .sc _) rfl ?_
   first
     | exact out_b rfl
     | exact out_b (by rw [decide_eq_true_eq]; simp only [List.length_map] at *; omega)
     | (exfalso; simp only [List.length_map] at *; omega)
     | exact out_b (decide_eq_true hxy.1)
     | (exfalso; simp_all; done)
  ·have hb8R := hb8; try simp only [zz] at hb8
   refine g_e rfl (e_move (v := .lit _ _ _) rfl) ?_
   refine g_e rfl (e_len rfl (by kernel_rfl)) ?_
   refine g_e rfl (e_gt rfl rfl) ?_
   refine g_mS rfl rfl ?_
   refine g_cases (fun hb11 => ?_) (fun hb11 => ?_)
   ·have hb11R := hb11; try simp only [zz] at hb11
    refine g_e rfl (e_move (v := .lit _ _ _) rfl) ?_
    refine g_e rfl (e_len rfl (by kernel_rfl)) ?_
    refine g_e rfl (e_le rfl rfl) ?_
    refine g_pT rfl rfl rfl ?_
    refine g_pF rfl rfl rfl ?_
    refine g_end (ds := [18, 19, 20, 23, 24, 25, 26, 27, 28, 29, 30]) rfl rfl (hK4 _ ?_); clear hK4 K4
    refine pwp_seq_cond rfl fun K12 hK12 => ⟨fun hb13 => ?_, fun hb13 => ?_⟩
    ·have hb13R := hb13; try simp only [zz] at hb13
     refine pwp_seq_plain rfl fun K14 hK14 => ?_
     refine p_aS rfl ?_
     refine p_end (hK14 _ ?_); clear hK14 K14
     refine pwp_ret ?_
     refine ret_seq ?_
     refine end1 (v := .sc _) rfl ?_
     first
       | exact out_b rfl
       | exact out_b (by rw [decide_eq_true_eq]; simp only [List.length_map] at *; omega)
       | (exfalso; simp only [List.length_map] at *; omega)
       | exact out_b (decide_eq_true hxy.1)
       | (exfalso; simp_all; done)
    ·have hb13R := hb13; try simp only [zz] at hb13
     refine pwp_skip ?_
     refine seq_norm (hK12 _ ?_); clear hK12 K12
     have hfw := few_t (g := g) (by first | assumption | simp_all)
     have hf6 : gridE g = 0 → g.along.length ≤ 6 ∧ g.levels.length ≤ 6 := fun h => hfw.2.2.resolve_right (fun q => q h)
     have hl9 : l.length ≤ 9 ∨ 24 < l.length := by simp only [List.length_map] at *; omega
     have hl2 : l.length ≤ 2000 := by simp only [List.length_map] at *; omega
     have hxl := chX_len (g := g) (r := r) hl9
     have hrl := chR_len (g := g) (r := r) (l := l)
     refine pwp_seq_plain rfl fun K15 hK15 => ?_
     refine p_e rfl (e_loadHA (cs := Grid.enc (g)) (n := 3) rfl ((hset_ne (key_ne rfl)).trans (hset_self _ _ _)) (by kernel_rfl) (by kernel_rfl) (by kernel_rfl) (by exact Nat.zero_lt_one) (by decide) rfl) ?_
     refine p_e rfl (e_loadHA (cs := Rule.enc (r)) (n := 5) rfl (hset_self _ _ _) (by kernel_rfl) (by kernel_rfl) (by kernel_rfl) (by exact Nat.zero_lt_one) (by decide) rfl) ?_
     refine p_e rfl (e_move (v := .lit _ _ _) rfl) ?_
     refine p_call rfl (.cons (inn_agg (Grid.pure _)) (.cons (inn_agg (Rule.pure _)) (.cons inn_lit .nil))) (ChooseC g r l (by omega) (by omega) (by omega) hf6 hl9) ?_
     refine p_e rfl (e_move (v := .tup _) rfl) ?_
     refine p_e rfl (e_ext (v := .lit _ _ _) rfl (by simp) rfl) ?_
     refine p_e rfl (e_ext (v := .sc _) rfl (by simp) rfl) ?_
     refine p_e rfl (e_assign (v := .lit _ _ _) rfl) ?_
     refine p_aS rfl ?_
     refine p_end (hK15 _ ?_); clear hK15 K15
     refine pwp_seq_plain rfl fun K16 hK16 => ?_
     refine p_e rfl (e_loadHA (cs := Grid.enc (g)) (n := 3) rfl ((hset_ne (key_ne rfl)).trans (hset_self _ _ _)) (by kernel_rfl) (by kernel_rfl) (by kernel_rfl) (by exact Nat.zero_lt_one) (by decide) rfl) ?_
     refine p_e rfl (e_loadHA (cs := Rule.enc (r)) (n := 5) rfl (hset_self _ _ _) (by kernel_rfl) (by kernel_rfl) (by kernel_rfl) (by exact Nat.zero_lt_one) (by decide) rfl) ?_
     refine p_e rfl (e_move (v := .lit _ _ _) rfl) ?_
     refine p_call rfl (.cons (inn_agg (Grid.pure _)) (.cons (inn_agg (Rule.pure _)) (.cons inn_lit .nil))) (refAllC g r l (by first | omega | (have hfw := few_t (g := g) (by first | assumption | simp_all); omega)) (by first | omega | (have hfw := few_t (g := g) (by first | assumption | simp_all); omega)) (by first | omega | (have hfw := few_t (g := g) (by first | assumption | simp_all); omega))) ?_
     refine p_aS rfl ?_
     refine p_end (hK16 _ ?_); clear hK16 K16
     refine pwp_seq_seq ?_
     refine pwp_seq_gops rfl fun K17 hK17 => ?_
     refine g_begin ?_
     refine g_mS rfl rfl ?_
     refine g_e rfl (e_eq rfl rfl) ?_
     refine g_mS rfl rfl ?_
     refine g_cases (fun hb18 => ?_) (fun hb18 => ?_)
     ·have hb18R := hb18; try simp only [zz] at hb18
      refine g_e rfl (e_move (v := .lit _ _ _) rfl) ?_
      refine g_e rfl (e_len rfl (by kernel_rfl)) ?_
      refine g_e rfl (e_gt rfl rfl) ?_
      refine g_pT rfl rfl rfl ?_
      refine g_end (ds := [46, 47, 48]) rfl rfl (hK17 _ ?_); clear hK17 K17
      refine pwp_seq_cond rfl fun K19 hK19 => ⟨fun hb20 => ?_, fun hb20 => ?_⟩
      ·have hb20R := hb20; try simp only [zz] at hb20
       refine pwp_plain rfl fun K21 hK21 => ?_
       refine p_aS rfl ?_
       refine p_end (hK21 _ ?_); clear hK21 K21
       refine seq_norm (hK19 _ ?_); clear hK19 K19
       refine pwp_seq_seq ?_
       refine pwp_seq_plain rfl fun K22 hK22 => ?_
       refine p_mS rfl ?_
       refine p_e rfl (e_ne rfl rfl) ?_
       refine p_end (hK22 _ ?_); clear hK22 K22
       refine pwp_seq_cond rfl fun K23 hK23 => ⟨fun hb24 => ?_, fun hb24 => ?_⟩
       ·have hb24R := hb24; try simp only [zz] at hb24
        refine pwp_seq_gops rfl fun K25 hK25 => ?_
        refine g_begin ?_
        refine g_mS rfl rfl ?_
        refine g_mS rfl rfl ?_
        refine g_e rfl (e_eq rfl rfl) ?_
        refine g_mS rfl rfl ?_
        refine g_cases (fun hb26 => ?_) (fun hb26 => ?_)
        ·have hb26R := hb26; try simp only [zz] at hb26
         refine g_e rfl (e_move (v := .lit _ _ _) rfl) ?_
         refine g_e rfl (e_len rfl (by kernel_rfl)) ?_
         refine g_e rfl (e_eq rfl rfl) ?_
         refine g_pT rfl rfl rfl ?_
         refine g_aS rfl rfl ?_
         refine g_end (ds := [56, 57, 58]) rfl rfl (hK25 _ ?_); clear hK25 K25
         refine pwp_ret ?_
         refine ret_seq ?_
         refine end1 (v := .sc _) rfl ?_
         first
           | exact out_b rfl
           | exact out_b (by rw [decide_eq_true_eq]; simp only [List.length_map] at *; omega)
           | (exfalso; simp only [List.length_map] at *; omega)
           | exact out_b (decide_eq_true hxy.1)
           | (exfalso; simp_all; done)
        ·have hb26R := hb26; try simp only [zz] at hb26
         iterate 3 refine g_skip rfl rfl rfl ?_
         refine g_pF rfl rfl rfl ?_
         refine g_aS rfl rfl ?_
         refine g_end (ds := [56, 57, 58]) rfl rfl (hK25 _ ?_); clear hK25 K25
         refine pwp_ret ?_
         refine ret_seq ?_
         refine end1 (v := .sc _) rfl ?_
         first
           | exact out_b rfl
           | exact out_b (by rw [decide_eq_true_eq]; simp only [List.length_map] at *; omega)
           | (exfalso; simp only [List.length_map] at *; omega)
           | exact out_b (decide_eq_true hxy.1)
           | (exfalso; simp_all; done)
       ·have hb24R := hb24; try simp only [zz] at hb24
        refine pwp_skip ?_
        refine seq_norm (hK23 _ ?_); clear hK23 K23
        have haz : allE g r l = 0 := by omega
        have hl24 : (l.length : Int) ≤ 24 := by simp only [List.length_map] at *; omega
        refine pwp_seq_plain rfl fun K27 hK27 => ?_
        refine p_e rfl (e_loadHA (cs := Grid.enc (g)) (n := 3) rfl ((hset_ne (key_ne rfl)).trans (hset_self _ _ _)) (by kernel_rfl) (by kernel_rfl) (by kernel_rfl) (by exact Nat.zero_lt_one) (by decide) rfl) ?_
        refine p_e rfl (e_loadHA (cs := Rule.enc (r)) (n := 5) rfl (hset_self _ _ _) (by kernel_rfl) (by kernel_rfl) (by kernel_rfl) (by exact Nat.zero_lt_one) (by decide) rfl) ?_
        refine p_e rfl (e_move (v := .lit _ _ _) rfl) ?_
        refine p_call rfl (.cons (inn_agg (Grid.pure _)) (.cons (inn_agg (Rule.pure _)) (.cons inn_lit .nil))) (refChooseC g r l (by omega) haz) ?_
        refine p_e rfl (e_move (v := .tup _) rfl) ?_
        refine p_e rfl (e_ext (v := .lit _ _ _) rfl (by simp) rfl) ?_
        refine p_e rfl (e_ext (v := .sc _) rfl (by simp) rfl) ?_
        refine p_e rfl (e_assign (v := .lit _ _ _) rfl) ?_
        refine p_aS rfl ?_
        refine p_end (hK27 _ ?_); clear hK27 K27
        refine pwp_seq_seq ?_
        refine pwp_seq_plain rfl fun K28 hK28 => ?_
        refine p_mS rfl ?_
        refine p_e rfl (e_not rfl) ?_
        refine p_end (hK28 _ ?_); clear hK28 K28
        refine pwp_seq_cond rfl fun K29 hK29 => ⟨fun hb30 => ?_, fun hb30 => ?_⟩
        ·have hb30R := hb30; try simp only [zz] at hb30
         have hxn := chX_no haz hl24 (by first | assumption | simp_all)
         refine pwp_seq_gops rfl fun K31 hK31 => ?_
         refine g_begin ?_
         refine g_mS rfl rfl ?_
         refine g_e rfl (e_eq rfl rfl) ?_
         refine g_mS rfl rfl ?_
         refine g_cases (fun hb32 => ?_) (fun hb32 => ?_)
         ·have hb32R := hb32; try simp only [zz] at hb32
          refine g_e rfl (e_move (v := .lit _ _ _) rfl) ?_
          refine g_e rfl (e_len rfl (by kernel_rfl)) ?_
          refine g_e rfl (e_eq rfl rfl) ?_
          refine g_pT rfl rfl rfl ?_
          refine g_aS rfl rfl ?_
          refine g_end (ds := [72, 73, 74]) rfl rfl (hK31 _ ?_); clear hK31 K31
          refine pwp_ret ?_
          refine ret_seq ?_
          refine end1 (v := .sc _) rfl ?_
          first
            | exact out_b rfl
            | exact out_b (by rw [decide_eq_true_eq]; simp only [List.length_map] at *; omega)
            | (exfalso; simp only [List.length_map] at *; omega)
            | exact out_b (decide_eq_true hxy.1)
            | (exfalso; simp_all; done)
         ·have hb32R := hb32; try simp only [zz] at hb32
          iterate 3 refine g_skip rfl rfl rfl ?_
          refine g_pF rfl rfl rfl ?_
          refine g_aS rfl rfl ?_
          refine g_end (ds := [72, 73, 74]) rfl rfl (hK31 _ ?_); clear hK31 K31
          refine pwp_ret ?_
          refine ret_seq ?_
          refine end1 (v := .sc _) rfl ?_
          first
            | exact out_b rfl
            | exact out_b (by rw [decide_eq_true_eq]; simp only [List.length_map] at *; omega)
            | (exfalso; simp only [List.length_map] at *; omega)
            | exact out_b (decide_eq_true hxy.1)
            | (exfalso; simp_all; done)
        ·have hb30R := hb30; try simp only [zz] at hb30
         refine pwp_skip ?_
         refine seq_norm (hK29 _ ?_); clear hK29 K29
         have hxy := chX_yes haz hl24 (by first | assumption | simp_all)
         refine pwp_seq_gops rfl fun K33 hK33 => ?_
         refine g_begin ?_
         refine g_mS rfl rfl ?_
         refine g_e rfl (e_eq rfl rfl) ?_
         refine g_mS rfl rfl ?_
         refine g_cases (fun hb34 => ?_) (fun hb34 => ?_)
         ·have hb34R := hb34; try simp only [zz] at hb34
          refine g_e rfl (e_move (v := .lit _ _ _) rfl) ?_
          refine g_e rfl (e_move (v := .lit _ _ _) rfl) ?_
          refine g_call rfl rfl rfl rfl (.cons inn_lit (.cons inn_lit .nil)) (SameTiesC _ _ _ _ (by omega) (by omega)) ?_
          refine g_pT rfl rfl rfl ?_
          refine g_aS rfl rfl ?_
          refine g_end (ds := [79, 80, 81]) rfl rfl (hK33 _ ?_); clear hK33 K33
          refine pwp_ret ?_
          refine end1 (v := .sc _) rfl ?_
          first
            | exact out_b rfl
            | exact out_b (by rw [decide_eq_true_eq]; simp only [List.length_map] at *; omega)
            | (exfalso; simp only [List.length_map] at *; omega)
            | exact out_b (decide_eq_true hxy.1)
            | (exfalso; simp_all; done)
         ·have hb34R := hb34; try simp only [zz] at hb34
          iterate 2 refine g_skip rfl rfl rfl ?_
          refine g_nocall rfl rfl rfl ?_
          refine g_pF rfl rfl rfl ?_
          refine g_aS rfl rfl ?_
          refine g_end (ds := [79, 80, 81]) rfl rfl (hK33 _ ?_); clear hK33 K33
          refine pwp_ret ?_
          refine end1 (v := .sc _) rfl ?_
          first
            | exact out_b rfl
            | exact out_b (by rw [decide_eq_true_eq]; simp only [List.length_map] at *; omega)
            | (exfalso; simp only [List.length_map] at *; omega)
            | exact out_b (decide_eq_true hxy.1)
            | (exfalso; simp_all; done)
      ·have hb20R := hb20; try simp only [zz] at hb20
       refine pwp_skip ?_
       refine seq_norm (hK19 _ ?_); clear hK19 K19
       refine pwp_seq_seq ?_
       refine pwp_seq_plain rfl fun K35 hK35 => ?_
       refine p_mS rfl ?_
       refine p_e rfl (e_ne rfl rfl) ?_
       refine p_end (hK35 _ ?_); clear hK35 K35
       refine pwp_seq_cond rfl fun K36 hK36 => ⟨fun hb37 => ?_, fun hb37 => ?_⟩
       ·have hb37R := hb37; try simp only [zz] at hb37
        refine pwp_seq_gops rfl fun K38 hK38 => ?_
        refine g_begin ?_
        refine g_mS rfl rfl ?_
        refine g_mS rfl rfl ?_
        refine g_e rfl (e_eq rfl rfl) ?_
        refine g_mS rfl rfl ?_
        refine g_cases (fun hb39 => ?_) (fun hb39 => ?_)
        ·have hb39R := hb39; try simp only [zz] at hb39
         refine g_e rfl (e_move (v := .lit _ _ _) rfl) ?_
         refine g_e rfl (e_len rfl (by kernel_rfl)) ?_
         refine g_e rfl (e_eq rfl rfl) ?_
         refine g_pT rfl rfl rfl ?_
         refine g_aS rfl rfl ?_
         refine g_end (ds := [56, 57, 58]) rfl rfl (hK38 _ ?_); clear hK38 K38
         refine pwp_ret ?_
         refine ret_seq ?_
         refine end1 (v := .sc _) rfl ?_
         first
           | exact out_b rfl
           | exact out_b (by rw [decide_eq_true_eq]; simp only [List.length_map] at *; omega)
           | (exfalso; simp only [List.length_map] at *; omega)
           | exact out_b (decide_eq_true hxy.1)
           | (exfalso; simp_all; done)
        ·have hb39R := hb39; try simp only [zz] at hb39
         iterate 3 refine g_skip rfl rfl rfl ?_
         refine g_pF rfl rfl rfl ?_
         refine g_aS rfl rfl ?_
         refine g_end (ds := [56, 57, 58]) rfl rfl (hK38 _ ?_); clear hK38 K38
         refine pwp_ret ?_
         refine ret_seq ?_
         refine end1 (v := .sc _) rfl ?_
         first
           | exact out_b rfl
           | exact out_b (by rw [decide_eq_true_eq]; simp only [List.length_map] at *; omega)
           | (exfalso; simp only [List.length_map] at *; omega)
           | exact out_b (decide_eq_true hxy.1)
           | (exfalso; simp_all; done)
       ·have hb37R := hb37; try simp only [zz] at hb37
        refine pwp_skip ?_
        refine seq_norm (hK36 _ ?_); clear hK36 K36
        have haz : allE g r l = 0 := by omega
        have hl24 : (l.length : Int) ≤ 24 := by simp only [List.length_map] at *; omega
        refine pwp_seq_plain rfl fun K40 hK40 => ?_
        refine p_e rfl (e_loadHA (cs := Grid.enc (g)) (n := 3) rfl ((hset_ne (key_ne rfl)).trans (hset_self _ _ _)) (by kernel_rfl) (by kernel_rfl) (by kernel_rfl) (by exact Nat.zero_lt_one) (by decide) rfl) ?_
        refine p_e rfl (e_loadHA (cs := Rule.enc (r)) (n := 5) rfl (hset_self _ _ _) (by kernel_rfl) (by kernel_rfl) (by kernel_rfl) (by exact Nat.zero_lt_one) (by decide) rfl) ?_
        refine p_e rfl (e_move (v := .lit _ _ _) rfl) ?_
        refine p_call rfl (.cons (inn_agg (Grid.pure _)) (.cons (inn_agg (Rule.pure _)) (.cons inn_lit .nil))) (refChooseC g r l (by omega) haz) ?_
        refine p_e rfl (e_move (v := .tup _) rfl) ?_
        refine p_e rfl (e_ext (v := .lit _ _ _) rfl (by simp) rfl) ?_
        refine p_e rfl (e_ext (v := .sc _) rfl (by simp) rfl) ?_
        refine p_e rfl (e_assign (v := .lit _ _ _) rfl) ?_
        refine p_aS rfl ?_
        refine p_end (hK40 _ ?_); clear hK40 K40
        refine pwp_seq_seq ?_
        refine pwp_seq_plain rfl fun K41 hK41 => ?_
        refine p_mS rfl ?_
        refine p_e rfl (e_not rfl) ?_
        refine p_end (hK41 _ ?_); clear hK41 K41
        refine pwp_seq_cond rfl fun K42 hK42 => ⟨fun hb43 => ?_, fun hb43 => ?_⟩
        ·have hb43R := hb43; try simp only [zz] at hb43
         have hxn := chX_no haz hl24 (by first | assumption | simp_all)
         refine pwp_seq_gops rfl fun K44 hK44 => ?_
         refine g_begin ?_
         refine g_mS rfl rfl ?_
         refine g_e rfl (e_eq rfl rfl) ?_
         refine g_mS rfl rfl ?_
         refine g_cases (fun hb45 => ?_) (fun hb45 => ?_)
         ·have hb45R := hb45; try simp only [zz] at hb45
          refine g_e rfl (e_move (v := .lit _ _ _) rfl) ?_
          refine g_e rfl (e_len rfl (by kernel_rfl)) ?_
          refine g_e rfl (e_eq rfl rfl) ?_
          refine g_pT rfl rfl rfl ?_
          refine g_aS rfl rfl ?_
          refine g_end (ds := [72, 73, 74]) rfl rfl (hK44 _ ?_); clear hK44 K44
          refine pwp_ret ?_
          refine ret_seq ?_
          refine end1 (v := .sc _) rfl ?_
          first
            | exact out_b rfl
            | exact out_b (by rw [decide_eq_true_eq]; simp only [List.length_map] at *; omega)
            | (exfalso; simp only [List.length_map] at *; omega)
            | exact out_b (decide_eq_true hxy.1)
            | (exfalso; simp_all; done)
         ·have hb45R := hb45; try simp only [zz] at hb45
          iterate 3 refine g_skip rfl rfl rfl ?_
          refine g_pF rfl rfl rfl ?_
          refine g_aS rfl rfl ?_
          refine g_end (ds := [72, 73, 74]) rfl rfl (hK44 _ ?_); clear hK44 K44
          refine pwp_ret ?_
          refine ret_seq ?_
          refine end1 (v := .sc _) rfl ?_
          first
            | exact out_b rfl
            | exact out_b (by rw [decide_eq_true_eq]; simp only [List.length_map] at *; omega)
            | (exfalso; simp only [List.length_map] at *; omega)
            | exact out_b (decide_eq_true hxy.1)
            | (exfalso; simp_all; done)
        ·have hb43R := hb43; try simp only [zz] at hb43
         refine pwp_skip ?_
         refine seq_norm (hK42 _ ?_); clear hK42 K42
         have hxy := chX_yes haz hl24 (by first | assumption | simp_all)
         refine pwp_seq_gops rfl fun K46 hK46 => ?_
         refine g_begin ?_
         refine g_mS rfl rfl ?_
         refine g_e rfl (e_eq rfl rfl) ?_
         refine g_mS rfl rfl ?_
         refine g_cases (fun hb47 => ?_) (fun hb47 => ?_)
         ·have hb47R := hb47; try simp only [zz] at hb47
          refine g_e rfl (e_move (v := .lit _ _ _) rfl) ?_
          refine g_e rfl (e_move (v := .lit _ _ _) rfl) ?_
          refine g_call rfl rfl rfl rfl (.cons inn_lit (.cons inn_lit .nil)) (SameTiesC _ _ _ _ (by omega) (by omega)) ?_
          refine g_pT rfl rfl rfl ?_
          refine g_aS rfl rfl ?_
          refine g_end (ds := [79, 80, 81]) rfl rfl (hK46 _ ?_); clear hK46 K46
          refine pwp_ret ?_
          refine end1 (v := .sc _) rfl ?_
          first
            | exact out_b rfl
            | exact out_b (by rw [decide_eq_true_eq]; simp only [List.length_map] at *; omega)
            | (exfalso; simp only [List.length_map] at *; omega)
            | exact out_b (decide_eq_true hxy.1)
            | (exfalso; simp_all; done)
         ·have hb47R := hb47; try simp only [zz] at hb47
          iterate 2 refine g_skip rfl rfl rfl ?_
          refine g_nocall rfl rfl rfl ?_
          refine g_pF rfl rfl rfl ?_
          refine g_aS rfl rfl ?_
          refine g_end (ds := [79, 80, 81]) rfl rfl (hK46 _ ?_); clear hK46 K46
          refine pwp_ret ?_
          refine end1 (v := .sc _) rfl ?_
          first
            | exact out_b rfl
            | exact out_b (by rw [decide_eq_true_eq]; simp only [List.length_map] at *; omega)
            | (exfalso; simp only [List.length_map] at *; omega)
            | exact out_b (decide_eq_true hxy.1)
            | (exfalso; simp_all; done)
     ·have hb18R := hb18; try simp only [zz] at hb18
      iterate 3 refine g_skip rfl rfl rfl ?_
      refine g_pF rfl rfl rfl ?_
      refine g_end (ds := [46, 47, 48]) rfl rfl (hK17 _ ?_); clear hK17 K17
      refine pwp_seq_cond (t := false) rfl fun K48 hK48 => ⟨nofun, fun _ => ?_⟩
      refine pwp_skip ?_
      refine seq_norm (hK48 _ ?_); clear hK48 K48
      refine pwp_seq_seq ?_
      refine pwp_seq_plain rfl fun K49 hK49 => ?_
      refine p_mS rfl ?_
      refine p_e rfl (e_ne rfl rfl) ?_
      refine p_end (hK49 _ ?_); clear hK49 K49
      refine pwp_seq_cond rfl fun K50 hK50 => ⟨fun hb51 => ?_, fun hb51 => ?_⟩
      ·have hb51R := hb51; try simp only [zz] at hb51
       refine pwp_seq_gops rfl fun K52 hK52 => ?_
       refine g_begin ?_
       refine g_mS rfl rfl ?_
       refine g_mS rfl rfl ?_
       refine g_e rfl (e_eq rfl rfl) ?_
       refine g_mS rfl rfl ?_
       refine g_cases (fun hb53 => ?_) (fun hb53 => ?_)
       ·have hb53R := hb53; try simp only [zz] at hb53
        refine g_e rfl (e_move (v := .lit _ _ _) rfl) ?_
        refine g_e rfl (e_len rfl (by kernel_rfl)) ?_
        refine g_e rfl (e_eq rfl rfl) ?_
        refine g_pT rfl rfl rfl ?_
        refine g_aS rfl rfl ?_
        refine g_end (ds := [56, 57, 58]) rfl rfl (hK52 _ ?_); clear hK52 K52
        refine pwp_ret ?_
        refine ret_seq ?_
        refine end1 (v := .sc _) rfl ?_
        first
          | exact out_b rfl
          | exact out_b (by rw [decide_eq_true_eq]; simp only [List.length_map] at *; omega)
          | (exfalso; simp only [List.length_map] at *; omega)
          | exact out_b (decide_eq_true hxy.1)
          | (exfalso; simp_all; done)
       ·have hb53R := hb53; try simp only [zz] at hb53
        iterate 3 refine g_skip rfl rfl rfl ?_
        refine g_pF rfl rfl rfl ?_
        refine g_aS rfl rfl ?_
        refine g_end (ds := [56, 57, 58]) rfl rfl (hK52 _ ?_); clear hK52 K52
        refine pwp_ret ?_
        refine ret_seq ?_
        refine end1 (v := .sc _) rfl ?_
        first
          | exact out_b rfl
          | exact out_b (by rw [decide_eq_true_eq]; simp only [List.length_map] at *; omega)
          | (exfalso; simp only [List.length_map] at *; omega)
          | exact out_b (decide_eq_true hxy.1)
          | (exfalso; simp_all; done)
      ·have hb51R := hb51; try simp only [zz] at hb51
       refine pwp_skip ?_
       refine seq_norm (hK50 _ ?_); clear hK50 K50
       have haz : allE g r l = 0 := by omega
       have hl24 : (l.length : Int) ≤ 24 := by simp only [List.length_map] at *; omega
       refine pwp_seq_plain rfl fun K54 hK54 => ?_
       refine p_e rfl (e_loadHA (cs := Grid.enc (g)) (n := 3) rfl ((hset_ne (key_ne rfl)).trans (hset_self _ _ _)) (by kernel_rfl) (by kernel_rfl) (by kernel_rfl) (by exact Nat.zero_lt_one) (by decide) rfl) ?_
       refine p_e rfl (e_loadHA (cs := Rule.enc (r)) (n := 5) rfl (hset_self _ _ _) (by kernel_rfl) (by kernel_rfl) (by kernel_rfl) (by exact Nat.zero_lt_one) (by decide) rfl) ?_
       refine p_e rfl (e_move (v := .lit _ _ _) rfl) ?_
       refine p_call rfl (.cons (inn_agg (Grid.pure _)) (.cons (inn_agg (Rule.pure _)) (.cons inn_lit .nil))) (refChooseC g r l (by omega) haz) ?_
       refine p_e rfl (e_move (v := .tup _) rfl) ?_
       refine p_e rfl (e_ext (v := .lit _ _ _) rfl (by simp) rfl) ?_
       refine p_e rfl (e_ext (v := .sc _) rfl (by simp) rfl) ?_
       refine p_e rfl (e_assign (v := .lit _ _ _) rfl) ?_
       refine p_aS rfl ?_
       refine p_end (hK54 _ ?_); clear hK54 K54
       refine pwp_seq_seq ?_
       refine pwp_seq_plain rfl fun K55 hK55 => ?_
       refine p_mS rfl ?_
       refine p_e rfl (e_not rfl) ?_
       refine p_end (hK55 _ ?_); clear hK55 K55
       refine pwp_seq_cond rfl fun K56 hK56 => ⟨fun hb57 => ?_, fun hb57 => ?_⟩
       ·have hb57R := hb57; try simp only [zz] at hb57
        have hxn := chX_no haz hl24 (by first | assumption | simp_all)
        refine pwp_seq_gops rfl fun K58 hK58 => ?_
        refine g_begin ?_
        refine g_mS rfl rfl ?_
        refine g_e rfl (e_eq rfl rfl) ?_
        refine g_mS rfl rfl ?_
        refine g_cases (fun hb59 => ?_) (fun hb59 => ?_)
        ·have hb59R := hb59; try simp only [zz] at hb59
         refine g_e rfl (e_move (v := .lit _ _ _) rfl) ?_
         refine g_e rfl (e_len rfl (by kernel_rfl)) ?_
         refine g_e rfl (e_eq rfl rfl) ?_
         refine g_pT rfl rfl rfl ?_
         refine g_aS rfl rfl ?_
         refine g_end (ds := [72, 73, 74]) rfl rfl (hK58 _ ?_); clear hK58 K58
         refine pwp_ret ?_
         refine ret_seq ?_
         refine end1 (v := .sc _) rfl ?_
         first
           | exact out_b rfl
           | exact out_b (by rw [decide_eq_true_eq]; simp only [List.length_map] at *; omega)
           | (exfalso; simp only [List.length_map] at *; omega)
           | exact out_b (decide_eq_true hxy.1)
           | (exfalso; simp_all; done)
        ·have hb59R := hb59; try simp only [zz] at hb59
         iterate 3 refine g_skip rfl rfl rfl ?_
         refine g_pF rfl rfl rfl ?_
         refine g_aS rfl rfl ?_
         refine g_end (ds := [72, 73, 74]) rfl rfl (hK58 _ ?_); clear hK58 K58
         refine pwp_ret ?_
         refine ret_seq ?_
         refine end1 (v := .sc _) rfl ?_
         first
           | exact out_b rfl
           | exact out_b (by rw [decide_eq_true_eq]; simp only [List.length_map] at *; omega)
           | (exfalso; simp only [List.length_map] at *; omega)
           | exact out_b (decide_eq_true hxy.1)
           | (exfalso; simp_all; done)
       ·have hb57R := hb57; try simp only [zz] at hb57
        refine pwp_skip ?_
        refine seq_norm (hK56 _ ?_); clear hK56 K56
        have hxy := chX_yes haz hl24 (by first | assumption | simp_all)
        refine pwp_seq_gops rfl fun K60 hK60 => ?_
        refine g_begin ?_
        refine g_mS rfl rfl ?_
        refine g_e rfl (e_eq rfl rfl) ?_
        refine g_mS rfl rfl ?_
        refine g_cases (fun hb61 => ?_) (fun hb61 => ?_)
        ·have hb61R := hb61; try simp only [zz] at hb61
         refine g_e rfl (e_move (v := .lit _ _ _) rfl) ?_
         refine g_e rfl (e_move (v := .lit _ _ _) rfl) ?_
         refine g_call rfl rfl rfl rfl (.cons inn_lit (.cons inn_lit .nil)) (SameTiesC _ _ _ _ (by omega) (by omega)) ?_
         refine g_pT rfl rfl rfl ?_
         refine g_aS rfl rfl ?_
         refine g_end (ds := [79, 80, 81]) rfl rfl (hK60 _ ?_); clear hK60 K60
         refine pwp_ret ?_
         refine end1 (v := .sc _) rfl ?_
         first
           | exact out_b rfl
           | exact out_b (by rw [decide_eq_true_eq]; simp only [List.length_map] at *; omega)
           | (exfalso; simp only [List.length_map] at *; omega)
           | exact out_b (decide_eq_true hxy.1)
           | (exfalso; simp_all; done)
        ·have hb61R := hb61; try simp only [zz] at hb61
         iterate 2 refine g_skip rfl rfl rfl ?_
         refine g_nocall rfl rfl rfl ?_
         refine g_pF rfl rfl rfl ?_
         refine g_aS rfl rfl ?_
         refine g_end (ds := [79, 80, 81]) rfl rfl (hK60 _ ?_); clear hK60 K60
         refine pwp_ret ?_
         refine end1 (v := .sc _) rfl ?_
         first
           | exact out_b rfl
           | exact out_b (by rw [decide_eq_true_eq]; simp only [List.length_map] at *; omega)
           | (exfalso; simp only [List.length_map] at *; omega)
           | exact out_b (decide_eq_true hxy.1)
           | (exfalso; simp_all; done)
   ·have hb11R := hb11; try simp only [zz] at hb11
    iterate 3 refine g_skip rfl rfl rfl ?_
    refine g_pF rfl rfl rfl ?_
    refine g_pF rfl rfl rfl ?_
    refine g_end (ds := [18, 19, 20, 23, 24, 25, 26, 27, 28, 29, 30]) rfl rfl (hK4 _ ?_); clear hK4 K4
    refine pwp_seq_cond (t := false) rfl fun K62 hK62 => ⟨nofun, fun _ => ?_⟩
    refine pwp_skip ?_
    refine seq_norm (hK62 _ ?_); clear hK62 K62
    have hfw := few_t (g := g) (by first | assumption | simp_all)
    have hf6 : gridE g = 0 → g.along.length ≤ 6 ∧ g.levels.length ≤ 6 := fun h => hfw.2.2.resolve_right (fun q => q h)
    have hl9 : l.length ≤ 9 ∨ 24 < l.length := by simp only [List.length_map] at *; omega
    have hl2 : l.length ≤ 2000 := by simp only [List.length_map] at *; omega
    have hxl := chX_len (g := g) (r := r) hl9
    have hrl := chR_len (g := g) (r := r) (l := l)
    refine pwp_seq_plain rfl fun K63 hK63 => ?_
    refine p_e rfl (e_loadHA (cs := Grid.enc (g)) (n := 3) rfl ((hset_ne (key_ne rfl)).trans (hset_self _ _ _)) (by kernel_rfl) (by kernel_rfl) (by kernel_rfl) (by exact Nat.zero_lt_one) (by decide) rfl) ?_
    refine p_e rfl (e_loadHA (cs := Rule.enc (r)) (n := 5) rfl (hset_self _ _ _) (by kernel_rfl) (by kernel_rfl) (by kernel_rfl) (by exact Nat.zero_lt_one) (by decide) rfl) ?_
    refine p_e rfl (e_move (v := .lit _ _ _) rfl) ?_
    refine p_call rfl (.cons (inn_agg (Grid.pure _)) (.cons (inn_agg (Rule.pure _)) (.cons inn_lit .nil))) (ChooseC g r l (by omega) (by omega) (by omega) hf6 hl9) ?_
    refine p_e rfl (e_move (v := .tup _) rfl) ?_
    refine p_e rfl (e_ext (v := .lit _ _ _) rfl (by simp) rfl) ?_
    refine p_e rfl (e_ext (v := .sc _) rfl (by simp) rfl) ?_
    refine p_e rfl (e_assign (v := .lit _ _ _) rfl) ?_
    refine p_aS rfl ?_
    refine p_end (hK63 _ ?_); clear hK63 K63
    refine pwp_seq_plain rfl fun K64 hK64 => ?_
    refine p_e rfl (e_loadHA (cs := Grid.enc (g)) (n := 3) rfl ((hset_ne (key_ne rfl)).trans (hset_self _ _ _)) (by kernel_rfl) (by kernel_rfl) (by kernel_rfl) (by exact Nat.zero_lt_one) (by decide) rfl) ?_
    refine p_e rfl (e_loadHA (cs := Rule.enc (r)) (n := 5) rfl (hset_self _ _ _) (by kernel_rfl) (by kernel_rfl) (by kernel_rfl) (by exact Nat.zero_lt_one) (by decide) rfl) ?_
    refine p_e rfl (e_move (v := .lit _ _ _) rfl) ?_
    refine p_call rfl (.cons (inn_agg (Grid.pure _)) (.cons (inn_agg (Rule.pure _)) (.cons inn_lit .nil))) (refAllC g r l (by first | omega | (have hfw := few_t (g := g) (by first | assumption | simp_all); omega)) (by first | omega | (have hfw := few_t (g := g) (by first | assumption | simp_all); omega)) (by first | omega | (have hfw := few_t (g := g) (by first | assumption | simp_all); omega))) ?_
    refine p_aS rfl ?_
    refine p_end (hK64 _ ?_); clear hK64 K64
    refine pwp_seq_seq ?_
    refine pwp_seq_gops rfl fun K65 hK65 => ?_
    refine g_begin ?_
    refine g_mS rfl rfl ?_
    refine g_e rfl (e_eq rfl rfl) ?_
    refine g_mS rfl rfl ?_
    refine g_cases (fun hb66 => ?_) (fun hb66 => ?_)
    ·have hb66R := hb66; try simp only [zz] at hb66
     refine g_e rfl (e_move (v := .lit _ _ _) rfl) ?_
     refine g_e rfl (e_len rfl (by kernel_rfl)) ?_
     refine g_e rfl (e_gt rfl rfl) ?_
     refine g_pT rfl rfl rfl ?_
     refine g_end (ds := [46, 47, 48]) rfl rfl (hK65 _ ?_); clear hK65 K65
     refine pwp_seq_cond rfl fun K67 hK67 => ⟨fun hb68 => ?_, fun hb68 => ?_⟩
     ·have hb68R := hb68; try simp only [zz] at hb68
      refine pwp_plain rfl fun K69 hK69 => ?_
      refine p_aS rfl ?_
      refine p_end (hK69 _ ?_); clear hK69 K69
      refine seq_norm (hK67 _ ?_); clear hK67 K67
      refine pwp_seq_seq ?_
      refine pwp_seq_plain rfl fun K70 hK70 => ?_
      refine p_mS rfl ?_
      refine p_e rfl (e_ne rfl rfl) ?_
      refine p_end (hK70 _ ?_); clear hK70 K70
      refine pwp_seq_cond rfl fun K71 hK71 => ⟨fun hb72 => ?_, fun hb72 => ?_⟩
      ·have hb72R := hb72; try simp only [zz] at hb72
       refine pwp_seq_gops rfl fun K73 hK73 => ?_
       refine g_begin ?_
       refine g_mS rfl rfl ?_
       refine g_mS rfl rfl ?_
       refine g_e rfl (e_eq rfl rfl) ?_
       refine g_mS rfl rfl ?_
       refine g_cases (fun hb74 => ?_) (fun hb74 => ?_)
       ·have hb74R := hb74; try simp only [zz] at hb74
        refine g_e rfl (e_move (v := .lit _ _ _) rfl) ?_
        refine g_e rfl (e_len rfl (by kernel_rfl)) ?_
        refine g_e rfl (e_eq rfl rfl) ?_
        refine g_pT rfl rfl rfl ?_
        refine g_aS rfl rfl ?_
        refine g_end (ds := [56, 57, 58]) rfl rfl (hK73 _ ?_); clear hK73 K73
        refine pwp_ret ?_
        refine ret_seq ?_
        refine end1 (v := .sc _) rfl ?_
        first
          | exact out_b rfl
          | exact out_b (by rw [decide_eq_true_eq]; simp only [List.length_map] at *; omega)
          | (exfalso; simp only [List.length_map] at *; omega)
          | exact out_b (decide_eq_true hxy.1)
          | (exfalso; simp_all; done)
       ·have hb74R := hb74; try simp only [zz] at hb74
        iterate 3 refine g_skip rfl rfl rfl ?_
        refine g_pF rfl rfl rfl ?_
        refine g_aS rfl rfl ?_
        refine g_end (ds := [56, 57, 58]) rfl rfl (hK73 _ ?_); clear hK73 K73
        refine pwp_ret ?_
        refine ret_seq ?_
        refine end1 (v := .sc _) rfl ?_
        first
          | exact out_b rfl
          | exact out_b (by rw [decide_eq_true_eq]; simp only [List.length_map] at *; omega)
          | (exfalso; simp only [List.length_map] at *; omega)
          | exact out_b (decide_eq_true hxy.1)
          | (exfalso; simp_all; done)
      ·have hb72R := hb72; try simp only [zz] at hb72
       refine pwp_skip ?_
       refine seq_norm (hK71 _ ?_); clear hK71 K71
       have haz : allE g r l = 0 := by omega
       have hl24 : (l.length : Int) ≤ 24 := by simp only [List.length_map] at *; omega
       refine pwp_seq_plain rfl fun K75 hK75 => ?_
       refine p_e rfl (e_loadHA (cs := Grid.enc (g)) (n := 3) rfl ((hset_ne (key_ne rfl)).trans (hset_self _ _ _)) (by kernel_rfl) (by kernel_rfl) (by kernel_rfl) (by exact Nat.zero_lt_one) (by decide) rfl) ?_
       refine p_e rfl (e_loadHA (cs := Rule.enc (r)) (n := 5) rfl (hset_self _ _ _) (by kernel_rfl) (by kernel_rfl) (by kernel_rfl) (by exact Nat.zero_lt_one) (by decide) rfl) ?_
       refine p_e rfl (e_move (v := .lit _ _ _) rfl) ?_
       refine p_call rfl (.cons (inn_agg (Grid.pure _)) (.cons (inn_agg (Rule.pure _)) (.cons inn_lit .nil))) (refChooseC g r l (by omega) haz) ?_
       refine p_e rfl (e_move (v := .tup _) rfl) ?_
       refine p_e rfl (e_ext (v := .lit _ _ _) rfl (by simp) rfl) ?_
       refine p_e rfl (e_ext (v := .sc _) rfl (by simp) rfl) ?_
       refine p_e rfl (e_assign (v := .lit _ _ _) rfl) ?_
       refine p_aS rfl ?_
       refine p_end (hK75 _ ?_); clear hK75 K75
       refine pwp_seq_seq ?_
       refine pwp_seq_plain rfl fun K76 hK76 => ?_
       refine p_mS rfl ?_
       refine p_e rfl (e_not rfl) ?_
       refine p_end (hK76 _ ?_); clear hK76 K76
       refine pwp_seq_cond rfl fun K77 hK77 => ⟨fun hb78 => ?_, fun hb78 => ?_⟩
       ·have hb78R := hb78; try simp only [zz] at hb78
        have hxn := chX_no haz hl24 (by first | assumption | simp_all)
        refine pwp_seq_gops rfl fun K79 hK79 => ?_
        refine g_begin ?_
        refine g_mS rfl rfl ?_
        refine g_e rfl (e_eq rfl rfl) ?_
        refine g_mS rfl rfl ?_
        refine g_cases (fun hb80 => ?_) (fun hb80 => ?_)
        ·have hb80R := hb80; try simp only [zz] at hb80
         refine g_e rfl (e_move (v := .lit _ _ _) rfl) ?_
         refine g_e rfl (e_len rfl (by kernel_rfl)) ?_
         refine g_e rfl (e_eq rfl rfl) ?_
         refine g_pT rfl rfl rfl ?_
         refine g_aS rfl rfl ?_
         refine g_end (ds := [72, 73, 74]) rfl rfl (hK79 _ ?_); clear hK79 K79
         refine pwp_ret ?_
         refine ret_seq ?_
         refine end1 (v := .sc _) rfl ?_
         first
           | exact out_b rfl
           | exact out_b (by rw [decide_eq_true_eq]; simp only [List.length_map] at *; omega)
           | (exfalso; simp only [List.length_map] at *; omega)
           | exact out_b (decide_eq_true hxy.1)
           | (exfalso; simp_all; done)
        ·have hb80R := hb80; try simp only [zz] at hb80
         iterate 3 refine g_skip rfl rfl rfl ?_
         refine g_pF rfl rfl rfl ?_
         refine g_aS rfl rfl ?_
         refine g_end (ds := [72, 73, 74]) rfl rfl (hK79 _ ?_); clear hK79 K79
         refine pwp_ret ?_
         refine ret_seq ?_
         refine end1 (v := .sc _) rfl ?_
         first
           | exact out_b rfl
           | exact out_b (by rw [decide_eq_true_eq]; simp only [List.length_map] at *; omega)
           | (exfalso; simp only [List.length_map] at *; omega)
           | exact out_b (decide_eq_true hxy.1)
           | (exfalso; simp_all; done)
       ·have hb78R := hb78; try simp only [zz] at hb78
        refine pwp_skip ?_
        refine seq_norm (hK77 _ ?_); clear hK77 K77
        have hxy := chX_yes haz hl24 (by first | assumption | simp_all)
        refine pwp_seq_gops rfl fun K81 hK81 => ?_
        refine g_begin ?_
        refine g_mS rfl rfl ?_
        refine g_e rfl (e_eq rfl rfl) ?_
        refine g_mS rfl rfl ?_
        refine g_cases (fun hb82 => ?_) (fun hb82 => ?_)
        ·have hb82R := hb82; try simp only [zz] at hb82
         refine g_e rfl (e_move (v := .lit _ _ _) rfl) ?_
         refine g_e rfl (e_move (v := .lit _ _ _) rfl) ?_
         refine g_call rfl rfl rfl rfl (.cons inn_lit (.cons inn_lit .nil)) (SameTiesC _ _ _ _ (by omega) (by omega)) ?_
         refine g_pT rfl rfl rfl ?_
         refine g_aS rfl rfl ?_
         refine g_end (ds := [79, 80, 81]) rfl rfl (hK81 _ ?_); clear hK81 K81
         refine pwp_ret ?_
         refine end1 (v := .sc _) rfl ?_
         first
           | exact out_b rfl
           | exact out_b (by rw [decide_eq_true_eq]; simp only [List.length_map] at *; omega)
           | (exfalso; simp only [List.length_map] at *; omega)
           | exact out_b (decide_eq_true hxy.1)
           | (exfalso; simp_all; done)
        ·have hb82R := hb82; try simp only [zz] at hb82
         iterate 2 refine g_skip rfl rfl rfl ?_
         refine g_nocall rfl rfl rfl ?_
         refine g_pF rfl rfl rfl ?_
         refine g_aS rfl rfl ?_
         refine g_end (ds := [79, 80, 81]) rfl rfl (hK81 _ ?_); clear hK81 K81
         refine pwp_ret ?_
         refine end1 (v := .sc _) rfl ?_
         first
           | exact out_b rfl
           | exact out_b (by rw [decide_eq_true_eq]; simp only [List.length_map] at *; omega)
           | (exfalso; simp only [List.length_map] at *; omega)
           | exact out_b (decide_eq_true hxy.1)
           | (exfalso; simp_all; done)
     ·have hb68R := hb68; try simp only [zz] at hb68
      refine pwp_skip ?_
      refine seq_norm (hK67 _ ?_); clear hK67 K67
      refine pwp_seq_seq ?_
      refine pwp_seq_plain rfl fun K83 hK83 => ?_
      refine p_mS rfl ?_
      refine p_e rfl (e_ne rfl rfl) ?_
      refine p_end (hK83 _ ?_); clear hK83 K83
      refine pwp_seq_cond rfl fun K84 hK84 => ⟨fun hb85 => ?_, fun hb85 => ?_⟩
      ·have hb85R := hb85; try simp only [zz] at hb85
       refine pwp_seq_gops rfl fun K86 hK86 => ?_
       refine g_begin ?_
       refine g_mS rfl rfl ?_
       refine g_mS rfl rfl ?_
       refine g_e rfl (e_eq rfl rfl) ?_
       refine g_mS rfl rfl ?_
       refine g_cases (fun hb87 => ?_) (fun hb87 => ?_)
       ·have hb87R := hb87; try simp only [zz] at hb87
        refine g_e rfl (e_move (v := .lit _ _ _) rfl) ?_
        refine g_e rfl (e_len rfl (by kernel_rfl)) ?_
        refine g_e rfl (e_eq rfl rfl) ?_
        refine g_pT rfl rfl rfl ?_
        refine g_aS rfl rfl ?_
        refine g_end (ds := [56, 57, 58]) rfl rfl (hK86 _ ?_); clear hK86 K86
        refine pwp_ret ?_
        refine ret_seq ?_
        refine end1 (v := .sc _) rfl ?_
        first
          | exact out_b rfl
          | exact out_b (by rw [decide_eq_true_eq]; simp only [List.length_map] at *; omega)
          | (exfalso; simp only [List.length_map] at *; omega)
          | exact out_b (decide_eq_true hxy.1)
          | (exfalso; simp_all; done)
       ·have hb87R := hb87; try simp only [zz] at hb87
        iterate 3 refine g_skip rfl rfl rfl ?_
        refine g_pF rfl rfl rfl ?_
        refine g_aS rfl rfl ?_
        refine g_end (ds := [56, 57, 58]) rfl rfl (hK86 _ ?_); clear hK86 K86
        refine pwp_ret ?_
        refine ret_seq ?_
        refine end1 (v := .sc _) rfl ?_
        first
          | exact out_b rfl
          | exact out_b (by rw [decide_eq_true_eq]; simp only [List.length_map] at *; omega)
          | (exfalso; simp only [List.length_map] at *; omega)
          | exact out_b (decide_eq_true hxy.1)
          | (exfalso; simp_all; done)
      ·have hb85R := hb85; try simp only [zz] at hb85
       refine pwp_skip ?_
       refine seq_norm (hK84 _ ?_); clear hK84 K84
       have haz : allE g r l = 0 := by omega
       have hl24 : (l.length : Int) ≤ 24 := by simp only [List.length_map] at *; omega
       refine pwp_seq_plain rfl fun K88 hK88 => ?_
       refine p_e rfl (e_loadHA (cs := Grid.enc (g)) (n := 3) rfl ((hset_ne (key_ne rfl)).trans (hset_self _ _ _)) (by kernel_rfl) (by kernel_rfl) (by kernel_rfl) (by exact Nat.zero_lt_one) (by decide) rfl) ?_
       refine p_e rfl (e_loadHA (cs := Rule.enc (r)) (n := 5) rfl (hset_self _ _ _) (by kernel_rfl) (by kernel_rfl) (by kernel_rfl) (by exact Nat.zero_lt_one) (by decide) rfl) ?_
       refine p_e rfl (e_move (v := .lit _ _ _) rfl) ?_
       refine p_call rfl (.cons (inn_agg (Grid.pure _)) (.cons (inn_agg (Rule.pure _)) (.cons inn_lit .nil))) (refChooseC g r l (by omega) haz) ?_
       refine p_e rfl (e_move (v := .tup _) rfl) ?_
       refine p_e rfl (e_ext (v := .lit _ _ _) rfl (by simp) rfl) ?_
       refine p_e rfl (e_ext (v := .sc _) rfl (by simp) rfl) ?_
       refine p_e rfl (e_assign (v := .lit _ _ _) rfl) ?_
       refine p_aS rfl ?_
       refine p_end (hK88 _ ?_); clear hK88 K88
       refine pwp_seq_seq ?_
       refine pwp_seq_plain rfl fun K89 hK89 => ?_
       refine p_mS rfl ?_
       refine p_e rfl (e_not rfl) ?_
       refine p_end (hK89 _ ?_); clear hK89 K89
       refine pwp_seq_cond rfl fun K90 hK90 => ⟨fun hb91 => ?_, fun hb91 => ?_⟩
       ·have hb91R := hb91; try simp only [zz] at hb91
        have hxn := chX_no haz hl24 (by first | assumption | simp_all)
        refine pwp_seq_gops rfl fun K92 hK92 => ?_
        refine g_begin ?_
        refine g_mS rfl rfl ?_
        refine g_e rfl (e_eq rfl rfl) ?_
        refine g_mS rfl rfl ?_
        refine g_cases (fun hb93 => ?_) (fun hb93 => ?_)
        ·have hb93R := hb93; try simp only [zz] at hb93
         refine g_e rfl (e_move (v := .lit _ _ _) rfl) ?_
         refine g_e rfl (e_len rfl (by kernel_rfl)) ?_
         refine g_e rfl (e_eq rfl rfl) ?_
         refine g_pT rfl rfl rfl ?_
         refine g_aS rfl rfl ?_
         refine g_end (ds := [72, 73, 74]) rfl rfl (hK92 _ ?_); clear hK92 K92
         refine pwp_ret ?_
         refine ret_seq ?_
         refine end1 (v := .sc _) rfl ?_
         first
           | exact out_b rfl
           | exact out_b (by rw [decide_eq_true_eq]; simp only [List.length_map] at *; omega)
           | (exfalso; simp only [List.length_map] at *; omega)
           | exact out_b (decide_eq_true hxy.1)
           | (exfalso; simp_all; done)
        ·have hb93R := hb93; try simp only [zz] at hb93
         iterate 3 refine g_skip rfl rfl rfl ?_
         refine g_pF rfl rfl rfl ?_
         refine g_aS rfl rfl ?_
         refine g_end (ds := [72, 73, 74]) rfl rfl (hK92 _ ?_); clear hK92 K92
         refine pwp_ret ?_
         refine ret_seq ?_
         refine end1 (v := .sc _) rfl ?_
         first
           | exact out_b rfl
           | exact out_b (by rw [decide_eq_true_eq]; simp only [List.length_map] at *; omega)
           | (exfalso; simp only [List.length_map] at *; omega)
           | exact out_b (decide_eq_true hxy.1)
           | (exfalso; simp_all; done)
       ·have hb91R := hb91; try simp only [zz] at hb91
        refine pwp_skip ?_
        refine seq_norm (hK90 _ ?_); clear hK90 K90
        have hxy := chX_yes haz hl24 (by first | assumption | simp_all)
        refine pwp_seq_gops rfl fun K94 hK94 => ?_
        refine g_begin ?_
        refine g_mS rfl rfl ?_
        refine g_e rfl (e_eq rfl rfl) ?_
        refine g_mS rfl rfl ?_
        refine g_cases (fun hb95 => ?_) (fun hb95 => ?_)
        ·have hb95R := hb95; try simp only [zz] at hb95
         refine g_e rfl (e_move (v := .lit _ _ _) rfl) ?_
         refine g_e rfl (e_move (v := .lit _ _ _) rfl) ?_
         refine g_call rfl rfl rfl rfl (.cons inn_lit (.cons inn_lit .nil)) (SameTiesC _ _ _ _ (by omega) (by omega)) ?_
         refine g_pT rfl rfl rfl ?_
         refine g_aS rfl rfl ?_
         refine g_end (ds := [79, 80, 81]) rfl rfl (hK94 _ ?_); clear hK94 K94
         refine pwp_ret ?_
         refine end1 (v := .sc _) rfl ?_
         first
           | exact out_b rfl
           | exact out_b (by rw [decide_eq_true_eq]; simp only [List.length_map] at *; omega)
           | (exfalso; simp only [List.length_map] at *; omega)
           | exact out_b (decide_eq_true hxy.1)
           | (exfalso; simp_all; done)
        ·have hb95R := hb95; try simp only [zz] at hb95
         iterate 2 refine g_skip rfl rfl rfl ?_
         refine g_nocall rfl rfl rfl ?_
         refine g_pF rfl rfl rfl ?_
         refine g_aS rfl rfl ?_
         refine g_end (ds := [79, 80, 81]) rfl rfl (hK94 _ ?_); clear hK94 K94
         refine pwp_ret ?_
         refine end1 (v := .sc _) rfl ?_
         first
           | exact out_b rfl
           | exact out_b (by rw [decide_eq_true_eq]; simp only [List.length_map] at *; omega)
           | (exfalso; simp only [List.length_map] at *; omega)
           | exact out_b (decide_eq_true hxy.1)
           | (exfalso; simp_all; done)
    ·have hb66R := hb66; try simp only [zz] at hb66
     iterate 3 refine g_skip rfl rfl rfl ?_
     refine g_pF rfl rfl rfl ?_
     refine g_end (ds := [46, 47, 48]) rfl rfl (hK65 _ ?_); clear hK65 K65
     refine pwp_seq_cond (t := false) rfl fun K96 hK96 => ⟨nofun, fun _ => ?_⟩
     refine pwp_skip ?_
     refine seq_norm (hK96 _ ?_); clear hK96 K96
     refine pwp_seq_seq ?_
     refine pwp_seq_plain rfl fun K97 hK97 => ?_
     refine p_mS rfl ?_
     refine p_e rfl (e_ne rfl rfl) ?_
     refine p_end (hK97 _ ?_); clear hK97 K97
     refine pwp_seq_cond rfl fun K98 hK98 => ⟨fun hb99 => ?_, fun hb99 => ?_⟩
     ·have hb99R := hb99; try simp only [zz] at hb99
      refine pwp_seq_gops rfl fun K100 hK100 => ?_
      refine g_begin ?_
      refine g_mS rfl rfl ?_
      refine g_mS rfl rfl ?_
      refine g_e rfl (e_eq rfl rfl) ?_
      refine g_mS rfl rfl ?_
      refine g_cases (fun hb101 => ?_) (fun hb101 => ?_)
      ·have hb101R := hb101; try simp only [zz] at hb101
       refine g_e rfl (e_move (v := .lit _ _ _) rfl) ?_
       refine g_e rfl (e_len rfl (by kernel_rfl)) ?_
       refine g_e rfl (e_eq rfl rfl) ?_
       refine g_pT rfl rfl rfl ?_
       refine g_aS rfl rfl ?_
       refine g_end (ds := [56, 57, 58]) rfl rfl (hK100 _ ?_); clear hK100 K100
       refine pwp_ret ?_
       refine ret_seq ?_
       refine end1 (v := .sc _) rfl ?_
       first
         | exact out_b rfl
         | exact out_b (by rw [decide_eq_true_eq]; simp only [List.length_map] at *; omega)
         | (exfalso; simp only [List.length_map] at *; omega)
         | exact out_b (decide_eq_true hxy.1)
         | (exfalso; simp_all; done)
      ·have hb101R := hb101; try simp only [zz] at hb101
       iterate 3 refine g_skip rfl rfl rfl ?_
       refine g_pF rfl rfl rfl ?_
       refine g_aS rfl rfl ?_
       refine g_end (ds := [56, 57, 58]) rfl rfl (hK100 _ ?_); clear hK100 K100
       refine pwp_ret ?_
       refine ret_seq ?_
       refine end1 (v := .sc _) rfl ?_
       first
         | exact out_b rfl
         | exact out_b (by rw [decide_eq_true_eq]; simp only [List.length_map] at *; omega)
         | (exfalso; simp only [List.length_map] at *; omega)
         | exact out_b (decide_eq_true hxy.1)
         | (exfalso; simp_all; done)
     ·have hb99R := hb99; try simp only [zz] at hb99
      refine pwp_skip ?_
      refine seq_norm (hK98 _ ?_); clear hK98 K98
      have haz : allE g r l = 0 := by omega
      have hl24 : (l.length : Int) ≤ 24 := by simp only [List.length_map] at *; omega
      refine pwp_seq_plain rfl fun K102 hK102 => ?_
      refine p_e rfl (e_loadHA (cs := Grid.enc (g)) (n := 3) rfl ((hset_ne (key_ne rfl)).trans (hset_self _ _ _)) (by kernel_rfl) (by kernel_rfl) (by kernel_rfl) (by exact Nat.zero_lt_one) (by decide) rfl) ?_
      refine p_e rfl (e_loadHA (cs := Rule.enc (r)) (n := 5) rfl (hset_self _ _ _) (by kernel_rfl) (by kernel_rfl) (by kernel_rfl) (by exact Nat.zero_lt_one) (by decide) rfl) ?_
      refine p_e rfl (e_move (v := .lit _ _ _) rfl) ?_
      refine p_call rfl (.cons (inn_agg (Grid.pure _)) (.cons (inn_agg (Rule.pure _)) (.cons inn_lit .nil))) (refChooseC g r l (by omega) haz) ?_
      refine p_e rfl (e_move (v := .tup _) rfl) ?_
      refine p_e rfl (e_ext (v := .lit _ _ _) rfl (by simp) rfl) ?_
      refine p_e rfl (e_ext (v := .sc _) rfl (by simp) rfl) ?_
      refine p_e rfl (e_assign (v := .lit _ _ _) rfl) ?_
      refine p_aS rfl ?_
      refine p_end (hK102 _ ?_); clear hK102 K102
      refine pwp_seq_seq ?_
      refine pwp_seq_plain rfl fun K103 hK103 => ?_
      refine p_mS rfl ?_
      refine p_e rfl (e_not rfl) ?_
      refine p_end (hK103 _ ?_); clear hK103 K103
      refine pwp_seq_cond rfl fun K104 hK104 => ⟨fun hb105 => ?_, fun hb105 => ?_⟩
      ·have hb105R := hb105; try simp only [zz] at hb105
       have hxn := chX_no haz hl24 (by first | assumption | simp_all)
       refine pwp_seq_gops rfl fun K106 hK106 => ?_
       refine g_begin ?_
       refine g_mS rfl rfl ?_
       refine g_e rfl (e_eq rfl rfl) ?_
       refine g_mS rfl rfl ?_
       refine g_cases (fun hb107 => ?_) (fun hb107 => ?_)
       ·have hb107R := hb107; try simp only [zz] at hb107
        refine g_e rfl (e_move (v := .lit _ _ _) rfl) ?_
        refine g_e rfl (e_len rfl (by kernel_rfl)) ?_
        refine g_e rfl (e_eq rfl rfl) ?_
        refine g_pT rfl rfl rfl ?_
        refine g_aS rfl rfl ?_
        refine g_end (ds := [72, 73, 74]) rfl rfl (hK106 _ ?_); clear hK106 K106
        refine pwp_ret ?_
        refine ret_seq ?_
        refine end1 (v := .sc _) rfl ?_
        first
          | exact out_b rfl
          | exact out_b (by rw [decide_eq_true_eq]; simp only [List.length_map] at *; omega)
          | (exfalso; simp only [List.length_map] at *; omega)
          | exact out_b (decide_eq_true hxy.1)
          | (exfalso; simp_all; done)
       ·have hb107R := hb107; try simp only [zz] at hb107
        iterate 3 refine g_skip rfl rfl rfl ?_
        refine g_pF rfl rfl rfl ?_
        refine g_aS rfl rfl ?_
        refine g_end (ds := [72, 73, 74]) rfl rfl (hK106 _ ?_); clear hK106 K106
        refine pwp_ret ?_
        refine ret_seq ?_
        refine end1 (v := .sc _) rfl ?_
        first
          | exact out_b rfl
          | exact out_b (by rw [decide_eq_true_eq]; simp only [List.length_map] at *; omega)
          | (exfalso; simp only [List.length_map] at *; omega)
          | exact out_b (decide_eq_true hxy.1)
          | (exfalso; simp_all; done)
      ·have hb105R := hb105; try simp only [zz] at hb105
       refine pwp_skip ?_
       refine seq_norm (hK104 _ ?_); clear hK104 K104
       have hxy := chX_yes haz hl24 (by first | assumption | simp_all)
       refine pwp_seq_gops rfl fun K108 hK108 => ?_
       refine g_begin ?_
       refine g_mS rfl rfl ?_
       refine g_e rfl (e_eq rfl rfl) ?_
       refine g_mS rfl rfl ?_
       refine g_cases (fun hb109 => ?_) (fun hb109 => ?_)
       ·have hb109R := hb109; try simp only [zz] at hb109
        refine g_e rfl (e_move (v := .lit _ _ _) rfl) ?_
        refine g_e rfl (e_move (v := .lit _ _ _) rfl) ?_
        refine g_call rfl rfl rfl rfl (.cons inn_lit (.cons inn_lit .nil)) (SameTiesC _ _ _ _ (by omega) (by omega)) ?_
        refine g_pT rfl rfl rfl ?_
        refine g_aS rfl rfl ?_
        refine g_end (ds := [79, 80, 81]) rfl rfl (hK108 _ ?_); clear hK108 K108
        refine pwp_ret ?_
        refine end1 (v := .sc _) rfl ?_
        first
          | exact out_b rfl
          | exact out_b (by rw [decide_eq_true_eq]; simp only [List.length_map] at *; omega)
          | (exfalso; simp only [List.length_map] at *; omega)
          | exact out_b (decide_eq_true hxy.1)
          | (exfalso; simp_all; done)
       ·have hb109R := hb109; try simp only [zz] at hb109
        iterate 2 refine g_skip rfl rfl rfl ?_
        refine g_nocall rfl rfl rfl ?_
        refine g_pF rfl rfl rfl ?_
        refine g_aS rfl rfl ?_
        refine g_end (ds := [79, 80, 81]) rfl rfl (hK108 _ ?_); clear hK108 K108
        refine pwp_ret ?_
        refine end1 (v := .sc _) rfl ?_
        first
          | exact out_b rfl
          | exact out_b (by rw [decide_eq_true_eq]; simp only [List.length_map] at *; omega)
          | (exfalso; simp only [List.length_map] at *; omega)
          | exact out_b (decide_eq_true hxy.1)
          | (exfalso; simp_all; done)

end Go.Proofs.YtindehoegfiiaaaGreatDoor
